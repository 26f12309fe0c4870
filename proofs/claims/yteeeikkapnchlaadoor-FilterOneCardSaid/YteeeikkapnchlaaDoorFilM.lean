/- filter: acts; Few -/
import Derived.Test.YteeeikkapnchlaaDoorFilL
namespace Go.Proofs.YteeeikkapnchlaaDoor
set_option linter.unusedSimpArgs false
set_option linter.unusedVariables false
open Go.RowKit Go.Sort
theorem RSl.pick {α β : Type} {R : World → List Value → α → Prop} {sz : Nat} {w : World} {a : Option Addr} {n c : Nat} {l : List α} (f : β → List Value) (hf : ∀ y, (f y).length = sz) (Q : β → Prop) (hR : ∀ cs x, R w cs x → ∃ y : β, cs = f y ∧ Q y) (hsz : 0 < sz) (h : RSl R sz w a n c l) :
    ∃ l' : List β, Rd w sz a n c (l'.flatMap f) ∧ (∀ y ∈ l', Q y) ∧ l'.length = n := by
  obtain ⟨⟨h1, h2, h3, h4⟩, h5⟩ := h
  rcases h5 with h5 | ⟨b, off, rfl, hb, hc⟩
  · subst h5
    exact ⟨[], ⟨⟨by simp, h2, h3, h4⟩, .inl rfl⟩, (fun y hy => by cases hy), rfl⟩
  · have hv : ∀ i (hi : i < l.length), ∃ y : β, (∀ j u, (f y)[j]? = some u → w.cell? ⟨b, off + i * sz + j, none⟩ = some u) ∧ Q y := fun i hi => by
      obtain ⟨cs, _, h6, h7⟩ := hc i hi
      obtain ⟨y, rfl, hy⟩ := hR _ _ h7
      exact ⟨y, h6, hy⟩
    let g : (i : Nat) → i < l.length → β := fun i hi => Classical.choose (hv i hi)
    have hg : ∀ i hi, (∀ j u, (f (g i hi))[j]? = some u → w.cell? ⟨b, off + i * sz + j, none⟩ = some u) ∧ Q (g i hi) := fun i hi => Classical.choose_spec (hv i hi)
    refine ⟨List.ofFn (fun i : Fin l.length => g i.1 i.2), ⟨⟨?_, h2, h3, h4⟩, .inr ⟨b, off, rfl, hb, fun j u hu => ?_⟩⟩, fun y hy => ?_, by simp [h1]⟩
    · rw [flatMap_len hf, List.length_ofFn, h1]
    · have hj : j = j / sz * sz + j % sz := by rw [Nat.mul_comm]; exact (Nat.div_add_mod j sz).symm
      have hlt := (List.getElem?_eq_some_iff.1 hu).1
      rw [flatMap_len hf, List.length_ofFn] at hlt
      have hq : j / sz < l.length := Nat.div_lt_of_lt_mul (by rw [Nat.mul_comm]; exact hlt)
      have hj' := hj
      rw [hj, flatMap_get hf _ _ _ (Nat.mod_lt _ hsz), List.getElem?_eq_getElem (by simpa using hq)] at hu
      simp only [List.getElem_ofFn, Option.bind_some] at hu
      have := (hg (j / sz) hq).1 _ _ hu
      rw [Nat.add_assoc, ← hj'] at this
      exact this
    · obtain ⟨i, hi, rfl⟩ := List.mem_iff_getElem.1 hy
      rw [List.getElem_ofFn]
      exact (hg i (by simpa using hi)).2
/-- A call. -/
structure Ac where
  kind : Int
  frm : Int
  own : Int
  ce : Nat
  cr : Int
  mem : Nat
  x : Iw
def acC (y : Ac) : List Value := .int .i64 y.kind :: .int .i64 y.frm :: .int .i64 y.own :: .int .u64 y.ce :: .int .i64 y.cr :: .int .u64 y.mem :: iwC y.x
def acA (y : Ac) : Array Value := (acC y).toArray
theorem acC_len (y : Ac) : (acC y).length = 24 := rfl
theorem acC_one (y : Ac) : ∀ u ∈ acC y, u.oneCell' = true := by
  intro u hu
  simp only [acC, List.mem_cons] at hu
  rcases hu with rfl | rfl | rfl | rfl | rfl | rfl | hu
  · rfl
  · rfl
  · rfl
  · rfl
  · rfl
  · rfl
  · exact iwC_one _ u hu
theorem acA_one (y : Ac) : (acA y).all (·.oneCell') = true := by
  rw [acA, List.all_toArray, List.all_eq_true]
  exact acC_one y
theorem Tryd.acI (y : Ac) : (Tryd.prog.info? 58).map (·.size) = some (acA y).size := by show _ = some 24; kernel_rfl
theorem Tryd.acL (y : Ac) : (Tryd.prog.info? 58).map (·.size) = some (acC y).length := by show _ = some 24; kernel_rfl
def Ac.zero : Ac := ⟨0, 0, 0, 0, 0, 0, .zero⟩
theorem Tryd.acZ : (Tryd.prog.info? 58).map (·.zero) = some (some (.agg (acA .zero))) := by kernel_rfl
structure AcOk (w : World) (y : Ac) : Prop where
  rd : RdV w y.x.pa y.x.pn y.x.pc y.x.v.rc.pend
  rc : y.x.v.rc.Wf
  vw : y.x.v.view.Wf
  mem : y.mem < 18446744073709551616
  siz : y.x.v.data.size ≤ maxLen
  len : y.x.v.rc.pend.length ≤ 4398046511104
structure RdA (w : World) (a : Option Addr) (n c : Nat) (l : List Ac) : Prop where
  row : Rd w 24 a n c (l.flatMap acC)
  ok : ∀ y ∈ l, AcOk w y
section
variable {w w' : World} {a : Option Addr} {n c : Nat} {l : List Ac}
theorem AcOk.below {y : Ac} (h : AcOk w y) (hb : Below w.heap.size w w') : AcOk w' y := ⟨h.rd.below hb (Nat.le_refl _), h.rc, h.vw, h.mem, h.siz, h.len⟩
theorem RdA.len (h : RdA w a n c l) : l.length = n := by
  have := h.row.length_eq
  rw [flatMap_len acC_len] at this
  omega
theorem RdA.le_max (h : RdA w a n c l) : n ≤ 9223372036854775807 := by have := h.row.le_max; unfold maxLen at this; omega
theorem RdA.below (h : RdA w a n c l) (hb : Below w.heap.size w w') : RdA w' a n c l := ⟨h.row.below hb (Nat.le_refl _), fun x hx => (h.ok x hx).below hb⟩
theorem RdA.at (h : RdA w a n c l) {k : Nat} (hk : k < l.length) : ∃ b off, a = some ⟨b, off, none⟩ ∧ b < w.heap.size ∧ w.rangeAt b (off + k * 24) (acC l[k]) := by
  have hl := h.len
  obtain ⟨b, off, rfl, hlt⟩ := Rd.addr h.row (by omega)
  refine ⟨b, off, rfl, hlt, fun j v hj => ?_⟩
  rw [Nat.add_assoc]
  refine Rd.at h.row ?_
  have hlt : j < 24 := by have := (List.getElem?_eq_some_iff.1 hj).1; rw [acC_len] at this; exact this
  rw [flatMap_get acC_len _ _ _ hlt, List.getElem?_eq_getElem hk]
  exact hj
end
def RItem := RPair (RInt .i64) (RPair RStr (RPair (RInt .u32) (RPair (RInt .u64) (RPair RBool (RPair RBool (RPair RRec (RPair RView (RPair (RInt .u64) (RPair (RInt .i64) (RInt .i64))))))))))
def RAct := RPair (RInt .i64) (RPair (RInt .i64) (RPair (RInt .i64) (RPair RConf (RPair (RInt .u64) RItem))))
section
variable {H : Type} {enc : TypeId × Value → H} {W : World}
theorem sopens_item : SOpens enc Tryd.prog W 45 RItem :=
  have oi := SOpens.of (opens_int (enc := enc) (w := W) Tryd.underlying3)
  have o64 := SOpens.of (opens_int (enc := enc) (w := W) Tryd.underlying25)
  have o32 := SOpens.of (opens_int (enc := enc) (w := W) Tryd.underlying43)
  have ob := SOpens.of (opens_bool (enc := enc) (w := W) Tryd.underlying4)
  have os := SOpens.of (opens_str (enc := enc) (w := W) Tryd.underlying9)
  sopens_struct Tryd.underlying45 (by kernel_rfl) (SOpensFs.cons (sz := 1) (total := 17) rfl (by kernel_rfl) oi (SOpensFs.cons (sz := 1) (total := 16) rfl (by kernel_rfl) os (SOpensFs.cons (sz := 1) (total := 15) rfl (by kernel_rfl) o32 (SOpensFs.cons (sz := 1) (total := 14) rfl (by kernel_rfl) o64 (SOpensFs.cons (sz := 1) (total := 13) rfl (by kernel_rfl) ob (SOpensFs.cons (sz := 1) (total := 12) rfl (by kernel_rfl) ob (SOpensFs.cons (sz := 5) (total := 7) rfl (by kernel_rfl) sopens_rec (SOpensFs.cons (sz := 4) (total := 3) rfl (by kernel_rfl) (SOpens.of opens_view) (SOpensFs.cons (sz := 1) (total := 2) rfl (by kernel_rfl) o64 (SOpensFs.cons (sz := 1) (total := 1) rfl (by kernel_rfl) oi (SOpensFs.one rfl (by kernel_rfl) oi)))))))))))
theorem sopens_act : SOpens enc Tryd.prog W 58 RAct :=
  have oi := SOpens.of (opens_int (enc := enc) (w := W) Tryd.underlying3)
  have o64 := SOpens.of (opens_int (enc := enc) (w := W) Tryd.underlying25)
  have hc : Opens enc Tryd.prog W 30 RConf := opens_struct Tryd.underlying30 (by kernel_rfl) (OpensFs.cons (sz := 1) (total := 1) rfl (by kernel_rfl) (opens_int Tryd.underlying25) (OpensFs.one rfl (by kernel_rfl) (opens_int Tryd.underlying3)))
  sopens_struct Tryd.underlying58 (by kernel_rfl) (SOpensFs.cons (sz := 1) (total := 23) rfl (by kernel_rfl) oi (SOpensFs.cons (sz := 1) (total := 22) rfl (by kernel_rfl) oi (SOpensFs.cons (sz := 1) (total := 21) rfl (by kernel_rfl) oi (SOpensFs.cons (sz := 2) (total := 19) rfl (by kernel_rfl) (SOpens.of hc) (SOpensFs.cons (sz := 1) (total := 18) rfl (by kernel_rfl) o64 (SOpensFs.one rfl (by kernel_rfl) sopens_item))))))
theorem sopens_acts : SOpens enc Tryd.prog W 55 (RSlz RAct 24 208) := sopens_slice Tryd.underlying55 (by kernel_rfl) (by kernel_rfl) (by decide) sopens_act
end
theorem wf_u32_bounds {x : Int} (h : (Lit.int .u32 x).wf = true) : 0 ≤ x ∧ x < 4294967296 := by
  simp [Lit.wf, IntKind.min, IntKind.max, IntKind.bits, IntKind.signed] at h
  omega
theorem RItem.iw {w : World} {cs : List Value} {x} (h : RItem w cs x) : ∃ y : Iw, cs = iwC y ∧ RdV w y.pa y.pn y.pc y.v.rc.pend ∧ y.v.rc.Wf ∧ y.v.view.Wf ∧ y.v.data.size ≤ maxLen ∧ y.v.rc.pend.length ≤ 4398046511104 := by
  obtain ⟨k, D, i, ho, ha, di, r, v, nu, ix, tt⟩ := x
  obtain ⟨_, _, hc, ⟨rfl, f0⟩, _, _, rfl, ⟨rfl, hD⟩, _, _, rfl, ⟨rfl, f1⟩, _, _, rfl, ⟨rfl, f2⟩, _, _, rfl, rfl, _, _, rfl, rfl, _, _, rfl, hr, _, _, rfl, hv, _, _, rfl, ⟨rfl, f3⟩, _, _, rfl, ⟨rfl, f4⟩, rfl, f5⟩ := h
  obtain ⟨pa, pn, pc, rfl, h4, h5, h6⟩ := hr.rc
  obtain ⟨rfl, hvw⟩ := hv.vw
  have g1 := wf_u32_bounds f1
  have g2 := wf_u64_bounds f2
  have g3 := wf_u64_bounds f3
  simp only at g1 g2 g3
  refine ⟨⟨⟨k, D, i.toNat, ho.toNat, ha, di, toRc r, toVw v, nu.toNat, ix, tt⟩, pa, pn, pc⟩, ?_, h4, h5, hvw, hD, h6⟩
  rw [hc]
  simp only [iwC]
  rw [Int.toNat_of_nonneg g1.1, Int.toNat_of_nonneg g2.1, Int.toNat_of_nonneg g3.1]
  rfl
theorem RAct.ac {w : World} {cs : List Value} {v} (h : RAct w cs v) : ∃ y : Ac, cs = acC y ∧ AcOk w y := by
  obtain ⟨k, f, o, ⟨ce, cr⟩, m, x⟩ := v
  obtain ⟨_, _, hc, ⟨rfl, f0⟩, _, _, rfl, ⟨rfl, f1⟩, _, _, rfl, ⟨rfl, f2⟩, _, _, rfl, ⟨_, _, rfl, ⟨rfl, f3⟩, rfl, f4⟩, _, _, rfl, ⟨rfl, f5⟩, hx⟩ := h
  obtain ⟨y, rfl, h1, h2, h3, h4, h5⟩ := RItem.iw hx
  have g1 := wf_u64_bounds f3
  have g2 := wf_u64_bounds f5
  simp only at g1 g2
  refine ⟨⟨k, f, o, ce.toNat, cr, m.toNat, y⟩, ?_, ⟨h1, h2, h3, by simp only; omega, h4, h5⟩⟩
  rw [hc]
  simp only [acC]
  rw [Int.toNat_of_nonneg g1.1, Int.toNat_of_nonneg g2.1]
  rfl
theorem RSl.acs {w : World} {a : Option Addr} {n c : Nat} {l : List (Int × Int × Int × (Int × Int) × Int × _)} (h : RSl RAct 24 w a n c l) : ∃ l' : List Ac, RdA w a n c l' := by
  obtain ⟨l', h1, h2, _⟩ := h.pick acC acC_len (fun y => AcOk w y) (fun cs x hx => RAct.ac hx) (by decide)
  exact ⟨l', h1, h2⟩
def fewR : List Ac → Nat → Nat → Bool
  | [], _, _ => true
  | y :: l, i, n => if 100 ≤ i ∨ 500 < n + 1 + y.x.v.rc.pend.length ∨ 2000 < y.x.v.data.size then false else fewR l (i + 1) (n + 1 + y.x.v.rc.pend.length)
def fewA (l : List Ac) : Bool := fewR l 0 0
theorem fewR_imp : ∀ (l : List Ac) (i n : Nat), fewR l i n = true → i ≤ 100 → l.length + i ≤ 100 ∧ ∀ y ∈ l, y.x.v.rc.pend.length ≤ 500
  | [], i, n, _, hi => ⟨by simpa using hi, fun y hy => by cases hy⟩
  | y :: l, i, n, h, hi => by
    unfold fewR at h
    split at h
    · cases h
    · rename_i hc
      obtain ⟨h1, h2⟩ := fewR_imp l (i + 1) _ h (by omega)
      refine ⟨by rw [List.length_cons]; omega, fun z hz => ?_⟩
      rcases List.mem_cons.1 hz with rfl | hz
      · omega
      · exact h2 z hz
theorem fewA_imp {l : List Ac} (h : fewA l = true) : l.length ≤ 100 ∧ ∀ y ∈ l, y.x.v.rc.pend.length ≤ 500 := fewR_imp l 0 0 h (by omega)
set_option maxHeartbeats 3200000 in
set_option maxRecDepth 100000 in
theorem fewA_any (a : Option Addr) (n c : Nat) (l : List Ac) (t : Bool) (ht : t = fewA l) (w : World) (hr : RdA w a n c l) :
    Calls Tryd.prog 18 #[.slice a n c] w fun e w' => e = .returned (.bool t) ∧ w = w' := by
  have hmx := hr.le_max
  have hl := Lib.hid hr.len
  replace ht := Lib.hid ht
  have hr0 := Lib.hid hr
  go_enter Tryd.func18, Tryd.ntmps18
  go_wp2
  go_loopw [3, 4] (fun sv iv wr => ∃ (k m : Nat), k ≤ n ∧ iv = .int .i64 k ∧ sv = .int .i64 m ∧ m ≤ 500 ∧ Hid (t = fewR (l.drop k) k m) ∧ w = wr) (fun _ iv _ => n - (RowKit.intOf iv).toNat)
  case atStart => exact ⟨0, 0, Nat.zero_le _, rfl, rfl, Nat.zero_le _, Lib.hid ht.out, rfl⟩
  case round =>
    obtain ⟨k, m, hk, rfl, rfl, hm, hf, rfl⟩ := hrel
    by_cases hkn : k < n
    · have hkI : (k : Int) < n := by omega
      have hkl : k < l.length := by rw [hl.out]; exact hkn
      obtain ⟨b, off, rfl, hlt, hrg⟩ := hr0.out.at hkl
      have hfe : Hid (t = if 100 ≤ k ∨ 500 < m + 1 + l[k].x.v.rc.pend.length ∨ 2000 < l[k].x.v.data.size then false else fewR (l.drop (k + 1)) (k + 1) (m + 1 + l[k].x.v.rc.pend.length)) := Lib.hid (by rw [hf.out, List.drop_eq_getElem_cons hkl]; rfl)
      have hok := hr0.out.ok _ (List.getElem_mem hkl)
      generalize l[k] = y at *
      have c16 : w.cell? ⟨b, off + k * 24 + 16, none⟩ = some (.slice y.x.pa y.x.pn y.x.pc) := hrg 16 _ rfl
      have c7 : w.cell? ⟨b, off + k * 24 + 7, none⟩ = some (.string y.x.v.data) := hrg 7 _ rfl
      have hpl := RdV.len hok.rd
      rw [hpl] at hfe
      have hs1 := hok.siz
      unfold maxLen at hs1
      have hl2 := hok.len
      rw [hpl] at hl2
      obtain ⟨sz, hsz⟩ : ∃ z, z = y.x.v.data.size := ⟨_, rfl⟩
      rw [← hsz] at hfe hs1
      replace hsz := hsz.symm
      clear hrg hok hf
      by_cases h1 : 100 ≤ k
      · have h1I : (100 : Int) ≤ k := by omega
        have hz := Lib.hid (hfe.out.trans (if_pos (.inl h1)))
        clear hfe h1
        go_wp2
        go_ret
        exact ⟨by rw [hz.out]; rfl, rfl⟩
      · have h1I : ¬ (100 : Int) ≤ k := by omega
        by_cases h2 : 500 < m + 1 + y.x.pn
        · have h2I : (500 : Int) < (m : Int) + 1 + y.x.pn := by omega
          have hz := Lib.hid (hfe.out.trans (if_pos (.inr (.inl h2))))
          clear hfe
          go_wp2
          go_ret
          exact ⟨by rw [hz.out]; rfl, rfl⟩
        · have h2I : ¬ (500 : Int) < (m : Int) + 1 + y.x.pn := by omega
          by_cases h3 : 2000 < sz
          · have h3I : (2000 : Int) < sz := by omega
            have hz := Lib.hid (hfe.out.trans (if_pos (.inr (.inr h3))))
            clear hfe
            go_wp2
            go_ret
            exact ⟨by rw [hz.out]; rfl, rfl⟩
          · have h3I : ¬ (2000 : Int) < sz := by omega
            have hz := Lib.hid (hfe.out.trans (if_neg (by omega)))
            clear hfe
            go_wp2
            go_roundw
            case rel => exact ⟨k + 1, m + 1 + y.x.pn, by omega, by go_num, by go_num, by omega, hz, trivial⟩
            case measure => simp [RowKit.intOf]; omega
    · obtain rfl : k = n := by omega
      have hz := Lib.hid (show t = true from by rw [hf.out, List.drop_of_length_le (Nat.le_of_eq hl.out)]; rfl)
      have hkI : ¬ (k : Int) < k := by omega
      go_wp2
      go_ret
      exact ⟨by rw [hz.out]; rfl, rfl⟩
end Go.Proofs.YteeeikkapnchlaaDoor
