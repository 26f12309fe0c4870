/- text: the walk of deps; the writer -/
import Derived.Test.YtpkknhhohbobaaaGreatDoorTxtEQ
namespace Go.Proofs.YtpkknhhohbobaaaGreatDoor
set_option linter.unusedSimpArgs false
set_option linter.unusedVariables false
open Go.RowKit Go.Sort
def sv (w : W8) : Value := .string (mkB w)
theorem sv_one (ws : List W8) : ∀ u ∈ ws.map sv, u.oneCell' = true := by
  intro u hu
  obtain ⟨x, _, rfl⟩ := List.mem_map.1 hu
  rfl
theorem mkB_append (a b : W8) : mkB a ++ mkB b = mkB (a ++ b) := by
  apply ByteArray.ext
  simp [mkB, ByteArray.data_append]
theorem lens_le {k : Nat} : ∀ (ws : List W8), (∀ w ∈ ws, w.length ≤ k) → Lib.lens ws ≤ k * ws.length
  | [], _ => by simp [Lib.lens]
  | w :: ws, h => by
    have h1 := h w (by simp)
    have h2 := lens_le ws (fun u hu => h u (by simp [hu]))
    have e : Lib.lens (w :: ws) = w.length + Lib.lens ws := by simp [Lib.lens]
    rw [e, List.length_cons, Nat.mul_succ]
    omega
theorem join_le {k : Nat} (c : UInt8) (ws : List W8) (h : ∀ w ∈ ws, w.length ≤ k) : (Lib.join ws [c]).length ≤ (k + 1) * ws.length := by
  cases ws with
  | nil => simp [Lib.join]
  | cons w ws =>
    rw [Lib.join_length]
    have h2 := lens_le (w :: ws) h
    rw [List.length_cons] at h2
    simp only [List.length_cons, List.length_nil, Nat.zero_add, Nat.one_mul, Nat.add_mul] at h2 ⊢
    omega
/-- strings.Join of a row of words. -/
theorem join_any (ws : List W8) (a : Option Addr) (n c : Nat) (s : UInt8) (w : World) (hr : Rd w 1 a n c (ws.map sv)) (hn : n ≤ 70368744177664) (hl : (Lib.join ws [s]).length ≤ 140737488355328) :
    Calls Tryz.prog 30 #[.slice a n c, .string ⟨#[s]⟩] w fun e w' => e = .returned (.string (mkB (Lib.join ws [s]))) ∧ Below w.heap.size w w' := by
  have hlen := hr.length_eq
  rw [List.length_map, Nat.mul_one] at hlen
  by_cases h0 : n = 0
  · subst h0
    obtain rfl : ws = [] := List.eq_nil_of_length_eq_zero hlen
    refine (Tryz.strings_Join_none a c ⟨#[s]⟩ w).mono ?_
    rintro e w' ⟨rfl, rfl⟩
    exact ⟨rfl, Below.refl _ _⟩
  · obtain ⟨b, o, rfl, hb⟩ := hr.addr (by omega)
    have hm : (ws.map mkB).map (·.data.toList) = ws := by
      rw [List.map_map]
      conv => rhs; rw [← List.map_id ws]
      exact List.map_congr_left (fun x _ => list_mkB x)
    have H := Tryz.strings_Join b o c (ws.map mkB) ⟨#[s]⟩ w (fun j x hx => by
      refine hr.at ?_
      rw [List.getElem?_map] at hx ⊢
      cases e : ws[j]? with
      | none => rw [e] at hx; cases hx
      | some y => rw [e] at hx; injection hx with hx; subst hx; rfl) hb (by rw [List.length_map]; omega) (by rw [List.length_map]; have := hr.le_cap; omega) (by rw [hm]; exact hl)
    rw [hm, List.length_map, hlen] at H
    exact H
theorem Rd.lit1 {w : World} {e : TypeId} {cs : List Value} {sz b : Nat} (hb : b = w.heap.size) (hs : cs.length = sz) : Rd (w.alloc (.cells cs.toArray e)) sz (some ⟨b, 0, none⟩) 1 1 cs := by
  subst hb
  refine ⟨⟨by omega, Nat.le_refl _, by decide, fun h => by cases h⟩, .inr ⟨_, 0, rfl, by simp, fun j u' hu => ?_⟩⟩
  rw [World.cell?_alloc_at _ _ _ _ rfl]
  simpa using hu
theorem take_map_succ {α β : Type} (f : α → β) (l : List α) {k : Nat} (h : k < l.length) : (l.take (k + 1)).map f = (l.take k).map f ++ [f l[k]] := by
  rw [List.take_succ_eq_append_getElem h, List.map_append]; rfl
set_option maxHeartbeats 3200000 in
set_option maxRecDepth 100000 in
theorem deps_any (l : List Nat) (hd : ∀ d ∈ l, d < 4294967296) (a : Option Addr) (n c : Nat) (w : World) (hT : TL w) (hr : Rd w 1 a n c (l.map fun d : Nat => .int .u32 (d : Int))) (hn : n ≤ 1048576) :
    Calls Tryz.prog 83 #[.slice a n c] w fun e w' => e = .returned (.string (mkB (depsW l))) ∧ Below w.heap.size w w' := by
  have hlen : l.length = n := by have := hr.length_eq; simpa using this
  have HN := Lib.hid (fun (v : Nat) (hv : v < 4294967296) W (hb : Below w.heap.size w W) => num_any v (by omega) W (hT.on hb))
  replace hlen := Lib.hid hlen
  replace hd := Lib.hid hd
  have hr0 := Lib.hid hr
  clear hr hT
  go_enter Tryz.func83, Tryz.ntmps83
  go_wp2
  go_loopw [3, 5, 8] (fun ov _ iv wr => ∃ (i : Nat), i ≤ n ∧ iv = .int .i64 i ∧ Hid (wr.ownsRow w.heap.size 9 1 ov i (((l.take i).map Lib.decDigits).map sv)) ∧ Hid (Below w.heap.size w wr)) (fun _ _ iv _ => n - (RowKit.intOf iv).toNat)
  case atStart => exact ⟨0, Nat.zero_le _, rfl, Lib.hid (World.ownsRow_nil _ _ _ _), Lib.hid (Below.refl _ _)⟩
  case round =>
    obtain ⟨i, hi, rfl, ho, hb⟩ := hrel
    obtain ⟨w1, rfl⟩ : ∃ z, z = wr := ⟨_, rfl⟩
    by_cases hin : i < n
    · have hiI : (i : Int) < n := by omega
      have hil : i < l.length := by rw [hlen.out]; exact hin
      obtain ⟨g, off, rfl, _⟩ := hr0.out.addr (by omega)
      have c1 : w1.cell? ⟨g, off + i, none⟩ = some (.int .u32 l[i]) := (hr0.out.below hb.out (Nat.le_refl _)).at (by rw [List.getElem?_map, List.getElem?_eq_getElem hil]; rfl)
      have HN1 := Lib.hid (HN.out l[i] (hd.out _ (List.getElem_mem hil)) w1 hb.out)
      have hwr : IntKind.u64.wrap (l[i] : Int) = l[i] := by rw [IntKind.wrap_u64]; have := hd.out _ (List.getElem_mem hil); omega
      have hts := Lib.hid (show ((l.take (i + 1)).map Lib.decDigits).map sv = ((l.take i).map Lib.decDigits).map sv ++ [sv (Lib.decDigits l[i])] from by rw [take_map_succ _ _ hil, List.map_append]; rfl)
      generalize l[i] = d at *
      obtain ⟨oa, oc, rfl, _⟩ := Rd.own ho.out
      go_wp2_with fail
      refine HN1.out.mono ?_
      rintro e w2 ⟨rfl, hb2⟩
      have hb3 := (Below.refl w2.heap.size w2).alloc (Nat.le_refl _) (.cells #[.string (mkB (Lib.decDigits d))] 9)
      have ho3 : World.ownsRow _ _ _ _ _ i _ := own_belowB (own_belowB ho.out hb2) hb3
      have hbb := (hb.out.trans (hb2.mono hb.out.size)).trans (hb3.mono (Nat.le_trans hb.out.size hb2.size))
      have hsz := hbb.size
      clear ho HN1
      go_wp2_with (first
        | (at_builtin; refine wpList_append_apart Tryz.stE rfl (.tmp 12) (.tmp 16) rfl ho3 rfl (Rd.lit1 (cs := [.string (mkB (Lib.decDigits d))]) rfl rfl) (by decide) rfl (by intro u hu; obtain rfl := List.mem_singleton.1 hu; rfl) (by unfold maxLen; omega) (by omega) hsz ?_; intro v' w4 ho4 hg4 hv4))
      have hb4 := Lib.hid (hbb.grown hg4 hsz (fun k hk => (ho3.lt k hk).1))
      have ho5 : Hid (w4.ownsRow w.heap.size 9 1 v' (i + 1) (((l.take (i + 1)).map Lib.decDigits).map sv)) := Lib.hid (by rw [hts.out]; exact ho4)
      clear ho4 hg4 hv4 hbb hb3 ho3 hsz
      go_roundw
      case rel => exact ⟨i + 1, by omega, by go_num, ho5, hb4⟩
      case measure => simp [RowKit.intOf]; omega
    · have hiI : ¬ (i : Int) < n := by omega
      obtain rfl : i = n := by omega
      have hho := ho.out
      rw [show l.take i = l from List.take_of_length_le (by rw [hlen.out]; exact Nat.le_refl _)] at hho
      obtain ⟨oa, oc, rfl, hrd⟩ := Rd.own hho
      have hjl : (Lib.join (l.map Lib.decDigits) [44]).length ≤ 22020096 := by
        have := join_le (k := 20) 44 (l.map Lib.decDigits) (fun w hw => by
          obtain ⟨d, hdm, rfl⟩ := List.mem_map.1 hw
          have := hd.out d hdm
          exact num_len (by omega))
        rw [List.length_map, hlen.out] at this
        omega
      have HJ := Lib.hid (join_any (l.map Lib.decDigits) oa i oc 44 w1 hrd (by omega) (by omega))
      have hz := Lib.hid (show mkB (depsW l) = ⟨#[100]⟩ ++ mkB (Lib.join (l.map Lib.decDigits) [44]) from by
        rw [show (⟨#[100]⟩ : ByteArray) = mkB [100] from rfl, mkB_append]; rfl)
      have hsj := mkB_size (Lib.join (l.map Lib.decDigits) [44])
      generalize mkB (Lib.join (l.map Lib.decDigits) [44]) = J at *
      have hs1 : ¬ 9223372036854775807 < 1 + J.size := by omega
      clear ho hho hrd hsj hjl
      go_wp2_with fail
      refine HJ.out.mono ?_
      rintro e w2 ⟨rfl, hb2⟩
      go_wp2
      go_ret
      exact ⟨by rw [hz.out]; rfl, hb.out.trans (hb2.mono hb.out.size)⟩
/-- Below B all is as it was; above it all but block b and rows of strings. -/
structure KpW (B b : Nat) (w w' : World) : Prop where
  os : w'.os = w.os
  tape : w'.tape = w.tape
  output : w'.output = w.output
  size : w.heap.size ≤ w'.heap.size
  low : ∀ k, k < B → w'.heap[k]? = w.heap[k]?
  oth : ∀ k, k < w.heap.size → k ≠ b → (∀ cs m, w.heap[k]? ≠ some (.cells cs 9 m)) → w'.heap[k]? = w.heap[k]?
section
variable {B b : Nat} {x y z w w' : World}
theorem KpW.refl (B b : Nat) (w : World) : KpW B b w w := ⟨rfl, rfl, rfl, Nat.le_refl _, fun _ _ => rfl, fun _ _ _ _ => rfl⟩
theorem KpW.trans (h : KpW B b x y) (k : KpW B b y z) : KpW B b x z :=
  ⟨k.os.trans h.os, k.tape.trans h.tape, k.output.trans h.output, Nat.le_trans h.size k.size, fun i hi => (k.low i hi).trans (h.low i hi), fun i hi hb hc => by
    have e := h.oth i hi hb hc
    exact (k.oth i (Nat.lt_of_lt_of_le hi h.size) hb (by rw [e]; exact hc)).trans e⟩
theorem KpW.ofBelow (h : Below x.heap.size x y) (hB : B ≤ x.heap.size) : KpW B b x y := ⟨h.os, h.tape, h.output, h.size, fun i hi => h.block i (by omega), fun i hi _ _ => h.block i hi⟩
theorem KpW.ofKp (h : Kp b x y) (hB : B ≤ b) (hB2 : B ≤ x.heap.size) : KpW B b x y := ⟨h.os, h.tape, h.output, h.size, fun i hi => h.block i (by omega) (by omega), fun i hi hb _ => h.block i hi hb⟩
theorem KpW.ofGrown {v : Value} {n : Nat} {xs : List Value} (g : x.grownBy y v.ownBlock) (h : x.ownsRow B 9 1 v n xs) (hB : B ≤ x.heap.size) : KpW B b x y :=
  ⟨g.os, g.tape, g.output, g.size, fun i hi => g.block i (by omega) (fun e => by have := (h.lt i e.symm).1; omega), fun i hi _ hc => g.block i hi (fun e => by
    rcases h.2 with ⟨rfl, _⟩ | ⟨g', cap, cur, rfl, _, hg, _⟩
    · cases e
    · have : i = g' := by simpa [Value.ownBlock] using e
      subst this
      exact hc _ _ hg)⟩
theorem KpW.below (h : KpW B b x y) : Below B x y := ⟨h.os, h.tape, h.output, h.size, h.low⟩
theorem KpW.blk {c : Nat} {t : TypeId} {cs : Array Value} (k : KpW B b x y) (h : BlkAt x c t cs) (hc : c ≠ b) (ht : t ≠ 9) : BlkAt y c t cs :=
  (k.oth c h.lt hc (fun cs' m e => by
    have := h.symm.trans e
    injection this with this
    injection this with _ e2
    exact ht e2)).trans h
theorem KpW.tl (k : KpW B b x y) (h : TL x) (hB : 8 ≤ B) : TL y := h.below k.below hB
/-- A writer in block b, of the words ws: no block of its is below B. -/
def WrT (B : Nat) (w : World) (b : Nat) (ws : List W8) : Prop := ∃ v, BlkAt w b 79 #[v] ∧ w.ownsRow B 9 1 v ws.length (ws.map sv) ∧ v.ownBlock ≠ some b ∧ B ≤ b
variable {ws us : List W8}
theorem WrT.lt (h : WrT B w b ws) : b < w.heap.size := by obtain ⟨_, h1, _⟩ := h; exact h1.lt
theorem WrT.ge (h : WrT B w b ws) : B ≤ b := by obtain ⟨_, _, _, _, h1⟩ := h; exact h1
theorem WrT.below (h : WrT B w b ws) (k : Below w.heap.size w w') : WrT B w' b ws := by
  obtain ⟨v, h1, h2, h3, h4⟩ := h
  exact ⟨v, h1.below k h1.lt, own_belowB h2 k, h3, h4⟩
set_option maxHeartbeats 800000 in
theorem say_any (a : Option Addr) (n c : Nat) (h : WrT B w b ws) (hr : Rd w 1 a n c (us.map sv)) (hn0 : 0 < n) (hn : n ≤ 2000000) (hl : ws.length ≤ 2000000) :
    Calls Tryz.prog 62 #[.pointer (some ⟨b, 0, none⟩), .slice a n c] w fun e w' => e = .returned (.tuple #[]) ∧ WrT B w' b (ws ++ us) ∧ KpW B b w w' := by
  have hb := h.lt
  have hlen : n = us.length := by have := hr.length_eq; simpa using this.symm
  obtain ⟨v0, h1, h2, h3, h4⟩ := h
  obtain ⟨oa, oc, rfl, _⟩ := Rd.own h2
  obtain ⟨g, off, rfl, _⟩ := hr.addr hn0
  have c0 : w.cell? ⟨b, 0, none⟩ = some (.slice oa ws.length oc) := h1.cell rfl
  obtain ⟨m, hm⟩ : ∃ z, z = ws.length := ⟨_, rfl⟩
  rw [← hm] at h1 h2 h3 c0 hl
  replace hlen := Lib.hid hlen
  replace hm := Lib.hid hm
  replace h3 := Lib.hid h3
  have hB : B ≤ w.heap.size := by omega
  replace h4 := Lib.hid h4
  go_enter Tryz.func62, Tryz.ntmps62
  go_wp2_with (first
    | (at_builtin; refine wpList_append_apart Tryz.stE rfl (.tmp 8) (.tmp 9) rfl h2 rfl hr hn0 rfl (sv_one us) (by unfold maxLen; omega) (by omega) hB ?_; intro v' w1 ho hg hv; obtain ⟨za, zc, rfl, _⟩ := Rd.own ho; have g1 := (hg.block b hb (fun e => h3.out e.symm)).trans h1; have hn1 : Hid ((Value.slice za (m + n) zc).ownBlock ≠ some b) := Lib.hid (fun e => by rcases hv with hv | hv; exact h3.out (hv ▸ e); exact absurd (hv b e) (by omega)); have d0 : w1.cell? ⟨b, 0, none⟩ = some (.slice oa m oc) := BlkAt.cell g1 rfl; have f0 := BlkAt.fz g1 0))
  go_end0
  have hg2 := KpW.ofGrown (b := b) hg h2 hB
  have k2 : KpW B b w1 (w1.setCell ⟨b, 0, none⟩ (.slice za (m + n) zc)) := KpW.ofKp ((Kp.refl b w1).setCell ⟨b, 0, none⟩ rfl _) h4.out (Nat.le_trans hB hg.size)
  refine ⟨rfl, ⟨_, BlkAt.set g1 0 _, ?_, hn1.out, h4.out⟩, hg2.trans k2⟩
  rw [List.length_append, ← hm.out, ← hlen.out, List.map_append]
  exact own_keep ho fun g' hg' _ => ((Kp.refl b w1).setCell ⟨b, 0, none⟩ rfl _).block g' (ho.lt g' hg').2 (fun e => hn1.out (by rw [hg', e]))
end
end Go.Proofs.YtpkknhhohbobaaaGreatDoor
