/- gather: acts; Few -/
import Derived.Test.YtlgabjffnjciaaaDoorGatE
import Derived.Test.YtlgabjffnjciaaaDoorPlanL
import Derived.Test.YtlgabjffnjciaaaDoorPlanO
namespace Go.Proofs.YtlgabjffnjciaaaDoor
set_option linter.unusedSimpArgs false
set_option linter.unusedVariables false
open Go.RowKit Go.Sort
/-- A call. -/
structure Ac where
  rdy : Bool
  p : Int
  x : Xc
def acC (y : Ac) : List Value := .bool y.rdy :: .int .i64 y.p :: xcC y.x
def acA (y : Ac) : Array Value := #[.bool y.rdy, .int .i64 y.p, .int .i64 y.x.v.who, .int .u64 y.x.v.oe, .int .i64 y.x.v.orp, .slice y.x.pa y.x.pn y.x.pc, .int .u64 y.x.v.ls, .int .i64 y.x.v.lf]
theorem acC_len (y : Ac) : (acC y).length = 8 := rfl
structure RdA (w : World) (a : Option Addr) (n c : Nat) (l : List Ac) : Prop where
  row : Rd w 8 a n c (l.flatMap acC)
  inn : ∀ y ∈ l, RdU w y.x.pa y.x.pn y.x.pc y.x.v.cnt
section
variable {w w' : World} {a : Option Addr} {n c : Nat} {l : List Ac}
theorem RdA.len (h : RdA w a n c l) : l.length = n := by
  have := h.row.length_eq
  rw [flatMap_len acC_len] at this
  omega
theorem RdA.le_max (h : RdA w a n c l) : n ≤ 9223372036854775807 := by have := h.row.le_max; unfold maxLen at this; omega
theorem RdA.below (h : RdA w a n c l) (hb : Below w.heap.size w w') : RdA w' a n c l := ⟨h.row.below hb (Nat.le_refl _), fun x hx => (h.inn x hx).below hb⟩
theorem RdA.at (h : RdA w a n c l) {k : Nat} (hk : k < l.length) : ∃ b off, a = some ⟨b, off, none⟩ ∧ b < w.heap.size ∧ w.rangeAt b (off + k * 8) (acC l[k]) ∧ w.rangeAt b (off + k * 8 + 2) (xcC l[k].x) ∧ RdU w l[k].x.pa l[k].x.pn l[k].x.pc l[k].x.v.cnt := by
  have hl := h.len
  obtain ⟨b, off, rfl, hlt⟩ := Rd.addr h.row (by omega)
  have hr : w.rangeAt b (off + k * 8) (acC l[k]) := fun j v hj => by
    rw [show off + k * 8 + j = off + (k * 8 + j) from by omega]
    refine Rd.at h.row ?_
    have hlt : j < 8 := by have := (List.getElem?_eq_some_iff.1 hj).1; rw [acC_len] at this; exact this
    rw [flatMap_get acC_len _ _ _ hlt, List.getElem?_eq_getElem hk]
    exact hj
  refine ⟨b, off, rfl, hlt, hr, fun j v hj => ?_, h.inn _ (List.getElem_mem hk)⟩
  rw [show off + k * 8 + 2 + j = off + k * 8 + (j + 2) from by omega]
  exact hr (j + 2) v hj
end
theorem Tryd.acI (y : Ac) : (Tryd.prog.info? 45).map (·.size) = some (acA y).size := by show _ = some 8; kernel_rfl
theorem Tryd.acZ : (Tryd.prog.info? 45).map (·.zero) = some (some (.agg #[.bool false, .int .i64 0, .int .i64 0, .int .u64 0, .int .i64 0, .slice none 0 0, .int .u64 0, .int .i64 0])) := by kernel_rfl
theorem acA_one (y : Ac) : (acA y).all (·.oneCell') = true := by simp [acA, Value.oneCell']
theorem blk8 {W : World} {b t : Nat} {c0 c1 c2 c3 c4 c5 c6 c7 : Value} (h : BlkAt W b t #[c0, c1, c2, c3, c4, c5, c6, c7]) : W.cell? ⟨b, 0, none⟩ = some c0 ∧ W.cell? ⟨b, 1, none⟩ = some c1 ∧ W.cell? ⟨b, 2, none⟩ = some c2 ∧ W.rangeAt b 2 [c2, c3, c4, c5, c6, c7] :=
  ⟨h.cell rfl, h.cell rfl, h.cell rfl, fun j v hj => by
    match j, hj with
    | 0, hj => simp at hj; subst hj; exact h.cell (i := 2) rfl
    | 1, hj => simp at hj; subst hj; exact h.cell (i := 3) rfl
    | 2, hj => simp at hj; subst hj; exact h.cell (i := 4) rfl
    | 3, hj => simp at hj; subst hj; exact h.cell (i := 5) rfl
    | 4, hj => simp at hj; subst hj; exact h.cell (i := 6) rfl
    | 5, hj => simp at hj; subst hj; exact h.cell (i := 7) rfl⟩
def RAc : World → List Value → Bool × Int × Int × (Int × Int) × List Int × (Int × Int) → Prop := RPair RBool (RPair (RInt .i64) RExc)
section
variable {H : Type} {enc : TypeId × Value → H} {W : World}
theorem sopens_act : SOpens enc Tryd.prog W 45 RAc :=
  sopens_struct Tryd.underlying45 (by kernel_rfl) (SOpensFs.cons (sz := 1) (total := 7) rfl (by kernel_rfl) (SOpens.of (opens_bool Tryd.underlying4)) (SOpensFs.cons (sz := 1) (total := 6) rfl (by kernel_rfl) (SOpens.of (opens_int Tryd.underlying3)) (SOpensFs.one rfl (by kernel_rfl) sopens_exc)))
theorem sopens_acts : SOpens enc Tryd.prog W 36 (RSlz RAc 8 80) := sopens_slice Tryd.underlying36 (by kernel_rfl) (by kernel_rfl) (by decide) sopens_act
end
theorem RAc.ac {w : World} {cs : List Value} {v : Bool × Int × Int × (Int × Int) × List Int × (Int × Int)} (h : RAc w cs v) : ∃ y : Ac, cs = acC y ∧ ExOk w y.x := by
  obtain ⟨c1, c2, rfl, rfl, c3, c4, rfl, ⟨rfl, f1⟩, h2⟩ := h
  obtain ⟨x, rfl, hx⟩ := h2.xc
  exact ⟨⟨v.1, v.2.1, x⟩, rfl, hx⟩
theorem RSl.acs {w : World} {a : Option Addr} {n c : Nat} {l : List (Bool × Int × Int × (Int × Int) × List Int × (Int × Int))} (h : RSl RAc 8 w a n c l) : ∃ l' : List Ac, RdA w a n c l' ∧ ∀ y ∈ l', ExOk w y.x := by
  obtain ⟨l', h1, h2, _⟩ := h.pick acC acC_len (fun y => ExOk w y.x) (fun cs x hx => hx.ac) (by decide)
  exact ⟨l', ⟨h1, fun x hx => (h2 x hx).1⟩, h2⟩
def fewA (l : List Ac) : Bool := fewX (l.map (·.x))
theorem map_take_snoc (l : List Ac) {k : Nat} (hk : k < l.length) : (l.take (k + 1)).map (·.x) = (l.take k).map (·.x) ++ [l[k].x] := by rw [List.take_succ_eq_append_getElem hk, List.map_append]; rfl
set_option maxHeartbeats 1600000 in
set_option maxRecDepth 100000 in
theorem fewA_any (a : Option Addr) (n c : Nat) (l : List Ac) (hn : n * 80 ≤ 140737488355328) (t : Bool) (ht : t = fewA l) (w : World) (hr : RdA w a n c l) :
    Calls Tryd.prog 15 #[.slice a n c] w fun e w' => e = .returned (.bool t) ∧ Below w.heap.size w w' := by
  have hmx := hr.le_max
  have hl := Lib.hid hr.len
  replace ht := Lib.hid ht
  replace hr := Lib.hid hr
  go_enter Tryd.func15, Tryd.ntmps15
  go_wp2
  go_loopw [3, 4] (fun ov iv wr => ∃ (k : Nat) (oa : Option Addr) (oc : Nat), k ≤ n ∧ iv = .int .i64 k ∧ ov = .slice oa k oc ∧ Hid (wr.ownsRow w.heap.size 43 6 (.slice oa k oc) k (((l.take k).map (·.x)).flatMap xcC)) ∧ Hid (Below w.heap.size w wr)) (fun _ iv _ => n - (RowKit.intOf iv).toNat)
  case atStart => exact ⟨0, none, 0, Nat.zero_le _, rfl, rfl, Lib.hid (World.ownsRow_nil _ _ _ _), Lib.hid (Below.refl _ _)⟩
  case round =>
    obtain ⟨k, oa, oc, hk, rfl, rfl, hown, hbr⟩ := hrel
    by_cases hkn : k < n
    · have hkI : (k : Int) < n := by omega
      have hkl : k < l.length := by rw [hl.out]; exact hkn
      obtain ⟨b, off, rfl, hblt, hrg, hrx, hin⟩ := (hr.out.below hbr.out).at hkl
      have hst := Lib.hid (map_take_snoc l hkl)
      generalize l[k].x = x at *
      have hbA := alloc_below wr (.cells (xcA x) 43)
      have hlv := Rd.blk1 (w := wr) (e := 43) (cs := xcC x) (sz := 6) (b := wr.heap.size) rfl rfl
      have hown2 := own_belowB hown.out hbA
      have hsz2 := Nat.le_trans hbr.out.size hbA.size
      have hx1 := xcC_one [x]
      simp only [List.flatMap_cons, List.flatMap_nil, List.append_nil] at hx1
      have hi := Tryd.exI x
      have hbr2 := Lib.hid (belS hbr.out hbA)
      clear hrg hin hbr hown
      go_wp2_with (first
        | (refine wpList_load_mid rfl _ (.tmp 15) rfl b (off + k * 8 + 2) rfl (xcC x) _ hrx Tryd.underlying43 rfl hi ?_)
        | (refine wpList_buildSlice1 (cs := xcA x) rfl 38 43 (.tmp 16) rfl Tryd.exE (by decide) (by rfl) rfl ?_)
        | (at_builtin; refine wpList_append_rd Tryd.exE rfl (.tmp 11) (.tmp 17) rfl hown2 rfl hlv rfl hx1 (by unfold maxLen; omega) (by omega) hsz2 ?_; intro v' w' hown' hg'; obtain ⟨oa', oc', rfl, _⟩ := Rd.own hown'))
      have hb3 := hbr2.out.grown hg' hbr2.out.size (fun g hg => (hown2.lt g hg).1)
      have hown3 : w'.ownsRow w.heap.size 43 6 (.slice oa' (k + 1) oc') (k + 1) (((l.take (k + 1)).map (·.x)).flatMap xcC) := by
        rw [hst.out, List.flatMap_append]
        simpa using hown'
      go_roundw
      case rel => exact ⟨k + 1, oa', oc', by omega, by go_num, rfl, Lib.hid hown3, Lib.hid hb3⟩
      case measure => simp [RowKit.intOf]; omega
    · obtain rfl : n = k := by omega
      have hkI : (n : Int) ≤ n := by omega
      have hX : RdX wr oa n oc (l.map (·.x)) := by
        have := hown.out
        rw [List.take_of_length_le (by rw [hl.out]; exact Nat.le_refl _)] at this
        obtain ⟨_, _, e, hrd⟩ := Rd.own this
        injection e with e1 _ e3
        subst e1 e3
        exact ⟨hrd, fun x hx => by obtain ⟨y, hy, rfl⟩ := List.mem_map.1 hx; exact ((hr.out.below hbr.out).inn y hy)⟩
      have HF := Lib.hid (few_any oa n oc (l.map (·.x)) t (show t = fewX (l.map (·.x)) from ht.out) wr hX)
      clear hX
      go_wp2_with fail
      refine HF.out.mono ?_
      rintro e w2 ⟨rfl, rfl⟩
      go_wp2
      go_ret
      exact ⟨rfl, hbr.out⟩
end Go.Proofs.YtlgabjffnjciaaaDoor
