/- filter: items as they lie; slices that keep off some blocks; own -/
import Derived.Test.YteeeikkapnchlaaDoorVoteO
import Derived.Test.YteeeikkapnchlaaDoorVoteN
import Derived.Test.YteeeikkapnchlaaDoorMapA
import Derived.Test.YteeeikkapnchlaaDoorPut
import Derived.Test.YteeeikkapnchlaaDoorApt
import Derived.Test.YteeeikkapnchlaaDoorHeld
namespace Go.Proofs.YteeeikkapnchlaaDoor
set_option linter.unusedSimpArgs false
set_option linter.unusedVariables false
open Go.RowKit Go.Sort
/-- An item, without where it lies. -/
structure Itm where
  kind : Int
  data : ByteArray
  inc : Nat
  holds : Nat
  has : Bool
  direct : Bool
  rc : Rc
  view : Vw
  number : Nat
  index : Int
  total : Int
def Itm.zero : Itm := ⟨0, ⟨#[]⟩, 0, 0, false, false, ⟨.zero, []⟩, .zero, 0, 0, 0⟩
/-- An item, and where its record's pending views lie. -/
structure Iw where
  v : Itm
  pa : Option Addr
  pn : Nat
  pc : Nat
def iwC (x : Iw) : List Value := [.int .i64 x.v.kind, .string x.v.data, .int .u32 x.v.inc, .int .u64 x.v.holds, .bool x.v.has, .bool x.v.direct, .int .u64 x.v.rc.last.num, .int .u64 x.v.rc.last.ce, .int .i64 x.v.rc.last.cr, .int .u64 x.v.rc.last.mem, .slice x.pa x.pn x.pc, .int .u64 x.v.view.num, .int .u64 x.v.view.ce, .int .i64 x.v.view.cr, .int .u64 x.v.view.mem, .int .u64 x.v.number, .int .i64 x.v.index, .int .i64 x.v.total]
def iwA (x : Iw) : Array Value := (iwC x).toArray
def Iw.zero : Iw := ⟨.zero, none, 0, 0⟩
theorem iwC_len (x : Iw) : (iwC x).length = 18 := rfl
theorem iwC_one (x : Iw) : ∀ u ∈ iwC x, u.oneCell' = true := by
  intro u hu
  simp only [iwC, List.mem_cons, List.not_mem_nil, or_false] at hu
  rcases hu with rfl | rfl | rfl | rfl | rfl | rfl | rfl | rfl | rfl | rfl | rfl | rfl | rfl | rfl | rfl | rfl | rfl | rfl <;> rfl
theorem iwA_one (x : Iw) : (iwA x).all (·.oneCell') = true := by simp [iwA, iwC, Value.oneCell']
theorem Tryd.iwI (x : Iw) : (Tryd.prog.info? 45).map (·.size) = some (iwA x).size := by show _ = some 18; kernel_rfl
theorem Tryd.iwL (x : Iw) : (Tryd.prog.info? 45).map (·.size) = some (iwC x).length := by show _ = some 18; kernel_rfl
theorem Tryd.iwZ : (Tryd.prog.info? 45).map (·.zero) = some (some (.agg (iwA .zero))) := by kernel_rfl
theorem Tryd.iwE : Elt Tryd.prog 32 45 (.agg (iwA .zero)) 18 160 := ⟨by kernel_rfl, by kernel_rfl, rfl, by decide⟩
/-- An item whose record lies elsewhere. -/
def Iw.own (x : Iw) (a : Option Addr) (c : Nat) : Iw := ⟨x.v, a, x.pn, c⟩
theorem iwA_own (x : Iw) (a : Option Addr) (c : Nat) : setArr (iwA x) 6 [.int .u64 x.v.rc.last.num, .int .u64 x.v.rc.last.ce, .int .i64 x.v.rc.last.cr, .int .u64 x.v.rc.last.mem, .slice a x.pn c] = iwA (x.own a c) := rfl
theorem iwA_rec (x : Iw) : ∀ j v, (#[.int .u64 x.v.rc.last.num, .int .u64 x.v.rc.last.ce, .int .i64 x.v.rc.last.cr, .int .u64 x.v.rc.last.mem, .slice x.pa x.pn x.pc] : Array Value).toList[j]? = some v → (iwA x)[6 + j]? = some v := by
  intro j v h
  rcases j with _ | _ | _ | _ | _ | j
  · exact h
  · exact h
  · exact h
  · exact h
  · exact h
  · cases h
theorem iwA_view (x : Iw) : ∀ j v, (vwA x.v.view).toList[j]? = some v → (iwA x)[11 + j]? = some v := by
  intro j v h
  rcases j with _ | _ | _ | _ | j
  · exact h
  · exact h
  · exact h
  · exact h
  · cases h

/-- A slice that keeps off the blocks of F. -/
def Off (F : Nat → Prop) (a : Option Addr) (n : Nat) : Prop := n ≠ 0 → ∀ g off, a = some ⟨g, off, none⟩ → ¬ F g
/-- Views that are read off the blocks of F. -/
def RdF (F : Nat → Prop) (w : World) (sz : Nat) (a : Option Addr) (n c : Nat) (xs : List Value) : Prop := Rd w sz a n c xs ∧ Off F a n
section
variable {F F' O : Nat → Prop} {w w' : World} {sz : Nat} {a : Option Addr} {n c : Nat} {xs : List Value}
theorem RdF.below (h : RdF F w sz a n c xs) (hb : Below w.heap.size w w') : RdF F w' sz a n c xs := ⟨h.1.below hb (Nat.le_refl _), h.2⟩
theorem Rd.kpO0 (h : Rd w sz a n c xs) (hk : KpO O w w') (hb : n ≠ 0 → ∀ g off, a = some ⟨g, off, none⟩ → ¬ O g) : Rd w' sz a n c xs := by
  by_cases hn : n = 0
  · exact ⟨h.1, .inl hn⟩
  · exact KpO.rd hk h (hb hn)
theorem RdF.kpO (h : RdF F w sz a n c xs) (hk : KpO O w w') (hO : ∀ g, O g → F g) : RdF F w' sz a n c xs :=
  ⟨h.1.kpO0 hk (fun hn g off e ho => h.2 hn g off e (hO g ho)), h.2⟩
theorem RdF.more (h : RdF F w sz a n c xs) (hF : ∀ g, F' g → F g ∨ w.heap.size ≤ g) : RdF F' w sz a n c xs := by
  refine ⟨h.1, fun hn g off e hf => ?_⟩
  rcases hF g hf with hf | hf
  · exact h.2 hn g off e hf
  · rcases h.1.2 with h2 | ⟨g2, off2, e2, hlt, _⟩
    · exact hn h2
    · rw [e] at e2
      injection e2 with e2
      injection e2 with e2
      omega
theorem RdF.nil : RdF F w sz none 0 0 [] := ⟨Rd.mk_nil _ _, fun h => absurd rfl h⟩
theorem Off.fresh {B : Nat} (h : ∀ g off, a = some ⟨g, off, none⟩ → B ≤ g) (hF : ∀ g, F g → g < B) : Off F a n := fun _ g off e hf => by
  have := h g off e
  have := hF g hf
  omega
theorem own_fresh {base : Nat} {e : TypeId} (h : w.ownsRow base e sz (.slice a n c) n xs) : ∀ g off, a = some ⟨g, off, none⟩ → base ≤ g := by
  intro g off e
  rcases h.2 with ⟨hv, _⟩ | ⟨g', cap, cur, hv, hb', _⟩
  · simp at hv; rw [e] at hv; simp at hv
  · simp at hv; rw [e] at hv; simp at hv; omega
end
/-- An item's record's views, read off the blocks of F. -/
def InF (F : Nat → Prop) (w : World) (x : Iw) : Prop := RdF F w 4 x.pa x.pn x.pc (x.v.rc.pend.flatMap vwF)
def Itm.Wf (x : Itm) : Prop := x.rc.Wf ∧ x.view.Wf ∧ x.rc.pend.length ≤ 1000
theorem Itm.zero_wf : Itm.zero.Wf := ⟨⟨⟨by decide, by decide⟩, fun v hv => by cases hv⟩, ⟨by decide, by decide⟩, by decide⟩
section
variable {F F' O : Nat → Prop} {w w' : World} {x : Iw}
theorem InF.below (h : InF F w x) (hb : Below w.heap.size w w') : InF F w' x := RdF.below h hb
theorem InF.kpO (h : InF F w x) (hk : KpO O w w') (hO : ∀ g, O g → F g) : InF F w' x := RdF.kpO h hk hO
theorem InF.more (h : InF F w x) (hF : ∀ g, F' g → F g ∨ w.heap.size ≤ g) : InF F' w x := RdF.more h hF
theorem InF.rd (h : InF F w x) : RdV w x.pa x.pn x.pc x.v.rc.pend := h.1
theorem InF.len (h : InF F w x) : x.v.rc.pend.length = x.pn := RdV.len h.rd
theorem InF.zero : InF F w .zero := RdF.nil
end
/-- A record in memory of its own. -/
theorem own_any (u : Vw) (pa : Option Addr) (pn pc : Nat) (pd : List Vw) (hn : pn ≤ 1000000) (w : World) (hr : RdV w pa pn pc pd) :
    Calls Tryd.prog 25 #[.agg #[.int .u64 u.num, .int .u64 u.ce, .int .i64 u.cr, .int .u64 u.mem, .slice pa pn pc]] w fun e w' => ∃ a c, e = .returned (.agg #[.int .u64 u.num, .int .u64 u.ce, .int .i64 u.cr, .int .u64 u.mem, .slice a pn c]) ∧ RdV w' a pn c pd ∧ Below w.heap.size w w' ∧ ∀ g off, a = some ⟨g, off, none⟩ → w.heap.size ≤ g := by
  obtain ⟨W2, hW2⟩ : ∃ W, W = (w.alloc (.cells #[.int .u64 u.num, .int .u64 u.ce, .int .i64 u.cr, .int .u64 u.mem, .slice pa pn pc] 38)).alloc (.cells #[.int .u64 0, .int .u64 0, .int .i64 0, .int .u64 0, .slice none 0 0] 38) := ⟨_, rfl⟩
  have hb : Below w.heap.size w W2 := by rw [hW2]; exact ((Below.refl _ _).alloc (Nat.le_refl _) _).alloc (by simp) _
  have hA : BlkAt W2 w.heap.size 38 #[.int .u64 u.num, .int .u64 u.ce, .int .i64 u.cr, .int .u64 u.mem, .slice pa pn pc] := by rw [hW2]; exact BlkAt.alloc (BlkAt.new w _ _) _
  have hC : BlkAt W2 (w.heap.size + 1) 38 #[.int .u64 0, .int .u64 0, .int .i64 0, .int .u64 0, .slice none 0 0] := by rw [hW2]; simpa using BlkAt.new (w.alloc (.cells #[.int .u64 u.num, .int .u64 u.ce, .int .i64 u.cr, .int .u64 u.mem, .slice pa pn pc] 38)) 38 #[.int .u64 0, .int .u64 0, .int .i64 0, .int .u64 0, .slice none 0 0]
  have hr2 := hr.below hb (Nat.le_refl _)
  have HCl := Lib.hid (clone_any pa pn pc pd hn W2 hr2)
  have HW := Lib.hid hW2.symm
  have c4 : W2.cell? ⟨w.heap.size, 4, none⟩ = some (.slice pa pn pc) := hA.cell rfl
  have hlt := hC.lt
  clear hW2
  go_enter Tryd.func25, Tryd.ntmps25
  go_wp2_with fail
  rw [HW.out]
  go_wp2_with fail
  refine HCl.out.mono ?_
  rintro e w4 ⟨sv, rfl, hown, hb4⟩
  obtain ⟨a5, c5, rfl, hr5⟩ := Rd.own hown
  have hge := own_fresh hown
  have hA4 := hA.below hb4 hA.lt
  have hC4 := hC.below hb4 hC.lt
  have d4 : w4.cell? ⟨w.heap.size, 4, none⟩ = some (.slice pa pn pc) := hA4.cell rfl
  have f4 : w4.frozen? ⟨w.heap.size, 4, none⟩ = false := hA4.fz 4
  have hA5 := hA4.set 4 (.slice a5 pn c5)
  simp only [List.setIfInBounds_toArray, List.set_cons_zero, List.set_cons_succ] at hA5
  have hC5 := hC4.other (a := ⟨w.heap.size, 4, none⟩) (by simp) (.slice a5 pn c5)
  have hK5 := (Kp.refl w.heap.size w4).setCell ⟨w.heap.size, 4, none⟩ rfl (.slice a5 pn c5)
  go_wp2_with (first
    | (refine wpList_blk_load rfl (.tmp 1) rfl Tryd.underlying38 rfl rfl hA5 Tryd.recI ?_)
    | (refine wpList_blk_store rfl (.tmp 2) (.tmp 7) rfl rfl rfl hC5 Tryd.recI rfl (by simp [Value.oneCell']) ?_; intro w6 hC6 hK6 hsz6))
  refine bodyPost_ret (results_cell_row rfl _ _ (w.heap.size + 1) 38 _ (0, 0) _ rfl hC6 Tryd.underlying38 rfl Tryd.recI) rfl ⟨a5, c5, rfl, ?_, ?_, fun g off e => by have := hge g off e; omega⟩
  · exact hK6.rd (hK5.rd hr5 (fun g off e => by have := hge g off e; omega)) (fun g off e => by have := hge g off e; omega)
  · have h4 : Below w.heap.size w w4 := hb.trans (hb4.mono hb.size)
    exact Kp.below (Kp.below h4 hK5 (Nat.le_refl _) h4.size) hK6 (by omega) (Nat.le_trans h4.size hK5.size)
end Go.Proofs.YteeeikkapnchlaaDoor
