/- laws for arrays of 64 bools that lie in a block of their own -/
import Derived.Test.YtcgfpolklfhppaaDoorLib
import Derived.Laws.Tables
namespace Go.Proofs.YtcgfpolklfhppaaDoor
open Go.RowKit

/-- The 64 cells. -/
def arrV (f : Nat → Bool) : Array Value := ((List.range 64).map fun i => Value.bool (f i)).toArray
theorem arrV_size (f : Nat → Bool) : (arrV f).size = 64 := by simp [arrV]
theorem arrV_get (f : Nat → Bool) (i : Nat) (h : i < 64) : (arrV f)[i]? = some (.bool (f i)) := by simp [arrV, h]
theorem arrV_one (f : Nat → Bool) : (arrV f).all (·.oneCell') = true := by
  rw [Array.all_eq_true]
  intro i h
  simp [arrV, Value.oneCell']
theorem arrV_set (f : Nat → Bool) (k : Nat) (b : Bool) (hk : k < 64) : (arrV f).setIfInBounds k (.bool b) = arrV fun i => if i = k then b else f i := by
  apply Array.ext_getElem?
  intro i
  rw [Array.getElem?_setIfInBounds, arrV_size]
  by_cases h : i < 64
  · rw [arrV_get _ i h, arrV_get _ i h]
    by_cases e : k = i
    · subst e; simp [h]
    · simp [e, Ne.symm e]
  · have : k ≠ i := by omega
    rw [if_neg this]
    simp [arrV, h]
theorem arrV_congr {f g : Nat → Bool} (h : ∀ i, i < 64 → f i = g i) : arrV f = arrV g := by
  rw [arrV, arrV, List.map_congr_left fun i hi => by rw [h i (List.mem_range.1 hi)]]
/-- Block b holds the array f. -/
def ArrAt (w : World) (b : Nat) (t : TypeId) (f : Nat → Bool) : Prop := w.heap[b]? = some (.cells (arrV f) t (0, 0))
section
variable {w w' : World} {b : Nat} {t : TypeId} {f : Nat → Bool}
theorem ArrAt.lt (h : ArrAt w b t f) : b < w.heap.size := (Array.getElem?_eq_some_iff.1 h).1
theorem ArrAt.cell (h : ArrAt w b t f) (i : Nat) (hi : i < 64) : w.cell? ⟨b, i, none⟩ = some (.bool (f i)) := by rw [cell_of_row w b i _ _ _ h, arrV_get f i hi]
theorem ArrAt.fz (h : ArrAt w b t f) (i : Nat) : w.frozen? ⟨b, i, none⟩ = false := frozen_of_row w b i _ _ h
theorem ArrAt.set (h : ArrAt w b t f) (k : Nat) (x : Bool) (hk : k < 64) : ArrAt (w.setCell ⟨b, k, none⟩ (.bool x)) b t fun i => if i = k then x else f i := by
  have := heap_setCell_same w b k _ t (.bool x) h
  rwa [arrV_set f k x hk] at this
theorem ArrAt.other (h : ArrAt w b t f) {a : Addr} (ha : b ≠ a.block) (u : Value) : ArrAt (w.setCell a u) b t f := (heap_setCell_other w a b u ha).trans h
theorem ArrAt.below {B : Nat} (h : ArrAt w b t f) (k : Below B w w') (hb : b < B) : ArrAt w' b t f := (k.block b hb).trans h
theorem ArrAt.congr (h : ArrAt w b t f) {g : Nat → Bool} (hg : ∀ i, i < 64 → f i = g i) : ArrAt w b t g := by
  unfold ArrAt; rw [← arrV_congr hg]; exact h
theorem ArrAt.alloc (h : ArrAt w b t f) (o : Obj) : ArrAt (w.alloc o) b t f := (Below.heap_alloc w o b h.lt).trans h
theorem ArrAt.new (w : World) (t : TypeId) (f : Nat → Bool) : ArrAt (w.alloc (.cells (arrV f) t)) w.heap.size t f := heap_alloc_new w _
end
/-- What the type [64]bool says. -/
structure BArr (P : Program) (t e : TypeId) : Prop where
  ty : P.underlying t = some (.array 64 e)
  info : (P.info? t).map (fun i => (i.zero, i.size)) = some (some (.agg (arrV fun _ => false)), 64)
  ety : P.underlying e = some .bool
  einfo : (P.info? e).map (·.size) = some 1
theorem BArr.size {P : Program} {t e : TypeId} (A : BArr P t e) (f : Nat → Bool) : (P.info? t).map (·.size) = some (arrV f).size := by
  have := A.info
  rw [arrV_size]
  cases h : P.info? t with
  | none => rw [h] at this; cases this
  | some i => rw [h] at this; simp at this; simp [this.2]
section
variable {P : Program} {w : World} {ops : Array Oper} {rest : List Oper} {o : Oper} {a : Act} {Q : Exit → Act → World → Prop} {t e : TypeId}
theorem wpList_arr_alloc (A : BArr P t e) (hg : o.guard = none) (ho : o.op = .alloc t) (b : Nat) (hb : w.heap.size = b)
    (h : wpList P ops Q rest (a.put o.dst (.pointer (some ⟨b, 0, none⟩))) (w.alloc (.cells (arrV fun _ => false) t))) : wpList P ops Q (o :: rest) a w := by
  subst hb
  refine wpList_plain hg fun K hK => ?_
  obtain ⟨i, hi, hz, _⟩ : ∃ i, P.info? t = some i ∧ i.zero = some (.agg (arrV fun _ => false)) ∧ i.size = 64 := by
    have := A.info
    cases h : P.info? t with
    | none => rw [h] at this; cases this
    | some i => rw [h] at this; simp at this; exact ⟨i, rfl, this⟩
  unfold Oper.wp
  simp [execOp, ho, Instr.alloc, zeroValue, typeInfo, hi, hz, newVar, newRow, Value.cells, Result.andThen]
  exact hK _ _ h
theorem wpList_arr_box (hg : o.guard = none) (x : Operand) (ho : o.op = .box t x) (f : Nat → Bool) (hx : a.eval x = .agg (arrV f))
    (h : wpList P ops Q rest (a.put o.dst (.pointer (some ⟨w.heap.size, 0, none⟩))) (w.alloc (.cells (arrV f) t))) : wpList P ops Q (o :: rest) a w := by
  refine wpList_plain hg fun K hK => ?_
  unfold Oper.wp
  simp [execOp, ho, hx, Instr.box, newVar, newRow, Value.cells, Result.andThen]
  exact hK _ _ h
theorem wpList_arr_load (A : BArr P t e) (hg : o.guard = none) (x : Operand) (ho : o.op = .load t x) (b : Nat) (hx : a.eval x = .pointer (some ⟨b, 0, none⟩)) (f : Nat → Bool) (hb : ArrAt w b t f)
    (h : wpList P ops Q rest (a.put o.dst (.agg (arrV f))) w) : wpList P ops Q (o :: rest) a w :=
  wpList_load_row hg t x ho b hx t (arrV f) (0, 0) _ hb A.ty rfl (A.size f) h
theorem wpList_arr_store (A : BArr P t e) (hg : o.guard = none) (x y : Operand) (ho : o.op = .store t x y) (b : Nat) (hx : a.eval x = .pointer (some ⟨b, 0, none⟩)) (f g : Nat → Bool) (hy : a.eval y = .agg (arrV g)) (hb : ArrAt w b t f)
    (h : ∀ w', ArrAt w' b t g → (∀ k, k ≠ b → w'.heap[k]? = w.heap[k]?) → w'.heap.size = w.heap.size → w'.os = w.os → w'.tape = w.tape → w'.output = w.output → wpList P ops Q rest (a.put o.dst undef) w') : wpList P ops Q (o :: rest) a w :=
  wpList_store_row hg t x y ho b (arrV g) hx hy t (arrV f) hb (A.size g) (by rw [arrV_size, arrV_size]) (arrV_one g)
    (h _ (setRow_heap w b _ _ t (0, 0) hb) (fun k hk => setRow_other w b k _ hk) (size_setRow _ _ _) rfl rfl rfl)
theorem run_arr_index (A : BArr P t e) (w : World) (f : Nat → Bool) (i : Nat) (hi : i < 64) : (Instr.index t (.agg (arrV f)) (.int .i64 i)).run P w = .ok (.bool (f i)) w := by
  obtain ⟨ei, he, hs⟩ : ∃ i, P.info? e = some i ∧ i.size = 1 := by
    have := A.einfo
    cases h : P.info? e with
    | none => rw [h] at this; cases this
    | some i => rw [h] at this; simp at this; exact ⟨i, rfl, this⟩
  have h0 : (i : Int) < 64 := by omega
  simp [Instr.index, asIntOf, run_underlying A.ty, run_underlying A.ety, sizeOf, typeInfo, he, hs, part, isAgg, arrV_get f i hi, Result.andThen, h0]
  intro h; omega
end
end Go.Proofs.YtcgfpolklfhppaaDoor
