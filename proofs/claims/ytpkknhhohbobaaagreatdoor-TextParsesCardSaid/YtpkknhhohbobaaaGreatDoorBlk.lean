/- a struct or array that lies in a block of its own, its cells kept behind a name; what is kept when one block is written -/
import Derived.Test.YtpkknhhohbobaaaGreatDoorLib
import Derived.Laws.Tables
namespace Go.Proofs.YtpkknhhohbobaaaGreatDoor
set_option linter.unusedSimpArgs false
set_option linter.unusedVariables false
open Go.RowKit

/-- Block b holds just these cells. -/
def BlkAt (w : World) (b : Nat) (t : TypeId) (cs : Array Value) : Prop := w.heap[b]? = some (.cells cs t (0, 0))
section
variable {w w' : World} {b : Nat} {t : TypeId} {cs : Array Value}
theorem BlkAt.lt (h : BlkAt w b t cs) : b < w.heap.size := (Array.getElem?_eq_some_iff.1 h).1
theorem BlkAt.cell (h : BlkAt w b t cs) {i : Nat} {v : Value} (hi : cs[i]? = some v) : w.cell? ⟨b, i, none⟩ = some v := by rw [cell_of_row w b i _ _ _ h, hi]
theorem BlkAt.fz (h : BlkAt w b t cs) (i : Nat) : w.frozen? ⟨b, i, none⟩ = false := frozen_of_row w b i _ _ h
theorem BlkAt.set (h : BlkAt w b t cs) (i : Nat) (v : Value) : BlkAt (w.setCell ⟨b, i, none⟩ v) b t (cs.setIfInBounds i v) := heap_setCell_same w b i _ t v h
theorem BlkAt.other (h : BlkAt w b t cs) {a : Addr} (ha : b ≠ a.block) (u : Value) : BlkAt (w.setCell a u) b t cs := (heap_setCell_other w a b u ha).trans h
theorem BlkAt.below {B : Nat} (h : BlkAt w b t cs) (k : Below B w w') (hb : b < B) : BlkAt w' b t cs := (k.block b hb).trans h
theorem BlkAt.alloc (h : BlkAt w b t cs) (o : Obj) : BlkAt (w.alloc o) b t cs := (Below.heap_alloc w o b h.lt).trans h
theorem BlkAt.new (w : World) (t : TypeId) (cs : Array Value) : BlkAt (w.alloc (.cells cs t)) w.heap.size t cs := heap_alloc_new w _
theorem BlkAt.drew (h : BlkAt w b t cs) : BlkAt w.drew b t cs := h
theorem BlkAt.drewN (h : BlkAt w b t cs) (n : Nat) : BlkAt (w.drewN n) b t cs := h
end

/-- All but block b is kept. -/
structure Kp (b : Nat) (w w' : World) : Prop where
  os : w'.os = w.os
  tape : w'.tape = w.tape
  output : w'.output = w.output
  size : w.heap.size ≤ w'.heap.size
  block : ∀ k, k < w.heap.size → k ≠ b → w'.heap[k]? = w.heap[k]?
section
variable {b : Nat} {x y z : World}
theorem Kp.refl (b : Nat) (w : World) : Kp b w w := ⟨rfl, rfl, rfl, Nat.le_refl _, fun _ _ _ => rfl⟩
theorem Kp.trans (h : Kp b x y) (k : Kp b y z) : Kp b x z :=
  ⟨k.os.trans h.os, k.tape.trans h.tape, k.output.trans h.output, Nat.le_trans h.size k.size, fun i hi hb => (k.block i (Nat.lt_of_lt_of_le hi h.size) hb).trans (h.block i hi hb)⟩
theorem Kp.ofBelow (h : Below x.heap.size x y) : Kp b x y := ⟨h.os, h.tape, h.output, h.size, fun i hi _ => h.block i hi⟩
theorem Kp.drewN (h : Kp b x y) (n : Nat) : Kp b x (y.drewN n) := ⟨h.os, h.tape, h.output, h.size, h.block⟩
theorem Kp.drew (h : Kp b x y) : Kp b x y.drew := ⟨h.os, h.tape, h.output, h.size, h.block⟩
theorem Kp.setCell (h : Kp b x y) (a : Addr) (ha : a.block = b) (u : Value) : Kp b x (y.setCell a u) :=
  h.trans ⟨rfl, rfl, rfl, by simp [World.setCell], fun k _ hb => Below.heap_setCell _ _ _ _ (by rw [ha]; exact hb)⟩
theorem Kp.below {B : Nat} (h : Below B x y) (k : Kp b y z) (hb : B ≤ b) (hB : B ≤ y.heap.size) : Below B x z :=
  h.trans ⟨k.os, k.tape, k.output, k.size, fun i hi => k.block i (by omega) (by omega)⟩
theorem Kp.blk {c : Nat} {t : TypeId} {cs : Array Value} (k : Kp b x y) (h : BlkAt x c t cs) (hc : c ≠ b) : BlkAt y c t cs := (k.block c h.lt hc).trans h
theorem Kp.rd {size n c : Nat} {a : Option Addr} {xs : List Value} (k : Kp b x y) (h : Rd x size a n c xs) (hb : ∀ g off, a = some ⟨g, off, none⟩ → g ≠ b) : Rd y size a n c xs := by
  refine ⟨h.1, ?_⟩
  rcases h.2 with hn | ⟨g, off, rfl, hlt, hc⟩
  · exact .inl hn
  · exact .inr ⟨g, off, rfl, Nat.lt_of_lt_of_le hlt k.size, fun j u hu => by rw [World.cell?_of_block (w := x) (k.block g hlt (hb g off rfl))]; exact hc j u hu⟩
end

section
variable {P : Program} {w : World} {ops : Array Oper} {rest : List Oper} {o : Oper} {a : Act} {Q : Exit → Act → World → Prop} {t : TypeId}
theorem wpList_blk_build (hg : o.guard = none) (parts : Array (Nat × Operand)) (ho : o.op = .build t parts) {cs : Array Value}
    (hf : P.built t (parts.map fun (i, x) => (i, a.eval x)).toList = some cs)
    (h : wpList P ops Q rest (a.put o.dst (.agg cs)) w) : wpList P ops Q (o :: rest) a w :=
  wpList_build hg t parts ho (by rw [hf]; rfl) (by rw [hf]; exact h)
theorem wpList_blk_box (hg : o.guard = none) (x : Operand) (ho : o.op = .box t x) {cs : Array Value} (hx : a.eval x = .agg cs) (b : Nat) (hb : w.heap.size = b)
    (h : wpList P ops Q rest (a.put o.dst (.pointer (some ⟨b, 0, none⟩))) (w.alloc (.cells cs t))) : wpList P ops Q (o :: rest) a w := by
  subst hb
  refine wpList_plain hg fun K hK => ?_
  unfold Oper.wp
  simp [execOp, ho, hx, Instr.box, newVar, newRow, Value.cells, Result.andThen]
  exact hK _ _ h
theorem wpList_blk_alloc (hg : o.guard = none) (ho : o.op = .alloc t) {zs : Array Value} (hz : (P.info? t).map (·.zero) = some (some (.agg zs))) (b : Nat) (hb : w.heap.size = b)
    (h : wpList P ops Q rest (a.put o.dst (.pointer (some ⟨b, 0, none⟩))) (w.alloc (.cells zs t))) : wpList P ops Q (o :: rest) a w := by
  subst hb
  refine wpList_plain hg fun K hK => ?_
  obtain ⟨i, hi, hz⟩ : ∃ i, P.info? t = some i ∧ i.zero = some (.agg zs) := by
    cases h : P.info? t with
    | none => rw [h] at hz; cases hz
    | some i => rw [h] at hz; simp at hz; exact ⟨i, rfl, hz⟩
  unfold Oper.wp
  simp [execOp, ho, Instr.alloc, zeroValue, typeInfo, hi, hz, newVar, newRow, Value.cells, Result.andThen]
  exact hK _ _ h
theorem wpList_blk_load (hg : o.guard = none) (x : Operand) (ho : o.op = .load t x) {d : TypeDesc} (hu : P.underlying t = some d) (hd : (match d with | .struct _ | .array _ _ => true | _ => false) = true)
    {b : Nat} (hx : a.eval x = .pointer (some ⟨b, 0, none⟩)) {t' : TypeId} {cs : Array Value} (hb : BlkAt w b t' cs) (hi : (P.info? t).map (·.size) = some cs.size)
    (h : wpList P ops Q rest (a.put o.dst (.agg cs)) w) : wpList P ops Q (o :: rest) a w :=
  wpList_load_row hg t x ho b hx t' cs (0, 0) d hb hu hd hi h
theorem wpList_blk_store (hg : o.guard = none) (x y : Operand) (ho : o.op = .store t x y) {b : Nat} (hx : a.eval x = .pointer (some ⟨b, 0, none⟩)) {t' : TypeId} {old cs : Array Value} (hy : a.eval y = .agg cs) (hb : BlkAt w b t' old)
    (hi : (P.info? t).map (·.size) = some cs.size) (hs : old.size = cs.size) (h1 : cs.all (·.oneCell') = true)
    (h : ∀ w', BlkAt w' b t' cs → Kp b w w' → w'.heap.size = w.heap.size → wpList P ops Q rest (a.put o.dst undef) w') : wpList P ops Q (o :: rest) a w :=
  wpList_store_row hg t x y ho b cs hx hy t' old hb hi hs h1
    (h _ (setRow_heap w b _ _ t' (0, 0) hb) ⟨rfl, rfl, rfl, by simp, fun k _ hk => setRow_other w b k _ hk⟩ (size_setRow _ _ _))
end
end Go.Proofs.YtpkknhhohbobaaaGreatDoor
