/- a struct or array that lies in a block of its own, its cells kept behind a name; what is kept when one block is written; all but some blocks is kept; a struct stored into a part of a block that is known whole; a part of it loaded; regions that draw their order, whose operations read and whose callees lay blocks behind: walked once -/
import Derived.Test.YtpkknhhohbobaaaGreatDoorLib
import Derived.Laws.Tables
import Derived.Deep.MidRow
import Derived.Deep.QuietTactic
import Derived.BigQuiet
import Derived.Lib.QuietBelow
namespace Go.Proofs.YtpkknhhohbobaaaGreatDoor
set_option linter.unusedSimpArgs false
set_option linter.unusedVariables false
open Go.RowKit

/-- Block b holds just these cells. -/
def BlkAt (w : World) (b : Nat) (t : TypeId) (cs : Array Value) : Prop := w.heap[b]? = some (.cells cs t (0, 0))
section
variable {w w' : World} {b : Nat} {t : TypeId} {cs : Array Value}
theorem BlkAt.lt (h : BlkAt w b t cs) : b < w.heap.size := (Array.getElem?_eq_some_iff.1 h).1
theorem BlkAt.cell (h : BlkAt w b t cs) {i : Nat} {v : Value} (hi : cs[i]? = some v) : w.cell? ⟨b, i, none⟩ = some v := by rw [cell_of_row w b i _ _ _ h, hi]
theorem BlkAt.fz (h : BlkAt w b t cs) (i : Nat) : w.frozen? ⟨b, i, none⟩ = false := frozen_of_row w b i _ _ h
theorem BlkAt.set (h : BlkAt w b t cs) (i : Nat) (v : Value) : BlkAt (w.setCell ⟨b, i, none⟩ v) b t (cs.setIfInBounds i v) := heap_setCell_same w b i _ t v h
theorem BlkAt.other (h : BlkAt w b t cs) {a : Addr} (ha : b ≠ a.block) (u : Value) : BlkAt (w.setCell a u) b t cs := (heap_setCell_other w a b u ha).trans h
theorem BlkAt.below {B : Nat} (h : BlkAt w b t cs) (k : Below B w w') (hb : b < B) : BlkAt w' b t cs := (k.block b hb).trans h
theorem BlkAt.alloc (h : BlkAt w b t cs) (o : Obj) : BlkAt (w.alloc o) b t cs := (Below.heap_alloc w o b h.lt).trans h
theorem BlkAt.new (w : World) (t : TypeId) (cs : Array Value) : BlkAt (w.alloc (.cells cs t)) w.heap.size t cs := heap_alloc_new w _
theorem BlkAt.drew (h : BlkAt w b t cs) : BlkAt w.drew b t cs := h
theorem BlkAt.drewN (h : BlkAt w b t cs) (n : Nat) : BlkAt (w.drewN n) b t cs := h
end

/-- All but block b is kept. -/
structure Kp (b : Nat) (w w' : World) : Prop where
  os : w'.os = w.os
  tape : w'.tape = w.tape
  output : w'.output = w.output
  size : w.heap.size ≤ w'.heap.size
  block : ∀ k, k < w.heap.size → k ≠ b → w'.heap[k]? = w.heap[k]?
section
variable {b : Nat} {x y z : World}
theorem Kp.refl (b : Nat) (w : World) : Kp b w w := ⟨rfl, rfl, rfl, Nat.le_refl _, fun _ _ _ => rfl⟩
theorem Kp.trans (h : Kp b x y) (k : Kp b y z) : Kp b x z :=
  ⟨k.os.trans h.os, k.tape.trans h.tape, k.output.trans h.output, Nat.le_trans h.size k.size, fun i hi hb => (k.block i (Nat.lt_of_lt_of_le hi h.size) hb).trans (h.block i hi hb)⟩
theorem Kp.ofBelow (h : Below x.heap.size x y) : Kp b x y := ⟨h.os, h.tape, h.output, h.size, fun i hi _ => h.block i hi⟩
theorem Kp.drewN (h : Kp b x y) (n : Nat) : Kp b x (y.drewN n) := ⟨h.os, h.tape, h.output, h.size, h.block⟩
theorem Kp.drew (h : Kp b x y) : Kp b x y.drew := ⟨h.os, h.tape, h.output, h.size, h.block⟩
theorem Kp.setCell (h : Kp b x y) (a : Addr) (ha : a.block = b) (u : Value) : Kp b x (y.setCell a u) :=
  h.trans ⟨rfl, rfl, rfl, by simp [World.setCell], fun k _ hb => Below.heap_setCell _ _ _ _ (by rw [ha]; exact hb)⟩
theorem Kp.below {B : Nat} (h : Below B x y) (k : Kp b y z) (hb : B ≤ b) (hB : B ≤ y.heap.size) : Below B x z :=
  h.trans ⟨k.os, k.tape, k.output, k.size, fun i hi => k.block i (by omega) (by omega)⟩
theorem Kp.blk {c : Nat} {t : TypeId} {cs : Array Value} (k : Kp b x y) (h : BlkAt x c t cs) (hc : c ≠ b) : BlkAt y c t cs := (k.block c h.lt hc).trans h
theorem Kp.rd {size n c : Nat} {a : Option Addr} {xs : List Value} (k : Kp b x y) (h : Rd x size a n c xs) (hb : ∀ g off, a = some ⟨g, off, none⟩ → g ≠ b) : Rd y size a n c xs := by
  refine ⟨h.1, ?_⟩
  rcases h.2 with hn | ⟨g, off, rfl, hlt, hc⟩
  · exact .inl hn
  · exact .inr ⟨g, off, rfl, Nat.lt_of_lt_of_le hlt k.size, fun j u hu => by rw [World.cell?_of_block (w := x) (k.block g hlt (hb g off rfl))]; exact hc j u hu⟩
end

section
variable {P : Program} {w : World} {ops : Array Oper} {rest : List Oper} {o : Oper} {a : Act} {Q : Exit → Act → World → Prop} {t : TypeId}
theorem wpList_blk_build (hg : o.guard = none) (parts : Array (Nat × Operand)) (ho : o.op = .build t parts) {cs : Array Value}
    (hf : P.built t (parts.map fun (i, x) => (i, a.eval x)).toList = some cs)
    (h : wpList P ops Q rest (a.put o.dst (.agg cs)) w) : wpList P ops Q (o :: rest) a w :=
  wpList_build hg t parts ho (by rw [hf]; rfl) (by rw [hf]; exact h)
theorem wpList_blk_box (hg : o.guard = none) (x : Operand) (ho : o.op = .box t x) {cs : Array Value} (hx : a.eval x = .agg cs) (b : Nat) (hb : w.heap.size = b)
    (h : wpList P ops Q rest (a.put o.dst (.pointer (some ⟨b, 0, none⟩))) (w.alloc (.cells cs t))) : wpList P ops Q (o :: rest) a w := by
  subst hb
  refine wpList_plain hg fun K hK => ?_
  unfold Oper.wp
  simp [execOp, ho, hx, Instr.box, newVar, newRow, Value.cells, Result.andThen]
  exact hK _ _ h
theorem wpList_blk_alloc (hg : o.guard = none) (ho : o.op = .alloc t) {zs : Array Value} (hz : (P.info? t).map (·.zero) = some (some (.agg zs))) (b : Nat) (hb : w.heap.size = b)
    (h : wpList P ops Q rest (a.put o.dst (.pointer (some ⟨b, 0, none⟩))) (w.alloc (.cells zs t))) : wpList P ops Q (o :: rest) a w := by
  subst hb
  refine wpList_plain hg fun K hK => ?_
  obtain ⟨i, hi, hz⟩ : ∃ i, P.info? t = some i ∧ i.zero = some (.agg zs) := by
    cases h : P.info? t with
    | none => rw [h] at hz; cases hz
    | some i => rw [h] at hz; simp at hz; exact ⟨i, rfl, hz⟩
  unfold Oper.wp
  simp [execOp, ho, Instr.alloc, zeroValue, typeInfo, hi, hz, newVar, newRow, Value.cells, Result.andThen]
  exact hK _ _ h
theorem wpList_blk_load (hg : o.guard = none) (x : Operand) (ho : o.op = .load t x) {d : TypeDesc} (hu : P.underlying t = some d) (hd : (match d with | .struct _ | .array _ _ => true | _ => false) = true)
    {b : Nat} (hx : a.eval x = .pointer (some ⟨b, 0, none⟩)) {t' : TypeId} {cs : Array Value} (hb : BlkAt w b t' cs) (hi : (P.info? t).map (·.size) = some cs.size)
    (h : wpList P ops Q rest (a.put o.dst (.agg cs)) w) : wpList P ops Q (o :: rest) a w :=
  wpList_load_row hg t x ho b hx t' cs (0, 0) d hb hu hd hi h
theorem wpList_blk_store (hg : o.guard = none) (x y : Operand) (ho : o.op = .store t x y) {b : Nat} (hx : a.eval x = .pointer (some ⟨b, 0, none⟩)) {t' : TypeId} {old cs : Array Value} (hy : a.eval y = .agg cs) (hb : BlkAt w b t' old)
    (hi : (P.info? t).map (·.size) = some cs.size) (hs : old.size = cs.size) (h1 : cs.all (·.oneCell') = true)
    (h : ∀ w', BlkAt w' b t' cs → Kp b w w' → w'.heap.size = w.heap.size → wpList P ops Q rest (a.put o.dst undef) w') : wpList P ops Q (o :: rest) a w :=
  wpList_store_row hg t x y ho b cs hx hy t' old hb hi hs h1
    (h _ (setRow_heap w b _ _ t' (0, 0) hb) ⟨rfl, rfl, rfl, by simp, fun k _ hk => setRow_other w b k _ hk⟩ (size_setRow _ _ _))
end
end Go.Proofs.YtpkknhhohbobaaaGreatDoor
namespace Go.Proofs.YtpkknhhohbobaaaGreatDoor
set_option linter.unusedSimpArgs false
set_option linter.unusedVariables false
open Go.RowKit

/-- All but the blocks of O is kept. -/
structure KpO (O : Nat → Prop) (w w' : World) : Prop where
  os : w'.os = w.os
  tape : w'.tape = w.tape
  output : w'.output = w.output
  size : w.heap.size ≤ w'.heap.size
  block : ∀ k, k < w.heap.size → ¬ O k → w'.heap[k]? = w.heap[k]?
section
variable {O O' : Nat → Prop} {x y z : World}
theorem KpO.refl (O : Nat → Prop) (w : World) : KpO O w w := ⟨rfl, rfl, rfl, Nat.le_refl _, fun _ _ _ => rfl⟩
theorem KpO.trans (h : KpO O x y) (k : KpO O' y z) (hO : ∀ g, O' g → O g ∨ x.heap.size ≤ g) : KpO O x z :=
  ⟨k.os.trans h.os, k.tape.trans h.tape, k.output.trans h.output, Nat.le_trans h.size k.size, fun i hi hb => (k.block i (Nat.lt_of_lt_of_le hi h.size) (fun hc => by rcases hO i hc with h | h; exact hb h; omega)).trans (h.block i hi hb)⟩
theorem KpO.ofBelow (h : Below x.heap.size x y) : KpO O x y := ⟨h.os, h.tape, h.output, h.size, fun i hi _ => h.block i hi⟩
theorem KpO.ofKp {b : Nat} (h : Kp b x y) (hb : O b) : KpO O x y := ⟨h.os, h.tape, h.output, h.size, fun i hi hn => h.block i hi (fun e => hn (e ▸ hb))⟩
theorem KpO.drewN (h : KpO O x y) (n : Nat) : KpO O x (y.drewN n) := ⟨h.os, h.tape, h.output, h.size, h.block⟩
theorem KpO.drew (h : KpO O x y) : KpO O x y.drew := ⟨h.os, h.tape, h.output, h.size, h.block⟩
theorem KpO.below {B : Nat} (h : Below B x y) (k : KpO O y z) (hb : ∀ g, O g → B ≤ g) (hB : B ≤ y.heap.size) : Below B x z :=
  h.trans ⟨k.os, k.tape, k.output, k.size, fun i hi => k.block i (by omega) (fun hc => by have := hb i hc; omega)⟩
theorem KpO.blk {c : Nat} {t : TypeId} {cs : Array Value} (k : KpO O x y) (h : BlkAt x c t cs) (hc : ¬ O c) : BlkAt y c t cs := (k.block c h.lt hc).trans h
theorem KpO.rd {size n c : Nat} {a : Option Addr} {xs : List Value} (k : KpO O x y) (h : Rd x size a n c xs) (hb : ∀ g off, a = some ⟨g, off, none⟩ → ¬ O g) : Rd y size a n c xs := by
  refine ⟨h.1, ?_⟩
  rcases h.2 with hn | ⟨g, off, rfl, hlt, hc⟩
  · exact .inl hn
  · exact .inr ⟨g, off, rfl, Nat.lt_of_lt_of_le hlt k.size, fun j u hu => by rw [World.cell?_of_block (w := x) (k.block g hlt (hb g off rfl))]; exact hc j u hu⟩
end
theorem own_keep {w w' : World} {B : Nat} {e : TypeId} {sz : Nat} {v : Value} {n : Nat} {xs : List Value} (h : w.ownsRow B e sz v n xs) (hk : ∀ g, v.ownBlock = some g → g < w.heap.size → w'.heap[g]? = w.heap[g]?) : w'.ownsRow B e sz v n xs := by
  have hlt := h.lt
  obtain ⟨h1, h2⟩ := h
  refine ⟨h1, ?_⟩
  rcases h2 with h2 | ⟨g, cap, cur, rfl, hb, hg, h3⟩
  · exact .inl h2
  · exact .inr ⟨g, cap, cur, rfl, hb, (hk g rfl (hlt g rfl).2).trans hg, h3⟩
theorem own_belowB {w w' : World} {B : Nat} {e : TypeId} {sz : Nat} {v : Value} {n : Nat} {xs : List Value} (h : w.ownsRow B e sz v n xs) (hb : Below w.heap.size w w') : w'.ownsRow B e sz v n xs :=
  own_keep h fun g _ hlt => hb.block g hlt

theorem KpO.setCell {O : Nat → Prop} {x y : World} (k : KpO O x y) (a : Addr) (ha : O a.block) (u : Value) : KpO O x (y.setCell a u) :=
  k.trans (KpO.ofKp ((Kp.refl a.block y).setCell a rfl u) ha) (fun g hg => .inl hg)
theorem KpO.ofGrown {O : Nat → Prop} {x y : World} {row : Option Nat} (g : x.grownBy y row) (hO : ∀ k, row = some k → O k) : KpO O x y :=
  ⟨g.os, g.tape, g.output, g.size, fun k hk hn => g.block k hk (fun e => hn (hO k e.symm))⟩
end Go.Proofs.YtpkknhhohbobaaaGreatDoor
namespace Go.Proofs.YtpkknhhohbobaaaGreatDoor
set_option linter.unusedSimpArgs false
set_option linter.unusedVariables false
open Go.RowKit

/-- The cells with vs from o on. -/
def setArr : Array Value → Nat → List Value → Array Value
  | cs, _, [] => cs
  | cs, o, v :: r => setArr (cs.setIfInBounds o v) (o + 1) r
section
variable {w : World} {b : Nat} {t : TypeId}
theorem setArr_size : ∀ (vs : List Value) (o : Nat) (cs : Array Value), (setArr cs o vs).size = cs.size
  | [], _, _ => rfl
  | v :: r, o, cs => by rw [setArr, setArr_size r]; simp
theorem BlkAt.setCells : ∀ (vs : List Value) (o : Nat) (w : World) (cs : Array Value), BlkAt w b t cs → BlkAt (w.setCells b o vs) b t (setArr cs o vs)
  | [], _, _, _, h => h
  | v :: r, o, w, cs, h => BlkAt.setCells r (o + 1) _ _ (h.set o v)
theorem Kp.setCells {x : World} : ∀ (vs : List Value) (o : Nat) (w : World), Kp b x w → Kp b x (w.setCells b o vs)
  | [], _, _, h => h
  | v :: r, o, w, h => Kp.setCells r (o + 1) _ (h.setCell ⟨b, o, none⟩ rfl v)
theorem setCells_size : ∀ (vs : List Value) (o : Nat) (w : World), (w.setCells b o vs).heap.size = w.heap.size
  | [], _, _ => rfl
  | v :: r, o, w => by rw [World.setCells, setCells_size r]; simp [World.setCell]
theorem BlkAt.there {cs : Array Value} (h : BlkAt w b t cs) {o n : Nat} (hn : o + n ≤ cs.size) : w.there b o n := fun j hj =>
  ⟨by rw [h.cell (i := o + j) (Array.getElem?_eq_getElem (by omega))]; rfl, h.fz _⟩
theorem BlkAt.range {cs : Array Value} (h : BlkAt w b t cs) {o : Nat} {vs : List Value} (hv : ∀ j v, vs[j]? = some v → cs[o + j]? = some v) : w.rangeAt b o vs := fun j v hj => h.cell (hv j v hj)
end
section
variable {P : Program} {w : World} {ops : Array Oper} {rest : List Oper} {o : Oper} {a : Act} {Q : Exit → Act → World → Prop} {t : TypeId}
theorem wpList_blk_put (hg : o.guard = none) (x y : Operand) (ho : o.op = .store t x y) {b p : Nat} (hx : a.eval x = .pointer (some ⟨b, p, none⟩)) {t' : TypeId} {old cs : Array Value} (hy : a.eval y = .agg cs) (hb : BlkAt w b t' old)
    (hi : (P.info? t).map (·.size) = some cs.size) (hs : p + cs.size ≤ old.size) (h1 : cs.all (·.oneCell') = true)
    (h : ∀ w', BlkAt w' b t' (setArr old p cs.toList) → Kp b w w' → w'.heap.size = w.heap.size → wpList P ops Q rest (a.put o.dst undef) w') : wpList P ops Q (o :: rest) a w :=
  wpList_store_mid hg t x y ho b p cs hx hy (hb.there hs) hi h1 (h _ (hb.setCells _ _ _) (Kp.setCells _ _ _ (Kp.refl _ _)) (setCells_size _ _ _))
theorem wpList_blk_get (hg : o.guard = none) (x : Operand) (ho : o.op = .load t x) {b p : Nat} (hx : a.eval x = .pointer (some ⟨b, p, none⟩)) {t' : TypeId} {old cs : Array Value} (hb : BlkAt w b t' old) {d : TypeDesc}
    (hu : P.underlying t = some d) (hd : d.isRow = true) (hi : (P.info? t).map (·.size) = some cs.size) (hv : ∀ j v, cs.toList[j]? = some v → old[p + j]? = some v)
    (h : wpList P ops Q rest (a.put o.dst (.agg cs)) w) : wpList P ops Q (o :: rest) a w :=
  wpList_load_mid hg t x ho b p hx cs.toList d (hb.range hv) hu hd (by simpa using hi) h
end
end Go.Proofs.YtpkknhhohbobaaaGreatDoor
namespace Go.Proofs.YtpkknhhohbobaaaGreatDoor
set_option linter.unusedSimpArgs false
set_option linter.unusedVariables false
open Go.RowKit Go.Sort

theorem wpQuiet_blk_load {P : Program} {ops : Array Oper} {w : World} {Q : Act → Prop} {a : Act} {o : Oper} {rest : List Oper} (hw : Region.wanted o (yielded ops a.tmps) = true) {t : TypeId} (x : Operand) (ho : o.op = .load t x)
    {d : TypeDesc} (hu : P.underlying t = some d) (hd : (match d with | .struct _ | .array _ _ => true | _ => false) = true) {b : Nat} (hx : a.eval x = .pointer (some ⟨b, 0, none⟩)) {t' : TypeId} {cs : Array Value} (hb : BlkAt w b t' cs) (hi : (P.info? t).map (·.size) = some cs.size)
    (h : wpQuiet P ops (fun w' => ∃ p : Regrown, w' = grow (redrawn w p.d) p.os) Q rest (a.put o.dst (.agg cs))) : wpQuiet P ops (fun w' => ∃ p : Regrown, w' = grow (redrawn w p.d) p.os) Q (o :: rest) a :=
  wpQuiet_step fun K hK => by
    rw [if_pos hw]
    refine ⟨_, fun w' hw' => ?_, hK _ h⟩
    obtain ⟨p, rfl⟩ := hw'
    have hb' := hb.below (below_regrown w p.d p.os) hb.lt
    unfold Oper.quietAt
    simp only [execOp, ho, hx, Instr.loadAt, Instr.sureAddr, Sem.run_bind, Sem.run_pure, Result.andThen_ok, run_loadVar_row _ b _ _ _ _ _ hb' hu hd hi]
    exact ⟨rfl, rfl⟩
/-- Any operation that yields one value in every world. -/
theorem wpQuiet_run {P : Program} {ops : Array Oper} {C : World → Prop} {Q : Act → Prop} {a : Act} {o : Oper} {rest : List Oper} (hw : Region.wanted o (yielded ops a.tmps) = true) (r : Value) (hrun : ∀ W, (execOp a.eval o).run P W = .ok (.value r) W) (h : wpQuiet P ops C Q rest (a.put o.dst r)) : wpQuiet P ops C Q (o :: rest) a :=
  wpQuiet_step fun K hK => by
    rw [if_pos hw]
    refine ⟨r, fun w' _ => ?_, hK _ h⟩
    unfold Oper.quietAt
    rw [hrun w']
    exact ⟨rfl, rfl⟩
theorem run_eqGuard_agg {P : Program} {t : TypeId} (h : P.eqGuardType P.depth t = false) (b : BinOp) (x y : Operand) (xs ys : Array Value) (w : World) : (eqGuard b t x y (.agg xs) (.agg ys)).run P w = .ok () w := by
  cases b <;> simp [eqGuard, h]
/-- Two structs are compared, by the comparison's run, in a quiet walk; in a plain one. -/
theorem wpQuiet_agg {P : Program} {ops : Array Oper} {C : World → Prop} {Q : Act → Prop} {a : Act} {o : Oper} {rest : List Oper} (hw : Region.wanted o (yielded ops a.tmps) = true) {b : BinOp} {t : TypeId} (hg : P.eqGuardType P.depth t = false) (x y : Operand) (t2 : TypeId) (ho : o.op = .binOp b t x y t2) {u v : Array Value} {r : Value} (hx : a.eval x = .agg u) (hy : a.eval y = .agg v)
    (hrun : ∀ W, (binOp b t (.agg u) (.agg v)).run P W = .ok r W) (h : wpQuiet P ops C Q rest (a.put o.dst r)) : wpQuiet P ops C Q (o :: rest) a :=
  wpQuiet_step fun K hK => by
    rw [if_pos hw]
    refine ⟨r, fun w' _ => ?_, hK _ h⟩
    unfold Oper.quietAt
    simp only [execOp, ho, hx, hy, Sem.run_bind, Sem.run_pure, run_eqGuard_agg hg, hrun w', Result.andThen_ok]
    exact ⟨rfl, rfl⟩
theorem wpList_agg {P : Program} {w : World} {ops : Array Oper} {rest : List Oper} {o : Oper} {a : Act} {Q : Exit → Act → World → Prop} (hgd : o.guard = none) {b : BinOp} {t : TypeId} (hg : P.eqGuardType P.depth t = false) (x y : Operand) (t2 : TypeId) (ho : o.op = .binOp b t x y t2) {u v : Array Value} {r : Value} (hx : a.eval x = .agg u) (hy : a.eval y = .agg v)
    (hrun : ∀ W, (binOp b t (.agg u) (.agg v)).run P W = .ok r W) (h : wpList P ops Q rest (a.put o.dst r) w) : wpList P ops Q (o :: rest) a w := by
  refine wpList_plain hgd fun K hK => ?_
  unfold Oper.wp
  simp only [execOp, ho, hx, hy, Sem.run_bind, Sem.run_pure, run_eqGuard_agg hg, hrun w, Result.andThen_ok]
  exact hK _ _ h
end Go.Proofs.YtpkknhhohbobaaaGreatDoor
