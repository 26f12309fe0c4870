/- an append in a region that draws its order; held walks by hand: a struct's building, taken first -/
import Derived.BigQuiet
import Derived.BigRegion
import Derived.Deep.QuietTactic
import Derived.Deep.RegionHeld3
import Derived.Deep.RegionLaw
import Derived.Laws.Tables
import Derived.Deep.AppendLies
import Derived.Lib.LazyBuf
import Derived.Lib.SliceRun
import Derived.RegionTactic
import Derived.StillTailTactics
import Derived.Test.YtpkknhhohbobaaaGreatDoorLib
import Derived.Great.BuildSlice
namespace Go.Proofs.YtpkknhhohbobaaaGreatDoor
set_option linter.unusedSimpArgs false
set_option linter.unusedVariables false
open Go.RowKit
theorem step_append_rd {P : Program} {w : World} {ops : Array Oper} {o : Oper} {a : Act} {K : Act → World → Prop} {Q : Exit → Act → World → Prop} {E' : Prop} {t e : TypeId} {z : Value} {size bytes : Nat} (E : Elt P t e z size bytes) (hgd : o.guard = none) (s x : Operand)
    (ho : o.op = .call { callee := .builtin .append, args := #[s, x], argTypes := #[t, t] })
    {base : Nat} {v : Value} {n : Nat} {xs : List Value} (hs : a.eval s = v) (hown : w.ownsRow base e size v n xs)
    {b off m c : Nat} {news : List Value} (hx : a.eval x = .slice (some ⟨b, off, none⟩) m c) (hr : Rd w size (some ⟨b, off, none⟩) m c news) (hm : 0 < m) (h1 : ∀ u ∈ news, u.oneCell' = true)
    (h63 : n + m ≤ maxLen) (hbytes : (n + m) * bytes ≤ 140737488355328) (hbase : base ≤ w.heap.size)
    (h : ∀ v' w', w'.ownsRow base e size v' (n + m) (xs ++ news) → w.grownBy w' v.ownBlock → K (a.put o.dst v') w') : if Region.wanted o (yielded ops a.tmps) = true then Oper.wp P o a w K Q else E' := by
  obtain ⟨i, hi, hz0, hz1, hz2⟩ := info_parts E.info
  rw [if_pos (by simp [Region.wanted, hgd])]
  refine wp_append_own w s x t ho base e i z size bytes E.ty hi hz0 hz1 hz2 E.cells E.pos v n xs hs hown ⟨b, off, none⟩ m c news hx hr.length_eq (fun j u hu => ?_) h1 h63 hbytes hbase (fun v' w' h2 h3 _ => h v' w' h2 h3)
  rw [add_zero_off]; exact hr.at hu
theorem step_build {P : Program} {w : World} {ops : Array Oper} {o : Oper} {a : Act} {K : Act → World → Prop} {Q : Exit → Act → World → Prop} {E' : Prop} (hgd : o.guard = none) (t : TypeId) (parts : Array (Nat × Operand)) (ho : o.op = .build t parts) {cs : Array Value}
    (hf : P.built t (parts.map fun (i, x) => (i, a.eval x)).toList = some cs) (h : K (a.put o.dst (.agg cs)) w) : if Region.wanted o (yielded ops a.tmps) = true then Oper.wp P o a w K Q else E' := by
  rw [if_pos (by simp [Region.wanted, hgd])]
  exact wp_build t parts ho (by rw [hf]; rfl) (by rw [hf]; exact h)
end Go.Proofs.YtpkknhhohbobaaaGreatDoor
namespace Go.Proofs.YtpkknhhohbobaaaGreatDoor
set_option linter.unusedSimpArgs false
set_option linter.unusedVariables false
open Go.RowKit

theorem yieldsIf_build {P : Program} {ops : Array Oper} {S : World → Prop} {o : Oper} {a : Act} (hw : Region.wanted o (yielded ops a.tmps) = true) (t : TypeId) (parts : Array (Nat × Operand)) (ho : o.op = .build t parts) {cs : Array Value}
    (hf : P.built t (parts.map fun (i, x) => (i, a.eval x)).toList = some cs) : YieldsIf P ops S o (.agg cs) a :=
  .inl ⟨hw, fun w _ => by
    unfold execOp
    simp only [ho, Sem.run_bind, run_build w t _ cs hf, Result.andThen_ok]
    rfl⟩
theorem step_buildSlice {P : Program} {w : World} {ops : Array Oper} {o : Oper} {a : Act} {K : Act → World → Prop} {Q : Exit → Act → World → Prop} {E' : Prop} (d : Option Tmp) (hd : o.dst = d) (hgd : o.guard = none) (t e : TypeId) (len : Nat) (parts : Array (Nat × Operand)) (ho : o.op = .buildSlice t len parts)
    {z : Value} {size bytes : Nat} (E : Elt P t e z size bytes) (hlen : 0 < len) (hsm : len * size ≤ 16777216) (cells : Array Value)
    (hf : Instr.fill (fun i => some (i * size, size)) ((Array.range (len * size)).map (z.cells[· % z.cells.size]!)) (parts.map fun (i, x) => (i, a.eval x)).toList = some cells)
    (h : K (a.put d (.slice (some ⟨w.heap.size, 0, none⟩) len len)) (w.alloc (.cells cells e))) : if Region.wanted o (yielded ops a.tmps) = true then Oper.wp P o a w K Q else E' := by
  subst hd
  obtain ⟨i, hi, hz0, hz1, hz2⟩ := info_parts E.info
  have hp := E.pos
  rw [if_pos (by simp [Region.wanted, hgd])]
  refine wp_buildSlice t e len parts ho cells i z E.ty hi hz0 (by rw [hz1]; omega) (by rw [hz1]; exact Nat.ne_of_gt (Nat.mul_pos hlen hp)) (by rw [hz1]; exact hf) h
/-- A slice literal of one struct. -/
theorem step_buildSlice1 {P : Program} {w : World} {ops : Array Oper} {o : Oper} {a : Act} {K : Act → World → Prop} {Q : Exit → Act → World → Prop} {E' : Prop} (d : Option Tmp) (hd : o.dst = d) (hgd : o.guard = none) (t e : TypeId) (x : Operand) (ho : o.op = .buildSlice t 1 #[(0, x)])
    {z : Value} {size bytes : Nat} (E : Elt P t e z size bytes) (hsm : size ≤ 16777216) {cs : Array Value} (hx : a.eval x = .agg cs) (hs : cs.size = size)
    (h : K (a.put d (.slice (some ⟨w.heap.size, 0, none⟩) 1 1)) (w.alloc (.cells cs e))) : if Region.wanted o (yielded ops a.tmps) = true then Oper.wp P o a w K Q else E' := by
  refine step_buildSlice d hd hgd t e 1 #[(0, x)] ho E (by decide) (by omega) cs ?_ h
  have he : (#[(0, x)] : Array (Nat × Operand)).map (fun (i, x) => (i, a.eval x)) = #[(0, .agg cs)] := by rw [← hx, List.map_toArray]; rfl
  rw [he]
  have := Great.fill_whole (s := size) E.pos [.agg cs] ((Array.range (1 * size)).map (z.cells[· % z.cells.size]!)) (by intro v hv; simp at hv; subst hv; exact hs) (by simp)
  rw [show (([Value.agg cs].zipIdx 0).map fun x => (x.2, x.1)) = [(0, Value.agg cs)] from rfl] at this
  rw [this, List.flatMap_cons, List.flatMap_nil, List.append_nil]
  rfl
theorem fill_one {z : Value} {size : Nat} (hp : 0 < size) {cs : Array Value} (hs : cs.size = size) (a : Act) (x : Operand) (hx : a.eval x = .agg cs) :
    Instr.fill (fun i => some (i * size, size)) ((Array.range (1 * size)).map (z.cells[· % z.cells.size]!)) ((#[(0, x)] : Array (Nat × Operand)).map fun (i, x) => (i, a.eval x)).toList = some cs := by
  have he : (#[(0, x)] : Array (Nat × Operand)).map (fun (i, x) => (i, a.eval x)) = #[(0, .agg cs)] := by rw [← hx, List.map_toArray]; rfl
  rw [he]
  have := Great.fill_whole (s := size) hp [.agg cs] ((Array.range (1 * size)).map (z.cells[· % z.cells.size]!)) (by intro v hv; simp at hv; subst hv; exact hs) (by simp)
  rw [show (([Value.agg cs].zipIdx 0).map fun x => (x.2, x.1)) = [(0, Value.agg cs)] from rfl] at this
  rw [this, List.flatMap_cons, List.flatMap_nil, List.append_nil]
  rfl
theorem wpList_buildSlice1 {P : Program} {w : World} {ops : Array Oper} {rest : List Oper} {o : Oper} {a : Act} {Q : Exit → Act → World → Prop} (hgd : o.guard = none) (t e : TypeId) (x : Operand) (ho : o.op = .buildSlice t 1 #[(0, x)])
    {z : Value} {size bytes : Nat} (E : Elt P t e z size bytes) (hsm : size ≤ 16777216) {cs : Array Value} (hx : a.eval x = .agg cs) (hs : cs.size = size)
    (h : wpList P ops Q rest (a.put o.dst (.slice (some ⟨w.heap.size, 0, none⟩) 1 1)) (w.alloc (.cells cs e))) : wpList P ops Q (o :: rest) a w := by
  obtain ⟨i, hi, hz0, hz1, hz2⟩ := info_parts E.info
  have hp := E.pos
  exact wpList_buildSlice hgd t e 1 #[(0, x)] ho cs i z E.ty hi hz0 (by rw [hz1]; omega) (by rw [hz1]; omega) (by rw [hz1]; exact fill_one hp hs a x hx) h
end Go.Proofs.YtpkknhhohbobaaaGreatDoor
