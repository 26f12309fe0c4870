/- regions that draw their order, whose operations read and whose callees lay blocks behind: walked once -/
import Derived.Test.YtpkknhhohbobaaaGreatDoorBlk
import Derived.Deep.QuietTactic
import Derived.BigQuiet
import Derived.Lib.QuietBelow
namespace Go.Proofs.YtpkknhhohbobaaaGreatDoor
set_option linter.unusedSimpArgs false
set_option linter.unusedVariables false
open Go.RowKit Go.Sort

theorem wpQuiet_blk_load {P : Program} {ops : Array Oper} {w : World} {Q : Act → Prop} {a : Act} {o : Oper} {rest : List Oper} (hw : Region.wanted o (yielded ops a.tmps) = true) {t : TypeId} (x : Operand) (ho : o.op = .load t x)
    {d : TypeDesc} (hu : P.underlying t = some d) (hd : (match d with | .struct _ | .array _ _ => true | _ => false) = true) {b : Nat} (hx : a.eval x = .pointer (some ⟨b, 0, none⟩)) {t' : TypeId} {cs : Array Value} (hb : BlkAt w b t' cs) (hi : (P.info? t).map (·.size) = some cs.size)
    (h : wpQuiet P ops (fun w' => ∃ p : Regrown, w' = grow (redrawn w p.d) p.os) Q rest (a.put o.dst (.agg cs))) : wpQuiet P ops (fun w' => ∃ p : Regrown, w' = grow (redrawn w p.d) p.os) Q (o :: rest) a :=
  wpQuiet_step fun K hK => by
    rw [if_pos hw]
    refine ⟨_, fun w' hw' => ?_, hK _ h⟩
    obtain ⟨p, rfl⟩ := hw'
    have hb' := hb.below (below_regrown w p.d p.os) hb.lt
    unfold Oper.quietAt
    simp only [execOp, ho, hx, Instr.loadAt, Instr.sureAddr, Sem.run_bind, Sem.run_pure, Result.andThen_ok, run_loadVar_row _ b _ _ _ _ _ hb' hu hd hi]
    exact ⟨rfl, rfl⟩
/-- Any operation that yields one value in every world. -/
theorem wpQuiet_run {P : Program} {ops : Array Oper} {C : World → Prop} {Q : Act → Prop} {a : Act} {o : Oper} {rest : List Oper} (hw : Region.wanted o (yielded ops a.tmps) = true) (r : Value) (hrun : ∀ W, (execOp a.eval o).run P W = .ok (.value r) W) (h : wpQuiet P ops C Q rest (a.put o.dst r)) : wpQuiet P ops C Q (o :: rest) a :=
  wpQuiet_step fun K hK => by
    rw [if_pos hw]
    refine ⟨r, fun w' _ => ?_, hK _ h⟩
    unfold Oper.quietAt
    rw [hrun w']
    exact ⟨rfl, rfl⟩
theorem run_eqGuard_agg {P : Program} {t : TypeId} (h : P.eqGuardType P.depth t = false) (b : BinOp) (x y : Operand) (xs ys : Array Value) (w : World) : (eqGuard b t x y (.agg xs) (.agg ys)).run P w = .ok () w := by
  cases b <;> simp [eqGuard, h]
/-- Two structs are compared, by the comparison's run, in a quiet walk; in a plain one. -/
theorem wpQuiet_agg {P : Program} {ops : Array Oper} {C : World → Prop} {Q : Act → Prop} {a : Act} {o : Oper} {rest : List Oper} (hw : Region.wanted o (yielded ops a.tmps) = true) {b : BinOp} {t : TypeId} (hg : P.eqGuardType P.depth t = false) (x y : Operand) (t2 : TypeId) (ho : o.op = .binOp b t x y t2) {u v : Array Value} {r : Value} (hx : a.eval x = .agg u) (hy : a.eval y = .agg v)
    (hrun : ∀ W, (binOp b t (.agg u) (.agg v)).run P W = .ok r W) (h : wpQuiet P ops C Q rest (a.put o.dst r)) : wpQuiet P ops C Q (o :: rest) a :=
  wpQuiet_step fun K hK => by
    rw [if_pos hw]
    refine ⟨r, fun w' _ => ?_, hK _ h⟩
    unfold Oper.quietAt
    simp only [execOp, ho, hx, hy, Sem.run_bind, Sem.run_pure, run_eqGuard_agg hg, hrun w', Result.andThen_ok]
    exact ⟨rfl, rfl⟩
theorem wpList_agg {P : Program} {w : World} {ops : Array Oper} {rest : List Oper} {o : Oper} {a : Act} {Q : Exit → Act → World → Prop} (hgd : o.guard = none) {b : BinOp} {t : TypeId} (hg : P.eqGuardType P.depth t = false) (x y : Operand) (t2 : TypeId) (ho : o.op = .binOp b t x y t2) {u v : Array Value} {r : Value} (hx : a.eval x = .agg u) (hy : a.eval y = .agg v)
    (hrun : ∀ W, (binOp b t (.agg u) (.agg v)).run P W = .ok r W) (h : wpList P ops Q rest (a.put o.dst r) w) : wpList P ops Q (o :: rest) a w := by
  refine wpList_plain hgd fun K hK => ?_
  unfold Oper.wp
  simp only [execOp, ho, hx, hy, Sem.run_bind, Sem.run_pure, run_eqGuard_agg hg, hrun w, Result.andThen_ok]
  exact hK _ _ h
end Go.Proofs.YtpkknhhohbobaaaGreatDoor
