/- regions that draw their order, whose operations read and whose callees lay blocks behind: walked once -/
import Derived.Test.YtpnmhlcbmbpfdaaDoorBlk
import Derived.Deep.QuietTactic
import Derived.BigQuiet
import Derived.Lib.QuietBelow
namespace Go.Proofs.YtpnmhlcbmbpfdaaDoor
open Go.RowKit Go.Sort

theorem wpQuiet_blk_load {P : Program} {ops : Array Oper} {w : World} {Q : Act → Prop} {a : Act} {o : Oper} {rest : List Oper} (hw : Region.wanted o (yielded ops a.tmps) = true) {t : TypeId} (x : Operand) (ho : o.op = .load t x)
    {d : TypeDesc} (hu : P.underlying t = some d) (hd : (match d with | .struct _ | .array _ _ => true | _ => false) = true) {b : Nat} (hx : a.eval x = .pointer (some ⟨b, 0, none⟩)) {t' : TypeId} {cs : Array Value} (hb : BlkAt w b t' cs) (hi : (P.info? t).map (·.size) = some cs.size)
    (h : wpQuiet P ops (fun w' => ∃ p : Regrown, w' = grow (redrawn w p.d) p.os) Q rest (a.put o.dst (.agg cs))) : wpQuiet P ops (fun w' => ∃ p : Regrown, w' = grow (redrawn w p.d) p.os) Q (o :: rest) a :=
  wpQuiet_step fun K hK => by
    rw [if_pos hw]
    refine ⟨_, fun w' hw' => ?_, hK _ h⟩
    obtain ⟨p, rfl⟩ := hw'
    have hb' := hb.below (below_regrown w p.d p.os) hb.lt
    unfold Oper.quietAt
    simp only [execOp, ho, hx, Instr.loadAt, Instr.sureAddr, Sem.run_bind, Sem.run_pure, Result.andThen_ok, run_loadVar_row _ b _ _ _ _ _ hb' hu hd hi]
    exact ⟨rfl, rfl⟩
end Go.Proofs.YtpnmhlcbmbpfdaaDoor
