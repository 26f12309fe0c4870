/- plan: PlanOne's contract as the frame takes it -/
import Derived.Test.YtikhpafdnohhkaaDoorPlanS
namespace Go.Proofs.YtikhpafdnohhkaaDoor
set_option linter.unusedSimpArgs false
set_option linter.unusedVariables false
open Go.RowKit
theorem one_claim (a1 : Option Addr) (n1 c1 : Nat) (a2 : Option Addr) (n2 c2 : Nat) (a b : Int) (W : World) (hT : Tab W) (r1 : ∃ l, RSl RExc 6 W a1 n1 c1 l ∧ n1 * 64 ≤ reachBytes) (r2 : ∃ l, RSl RMsg 6 W a2 n2 c2 l ∧ n2 * 72 ≤ reachBytes) (_ : (Lit.int .i64 a).wf = true) (_ : (Lit.int .i64 b).wf = true) :
    Calls Tryd.prog 5 #[.slice a1 n1 c1, .slice a2 n2 c2, .int .i64 a, .int .i64 b] W fun e w' => e = .returned (.bool true) ∧ Below W.heap.size W w' := by
  obtain ⟨l, h1, h2⟩ := r1
  obtain ⟨m, h3, _⟩ := r2
  obtain ⟨xs, hx, hxo⟩ := h1.excs
  obtain ⟨ms, hm, hmo⟩ := h3.msgs
  exact one_law a1 n1 c1 xs a2 n2 c2 ms a b W hT hx hxo (by unfold reachBytes at h2; omega) hm hmo
end Go.Proofs.YtikhpafdnohhkaaDoor
