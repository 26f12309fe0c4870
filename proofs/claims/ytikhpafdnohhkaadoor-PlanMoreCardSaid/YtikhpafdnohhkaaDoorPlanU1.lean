/- plan: PlanMore's contract as the frame takes it -/
import Derived.Test.YtikhpafdnohhkaaDoorPlanU
import Derived.Test.YtikhpafdnohhkaaDoorPlanS1
namespace Go.Proofs.YtikhpafdnohhkaaDoor
set_option linter.unusedSimpArgs false
set_option linter.unusedVariables false
open Go.RowKit
theorem more_claim (me : Int) (a1 : Option Addr) (n1 c1 : Nat) (cs : Array Value) (W : World) (hT : Tab W) (_ : (Lit.int .i64 me).wf = true) (r1 : ∃ l, RSl RExc 6 W a1 n1 c1 l ∧ n1 * 64 ≤ reachBytes) (r2 : ∃ x, RExc W cs.toList x) :
    Calls Tryd.prog 8 #[.int .i64 me, .slice a1 n1 c1, .agg cs] W fun e w' => e = .returned (.bool true) ∧ Below W.heap.size W w' := by
  obtain ⟨l, h1, h2⟩ := r1
  obtain ⟨v, h3⟩ := r2
  obtain ⟨xs, hx, hxo⟩ := h1.excs
  obtain ⟨x, hc, hxx⟩ := h3.xc
  obtain rfl : cs = xcA x := by
    apply Array.toList_inj.1
    rw [hc]; rfl
  exact more_law me a1 n1 c1 xs x W hT hx hxo (by unfold reachBytes at h2; omega) hxx
end Go.Proofs.YtikhpafdnohhkaaDoor
