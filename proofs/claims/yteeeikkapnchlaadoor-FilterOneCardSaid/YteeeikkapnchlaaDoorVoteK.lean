/- the walk of Few -/
import Derived.Test.YteeeikkapnchlaaDoorVoteJ
namespace Go.Proofs.YteeeikkapnchlaaDoor
set_option linter.unusedSimpArgs false
set_option linter.unusedVariables false
open Go.RowKit Go.Sort

def fewB (l : List Rc) : Bool := decide (l.length + tot l ≤ 300)
end Go.Proofs.YteeeikkapnchlaaDoor
