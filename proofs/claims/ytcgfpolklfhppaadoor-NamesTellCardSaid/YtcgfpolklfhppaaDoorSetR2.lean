/- walks of the reference of sets: Of, All, Both, Any, But -/
import Derived.Test.YtcgfpolklfhppaaDoorSetR
namespace Go.Proofs.YtcgfpolklfhppaaDoor
open Go.RowKit

end Go.Proofs.YtcgfpolklfhppaaDoor
