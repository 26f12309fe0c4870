/- log: ParseItem, of any bytes -/
import Derived.Test.YtdfnpaaejjediaaLogOa
import Derived.Test.YtdfnpaaejjediaaLogOb
import Derived.Test.YtdfnpaaejjediaaLogOc
namespace Go.Proofs.Ytdfnpaaejjediaa
open Go.RowKit

theorem parseItem_any (s : ByteArray) (w : World) (hz : s.size ≤ 5000) : Calls Try.prog 16 #[.string s] w (PiPost s w) := by
  by_cases h1 : s.size < 1
  · exact pitem_none s w hz (fun h => absurd h1 h)
  by_cases h2 : nvN (bI s) 0 1 = 1
  · exact pitem_1 s w hz (by omega) h2
  by_cases h3 : nvN (bI s) 0 1 = 2
  · exact pitem_2 s w hz (by omega) h3
  by_cases h4 : nvN (bI s) 0 1 = 3
  · exact pitem_3 s w hz (by omega) h4
  by_cases h5 : nvN (bI s) 0 1 = 4
  · exact pitem_4 s w hz (by omega) h5
  exact pitem_none s w hz (fun _ => by omega)
end Go.Proofs.Ytdfnpaaejjediaa
