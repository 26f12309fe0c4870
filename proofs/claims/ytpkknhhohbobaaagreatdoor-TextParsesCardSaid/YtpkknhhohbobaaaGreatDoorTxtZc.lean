/- text: TextPrints -/
import Derived.Test.YtpkknhhohbobaaaGreatDoorTxtZb
namespace Go.Proofs.YtpkknhhohbobaaaGreatDoor
set_option linter.unusedSimpArgs false
set_option linter.unusedVariables false
open Go.RowKit Go.Sort
theorem flatMap_erC1 (e : Er) : [e].flatMap erC = erC e := by simp
theorem erC_arr {cs : Array Value} {e : Er} (h : cs.toList = erC e) : cs = evC e.x e.da e.dn e.dc e.na e.nn e.nc := by
  rw [← Array.toArray_toList (xs := cs), h]
  exact Array.toArray_toList
end Go.Proofs.YtpkknhhohbobaaaGreatDoor
