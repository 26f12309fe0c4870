/- the walk of awake (sets) -/
import Derived.Test.YtfmdfoopdbkgpaaDoorSetB
import Derived.Test.YtfmdfoopdbkgpaaDoorSetN
namespace Go.Proofs.YtfmdfoopdbkgpaaDoor
open Go.RowKit

set_option maxHeartbeats 1600000 in
theorem awake_any (w : World) (hT : Tab w) : Calls Tryd.prog 9 #[] w fun e w' => e = .returned (.bool true) ∧ Below w.heap.size w w' := by
  go_enter Tryd.func9, Tryd.ntmps9
  go_wp2_with fail
  refine (of_any 3 3 _ [0, 2, 99] _ (by decide) (Rd.lit (by first | rfl | simp) rfl (by decide))).mono ?_
  rintro e w1 ⟨rfl, rfl⟩
  rw [show withN 0 [0, 2, 99] = 5 from by decide]
  go_wp2_with fail
  refine (of_any 2 2 _ [1, 2] _ (by decide) (Rd.lit (by first | rfl | simp) rfl (by decide))).mono ?_
  rintro e w1 ⟨rfl, rfl⟩
  rw [show withN 0 [1, 2] = 6 from by decide]
  go_wp2_with fail
  refine (of_any 3 3 _ [1, 2, 3] _ (by decide) (Rd.lit (by first | rfl | simp) rfl (by decide))).mono ?_
  rintro e w1 ⟨rfl, rfl⟩
  rw [show withN 0 [1, 2, 3] = 14 from by decide]
  go_wp2_with fail
  refine (most_any 6 14 (by decide) (by decide) _).mono ?_
  rintro e w1 ⟨rfl, rfl⟩
  rw [show mostB 6 14 = true from by decide +kernel]
  go_wp2_with fail
  refine (of_any 1 1 _ [1] _ (by decide) (Rd.lit (by first | rfl | simp) rfl (by decide))).mono ?_
  rintro e w1 ⟨rfl, rfl⟩
  rw [show withN 0 [1] = 2 from by decide]
  go_wp2_with fail
  refine (of_any 2 2 _ [1, 2] _ (by decide) (Rd.lit (by first | rfl | simp) rfl (by decide))).mono ?_
  rintro e w1 ⟨rfl, rfl⟩
  rw [show withN 0 [1, 2] = 6 from by decide]
  go_wp2_with fail
  refine (most_any 2 6 (by decide) (by decide) _).mono ?_
  rintro e w1 ⟨rfl, rfl⟩
  rw [show mostB 2 6 = false from by decide +kernel]
  go_wp2_with fail
  refine (allS_any 3 _).mono ?_
  rintro e w1 ⟨rfl, rfl⟩
  rw [show allN 3 = 7 from by decide]
  go_wp2_with fail
  refine (min_none _).mono ?_
  rintro e w1 ⟨rfl, rfl⟩
  go_wp2
  go_ret
  exact ⟨rfl, by repeat (first | exact Below.refl _ _ | (refine Below.alloc ?_ (by simp <;> omega) _))⟩
end Go.Proofs.YtfmdfoopdbkgpaaDoor
