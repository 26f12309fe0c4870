/- walks of the reference of sets: Size, Most (as in SetR4, apart from the laws of the sets' own chapter) -/
import Derived.Test.YtnpinkcadkkeoaaSetR3
namespace Go.Proofs.Ytnpinkcadkkeoaa
open Go.RowKit

set_option maxHeartbeats 400000 in
theorem rsize_any (x : Nat) (hx : x < 18446744073709551616) (w : World) : Calls Try.prog 39 #[.int .u64 x] w fun e w' => e = .returned (.int .i64 (cardN x)) ∧ Below w.heap.size w w' := by
  go_enter Try.func39, Try.ntmps39
  go_wp2_with fail
  refine (rlist_any x _ hx).mono ?_
  rintro e w1 ⟨v, rfl, hown, hb⟩
  obtain ⟨a, c, rfl, hr⟩ := Rd.own hown
  go_wp2
  go_ret
  exact ⟨rfl, hb⟩
set_option maxHeartbeats 400000 in
theorem rmost_any (x y : Nat) (hx : x < 18446744073709551616) (hy : y < 18446744073709551616) (w : World) : Calls Try.prog 30 #[.int .u64 x, .int .u64 y] w fun e w' => e = .returned (.bool (mostB x y)) ∧ Below w.heap.size w w' := by
  have c1 := cardN_le (x &&& y)
  go_enter Try.func30, Try.ntmps30
  go_wp2_with fail
  refine (rboth_any x y _ hx hy).mono ?_
  rintro e w1 ⟨rfl, hb1⟩
  go_wp2_with fail
  refine (rsize_any _ (and_lt x y hx) _).mono ?_
  rintro e w2 ⟨rfl, hb2⟩
  have hb2 := belS hb1 hb2
  go_wp2_with fail
  refine (rsize_any y hy _).mono ?_
  rintro e w3 ⟨rfl, hb3⟩
  have hb3 := belS hb2 hb3
  go_wp2
  go_ret
  refine ⟨ret_bool ?_, hb3⟩
  rw [mostB]
  simp only [decide_eq_decide]
  omega
end Go.Proofs.Ytnpinkcadkkeoaa
