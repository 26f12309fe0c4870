/- walks of math/bits' two functions and package set's small ones -/
import Derived.Test.YtikhpafdnohhkaaDoorRows
import Derived.Test.YtikhpafdnohhkaaDoorLib
import Derived.Test.YtikhpafdnohhkaaDoorSetM
namespace Go.Proofs.YtikhpafdnohhkaaDoor
set_option linter.unusedSimpArgs false
set_option linter.unusedVariables false
open Go.RowKit

theorem and127 (y : Nat) (h : y < 9223372036854775808) : bits BinOp.and IntKind.i64 (y : Int) 127 = ((y % 128 : Nat) : Int) := by
  have := (bits_nat .i64 63 (by decide) (fun n h0 h1 => by rw [IntKind.wrap_i64]; omega) y 127 (by omega) (by decide)).1
  rw [show ((127 : Nat) : Int) = 127 from rfl] at this
  rw [this, show (127 : Nat) = 2 ^ 7 - 1 from rfl, Nat.and_two_pow_sub_one_eq_mod]

/-- The library's table in its variable. -/
def Tab (w : World) : Prop := 0 < w.heap.size ∧ ∀ j, j < 64 → w.cell? ⟨0, j, none⟩ = some (.int .u8 (Lib.deBruijn64tab.getD j 0))
theorem Tab.below {w w' : World} {B : Nat} (h : Tab w) (hb : Below B w w') (hB : 0 < B) : Tab w' :=
  ⟨Nat.lt_of_lt_of_le h.1 hb.size, fun j hj => (hb.cell (p := ⟨0, j, none⟩) hB).trans (h.2 j hj)⟩

set_option maxHeartbeats 1000000 in
theorem tz_walk (x k idx : Nat) (w : World) (hx0 : ((x : Int) == 0) = false)
    (key : IntKind.u64.wrap (bits BinOp.and IntKind.u64 (x : Int) (IntKind.u64.wrap (-(x : Int))) * 285870213051353865) / 288230376151711744 = (idx : Int))
    (hi : idx < 64) (hk : k < 64) (hcell : w.cell? ⟨0, idx, none⟩ = some (.int .u8 k)) :
    Calls Tryd.prog 48 #[.int .u64 x] w fun e w' => e = .returned (.int .i64 k) ∧ w = w' := by
  go_enter Tryd.func48, Tryd.ntmps48
  go_wp2_with (simp only [key])
  go_ret
  exact ⟨rfl, rfl⟩
theorem tz64_key (x a : Nat) (hx : x < 18446744073709551616) (hx0 : x ≠ 0) (hlow : x &&& (18446744073709551616 - x) = a) :
    IntKind.u64.wrap (bits BinOp.and IntKind.u64 (x : Int) (IntKind.u64.wrap (-(x : Int))) * 285870213051353865) / 288230376151711744 = ((a * 285870213051353865 % 18446744073709551616 / 288230376151711744 : Nat) : Int) := by
  have e1 : IntKind.u64.wrap (-(x : Int)) = ((18446744073709551616 - x : Nat) : Int) := by rw [IntKind.wrap_u64]; omega
  rw [e1, bits_and_u64_nat x _ hx (by omega), hlow, IntKind.wrap_u64]
  omega
/-- The least member. -/
theorem tz_any (x : Nat) (hx : x < 18446744073709551616) (hx0 : x ≠ 0) (w : World) (hT : Tab w) :
    Calls Tryd.prog 48 #[.int .u64 x] w fun e w' => e = .returned (.int .i64 (Lib.ctz 64 x)) ∧ w = w' := by
  obtain ⟨hlow, hk⟩ := Lib.lowest_bit 64 x hx0 hx
  obtain ⟨hi, htab⟩ := Lib.deBruijn64_at _ hk
  have hc := hT.2 _ hi
  rw [htab] at hc
  exact tz_walk x _ _ w (by simp; omega) (tz64_key x _ hx hx0 hlow) hi hk hc
set_option maxHeartbeats 1000000 in
theorem bit_any (p : Int) (w : World) : Calls Tryd.prog 43 #[.int .i64 p] w fun e w' => e = .returned (.int .u64 (bitN p)) ∧ w = w' := by
  by_cases h1 : p < 0
  · go_enter Tryd.func43, Tryd.ntmps43
    go_wp2
    go_ret
    exact ⟨ret_int (by rw [bitN, if_neg (by omega)]; rfl), rfl⟩
  by_cases h2 : 64 ≤ p
  · go_enter Tryd.func43, Tryd.ntmps43
    go_wp2
    go_ret
    exact ⟨ret_int (by rw [bitN, if_neg (by omega)]; rfl), rfl⟩
  · obtain ⟨n, rfl⟩ : ∃ n : Nat, p = n := ⟨p.toNat, by omega⟩
    go_enter Tryd.func43, Tryd.ntmps43
    go_wp2
    go_ret
    refine ⟨ret_int ?_, rfl⟩
    have hb := bitN_lt n
    have he : bitN n = 2 ^ n := by rw [bitN, if_pos (by omega), Int.toNat_natCast]
    rw [he] at hb ⊢
    rw [IntKind.wrap_u64, show ((2 : Int) ^ n) = ((2 ^ n : Nat) : Int) from by simp]
    omega
set_option maxHeartbeats 400000 in
theorem but_any (x y : Nat) (hx : x < 18446744073709551616) (hy : y < 18446744073709551616) (w : World) : Calls Tryd.prog 47 #[.int .u64 x, .int .u64 y] w fun e w' => e = .returned (.int .u64 (butN x y)) ∧ w = w' := by
  go_enter Tryd.func47, Tryd.ntmps47
  go_wp2
  go_ret
  exact ⟨ret_int (u64_andNot_nat x y hx hy), rfl⟩
/-- Has y all of x? -/
def inB (x y : Nat) : Bool := butN x y == 0
/-- Has x most of y? -/
def mostB (x y : Nat) : Bool := decide (cardN y < 2 * cardN (x &&& y))
set_option maxHeartbeats 400000 in
theorem has_any (x : Nat) (p : Int) (hx : x < 18446744073709551616) (w : World) : Calls Tryd.prog 28 #[.int .u64 x, .int .i64 p] w fun e w' => e = .returned (.bool (hasB x p)) ∧ w = w' := by
  go_enter Tryd.func28, Tryd.ntmps28
  go_wp2_with (go_at_call 43; refine (bit_any p _).mono ?_; rintro e w' ⟨rfl, rfl⟩)
  go_ret
  refine ⟨ret_bool ?_, rfl⟩
  rw [u64_and_nat x _ hx (bitN_lt p), hasB, icn0]
set_option maxHeartbeats 400000 in
theorem min_none (w : World) : -- 48
    Calls Tryd.prog 36 #[.int .u64 0] w fun e w' => e = .returned (.int .i64 (-1)) ∧ w = w' := by
  go_enter Tryd.func36, Tryd.ntmps36
  go_wp2
  go_ret
  exact ⟨rfl, rfl⟩
set_option maxHeartbeats 400000 in
theorem min_some (x : Nat) (hx : x < 18446744073709551616) (h0 : x ≠ 0) (w : World) (hT : Tab w) : Calls Tryd.prog 36 #[.int .u64 x] w fun e w' => e = .returned (.int .i64 (Lib.ctz 64 x)) ∧ w = w' := by
  have hx0 : ((x : Int) == 0) = false := by simp; omega
  go_enter Tryd.func36, Tryd.ntmps36
  go_wp2_with (go_at_call 48; refine (tz_any x hx h0 _ hT).mono ?_; rintro e w' ⟨rfl, rfl⟩)
  go_ret
  exact ⟨rfl, rfl⟩
end Go.Proofs.YtikhpafdnohhkaaDoor
