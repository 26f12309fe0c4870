/- walks of math/bits' two functions and package set's small ones -/
import Derived.Test.YteeeikkapnchlaaDoorRows
import Derived.Test.YteeeikkapnchlaaDoorLib
import Derived.Test.YteeeikkapnchlaaDoorSetM
namespace Go.Proofs.YteeeikkapnchlaaDoor
set_option linter.unusedSimpArgs false
set_option linter.unusedVariables false
open Go.RowKit

set_option maxHeartbeats 1000000 in
theorem ones_walk (x x1 x2 x3 c : Nat) (w : World)
    (h1 : IntKind.u64.wrap (bits BinOp.and IntKind.u64 ((x : Int) / 2) 6148914691236517205 + bits BinOp.and IntKind.u64 (x : Int) 6148914691236517205) = (x1 : Int)) (_ : x1 ≤ 13835058055282163712)
    (h2 : IntKind.u64.wrap (bits BinOp.and IntKind.u64 ((x1 : Int) / 4) 3689348814741910323 + bits BinOp.and IntKind.u64 (x1 : Int) 3689348814741910323) = (x2 : Int)) (_ : x2 ≤ 7378697629483820646)
    (h3 : bits BinOp.and IntKind.u64 ((x2 : Int) / 16 + x2) 1085102592571150095 = (x3 : Int)) (_ : x3 ≤ 578721382704613384)
    (h4 : bits BinOp.and IntKind.i64 ((x3 : Int) + x3 / 256 + (x3 + x3 / 256) / 65536 + (x3 + x3 / 256 + (x3 + x3 / 256) / 65536) / 4294967296) 127 = (c : Int)) :
    Calls Tryd.prog 42 #[.int .u64 x] w fun e w' => e = .returned (.int .i64 c) ∧ w = w' := by
  go_enter Tryd.func42, Tryd.ntmps42
  go_wp2
  go_ret
  exact ⟨rfl, rfl⟩
theorem and127 (y : Nat) (h : y < 9223372036854775808) : bits BinOp.and IntKind.i64 (y : Int) 127 = ((y % 128 : Nat) : Int) := by
  have := (bits_nat .i64 63 (by decide) (fun n h0 h1 => by rw [IntKind.wrap_i64]; omega) y 127 (by omega) (by decide)).1
  rw [show ((127 : Nat) : Int) = 127 from rfl] at this
  rw [this, show (127 : Nat) = 2 ^ 7 - 1 from rfl, Nat.and_two_pow_sub_one_eq_mod]

theorem ones_any (x : Nat) (hx : x < 18446744073709551616) (w : World) :
    Calls Tryd.prog 42 #[.int .u64 x] w fun e w' => e = .returned (.int .i64 (cardN x)) ∧ w = w' := by
  have hp := pops8 x hx
  have l1 : F1 6148914691236517205 x ≤ 12297829382473034410 := by
    unfold F1
    have := @Nat.and_le_right (x / 2) 6148914691236517205
    have := @Nat.and_le_right x 6148914691236517205
    omega
  generalize hx1 : F1 6148914691236517205 x = x1 at *
  have l2 : F2 3689348814741910323 x1 ≤ 7378697629483820646 := by
    unfold F2
    have := @Nat.and_le_right (x1 / 4) 3689348814741910323
    have := @Nat.and_le_right x1 3689348814741910323
    omega
  generalize hx2 : F2 3689348814741910323 x1 = x2 at *
  generalize hx3 : F3 1085102592571150095 x2 = x3 at *
  obtain ⟨hl, hb⟩ := ones_last x x3 _ _ _ hp rfl rfl rfl
  rw [← hl]
  refine ones_walk x x1 x2 x3 _ w ?_ (by omega) ?_ l2 ?_ hb ?_
  · rw [show (x : Int) / 2 = ((x / 2 : Nat) : Int) from by omega]
    have h1 := u64_and_nat (x / 2) 6148914691236517205 (by omega) (by decide)
    have h2 := u64_and_nat x 6148914691236517205 (by omega) (by decide)
    rw [show ((6148914691236517205 : Nat) : Int) = 6148914691236517205 from rfl] at h1 h2
    rw [h1, h2, ← hx1, F1, IntKind.wrap_u64]
    rw [F1] at hx1
    omega
  · rw [show (x1 : Int) / 4 = ((x1 / 4 : Nat) : Int) from by omega]
    have h1 := u64_and_nat (x1 / 4) 3689348814741910323 (by omega) (by decide)
    have h2 := u64_and_nat x1 3689348814741910323 (by omega) (by decide)
    rw [show ((3689348814741910323 : Nat) : Int) = 3689348814741910323 from rfl] at h1 h2
    rw [h1, h2, ← hx2, F2, IntKind.wrap_u64]
    rw [F2] at hx2
    omega
  · rw [show (x2 : Int) / 16 + (x2 : Int) = ((x2 / 16 + x2 : Nat) : Int) from by omega]
    have h1 := u64_and_nat (x2 / 16 + x2) 1085102592571150095 (by omega) (by decide)
    rw [show ((1085102592571150095 : Nat) : Int) = 1085102592571150095 from rfl] at h1
    rw [h1, ← hx3, F3]
  · have h1 := and127 (x3 + x3 / 256 + (x3 + x3 / 256) / 65536 + (x3 + x3 / 256 + (x3 + x3 / 256) / 65536) / 4294967296) (by omega)
    rw [← h1]
    rfl

/-- The library's table in its variable. -/
def Tab (w : World) : Prop := 0 < w.heap.size ∧ ∀ j, j < 64 → w.cell? ⟨0, j, none⟩ = some (.int .u8 (Lib.deBruijn64tab.getD j 0))
theorem Tab.below {w w' : World} {B : Nat} (h : Tab w) (hb : Below B w w') (hB : 0 < B) : Tab w' :=
  ⟨Nat.lt_of_lt_of_le h.1 hb.size, fun j hj => (hb.cell (p := ⟨0, j, none⟩) hB).trans (h.2 j hj)⟩

set_option maxHeartbeats 1000000 in
theorem tz_walk (x k idx : Nat) (w : World) (hx0 : ((x : Int) == 0) = false)
    (key : IntKind.u64.wrap (bits BinOp.and IntKind.u64 (x : Int) (IntKind.u64.wrap (-(x : Int))) * 285870213051353865) / 288230376151711744 = (idx : Int))
    (hi : idx < 64) (hk : k < 64) (hcell : w.cell? ⟨0, idx, none⟩ = some (.int .u8 k)) :
    Calls Tryd.prog 54 #[.int .u64 x] w fun e w' => e = .returned (.int .i64 k) ∧ w = w' := by
  go_enter Tryd.func54, Tryd.ntmps54
  go_wp2_with (simp only [key])
  go_ret
  exact ⟨rfl, rfl⟩
theorem tz64_key (x a : Nat) (hx : x < 18446744073709551616) (hx0 : x ≠ 0) (hlow : x &&& (18446744073709551616 - x) = a) :
    IntKind.u64.wrap (bits BinOp.and IntKind.u64 (x : Int) (IntKind.u64.wrap (-(x : Int))) * 285870213051353865) / 288230376151711744 = ((a * 285870213051353865 % 18446744073709551616 / 288230376151711744 : Nat) : Int) := by
  have e1 : IntKind.u64.wrap (-(x : Int)) = ((18446744073709551616 - x : Nat) : Int) := by rw [IntKind.wrap_u64]; omega
  rw [e1, bits_and_u64_nat x _ hx (by omega), hlow, IntKind.wrap_u64]
  omega
/-- The least member. -/
theorem tz_any (x : Nat) (hx : x < 18446744073709551616) (hx0 : x ≠ 0) (w : World) (hT : Tab w) :
    Calls Tryd.prog 54 #[.int .u64 x] w fun e w' => e = .returned (.int .i64 (Lib.ctz 64 x)) ∧ w = w' := by
  obtain ⟨hlow, hk⟩ := Lib.lowest_bit 64 x hx0 hx
  obtain ⟨hi, htab⟩ := Lib.deBruijn64_at _ hk
  have hc := hT.2 _ hi
  rw [htab] at hc
  exact tz_walk x _ _ w (by simp; omega) (tz64_key x _ hx hx0 hlow) hi hk hc
set_option maxHeartbeats 1000000 in
theorem bit_any (p : Int) (w : World) : Calls Tryd.prog 24 #[.int .i64 p] w fun e w' => e = .returned (.int .u64 (bitN p)) ∧ w = w' := by
  by_cases h1 : p < 0
  · go_enter Tryd.func24, Tryd.ntmps24
    go_wp2
    go_ret
    exact ⟨ret_int (by rw [bitN, if_neg (by omega)]; rfl), rfl⟩
  by_cases h2 : 64 ≤ p
  · go_enter Tryd.func24, Tryd.ntmps24
    go_wp2
    go_ret
    exact ⟨ret_int (by rw [bitN, if_neg (by omega)]; rfl), rfl⟩
  · obtain ⟨n, rfl⟩ : ∃ n : Nat, p = n := ⟨p.toNat, by omega⟩
    go_enter Tryd.func24, Tryd.ntmps24
    go_wp2
    go_ret
    refine ⟨ret_int ?_, rfl⟩
    have hb := bitN_lt n
    have he : bitN n = 2 ^ n := by rw [bitN, if_pos (by omega), Int.toNat_natCast]
    rw [he] at hb ⊢
    rw [IntKind.wrap_u64, show ((2 : Int) ^ n) = ((2 ^ n : Nat) : Int) from by simp]
    omega
set_option maxHeartbeats 400000 in
theorem both_any (x y : Nat) (hx : x < 18446744073709551616) (hy : y < 18446744073709551616) (w : World) : Calls Tryd.prog 47 #[.int .u64 x, .int .u64 y] w fun e w' => e = .returned (.int .u64 (x &&& y : Nat)) ∧ w = w' := by
  go_enter Tryd.func47, Tryd.ntmps47
  go_wp2
  go_ret
  exact ⟨ret_int (u64_and_nat x y hx hy), rfl⟩
/-- Has y all of x? -/
def inB (x y : Nat) : Bool := butN x y == 0
set_option maxHeartbeats 400000 in
theorem size_any (x : Nat) (hx : x < 18446744073709551616) (w : World) : Calls Tryd.prog 27 #[.int .u64 x] w fun e w' => e = .returned (.int .i64 (cardN x)) ∧ w = w' := by
  go_enter Tryd.func27, Tryd.ntmps27
  go_wp2_with (go_at_call 42; refine (ones_any x hx _).mono ?_; rintro e w' ⟨rfl, rfl⟩)
  go_ret
  exact ⟨rfl, rfl⟩
/-- Has x most of y? -/
def mostB (x y : Nat) : Bool := decide (cardN y < 2 * cardN (x &&& y))
set_option maxHeartbeats 400000 in
theorem most_any (x y : Nat) (hx : x < 18446744073709551616) (hy : y < 18446744073709551616) (w : World) : Calls Tryd.prog 32 #[.int .u64 x, .int .u64 y] w fun e w' => e = .returned (.bool (mostB x y)) ∧ w = w' := by
  go_enter Tryd.func32, Tryd.ntmps32
  go_wp2_with fail
  refine (both_any x y hx hy _).mono ?_
  rintro e w' ⟨rfl, rfl⟩
  go_wp2_with fail
  refine (size_any _ (and_lt x y hx) _).mono ?_
  rintro e w' ⟨rfl, rfl⟩
  have hc := cardN_le (x &&& y)
  have hc2 := cardN_le y
  go_wp2_with fail
  refine (size_any y hy _).mono ?_
  rintro e w' ⟨rfl, rfl⟩
  go_wp2
  go_ret
  refine ⟨ret_bool ?_, rfl⟩
  rw [mostB]
  simp only [decide_eq_decide]
  omega
set_option maxHeartbeats 400000 in
theorem has_any (x : Nat) (p : Int) (hx : x < 18446744073709551616) (w : World) : Calls Tryd.prog 26 #[.int .u64 x, .int .i64 p] w fun e w' => e = .returned (.bool (hasB x p)) ∧ w = w' := by
  go_enter Tryd.func26, Tryd.ntmps26
  go_wp2_with (go_at_call 24; refine (bit_any p _).mono ?_; rintro e w' ⟨rfl, rfl⟩)
  go_ret
  refine ⟨ret_bool ?_, rfl⟩
  rw [u64_and_nat x _ hx (bitN_lt p), hasB, icn0]
set_option maxHeartbeats 400000 in
theorem min_none (w : World) : -- 54
    Calls Tryd.prog 52 #[.int .u64 0] w fun e w' => e = .returned (.int .i64 (-1)) ∧ w = w' := by
  go_enter Tryd.func52, Tryd.ntmps52
  go_wp2
  go_ret
  exact ⟨rfl, rfl⟩
set_option maxHeartbeats 400000 in
theorem min_some (x : Nat) (hx : x < 18446744073709551616) (h0 : x ≠ 0) (w : World) (hT : Tab w) : Calls Tryd.prog 52 #[.int .u64 x] w fun e w' => e = .returned (.int .i64 (Lib.ctz 64 x)) ∧ w = w' := by
  have hx0 : ((x : Int) == 0) = false := by simp; omega
  go_enter Tryd.func52, Tryd.ntmps52
  go_wp2_with (go_at_call 54; refine (tz_any x hx h0 _ hT).mono ?_; rintro e w' ⟨rfl, rfl⟩)
  go_ret
  exact ⟨rfl, rfl⟩
end Go.Proofs.YteeeikkapnchlaaDoor
