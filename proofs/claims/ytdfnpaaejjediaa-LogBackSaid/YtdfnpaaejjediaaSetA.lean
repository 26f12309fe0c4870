/- walks of math/bits' two functions and package set's small ones -/
import Derived.Test.YtdfnpaaejjediaaRows
import Derived.Test.YtdfnpaaejjediaaLib
import Derived.Test.YtdfnpaaejjediaaSetM
namespace Go.Proofs.Ytdfnpaaejjediaa
open Go.RowKit

theorem and127 (y : Nat) (h : y < 9223372036854775808) : bits BinOp.and IntKind.i64 (y : Int) 127 = ((y % 128 : Nat) : Int) := by
  have := (bits_nat .i64 63 (by decide) (fun n h0 h1 => by rw [IntKind.wrap_i64]; omega) y 127 (by omega) (by decide)).1
  rw [show ((127 : Nat) : Int) = 127 from rfl] at this
  rw [this, show (127 : Nat) = 2 ^ 7 - 1 from rfl, Nat.and_two_pow_sub_one_eq_mod]

/-- The library's table in its variable. -/
def Tab (w : World) : Prop := 0 < w.heap.size ∧ ∀ j, j < 64 → w.cell? ⟨0, j, none⟩ = some (.int .u8 (Lib.deBruijn64tab.getD j 0))
theorem Tab.below {w w' : World} {B : Nat} (h : Tab w) (hb : Below B w w') (hB : 0 < B) : Tab w' :=
  ⟨Nat.lt_of_lt_of_le h.1 hb.size, fun j hj => (hb.cell (p := ⟨0, j, none⟩) hB).trans (h.2 j hj)⟩

theorem tz64_key (x a : Nat) (hx : x < 18446744073709551616) (hx0 : x ≠ 0) (hlow : x &&& (18446744073709551616 - x) = a) :
    IntKind.u64.wrap (bits BinOp.and IntKind.u64 (x : Int) (IntKind.u64.wrap (-(x : Int))) * 285870213051353865) / 288230376151711744 = ((a * 285870213051353865 % 18446744073709551616 / 288230376151711744 : Nat) : Int) := by
  have e1 : IntKind.u64.wrap (-(x : Int)) = ((18446744073709551616 - x : Nat) : Int) := by rw [IntKind.wrap_u64]; omega
  rw [e1, bits_and_u64_nat x _ hx (by omega), hlow, IntKind.wrap_u64]
  omega
set_option maxHeartbeats 1000000 in
theorem bit_any (p : Int) (w : World) : Calls Try.prog 54 #[.int .i64 p] w fun e w' => e = .returned (.int .u64 (bitN p)) ∧ w = w' := by
  by_cases h1 : p < 0
  · go_enter Try.func54, Try.ntmps54
    go_wp2
    go_ret
    exact ⟨ret_int (by rw [bitN, if_neg (by omega)]; rfl), rfl⟩
  by_cases h2 : 64 ≤ p
  · go_enter Try.func54, Try.ntmps54
    go_wp2
    go_ret
    exact ⟨ret_int (by rw [bitN, if_neg (by omega)]; rfl), rfl⟩
  · obtain ⟨n, rfl⟩ : ∃ n : Nat, p = n := ⟨p.toNat, by omega⟩
    go_enter Try.func54, Try.ntmps54
    go_wp2
    go_ret
    refine ⟨ret_int ?_, rfl⟩
    have hb := bitN_lt n
    have he : bitN n = 2 ^ n := by rw [bitN, if_pos (by omega), Int.toNat_natCast]
    rw [he] at hb ⊢
    rw [IntKind.wrap_u64, show ((2 : Int) ^ n) = ((2 ^ n : Nat) : Int) from by simp]
    omega
/-- Has y all of x? -/
def inB (x y : Nat) : Bool := butN x y == 0
/-- Has x most of y? -/
def mostB (x y : Nat) : Bool := decide (cardN y < 2 * cardN (x &&& y))
end Go.Proofs.Ytdfnpaaejjediaa
