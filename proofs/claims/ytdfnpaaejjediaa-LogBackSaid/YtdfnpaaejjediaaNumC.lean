/- walks of the reference's Put and Get -/
import Derived.Test.YtdfnpaaejjediaaNumB
namespace Go.Proofs.Ytdfnpaaejjediaa
open Go.RowKit

set_option maxHeartbeats 800000 in
set_option maxRecDepth 100000 in
theorem rget_no (s : ByteArray) (at_ n : Int) (w : World) (h : n < 1 ∨ 8 < n ∨ at_ < 0 ∨ s.size < at_ + n) (hz : s.size ≤ 9223372036854775807) :
    Calls Try.prog 53 #[.string s, .int .i64 at_, .int .i64 n] w fun e w' => e = .returned (.tuple #[.int .u64 0, .bool false]) ∧ w = w' := by
  by_cases h1 : n < 1
  · clear h
    go_enter Try.func53, Try.ntmps53
    go_wp2
    go_ret2
    exact ⟨rfl, rfl⟩
  by_cases h2 : 8 < n
  · clear h
    go_enter Try.func53, Try.ntmps53
    go_wp2
    go_ret2
    exact ⟨rfl, rfl⟩
  by_cases h3 : at_ < 0
  · clear h
    go_enter Try.func53, Try.ntmps53
    go_wp2
    go_ret2
    exact ⟨rfl, rfl⟩
  by_cases h5 : (s.size : Int) < at_
  · clear h
    go_enter Try.func53, Try.ntmps53
    go_wp2
    go_ret2
    exact ⟨rfl, rfl⟩
  have h4 : (s.size : Int) - at_ < n := by omega
  clear h
  go_enter Try.func53, Try.ntmps53
  go_wp2
  go_ret2
  exact ⟨rfl, rfl⟩

/-- The last k bytes of a number. -/
def refL (v : Int) : Nat → List Int
  | 0 => []
  | k + 1 => v / 256 ^ k % 256 :: refL v k
theorem refL_len (v : Int) (k : Nat) : (refL v k).length = k := by induction k with
  | zero => rfl
  | succ k ih => simp [refL, ih]
theorem pow8 (k : Nat) : (2 : Int) ^ (8 * k) = 256 ^ k := by rw [Int.pow_mul]; rfl
theorem refL_get (v : Int) (N : Nat) : ∀ i, i < N → (refL v N)[i]? = some (v / 256 ^ (N - 1 - i) % 256) := by
  induction N with
  | zero => intro i h; omega
  | succ N ih =>
    intro i h
    cases i with
    | zero => simp [refL]
    | succ i =>
      rw [refL, List.getElem?_cons_succ, ih i (by omega)]
      congr 3; congr 1; omega
theorem refL_eq (v : Int) (N : Nat) : refL v N = beL v N N := by
  apply List.ext_getElem?
  intro i
  by_cases h : i < N
  · rw [refL_get v N i h, beL, List.getElem?_map, List.getElem?_range h]
    simp [pow8]
  · rw [List.getElem?_eq_none (by rw [refL_len]; omega), List.getElem?_eq_none (by simp [beL]; omega)]
theorem div_step (v : Int) (k : Nat) : v / 256 ^ k / 256 = v / 256 ^ (k + 1) := by
  rw [Int.pow_succ, Int.ediv_ediv_of_nonneg (Int.le_of_lt (Int.pow_pos (by decide)))]
theorem strOfNums_cons (x : Int) (l : List Int) : strOfNums [x] ++ strOfNums l = strOfNums (x :: l) := by
  apply ByteArray.ext; simp [strOfNums]

set_option maxHeartbeats 800000 in
set_option maxRecDepth 100000 in
theorem rput_any (s : ByteArray) (v n : Int) (w : World) (hz : s.size ≤ 100000000) (hv0 : 0 ≤ v) (hv1 : v < 18446744073709551616) :
    Calls Try.prog 28 #[.string s, .int .u64 v, .int .i64 n] w fun e w' => e = .returned (.string (s ++ strOfNums (beL v (szB n) (szB n)))) ∧ Below w.heap.size w w' := by
  have hsz := szB_le n
  have HN := Lib.hid (show szB n = szB n from rfl)
  go_enter Try.func28, Try.ntmps28
  go_wp2
  go_loopw [1, 7, 8] (fun x t i wr => ∃ k : Nat, ∃ y : Int, ∃ t' : ByteArray, k ≤ szB n ∧ i = .int .i64 k ∧ x = .int .u64 y ∧ 0 ≤ y ∧ y < 18446744073709551616 ∧ Hid (y = v / 256 ^ k) ∧ t = .string t' ∧ t'.size ≤ k ∧ Hid (t' = strOfNums (refL v k)) ∧ Below w.heap.size w wr) (fun _ _ i _ => szB n - (intOf i).toNat)
  case atStart => exact ⟨0, v, ByteArray.empty, Nat.zero_le _, rfl, rfl, hv0, hv1, by simp [Hid], rfl, by simp, rfl, Below.refl _ _⟩
  case round =>
    obtain ⟨k, y, t', hk, rfl, rfl, hy0, hy1, hy, rfl, ht, ht', hbr⟩ := hrel
    have hsize := hbr.size
    by_cases hlt : k < szB n
    · go_wp2_with (first
        | (go_at_call 50; refine (rsize_any n _).mono ?_; rintro e w' ⟨rfl, rfl⟩)
        | (refine wpList_bytes_str (t := 68) (d := 9) (e := 5) Try.underlying68 Try.underlying5 Try.underlying9 (l := [y % 256]) rfl (.tmp 18) rfl rfl (Rd.one rfl) ?_; intro S hS hS1 hS2))
      go_roundw
      case rel => exact ⟨k + 1, y / 256, _, by omega, by go_num, rfl, by omega, by omega, by rw [hy.out]; exact div_step v k, rfl, by rw [ByteArray.size_append]; omega, by rw [hS.out, ht'.out, strOfNums_cons, refL, hy.out]; rfl, hbr.alloc hsize _⟩
      case measure => simp [intOf]; omega
    · obtain rfl : k = szB n := by omega
      go_wp2_with (go_at_call 50; refine (rsize_any n _).mono ?_; rintro e w' ⟨rfl, rfl⟩)
      go_ret
      refine ⟨ret_str ?_, hbr⟩
      rw [ht'.out, refL_eq]
end Go.Proofs.Ytdfnpaaejjediaa
