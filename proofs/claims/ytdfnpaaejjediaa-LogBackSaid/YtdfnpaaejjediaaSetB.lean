/- walks of package set: With, Of, Less, All, List -/
import Derived.Test.YtdfnpaaejjediaaSetA
namespace Go.Proofs.Ytdfnpaaejjediaa
open Go.RowKit

theorem Rd.int1 {w : World} {b off n c : Nat} {k : IntKind} {l : List Int} (h : Rd w 1 (some ⟨b, off, none⟩) n c (l.map (Value.int k))) (i : Nat) (hi : i < l.length) : w.cell? ⟨b, off + i, none⟩ = some (.int k l[i]) :=
  h.at (by rw [List.getElem?_map, List.getElem?_eq_getElem hi]; rfl)
theorem Rd.intLen {w : World} {a : Option Addr} {n c : Nat} {k : IntKind} {l : List Int} (h : Rd w 1 a n c (l.map (Value.int k))) : l.length = n := by
  have := h.length_eq; simpa using this

theorem all_or (k : Nat) (hk : k < 64) : bits BinOp.or IntKind.u64 ((2 ^ k - 1 : Nat) : Int) ((bitN k : Nat) : Int) = ((2 ^ (k + 1) - 1 : Nat) : Int) := by
  have hb : bitN k = 2 ^ k := by rw [bitN, if_pos (by omega), Int.toNat_natCast]
  have hlt2 := bitN_lt k
  rw [u64_or_nat _ _ (by rw [hb] at hlt2; omega) hlt2, hb, allN_step k]
set_option maxHeartbeats 800000 in
theorem allS_some (N : Nat) (w : World) (hN : N ≤ 64) : Calls Try.prog 48 #[.int .i64 N] w fun e w' => e = .returned (.int .u64 (2 ^ N - 1 : Nat)) ∧ w = w' := by
  by_cases h0 : N = 0
  · subst h0
    go_enter Try.func48, Try.ntmps48
    go_wp2
    refine wp_loop_rounds 1 ?_
    rw [rounds_succ]
    go_wp2
    go_ret
    exact ⟨rfl, rfl⟩
  have hp : (0 : Int) < N := by omega
  go_enter Try.func48, Try.ntmps48
  go_wp2
  go_loop [3, 4, 8] (fun y _ i => ∃ k : Nat, k ≤ N ∧ i = .int .i64 k ∧ y = .int .u64 (2 ^ k - 1 : Nat)) (fun _ _ i => N - (intOf i).toNat)
  case atStart => exact ⟨0, Nat.zero_le _, rfl, rfl⟩
  case round =>
    obtain ⟨k, hk, rfl, rfl⟩ := hrel
    by_cases hlt : k < N
    · have HO := Lib.hid (all_or k (by omega))
      have HC := Lib.hid (fun w => bit_any k w)
      go_wp2_with (go_at_call 54; refine (HC.out _).mono ?_; rintro e w' ⟨rfl, rfl⟩)
      go_round
      case rel => exact ⟨k + 1, by omega, by go_num, by rw [HO.out]⟩
      case measure => simp [intOf]; omega
    · obtain rfl : k = N := by omega
      go_wp2
      go_ret
      exact ⟨rfl, rfl⟩
set_option maxHeartbeats 800000 in
theorem allS_neg (n : Int) (w : World) (hn : n < 0) : Calls Try.prog 48 #[.int .i64 n] w fun e w' => e = .returned (.int .u64 0) ∧ w = w' := by
  go_enter Try.func48, Try.ntmps48
  go_wp2
  refine wp_loop_rounds 1 ?_
  rw [rounds_succ]
  go_wp2
  go_ret
  exact ⟨rfl, rfl⟩
set_option maxHeartbeats 800000 in
theorem allS_big (n : Int) (w : World) (hn : 64 < n) : Calls Try.prog 48 #[.int .i64 n] w fun e w' => e = .returned (.int .u64 (2 ^ 64 - 1 : Nat)) ∧ w = w' := by
  go_enter Try.func48, Try.ntmps48
  go_wp2
  go_loop [3, 4, 8] (fun y _ i => ∃ k : Nat, k ≤ 64 ∧ i = .int .i64 k ∧ y = .int .u64 (2 ^ k - 1 : Nat)) (fun _ _ i => 64 - (intOf i).toNat)
  case atStart => exact ⟨0, Nat.zero_le _, rfl, rfl⟩
  case round =>
    obtain ⟨k, hk, rfl, rfl⟩ := hrel
    by_cases hlt : k < 64
    · have HO := Lib.hid (all_or k (by omega))
      have HC := Lib.hid (fun w => bit_any k w)
      go_wp2_with (go_at_call 54; refine (HC.out _).mono ?_; rintro e w' ⟨rfl, rfl⟩)
      go_round
      case rel => exact ⟨k + 1, by omega, by go_num, by rw [HO.out]⟩
      case measure => simp [intOf]; omega
    · obtain rfl : k = 64 := by omega
      go_wp2
      go_ret
      exact ⟨rfl, rfl⟩
theorem allS_any (n : Int) (w : World) : Calls Try.prog 48 #[.int .i64 n] w fun e w' => e = .returned (.int .u64 (allN n)) ∧ w = w' := by
  by_cases h1 : n < 0
  · have := allS_neg n w h1
    rw [allN, show (max 0 (min n 64)).toNat = 0 from by omega]
    exact this
  by_cases h2 : 64 < n
  · rw [allN, show (max 0 (min n 64)).toNat = 64 from by omega]
    exact allS_big n w h2
  · obtain ⟨N, rfl⟩ : ∃ N : Nat, n = N := ⟨n.toNat, by omega⟩
    rw [allN, show (max 0 (min (N : Int) 64)).toNat = N from by omega]
    exact allS_some N w (by omega)

/-- The members as Go's ints. -/
def memI (x : Nat) : List Int := (memN x).map fun i : Nat => (i : Int)
theorem memI_len (x : Nat) : (memI x).length = cardN x := by rw [memI, List.length_map, memN_len]
end Go.Proofs.Ytdfnpaaejjediaa
