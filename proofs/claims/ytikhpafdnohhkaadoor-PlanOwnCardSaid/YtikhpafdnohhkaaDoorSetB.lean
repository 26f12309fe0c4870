/- walks of package set: With, Of, Less, All, List -/
import Derived.Test.YtikhpafdnohhkaaDoorSetA
namespace Go.Proofs.YtikhpafdnohhkaaDoor
set_option linter.unusedSimpArgs false
set_option linter.unusedVariables false
open Go.RowKit

theorem Rd.int1 {w : World} {b off n c : Nat} {k : IntKind} {l : List Int} (h : Rd w 1 (some ⟨b, off, none⟩) n c (l.map (Value.int k))) (i : Nat) (hi : i < l.length) : w.cell? ⟨b, off + i, none⟩ = some (.int k l[i]) :=
  h.at (by rw [List.getElem?_map, List.getElem?_eq_getElem hi]; rfl)
theorem Rd.intLen {w : World} {a : Option Addr} {n c : Nat} {k : IntKind} {l : List Int} (h : Rd w 1 a n c (l.map (Value.int k))) : l.length = n := by
  have := h.length_eq; simpa using this

set_option maxHeartbeats 400000 in
theorem with_some (x b off n c : Nat) (l : List Int) (w : World) (hx : x < 18446744073709551616) (hn : n ≤ 9223372036854775807) (hr : Rd w 1 (some ⟨b, off, none⟩) n c (l.map (Value.int .i64))) :
    Calls Tryd.prog 33 #[.int .u64 x, .slice (some ⟨b, off, none⟩) n c] w fun e w' => e = .returned (.int .u64 (withN x l)) ∧ w = w' := by
  have hl := Lib.hid hr.intLen
  go_enter Tryd.func33, Tryd.ntmps33
  go_wp2
  go_loop [0, 6, 9] (fun y _ i => ∃ k : Nat, k ≤ n ∧ i = .int .i64 k ∧ y = .int .u64 (withN x (l.take k))) (fun _ _ i => n - (intOf i).toNat)
  case atStart => exact ⟨0, Nat.zero_le _, rfl, rfl⟩
  case round =>
    obtain ⟨k, hk, rfl, rfl⟩ := hrel
    by_cases hlt : k < n
    · have hkl : k < l.length := by rw [hl.out]; exact hlt
      have hc := hr.int1 k hkl
      have hy := withN_lt (l.take k) hx
      have hs := Lib.hid (withN_snoc x (l.take k) l[k])
      generalize withN x (l.take k) = y at *
      have ho := u64_or_nat y (bitN l[k]) hy (bitN_lt _)
      go_wp2_with (go_at_call 43; refine (bit_any l[k] _).mono ?_; rintro e w' ⟨rfl, rfl⟩)
      go_round
      case rel => exact ⟨k + 1, by omega, by go_num, by rw [List.take_succ_eq_append_getElem hkl, hs.out]⟩
      case measure => simp [intOf]; omega
    · go_wp2
      go_ret
      refine ⟨ret_int ?_, rfl⟩
      rw [List.take_of_length_le (by rw [hl.out]; omega)]
set_option maxHeartbeats 400000 in
theorem with_nil (x c : Nat) (a : Option Addr) (w : World) :
    Calls Tryd.prog 33 #[.int .u64 x, .slice a 0 c] w fun e w' => e = .returned (.int .u64 x) ∧ w = w' := by
  go_enter Tryd.func33, Tryd.ntmps33
  go_wp2
  refine wp_loop_rounds 1 ?_
  rw [rounds_succ]
  go_wp2
  go_ret
  exact ⟨rfl, rfl⟩
theorem with_any (x n c : Nat) (a : Option Addr) (l : List Int) (w : World) (hx : x < 18446744073709551616) (hn : n ≤ 9223372036854775807) (hr : Rd w 1 a n c (l.map (Value.int .i64))) :
    Calls Tryd.prog 33 #[.int .u64 x, .slice a n c] w fun e w' => e = .returned (.int .u64 (withN x l)) ∧ w = w' := by
  rcases hr.2 with rfl | ⟨b, off, rfl, hlt, _⟩
  · obtain rfl := List.eq_nil_of_length_eq_zero hr.intLen
    exact with_nil x c a w
  · exact with_some x b off n c l w hx hn hr
set_option maxHeartbeats 400000 in
theorem of_any (n c : Nat) (a : Option Addr) (l : List Int) (w : World) (hn : n ≤ 9223372036854775807) (hr : Rd w 1 a n c (l.map (Value.int .i64))) :
    Calls Tryd.prog 32 #[.slice a n c] w fun e w' => e = .returned (.int .u64 (withN 0 l)) ∧ w = w' := by
  have H := Lib.hid (with_any 0 n c a l w (by decide) hn hr)
  go_enter Tryd.func32, Tryd.ntmps32
  go_wp2_with fail
  refine H.out.mono ?_
  rintro e w' ⟨rfl, rfl⟩
  go_wp2
  go_ret
  exact ⟨rfl, rfl⟩
set_option maxHeartbeats 400000 in
theorem less_any (x n c : Nat) (a : Option Addr) (l : List Int) (w : World) (hx : x < 18446744073709551616) (hn : n ≤ 9223372036854775807) (hr : Rd w 1 a n c (l.map (Value.int .i64))) :
    Calls Tryd.prog 31 #[.int .u64 x, .slice a n c] w fun e w' => e = .returned (.int .u64 (butN x (withN 0 l))) ∧ w = w' := by
  go_enter Tryd.func31, Tryd.ntmps31
  go_wp2_with fail
  refine (of_any n c a l _ hn hr).mono ?_
  rintro e w' ⟨rfl, rfl⟩
  go_wp2_with fail
  refine (but_any x _ hx (withN_lt l (by decide)) _).mono ?_
  rintro e w' ⟨rfl, rfl⟩
  go_wp2
  go_ret
  exact ⟨rfl, rfl⟩

theorem all_or (k : Nat) (hk : k < 64) : bits BinOp.or IntKind.u64 ((2 ^ k - 1 : Nat) : Int) ((bitN k : Nat) : Int) = ((2 ^ (k + 1) - 1 : Nat) : Int) := by
  have hb : bitN k = 2 ^ k := by rw [bitN, if_pos (by omega), Int.toNat_natCast]
  have hlt2 := bitN_lt k
  rw [u64_or_nat _ _ (by rw [hb] at hlt2; omega) hlt2, hb, allN_step k]
/-- The members as Go's ints. -/
def memI (x : Nat) : List Int := (memN x).map fun i : Nat => (i : Int)
theorem memI_len (x : Nat) : (memI x).length = cardN x := by rw [memI, List.length_map, memN_len]
theorem Tryd.intE : Elt Tryd.prog 85 3 (.int .i64 0) 1 8 := ⟨by kernel_rfl, by kernel_rfl, rfl, by decide⟩

end Go.Proofs.YtikhpafdnohhkaaDoor
