/- walks of package set: With, Of, Less, All, List -/
import Derived.Test.YteeeikkapnchlaaDoorSetA
namespace Go.Proofs.YteeeikkapnchlaaDoor
set_option linter.unusedSimpArgs false
set_option linter.unusedVariables false
open Go.RowKit

theorem Rd.int1 {w : World} {b off n c : Nat} {k : IntKind} {l : List Int} (h : Rd w 1 (some ⟨b, off, none⟩) n c (l.map (Value.int k))) (i : Nat) (hi : i < l.length) : w.cell? ⟨b, off + i, none⟩ = some (.int k l[i]) :=
  h.at (by rw [List.getElem?_map, List.getElem?_eq_getElem hi]; rfl)
theorem Rd.intLen {w : World} {a : Option Addr} {n c : Nat} {k : IntKind} {l : List Int} (h : Rd w 1 a n c (l.map (Value.int k))) : l.length = n := by
  have := h.length_eq; simpa using this

set_option maxHeartbeats 400000 in
theorem with_some (x b off n c : Nat) (l : List Int) (w : World) (hx : x < 18446744073709551616) (hn : n ≤ 9223372036854775807) (hr : Rd w 1 (some ⟨b, off, none⟩) n c (l.map (Value.int .i64))) :
    Calls Tryd.prog 29 #[.int .u64 x, .slice (some ⟨b, off, none⟩) n c] w fun e w' => e = .returned (.int .u64 (withN x l)) ∧ w = w' := by
  have hl := Lib.hid hr.intLen
  go_enter Tryd.func29, Tryd.ntmps29
  go_wp2
  go_loop [0, 6, 9] (fun y _ i => ∃ k : Nat, k ≤ n ∧ i = .int .i64 k ∧ y = .int .u64 (withN x (l.take k))) (fun _ _ i => n - (intOf i).toNat)
  case atStart => exact ⟨0, Nat.zero_le _, rfl, rfl⟩
  case round =>
    obtain ⟨k, hk, rfl, rfl⟩ := hrel
    by_cases hlt : k < n
    · have hkl : k < l.length := by rw [hl.out]; exact hlt
      have hc := hr.int1 k hkl
      have hy := withN_lt (l.take k) hx
      have hs := Lib.hid (withN_snoc x (l.take k) l[k])
      generalize withN x (l.take k) = y at *
      have ho := u64_or_nat y (bitN l[k]) hy (bitN_lt _)
      go_wp2_with (go_at_call 24; refine (bit_any l[k] _).mono ?_; rintro e w' ⟨rfl, rfl⟩)
      go_round
      case rel => exact ⟨k + 1, by omega, by go_num, by rw [List.take_succ_eq_append_getElem hkl, hs.out]⟩
      case measure => simp [intOf]; omega
    · go_wp2
      go_ret
      refine ⟨ret_int ?_, rfl⟩
      rw [List.take_of_length_le (by rw [hl.out]; omega)]
set_option maxHeartbeats 400000 in
theorem with_nil (x c : Nat) (a : Option Addr) (w : World) :
    Calls Tryd.prog 29 #[.int .u64 x, .slice a 0 c] w fun e w' => e = .returned (.int .u64 x) ∧ w = w' := by
  go_enter Tryd.func29, Tryd.ntmps29
  go_wp2
  refine wp_loop_rounds 1 ?_
  rw [rounds_succ]
  go_wp2
  go_ret
  exact ⟨rfl, rfl⟩
theorem with_any (x n c : Nat) (a : Option Addr) (l : List Int) (w : World) (hx : x < 18446744073709551616) (hn : n ≤ 9223372036854775807) (hr : Rd w 1 a n c (l.map (Value.int .i64))) :
    Calls Tryd.prog 29 #[.int .u64 x, .slice a n c] w fun e w' => e = .returned (.int .u64 (withN x l)) ∧ w = w' := by
  rcases hr.2 with rfl | ⟨b, off, rfl, hlt, _⟩
  · obtain rfl := List.eq_nil_of_length_eq_zero hr.intLen
    exact with_nil x c a w
  · exact with_some x b off n c l w hx hn hr
theorem all_or (k : Nat) (hk : k < 64) : bits BinOp.or IntKind.u64 ((2 ^ k - 1 : Nat) : Int) ((bitN k : Nat) : Int) = ((2 ^ (k + 1) - 1 : Nat) : Int) := by
  have hb : bitN k = 2 ^ k := by rw [bitN, if_pos (by omega), Int.toNat_natCast]
  have hlt2 := bitN_lt k
  rw [u64_or_nat _ _ (by rw [hb] at hlt2; omega) hlt2, hb, allN_step k]
set_option maxHeartbeats 800000 in
theorem allS_some (N : Nat) (w : World) (hN : N ≤ 64) : Calls Tryd.prog 8 #[.int .i64 N] w fun e w' => e = .returned (.int .u64 (2 ^ N - 1 : Nat)) ∧ w = w' := by
  by_cases h0 : N = 0
  · subst h0
    go_enter Tryd.func8, Tryd.ntmps8
    go_wp2
    refine wp_loop_rounds 1 ?_
    rw [rounds_succ]
    go_wp2
    go_ret
    exact ⟨rfl, rfl⟩
  have hp : (0 : Int) < N := by omega
  go_enter Tryd.func8, Tryd.ntmps8
  go_wp2
  go_loop [3, 4, 8] (fun y _ i => ∃ k : Nat, k ≤ N ∧ i = .int .i64 k ∧ y = .int .u64 (2 ^ k - 1 : Nat)) (fun _ _ i => N - (intOf i).toNat)
  case atStart => exact ⟨0, Nat.zero_le _, rfl, rfl⟩
  case round =>
    obtain ⟨k, hk, rfl, rfl⟩ := hrel
    by_cases hlt : k < N
    · have HO := Lib.hid (all_or k (by omega))
      have HC := Lib.hid (fun w => bit_any k w)
      go_wp2_with (go_at_call 24; refine (HC.out _).mono ?_; rintro e w' ⟨rfl, rfl⟩)
      go_round
      case rel => exact ⟨k + 1, by omega, by go_num, by rw [HO.out]⟩
      case measure => simp [intOf]; omega
    · obtain rfl : k = N := by omega
      go_wp2
      go_ret
      exact ⟨rfl, rfl⟩
set_option maxHeartbeats 800000 in
theorem allS_neg (n : Int) (w : World) (hn : n < 0) : Calls Tryd.prog 8 #[.int .i64 n] w fun e w' => e = .returned (.int .u64 0) ∧ w = w' := by
  go_enter Tryd.func8, Tryd.ntmps8
  go_wp2
  refine wp_loop_rounds 1 ?_
  rw [rounds_succ]
  go_wp2
  go_ret
  exact ⟨rfl, rfl⟩
set_option maxHeartbeats 800000 in
theorem allS_big (n : Int) (w : World) (hn : 64 < n) : Calls Tryd.prog 8 #[.int .i64 n] w fun e w' => e = .returned (.int .u64 (2 ^ 64 - 1 : Nat)) ∧ w = w' := by
  go_enter Tryd.func8, Tryd.ntmps8
  go_wp2
  go_loop [3, 4, 8] (fun y _ i => ∃ k : Nat, k ≤ 64 ∧ i = .int .i64 k ∧ y = .int .u64 (2 ^ k - 1 : Nat)) (fun _ _ i => 64 - (intOf i).toNat)
  case atStart => exact ⟨0, Nat.zero_le _, rfl, rfl⟩
  case round =>
    obtain ⟨k, hk, rfl, rfl⟩ := hrel
    by_cases hlt : k < 64
    · have HO := Lib.hid (all_or k (by omega))
      have HC := Lib.hid (fun w => bit_any k w)
      go_wp2_with (go_at_call 24; refine (HC.out _).mono ?_; rintro e w' ⟨rfl, rfl⟩)
      go_round
      case rel => exact ⟨k + 1, by omega, by go_num, by rw [HO.out]⟩
      case measure => simp [intOf]; omega
    · obtain rfl : k = 64 := by omega
      go_wp2
      go_ret
      exact ⟨rfl, rfl⟩
theorem allS_any (n : Int) (w : World) : Calls Tryd.prog 8 #[.int .i64 n] w fun e w' => e = .returned (.int .u64 (allN n)) ∧ w = w' := by
  by_cases h1 : n < 0
  · have := allS_neg n w h1
    rw [allN, show (max 0 (min n 64)).toNat = 0 from by omega]
    exact this
  by_cases h2 : 64 < n
  · rw [allN, show (max 0 (min n 64)).toNat = 64 from by omega]
    exact allS_big n w h2
  · obtain ⟨N, rfl⟩ : ∃ N : Nat, n = N := ⟨n.toNat, by omega⟩
    rw [allN, show (max 0 (min (N : Int) 64)).toNat = N from by omega]
    exact allS_some N w (by omega)

/-- The members as Go's ints. -/
def memI (x : Nat) : List Int := (memN x).map fun i : Nat => (i : Int)
theorem memI_len (x : Nat) : (memI x).length = cardN x := by rw [memI, List.length_map, memN_len]
theorem Tryd.intE : Elt Tryd.prog 33 3 (.int .i64 0) 1 8 := ⟨by kernel_rfl, by kernel_rfl, rfl, by decide⟩

set_option maxHeartbeats 800000 in
theorem list_any (x : Nat) (w : World) (hx : x < 18446744073709551616) (hT : Tab w) :
    Calls Tryd.prog 46 #[.int .u64 x] w fun e w' => ∃ v, e = .returned v ∧ w'.ownsRow w.heap.size 3 1 v (cardN x) ((memI x).map (Value.int .i64)) ∧ Below w.heap.size w w' := by
  have hpos := hT.1
  go_enter Tryd.func46, Tryd.ntmps46
  go_wp2
  go_loopw [3, 4] (fun o t wr => ∃ y k : Nat, ∃ l : List Int, y < 18446744073709551616 ∧ t = .int .u64 y ∧ Hid (memI x = l ++ memI y) ∧ k + cardN y = cardN x ∧ wr.ownsRow w.heap.size 3 1 o k (l.map (Value.int .i64)) ∧ Below w.heap.size w wr) (fun _ t _ => cardN (intOf t).toNat)
  case atStart => exact ⟨x, 0, [], hx, rfl, rfl, by omega, World.ownsRow_nil _ _ _ _, Below.refl _ _⟩
  case round =>
    obtain ⟨y, k, l, hy, rfl, hl, hk, hown, hbr⟩ := hrel
    have hsize := hbr.size
    have hc64 := cardN_le x
    by_cases h0 : y = 0
    · subst h0
      go_wp2
      go_ret
      refine ⟨_, rfl, ?_, hbr⟩
      have hm : memI 0 = [] := by rw [memI, memN_zero]; rfl
      have e1 := hl.out
      rw [hm, List.append_nil] at e1
      rw [e1]
      have hc0 : cardN 0 = 0 := by rw [← memI_len, hm]; rfl
      rw [hc0, Nat.add_zero] at hk
      rw [← hk]; exact hown
    · have hlow := memN_low hy h0
      have hcard : cardN y = cardN (y &&& (y - 1)) + 1 := by rw [← memN_len, hlow, List.length_cons, memN_len]
      have hz : ((y : Int) != 0) = true := by simpa using h0
      have hy1 : 1 ≤ y := by omega
      have ha := u64_and_nat y (y - 1) hy (by omega)
      rw [show ((y - 1 : Nat) : Int) = (y : Int) - 1 from by omega] at ha
      have hl2 := Lib.hid (show memI x = (l ++ [(Lib.ctz 64 y : Int)]) ++ memI (y &&& (y - 1)) from by rw [hl.out, memI, memI, hlow, List.map_cons, List.append_assoc]; rfl)
      have hlt2 := and_lt y (y - 1) hy
      have HC := Lib.hid hcard
      have H0 := Lib.hid h0
      clear hcard hlow hl h0
      go_wp2_with (first
        | (go_at_call 52; refine (min_some y hy H0.out _ (hT.below hbr hpos)).mono ?_; rintro e w' ⟨rfl, rfl⟩)
        | (at_builtin; refine wpList_app1 Tryd.intE rfl (.tmp 12) (.tmp 15) rfl hown rfl rfl rfl (by unfold maxLen; omega) (by omega) hsize ?_; intro v' w' hown' hg'))
      go_roundw
      case rel => exact ⟨y &&& (y - 1), k + 1, _, hlt2, rfl, hl2, by have := HC.out; omega, by rw [List.map_append]; exact hown', (hbr.alloc hsize _).grown hg' (by simp; omega) (fun j hj => (hown.lt j hj).1)⟩
      case measure => simp only [intOf, Int.toNat_natCast]; have := HC.out; omega
end Go.Proofs.YteeeikkapnchlaaDoor
