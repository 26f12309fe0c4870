/- the walk of SetAll -/
import Derived.Test.YtfmdfoopdbkgpaaDoorSetC
import Derived.Test.YtfmdfoopdbkgpaaDoorSetL1
namespace Go.Proofs.YtfmdfoopdbkgpaaDoor
open Go.RowKit

theorem allK_bit (k i : Nat) : (2 ^ k - 1).testBit i = decide (i < k) := Nat.testBit_two_pow_sub_one k i
theorem cnt_lt (k : Nat) (l : List Nat) : l.countP (fun i => decide (i < k)) = l.countP (fun i => decide (i < k)) := rfl
theorem card_allK : ∀ k, k < 65 → cardN (2 ^ k - 1) = k := by decide +kernel
theorem in_allK : ∀ k : Nat, k < 64 → inB (2 ^ k - 1) (2 ^ (k + 1) - 1) = true ∧ butN (2 ^ (k + 1) - 1) (2 ^ k - 1) = withN 0 [(k : Int)] := by decide +kernel
theorem allN_k (k : Nat) (h : k ≤ 64) : allN k = 2 ^ k - 1 := by rw [allN, show (max 0 (min (k : Int) 64)).toNat = k from by omega]

set_option maxHeartbeats 3200000 in
set_option maxRecDepth 100000 in
theorem all_main (n x : Int) (k a : Nat) (w : World) (hT : Tab w) (hm1 : (if 64 < n then (64 : Int) else n) = x) (hm2 : (if 0 < x then x else (0 : Int)) = (k : Int)) (hk : k ≤ 64) (hA : Hid (allN n = a)) (hA' : Hid (allN k = a)) (ha : a < 18446744073709551616)
   (hbit : Hid (∀ p : Nat, p < 64 → hasB a p = decide (p < k))) (hcard : Hid (cardN a = k)) (h1 : Hid (k < 64 → inB a (allN ((k : Int) + 1)) = true ∧ butN (allN ((k : Int) + 1)) a = withN 0 [(k : Int)])) :
    Calls Tryd.prog 6 #[.int .i64 n] w fun e w' => e = .returned (.bool true) ∧ Below w.heap.size w w' := by
  have hlt1 := allN_lt ((k : Int) + 1)
  have hlt2 := withN_lt [(k : Int)] (show 0 < 18446744073709551616 by decide)
  go_enter Tryd.func6, Tryd.ntmps6
  go_wp2_with fail
  refine (awake_any _ hT).mono ?_
  rintro e w1 ⟨rfl, hb1⟩
  go_wp2_with fail
  refine (allS_any _ _).mono ?_
  rintro e w' ⟨rfl, rfl⟩
  rw [hA.out]
  go_wp2
  clear hm1 hm2
  go_loop [5] (fun i => ∃ p : Nat, p ≤ 64 ∧ i = .int .i64 p) (fun i => 64 - (intOf i).toNat)
  case atStart => exact ⟨0, Nat.zero_le _, rfl⟩
  case round =>
    obtain ⟨p, hp, rfl⟩ := hrel
    by_cases hlt : p < 64
    · have hH := hbit.out p hlt
      go_wp2_with (go_at_call 23; refine (has_any a p ha _).mono ?_; rintro e w' ⟨rfl, rfl⟩)
      go_round
      case rel => exact ⟨p + 1, by omega, by go_num⟩
      case measure => simp [intOf]; omega
    · have hc := hcard.out
      have hAk := hA'.out
      have HK := Lib.hid hAk
      clear hAk
      by_cases hk64 : k = 64
      · subst hk64
        have HK6 : Hid (allN 64 = a) := HK
        go_wp2_with (first
          | (go_at_call 18; refine (size_any _ ha _).mono ?_; rintro e w' ⟨rfl, rfl⟩)
          | (go_at_call 22; refine (allS_any _ _).mono ?_; rintro e w' ⟨rfl, rfl⟩; rw [HK6.out]))
        go_ret
        exact ⟨ret_bool (by simp), hb1⟩
      · obtain ⟨hI, hB⟩ := h1.out (by omega)
        have hz : ((k : Int) == 64) = false := by simp; omega
        have H1 := Lib.hid (fun W => allS_any ((k : Int) + 1) W)
        generalize allN ((k : Int) + 1) = a1 at *
        go_wp2_with fail
        refine (size_any _ ha _).mono ?_
        rintro e w' ⟨rfl, rfl⟩
        go_wp2_with fail
        refine (allS_any _ _).mono ?_
        rintro e w' ⟨rfl, rfl⟩
        rw [HK.out]
        go_wp2_with fail
        refine (H1.out _).mono ?_
        rintro e w' ⟨rfl, rfl⟩
        go_wp2_with fail
        refine (in_any _ _ ha hlt1 _).mono ?_
        rintro e w' ⟨rfl, rfl⟩
        rw [hI]
        go_wp2_with fail
        refine (H1.out _).mono ?_
        rintro e w' ⟨rfl, rfl⟩
        go_wp2_with fail
        refine (but_any _ _ hlt1 ha _).mono ?_
        rintro e w' ⟨rfl, rfl⟩
        rw [hB]
        go_wp2_with fail
        refine (of_any 1 1 _ [(k : Int)] _ (by decide) (Rd.lit (by first | rfl | simp) rfl (by decide))).mono ?_
        rintro e w' ⟨rfl, rfl⟩
        go_wp2
        go_ret
        exact ⟨ret_bool (by simp), hb1.alloc hb1.size _⟩

theorem all_law (n : Int) (w : World) (hT : Tab w) (_ : (Lit.int .i64 n).wf = true) :
    Calls Tryd.prog 6 #[.int .i64 n] w fun e w' => e = .returned (.bool true) ∧ Below w.heap.size w w' := by
  obtain ⟨k, hk⟩ : ∃ k : Nat, k = (max 0 (min n 64)).toNat := ⟨_, rfl⟩
  have h64 : k ≤ 64 := by omega
  have he : allN n = 2 ^ k - 1 := by rw [allN, ← hk]
  refine all_main n _ k (2 ^ k - 1) w hT rfl ?_ h64 he (allN_k k h64) (by rw [← he]; exact allN_lt n) ?_ (card_allK k (by omega)) ?_
  · split <;> split <;> omega
  · intro p hp
    rw [hasB_eq, Int.toNat_natCast, allK_bit]
    have : decide (0 ≤ (p : Int) ∧ (p : Int) < 64) = true := by simp; omega
    rw [this]; simp
  · intro h
    rw [show (k : Int) + 1 = ((k + 1 : Nat) : Int) from by omega, allN_k (k + 1) (by omega)]
    exact in_allK k h
end Go.Proofs.YtfmdfoopdbkgpaaDoor
