/- walks of the reference of sets: Size, Min, In, Most, Same; and the walks of SetLists, SetTells -/
import Derived.Test.YtfmdfoopdbkgpaaDoorSetR3
import Derived.Test.YtfmdfoopdbkgpaaDoorSetL3
namespace Go.Proofs.YtfmdfoopdbkgpaaDoor
open Go.RowKit

def minI (x : Nat) : Int := if x = 0 then -1 else (Lib.ctz 64 x : Int)
theorem min_any (x : Nat) (hx : x < 18446744073709551616) (w : World) (hT : Tab w) : Calls Tryd.prog 25 #[.int .u64 x] w fun e w' => e = .returned (.int .i64 (minI x)) ∧ w = w' := by
  by_cases h : x = 0
  · subst h; exact min_none w
  · rw [minI, if_neg h]; exact min_some x hx h w hT

set_option maxHeartbeats 400000 in
theorem rsize_any (x : Nat) (hx : x < 18446744073709551616) (w : World) : Calls Tryd.prog 29 #[.int .u64 x] w fun e w' => e = .returned (.int .i64 (cardN x)) ∧ Below w.heap.size w w' := by
  go_enter Tryd.func29, Tryd.ntmps29
  go_wp2_with fail
  refine (rlist_any x _ hx).mono ?_
  rintro e w1 ⟨v, rfl, hown, hb⟩
  obtain ⟨a, c, rfl, hr⟩ := Rd.own hown
  go_wp2
  go_ret
  exact ⟨rfl, hb⟩
set_option maxHeartbeats 400000 in
theorem rmin_any (x : Nat) (hx : x < 18446744073709551616) (w : World) : Calls Tryd.prog 30 #[.int .u64 x] w fun e w' => e = .returned (.int .i64 (minI x)) ∧ Below w.heap.size w w' := by
  go_enter Tryd.func30, Tryd.ntmps30
  go_wp2_with fail
  refine (rlist_any x _ hx).mono ?_
  rintro e w1 ⟨v, rfl, hown, hb⟩
  obtain ⟨a, c, rfl, hr⟩ := Rd.own hown
  clear hown
  by_cases h0 : x = 0
  · subst h0
    rw [card_zero]
    go_wp2
    go_ret
    exact ⟨rfl, hb⟩
  · have hm : minI x = (Lib.ctz 64 x : Int) := by rw [minI, if_neg h0]
    have hlow := memN_low hx h0
    have hc : 0 < cardN x := by rw [← memN_len, hlow]; simp
    obtain ⟨b, off, rfl, _⟩ := hr.addr hc
    have hcell : w1.cell? ⟨b, off, none⟩ = some (.int .i64 (Lib.ctz 64 x)) := hr.at (j := 0) (by simp [memI, hlow])
    have hz : ((cardN x : Int) == 0) = false := by simp; omega
    have hc0 : (0 : Int) < cardN x := by omega
    have HM := Lib.hid hm
    clear hm hlow h0
    go_wp2
    go_ret
    exact ⟨ret_int HM.out.symm, hb⟩
set_option maxHeartbeats 400000 in
theorem rin_any (x y : Nat) (hx : x < 18446744073709551616) (hy : y < 18446744073709551616) (w : World) : Calls Tryd.prog 28 #[.int .u64 x, .int .u64 y] w fun e w' => e = .returned (.bool (inB x y)) ∧ Below w.heap.size w w' := by
  go_enter Tryd.func28, Tryd.ntmps28
  go_wp2_with fail
  refine (rbut_any x y _ hx hy).mono ?_
  rintro e w1 ⟨rfl, hb⟩
  go_wp2
  go_ret
  exact ⟨ret_bool (by rw [inB, icb0]), hb⟩
set_option maxHeartbeats 400000 in
theorem rmost_any (x y : Nat) (hx : x < 18446744073709551616) (hy : y < 18446744073709551616) (w : World) : Calls Tryd.prog 33 #[.int .u64 x, .int .u64 y] w fun e w' => e = .returned (.bool (mostB x y)) ∧ Below w.heap.size w w' := by
  have c1 := cardN_le (x &&& y)
  go_enter Tryd.func33, Tryd.ntmps33
  go_wp2_with fail
  refine (rboth_any x y _ hx hy).mono ?_
  rintro e w1 ⟨rfl, hb1⟩
  go_wp2_with fail
  refine (rsize_any _ (and_lt x y hx) _).mono ?_
  rintro e w2 ⟨rfl, hb2⟩
  have hb2 := belS hb1 hb2
  go_wp2_with fail
  refine (rsize_any y hy _).mono ?_
  rintro e w3 ⟨rfl, hb3⟩
  have hb3 := belS hb2 hb3
  go_wp2
  go_ret
  refine ⟨ret_bool ?_, hb3⟩
  rw [mostB]
  simp only [decide_eq_decide]
  omega
set_option maxHeartbeats 800000 in
theorem same_some (b off c b' off' c' n : Nat) (l : List Int) (w : World) (hn : n ≤ 1000000) (hr : Rd w 1 (some ⟨b, off, none⟩) n c (l.map (Value.int .i64))) (hr' : Rd w 1 (some ⟨b', off', none⟩) n c' (l.map (Value.int .i64))) :
    Calls Tryd.prog 31 #[.slice (some ⟨b, off, none⟩) n c, .slice (some ⟨b', off', none⟩) n c'] w fun e w' => e = .returned (.bool true) ∧ Below w.heap.size w w' := by
  have hl := Lib.hid hr.intLen
  have hbw := fun h => hr.addr h
  have hbw' := fun h => hr'.addr h
  go_enter Tryd.func31, Tryd.ntmps31
  go_wp2
  go_loopw [5] (fun i wr => ∃ k : Nat, k ≤ n ∧ i = .int .i64 k ∧ Below w.heap.size w wr) (fun i _ => n - (intOf i).toNat)
  case atStart => exact ⟨0, Nat.zero_le _, rfl, Below.refl _ _⟩
  case round =>
    obtain ⟨k, hk, rfl, hbr⟩ := hrel
    by_cases hlt : k < n
    · have hkl : k < l.length := by rw [hl.out]; exact hlt
      have hc1 := (hr.below hbr (Nat.le_refl _)).int1 k hkl
      have hc2 := (hr'.below hbr (Nat.le_refl _)).int1 k hkl
      have hki : (k : Int) < n := by omega
      generalize l[k] = p at *
      clear hbw hbw'
      go_wp2
      go_quiet (fail)
      go_wp2
      go_roundw
      case rel => exact ⟨k + 1, by omega, by go_num, belN hbr _⟩
      case measure => simp [intOf]; omega
    · have hki : ¬ (k : Int) < n := by omega
      go_wp2
      go_ret
      exact ⟨rfl, hbr⟩
set_option maxHeartbeats 800000 in
theorem same_nil (a a' : Option Addr) (c c' : Nat) (w : World) :
    Calls Tryd.prog 31 #[.slice a 0 c, .slice a' 0 c'] w fun e w' => e = .returned (.bool true) ∧ Below w.heap.size w w' := by
  go_enter Tryd.func31, Tryd.ntmps31
  go_wp2
  refine wp_loop_rounds 1 ?_
  rw [rounds_succ]
  go_wp2
  go_ret
  exact ⟨rfl, Below.refl _ _⟩
theorem same_any (a a' : Option Addr) (n c c' : Nat) (l : List Int) (w : World) (hn : n ≤ 1000000) (hr : Rd w 1 a n c (l.map (Value.int .i64))) (hr' : Rd w 1 a' n c' (l.map (Value.int .i64))) :
    Calls Tryd.prog 31 #[.slice a n c, .slice a' n c'] w fun e w' => e = .returned (.bool true) ∧ Below w.heap.size w w' := by
  rcases hr.2 with rfl | ⟨b, off, rfl, _⟩
  · exact same_nil a a' c c' w
  · by_cases h0 : n = 0
    · subst h0; exact same_nil _ _ c c' w
    · obtain ⟨b', off', rfl, _⟩ := hr'.addr (by omega)
      exact same_some b off c b' off' c' n l w hn hr hr'

set_option maxHeartbeats 3200000 in
set_option maxRecDepth 100000 in
theorem tells_law0 (x y : Nat) (p : Int) (w : World) (hT : Tab w) (hx : x < 18446744073709551616) (hy : y < 18446744073709551616) :
    Calls Tryd.prog 8 #[.int .u64 x, .int .u64 y, .int .i64 p] w fun e w' => e = .returned (.bool true) ∧ Below w.heap.size w w' := by
  have hpos := hT.1
  have b1 := or_lt hx hy
  have b2 := but_lt x y hx
  have b3 := and_lt x y hx
  have b4 := allN_lt p
  have hcl := cardN_le x
  go_enter Tryd.func8, Tryd.ntmps8
  go_wp2_with fail
  refine (awake_any _ hT).mono ?_
  rintro e w1 ⟨rfl, HB⟩
  go_wp2_with (first
    | (go_at_call 23; refine (has_any x p hx _).mono ?_; rintro e w' ⟨rfl, rfl⟩)
    | (go_at_call 26; refine (rhas_any x p _ hx).mono ?_; rintro e w' ⟨rfl, hb⟩; replace HB := belS HB hb; clear hb)
    | (go_at_call 17; refine (both_any x y hx hy _).mono ?_; rintro e w' ⟨rfl, rfl⟩)
    | (go_at_call 27; refine (rboth_any x y _ hx hy).mono ?_; rintro e w' ⟨rfl, hb⟩; replace HB := belS HB hb; clear hb)
    | (go_at_call 19; refine (anyS_any x y hx hy _).mono ?_; rintro e w' ⟨rfl, rfl⟩)
    | (go_at_call 13; refine (rany_any x y _ hx hy).mono ?_; rintro e w' ⟨rfl, hb⟩; replace HB := belS HB hb; clear hb)
    | (go_at_call 20; refine (but_any x y hx hy _).mono ?_; rintro e w' ⟨rfl, rfl⟩)
    | (go_at_call 15; refine (rbut_any x y _ hx hy).mono ?_; rintro e w' ⟨rfl, hb⟩; replace HB := belS HB hb; clear hb)
    | (go_at_call 21; refine (in_any x y hx hy _).mono ?_; rintro e w' ⟨rfl, rfl⟩)
    | (go_at_call 28; refine (rin_any x y hx hy _).mono ?_; rintro e w' ⟨rfl, hb⟩; replace HB := belS HB hb; clear hb)
    | (go_at_call 18; refine (size_any x hx _).mono ?_; rintro e w' ⟨rfl, rfl⟩)
    | (go_at_call 29; refine (rsize_any x hx _).mono ?_; rintro e w' ⟨rfl, hb⟩; replace HB := belS HB hb; clear hb)
    | (go_at_call 25; refine (min_any x hx _ (hT.below HB hpos)).mono ?_; rintro e w' ⟨rfl, rfl⟩)
    | (go_at_call 30; refine (rmin_any x hx _).mono ?_; rintro e w' ⟨rfl, hb⟩; replace HB := belS HB hb; clear hb)
    | (go_at_call 24; refine (list_any x _ hx (hT.below HB hpos)).mono ?_; rintro e w' ⟨v, rfl, hown, hb⟩; obtain ⟨a1, c1, rfl, hr1⟩ := Rd.own hown; replace HB := belS HB hb; clear hb hown)
    | (go_at_call 32; refine (rlist_any x _ hx).mono ?_; rintro e w' ⟨v, rfl, hown, hb⟩; obtain ⟨a2, c2, rfl, hr2⟩ := Rd.own hown; replace hr1 := hr1.below hb (Nat.le_refl _); replace HB := belS HB hb; clear hb hown)
    | (go_at_call 31; refine (same_any a1 a2 _ c1 c2 (memI x) _ (by omega) hr1 hr2).mono ?_; rintro e w' ⟨rfl, hb⟩; replace HB := belS HB hb; clear hb hr1 hr2)
    | (go_at_call 16; refine (most_any x y hx hy _).mono ?_; rintro e w' ⟨rfl, rfl⟩)
    | (go_at_call 33; refine (rmost_any x y hx hy _).mono ?_; rintro e w' ⟨rfl, hb⟩; replace HB := belS HB hb; clear hb)
    | (go_at_call 22; refine (allS_any p _).mono ?_; rintro e w' ⟨rfl, rfl⟩)
    | (go_at_call 34; refine (rall_any p _).mono ?_; rintro e w' ⟨rfl, hb⟩; replace HB := belS HB hb; clear hb))
  go_ret
  exact ⟨ret_bool (by simp), HB⟩

set_option maxHeartbeats 3200000 in
set_option maxRecDepth 100000 in
theorem lists_law0 (x n c : Nat) (a : Option Addr) (l : List Int) (w : World) (hT : Tab w) (hx : x < 18446744073709551616) (hr : Rd w 1 a n c (l.map (Value.int .i64))) (hn : n ≤ 1000) :
    Calls Tryd.prog 3 #[.int .u64 x, .slice a n c] w fun e w' => e = .returned (.bool true) ∧ Below w.heap.size w w' := by
  have hW : withN x l = x ||| withN 0 l := by
    refine ext64 (withN_lt l hx) (or_lt hx (withN_lt l (by decide))) fun i hi => ?_
    rw [withN_bit l i hi, Nat.testBit_or, withN_bit l i hi]; simp
  have h0 := withN_lt l (show 0 < 18446744073709551616 by decide)
  have HW := Lib.hid (fun w hr => with_any x n c a l w hx (by omega) hr)
  rw [hW] at HW
  clear hW
  have hO := Lib.hid (fun w hr => of_any n c a l w (by omega) hr)
  have hRO := Lib.hid (fun w hr => rof_any a n c l w (by omega) hr)
  have hLE := Lib.hid (fun w hr => less_any x n c a l w hx (by omega) hr)
  generalize withN 0 l = y at *
  go_enter Tryd.func3, Tryd.ntmps3
  go_wp2_with fail
  refine (awake_any _ hT).mono ?_
  rintro e w1 ⟨rfl, HB⟩
  go_wp2_with (first
    | (go_at_call 10; refine (hRO.out _ (hr.below HB (Nat.le_refl _))).mono ?_; rintro e w' ⟨rfl, hb⟩; replace HB := belS HB hb; clear hb)
    | (go_at_call 11; refine (hO.out _ (hr.below HB (Nat.le_refl _))).mono ?_; rintro e w' ⟨rfl, rfl⟩)
    | (go_at_call 12; refine (HW.out _ (hr.below HB (Nat.le_refl _))).mono ?_; rintro e w' ⟨rfl, rfl⟩)
    | (go_at_call 13; refine (rany_any x y _ hx h0).mono ?_; rintro e w' ⟨rfl, hb⟩; replace HB := belS HB hb; clear hb)
    | (go_at_call 14; refine (hLE.out _ (hr.below HB (Nat.le_refl _))).mono ?_; rintro e w' ⟨rfl, rfl⟩)
    | (go_at_call 15; refine (rbut_any x y _ hx h0).mono ?_; rintro e w' ⟨rfl, hb⟩; replace HB := belS HB hb; clear hb))
  go_ret
  exact ⟨ret_bool (by simp), HB⟩
set_option maxHeartbeats 400000 in
theorem lists_out (x n c : Nat) (a : Option Addr) (w : World) (hT : Tab w) (hn : 1000 < n) :
    Calls Tryd.prog 3 #[.int .u64 x, .slice a n c] w fun e w' => e = .returned (.bool true) ∧ Below w.heap.size w w' := by
  go_enter Tryd.func3, Tryd.ntmps3
  go_wp2_with fail
  refine (awake_any _ hT).mono ?_
  rintro e w1 ⟨rfl, HB⟩
  go_wp2
  go_ret
  exact ⟨rfl, HB⟩
theorem tells_law (x y p : Int) (w : World) (hT : Tab w) (hx : (Lit.int .u64 x).wf = true) (hy : (Lit.int .u64 y).wf = true) (_ : (Lit.int .i64 p).wf = true) :
    Calls Tryd.prog 8 #[.int .u64 x, .int .u64 y, .int .i64 p] w fun e w' => e = .returned (.bool true) ∧ Below w.heap.size w w' := by
  obtain ⟨a, rfl, ha⟩ := u64_nat hx
  obtain ⟨b, rfl, hb⟩ := u64_nat hy
  exact tells_law0 a b p w hT ha hb
theorem lists_law (x : Int) (a : Option Addr) (n c : Nat) (w : World) (hT : Tab w) (hx : (Lit.int .u64 x).wf = true) (h : ∃ l, RSl (RInt .i64) 1 w a n c l) :
    Calls Tryd.prog 3 #[.int .u64 x, .slice a n c] w fun e w' => e = .returned (.bool true) ∧ Below w.heap.size w w' := by
  obtain ⟨u, rfl, hu⟩ := u64_nat hx
  obtain ⟨l, hl⟩ := h
  by_cases hn : 1000 < n
  · exact lists_out u n c a w hT hn
  · exact lists_law0 u n c a l w hT hu hl.ints (by omega)
end Go.Proofs.YtfmdfoopdbkgpaaDoor
