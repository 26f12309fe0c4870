/- the walk of SetBack -/
import Derived.Test.YtfmdfoopdbkgpaaDoorSetC
import Derived.Test.YtfmdfoopdbkgpaaDoorSetL1
import Derived.Deep.QuietTactic
import Derived.BigQuiet
namespace Go.Proofs.YtfmdfoopdbkgpaaDoor
open Go.RowKit

theorem mem_memN {x i : Nat} : i ∈ memN x ↔ i < 64 ∧ x.testBit i = true := by rw [memN, List.mem_filter, List.mem_range]
theorem mem_memI {x : Nat} {p : Int} : p ∈ memI x ↔ ∃ i : Nat, p = i ∧ i < 64 ∧ x.testBit i = true := by
  rw [memI, List.mem_map]
  constructor
  · rintro ⟨i, hi, rfl⟩; exact ⟨i, rfl, mem_memN.1 hi⟩
  · rintro ⟨i, rfl, hi⟩; exact ⟨i, mem_memN.2 hi, rfl⟩
theorem with_memI {x : Nat} (hx : x < 18446744073709551616) : withN 0 (memI x) = x := by
  refine ext64 (withN_lt _ (by decide)) hx fun i hi => ?_
  rw [withN_bit _ i hi, Nat.zero_testBit, Bool.false_or, Bool.eq_iff_iff, List.contains_iff_mem, mem_memI]
  constructor
  · rintro ⟨j, hj, _, h⟩; obtain rfl : i = j := by omega
    exact h
  · intro h; exact ⟨i, rfl, hi, h⟩
theorem memN_sorted (x : Nat) : (memN x).Pairwise (· < ·) := List.Pairwise.filter _ List.pairwise_lt_range
theorem memI_sorted (x : Nat) : (memI x).Pairwise (· < ·) := by
  rw [memI, List.pairwise_map]
  exact (memN_sorted x).imp fun h => by omega
theorem memI_has {x : Nat} {p : Int} (h : p ∈ memI x) : hasB x p = true := by
  obtain ⟨i, rfl, hi, hb⟩ := mem_memI.1 h
  rw [hasB_eq, Int.toNat_natCast, hb]
  simp; omega
theorem Tab.drewN {w : World} (h : Tab w) (n : Nat) : Tab (w.drewN n) := h

set_option maxHeartbeats 1600000 in
set_option maxRecDepth 100000 in
theorem back_law0 (x : Nat) (w : World) (hT : Tab w) (hx : x < 18446744073709551616) :
    Calls Tryd.prog 7 #[.int .u64 x] w fun e w' => e = .returned (.bool true) ∧ Below w.heap.size w w' := by
  have hpos := hT.1
  go_enter Tryd.func7, Tryd.ntmps7
  go_wp2_with fail
  refine (awake_any _ hT).mono ?_
  rintro e w1 ⟨rfl, hb1⟩
  go_wp2_with fail
  refine (list_any x _ hx (hT.below hb1 hpos)).mono ?_
  rintro e w2 ⟨v, rfl, hown, hb⟩
  obtain ⟨a, c, rfl, hr⟩ := Rd.own hown
  have hb2 := belS hb1 hb
  have hlen := Lib.hid (memI_len x)
  have hcl := cardN_le x
  clear hown hb hb1
  go_wp2_with fail
  refine (of_any _ c a (memI x) _ (by omega) hr).mono ?_
  rintro e w3 ⟨rfl, rfl⟩
  rw [with_memI hx]
  go_wp2_with (go_at_call 18; refine (size_any x hx _).mono ?_; rintro e w' ⟨rfl, rfl⟩)
  go_loopw [5] (fun i wr => ∃ k : Nat, k ≤ cardN x ∧ i = .int .i64 k ∧ Below w2.heap.size w2 wr) (fun i _ => cardN x - (intOf i).toNat)
  case atStart => exact ⟨0, Nat.zero_le _, rfl, Below.refl _ _⟩
  case round =>
    obtain ⟨k, hk, rfl, hbr⟩ := hrel
    have hTr := (hT.below hb2 hpos).below hbr (Nat.lt_of_lt_of_le hpos hb2.size)
    by_cases hlt : k < cardN x
    · have hkl : k < (memI x).length := by rw [hlen.out]; exact hlt
      obtain ⟨b, off, rfl, hbs⟩ := hr.addr (by omega)
      have hc1 := (hr.below hbr (Nat.le_refl _)).int1 k hkl
      have hH := memI_has (List.getElem_mem hkl)
      have hki : (k : Int) < cardN x := by omega
      by_cases h0 : k = 0
      · subst h0
        have hx0 : x ≠ 0 := by
          rintro rfl
          rw [card_zero] at hlt; omega
        have hm : (memI x)[0] = (Lib.ctz 64 x : Int) := by
          have := memN_low hx hx0
          simp [memI, this]
        rw [hm] at hc1 hH
        have HX0 := Lib.hid hx0
        clear hm hx0
        have hki : (0 : Int) < cardN x := by omega
        have hc1 : wr.cell? ⟨b, off, none⟩ = some (.int .i64 (Lib.ctz 64 x)) := hc1
        go_wp2
        go_quiet (first | (go_at_call 23; exact qS (has_any x _ hx _)) | (go_at_call 25; exact qS (min_some x hx HX0.out _ (hTr.drewN _))))
        go_wp2
        go_roundw
        case rel => exact ⟨1, by omega, rfl, belN hbr _⟩
        case measure => simp [intOf]; omega
      · have hk1 : k - 1 < (memI x).length := by omega
        have hc2 := (hr.below hbr (Nat.le_refl _)).int1 (k - 1) hk1
        have hs := List.pairwise_iff_getElem.1 (memI_sorted x) (k - 1) k hk1 hkl (by omega)
        obtain ⟨d, rfl⟩ : ∃ d, k = d + 1 := ⟨k - 1, by omega⟩
        have hz : (((d + 1 : Nat) : Int) == 0) = false := by simp; omega
        generalize (memI x)[d + 1] = p at *
        generalize (memI x)[d + 1 - 1] = q at *
        have hc2 : wr.cell? ⟨b, off + d, none⟩ = some (.int .i64 q) := hc2
        have hz2 : ((d : Int) + 1 == 0) = false := by simp; omega
        have hq : decide (p ≤ q) = false := by simp; omega
        have hki : (d : Int) + 1 < cardN x := by omega
        have hki2 : (d : Int) < cardN x := by omega
        clear hs
        go_wp2
        go_quiet (first | (go_at_call 23; exact qS (has_any x _ hx _)))
        go_wp2
        go_roundw
        case rel => exact ⟨d + 1 + 1, by omega, by go_num, belN hbr _⟩
        case measure => simp [intOf]; omega
    · have hx' : ¬ (k : Int) < cardN x := by omega
      go_wp2
      go_ret
      exact ⟨rfl, hb2.trans (hbr.mono hb2.size)⟩
theorem back_law (x : Int) (w : World) (hT : Tab w) (hx : (Lit.int .u64 x).wf = true) :
    Calls Tryd.prog 7 #[.int .u64 x] w fun e w' => e = .returned (.bool true) ∧ Below w.heap.size w w' := by
  obtain ⟨a, rfl, ha⟩ := u64_nat hx
  exact back_law0 a w hT ha
end Go.Proofs.YtfmdfoopdbkgpaaDoor
