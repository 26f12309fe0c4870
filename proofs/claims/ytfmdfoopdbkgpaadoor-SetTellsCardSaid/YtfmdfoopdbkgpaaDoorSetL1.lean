/- the walks of SetMost and SetParts -/
import Derived.Test.YtfmdfoopdbkgpaaDoorSetC
namespace Go.Proofs.YtfmdfoopdbkgpaaDoor
open Go.RowKit

theorem mostB_t {x y : Nat} : mostB x y = true ↔ mostP x y := by rw [mostB, decide_eq_true_eq, mostP]
theorem mostB_f {x y : Nat} : mostB x y = false ↔ ¬ mostP x y := by rw [mostB, decide_eq_false_iff_not, mostP]

set_option maxHeartbeats 1600000 in
set_option maxRecDepth 100000 in
theorem most_law0 (x y z : Nat) (w : World) (hT : Tab w) (hx : x < 18446744073709551616) (hy : y < 18446744073709551616) (hz : z < 18446744073709551616) :
    Calls Tryd.prog 4 #[.int .u64 x, .int .u64 y, .int .u64 z] w fun e w' => e = .returned (.bool true) ∧ Below w.heap.size w w' := by
  have f1 : mostB x z = true → mostB y z = true → (1 : Int) ≤ cardN ((x &&& y) &&& z) := fun h1 h2 => by
    have := most_meet (mostB_t.1 h1) (mostB_t.1 h2); omega
  have f2 : mostB x z = true → mostB (x ||| y) z = true ∧ mostB (butN z x) z = false := fun h => ⟨mostB_t.2 (most_more (mostB_t.1 h)), mostB_f.2 (most_rest hx (mostB_t.1 h))⟩
  have f4 : mostB z z = decide (0 < cardN z) := by
    by_cases h : 0 < cardN z
    · rw [mostB_t.2 ((most_self z).2 h)]; simp [h]
    · rw [mostB_f.2 (fun h' => h ((most_self z).1 h'))]; simp [h]
  have f5 : mostB (x &&& z) z = mostB x z := by
    rw [Bool.eq_iff_iff, mostB_t, mostB_t]; exact most_both x z
  have b1 := or_lt hx hy
  have b2 := but_lt z x hz
  have b3 := and_lt x y hx
  have b4 := and_lt (x &&& y) z b3
  have b5 := and_lt x z hx
  cases hA : mostB x z with
  | false =>
    clear f1 f2
    go_enter Tryd.func4, Tryd.ntmps4
    go_wp2_with fail
    refine (awake_any _ hT).mono ?_
    rintro e w1 ⟨rfl, hb1⟩
    go_wp2_with (first
      | (go_at_call 16; refine (most_any _ _ (by assumption) (by assumption) _).mono ?_; rintro e w' ⟨rfl, rfl⟩)
      | (go_at_call 17; refine (both_any _ _ (by assumption) (by assumption) _).mono ?_; rintro e w' ⟨rfl, rfl⟩)
      | (go_at_call 18; refine (size_any _ (by assumption) _).mono ?_; rintro e w' ⟨rfl, rfl⟩))
    all_goals go_ret
    all_goals exact ⟨ret_bool (by simp [*]), hb1⟩
  | true =>
    obtain ⟨f2, f3⟩ := f2 hA
    cases hB : mostB y z with
    | false =>
      clear f1
      go_enter Tryd.func4, Tryd.ntmps4
      go_wp2_with fail
      refine (awake_any _ hT).mono ?_
      rintro e w1 ⟨rfl, hb1⟩
      go_wp2_with (first
        | (go_at_call 16; refine (most_any _ _ (by assumption) (by assumption) _).mono ?_; rintro e w' ⟨rfl, rfl⟩)
        | (go_at_call 17; refine (both_any _ _ (by assumption) (by assumption) _).mono ?_; rintro e w' ⟨rfl, rfl⟩)
        | (go_at_call 19; refine (anyS_any _ _ (by assumption) (by assumption) _).mono ?_; rintro e w' ⟨rfl, rfl⟩)
        | (go_at_call 20; refine (but_any _ _ (by assumption) (by assumption) _).mono ?_; rintro e w' ⟨rfl, rfl⟩)
        | (go_at_call 18; refine (size_any _ (by assumption) _).mono ?_; rintro e w' ⟨rfl, rfl⟩))
      all_goals go_ret
      all_goals exact ⟨ret_bool (by simp [*]), hb1⟩
    | true =>
      have f1 := f1 hA hB
      go_enter Tryd.func4, Tryd.ntmps4
      go_wp2_with fail
      refine (awake_any _ hT).mono ?_
      rintro e w1 ⟨rfl, hb1⟩
      go_wp2_with (first
        | (go_at_call 16; refine (most_any _ _ (by assumption) (by assumption) _).mono ?_; rintro e w' ⟨rfl, rfl⟩)
        | (go_at_call 17; refine (both_any _ _ (by assumption) (by assumption) _).mono ?_; rintro e w' ⟨rfl, rfl⟩)
        | (go_at_call 19; refine (anyS_any _ _ (by assumption) (by assumption) _).mono ?_; rintro e w' ⟨rfl, rfl⟩)
        | (go_at_call 20; refine (but_any _ _ (by assumption) (by assumption) _).mono ?_; rintro e w' ⟨rfl, rfl⟩)
        | (go_at_call 18; refine (size_any _ (by assumption) _).mono ?_; rintro e w' ⟨rfl, rfl⟩))
      all_goals go_ret
      all_goals exact ⟨ret_bool (by simp [*]), hb1⟩

set_option maxHeartbeats 1600000 in
set_option maxRecDepth 100000 in
theorem parts_law0 (x y : Nat) (w : World) (hT : Tab w) (hx : x < 18446744073709551616) (hy : y < 18446744073709551616) :
    Calls Tryd.prog 5 #[.int .u64 x, .int .u64 y] w fun e w' => e = .returned (.bool true) ∧ Below w.heap.size w w' := by
  have e1 := parts_any hx hy
  have e2 := parts_none hx hy
  have b1 := or_lt hx hy
  have b2 := but_lt x y hx
  have b3 := and_lt x y hx
  have c1 := cardN_le (x &&& y)
  have c2 := cardN_le (butN x y)
  have c3 := cardN_le x
  have c4 := cardN_le y
  have c5 := cardN_le (x ||| y)
  have e3 : ((cardN (x &&& y) : Int) + cardN (butN x y) == cardN x) = true := by
    have := card_but x y hy
    rw [beq_iff_eq]; omega
  have e4 : ((cardN (x ||| y) : Int) + cardN (x &&& y) == (cardN x : Int) + cardN y) = true := by
    have := card_or_and x y
    rw [beq_iff_eq]; omega
  have e5 : inB (x &&& y) x = true := by rw [inB, and_in1 hx]; rfl
  have e6 : inB (x &&& y) y = true := by rw [inB, and_in2 hx hy]; rfl
  have e7 : inB x (x ||| y) = true := by rw [inB, or_in hx hy]; rfl
  have e8 : inB x y = (((x &&& y : Nat) : Int) == (x : Int)) := by
    rw [inB, Bool.eq_iff_iff, beq_iff_eq, beq_iff_eq, but_eq0 hx hy]; omega
  go_enter Tryd.func5, Tryd.ntmps5
  go_wp2_with fail
  refine (awake_any _ hT).mono ?_
  rintro e w1 ⟨rfl, hb1⟩
  go_wp2_with (first
    | (go_at_call 21; refine (in_any _ _ (by assumption) (by assumption) _).mono ?_; rintro e w' ⟨rfl, rfl⟩)
    | (go_at_call 17; refine (both_any _ _ (by assumption) (by assumption) _).mono ?_; rintro e w' ⟨rfl, rfl⟩)
    | (go_at_call 19; refine (anyS_any _ _ (by assumption) (by assumption) _).mono ?_; rintro e w' ⟨rfl, rfl⟩)
    | (go_at_call 20; refine (but_any _ _ (by assumption) (by assumption) _).mono ?_; rintro e w' ⟨rfl, rfl⟩)
    | (go_at_call 18; refine (size_any _ (by assumption) _).mono ?_; rintro e w' ⟨rfl, rfl⟩))
  all_goals go_ret
  all_goals exact ⟨ret_bool (by simp [*]), hb1⟩

/-- A well-formed uint64 is a number below 2^64. -/
theorem u64_nat {x : Int} (h : (Lit.int .u64 x).wf = true) : ∃ n : Nat, x = n ∧ n < 18446744073709551616 := by
  have := wf_u64_bounds h
  exact ⟨x.toNat, by omega, by omega⟩
theorem most_law (x y z : Int) (w : World) (hT : Tab w) (hx : (Lit.int .u64 x).wf = true) (hy : (Lit.int .u64 y).wf = true) (hz : (Lit.int .u64 z).wf = true) :
    Calls Tryd.prog 4 #[.int .u64 x, .int .u64 y, .int .u64 z] w fun e w' => e = .returned (.bool true) ∧ Below w.heap.size w w' := by
  obtain ⟨a, rfl, ha⟩ := u64_nat hx
  obtain ⟨b, rfl, hb⟩ := u64_nat hy
  obtain ⟨c, rfl, hc⟩ := u64_nat hz
  exact most_law0 a b c w hT ha hb hc
theorem parts_law (x y : Int) (w : World) (hT : Tab w) (hx : (Lit.int .u64 x).wf = true) (hy : (Lit.int .u64 y).wf = true) :
    Calls Tryd.prog 5 #[.int .u64 x, .int .u64 y] w fun e w' => e = .returned (.bool true) ∧ Below w.heap.size w w' := by
  obtain ⟨a, rfl, ha⟩ := u64_nat hx
  obtain ⟨b, rfl, hb⟩ := u64_nat hy
  exact parts_law0 a b w hT ha hb
end Go.Proofs.YtfmdfoopdbkgpaaDoor
