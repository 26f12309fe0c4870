/- plain laws of sets' sizes -/
import Derived.Test.YteeeikkapnchlaaDoorSetM
namespace Go.Proofs.YteeeikkapnchlaaDoor
set_option linter.unusedSimpArgs false
set_option linter.unusedVariables false
open Go.RowKit

theorem countP_add {α : Type} (p q : α → Bool) (l : List α) : l.countP (fun i => p i || q i) + l.countP (fun i => p i && q i) = l.countP p + l.countP q := by
  induction l with
  | nil => rfl
  | cons a l ih =>
    simp only [List.countP_cons]
    cases p a <;> cases q a <;> simp <;> omega
theorem card_of {x : Nat} {p : Nat → Bool} (h : ∀ i, i < 64 → x.testBit i = p i) : cardN x = (List.range 64).countP p :=
  List.countP_congr fun i hi => by rw [h i (List.mem_range.1 hi)]
theorem card_or_and (x y : Nat) : cardN (x ||| y) + cardN (x &&& y) = cardN x + cardN y := by
  rw [card_of (x := x ||| y) (p := fun i => x.testBit i || y.testBit i) (fun i _ => Nat.testBit_or ..), card_of (x := x &&& y) (p := fun i => x.testBit i && y.testBit i) (fun i _ => Nat.testBit_and ..)]
  exact countP_add _ _ _
theorem card_mono {x y : Nat} (h : ∀ i, i < 64 → x.testBit i = true → y.testBit i = true) : cardN x ≤ cardN y :=
  List.countP_mono_left fun i hi => h i (List.mem_range.1 hi)
theorem card_eq0 {x : Nat} (hx : x < 18446744073709551616) (h : cardN x = 0) : x = 0 := by
  refine ext64 hx (by decide) fun i hi => ?_
  rw [cardN, cntN, List.countP_eq_zero] at h
  have := h i (List.mem_range.2 hi)
  simpa using this
theorem card_but (x y : Nat) (hy : y < 18446744073709551616) : cardN (butN x y) + cardN (x &&& y) = cardN x := by
  have h1 : cardN x = cardN (butN x y ||| (x &&& y)) := card_of fun i hi => by
    rw [Nat.testBit_or, but_bit hy i hi, Nat.testBit_and]; cases x.testBit i <;> cases y.testBit i <;> rfl
  have h2 : cardN (butN x y &&& (x &&& y)) = 0 := by
    rw [cardN, cntN, List.countP_eq_zero]
    intro i hi
    rw [Nat.testBit_and, but_bit hy i (List.mem_range.1 hi), Nat.testBit_and]; cases x.testBit i <;> cases y.testBit i <;> simp
  have := card_or_and (butN x y) (x &&& y)
  omega
theorem card_zero : cardN 0 = 0 := by decide +kernel

/-! SetMost -/
def mostP (x y : Nat) : Prop := cardN y < 2 * cardN (x &&& y)
theorem most_meet {x y z : Nat} (h1 : mostP x z) (h2 : mostP y z) : 1 ≤ cardN ((x &&& y) &&& z) := by
  unfold mostP at *
  have a1 := card_or_and (x &&& z) (y &&& z)
  have e1 : (x &&& z) &&& (y &&& z) = (x &&& y) &&& z := by
    apply Nat.eq_of_testBit_eq; intro i; simp only [Nat.testBit_and]; cases x.testBit i <;> cases y.testBit i <;> cases z.testBit i <;> rfl
  rw [e1] at a1
  have a2 : cardN ((x &&& z) ||| (y &&& z)) ≤ cardN z := card_mono fun i _ h => by
    simp only [Nat.testBit_or, Nat.testBit_and, Bool.or_eq_true, Bool.and_eq_true] at h
    rcases h with h | h <;> exact h.2
  omega
theorem most_more {x y z : Nat} (h1 : mostP x z) : mostP (x ||| y) z := by
  unfold mostP at *
  have : cardN (x &&& z) ≤ cardN ((x ||| y) &&& z) := card_mono fun i _ h => by
    simp only [Nat.testBit_and, Nat.testBit_or, Bool.and_eq_true, Bool.or_eq_true] at h ⊢
    exact ⟨.inl h.1, h.2⟩
  omega
theorem most_rest {x z : Nat} (hx : x < 18446744073709551616) (h1 : mostP x z) : ¬ mostP (butN z x) z := by
  unfold mostP at *
  have a := card_but z x hx
  have e1 : butN z x &&& z = butN z x := by
    apply Nat.eq_of_testBit_eq; intro i
    rw [butN]; simp only [Nat.testBit_and]; cases z.testBit i <;> simp
  have e2 : cardN (z &&& x) = cardN (x &&& z) := by rw [Nat.and_comm]
  rw [e1]; omega
theorem most_self (z : Nat) : mostP z z ↔ 0 < cardN z := by unfold mostP; rw [Nat.and_self]; omega
theorem most_both (x z : Nat) : mostP (x &&& z) z ↔ mostP x z := by
  unfold mostP
  rw [Nat.and_assoc, Nat.and_self]

/-! SetParts -/
theorem parts_any {x y : Nat} (hx : x < 18446744073709551616) (hy : y < 18446744073709551616) : (x &&& y) ||| butN x y = x := by
  refine ext64 (or_lt (and_lt x y hx) (but_lt x y hx)) hx fun i hi => ?_
  rw [Nat.testBit_or, Nat.testBit_and, but_bit hy i hi]; cases x.testBit i <;> cases y.testBit i <;> rfl
theorem parts_none {x y : Nat} (hx : x < 18446744073709551616) (hy : y < 18446744073709551616) : (x &&& y) &&& butN x y = 0 := by
  refine ext64 (and_lt _ _ (and_lt x y hx)) (by decide) fun i hi => ?_
  rw [Nat.testBit_and, Nat.testBit_and, but_bit hy i hi]; cases x.testBit i <;> cases y.testBit i <;> simp
theorem but_eq0 {x y : Nat} (hx : x < 18446744073709551616) (hy : y < 18446744073709551616) : butN x y = 0 ↔ x &&& y = x := by
  constructor
  · intro h
    have := parts_any hx hy
    rw [h, Nat.or_zero] at this; exact this
  · intro h
    refine ext64 (but_lt x y hx) (by decide) fun i hi => ?_
    have := congrArg (fun z => z.testBit i) h
    simp only [Nat.testBit_and] at this
    rw [but_bit hy i hi, Nat.zero_testBit]
    cases h1 : x.testBit i <;> cases h2 : y.testBit i <;> simp_all
theorem and_in1 {x y : Nat} (hx : x < 18446744073709551616) : butN (x &&& y) x = 0 :=
  (but_eq0 (and_lt x y hx) hx).2 (by rw [Nat.and_comm, ← Nat.and_assoc, Nat.and_self])
theorem and_in2 {x y : Nat} (hx : x < 18446744073709551616) (hy : y < 18446744073709551616) : butN (x &&& y) y = 0 :=
  (but_eq0 (and_lt x y hx) hy).2 (by rw [Nat.and_assoc, Nat.and_self])
theorem or_in {x y : Nat} (hx : x < 18446744073709551616) (hy : y < 18446744073709551616) : butN x (x ||| y) = 0 :=
  (but_eq0 hx (or_lt hx hy)).2 (by
    apply Nat.eq_of_testBit_eq; intro i; simp only [Nat.testBit_and, Nat.testBit_or]; cases x.testBit i <;> simp)
end Go.Proofs.YteeeikkapnchlaaDoor
