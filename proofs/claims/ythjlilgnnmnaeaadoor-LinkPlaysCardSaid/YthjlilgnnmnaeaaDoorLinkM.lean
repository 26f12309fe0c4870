/- plain laws of the window: its marks rise, and hang together -/
import Derived.Test.YthjlilgnnmnaeaaDoorLinkB
import Derived.Test.YthjlilgnnmnaeaaDoorSetN
namespace Go.Proofs.YthjlilgnnmnaeaaDoor
open Go.RowKit

theorem lowL_mono {g g' : Nat → Nat} {l : List Nat} (hg : ∀ p ∈ l, g p ≤ g' p) : ∀ {a b : Nat}, a ≤ b → lowL g a l ≤ lowL g' b l := by
  induction l with
  | nil => intro a b h; exact h
  | cons p l ih =>
    intro a b h
    have hp := hg p (List.mem_cons_self ..)
    refine ih (fun q hq => hg q (List.mem_cons_of_mem _ hq)) ?_
    dsimp only
    split <;> split <;> omega
theorem lowL_eq {g : Nat → Nat} {l : List Nat} : ∀ {a : Nat}, lowL g a l = a ↔ ∀ p ∈ l, a ≤ g p := by
  induction l with
  | nil => intro a; simp [lowL]
  | cons p l ih =>
    intro a
    show lowL g (if g p < a then g p else a) l = a ↔ _
    by_cases h : g p < a
    · rw [if_pos h]
      have := lowL_le g l (g p)
      constructor
      · intro e; omega
      · intro e; have := e p (List.mem_cons_self ..); omega
    · rw [if_neg h, ih]
      constructor
      · intro e q hq
        rcases List.mem_cons.1 hq with rfl | hq
        · omega
        · exact e q hq
      · intro e q hq; exact e q (List.mem_cons_of_mem _ hq)
theorem lagF_bit {g : Nat → Nat} {s : Nat} {l : List Nat} (hl : ∀ p ∈ l, p < 64) (i : Nat) : ∀ a : Nat, (l.foldl (fun a p => if g p < s then a ||| bitN p else a) a).testBit i = (a.testBit i || (l.contains i && decide (g i < s))) := by
  induction l with
  | nil => intro a; simp
  | cons p l ih =>
    intro a
    rw [List.foldl_cons, ih (fun q hq => hl q (List.mem_cons_of_mem _ hq)), List.contains_cons]
    have hp := hl p (List.mem_cons_self ..)
    by_cases h : g p < s
    · rw [if_pos h, Nat.testBit_or, bitN_bit]
      have h64 : decide ((0 : Int) ≤ (p : Int) ∧ (p : Int) < 64) = true := by simp; omega
      rw [h64, Bool.true_and]
      by_cases e : p = i
      · subst e; simp [h]
      · have e1 : decide ((p : Int) = (i : Int)) = false := by simp; omega
        have e2 : (i == p) = false := by simp; omega
        rw [e1, e2]; simp
    · rw [if_neg h]
      by_cases e : i = p
      · subst e; simp [h]
      · have e2 : (i == p) = false := by simp; omega
        rw [e2]; simp
theorem lag_bit (s : WS) (i : Nat) : s.lag.testBit i = ((memN s.oth).contains i && decide (s.got i < s.sent)) := by
  rw [WS.lag, lagL, lagF_bit (memN_lt _)]; simp
theorem memN_mem {x i : Nat} : i ∈ memN x ↔ i < 64 ∧ x.testBit i = true := by rw [memN, List.mem_filter, List.mem_range]
theorem lag_zero (s : WS) : s.lag = 0 ↔ s.low = s.sent := by
  rw [WS.low, lowL_eq]
  constructor
  · intro h p hp
    have := lag_bit s p
    rw [h, Nat.zero_testBit] at this
    have hc : (memN s.oth).contains p = true := by simpa using hp
    rw [hc] at this
    simp at this; exact this
  · intro h
    refine ext64 (lagL_lt _ _ _) (by decide) fun i hi => ?_
    rw [Nat.zero_testBit, lag_bit]
    cases hc : (memN s.oth).contains i with
    | false => rfl
    | true =>
      have := h i (by simpa using hc)
      simp; omega
theorem lag_in (s : WS) (ho : s.oth < 18446744073709551616) : inB s.lag s.oth = true := by
  have hl : s.lag < 18446744073709551616 := lagL_lt _ _ _
  rw [inB]
  have : butN s.lag s.oth = 0 := by
    refine ext64 (but_lt _ _ hl) (by decide) fun i hi => ?_
    rw [but_bit ho i hi, lag_bit, Nat.zero_testBit]
    cases hb : s.oth.testBit i with
    | true => simp
    | false =>
      have : (memN s.oth).contains i = false := by
        rw [Bool.eq_false_iff]; intro h
        have := (memN_mem.1 (by simpa using h)).2
        rw [hb] at this; cases this
      rw [this]; rfl
  rw [this]; rfl
/-- s comes before t. -/
structure WS.Le (s t : WS) : Prop where
  me : t.me = s.me
  size : t.size = s.size
  oth : t.oth = s.oth
  sent : s.sent ≤ t.sent
  got : ∀ p, s.got p ≤ t.got p
theorem WS.Le.low {s t : WS} (h : s.Le t) : s.low ≤ t.low := by
  rw [WS.low, WS.low, h.oth]; exact lowL_mono (fun p _ => h.got p) h.sent
theorem WS.Le.of {s t : WS} (h : s.Le t) (p : Int) : s.of p ≤ t.of p := by
  rw [WS.of, WS.of, h.oth, h.me]
  split
  · exact h.got _
  · split
    · exact h.sent
    · exact Nat.le_refl _
theorem WS.le_put (s : WS) (p : Int) (n : Nat) : s.Le (s.put p n) := by
  rw [WS.put]
  split
  · refine ⟨rfl, rfl, rfl, Nat.le_refl _, fun i => ?_⟩
    dsimp only
    split
    · next h => rw [h]; omega
    · exact Nat.le_refl _
  · exact ⟨rfl, rfl, rfl, Nat.le_refl _, fun _ => Nat.le_refl _⟩
theorem WS.le_next (s : WS) : s.Le s.next := ⟨rfl, rfl, rfl, Nat.le_succ _, fun _ => Nat.le_refl _⟩
theorem WS.le_nexts (s : WS) (r : Int) : s.Le (s.nexts r) := by
  rw [WS.nexts]; split
  · exact s.le_next
  · exact ⟨rfl, rfl, rfl, Nat.le_refl _, fun _ => Nat.le_refl _⟩
theorem WS.of_le {s : WS} (hs : s.Ok) (p : Int) : s.of p ≤ s.sent := by
  rw [WS.of]; split
  · exact hs.got _
  · split <;> omega
/-- No more are on the way than the size. -/
def WS.Fit (s : WS) : Prop := (s.sent : Int) - s.low ≤ s.size
theorem WS.fit_put {s : WS} (h : s.Fit) (p : Int) (n : Nat) : (s.put p n).Fit := by
  have h1 := s.le_put p n
  have h2 := h1.low
  have h3 := s.put_sent p n
  unfold WS.Fit at *
  rw [h3, h1.size]; omega
theorem WS.fit_nexts {s : WS} (h : s.Fit) (r : Int) : (s.nexts r).Fit := by
  have h1 := s.le_nexts r
  have h2 := h1.low
  unfold WS.Fit at *
  rw [h1.size]
  cases hm : s.room r with
  | false =>
    rw [WS.nexts, if_neg (by rw [hm]; decide)]; exact h
  | true =>
    have e : s.nexts r = s.next := by rw [WS.nexts, if_pos hm]
    rw [e] at h2 ⊢
    rw [WS.room, decide_eq_true_eq] at hm
    show ((s.sent + 1 : Nat) : Int) - _ ≤ _
    split at hm <;> omega
theorem WS.fit_nw (me : Int) (members : Nat) (size : Int) : (WS.nw me members size).Fit := by
  unfold WS.Fit
  show ((0 : Nat) : Int) - _ ≤ max 1 (min size 64)
  omega
/-! A window without others. -/
theorem WS.low_alone {s : WS} (h : s.oth = 0) : s.low = s.sent := by rw [WS.low, h, memN_zero]; rfl
theorem WS.lag_alone {s : WS} (h : s.oth = 0) : s.lag = 0 := by rw [WS.lag, h, memN_zero]; rfl
theorem but_self (x : Nat) (hx : x < 18446744073709551616) : butN x x = 0 := by
  refine ext64 (but_lt _ _ hx) (by decide) fun i hi => ?_
  rw [but_bit hx i hi, Nat.zero_testBit]; cases x.testBit i <;> rfl
end Go.Proofs.YthjlilgnnmnaeaaDoor
