/- plain laws of the ear -/
import Derived.Test.YtpnmhlcbmbpfdaaDoorHeardC
import Derived.Test.YtpnmhlcbmbpfdaaDoorSetN
namespace Go.Proofs.YtpnmhlcbmbpfdaaDoor
open Go.RowKit

theorem memN_mem {x i : Nat} : i ∈ memN x ↔ i < 64 ∧ x.testBit i = true := by rw [memN, List.mem_filter, List.mem_range]
/-- A fold of bits, bit by bit. -/
theorem orF_bit {q : Nat → Bool} {l : List Nat} (hl : ∀ p ∈ l, p < 64) (i : Nat) : ∀ a : Nat, (l.foldl (fun a p => if q p = true then a ||| bitN p else a) a).testBit i = (a.testBit i || (l.contains i && q i)) := by
  induction l with
  | nil => intro a; simp
  | cons p l ih =>
    intro a
    rw [List.foldl_cons, ih (fun q hq => hl q (List.mem_cons_of_mem _ hq)), List.contains_cons]
    have hp := hl p (List.mem_cons_self ..)
    cases h : q p with
    | true =>
      rw [if_pos rfl, Nat.testBit_or, bitN_bit]
      have h64 : decide ((0 : Int) ≤ (p : Int) ∧ (p : Int) < 64) = true := by simp; omega
      rw [h64, Bool.true_and]
      by_cases e : p = i
      · subst e; simp [h]
      · have e1 : decide ((p : Int) = (i : Int)) = false := by simp; omega
        have e2 : (i == p) = false := by simp; omega
        rw [e1, e2]; simp
    | false =>
      rw [if_neg (by decide)]
      by_cases e : i = p
      · subst e; simp [h]
      · have e2 : (i == p) = false := by simp; omega
        rw [e2]; simp
theorem orF_lt {q : Nat → Bool} {l : List Nat} : ∀ {a : Nat}, a < 18446744073709551616 → l.foldl (fun a p => if q p = true then a ||| bitN p else a) a < 18446744073709551616 := by
  induction l with
  | nil => intro a h; exact h
  | cons p l ih => intro a h; refine ih ?_; dsimp only; split; exact or_lt h (bitN_lt _); exact h
theorem ES.reach_lt (s : ES) : s.reach < 18446744073709551616 := orF_lt (bitN_lt _)
theorem ES.reach_bit (s : ES) (i : Nat) (hi : i < 64) : s.reach.testBit i = (decide (s.me = (i : Int)) || (s.oth.testBit i && s.lately i)) := by
  show (reachL s (memN s.oth)).testBit i = _
  unfold reachL
  rw [orF_bit (q := s.lately) (memN_lt _), bitN_bit]
  have e : (memN s.oth).contains i = s.oth.testBit i := by
    rw [Bool.eq_iff_iff]
    simp [memN_mem, hi]
  rw [e]
  by_cases hm : s.me = i
  · rw [hm]
    have : decide ((0 : Int) ≤ (i : Int) ∧ (i : Int) < 64) = true := by simp; omega
    rw [this]; simp
  · simp [hm]
theorem hasB_bit {x : Nat} (i : Nat) (hi : i < 64) : hasB x i = x.testBit i := by
  rw [hasB_eq, Int.toNat_natCast, decide_eq_true (by omega)]; simp
/-- What an act leaves alone. -/
structure ES.Same (s t : ES) : Prop where
  me : t.me = s.me
  timeout : t.timeout = s.timeout
  oth : t.oth = s.oth
theorem ES.Same.refl (s : ES) : s.Same s := ⟨rfl, rfl, rfl⟩
theorem ES.Same.trans {s t u : ES} (h : s.Same t) (k : t.Same u) : s.Same u := ⟨k.me.trans h.me, k.timeout.trans h.timeout, k.oth.trans h.oth⟩
theorem ES.same_hear (s : ES) (p : Int) : s.Same (s.hear p) := by rw [ES.hear]; split <;> exact ⟨rfl, rfl, rfl⟩
theorem ES.same_beat (s : ES) (p : Int) (b : Bt) : s.Same (s.beat p b) := by rw [ES.beat]; split <;> exact ⟨rfl, rfl, rfl⟩
theorem forgL_same (l : List Nat) : ∀ s : ES, s.Same (forgL s l) ∧ (forgL s l).now = s.now := by
  induction l with
  | nil => intro s; exact ⟨.refl s, rfl⟩
  | cons p l ih => intro s; exact ⟨ES.Same.trans (t := s.set p (s.l p).gone) ⟨rfl, rfl, rfl⟩ (ih _).1, (ih _).2⟩
theorem ES.same_forget (s : ES) (x : Nat) : s.Same (s.forget x) := (forgL_same _ s).1
theorem ES.now_hear (s : ES) (p : Int) : (s.hear p).now = s.now := by rw [ES.hear]; split <;> rfl
theorem ES.now_beat (s : ES) (p : Int) (b : Bt) : (s.beat p b).now = s.now := by rw [ES.beat]; split <;> rfl
theorem ES.now_forget (s : ES) (x : Nat) : (s.forget x).now = s.now := (forgL_same _ s).2
theorem forgL_at (l : List Nat) (i : Nat) : ∀ s : ES, (forgL s l).l i = if l.contains i = true then (s.l i).gone else s.l i := by
  induction l with
  | nil => intro s; simp [forgL]
  | cons p l ih =>
    intro s
    show (forgL (s.set p (s.l p).gone) l).l i = _
    rw [ih, List.contains_cons]
    by_cases e : i = p
    · subst e
      simp [ES.set, En.gone]
    · have e2 : (i == p) = false := by simpa using e
      rw [e2, Bool.false_or]
      simp [ES.set, e]
theorem ES.forget_at (s : ES) (x i : Nat) (hi : i < 64) : (s.forget x).l i = if x.testBit i = true ∧ s.oth.testBit i = true then (s.l i).gone else s.l i := by
  rw [ES.forget, forgL_at]
  have e : (memN (x &&& s.oth)).contains i = (x.testBit i && s.oth.testBit i) := by
    rw [Bool.eq_iff_iff]
    simp [memN_mem, hi, Nat.testBit_and]
  rw [e]
  cases x.testBit i <;> cases s.oth.testBit i <;> simp
theorem ES.hear_at (s : ES) (p : Int) (i : Nat) : (s.hear p).l i = if hasB s.oth p = true ∧ p = i then { s.l i with ever := true, at_ := s.now } else s.l i := by
  rw [ES.hear]
  by_cases h : hasB s.oth p = true
  · obtain ⟨n, rfl, _⟩ := hasB_nat h
    rw [if_pos h]
    show (if i = n then _ else s.l i) = _
    by_cases e : i = n
    · subst e; rw [if_pos rfl, if_pos ⟨h, rfl⟩]; rfl
    · rw [if_neg e, if_neg (fun x => e (by omega))]
  · rw [if_neg h, if_neg (fun x => h x.1)]
theorem ES.beat_at (s : ES) (p : Int) (b : Bt) (i : Nat) : (s.beat p b).l i = if hasB s.oth p = true ∧ p = i then { b := b, said := true, ever := true, at_ := s.now } else s.l i := by
  rw [ES.beat]
  by_cases h : hasB s.oth p = true
  · obtain ⟨n, rfl, _⟩ := hasB_nat h
    rw [if_pos h]
    show (if i = n then _ else s.l i) = _
    by_cases e : i = n
    · subst e; rw [if_pos rfl, if_pos ⟨h, rfl⟩]
    · rw [if_neg e, if_neg (fun x => e (by omega))]
  · rw [if_neg h, if_neg (fun x => h x.1)]
/-! HeardLately -/
/-- p was heard of k ticks ago. -/
structure ES.Lat (s : ES) (p k : Nat) : Prop where
  ever : (s.l p).ever = true
  now : s.now = (s.l p).at_ + k
theorem ES.lat_beat (s : ES) (p : Nat) (b : Bt) (h : hasB s.oth p = true) : (s.beat p b).Lat p 0 := by
  have := s.beat_at p b p
  rw [if_pos ⟨h, rfl⟩] at this
  exact ⟨by rw [this], by rw [this, s.now_beat]; rfl⟩
theorem ES.Lat.step {s : ES} {p k : Nat} (h : s.Lat p k) (q : Int) (hq : ¬ (p : Int) = q) (x : Nat) (hp : p < 64) : ((s.tick.hear q).forget x).Lat p (k + 1) := by
  have e1 := (s.tick.hear q).forget_at x p hp
  have e2 := s.tick.hear_at q p
  rw [if_neg (fun y => hq y.2.symm)] at e2
  have ev : (((s.tick.hear q).forget x).l p).ever = (s.l p).ever := by rw [e1, e2]; split <;> rfl
  have ea : (((s.tick.hear q).forget x).l p).at_ = (s.l p).at_ := by rw [e1, e2]; split <;> rfl
  refine ⟨by rw [ev]; exact h.ever, ?_⟩
  rw [ea, ES.now_forget, ES.now_hear]
  show s.now + 1 = _
  rw [h.now]; omega
theorem ES.Lat.lately {s : ES} {p k : Nat} (h : s.Lat p k) : s.lately p = decide ((k : Int) ≤ s.timeout) := by
  rw [ES.lately, h.ever, Bool.true_and, decide_eq_decide, h.now]; omega
/-! HeardEpoch -/
theorem epL_mono (s : ES) (k : Nat) : ∀ i, i < k → (s.l i).b.ep ≤ epL s k ∧ (s.l i).b.ce ≤ epL s k ∧ (s.l i).b.pe ≤ epL s k := by
  induction k with
  | zero => intro i h; omega
  | succ k ih =>
    intro i h
    rw [epL_succ]
    unfold Bt.top
    by_cases e : i = k
    · subst e; omega
    · have := ih i (by omega); omega
theorem epL_hit (s : ES) (k : Nat) : epL s k = 0 ∨ ∃ i, i < k ∧ ((s.l i).b.ep = epL s k ∨ (s.l i).b.ce = epL s k ∨ (s.l i).b.pe = epL s k) := by
  induction k with
  | zero => exact .inl rfl
  | succ k ih =>
    rw [epL_succ]
    unfold Bt.top
    by_cases h : max (max (s.l k).b.ep (s.l k).b.ce) (s.l k).b.pe ≤ epL s k
    · rcases ih with ih | ⟨i, hi, ih⟩
      · left; omega
      · exact .inr ⟨i, by omega, by omega⟩
    · exact .inr ⟨k, by omega, by omega⟩
/-- What isn't said is zero; of others alone it is said. -/
structure ES.Fair (s : ES) : Prop where
  zero : ∀ i, (s.l i).said = false → (s.l i).b = .zero
  oth : ∀ i, i < 64 → (s.l i).said = true → s.oth.testBit i = true
theorem ES.fair_nw (me n timeout : Int) : (ES.nw me n timeout).Fair := ⟨fun _ _ => rfl, fun _ _ h => by cases h⟩
theorem ES.fair_beat {s : ES} (h : s.Fair) (p : Int) (b : Bt) : (s.beat p b).Fair := by
  refine ⟨fun i hi => ?_, fun i h64 hi => ?_⟩
  · rw [ES.beat_at] at hi ⊢
    split at hi
    · cases hi
    · rename_i hn; rw [if_neg hn]; exact h.zero i hi
  · rw [(s.same_beat p b).oth]
    rw [ES.beat_at] at hi
    split at hi
    · rename_i hy
      obtain ⟨h1, rfl⟩ := hy
      rw [hasB_bit i h64] at h1; exact h1
    · exact h.oth i h64 hi
theorem forgL_fair (l : List Nat) {s : ES} (h : s.Fair) : (forgL s l).Fair := by
  refine ⟨fun i hi => ?_, fun i h64 hi => ?_⟩
  · rw [forgL_at] at hi ⊢
    split
    · rfl
    · rename_i hn; rw [if_neg hn] at hi; exact h.zero i hi
  · rw [(forgL_same l s).1.oth]
    rw [forgL_at] at hi
    split at hi
    · cases hi
    · exact h.oth i h64 hi
def hitB (s : ES) (best i : Nat) : Bool := (s.of i).2 && ((s.of i).1.ep == best || ((s.of i).1.ce == best || (s.of i).1.pe == best))
def fnd (s : ES) (best k : Nat) : Bool := (best == 0) || (List.range k).any (hitB s best)
theorem fnd_succ (s : ES) (best k : Nat) : fnd s best (k + 1) = (fnd s best k || hitB s best k) := by
  rw [fnd, fnd, List.range_succ, List.any_append, Bool.or_assoc]; simp
theorem ES.of_nat (s : ES) (i : Nat) : s.of i = if hasB s.oth i = true ∧ (s.l i).said = true then ((s.l i).b, true) else (.zero, false) := rfl
theorem ES.of_le (s : ES) (i : Nat) (hi : i < 64) : (s.of i).1.ep ≤ s.epoch ∧ (s.of i).1.ce ≤ s.epoch ∧ (s.of i).1.pe ≤ s.epoch := by
  rw [s.of_nat]
  split
  · exact epL_mono s 64 i hi
  · exact ⟨Nat.zero_le _, Nat.zero_le _, Nat.zero_le _⟩
theorem fnd_all {s : ES} (h : s.Fair) : fnd s s.epoch 64 = true := by
  rw [fnd]
  rcases epL_hit s 64 with h0 | ⟨i, hi, h1⟩
  · rw [show s.epoch = 0 from h0]; rfl
  · by_cases h0 : s.epoch = 0
    · rw [h0]; rfl
    · cases hsd : (s.l i).said with
      | false =>
        exfalso
        rw [h.zero i hsd] at h1
        have : s.epoch = epL s 64 := rfl
        simp [Bt.zero] at h1
        omega
      | true =>
        have hb := h.oth i hi hsd
        have : hitB s s.epoch i = true := by
          rw [hitB, s.of_nat, if_pos ⟨by rw [hasB_bit i hi]; exact hb, hsd⟩]
          show (true && _) = true
          rw [show s.epoch = epL s 64 from rfl]
          simp only [Bool.true_and, Bool.or_eq_true, beq_iff_eq]
          exact h1
        rw [Bool.or_eq_true]
        right
        rw [List.any_eq_true]
        exact ⟨i, List.mem_range.2 hi, this⟩
/-! HeardApart -/
/-- f was told of q alone. -/
structure ES.Apart (e f : ES) (q : Nat) : Prop where
  same : e.Same f
  now : f.now = e.now
  at_ : f.l q = e.l q
  none : ∀ i, i < 64 → i ≠ q → (f.l i).ever = false
theorem ES.apart_nw (me n timeout : Int) (q : Nat) : (ES.nw me n timeout).Apart (ES.nw me n timeout) q := ⟨.refl _, rfl, rfl, fun _ _ _ => rfl⟩
theorem ES.Apart.tick {e f : ES} {q : Nat} (h : e.Apart f q) : e.tick.Apart f.tick q := ⟨⟨h.same.me, h.same.timeout, h.same.oth⟩, by show f.now + 1 = e.now + 1; rw [h.now], h.at_, h.none⟩
theorem ES.Apart.hear1 {e f : ES} {q : Nat} (h : e.Apart f q) (p : Int) (hp : p ≠ q) : (e.hear p).Apart f q := by
  have h1 := e.same_hear p
  refine ⟨⟨h.same.me.trans h1.me.symm, h.same.timeout.trans h1.timeout.symm, h.same.oth.trans h1.oth.symm⟩, by rw [e.now_hear]; exact h.now, ?_, h.none⟩
  rw [e.hear_at, if_neg (fun x => hp x.2)]; exact h.at_
theorem ES.Apart.hear2 {e f : ES} {q : Nat} (h : e.Apart f q) : (e.hear q).Apart (f.hear q) q := by
  have h1 := e.same_hear q
  have h2 := f.same_hear q
  refine ⟨⟨(h2.me.trans h.same.me).trans h1.me.symm, (h2.timeout.trans h.same.timeout).trans h1.timeout.symm, (h2.oth.trans h.same.oth).trans h1.oth.symm⟩, by rw [e.now_hear, f.now_hear]; exact h.now, ?_, fun i hi hne => ?_⟩
  · rw [e.hear_at, f.hear_at, h.same.oth, h.at_, h.now]
  · rw [f.hear_at, if_neg (fun x => hne (by have := x.2; omega))]; exact h.none i hi hne
theorem ES.Apart.beat1 {e f : ES} {q : Nat} (h : e.Apart f q) (p : Int) (b : Bt) (hp : p ≠ q) : (e.beat p b).Apart f q := by
  have h1 := e.same_beat p b
  refine ⟨⟨h.same.me.trans h1.me.symm, h.same.timeout.trans h1.timeout.symm, h.same.oth.trans h1.oth.symm⟩, by rw [e.now_beat]; exact h.now, ?_, h.none⟩
  rw [e.beat_at, if_neg (fun x => hp x.2)]; exact h.at_
theorem ES.Apart.beat2 {e f : ES} {q : Nat} (h : e.Apart f q) (b : Bt) : (e.beat q b).Apart (f.beat q b) q := by
  have h1 := e.same_beat q b
  have h2 := f.same_beat q b
  refine ⟨⟨(h2.me.trans h.same.me).trans h1.me.symm, (h2.timeout.trans h.same.timeout).trans h1.timeout.symm, (h2.oth.trans h.same.oth).trans h1.oth.symm⟩, by rw [e.now_beat, f.now_beat]; exact h.now, ?_, fun i hi hne => ?_⟩
  · rw [e.beat_at, f.beat_at, h.same.oth, h.at_, h.now]
  · rw [f.beat_at, if_neg (fun x => hne (by have := x.2; omega))]; exact h.none i hi hne
theorem ES.Apart.forget {e f : ES} {q : Nat} (hq : q < 64) (h : e.Apart f q) (x : Nat) : (e.forget x).Apart (f.forget (x &&& bitN q)) q := by
  have h1 := e.same_forget x
  have h2 := f.same_forget (x &&& bitN q)
  refine ⟨⟨(h2.me.trans h.same.me).trans h1.me.symm, (h2.timeout.trans h.same.timeout).trans h1.timeout.symm, (h2.oth.trans h.same.oth).trans h1.oth.symm⟩, by rw [e.now_forget, f.now_forget]; exact h.now, ?_, fun i hi hne => ?_⟩
  · rw [e.forget_at x q hq, f.forget_at _ q hq, h.same.oth, h.at_, Nat.testBit_and, bitN_bit]
    have : decide ((0 : Int) ≤ (q : Int) ∧ (q : Int) < 64) = true := by simp; omega
    rw [this]; simp
  · rw [f.forget_at _ i hi]
    split
    · exact h.none i hi hne
    · exact h.none i hi hne
theorem ES.Apart.of {e f : ES} {q : Nat} (h : e.Apart f q) : f.of q = e.of q := by rw [e.of_nat, f.of_nat, h.same.oth, h.at_]
theorem ES.Apart.reach {e f : ES} {q : Nat} (h : e.Apart f q) (hq : q < 64) : hasB f.reach q = hasB e.reach q := by
  rw [hasB_bit q hq, hasB_bit q hq, f.reach_bit q hq, e.reach_bit q hq, h.same.me, h.same.oth, ES.lately, ES.lately, h.at_, h.now, h.same.timeout]
theorem ES.Apart.inn {e f : ES} {q : Nat} (h : e.Apart f q) (hq : q < 64) : inB f.reach (withN 0 [f.me, (q : Int)]) = true := by
  have hw : withN 0 [f.me, (q : Int)] < 18446744073709551616 := withN_lt _ (by decide)
  have : butN f.reach (withN 0 [f.me, (q : Int)]) = 0 := by
    refine ext64 (but_lt _ _ f.reach_lt) (by decide) fun i hi => ?_
    rw [but_bit hw i hi, Nat.zero_testBit, withN_bit _ i hi, Nat.zero_testBit, f.reach_bit i hi]
    by_cases e1 : f.me = i
    · simp [e1]
    · by_cases e2 : i = q
      · subst e2; simp
      · rw [ES.lately, h.none i hi e2]; simp [e1]
  rw [inB, this]; rfl
end Go.Proofs.YtpnmhlcbmbpfdaaDoor
