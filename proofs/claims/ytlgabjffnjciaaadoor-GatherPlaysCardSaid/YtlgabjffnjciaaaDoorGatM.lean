/- gather, plain: what an attempt waits for -/
import Derived.Test.YtlgabjffnjciaaaDoorGatC
namespace Go.Proofs.YtlgabjffnjciaaaDoor
set_option linter.unusedSimpArgs false
set_option linter.unusedVariables false
open Go.RowKit
theorem card_bit : ∀ k, k < 64 → cardN (2 ^ k) = 1 := by decide +kernel
theorem card_withx (l : List Int) : ∀ x, l.Nodup → (∀ p ∈ l, (0 ≤ p ∧ p < 64) ∧ x.testBit p.toNat = false) → cardN (withN x l) = cardN x + l.length := by
  induction l with
  | nil => intro x _ _; rfl
  | cons p l ih =>
    intro x hd h
    obtain ⟨⟨h0, h1⟩, h2⟩ := h p (by simp)
    rw [List.nodup_cons] at hd
    have hb : bitN p = 2 ^ p.toNat := by unfold bitN; rw [if_pos ⟨h0, h1⟩]
    have e1 : withN x (p :: l) = withN (x ||| bitN p) l := rfl
    rw [e1, ih (x ||| bitN p) hd.2 (fun q hq => by
      obtain ⟨h3, h4⟩ := h q (by simp [hq])
      refine ⟨h3, ?_⟩
      rw [Nat.testBit_or, h4, Bool.false_or, bitN_bit]
      have hne : ¬ p = q := fun e => hd.1 (e ▸ hq)
      have : ¬ p = ((q.toNat : Nat) : Int) := by omega
      rw [decide_eq_false this, Bool.and_false])]
    have e2 := card_or_and x (bitN p)
    have e3 : x &&& bitN p = 0 := by
      refine Nat.eq_of_testBit_eq (fun i => ?_)
      rw [Nat.testBit_and, Nat.zero_testBit, bitN_bit]
      by_cases hi : p = (i : Int)
      · have : i = p.toNat := by omega
        subst this
        rw [h2]; rfl
      · simp [hi]
    rw [e3, card_zero, hb, card_bit _ (by omega)] at e2
    rw [hb, List.length_cons]
    omega
theorem hasB_nat {x : Nat} {i : Nat} (h : i < 64) : hasB x (i : Int) = x.testBit i := by
  rw [hasB_eq, Int.toNat_natCast, decide_eq_true (show 0 ≤ (i : Int) ∧ (i : Int) < 64 by omega), Bool.true_and]
theorem hasB_in {x : Nat} {p : Int} : hasB x p = true ↔ (0 ≤ p ∧ p < 64) ∧ x.testBit p.toNat = true := by
  rw [hasB_eq, Bool.and_eq_true, decide_eq_true_eq]
structure VInv (v : AtV) : Prop where
  mem : v.mem < 18446744073709551616
  rdy : v.rdy < 18446744073709551616
  sub : ∀ i, i < 64 → v.rdy.testBit i = true → v.mem.testBit i = true
  who : ∀ x ∈ v.xs, hasB v.mem x.who = true
  nd : (v.xs.map (·.who)).Nodup
def whoN (v : AtV) : Nat := withN 0 (v.xs.map (·.who))
theorem whoN_lt (v : AtV) : whoN v < 18446744073709551616 := withN_lt _ (by decide)
theorem whoN_bit (v : AtV) (i : Nat) (hi : i < 64) : (whoN v).testBit i = true ↔ ∃ x ∈ v.xs, x.who = i := by
  rw [whoN, withN_bit _ _ hi, Nat.zero_testBit, Bool.false_or, List.contains_iff_mem, List.mem_map]
section
variable {v : AtV}
theorem VInv.start (ep rp : Int) {mem : Nat} (h : mem < 18446744073709551616) : VInv ⟨ep, rp, mem, 0, []⟩ := ⟨h, by show 0 < 18446744073709551616; decide, (fun i _ h => by simp at h), (fun x hx => by cases hx), List.nodup_nil⟩
theorem VInv.card (h : VInv v) : cardN (whoN v) = v.xs.length := by
  have := card_withx (v.xs.map (·.who)) 0 h.nd (fun p hp => by
    obtain ⟨x, hx, rfl⟩ := List.mem_map.1 hp
    exact ⟨(hasB_in.1 (h.who x hx)).1, Nat.zero_testBit _⟩)
  rw [card_zero, List.length_map, Nat.zero_add] at this
  exact this
theorem VInv.wsub (h : VInv v) (i : Nat) (hi : i < 64) (hw : (whoN v).testBit i = true) : v.mem.testBit i = true := by
  obtain ⟨x, hx, e⟩ := (whoN_bit v i hi).1 hw
  have := (hasB_in.1 (h.who x hx)).2
  rw [e, Int.toNat_natCast] at this
  exact this
theorem but0 {x y : Nat} (hx : x < 18446744073709551616) (hy : y < 18446744073709551616) (h : butN x y = 0) (i : Nat) (hi : i < 64) (hb : x.testBit i = true) : y.testBit i = true := by
  have := but_bit (x := x) hy i hi
  rw [h, Nat.zero_testBit, hb, Bool.true_and] at this
  cases hy' : y.testBit i with
  | true => rfl
  | false => rw [hy'] at this; cases this
theorem VInv.told (h : VInv v) : toldV v = true ↔ whoN v = v.mem := by
  unfold toldV
  rw [decide_eq_true_eq, ← h.card]
  constructor
  · intro hc
    have h1 := card_but v.mem (whoN v) (whoN_lt v)
    have h2 : v.mem &&& whoN v = whoN v := by
      refine ext64 (and_lt _ _ h.mem) (whoN_lt v) (fun i hi => ?_)
      rw [Nat.testBit_and]
      cases hw : (whoN v).testBit i with
      | false => simp
      | true => rw [h.wsub i hi hw]; rfl
    rw [h2] at h1
    have h3 : butN v.mem (whoN v) = 0 := card_eq0 (but_lt _ _ h.mem) (by omega)
    refine ext64 (whoN_lt v) h.mem (fun i hi => ?_)
    cases hw : (whoN v).testBit i with
    | true => rw [h.wsub i hi hw]
    | false =>
      cases hm : v.mem.testBit i with
      | false => rfl
      | true => rw [but0 h.mem (whoN_lt v) h3 i hi hm] at hw; cases hw
  · intro e; rw [e]
theorem VInv.toRdy (h : VInv v) (p : Int) : VInv (rdyV v p) := by
  unfold rdyV
  split
  · rename_i hc
    unfold rdyC at hc
    rw [Bool.and_eq_true, Bool.and_eq_true] at hc
    obtain ⟨hm1, hm2⟩ := hasB_in.1 hc.1.2
    refine ⟨h.mem, withN_lt _ h.rdy, fun i hi hb => ?_, h.who, h.nd⟩
    show v.mem.testBit i = true
    have hb2 : (withN v.rdy [p]).testBit i = true := hb
    rw [withN_bit _ _ hi, Bool.or_eq_true] at hb2
    rcases hb2 with hb2 | hb2
    · exact h.sub i hi hb2
    · rw [List.contains_iff_mem, List.mem_singleton] at hb2
      have : i = p.toNat := by omega
      rw [this]; exact hm2
  · exact h
theorem VInv.toAdd (h : VInv v) (x : Xv) : VInv (addV v x) := by
  unfold addV
  split
  · rename_i hc
    unfold addC thereV at hc
    rw [Bool.and_eq_true, Bool.not_eq_true', List.any_eq_false] at hc
    refine ⟨h.mem, h.rdy, h.sub, fun y hy => ?_, ?_⟩
    · rcases List.mem_append.1 hy with hy | hy
      · exact h.who y hy
      · obtain rfl := List.mem_singleton.1 hy; exact hc.2
    · show ((v.xs ++ [x]).map (·.who)).Nodup
      rw [List.map_append, List.nodup_append]
      refine ⟨h.nd, by simp, fun a ha b hb e => ?_⟩
      obtain ⟨y, hy, rfl⟩ := List.mem_map.1 ha
      simp only [List.map_cons, List.map_nil, List.mem_singleton] at hb
      subst hb
      exact hc.1 y hy (by simpa using e)
  · exact h
theorem rdyV_mem (v : AtV) (p : Int) : (rdyV v p).mem = v.mem ∧ (rdyV v p).xs = v.xs ∧ (rdyV v p).ep = v.ep ∧ (rdyV v p).rp = v.rp := by unfold rdyV; split <;> exact ⟨rfl, rfl, rfl, rfl⟩
theorem addV_mem (v : AtV) (x : Xv) : (addV v x).mem = v.mem ∧ (addV v x).rdy = v.rdy ∧ (addV v x).ep = v.ep ∧ (addV v x).rp = v.rp := by unfold addV; split <;> exact ⟨rfl, rfl, rfl, rfl⟩
theorem told_rdy (v : AtV) (p : Int) : toldV (rdyV v p) = toldV v := by unfold toldV; rw [(rdyV_mem v p).1, (rdyV_mem v p).2.1]
theorem VInv.told_there (h : VInv v) (ht : toldV v = true) {p : Int} (hp : hasB v.mem p = true) : thereV v p = true := by
  have e := h.told.1 ht
  obtain ⟨h0, h1⟩ := hasB_in.1 hp
  rw [← e] at h1
  obtain ⟨x, hx, ex⟩ := (whoN_bit v _ (by omega)).1 h1
  exact List.any_eq_true.2 ⟨x, hx, decide_eq_true (by omega)⟩
theorem VInv.told_add (h : VInv v) (ht : toldV v = true) (x : Xv) : addV v x = v := by
  unfold addV
  rw [if_neg]
  unfold addC
  rw [Bool.and_eq_true, Bool.not_eq_true']
  rintro ⟨h1, h2⟩
  rw [h.told_there ht h2] at h1
  cases h1
theorem VInv.waits_rdy (h : VInv v) (ht : toldV v = true) (p : Int) : hasB (waitsV (rdyV v p)) p = false := by
  have h' := h.toRdy p
  rw [Bool.eq_false_iff]
  intro hh
  obtain ⟨h0, h1⟩ := hasB_in.1 hh
  unfold waitsV at h1
  rw [told_rdy, if_pos ht, but_bit h'.rdy _ (by omega), Bool.and_eq_true, Bool.not_eq_true', (rdyV_mem v p).1] at h1
  have hm : hasB v.mem p = true := hasB_in.2 ⟨h0, h1.1⟩
  have h2 := h1.2
  unfold rdyV at h2
  split at h2
  · have h3 : (withN v.rdy [p]).testBit p.toNat = false := h2
    rw [withN_bit _ _ (by omega), Bool.or_eq_false_iff, Int.toNat_of_nonneg h0.1] at h3
    simp at h3
  · rename_i hc
    apply hc
    unfold rdyC
    rw [ht, hm, Bool.true_and, Bool.true_and, Bool.not_eq_true', Bool.eq_false_iff]
    intro hr
    rw [(hasB_in.1 hr).2] at h2
    cases h2
theorem VInv.waits_add (h : VInv v) (x : Xv) (ht : toldV (addV v x) = false) : hasB (waitsV (addV v x)) x.who = false := by
  rw [Bool.eq_false_iff]
  intro hh
  obtain ⟨h0, h1⟩ := hasB_in.1 hh
  unfold waitsV at h1
  rw [if_neg (by rw [ht]; decide)] at h1
  have h2 := but_bit (x := (addV v x).mem) (whoN_lt (addV v x)) x.who.toNat (by omega)
  rw [show butN (addV v x).mem (whoN (addV v x)) = butN (addV v x).mem (withN 0 ((addV v x).xs.map (·.who))) from rfl, h1] at h2
  have h3 := h2.symm
  rw [Bool.and_eq_true, Bool.not_eq_true', (addV_mem v x).1] at h3
  have hm : hasB v.mem x.who = true := hasB_in.2 ⟨h0, h3.1⟩
  have h4 : (whoN (addV v x)).testBit x.who.toNat = true := by
    rw [whoN_bit _ _ (by omega)]
    by_cases hc : addC v x.who = true
    · refine ⟨x, ?_, by omega⟩
      rw [addV, if_pos hc]
      simp
    · have : thereV v x.who = true := by
        unfold addC at hc
        rw [hm, Bool.and_true, Bool.not_eq_true'] at hc
        cases h5 : thereV v x.who with
        | true => rfl
        | false => exact absurd h5 hc
      obtain ⟨y, hy, e⟩ := List.any_eq_true.1 this
      refine ⟨y, by rw [addV, if_neg hc]; exact hy, ?_⟩
      have := of_decide_eq_true e
      omega
  rw [h4] at h3
  cases h3.2
theorem VInv.waits_done (h : VInv v) : decide (waitsV v = 0) = doneV v := by
  unfold doneV waitsV
  cases ht : toldV v with
  | true =>
    rw [if_pos rfl, Bool.true_and, decide_eq_decide]
    constructor
    · intro e
      refine ext64 h.rdy h.mem (fun i hi => ?_)
      cases hr : v.rdy.testBit i with
      | true => rw [h.sub i hi hr]
      | false =>
        cases hm : v.mem.testBit i with
        | false => rfl
        | true => rw [but0 h.mem h.rdy e i hi hm] at hr; cases hr
    · intro e
      rw [e]
      refine ext64 (but_lt _ _ h.mem) (by decide) (fun i hi => ?_)
      rw [but_bit h.mem i hi, Nat.zero_testBit]
      simp
  | false =>
    rw [if_neg (by decide), Bool.false_and, decide_eq_false_iff_not]
    intro e
    have : toldV v = true := by
      rw [h.told]
      refine ext64 (whoN_lt v) h.mem (fun i hi => ?_)
      cases hw : (whoN v).testBit i with
      | true => rw [h.wsub i hi hw]
      | false =>
        cases hm : v.mem.testBit i with
        | false => rfl
        | true => rw [but0 h.mem (whoN_lt v) e i hi hm] at hw; cases hw
    rw [ht] at this
    cases this
theorem VInv.waits_in (h : VInv v) : inB (waitsV v) v.mem = true := by
  have key : ∀ y, butN (butN v.mem y) v.mem = 0 := fun y => by
    refine ext64 (but_lt _ _ (but_lt _ _ h.mem)) (by decide) (fun i hi => ?_)
    rw [but_bit h.mem i hi, Nat.zero_testBit]
    cases hm : v.mem.testBit i with
    | true => simp
    | false =>
      have : (butN v.mem y).testBit i = false := by unfold butN; rw [Nat.testBit_and, hm]; rfl
      rw [this]; rfl
  unfold inB waitsV
  split <;> (rw [key]; rfl)
end
end Go.Proofs.YtlgabjffnjciaaaDoor
