/- plan, plain: an exchange more -/
import Derived.Test.YtikhpafdnohhkaaDoorPlanR
import Derived.Test.YtikhpafdnohhkaaDoorPlanF
namespace Go.Proofs.YtikhpafdnohhkaaDoor
set_option linter.unusedSimpArgs false
set_option linter.unusedVariables false
theorem keyC_self (k : Int × Int) : keyC k.1 k.2 k.1 k.2 = 0 := by
  unfold keyC cmpI
  simp
theorem bndV_snoc {L : List Xv} (h : L ≠ []) (x : Xv) : bndV (L ++ [x]) = if kLt (bndV L) (x.ls, x.lf) = true then (x.ls, x.lf) else bndV L := by
  unfold bndV
  rw [List.map_append, List.map_cons, List.map_nil, bndK_snoc]
  by_cases hk : kLt (bndK (L.map fun x => (x.ls, x.lf))) (x.ls, x.lf) = true
  · rw [if_pos (.inr hk), if_pos hk]
  · rw [if_neg (by rintro (h2 | h2); exact h (List.eq_nil_of_length_eq_zero (by simpa using h2)); exact hk h2), if_neg hk]
theorem bnd_more {L : List Xv} (h : L ≠ []) (x : Xv) : 0 ≤ keyC (bndV (L ++ [x])).1 (bndV (L ++ [x])).2 (bndV L).1 (bndV L).2 := by
  rw [bndV_snoc h]
  by_cases hk : kLt (bndV L) (x.ls, x.lf) = true
  · rw [if_pos hk]
    have := (keyC_pos (x.ls, x.lf) (bndV L)).2 hk
    omega
  · rw [if_neg hk, keyC_self]; exact Int.le_refl _
theorem whole_more (L : List Xv) (x : Xv) (q : Int) : wholeV L q ≤ wholeV (L ++ [x]) q := by
  unfold wholeV wholeF
  by_cases h : 0 ≤ q ∧ q < 64
  · rw [if_pos h, if_pos h, List.foldl_append]
    simp only [List.foldl_cons, List.foldl_nil]
    omega
  · rw [if_neg h, if_neg h]; exact Nat.le_refl _
/-- What one exchange more makes of a plan. -/
theorem comp_more {me : Int} {L : List Xv} {x : Xv} (hok : okV (L ++ [x])) (hme : ∃ y ∈ L, y.who = me) :
    compV me (L ++ [x]) = (if sameO (oldV me L) x = true then compV me L ++ [x] else compV me L) ∧ compV me L ≠ [] ∧ (∀ y ∈ compV me L, y.who ≠ x.who) ∧ (∀ y ∈ compV me L, 0 ≤ y.who ∧ y.who < 64) ∧ (0 ≤ x.who ∧ x.who < 64) := by
  have hs := (okV_snoc L x).1 hok
  have hne : ∀ y ∈ L, y.who ≠ x.who := fun y hy e => by
    have := (mask_has L x.who hs.2.1.1 hs.2.1.2).2 ⟨y, hy, e⟩
    rw [hs.2.2] at this; cases this
  obtain ⟨y, hy, hym⟩ := hme
  have hxm : ¬ x.who = me := fun e => hne y hy (by rw [hym, e])
  refine ⟨?_, ?_, fun z hz => hne z (comp_mem.1 hz).1, fun z hz => hs.1.1 z (comp_mem.1 hz).1, hs.2.1⟩
  · unfold compV compO
    rw [oldV_snoc, if_neg hxm, List.filter_append]
    by_cases h : sameO (oldV me L) x = true
    · rw [if_pos h, List.filter_cons_of_pos h]; rfl
    · rw [if_neg h, List.filter_cons_of_neg h]; simp
  · intro e
    have : y ∈ compV me L := comp_mem.2 ⟨hy, by rw [old_of hs.1 hy hym]; exact ⟨rfl, rfl⟩⟩
    rw [e] at this; cases this
theorem mask_mem (L : List Xv) (i : Nat) (hi : i < 64) : (maskV L).testBit i = true ↔ ∃ x ∈ L, x.who = i := by
  rw [maskV, withN_bit _ _ hi, Nat.zero_testBit, Bool.false_or, List.contains_iff_mem, List.mem_map]
theorem less_more {P : List Xv} {x : Xv} (hne : ∀ y ∈ P, y.who ≠ x.who) : butN (maskV (P ++ [x])) (withN 0 [x.who]) = maskV P ∧ butN (maskV P) (withN 0 [x.who]) = maskV P := by
  have hw : withN 0 [x.who] < 18446744073709551616 := withN_lt _ (by decide)
  have hb : ∀ i, i < 64 → (withN 0 [x.who]).testBit i = decide (x.who = i) := fun i hi => by
    rw [withN_bit _ _ hi, Nat.zero_testBit, Bool.false_or]
    by_cases e : x.who = i
    · rw [e]; simp
    · simp; exact ⟨fun h => absurd h.symm e, fun h => absurd h e⟩
  constructor
  · refine ext64 (but_lt _ _ (maskV_lt _)) (maskV_lt _) (fun i hi => ?_)
    rw [but_bit hw i hi, hb i hi, Bool.eq_iff_iff, Bool.and_eq_true, mask_mem _ _ hi, mask_mem _ _ hi]
    simp only [Bool.not_eq_true', decide_eq_false_iff_not]
    constructor
    · rintro ⟨⟨y, hy, e⟩, h2⟩
      rcases List.mem_append.1 hy with hy | hy
      · exact ⟨y, hy, e⟩
      · rw [List.mem_singleton] at hy
        subst hy; exact absurd e h2
    · rintro ⟨y, hy, e⟩
      exact ⟨⟨y, List.mem_append.2 (.inl hy), e⟩, fun h => hne y hy (by rw [e, h])⟩
  · refine ext64 (but_lt _ _ (maskV_lt _)) (maskV_lt _) (fun i hi => ?_)
    rw [but_bit hw i hi, hb i hi, Bool.eq_iff_iff, Bool.and_eq_true, mask_mem _ _ hi]
    simp only [Bool.not_eq_true', decide_eq_false_iff_not]
    constructor
    · rintro ⟨h, _⟩; exact h
    · rintro ⟨y, hy, e⟩
      exact ⟨⟨y, hy, e⟩, fun h => hne y hy (by rw [e, h])⟩
/-- All that the law asks, for 'with' and without. -/
theorem more_all {me : Int} {L : List Xv} {x : Xv} (hok : okV (L ++ [x])) (hme : ∃ y ∈ L, y.who = me) :
    butN (maskV (compV me (L ++ [x]))) (withN 0 [x.who]) = maskV (compV me L) ∧
    0 ≤ keyC (bndV (compV me (L ++ [x]))).1 (bndV (compV me (L ++ [x]))).2 (bndV (compV me L)).1 (bndV (compV me L)).2 ∧
    (∀ q, wholeV (compV me L) q ≤ wholeV (compV me (L ++ [x])) q) ∧
    (hasB (maskV (compV me (L ++ [x]))) x.who = true ∨ compV me (L ++ [x]) = compV me L) := by
  obtain ⟨h1, h2, h3, h4, h5⟩ := comp_more hok hme
  rw [h1]
  by_cases h : sameO (oldV me L) x = true
  · rw [if_pos h]
    exact ⟨(less_more h3).1, bnd_more h2 x, fun q => whole_more _ x q, .inl ((mask_has _ _ h5.1 h5.2).2 ⟨x, by simp, rfl⟩)⟩
  · rw [if_neg h]
    refine ⟨(less_more h3).2, by rw [keyC_self]; exact Int.le_refl _, fun q => Nat.le_refl _, .inr rfl⟩
end Go.Proofs.YtikhpafdnohhkaaDoor
