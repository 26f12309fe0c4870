/- plan, plain: whose plan is whose -/
import Derived.Test.YtikhpafdnohhkaaDoorPlanG
import Derived.Test.YtikhpafdnohhkaaDoorPlanC
namespace Go.Proofs.YtikhpafdnohhkaaDoor
set_option linter.unusedSimpArgs false
set_option linter.unusedVariables false
theorem sameO_t {o : Int × Int} {x : Xv} : sameO o x = true ↔ x.oe = o.1 ∧ x.orp = o.2 := by simp [sameO]
theorem comp_mem {me : Int} {l : List Xv} {x : Xv} : x ∈ compV me l ↔ x ∈ l ∧ x.oe = (oldV me l).1 ∧ x.orp = (oldV me l).2 := by
  rw [compV, compO, List.mem_filter, sameO_t]
theorem old_of {me : Int} {l : List Xv} (hok : okV l) {x : Xv} (hx : x ∈ l) (h : x.who = me) : oldV me l = (x.oe, x.orp) := by
  obtain ⟨j, hj, rfl⟩ := List.mem_iff_getElem.1 hx
  exact oldV_at hok.2 hj h
theorem comp_same {a b : Int} {l : List Xv} (hok : okV l) (hb : hasB (maskV (compV a l)) b = true) (hin : ∃ x ∈ l, x.who = b) : compV b l = compV a l := by
  obtain ⟨y, hy, hyb⟩ := hin
  have hr := hok.1 y hy
  obtain ⟨z, hz, hzb⟩ := (mask_has _ b (by omega) (by omega)).1 hb
  obtain ⟨hzl, h1, h2⟩ := comp_mem.1 hz
  have e := old_of hok hzl hzb
  unfold compV
  rw [e, h1, h2]
theorem comp_me {a : Int} {l : List Xv} (hok : okV l) (hin : ∃ x ∈ l, x.who = a) : hasB (maskV (compV a l)) a = true := by
  obtain ⟨y, hy, hya⟩ := hin
  have hr := hok.1 y hy
  refine (mask_has _ a (by omega) (by omega)).2 ⟨y, comp_mem.2 ⟨hy, ?_⟩, hya⟩
  rw [old_of hok hy hya]
  exact ⟨rfl, rfl⟩
theorem hold_min {x : Nat} (hx : x < 18446744073709551616) : (minI x = -1 ∧ x = 0) ∨ ∃ k : Nat, minI x = k ∧ k < 64 ∧ x.testBit k = true ∧ ∀ i, i < k → x.testBit i = false := by
  unfold minI
  by_cases h : x = 0
  · exact .inl ⟨if_pos h, h⟩
  · obtain ⟨h1, h2, h3, _⟩ := low_split hx h
    exact .inr ⟨_, if_neg h, h1, h2, h3⟩
theorem hold_has {L : List Xv} {q : Int} (h : 0 ≤ holdV L q) : hasB (maskV L) (holdV L q) = true := by
  unfold holdV at *
  rcases hold_min (holdM_lt (wholeV L q) q L) with ⟨e, _⟩ | ⟨k, e, hk, hb, _⟩
  · omega
  · rw [e]
    refine (mask_has L k (by omega) (by omega)).2 ?_
    have h2 : hasB (holdM (wholeV L q) q L) (k : Int) = true := by
      rw [hasB_eq, Int.toNat_natCast, hb]
      simp; omega
    unfold holdM at h2
    obtain ⟨x, hx, hw⟩ := (mask_has _ k (by omega) (by omega)).1 h2
    exact ⟨x, (List.mem_filter.1 hx).1, hw⟩
end Go.Proofs.YtikhpafdnohhkaaDoor
