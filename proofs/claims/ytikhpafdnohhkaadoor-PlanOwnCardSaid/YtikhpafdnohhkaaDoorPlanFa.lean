/- plan, plain: what PlanFits says of what is kept -/
import Derived.Test.YtikhpafdnohhkaaDoorPlanJ
namespace Go.Proofs.YtikhpafdnohhkaaDoor
set_option linter.unusedSimpArgs false
set_option linter.unusedVariables false
/-- What is kept counts; its Deps are there. -/
theorem kept_fits {L : List Xv} {ms : List Ms} {m : Ms} (hm : m ∈ ms) (hk : keptB (wholeV L) ms m = true) : 0 < m.seq ∧ m.seq ≤ wholeV L m.src ∧ ∀ q : Nat, q < m.deps.length → m.deps.getD q 0 ≤ wholeV L q := by
  obtain ⟨hc, hg⟩ := keptB_t.1 hk
  have hcm : 0 < m.seq ∧ m.seq ≤ wholeV L m.src := by unfold cntM at hc; simpa using hc
  refine ⟨hcm.1, hcm.2, fun q hq => ?_⟩
  have ho : overM (fun q => wholeV L q) m = false := by
    rw [Bool.eq_false_iff]
    intro h
    exact hg (.over hm hc h)
  by_cases hle : m.deps.getD q 0 ≤ wholeV L q
  · exact hle
  · exfalso
    have : overM (fun q => wholeV L q) m = true := overM_iff.2 ⟨q, hq, by
      by_cases h64 : q < 64
      · rw [if_pos h64]; omega
      · rw [if_neg h64]; omega⟩
    rw [ho] at this; cases this
/-- What it leans on is kept. -/
theorem kept_leans {L : List Xv} {ms : List Ms} {m x : Ms} (hm : m ∈ ms) (hk : keptB (wholeV L) ms m = true) (hx : x ∈ ms) (hd : dragM x m = true) (hc : cntM (wholeV L) x = true) : keptB (wholeV L) ms x = true := by
  obtain ⟨hcm, hg⟩ := keptB_t.1 hk
  refine keptB_t.2 ⟨hc, fun hgx => hg (.drag hm hcm hgx hd)⟩
end Go.Proofs.YtikhpafdnohhkaaDoor
