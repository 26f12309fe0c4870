/- plan, plain: what Keep keeps -/
import Derived.Test.YtlgabjffnjciaaaDoorLib
namespace Go.Proofs.YtlgabjffnjciaaaDoor
set_option linter.unusedSimpArgs false
set_option linter.unusedVariables false

/-- A message. -/
structure Ms where
  src : Int
  seq : Nat
  stamp : Nat
  service : Int
  deps : List Nat
  payload : ByteArray
/-- A vector's number at a place; 0 behind its end, or ahead of it. -/
def atL (l : List Nat) (p : Int) : Nat := if p < 0 then 0 else l.getD p.toNat 0
def cntM (W : Int → Nat) (m : Ms) : Bool := decide (0 < m.seq ∧ m.seq ≤ W m.src)
/-- Is one of its Deps beyond what is there (K: of the first 64)? -/
def overM (K : Nat → Nat) (m : Ms) : Bool := (List.range m.deps.length).any fun q => if q < 64 then decide (K q < m.deps.getD q 0) else decide (0 < m.deps.getD q 0)
/-- Does a message that is given up take another one along? -/
def dragM (x m : Ms) : Bool := decide (x.src = m.src ∧ x.seq ≤ m.seq) || decide (x.seq ≤ atL m.deps x.src)
/-- Given up, at least. -/
inductive Gv (W : Int → Nat) (rest : List Ms) : Ms → Prop
  | over {m : Ms} (hm : m ∈ rest) (hc : cntM W m = true) (ho : overM (fun q => W q) m = true) : Gv W rest m
  | drag {m x : Ms} (hm : m ∈ rest) (hc : cntM W m = true) (hx : Gv W rest x) (hd : dragM x m = true) : Gv W rest m
theorem Gv.mem {W : Int → Nat} {rest : List Ms} {m : Ms} (h : Gv W rest m) : m ∈ rest := by cases h <;> assumption
theorem Gv.cnt {W : Int → Nat} {rest : List Ms} {m : Ms} (h : Gv W rest m) : cntM W m = true := by cases h <;> assumption
/-- What the program's numbers say while it goes on. -/
structure KInv (W : Int → Nat) (rest : List Ms) (K : Nat → Nat) : Prop where
  le : ∀ p : Nat, K p ≤ W p
  at_ : ∀ p : Nat, K p = W p ∨ ∃ x, Gv W rest x ∧ x.src = p ∧ K p + 1 = x.seq
theorem KInv.start (W : Int → Nat) (rest : List Ms) : KInv W rest (fun p => W p) := ⟨fun _ => Nat.le_refl _, fun _ => .inl rfl⟩
theorem overM_iff {K : Nat → Nat} {m : Ms} : overM K m = true ↔ ∃ q, q < m.deps.length ∧ (if q < 64 then K q < m.deps.getD q 0 else 0 < m.deps.getD q 0) := by
  unfold overM
  rw [List.any_eq_true]
  constructor
  · rintro ⟨q, hq, h⟩
    refine ⟨q, List.mem_range.1 hq, ?_⟩
    by_cases h64 : q < 64
    · rw [if_pos h64] at h ⊢; simpa using h
    · rw [if_neg h64] at h ⊢; simpa using h
  · rintro ⟨q, hq, h⟩
    refine ⟨q, List.mem_range.2 hq, ?_⟩
    by_cases h64 : q < 64
    · rw [if_pos h64] at h ⊢; simpa using h
    · rw [if_neg h64] at h ⊢; simpa using h
/-- A message that doesn't fit is given up. -/
theorem KInv.gv {W : Int → Nat} {rest : List Ms} {K : Nat → Nat} (h : KInv W rest K) {m : Ms} (hm : m ∈ rest) (hc : cntM W m = true) (ho : overM K m = true) : Gv W rest m := by
  obtain ⟨q, hq, hk⟩ := overM_iff.1 ho
  by_cases h64 : q < 64
  · rw [if_pos h64] at hk
    rcases h.at_ q with e | ⟨x, hx, e1, e2⟩
    · exact .over hm hc (overM_iff.2 ⟨q, hq, by rw [if_pos h64, ← e]; exact hk⟩)
    · refine .drag hm hc hx ?_
      unfold dragM atL
      rw [e1, if_neg (by omega), Int.toNat_natCast]
      simp only [Bool.or_eq_true, decide_eq_true_eq]
      right; omega
  · rw [if_neg h64] at hk
    exact .over hm hc (overM_iff.2 ⟨q, hq, by rw [if_neg h64]; exact hk⟩)
theorem KInv.step {W : Int → Nat} {rest : List Ms} {K : Nat → Nat} (h : KInv W rest K) {m : Ms} {p : Nat} (hp : m.src = p) (hm : m ∈ rest) (hc : cntM W m = true) (hk : m.seq ≤ K p) (ho : overM K m = true) : KInv W rest (fun q => if q = p then m.seq - 1 else K q) := by
  have hg := h.gv hm hc ho
  have hs : 0 < m.seq := by unfold cntM at hc; rw [decide_eq_true_eq] at hc; exact hc.1
  refine ⟨fun q => ?_, fun q => ?_⟩
  · by_cases e : q = p
    · subst e; have := h.le q; simp; omega
    · simp [e]; exact h.le q
  · by_cases e : q = p
    · subst e; right; exact ⟨m, hg, hp, by simp; omega⟩
    · simp [e]; exact h.at_ q
/-- At the end just those are kept that aren't given up. -/
theorem KInv.end_ {W : Int → Nat} {rest : List Ms} {K : Nat → Nat} (hW : ∀ p : Int, 0 < W p → 0 ≤ p ∧ p < 64) (h : KInv W rest K) (hs : ∀ m ∈ rest, cntM W m = true → m.seq ≤ K m.src.toNat → overM K m = false) {m : Ms} (hm : m ∈ rest) (hc : cntM W m = true) : m.seq ≤ K m.src.toNat ↔ ¬ Gv W rest m := by
  have hsrc : ∀ x : Ms, cntM W x = true → 0 ≤ x.src ∧ x.src < 64 := fun x hx => by
    unfold cntM at hx; rw [decide_eq_true_eq] at hx
    exact hW _ (by omega)
  constructor
  · intro hk hg
    have key : ∀ x, Gv W rest x → K x.src.toNat < x.seq := by
      intro x hx
      induction hx with
      | over hm hc ho =>
        rename_i m
        by_cases hk : m.seq ≤ K m.src.toNat
        · have hf := hs m hm hc hk
          obtain ⟨q, hq, h1⟩ := overM_iff.1 ho
          have : overM K m = true := overM_iff.2 ⟨q, hq, by
            by_cases h64 : q < 64
            · rw [if_pos h64] at h1 ⊢; exact Nat.lt_of_le_of_lt (h.le q) h1
            · rw [if_neg h64] at h1 ⊢; exact h1⟩
          rw [hf] at this; cases this
        · omega
      | drag hm hc hx hd ih =>
        rename_i m x
        by_cases hk : m.seq ≤ K m.src.toNat
        · exfalso
          have hf := hs m hm hc hk
          unfold dragM at hd
          rw [Bool.or_eq_true, decide_eq_true_eq, decide_eq_true_eq] at hd
          rcases hd with ⟨e1, e2⟩ | e2
          · rw [e1] at ih; omega
          · obtain ⟨s1, s2⟩ := hsrc x hx.cnt
            unfold atL at e2
            rw [if_neg (by omega)] at e2
            have hq : x.src.toNat < m.deps.length := by
              by_cases hl : x.src.toNat < m.deps.length
              · exact hl
              · rw [List.getD_eq_getElem?_getD, List.getElem?_eq_none (by omega)] at e2
                simp at e2; omega
            have : overM K m = true := overM_iff.2 ⟨x.src.toNat, hq, by rw [if_pos (by omega)]; omega⟩
            rw [hf] at this; cases this
        · omega
    have := key m hg
    omega
  · intro hn
    obtain ⟨s1, s2⟩ := hsrc m hc
    have hc' := hc
    unfold cntM at hc'; rw [decide_eq_true_eq] at hc'
    have e : ((m.src.toNat : Nat) : Int) = m.src := Int.toNat_of_nonneg s1
    rcases h.at_ m.src.toNat with e1 | ⟨x, hx, e1, e2⟩
    · rw [e1, e]; exact hc'.2
    · by_cases hk : m.seq ≤ K m.src.toNat
      · exact hk
      · exfalso
        apply hn
        refine .drag hm hc hx ?_
        unfold dragM
        rw [Bool.or_eq_true, decide_eq_true_eq]
        left
        exact ⟨by rw [e1, e], by omega⟩
end Go.Proofs.YtlgabjffnjciaaaDoor
