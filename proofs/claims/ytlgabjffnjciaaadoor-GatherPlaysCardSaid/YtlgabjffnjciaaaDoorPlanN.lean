/- plan, plain: the reference's rounds come to what is given up -/
import Derived.Test.YtlgabjffnjciaaaDoorPlanM
namespace Go.Proofs.YtlgabjffnjciaaaDoor
set_option linter.unusedSimpArgs false
set_option linter.unusedVariables false

def gAt (g : List Bool) (i : Nat) : Bool := g.getD i false
/-- Must a message be given up, where some are? -/
def lostD (W : Int → Nat) (rest : List Ms) (g : List Bool) (m : Ms) : Bool := overM (fun q => W q) m || (List.range rest.length).any fun i => gAt g i && (rest[i]?.map fun x => dragM x m).getD false
def takeG (W : Int → Nat) (rest : List Ms) (g : List Bool) (i : Nat) : Bool := (rest[i]?.map fun m => cntM W m && lostD W rest g m).getD false
/-- A round's first places. -/
def passK (W : Int → Nat) (rest : List Ms) (g : List Bool) : Nat → List Bool
  | 0 => g
  | i + 1 => if takeG W rest (passK W rest g i) i = true then (passK W rest g i).set i true else passK W rest g i
def roundsN (W : Int → Nat) (rest : List Ms) : Nat → List Bool
  | 0 => List.replicate rest.length false
  | n + 1 => passK W rest (roundsN W rest n) rest.length
theorem passK_len (W : Int → Nat) (rest : List Ms) (g : List Bool) (i : Nat) : (passK W rest g i).length = g.length := by
  induction i with
  | zero => rfl
  | succ i ih => rw [passK]; split <;> simp [ih]
theorem roundsN_len (W : Int → Nat) (rest : List Ms) (n : Nat) : (roundsN W rest n).length = rest.length := by
  induction n with
  | zero => simp [roundsN]
  | succ n ih => rw [roundsN, passK_len, ih]
theorem gAt_set {g : List Bool} {i j : Nat} : gAt (g.set i true) j = if j = i ∧ i < g.length then true else gAt g j := by
  unfold gAt
  rw [List.getD_eq_getElem?_getD, List.getD_eq_getElem?_getD, List.getElem?_set]
  by_cases h : i = j
  · subst h
    by_cases hl : i < g.length
    · simp [hl]
    · simp [hl]
  · have hne : ¬ j = i := fun e => h e.symm
    simp [h, hne]
theorem passK_mono (W : Int → Nat) (rest : List Ms) (g : List Bool) (j : Nat) (h : gAt g j = true) : ∀ i, gAt (passK W rest g i) j = true := by
  intro i
  induction i with
  | zero => exact h
  | succ i ih =>
    rw [passK]
    split
    · rw [gAt_set]; split
      · rfl
      · exact ih
    · exact ih
theorem passK_step (W : Int → Nat) (rest : List Ms) (g : List Bool) (j : Nat) {i k : Nat} (hik : i ≤ k) (h : gAt (passK W rest g i) j = true) : gAt (passK W rest g k) j = true := by
  obtain ⟨d, rfl⟩ : ∃ d, k = i + d := ⟨k - i, by omega⟩
  clear hik
  induction d with
  | zero => exact h
  | succ d ih =>
    rw [show i + (d + 1) = i + d + 1 from rfl, passK]
    split
    · rw [gAt_set]; split
      · rfl
      · exact ih
    · exact ih
theorem gExt {a b : List Bool} (hl : a.length = b.length) (h : ∀ i, gAt a i = gAt b i) : a = b := by
  apply List.ext_getElem hl
  intro i h1 h2
  have := h i
  unfold gAt at this
  rw [List.getD_eq_getElem?_getD, List.getD_eq_getElem?_getD, List.getElem?_eq_getElem h1, List.getElem?_eq_getElem h2] at this
  exact this
theorem count_lt : ∀ {a b : List Bool}, a.length = b.length → (∀ i, gAt a i = true → gAt b i = true) → a ≠ b → a.count true < b.count true := by
  have le : ∀ {a b : List Bool}, a.length = b.length → (∀ i, gAt a i = true → gAt b i = true) → a.count true ≤ b.count true := by
    intro a
    induction a with
    | nil => intro b hl _; cases b with
      | nil => exact Nat.le_refl _
      | cons _ _ => cases hl
    | cons x a ih => intro b hl h; cases b with
      | nil => cases hl
      | cons y b =>
        have h1 := ih (b := b) (by simpa using hl) (fun i hi => by have := h (i + 1); simp [gAt] at this hi ⊢; exact this hi)
        have h0 := h 0
        simp [gAt] at h0
        rw [List.count_cons, List.count_cons]
        have hxy : (if (x == true) = true then 1 else 0 : Nat) ≤ (if (y == true) = true then 1 else 0) := by clear h1 h hl ih; cases x <;> cases y <;> simp_all
        omega
  intro a
  induction a with
  | nil => intro b hl _ hne; cases b with
    | nil => exact absurd rfl hne
    | cons _ _ => cases hl
  | cons x a ih => intro b hl h hne; cases b with
    | nil => cases hl
    | cons y b =>
      have hl' : a.length = b.length := by simpa using hl
      have ht : ∀ i, gAt a i = true → gAt b i = true := fun i hi => by have := h (i + 1); simp [gAt] at this hi ⊢; exact this hi
      have h0 := h 0
      simp [gAt] at h0
      rw [List.count_cons, List.count_cons]
      have hle := le hl' ht
      by_cases e : a = b
      · subst e
        have hxy : (if (x == true) = true then 1 else 0 : Nat) < (if (y == true) = true then 1 else 0) := by clear hle ht hl' ih h hl; cases x <;> cases y <;> simp_all
        omega
      · have h3 := ih hl' ht e
        have hxy : (if (x == true) = true then 1 else 0 : Nat) ≤ (if (y == true) = true then 1 else 0) := by clear h3 hle ht hl' ih h hl hne; cases x <;> cases y <;> simp_all
        omega
/-- What a round gives up is given up. -/
theorem takeG_gv {W : Int → Nat} {rest : List Ms} {g : List Bool} (hg : ∀ j m, rest[j]? = some m → gAt g j = true → Gv W rest m) {i : Nat} {m : Ms} (hm : rest[i]? = some m) (ht : takeG W rest g i = true) : Gv W rest m := by
  unfold takeG at ht
  rw [hm] at ht
  simp only [Option.map_some, Option.getD_some, Bool.and_eq_true] at ht
  obtain ⟨hc, hl⟩ := ht
  unfold lostD at hl
  rw [Bool.or_eq_true, List.any_eq_true] at hl
  rcases hl with ho | ⟨j, hj, hx⟩
  · exact .over (List.mem_of_getElem? hm) hc ho
  · rw [Bool.and_eq_true] at hx
    have hj' := List.mem_range.1 hj
    rw [List.getElem?_eq_getElem hj'] at hx
    exact .drag (List.mem_of_getElem? hm) hc (hg j _ (List.getElem?_eq_getElem hj') hx.1) hx.2
theorem passK_gv {W : Int → Nat} {rest : List Ms} {g : List Bool} (hg : ∀ j m, rest[j]? = some m → gAt g j = true → Gv W rest m) : ∀ i j m, rest[j]? = some m → gAt (passK W rest g i) j = true → Gv W rest m := by
  intro i
  induction i with
  | zero => exact hg
  | succ i ih =>
    intro j m hm h
    rw [passK] at h
    split at h
    · rename_i ht
      rw [gAt_set] at h
      split at h
      · rename_i hj
        obtain ⟨rfl, _⟩ := hj
        exact takeG_gv ih hm ht
      · exact ih j m hm h
    · exact ih j m hm h
theorem roundsN_gv (W : Int → Nat) (rest : List Ms) : ∀ n j m, rest[j]? = some m → gAt (roundsN W rest n) j = true → Gv W rest m := by
  intro n
  induction n with
  | zero =>
    intro j m _ h
    unfold gAt roundsN at h
    rw [List.getD_eq_getElem?_getD, List.getElem?_replicate] at h
    split at h <;> simp at h
  | succ n ih => exact passK_gv ih _
/-- A round that changes nothing: whatever must be given up is. -/
theorem stable_closed {W : Int → Nat} {rest : List Ms} {g : List Bool} (hl : g.length = rest.length) (hs : passK W rest g rest.length = g) : ∀ i, takeG W rest g i = true → gAt g i = true := by
  have hall : ∀ i, i ≤ rest.length → passK W rest g i = g := fun i hi => by
    apply gExt (passK_len W rest g i)
    intro j
    cases h : gAt g j with
    | true => exact passK_mono W rest g j h i
    | false =>
      cases h' : gAt (passK W rest g i) j with
      | false => rfl
      | true =>
        have := passK_step W rest g j hi h'
        rw [hs, h] at this; cases this
  intro i ht
  by_cases hi : i < rest.length
  · have e := hall (i + 1) (by omega)
    rw [passK, hall i (by omega), if_pos ht] at e
    have := gAt_set (g := g) (i := i) (j := i)
    rw [e, if_pos ⟨rfl, by omega⟩] at this
    exact this
  · unfold takeG at ht
    rw [List.getElem?_eq_none (by omega)] at ht
    cases ht
theorem roundsN_stable (W : Int → Nat) (rest : List Ms) : ∀ n, passK W rest (roundsN W rest n) rest.length = roundsN W rest n ∨ n ≤ (roundsN W rest n).count true := by
  intro n
  induction n with
  | zero => exact .inr (Nat.zero_le _)
  | succ n ih =>
    by_cases hs : passK W rest (roundsN W rest n) rest.length = roundsN W rest n
    · left
      rw [show roundsN W rest (n + 1) = passK W rest (roundsN W rest n) rest.length from rfl, hs, hs]
    · rcases ih with ih | ih
      · exact absurd ih hs
      · right
        have := count_lt (a := roundsN W rest n) (b := roundsN W rest (n + 1)) (by rw [roundsN_len, roundsN_len]) (fun i hi => passK_mono W rest _ i hi _) (fun e => hs e.symm)
        omega
/-- Behind as many rounds as there are messages, and one, just those are given up that must be. -/
theorem roundsN_eq (W : Int → Nat) (rest : List Ms) (i : Nat) (m : Ms) (hm : rest[i]? = some m) : gAt (roundsN W rest (rest.length + 1)) i = true ↔ Gv W rest m := by
  constructor
  · exact roundsN_gv W rest _ i m hm
  · have hs : passK W rest (roundsN W rest (rest.length + 1)) rest.length = roundsN W rest (rest.length + 1) := by
      rcases roundsN_stable W rest (rest.length + 1) with h | h
      · exact h
      · have := List.count_le_length (a := true) (l := roundsN W rest (rest.length + 1))
        rw [roundsN_len] at this
        omega
    have hc := stable_closed (roundsN_len W rest _) hs
    intro hg
    have all : ∀ m, Gv W rest m → ∀ i, rest[i]? = some m → gAt (roundsN W rest (rest.length + 1)) i = true := by
      intro m hg
      induction hg with
      | over hm hcn ho =>
        intro i hi
        refine hc i ?_
        unfold takeG lostD
        rw [hi]
        simp [hcn, ho]
      | drag hm hcn hx hd ih =>
        intro i hi
        refine hc i ?_
        unfold takeG lostD
        rw [hi]
        simp only [Option.map_some, Option.getD_some, hcn, Bool.true_and, Bool.or_eq_true, List.any_eq_true]
        right
        obtain ⟨k, hk, e⟩ := List.mem_iff_getElem.1 hx.mem
        have hk' := List.getElem?_eq_getElem hk
        rw [e] at hk'
        exact ⟨k, List.mem_range.2 hk, by rw [ih k hk', hk']; simpa using hd⟩
    exact all m hg i hm
end Go.Proofs.YtlgabjffnjciaaaDoor
