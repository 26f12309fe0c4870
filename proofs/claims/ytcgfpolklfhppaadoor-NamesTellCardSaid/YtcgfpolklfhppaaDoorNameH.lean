/- plain laws of names: who stays, and the names -/
import Derived.Test.YtcgfpolklfhppaaDoorNameG
namespace Go.Proofs.YtcgfpolklfhppaaDoor
open Go.RowKit Go.Sort

def clB (l : List It) (q : It → Bool) (i : Nat) : Bool := (l[i]?.map q).getD false
theorem memN_nodup (m : Nat) : (memN m).Nodup := List.Pairwise.filter _ List.nodup_range
theorem memN_mem {x i : Nat} : i ∈ memN x ↔ i < 64 ∧ x.testBit i = true := by rw [memN, List.mem_filter, List.mem_range]
theorem thoseK_bit (m : Nat) (l : List It) (q : It → Bool) (p : Nat) : ∀ k, k ≤ (memN m).length → ((thoseK m l q k).testBit p = true ↔ ∃ i, i < k ∧ (memN m)[i]? = some p ∧ clB l q i = true) := by
  intro k
  induction k with
  | zero => intro _; simp [thoseK]
  | succ k ih =>
    intro hk
    have ih := ih (by omega)
    have hkn : k < (memN m).length := by omega
    have hgd : (memN m).getD k 0 = (memN m)[k] := by rw [List.getD_eq_getElem?_getD, List.getElem?_eq_getElem hkn]; rfl
    have h64 : (memN m)[k] < 64 := memN_at hkn
    rw [thoseK]
    show (if clB l q k = true then thoseK m l q k ||| bitN ((memN m).getD k 0) else thoseK m l q k).testBit p = true ↔ _
    constructor
    · intro h
      by_cases hc : clB l q k = true
      · rw [if_pos hc, Nat.testBit_or, Bool.or_eq_true] at h
        rcases h with h | h
        · obtain ⟨i, h1, h2, h3⟩ := ih.1 h
          exact ⟨i, by omega, h2, h3⟩
        · rw [hgd, bitN_bit, Bool.and_eq_true, decide_eq_true_eq, decide_eq_true_eq] at h
          refine ⟨k, Nat.lt_succ_self _, ?_, hc⟩
          rw [List.getElem?_eq_getElem hkn]
          congr 1
          omega
      · rw [if_neg hc] at h
        obtain ⟨i, h1, h2, h3⟩ := ih.1 h
        exact ⟨i, by omega, h2, h3⟩
    · rintro ⟨i, h1, h2, h3⟩
      by_cases e : i = k
      · subst e
        rw [if_pos h3, Nat.testBit_or, Bool.or_eq_true]
        right
        rw [List.getElem?_eq_getElem hkn] at h2
        have h2 := Option.some.inj h2
        rw [hgd, bitN_bit, Bool.and_eq_true, decide_eq_true_eq, decide_eq_true_eq]
        omega
      · have := ih.2 ⟨i, by omega, h2, h3⟩
        split
        · rw [Nat.testBit_or, this]; rfl
        · exact this
theorem thoseN_bit (m : Nat) (l : List It) (q : It → Bool) (i : Nat) (hi : i < (memN m).length) : (thoseN m l q).testBit (memN m)[i] = clB l q i := by
  rw [Bool.eq_iff_iff, thoseN, thoseK_bit m l q _ _ (Nat.le_refl _)]
  constructor
  · rintro ⟨j, h1, h2, h3⟩
    have hj : (memN m)[j] = (memN m)[i] := by rw [List.getElem?_eq_getElem h1] at h2; exact Option.some.inj h2
    have : j = i := (List.getElem_inj (memN_nodup m)).1 hj
    rw [← this]; exact h3
  · intro h
    exact ⟨i, hi, List.getElem?_eq_getElem hi, h⟩
theorem thoseN_sub (m : Nat) (l : List It) (q : It → Bool) (p : Nat) (h : (thoseN m l q).testBit p = true) : m.testBit p = true := by
  obtain ⟨i, h1, h2, _⟩ := (thoseK_bit m l q p _ (Nat.le_refl _)).1 h
  exact (memN_mem.1 (List.mem_of_getElem? h2)).2
/-- Who stays, bit by bit. -/
theorem stayN_cases (n m : Nat) (l : List It) : (thoseN m l (dirQ n) ≠ 0 ∧ stayN n m l = thoseN m l (dirQ n)) ∨ (thoseN m l (dirQ n) = 0 ∧ ((thoseN m l (It.hold n) = 0 ∧ stayN n m l = 0) ∨ (thoseN m l (It.hold n) ≠ 0 ∧ ∃ c, c < 64 ∧ (thoseN m l (It.hold n)).testBit c = true ∧ stayN n m l = bitN c))) := by
  unfold stayN
  by_cases hd : thoseN m l (dirQ n) = 0
  · right
    refine ⟨hd, ?_⟩
    rw [if_pos hd]
    by_cases hh : thoseN m l (It.hold n) = 0
    · left
      refine ⟨hh, ?_⟩
      rw [minI, if_pos hh]
      decide
    · right
      obtain ⟨h1, h2, _⟩ := low_split (thoseN_lt m l (It.hold n)) hh
      exact ⟨hh, _, h1, h2, by rw [minI, if_neg hh]⟩
  · left
    exact ⟨hd, if_neg hd⟩
theorem bitN_nat (c p : Nat) (hc : c < 64) : (bitN (c : Int)).testBit p = decide (p = c) := by
  rw [bitN_bit, decide_eq_true (by omega), Bool.true_and, decide_eq_decide]
  omega
theorem stayN_sub (n m : Nat) (l : List It) (p : Nat) (h : (stayN n m l).testBit p = true) : m.testBit p = true := by
  rcases stayN_cases n m l with ⟨_, h1⟩ | ⟨_, ⟨_, h1⟩ | ⟨_, c, hc, h2, h1⟩⟩
  · rw [h1] at h; exact thoseN_sub m l _ p h
  · rw [h1] at h; simp at h
  · rw [h1, bitN_nat c p hc, decide_eq_true_eq] at h
    subst h
    exact thoseN_sub m l _ p h2
theorem clB_dir {l : List It} {n i : Nat} : clB l (dirQ n) i = (clB l (It.hold n) i && clB l (·.direct) i) := by
  unfold clB
  cases l[i]? <;> rfl
theorem stay_hold (n m : Nat) (l : List It) (i : Nat) (hi : i < (memN m).length) (h : (stayN n m l).testBit (memN m)[i] = true) : clB l (It.hold n) i = true := by
  rcases stayN_cases n m l with ⟨_, h1⟩ | ⟨_, ⟨_, h1⟩ | ⟨_, c, hc, h2, h1⟩⟩
  · rw [h1, thoseN_bit m l _ i hi, clB_dir, Bool.and_eq_true] at h; exact h.1
  · rw [h1] at h; simp at h
  · rw [h1, bitN_nat c _ hc, decide_eq_true_eq] at h
    rw [← h, thoseN_bit m l _ i hi] at h2; exact h2
theorem dir_stay (n m : Nat) (l : List It) (i : Nat) (hi : i < (memN m).length) (h : clB l (dirQ n) i = true) : (stayN n m l).testBit (memN m)[i] = true := by
  have hd := thoseN_bit m l (dirQ n) i hi
  rw [h] at hd
  rcases stayN_cases n m l with ⟨_, h1⟩ | ⟨h0, _⟩
  · rw [h1]; exact hd
  · rw [h0] at hd; simp at hd
theorem hold_some (n m : Nat) (l : List It) (i : Nat) (hi : i < (memN m).length) (h : clB l (It.hold n) i = true) : stayN n m l ≠ 0 := by
  have hd := thoseN_bit m l (It.hold n) i hi
  rw [h] at hd
  intro h0
  rcases stayN_cases n m l with ⟨h2, h1⟩ | ⟨_, ⟨h2, _⟩ | ⟨_, c, hc, _, h1⟩⟩
  · exact h2 (h1.symm.trans h0)
  · rw [h2] at hd; simp at hd
  · have := bitN_nat c c hc
    rw [← h1, h0] at this
    simp at this
theorem card_bit (c : Nat) (hc : c < 64) : cardN (bitN (c : Int)) ≤ 1 := by
  rw [← memN_len]
  have hall : ∀ x ∈ memN (bitN (c : Int)), x = c := fun x hx => by
    have := (memN_mem.1 hx).2
    rw [bitN_nat c x hc, decide_eq_true_eq] at this
    exact this
  have hnd := memN_nodup (bitN (c : Int))
  match memN (bitN (c : Int)), hall, hnd with
  | [], _, _ => exact Nat.zero_le _
  | [_], _, _ => exact Nat.le_refl _
  | x :: y :: _, hall, hnd =>
    have h1 := hall x (by simp)
    have h2 := hall y (by simp)
    rw [h1, h2] at hnd
    simp at hnd
theorem many_dir (n m : Nat) (l : List It) (hc : 1 < cardN (stayN n m l)) (i : Nat) (hi : i < (memN m).length) (h : (stayN n m l).testBit (memN m)[i] = true) : clB l (·.direct) i = true := by
  rcases stayN_cases n m l with ⟨_, h1⟩ | ⟨_, ⟨_, h1⟩ | ⟨_, c, hc2, _, h1⟩⟩
  · rw [h1, thoseN_bit m l _ i hi, clB_dir, Bool.and_eq_true] at h; exact h.2
  · rw [h1] at h; simp at h
  · rw [h1] at hc
    have := card_bit c hc2
    omega
theorem nameK_at (m st : Nat) (l : List It) (sure : Bool) : ∀ k i, i < k → (nameK m st l sure k)[i]? = some ⟨(memN m).getD i 0, inc1 st sure ((memN m).getD i 0) (inc0 l i)⟩ := by
  intro k
  induction k with
  | zero => intro i hi; omega
  | succ k ih =>
    intro i hi
    rw [nameK]
    by_cases e : i = k
    · subst e
      rw [List.getElem?_append_right (by rw [nameK_len]; omega), nameK_len]
      simp
    · rw [List.getElem?_append_left (by rw [nameK_len]; omega)]
      exact ih i (by omega)
theorem name_of (m st : Nat) (l : List It) (sure : Bool) (i : Nat) (hi : i < (memN m).length) :
    ofM (nameK m st l sure (memN m).length) (((memN m)[i] : Nat) : Int) = (⟨(((memN m)[i] : Nat) : Int), inc1 st sure (memN m)[i] (inc0 l i)⟩, true) := by
  have hlen := nameK_len m st l sure (memN m).length
  have hat : ∀ j (hj : j < (memN m).length), (nameK m st l sure (memN m).length)[j]'(by omega) = ⟨(((memN m)[j] : Nat) : Int), inc1 st sure (memN m)[j] (inc0 l j)⟩ := fun j hj => by
    have h1 := nameK_at m st l sure (memN m).length j hj
    rw [List.getElem?_eq_getElem (by omega)] at h1
    have hgd : (memN m).getD j 0 = (memN m)[j] := by rw [List.getD_eq_getElem?_getD, List.getElem?_eq_getElem hj]; rfl
    rw [hgd] at h1
    exact Option.some.inj h1
  have hf : (nameK m st l sure (memN m).length).findIdx? (nmQ (((memN m)[i] : Nat) : Int)) = some i := by
    refine findIdx?_at (by omega) (fun j hj => ?_) ?_
    · rw [hat j (by omega)]
      unfold nmQ
      have hne : (memN m)[j]'(by omega) ≠ (memN m)[i] := fun e => by
        have := (List.getElem_inj (memN_nodup m)).1 e
        omega
      have hne' : ¬ ((((memN m)[j]'(by omega) : Nat) : Int) = ((memN m)[i] : Nat)) := fun e => hne (Int.ofNat.inj e)
      simpa using hne'
    · rw [hat i hi]; simp [nmQ]
  rw [ofM, hf]
  show (((nameK m st l sure (memN m).length)[i]?.getD _, true) : Nm × Bool) = _
  rw [List.getElem?_eq_getElem (by omega), hat i hi]
  rfl
end Go.Proofs.YtcgfpolklfhppaaDoor
