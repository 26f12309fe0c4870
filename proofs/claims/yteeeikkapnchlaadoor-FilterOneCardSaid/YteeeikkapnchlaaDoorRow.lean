/- a block whose cells are a few at its head and then n pieces of one length -/
import Derived.Test.YteeeikkapnchlaaDoorBlk
namespace Go.Proofs.YteeeikkapnchlaaDoor
set_option linter.unusedSimpArgs false
set_option linter.unusedVariables false
open Go.RowKit

def rowC (pre : List Value) (f : Nat → List Value) (n : Nat) : Array Value := (pre ++ (List.range n).flatMap f).toArray
section
variable {pre : List Value} {f : Nat → List Value} {n sz : Nat}
theorem rangeFlat_get (hf : ∀ i, (f i).length = sz) {i j : Nat} (hi : i < n) (hj : j < sz) : ((List.range n).flatMap f)[i * sz + j]? = (f i)[j]? := by
  rw [flatMap_get hf _ _ _ hj, List.getElem?_eq_getElem (by simpa using hi)]; simp
theorem rowC_size (hf : ∀ i, (f i).length = sz) : (rowC pre f n).size = pre.length + n * sz := by
  rw [rowC, List.size_toArray, List.length_append, flatMap_len hf, List.length_range]
theorem rowC_pre {j : Nat} {v : Value} (h : pre[j]? = some v) : (rowC pre f n)[j]? = some v := by
  have hj : j < pre.length := (List.getElem?_eq_some_iff.1 h).1
  rw [rowC, List.getElem?_toArray, List.getElem?_append_left hj, h]
theorem rowC_at (hf : ∀ i, (f i).length = sz) {i j : Nat} (hi : i < n) (hj : j < sz) : (rowC pre f n)[pre.length + i * sz + j]? = (f i)[j]? := by
  rw [rowC, List.getElem?_toArray, List.getElem?_append_right (by omega), ← rangeFlat_get hf hi hj]
  congr 1; omega
theorem rowC_congr {g : Nat → List Value} (h : ∀ i, i < n → f i = g i) : rowC pre f n = rowC pre g n := by
  rw [rowC, rowC]
  congr 2
  rw [List.flatMap_def, List.flatMap_def, List.map_congr_left (fun i hi => h i (List.mem_range.1 hi))]
theorem rowC_set_pre {j : Nat} (hj : j < pre.length) (v : Value) : (rowC pre f n).setIfInBounds j v = rowC (pre.set j v) f n := by
  rw [rowC, rowC, List.setIfInBounds_toArray, List.set_append_left _ _ hj]
theorem rowC_set_at (hf : ∀ i, (f i).length = sz) {i j : Nat} (hi : i < n) (hj : j < sz) (v : Value) :
    (rowC pre f n).setIfInBounds (pre.length + i * sz + j) v = rowC pre (fun k => if k = i then (f i).set j v else f k) n := by
  have hg : ∀ k, ((fun k => if k = i then (f i).set j v else f k) k).length = sz := fun k => by
    dsimp only; split
    · rw [List.length_set, hf]
    · exact hf k
  apply Array.ext_getElem?
  intro m
  rw [Array.getElem?_setIfInBounds, rowC_size hf]
  by_cases hm : m < pre.length
  · rw [if_neg (by omega), rowC, rowC, List.getElem?_toArray, List.getElem?_toArray, List.getElem?_append_left hm, List.getElem?_append_left hm]
  · obtain ⟨q, r, hr, hq⟩ : ∃ q r, r < sz ∧ m = pre.length + q * sz + r := by
      refine ⟨(m - pre.length) / sz, (m - pre.length) % sz, Nat.mod_lt _ (by omega), ?_⟩
      have := Nat.div_add_mod (m - pre.length) sz
      rw [Nat.mul_comm] at this
      omega
    by_cases hqn : q < n
    · rw [hq, rowC_at hf hqn hr, rowC_at hg hqn hr]
      by_cases hqi : q = i
      · subst hqi
        rw [if_pos rfl, List.getElem?_set]
        by_cases hjr : j = r
        · subst hjr
          have : pre.length + q * sz + j < pre.length + n * sz := by
            have h2 : q * sz + sz ≤ n * sz := by rw [← Nat.succ_mul]; exact Nat.mul_le_mul_right _ hqn
            omega
          rw [if_pos rfl, if_pos rfl, if_pos this, if_pos (by rw [hf]; exact hj)]
        · rw [if_neg hjr, if_neg (by omega)]
      · rw [if_neg hqi, if_neg]
        intro e
        have e2 : i * sz + j = q * sz + r := by omega
        rcases Nat.lt_or_gt_of_ne hqi with h | h
        · have : q * sz + sz ≤ i * sz := by rw [← Nat.succ_mul]; exact Nat.mul_le_mul_right _ h
          omega
        · have : i * sz + sz ≤ q * sz := by rw [← Nat.succ_mul]; exact Nat.mul_le_mul_right _ h
          omega
    · have h2 : n * sz ≤ q * sz := Nat.mul_le_mul_right _ (by omega)
      have h3 : i * sz + sz ≤ n * sz := by rw [← Nat.succ_mul]; exact Nat.mul_le_mul_right _ hi
      rw [if_neg (by omega), Array.getElem?_eq_none_iff.2 (by rw [rowC_size hf]; omega), Array.getElem?_eq_none_iff.2 (by rw [rowC_size hg]; omega)]
theorem rowC_one (h1 : pre.all (·.oneCell') = true) (hf : ∀ i, (f i).all (·.oneCell') = true) : (rowC pre f n).all (·.oneCell') = true := by
  rw [rowC, List.all_toArray, List.all_append, h1, Bool.true_and, List.all_flatMap]
  simp [hf]
end
end Go.Proofs.YteeeikkapnchlaaDoor
