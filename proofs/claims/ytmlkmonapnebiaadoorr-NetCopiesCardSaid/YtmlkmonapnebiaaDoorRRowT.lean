/- a block whose cells are a few at its head, then n pieces of one length, then a few at its end -/
import Derived.Test.YtmlkmonapnebiaaDoorRRow
namespace Go.Proofs.YtmlkmonapnebiaaDoorR
open Go.RowKit

def rowT (pre : List Value) (f : Nat → List Value) (n : Nat) (tl : List Value) : Array Value := ((rowC pre f n).toList ++ tl).toArray
section
variable {pre tl : List Value} {f : Nat → List Value} {n sz : Nat}
theorem rowC_len (hf : ∀ i, (f i).length = sz) : (rowC pre f n).toList.length = pre.length + n * sz := by rw [Array.length_toList, rowC_size hf]
theorem rowT_size (hf : ∀ i, (f i).length = sz) : (rowT pre f n tl).size = pre.length + n * sz + tl.length := by
  rw [rowT, List.size_toArray, List.length_append, rowC_len hf]
theorem rowT_left (hf : ∀ i, (f i).length = sz) {j : Nat} (hj : j < pre.length + n * sz) : (rowT pre f n tl)[j]? = (rowC pre f n)[j]? := by
  rw [rowT, List.getElem?_toArray, List.getElem?_append_left (by rw [rowC_len hf]; exact hj), Array.getElem?_toList]
theorem rowT_pre (hf : ∀ i, (f i).length = sz) {j : Nat} {v : Value} (h : pre[j]? = some v) : (rowT pre f n tl)[j]? = some v := by
  have hj : j < pre.length := (List.getElem?_eq_some_iff.1 h).1
  rw [rowT_left hf (by omega), rowC_pre h]
theorem rowT_at (hf : ∀ i, (f i).length = sz) {i j : Nat} (hi : i < n) (hj : j < sz) : (rowT pre f n tl)[pre.length + i * sz + j]? = (f i)[j]? := by
  have : i * sz + sz ≤ n * sz := by rw [← Nat.succ_mul]; exact Nat.mul_le_mul_right _ hi
  rw [rowT_left hf (by omega), rowC_at hf hi hj]
theorem rowT_tl (hf : ∀ i, (f i).length = sz) (j : Nat) : (rowT pre f n tl)[pre.length + n * sz + j]? = tl[j]? := by
  rw [rowT, List.getElem?_toArray, List.getElem?_append_right (by rw [rowC_len hf]; omega), rowC_len hf]
  congr 1; omega
theorem rowT_congr {g : Nat → List Value} (h : ∀ i, i < n → f i = g i) : rowT pre f n tl = rowT pre g n tl := by rw [rowT, rowT, rowC_congr h]
theorem rowT_set_at (hf : ∀ i, (f i).length = sz) {i j : Nat} (hi : i < n) (hj : j < sz) (v : Value) :
    (rowT pre f n tl).setIfInBounds (pre.length + i * sz + j) v = rowT pre (fun k => if k = i then (f i).set j v else f k) n tl := by
  have : i * sz + sz ≤ n * sz := by rw [← Nat.succ_mul]; exact Nat.mul_le_mul_right _ hi
  have e := rowC_set_at (pre := pre) hf hi hj v
  rw [rowT, rowT, List.setIfInBounds_toArray, List.set_append_left _ _ (by rw [rowC_len hf]; omega), ← e, Array.toList_setIfInBounds]
theorem rowT_set_tl (hf : ∀ i, (f i).length = sz) (j : Nat) (v : Value) : (rowT pre f n tl).setIfInBounds (pre.length + n * sz + j) v = rowT pre f n (tl.set j v) := by
  rw [rowT, rowT, List.setIfInBounds_toArray, List.set_append_right _ _ (by rw [rowC_len hf]; omega), rowC_len hf]
  congr 3; omega
theorem rowT_one (h1 : pre.all (·.oneCell') = true) (hf : ∀ i, (f i).all (·.oneCell') = true) (h2 : tl.all (·.oneCell') = true) : (rowT pre f n tl).all (·.oneCell') = true := by
  have := rowC_one (n := n) h1 hf
  rw [rowT, List.all_toArray, List.all_append, h2, Bool.and_true]
  rw [rowC, List.all_toArray] at this
  rw [rowC]
  exact this
end
end Go.Proofs.YtmlkmonapnebiaaDoorR
