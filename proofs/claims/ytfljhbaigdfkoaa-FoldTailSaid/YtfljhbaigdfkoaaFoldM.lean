/- plain laws of the fold -/
import Derived.Test.YtfljhbaigdfkoaaFoldO
namespace Go.Proofs.Ytfljhbaigdfkoaa
open Go.RowKit

theorem drop_eq {l : List UInt8} {a b : Nat} (h : a = b) : l.drop a = l.drop b := by rw [h]
theorem tlB_list (s : ByteArray) : bL (tlB s) = (bL s).drop (s.size - 4096) := by
  rw [tlB, bL_extract, List.take_of_length_le (by rw [bL_len]; exact Nat.le_refl _)]
def entH (fr : Int) (d : ByteArray) : List UInt8 := bL (strOfNums ([fr % 256] ++ beL (min d.size 65535 : Nat) 2 2))
theorem entH_len (fr : Int) (d : ByteArray) : (entH fr d).length = 3 := by rw [entH, bL_len, strOfNums_size]; rfl
theorem entB_list (fr : Int) (d : ByteArray) (h : d.size ≤ 65535) : bL (entB fr d) = entH fr d ++ bL d := by
  rw [entB, bL_append, bL_extract, Nat.min_eq_left h, List.take_of_length_le (by rw [bL_len]; exact Nat.le_refl _), List.drop_zero, entH, Nat.min_eq_left h]
theorem apB_list (s : ByteArray) (fr : Int) (d : ByteArray) (h : d.size ≤ 65535) : bL (apB s fr d) = ((bL s ++ entH fr d) ++ bL d).drop (s.size + d.size + 3 - 4096) := by
  rw [apB, tlB_list, bL_append, entB_list fr d h, List.append_assoc, ByteArray.size_append, entB_size, Nat.min_eq_left h]
  exact drop_eq (by omega)
theorem apB_size' (s : ByteArray) (fr : Int) (d : ByteArray) (h : d.size ≤ 65535) : (apB s fr d).size = min (s.size + d.size + 3) 4096 := by
  rw [apB, tlB_size, ByteArray.size_append, entB_size, Nat.min_eq_left h]; omega
theorem apB_last (s : ByteArray) (fr : Int) (d : ByteArray) (n : Nat) (h : d.size ≤ 65535) (h1 : n ≤ d.size) (h2 : n ≤ 4096) : bL ((apB s fr d).extract ((apB s fr d).size - n) (apB s fr d).size) = (bL d).drop (d.size - n) := by
  have hz := apB_size' s fr d h
  rw [bL_extract, List.take_of_length_le (by rw [bL_len]; exact Nat.le_refl _), apB_list s fr d h, List.drop_drop, List.drop_append, List.drop_of_length_le (by rw [List.length_append, bL_len, entH_len]; omega), List.nil_append]
  exact drop_eq (by rw [List.length_append, bL_len, entH_len]; omega)
theorem apB_first (s : ByteArray) (fr : Int) (d : ByteArray) (h : s.size + d.size + 3 ≤ 4096) : (apB s fr d).extract 0 s.size = s := by
  apply bL_ext
  rw [bL_extract, List.drop_zero, apB_list s fr d (by omega), Nat.sub_eq_zero_of_le h, List.drop_zero, List.append_assoc, List.take_append_of_le_length (by rw [bL_len]; exact Nat.le_refl _), List.take_of_length_le (by rw [bL_len]; exact Nat.le_refl _)]
theorem apB_end1 (s : ByteArray) (fr : Int) (d : ByteArray) (h1 : d.size ≤ 4096) : (apB s fr d).extract ((apB s fr d).size - d.size) (apB s fr d).size = d := by
  apply bL_ext
  rw [apB_last s fr d d.size (by omega) (Nat.le_refl _) h1, Nat.sub_self, List.drop_zero]
theorem apB_end2 (s : ByteArray) (fr : Int) (d : ByteArray) (h0 : d.size ≤ 65535) (h1 : 4096 < d.size) : (apB s fr d).extract ((apB s fr d).size - 4096) (apB s fr d).size = d.extract (d.size - 4096) d.size := by
  apply bL_ext
  rw [apB_last s fr d 4096 h0 (by omega) (Nat.le_refl _), bL_extract, List.take_of_length_le (by rw [bL_len]; exact Nat.le_refl _)]
end Go.Proofs.Ytfljhbaigdfkoaa
