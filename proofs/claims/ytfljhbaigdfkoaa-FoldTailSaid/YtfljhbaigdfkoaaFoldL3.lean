/- the walk of FoldTail -/
import Derived.Test.YtfljhbaigdfkoaaFoldM
import Derived.StillTailTactics
import Derived.Deep.QuietTactic
import Derived.BigQuiet
namespace Go.Proofs.Ytfljhbaigdfkoaa
open Go.RowKit

/-- t is an end of s. -/
def Suf (t s : ByteArray) : Prop := ∃ k, bL t = (bL s).drop k
theorem suf_size {s t : ByteArray} (h : Suf t s) : t.size ≤ s.size := by
  obtain ⟨k, hk⟩ := h
  have := congrArg List.length hk
  rw [List.length_drop, bL_len, bL_len] at this; omega
theorem suf_ext {s t : ByteArray} (h : Suf t s) : s.extract (s.size - t.size) s.size = t := by
  have hz := suf_size h
  obtain ⟨k, hk⟩ := h
  have hl := congrArg List.length hk
  rw [List.length_drop, bL_len, bL_len] at hl
  apply bL_ext
  rw [bL_extract, List.take_of_length_le (by rw [bL_len]; exact Nat.le_refl _), hk]
  by_cases h0 : t.size = 0
  · rw [h0, Nat.sub_zero, List.drop_of_length_le (by rw [bL_len]; exact Nat.le_refl _), List.drop_of_length_le (by rw [bL_len]; omega)]
  · exact drop_eq (by omega)
theorem suf_eq {s t : ByteArray} (h : Suf t s) (hz : s.size ≤ t.size) : s = t := by
  have := suf_ext h
  rw [Nat.sub_eq_zero_of_le hz, extract_all] at this
  exact this
theorem suf_apB {s t : ByteArray} (h : Suf t s) (fr : Int) (d : ByteArray) : Suf (apB t fr d) (apB s fr d) := by
  have hz := suf_size h
  have he := suf_ext h
  have hk : bL t = (bL s).drop (s.size - t.size) := by
    conv => lhs; rw [← he]
    rw [bL_extract, List.take_of_length_le (by rw [bL_len]; exact Nat.le_refl _)]
  refine ⟨(s.size - t.size) + ((t ++ entB fr d).size - 4096) - ((s ++ entB fr d).size - 4096), ?_⟩
  rw [apB, apB, tlB_list, tlB_list, bL_append, bL_append, List.drop_drop, hk]
  rw [show (bL s).drop (s.size - t.size) ++ bL (entB fr d) = (bL s ++ bL (entB fr d)).drop (s.size - t.size) from by
    rw [List.drop_append_of_le_length (by rw [bL_len]; omega)], List.drop_drop]
  simp only [ByteArray.size_append]
  exact drop_eq (by omega)
theorem suf_allB (l : List (Int × ByteArray)) : ∀ {s t : ByteArray}, Suf t s → Suf (allB t l) (allB s l) := by
  induction l with
  | nil => intro s t h; exact h
  | cons x l ih => intro s t h; rw [allB_cons, allB_cons]; exact ih (suf_apB h _ _)
theorem suf_add (a b : ByteArray) : Suf b (a ++ b) := ⟨a.size, by rw [bL_append, List.drop_append_of_le_length (by rw [bL_len]; exact Nat.le_refl _), List.drop_of_length_le (by rw [bL_len]; exact Nat.le_refl _), List.nil_append]⟩
theorem tail_eq (a b : ByteArray) (l : List (Int × ByteArray)) (h : l ≠ []) (hb : 4096 ≤ b.size) : allB (a ++ b) l = allB b l := by
  cases l with
  | nil => exact absurd rfl h
  | cons x l =>
    rw [allB_cons, allB_cons]
    rw [suf_eq (suf_apB (suf_add a b) x.1 x.2) (by rw [apB, apB, tlB_size, tlB_size, ByteArray.size_append, ByteArray.size_append, ByteArray.size_append]; omega)]

set_option maxHeartbeats 1600000 in
set_option maxRecDepth 100000 in
theorem tail_main (x y : ByteArray) (a : Option Addr) (n c : Nat) (l : List (Int × ByteArray)) (w : World) (hx : x.size ≤ 10000) (hy : y.size ≤ 10000) (hr : Rd w 2 a n c (stC l)) (hn : 1 ≤ n) (hn3 : n ≤ 300) (hf : Hid (fewB l = true)) (hd : Hid (∀ x ∈ l, x.2.size ≤ 100000))
    (hz : Hid (∀ x ∈ l, x.2.size ≤ 9223372036854775807)) (hne : Hid (l ≠ [])) :
    Calls Try.prog 5 #[.string x, .string y, .slice a n c] w fun e w' => e = .returned (.bool true) ∧ Below w.heap.size w w' := by
  have hn0 : ((n : Int) == 0) = false := by simp; omega
  have hS : Suf (allB y l) (allB (x ++ y) l) := suf_allB l (suf_add x y)
  have hz1 := suf_size hS
  have hz2 := allB_size (x ++ y) l (by rw [ByteArray.size_append]; omega)
  have he := Lib.hid (suf_ext hS)
  have hT := Lib.hid fun h => tail_eq x y l hne.out h
  clear hS
  go_enter Try.func5, Try.ntmps5
  go_wp2_with fail
  refine (awake_any _).mono ?_
  rintro e w1 ⟨rfl, hb1⟩
  go_wp2_with fail
  refine (few_any a n c l _ (by omega) (hr.below hb1 (Nat.le_refl _)) hz.out).mono ?_
  rintro e w2 ⟨rfl, rfl⟩
  rw [hf.out]
  go_wp2_with fail
  refine (all_any (x ++ y) a n c l _ (by rw [ByteArray.size_append]; omega) (by omega) (hr.below hb1 (Nat.le_refl _)) (fun x hx => by have := hd.out x hx; omega)).mono ?_
  rintro e w2 ⟨rfl, hb⟩
  have hb2 := belS hb1 hb
  clear hb hb1
  go_wp2_with fail
  refine (all_any _ a n c l _ (by omega) (by omega) (hr.below hb2 (Nat.le_refl _)) (fun x hx => by have := hd.out x hx; omega)).mono ?_
  rintro e w3 ⟨rfl, hb⟩
  have hb3 := belS hb2 hb
  clear hb hb2
  have q1 : ((allB y l).size : Int) ≤ (allB (x ++ y) l).size := by omega
  by_cases hy4 : 4096 ≤ y.size
  · go_wp2
    go_ret
    refine ⟨ret_bool ?_, hb3⟩
    rw [hT.out hy4]; simp
  · go_wp2
    go_ret
    refine ⟨ret_bool ?_, hb3⟩
    rw [he.out]; simp

set_option maxHeartbeats 800000 in
theorem tail_out (x y : ByteArray) (a : Option Addr) (n c : Nat) (w : World) (h : 10000 < x.size ∨ 10000 < y.size) :
    Calls Try.prog 5 #[.string x, .string y, .slice a n c] w fun e w' => e = .returned (.bool true) ∧ Below w.heap.size w w' := by
  go_enter Try.func5, Try.ntmps5
  go_wp2_with fail
  refine (awake_any _).mono ?_
  rintro e w1 ⟨rfl, hb1⟩
  by_cases h1 : 10000 < x.size
  · clear h
    go_wp2
    go_ret
    exact ⟨rfl, hb1⟩
  · have h2 : 10000 < y.size := by omega
    clear h
    go_wp2
    go_ret
    exact ⟨rfl, hb1⟩
set_option maxHeartbeats 800000 in
theorem tail_few (x y : ByteArray) (a : Option Addr) (n c : Nat) (l : List (Int × ByteArray)) (w : World) (hx : x.size ≤ 10000) (hy : y.size ≤ 10000) (hr : Rd w 2 a n c (stC l)) (hn : n ≤ 9223372036854775807)
    (hz : Hid (∀ x ∈ l, x.2.size ≤ 9223372036854775807)) (hf : Hid (fewB l = false) ∨ n = 0) :
    Calls Try.prog 5 #[.string x, .string y, .slice a n c] w fun e w' => e = .returned (.bool true) ∧ Below w.heap.size w w' := by
  go_enter Try.func5, Try.ntmps5
  go_wp2_with fail
  refine (awake_any _).mono ?_
  rintro e w1 ⟨rfl, hb1⟩
  go_wp2_with fail
  refine (few_any a n c l _ (by omega) (hr.below hb1 (Nat.le_refl _)) hz.out).mono ?_
  rintro e w2 ⟨rfl, rfl⟩
  rcases hf with hf | rfl
  · rw [hf.out]
    go_wp2
    go_ret
    exact ⟨rfl, hb1⟩
  · go_wp2
    all_goals go_ret
    all_goals exact ⟨rfl, hb1⟩

theorem tail_law (x y : ByteArray) (a : Option Addr) (n c : Nat) (w : World) (_ : x.size ≤ maxLen) (_ : y.size ≤ maxLen) (h : ∃ l, RSl RSt 2 w a n c l) :
    Calls Try.prog 5 #[.string x, .string y, .slice a n c] w fun e w' => e = .returned (.bool true) ∧ Below w.heap.size w w' := by
  obtain ⟨l, hl⟩ := h
  have hr := rst_cells hl
  have hz : ∀ x ∈ l, x.2.size ≤ 9223372036854775807 := fun x h => (rst_facts hl x h).2
  have hm := hr.le_max
  unfold maxLen at hm
  by_cases ho : 10000 < x.size ∨ 10000 < y.size
  · exact tail_out x y a n c w ho
  cases hf : fewB l with
  | false => exact tail_few x y a n c l w (by omega) (by omega) hr hm hz (.inl hf)
  | true =>
    by_cases h0 : n = 0
    · exact tail_few x y a n c l w (by omega) (by omega) hr hm hz (.inr h0)
    · obtain ⟨h1, h2⟩ := fewGo_mem l 0 0 hf
      have hll := hr.stLen
      exact tail_main x y a n c l w (by omega) (by omega) hr (by omega) (by omega) hf (fun x h => by have := h1 x h; omega) hz (fun e => by subst e; simp at hll; omega)
end Go.Proofs.Ytfljhbaigdfkoaa
