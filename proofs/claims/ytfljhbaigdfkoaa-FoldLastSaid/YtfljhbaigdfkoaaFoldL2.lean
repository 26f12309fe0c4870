/- the walk of FoldLast -/
import Derived.Test.YtfljhbaigdfkoaaFoldM
import Derived.StillTailTactics
import Derived.Deep.QuietTactic
import Derived.BigQuiet
namespace Go.Proofs.Ytfljhbaigdfkoaa
open Go.RowKit

set_option maxHeartbeats 1600000 in
set_option maxRecDepth 100000 in
theorem last_main (s : ByteArray) (fr : Int) (d : ByteArray) (T : ByteArray) (w : World) (hs : s.size ≤ 20000) (hd : d.size ≤ 60000) (hT : Hid (T = apB s fr d)) (hT1 : T.size ≤ 4096)
   (hend : (d.size ≤ 4096 ∧ d.size ≤ T.size ∧ Hid (T.extract (T.size - d.size) T.size = d)) ∨ (4096 < d.size ∧ 4096 ≤ T.size ∧ Hid (T.extract (T.size - 4096) T.size = d.extract (d.size - 4096) d.size)))
   (hbig : (s.size + d.size + 3 ≤ 4096 ∧ Hid (T.size = s.size + d.size + 3 ∧ T.extract 0 s.size = s)) ∨ (4096 < s.size + d.size + 3 ∧ Hid (T.size = 4096))) :
    Calls Try.prog 4 #[.string s, .agg #[.int .i64 fr, .string d]] w fun e w' => e = .returned (.bool true) ∧ Below w.heap.size w w' := by
  go_enter Try.func4, Try.ntmps4
  go_wp2_with fail
  refine (awake_any _).mono ?_
  rintro e w1 ⟨rfl, hb1⟩
  have hz1 : w.heap.size < w1.heap.size := by have := hb1.size; simp at this; omega
  have hx0 : w1.cell? ⟨w.heap.size, 0, none⟩ = some (.int .i64 fr) := by rw [hb1.cell (p := ⟨w.heap.size, 0, none⟩) (by simp), World.cell?_alloc_at _ _ _ _ rfl]; rfl
  have hx1 : w1.cell? ⟨w.heap.size, 1, none⟩ = some (.string d) := by rw [hb1.cell (p := ⟨w.heap.size, 1, none⟩) (by simp), World.cell?_alloc_at _ _ _ _ rfl]; rfl
  have hbel1 : Below w.heap.size w w1 := ((Below.refl _ _).alloc (Nat.le_refl _) _).trans (hb1.mono (by simp))
  clear hb1
  go_wp2_with fail
  refine (apply_any s fr d _ (by omega) (by omega)).mono ?_
  rintro e w2 ⟨rfl, hb2⟩
  rw [← hT.out]
  have hx3 : w2.cell? ⟨w.heap.size, 1, none⟩ = some (.string d) := by rw [hb2.cell (p := ⟨w.heap.size, 1, none⟩) hz1]; exact hx1
  have hbel2 := belS hbel1 hb2
  clear hb2 hx0 hx1 hz1 hbel1
  have q1 : decide ((4096 : Int) < (T.size : Int)) = false := by simp; omega
  rcases hend with ⟨e1, e2, e3⟩ | ⟨e1, e2, e3⟩
  · have q2 : decide (T.size < d.size) = false := by simp; omega
    have q3 : (d.size : Int) ≤ (T.size : Int) := by omega
    have q5 : (!(T.extract (T.size - d.size) T.size).toList == d.toList) = false := by rw [e3.out]; simp
    go_wp2
    go_quiet (fail)
    rcases hbig with ⟨b1, b2⟩ | ⟨b1, b2⟩
    all_goals go_wp2
    all_goals go_ret
    all_goals first
      | (exfalso; have := b2.out.1; omega)
      | exact ⟨ret_bool (by rw [b2.out.2]; simp), belN hbel2 _⟩
      | exact ⟨ret_bool (by rw [b2.out]; simp), belN hbel2 _⟩
  · have q2 : decide ((T.size : Int) < 4096) = false := by simp; omega
    have q3 : (4096 : Int) ≤ (T.size : Int) := by omega
    have q4 : (4096 : Int) < (d.size : Int) := by omega
    have q5 : (!(T.extract (T.size - 4096) T.size).toList == (d.extract (d.size - 4096) d.size).toList) = false := by rw [e3.out]; simp
    have q6 : (!T.toList == (d.extract (d.size - 4096) d.size).toList) = false := by
      have := e3.out
      rw [show T.size - 4096 = 0 from by omega, extract_all] at this
      rw [this]; simp
    go_wp2
    go_quiet (fail)
    rcases hbig with ⟨b1, b2⟩ | ⟨b1, b2⟩
    · omega
    go_wp2
    go_ret
    exact ⟨ret_bool (by rw [b2.out]; simp), belN hbel2 _⟩

set_option maxHeartbeats 800000 in
theorem last_out (s : ByteArray) (fr : Int) (d : ByteArray) (w : World) (h : 20000 < s.size ∨ 60000 < d.size) (hd : d.size ≤ 9223372036854775807) :
    Calls Try.prog 4 #[.string s, .agg #[.int .i64 fr, .string d]] w fun e w' => e = .returned (.bool true) ∧ Below w.heap.size w w' := by
  go_enter Try.func4, Try.ntmps4
  go_wp2_with fail
  refine (awake_any _).mono ?_
  rintro e w1 ⟨rfl, hb1⟩
  have hx1 : w1.cell? ⟨w.heap.size, 1, none⟩ = some (.string d) := by rw [hb1.cell (p := ⟨w.heap.size, 1, none⟩) (by simp), World.cell?_alloc_at _ _ _ _ rfl]; rfl
  have hbel1 : Below w.heap.size w w1 := ((Below.refl _ _).alloc (Nat.le_refl _) _).trans (hb1.mono (by simp))
  clear hb1
  by_cases h1 : 20000 < s.size
  · clear h
    go_wp2
    go_ret
    exact ⟨rfl, hbel1⟩
  · have h2 : 60000 < d.size := by omega
    clear h
    go_wp2
    go_ret
    exact ⟨rfl, hbel1⟩

theorem last_law (s : ByteArray) (fr : Int) (d : ByteArray) (w : World) (_ : s.size ≤ maxLen) (_ : (Lit.int .i64 fr).wf = true) (hd : d.size ≤ maxLen) :
    Calls Try.prog 4 #[.string s, .agg #[.int .i64 fr, .string d]] w fun e w' => e = .returned (.bool true) ∧ Below w.heap.size w w' := by
  by_cases h : 20000 < s.size ∨ 60000 < d.size
  · exact last_out s fr d w h hd
  · have hz := apB_size' s fr d (by omega)
    refine last_main s fr d (apB s fr d) w (by omega) (by omega) rfl (by omega) ?_ ?_
    · by_cases h1 : d.size ≤ 4096
      · exact .inl ⟨h1, by omega, apB_end1 s fr d h1⟩
      · exact .inr ⟨by omega, by omega, apB_end2 s fr d (by omega) (by omega)⟩
    · by_cases h1 : s.size + d.size + 3 ≤ 4096
      · exact .inl ⟨h1, ⟨by omega, apB_first s fr d h1⟩⟩
      · exact .inr ⟨by omega, show (apB s fr d).size = 4096 by omega⟩
end Go.Proofs.Ytfljhbaigdfkoaa
