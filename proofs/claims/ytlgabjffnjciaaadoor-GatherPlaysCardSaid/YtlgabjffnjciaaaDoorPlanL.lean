/- plan: Few, Few of messages -/
import Derived.Test.YtlgabjffnjciaaaDoorPlanB
import Derived.Test.YtlgabjffnjciaaaDoorSz
namespace Go.Proofs.YtlgabjffnjciaaaDoor
set_option linter.unusedSimpArgs false
set_option linter.unusedVariables false
open Go.RowKit
theorem min_ite (x N : Nat) : (if (N : Int) < (x : Int) then (N : Int) else (x : Int)) = ((min x N : Nat) : Int) ∧ ((min x N : Nat) : Int) ≤ N := by constructor <;> (try split) <;> omega
def sumF {α : Type} (f : α → Nat) (l : List α) : Nat := (l.map f).sum
theorem sumF_snoc {α : Type} (f : α → Nat) (l : List α) {k : Nat} (hk : k < l.length) : sumF f (l.take (k + 1)) = sumF f (l.take k) + f l[k] := by
  rw [List.take_succ_eq_append_getElem hk, sumF, sumF, List.map_append, List.sum_append]; simp
theorem sumF_le {α : Type} (f : α → Nat) (l : List α) (k : Nat) : sumF f (l.take k) ≤ sumF f l := by
  conv => rhs; rw [← List.take_append_drop k l]
  rw [sumF, sumF, List.map_append, List.sum_append]
  exact Nat.le_add_right _ _
def fewX (l : List Xc) : Bool := decide (l.length ≤ 80 ∧ sumF (fun x => min x.pn 5000) l ≤ 5000)
def fewM (l : List Mc) : Bool := decide (l.length ≤ 300 ∧ sumF (fun x => 1 + min x.m.payload.size 20000 + min x.pn 20000) l ≤ 20000)
set_option maxHeartbeats 800000 in
set_option maxRecDepth 100000 in
theorem few_any (a : Option Addr) (n c : Nat) (l : List Xc) (t : Bool) (ht : t = fewX l) (w : World) (hr : RdX w a n c l) :
    Calls Tryd.prog 42 #[.slice a n c] w fun e w' => e = .returned (.bool t) ∧ w = w' := by
  replace ht := Lib.hid (show t = decide (l.length ≤ 80 ∧ sumF (fun x => min x.pn 5000) l ≤ 5000) from ht)
  have hmx := hr.le_max
  have hl := Lib.hid hr.len
  go_enter Tryd.func42, Tryd.ntmps42
  go_wp2
  go_loop [3, 4] (fun s i => ∃ (k m : Nat), k ≤ n ∧ k ≤ 80 ∧ i = .int .i64 k ∧ s = .int .i64 m ∧ m ≤ 5000 ∧ Hid (m = sumF (fun x => min x.pn 5000) (l.take k))) (fun _ i => n - (intOf i).toNat)
  case atStart => exact ⟨0, 0, Nat.zero_le _, by decide, rfl, rfl, by decide, rfl⟩
  case round =>
    obtain ⟨k, m, hk, hk80, rfl, rfl, hm5, hm⟩ := hrel
    by_cases hkn : k < n
    · have hkl : k < l.length := by rw [hl.out]; exact hkn
      obtain ⟨g, off, rfl, hg, ⟨c0, c1, c2, c3, c4, c5⟩, hin⟩ := hr.at hkl
      have hst := sumF_snoc (fun (x : Xc) => min x.pn 5000) l hkl
      have hle := sumF_le (fun (x : Xc) => min x.pn 5000) l (k + 1)
      rw [hst, ← hm.out] at hle
      rw [← hm.out] at hst
      have hF : Hid (m + min l[k].pn 5000 ≤ 5000 ∨ t = false) := by
        by_cases h : m + min l[k].pn 5000 ≤ 5000
        · exact .inl h
        · exact .inr (ht.out.trans (decide_eq_false (fun h2 => h (Nat.le_trans hle h2.2))))
      replace hst := Lib.hid hst
      have hF8 : Hid (80 ≤ k → t = false) := Lib.hid (fun h => ht.out.trans (decide_eq_false (fun h2 => by have := h2.1; rw [hl.out] at this; omega)))
      generalize l[k] = x at *
      obtain ⟨xv, xa, xn, xc⟩ := x
      simp only at c3 hst hF hin
      have hxn := hin.le_max
      clear hle hin c0 c1 c2 c4 c5
      have hkI : (k : Int) < n := by omega
      by_cases h80 : 80 ≤ k
      · have hz := Lib.hid (hF8.out h80)
        have h80I : (80 : Int) ≤ k := by omega
        clear hF8 hF
        go_wp2
        all_goals
          go_ret
          exact ⟨by rw [hz.out]; rfl, rfl⟩
      · have h80I : (k : Int) < 80 := by omega
        clear hF8
        have hmin : (if (5000 : Int) < (xn : Int) then (5000 : Int) else (xn : Int)) = ((min xn 5000 : Nat) : Int) := by split <;> omega
        have hwr : wrap64 ((m : Int) + ((min xn 5000 : Nat) : Int)) = ((m + min xn 5000 : Nat) : Int) := by unfold wrap64; omega
        generalize m + min xn 5000 = z at *
        generalize min xn 5000 = y at *
        clear hm5
        by_cases h5 : z ≤ 5000
        · have h5I : (z : Int) ≤ 5000 := by omega
          replace h5 := Lib.hid h5
          clear hF
          go_wp2
          go_round
          case rel => exact ⟨k + 1, z, by omega, by omega, by go_num, by go_num, h5.out, Lib.hid hst.out.symm⟩
          case measure => simp [intOf]; omega
        · have hz := Lib.hid (hF.out.resolve_left h5)
          have h5I : (5000 : Int) < z := by omega
          clear hF h5
          go_wp2
          go_ret
          exact ⟨by rw [hz.out]; rfl, rfl⟩
    · obtain rfl : k = n := by omega
      have hz := Lib.hid (show t = true from ht.out.trans (decide_eq_true ⟨by rw [hl.out]; exact hk80, by rw [List.take_of_length_le (by rw [hl.out]; exact Nat.le_refl _)] at hm; rw [← hm.out]; exact hm5⟩))
      go_wp2
      go_ret
      exact ⟨by rw [hz.out]; rfl, rfl⟩
end Go.Proofs.YtlgabjffnjciaaaDoor
