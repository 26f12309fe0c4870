/- plan: key.Compare, key.Last, Boundary -/
import Derived.Test.YtlgabjffnjciaaaDoorPlanB
namespace Go.Proofs.YtlgabjffnjciaaaDoor
set_option linter.unusedSimpArgs false
set_option linter.unusedVariables false
open Go.RowKit

def cmpI (a b : Int) : Int := if a < b then -1 else if b < a then 1 else 0
def keyC (a b c d : Int) : Int := if cmpI a c = 0 then cmpI b d else cmpI a c
def kLt (a b : Int × Int) : Bool := decide (a.1 < b.1) || (decide (a.1 = b.1) && decide (a.2 < b.2))
theorem keyC_pos (x b : Int × Int) : 0 < keyC x.1 x.2 b.1 b.2 ↔ kLt b x = true := by
  unfold keyC cmpI kLt
  by_cases h1 : x.1 < b.1
  · rw [if_pos h1, if_neg (by omega)]
    simp; omega
  · rw [if_neg h1]
    by_cases h2 : b.1 < x.1
    · rw [if_pos h2, if_neg (by omega)]; simp [h2]
    · rw [if_neg h2, if_pos rfl]
      have e : b.1 = x.1 := by omega
      by_cases h3 : x.2 < b.2
      · rw [if_pos h3]; simp [e]; omega
      · rw [if_neg h3]
        by_cases h4 : b.2 < x.2
        · rw [if_pos h4]; simp [e, h4]
        · rw [if_neg h4]; simp [e, h4]
def bndK : List (Int × Int) → Int × Int
  | [] => (0, 0)
  | k :: l => l.foldl (fun b x => if kLt b x then x else b) k
theorem bndK_snoc {l : List (Int × Int)} (x : Int × Int) : bndK (l ++ [x]) = if l.length = 0 ∨ kLt (bndK l) x = true then x else bndK l := by
  cases l with
  | nil => simp [bndK]
  | cons y l =>
    rw [List.cons_append, bndK, List.foldl_append]
    simp [bndK]
def bndV (l : List Xv) : Int × Int := bndK (l.map fun x => (x.ls, x.lf))
theorem nanU_any (a : Int) (w : World) : Calls Tryd.prog 62 #[.int .u64 a] w fun e w' => e = .returned (.bool false) ∧ w = w' := by
  go_enter Tryd.func62, Tryd.ntmps62
  go_wp2
  go_ret
  exact ⟨rfl, rfl⟩
theorem nanI_any (a : Int) (w : World) : Calls Tryd.prog 63 #[.int .i64 a] w fun e w' => e = .returned (.bool false) ∧ w = w' := by
  go_enter Tryd.func63, Tryd.ntmps63
  go_wp2
  go_ret
  exact ⟨rfl, rfl⟩
theorem cmpU_any (a b : Int) (w : World) : Calls Tryd.prog 56 #[.int .u64 a, .int .u64 b] w fun e w' => e = .returned (.int .i64 (cmpI a b)) ∧ w = w' := by
  by_cases h1 : a < b
  · have hz := Lib.hid (show cmpI a b = -1 from if_pos h1)
    go_enter Tryd.func56, Tryd.ntmps56
    go_wp2
    go_ret
    exact ⟨by rw [hz.out]; rfl, rfl⟩
  by_cases h2 : b < a
  · have hz := Lib.hid (show cmpI a b = 1 from by rw [cmpI, if_neg h1, if_pos h2])
    go_enter Tryd.func56, Tryd.ntmps56
    go_wp2
    go_ret
    exact ⟨by rw [hz.out]; rfl, rfl⟩
  · have hz := Lib.hid (show cmpI a b = 0 from by rw [cmpI, if_neg h1, if_neg h2])
    go_enter Tryd.func56, Tryd.ntmps56
    go_wp2
    go_ret
    exact ⟨by rw [hz.out]; rfl, rfl⟩
theorem cmpI_any (a b : Int) (w : World) : Calls Tryd.prog 57 #[.int .i64 a, .int .i64 b] w fun e w' => e = .returned (.int .i64 (cmpI a b)) ∧ w = w' := by
  by_cases h1 : a < b
  · have hz := Lib.hid (show cmpI a b = -1 from if_pos h1)
    go_enter Tryd.func57, Tryd.ntmps57
    go_wp2
    go_ret
    exact ⟨by rw [hz.out]; rfl, rfl⟩
  by_cases h2 : b < a
  · have hz := Lib.hid (show cmpI a b = 1 from by rw [cmpI, if_neg h1, if_pos h2])
    go_enter Tryd.func57, Tryd.ntmps57
    go_wp2
    go_ret
    exact ⟨by rw [hz.out]; rfl, rfl⟩
  · have hz := Lib.hid (show cmpI a b = 0 from by rw [cmpI, if_neg h1, if_neg h2])
    go_enter Tryd.func57, Tryd.ntmps57
    go_wp2
    go_ret
    exact ⟨by rw [hz.out]; rfl, rfl⟩
set_option maxHeartbeats 800000 in
theorem or_any (x y z : Int) (hz : z = if x = 0 then y else x) (b : Nat) (w : World) (h0 : w.cell? ⟨b, 0, none⟩ = some (.int .i64 x)) (h1 : w.cell? ⟨b, 0 + 1, none⟩ = some (.int .i64 y)) :
    Calls Tryd.prog 55 #[.slice (some ⟨b, 0, none⟩) 2 2] w fun e w' => e = .returned (.int .i64 z) ∧ w = w' := by
  by_cases hx : x = 0
  · rw [if_pos hx] at hz
    subst hz hx
    by_cases hy : z = 0
    · subst hy
      go_enter Tryd.func55, Tryd.ntmps55
      go_wp2
      refine wp_loop_rounds 3 ?_
      rw [rounds_succ]
      go_wp2
      rw [rounds_succ]
      go_wp2
      rw [rounds_succ]
      go_wp2
      go_ret
      exact ⟨rfl, rfl⟩
    · have hyB : (z != 0) = true := by simpa using hy
      go_enter Tryd.func55, Tryd.ntmps55
      go_wp2
      refine wp_loop_rounds 3 ?_
      rw [rounds_succ]
      go_wp2
      rw [rounds_succ]
      go_wp2
      go_ret
      exact ⟨rfl, rfl⟩
  · have hxB : (x != 0) = true := by simpa using hx
    rw [if_neg hx] at hz
    subst hz
    go_enter Tryd.func55, Tryd.ntmps55
    go_wp2
    refine wp_loop_rounds 3 ?_
    rw [rounds_succ]
    go_wp2
    go_ret
    exact ⟨rfl, rfl⟩
end Go.Proofs.YtlgabjffnjciaaaDoor
