/- plan: Min, Holder, Lacks, counts -/
import Derived.Test.YtlgabjffnjciaaaDoorPlanF
import Derived.Deep.RegionHeld3
namespace Go.Proofs.YtlgabjffnjciaaaDoor
set_option linter.unusedSimpArgs false
set_option linter.unusedVariables false
open Go.RowKit
def minI (x : Nat) : Int := if x = 0 then -1 else (Lib.ctz 64 x : Nat)
set_option maxHeartbeats 800000 in
theorem min_any (x : Nat) (hx : x < 18446744073709551616) (w : World) (hT : Tab w) : Calls Tryd.prog 37 #[.int .u64 x] w fun e w' => e = .returned (.int .i64 (minI x)) ∧ w = w' := by
  by_cases h0 : x = 0
  · have hz := Lib.hid (show minI x = -1 from if_pos h0)
    subst h0
    go_enter Tryd.func37, Tryd.ntmps37
    go_wp2
    go_ret
    exact ⟨by rw [hz.out]; rfl, rfl⟩
  · have hz := Lib.hid (show minI x = (Lib.ctz 64 x : Nat) from if_neg h0)
    have HT := Lib.hid (tz_any x hx h0 w hT)
    have hB : ((x : Int) == 0) = false := by simpa using h0
    clear h0
    generalize minI x = z at *
    go_enter Tryd.func37, Tryd.ntmps37
    go_wp2_with fail
    refine HT.out.mono ?_
    rintro e w' ⟨rfl, rfl⟩
    rw [← hz.out]
    go_wp2
    go_ret
    exact ⟨rfl, rfl⟩
def holdM (n : Nat) (q : Int) (l : List Xv) : Nat := maskV (l.filter fun x => decide (0 < n) && decide (atL x.cnt q = n))
def holdV (l : List Xv) (q : Int) : Int := minI (holdM (wholeV l q) q l)
theorem holdM_lt (n : Nat) (q : Int) (l : List Xv) : holdM n q l < 18446744073709551616 := maskV_lt _
theorem holdM_step (n : Nat) (q : Int) (l : List Xc) {k : Nat} (hk : k < l.length) : holdM n q (vX (l.take (k + 1))) = if 0 < n ∧ atL l[k].v.cnt q = n then withN (holdM n q (vX (l.take k))) [l[k].v.who] else holdM n q (vX (l.take k)) := by
  rw [List.take_succ_eq_append_getElem hk, vX, vX, List.map_append, holdM, holdM, List.filter_append]
  by_cases h : 0 < n ∧ atL l[k].v.cnt q = n
  · rw [if_pos h, List.map_cons, List.filter_cons_of_pos (by simp [h.1, h.2])]
    simp only [maskV, List.map_append, withN, List.foldl_append, List.map_cons, List.map_nil, List.filter_nil]
  · rw [if_neg h, List.map_cons, List.filter_cons_of_neg (by simp only [Bool.and_eq_true, decide_eq_true_eq]; exact h)]
    simp
theorem wholeV_lt {l : List Xv} (h : ∀ x ∈ l, ∀ y ∈ x.cnt, y < 4294967296) (q : Int) : wholeV l q < 4294967296 := by
  have hat : ∀ c : List Nat, (∀ y ∈ c, y < 4294967296) → atL c q < 4294967296 := fun c hc => by
    unfold atL
    split
    · omega
    · rw [List.getD_eq_getElem?_getD]
      cases he : c[q.toNat]? with
      | none => simp
      | some y => exact hc y (List.mem_of_getElem? he)
  unfold wholeV wholeF
  split
  · suffices H : ∀ (l : List Xv) (m : Nat), m < 4294967296 → (∀ x ∈ l, ∀ y ∈ x.cnt, y < 4294967296) → l.foldl (fun n x => max n (atL x.cnt q)) m < 4294967296 from H l 0 (by decide) h
    intro l
    induction l with
    | nil => intro m hm _; exact hm
    | cons x l ih =>
      intro m hm hl
      rw [List.foldl_cons]
      refine ih _ ?_ (fun y hy => hl y (by simp [hy]))
      have := hat x.cnt (hl x (by simp))
      omega
  · decide
/-- What lacks. -/
structure Gp where
  whom : Int
  holder : Int
  fr : Nat
  to : Nat
def gpC (x : Gp) : List Value := [.int .i64 x.whom, .int .i64 x.holder, .int .u32 x.fr, .int .u32 x.to]
def gapsV (l : List Xv) (cnt : List Nat) : Nat → List Gp
  | 0 => []
  | k + 1 => gapsV l cnt k ++ if atL cnt k < wholeV l k then [⟨k, holdV l k, atL cnt k + 1, wholeV l k⟩] else []
theorem gapsV_len (l : List Xv) (cnt : List Nat) (k : Nat) : (gapsV l cnt k).length ≤ k := by
  induction k with
  | zero => exact Nat.le_refl _
  | succ k ih => rw [gapsV, List.length_append]; split <;> simp <;> omega
end Go.Proofs.YtlgabjffnjciaaaDoor
