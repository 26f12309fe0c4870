/- plan: Whole, Companions, Clone -/
import Derived.Test.YtlgabjffnjciaaaDoorPlanA
namespace Go.Proofs.YtlgabjffnjciaaaDoor
set_option linter.unusedSimpArgs false
set_option linter.unusedVariables false
open Go.RowKit

/-- A plan in its block. -/
def PlAt (w : World) (b : Nat) (l : List Xc) : Prop := ∃ a n c, w.cell? ⟨b, 0, none⟩ = some (.slice a n c) ∧ b < w.heap.size ∧ RdX w a n c l
theorem PlAt.below {w w' : World} {b : Nat} {l : List Xc} (h : PlAt w b l) (hb : Below w.heap.size w w') : PlAt w' b l := by
  obtain ⟨a, n, c, h1, h2, h3⟩ := h
  exact ⟨a, n, c, (hb.cell (p := ⟨b, 0, none⟩) h2).trans h1, Nat.lt_of_lt_of_le h2 hb.size, h3.below hb⟩
def vX (l : List Xc) : List Xv := l.map (·.v)
theorem vX_len (l : List Xc) : (vX l).length = l.length := by simp [vX]
theorem vX_take (l : List Xc) (k : Nat) : vX (l.take k) = (vX l).take k := by simp [vX, List.map_take]
def wholeF (l : List Xv) (q : Int) : Nat := l.foldl (fun n x => max n (atL x.cnt q)) 0
def wholeV (l : List Xv) (q : Int) : Nat := if 0 ≤ q ∧ q < 64 then wholeF l q else 0
theorem wholeF_step (l : List Xc) (q : Int) {k : Nat} (hk : k < l.length) : wholeF (vX (l.take (k + 1))) q = max (wholeF (vX (l.take k)) q) (atL l[k].v.cnt q) := by
  rw [List.take_succ_eq_append_getElem hk, wholeF, wholeF, vX, vX, List.map_append, List.foldl_append]; rfl
def maskV (l : List Xv) : Nat := withN 0 (l.map (·.who))
theorem maskV_lt (l : List Xv) : maskV l < 18446744073709551616 := withN_lt _ (by decide)
theorem maskV_step (l : List Xc) {k : Nat} (hk : k < l.length) : maskV (vX (l.take (k + 1))) = withN (maskV (vX (l.take k))) [l[k].v.who] := by
  rw [List.take_succ_eq_append_getElem hk, maskV, maskV, vX, vX, List.map_append, List.map_append]
  simp only [withN, List.foldl_append, List.map_cons, List.map_nil]
/-- Set.With of one. -/
theorem with1 (x : Nat) (p : Int) (b : Nat) (w : World) (hx : x < 18446744073709551616) (hb : b < w.heap.size) (hc : w.cell? ⟨b, 0, none⟩ = some (.int .i64 p)) :
    Calls Tryd.prog 17 #[.int .u64 x, .slice (some ⟨b, 0, none⟩) 1 1] w fun e w' => e = .returned (.int .u64 (withN x [p])) ∧ w = w' :=
  with_any x 1 1 (some ⟨b, 0, none⟩) [p] w hx (by decide) ⟨⟨rfl, Nat.le_refl _, by decide, (fun h => by cases h)⟩, .inr ⟨b, 0, rfl, hb, fun j u hu => by
    have hj : j = 0 := by
      have := (List.getElem?_eq_some_iff.1 hu).1
      simp at this
      exact this
    subst hj
    simp at hu
    subst hu
    exact hc⟩⟩
theorem with1a (x : Nat) (p : Int) (b : Nat) (w : World) (hx : x < 18446744073709551616) (hb : b = w.heap.size) :
    Calls Tryd.prog 17 #[.int .u64 x, .slice (some ⟨b, 0, none⟩) 1 1] (w.alloc (.cells #[.int .i64 p] 3)) fun e w' => e = .returned (.int .u64 (withN x [p])) ∧ w.alloc (.cells #[.int .i64 p] 3) = w' := by
  subst hb
  have h := BlkAt.new w 3 #[Value.int .i64 p]
  exact with1 x p _ _ hx h.lt (h.cell rfl)
set_option maxHeartbeats 400000 in
theorem clone_any (a : Option Addr) (n c : Nat) (l : List Nat) (w : World) (h : RdU w a n c l) (hn : n * 4 ≤ 140737488355328) :
    Calls Tryd.prog 58 #[.slice a n c] w fun e w' => ∃ a' c', e = .returned (.slice a' n c') ∧ RdU w' a' n c' l ∧ (∀ g off, a' = some ⟨g, off, none⟩ → w.heap.size ≤ g) ∧ Below w.heap.size w w' := by
  have he := fun W => Lib.run_eql_slice_nil (P := Tryd.prog) W 39 61 a n c 0 0 Tryd.underlying39
  cases a with
  | none =>
    obtain ⟨rfl, rfl⟩ := h.1.2.2.2 rfl
    obtain rfl := List.eq_nil_of_length_eq_zero h.len
    go_enter Tryd.func58, Tryd.ntmps58
    go_wp2
    go_ret
    exact ⟨none, 0, rfl, Rd.mk_nil _ _, (fun g off h => by cases h), Below.refl _ _⟩
  | some ad =>
    have ho := World.ownsRow_made (base := w.heap.size) (e := 61) (size := 1) w #[] 0 (Nat.le_refl _) (Nat.zero_le _) rfl
    have hb : Below w.heap.size w (w.alloc (.cells #[] 61)) := (Below.refl _ _).alloc (Nat.le_refl _) _
    have hr2 := Rd.below h hb (Nat.le_refl _)
    have h1 : ∀ u ∈ u32s l, u.oneCell' = true := by intro u hu; obtain ⟨x, _, rfl⟩ := List.mem_map.1 hu; rfl
    go_enter Tryd.func58, Tryd.ntmps58
    go_wp2_with (at_builtin; refine wpList_append_rd Tryd.u32E rfl (.tmp 5) (.tmp 6) rfl ho rfl hr2 rfl h1 (by unfold maxLen; omega) (by omega) (by simp) ?_; intro v' w' hown' hg'; obtain ⟨a', c', rfl, hr'⟩ := Rd.own hown')
    go_ret
    refine ⟨a', c', rfl, (by rw [Nat.zero_add] at hr'; exact hr'), fun g off h => ?_, hb.grown hg' (by simp) (fun g hg => (ho.lt g hg).1)⟩
    subst h
    exact (hown'.lt g rfl).1
end Go.Proofs.YtlgabjffnjciaaaDoor
