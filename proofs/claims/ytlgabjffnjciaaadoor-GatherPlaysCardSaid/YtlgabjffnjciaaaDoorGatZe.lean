/- gather: clones and own copies whose blocks may be written -/
import Derived.Test.YtlgabjffnjciaaaDoorGatZd
namespace Go.Proofs.YtlgabjffnjciaaaDoor
set_option linter.unusedSimpArgs false
set_option linter.unusedVariables false
open Go.RowKit Go.Sort
/-- A block of cells that is not frozen. -/
def Unf (w : World) (g : Nat) : Prop := ∃ t cs, BlkAt w g t cs
theorem Unf.fz {w : World} {g : Nat} (h : Unf w g) (j : Nat) : w.frozen? ⟨g, j, none⟩ = false := by
  obtain ⟨t, cs, h⟩ := h
  exact h.fz j
theorem Unf.lt {w : World} {g : Nat} (h : Unf w g) : g < w.heap.size := by
  obtain ⟨t, cs, h⟩ := h
  exact h.lt
theorem Unf.below {w w' : World} {g : Nat} (h : Unf w g) (hb : Below w.heap.size w w') : Unf w' g := by
  obtain ⟨t, cs, h⟩ := h
  exact ⟨t, cs, h.below hb h.lt⟩
theorem Unf.kp {w w' : World} {g b : Nat} (h : Unf w g) (hk : Kp b w w') (hne : g ≠ b) : Unf w' g := by
  obtain ⟨t, cs, h⟩ := h
  exact ⟨t, cs, hk.blk h hne⟩
theorem own_unf {w : World} {B : Nat} {e : TypeId} {sz g off n c : Nat} {xs : List Value} (h : w.ownsRow B e sz (.slice (some ⟨g, off, none⟩) n c) n xs) : Unf w g := by
  obtain ⟨_, h2⟩ := h
  rcases h2 with ⟨h2, _⟩ | ⟨k, cap, cur, h3, _, hg, _⟩
  · injection h2 with h2; cases h2
  · injection h3 with h3; injection h3 with h3; injection h3 with h3
    subst h3
    exact ⟨_, _, hg⟩
set_option maxHeartbeats 800000 in
theorem clone_anyF (a : Option Addr) (n c : Nat) (l : List Nat) (w : World) (h : RdU w a n c l) (hn : n * 4 ≤ 140737488355328) :
    Calls Tryd.prog 58 #[.slice a n c] w fun e w' => ∃ a' c', e = .returned (.slice a' n c') ∧ RdU w' a' n c' l ∧ (∀ g off, a' = some ⟨g, off, none⟩ → w.heap.size ≤ g ∧ Unf w' g) ∧ Below w.heap.size w w' := by
  have he := fun W => Lib.run_eql_slice_nil (P := Tryd.prog) W 39 61 a n c 0 0 Tryd.underlying39
  cases a with
  | none =>
    obtain ⟨rfl, rfl⟩ := h.1.2.2.2 rfl
    obtain rfl := List.eq_nil_of_length_eq_zero h.len
    go_enter Tryd.func58, Tryd.ntmps58
    go_wp2
    go_ret
    exact ⟨none, 0, rfl, Rd.mk_nil _ _, (fun g off h => by cases h), Below.refl _ _⟩
  | some ad =>
    have ho := World.ownsRow_made (base := w.heap.size) (e := 61) (size := 1) w #[] 0 (Nat.le_refl _) (Nat.zero_le _) rfl
    have hb : Below w.heap.size w (w.alloc (.cells #[] 61)) := (Below.refl _ _).alloc (Nat.le_refl _) _
    have hr2 := Rd.below h hb (Nat.le_refl _)
    have h1 : ∀ u ∈ u32s l, u.oneCell' = true := by intro u hu; obtain ⟨x, _, rfl⟩ := List.mem_map.1 hu; rfl
    go_enter Tryd.func58, Tryd.ntmps58
    go_wp2_with (at_builtin; refine wpList_append_rd Tryd.u32E rfl (.tmp 5) (.tmp 6) rfl ho rfl hr2 rfl h1 (by unfold maxLen; omega) (by omega) (by simp) ?_; intro v' w' hown' hg'; obtain ⟨a', c', rfl, hr'⟩ := Rd.own hown')
    go_ret
    refine ⟨a', c', rfl, (by rw [Nat.zero_add] at hr'; exact hr'), fun g off h => ?_, hb.grown hg' (by simp) (fun g hg => (ho.lt g hg).1)⟩
    subst h
    exact ⟨(hown'.lt g rfl).1, own_unf hown'⟩
set_option maxHeartbeats 800000 in
theorem own_anyF (x : Xc) (w : World) (hx : RdU w x.pa x.pn x.pc x.v.cnt) (hn : x.pn * 4 ≤ 140737488355328) :
    Calls Tryd.prog 43 #[.agg (xcA x)] w fun e w' => ∃ a c, e = .returned (.agg (xcA ⟨x.v, a, x.pn, c⟩)) ∧ RdU w' a x.pn c x.v.cnt ∧ (∀ g off, a = some ⟨g, off, none⟩ → w.heap.size ≤ g ∧ Unf w' g) ∧ Below w.heap.size w w' := by
  have hA : BlkAt ((w.alloc (.cells (xcA x) 43)).alloc (.cells #[.int .i64 0, .int .u64 0, .int .i64 0, .slice none 0 0, .int .u64 0, .int .i64 0] 43)) w.heap.size 43 (xcA x) := BlkAt.alloc (BlkAt.new w _ _) _
  have hB : BlkAt ((w.alloc (.cells (xcA x) 43)).alloc (.cells #[.int .i64 0, .int .u64 0, .int .i64 0, .slice none 0 0, .int .u64 0, .int .i64 0] 43)) (w.heap.size + 1) 43 #[.int .i64 0, .int .u64 0, .int .i64 0, .slice none 0 0, .int .u64 0, .int .i64 0] := by simpa using BlkAt.new (w.alloc (.cells (xcA x) 43)) 43 #[.int .i64 0, .int .u64 0, .int .i64 0, .slice none 0 0, .int .u64 0, .int .i64 0]
  have hb1 : Below w.heap.size w ((w.alloc (.cells (xcA x) 43)).alloc (.cells #[.int .i64 0, .int .u64 0, .int .i64 0, .slice none 0 0, .int .u64 0, .int .i64 0] 43)) := ((Below.refl _ _).alloc (Nat.le_refl _) _).alloc (by simp) _
  go_enter Tryd.func43, Tryd.ntmps43
  go_wp2_with (first
    | (refine wpList_blk_box rfl (.tmp 0) rfl rfl w.heap.size rfl ?_)
    | (refine wpList_blk_alloc rfl rfl Tryd.exZ (w.heap.size + 1) (by simp) ?_; generalize (World.alloc (World.alloc w _) _) = w1 at *; obtain ⟨x0, x1, x2, x3, x4, x5⟩ := blk6 hA))
  refine (clone_anyF x.pa x.pn x.pc x.v.cnt w1 (hx.below hb1) hn).mono ?_
  rintro e w2 ⟨a', c', rfl, hr2, hnew, hb2⟩
  have hA2 := hA.below hb2 hA.lt
  have hB2 := hB.below hb2 hB.lt
  clear x0 x1 x2 x3 x4 x5
  obtain ⟨x0, x1, x2, x3, x4, x5⟩ := blk6 hA2
  have f3 := hA2.fz 3
  have hA3 : BlkAt (w2.setCell ⟨w.heap.size, 3, none⟩ (.slice a' x.pn c')) w.heap.size 43 (xcA ⟨x.v, a', x.pn, c'⟩) := BlkAt.set hA2 3 (.slice a' x.pn c')
  have hB3 : BlkAt (w2.setCell ⟨w.heap.size, 3, none⟩ (.slice a' x.pn c')) (w.heap.size + 1) 43 #[.int .i64 0, .int .u64 0, .int .i64 0, .slice none 0 0, .int .u64 0, .int .i64 0] := BlkAt.other hB2 (a := ⟨w.heap.size, 3, none⟩) (by simp) _
  have hb3 := Lib.hid (Kp.below (hb1.trans (hb2.mono hb1.size)) ((Kp.refl w.heap.size w2).setCell ⟨w.heap.size, 3, none⟩ rfl (.slice a' x.pn c')) (Nat.le_refl _) (Nat.le_trans hb1.size hb2.size))
  have hw1 := hb1.size
  have hlB := hB.lt
  have hr3 := Lib.hid (show RdU (w2.setCell ⟨w.heap.size, 3, none⟩ (.slice a' x.pn c')) a' x.pn c' x.v.cnt from Kp.rd ((Kp.refl w.heap.size w2).setCell ⟨w.heap.size, 3, none⟩ rfl _) hr2 (fun g off e => by have := (hnew g off e).1; omega))
  have hU3 := Lib.hid (fun g off (e : a' = some ⟨g, off, none⟩) => (hnew g off e).2.kp ((Kp.refl w.heap.size w2).setCell ⟨w.heap.size, 3, none⟩ rfl (.slice a' x.pn c')) (by have := (hnew g off e).1; omega))
  replace hnew := Lib.hid hnew
  clear hr2
  go_upto_region 2 with (fail)
  clear x0 x1 x2 x3 x4 x5 f3 hA2 hB2
  generalize w2.setCell ⟨w.heap.size, 3, none⟩ (.slice a' x.pn c') = w3 at *
  go_wp2_with (first
    | (refine wpList_blk_load rfl (.tmp 1) rfl Tryd.underlying43 rfl rfl hA3 (Tryd.exI _) ?_)
    | (refine wpList_blk_store (cs := xcA ⟨x.v, a', x.pn, c'⟩) rfl (.tmp 2) (.tmp 7) rfl rfl rfl hB3 (Tryd.exI _) rfl (xcA_one _) ?_; intro w4 hB4 hK4 hsz4))
  refine bodyPost_ret (results_cell_row rfl _ _ (w.heap.size + 1) 43 _ (0, 0) _ rfl hB4 Tryd.underlying43 rfl (Tryd.exI _)) rfl ⟨a', c', rfl, ?_, ?_, ?_⟩
  · exact Kp.rd hK4 hr3.out (fun g off e => by have := (hnew.out g off e).1; omega)
  · intro g off e
    obtain ⟨h1, h2⟩ := hnew.out g off e
    exact ⟨by omega, (hU3.out g off e).kp hK4 (by omega)⟩
  · exact Kp.below hb3.out hK4 (by omega) hb3.out.size
end Go.Proofs.YtlgabjffnjciaaaDoor
