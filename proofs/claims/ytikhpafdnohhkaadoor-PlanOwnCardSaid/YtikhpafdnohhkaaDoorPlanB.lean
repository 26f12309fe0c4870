/- plan: Whole, Companions, Clone -/
import Derived.Test.YtikhpafdnohhkaaDoorPlanA
namespace Go.Proofs.YtikhpafdnohhkaaDoor
set_option linter.unusedSimpArgs false
set_option linter.unusedVariables false
open Go.RowKit

/-- A plan in its block. -/
def PlAt (w : World) (b : Nat) (l : List Xc) : Prop := ∃ a n c, w.cell? ⟨b, 0, none⟩ = some (.slice a n c) ∧ b < w.heap.size ∧ RdX w a n c l
theorem PlAt.below {w w' : World} {b : Nat} {l : List Xc} (h : PlAt w b l) (hb : Below w.heap.size w w') : PlAt w' b l := by
  obtain ⟨a, n, c, h1, h2, h3⟩ := h
  exact ⟨a, n, c, (hb.cell (p := ⟨b, 0, none⟩) h2).trans h1, Nat.lt_of_lt_of_le h2 hb.size, h3.below hb⟩
def vX (l : List Xc) : List Xv := l.map (·.v)
theorem vX_len (l : List Xc) : (vX l).length = l.length := by simp [vX]
theorem vX_take (l : List Xc) (k : Nat) : vX (l.take k) = (vX l).take k := by simp [vX, List.map_take]
def wholeF (l : List Xv) (q : Int) : Nat := l.foldl (fun n x => max n (atL x.cnt q)) 0
def wholeV (l : List Xv) (q : Int) : Nat := if 0 ≤ q ∧ q < 64 then wholeF l q else 0
theorem wholeF_step (l : List Xc) (q : Int) {k : Nat} (hk : k < l.length) : wholeF (vX (l.take (k + 1))) q = max (wholeF (vX (l.take k)) q) (atL l[k].v.cnt q) := by
  rw [List.take_succ_eq_append_getElem hk, wholeF, wholeF, vX, vX, List.map_append, List.foldl_append]; rfl
def maskV (l : List Xv) : Nat := withN 0 (l.map (·.who))
theorem maskV_lt (l : List Xv) : maskV l < 18446744073709551616 := withN_lt _ (by decide)
theorem maskV_step (l : List Xc) {k : Nat} (hk : k < l.length) : maskV (vX (l.take (k + 1))) = withN (maskV (vX (l.take k))) [l[k].v.who] := by
  rw [List.take_succ_eq_append_getElem hk, maskV, maskV, vX, vX, List.map_append, List.map_append]
  simp only [withN, List.foldl_append, List.map_cons, List.map_nil]
/-- Set.With of one. -/
theorem with1 (x : Nat) (p : Int) (b : Nat) (w : World) (hx : x < 18446744073709551616) (hb : b < w.heap.size) (hc : w.cell? ⟨b, 0, none⟩ = some (.int .i64 p)) :
    Calls Tryd.prog 33 #[.int .u64 x, .slice (some ⟨b, 0, none⟩) 1 1] w fun e w' => e = .returned (.int .u64 (withN x [p])) ∧ w = w' :=
  with_any x 1 1 (some ⟨b, 0, none⟩) [p] w hx (by decide) ⟨⟨rfl, Nat.le_refl _, by decide, (fun h => by cases h)⟩, .inr ⟨b, 0, rfl, hb, fun j u hu => by
    have hj : j = 0 := by
      have := (List.getElem?_eq_some_iff.1 hu).1
      simp at this
      exact this
    subst hj
    simp at hu
    subst hu
    exact hc⟩⟩
theorem with1a (x : Nat) (p : Int) (b : Nat) (w : World) (hx : x < 18446744073709551616) (hb : b = w.heap.size) :
    Calls Tryd.prog 33 #[.int .u64 x, .slice (some ⟨b, 0, none⟩) 1 1] (w.alloc (.cells #[.int .i64 p] 3)) fun e w' => e = .returned (.int .u64 (withN x [p])) ∧ w.alloc (.cells #[.int .i64 p] 3) = w' := by
  subst hb
  have h := BlkAt.new w 3 #[Value.int .i64 p]
  exact with1 x p _ _ hx h.lt (h.cell rfl)
set_option maxHeartbeats 1600000 in
set_option maxRecDepth 100000 in
theorem whole_any (b : Nat) (l : List Xc) (q : Int) (w : World) (h : PlAt w b l) :
    Calls Tryd.prog 16 #[.pointer (some ⟨b, 0, none⟩), .int .i64 q] w fun e w' => e = .returned (.int .u32 (wholeV (vX l) q)) ∧ Below w.heap.size w w' := by
  by_cases hq0 : q < 0
  · have hz := Lib.hid (show wholeV (vX l) q = 0 from if_neg (by omega))
    go_enter Tryd.func16, Tryd.ntmps16
    go_wp2
    go_ret
    exact ⟨by rw [hz.out]; rfl, Below.refl _ _⟩
  by_cases hq1 : 64 ≤ q
  · have hz := Lib.hid (show wholeV (vX l) q = 0 from if_neg (by omega))
    go_enter Tryd.func16, Tryd.ntmps16
    go_wp2
    go_ret
    exact ⟨by rw [hz.out]; rfl, Below.refl _ _⟩
  have hz := Lib.hid (show wholeV (vX l) q = wholeF (vX l) q from if_pos (by omega))
  obtain ⟨a, n, c, hc, hlt, hr⟩ := h
  have hmx := hr.le_max
  have hl := Lib.hid hr.len
  go_enter Tryd.func16, Tryd.ntmps16
  go_wp2
  go_loopw [5, 7, 19] (fun s _ i wr => ∃ (k m : Nat), k ≤ n ∧ i = .int .i64 k ∧ s = .int .u32 m ∧ Hid (m = wholeF (vX (l.take k)) q) ∧ Below w.heap.size w wr) (fun _ _ i _ => n - (intOf i).toNat)
  case atStart => exact ⟨0, 0, Nat.zero_le _, rfl, rfl, rfl, Below.refl _ _⟩
  case round =>
    obtain ⟨k, m, hk, rfl, rfl, hm, hbr⟩ := hrel
    by_cases hkn : k < n
    · have hkl : k < l.length := by rw [hl.out]; exact hkn
      obtain ⟨g, off, rfl, hg, ⟨c0, c1, c2, c3, c4, c5⟩, hin⟩ := (hr.below hbr).at hkl
      have hst := Lib.hid (wholeF_step l q hkl)
      generalize l[k] = x at *
      have hkI : (k : Int) < n := by omega
      go_wp2_with (first
        | (refine wpList_blk_alloc rfl rfl Tryd.exZ wr.heap.size rfl ?_)
        | (refine wpList_blk_store (cs := xcA x) rfl (.tmp 7) (.tmp 22) rfl rfl rfl (BlkAt.new wr _ _) (Tryd.exI x) rfl (xcA_one x) ?_; intro w4 hX hK4 hsz4; obtain ⟨x0, x1, x2, x3, x4, x5⟩ := blk6 hX))
      have hb4 := alloc_store hK4
      have hin4 := hin.below hb4
      generalize hy : atL x.v.cnt q = y at *
      replace hy := Lib.hid hy
      by_cases hmy : m < y
      · go_wp2_with fail
        refine (at_any _ _ _ _ q _ hin4).mono ?_
        rintro e w5 ⟨rfl, rfl⟩
        rw [hy.out]
        go_wp2
        go_roundw
        case rel => exact ⟨k + 1, y, by omega, by go_num, rfl, (Lib.hid (Lib.hid (by rw [hst.out, ← hm.out]; omega))), belS hbr hb4⟩
        case measure => simp [intOf]; omega
      · go_wp2_with fail
        refine (at_any _ _ _ _ q _ hin4).mono ?_
        rintro e w5 ⟨rfl, rfl⟩
        rw [hy.out]
        go_wp2
        go_roundw
        case rel => exact ⟨k + 1, m, by omega, by go_num, rfl, (Lib.hid (by rw [hst.out, ← hm.out]; omega)), belS hbr hb4⟩
        case measure => simp [intOf]; omega
    · obtain rfl : k = n := by omega
      go_wp2
      go_ret
      refine ⟨?_, hbr⟩
      rw [hz.out, hm.out, List.take_of_length_le (by rw [hl.out]; exact Nat.le_refl _)]
      rfl
set_option maxHeartbeats 1600000 in
set_option maxRecDepth 100000 in
theorem comps_any (b : Nat) (l : List Xc) (w : World) (h : PlAt w b l) :
    Calls Tryd.prog 14 #[.pointer (some ⟨b, 0, none⟩)] w fun e w' => e = .returned (.int .u64 (maskV (vX l))) ∧ Below w.heap.size w w' := by
  obtain ⟨a, n, c, hc, hlt, hr⟩ := h
  have hmx := hr.le_max
  have hl := Lib.hid hr.len
  go_enter Tryd.func14, Tryd.ntmps14
  go_wp2
  go_loopw [3, 5, 11] (fun s _ i wr => ∃ (k m : Nat), k ≤ n ∧ i = .int .i64 k ∧ s = .int .u64 m ∧ Hid (m = maskV (vX (l.take k))) ∧ Below w.heap.size w wr) (fun _ _ i _ => n - (intOf i).toNat)
  case atStart => exact ⟨0, 0, Nat.zero_le _, rfl, rfl, rfl, Below.refl _ _⟩
  case round =>
    obtain ⟨k, m, hk, rfl, rfl, hm, hbr⟩ := hrel
    by_cases hkn : k < n
    · have hkl : k < l.length := by rw [hl.out]; exact hkn
      obtain ⟨g, off, rfl, hg, ⟨c0, c1, c2, c3, c4, c5⟩, hin⟩ := (hr.below hbr).at hkl
      have hst := Lib.hid (maskV_step l hkl)
      have hml : m < 18446744073709551616 := by rw [hm.out]; exact maskV_lt _
      generalize l[k] = x at *
      have hkI : (k : Int) < n := by omega
      go_wp2_with (first
        | (refine wpList_blk_alloc rfl rfl Tryd.exZ wr.heap.size rfl ?_)
        | (refine wpList_blk_store (cs := xcA x) rfl (.tmp 5) (.tmp 14) rfl rfl rfl (BlkAt.new wr _ _) (Tryd.exI x) rfl (xcA_one x) ?_; intro w4 hX hK4 hsz4; obtain ⟨x0, x1, x2, x3, x4, x5⟩ := blk6 hX))
      have hb4 := alloc_store hK4
      go_wp2_with fail
      refine (with1a m x.v.who (wr.heap.size + 1) w4 hml (by rw [hsz4]; simp)).mono ?_
      rintro e w5 ⟨rfl, rfl⟩
      go_wp2
      go_roundw
      case rel => exact ⟨k + 1, _, by omega, by go_num, rfl, (Lib.hid (by rw [hst.out, ← hm.out])), (belS hbr hb4).alloc (belS hbr hb4).size _⟩
      case measure => simp [intOf]; omega
    · obtain rfl : k = n := by omega
      go_wp2
      go_ret
      refine ⟨?_, hbr⟩
      rw [hm.out, List.take_of_length_le (by rw [hl.out]; exact Nat.le_refl _)]
      rfl
set_option maxHeartbeats 400000 in
theorem clone_any (a : Option Addr) (n c : Nat) (l : List Nat) (w : World) (h : RdU w a n c l) (hn : n * 4 ≤ 140737488355328) :
    Calls Tryd.prog 34 #[.slice a n c] w fun e w' => ∃ a' c', e = .returned (.slice a' n c') ∧ RdU w' a' n c' l ∧ (∀ g off, a' = some ⟨g, off, none⟩ → w.heap.size ≤ g) ∧ Below w.heap.size w w' := by
  have he := fun W => Lib.run_eql_slice_nil (P := Tryd.prog) W 23 35 a n c 0 0 Tryd.underlying23
  cases a with
  | none =>
    obtain ⟨rfl, rfl⟩ := h.1.2.2.2 rfl
    obtain rfl := List.eq_nil_of_length_eq_zero h.len
    go_enter Tryd.func34, Tryd.ntmps34
    go_wp2
    go_ret
    exact ⟨none, 0, rfl, Rd.mk_nil _ _, (fun g off h => by cases h), Below.refl _ _⟩
  | some ad =>
    have ho := World.ownsRow_made (base := w.heap.size) (e := 35) (size := 1) w #[] 0 (Nat.le_refl _) (Nat.zero_le _) rfl
    have hb : Below w.heap.size w (w.alloc (.cells #[] 35)) := (Below.refl _ _).alloc (Nat.le_refl _) _
    have hr2 := Rd.below h hb (Nat.le_refl _)
    have h1 : ∀ u ∈ u32s l, u.oneCell' = true := by intro u hu; obtain ⟨x, _, rfl⟩ := List.mem_map.1 hu; rfl
    go_enter Tryd.func34, Tryd.ntmps34
    go_wp2_with (at_builtin; refine wpList_append_rd Tryd.u32E rfl (.tmp 5) (.tmp 6) rfl ho rfl hr2 rfl h1 (by unfold maxLen; omega) (by omega) (by simp) ?_; intro v' w' hown' hg'; obtain ⟨a', c', rfl, hr'⟩ := Rd.own hown')
    go_ret
    refine ⟨a', c', rfl, (by rw [Nat.zero_add] at hr'; exact hr'), fun g off h => ?_, hb.grown hg' (by simp) (fun g hg => (ho.lt g hg).1)⟩
    subst h
    exact (hown'.lt g rfl).1
end Go.Proofs.YtikhpafdnohhkaaDoor
