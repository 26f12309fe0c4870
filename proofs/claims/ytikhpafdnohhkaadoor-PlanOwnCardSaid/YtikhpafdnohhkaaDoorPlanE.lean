/- plan: key.Compare, key.Last, Boundary -/
import Derived.Test.YtikhpafdnohhkaaDoorPlanB
namespace Go.Proofs.YtikhpafdnohhkaaDoor
set_option linter.unusedSimpArgs false
set_option linter.unusedVariables false
open Go.RowKit

def cmpI (a b : Int) : Int := if a < b then -1 else if b < a then 1 else 0
def keyC (a b c d : Int) : Int := if cmpI a c = 0 then cmpI b d else cmpI a c
def kLt (a b : Int × Int) : Bool := decide (a.1 < b.1) || (decide (a.1 = b.1) && decide (a.2 < b.2))
theorem keyC_pos (x b : Int × Int) : 0 < keyC x.1 x.2 b.1 b.2 ↔ kLt b x = true := by
  unfold keyC cmpI kLt
  by_cases h1 : x.1 < b.1
  · rw [if_pos h1, if_neg (by omega)]
    simp; omega
  · rw [if_neg h1]
    by_cases h2 : b.1 < x.1
    · rw [if_pos h2, if_neg (by omega)]; simp [h2]
    · rw [if_neg h2, if_pos rfl]
      have e : b.1 = x.1 := by omega
      by_cases h3 : x.2 < b.2
      · rw [if_pos h3]; simp [e]; omega
      · rw [if_neg h3]
        by_cases h4 : b.2 < x.2
        · rw [if_pos h4]; simp [e, h4]
        · rw [if_neg h4]; simp [e, h4]
def bndK : List (Int × Int) → Int × Int
  | [] => (0, 0)
  | k :: l => l.foldl (fun b x => if kLt b x then x else b) k
theorem bndK_snoc {l : List (Int × Int)} (x : Int × Int) : bndK (l ++ [x]) = if l.length = 0 ∨ kLt (bndK l) x = true then x else bndK l := by
  cases l with
  | nil => simp [bndK]
  | cons y l =>
    rw [List.cons_append, bndK, List.foldl_append]
    simp [bndK]
def bndV (l : List Xv) : Int × Int := bndK (l.map fun x => (x.ls, x.lf))
theorem nanU_any (a : Int) (w : World) : Calls Tryd.prog 50 #[.int .u64 a] w fun e w' => e = .returned (.bool false) ∧ w = w' := by
  go_enter Tryd.func50, Tryd.ntmps50
  go_wp2
  go_ret
  exact ⟨rfl, rfl⟩
theorem nanI_any (a : Int) (w : World) : Calls Tryd.prog 51 #[.int .i64 a] w fun e w' => e = .returned (.bool false) ∧ w = w' := by
  go_enter Tryd.func51, Tryd.ntmps51
  go_wp2
  go_ret
  exact ⟨rfl, rfl⟩
theorem cmpU_any (a b : Int) (w : World) : Calls Tryd.prog 45 #[.int .u64 a, .int .u64 b] w fun e w' => e = .returned (.int .i64 (cmpI a b)) ∧ w = w' := by
  by_cases h1 : a < b
  · have hz := Lib.hid (show cmpI a b = -1 from if_pos h1)
    go_enter Tryd.func45, Tryd.ntmps45
    go_wp2
    go_ret
    exact ⟨by rw [hz.out]; rfl, rfl⟩
  by_cases h2 : b < a
  · have hz := Lib.hid (show cmpI a b = 1 from by rw [cmpI, if_neg h1, if_pos h2])
    go_enter Tryd.func45, Tryd.ntmps45
    go_wp2
    go_ret
    exact ⟨by rw [hz.out]; rfl, rfl⟩
  · have hz := Lib.hid (show cmpI a b = 0 from by rw [cmpI, if_neg h1, if_neg h2])
    go_enter Tryd.func45, Tryd.ntmps45
    go_wp2
    go_ret
    exact ⟨by rw [hz.out]; rfl, rfl⟩
theorem cmpI_any (a b : Int) (w : World) : Calls Tryd.prog 46 #[.int .i64 a, .int .i64 b] w fun e w' => e = .returned (.int .i64 (cmpI a b)) ∧ w = w' := by
  by_cases h1 : a < b
  · have hz := Lib.hid (show cmpI a b = -1 from if_pos h1)
    go_enter Tryd.func46, Tryd.ntmps46
    go_wp2
    go_ret
    exact ⟨by rw [hz.out]; rfl, rfl⟩
  by_cases h2 : b < a
  · have hz := Lib.hid (show cmpI a b = 1 from by rw [cmpI, if_neg h1, if_pos h2])
    go_enter Tryd.func46, Tryd.ntmps46
    go_wp2
    go_ret
    exact ⟨by rw [hz.out]; rfl, rfl⟩
  · have hz := Lib.hid (show cmpI a b = 0 from by rw [cmpI, if_neg h1, if_neg h2])
    go_enter Tryd.func46, Tryd.ntmps46
    go_wp2
    go_ret
    exact ⟨by rw [hz.out]; rfl, rfl⟩
set_option maxHeartbeats 800000 in
theorem or_any (x y z : Int) (hz : z = if x = 0 then y else x) (b : Nat) (w : World) (h0 : w.cell? ⟨b, 0, none⟩ = some (.int .i64 x)) (h1 : w.cell? ⟨b, 0 + 1, none⟩ = some (.int .i64 y)) :
    Calls Tryd.prog 44 #[.slice (some ⟨b, 0, none⟩) 2 2] w fun e w' => e = .returned (.int .i64 z) ∧ w = w' := by
  by_cases hx : x = 0
  · rw [if_pos hx] at hz
    subst hz hx
    by_cases hy : z = 0
    · subst hy
      go_enter Tryd.func44, Tryd.ntmps44
      go_wp2
      refine wp_loop_rounds 3 ?_
      rw [rounds_succ]
      go_wp2
      rw [rounds_succ]
      go_wp2
      rw [rounds_succ]
      go_wp2
      go_ret
      exact ⟨rfl, rfl⟩
    · have hyB : (z != 0) = true := by simpa using hy
      go_enter Tryd.func44, Tryd.ntmps44
      go_wp2
      refine wp_loop_rounds 3 ?_
      rw [rounds_succ]
      go_wp2
      rw [rounds_succ]
      go_wp2
      go_ret
      exact ⟨rfl, rfl⟩
  · have hxB : (x != 0) = true := by simpa using hx
    rw [if_neg hx] at hz
    subst hz
    go_enter Tryd.func44, Tryd.ntmps44
    go_wp2
    refine wp_loop_rounds 3 ?_
    rw [rounds_succ]
    go_wp2
    go_ret
    exact ⟨rfl, rfl⟩
set_option maxHeartbeats 1600000 in
set_option maxRecDepth 100000 in
theorem cmp_any (a b c d : Int) (w : World) :
    Calls Tryd.prog 30 #[.agg #[.int .u64 a, .int .i64 b], .agg #[.int .u64 c, .int .i64 d]] w fun e w' => e = .returned (.int .i64 (keyC a b c d)) ∧ Below w.heap.size w w' := by
  have hA : BlkAt ((w.alloc (.cells #[.int .u64 a, .int .i64 b] 41)).alloc (.cells #[.int .u64 c, .int .i64 d] 41)) w.heap.size 41 #[.int .u64 a, .int .i64 b] := BlkAt.alloc (BlkAt.new w _ _) _
  have hB : BlkAt ((w.alloc (.cells #[.int .u64 a, .int .i64 b] 41)).alloc (.cells #[.int .u64 c, .int .i64 d] 41)) (w.heap.size + 1) 41 #[.int .u64 c, .int .i64 d] := by simpa using BlkAt.new (w.alloc (.cells #[.int .u64 a, .int .i64 b] 41)) 41 #[.int .u64 c, .int .i64 d]
  have hb2 : Below w.heap.size w ((w.alloc (.cells #[.int .u64 a, .int .i64 b] 41)).alloc (.cells #[.int .u64 c, .int .i64 d] 41)) := ((Below.refl _ _).alloc (Nat.le_refl _) _).alloc (by simp) _
  go_enter Tryd.func30, Tryd.ntmps30
  go_wp2
  generalize (w.alloc (.cells #[.int .u64 a, .int .i64 b] 41)).alloc (.cells #[.int .u64 c, .int .i64 d] 41) = w1 at *
  have HS := Lib.hid (fun W (hb : Below w1.heap.size w1 W) => show W.cell? ⟨w.heap.size, 0, none⟩ = some (.int .u64 a) ∧ W.cell? ⟨w.heap.size, 1, none⟩ = some (.int .i64 b) ∧ W.cell? ⟨w.heap.size + 1, 0, none⟩ = some (.int .u64 c) ∧ W.cell? ⟨w.heap.size + 1, 1, none⟩ = some (.int .i64 d) from
    ⟨(hA.below hb hA.lt).cell rfl, (hA.below hb hA.lt).cell rfl, (hB.below hb hB.lt).cell rfl, (hB.below hb hB.lt).cell rfl⟩)
  have hbD : Hid (Below w1.heap.size w1 w1.drew) := Lib.hid (Below.refl _ _).drew
  clear hA hB
  replace hb2 := Lib.hid hb2
  refine wp_region_held_drew (S := fun W => W.cell? ⟨w.heap.size, 0, none⟩ = some (.int .u64 a) ∧ W.cell? ⟨w.heap.size, 1, none⟩ = some (.int .i64 b) ∧ W.cell? ⟨w.heap.size + 1, 0, none⟩ = some (.int .u64 c) ∧ W.cell? ⟨w.heap.size + 1, 1, none⟩ = some (.int .i64 d)) (by kernel_rfl) (HS.out _ hbD.out) ?_
  intro hHeld
  (refine wpAnyH_take (i := 0) (v := ?_) rfl (by kernel_rfl) (by kernel_rfl) (by kernel_rfl) (fun _ _ _ h => h) (Or.inl ⟨by rfl, ?_⟩) (by assumption) ?_; rotate_left; (focus (intro w hSw; obtain ⟨s1, s2, s3, s4⟩ := hSw; go_simp; (try with_reducible rfl))); (try simp only [Act.put, List.getElem_toArray, List.getElem_cons_zero, List.getElem_cons_succ, List.setIfInBounds_toArray, List.set_cons_zero, List.set_cons_succ]))
  (refine wpAnyH_take (i := 1) (v := ?_) rfl (by kernel_rfl) (by kernel_rfl) (by kernel_rfl) (fun _ _ _ h => h) (Or.inl ⟨by rfl, ?_⟩) (by assumption) ?_; rotate_left; (focus (intro w hSw; obtain ⟨s1, s2, s3, s4⟩ := hSw; go_simp; (try with_reducible rfl))); (try simp only [Act.put, List.getElem_toArray, List.getElem_cons_zero, List.getElem_cons_succ, List.setIfInBounds_toArray, List.set_cons_zero, List.set_cons_succ]))
  (refine wpAnyH_take (i := 2) (v := ?_) rfl (by kernel_rfl) (by kernel_rfl) (by kernel_rfl) (fun _ _ _ h => h) (Or.inl ⟨by rfl, ?_⟩) (by assumption) ?_; rotate_left; (focus (intro w hSw; obtain ⟨s1, s2, s3, s4⟩ := hSw; go_simp; (try with_reducible rfl))); (try simp only [Act.put, List.getElem_toArray, List.getElem_cons_zero, List.getElem_cons_succ, List.setIfInBounds_toArray, List.set_cons_zero, List.set_cons_succ]))
  (refine wpAnyH_take (i := 3) (v := ?_) rfl (by kernel_rfl) (by kernel_rfl) (by kernel_rfl) (fun _ _ _ h => h) (Or.inl ⟨by rfl, ?_⟩) (by assumption) ?_; rotate_left; (focus (intro w hSw; obtain ⟨s1, s2, s3, s4⟩ := hSw; go_simp; (try with_reducible rfl))); (try simp only [Act.put, List.getElem_toArray, List.getElem_cons_zero, List.getElem_cons_succ, List.setIfInBounds_toArray, List.set_cons_zero, List.set_cons_succ]))
  (refine wpAnyH_take (i := 5) (v := ?_) rfl (by kernel_rfl) (by kernel_rfl) (by kernel_rfl) (fun _ _ _ h => h) (Or.inl ⟨by rfl, ?_⟩) (by assumption) ?_; rotate_left; (focus (intro w hSw; obtain ⟨s1, s2, s3, s4⟩ := hSw; go_simp; (try with_reducible rfl))); (try simp only [Act.put, List.getElem_toArray, List.getElem_cons_zero, List.getElem_cons_succ, List.setIfInBounds_toArray, List.set_cons_zero, List.set_cons_succ]))
  (refine wpAnyH_take (i := 6) (v := ?_) rfl (by kernel_rfl) (by kernel_rfl) (by kernel_rfl) (fun _ _ _ h => h) (Or.inl ⟨by rfl, ?_⟩) (by assumption) ?_; rotate_left; (focus (intro w hSw; obtain ⟨s1, s2, s3, s4⟩ := hSw; go_simp; (try with_reducible rfl))); (try simp only [Act.put, List.getElem_toArray, List.getElem_cons_zero, List.getElem_cons_succ, List.setIfInBounds_toArray, List.set_cons_zero, List.set_cons_succ]))
  (refine wpAnyH_take (i := 7) (v := ?_) rfl (by kernel_rfl) (by kernel_rfl) (by kernel_rfl) (fun _ _ _ h => h) (Or.inl ⟨by rfl, ?_⟩) (by assumption) ?_; rotate_left; (focus (intro w hSw; obtain ⟨s1, s2, s3, s4⟩ := hSw; go_simp; (try with_reducible rfl))); (try simp only [Act.put, List.getElem_toArray, List.getElem_cons_zero, List.getElem_cons_succ, List.setIfInBounds_toArray, List.set_cons_zero, List.set_cons_succ]))
  (refine wpAnyH_take (i := 8) (v := ?_) rfl (by kernel_rfl) (by kernel_rfl) (by kernel_rfl) (fun _ _ _ h => h) (Or.inl ⟨by rfl, ?_⟩) (by assumption) ?_; rotate_left; (focus (intro w hSw; obtain ⟨s1, s2, s3, s4⟩ := hSw; go_simp; (try with_reducible rfl))); (try simp only [Act.put, List.getElem_toArray, List.getElem_cons_zero, List.getElem_cons_succ, List.setIfInBounds_toArray, List.set_cons_zero, List.set_cons_succ]))
  (refine wpAnyH_ready (rs := [4]) (by kernel_rfl) (by simp) ?_; refine AllReadyH.cons rfl (fun K hK => ?_) AllReadyH.nil)
  go_simp
  refine (cmpU_any a c _).mono ?_
  rintro e w2 ⟨rfl, rfl⟩
  refine hK.out _ _ (HS.out _ hbD.out) (fun hHeld2 => ?_)
  clear hK K hHeld
  (refine wpAnyH_ready (rs := [9]) (by kernel_rfl) (by simp) ?_; refine AllReadyH.cons rfl (fun K hK => ?_) AllReadyH.nil)
  go_simp
  refine (cmpI_any b d _).mono ?_
  rintro e w2 ⟨rfl, rfl⟩
  refine hK.out _ _ (HS.out _ hbD.out) (fun hHeld3 => ?_)
  clear hK K hHeld2
  (refine wpAnyH_ready (rs := [10]) (by kernel_rfl) (by simp) ?_; refine AllReadyH.cons rfl (fun K hK => ?_) AllReadyH.nil)
  go_simp
  have hbL := Lib.hid (alloc_below w1.drew (.cells #[.int .i64 (cmpI a c), .int .i64 (cmpI b d)] 3))
  have hBL := BlkAt.new w1.drew 3 #[.int .i64 (cmpI a c), .int .i64 (cmpI b d)]
  have l0 := hBL.cell (i := 0) rfl
  have l1 := hBL.cell (i := 0 + 1) rfl
  have hb3 := Lib.hid (belS hbD.out hbL.out)
  refine hK.out _ _ (HS.out _ hb3.out) (fun hHeld4 => ?_)
  clear hK K hHeld3 hBL
  (refine wpAnyH_ready (rs := [11]) (by kernel_rfl) (by simp) ?_; refine AllReadyH.cons rfl (fun K hK => ?_) AllReadyH.nil)
  go_simp
  refine (or_any _ _ (keyC a b c d) (by rw [keyC]) _ _ l0 l1).mono ?_
  rintro e w2 ⟨rfl, rfl⟩
  refine hK.out _ _ (HS.out _ hb3.out) (fun hHeld5 => ?_)
  clear hK K hHeld4
  (refine wpAnyH_take (i := 12) (v := ?_) rfl (by kernel_rfl) (by kernel_rfl) (by kernel_rfl) (fun _ _ _ h => h) (Or.inl ⟨by rfl, ?_⟩) (by assumption) ?_; rotate_left; (focus (intro w hSw; obtain ⟨s1, s2, s3, s4⟩ := hSw; go_simp; (try with_reducible rfl))); (try simp only [Act.put, List.getElem_toArray, List.getElem_cons_zero, List.getElem_cons_succ, List.setIfInBounds_toArray, List.set_cons_zero, List.set_cons_succ]))
  refine wpAnyH_done (by kernel_rfl) ?_ _
  clear l0 l1
  go_wp2
  go_ret
  exact ⟨rfl, belS hb2.out hb3.out⟩
end Go.Proofs.YtikhpafdnohhkaaDoor
