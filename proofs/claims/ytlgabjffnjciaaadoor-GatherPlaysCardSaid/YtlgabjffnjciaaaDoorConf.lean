/- key.Confs (the text of key.Compare's walk) -/
import Derived.Test.YtlgabjffnjciaaaDoorPlanE
namespace Go.Proofs.YtlgabjffnjciaaaDoor
set_option linter.unusedSimpArgs false
set_option linter.unusedVariables false
open Go.RowKit
set_option maxHeartbeats 1600000 in
set_option maxRecDepth 100000 in
theorem confs_any (a b c d : Int) (w : World) :
    Calls Tryd.prog 41 #[.agg #[.int .u64 a, .int .i64 b], .agg #[.int .u64 c, .int .i64 d]] w fun e w' => e = .returned (.int .i64 (keyC a b c d)) ∧ Below w.heap.size w w' := by
  have hA : BlkAt ((w.alloc (.cells #[.int .u64 a, .int .i64 b] 24)).alloc (.cells #[.int .u64 c, .int .i64 d] 24)) w.heap.size 24 #[.int .u64 a, .int .i64 b] := BlkAt.alloc (BlkAt.new w _ _) _
  have hB : BlkAt ((w.alloc (.cells #[.int .u64 a, .int .i64 b] 24)).alloc (.cells #[.int .u64 c, .int .i64 d] 24)) (w.heap.size + 1) 24 #[.int .u64 c, .int .i64 d] := by simpa using BlkAt.new (w.alloc (.cells #[.int .u64 a, .int .i64 b] 24)) 24 #[.int .u64 c, .int .i64 d]
  have hb2 : Below w.heap.size w ((w.alloc (.cells #[.int .u64 a, .int .i64 b] 24)).alloc (.cells #[.int .u64 c, .int .i64 d] 24)) := ((Below.refl _ _).alloc (Nat.le_refl _) _).alloc (by simp) _
  go_enter Tryd.func41, Tryd.ntmps41
  go_wp2
  generalize (w.alloc (.cells #[.int .u64 a, .int .i64 b] 24)).alloc (.cells #[.int .u64 c, .int .i64 d] 24) = w1 at *
  have HS := Lib.hid (fun W (hb : Below w1.heap.size w1 W) => show W.cell? ⟨w.heap.size, 0, none⟩ = some (.int .u64 a) ∧ W.cell? ⟨w.heap.size, 1, none⟩ = some (.int .i64 b) ∧ W.cell? ⟨w.heap.size + 1, 0, none⟩ = some (.int .u64 c) ∧ W.cell? ⟨w.heap.size + 1, 1, none⟩ = some (.int .i64 d) from
    ⟨(hA.below hb hA.lt).cell rfl, (hA.below hb hA.lt).cell rfl, (hB.below hb hB.lt).cell rfl, (hB.below hb hB.lt).cell rfl⟩)
  have hbD : Hid (Below w1.heap.size w1 w1.drew) := Lib.hid (Below.refl _ _).drew
  clear hA hB
  replace hb2 := Lib.hid hb2
  refine wp_region_held_drew (S := fun W => W.cell? ⟨w.heap.size, 0, none⟩ = some (.int .u64 a) ∧ W.cell? ⟨w.heap.size, 1, none⟩ = some (.int .i64 b) ∧ W.cell? ⟨w.heap.size + 1, 0, none⟩ = some (.int .u64 c) ∧ W.cell? ⟨w.heap.size + 1, 1, none⟩ = some (.int .i64 d)) (by kernel_rfl) (HS.out _ hbD.out) ?_
  intro hHeld
  (refine wpAnyH_take (i := 0) (v := ?_) rfl (by kernel_rfl) (by kernel_rfl) (by kernel_rfl) (fun _ _ _ h => h) (Or.inl ⟨by rfl, ?_⟩) (by assumption) ?_; rotate_left; (focus (intro w hSw; obtain ⟨s1, s2, s3, s4⟩ := hSw; go_simp; (try with_reducible rfl))); (try simp only [Act.put, List.getElem_toArray, List.getElem_cons_zero, List.getElem_cons_succ, List.setIfInBounds_toArray, List.set_cons_zero, List.set_cons_succ]))
  (refine wpAnyH_take (i := 1) (v := ?_) rfl (by kernel_rfl) (by kernel_rfl) (by kernel_rfl) (fun _ _ _ h => h) (Or.inl ⟨by rfl, ?_⟩) (by assumption) ?_; rotate_left; (focus (intro w hSw; obtain ⟨s1, s2, s3, s4⟩ := hSw; go_simp; (try with_reducible rfl))); (try simp only [Act.put, List.getElem_toArray, List.getElem_cons_zero, List.getElem_cons_succ, List.setIfInBounds_toArray, List.set_cons_zero, List.set_cons_succ]))
  (refine wpAnyH_take (i := 2) (v := ?_) rfl (by kernel_rfl) (by kernel_rfl) (by kernel_rfl) (fun _ _ _ h => h) (Or.inl ⟨by rfl, ?_⟩) (by assumption) ?_; rotate_left; (focus (intro w hSw; obtain ⟨s1, s2, s3, s4⟩ := hSw; go_simp; (try with_reducible rfl))); (try simp only [Act.put, List.getElem_toArray, List.getElem_cons_zero, List.getElem_cons_succ, List.setIfInBounds_toArray, List.set_cons_zero, List.set_cons_succ]))
  (refine wpAnyH_take (i := 3) (v := ?_) rfl (by kernel_rfl) (by kernel_rfl) (by kernel_rfl) (fun _ _ _ h => h) (Or.inl ⟨by rfl, ?_⟩) (by assumption) ?_; rotate_left; (focus (intro w hSw; obtain ⟨s1, s2, s3, s4⟩ := hSw; go_simp; (try with_reducible rfl))); (try simp only [Act.put, List.getElem_toArray, List.getElem_cons_zero, List.getElem_cons_succ, List.setIfInBounds_toArray, List.set_cons_zero, List.set_cons_succ]))
  (refine wpAnyH_take (i := 5) (v := ?_) rfl (by kernel_rfl) (by kernel_rfl) (by kernel_rfl) (fun _ _ _ h => h) (Or.inl ⟨by rfl, ?_⟩) (by assumption) ?_; rotate_left; (focus (intro w hSw; obtain ⟨s1, s2, s3, s4⟩ := hSw; go_simp; (try with_reducible rfl))); (try simp only [Act.put, List.getElem_toArray, List.getElem_cons_zero, List.getElem_cons_succ, List.setIfInBounds_toArray, List.set_cons_zero, List.set_cons_succ]))
  (refine wpAnyH_take (i := 6) (v := ?_) rfl (by kernel_rfl) (by kernel_rfl) (by kernel_rfl) (fun _ _ _ h => h) (Or.inl ⟨by rfl, ?_⟩) (by assumption) ?_; rotate_left; (focus (intro w hSw; obtain ⟨s1, s2, s3, s4⟩ := hSw; go_simp; (try with_reducible rfl))); (try simp only [Act.put, List.getElem_toArray, List.getElem_cons_zero, List.getElem_cons_succ, List.setIfInBounds_toArray, List.set_cons_zero, List.set_cons_succ]))
  (refine wpAnyH_take (i := 7) (v := ?_) rfl (by kernel_rfl) (by kernel_rfl) (by kernel_rfl) (fun _ _ _ h => h) (Or.inl ⟨by rfl, ?_⟩) (by assumption) ?_; rotate_left; (focus (intro w hSw; obtain ⟨s1, s2, s3, s4⟩ := hSw; go_simp; (try with_reducible rfl))); (try simp only [Act.put, List.getElem_toArray, List.getElem_cons_zero, List.getElem_cons_succ, List.setIfInBounds_toArray, List.set_cons_zero, List.set_cons_succ]))
  (refine wpAnyH_take (i := 8) (v := ?_) rfl (by kernel_rfl) (by kernel_rfl) (by kernel_rfl) (fun _ _ _ h => h) (Or.inl ⟨by rfl, ?_⟩) (by assumption) ?_; rotate_left; (focus (intro w hSw; obtain ⟨s1, s2, s3, s4⟩ := hSw; go_simp; (try with_reducible rfl))); (try simp only [Act.put, List.getElem_toArray, List.getElem_cons_zero, List.getElem_cons_succ, List.setIfInBounds_toArray, List.set_cons_zero, List.set_cons_succ]))
  (refine wpAnyH_ready (rs := [4]) (by kernel_rfl) (by simp) ?_; refine AllReadyH.cons rfl (fun K hK => ?_) AllReadyH.nil)
  go_simp
  refine (cmpU_any a c _).mono ?_
  rintro e w2 ⟨rfl, rfl⟩
  refine hK.out _ _ (HS.out _ hbD.out) (fun hHeld2 => ?_)
  clear hK K hHeld
  (refine wpAnyH_ready (rs := [9]) (by kernel_rfl) (by simp) ?_; refine AllReadyH.cons rfl (fun K hK => ?_) AllReadyH.nil)
  go_simp
  refine (cmpI_any b d _).mono ?_
  rintro e w2 ⟨rfl, rfl⟩
  refine hK.out _ _ (HS.out _ hbD.out) (fun hHeld3 => ?_)
  clear hK K hHeld2
  (refine wpAnyH_ready (rs := [10]) (by kernel_rfl) (by simp) ?_; refine AllReadyH.cons rfl (fun K hK => ?_) AllReadyH.nil)
  go_simp
  have hbL := Lib.hid (alloc_below w1.drew (.cells #[.int .i64 (cmpI a c), .int .i64 (cmpI b d)] 3))
  have hBL := BlkAt.new w1.drew 3 #[.int .i64 (cmpI a c), .int .i64 (cmpI b d)]
  have l0 := hBL.cell (i := 0) rfl
  have l1 := hBL.cell (i := 0 + 1) rfl
  have hb3 := Lib.hid (belS hbD.out hbL.out)
  refine hK.out _ _ (HS.out _ hb3.out) (fun hHeld4 => ?_)
  clear hK K hHeld3 hBL
  (refine wpAnyH_ready (rs := [11]) (by kernel_rfl) (by simp) ?_; refine AllReadyH.cons rfl (fun K hK => ?_) AllReadyH.nil)
  go_simp
  refine (or_any _ _ (keyC a b c d) (by rw [keyC]) _ _ l0 l1).mono ?_
  rintro e w2 ⟨rfl, rfl⟩
  refine hK.out _ _ (HS.out _ hb3.out) (fun hHeld5 => ?_)
  clear hK K hHeld4
  (refine wpAnyH_take (i := 12) (v := ?_) rfl (by kernel_rfl) (by kernel_rfl) (by kernel_rfl) (fun _ _ _ h => h) (Or.inl ⟨by rfl, ?_⟩) (by assumption) ?_; rotate_left; (focus (intro w hSw; obtain ⟨s1, s2, s3, s4⟩ := hSw; go_simp; (try with_reducible rfl))); (try simp only [Act.put, List.getElem_toArray, List.getElem_cons_zero, List.getElem_cons_succ, List.setIfInBounds_toArray, List.set_cons_zero, List.set_cons_succ]))
  refine wpAnyH_done (by kernel_rfl) ?_ _
  clear l0 l1
  go_wp2
  go_ret
  exact ⟨rfl, belS hb2.out hb3.out⟩
end Go.Proofs.YtlgabjffnjciaaaDoor
