/- filter: maps.Clone, Copy; several filters at once -/
import Derived.Test.YteeeikkapnchlaaDoorFilI
import Derived.Shelf.SlMaps.Clone
namespace Go.Proofs.YteeeikkapnchlaaDoor
set_option linter.unusedSimpArgs false
set_option linter.unusedVariables false
open Go.RowKit Go.Sort Go.Shelf Go.MapKept
set_option maxRecDepth 100000 in
theorem clone_map (b : Nat) (l : List (Int × Value)) (w : World) (h : MapAt w b l) :
    Calls Tryd.prog 40 #[.map (some b)] w fun e w' => e = .returned (.map (some w.heap.size)) ∧ MapAt w' w.heap.size l ∧ Below w.heap.size w w' := by
  obtain ⟨es, clock, hb, hs, hm⟩ := h
  have hq := fun w => run_eql_map_nil_sl (P := Tryd.prog) w 68 _ _ (some b) Tryd.underlying68
  go_enter Tryd.func40, Tryd.ntmps40
  go_wp2
  rw [run_callFunc_extern Tryd.func51 (by kernel_rfl) (by kernel_rfl) (by kernel_rfl) (e := Extern.MapsClone.clone) (by kernel_rfl), run_maps_clone_sl w 68 hb]
  simp only [Result.andThen]
  rw [Oper.upon_value]
  go_wp2
  rw [run_typeAssert_map_sl _ 68 20 _ _ _ Tryd.underlying68]
  simp only [Result.andThen]
  rw [Oper.upon_value]
  go_wp2
  go_ret
  exact ⟨rfl, ⟨es, clock, (MapKept.heap_alloc w _).1, hs, hm⟩, (Below.refl _ w).alloc (Nat.le_refl _) _⟩
set_option maxRecDepth 100000 in
theorem clone_nilmap (w : World) :
    Calls Tryd.prog 40 #[.map none] w fun e w' => e = .returned (.map none) ∧ w = w' := by
  have hq := fun w => run_eql_map_nil_sl (P := Tryd.prog) w 68 _ _ none Tryd.underlying68
  go_enter Tryd.func40, Tryd.ntmps40
  go_wp2
  go_ret
  exact ⟨rfl, rfl⟩
/-- A map's clone, or none of none. -/
theorem clone_opt (mb : Option Nat) (l : List (Int × Value)) (w : World) (h : ∀ m, mb = some m → MapAt w m l) :
    Calls Tryd.prog 40 #[.map mb] w fun e w' => ∃ mb', e = .returned (.map mb') ∧ (∀ m, mb' = some m → MapAt w' m l ∧ w.heap.size ≤ m) ∧ (mb' = none ↔ mb = none) ∧ Below w.heap.size w w' := by
  cases mb with
  | none => exact (clone_nilmap w).mono fun e w' ⟨h1, h2⟩ => ⟨none, h1, (fun m e => by cases e), Iff.rfl, h2 ▸ Below.refl _ _⟩
  | some m => exact (clone_map m l w (h m rfl)).mono fun e w' ⟨h1, h2, h3⟩ => ⟨some _, h1, (fun m e => by injection e with e; subst e; exact ⟨h2, Nat.le_refl _⟩), ⟨(fun e => by cases e), (fun e => by cases e)⟩, h3⟩
theorem Fw.s_eq {s s' : Fw} (h : s'.rc = s.rc ∧ s'.ce = s.ce ∧ s'.cr = s.cr ∧ s'.mem = s.mem ∧ s'.live = s.live ∧ s'.formed = s.formed ∧ s'.told = s.told ∧ s'.tb = s.tb ∧ s'.tv = s.tv ∧ s'.agr = s.agr) : s'.s = s.s := by
  obtain ⟨h1, h2, h3, h4, h5, h6, h7, h8, h9, h10⟩ := h
  unfold Fw.s
  rw [h1, h2, h3, h4, h5, h6, h7, h8, h9, h10]
set_option maxHeartbeats 3200000 in
set_option maxRecDepth 100000 in
theorem copy_any {F : Nat → Prop} (s : Fw) (b : Nat) (w : World) (hF : ∀ g, F g → g < w.heap.size) (h : FAt F w b s) :
    Calls Tryd.prog 21 #[.pointer (some ⟨b, 0, none⟩)] w fun e w' => ∃ (c : Nat) (s' : Fw), e = .returned (.pointer (some ⟨c, 0, none⟩)) ∧ FAt (fun g => F g ∨ OwnF c s'.mb g) w' c s' ∧ s'.s = s.s ∧ w.heap.size ≤ c ∧ (∀ m, s'.mb = some m → w.heap.size ≤ m ∧ m ≠ c) ∧ Below w.heap.size w w' := by
  have hZ := BlkAt.new w 71 (fwA (newW ⟨.zero, []⟩ none 0 0))
  have hb1 := alloc_below w (.cells (fwA (newW ⟨.zero, []⟩ none 0 0)) 71)
  have hzz : (Tryd.prog.info? 71).map (·.zero) = some (some (.agg (fwA (newW ⟨.zero, []⟩ none 0 0)))) := by kernel_rfl
  have hlt := h.blk.lt
  have hn := h.ok.rc.2
  have hln := h.len
  go_enter Tryd.func21, Tryd.ntmps21
  go_upto_region 2 with (first
    | (refine wpList_blk_load rfl (.tmp 5) rfl Tryd.underlying71 rfl rfl h.blk (Tryd.fwI s) ?_)
    | (refine wpList_blk_alloc rfl rfl hzz w.heap.size rfl ?_)
    | (refine wpList_blk_store (cs := fwA s) rfl (.tmp 3) (.tmp 6) rfl rfl rfl hZ (Tryd.fwI s) rfl (fwA_one s) ?_; intro w4 hC4 hK4 hsz4))
  have hb4 := alloc_store hK4
  have h4 := h.below hb4
  have hlc := hC4.lt
  have hSt : Hid (∀ W, (Below w.heap.size w W) → W.rangeAt b 0 [.int .u64 s.rc.last.num, .int .u64 s.rc.last.ce, .int .i64 s.rc.last.cr, .int .u64 s.rc.last.mem, .slice s.ra s.rn s.rk] ∧ W.cell? ⟨b, 10, none⟩ = some (.map s.mb)) := Lib.hid (fun W hb => ⟨(h.below hb).blk.range (fwA_rec s), (h.below hb).blk.cell rfl⟩)
  have hb0 := hb4.drew
  have hrL := Tryd.recL s.rc.last (.slice s.ra s.rn s.rk)
  clear hZ hb1 hK4 hsz4
  refine wp_region_held_drew (S := fun W => W.rangeAt b 0 [.int .u64 s.rc.last.num, .int .u64 s.rc.last.ce, .int .i64 s.rc.last.cr, .int .u64 s.rc.last.mem, .slice s.ra s.rn s.rk] ∧ W.cell? ⟨b, 10, none⟩ = some (.map s.mb)) (by kernel_rfl) (hSt.out _ hb0) ?_
  intro hHeld
  (refine wpAnyH_take (i := 0) (v := ?_) rfl (by kernel_rfl) (by kernel_rfl) (by kernel_rfl) (fun _ _ _ h => h) (Or.inl ⟨by rfl, ?_⟩) (by assumption) ?_; rotate_left; (focus (intro w hSw; clear hSw; go_simp; (try with_reducible rfl))); (try simp only [Act.put, List.getElem_toArray, List.getElem_cons_zero, List.getElem_cons_succ, List.setIfInBounds_toArray, List.set_cons_zero, List.set_cons_succ]))
  (refine wpAnyH_take (i := 1) (v := ?_) rfl (by kernel_rfl) (by kernel_rfl) (by kernel_rfl) (fun _ _ _ h => h) (Or.inl ⟨by rfl, ?_⟩) (by assumption) ?_; rotate_left; (focus (intro w hSw; clear hSw; go_simp; (try with_reducible rfl))); (try simp only [Act.put, List.getElem_toArray, List.getElem_cons_zero, List.getElem_cons_succ, List.setIfInBounds_toArray, List.set_cons_zero, List.set_cons_succ]))
  (refine wpAnyH_take (i := 2) (v := ?_) rfl (by kernel_rfl) (by kernel_rfl) (by kernel_rfl) (fun _ _ _ h => h) (Or.inl ⟨by rfl, ?_⟩) (by assumption) ?_; rotate_left; (focus (intro w hSw; clear hSw; go_simp; (try with_reducible rfl))); (try simp only [Act.put, List.getElem_toArray, List.getElem_cons_zero, List.getElem_cons_succ, List.setIfInBounds_toArray, List.set_cons_zero, List.set_cons_succ]))
  (refine wpAnyH_take (i := 3) (v := .agg #[.int .u64 s.rc.last.num, .int .u64 s.rc.last.ce, .int .i64 s.rc.last.cr, .int .u64 s.rc.last.mem, .slice s.ra s.rn s.rk]) rfl (by kernel_rfl) (by kernel_rfl) (by kernel_rfl) (fun _ _ _ h => h) (yieldsIf_load_mid (by rfl) 38 (.tmp 9) rfl b 0 rfl [.int .u64 s.rc.last.num, .int .u64 s.rc.last.ce, .int .i64 s.rc.last.cr, .int .u64 s.rc.last.mem, .slice s.ra s.rn s.rk] _ (fun W hW => hW.1) Tryd.underlying38 rfl hrL) (by assumption) ?_; (try simp only [Act.put, List.getElem_toArray, List.getElem_cons_zero, List.getElem_cons_succ, List.setIfInBounds_toArray, List.set_cons_zero, List.set_cons_succ]))
  (refine wpAnyH_take (i := 5) (v := ?_) rfl (by kernel_rfl) (by kernel_rfl) (by kernel_rfl) (fun _ _ _ h => h) (Or.inl ⟨by rfl, ?_⟩) (by assumption) ?_; rotate_left; (focus (intro w hSw; clear hSw; go_simp; (try with_reducible rfl))); (try simp only [Act.put, List.getElem_toArray, List.getElem_cons_zero, List.getElem_cons_succ, List.setIfInBounds_toArray, List.set_cons_zero, List.set_cons_succ]))
  (refine wpAnyH_take (i := 6) (v := ?_) rfl (by kernel_rfl) (by kernel_rfl) (by kernel_rfl) (fun _ _ _ h => h) (Or.inl ⟨by rfl, ?_⟩) (by assumption) ?_; rotate_left; (focus (intro w hSw; clear hSw; go_simp; (try with_reducible rfl))); (try simp only [Act.put, List.getElem_toArray, List.getElem_cons_zero, List.getElem_cons_succ, List.setIfInBounds_toArray, List.set_cons_zero, List.set_cons_succ]))
  (refine wpAnyH_take (i := 7) (v := ?_) rfl (by kernel_rfl) (by kernel_rfl) (by kernel_rfl) (fun _ _ _ h => h) (Or.inl ⟨by rfl, ?_⟩) (by assumption) ?_; rotate_left; (focus (intro w hSw; clear hSw; go_simp; (try with_reducible rfl))); (try simp only [Act.put, List.getElem_toArray, List.getElem_cons_zero, List.getElem_cons_succ, List.setIfInBounds_toArray, List.set_cons_zero, List.set_cons_succ]))
  (refine wpAnyH_take (i := 8) (v := ?_) rfl (by kernel_rfl) (by kernel_rfl) (by kernel_rfl) (fun _ _ _ h => h) (Or.inl ⟨by rfl, ?_⟩) (by assumption) ?_; rotate_left; (focus (intro w hSw; have hc := hSw.2; clear hSw; go_simp; (try with_reducible rfl))); (try simp only [Act.put, List.getElem_toArray, List.getElem_cons_zero, List.getElem_cons_succ, List.setIfInBounds_toArray, List.set_cons_zero, List.set_cons_succ]))
  (refine wpAnyH_ready (rs := [4]) (by kernel_rfl) (by simp) ?_; refine AllReadyH.cons rfl (fun K hK => ?_) AllReadyH.nil)
  go_simp
  refine (own_any s.rc.last s.ra s.rn s.rk s.rc.pend (Nat.le_trans (Nat.le_of_eq hln.symm) (Nat.le_trans hn (by decide))) _ (h.below hb0).rd.1).mono ?_
  rintro e w5 ⟨oa, oc, rfl, hr5, hb5, hg5⟩
  have hb05 := belS hb0 hb5
  refine hK.out _ _ (hSt.out _ hb05) (fun hHeld => ?_)
  clear hK K
  (refine wpAnyH_ready (rs := [9]) (by kernel_rfl) (by simp) ?_; refine AllReadyH.cons rfl (fun K hK => ?_) AllReadyH.nil)
  go_simp
  refine (clone_opt s.mb (tlM s.told) _ (fun m e => ((h.below hb05).map m e).1)).mono ?_
  rintro e w6 ⟨mb', rfl, hm6, hnn, hb6⟩
  have hb06 := belS hb05 hb6
  have hC6 := (hC4.drew.below hb5 hlc).below hb6 (Nat.lt_of_lt_of_le hlc hb5.size)
  refine hK.out _ _ (hSt.out _ hb06) (fun hHeld => ?_)
  clear hK K
  (refine wpAnyH_take (i := 10) (v := ?_) rfl (by kernel_rfl) (by kernel_rfl) (by kernel_rfl) (fun _ _ _ h => h) (Or.inl ⟨by rfl, ?_⟩) (by assumption) ?_; rotate_left; (focus (intro w hSw; clear hSw; go_simp; (try with_reducible rfl))); (try simp only [Act.put, List.getElem_toArray, List.getElem_cons_zero, List.getElem_cons_succ, List.setIfInBounds_toArray, List.set_cons_zero, List.set_cons_succ]))
  (refine wpAnyH_ready (rs := [11]) (by kernel_rfl) (by simp) ?_; refine AllReadyH.cons rfl (fun K hK => ?_) AllReadyH.nil)
  refine step_blk_put (cs := #[.int .u64 s.rc.last.num, .int .u64 s.rc.last.ce, .int .i64 s.rc.last.cr, .int .u64 s.rc.last.mem, .slice oa s.rn oc]) rfl (.tmp 17) (.tmp 11) rfl (b := w.heap.size) (p := 0) rfl rfl hC6 Tryd.recI (by show 0 + 5 ≤ 13; decide) (by simp [Value.oneCell']) (fun w7 hC7 hK7 hs7 => ?_)
  rw [show setArr (fwA s) 0 (#[.int .u64 s.rc.last.num, .int .u64 s.rc.last.ce, .int .i64 s.rc.last.cr, .int .u64 s.rc.last.mem, .slice oa s.rn oc] : Array Value).toList = fwA { s with ra := oa, rk := oc } from rfl] at hC7
  (try simp only [Act.put, List.getElem_toArray, List.getElem_cons_zero, List.getElem_cons_succ, List.setIfInBounds_toArray, List.set_cons_zero, List.set_cons_succ])
  have hb07 := Kp.below hb06 hK7 (Nat.le_refl _) hb06.size
  refine hK.out _ _ (hSt.out _ hb07) (fun hHeld => ?_)
  clear hK K
  (refine wpAnyH_take (i := 12) (v := ?_) rfl (by kernel_rfl) (by kernel_rfl) (by kernel_rfl) (fun _ _ _ h => h) (Or.inl ⟨by rfl, ?_⟩) (by assumption) ?_; rotate_left; (focus (intro w hSw; clear hSw; go_simp; (try with_reducible rfl))); (try simp only [Act.put, List.getElem_toArray, List.getElem_cons_zero, List.getElem_cons_succ, List.setIfInBounds_toArray, List.set_cons_zero, List.set_cons_succ]))
  have f10 := hC7.fz 10
  have c10 : w7.cell? ⟨w.heap.size, 10, none⟩ = some (.map s.mb) := hC7.cell rfl
  (refine wpAnyH_ready (rs := [13]) (by kernel_rfl) (by simp) ?_; refine AllReadyH.cons rfl (fun K hK => ?_) AllReadyH.nil)
  go_simp
  have hC8 : BlkAt (w7.setCell ⟨w.heap.size, 10, none⟩ (.map mb')) w.heap.size 71 (fwA { s with ra := oa, rk := oc, mb := mb' }) := hC7.set 10 _
  have hK8 : Kp w.heap.size w6 (w7.setCell ⟨w.heap.size, 10, none⟩ (.map mb')) := hK7.setCell ⟨w.heap.size, 10, none⟩ rfl _
  generalize w7.setCell ⟨w.heap.size, 10, none⟩ (.map mb') = w8 at *
  have hb08 := Kp.below hb06 hK8 (Nat.le_refl _) hb06.size
  refine hK.out _ _ (hSt.out _ hb08) (fun hHeld => ?_)
  clear hK K
  refine wpAnyH_done (by kernel_rfl) ?_ _
  have h8 := h.below hb08
  have h4s := hb4.size
  have h5s := hb5.size
  have hd4 : w4.drew.heap.size = w4.heap.size := rfl
  have hmm : ∀ m, mb' = some m → MapAt w8 m (tlM s.told) ∧ w.heap.size < m := fun m e => by
    obtain ⟨h1, h2⟩ := hm6 m e
    exact ⟨h1.kp hK8 (by omega), by omega⟩
  have hFin : FAt (fun g => F g ∨ OwnF w.heap.size mb' g) w8 w.heap.size { s with ra := oa, rk := oc, mb := mb' } := by
    have hmore : ∀ g, (F g ∨ OwnF w.heap.size mb' g) → F g ∨ w.heap.size ≤ g := fun g hg => by
      rcases hg with hg | hg | hg
      · exact .inl hg
      · exact .inr (Nat.le_of_eq hg.symm)
      · exact .inr (Nat.le_of_lt (hmm g hg).2)
    refine ⟨hC8, fun m e => ⟨(hmm m e).1, .inr (.inr e)⟩, fun e => h.non (hnn.1 e), ⟨hK8.rd (RdV.below hr5 hb6 (Nat.le_refl _)) (fun g off e => by have := hg5 g off e; omega), fun hn0 g off e hg => ?_⟩, fun p hp => ?_, fun t e => ?_, .inr (.inl rfl), ⟨h.ok.mem, h.ok.agr, h.ok.rc, h.ok.told, h.ok.tv⟩⟩
    · have hg5' := hg5 g off e
      obtain ⟨b', o', e', hl⟩ := Rd.addr hr5 (Nat.pos_of_ne_zero hn0)
      replace e : oa = some ⟨g, off, none⟩ := e
      rw [e] at e'; injection e' with e'; injection e' with e1
      rcases hg with hg | hg | hg
      · have := hF g hg; omega
      · omega
      · have := (hm6 g hg).2; omega
    · exact ((h.inn p hp).more hmore).below hb08
    · obtain ⟨h1, h2⟩ := h.tri t e
      exact ⟨h1.below hb08 h1.lt, fun hg => by
        rcases hmore t hg with hg | hg
        · exact h2 hg
        · have := h1.lt; omega⟩
  clear hHeld hC8 hK8 h8 hC6 hC7 hK7 hb07 f10 c10 hrL hSt h4 hC4 hb4 hb0
  go_wp2
  go_ret
  exact ⟨_, { s with ra := oa, rk := oc, mb := mb' }, rfl, hFin, rfl, Nat.le_refl _, fun m e => ⟨Nat.le_of_lt (hmm m e).2, by have := (hmm m e).2; omega⟩, hb08⟩
end Go.Proofs.YteeeikkapnchlaaDoor
