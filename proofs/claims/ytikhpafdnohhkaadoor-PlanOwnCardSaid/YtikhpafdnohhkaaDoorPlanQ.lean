/- plan: consortref03.All, has -/
import Derived.Test.YtikhpafdnohhkaaDoorPlanP
namespace Go.Proofs.YtikhpafdnohhkaaDoor
set_option linter.unusedSimpArgs false
set_option linter.unusedVariables false
open Go.RowKit
def mX' (l : List Mc) : List Ms := l.map (·.m)
theorem RdM.range {w : World} {a : Option Addr} {n c : Nat} {l : List Mc} (h : RdM w a n c l) {k : Nat} (hk : k < l.length) : ∃ b off, a = some ⟨b, off, none⟩ ∧ b < w.heap.size ∧ w.rangeAt b (off + k * 6) (mcC l[k]) ∧ RdU w l[k].pa l[k].pn l[k].pc l[k].m.deps := by
  have hl := h.len
  obtain ⟨b, off, rfl, hlt⟩ := Rd.addr h.row (by omega)
  exact ⟨b, off, rfl, hlt, fun j v hj => row_cells mcC_len h.row hk (by have := (List.getElem?_eq_some_iff.1 hj).1; rw [mcC_len] at this; exact this) hj, h.inn _ (List.getElem_mem hk)⟩
theorem range_below {w w' : World} {b o : Nat} {vs : List Value} (h : w.rangeAt b o vs) (hb : Below w.heap.size w w') (hlt : b < w.heap.size) : w'.rangeAt b o vs := fun j v hj => (hb.cell (p := ⟨b, o + j, none⟩) hlt).trans (h j v hj)
set_option maxHeartbeats 1600000 in
set_option maxRecDepth 100000 in
theorem all_any (a : Option Addr) (n c : Nat) (l : List Mc) (a2 : Option Addr) (n2 c2 : Nat) (l2 : List Mc) (he : mX' l = mX' l2) (w : World) (h1 : RdM w a n c l) (h2 : RdM w a2 n2 c2 l2) :
    Calls Tryd.prog 25 #[.slice a n c, .slice a2 n2 c2] w fun e w' => e = .returned (.bool true) ∧ Below w.heap.size w w' := by
  have hn : n2 = n := by rw [← h1.len, ← h2.len]; have := congrArg List.length he; simpa [mX'] using this.symm
  subst hn
  have hm1 := h1.le_max
  have hl1 := Lib.hid h1.len
  have hl2 := Lib.hid h2.len
  have hE := Lib.hid (fun k (hk : k < l.length) (hk2 : k < l2.length) => show l[k].m = l2[k].m from by
    have e : (mX' l)[k]? = (mX' l2)[k]? := by rw [he]
    simpa [mX', List.getElem?_eq_getElem hk, List.getElem?_eq_getElem hk2] using e)
  clear he
  go_enter Tryd.func25, Tryd.ntmps25
  go_wp2
  go_loopw [5] (fun i wr => ∃ k : Nat, k ≤ n2 ∧ i = .int .i64 k ∧ Below w.heap.size w wr) (fun i _ => n2 - (intOf i).toNat)
  case atStart => exact ⟨0, Nat.zero_le _, rfl, Below.refl _ _⟩
  case round =>
    obtain ⟨k, hk, rfl, hbr⟩ := hrel
    by_cases hkn : k < n2
    · have hk1 : k < l.length := by rw [hl1.out]; exact hkn
      have hk2 : k < l2.length := by rw [hl2.out]; exact hkn
      obtain ⟨g1, o1, rfl, hg1, r1, i1⟩ := (h1.below hbr).range hk1
      obtain ⟨g2, o2, rfl, hg2, r2, i2⟩ := (h2.below hbr).range hk2
      have hxy := Lib.hid (hE.out k hk1 hk2)
      generalize l[k] = x at *
      generalize l2[k] = y at *
      have hkI : (k : Int) < n2 := by omega
      have hbD : Hid (Below wr.heap.size wr wr.drew) := Lib.hid (Below.refl _ _).drew
      have HS := Lib.hid (fun W (hb : Below wr.heap.size wr W) => show W.rangeAt g1 (o1 + k * 6) (mcC x) ∧ W.rangeAt g2 (o2 + k * 6) (mcC y) from ⟨range_below r1 hb hg1, range_below r2 hb hg2⟩)
      have HSm := Lib.hid (same_any x y true ⟨fun _ => hxy.out, fun _ => rfl⟩ wr.drew (i1.below hbD.out) (i2.below hbD.out))
      clear r1 r2 i1 i2
      go_wp2_with fail
      refine wp_region_held_drew (S := fun W => W.rangeAt g1 (o1 + k * 6) (mcC x) ∧ W.rangeAt g2 (o2 + k * 6) (mcC y)) (by kernel_rfl) (HS.out _ hbD.out) ?_
      intro hHeld
      (refine wpAnyH_take (i := 0) (v := ?_) rfl (by kernel_rfl) (by kernel_rfl) (by kernel_rfl) (fun _ _ _ h => h) (Or.inl ⟨by rfl, ?_⟩) (by assumption) ?_; rotate_left; (focus (intro w hSw; clear hSw; go_simp; (try with_reducible rfl))); (try simp only [Act.put, List.getElem_toArray, List.getElem_cons_zero, List.getElem_cons_succ, List.setIfInBounds_toArray, List.set_cons_zero, List.set_cons_succ]))
      (refine wpAnyH_take (i := 1) (v := ?_) rfl (by kernel_rfl) (by kernel_rfl) (by kernel_rfl) (fun _ _ _ h => h) (Or.inl ⟨by rfl, ?_⟩) (by assumption) ?_; rotate_left; (focus (intro w hSw; clear hSw; go_simp; (try with_reducible rfl))); (try simp only [Act.put, List.getElem_toArray, List.getElem_cons_zero, List.getElem_cons_succ, List.setIfInBounds_toArray, List.set_cons_zero, List.set_cons_succ]))
      (refine wpAnyH_take (i := 2) (v := ?_) rfl (by kernel_rfl) (by kernel_rfl) (by kernel_rfl) (fun _ _ _ h => h) (Or.inl ⟨by rfl, ?_⟩) (by assumption) ?_; rotate_left; (focus (intro w hSw; clear hSw; go_simp; (try with_reducible rfl))); (try simp only [Act.put, List.getElem_toArray, List.getElem_cons_zero, List.getElem_cons_succ, List.setIfInBounds_toArray, List.set_cons_zero, List.set_cons_succ]))
      (refine wpAnyH_take (i := 3) (v := .agg (mcA x)) rfl (by kernel_rfl) (by kernel_rfl) (by kernel_rfl) (fun _ _ _ h => h) ?_ (by assumption) ?_; (focus (exact yieldsIf_load_mid (by rfl) 59 (.tmp 19) rfl g1 (o1 + k * 6) rfl (mcC x) _ (fun W hW => hW.1) Tryd.underlying59 rfl (Tryd.msI x))); (try simp only [Act.put, List.getElem_toArray, List.getElem_cons_zero, List.getElem_cons_succ, List.setIfInBounds_toArray, List.set_cons_zero, List.set_cons_succ]))
      (refine wpAnyH_take (i := 4) (v := ?_) rfl (by kernel_rfl) (by kernel_rfl) (by kernel_rfl) (fun _ _ _ h => h) (Or.inl ⟨by rfl, ?_⟩) (by assumption) ?_; rotate_left; (focus (intro w hSw; clear hSw; go_simp; (try with_reducible rfl))); (try simp only [Act.put, List.getElem_toArray, List.getElem_cons_zero, List.getElem_cons_succ, List.setIfInBounds_toArray, List.set_cons_zero, List.set_cons_succ]))
      (refine wpAnyH_take (i := 5) (v := ?_) rfl (by kernel_rfl) (by kernel_rfl) (by kernel_rfl) (fun _ _ _ h => h) (Or.inl ⟨by rfl, ?_⟩) (by assumption) ?_; rotate_left; (focus (intro w hSw; clear hSw; go_simp; (try with_reducible rfl))); (try simp only [Act.put, List.getElem_toArray, List.getElem_cons_zero, List.getElem_cons_succ, List.setIfInBounds_toArray, List.set_cons_zero, List.set_cons_succ]))
      (refine wpAnyH_take (i := 6) (v := ?_) rfl (by kernel_rfl) (by kernel_rfl) (by kernel_rfl) (fun _ _ _ h => h) (Or.inl ⟨by rfl, ?_⟩) (by assumption) ?_; rotate_left; (focus (intro w hSw; clear hSw; go_simp; (try with_reducible rfl))); (try simp only [Act.put, List.getElem_toArray, List.getElem_cons_zero, List.getElem_cons_succ, List.setIfInBounds_toArray, List.set_cons_zero, List.set_cons_succ]))
      (refine wpAnyH_take (i := 7) (v := .agg (mcA y)) rfl (by kernel_rfl) (by kernel_rfl) (by kernel_rfl) (fun _ _ _ h => h) ?_ (by assumption) ?_; (focus (exact yieldsIf_load_mid (by rfl) 59 (.tmp 23) rfl g2 (o2 + k * 6) rfl (mcC y) _ (fun W hW => hW.2) Tryd.underlying59 rfl (Tryd.msI y))); (try simp only [Act.put, List.getElem_toArray, List.getElem_cons_zero, List.getElem_cons_succ, List.setIfInBounds_toArray, List.set_cons_zero, List.set_cons_succ]))
      (refine wpAnyH_ready (rs := [8]) (by kernel_rfl) (by simp) ?_; refine AllReadyH.cons rfl (fun K hK => ?_) AllReadyH.nil)
      go_simp
      refine HSm.out.mono ?_
      rintro e w2 ⟨rfl, hb2⟩
      have hb3 := Lib.hid (belS hbD.out hb2)
      refine hK.out _ _ (HS.out _ hb3.out) (fun hHeld2 => ?_)
      clear hK K hHeld hb2
      (refine wpAnyH_take (i := 9) (v := ?_) rfl (by kernel_rfl) (by kernel_rfl) (by kernel_rfl) (fun _ _ _ h => h) (Or.inl ⟨by rfl, ?_⟩) (by assumption) ?_; rotate_left; (focus (intro w hSw; clear hSw; go_simp; (try with_reducible rfl))); (try simp only [Act.put, List.getElem_toArray, List.getElem_cons_zero, List.getElem_cons_succ, List.setIfInBounds_toArray, List.set_cons_zero, List.set_cons_succ]))
      refine wpAnyH_done (by kernel_rfl) ?_ _
      go_wp2
      go_roundw
      case rel => exact ⟨k + 1, by omega, by go_num, belS hbr hb3.out⟩
      case measure => simp [intOf]; omega
    · have hkI : (n2 : Int) ≤ k := by omega
      go_wp2
      go_ret
      exact ⟨rfl, hbr⟩
set_option maxHeartbeats 1600000 in
set_option maxRecDepth 100000 in
theorem has2_any (a : Option Addr) (n c : Nat) (l : List Mc) (x : Mc) (t : Bool) (ht : t = true ↔ x.m ∈ mX' l) (w : World) (h1 : RdM w a n c l) (hx : RdU w x.pa x.pn x.pc x.m.deps) :
    Calls Tryd.prog 29 #[.slice a n c, .agg (mcA x)] w fun e w' => e = .returned (.bool t) ∧ Below w.heap.size w w' := by
  replace ht := Lib.hid ht
  have hm1 := h1.le_max
  have hl1 := Lib.hid h1.len
  have hX := BlkAt.new w 59 (mcA x)
  have hb1 := alloc_below w (.cells (mcA x) 59)
  go_enter Tryd.func29, Tryd.ntmps29
  go_wp2_with (first
    | (refine wpList_blk_box rfl (.tmp 1) rfl rfl w.heap.size rfl ?_; generalize (w.alloc (.cells (mcA x) 59)) = w1 at *))
  go_loopw [5] (fun i wr => ∃ k : Nat, k ≤ n ∧ i = .int .i64 k ∧ Hid (∀ j (hj : j < l.length), j < k → l[j].m ≠ x.m) ∧ Below w1.heap.size w1 wr) (fun i _ => n - (intOf i).toNat)
  case atStart => exact ⟨0, Nat.zero_le _, rfl, Lib.hid (fun j _ h => by omega), Below.refl _ _⟩
  case round =>
    obtain ⟨k, hk, rfl, hno, hbr⟩ := hrel
    by_cases hkn : k < n
    · have hk1 : k < l.length := by rw [hl1.out]; exact hkn
      obtain ⟨g1, o1, rfl, hg1, r1, i1⟩ := (h1.below (belS hb1 hbr)).range hk1
      have hmem := Lib.hid (fun (h : l[k].m = x.m) => ht.out.2 (List.mem_map.2 ⟨l[k], List.getElem_mem hk1, h⟩))
      have hno2 := Lib.hid (fun (h : l[k].m ≠ x.m) => show ∀ j (hj : j < l.length), j < k + 1 → l[j].m ≠ x.m from fun j hj hjk => by
        by_cases e : j = k
        · subst e; exact h
        · exact hno.out j hj (by omega))
      generalize l[k] = y at *
      have hkI : (k : Int) < n := by omega
      have hX2 := hX.below hbr hX.lt
      have rX : wr.rangeAt w.heap.size 0 (mcC x) := hX2.range (fun j v hj => by rw [Nat.zero_add]; simpa [mcA, mcC] using hj)
      have hxl := hX2.lt
      have hbD : Hid (Below wr.heap.size wr wr.drew) := Lib.hid (Below.refl _ _).drew
      have HS := Lib.hid (fun W (hb : Below wr.heap.size wr W) => show W.rangeAt g1 (o1 + k * 6) (mcC y) ∧ W.rangeAt w.heap.size 0 (mcC x) from ⟨range_below r1 hb hg1, range_below rX hb hxl⟩)
      have HSm := Lib.hid (fun t2 h2 => same_any y x t2 h2 wr.drew (i1.below hbD.out) ((hx.below (belS hb1 hbr)).below hbD.out))
      clear r1 rX i1 hX2
      rcases Classical.em (y.m = x.m) with hyx | hyx
      · skip
        have hz := Lib.hid (hmem.out hyx)
        have HSm2 := Lib.hid (HSm.out true ⟨fun _ => hyx, fun _ => rfl⟩)
        clear hmem hno2 HSm hyx
        go_wp2_with fail
        refine wp_region_held_drew (S := fun W => W.rangeAt g1 (o1 + k * 6) (mcC y) ∧ W.rangeAt w.heap.size 0 (mcC x)) (by kernel_rfl) (HS.out _ hbD.out) ?_
        intro hHeld
        (refine wpAnyH_take (i := 0) (v := ?_) rfl (by kernel_rfl) (by kernel_rfl) (by kernel_rfl) (fun _ _ _ h => h) (Or.inl ⟨by rfl, ?_⟩) (by assumption) ?_; rotate_left; (focus (intro w hSw; clear hSw; go_simp; (try with_reducible rfl))); (try simp only [Act.put, List.getElem_toArray, List.getElem_cons_zero, List.getElem_cons_succ, List.setIfInBounds_toArray, List.set_cons_zero, List.set_cons_succ]))
        (refine wpAnyH_take (i := 1) (v := ?_) rfl (by kernel_rfl) (by kernel_rfl) (by kernel_rfl) (fun _ _ _ h => h) (Or.inl ⟨by rfl, ?_⟩) (by assumption) ?_; rotate_left; (focus (intro w hSw; clear hSw; go_simp; (try with_reducible rfl))); (try simp only [Act.put, List.getElem_toArray, List.getElem_cons_zero, List.getElem_cons_succ, List.setIfInBounds_toArray, List.set_cons_zero, List.set_cons_succ]))
        (refine wpAnyH_take (i := 2) (v := ?_) rfl (by kernel_rfl) (by kernel_rfl) (by kernel_rfl) (fun _ _ _ h => h) (Or.inl ⟨by rfl, ?_⟩) (by assumption) ?_; rotate_left; (focus (intro w hSw; clear hSw; go_simp; (try with_reducible rfl))); (try simp only [Act.put, List.getElem_toArray, List.getElem_cons_zero, List.getElem_cons_succ, List.setIfInBounds_toArray, List.set_cons_zero, List.set_cons_succ]))
        (refine wpAnyH_take (i := 3) (v := .agg (mcA y)) rfl (by kernel_rfl) (by kernel_rfl) (by kernel_rfl) (fun _ _ _ h => h) ?_ (by assumption) ?_; (focus (exact yieldsIf_load_mid (by rfl) 59 (.tmp 14) rfl g1 (o1 + k * 6) rfl (mcC y) _ (fun W hW => hW.1) Tryd.underlying59 rfl (Tryd.msI y))); (try simp only [Act.put, List.getElem_toArray, List.getElem_cons_zero, List.getElem_cons_succ, List.setIfInBounds_toArray, List.set_cons_zero, List.set_cons_succ]))
        (refine wpAnyH_take (i := 4) (v := .agg (mcA x)) rfl (by kernel_rfl) (by kernel_rfl) (by kernel_rfl) (fun _ _ _ h => h) ?_ (by assumption) ?_; (focus (exact yieldsIf_load_mid (by rfl) 59 (.tmp 3) rfl w.heap.size 0 rfl (mcC x) _ (fun W hW => hW.2) Tryd.underlying59 rfl (Tryd.msI x))); (try simp only [Act.put, List.getElem_toArray, List.getElem_cons_zero, List.getElem_cons_succ, List.setIfInBounds_toArray, List.set_cons_zero, List.set_cons_succ]))
        (refine wpAnyH_ready (rs := [5]) (by kernel_rfl) (by simp) ?_; refine AllReadyH.cons rfl (fun K hK => ?_) AllReadyH.nil)
        go_simp
        refine HSm2.out.mono ?_
        rintro e w2 ⟨rfl, hb2⟩
        have hb3 := Lib.hid (belS hbD.out hb2)
        refine hK.out _ _ (HS.out _ hb3.out) (fun hHeld2 => ?_)
        clear hK K hHeld hb2
        refine wpAnyH_done (by kernel_rfl) ?_ _
        go_wp2
        go_ret
        exact ⟨by rw [hz.out]; rfl, belS hb1 (belS hbr hb3.out)⟩
      · skip
        have hz := Lib.hid (hno2.out hyx)
        have HSm2 := Lib.hid (HSm.out false ⟨(fun h => by cases h), fun h => absurd h hyx⟩)
        clear hmem hno2 HSm hyx
        go_wp2_with fail
        refine wp_region_held_drew (S := fun W => W.rangeAt g1 (o1 + k * 6) (mcC y) ∧ W.rangeAt w.heap.size 0 (mcC x)) (by kernel_rfl) (HS.out _ hbD.out) ?_
        intro hHeld
        (refine wpAnyH_take (i := 0) (v := ?_) rfl (by kernel_rfl) (by kernel_rfl) (by kernel_rfl) (fun _ _ _ h => h) (Or.inl ⟨by rfl, ?_⟩) (by assumption) ?_; rotate_left; (focus (intro w hSw; clear hSw; go_simp; (try with_reducible rfl))); (try simp only [Act.put, List.getElem_toArray, List.getElem_cons_zero, List.getElem_cons_succ, List.setIfInBounds_toArray, List.set_cons_zero, List.set_cons_succ]))
        (refine wpAnyH_take (i := 1) (v := ?_) rfl (by kernel_rfl) (by kernel_rfl) (by kernel_rfl) (fun _ _ _ h => h) (Or.inl ⟨by rfl, ?_⟩) (by assumption) ?_; rotate_left; (focus (intro w hSw; clear hSw; go_simp; (try with_reducible rfl))); (try simp only [Act.put, List.getElem_toArray, List.getElem_cons_zero, List.getElem_cons_succ, List.setIfInBounds_toArray, List.set_cons_zero, List.set_cons_succ]))
        (refine wpAnyH_take (i := 2) (v := ?_) rfl (by kernel_rfl) (by kernel_rfl) (by kernel_rfl) (fun _ _ _ h => h) (Or.inl ⟨by rfl, ?_⟩) (by assumption) ?_; rotate_left; (focus (intro w hSw; clear hSw; go_simp; (try with_reducible rfl))); (try simp only [Act.put, List.getElem_toArray, List.getElem_cons_zero, List.getElem_cons_succ, List.setIfInBounds_toArray, List.set_cons_zero, List.set_cons_succ]))
        (refine wpAnyH_take (i := 3) (v := .agg (mcA y)) rfl (by kernel_rfl) (by kernel_rfl) (by kernel_rfl) (fun _ _ _ h => h) ?_ (by assumption) ?_; (focus (exact yieldsIf_load_mid (by rfl) 59 (.tmp 14) rfl g1 (o1 + k * 6) rfl (mcC y) _ (fun W hW => hW.1) Tryd.underlying59 rfl (Tryd.msI y))); (try simp only [Act.put, List.getElem_toArray, List.getElem_cons_zero, List.getElem_cons_succ, List.setIfInBounds_toArray, List.set_cons_zero, List.set_cons_succ]))
        (refine wpAnyH_take (i := 4) (v := .agg (mcA x)) rfl (by kernel_rfl) (by kernel_rfl) (by kernel_rfl) (fun _ _ _ h => h) ?_ (by assumption) ?_; (focus (exact yieldsIf_load_mid (by rfl) 59 (.tmp 3) rfl w.heap.size 0 rfl (mcC x) _ (fun W hW => hW.2) Tryd.underlying59 rfl (Tryd.msI x))); (try simp only [Act.put, List.getElem_toArray, List.getElem_cons_zero, List.getElem_cons_succ, List.setIfInBounds_toArray, List.set_cons_zero, List.set_cons_succ]))
        (refine wpAnyH_ready (rs := [5]) (by kernel_rfl) (by simp) ?_; refine AllReadyH.cons rfl (fun K hK => ?_) AllReadyH.nil)
        go_simp
        refine HSm2.out.mono ?_
        rintro e w2 ⟨rfl, hb2⟩
        have hb3 := Lib.hid (belS hbD.out hb2)
        refine hK.out _ _ (HS.out _ hb3.out) (fun hHeld2 => ?_)
        clear hK K hHeld hb2
        refine wpAnyH_done (by kernel_rfl) ?_ _
        go_wp2
        go_roundw
        case rel => exact ⟨k + 1, by omega, by go_num, hz, belS hbr hb3.out⟩
        case measure => simp [intOf]; omega
    · have hkI : (n : Int) ≤ k := by omega
      have hz := Lib.hid (show t = false from by
        rw [Bool.eq_false_iff, Ne, ht.out]
        intro h
        obtain ⟨y, hy, e⟩ := List.mem_map.1 h
        obtain ⟨j, hj, rfl⟩ := List.mem_iff_getElem.1 hy
        exact hno.out j hj (by rw [hl1.out] at hj; omega) e)
      go_wp2
      go_ret
      exact ⟨by rw [hz.out]; rfl, belS hb1 hbr⟩
end Go.Proofs.YtikhpafdnohhkaaDoor
