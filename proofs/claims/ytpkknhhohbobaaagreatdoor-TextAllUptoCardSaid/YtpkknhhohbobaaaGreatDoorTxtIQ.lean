/- text: the writer's event (written by gen_te.py) -/
import Derived.Test.YtpkknhhohbobaaaGreatDoorTxtHQ
import Derived.Deep.CutBlock
namespace Go.Proofs.YtpkknhhohbobaaaGreatDoor
set_option linter.unusedSimpArgs false
set_option linter.unusedVariables false
open Go.RowKit Go.Sort
def part1L : Nat → List Lt
  | 1 => [.c] | 2 => [.c, .n] | 3 => [.c, .s] | 4 => [.c, .n, .s] | 7 => [.v, .a] | 8 => [.v, .o] | 9 => [.v, .o] | 10 => [.v, .o] | 11 => [.v, .o] | 12 => [.v, .o] | _ => []
def part2L : Nat → List Lt
  | 1 => [.m] | 2 => [.m] | 8 => [.m] | 9 => [.m] | 11 => [.b] | _ => []
theorem parts_row : ∀ k : Fin 13, rowL k.val = part1L k.val ++ part2L k.val := by decide +kernel
def p1W (x : TEv) : List W8 := (part1L x.kind.toNat).flatMap (fieldW · x)
def p2W (x : TEv) : List W8 := (part2L x.kind.toNat).flatMap (fieldW · x)
def p1Ok (x : TEv) : Bool := (part1L x.kind.toNat).all (fieldOk · x)
def p2Ok (x : TEv) : Bool := (part2L x.kind.toNat).all (fieldOk · x)
theorem ev_parts {x : TEv} (h0 : 1 ≤ x.kind) (h1 : x.kind ≤ 12) : evW x = ([prW x.proc, kindW x.kind.toNat] ++ p1W x) ++ p2W x ∧ evOk x = (prOk x.proc && (p1Ok x && p2Ok x)) := by
  have hr : rowL x.kind.toNat = part1L x.kind.toNat ++ part2L x.kind.toNat := parts_row ⟨x.kind.toNat, by omega⟩
  unfold evW evOk p1W p2W p1Ok p2Ok
  rw [hr, List.flatMap_append, List.all_append]
  exact ⟨by simp, rfl⟩
theorem evE_1 {x : TEv} (h0 : 1 ≤ x.kind) (h1 : x.kind ≤ 12) (h : prOk x.proc = false ∨ p1Ok x = false ∨ p2Ok x = false) : evE x = 1 := by
  unfold evE
  rw [if_neg (by omega), if_neg]
  rw [(ev_parts h0 h1).2]
  rcases h with h | h | h <;> rw [h] <;> simp
theorem evE_0 {x : TEv} (h0 : 1 ≤ x.kind) (h1 : x.kind ≤ 12) (h : prOk x.proc = true) (h2 : p1Ok x = true) (h3 : p2Ok x = true) : evE x = 0 := by
  unfold evE
  rw [if_neg (by omega), if_pos]
  rw [(ev_parts h0 h1).2, h, h2, h3]
  rfl
theorem conf_any (c : TCf) (he : c.ep < 18446744073709551616) (w : World) (hT : TL w) :
    Calls Tryz.prog 64 #[.agg #[.int .u64 c.ep, .int .i64 c.rp]] w fun e w' => (prOk c.rp = true ∧ e = .returned (.string (mkB (confW c))) ∨ prOk c.rp = false ∧ e = pan 1) ∧ Below w.heap.size w w' := by
  cases h : prOk c.rp with
  | true => exact (conf_yes c h he w hT).mono fun e w' ⟨h1, h2⟩ => ⟨.inl ⟨rfl, h1⟩, h2⟩
  | false => exact (conf_no c h he w hT).mono fun e w' ⟨h1, h2⟩ => ⟨.inr ⟨rfl, h1⟩, h2⟩
theorem procX (p : Int) (w : World) (hT : TL w) :
    Calls Tryz.prog 63 #[.int .i64 p] w fun e w' => (prOk p = true ∧ e = .returned (.string (mkB (prW p))) ∨ prOk p = false ∧ e = pan 1) ∧ Below w.heap.size w w' := by
  cases h : prOk p with
  | true => exact (proc_yes p h w hT).mono fun e w' ⟨h1, h2⟩ => ⟨.inl ⟨rfl, h1⟩, h2⟩
  | false => exact (proc_no p h w).mono fun e w' ⟨h1, h2⟩ => ⟨.inr ⟨rfl, h1⟩, by rw [← h2]; exact Below.refl _ _⟩
theorem words_any (w : World) : Calls Tryz.prog 49 #[] w fun e w' => e = .returned (.slice (some ⟨w.heap.size, 0, none⟩) 13 13) ∧ w' = w.alloc (.cells (kindWs.map sv).toArray 9) := by
  go_enter Tryz.func49, Tryz.ntmps49
  go_wp2
  go_ret
  exact ⟨rfl, rfl⟩
theorem kindWs_at {k : Nat} (h : k < 13) : (kindWs.map sv)[k]? = some (.string (mkB (kindW k))) := by
  have hl : kindWs.length = 13 := rfl
  rw [List.getElem?_map]
  unfold kindW
  rw [List.getD_eq_getElem?_getD, List.getElem?_eq_getElem (by omega)]
  rfl
section
variable {B b : Nat} {w w' : World} {ws : List W8} {x : TEv} {da na : Option Addr} {dn dc nn nc : Nat}
theorem ev_msg {W : World} {mb : Nat} {t : TypeId} (h : BlkAt W mb t (evC x da dn dc na nn nc)) : W.rangeAt mb 7 [.int .i64 x.m.frm, .int .u32 x.m.seq, .int .u64 x.m.stamp, .int .i64 x.m.svc, .slice da dn dc, .string (mkB x.m.pay)] := h.range (fun j y hj => by
  rcases j with _ | _ | _ | _ | _ | _ | j
  · exact hj
  · exact hj
  · exact hj
  · exact hj
  · exact hj
  · exact hj
  · simp at hj)
theorem Tryz.mgL : (Tryz.prog.info? 29).map (·.size) = some ([.int .i64 x.m.frm, .int .u32 x.m.seq, .int .u64 x.m.stamp, .int .i64 x.m.svc, .slice da dn dc, .string (mkB x.m.pay)] : List Value).length := by show _ = some 6; kernel_rfl
def PostE (x : TEv) (B b : Nat) (ws : List W8) (w : World) (e : Ending) (w' : World) : Prop := (evE x = 0 ∧ e = .returned (.tuple #[]) ∧ WrT B w' b (ws ++ evW x) ∨ evE x ≠ 0 ∧ e = pan (evE x)) ∧ KpW B b w w'
set_option maxHeartbeats 25600000 in
set_option maxRecDepth 100000 in
theorem event_any (hE : EvR w x da dn dc na nn nc) (hEB : EvB B da dn na nn) (hT : TL w) (h : WrT B w b []) (hB8 : 8 ≤ B) :
    Calls Tryz.prog 44 #[.pointer (some ⟨b, 0, none⟩), .agg (evC x da dn dc na nn nc)] w (PostE x B b [] w) := by
  have hlt := h.lt
  have hBs : B ≤ w.heap.size := by have := h.ge; omega
  have hb1 := alloc_below w (.cells (evC x da dn dc na nn nc) 34)
  have hM := BlkAt.new w 34 (evC x da dn dc na nn nc)
  obtain ⟨w1, hw1⟩ : ∃ z, z = w.alloc (.cells (evC x da dn dc na nn nc) 34) := ⟨_, rfl⟩
  rw [← hw1] at hb1 hM
  obtain ⟨mb, hmb⟩ : ∃ z, z = w.heap.size := ⟨_, rfl⟩
  rw [← hmb] at hM
  have hT1 := Lib.hid (hT.on hb1)
  have hW1 := Lib.hid (h.below hb1)
  have kb := Lib.hid (KpW.ofBelow (B := B) (b := b) hb1 hBs)
  have hB1 : B ≤ w1.heap.size := Nat.le_trans hBs hb1.size
  have hE1 := Lib.hid (hE.below hb1)
  have hM1 := Lib.hid hM
  have hmbb : mb ≠ b := by omega
  have k0 : w1.cell? ⟨mb, 0, none⟩ = some (.int .i64 x.kind) := BlkAt.cell hM rfl
  replace hw1 := Lib.hid hw1
  replace hmb := Lib.hid hmb
  clear hE hT h hM hb1
  by_cases hk : x.kind < 1 ∨ 12 < x.kind
  · have hz := Lib.hid (show evE x = 10 from by unfold evE; rw [if_pos hk])
    by_cases hk1 : x.kind < 1
    · clear hk
      go_enter Tryz.func44, Tryz.ntmps44
      go_wp2_with (first | (refine wpList_blk_box rfl (.tmp 1) rfl rfl mb hmb.out.symm ?_; rw [← hw1.out]))
      refine (bad_t (by first | rfl | (simp; done) | (simp; omega)) 10 _).mono ?_
      rintro e w3 ⟨rfl, rfl⟩
      exact ⟨rfl, .inr ⟨by rw [hz.out]; decide, by rw [hz.out]; rfl⟩, kb.out⟩
    · have hk2 : 12 < x.kind := by omega
      clear hk
      go_enter Tryz.func44, Tryz.ntmps44
      go_wp2_with (first | (refine wpList_blk_box rfl (.tmp 1) rfl rfl mb hmb.out.symm ?_; rw [← hw1.out]))
      refine (bad_t (by first | rfl | (simp; done) | (simp; omega)) 10 _).mono ?_
      rintro e w3 ⟨rfl, rfl⟩
      exact ⟨rfl, .inr ⟨by rw [hz.out]; decide, by rw [hz.out]; rfl⟩, kb.out⟩
  · obtain ⟨k, hkk⟩ : ∃ k : Nat, x.kind = k := ⟨x.kind.toNat, by omega⟩
    have hk1 : 1 ≤ k := by omega
    have hk12 : k ≤ 12 := by omega
    have hkI1 : ¬ (k : Int) < 1 := by omega
    have hkI2 : ¬ (12 : Int) < k := by omega
    have hkt : x.kind.toNat = k := by omega
    have hE01 := Lib.hid (evE_1 (x := x) (by omega) (by omega))
    have hE00 := Lib.hid (evE_0 (x := x) (by omega) (by omega))
    have hEW := Lib.hid (ev_parts (x := x) (by omega) (by omega)).1
    rw [hkt] at hEW
    have hp1W := Lib.hid (show p1W x = (part1L k).flatMap (fieldW · x) from by unfold p1W; rw [hkt])
    have hp2W := Lib.hid (show p2W x = (part2L k).flatMap (fieldW · x) from by unfold p2W; rw [hkt])
    have hp1O := Lib.hid (show p1Ok x = (part1L k).all (fieldOk · x) from by unfold p1Ok; rw [hkt])
    have hp2O := Lib.hid (show p2Ok x = (part2L k).all (fieldOk · x) from by unfold p2Ok; rw [hkt])
    rw [hkk] at k0
    replace hkk := Lib.hid hkk
    clear hk hkt
    go_enter Tryz.func44, Tryz.ntmps44
    go_wp2_with (first | (refine wpList_blk_box rfl (.tmp 1) rfl rfl mb hmb.out.symm ?_; rw [← hw1.out]))
    refine (bad_f (by first | rfl | (simp; done) | (simp; omega)) 10 _).mono ?_
    rintro e w3 ⟨rfl, rfl⟩
    go_upto_region 2 with (fail)
    go_cut [] from 13 to 23 (fun wx => prOk x.proc = true ∧ WrT B wx b [prW x.proc, kindW k] ∧ KpW B b w1 wx)
    case first => as_aux_lemma =>
      have hS := Lib.hid (fun W (hb : Below w1.heap.size w1 W) => show BlkAt W mb 34 (evC x da dn dc na nn nc) from hM1.out.below hb hM1.out.lt)
      have hB : Hid (Below w1.heap.size w1 w1.drew) := Lib.hid (Below.refl _ _).drew
      have hst := hS.out _ hB.out
      have HP := Lib.hid (fun W (hb : Below w1.heap.size w1 W) => procX x.proc W (hT1.out.on hb))
      have hck := Lib.hid (kindWs_at (k := k) (by omega))
      refine wp_region_held_drew (S := fun W => BlkAt W mb 34 (evC x da dn dc na nn nc)) (by kernel_rfl) hst ?_
      intro hHeld
      clear hst
      (refine wpAnyH_take (i := 0) (v := ?_) rfl (by kernel_rfl) (by kernel_rfl) (by kernel_rfl) (fun _ _ _ h => h) (Or.inl ⟨by rfl, ?_⟩) (by assumption) ?_; rotate_left; (focus (intro w hSw; clear hSw; go_simp; (try with_reducible rfl))); (try simp only [Act.put, List.getElem_toArray, List.getElem_cons_zero, List.getElem_cons_succ, List.setIfInBounds_toArray, List.set_cons_zero, List.set_cons_succ]))
      (refine wpAnyH_take (i := 1) (v := ?_) rfl (by kernel_rfl) (by kernel_rfl) (by kernel_rfl) (fun _ _ _ h => h) (Or.inl ⟨by rfl, ?_⟩) (by assumption) ?_; rotate_left; (focus (intro w hSw; clear hSw; go_simp; (try with_reducible rfl))); (try simp only [Act.put, List.getElem_toArray, List.getElem_cons_zero, List.getElem_cons_succ, List.setIfInBounds_toArray, List.set_cons_zero, List.set_cons_succ]))
      (refine wpAnyH_take (i := 2) (v := ?_) rfl (by kernel_rfl) (by kernel_rfl) (by kernel_rfl) (fun _ _ _ h => h) (Or.inl ⟨by rfl, ?_⟩) (by assumption) ?_; rotate_left; (focus (intro w hSw; have hc : w.cell? ⟨mb, 1, none⟩ = some (.int .i64 x.proc) := BlkAt.cell hSw rfl; clear hSw; go_simp; (try with_reducible rfl))); (try simp only [Act.put, List.getElem_toArray, List.getElem_cons_zero, List.getElem_cons_succ, List.setIfInBounds_toArray, List.set_cons_zero, List.set_cons_succ]))
      (refine wpAnyH_take (i := 5) (v := ?_) rfl (by kernel_rfl) (by kernel_rfl) (by kernel_rfl) (fun _ _ _ h => h) (Or.inl ⟨by rfl, ?_⟩) (by assumption) ?_; rotate_left; (focus (intro w hSw; clear hSw; go_simp; (try with_reducible rfl))); (try simp only [Act.put, List.getElem_toArray, List.getElem_cons_zero, List.getElem_cons_succ, List.setIfInBounds_toArray, List.set_cons_zero, List.set_cons_succ]))
      (refine wpAnyH_take (i := 6) (v := .int .i64 (k : Int)) rfl (by kernel_rfl) (by kernel_rfl) (by kernel_rfl) (fun _ _ _ h => h) (Or.inl ⟨by rfl, ?_⟩) (by assumption) ?_; focus (intro w hSw; have hc : w.cell? ⟨mb, 0, none⟩ = some (.int .i64 (k : Int)) := (by rw [← hkk.out]; exact BlkAt.cell hSw rfl); clear hSw; go_simp); (try simp only [Act.put, List.getElem_toArray, List.getElem_cons_zero, List.getElem_cons_succ, List.setIfInBounds_toArray, List.set_cons_zero, List.set_cons_succ]))
      (refine wpAnyH_ready (rs := [3]) (by kernel_rfl) (by simp) ?_; refine AllReadyH.cons rfl (fun K hK => ?_) AllReadyH.nil)
      go_simp
      refine (HP.out _ hB.out).mono ?_
      rintro e w3 ⟨⟨hp, rfl⟩ | ⟨hp, rfl⟩, hb⟩
      case inr => exact ⟨rfl, .inr ⟨by rw [hE01.out (.inl hp)]; decide, by rw [hE01.out (.inl hp)]; rfl⟩, kb.out.trans (KpW.ofBelow (belS hB.out hb) hB1)⟩
      replace hB := Lib.hid (belS hB.out hb)
      clear hb
      refine hK.out _ _ (hS.out _ hB.out) (fun hHeld => ?_)
      clear hK K
      (refine wpAnyH_ready (rs := [4]) (by kernel_rfl) (by simp) ?_; refine AllReadyH.cons rfl (fun K hK => ?_) AllReadyH.nil)
      go_simp
      refine (words_any _).mono ?_
      rintro e w4 ⟨rfl, hw4⟩
      have hb4 := alloc_below w3 (.cells (kindWs.map sv).toArray 9)
      have hc4 : w4.cell? ⟨w3.heap.size, k, none⟩ = some (.string (mkB (kindW k))) := by
        rw [hw4]
        exact (BlkAt.new w3 9 (kindWs.map sv).toArray).cell (by rw [List.getElem?_toArray]; exact hck.out)
      rw [← hw4] at hb4
      replace hB := Lib.hid (belS hB.out hb4)
      clear hb4 hw4
      generalize w3.heap.size = kb3 at *
      refine hK.out _ _ (hS.out _ hB.out) (fun hHeld => ?_)
      clear hK K
      have hk13 : (k : Int) < 13 := by omega
      have hk0 : (0 : Int) ≤ k := by omega
      (refine wpAnyH_take (i := 7) (v := ?_) rfl (by kernel_rfl) (by kernel_rfl) (by kernel_rfl) (fun _ _ _ h => h) (Or.inl ⟨by rfl, ?_⟩) (by assumption) ?_; rotate_left; (focus (intro w hSw; clear hSw; go_simp; (try with_reducible rfl))); (try simp only [Act.put, List.getElem_toArray, List.getElem_cons_zero, List.getElem_cons_succ, List.setIfInBounds_toArray, List.set_cons_zero, List.set_cons_succ]))
      (refine wpAnyH_ready (rs := [8]) (by kernel_rfl) (by simp) ?_; refine AllReadyH.cons rfl (fun K hK => ?_) AllReadyH.nil)
      go_simp
      refine hK.out _ _ (hS.out _ hB.out) (fun hHeld => ?_)
      clear hK K
      (refine wpAnyH_ready (rs := [9]) (by kernel_rfl) (by simp) ?_; refine AllReadyH.cons rfl (fun K hK => ?_) AllReadyH.nil)
      refine step_buildSlice (some 22) rfl rfl 56 9 2 #[(0, .tmp 16), (1, .tmp 21)] rfl Tryz.stE (by decide) (by decide) ([prW x.proc, kindW k].map sv).toArray ?_ ?_
      · kernel_rfl
      have hb9 := (Below.refl w4.heap.size w4).alloc (Nat.le_refl _) (.cells ([prW x.proc, kindW k].map sv).toArray 9)
      have hr9 : Rd (w4.alloc (.cells ([prW x.proc, kindW k].map sv).toArray 9)) 1 (some ⟨w4.heap.size, 0, none⟩) 2 2 ([prW x.proc, kindW k].map sv) := Rd.litn rfl rfl (by decide)
      replace hB := Lib.hid (belS hB.out hb9)
      generalize w4.heap.size = rb at *
      generalize w4.alloc (.cells ([prW x.proc, kindW k].map sv).toArray 9) = w9 at *
      refine hK.out _ _ (hS.out _ hB.out) (fun hHeld => ?_)
      clear hK K
      have HS := Lib.hid (say_any (some ⟨rb, 0, none⟩) 2 2 (hW1.out.below hB.out) hr9 (by decide) (by decide) (by simp))
      have hS9 := Lib.hid (hS.out _ hB.out)
      have kb9 := Lib.hid (KpW.ofBelow (B := B) (b := b) hB.out hB1)
      clear hr9 hb9
      (refine wpAnyH_ready (rs := [10]) (by kernel_rfl) (by simp) ?_; refine AllReadyH.cons rfl (fun K hK => ?_) AllReadyH.nil)
      go_simp
      refine HS.out.mono ?_
      rintro e w10 ⟨rfl, hW10, hk10⟩
      refine hK.out _ _ (hk10.blk hS9.out hmbb (by decide)) (fun hHeld => ?_)
      clear hK K
      refine wpAnyH_done (by kernel_rfl) ?_ _
      go_wp2_with fail
      go_meet
      exact ⟨hp, hW10, kb9.out.trans hk10⟩
    case rest => as_aux_lemma =>
      obtain ⟨hp, hW2, hk2⟩ := hcut
      obtain ⟨w2, rfl⟩ : ∃ z, z = wc := ⟨_, rfl⟩
      have hM2 := Lib.hid (hk2.blk hM1.out hmbb (by decide))
      have hE2 := Lib.hid (hE1.out.kpW hEB hk2)
      have hT2 := Lib.hid (hk2.tl hT1.out hB8)
      have kb2 := Lib.hid (kb.out.trans hk2)
      have hB2 : B ≤ w2.heap.size := Nat.le_trans hB1 hk2.size
      have hmw : mb < w2.heap.size := hM2.out.lt
      replace hW2 := Lib.hid hW2
      replace hp := Lib.hid hp
      have k0 : w2.cell? ⟨mb, 0, none⟩ = some (.int .i64 (k : Int)) := by rw [← hkk.out]; exact BlkAt.cell hM2.out rfl
      have hcC := Tryz.cfL x.conf.ep x.conf.rp
      have hcN := Tryz.cfL x.new.ep x.new.rp
      obtain ⟨⟨f1, f2, f3⟩, ⟨f4, f5, f6⟩, f7, f8⟩ := hE2.out.wf
      clear hE1 hT1 hW1 hk2 hM1 kb
      go_upto_block 0 with (fail)
      go_cut [] from 26 to 79 (fun wx => p1Ok x = true ∧ WrT B wx b ([prW x.proc, kindW k] ++ p1W x) ∧ KpW B b w2 wx)
      case first => as_aux_lemma =>
        have hS := Lib.hid (fun W (hb : Below w2.heap.size w2 W) => show BlkAt W mb 34 (evC x da dn dc na nn nc) from hM2.out.below hb hM2.out.lt)
        have hB : Hid (Below w2.heap.size w2 w2.drew) := Lib.hid (Below.refl _ _).drew
        have hst := hS.out _ hB.out
        have HC := Lib.hid (fun W (hb : Below w2.heap.size w2 W) => conf_any x.conf f1 W (hT2.out.on hb))
        have HN := Lib.hid (fun W (hb : Below w2.heap.size w2 W) => conf_any x.new f2 W (hT2.out.on hb))
        have HQ := Lib.hid (fun W (hb : Below w2.heap.size w2 W) => num_any x.mem f4 W (hT2.out.on hb))
        clear f1 f2 f3 f4 f5 f6 f7 f8 hmw hkI1 hkI2
        obtain rfl | rfl | rfl | rfl | rfl | rfl | rfl | rfl | rfl | rfl | rfl | rfl : k = 1 ∨ k = 2 ∨ k = 3 ∨ k = 4 ∨ k = 5 ∨ k = 6 ∨ k = 7 ∨ k = 8 ∨ k = 9 ∨ k = 10 ∨ k = 11 ∨ k = 12 := by omega
        · -- send
          have r1 := ev_conf hM2.out
          have HC1 := Lib.hid (HC.out w2 (Below.refl _ _))
          clear hst hB HC
          go_wp2_with (first | (refine wpList_load_mid rfl _ (.tmp 29) rfl mb 2 rfl [.int .u64 x.conf.ep, .int .i64 x.conf.rp] _ r1 Tryz.underlying25 rfl hcC ?_))
          refine HC1.out.mono ?_
          rintro e w3 ⟨⟨hp1, rfl⟩ | ⟨hp1, rfl⟩, hb⟩
          case inr => exact ⟨rfl, .inr ⟨by rw [hE01.out (.inr (.inl (by rw [hp1O.out]; show (prOk _ && _) = false; rw [hp1]; rfl)))]; decide, by rw [hE01.out (.inr (.inl (by rw [hp1O.out]; show (prOk _ && _) = false; rw [hp1]; rfl)))]; rfl⟩, kb2.out.trans (KpW.ofBelow hb hB2)⟩
          have hok : p1Ok x = true := by rw [hp1O.out]; show (prOk _ && true) = true; rw [hp1]; rfl
          have hr4 : Rd (w3.alloc (.cells #[.string (mkB (confW x.conf))] 9)) 1 (some ⟨w3.heap.size, 0, none⟩) 1 1 ([confW x.conf].map sv) := Rd.litn rfl rfl (by decide)
          have hb4 := belS hb (alloc_below w3 (.cells #[.string (mkB (confW x.conf))] 9))
          have HS := Lib.hid (say_any (some ⟨w3.heap.size, 0, none⟩) 1 1 (hW2.out.below hb4) hr4 (by decide) (by decide) (by simp))
          have kb9 := Lib.hid (KpW.ofBelow (B := B) (b := b) hb4 hB2)
          clear hr4 hb4 hb
          go_wp2_with fail
          refine HS.out.mono ?_
          rintro e w10 ⟨rfl, hW10, hk10⟩
          go_wp2_with fail
          go_meet
          exact ⟨hok, by rw [hp1W.out]; exact hW10, kb9.out.trans hk10⟩
        · -- deliver
          go_upto_region 7 with (fail)
          refine wp_region_held_drew (S := fun W => BlkAt W mb 34 (evC x da dn dc na nn nc)) (by kernel_rfl) hst ?_
          intro hHeld
          clear hst
          (refine wpAnyH_take (i := 0) (v := ?_) rfl (by kernel_rfl) (by kernel_rfl) (by kernel_rfl) (fun _ _ _ h => h) (Or.inl ⟨by rfl, ?_⟩) (by assumption) ?_; rotate_left; (focus (intro w hSw; clear hSw; go_simp; (try with_reducible rfl))); (try simp only [Act.put, List.getElem_toArray, List.getElem_cons_zero, List.getElem_cons_succ, List.setIfInBounds_toArray, List.set_cons_zero, List.set_cons_succ]))
          (refine wpAnyH_take (i := 1) (v := ?_) rfl (by kernel_rfl) (by kernel_rfl) (by kernel_rfl) (fun _ _ _ h => h) (Or.inl ⟨by rfl, ?_⟩) (by assumption) ?_; rotate_left; (focus (intro w hSw; clear hSw; go_simp; (try with_reducible rfl))); (try simp only [Act.put, List.getElem_toArray, List.getElem_cons_zero, List.getElem_cons_succ, List.setIfInBounds_toArray, List.set_cons_zero, List.set_cons_succ]))
          (refine wpAnyH_take (i := 2) (v := .agg #[.int .u64 x.conf.ep, .int .i64 x.conf.rp]) rfl (by kernel_rfl) (by kernel_rfl) (by kernel_rfl) (fun _ _ _ h => h) (yieldsIf_load_mid (by rfl) 25 (.tmp 37) rfl mb 2 rfl [.int .u64 x.conf.ep, .int .i64 x.conf.rp] _ (fun W hW => ev_conf hW) Tryz.underlying25 rfl hcC) (by assumption) ?_; (try simp only [Act.put, List.getElem_toArray, List.getElem_cons_zero, List.getElem_cons_succ, List.setIfInBounds_toArray, List.set_cons_zero, List.set_cons_succ]))
          (refine wpAnyH_take (i := 4) (v := ?_) rfl (by kernel_rfl) (by kernel_rfl) (by kernel_rfl) (fun _ _ _ h => h) (Or.inl ⟨by rfl, ?_⟩) (by assumption) ?_; rotate_left; (focus (intro w hSw; clear hSw; go_simp; (try with_reducible rfl))); (try simp only [Act.put, List.getElem_toArray, List.getElem_cons_zero, List.getElem_cons_succ, List.setIfInBounds_toArray, List.set_cons_zero, List.set_cons_succ]))
          (refine wpAnyH_take (i := 5) (v := .agg #[.int .u64 x.new.ep, .int .i64 x.new.rp]) rfl (by kernel_rfl) (by kernel_rfl) (by kernel_rfl) (fun _ _ _ h => h) (yieldsIf_load_mid (by rfl) 25 (.tmp 40) rfl mb 4 rfl [.int .u64 x.new.ep, .int .i64 x.new.rp] _ (fun W hW => ev_new hW) Tryz.underlying25 rfl hcN) (by assumption) ?_; (try simp only [Act.put, List.getElem_toArray, List.getElem_cons_zero, List.getElem_cons_succ, List.setIfInBounds_toArray, List.set_cons_zero, List.set_cons_succ]))
          (refine wpAnyH_ready (rs := [3]) (by kernel_rfl) (by simp) ?_; refine AllReadyH.cons rfl (fun K hK => ?_) AllReadyH.nil)
          go_simp
          refine (HC.out _ hB.out).mono ?_
          rintro e w4 ⟨⟨hp1, rfl⟩ | ⟨hp1, rfl⟩, hb⟩
          case inr => exact ⟨rfl, .inr ⟨by rw [hE01.out (.inr (.inl (by rw [hp1O.out]; show (prOk _ && _) = false; rw [hp1]; rfl)))]; decide, by rw [hE01.out (.inr (.inl (by rw [hp1O.out]; show (prOk _ && _) = false; rw [hp1]; rfl)))]; rfl⟩, kb2.out.trans (KpW.ofBelow (belS hB.out hb) hB2)⟩
          replace hB := Lib.hid (belS hB.out hb)
          clear hb
          refine hK.out _ _ (hS.out _ hB.out) (fun hHeld => ?_)
          clear hK K
          (refine wpAnyH_ready (rs := [6]) (by kernel_rfl) (by simp) ?_; refine AllReadyH.cons rfl (fun K hK => ?_) AllReadyH.nil)
          go_simp
          refine (HN.out _ hB.out).mono ?_
          rintro e w5 ⟨⟨hp2, rfl⟩ | ⟨hp2, rfl⟩, hb⟩
          case inr => exact ⟨rfl, .inr ⟨by rw [hE01.out (.inr (.inl (by rw [hp1O.out]; show (prOk _ && (prOk _ && _)) = false; rw [hp1, hp2]; rfl)))]; decide, by rw [hE01.out (.inr (.inl (by rw [hp1O.out]; show (prOk _ && (prOk _ && _)) = false; rw [hp1, hp2]; rfl)))]; rfl⟩, kb2.out.trans (KpW.ofBelow (belS hB.out hb) hB2)⟩
          replace hB := Lib.hid (belS hB.out hb)
          clear hb
          refine hK.out _ _ (hS.out _ hB.out) (fun hHeld => ?_)
          clear hK K
          have hok : p1Ok x = true := by rw [hp1O.out]; show (prOk _ && (prOk _ && true)) = true; rw [hp1, hp2]; rfl
          (refine wpAnyH_ready (rs := [7]) (by kernel_rfl) (by simp) ?_; refine AllReadyH.cons rfl (fun K hK => ?_) AllReadyH.nil)
          refine step_buildSlice (some 43) rfl rfl 56 9 2 #[(0, .tmp 39), (1, .tmp 42)] rfl Tryz.stE (by decide) (by decide) ([confW x.conf, confW x.new].map sv).toArray ?_ ?_
          · kernel_rfl
          have hb9 := (Below.refl w5.heap.size w5).alloc (Nat.le_refl _) (.cells ([confW x.conf, confW x.new].map sv).toArray 9)
          have hr9 : Rd (w5.alloc (.cells ([confW x.conf, confW x.new].map sv).toArray 9)) 1 (some ⟨w5.heap.size, 0, none⟩) 2 2 ([confW x.conf, confW x.new].map sv) := Rd.litn rfl rfl (by decide)
          replace hB := Lib.hid (belS hB.out hb9)
          generalize w5.heap.size = rb at *
          generalize w5.alloc (.cells ([confW x.conf, confW x.new].map sv).toArray 9) = w9 at *
          refine hK.out _ _ (hS.out _ hB.out) (fun hHeld => ?_)
          clear hK K
          have HS := Lib.hid (say_any (some ⟨rb, 0, none⟩) 2 2 (hW2.out.below hB.out) hr9 (by decide) (by decide) (by simp))
          have hS9 := Lib.hid (hS.out _ hB.out)
          have kb9 := Lib.hid (KpW.ofBelow (B := B) (b := b) hB.out hB2)
          clear hr9 hb9
          (refine wpAnyH_ready (rs := [8]) (by kernel_rfl) (by simp) ?_; refine AllReadyH.cons rfl (fun K hK => ?_) AllReadyH.nil)
          go_simp
          refine HS.out.mono ?_
          rintro e w10 ⟨rfl, hW10, hk10⟩
          refine hK.out _ _ (hk10.blk hS9.out hmbb (by decide)) (fun hHeld => ?_)
          clear hK K
          refine wpAnyH_done (by kernel_rfl) ?_ _
          go_wp2_with fail
          go_meet
          exact ⟨hok, by rw [hp1W.out]; exact hW10, kb9.out.trans hk10⟩
        · -- regular
          go_upto_region 9 with (fail)
          refine wp_region_held_drew (S := fun W => BlkAt W mb 34 (evC x da dn dc na nn nc)) (by kernel_rfl) hst ?_
          intro hHeld
          clear hst
          (refine wpAnyH_take (i := 0) (v := ?_) rfl (by kernel_rfl) (by kernel_rfl) (by kernel_rfl) (fun _ _ _ h => h) (Or.inl ⟨by rfl, ?_⟩) (by assumption) ?_; rotate_left; (focus (intro w hSw; clear hSw; go_simp; (try with_reducible rfl))); (try simp only [Act.put, List.getElem_toArray, List.getElem_cons_zero, List.getElem_cons_succ, List.setIfInBounds_toArray, List.set_cons_zero, List.set_cons_succ]))
          (refine wpAnyH_take (i := 1) (v := ?_) rfl (by kernel_rfl) (by kernel_rfl) (by kernel_rfl) (fun _ _ _ h => h) (Or.inl ⟨by rfl, ?_⟩) (by assumption) ?_; rotate_left; (focus (intro w hSw; clear hSw; go_simp; (try with_reducible rfl))); (try simp only [Act.put, List.getElem_toArray, List.getElem_cons_zero, List.getElem_cons_succ, List.setIfInBounds_toArray, List.set_cons_zero, List.set_cons_succ]))
          (refine wpAnyH_take (i := 2) (v := .agg #[.int .u64 x.conf.ep, .int .i64 x.conf.rp]) rfl (by kernel_rfl) (by kernel_rfl) (by kernel_rfl) (fun _ _ _ h => h) (yieldsIf_load_mid (by rfl) 25 (.tmp 48) rfl mb 2 rfl [.int .u64 x.conf.ep, .int .i64 x.conf.rp] _ (fun W hW => ev_conf hW) Tryz.underlying25 rfl hcC) (by assumption) ?_; (try simp only [Act.put, List.getElem_toArray, List.getElem_cons_zero, List.getElem_cons_succ, List.setIfInBounds_toArray, List.set_cons_zero, List.set_cons_succ]))
          (refine wpAnyH_take (i := 4) (v := ?_) rfl (by kernel_rfl) (by kernel_rfl) (by kernel_rfl) (fun _ _ _ h => h) (Or.inl ⟨by rfl, ?_⟩) (by assumption) ?_; rotate_left; (focus (intro w hSw; clear hSw; go_simp; (try with_reducible rfl))); (try simp only [Act.put, List.getElem_toArray, List.getElem_cons_zero, List.getElem_cons_succ, List.setIfInBounds_toArray, List.set_cons_zero, List.set_cons_succ]))
          (refine wpAnyH_take (i := 5) (v := ?_) rfl (by kernel_rfl) (by kernel_rfl) (by kernel_rfl) (fun _ _ _ h => h) (Or.inl ⟨by rfl, ?_⟩) (by assumption) ?_; rotate_left; (focus (intro w hSw; have hc : w.cell? ⟨mb, 6, none⟩ = some (.int .u64 x.mem) := BlkAt.cell hSw rfl; clear hSw; go_simp; (try with_reducible rfl))); (try simp only [Act.put, List.getElem_toArray, List.getElem_cons_zero, List.getElem_cons_succ, List.setIfInBounds_toArray, List.set_cons_zero, List.set_cons_succ]))
          (refine wpAnyH_ready (rs := [3]) (by kernel_rfl) (by simp) ?_; refine AllReadyH.cons rfl (fun K hK => ?_) AllReadyH.nil)
          go_simp
          refine (HC.out _ hB.out).mono ?_
          rintro e w4 ⟨⟨hp1, rfl⟩ | ⟨hp1, rfl⟩, hb⟩
          case inr => exact ⟨rfl, .inr ⟨by rw [hE01.out (.inr (.inl (by rw [hp1O.out]; show (prOk _ && _) = false; rw [hp1]; rfl)))]; decide, by rw [hE01.out (.inr (.inl (by rw [hp1O.out]; show (prOk _ && _) = false; rw [hp1]; rfl)))]; rfl⟩, kb2.out.trans (KpW.ofBelow (belS hB.out hb) hB2)⟩
          replace hB := Lib.hid (belS hB.out hb)
          clear hb
          refine hK.out _ _ (hS.out _ hB.out) (fun hHeld => ?_)
          clear hK K
          ((refine wpAnyH_ready (rs := [6]) (by kernel_rfl) (by simp) ?_; refine AllReadyH.cons rfl (fun K hK => ?_) AllReadyH.nil); go_simp; refine (HQ.out _ hB.out).mono ?_; rintro e w5 ⟨rfl, hb⟩; replace hB := Lib.hid (belS hB.out hb); clear hb; refine hK.out _ _ (hS.out _ hB.out) (fun hHeld => ?_); clear hK K)
          have hok : p1Ok x = true := by rw [hp1O.out]; show (prOk _ && _) = true; rw [hp1]; rfl
          (refine wpAnyH_ready (rs := [7]) (by kernel_rfl) (by simp) ?_; refine AllReadyH.cons rfl (fun K hK => ?_) AllReadyH.nil)
          refine step_buildSlice (some 54) rfl rfl 56 9 2 #[(0, .tmp 50), (1, .tmp 53)] rfl Tryz.stE (by decide) (by decide) ([confW x.conf, Lib.decDigits x.mem].map sv).toArray ?_ ?_
          · kernel_rfl
          have hb9 := (Below.refl w5.heap.size w5).alloc (Nat.le_refl _) (.cells ([confW x.conf, Lib.decDigits x.mem].map sv).toArray 9)
          have hr9 : Rd (w5.alloc (.cells ([confW x.conf, Lib.decDigits x.mem].map sv).toArray 9)) 1 (some ⟨w5.heap.size, 0, none⟩) 2 2 ([confW x.conf, Lib.decDigits x.mem].map sv) := Rd.litn rfl rfl (by decide)
          replace hB := Lib.hid (belS hB.out hb9)
          generalize w5.heap.size = rb at *
          generalize w5.alloc (.cells ([confW x.conf, Lib.decDigits x.mem].map sv).toArray 9) = w9 at *
          refine hK.out _ _ (hS.out _ hB.out) (fun hHeld => ?_)
          clear hK K
          have HS := Lib.hid (say_any (some ⟨rb, 0, none⟩) 2 2 (hW2.out.below hB.out) hr9 (by decide) (by decide) (by simp))
          have hS9 := Lib.hid (hS.out _ hB.out)
          have kb9 := Lib.hid (KpW.ofBelow (B := B) (b := b) hB.out hB2)
          clear hr9 hb9
          (refine wpAnyH_ready (rs := [8]) (by kernel_rfl) (by simp) ?_; refine AllReadyH.cons rfl (fun K hK => ?_) AllReadyH.nil)
          go_simp
          refine HS.out.mono ?_
          rintro e w10 ⟨rfl, hW10, hk10⟩
          refine hK.out _ _ (hk10.blk hS9.out hmbb (by decide)) (fun hHeld => ?_)
          clear hK K
          refine wpAnyH_done (by kernel_rfl) ?_ _
          go_wp2_with fail
          go_meet
          exact ⟨hok, by rw [hp1W.out]; exact hW10, kb9.out.trans hk10⟩
        · -- trans
          go_upto_region 11 with (fail)
          refine wp_region_held_drew (S := fun W => BlkAt W mb 34 (evC x da dn dc na nn nc)) (by kernel_rfl) hst ?_
          intro hHeld
          clear hst
          (refine wpAnyH_take (i := 0) (v := ?_) rfl (by kernel_rfl) (by kernel_rfl) (by kernel_rfl) (fun _ _ _ h => h) (Or.inl ⟨by rfl, ?_⟩) (by assumption) ?_; rotate_left; (focus (intro w hSw; clear hSw; go_simp; (try with_reducible rfl))); (try simp only [Act.put, List.getElem_toArray, List.getElem_cons_zero, List.getElem_cons_succ, List.setIfInBounds_toArray, List.set_cons_zero, List.set_cons_succ]))
          (refine wpAnyH_take (i := 1) (v := ?_) rfl (by kernel_rfl) (by kernel_rfl) (by kernel_rfl) (fun _ _ _ h => h) (Or.inl ⟨by rfl, ?_⟩) (by assumption) ?_; rotate_left; (focus (intro w hSw; clear hSw; go_simp; (try with_reducible rfl))); (try simp only [Act.put, List.getElem_toArray, List.getElem_cons_zero, List.getElem_cons_succ, List.setIfInBounds_toArray, List.set_cons_zero, List.set_cons_succ]))
          (refine wpAnyH_take (i := 2) (v := .agg #[.int .u64 x.conf.ep, .int .i64 x.conf.rp]) rfl (by kernel_rfl) (by kernel_rfl) (by kernel_rfl) (fun _ _ _ h => h) (yieldsIf_load_mid (by rfl) 25 (.tmp 59) rfl mb 2 rfl [.int .u64 x.conf.ep, .int .i64 x.conf.rp] _ (fun W hW => ev_conf hW) Tryz.underlying25 rfl hcC) (by assumption) ?_; (try simp only [Act.put, List.getElem_toArray, List.getElem_cons_zero, List.getElem_cons_succ, List.setIfInBounds_toArray, List.set_cons_zero, List.set_cons_succ]))
          (refine wpAnyH_take (i := 4) (v := ?_) rfl (by kernel_rfl) (by kernel_rfl) (by kernel_rfl) (fun _ _ _ h => h) (Or.inl ⟨by rfl, ?_⟩) (by assumption) ?_; rotate_left; (focus (intro w hSw; clear hSw; go_simp; (try with_reducible rfl))); (try simp only [Act.put, List.getElem_toArray, List.getElem_cons_zero, List.getElem_cons_succ, List.setIfInBounds_toArray, List.set_cons_zero, List.set_cons_succ]))
          (refine wpAnyH_take (i := 5) (v := .agg #[.int .u64 x.new.ep, .int .i64 x.new.rp]) rfl (by kernel_rfl) (by kernel_rfl) (by kernel_rfl) (fun _ _ _ h => h) (yieldsIf_load_mid (by rfl) 25 (.tmp 62) rfl mb 4 rfl [.int .u64 x.new.ep, .int .i64 x.new.rp] _ (fun W hW => ev_new hW) Tryz.underlying25 rfl hcN) (by assumption) ?_; (try simp only [Act.put, List.getElem_toArray, List.getElem_cons_zero, List.getElem_cons_succ, List.setIfInBounds_toArray, List.set_cons_zero, List.set_cons_succ]))
          (refine wpAnyH_take (i := 7) (v := ?_) rfl (by kernel_rfl) (by kernel_rfl) (by kernel_rfl) (fun _ _ _ h => h) (Or.inl ⟨by rfl, ?_⟩) (by assumption) ?_; rotate_left; (focus (intro w hSw; clear hSw; go_simp; (try with_reducible rfl))); (try simp only [Act.put, List.getElem_toArray, List.getElem_cons_zero, List.getElem_cons_succ, List.setIfInBounds_toArray, List.set_cons_zero, List.set_cons_succ]))
          (refine wpAnyH_take (i := 8) (v := ?_) rfl (by kernel_rfl) (by kernel_rfl) (by kernel_rfl) (fun _ _ _ h => h) (Or.inl ⟨by rfl, ?_⟩) (by assumption) ?_; rotate_left; (focus (intro w hSw; have hc : w.cell? ⟨mb, 6, none⟩ = some (.int .u64 x.mem) := BlkAt.cell hSw rfl; clear hSw; go_simp; (try with_reducible rfl))); (try simp only [Act.put, List.getElem_toArray, List.getElem_cons_zero, List.getElem_cons_succ, List.setIfInBounds_toArray, List.set_cons_zero, List.set_cons_succ]))
          (refine wpAnyH_ready (rs := [3]) (by kernel_rfl) (by simp) ?_; refine AllReadyH.cons rfl (fun K hK => ?_) AllReadyH.nil)
          go_simp
          refine (HC.out _ hB.out).mono ?_
          rintro e w3 ⟨⟨hp1, rfl⟩ | ⟨hp1, rfl⟩, hb⟩
          case inr => exact ⟨rfl, .inr ⟨by rw [hE01.out (.inr (.inl (by rw [hp1O.out]; show (prOk _ && _) = false; rw [hp1]; rfl)))]; decide, by rw [hE01.out (.inr (.inl (by rw [hp1O.out]; show (prOk _ && _) = false; rw [hp1]; rfl)))]; rfl⟩, kb2.out.trans (KpW.ofBelow (belS hB.out hb) hB2)⟩
          replace hB := Lib.hid (belS hB.out hb)
          clear hb
          refine hK.out _ _ (hS.out _ hB.out) (fun hHeld => ?_)
          clear hK K
          (refine wpAnyH_ready (rs := [6]) (by kernel_rfl) (by simp) ?_; refine AllReadyH.cons rfl (fun K hK => ?_) AllReadyH.nil)
          go_simp
          refine (HN.out _ hB.out).mono ?_
          rintro e w4 ⟨⟨hp2, rfl⟩ | ⟨hp2, rfl⟩, hb⟩
          case inr => exact ⟨rfl, .inr ⟨by rw [hE01.out (.inr (.inl (by rw [hp1O.out]; show (prOk _ && (prOk _ && _)) = false; rw [hp1, hp2]; rfl)))]; decide, by rw [hE01.out (.inr (.inl (by rw [hp1O.out]; show (prOk _ && (prOk _ && _)) = false; rw [hp1, hp2]; rfl)))]; rfl⟩, kb2.out.trans (KpW.ofBelow (belS hB.out hb) hB2)⟩
          replace hB := Lib.hid (belS hB.out hb)
          clear hb
          refine hK.out _ _ (hS.out _ hB.out) (fun hHeld => ?_)
          clear hK K
          ((refine wpAnyH_ready (rs := [9]) (by kernel_rfl) (by simp) ?_; refine AllReadyH.cons rfl (fun K hK => ?_) AllReadyH.nil); go_simp; refine (HQ.out _ hB.out).mono ?_; rintro e w5 ⟨rfl, hb⟩; replace hB := Lib.hid (belS hB.out hb); clear hb; refine hK.out _ _ (hS.out _ hB.out) (fun hHeld => ?_); clear hK K)
          have hok : p1Ok x = true := by rw [hp1O.out]; show (prOk _ && (prOk _ && _)) = true; rw [hp1, hp2]; rfl
          (refine wpAnyH_ready (rs := [10]) (by kernel_rfl) (by simp) ?_; refine AllReadyH.cons rfl (fun K hK => ?_) AllReadyH.nil)
          refine step_buildSlice (some 68) rfl rfl 56 9 3 #[(0, .tmp 61), (1, .tmp 64), (2, .tmp 67)] rfl Tryz.stE (by decide) (by decide) ([confW x.conf, confW x.new, Lib.decDigits x.mem].map sv).toArray ?_ ?_
          · kernel_rfl
          have hb9 := (Below.refl w5.heap.size w5).alloc (Nat.le_refl _) (.cells ([confW x.conf, confW x.new, Lib.decDigits x.mem].map sv).toArray 9)
          have hr9 : Rd (w5.alloc (.cells ([confW x.conf, confW x.new, Lib.decDigits x.mem].map sv).toArray 9)) 1 (some ⟨w5.heap.size, 0, none⟩) 3 3 ([confW x.conf, confW x.new, Lib.decDigits x.mem].map sv) := Rd.litn rfl rfl (by decide)
          replace hB := Lib.hid (belS hB.out hb9)
          generalize w5.heap.size = rb at *
          generalize w5.alloc (.cells ([confW x.conf, confW x.new, Lib.decDigits x.mem].map sv).toArray 9) = w9 at *
          refine hK.out _ _ (hS.out _ hB.out) (fun hHeld => ?_)
          clear hK K
          have HS := Lib.hid (say_any (some ⟨rb, 0, none⟩) 3 3 (hW2.out.below hB.out) hr9 (by decide) (by decide) (by simp))
          have hS9 := Lib.hid (hS.out _ hB.out)
          have kb9 := Lib.hid (KpW.ofBelow (B := B) (b := b) hB.out hB2)
          clear hr9 hb9
          (refine wpAnyH_ready (rs := [11]) (by kernel_rfl) (by simp) ?_; refine AllReadyH.cons rfl (fun K hK => ?_) AllReadyH.nil)
          go_simp
          refine HS.out.mono ?_
          rintro e w10 ⟨rfl, hW10, hk10⟩
          refine hK.out _ _ (hk10.blk hS9.out hmbb (by decide)) (fun hHeld => ?_)
          clear hK K
          refine wpAnyH_done (by kernel_rfl) ?_ _
          go_wp2_with fail
          go_meet
          exact ⟨hok, by rw [hp1W.out]; exact hW10, kb9.out.trans hk10⟩
        · -- start
          clear hst hB HC HN HQ hS
          go_wp2_with fail
          go_meet
          exact ⟨by rw [hp1O.out]; rfl, by rw [hp1W.out]; show WrT B _ b ([_, _] ++ []); rw [List.append_nil]; exact hW2.out, KpW.refl _ _ _⟩
        · -- stop
          clear hst hB HC HN HQ hS
          go_wp2_with fail
          go_meet
          exact ⟨by rw [hp1O.out]; rfl, by rw [hp1W.out]; show WrT B _ b ([_, _] ++ []); rw [List.append_nil]; exact hW2.out, KpW.refl _ _ _⟩
        · -- 7
          have hvk : Hid (viewOk x = p1Ok x) := Lib.hid (by
            rw [hp1O.out]
            unfold viewOk
            rw [show decide (x.kind = 7) = true from by rw [hkk.out]; decide]
            simp [part1L, fieldOk])
          have hvw : Hid (fieldW .v x ++ x.names.map nameW = p1W x) := Lib.hid (by rw [hp1W.out]; simp [part1L, fieldW])
          have HV := Lib.hid (view_any hE2.out hEB hT2.out hW2.out (by simp) hB8)
          have hMI := Tryz.evI (x := x) (da := da) (dn := dn) (dc := dc) (na := na) (nn := nn) (nc := nc)
          have hMx := hM2.out
          clear hst hB HC HN HQ hS
          go_wp2_with (first | (refine wpList_blk_load rfl (.tmp 3) rfl Tryz.underlying34 rfl rfl hMx hMI ?_))
          refine HV.out.mono ?_
          rintro e w3 ⟨⟨hv1, rfl, hW3⟩ | ⟨hv1, rfl⟩, hk3⟩
          case inr => exact ⟨rfl, .inr ⟨by rw [hE01.out (.inr (.inl (hvk.out ▸ hv1)))]; decide, by rw [hE01.out (.inr (.inl (hvk.out ▸ hv1)))]; rfl⟩, kb2.out.trans hk3⟩
          rw [hvw.out] at hW3
          rw [hvk.out] at hv1
          clear HV hMx
          go_wp2_with fail
          go_meet
          exact ⟨hv1, hW3, hk3⟩
        · -- 8
          have hvk : Hid (viewOk x = p1Ok x) := Lib.hid (by
            rw [hp1O.out]
            unfold viewOk
            rw [show decide (x.kind = 7) = false from by rw [hkk.out]; decide]
            simp [part1L, fieldOk, Bool.and_assoc])
          have hvw : Hid (fieldW .v x ++ x.names.map nameW = p1W x) := Lib.hid (by rw [hp1W.out]; simp [part1L, fieldW])
          have HV := Lib.hid (view_any hE2.out hEB hT2.out hW2.out (by simp) hB8)
          have hMI := Tryz.evI (x := x) (da := da) (dn := dn) (dc := dc) (na := na) (nn := nn) (nc := nc)
          have hMx := hM2.out
          clear hst hB HC HN HQ hS
          go_wp2_with (first | (refine wpList_blk_load rfl (.tmp 3) rfl Tryz.underlying34 rfl rfl hMx hMI ?_))
          refine HV.out.mono ?_
          rintro e w3 ⟨⟨hv1, rfl, hW3⟩ | ⟨hv1, rfl⟩, hk3⟩
          case inr => exact ⟨rfl, .inr ⟨by rw [hE01.out (.inr (.inl (hvk.out ▸ hv1)))]; decide, by rw [hE01.out (.inr (.inl (hvk.out ▸ hv1)))]; rfl⟩, kb2.out.trans hk3⟩
          rw [hvw.out] at hW3
          rw [hvk.out] at hv1
          clear HV hMx
          go_wp2_with fail
          go_meet
          exact ⟨hv1, hW3, hk3⟩
        · -- 9
          have hvk : Hid (viewOk x = p1Ok x) := Lib.hid (by
            rw [hp1O.out]
            unfold viewOk
            rw [show decide (x.kind = 7) = false from by rw [hkk.out]; decide]
            simp [part1L, fieldOk, Bool.and_assoc])
          have hvw : Hid (fieldW .v x ++ x.names.map nameW = p1W x) := Lib.hid (by rw [hp1W.out]; simp [part1L, fieldW])
          have HV := Lib.hid (view_any hE2.out hEB hT2.out hW2.out (by simp) hB8)
          have hMI := Tryz.evI (x := x) (da := da) (dn := dn) (dc := dc) (na := na) (nn := nn) (nc := nc)
          have hMx := hM2.out
          clear hst hB HC HN HQ hS
          go_wp2_with (first | (refine wpList_blk_load rfl (.tmp 3) rfl Tryz.underlying34 rfl rfl hMx hMI ?_))
          refine HV.out.mono ?_
          rintro e w3 ⟨⟨hv1, rfl, hW3⟩ | ⟨hv1, rfl⟩, hk3⟩
          case inr => exact ⟨rfl, .inr ⟨by rw [hE01.out (.inr (.inl (hvk.out ▸ hv1)))]; decide, by rw [hE01.out (.inr (.inl (hvk.out ▸ hv1)))]; rfl⟩, kb2.out.trans hk3⟩
          rw [hvw.out] at hW3
          rw [hvk.out] at hv1
          clear HV hMx
          go_wp2_with fail
          go_meet
          exact ⟨hv1, hW3, hk3⟩
        · -- 10
          have hvk : Hid (viewOk x = p1Ok x) := Lib.hid (by
            rw [hp1O.out]
            unfold viewOk
            rw [show decide (x.kind = 7) = false from by rw [hkk.out]; decide]
            simp [part1L, fieldOk, Bool.and_assoc])
          have hvw : Hid (fieldW .v x ++ x.names.map nameW = p1W x) := Lib.hid (by rw [hp1W.out]; simp [part1L, fieldW])
          have HV := Lib.hid (view_any hE2.out hEB hT2.out hW2.out (by simp) hB8)
          have hMI := Tryz.evI (x := x) (da := da) (dn := dn) (dc := dc) (na := na) (nn := nn) (nc := nc)
          have hMx := hM2.out
          clear hst hB HC HN HQ hS
          go_wp2_with (first | (refine wpList_blk_load rfl (.tmp 3) rfl Tryz.underlying34 rfl rfl hMx hMI ?_))
          refine HV.out.mono ?_
          rintro e w3 ⟨⟨hv1, rfl, hW3⟩ | ⟨hv1, rfl⟩, hk3⟩
          case inr => exact ⟨rfl, .inr ⟨by rw [hE01.out (.inr (.inl (hvk.out ▸ hv1)))]; decide, by rw [hE01.out (.inr (.inl (hvk.out ▸ hv1)))]; rfl⟩, kb2.out.trans hk3⟩
          rw [hvw.out] at hW3
          rw [hvk.out] at hv1
          clear HV hMx
          go_wp2_with fail
          go_meet
          exact ⟨hv1, hW3, hk3⟩
        · -- 11
          have hvk : Hid (viewOk x = p1Ok x) := Lib.hid (by
            rw [hp1O.out]
            unfold viewOk
            rw [show decide (x.kind = 7) = false from by rw [hkk.out]; decide]
            simp [part1L, fieldOk, Bool.and_assoc])
          have hvw : Hid (fieldW .v x ++ x.names.map nameW = p1W x) := Lib.hid (by rw [hp1W.out]; simp [part1L, fieldW])
          have HV := Lib.hid (view_any hE2.out hEB hT2.out hW2.out (by simp) hB8)
          have hMI := Tryz.evI (x := x) (da := da) (dn := dn) (dc := dc) (na := na) (nn := nn) (nc := nc)
          have hMx := hM2.out
          clear hst hB HC HN HQ hS
          go_wp2_with (first | (refine wpList_blk_load rfl (.tmp 3) rfl Tryz.underlying34 rfl rfl hMx hMI ?_))
          refine HV.out.mono ?_
          rintro e w3 ⟨⟨hv1, rfl, hW3⟩ | ⟨hv1, rfl⟩, hk3⟩
          case inr => exact ⟨rfl, .inr ⟨by rw [hE01.out (.inr (.inl (hvk.out ▸ hv1)))]; decide, by rw [hE01.out (.inr (.inl (hvk.out ▸ hv1)))]; rfl⟩, kb2.out.trans hk3⟩
          rw [hvw.out] at hW3
          rw [hvk.out] at hv1
          clear HV hMx
          go_wp2_with fail
          go_meet
          exact ⟨hv1, hW3, hk3⟩
        · -- 12
          have hvk : Hid (viewOk x = p1Ok x) := Lib.hid (by
            rw [hp1O.out]
            unfold viewOk
            rw [show decide (x.kind = 7) = false from by rw [hkk.out]; decide]
            simp [part1L, fieldOk, Bool.and_assoc])
          have hvw : Hid (fieldW .v x ++ x.names.map nameW = p1W x) := Lib.hid (by rw [hp1W.out]; simp [part1L, fieldW])
          have HV := Lib.hid (view_any hE2.out hEB hT2.out hW2.out (by simp) hB8)
          have hMI := Tryz.evI (x := x) (da := da) (dn := dn) (dc := dc) (na := na) (nn := nn) (nc := nc)
          have hMx := hM2.out
          clear hst hB HC HN HQ hS
          go_wp2_with (first | (refine wpList_blk_load rfl (.tmp 3) rfl Tryz.underlying34 rfl rfl hMx hMI ?_))
          refine HV.out.mono ?_
          rintro e w3 ⟨⟨hv1, rfl, hW3⟩ | ⟨hv1, rfl⟩, hk3⟩
          case inr => exact ⟨rfl, .inr ⟨by rw [hE01.out (.inr (.inl (hvk.out ▸ hv1)))]; decide, by rw [hE01.out (.inr (.inl (hvk.out ▸ hv1)))]; rfl⟩, kb2.out.trans hk3⟩
          rw [hvw.out] at hW3
          rw [hvk.out] at hv1
          clear HV hMx
          go_wp2_with fail
          go_meet
          exact ⟨hv1, hW3, hk3⟩
      case rest => as_aux_lemma =>
        obtain ⟨hok, hW3, hk3⟩ := hcut
        obtain ⟨w3, rfl⟩ : ∃ z, z = wc := ⟨_, rfl⟩
        have hM3 := Lib.hid (hk3.blk hM2.out hmbb (by decide))
        have hE3 := Lib.hid (hE2.out.kpW hEB hk3)
        have hT3 := Lib.hid (hk3.tl hT2.out hB8)
        have kb3 := Lib.hid (kb2.out.trans hk3)
        have hB3 : B ≤ w3.heap.size := Nat.le_trans hB2 hk3.size
        have k0 : w3.cell? ⟨mb, 0, none⟩ = some (.int .i64 (k : Int)) := by rw [← hkk.out]; exact BlkAt.cell hM3.out rfl
        have hwl : ([prW x.proc, kindW k] ++ p1W x).length ≤ 1100000 := by
          rw [List.length_append, hp1W.out]
          have h1 : (x.names.map nameW).length ≤ 1048576 := by rw [List.length_map, hE3.out.nlen]; exact hE3.out.nn
          have h2 : ((part1L k).flatMap (fieldW · x)).length ≤ 1048579 := by
            obtain rfl | rfl | rfl | rfl | rfl | rfl | rfl | rfl | rfl | rfl | rfl | rfl : k = 1 ∨ k = 2 ∨ k = 3 ∨ k = 4 ∨ k = 5 ∨ k = 6 ∨ k = 7 ∨ k = 8 ∨ k = 9 ∨ k = 10 ∨ k = 11 ∨ k = 12 := by omega
            all_goals simp [part1L, fieldW] <;> (try (rw [List.length_map] at h1; omega))
          simp only [List.length_cons, List.length_nil]
          omega
        replace hok := Lib.hid hok
        replace hW3 := Lib.hid hW3
        have hcM := Tryz.mgL (x := x) (da := da) (dn := dn) (dc := dc)
        clear hM2 hE2 hT2 hW2 hk3 kb2 hmw
        have hMG : Hid (∀ W, WrT B W b ([prW x.proc, kindW k] ++ p1W x) → KpW B b w3 W → Calls Tryz.prog 67 #[.pointer (some ⟨b, 0, none⟩), .agg #[.int .i64 x.m.frm, .int .u32 x.m.seq, .int .u64 x.m.stamp, .int .i64 x.m.svc, .slice da dn dc, .string (mkB x.m.pay)]] W (PostW (prOk x.m.frm && prOk x.m.svc) B b (([prW x.proc, kindW k] ++ p1W x) ++ msgW x.m) W)) := Lib.hid (fun W hw hkw => msg_any x.m ⟨hE3.out.wf.mg.1, hE3.out.wf.mg.2.1, hE3.out.wf.mg.2.2, hE3.out.pay⟩ da dn dc (hkw.rd hE3.out.dr hEB.d) hE3.out.dn (hkw.tl hT3.out hB8) hw (by omega) hB8)
        have hBY := Lib.hid (fun W => bytes_any x.state hE3.out.st W)
        clear f1 f2 f3 f4 f5 f6 f7 f8 hkI1 hkI2
        obtain rfl | rfl | rfl | rfl | rfl | rfl | rfl | rfl | rfl | rfl | rfl | rfl : k = 1 ∨ k = 2 ∨ k = 3 ∨ k = 4 ∨ k = 5 ∨ k = 6 ∨ k = 7 ∨ k = 8 ∨ k = 9 ∨ k = 10 ∨ k = 11 ∨ k = 12 := by omega
        · -- 1
          have hm2 : Hid (p2Ok x = (prOk x.m.frm && prOk x.m.svc)) := Lib.hid (by rw [hp2O.out]; simp [part2L, fieldOk])
          have hw2 : Hid (msgW x.m = p2W x) := Lib.hid (by rw [hp2W.out]; simp [part2L, fieldW])
          have r7 := ev_msg hM3.out
          have HG := Lib.hid (hMG.out w3 hW3.out (KpW.refl _ _ _))
          clear hMG hBY
          go_wp2_with (first | (refine wpList_load_mid rfl _ (.tmp 88) rfl mb 7 rfl [.int .i64 x.m.frm, .int .u32 x.m.seq, .int .u64 x.m.stamp, .int .i64 x.m.svc, .slice da dn dc, .string (mkB x.m.pay)] _ r7 Tryz.underlying29 rfl hcM ?_))
          refine HG.out.mono ?_
          rintro e w4 ⟨⟨hv1, rfl, hW4⟩ | ⟨hv1, rfl⟩, hk4⟩
          case inr => exact ⟨rfl, .inr ⟨by rw [hE01.out (.inr (.inr (hm2.out.trans hv1)))]; decide, by rw [hE01.out (.inr (.inr (hm2.out.trans hv1)))]; rfl⟩, kb3.out.trans hk4⟩
          have hfin := Lib.hid (hE00.out hp.out hok.out (hm2.out.trans hv1))
          rw [hw2.out, ← hEW.out] at hW4
          have hkf := Lib.hid (kb3.out.trans hk4)
          clear HG hk4 r7 k0
          go_wp2
          go_end0
          exact ⟨.inl ⟨hfin.out, rfl, by rw [List.nil_append]; exact hW4⟩, hkf.out⟩
        · -- 2
          have hm2 : Hid (p2Ok x = (prOk x.m.frm && prOk x.m.svc)) := Lib.hid (by rw [hp2O.out]; simp [part2L, fieldOk])
          have hw2 : Hid (msgW x.m = p2W x) := Lib.hid (by rw [hp2W.out]; simp [part2L, fieldW])
          have r7 := ev_msg hM3.out
          have HG := Lib.hid (hMG.out w3 hW3.out (KpW.refl _ _ _))
          clear hMG hBY
          go_wp2_with (first | (refine wpList_load_mid rfl _ (.tmp 88) rfl mb 7 rfl [.int .i64 x.m.frm, .int .u32 x.m.seq, .int .u64 x.m.stamp, .int .i64 x.m.svc, .slice da dn dc, .string (mkB x.m.pay)] _ r7 Tryz.underlying29 rfl hcM ?_))
          refine HG.out.mono ?_
          rintro e w4 ⟨⟨hv1, rfl, hW4⟩ | ⟨hv1, rfl⟩, hk4⟩
          case inr => exact ⟨rfl, .inr ⟨by rw [hE01.out (.inr (.inr (hm2.out.trans hv1)))]; decide, by rw [hE01.out (.inr (.inr (hm2.out.trans hv1)))]; rfl⟩, kb3.out.trans hk4⟩
          have hfin := Lib.hid (hE00.out hp.out hok.out (hm2.out.trans hv1))
          rw [hw2.out, ← hEW.out] at hW4
          have hkf := Lib.hid (kb3.out.trans hk4)
          clear HG hk4 r7 k0
          go_wp2
          go_end0
          exact ⟨.inl ⟨hfin.out, rfl, by rw [List.nil_append]; exact hW4⟩, hkf.out⟩
        · -- 3
          have hfin := Lib.hid (hE00.out hp.out hok.out (by rw [hp2O.out]; rfl))
          have hW4 := hW3.out
          have hw0 : p2W x = [] := by rw [hp2W.out]; rfl
          have hE9 := hEW.out
          rw [hw0, List.append_nil] at hE9
          rw [← hE9] at hW4
          replace hW4 := Lib.hid hW4
          clear hMG hBY hw0 hE9
          go_wp2
          go_end0
          exact ⟨.inl ⟨hfin.out, rfl, by rw [List.nil_append]; exact hW4.out⟩, kb3.out⟩
        · -- 4
          have hfin := Lib.hid (hE00.out hp.out hok.out (by rw [hp2O.out]; rfl))
          have hW4 := hW3.out
          have hw0 : p2W x = [] := by rw [hp2W.out]; rfl
          have hE9 := hEW.out
          rw [hw0, List.append_nil] at hE9
          rw [← hE9] at hW4
          replace hW4 := Lib.hid hW4
          clear hMG hBY hw0 hE9
          go_wp2
          go_end0
          exact ⟨.inl ⟨hfin.out, rfl, by rw [List.nil_append]; exact hW4.out⟩, kb3.out⟩
        · -- 5
          have hfin := Lib.hid (hE00.out hp.out hok.out (by rw [hp2O.out]; rfl))
          have hW4 := hW3.out
          have hw0 : p2W x = [] := by rw [hp2W.out]; rfl
          have hE9 := hEW.out
          rw [hw0, List.append_nil] at hE9
          rw [← hE9] at hW4
          replace hW4 := Lib.hid hW4
          clear hMG hBY hw0 hE9
          go_wp2
          go_end0
          exact ⟨.inl ⟨hfin.out, rfl, by rw [List.nil_append]; exact hW4.out⟩, kb3.out⟩
        · -- 6
          have hfin := Lib.hid (hE00.out hp.out hok.out (by rw [hp2O.out]; rfl))
          have hW4 := hW3.out
          have hw0 : p2W x = [] := by rw [hp2W.out]; rfl
          have hE9 := hEW.out
          rw [hw0, List.append_nil] at hE9
          rw [← hE9] at hW4
          replace hW4 := Lib.hid hW4
          clear hMG hBY hw0 hE9
          go_wp2
          go_end0
          exact ⟨.inl ⟨hfin.out, rfl, by rw [List.nil_append]; exact hW4.out⟩, kb3.out⟩
        · -- 7
          have hfin := Lib.hid (hE00.out hp.out hok.out (by rw [hp2O.out]; rfl))
          have hW4 := hW3.out
          have hw0 : p2W x = [] := by rw [hp2W.out]; rfl
          have hE9 := hEW.out
          rw [hw0, List.append_nil] at hE9
          rw [← hE9] at hW4
          replace hW4 := Lib.hid hW4
          clear hMG hBY hw0 hE9
          go_wp2
          go_end0
          exact ⟨.inl ⟨hfin.out, rfl, by rw [List.nil_append]; exact hW4.out⟩, kb3.out⟩
        · -- 8
          have hm2 : Hid (p2Ok x = (prOk x.m.frm && prOk x.m.svc)) := Lib.hid (by rw [hp2O.out]; simp [part2L, fieldOk])
          have hw2 : Hid (msgW x.m = p2W x) := Lib.hid (by rw [hp2W.out]; simp [part2L, fieldW])
          have r7 := ev_msg hM3.out
          have HG := Lib.hid (hMG.out w3 hW3.out (KpW.refl _ _ _))
          clear hMG hBY
          go_wp2_with (first | (refine wpList_load_mid rfl _ (.tmp 88) rfl mb 7 rfl [.int .i64 x.m.frm, .int .u32 x.m.seq, .int .u64 x.m.stamp, .int .i64 x.m.svc, .slice da dn dc, .string (mkB x.m.pay)] _ r7 Tryz.underlying29 rfl hcM ?_))
          refine HG.out.mono ?_
          rintro e w4 ⟨⟨hv1, rfl, hW4⟩ | ⟨hv1, rfl⟩, hk4⟩
          case inr => exact ⟨rfl, .inr ⟨by rw [hE01.out (.inr (.inr (hm2.out.trans hv1)))]; decide, by rw [hE01.out (.inr (.inr (hm2.out.trans hv1)))]; rfl⟩, kb3.out.trans hk4⟩
          have hfin := Lib.hid (hE00.out hp.out hok.out (hm2.out.trans hv1))
          rw [hw2.out, ← hEW.out] at hW4
          have hkf := Lib.hid (kb3.out.trans hk4)
          clear HG hk4 r7 k0
          go_wp2
          go_end0
          exact ⟨.inl ⟨hfin.out, rfl, by rw [List.nil_append]; exact hW4⟩, hkf.out⟩
        · -- 9
          have hm2 : Hid (p2Ok x = (prOk x.m.frm && prOk x.m.svc)) := Lib.hid (by rw [hp2O.out]; simp [part2L, fieldOk])
          have hw2 : Hid (msgW x.m = p2W x) := Lib.hid (by rw [hp2W.out]; simp [part2L, fieldW])
          have r7 := ev_msg hM3.out
          have HG := Lib.hid (hMG.out w3 hW3.out (KpW.refl _ _ _))
          clear hMG hBY
          go_wp2_with (first | (refine wpList_load_mid rfl _ (.tmp 88) rfl mb 7 rfl [.int .i64 x.m.frm, .int .u32 x.m.seq, .int .u64 x.m.stamp, .int .i64 x.m.svc, .slice da dn dc, .string (mkB x.m.pay)] _ r7 Tryz.underlying29 rfl hcM ?_))
          refine HG.out.mono ?_
          rintro e w4 ⟨⟨hv1, rfl, hW4⟩ | ⟨hv1, rfl⟩, hk4⟩
          case inr => exact ⟨rfl, .inr ⟨by rw [hE01.out (.inr (.inr (hm2.out.trans hv1)))]; decide, by rw [hE01.out (.inr (.inr (hm2.out.trans hv1)))]; rfl⟩, kb3.out.trans hk4⟩
          have hfin := Lib.hid (hE00.out hp.out hok.out (hm2.out.trans hv1))
          rw [hw2.out, ← hEW.out] at hW4
          have hkf := Lib.hid (kb3.out.trans hk4)
          clear HG hk4 r7 k0
          go_wp2
          go_end0
          exact ⟨.inl ⟨hfin.out, rfl, by rw [List.nil_append]; exact hW4⟩, hkf.out⟩
        · -- 10
          have hfin := Lib.hid (hE00.out hp.out hok.out (by rw [hp2O.out]; rfl))
          have hW4 := hW3.out
          have hw0 : p2W x = [] := by rw [hp2W.out]; rfl
          have hE9 := hEW.out
          rw [hw0, List.append_nil] at hE9
          rw [← hE9] at hW4
          replace hW4 := Lib.hid hW4
          clear hMG hBY hw0 hE9
          go_wp2
          go_end0
          exact ⟨.inl ⟨hfin.out, rfl, by rw [List.nil_append]; exact hW4.out⟩, kb3.out⟩
        · -- 11
          have hfin := Lib.hid (hE00.out hp.out hok.out (by rw [hp2O.out]; rfl))
          have hw2 : Hid ([hexW x.state] = p2W x) := Lib.hid (by rw [hp2W.out]; rfl)
          have k18 : w3.cell? ⟨mb, 18, none⟩ = some (.string (mkB x.state)) := BlkAt.cell hM3.out rfl
          have HB := Lib.hid (hBY.out w3)
          clear hMG hBY
          go_wp2_with fail
          refine HB.out.mono ?_
          rintro e w4 ⟨rfl, hb4⟩
          have hr4 : Rd (w4.alloc (.cells #[.string (mkB (hexW x.state))] 9)) 1 (some ⟨w4.heap.size, 0, none⟩) 1 1 ([hexW x.state].map sv) := Rd.litn rfl rfl (by decide)
          have hb5 := belS hb4 (alloc_below w4 (.cells #[.string (mkB (hexW x.state))] 9))
          have HS := Lib.hid (say_any (some ⟨w4.heap.size, 0, none⟩) 1 1 (hW3.out.below hb5) hr4 (by decide) (by decide) (by omega))
          have kb9 := Lib.hid (kb3.out.trans (KpW.ofBelow (B := B) (b := b) hb5 hB3))
          clear hr4 hb4 hb5 HB k0 k18
          go_wp2_with fail
          refine HS.out.mono ?_
          rintro e w10 ⟨rfl, hW10, hk10⟩
          rw [hw2.out, ← hEW.out] at hW10
          have hkf := Lib.hid (kb9.out.trans hk10)
          clear hk10 kb9 HS
          go_wp2
          go_end0
          exact ⟨.inl ⟨hfin.out, rfl, by rw [List.nil_append]; exact hW10⟩, hkf.out⟩
        · -- 12
          have hfin := Lib.hid (hE00.out hp.out hok.out (by rw [hp2O.out]; rfl))
          have hW4 := hW3.out
          have hw0 : p2W x = [] := by rw [hp2W.out]; rfl
          have hE9 := hEW.out
          rw [hw0, List.append_nil] at hE9
          rw [← hE9] at hW4
          replace hW4 := Lib.hid hW4
          clear hMG hBY hw0 hE9
          go_wp2
          go_end0
          exact ⟨.inl ⟨hfin.out, rfl, by rw [List.nil_append]; exact hW4.out⟩, kb3.out⟩
end
end Go.Proofs.YtpkknhhohbobaaaGreatDoor
