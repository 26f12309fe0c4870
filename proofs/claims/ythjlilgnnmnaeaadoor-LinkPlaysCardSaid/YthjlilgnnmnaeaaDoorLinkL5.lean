/- the walk of LinkPlays -/
import Derived.Test.YthjlilgnnmnaeaaDoorLinkL2
import Derived.Test.YthjlilgnnmnaeaaDoorLinkW
namespace Go.Proofs.YthjlilgnnmnaeaaDoor
open Go.RowKit Go.Sort

/-- Both windows are carried: the program's at b, the document's at mb, one state. -/
structure PEnv (w0 : World) (b mb : Nat) (s : WS) (W : World) : Prop where
  e : LEnv w0 b s W
  m : RefAt W mb s
  old : w0.heap.size ≤ mb
  ne : b ≠ mb
section
variable {w0 W W' : World} {b mb : Nat} {s t : WS}
theorem PEnv.below (h : PEnv w0 b mb s W) (k : Below W.heap.size W W') : PEnv w0 b mb s W' := ⟨h.e.below k, h.m.below k h.m.lt, h.old, h.ne⟩
/-- Half the way: the program's window has gone on. -/
theorem PEnv.half (h : PEnv w0 b mb s W) (h0 : 0 < w0.heap.size) (k : Kp b W W') (hw : WinAt W' b t) : LEnv w0 b t W' ∧ RefAt W' mb s := ⟨h.e.kp h0 k hw, k.blk h.m (Ne.symm h.ne)⟩
theorem LEnv.kpo (h : LEnv w0 b s W) (h0 : 0 < w0.heap.size) (ho : w0.heap.size ≤ mb) (hn : b ≠ mb) (k : Kp mb W W') : LEnv w0 b s W' :=
  ⟨Kp.below h.bel k ho h.bel.size, h.old, ⟨Nat.lt_of_lt_of_le h.tab.1 k.size, fun j hj => (World.cell?_of_block (w := W) (k.block 0 h.tab.1 (by omega))).trans (h.tab.2 j hj)⟩, k.blk h.win hn⟩
end
set_option maxHeartbeats 16000000 in
set_option maxRecDepth 100000 in
theorem plays_main (me size : Int) (members : Nat) (sa : Option Addr) (n c : Nat) (l : List (Int × Int × Int)) (w : World) (hT : Tab w) (hm : members < 18446744073709551616)
    (hr : Rd w 3 sa n c (laC l)) (hl : Hid (l.length = n)) (hwf : ∀ x ∈ l, (Lit.int .i64 x.1).wf = true ∧ (Lit.int .i64 x.2.1).wf = true ∧ (Lit.int .u32 x.2.2).wf = true) (hn : n ≤ 300) :
    Calls Tryd.prog 3 #[.int .i64 me, .int .u64 members, .int .i64 size, .slice sa n c] w fun e w' => e = .returned (.bool true) ∧ Below w.heap.size w w' := by
  have hpos := hT.1
  go_enter Tryd.func3, Tryd.ntmps3
  go_wp2_with fail
  refine (awake_any _ hT).mono ?_
  rintro e w1 ⟨rfl, hb1⟩
  have hT1 := hT.below hb1 hpos
  go_wp2_with fail
  refine (new_any me members size _ hm).mono ?_
  rintro e w2 ⟨b, rfl, hb, hwin, hb2⟩
  have E : LEnv w b (WS.nw me members size) w2 := ⟨belS hb1 hb2, Nat.le_trans hb1.size hb, hT1.below hb2 hT1.1, hwin⟩
  clear hwin hb2 hT1 hb1
  have HW := Lib.hid (show (WS.nw me members size).Ok ∧ (WS.nw me members size).sent = 0 from ⟨WS.nw_ok _ _ _ hm, rfl⟩)
  have HNew := Lib.hid (fun W => rnew_any me members size W hm)
  generalize WS.nw me members size = s0 at *
  go_wp2_with fail
  refine (HNew.out _).mono ?_
  rintro e w3 ⟨rfl, hbb⟩
  replace E := E.below hbb
  clear hbb
  have hsize := E.bel.size
  have hbm := Nat.ne_of_lt E.win.lt
  go_wp2_with (first
    | (refine wpList_blk_alloc rfl rfl Tryd.refZ w3.heap.size rfl ?_; have hN := RefAt.new w3 WS.zero; replace E := E.below ((Below.refl _ _).alloc (Nat.le_refl _) (.cells (refC WS.zero) 32)); generalize w3.alloc _ = w4 at *)
    | (refine wpList_blk_store rfl (.tmp 10) (.tmp 30) rfl rfl rfl hN (Tryd.refI _) (by rw [refC_size, refC_size]) (refC_one _) ?_; intro w5 hB hK hsz))
  have P : PEnv w b w3.heap.size s0 w5 := ⟨E.kpo hpos hsize hbm hK, hB, hsize, hbm⟩
  clear E hB hK hsz hN hsize hbm
  generalize w3.heap.size = mb at *
  go_loopw [11] (fun i wr => ∃ (k : Nat) (s : WS), k ≤ n ∧ i = .int .i64 k ∧ Hid (s.Ok ∧ s.sent ≤ k) ∧ PEnv w b mb s wr) (fun i _ => n - (intOf i).toNat)
  case atStart => exact ⟨0, s0, Nat.zero_le _, rfl, ⟨HW.out.1, Nat.le_of_eq HW.out.2⟩, P⟩
  case round =>
    clear P HW
    obtain ⟨k, s, hk, rfl, HI, E⟩ := hrel
    by_cases hlt : k < n
    · have hkl : k < l.length := by rw [hl.out]; exact hlt
      obtain ⟨bs, off, rfl, _⟩ := hr.addr (by omega)
      obtain ⟨c0, c1, c2⟩ := (hr.below E.e.bel (Nat.le_refl _)).act3 k hkl
      have hwf' := hwf _ (List.getElem_mem hkl)
      generalize l[k] = a at *
      obtain ⟨p, q, z⟩ := a
      simp only at c0 c1 c2 hwf'
      obtain ⟨z, rfl⟩ : ∃ m : Nat, z = m := ⟨z.toNat, by have := hwf'.2.2; simp [Lit.wf, IntKind.min, IntKind.max, IntKind.bits, IntKind.signed] at this; omega⟩
      have hq := wf_i64_bounds hwf'.2.1
      clear hwf'
      go_wp2
      have hab : b < wr.heap.size := E.e.win.lt
      have hamb : mb < wr.heap.size := E.m.lt
      have hA := BlkAt.new wr 35 #[.int .i64 p, .int .i64 q, .int .u32 z]
      replace E := E.below ((Below.refl _ _).alloc (Nat.le_refl _) (.cells #[.int .i64 p, .int .i64 q, .int .u32 z] 35))
      clear c0 c1 c2
      generalize wr.alloc _ = w3 at *
      generalize wr.heap.size = ab at *
      have hs := HI.out.1
      have hsk := HI.out.2
      have HS := Lib.hid hs
      have k1 := cell_regrown (hA.cell (i := 1) rfl)
      have kR := fun d os => Calls.regrown_of (room_any s hs q b _ (E.e.below (below_regrown w3 d os)).win (E.e.below (below_regrown w3 d os)).tab hq.1 hq.2)
      have kR2 := fun d os => Calls.regrown_of (rroom_any s hs q (grow (redrawn w3 d) os) hq.1 hq.2)
      have hM := E.m
      refine wp_region_quiet_below (by kernel_rfl) (by kernel_rfl) ?_
      iterate 9 (first | (refine wpQuiet_blk_load (by rfl) (.tmp 10) rfl Tryd.underlying32 rfl rfl hM (Tryd.refI _) ?_; simp only [Act.put, List.setIfInBounds_toArray, List.set_cons_zero, List.set_cons_succ]) | go_big_quiet_step (first | exact kR _ _ | exact kR2 _ _))
      refine wpQuiet_nil ?_; intro w4 hw'; obtain ⟨⟨dq, osq⟩, hw''⟩ := hw'; subst hw''
      have hbb := below_regrown w3 dq osq
      replace E := E.below hbb; replace hA := hA.below hbb hA.lt; clear hbb
      clear kR kR2 k1 hM
      generalize grow (redrawn w3 dq) osq = w4 at *
      have a0 := hA.cell (i := 0) rfl
      have a1 := hA.cell (i := 1) rfl
      have a2 := hA.cell (i := 2) rfl
      by_cases hp : p < 0
      · cases hm : s.room q with
        | true =>
          have HN := next_any s hs q b _ E.e.win E.e.tab hq.1 hq.2
          rw [show s.nextV q = .tuple #[.int .u32 ((s.sent : Int) + 1), .int .i64 0] from by rw [WS.nextV, if_pos hm], show s.nexts q = s.next from by rw [WS.nexts, if_pos hm]] at HN
          have HN2 := fun W => rnext_any s hs q W hq.1 hq.2
          rw [show s.nextR q = .tuple #[.agg (refC s.next), .int .u32 ((s.sent : Int) + 1), .int .i64 0] from by rw [WS.nextR, if_pos hm]] at HN2
          have HL := Lib.hid (show s.next.Ok ∧ s.next.sent ≤ k + 1 from ⟨by have := WS.nexts_ok hs q (by omega); rwa [WS.nexts, if_pos hm] at this, by show s.sent + 1 ≤ _; omega⟩)
          have HN := Lib.hid HN
          have HN2 := Lib.hid HN2
          generalize s.next = t at *
          have hne := E.ne
          have hold := E.old
          clear hm hs HI HS
          go_wp2_with fail
          refine HN.out.mono ?_
          rintro e w5 ⟨rfl, hwin, hkp⟩
          obtain ⟨E1, hM⟩ := E.half hpos hkp hwin
          replace hA : BlkAt w5 ab _ _ := hkp.blk hA (by omega)
          clear HN hwin hkp E a0 a1 a2
          have a0 := hA.cell (i := 0) rfl
          have a1 := hA.cell (i := 1) rfl
          have a2 := hA.cell (i := 2) rfl
          go_wp2_with (first
            | (refine wpList_blk_load rfl (.tmp 15) rfl Tryd.underlying32 rfl rfl hN8 (Tryd.refI _) ?_)
            | (go_at_call 13; refine (HN2.out _).mono ?_; rintro e w6 ⟨rfl, hbb⟩; replace E1 := E1.below hbb; replace hM := hM.below hbb hM.lt; replace hA := hA.below hbb hA.lt; clear hbb)
            | (refine wpList_blk_store rfl (.tmp 15) (.tmp 65) rfl rfl rfl hN (Tryd.refI _) (by rw [refC_size, refC_size]) (refC_one _) ?_; intro w8 hN8 hK8 hsz8; replace E1 := E1.kpo hpos hnb4 (by omega) hK8; replace hM := hK8.blk hM (by omega); replace hA := hK8.blk hA (by omega); clear hN; clear hK8 hsz8)
            | (refine wpList_blk_store rfl (.tmp 10) (.tmp 68) rfl rfl rfl hM (Tryd.refI _) (by rw [refC_size, refC_size]) (refC_one _) ?_; intro w9 hM2 hK9 hsz9; replace E1 := E1.kpo hpos hold hne hK9; replace hA := hK9.blk hA (by omega); clear hM; clear hK9 hsz9; have E : PEnv w b mb _ w9 := ⟨E1, hM2, hold, hne⟩; clear hM2)
            | (refine wpList_blk_alloc rfl rfl Tryd.refZ w6.heap.size rfl ?_; have hN := RefAt.new w6 WS.zero; have hnb1 : b < w6.heap.size := E1.win.lt; have hnb2 : mb < w6.heap.size := hM.lt; have hnb3 : ab < w6.heap.size := hA.lt; have hnb4 : w.heap.size ≤ w6.heap.size := E1.bel.size; have hbb : Below w6.heap.size w6 (w6.alloc (.cells (refC WS.zero) 32)) := (Below.refl _ _).alloc (Nat.le_refl _) _; replace E1 := E1.below hbb; replace hM := hM.below hbb hM.lt; replace hA := hA.below hbb hA.lt; clear hbb; generalize w6.alloc _ = w7 at *; generalize w6.heap.size = nb at *)
            | (refine wpList_blk_load rfl (.tmp 10) rfl Tryd.underlying32 rfl rfl hM (Tryd.refI _) ?_))
          clear E1
          have ht := HL.out.1
          clear a0 a1 a2
          generalize w9 = wq at *
          have k0 := cell_regrown (hA.cell (i := 0) rfl)
          have kc := cell_regrown E.m.c3
          have hM := E.m
          have kS := fun d os => Calls.regrown_of (Calls.pureB (sent_any t b _ (E.e.below (below_regrown wq d os)).win))
          have kL := fun d os => Calls.regrown_of (low_any t ht b _ (E.e.below (below_regrown wq d os)).win (E.e.below (below_regrown wq d os)).tab)
          have kL2 := fun d os => Calls.regrown_of (rlow_any t ht (grow (redrawn wq d) os))
          have kG := fun d os => Calls.regrown_of (lag_any t ht b _ (E.e.below (below_regrown wq d os)).win (E.e.below (below_regrown wq d os)).tab)
          have kG2 := fun d os => Calls.regrown_of (rlag_any t ht (grow (redrawn wq d) os))
          have kO := fun (p : Int) d os => Calls.regrown_of (Calls.pureB (of_win t ht p b _ (E.e.below (below_regrown wq d os)).win))
          have kO2 := fun (p : Int) d os => Calls.regrown_of (rof_any t ht p (grow (redrawn wq d) os))
          go_wp2
          refine wp_region_quiet_below (by kernel_rfl) (by kernel_rfl) ?_
          iterate 39 (first | (refine wpQuiet_blk_load (by rfl) (.tmp 10) rfl Tryd.underlying32 rfl rfl hM (Tryd.refI _) ?_; simp only [Act.put, List.setIfInBounds_toArray, List.set_cons_zero, List.set_cons_succ]) | go_big_quiet_step (first | (with_reducible exact kS _ _) | (with_reducible exact kL _ _) | (with_reducible exact kL2 _ _) | (with_reducible exact kG _ _) | (with_reducible exact kG2 _ _) | (with_reducible exact kO _ _ _) | (with_reducible exact kO2 _ _ _)))
          refine wpQuiet_nil ?_; intro w4 hw'; obtain ⟨⟨dq, osq⟩, hw''⟩ := hw'; subst hw''
          have hbb := below_regrown wq dq osq
          replace E := E.below hbb; replace hA := hA.below hbb hA.lt; clear hbb
          clear kS kL kL2 kG kG2 kO kO2 k0 kc hM ht
          generalize grow (redrawn wq dq) osq = w4 at *
          go_wp2
          go_roundw
          case rel => exact ⟨k + 1, t, by omega, by go_num, HL, E⟩
          case measure => simp [intOf]; omega
        | false =>
          have HN := next_any s hs q b _ E.e.win E.e.tab hq.1 hq.2
          rw [show s.nextV q = .tuple #[.int .u32 0, .int .i64 6] from by rw [WS.nextV, if_neg (by rw [hm]; decide)]] at HN
          have HN2 := fun W => rnext_any s hs q W hq.1 hq.2
          rw [show s.nextR q = .tuple #[.agg (refC (s.nexts q)), .int .u32 0, .int .i64 6] from by rw [WS.nextR, WS.nexts, if_neg (by rw [hm]; decide), if_neg (by rw [hm]; decide)]] at HN2
          have HL := Lib.hid (show (s.nexts q).Ok ∧ (s.nexts q).sent ≤ k + 1 from by rw [WS.nexts, if_neg (by rw [hm]; decide)]; exact ⟨hs, by omega⟩)
          have HN := Lib.hid HN
          have HN2 := Lib.hid HN2
          generalize s.nexts q = t at *
          have hne := E.ne
          have hold := E.old
          clear hm hs HI HS
          go_wp2_with fail
          refine HN.out.mono ?_
          rintro e w5 ⟨rfl, hwin, hkp⟩
          obtain ⟨E1, hM⟩ := E.half hpos hkp hwin
          replace hA : BlkAt w5 ab _ _ := hkp.blk hA (by omega)
          clear HN hwin hkp E a0 a1 a2
          have a0 := hA.cell (i := 0) rfl
          have a1 := hA.cell (i := 1) rfl
          have a2 := hA.cell (i := 2) rfl
          go_wp2_with (first
            | (refine wpList_blk_load rfl (.tmp 15) rfl Tryd.underlying32 rfl rfl hN8 (Tryd.refI _) ?_)
            | (go_at_call 13; refine (HN2.out _).mono ?_; rintro e w6 ⟨rfl, hbb⟩; replace E1 := E1.below hbb; replace hM := hM.below hbb hM.lt; replace hA := hA.below hbb hA.lt; clear hbb)
            | (refine wpList_blk_store rfl (.tmp 15) (.tmp 65) rfl rfl rfl hN (Tryd.refI _) (by rw [refC_size, refC_size]) (refC_one _) ?_; intro w8 hN8 hK8 hsz8; replace E1 := E1.kpo hpos hnb4 (by omega) hK8; replace hM := hK8.blk hM (by omega); replace hA := hK8.blk hA (by omega); clear hN; clear hK8 hsz8)
            | (refine wpList_blk_store rfl (.tmp 10) (.tmp 68) rfl rfl rfl hM (Tryd.refI _) (by rw [refC_size, refC_size]) (refC_one _) ?_; intro w9 hM2 hK9 hsz9; replace E1 := E1.kpo hpos hold hne hK9; replace hA := hK9.blk hA (by omega); clear hM; clear hK9 hsz9; have E : PEnv w b mb _ w9 := ⟨E1, hM2, hold, hne⟩; clear hM2)
            | (refine wpList_blk_alloc rfl rfl Tryd.refZ w6.heap.size rfl ?_; have hN := RefAt.new w6 WS.zero; have hnb1 : b < w6.heap.size := E1.win.lt; have hnb2 : mb < w6.heap.size := hM.lt; have hnb3 : ab < w6.heap.size := hA.lt; have hnb4 : w.heap.size ≤ w6.heap.size := E1.bel.size; have hbb : Below w6.heap.size w6 (w6.alloc (.cells (refC WS.zero) 32)) := (Below.refl _ _).alloc (Nat.le_refl _) _; replace E1 := E1.below hbb; replace hM := hM.below hbb hM.lt; replace hA := hA.below hbb hA.lt; clear hbb; generalize w6.alloc _ = w7 at *; generalize w6.heap.size = nb at *)
            | (refine wpList_blk_load rfl (.tmp 10) rfl Tryd.underlying32 rfl rfl hM (Tryd.refI _) ?_))
          clear E1
          have ht := HL.out.1
          clear a0 a1 a2
          generalize w9 = wq at *
          have k0 := cell_regrown (hA.cell (i := 0) rfl)
          have kc := cell_regrown E.m.c3
          have hM := E.m
          have kS := fun d os => Calls.regrown_of (Calls.pureB (sent_any t b _ (E.e.below (below_regrown wq d os)).win))
          have kL := fun d os => Calls.regrown_of (low_any t ht b _ (E.e.below (below_regrown wq d os)).win (E.e.below (below_regrown wq d os)).tab)
          have kL2 := fun d os => Calls.regrown_of (rlow_any t ht (grow (redrawn wq d) os))
          have kG := fun d os => Calls.regrown_of (lag_any t ht b _ (E.e.below (below_regrown wq d os)).win (E.e.below (below_regrown wq d os)).tab)
          have kG2 := fun d os => Calls.regrown_of (rlag_any t ht (grow (redrawn wq d) os))
          have kO := fun (p : Int) d os => Calls.regrown_of (Calls.pureB (of_win t ht p b _ (E.e.below (below_regrown wq d os)).win))
          have kO2 := fun (p : Int) d os => Calls.regrown_of (rof_any t ht p (grow (redrawn wq d) os))
          go_wp2
          refine wp_region_quiet_below (by kernel_rfl) (by kernel_rfl) ?_
          iterate 39 (first | (refine wpQuiet_blk_load (by rfl) (.tmp 10) rfl Tryd.underlying32 rfl rfl hM (Tryd.refI _) ?_; simp only [Act.put, List.setIfInBounds_toArray, List.set_cons_zero, List.set_cons_succ]) | go_big_quiet_step (first | (with_reducible exact kS _ _) | (with_reducible exact kL _ _) | (with_reducible exact kL2 _ _) | (with_reducible exact kG _ _) | (with_reducible exact kG2 _ _) | (with_reducible exact kO _ _ _) | (with_reducible exact kO2 _ _ _)))
          refine wpQuiet_nil ?_; intro w4 hw'; obtain ⟨⟨dq, osq⟩, hw''⟩ := hw'; subst hw''
          have hbb := below_regrown wq dq osq
          replace E := E.below hbb; replace hA := hA.below hbb hA.lt; clear hbb
          clear kS kL kL2 kG kG2 kO kO2 k0 kc hM ht
          generalize grow (redrawn wq dq) osq = w4 at *
          go_wp2
          go_roundw
          case rel => exact ⟨k + 1, t, by omega, by go_num, HL, E⟩
          case measure => simp [intOf]; omega
      · have HL := Lib.hid (show (s.put p z).Ok ∧ (s.put p z).sent ≤ k + 1 from ⟨WS.put_ok hs p z, by rw [s.put_sent]; omega⟩)
        have HN := Lib.hid (got_any s hs p z b _ E.e.win)
        have HN2 := Lib.hid (fun W => rgot_any s hs p z W)
        generalize s.put p z = t at *
        have hne := E.ne
        have hold := E.old
        clear hs HI HS
        go_wp2_with fail
        refine HN.out.mono ?_
        rintro e w5 ⟨rfl, hwin, hkp⟩
        obtain ⟨E1, hM⟩ := E.half hpos hkp hwin
        replace hA : BlkAt w5 ab _ _ := hkp.blk hA (by omega)
        clear HN hwin hkp E a0 a1 a2
        have a0 := hA.cell (i := 0) rfl
        have a1 := hA.cell (i := 1) rfl
        have a2 := hA.cell (i := 2) rfl
        go_wp2_with (first
          | (refine wpList_blk_load rfl (.tmp 10) rfl Tryd.underlying32 rfl rfl hM (Tryd.refI _) ?_)
          | (go_at_call 15; refine (HN2.out _).mono ?_; rintro e w6 ⟨rfl, hbb⟩; replace E1 := E1.below hbb; replace hM := hM.below hbb hM.lt; replace hA := hA.below hbb hA.lt; clear hbb)
          | (refine wpList_blk_store rfl (.tmp 10) (.tmp 88) rfl rfl rfl hM (Tryd.refI _) (by rw [refC_size, refC_size]) (refC_one _) ?_; intro w9 hM2 hK9 hsz9; replace E1 := E1.kpo hpos hold hne hK9; replace hA := hK9.blk hA (by omega); clear hM; clear hK9 hsz9; have E : PEnv w b mb t w9 := ⟨E1, hM2, hold, hne⟩; clear hM2))
        clear E1
        try simp only [Act.put]
        have ht := HL.out.1
        clear a0 a1 a2
        generalize w9 = wq at *
        have k0 := cell_regrown (hA.cell (i := 0) rfl)
        have kc := cell_regrown E.m.c3
        have hM := E.m
        have kS := fun d os => Calls.regrown_of (Calls.pureB (sent_any t b _ (E.e.below (below_regrown wq d os)).win))
        have kL := fun d os => Calls.regrown_of (low_any t ht b _ (E.e.below (below_regrown wq d os)).win (E.e.below (below_regrown wq d os)).tab)
        have kL2 := fun d os => Calls.regrown_of (rlow_any t ht (grow (redrawn wq d) os))
        have kG := fun d os => Calls.regrown_of (lag_any t ht b _ (E.e.below (below_regrown wq d os)).win (E.e.below (below_regrown wq d os)).tab)
        have kG2 := fun d os => Calls.regrown_of (rlag_any t ht (grow (redrawn wq d) os))
        have kO := fun (p : Int) d os => Calls.regrown_of (Calls.pureB (of_win t ht p b _ (E.e.below (below_regrown wq d os)).win))
        have kO2 := fun (p : Int) d os => Calls.regrown_of (rof_any t ht p (grow (redrawn wq d) os))
        go_wp2
        refine wp_region_quiet_below (by kernel_rfl) (by kernel_rfl) ?_
        iterate 39 (first | (refine wpQuiet_blk_load (by rfl) (.tmp 10) rfl Tryd.underlying32 rfl rfl hM (Tryd.refI _) ?_; simp only [Act.put, List.setIfInBounds_toArray, List.set_cons_zero, List.set_cons_succ]) | go_big_quiet_step (first | (with_reducible exact kS _ _) | (with_reducible exact kL _ _) | (with_reducible exact kL2 _ _) | (with_reducible exact kG _ _) | (with_reducible exact kG2 _ _) | (with_reducible exact kO _ _ _) | (with_reducible exact kO2 _ _ _)))
        refine wpQuiet_nil ?_; intro w4 hw'; obtain ⟨⟨dq, osq⟩, hw''⟩ := hw'; subst hw''
        have hbb := below_regrown wq dq osq
        replace E := E.below hbb; replace hA := hA.below hbb hA.lt; clear hbb
        clear kS kL kL2 kG kG2 kO kO2 k0 kc hM ht
        generalize grow (redrawn wq dq) osq = w4 at *
        go_wp2
        go_roundw
        case rel => exact ⟨k + 1, t, by omega, by go_num, HL, E⟩
        case measure => simp [intOf]; omega
    · go_wp2
      go_ret
      exact ⟨rfl, E.e.bel⟩
set_option maxHeartbeats 400000 in
theorem plays_out (me size : Int) (members : Nat) (sa : Option Addr) (n c : Nat) (w : World) (hT : Tab w) (h : 300 < n) (hn : n ≤ 9223372036854775807) :
    Calls Tryd.prog 3 #[.int .i64 me, .int .u64 members, .int .i64 size, .slice sa n c] w fun e w' => e = .returned (.bool true) ∧ Below w.heap.size w w' := by
  go_enter Tryd.func3, Tryd.ntmps3
  go_wp2_with fail
  refine (awake_any _ hT).mono ?_
  rintro e w1 ⟨rfl, hb1⟩
  go_wp2
  go_ret
  exact ⟨rfl, hb1⟩
theorem plays_law (me members size : Int) (sa : Option Addr) (n c : Nat) (w : World) (hT : Tab w) (_ : (Lit.int .i64 me).wf = true) (hm : (Lit.int .u64 members).wf = true) (_ : (Lit.int .i64 size).wf = true) (h : ∃ l, RSl RLa 3 w sa n c l) :
    Calls Tryd.prog 3 #[.int .i64 me, .int .u64 members, .int .i64 size, .slice sa n c] w fun e w' => e = .returned (.bool true) ∧ Below w.heap.size w w' := by
  obtain ⟨l, hl⟩ := h
  obtain ⟨hr, hwf⟩ := hl.la
  obtain ⟨m, rfl, hm'⟩ := nat_u64 hm
  have hmx := hr.le_max
  unfold maxLen at hmx
  by_cases ho : 300 < n
  · exact plays_out me size m sa n c w hT ho hmx
  · exact plays_main me size m sa n c l w hT hm' hr hl.1.1 hwf (by omega)
end Go.Proofs.YthjlilgnnmnaeaaDoor
