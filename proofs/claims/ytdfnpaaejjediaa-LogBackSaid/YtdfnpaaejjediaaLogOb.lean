/- log: the walk of ParseItem: states -/
import Derived.Test.YtdfnpaaejjediaaLogO
namespace Go.Proofs.Ytdfnpaaejjediaa
open Go.RowKit

set_option maxHeartbeats 6400000 in
set_option maxRecDepth 100000 in
theorem pitem_2 (s : ByteArray) (w : World) (hz : s.size ≤ 5000) (h1 : 1 ≤ s.size) (hk : nvN (bI s) 0 1 = 2) : Calls Try.prog 16 #[.string s] w (PiPost s w) := by
  (have hmf : ∀ (fn : Fn) (first cap : Array Value) (w : World), (Instr.makeFunc fn first cap).run Try.prog w = .ok (.func fn first cap) w := fun _ _ _ _ => rfl)
  (obtain ⟨wS, hwS, PE, hsz⟩ := PaE.start w 34 zIT; replace hwS := Lib.hid hwS; have hL : (bI s).length = s.size := bI_len s; have hB := bI_mem s; have hN := Lib.hid (fun (W : World) (b q : Nat) (h : Rdr W b s q) => rn_any (n := 1) 1 rfl h (by omega)); have hEn := Lib.hid (fun (W : World) (b q : Nat) (h : Rdr W b s q) => rend_any h (by omega)); have eo := Lib.hid (fun h h1 h2 => pE_o (L := bI s) h h1 h2); have hkI : nv (bI s) 0 1 = 2 := by rw [← nvN_cast hB, hk]; rfl)
  have hN8 := Lib.hid (fun (W : World) (b q : Nat) (h : Rdr W b s q) => rn_any (n := 8) 8 rfl h (by omega))
  have hN4 := Lib.hid (fun (W : World) (b q : Nat) (h : Rdr W b s q) => rn_any (n := 4) 4 rfl h (by omega))
  have hRc := Lib.hid (fun (W : World) (b q : Nat) (h : Rdr W b s q) => rrec_any h hz)
  have ee := Lib.hid (fun h h2 => pE_2 (L := bI s) h h2 hkI)
  have hv := Lib.hid (pV_2 (L := bI s) hkI)
  have hj4 : nvN (bI s) 1 4 < 4294967296 := nvN_lt hB 1 4
  have hj8 : nvN (bI s) 5 8 < 18446744073709551616 := nvN_lt hB 5 8
  have hjf : nvN (bI s) 13 1 < 256 := nvN_lt hB 13 1
  rw [hL] at ee
  rw [← nvN_cast hB 13] at hv ee
  rw [show (nv (bI s) 1 4).toNat = nvN (bI s) 1 4 from rfl, show (nv (bI s) 5 8).toNat = nvN (bI s) 5 8 from rfl] at hv
  (rw [hL] at eo; rw [hkI] at eo; clear hL hB; replace hkI := Lib.hid hkI; go_enter_defers Try.func16, Try.ntmps16; go_wp2_with fail)
  (rw [show #[.int .i64 0, .string ⟨#[]⟩, .int .u32 0, .int .u64 0, .bool false, .bool false, .int .u64 0, .int .u64 0, .int .i64 0, .int .u64 0, .slice none 0 0, .int .u64 0, .int .u64 0, .int .i64 0, .int .u64 0, .int .u64 0, .int .i64 0, .int .i64 0] = zIT from rfl, ← hwS.out]; refine (new_any s _).mono ?_; rintro e w1 ⟨rfl, hR1, hb1⟩; have hsz1 := hsz.out; rw [hsz1] at hR1 hb1 ⊢)
  have hAl : Below w1.heap.size w1 (w1.alloc (.cells #[.pointer (some ⟨w.heap.size + 1 + 1, 0, none⟩)] 82)) := (Below.refl _ _).alloc (Nat.le_refl _) _
  have PS : PaS w (w1.alloc (.cells #[.pointer (some ⟨w.heap.size + 1 + 1, 0, none⟩)] 82)) w1.heap.size 34 zIT s 0 := ⟨(PE.kp ⟨hb1.os, hb1.tape, hb1.output, hb1.size, fun i hi _ => hb1.block i (by omega)⟩).kp (Kp.ofBelow hAl), BlkAt.new _ _ _, hR1.below hAl hR1.lt, hR1.lt⟩
  (have hc0 := PS.R.cell (i := 0) rfl; go_wp2_with fail; refine (hN.out _ _ _ PS.rd).mono ?_; rintro e w2 ⟨⟨g1, rfl, h2⟩ | ⟨g1, rfl⟩, k2⟩; rotate_left; focus (exfalso; omega))
  (replace PS := PS.kp k2 h2; generalize w1.heap.size = g at *; clear hc0 h2 k2 hb1 hR1 hAl PE hsz1; have y0 : w2.cell? ⟨w.heap.size, 0, none⟩ = some (.int .i64 0) := PS.e.T.cell rfl; have z0 := PS.e.T.fz 0; rw [hk])
  (go_wp2_with fail; replace PS := PS.set 0 (.int .i64 2); generalize (World.setCell _ _ _) = w3 at *; refine (bad_f (by first | rfl | (simp; done)) 10 _).mono ?_; rintro e w' ⟨rfl, rfl⟩; clear y0 z0; have y0 : w3.cell? ⟨w.heap.size, 0, none⟩ = some (.int .i64 2) := PS.e.T.cell rfl; go_wp2_with fail; by_cases hlong : 1024 < s.size)
  · (focus (refine (bad_t (by first | (simp; done) | (simp; omega)) 3 _).mono ?_; rintro e w' ⟨rfl, rfl⟩; exact panT_leave rfl rfl ⟨3, rfl, by decide, eo.out (by omega) (by omega) (by omega), _, by simp [zIT], PS.e⟩))
  (refine (bad_f (by first | (simp; done) | (simp; omega)) 3 _).mono ?_; rintro e w' ⟨rfl, rfl⟩)
  have he := Lib.hid (ee.out (by omega) hlong)
  clear ee eo
  have hbad : ∀ p m, p + m = 5 ∨ p + m = 13 ∨ p + m = 14 → s.size < p + m → itPE (bI s) = 2 := fun p m hp h => by rw [he.out]; exact if_pos (by omega)
  replace hbad := Lib.hid hbad
  have hc0 := PS.R.cell (i := 0) rfl
  go_wp2_with fail
  refine wp_onlyQ (D := deferT w) (x := .pointer (some ⟨w.heap.size, 0, none⟩)) (y := .pointer (some ⟨w.heap.size + 1, 0, none⟩)) (L := PanT s w) (fun _ _ _ h => h) (fun _ _ _ h2 h3 h => panT_leave h2 h3 h) ?_
  refine wp_region_held_drew (S := fun W => W.cell? ⟨g, 0, none⟩ = some (.pointer (some ⟨w.heap.size + 1 + 1, 0, none⟩))) (by kernel_rfl) hc0 ?_
  intro hHeld
  clear y0
  (refine wpAnyH_take (i := 0) (v := ?_) rfl (by kernel_rfl) (by kernel_rfl) (by kernel_rfl) (fun _ _ _ h => onlyP_put (by decide) h) (Or.inl ⟨by rfl, ?_⟩) (by assumption) ?_; rotate_left; (focus (intro w hSw; (try dsimp only at hSw); go_simp; (try with_reducible rfl))); (try simp only [Act.put, List.setIfInBounds_toArray, List.set_cons_zero, List.set_cons_succ]))
  (refine wpAnyH_take (i := 1) (v := ?_) rfl (by kernel_rfl) (by kernel_rfl) (by kernel_rfl) (fun _ _ _ h => onlyP_put (by decide) h) (Or.inl ⟨by rfl, ?_⟩) (by assumption) ?_; rotate_left; (focus (intro w hSw; (try dsimp only at hSw); go_simp; (try with_reducible rfl))); (try simp only [Act.put, List.setIfInBounds_toArray, List.set_cons_zero, List.set_cons_succ]))
  (refine wpAnyH_take (i := 4) (v := ?_) rfl (by kernel_rfl) (by kernel_rfl) (by kernel_rfl) (fun _ _ _ h => onlyP_put (by decide) h) (Or.inl ⟨by rfl, ?_⟩) (by assumption) ?_; rotate_left; (focus (intro w hSw; (try dsimp only at hSw); go_simp; (try with_reducible rfl))); (try simp only [Act.put, List.setIfInBounds_toArray, List.set_cons_zero, List.set_cons_succ]))
  (refine wpAnyH_take (i := 5) (v := ?_) rfl (by kernel_rfl) (by kernel_rfl) (by kernel_rfl) (fun _ _ _ h => onlyP_put (by decide) h) (Or.inl ⟨by rfl, ?_⟩) (by assumption) ?_; rotate_left; (focus (intro w hSw; (try dsimp only at hSw); go_simp; (try with_reducible rfl))); (try simp only [Act.put, List.setIfInBounds_toArray, List.set_cons_zero, List.set_cons_succ]))
  (refine wpAnyH_ready (rs := [2]) (by kernel_rfl) (by simp) ?_; refine AllReadyH.cons rfl (fun K hK => ?_) AllReadyH.nil; go_simp)
  (replace PS := PS.drew; refine (hN4.out _ _ _ PS.rd).mono ?_; rintro e w4 ⟨⟨g4, rfl, h4⟩ | ⟨g4, rfl⟩, k4⟩; rotate_left; (focus (exact ⟨rfl, rfl, rfl, 2, rfl, by decide, hbad.out (0 + 1) 4 (by omega) g4, _, by simp [zIT], PS.e.kp k4⟩)); replace PS := PS.kp k4 h4; refine hK.out _ _ (PS.R.cell (i := 0) rfl) (fun hHeld3 => ?_); clear hK K hHeld k4 h4; have hHeld := hHeld3; clear hHeld3)
  generalize hv4 : nvN (bI s) (0 + 1) 4 = x4 at *
  have hw4 : IntKind.u32.wrap (x4 : Int) = x4 := by rw [IntKind.wrap_u32]; omega
  (refine wpAnyH_take (i := 3) (v := ?_) rfl (by kernel_rfl) (by kernel_rfl) (by kernel_rfl) (fun _ _ _ h => onlyP_put (by decide) h) (Or.inl ⟨by rfl, ?_⟩) (by assumption) ?_; rotate_left; (focus (intro w hSw; (try dsimp only at hSw); go_simp; (try with_reducible rfl))); (try simp only [Act.put, List.setIfInBounds_toArray, List.set_cons_zero, List.set_cons_succ]))
  (refine wpAnyH_take (i := 7) (v := ?_) rfl (by kernel_rfl) (by kernel_rfl) (by kernel_rfl) (fun _ _ _ h => onlyP_put (by decide) h) (Or.inl ⟨by rfl, ?_⟩) (by assumption) ?_; rotate_left; (focus (intro w hSw; (try dsimp only at hSw); go_simp; (try with_reducible rfl))); (try simp only [Act.put, List.setIfInBounds_toArray, List.set_cons_zero, List.set_cons_succ]))
  (refine wpAnyH_ready (rs := [6]) (by kernel_rfl) (by simp) ?_; refine AllReadyH.cons rfl (fun K hK => ?_) AllReadyH.nil; go_simp)
  (refine (hN8.out _ _ _ PS.rd).mono ?_; rintro e w5 ⟨⟨g5, rfl, h4⟩ | ⟨g5, rfl⟩, k4⟩; rotate_left; (focus (exact ⟨rfl, rfl, rfl, 2, rfl, by decide, hbad.out (0 + 1 + 4) 8 (by omega) g5, _, by simp [zIT], PS.e.kp k4⟩)); replace PS := PS.kp k4 h4; refine hK.out _ _ (PS.R.cell (i := 0) rfl) (fun hHeld3 => ?_); clear hK K hHeld k4 h4; have hHeld := hHeld3; clear hHeld3)
  generalize hv8 : nvN (bI s) (0 + 1 + 4) 8 = x8 at *
  (have y9 := PS.e.T.cell (i := 2) rfl; have z9 := PS.e.T.fz 2)
  (refine wpAnyH_ready (rs := [8]) (by kernel_rfl) (by simp) ?_; refine AllReadyH.cons rfl (fun K hK => ?_) AllReadyH.nil; go_simp)
  (replace PS := PS.set 2 (.int .u32 (x4 : Int)); refine hK.out _ _ (PS.R.cell (i := 0) rfl) (fun hHeld3 => ?_); clear hK K hHeld; generalize (World.setCell _ _ _) = w6 at *; have hHeld := hHeld3; clear hHeld3)
  clear y9 z9
  (refine wpAnyH_take (i := 9) (v := ?_) rfl (by kernel_rfl) (by kernel_rfl) (by kernel_rfl) (fun _ _ _ h => onlyP_put (by decide) h) (Or.inl ⟨by rfl, ?_⟩) (by assumption) ?_; rotate_left; (focus (intro w hSw; (try dsimp only at hSw); go_simp; (try with_reducible rfl))); (try simp only [Act.put, List.setIfInBounds_toArray, List.set_cons_zero, List.set_cons_succ]))
  (have y9 := PS.e.T.cell (i := 3) rfl; have z9 := PS.e.T.fz 3)
  (refine wpAnyH_ready (rs := [10]) (by kernel_rfl) (by simp) ?_; refine AllReadyH.cons rfl (fun K hK => ?_) AllReadyH.nil; go_simp)
  (replace PS := PS.set 3 (.int .u64 (x8 : Int)); refine hK.out _ _ (PS.R.cell (i := 0) rfl) (fun hHeld3 => ?_); clear hK K hHeld; generalize (World.setCell _ _ _) = w7 at *; have hHeld := hHeld3; clear hHeld3)
  clear y9 z9
  refine wpAnyH_done (by kernel_rfl) ?_ _
  refine onlyP_at ?_
  dsimp only [Exit.inBlock, Exit.then]
  have hc0 := PS.R.cell (i := 0) rfl
  clear hHeld
  go_wp2_with fail
  refine (hN.out _ _ _ PS.rd).mono ?_
  rintro e w10 ⟨⟨g10, rfl, h10⟩ | ⟨g10, rfl⟩, k10⟩
  case inr => exact panT_leave rfl rfl ⟨2, rfl, by decide, hbad.out (0 + 1 + 4 + 8) 1 (by omega) g10, _, by simp [zIT], PS.e.kp k10⟩
  replace PS := PS.kp k10 h10
  clear h10 k10 hc0
  have he2 := he.out.trans (if_neg (by omega))
  generalize nvN (bI s) (0 + 1 + 4 + 8) 1 = xf at *
  replace he2 := Lib.hid he2
  go_wp2_with fail
  by_cases hbig : 3 < xf
  · refine (bad_t (by first | (simp; done) | (simp; omega)) 1 _).mono ?_
    rintro e w' ⟨rfl, rfl⟩
    exact panT_leave rfl rfl ⟨1, rfl, by decide, by rw [he2.out]; exact if_pos (by omega), _, by simp [zIT], PS.e⟩
  refine (bad_f (by first | (simp; done) | (simp; omega)) 1 _).mono ?_
  rintro e w' ⟨rfl, rfl⟩
  have he3 := Lib.hid (he2.out.trans (if_neg (by omega)))
  clear he2 he hbad
  have y4 : w10.cell? ⟨w.heap.size, 4, none⟩ = some (.bool false) := PS.e.T.cell rfl
  have z4 := PS.e.T.fz 4
  have y5 : w10.cell? ⟨w.heap.size, 5, none⟩ = some (.bool false) := PS.e.T.cell rfl
  have z5 := PS.e.T.fz 5
  have hd1 : Hid (decide ((xf : Int) % 2 = 1) = (bits BinOp.and IntKind.u64 (xf : Int) 1 != 0)) := by
    have : xf = 0 ∨ xf = 1 ∨ xf = 2 ∨ xf = 3 := by omega
    rcases this with rfl | rfl | rfl | rfl <;> (unfold Hid; decide)
  have hd2 : Hid (decide ((xf : Int) / 2 = 1) = (bits BinOp.and IntKind.u64 (xf : Int) 2 != 0)) := by
    have : xf = 0 ∨ xf = 1 ∨ xf = 2 ∨ xf = 3 := by omega
    rcases this with rfl | rfl | rfl | rfl <;> (unfold Hid; decide)
  replace PS := (PS.set 4 (.bool (bits BinOp.and IntKind.u64 (xf : Int) 1 != 0))).set 5 (.bool (bits BinOp.and IntKind.u64 (xf : Int) 2 != 0))
  go_wp2_with (first
    | (refine wpList_blk_load rfl (.tmp 4) rfl Try.underlying82 rfl rfl PS.R (by kernel_rfl) ?_))
  clear y4 z4 y5 z5
  generalize (World.setCell _ _ _) = w11 at *
  generalize (bits BinOp.and IntKind.u64 (xf : Int) 1 != 0) = d1 at *
  generalize (bits BinOp.and IntKind.u64 (xf : Int) 2 != 0) = d2 at *
  refine (hRc.out _ _ _ PS.rd).mono ?_
  rintro e w6 ⟨⟨g5, ⟨a, c, rfl, hown⟩, h5⟩ | ⟨g5, rfl⟩, k5⟩
  case inr => exact panT_leave rfl rfl ⟨_, rfl, g5, by rw [he3.out]; exact if_pos g5, _, rfl, PS.e.kp k5⟩
  have he4 := Lib.hid (he3.out.trans (if_neg (fun h => h g5)))
  have hlo := PS.e.bel.size
  have hlo2 := PS.rd.lt
  replace PS := PS.kp k5 h5
  have hV := Lib.hid (show vwsAt (bI s) 14 (rcN (bI s) 14) = (rcAt (bI s) 14).pend from rfl)
  have hT2 : BlkAt w6 w.heap.size 34 #[.int .i64 2, .string ⟨#[]⟩, .int .u32 (x4 : Int), .int .u64 (x8 : Int), .bool d1, .bool d2, .int .u64 0, .int .u64 0, .int .i64 0, .int .u64 0, .slice none 0 0, .int .u64 0, .int .u64 0, .int .i64 0, .int .u64 0, .int .u64 0, .int .i64 0, .int .i64 0] := PS.e.T
  clear k5 h5 he3
  go_wp2_with (first
    | (refine wpList_blk_put rfl (.tmp 57) (.tmp 56) rfl rfl rfl hT2 (Try.recI _ _) (Nat.le_of_ble_eq_true rfl) (by simp [Value.oneCell']) ?_; intro w7 hT7 hK7 hs7; replace PS := PS.put hT7 hK7; have y7 : w7.cell? ⟨w.heap.size, 0, none⟩ = some (.int .i64 2) := PS.e.T.cell rfl)
    | (refine wpList_blk_load rfl (.tmp 4) rfl Try.underlying82 rfl rfl PS.R (by kernel_rfl) ?_))
  have hown7 := Lib.hid (own_keep hown fun g' hg hl => hK7.block g' hl (by have := (hown.lt g' hg).1; omega))
  have hs7' := Lib.hid hs7
  clear hT7 hK7 hown hs7 hT2 y7
  (refine (hEn.out _ _ _ PS.rd).mono ?_; rintro e w8 ⟨⟨g6, rfl⟩ | ⟨g6, rfl⟩, b8⟩)
  case inr => exact panT_leave rfl rfl ⟨_, rfl, by decide, by rw [he4.out]; exact if_pos g6, _, rfl, PS.e.kp (Kp.ofBelow b8)⟩
  (replace PS := PS.kp (Kp.ofBelow b8) (PS.rd.below b8 PS.rd.lt))
  have hE0 : Hid (itPE (bI s) = 0) := by rw [he4.out]; exact if_neg (fun h => absurd g6 (Nat.not_le.2 h))
  have hown8 := Lib.hid (own_belowB hown7.out b8)
  have hT : BlkAt w8 w.heap.size 34 #[.int .i64 2, .string ⟨#[]⟩, .int .u32 (x4 : Int), .int .u64 (x8 : Int), .bool d1, .bool d2, .int .u64 (vwAt (bI s) 14).num, .int .u64 (vwAt (bI s) 14).ce, .int .i64 (vwAt (bI s) 14).cr, .int .u64 (vwAt (bI s) 14).mem, .slice a (rcN (bI s) 14) c, .int .u64 0, .int .u64 0, .int .i64 0, .int .u64 0, .int .u64 0, .int .i64 0, .int .i64 0] := PS.e.T
  have ho := fun g' hg => (hown8.out.lt g' hg).1
  clear hown7 b8
  go_wp2_with (first | (refine wpList_blk_load rfl (.tmp 2) rfl Try.underlying34 rfl rfl hT Try.itI ?_) | (refine wpList_blk_store (cs := #[.int .i64 2, .string ⟨#[]⟩, .int .u32 (x4 : Int), .int .u64 (x8 : Int), .bool d1, .bool d2, .int .u64 (vwAt (bI s) 14).num, .int .u64 (vwAt (bI s) 14).ce, .int .i64 (vwAt (bI s) 14).cr, .int .u64 (vwAt (bI s) 14).mem, .slice a (rcN (bI s) 14) c, .int .u64 0, .int .u64 0, .int .i64 0, .int .u64 0, .int .u64 0, .int .i64 0, .int .i64 0]) rfl (.tmp 2) (.tmp 96) rfl rfl rfl hT Try.itI rfl (by simp [Value.oneCell']) ?_; intro w9 hT9 hK9 hs9; replace PS := PS.put hT9 hK9; have y9 := PS.e.E.cell (i := 0) rfl; have z9 := PS.e.E.fz 0; clear hT))
  have ho9 := own_keep hown8.out fun g' hg hl => hK9.block g' hl (by have := ho g' hg; omega)
  (have k9 := (Kp.refl (w.heap.size + 1) w9).setCell ⟨w.heap.size + 1, 0, none⟩ rfl (.int .i64 0); have hT10 := k9.blk PS.e.T (by omega); have hE10 := (PS.e.E.set 0 (.int .i64 0)).cell (i := 0) rfl; have hb10 := Kp.below PS.e.bel k9 (by omega) PS.e.bel.size)
  have ho10 := own_keep ho9 fun g' hg hl => k9.block g' hl (by have := ho g' hg; omega)
  obtain ⟨a', c', e10, r10⟩ := Rd.own ho10
  simp only [Value.slice.injEq, true_and] at e10
  obtain ⟨rfl, rfl⟩ := e10
  refine fin_leaveT rfl rfl hT10 rfl hE10 ⟨⟨itPV (bI s), ⟨#[]⟩, a, rcN (bI s) 14, c, ?_, fun _ => rfl, fun h => absurd hE0.out h, ?_, ?_⟩, hb10⟩
  · rw [hE0.out, hv.out, hd1.out, hd2.out]; rfl
  · rw [hv.out]; rfl
  · rw [hv.out]; exact r10
end Go.Proofs.Ytdfnpaaejjediaa
