/- log: the walk of ParseItem: chunks -/
import Derived.Test.YtdfnpaaejjediaaLogO
namespace Go.Proofs.Ytdfnpaaejjediaa
open Go.RowKit

set_option maxHeartbeats 6400000 in
set_option maxRecDepth 100000 in
theorem pitem_4 (s : ByteArray) (w : World) (hz : s.size ≤ 5000) (h1 : 1 ≤ s.size) (hk : nvN (bI s) 0 1 = 4) : Calls Try.prog 16 #[.string s] w (PiPost s w) := by
  (have hmf : ∀ (fn : Fn) (first cap : Array Value) (w : World), (Instr.makeFunc fn first cap).run Try.prog w = .ok (.func fn first cap) w := fun _ _ _ _ => rfl)
  (obtain ⟨wS, hwS, PE, hsz⟩ := PaE.start w 34 zIT; replace hwS := Lib.hid hwS; have hL : (bI s).length = s.size := bI_len s; have hB := bI_mem s; have hN := Lib.hid (fun (W : World) (b q : Nat) (h : Rdr W b s q) => rn_any (n := 1) 1 rfl h (by omega)); have hEn := Lib.hid (fun (W : World) (b q : Nat) (h : Rdr W b s q) => rend_any h (by omega)); have eo := Lib.hid (fun h h1 h2 => pE_o (L := bI s) h h1 h2); have hkI : nv (bI s) 0 1 = 4 := by rw [← nvN_cast hB, hk]; rfl)
  have hN8 := Lib.hid (fun (W : World) (b q : Nat) (h : Rdr W b s q) => rn_any (n := 8) 8 rfl h (by omega))
  have hN2 := Lib.hid (fun (W : World) (b q : Nat) (h : Rdr W b s q) => rn_any (n := 2) 2 rfl h (by omega))
  have hLf := Lib.hid (fun (W : World) (b q : Nat) (h : Rdr W b s q) => left_rd h hz)
  have hTx := Lib.hid (fun (W : World) (b q : Nat) (h : Rdr W b s q) => text_rd h hz)
  have ee := Lib.hid (fun h h2 => pE_4 (L := bI s) h h2 hkI)
  have hv := Lib.hid (pV_4 (L := bI s) hkI)
  have hj8 : nvN (bI s) 1 8 < 18446744073709551616 := nvN_lt hB 1 8
  have hj2 : nvN (bI s) 9 2 < 65536 := nvN_lt hB 9 2
  have hj3 : nvN (bI s) 11 2 < 65536 := nvN_lt hB 11 2
  rw [hL] at ee
  rw [← nvN_cast hB 9, ← nvN_cast hB 11, show (nv (bI s) 1 8).toNat = nvN (bI s) 1 8 from rfl] at hv
  (rw [hL] at eo; rw [hkI] at eo; clear hL hB; replace hkI := Lib.hid hkI; go_enter_defers Try.func16, Try.ntmps16; go_wp2_with fail)
  (rw [show #[.int .i64 0, .string ⟨#[]⟩, .int .u32 0, .int .u64 0, .bool false, .bool false, .int .u64 0, .int .u64 0, .int .i64 0, .int .u64 0, .slice none 0 0, .int .u64 0, .int .u64 0, .int .i64 0, .int .u64 0, .int .u64 0, .int .i64 0, .int .i64 0] = zIT from rfl, ← hwS.out]; refine (new_any s _).mono ?_; rintro e w1 ⟨rfl, hR1, hb1⟩; have hsz1 := hsz.out; rw [hsz1] at hR1 hb1 ⊢)
  have hAl : Below w1.heap.size w1 (w1.alloc (.cells #[.pointer (some ⟨w.heap.size + 1 + 1, 0, none⟩)] 82)) := (Below.refl _ _).alloc (Nat.le_refl _) _
  have PS : PaS w (w1.alloc (.cells #[.pointer (some ⟨w.heap.size + 1 + 1, 0, none⟩)] 82)) w1.heap.size 34 zIT s 0 := ⟨(PE.kp ⟨hb1.os, hb1.tape, hb1.output, hb1.size, fun i hi _ => hb1.block i (by omega)⟩).kp (Kp.ofBelow hAl), BlkAt.new _ _ _, hR1.below hAl hR1.lt, hR1.lt⟩
  (have hc0 := PS.R.cell (i := 0) rfl; go_wp2_with fail; refine (hN.out _ _ _ PS.rd).mono ?_; rintro e w2 ⟨⟨g1, rfl, h2⟩ | ⟨g1, rfl⟩, k2⟩; rotate_left; focus (exfalso; omega))
  (replace PS := PS.kp k2 h2; generalize w1.heap.size = g at *; clear hc0 h2 k2 hb1 hR1 hAl PE hsz1; have y0 : w2.cell? ⟨w.heap.size, 0, none⟩ = some (.int .i64 0) := PS.e.T.cell rfl; have z0 := PS.e.T.fz 0; rw [hk])
  (go_wp2_with fail; replace PS := PS.set 0 (.int .i64 4); generalize (World.setCell _ _ _) = w3 at *; refine (bad_f (by first | rfl | (simp; done)) 10 _).mono ?_; rintro e w' ⟨rfl, rfl⟩; clear y0 z0; have y0 : w3.cell? ⟨w.heap.size, 0, none⟩ = some (.int .i64 4) := PS.e.T.cell rfl; go_wp2_with fail; by_cases hlong : 1024 < s.size)
  · (focus (refine (bad_t (by first | (simp; done) | (simp; omega)) 3 _).mono ?_; rintro e w' ⟨rfl, rfl⟩; exact panT_leave rfl rfl ⟨3, rfl, by decide, eo.out (by omega) (by omega) (by omega), _, by simp [zIT], PS.e⟩))
  (refine (bad_f (by first | (simp; done) | (simp; omega)) 3 _).mono ?_; rintro e w' ⟨rfl, rfl⟩)
  have he := Lib.hid (ee.out (by omega) hlong)
  clear ee eo
  have hbad : ∀ p m, p + m = 13 ∨ p + m = 11 ∨ p + m = 9 → s.size < p + m → itPE (bI s) = 2 := fun p m hp h => by rw [he.out]; exact if_pos (by omega)
  replace hbad := Lib.hid hbad
  have hc0 := PS.R.cell (i := 0) rfl
  go_wp2_with fail
  refine wp_onlyQ (D := deferT w) (x := .pointer (some ⟨w.heap.size, 0, none⟩)) (y := .pointer (some ⟨w.heap.size + 1, 0, none⟩)) (L := PanT s w) (fun _ _ _ h => h) (fun _ _ _ h2 h3 h => panT_leave h2 h3 h) ?_
  refine wp_region_held_drew (S := fun W => W.cell? ⟨g, 0, none⟩ = some (.pointer (some ⟨w.heap.size + 1 + 1, 0, none⟩))) (by kernel_rfl) hc0 ?_
  intro hHeld
  clear y0
  (refine wpAnyH_take (i := 0) (v := ?_) rfl (by kernel_rfl) (by kernel_rfl) (by kernel_rfl) (fun _ _ _ h => onlyP_put (by decide) h) (Or.inl ⟨by rfl, ?_⟩) (by assumption) ?_; rotate_left; (focus (intro w hSw; (try dsimp only at hSw); go_simp; (try with_reducible rfl))); (try simp only [Act.put, List.setIfInBounds_toArray, List.set_cons_zero, List.set_cons_succ]))
  (refine wpAnyH_take (i := 1) (v := ?_) rfl (by kernel_rfl) (by kernel_rfl) (by kernel_rfl) (fun _ _ _ h => onlyP_put (by decide) h) (Or.inl ⟨by rfl, ?_⟩) (by assumption) ?_; rotate_left; (focus (intro w hSw; (try dsimp only at hSw); go_simp; (try with_reducible rfl))); (try simp only [Act.put, List.setIfInBounds_toArray, List.set_cons_zero, List.set_cons_succ]))
  (refine wpAnyH_take (i := 3) (v := ?_) rfl (by kernel_rfl) (by kernel_rfl) (by kernel_rfl) (fun _ _ _ h => onlyP_put (by decide) h) (Or.inl ⟨by rfl, ?_⟩) (by assumption) ?_; rotate_left; (focus (intro w hSw; (try dsimp only at hSw); go_simp; (try with_reducible rfl))); (try simp only [Act.put, List.setIfInBounds_toArray, List.set_cons_zero, List.set_cons_succ]))
  (refine wpAnyH_take (i := 4) (v := ?_) rfl (by kernel_rfl) (by kernel_rfl) (by kernel_rfl) (fun _ _ _ h => onlyP_put (by decide) h) (Or.inl ⟨by rfl, ?_⟩) (by assumption) ?_; rotate_left; (focus (intro w hSw; (try dsimp only at hSw); go_simp; (try with_reducible rfl))); (try simp only [Act.put, List.setIfInBounds_toArray, List.set_cons_zero, List.set_cons_succ]))
  (refine wpAnyH_take (i := 7) (v := ?_) rfl (by kernel_rfl) (by kernel_rfl) (by kernel_rfl) (fun _ _ _ h => onlyP_put (by decide) h) (Or.inl ⟨by rfl, ?_⟩) (by assumption) ?_; rotate_left; (focus (intro w hSw; (try dsimp only at hSw); go_simp; (try with_reducible rfl))); (try simp only [Act.put, List.setIfInBounds_toArray, List.set_cons_zero, List.set_cons_succ]))
  (refine wpAnyH_take (i := 8) (v := ?_) rfl (by kernel_rfl) (by kernel_rfl) (by kernel_rfl) (fun _ _ _ h => onlyP_put (by decide) h) (Or.inl ⟨by rfl, ?_⟩) (by assumption) ?_; rotate_left; (focus (intro w hSw; (try dsimp only at hSw); go_simp; (try with_reducible rfl))); (try simp only [Act.put, List.setIfInBounds_toArray, List.set_cons_zero, List.set_cons_succ]))
  (refine wpAnyH_ready (rs := [2]) (by kernel_rfl) (by simp) ?_; refine AllReadyH.cons rfl (fun K hK => ?_) AllReadyH.nil; go_simp)
  (replace PS := PS.drew; refine (hN8.out _ _ _ PS.rd).mono ?_; rintro e w4 ⟨⟨g4, rfl, h4⟩ | ⟨g4, rfl⟩, k4⟩; rotate_left; (focus (exact ⟨rfl, rfl, rfl, 2, rfl, by decide, hbad.out (0 + 1) 8 (by omega) g4, _, by simp [zIT], PS.e.kp k4⟩)); replace PS := PS.kp k4 h4; refine hK.out _ _ (PS.R.cell (i := 0) rfl) (fun hHeld3 => ?_); clear hK K hHeld k4 h4; have hHeld := hHeld3; clear hHeld3)
  generalize hv8 : nvN (bI s) (0 + 1) 8 = x8 at *
  (refine wpAnyH_take (i := 11) (v := ?_) rfl (by kernel_rfl) (by kernel_rfl) (by kernel_rfl) (fun _ _ _ h => onlyP_put (by decide) h) (Or.inl ⟨by rfl, ?_⟩) (by assumption) ?_; rotate_left; (focus (intro w hSw; (try dsimp only at hSw); go_simp; (try with_reducible rfl))); (try simp only [Act.put, List.setIfInBounds_toArray, List.set_cons_zero, List.set_cons_succ]))
  (refine wpAnyH_ready (rs := [5]) (by kernel_rfl) (by simp) ?_; refine AllReadyH.cons rfl (fun K hK => ?_) AllReadyH.nil; go_simp)
  (refine (hN2.out _ _ _ PS.rd).mono ?_; rintro e w5 ⟨⟨g5, rfl, h4⟩ | ⟨g5, rfl⟩, k4⟩; rotate_left; (focus (exact ⟨rfl, rfl, rfl, 2, rfl, by decide, hbad.out (0 + 1 + 8) 2 (by omega) g5, _, by simp [zIT], PS.e.kp k4⟩)); replace PS := PS.kp k4 h4; refine hK.out _ _ (PS.R.cell (i := 0) rfl) (fun hHeld3 => ?_); clear hK K hHeld k4 h4; have hHeld := hHeld3; clear hHeld3)
  generalize hv9 : nvN (bI s) (0 + 1 + 8) 2 = x9 at *
  have hw9 : IntKind.i64.wrap (x9 : Int) = x9 := by rw [IntKind.wrap_i64]; omega
  (refine wpAnyH_take (i := 6) (v := ?_) rfl (by kernel_rfl) (by kernel_rfl) (by kernel_rfl) (fun _ _ _ h => onlyP_put (by decide) h) (Or.inl ⟨by rfl, ?_⟩) (by assumption) ?_; rotate_left; (focus (intro w hSw; (try dsimp only at hSw); go_simp; (try with_reducible rfl))); (try simp only [Act.put, List.setIfInBounds_toArray, List.set_cons_zero, List.set_cons_succ]))
  (refine wpAnyH_ready (rs := [9]) (by kernel_rfl) (by simp) ?_; refine AllReadyH.cons rfl (fun K hK => ?_) AllReadyH.nil; go_simp)
  (refine (hN2.out _ _ _ PS.rd).mono ?_; rintro e w6 ⟨⟨g6, rfl, h4⟩ | ⟨g6, rfl⟩, k4⟩; rotate_left; (focus (exact ⟨rfl, rfl, rfl, 2, rfl, by decide, hbad.out (0 + 1 + 8 + 2) 2 (by omega) g6, _, by simp [zIT], PS.e.kp k4⟩)); replace PS := PS.kp k4 h4; refine hK.out _ _ (PS.R.cell (i := 0) rfl) (fun hHeld3 => ?_); clear hK K hHeld k4 h4; have hHeld := hHeld3; clear hHeld3)
  generalize hv11 : nvN (bI s) (0 + 1 + 8 + 2) 2 = x11 at *
  have hw11 : IntKind.i64.wrap (x11 : Int) = x11 := by rw [IntKind.wrap_i64]; omega
  (refine wpAnyH_take (i := 10) (v := ?_) rfl (by kernel_rfl) (by kernel_rfl) (by kernel_rfl) (fun _ _ _ h => onlyP_put (by decide) h) (Or.inl ⟨by rfl, ?_⟩) (by assumption) ?_; rotate_left; (focus (intro w hSw; (try dsimp only at hSw); go_simp; (try with_reducible rfl))); (try simp only [Act.put, List.setIfInBounds_toArray, List.set_cons_zero, List.set_cons_succ]))
  (have y9 := PS.e.T.cell (i := 15) rfl; have z9 := PS.e.T.fz 15)
  (refine wpAnyH_ready (rs := [12]) (by kernel_rfl) (by simp) ?_; refine AllReadyH.cons rfl (fun K hK => ?_) AllReadyH.nil; go_simp)
  (replace PS := PS.set 15 (.int .u64 (x8 : Int)); refine hK.out _ _ (PS.R.cell (i := 0) rfl) (fun hHeld3 => ?_); clear hK K hHeld; generalize (World.setCell _ _ _) = w7 at *; have hHeld := hHeld3; clear hHeld3)
  clear y9 z9
  (refine wpAnyH_take (i := 13) (v := ?_) rfl (by kernel_rfl) (by kernel_rfl) (by kernel_rfl) (fun _ _ _ h => onlyP_put (by decide) h) (Or.inl ⟨by rfl, ?_⟩) (by assumption) ?_; rotate_left; (focus (intro w hSw; (try dsimp only at hSw); go_simp; (try with_reducible rfl))); (try simp only [Act.put, List.setIfInBounds_toArray, List.set_cons_zero, List.set_cons_succ]))
  (have y9 := PS.e.T.cell (i := 16) rfl; have z9 := PS.e.T.fz 16)
  (refine wpAnyH_ready (rs := [14]) (by kernel_rfl) (by simp) ?_; refine AllReadyH.cons rfl (fun K hK => ?_) AllReadyH.nil; go_simp)
  (replace PS := PS.set 16 (.int .i64 (x9 : Int)); refine hK.out _ _ (PS.R.cell (i := 0) rfl) (fun hHeld3 => ?_); clear hK K hHeld; generalize (World.setCell _ _ _) = w8 at *; have hHeld := hHeld3; clear hHeld3)
  clear y9 z9
  (refine wpAnyH_take (i := 15) (v := ?_) rfl (by kernel_rfl) (by kernel_rfl) (by kernel_rfl) (fun _ _ _ h => onlyP_put (by decide) h) (Or.inl ⟨by rfl, ?_⟩) (by assumption) ?_; rotate_left; (focus (intro w hSw; (try dsimp only at hSw); go_simp; (try with_reducible rfl))); (try simp only [Act.put, List.setIfInBounds_toArray, List.set_cons_zero, List.set_cons_succ]))
  (have y9 := PS.e.T.cell (i := 17) rfl; have z9 := PS.e.T.fz 17)
  (refine wpAnyH_ready (rs := [16]) (by kernel_rfl) (by simp) ?_; refine AllReadyH.cons rfl (fun K hK => ?_) AllReadyH.nil; go_simp)
  (replace PS := PS.set 17 (.int .i64 (x11 : Int)); refine hK.out _ _ (PS.R.cell (i := 0) rfl) (fun hHeld3 => ?_); clear hK K hHeld; generalize (World.setCell _ _ _) = w9 at *; have hHeld := hHeld3; clear hHeld3)
  clear y9 z9
  refine wpAnyH_done (by kernel_rfl) ?_ _
  refine onlyP_at ?_
  dsimp only [Exit.inBlock, Exit.then]
  have hc0 := PS.R.cell (i := 0) rfl
  have y0 : w9.cell? ⟨w.heap.size, 0, none⟩ = some (.int .i64 4) := PS.e.T.cell rfl
  clear hHeld
  go_wp2_with fail
  (refine wp_onlyP (D := deferT w) (x := .pointer (some ⟨w.heap.size, 0, none⟩)) (y := .pointer (some ⟨w.heap.size + 1, 0, none⟩)) (L := PanT s w) (fun _ _ _ h2 h3 h => panT_leave h2 h3 h) ?_; refine wp_region_held_drew (S := fun W => W.cell? ⟨g, 0, none⟩ = some (.pointer (some ⟨w.heap.size + 1 + 1, 0, none⟩))) (by kernel_rfl) hc0 ?_; intro hHeld; (refine wpAnyH_take (i := 0) (v := ?_) rfl (by kernel_rfl) (by kernel_rfl) (by kernel_rfl) (fun _ _ _ h => onlyP_put (by decide) h) (Or.inl ⟨by rfl, ?_⟩) (by assumption) ?_; rotate_left; (focus (intro w hSw; (try dsimp only at hSw); go_simp; (try with_reducible rfl))); (try simp only [Act.put, List.setIfInBounds_toArray, List.set_cons_zero, List.set_cons_succ])); (refine wpAnyH_take (i := 1) (v := ?_) rfl (by kernel_rfl) (by kernel_rfl) (by kernel_rfl) (fun _ _ _ h => onlyP_put (by decide) h) (Or.inl ⟨by rfl, ?_⟩) (by assumption) ?_; rotate_left; (focus (intro w hSw; (try dsimp only at hSw); go_simp; (try with_reducible rfl))); (try simp only [Act.put, List.setIfInBounds_toArray, List.set_cons_zero, List.set_cons_succ])); (refine wpAnyH_take (i := 2) (v := ?_) rfl (by kernel_rfl) (by kernel_rfl) (by kernel_rfl) (fun _ _ _ h => onlyP_put (by decide) h) (Or.inl ⟨by rfl, ?_⟩) (by assumption) ?_; rotate_left; (focus (intro w hSw; (try dsimp only at hSw); go_simp; (try with_reducible rfl))); (try simp only [Act.put, List.setIfInBounds_toArray, List.set_cons_zero, List.set_cons_succ])); (refine wpAnyH_take (i := 3) (v := ?_) rfl (by kernel_rfl) (by kernel_rfl) (by kernel_rfl) (fun _ _ _ h => onlyP_put (by decide) h) (Or.inl ⟨by rfl, ?_⟩) (by assumption) ?_; rotate_left; (focus (intro w hSw; (try dsimp only at hSw); go_simp; (try with_reducible rfl))); (try simp only [Act.put, List.setIfInBounds_toArray, List.set_cons_zero, List.set_cons_succ])); (refine wpAnyH_ready (rs := [4]) (by kernel_rfl) (by simp) ?_; refine AllReadyH.cons rfl (fun K hK => ?_) AllReadyH.nil; go_simp); replace PS := PS.drew; refine (hLf.out _ _ _ PS.rd).mono ?_; rintro e w4 ⟨rfl, h4, k4⟩; replace PS := PS.kp k4 h4; refine hK.out _ _ (PS.R.cell (i := 0) rfl) (fun hHeld3 => ?_); clear hK K hHeld hc0 k4 h4; (refine wpAnyH_ready (rs := [5]) (by kernel_rfl) (by simp) ?_; refine AllReadyH.cons rfl (fun K hK => ?_) AllReadyH.nil; go_simp); refine (hTx.out _ _ _ PS.rd).mono ?_; rintro e w5 ⟨D, rfl, hD, h5, k5⟩; replace PS := PS.kp k5 h5; refine hK.out _ _ (PS.R.cell (i := 0) rfl) (fun hHeld5 => ?_); clear hK K hHeld3 k5 h5; have y5 := PS.e.T.cell (i := 1) rfl; have z5 := PS.e.T.fz 1; (refine wpAnyH_take (i := 6) (v := ?_) rfl (by kernel_rfl) (by kernel_rfl) (by kernel_rfl) (fun _ _ _ h => onlyP_put (by decide) h) (Or.inl ⟨by rfl, ?_⟩) (by assumption) ?_; rotate_left; (focus (intro w hSw; (try dsimp only at hSw); go_simp; (try with_reducible rfl))); (try simp only [Act.put, List.setIfInBounds_toArray, List.set_cons_zero, List.set_cons_succ])); (refine wpAnyH_ready (rs := [7]) (by kernel_rfl) (by simp) ?_; refine AllReadyH.cons rfl (fun K hK => ?_) AllReadyH.nil; go_simp); replace PS := PS.set 1 (.string D); refine hK.out _ _ (PS.R.cell (i := 0) rfl) (fun hHeld6 => ?_); clear hK K hHeld5 y5 z5; generalize (World.setCell _ _ _) = w6 at *; refine wpAnyH_done (by kernel_rfl) ?_ _; refine onlyP_at ?_)
  go_wp2_with (first
    | (refine wpList_blk_load rfl (.tmp 4) rfl Try.underlying82 rfl rfl PS.R (by kernel_rfl) ?_))
  (refine (hEn.out _ _ _ PS.rd).mono ?_; rintro e w8 ⟨⟨g6, rfl⟩ | ⟨g6, rfl⟩, b8⟩)
  case inr => exact (by omega : False).elim
  (replace PS := PS.kp (Kp.ofBelow b8) (PS.rd.below b8 PS.rd.lt))
  have hE0 : Hid (itPE (bI s) = 0) := by rw [he.out]; exact if_neg (by omega)
  have hT : BlkAt w8 w.heap.size 34 #[.int .i64 4, .string D, .int .u32 0, .int .u64 0, .bool false, .bool false, .int .u64 0, .int .u64 0, .int .i64 0, .int .u64 0, .slice none 0 0, .int .u64 0, .int .u64 0, .int .i64 0, .int .u64 0, .int .u64 (x8 : Int), .int .i64 (x9 : Int), .int .i64 (x11 : Int)] := PS.e.T
  go_wp2_with (first | (refine wpList_blk_load rfl (.tmp 2) rfl Try.underlying34 rfl rfl hT Try.itI ?_) | (refine wpList_blk_store (cs := #[.int .i64 4, .string D, .int .u32 0, .int .u64 0, .bool false, .bool false, .int .u64 0, .int .u64 0, .int .i64 0, .int .u64 0, .slice none 0 0, .int .u64 0, .int .u64 0, .int .i64 0, .int .u64 0, .int .u64 (x8 : Int), .int .i64 (x9 : Int), .int .i64 (x11 : Int)]) rfl (.tmp 2) (.tmp 96) rfl rfl rfl hT Try.itI rfl (by simp [Value.oneCell']) ?_; intro w9 hT9 hK9 hs9; replace PS := PS.put hT9 hK9; have y9 := PS.e.E.cell (i := 0) rfl; have z9 := PS.e.E.fz 0; clear hT))
  (have k9 := (Kp.refl (w.heap.size + 1) w9).setCell ⟨w.heap.size + 1, 0, none⟩ rfl (.int .i64 0); have hT10 := k9.blk PS.e.T (by omega); have hE10 := (PS.e.E.set 0 (.int .i64 0)).cell (i := 0) rfl; have hb10 := Kp.below PS.e.bel k9 (by omega) PS.e.bel.size)
  refine fin_leaveT rfl rfl hT10 rfl hE10 ⟨⟨itPV (bI s), D, none, 0, 0, ?_, fun _ => rfl, fun h => absurd hE0.out h, ?_, ?_⟩, hb10⟩
  · rw [hE0.out, hv.out]; rfl
  · rw [hv.out]; exact hD.out.symm
  · rw [hv.out]; exact Rd.mk_nil _ _
end Go.Proofs.Ytdfnpaaejjediaa
