/- log: the reference's ParseItem, kind 3 -/
import Derived.Test.YtdfnpaaejjediaaLogAi
import Derived.Test.YtdfnpaaejjediaaPut
namespace Go.Proofs.Ytdfnpaaejjediaa
open Go.RowKit Go.Sort

set_option maxHeartbeats 6400000 in
set_option maxRecDepth 100000 in
theorem rpi_3 (s : ByteArray) (w : World) (hz : s.size ≤ 5000) (h1 : 1 ≤ s.size) (hk : gN s 0 1 = 3) : Calls Try.prog 17 #[.string s] w (PiPost s w) := by
  have hV := Lib.hid (fun (W : World) (b : Nat) (e : Int) (h : Tk W b s 1 e) => tview_any h hz (by omega))
  have hq := Lib.hid (show q3 s = bE (tvE s 1 (q1 s)) 4 (decide ((26 : Int) < s.size)) from rfl)
  obtain ⟨E1, E2⟩ := q3_eq h1 hk
  replace E1 := Lib.hid E1
  replace E2 := Lib.hid E2
  have hN0 : Hid (∀ W b, Tk W b s 0 0 → Calls Try.prog 39 #[.pointer (some ⟨b, 0, none⟩), .int .i64 1] W fun x w' => x = .returned (.int .u64 3) ∧ Tk w' b s 1 0 ∧ Kp b W w') := fun W b h => (tnum_any 1 (by decide) (by decide) h hz (by omega)).mono (by rintro x w' ⟨rfl, h2, h3⟩; rw [nE_ok (by omega)] at h2; rw [hk]; exact ⟨rfl, h2, h3⟩)
  have hN := Lib.hid (fun (W : World) (b q m : Nat) (e : Int) (h1 : 1 ≤ m) (h2 : m ≤ 8) (hq : q ≤ 100000) (h : Tk W b s q e) => tnum_any m h1 h2 h hz hq)
  have hB := Lib.hid (fun (W : World) (b q : Nat) (e k : Int) (t : Bool) (h : Tk W b s q e) => tbad_any (k := k) t h)
  have hBf : Hid (∀ (W : World) (b q : Nat) (e k : Int), Tk W b s q e → Calls Try.prog 40 #[.pointer (some ⟨b, 0, none⟩), .int .i64 k, .bool false] W fun x w' => x = .returned (.tuple #[]) ∧ Tk w' b s q e ∧ Kp b W w' ∧ w'.heap.size = W.heap.size) := fun W b q e k h => tbad_any (k := k) false h
  have hq1 := Lib.hid (show q1 s = bE 0 3 (decide ((1024 : Int) < s.size)) from rfl)
  go_enter Try.func17, Try.ntmps17
  go_wp2_with (first
    | (refine wpList_blk_alloc rfl rfl Try.riZ w.heap.size rfl ?_)
    | (refine wpList_blk_build rfl #[(0, .tmp 7)] rfl (by rw [List.map_toArray]; exact Try.tkB s) ?_)
    | (refine wpList_blk_box rfl (.tmp 8) rfl rfl (w.heap.size + 1) (by simp) ?_))
  have h0 : PS w ((w.alloc (.cells zIT 48)).alloc (.cells #[.string s, .int .i64 0, .int .i64 0] 87)) 48 zIT s 0 0 :=
    ⟨((Below.refl _ _).alloc (Nat.le_refl _) _).alloc (by simp) _, (BlkAt.new w _ _).alloc _, ⟨by have := BlkAt.new (w.alloc (.cells zIT 48)) 87 #[.string s, .int .i64 0, .int .i64 0]; simpa using this⟩⟩
  generalize (w.alloc _).alloc _ = w1 at *
  refine (hN0.out _ _ h0.tk).mono ?_
  rintro x w2 ⟨rfl, t2, k2⟩
  replace h0 := h0.kp k2 t2
  clear t2 k2 hN0
  have hz2 := h0.tk.lt
  go_wp2_with (first
    | (refine wpList_blk_build rfl #[(0, .tmp 12)] rfl (by rw [List.map_toArray]; exact Try.riB1 3) ?_)
    | (refine wpList_blk_alloc rfl rfl Try.riZ w2.heap.size rfl ?_)
    | (refine wpList_blk_store (cs := #[.int .i64 3, .string ⟨#[]⟩, .int .u32 0, .int .u64 0, .bool false, .bool false, .int .u64 0, .int .u64 0, .int .i64 0, .int .u64 0, .slice none 0 0, .int .u64 0, .int .u64 0, .int .i64 0, .int .u64 0, .int .u64 0, .int .i64 0, .int .i64 0]) rfl (.tmp 5) (.tmp 13) rfl rfl rfl (BlkAt.new w2 _ _) Try.riI rfl (by simp [Value.oneCell']) ?_; intro w3 hT3 hK3 hs3; have y0 := hT3.cell (i := 0) rfl))
  replace h0 := h0.below (alloc_store hK3)
  have hg : w.heap.size + 1 < w2.heap.size := hz2
  clear hK3 hs3 hz2
  generalize w2.heap.size = g at *
  refine (hBf.out _ _ _ _ _ h0.tk).mono ?_
  rintro x w4 ⟨rfl, t4, k4, _⟩
  replace h0 := h0.kp k4 t4
  have hT4 := k4.blk hT3 (by omega)
  clear t4 k4 hT3 y0 hBf
  go_wp2_with fail
  refine (hB.out _ _ _ _ _ _ h0.tk).mono ?_
  rintro x w5 ⟨rfl, t5, k5, _⟩
  rw [← hq1.out] at t5
  replace h0 := h0.kp k5 t5
  have hT5 := k5.blk hT4 (by omega)
  have y0 := hT5.cell (i := 0) rfl
  clear t5 k5 hT4 hq1
  go_wp2_with fail
  refine (hV.out _ _ _ h0.tk).mono ?_
  rintro x w6 ⟨rfl, t6, k6⟩
  replace h0 := h0.kp k6 (show Tk w6 _ s 26 _ from t6)
  have hT6 := k6.blk hT5 (by omega)
  clear t6 k6 hT5 y0 hV hN
  generalize tvw s 1 = u at *
  generalize tvE s 1 (q1 s) = e2 at *
  have hee : e2 = 0 ∨ ¬ e2 = 0 := by omega
  rcases hee with he2 | he2
  all_goals
    go_wp2_with (first | (refine wpList_blk_put rfl (.tmp 61) (.tmp 60) rfl rfl rfl hT6 (Try.viewI u) (Nat.le_of_ble_eq_true rfl) (vwA_one u) ?_; intro w7 hT7 hK7 hs7; replace h0 := h0.other hK7 (by omega); obtain ⟨d1, df, d2⟩ := h0.got; have y0 : w7.cell? ⟨g, 0, none⟩ = some (.int .i64 3) := hT7.cell (i := 0) rfl))
    refine (hB.out _ _ _ _ 4 _ h0.tk).mono ?_
    rintro x w8 ⟨rfl, t8, k8, _⟩
    rw [← hq.out, E1.out] at t8
    replace h0 := h0.kp k8 t8
    have hT : BlkAt w8 g 48 #[.int .i64 3, .string ⟨#[]⟩, .int .u32 0, .int .u64 0, .bool false, .bool false, .int .u64 0, .int .u64 0, .int .i64 0, .int .u64 0, .slice none 0 0, .int .u64 u.num, .int .u64 u.ce, .int .i64 u.cr, .int .u64 u.mem, .int .u64 0, .int .i64 0, .int .i64 0] := k8.blk hT7 (by omega)
    obtain ⟨_, _, d2'⟩ := h0.got
    clear t8 k8 hT7 hK7 hs7 d1 df d2 y0 hT6 hq E1 hB he2
    generalize hE : itPE (bI s) = er at *
    replace hE := Lib.hid hE
    by_cases h00 : er = 0
    · obtain ⟨hT, hH⟩ : BlkAt _ g 48 #[.int .i64 3, .string ⟨#[]⟩, .int .u32 0, .int .u64 0, .bool false, .bool false, .int .u64 0, .int .u64 0, .int .i64 0, .int .u64 0, .slice none 0 0, .int .u64 u.num, .int .u64 u.ce, .int .i64 u.cr, .int .u64 u.mem, .int .u64 0, .int .i64 0, .int .i64 0] ∧ Hid True := ⟨hT, trivial⟩
      subst h00
      go_wp2_with (first
        | (refine wpList_blk_load rfl (.tmp 5) rfl Try.underlying48 rfl rfl hT Try.riI ?_)
        | (refine wpList_blk_store (cs := #[.int .i64 3, .string ⟨#[]⟩, .int .u32 0, .int .u64 0, .bool false, .bool false, .int .u64 0, .int .u64 0, .int .i64 0, .int .u64 0, .slice none 0 0, .int .u64 u.num, .int .u64 u.ce, .int .i64 u.cr, .int .u64 u.mem, .int .u64 0, .int .i64 0, .int .i64 0]) rfl (.tmp 2) (.tmp 121) rfl rfl rfl h0.Z Try.riI rfl (by simp [Value.oneCell']) ?_; intro w11 hZ11 hK11 hs11))
      refine bodyPost_ret (results_cell_slot rfl _ _ w.heap.size 48 _ (.int .i64 0) _ rfl rfl hZ11 Try.underlying48 Try.riI) rfl ⟨⟨⟨3, [], 0, 0, false, false, ⟨.zero, []⟩, u, 0, 0, 0⟩, ⟨#[]⟩, none, 0, 0, by rw [hE.out]; rfl, fun _ => E2.out trivial, fun h => absurd hE.out h, rfl, Rd.mk_nil _ _⟩, Kp.below h0.bel hK11 (Nat.le_refl _) h0.bel.size⟩
    · obtain ⟨_, _, d2⟩ := h0.got
      go_wp2_with fail
      refine wp_region_held_drew (S := fun W => W.cell? ⟨w.heap.size + 1, 2, none⟩ = some (.int .i64 er)) (by kernel_rfl) d2 ?_
      intro hHeld
      (refine wpAnyH_take (i := 0) (v := ?_) rfl (by kernel_rfl) (by kernel_rfl) (by kernel_rfl) (fun _ _ _ h => h) (Or.inl ⟨by rfl, ?_⟩) (by assumption) ?_; rotate_left; (focus (intro w hSw; (try dsimp only at hSw); go_simp; (try with_reducible rfl))); (try simp only [Act.put, List.getElem_toArray, List.getElem_cons_zero, List.getElem_cons_succ, List.setIfInBounds_toArray, List.set_cons_zero, List.set_cons_succ]))
      (refine wpAnyH_take (i := 1) (v := ?_) rfl (by kernel_rfl) (by kernel_rfl) (by kernel_rfl) (fun _ _ _ h => h) (Or.inl ⟨by rfl, ?_⟩) (by assumption) ?_; rotate_left; (focus (intro w hSw; (try dsimp only at hSw); go_simp; (try with_reducible rfl))); (try simp only [Act.put, List.getElem_toArray, List.getElem_cons_zero, List.getElem_cons_succ, List.setIfInBounds_toArray, List.set_cons_zero, List.set_cons_succ]))
      (refine wpAnyH_take (i := 2) (v := ?_) rfl (by kernel_rfl) (by kernel_rfl) (by kernel_rfl) (fun _ _ _ h => h) (Or.inl ⟨by rfl, ?_⟩) (by assumption) ?_; rotate_left; (focus (intro w hSw; (try dsimp only at hSw); go_simp; (try with_reducible rfl))); (try simp only [Act.put, List.getElem_toArray, List.getElem_cons_zero, List.getElem_cons_succ, List.setIfInBounds_toArray, List.set_cons_zero, List.set_cons_succ]))
      (refine wpAnyH_take (i := 3) (v := ?_) rfl (by kernel_rfl) (by kernel_rfl) (by kernel_rfl) (fun _ _ _ h => h) (Or.inl ⟨by rfl, ?_⟩) (by assumption) ?_; rotate_left; (focus (intro w hSw; (try dsimp only at hSw); go_simp; (try with_reducible rfl))); (try simp only [Act.put, List.getElem_toArray, List.getElem_cons_zero, List.getElem_cons_succ, List.setIfInBounds_toArray, List.set_cons_zero, List.set_cons_succ]))
      (refine wpAnyH_take (i := 4) (v := ?_) rfl (by kernel_rfl) (by kernel_rfl) (by kernel_rfl) (fun _ _ _ h => h) (Or.inl ⟨by rfl, ?_⟩) (by assumption) ?_; rotate_left; (focus (intro w hSw; (try dsimp only at hSw); go_simp; (try with_reducible rfl))); (try simp only [Act.put, List.getElem_toArray, List.getElem_cons_zero, List.getElem_cons_succ, List.setIfInBounds_toArray, List.set_cons_zero, List.set_cons_succ]))
      (refine wpAnyH_ready (rs := [5]) (by kernel_rfl) (by simp) ?_; refine AllReadyH.cons rfl (fun K hK => ?_) AllReadyH.nil)
      refine step_blk_store (cs := zIT) none rfl rfl (.tmp 2) (.tmp 116) rfl rfl rfl h0.Z.drew Try.riI rfl zIT_one ?_
      intro w11 hZ11 hK11 hs11
      (try simp only [Act.put, List.getElem_toArray, List.getElem_cons_zero, List.getElem_cons_succ, List.setIfInBounds_toArray, List.set_cons_zero, List.set_cons_succ])
      refine hK.out _ _ ((hK11.blk h0.tk.blk (by omega)).cell rfl) (fun hHeld4 => ?_)
      clear hK K hHeld
      (refine wpAnyH_take (i := 6) (v := ?_) rfl (by kernel_rfl) (by kernel_rfl) (by kernel_rfl) (fun _ _ _ h => h) (Or.inl ⟨by rfl, ?_⟩) (by assumption) ?_; rotate_left; (focus (intro w hSw; (try dsimp only at hSw); go_simp; (try with_reducible rfl))); (try simp only [Act.put, List.getElem_toArray, List.getElem_cons_zero, List.getElem_cons_succ, List.setIfInBounds_toArray, List.set_cons_zero, List.set_cons_succ]))
      refine wpAnyH_done (by kernel_rfl) ?_ _
      go_wp2
      exact bodyPost_ret (results_cell_slot rfl _ _ w.heap.size 48 _ (.int .i64 er) _ rfl rfl hZ11 Try.underlying48 Try.riI) rfl ⟨⟨It.none, ⟨#[]⟩, none, 0, 0, by rw [hE.out]; rfl, fun h => absurd (hE.out.symm.trans h) h00, fun h => rfl, rfl, Rd.mk_nil _ _⟩, Kp.below h0.bel (Kp.trans ((Kp.refl w.heap.size _).drewN 1) hK11) (Nat.le_refl _) h0.bel.size⟩
end Go.Proofs.Ytdfnpaaejjediaa
