/- log: the reference's ParseItem, kind 1 -/
import Derived.Test.YtdfnpaaejjediaaLogAi
import Derived.Test.YtdfnpaaejjediaaPut
namespace Go.Proofs.Ytdfnpaaejjediaa
open Go.RowKit Go.Sort

set_option maxHeartbeats 12800000 in
set_option maxRecDepth 100000 in
theorem rpi_1 (s : ByteArray) (w : World) (hz : s.size ≤ 5000) (h1 : 1 ≤ s.size) (hk : gN s 0 1 = 1) : Calls Try.prog 17 #[.string s] w (PiPost s w) := by
  obtain ⟨E1, E2⟩ := qd_eq h1 hk
  have hDD := Lib.hid (show bI (s.extract 1 s.size) = (bI s).drop 1 from by rw [bI_extract, List.take_of_length_le (by rw [bI_len]; exact Nat.le_refl _)])
  rw [← hDD.out] at E2
  have h1I : (1 : Int) ≤ s.size := by omega
  replace E2 := Lib.hid (fun h => (E2 h).symm)
  have hN0 : Hid (∀ W b, Tk W b s 0 0 → Calls Try.prog 39 #[.pointer (some ⟨b, 0, none⟩), .int .i64 1] W fun x w' => x = .returned (.int .u64 1) ∧ Tk w' b s 1 0 ∧ Kp b W w') := fun W b h => (tnum_any 1 (by decide) (by decide) h hz (by omega)).mono (by rintro x w' ⟨rfl, h2, h3⟩; rw [nE_ok (by omega)] at h2; rw [hk]; exact ⟨rfl, h2, h3⟩)
  have hN := Lib.hid (fun (W : World) (b q m : Nat) (e : Int) (h1 : 1 ≤ m) (h2 : m ≤ 8) (hq : q ≤ 100000) (h : Tk W b s q e) => tnum_any m h1 h2 h hz hq)
  have hB := Lib.hid (fun (W : World) (b q : Nat) (e k : Int) (t : Bool) (h : Tk W b s q e) => tbad_any (k := k) t h)
  have hBf : Hid (∀ (W : World) (b q : Nat) (e k : Int), Tk W b s q e → Calls Try.prog 40 #[.pointer (some ⟨b, 0, none⟩), .int .i64 k, .bool false] W fun x w' => x = .returned (.tuple #[]) ∧ Tk w' b s q e ∧ Kp b W w' ∧ w'.heap.size = W.heap.size) := fun W b q e k h => tbad_any (k := k) false h
  have hq1 := Lib.hid (show q1 s = bE 0 3 (decide ((1024 : Int) < s.size)) from rfl)
  go_enter Try.func17, Try.ntmps17
  go_wp2_with (first
    | (refine wpList_blk_alloc rfl rfl Try.riZ w.heap.size rfl ?_)
    | (refine wpList_blk_build rfl #[(0, .tmp 7)] rfl (by rw [List.map_toArray]; exact Try.tkB s) ?_)
    | (refine wpList_blk_box rfl (.tmp 8) rfl rfl (w.heap.size + 1) (by simp) ?_))
  have h0 : PS w ((w.alloc (.cells zIT 48)).alloc (.cells #[.string s, .int .i64 0, .int .i64 0] 87)) 48 zIT s 0 0 :=
    ⟨((Below.refl _ _).alloc (Nat.le_refl _) _).alloc (by simp) _, (BlkAt.new w _ _).alloc _, ⟨by have := BlkAt.new (w.alloc (.cells zIT 48)) 87 #[.string s, .int .i64 0, .int .i64 0]; simpa using this⟩⟩
  generalize (w.alloc _).alloc _ = w1 at *
  refine (hN0.out _ _ h0.tk).mono ?_
  rintro x w2 ⟨rfl, t2, k2⟩
  replace h0 := h0.kp k2 t2
  clear t2 k2 hN0
  have hz2 := h0.tk.lt
  go_wp2_with (first
    | (refine wpList_blk_build rfl #[(0, .tmp 12)] rfl (by rw [List.map_toArray]; exact Try.riB1 1) ?_)
    | (refine wpList_blk_alloc rfl rfl Try.riZ w2.heap.size rfl ?_)
    | (refine wpList_blk_store (cs := #[.int .i64 1, .string ⟨#[]⟩, .int .u32 0, .int .u64 0, .bool false, .bool false, .int .u64 0, .int .u64 0, .int .i64 0, .int .u64 0, .slice none 0 0, .int .u64 0, .int .u64 0, .int .i64 0, .int .u64 0, .int .u64 0, .int .i64 0, .int .i64 0]) rfl (.tmp 5) (.tmp 13) rfl rfl rfl (BlkAt.new w2 _ _) Try.riI rfl (by simp [Value.oneCell']) ?_; intro w3 hT3 hK3 hs3; have y0 := hT3.cell (i := 0) rfl))
  replace h0 := h0.below (alloc_store hK3)
  have hg : w.heap.size + 1 < w2.heap.size := hz2
  clear hK3 hs3 hz2
  generalize w2.heap.size = g at *
  refine (hBf.out _ _ _ _ _ h0.tk).mono ?_
  rintro x w4 ⟨rfl, t4, k4, _⟩
  replace h0 := h0.kp k4 t4
  have hT4 := k4.blk hT3 (by omega)
  clear t4 k4 hT3 y0 hBf
  go_wp2_with fail
  refine (hB.out _ _ _ _ _ _ h0.tk).mono ?_
  rintro x w5 ⟨rfl, t5, k5, _⟩
  rw [← hq1.out] at t5
  replace h0 := h0.kp k5 t5
  have hT5 := k5.blk hT4 (by omega)
  have y0 := hT5.cell (i := 0) rfl
  clear t5 k5 hT4 hq1
  rw [E1] at h0
  generalize hE : itPE (bI s) = er at *
  replace hE := Lib.hid hE
  clear E1 hN hDD
  obtain ⟨d1, df, d2⟩ := h0.got
  have hf1 := hT5.fz 1
  have hy1 := hT5.cell (i := 1) rfl
  by_cases he2 : er = 0
  · subst he2
    go_wp2_with fail
    have hTa := hT5.set 1 (.string (s.extract 1 s.size))
    have qa := (Kp.refl g w5).setCell ⟨g, 1, none⟩ rfl (.string (s.extract 1 s.size))
    have h0a := h0.other qa (by omega)
    have h0b := h0a.setAt
    have qb := (Kp.refl (w.heap.size + 1) (w5.setCell ⟨g, 1, none⟩ (.string (s.extract 1 s.size)))).setCell ⟨w.heap.size + 1, 1, none⟩ rfl (.int .i64 (s.size : Nat))
    have hTb := qb.blk hTa (by omega)
    refine (hB.out _ _ _ _ 4 false h0b.tk).mono ?_
    rintro x w8 ⟨rfl, t8, k8, _⟩
    replace h0 := h0b.kp k8 (show Tk w8 _ s s.size 0 from t8)
    have hT : BlkAt w8 g 48 #[.int .i64 1, .string (s.extract 1 s.size), .int .u32 0, .int .u64 0, .bool false, .bool false, .int .u64 0, .int .u64 0, .int .i64 0, .int .u64 0, .slice none 0 0, .int .u64 0, .int .u64 0, .int .i64 0, .int .u64 0, .int .u64 0, .int .i64 0, .int .i64 0] := k8.blk (show BlkAt _ g 48 #[.int .i64 1, .string (s.extract 1 s.size), .int .u32 0, .int .u64 0, .bool false, .bool false, .int .u64 0, .int .u64 0, .int .i64 0, .int .u64 0, .slice none 0 0, .int .u64 0, .int .u64 0, .int .i64 0, .int .u64 0, .int .u64 0, .int .i64 0, .int .i64 0] from hTb) (by omega)
    obtain ⟨_, _, d2'⟩ := h0.got
    clear t8 k8 hTb qb h0b h0a qa hTa d1 df d2 hf1 hy1 hT5 hB
    generalize s.extract 1 s.size = D at *
    obtain ⟨hT, hH⟩ : BlkAt _ g 48 #[.int .i64 1, .string D, .int .u32 0, .int .u64 0, .bool false, .bool false, .int .u64 0, .int .u64 0, .int .i64 0, .int .u64 0, .slice none 0 0, .int .u64 0, .int .u64 0, .int .i64 0, .int .u64 0, .int .u64 0, .int .i64 0, .int .i64 0] ∧ Hid True := ⟨hT, trivial⟩
    go_wp2_with (first
      | (refine wpList_blk_load rfl (.tmp 5) rfl Try.underlying48 rfl rfl hT Try.riI ?_)
      | (refine wpList_blk_store (cs := #[.int .i64 1, .string D, .int .u32 0, .int .u64 0, .bool false, .bool false, .int .u64 0, .int .u64 0, .int .i64 0, .int .u64 0, .slice none 0 0, .int .u64 0, .int .u64 0, .int .i64 0, .int .u64 0, .int .u64 0, .int .i64 0, .int .i64 0]) rfl (.tmp 2) (.tmp 121) rfl rfl rfl h0.Z Try.riI rfl (by simp [Value.oneCell']) ?_; intro w11 hZ11 hK11 hs11))
    refine bodyPost_ret (results_cell_slot rfl _ _ w.heap.size 48 _ (.int .i64 0) _ rfl rfl hZ11 Try.underlying48 Try.riI) rfl ⟨⟨⟨1, bI D, 0, 0, false, false, ⟨.zero, []⟩, .zero, 0, 0, 0⟩, D, none, 0, 0, by rw [hE.out]; rfl, fun _ => E2.out trivial, fun h => absurd hE.out h, rfl, Rd.mk_nil _ _⟩, Kp.below h0.bel hK11 (Nat.le_refl _) h0.bel.size⟩
  · go_wp2_with fail
    refine (hB.out _ _ _ _ 4 _ h0.tk).mono ?_
    rintro x w8 ⟨rfl, t8, k8, _⟩
    rw [bE_ne he2] at t8
    replace h0 := h0.kp k8 t8
    have h00 := he2
    clear t8 k8 d1 df d2 hf1 hy1 hB
    obtain ⟨_, _, d2⟩ := h0.got
    go_wp2_with fail
    refine wp_region_held_drew (S := fun W => W.cell? ⟨w.heap.size + 1, 2, none⟩ = some (.int .i64 er)) (by kernel_rfl) d2 ?_
    intro hHeld
    (refine wpAnyH_take (i := 0) (v := ?_) rfl (by kernel_rfl) (by kernel_rfl) (by kernel_rfl) (fun _ _ _ h => h) (Or.inl ⟨by rfl, ?_⟩) (by assumption) ?_; rotate_left; (focus (intro w hSw; (try dsimp only at hSw); go_simp; (try with_reducible rfl))); (try simp only [Act.put, List.getElem_toArray, List.getElem_cons_zero, List.getElem_cons_succ, List.setIfInBounds_toArray, List.set_cons_zero, List.set_cons_succ]))
    (refine wpAnyH_take (i := 1) (v := ?_) rfl (by kernel_rfl) (by kernel_rfl) (by kernel_rfl) (fun _ _ _ h => h) (Or.inl ⟨by rfl, ?_⟩) (by assumption) ?_; rotate_left; (focus (intro w hSw; (try dsimp only at hSw); go_simp; (try with_reducible rfl))); (try simp only [Act.put, List.getElem_toArray, List.getElem_cons_zero, List.getElem_cons_succ, List.setIfInBounds_toArray, List.set_cons_zero, List.set_cons_succ]))
    (refine wpAnyH_take (i := 2) (v := ?_) rfl (by kernel_rfl) (by kernel_rfl) (by kernel_rfl) (fun _ _ _ h => h) (Or.inl ⟨by rfl, ?_⟩) (by assumption) ?_; rotate_left; (focus (intro w hSw; (try dsimp only at hSw); go_simp; (try with_reducible rfl))); (try simp only [Act.put, List.getElem_toArray, List.getElem_cons_zero, List.getElem_cons_succ, List.setIfInBounds_toArray, List.set_cons_zero, List.set_cons_succ]))
    (refine wpAnyH_take (i := 3) (v := ?_) rfl (by kernel_rfl) (by kernel_rfl) (by kernel_rfl) (fun _ _ _ h => h) (Or.inl ⟨by rfl, ?_⟩) (by assumption) ?_; rotate_left; (focus (intro w hSw; (try dsimp only at hSw); go_simp; (try with_reducible rfl))); (try simp only [Act.put, List.getElem_toArray, List.getElem_cons_zero, List.getElem_cons_succ, List.setIfInBounds_toArray, List.set_cons_zero, List.set_cons_succ]))
    (refine wpAnyH_take (i := 4) (v := ?_) rfl (by kernel_rfl) (by kernel_rfl) (by kernel_rfl) (fun _ _ _ h => h) (Or.inl ⟨by rfl, ?_⟩) (by assumption) ?_; rotate_left; (focus (intro w hSw; (try dsimp only at hSw); go_simp; (try with_reducible rfl))); (try simp only [Act.put, List.getElem_toArray, List.getElem_cons_zero, List.getElem_cons_succ, List.setIfInBounds_toArray, List.set_cons_zero, List.set_cons_succ]))
    (refine wpAnyH_ready (rs := [5]) (by kernel_rfl) (by simp) ?_; refine AllReadyH.cons rfl (fun K hK => ?_) AllReadyH.nil)
    refine step_blk_store (cs := zIT) none rfl rfl (.tmp 2) (.tmp 116) rfl rfl rfl h0.Z.drew Try.riI rfl zIT_one ?_
    intro w11 hZ11 hK11 hs11
    (try simp only [Act.put, List.getElem_toArray, List.getElem_cons_zero, List.getElem_cons_succ, List.setIfInBounds_toArray, List.set_cons_zero, List.set_cons_succ])
    refine hK.out _ _ ((hK11.blk h0.tk.blk (by omega)).cell rfl) (fun hHeld4 => ?_)
    clear hK K hHeld
    (refine wpAnyH_take (i := 6) (v := ?_) rfl (by kernel_rfl) (by kernel_rfl) (by kernel_rfl) (fun _ _ _ h => h) (Or.inl ⟨by rfl, ?_⟩) (by assumption) ?_; rotate_left; (focus (intro w hSw; (try dsimp only at hSw); go_simp; (try with_reducible rfl))); (try simp only [Act.put, List.getElem_toArray, List.getElem_cons_zero, List.getElem_cons_succ, List.setIfInBounds_toArray, List.set_cons_zero, List.set_cons_succ]))
    refine wpAnyH_done (by kernel_rfl) ?_ _
    go_wp2
    exact bodyPost_ret (results_cell_slot rfl _ _ w.heap.size 48 _ (.int .i64 er) _ rfl rfl hZ11 Try.underlying48 Try.riI) rfl ⟨⟨It.none, ⟨#[]⟩, none, 0, 0, by rw [hE.out]; rfl, fun h => absurd (hE.out.symm.trans h) h00, fun h => rfl, rfl, Rd.mk_nil _ _⟩, Kp.below h0.bel (Kp.trans ((Kp.refl w.heap.size _).drewN 1) hK11) (Nat.le_refl _) h0.bel.size⟩
end Go.Proofs.Ytdfnpaaejjediaa
