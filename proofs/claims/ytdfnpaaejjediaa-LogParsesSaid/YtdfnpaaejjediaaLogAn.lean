/- log: the reference's ParseItem, none of the kinds -/
import Derived.Test.YtdfnpaaejjediaaLogAj
import Derived.Test.YtdfnpaaejjediaaLogAk
import Derived.Test.YtdfnpaaejjediaaLogAl
import Derived.Test.YtdfnpaaejjediaaLogAm
import Derived.Test.YtdfnpaaejjediaaPut
namespace Go.Proofs.Ytdfnpaaejjediaa
open Go.RowKit Go.Sort

set_option maxHeartbeats 12800000 in
set_option maxRecDepth 100000 in
theorem rpi_z (s : ByteArray) (w : World) (hz : s.size ≤ 5000) (hk : gN s 0 1 = 0) : Calls Try.prog 17 #[.string s] w (PiPost s w) := by
  obtain ⟨hE0, h00⟩ := q0_eq (s := s) (fun _ => by omega)
  generalize hE : itPE (bI s) = er at *
  replace hE := Lib.hid hE
  have hN0 : Hid (∀ W b, Tk W b s 0 0 → Calls Try.prog 39 #[.pointer (some ⟨b, 0, none⟩), .int .i64 1] W fun x w' => x = .returned (.int .u64 0) ∧ Tk w' b s 1 (nE s 0 1 0) ∧ Kp b W w') := fun W b h => (tnum_any 1 (by decide) (by decide) h hz (by omega)).mono (by rintro x w' ⟨rfl, h2, h3⟩; rw [hk]; exact ⟨rfl, h2, h3⟩)
  have hN := Lib.hid (fun (W : World) (b q m : Nat) (e : Int) (h1 : 1 ≤ m) (h2 : m ≤ 8) (hq : q ≤ 100000) (h : Tk W b s q e) => tnum_any m h1 h2 h hz hq)
  have hB := Lib.hid (fun (W : World) (b q : Nat) (e k : Int) (t : Bool) (h : Tk W b s q e) => tbad_any (k := k) t h)
  have hBf : Hid (∀ (W : World) (b q : Nat) (e k : Int), Tk W b s q e → Calls Try.prog 40 #[.pointer (some ⟨b, 0, none⟩), .int .i64 k, .bool false] W fun x w' => x = .returned (.tuple #[]) ∧ Tk w' b s q e ∧ Kp b W w' ∧ w'.heap.size = W.heap.size) := fun W b q e k h => tbad_any (k := k) false h
  have hq1 := Lib.hid (show q1 s = bE 0 3 (decide ((1024 : Int) < s.size)) from rfl)
  go_enter Try.func17, Try.ntmps17
  go_wp2_with (first
    | (refine wpList_blk_alloc rfl rfl Try.riZ w.heap.size rfl ?_)
    | (refine wpList_blk_build rfl #[(0, .tmp 7)] rfl (by rw [List.map_toArray]; exact Try.tkB s) ?_)
    | (refine wpList_blk_box rfl (.tmp 8) rfl rfl (w.heap.size + 1) (by simp) ?_))
  have h0 : PS w ((w.alloc (.cells zIT 48)).alloc (.cells #[.string s, .int .i64 0, .int .i64 0] 87)) 48 zIT s 0 0 :=
    ⟨((Below.refl _ _).alloc (Nat.le_refl _) _).alloc (by simp) _, (BlkAt.new w _ _).alloc _, ⟨by have := BlkAt.new (w.alloc (.cells zIT 48)) 87 #[.string s, .int .i64 0, .int .i64 0]; simpa using this⟩⟩
  generalize (w.alloc _).alloc _ = w1 at *
  refine (hN0.out _ _ h0.tk).mono ?_
  rintro x w2 ⟨rfl, t2, k2⟩
  replace h0 := h0.kp k2 t2
  clear t2 k2 hN0
  have hz2 := h0.tk.lt
  go_wp2_with (first
    | (refine wpList_blk_build rfl #[(0, .tmp 12)] rfl (by rw [List.map_toArray]; exact Try.riB1 0) ?_)
    | (refine wpList_blk_alloc rfl rfl Try.riZ w2.heap.size rfl ?_)
    | (refine wpList_blk_store (cs := #[.int .i64 0, .string ⟨#[]⟩, .int .u32 0, .int .u64 0, .bool false, .bool false, .int .u64 0, .int .u64 0, .int .i64 0, .int .u64 0, .slice none 0 0, .int .u64 0, .int .u64 0, .int .i64 0, .int .u64 0, .int .u64 0, .int .i64 0, .int .i64 0]) rfl (.tmp 5) (.tmp 13) rfl rfl rfl (BlkAt.new w2 _ _) Try.riI rfl (by simp [Value.oneCell']) ?_; intro w3 hT3 hK3 hs3; have y0 := hT3.cell (i := 0) rfl))
  replace h0 := h0.below (alloc_store hK3)
  have hg : w.heap.size + 1 < w2.heap.size := hz2
  clear hK3 hs3 hz2
  generalize w2.heap.size = g at *
  refine (hB.out _ _ _ _ 10 true h0.tk).mono ?_
  rintro x w4 ⟨rfl, t4, k4, _⟩
  rw [hE0] at t4
  replace h0 := h0.kp k4 t4
  have hT4 := k4.blk hT3 (by omega)
  have y0 := hT4.cell (i := 0) rfl
  clear t4 k4 hT3 hBf hN
  go_wp2_with fail
  refine (hB.out _ _ _ _ _ _ h0.tk).mono ?_
  rintro x w5 ⟨rfl, t5, k5, _⟩
  rw [bE_ne h00] at t5
  replace h0 := h0.kp k5 t5
  have hT5 := k5.blk hT4 (by omega)
  have y0 := hT5.cell (i := 0) rfl
  obtain ⟨d1, df, d2⟩ := h0.got
  clear t5 k5 hT4 hq1
  go_wp2_with fail
  refine (hB.out _ _ _ _ 4 _ h0.tk).mono ?_
  rintro x w8 ⟨rfl, t8, k8, _⟩
  rw [bE_ne h00] at t8
  replace h0 := h0.kp k8 t8
  clear t8 k8 d1 df d2 y0 hB
  obtain ⟨_, _, d2⟩ := h0.got
  go_wp2_with fail
  refine wp_region_held_drew (S := fun W => W.cell? ⟨w.heap.size + 1, 2, none⟩ = some (.int .i64 er)) (by kernel_rfl) d2 ?_
  intro hHeld
  (refine wpAnyH_take (i := 0) (v := ?_) rfl (by kernel_rfl) (by kernel_rfl) (by kernel_rfl) (fun _ _ _ h => h) (Or.inl ⟨by rfl, ?_⟩) (by assumption) ?_; rotate_left; (focus (intro w hSw; (try dsimp only at hSw); go_simp; (try with_reducible rfl))); (try simp only [Act.put, List.getElem_toArray, List.getElem_cons_zero, List.getElem_cons_succ, List.setIfInBounds_toArray, List.set_cons_zero, List.set_cons_succ]))
  (refine wpAnyH_take (i := 1) (v := ?_) rfl (by kernel_rfl) (by kernel_rfl) (by kernel_rfl) (fun _ _ _ h => h) (Or.inl ⟨by rfl, ?_⟩) (by assumption) ?_; rotate_left; (focus (intro w hSw; (try dsimp only at hSw); go_simp; (try with_reducible rfl))); (try simp only [Act.put, List.getElem_toArray, List.getElem_cons_zero, List.getElem_cons_succ, List.setIfInBounds_toArray, List.set_cons_zero, List.set_cons_succ]))
  (refine wpAnyH_take (i := 2) (v := ?_) rfl (by kernel_rfl) (by kernel_rfl) (by kernel_rfl) (fun _ _ _ h => h) (Or.inl ⟨by rfl, ?_⟩) (by assumption) ?_; rotate_left; (focus (intro w hSw; (try dsimp only at hSw); go_simp; (try with_reducible rfl))); (try simp only [Act.put, List.getElem_toArray, List.getElem_cons_zero, List.getElem_cons_succ, List.setIfInBounds_toArray, List.set_cons_zero, List.set_cons_succ]))
  (refine wpAnyH_take (i := 3) (v := ?_) rfl (by kernel_rfl) (by kernel_rfl) (by kernel_rfl) (fun _ _ _ h => h) (Or.inl ⟨by rfl, ?_⟩) (by assumption) ?_; rotate_left; (focus (intro w hSw; (try dsimp only at hSw); go_simp; (try with_reducible rfl))); (try simp only [Act.put, List.getElem_toArray, List.getElem_cons_zero, List.getElem_cons_succ, List.setIfInBounds_toArray, List.set_cons_zero, List.set_cons_succ]))
  (refine wpAnyH_take (i := 4) (v := ?_) rfl (by kernel_rfl) (by kernel_rfl) (by kernel_rfl) (fun _ _ _ h => h) (Or.inl ⟨by rfl, ?_⟩) (by assumption) ?_; rotate_left; (focus (intro w hSw; (try dsimp only at hSw); go_simp; (try with_reducible rfl))); (try simp only [Act.put, List.getElem_toArray, List.getElem_cons_zero, List.getElem_cons_succ, List.setIfInBounds_toArray, List.set_cons_zero, List.set_cons_succ]))
  (refine wpAnyH_ready (rs := [5]) (by kernel_rfl) (by simp) ?_; refine AllReadyH.cons rfl (fun K hK => ?_) AllReadyH.nil)
  refine step_blk_store (cs := zIT) none rfl rfl (.tmp 2) (.tmp 116) rfl rfl rfl h0.Z.drew Try.riI rfl zIT_one ?_
  intro w11 hZ11 hK11 hs11
  (try simp only [Act.put, List.getElem_toArray, List.getElem_cons_zero, List.getElem_cons_succ, List.setIfInBounds_toArray, List.set_cons_zero, List.set_cons_succ])
  refine hK.out _ _ ((hK11.blk h0.tk.blk (by omega)).cell rfl) (fun hHeld4 => ?_)
  clear hK K hHeld
  (refine wpAnyH_take (i := 6) (v := ?_) rfl (by kernel_rfl) (by kernel_rfl) (by kernel_rfl) (fun _ _ _ h => h) (Or.inl ⟨by rfl, ?_⟩) (by assumption) ?_; rotate_left; (focus (intro w hSw; (try dsimp only at hSw); go_simp; (try with_reducible rfl))); (try simp only [Act.put, List.getElem_toArray, List.getElem_cons_zero, List.getElem_cons_succ, List.setIfInBounds_toArray, List.set_cons_zero, List.set_cons_succ]))
  refine wpAnyH_done (by kernel_rfl) ?_ _
  go_wp2
  exact bodyPost_ret (results_cell_slot rfl _ _ w.heap.size 48 _ (.int .i64 er) _ rfl rfl hZ11 Try.underlying48 Try.riI) rfl ⟨⟨It.none, ⟨#[]⟩, none, 0, 0, by rw [hE.out]; rfl, fun h => absurd (hE.out.symm.trans h) h00, fun h => rfl, rfl, Rd.mk_nil _ _⟩, Kp.below h0.bel (Kp.trans ((Kp.refl w.heap.size _).drewN 1) hK11) (Nat.le_refl _) h0.bel.size⟩
set_option maxHeartbeats 12800000 in
set_option maxRecDepth 100000 in
theorem rpi_g (s : ByteArray) (w : World) (hz : s.size ≤ 5000) (hk4 : 4 < gN s 0 1) : Calls Try.prog 17 #[.string s] w (PiPost s w) := by
  obtain ⟨hE0, h00⟩ := q0_eq (s := s) (fun _ => by omega)
  have hlt := gN_lt s 0 1
  generalize hE : itPE (bI s) = er at *
  replace hE := Lib.hid hE
  generalize hk : gN s 0 1 = k at *
  replace hk := Lib.hid hk
  have g1 : ¬ (k : Int) < 1 := by omega
  have g4 : (4 : Int) < k := by omega
  have n1 : ¬ (k : Int) = 1 := by omega
  have n2 : ¬ (k : Int) = 2 := by omega
  have n3 : ¬ (k : Int) = 3 := by omega
  have n4 : ¬ (k : Int) = 4 := by omega
  have hwk : IntKind.i64.wrap (k : Int) = k := by rw [IntKind.wrap_i64]; omega
  have hN0 : Hid (∀ W b, Tk W b s 0 0 → Calls Try.prog 39 #[.pointer (some ⟨b, 0, none⟩), .int .i64 1] W fun x w' => x = .returned (.int .u64 (k : Nat)) ∧ Tk w' b s 1 (nE s 0 1 0) ∧ Kp b W w') := fun W b h => (tnum_any 1 (by decide) (by decide) h hz (by omega)).mono (by rintro x w' ⟨rfl, h2, h3⟩; rw [hk.out]; exact ⟨rfl, h2, h3⟩)
  have hN := Lib.hid (fun (W : World) (b q m : Nat) (e : Int) (h1 : 1 ≤ m) (h2 : m ≤ 8) (hq : q ≤ 100000) (h : Tk W b s q e) => tnum_any m h1 h2 h hz hq)
  have hB := Lib.hid (fun (W : World) (b q : Nat) (e k : Int) (t : Bool) (h : Tk W b s q e) => tbad_any (k := k) t h)
  have hBf : Hid (∀ (W : World) (b q : Nat) (e k : Int), Tk W b s q e → Calls Try.prog 40 #[.pointer (some ⟨b, 0, none⟩), .int .i64 k, .bool false] W fun x w' => x = .returned (.tuple #[]) ∧ Tk w' b s q e ∧ Kp b W w' ∧ w'.heap.size = W.heap.size) := fun W b q e k h => tbad_any (k := k) false h
  have hq1 := Lib.hid (show q1 s = bE 0 3 (decide ((1024 : Int) < s.size)) from rfl)
  go_enter Try.func17, Try.ntmps17
  go_wp2_with (first
    | (refine wpList_blk_alloc rfl rfl Try.riZ w.heap.size rfl ?_)
    | (refine wpList_blk_build rfl #[(0, .tmp 7)] rfl (by rw [List.map_toArray]; exact Try.tkB s) ?_)
    | (refine wpList_blk_box rfl (.tmp 8) rfl rfl (w.heap.size + 1) (by simp) ?_))
  have h0 : PS w ((w.alloc (.cells zIT 48)).alloc (.cells #[.string s, .int .i64 0, .int .i64 0] 87)) 48 zIT s 0 0 :=
    ⟨((Below.refl _ _).alloc (Nat.le_refl _) _).alloc (by simp) _, (BlkAt.new w _ _).alloc _, ⟨by have := BlkAt.new (w.alloc (.cells zIT 48)) 87 #[.string s, .int .i64 0, .int .i64 0]; simpa using this⟩⟩
  generalize (w.alloc _).alloc _ = w1 at *
  refine (hN0.out _ _ h0.tk).mono ?_
  rintro x w2 ⟨rfl, t2, k2⟩
  replace h0 := h0.kp k2 t2
  clear t2 k2 hN0
  have hz2 := h0.tk.lt
  go_wp2_with (first
    | (refine wpList_blk_build rfl #[(0, .tmp 12)] rfl (by rw [List.map_toArray]; exact Try.riB1 (k : Nat)) ?_)
    | (refine wpList_blk_alloc rfl rfl Try.riZ w2.heap.size rfl ?_)
    | (refine wpList_blk_store (cs := #[.int .i64 (k : Nat), .string ⟨#[]⟩, .int .u32 0, .int .u64 0, .bool false, .bool false, .int .u64 0, .int .u64 0, .int .i64 0, .int .u64 0, .slice none 0 0, .int .u64 0, .int .u64 0, .int .i64 0, .int .u64 0, .int .u64 0, .int .i64 0, .int .i64 0]) rfl (.tmp 5) (.tmp 13) rfl rfl rfl (BlkAt.new w2 _ _) Try.riI rfl (by simp [Value.oneCell']) ?_; intro w3 hT3 hK3 hs3; have y0 := hT3.cell (i := 0) rfl))
  replace h0 := h0.below (alloc_store hK3)
  have hg : w.heap.size + 1 < w2.heap.size := hz2
  clear hK3 hs3 hz2
  generalize w2.heap.size = g at *
  refine (hB.out _ _ _ _ 10 true h0.tk).mono ?_
  rintro x w4 ⟨rfl, t4, k4, _⟩
  rw [hE0] at t4
  replace h0 := h0.kp k4 t4
  have hT4 := k4.blk hT3 (by omega)
  have y0 := hT4.cell (i := 0) rfl
  clear t4 k4 hT3 hBf hN
  go_wp2_with fail
  refine (hB.out _ _ _ _ _ _ h0.tk).mono ?_
  rintro x w5 ⟨rfl, t5, k5, _⟩
  rw [bE_ne h00] at t5
  replace h0 := h0.kp k5 t5
  have hT5 := k5.blk hT4 (by omega)
  have y0 := hT5.cell (i := 0) rfl
  obtain ⟨d1, df, d2⟩ := h0.got
  clear t5 k5 hT4 hq1
  go_wp2_with fail
  refine (hB.out _ _ _ _ 4 _ h0.tk).mono ?_
  rintro x w8 ⟨rfl, t8, k8, _⟩
  rw [bE_ne h00] at t8
  replace h0 := h0.kp k8 t8
  clear t8 k8 d1 df d2 y0 hB
  obtain ⟨_, _, d2⟩ := h0.got
  go_wp2_with fail
  refine wp_region_held_drew (S := fun W => W.cell? ⟨w.heap.size + 1, 2, none⟩ = some (.int .i64 er)) (by kernel_rfl) d2 ?_
  intro hHeld
  (refine wpAnyH_take (i := 0) (v := ?_) rfl (by kernel_rfl) (by kernel_rfl) (by kernel_rfl) (fun _ _ _ h => h) (Or.inl ⟨by rfl, ?_⟩) (by assumption) ?_; rotate_left; (focus (intro w hSw; (try dsimp only at hSw); go_simp; (try with_reducible rfl))); (try simp only [Act.put, List.getElem_toArray, List.getElem_cons_zero, List.getElem_cons_succ, List.setIfInBounds_toArray, List.set_cons_zero, List.set_cons_succ]))
  (refine wpAnyH_take (i := 1) (v := ?_) rfl (by kernel_rfl) (by kernel_rfl) (by kernel_rfl) (fun _ _ _ h => h) (Or.inl ⟨by rfl, ?_⟩) (by assumption) ?_; rotate_left; (focus (intro w hSw; (try dsimp only at hSw); go_simp; (try with_reducible rfl))); (try simp only [Act.put, List.getElem_toArray, List.getElem_cons_zero, List.getElem_cons_succ, List.setIfInBounds_toArray, List.set_cons_zero, List.set_cons_succ]))
  (refine wpAnyH_take (i := 2) (v := ?_) rfl (by kernel_rfl) (by kernel_rfl) (by kernel_rfl) (fun _ _ _ h => h) (Or.inl ⟨by rfl, ?_⟩) (by assumption) ?_; rotate_left; (focus (intro w hSw; (try dsimp only at hSw); go_simp; (try with_reducible rfl))); (try simp only [Act.put, List.getElem_toArray, List.getElem_cons_zero, List.getElem_cons_succ, List.setIfInBounds_toArray, List.set_cons_zero, List.set_cons_succ]))
  (refine wpAnyH_take (i := 3) (v := ?_) rfl (by kernel_rfl) (by kernel_rfl) (by kernel_rfl) (fun _ _ _ h => h) (Or.inl ⟨by rfl, ?_⟩) (by assumption) ?_; rotate_left; (focus (intro w hSw; (try dsimp only at hSw); go_simp; (try with_reducible rfl))); (try simp only [Act.put, List.getElem_toArray, List.getElem_cons_zero, List.getElem_cons_succ, List.setIfInBounds_toArray, List.set_cons_zero, List.set_cons_succ]))
  (refine wpAnyH_take (i := 4) (v := ?_) rfl (by kernel_rfl) (by kernel_rfl) (by kernel_rfl) (fun _ _ _ h => h) (Or.inl ⟨by rfl, ?_⟩) (by assumption) ?_; rotate_left; (focus (intro w hSw; (try dsimp only at hSw); go_simp; (try with_reducible rfl))); (try simp only [Act.put, List.getElem_toArray, List.getElem_cons_zero, List.getElem_cons_succ, List.setIfInBounds_toArray, List.set_cons_zero, List.set_cons_succ]))
  (refine wpAnyH_ready (rs := [5]) (by kernel_rfl) (by simp) ?_; refine AllReadyH.cons rfl (fun K hK => ?_) AllReadyH.nil)
  refine step_blk_store (cs := zIT) none rfl rfl (.tmp 2) (.tmp 116) rfl rfl rfl h0.Z.drew Try.riI rfl zIT_one ?_
  intro w11 hZ11 hK11 hs11
  (try simp only [Act.put, List.getElem_toArray, List.getElem_cons_zero, List.getElem_cons_succ, List.setIfInBounds_toArray, List.set_cons_zero, List.set_cons_succ])
  refine hK.out _ _ ((hK11.blk h0.tk.blk (by omega)).cell rfl) (fun hHeld4 => ?_)
  clear hK K hHeld
  (refine wpAnyH_take (i := 6) (v := ?_) rfl (by kernel_rfl) (by kernel_rfl) (by kernel_rfl) (fun _ _ _ h => h) (Or.inl ⟨by rfl, ?_⟩) (by assumption) ?_; rotate_left; (focus (intro w hSw; (try dsimp only at hSw); go_simp; (try with_reducible rfl))); (try simp only [Act.put, List.getElem_toArray, List.getElem_cons_zero, List.getElem_cons_succ, List.setIfInBounds_toArray, List.set_cons_zero, List.set_cons_succ]))
  refine wpAnyH_done (by kernel_rfl) ?_ _
  go_wp2
  exact bodyPost_ret (results_cell_slot rfl _ _ w.heap.size 48 _ (.int .i64 er) _ rfl rfl hZ11 Try.underlying48 Try.riI) rfl ⟨⟨It.none, ⟨#[]⟩, none, 0, 0, by rw [hE.out]; rfl, fun h => absurd (hE.out.symm.trans h) h00, fun h => rfl, rfl, Rd.mk_nil _ _⟩, Kp.below h0.bel (Kp.trans ((Kp.refl w.heap.size _).drewN 1) hK11) (Nat.le_refl _) h0.bel.size⟩
theorem rparseItem_any (s : ByteArray) (w : World) (hz : s.size ≤ 5000) : Calls Try.prog 17 #[.string s] w (PiPost s w) := by
  by_cases h4 : 4 < gN s 0 1
  · exact rpi_g s w hz h4
  by_cases h0 : gN s 0 1 = 0
  · exact rpi_z s w hz h0
  have h1 : 1 ≤ s.size := by
    by_cases h : 1 ≤ s.size
    · exact h
    · exact absurd (gN_short (by omega)) h0
  by_cases e1 : gN s 0 1 = 1
  · exact rpi_1 s w hz h1 e1
  by_cases e2 : gN s 0 1 = 2
  · exact rpi_2 s w hz h1 e2
  by_cases e3 : gN s 0 1 = 3
  · exact rpi_3 s w hz h1 e3
  exact rpi_4 s w hz h1 (by omega)
end Go.Proofs.Ytdfnpaaejjediaa
