/- walks of the reference's window: Got and New -/
import Derived.Test.YthjlilgnnmnaeaaDoorLinkS
namespace Go.Proofs.YthjlilgnnmnaeaaDoor
open Go.RowKit

theorem WS.put_none (s : WS) (p : Int) (n : Nat) (h : hasB s.oth p = false) : s.put p n = s := by rw [WS.put, if_neg (by rw [h]; decide)]
theorem WS.put_same (s : WS) (p : Nat) (n : Nat) (h : ¬ s.got p < min n s.sent) : s.put p n = s := by
  rw [WS.put]
  split
  · rw [Int.toNat_natCast]
    have : (fun i => if i = p then max (s.got p) (min n s.sent) else s.got i) = s.got := by
      funext i
      split
      · next e => subst e; omega
      · rfl
    rw [this]
  · rfl
/-- The two blocks that a reference's function makes at its start. -/
def ref2 (w : World) (s : WS) : World := (w.alloc (.cells (refC s) 32)).alloc (.cells (refC WS.zero) 32)
theorem ref2_0 (w : World) (s : WS) : RefAt (ref2 w s) w.heap.size s := BlkAt.alloc (RefAt.new w s) _
theorem ref2_1 (w : World) (s : WS) : RefAt (ref2 w s) (w.heap.size + 1) WS.zero := by
  have := RefAt.new (w.alloc (.cells (refC s) 32)) WS.zero
  rwa [World.size_alloc] at this
theorem ref2_b (w : World) (s : WS) : Below w.heap.size w (ref2 w s) := ((Below.refl _ _).alloc (Nat.le_refl _) _).alloc (by simp) _
theorem ref2_z (w : World) (s : WS) : (ref2 w s).heap.size = w.heap.size + 2 := by simp [ref2]
set_option maxHeartbeats 800000 in
set_option maxRecDepth 100000 in
theorem rgot_neg0 (s : WS) (hs : s.Ok) (p : Int) (n : Nat) (hn : (s.sent : Int) < n) (hp : p < 0) (w : World) :
    Calls Tryd.prog 15 #[.agg (refC s), .int .i64 p, .int .u32 n] w fun e w' => e = .returned (.agg (refC s)) ∧ Below w.heap.size w w' := by
  have h0 := ref2_0 w s
  have h1 := ref2_1 w s
  have hb := ref2_b w s
  have hz := ref2_z w s
  have c3 := h0.c3
  have d0 : decide (0 ≤ p) = false := by simpa using hp
  clear hp
  go_enter Tryd.func15, Tryd.ntmps15
  go_wp2_with (first
    | (refine wpList_blk_box rfl (.tmp 0) rfl rfl w.heap.size rfl ?_)
    | (refine wpList_blk_alloc rfl rfl Tryd.refZ (w.heap.size + 1) (by simp) ?_; change wpList _ _ _ _ _ (ref2 w s); generalize ref2 w s = w1 at *)
    | (refine wpList_blk_load rfl (.tmp 3) rfl Tryd.underlying32 rfl rfl h0 (Tryd.refI _) ?_)
    | (refine wpList_blk_store rfl (.tmp 6) (.tmp 37) rfl rfl rfl h1 (Tryd.refI _) (by rw [refC_size, refC_size]) (refC_one _) ?_; intro w2 hB hK hsz))
  refine bodyPost_ret (results_cell_row rfl _ _ (w.heap.size + 1) 32 _ (0, 0) _ rfl hB Tryd.underlying32 rfl (Tryd.refI _)) rfl ⟨rfl, ?_⟩
  exact Kp.below hb hK (Nat.le_succ _) (by simp [hz])
set_option maxHeartbeats 800000 in
set_option maxRecDepth 100000 in
theorem rgot_big0 (s : WS) (hs : s.Ok) (p : Int) (n : Nat) (hn : (s.sent : Int) < n) (hp : 64 ≤ p) (w : World) :
    Calls Tryd.prog 15 #[.agg (refC s), .int .i64 p, .int .u32 n] w fun e w' => e = .returned (.agg (refC s)) ∧ Below w.heap.size w w' := by
  have h0 := ref2_0 w s
  have h1 := ref2_1 w s
  have hb := ref2_b w s
  have hz := ref2_z w s
  have c3 := h0.c3
  have d0 : decide (0 ≤ p) = true := by simp; omega
  have d1 : decide (p < 64) = false := by simpa using hp
  clear hp
  go_enter Tryd.func15, Tryd.ntmps15
  go_wp2_with (first
    | (refine wpList_blk_box rfl (.tmp 0) rfl rfl w.heap.size rfl ?_)
    | (refine wpList_blk_alloc rfl rfl Tryd.refZ (w.heap.size + 1) (by simp) ?_; change wpList _ _ _ _ _ (ref2 w s); generalize ref2 w s = w1 at *)
    | (refine wpList_blk_load rfl (.tmp 3) rfl Tryd.underlying32 rfl rfl h0 (Tryd.refI _) ?_)
    | (refine wpList_blk_store rfl (.tmp 6) (.tmp 37) rfl rfl rfl h1 (Tryd.refI _) (by rw [refC_size, refC_size]) (refC_one _) ?_; intro w2 hB hK hsz))
  refine bodyPost_ret (results_cell_row rfl _ _ (w.heap.size + 1) 32 _ (0, 0) _ rfl hB Tryd.underlying32 rfl (Tryd.refI _)) rfl ⟨rfl, ?_⟩
  exact Kp.below hb hK (Nat.le_succ _) (by simp [hz])
set_option maxHeartbeats 800000 in
set_option maxRecDepth 100000 in
theorem rgot_out0 (s : WS) (hs : s.Ok) (p n : Nat) (hn : (s.sent : Int) < n) (hp : p < 64) (hbit : s.oth.testBit p = false) (w : World) :
    Calls Tryd.prog 15 #[.agg (refC s), .int .i64 p, .int .u32 n] w fun e w' => e = .returned (.agg (refC s)) ∧ Below w.heap.size w w' := by
  have h0 := ref2_0 w s
  have h1 := ref2_1 w s
  have hb := ref2_b w s
  have hz := ref2_z w s
  have c3 := h0.c3
  have d0 : decide ((0 : Int) ≤ p) = true := by simp
  have d1 : decide ((p : Int) < 64) = true := by simp; omega
  have c2 := h0.c2 p hp
  rw [hbit] at c2
  clear hbit
  go_enter Tryd.func15, Tryd.ntmps15
  go_wp2_with (first
    | (refine wpList_blk_box rfl (.tmp 0) rfl rfl w.heap.size rfl ?_)
    | (refine wpList_blk_alloc rfl rfl Tryd.refZ (w.heap.size + 1) (by simp) ?_; change wpList _ _ _ _ _ (ref2 w s); generalize ref2 w s = w1 at *)
    | (refine wpList_blk_load rfl (.tmp 3) rfl Tryd.underlying32 rfl rfl h0 (Tryd.refI _) ?_)
    | (refine wpList_blk_store rfl (.tmp 6) (.tmp 37) rfl rfl rfl h1 (Tryd.refI _) (by rw [refC_size, refC_size]) (refC_one _) ?_; intro w2 hB hK hsz))
  refine bodyPost_ret (results_cell_row rfl _ _ (w.heap.size + 1) 32 _ (0, 0) _ rfl hB Tryd.underlying32 rfl (Tryd.refI _)) rfl ⟨rfl, ?_⟩
  exact Kp.below hb hK (Nat.le_succ _) (by simp [hz])
set_option maxHeartbeats 800000 in
set_option maxRecDepth 100000 in
theorem rgot_old0 (s : WS) (hs : s.Ok) (p n : Nat) (hn : (s.sent : Int) < n) (hp : p < 64) (hbit : s.oth.testBit p = true) (hv : ¬ s.got p < s.sent) (w : World) :
    Calls Tryd.prog 15 #[.agg (refC s), .int .i64 p, .int .u32 n] w fun e w' => e = .returned (.agg (refC s)) ∧ Below w.heap.size w w' := by
  have h0 := ref2_0 w s
  have h1 := ref2_1 w s
  have hb := ref2_b w s
  have hz := ref2_z w s
  have c3 := h0.c3
  have d0 : decide ((0 : Int) ≤ p) = true := by simp
  have d1 : decide ((p : Int) < 64) = true := by simp; omega
  have c2 := h0.c2 p hp
  rw [hbit] at c2
  have c4 := h0.c4 p hp
  have d2 : decide (s.got p < s.sent) = false := by simpa using hv
  clear hbit hv
  go_enter Tryd.func15, Tryd.ntmps15
  go_wp2_with (first
    | (refine wpList_blk_box rfl (.tmp 0) rfl rfl w.heap.size rfl ?_)
    | (refine wpList_blk_alloc rfl rfl Tryd.refZ (w.heap.size + 1) (by simp) ?_; change wpList _ _ _ _ _ (ref2 w s); generalize ref2 w s = w1 at *)
    | (refine wpList_blk_load rfl (.tmp 3) rfl Tryd.underlying32 rfl rfl h0 (Tryd.refI _) ?_)
    | (refine wpList_blk_store rfl (.tmp 6) (.tmp 37) rfl rfl rfl h1 (Tryd.refI _) (by rw [refC_size, refC_size]) (refC_one _) ?_; intro w2 hB hK hsz))
  refine bodyPost_ret (results_cell_row rfl _ _ (w.heap.size + 1) 32 _ (0, 0) _ rfl hB Tryd.underlying32 rfl (Tryd.refI _)) rfl ⟨rfl, ?_⟩
  exact Kp.below hb hK (Nat.le_succ _) (by simp [hz])
set_option maxHeartbeats 800000 in
set_option maxRecDepth 100000 in
theorem rgot_set0 (s : WS) (hs : s.Ok) (p n : Nat) (hn : (s.sent : Int) < n) (hp : p < 64) (hbit : s.oth.testBit p = true) (hv : s.got p < s.sent) (w : World) :
    Calls Tryd.prog 15 #[.agg (refC s), .int .i64 p, .int .u32 n] w fun e w' => e = .returned (.agg (refC (s.put p n))) ∧ Below w.heap.size w w' := by
  have h0 := ref2_0 w s
  have h1 := ref2_1 w s
  have hb := ref2_b w s
  have hz := ref2_z w s
  have c3 := h0.c3
  have d0 : decide ((0 : Int) ≤ p) = true := by simp
  have d1 : decide ((p : Int) < 64) = true := by simp; omega
  have c2 := h0.c2 p hp
  rw [hbit] at c2
  have c4 := h0.c4 p hp
  have d2 : decide (s.got p < s.sent) = true := by simpa using hv
  have fz := h0.fz (67 + p)
  have hh : hasB s.oth p = true := by rw [hasB_eq, Int.toNat_natCast, hbit]; simp; omega
  have hset := BlkAt.set h0 (67 + p) (.int .u32 (s.sent : Nat))
  rw [refC_put s p n hp hh _ (by omega)] at hset
  have HS := Lib.hid hset
  have HO := Lib.hid (BlkAt.other h1 (a := ⟨w.heap.size, 67 + p, none⟩) (by simp) (.int .u32 (s.sent : Nat)))
  have HB := Lib.hid (show Below w.heap.size w ((ref2 w s).setCell ⟨w.heap.size, 67 + p, none⟩ (.int .u32 (s.sent : Nat))) from hb.setCell (Nat.le_refl _) _)
  clear hset hbit hv hh
  go_enter Tryd.func15, Tryd.ntmps15
  go_wp2_with (first
    | (refine wpList_blk_box rfl (.tmp 0) rfl rfl w.heap.size rfl ?_)
    | (refine wpList_blk_alloc rfl rfl Tryd.refZ (w.heap.size + 1) (by simp) ?_; change wpList _ _ _ _ _ (ref2 w s); generalize ref2 w s = w1 at *)
    | (refine wpList_blk_load rfl (.tmp 3) rfl Tryd.underlying32 rfl rfl HS.out (Tryd.refI _) ?_)
    | (refine wpList_blk_store rfl (.tmp 6) (.tmp 37) rfl rfl rfl HO.out (Tryd.refI _) (by rw [refC_size, refC_size]) (refC_one _) ?_; intro w2 hB hK hsz))
  refine bodyPost_ret (results_cell_row rfl _ _ (w.heap.size + 1) 32 _ (0, 0) _ rfl hB Tryd.underlying32 rfl (Tryd.refI _)) rfl ⟨rfl, ?_⟩
  exact Kp.below HB.out hK (Nat.le_succ _) (by simp [hz])
set_option maxHeartbeats 800000 in
set_option maxRecDepth 100000 in
theorem rgot_neg1 (s : WS) (hs : s.Ok) (p : Int) (n : Nat) (hn : ¬ (s.sent : Int) < n) (hp : p < 0) (w : World) :
    Calls Tryd.prog 15 #[.agg (refC s), .int .i64 p, .int .u32 n] w fun e w' => e = .returned (.agg (refC s)) ∧ Below w.heap.size w w' := by
  have h0 := ref2_0 w s
  have h1 := ref2_1 w s
  have hb := ref2_b w s
  have hz := ref2_z w s
  have c3 := h0.c3
  have d0 : decide (0 ≤ p) = false := by simpa using hp
  clear hp
  go_enter Tryd.func15, Tryd.ntmps15
  go_wp2_with (first
    | (refine wpList_blk_box rfl (.tmp 0) rfl rfl w.heap.size rfl ?_)
    | (refine wpList_blk_alloc rfl rfl Tryd.refZ (w.heap.size + 1) (by simp) ?_; change wpList _ _ _ _ _ (ref2 w s); generalize ref2 w s = w1 at *)
    | (refine wpList_blk_load rfl (.tmp 3) rfl Tryd.underlying32 rfl rfl h0 (Tryd.refI _) ?_)
    | (refine wpList_blk_store rfl (.tmp 6) (.tmp 37) rfl rfl rfl h1 (Tryd.refI _) (by rw [refC_size, refC_size]) (refC_one _) ?_; intro w2 hB hK hsz))
  refine bodyPost_ret (results_cell_row rfl _ _ (w.heap.size + 1) 32 _ (0, 0) _ rfl hB Tryd.underlying32 rfl (Tryd.refI _)) rfl ⟨rfl, ?_⟩
  exact Kp.below hb hK (Nat.le_succ _) (by simp [hz])
set_option maxHeartbeats 800000 in
set_option maxRecDepth 100000 in
theorem rgot_big1 (s : WS) (hs : s.Ok) (p : Int) (n : Nat) (hn : ¬ (s.sent : Int) < n) (hp : 64 ≤ p) (w : World) :
    Calls Tryd.prog 15 #[.agg (refC s), .int .i64 p, .int .u32 n] w fun e w' => e = .returned (.agg (refC s)) ∧ Below w.heap.size w w' := by
  have h0 := ref2_0 w s
  have h1 := ref2_1 w s
  have hb := ref2_b w s
  have hz := ref2_z w s
  have c3 := h0.c3
  have d0 : decide (0 ≤ p) = true := by simp; omega
  have d1 : decide (p < 64) = false := by simpa using hp
  clear hp
  go_enter Tryd.func15, Tryd.ntmps15
  go_wp2_with (first
    | (refine wpList_blk_box rfl (.tmp 0) rfl rfl w.heap.size rfl ?_)
    | (refine wpList_blk_alloc rfl rfl Tryd.refZ (w.heap.size + 1) (by simp) ?_; change wpList _ _ _ _ _ (ref2 w s); generalize ref2 w s = w1 at *)
    | (refine wpList_blk_load rfl (.tmp 3) rfl Tryd.underlying32 rfl rfl h0 (Tryd.refI _) ?_)
    | (refine wpList_blk_store rfl (.tmp 6) (.tmp 37) rfl rfl rfl h1 (Tryd.refI _) (by rw [refC_size, refC_size]) (refC_one _) ?_; intro w2 hB hK hsz))
  refine bodyPost_ret (results_cell_row rfl _ _ (w.heap.size + 1) 32 _ (0, 0) _ rfl hB Tryd.underlying32 rfl (Tryd.refI _)) rfl ⟨rfl, ?_⟩
  exact Kp.below hb hK (Nat.le_succ _) (by simp [hz])
set_option maxHeartbeats 800000 in
set_option maxRecDepth 100000 in
theorem rgot_out1 (s : WS) (hs : s.Ok) (p n : Nat) (hn : ¬ (s.sent : Int) < n) (hp : p < 64) (hbit : s.oth.testBit p = false) (w : World) :
    Calls Tryd.prog 15 #[.agg (refC s), .int .i64 p, .int .u32 n] w fun e w' => e = .returned (.agg (refC s)) ∧ Below w.heap.size w w' := by
  have h0 := ref2_0 w s
  have h1 := ref2_1 w s
  have hb := ref2_b w s
  have hz := ref2_z w s
  have c3 := h0.c3
  have d0 : decide ((0 : Int) ≤ p) = true := by simp
  have d1 : decide ((p : Int) < 64) = true := by simp; omega
  have c2 := h0.c2 p hp
  rw [hbit] at c2
  clear hbit
  go_enter Tryd.func15, Tryd.ntmps15
  go_wp2_with (first
    | (refine wpList_blk_box rfl (.tmp 0) rfl rfl w.heap.size rfl ?_)
    | (refine wpList_blk_alloc rfl rfl Tryd.refZ (w.heap.size + 1) (by simp) ?_; change wpList _ _ _ _ _ (ref2 w s); generalize ref2 w s = w1 at *)
    | (refine wpList_blk_load rfl (.tmp 3) rfl Tryd.underlying32 rfl rfl h0 (Tryd.refI _) ?_)
    | (refine wpList_blk_store rfl (.tmp 6) (.tmp 37) rfl rfl rfl h1 (Tryd.refI _) (by rw [refC_size, refC_size]) (refC_one _) ?_; intro w2 hB hK hsz))
  refine bodyPost_ret (results_cell_row rfl _ _ (w.heap.size + 1) 32 _ (0, 0) _ rfl hB Tryd.underlying32 rfl (Tryd.refI _)) rfl ⟨rfl, ?_⟩
  exact Kp.below hb hK (Nat.le_succ _) (by simp [hz])
set_option maxHeartbeats 800000 in
set_option maxRecDepth 100000 in
theorem rgot_old1 (s : WS) (hs : s.Ok) (p n : Nat) (hn : ¬ (s.sent : Int) < n) (hp : p < 64) (hbit : s.oth.testBit p = true) (hv : ¬ s.got p < n) (w : World) :
    Calls Tryd.prog 15 #[.agg (refC s), .int .i64 p, .int .u32 n] w fun e w' => e = .returned (.agg (refC s)) ∧ Below w.heap.size w w' := by
  have h0 := ref2_0 w s
  have h1 := ref2_1 w s
  have hb := ref2_b w s
  have hz := ref2_z w s
  have c3 := h0.c3
  have d0 : decide ((0 : Int) ≤ p) = true := by simp
  have d1 : decide ((p : Int) < 64) = true := by simp; omega
  have c2 := h0.c2 p hp
  rw [hbit] at c2
  have c4 := h0.c4 p hp
  have d2 : decide (s.got p < n) = false := by simpa using hv
  clear hbit hv
  go_enter Tryd.func15, Tryd.ntmps15
  go_wp2_with (first
    | (refine wpList_blk_box rfl (.tmp 0) rfl rfl w.heap.size rfl ?_)
    | (refine wpList_blk_alloc rfl rfl Tryd.refZ (w.heap.size + 1) (by simp) ?_; change wpList _ _ _ _ _ (ref2 w s); generalize ref2 w s = w1 at *)
    | (refine wpList_blk_load rfl (.tmp 3) rfl Tryd.underlying32 rfl rfl h0 (Tryd.refI _) ?_)
    | (refine wpList_blk_store rfl (.tmp 6) (.tmp 37) rfl rfl rfl h1 (Tryd.refI _) (by rw [refC_size, refC_size]) (refC_one _) ?_; intro w2 hB hK hsz))
  refine bodyPost_ret (results_cell_row rfl _ _ (w.heap.size + 1) 32 _ (0, 0) _ rfl hB Tryd.underlying32 rfl (Tryd.refI _)) rfl ⟨rfl, ?_⟩
  exact Kp.below hb hK (Nat.le_succ _) (by simp [hz])
set_option maxHeartbeats 800000 in
set_option maxRecDepth 100000 in
theorem rgot_set1 (s : WS) (hs : s.Ok) (p n : Nat) (hn : ¬ (s.sent : Int) < n) (hp : p < 64) (hbit : s.oth.testBit p = true) (hv : s.got p < n) (w : World) :
    Calls Tryd.prog 15 #[.agg (refC s), .int .i64 p, .int .u32 n] w fun e w' => e = .returned (.agg (refC (s.put p n))) ∧ Below w.heap.size w w' := by
  have h0 := ref2_0 w s
  have h1 := ref2_1 w s
  have hb := ref2_b w s
  have hz := ref2_z w s
  have c3 := h0.c3
  have d0 : decide ((0 : Int) ≤ p) = true := by simp
  have d1 : decide ((p : Int) < 64) = true := by simp; omega
  have c2 := h0.c2 p hp
  rw [hbit] at c2
  have c4 := h0.c4 p hp
  have d2 : decide (s.got p < n) = true := by simpa using hv
  have fz := h0.fz (67 + p)
  have hh : hasB s.oth p = true := by rw [hasB_eq, Int.toNat_natCast, hbit]; simp; omega
  have hset := BlkAt.set h0 (67 + p) (.int .u32 (n : Nat))
  rw [refC_put s p n hp hh _ (by omega)] at hset
  have HS := Lib.hid hset
  have HO := Lib.hid (BlkAt.other h1 (a := ⟨w.heap.size, 67 + p, none⟩) (by simp) (.int .u32 (n : Nat)))
  have HB := Lib.hid (show Below w.heap.size w ((ref2 w s).setCell ⟨w.heap.size, 67 + p, none⟩ (.int .u32 (n : Nat))) from hb.setCell (Nat.le_refl _) _)
  clear hset hbit hv hh
  go_enter Tryd.func15, Tryd.ntmps15
  go_wp2_with (first
    | (refine wpList_blk_box rfl (.tmp 0) rfl rfl w.heap.size rfl ?_)
    | (refine wpList_blk_alloc rfl rfl Tryd.refZ (w.heap.size + 1) (by simp) ?_; change wpList _ _ _ _ _ (ref2 w s); generalize ref2 w s = w1 at *)
    | (refine wpList_blk_load rfl (.tmp 3) rfl Tryd.underlying32 rfl rfl HS.out (Tryd.refI _) ?_)
    | (refine wpList_blk_store rfl (.tmp 6) (.tmp 37) rfl rfl rfl HO.out (Tryd.refI _) (by rw [refC_size, refC_size]) (refC_one _) ?_; intro w2 hB hK hsz))
  refine bodyPost_ret (results_cell_row rfl _ _ (w.heap.size + 1) 32 _ (0, 0) _ rfl hB Tryd.underlying32 rfl (Tryd.refI _)) rfl ⟨rfl, ?_⟩
  exact Kp.below HB.out hK (Nat.le_succ _) (by simp [hz])
theorem rgot_any (s : WS) (hs : s.Ok) (p : Int) (n : Nat) (w : World) :
    Calls Tryd.prog 15 #[.agg (refC s), .int .i64 p, .int .u32 n] w fun e w' => e = .returned (.agg (refC (s.put p n))) ∧ Below w.heap.size w w' := by
  rcases hasB_of s.oth p with ⟨h0, h1, hh⟩ | ⟨h0, hh⟩ | ⟨h0, hh⟩
  · obtain ⟨k, rfl⟩ : ∃ k : Nat, p = k := ⟨p.toNat, by omega⟩
    rw [Int.toNat_natCast] at hh
    cases hbit : s.oth.testBit k with
    | false =>
      rw [s.put_none _ _ (hh.trans hbit)]
      by_cases hn : (s.sent : Int) < n
      · exact rgot_out0 s hs k n hn (by omega) hbit w
      · exact rgot_out1 s hs k n hn (by omega) hbit w
    | true =>
      by_cases hn : (s.sent : Int) < n
      · by_cases hv : s.got k < s.sent
        · exact rgot_set0 s hs k n hn (by omega) hbit hv w
        · rw [s.put_same _ _ (by omega)]
          exact rgot_old0 s hs k n hn (by omega) hbit hv w
      · by_cases hv : s.got k < n
        · exact rgot_set1 s hs k n hn (by omega) hbit hv w
        · rw [s.put_same _ _ (by omega)]
          exact rgot_old1 s hs k n hn (by omega) hbit hv w
  · rw [s.put_none _ _ hh]
    by_cases hn : (s.sent : Int) < n
    · exact rgot_neg0 s hs p n hn h0 w
    · exact rgot_neg1 s hs p n hn h0 w
  · rw [s.put_none _ _ hh]
    by_cases hn : (s.sent : Int) < n
    · exact rgot_big0 s hs p n hn h0 w
    · exact rgot_big1 s hs p n hn h0 w
end Go.Proofs.YthjlilgnnmnaeaaDoor
