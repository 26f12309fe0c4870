/- walks of the reference's window: New -/
import Derived.Test.YthjlilgnnmnaeaaDoorLinkT
namespace Go.Proofs.YthjlilgnnmnaeaaDoor
open Go.RowKit

/-- What New has made of the others below k. -/
def newK (me : Int) (members : Nat) (sz : Int) (k : Nat) : WS := ⟨me, sz, butN members (bitN me) % 2 ^ k, 0, fun _ => 0⟩
theorem newK_0 (me : Int) (members : Nat) (sz : Int) : newK me members sz 0 = ⟨me, sz, 0, 0, fun _ => 0⟩ := by rw [newK, Nat.pow_zero, Nat.mod_one]
theorem newK_64 (me : Int) (members : Nat) (sz : Int) (hm : members < 18446744073709551616) : newK me members sz 64 = ⟨me, sz, butN members (bitN me), 0, fun _ => 0⟩ := by
  rw [newK, p64, Nat.mod_eq_of_lt (but_lt _ _ hm)]
theorem newK_step (me : Int) (members : Nat) (sz : Int) (k : Nat) (hk : k < 64) (b : Bool) (hb : b = (members.testBit k && !decide ((k : Int) = me))) : (refC (newK me members sz k)).setIfInBounds (2 + k) (.bool b) = refC (newK me members sz (k + 1)) := by
  refine refC_oth (newK me members sz k) k (butN members (bitN me) % 2 ^ (k + 1)) hk b ?_ ?_
  · rw [Nat.testBit_mod_two_pow, but_bit (bitN_lt me) k hk, bitN_bit, hb, decide_eq_true (by omega : k < k + 1), Bool.true_and]
    by_cases e : me = k
    · subst e
      have : decide ((0 : Int) ≤ k ∧ (k : Int) < 64) = true := by simp; omega
      rw [this]; simp
    · have e' : ¬ (k : Int) = me := fun h => e h.symm
      simp [e, e']
  · intro i hi hne
    show (butN members (bitN me) % 2 ^ (k + 1)).testBit i = (butN members (bitN me) % 2 ^ k).testBit i
    rw [Nat.testBit_mod_two_pow, Nat.testBit_mod_two_pow]
    congr 1
    rw [decide_eq_decide]
    omega
/-- The loop's part and what follows. -/
theorem shr_bit (x k : Nat) (hx : x < 18446744073709551616) : bits BinOp.and IntKind.u64 ((x : Int) / 2 ^ k) 1 = (((x.testBit k).toNat : Nat) : Int) := by
  have hd : x / 2 ^ k < 18446744073709551616 := Nat.lt_of_le_of_lt (Nat.div_le_self _ _) hx
  have := u64_and_nat (x / 2 ^ k) 1 hd (by decide)
  rw [show ((2 : Int) ^ k) = ((2 ^ k : Nat) : Int) from by simp, show (x : Int) / ((2 ^ k : Nat) : Int) = ((x / 2 ^ k : Nat) : Int) from by simp]
  rw [show ((1 : Nat) : Int) = 1 from rfl] at this
  rw [this, Nat.and_one_is_mod, Nat.testBit_eq_decide_div_mod_eq]
  rcases Nat.mod_two_eq_zero_or_one (x / 2 ^ k) with e | e <;> rw [e] <;> rfl

set_option maxHeartbeats 800000 in
set_option maxRecDepth 100000 in
theorem rnew_mid (me : Int) (members : Nat) (size : Int) (w : World) (hm : members < 18446744073709551616) (h1 : ¬ size < 1) (h2 : ¬ 64 < size) :
    Calls Tryd.prog 9 #[.int .i64 me, .int .u64 members, .int .i64 size] w fun e w' => e = .returned (.agg (refC ⟨me, size, butN members (bitN me), 0, fun _ => 0⟩)) ∧ Below w.heap.size w w' := by
  have hb0 := ref2_b w WS.zero
  have hz0 := ref2_0 w WS.zero
  have hz1 := ref2_1 w WS.zero
  have hsize := ref2_z w WS.zero
  go_enter Tryd.func9, Tryd.ntmps9
  go_wp2_with (first
    | (refine wpList_blk_alloc (b := w.heap.size) rfl rfl Tryd.refZ rfl ?_)
    | (refine wpList_blk_alloc (b := w.heap.size + 1) rfl rfl Tryd.refZ (by simp) ?_; change wpList _ _ _ _ _ (ref2 w WS.zero); generalize ref2 w WS.zero = w1 at *)
    | (refine wpList_blk_build (cs := refC ⟨me, size, 0, 0, fun _ => 0⟩) rfl #[(0, .tmp 9), (1, .tmp 10)] rfl (by rw [List.map_toArray]; exact Tryd.refB me size) ?_)
    | (refine wpList_blk_store rfl (.tmp 7) (.tmp 11) rfl rfl rfl hz1 (Tryd.refI _) (by rw [refC_size, refC_size]) (refC_one _) ?_; intro w2 hB hK hsz; have fz := BlkAt.fz hB 1; have cz := BlkAt.cell hB (refC_1 _)))
  have hR : RefAt w2 (w.heap.size + 1) (newK me members size 0) := by rw [newK_0]; exact hB
  have hZ : RefAt w2 w.heap.size WS.zero := hK.blk hz0 (by omega)
  have hb : Below w.heap.size w w2 := Kp.below hb0 hK (Nat.le_succ _) (by omega)
  clear hB hK hz0 hz1 hb0 fz cz
  go_loopw [8] (fun i wr => ∃ k : Nat, k ≤ 64 ∧ i = .int .i64 k ∧ RefAt wr (w.heap.size + 1) (newK me members size k) ∧ RefAt wr w.heap.size WS.zero ∧ Below w.heap.size w wr) (fun i _ => 64 - (intOf i).toNat)
  case atStart => exact ⟨0, Nat.zero_le _, rfl, hR, hZ, hb⟩
  case round =>
    clear hR hZ hb
    obtain ⟨k, hk, rfl, hR, hZ, hb⟩ := hrel
    by_cases hlt : k < 64
    · have hkI : (k : Int) < 64 := by omega
      have fz := hR.fz (2 + k)
      have hbit := shr_bit members k hm
      have hc2 := hR.c2 k hlt
      have key : ∀ b, b = (members.testBit k && !decide ((k : Int) = me)) → RefAt (wr.setCell ⟨w.heap.size + 1, 2 + k, none⟩ (.bool b)) (w.heap.size + 1) (newK me members size (k + 1)) ∧ RefAt (wr.setCell ⟨w.heap.size + 1, 2 + k, none⟩ (.bool b)) w.heap.size WS.zero ∧ Below w.heap.size w (wr.setCell ⟨w.heap.size + 1, 2 + k, none⟩ (.bool b)) := by
        intro b hb'
        have hset := BlkAt.set hR (2 + k) (.bool b)
        rw [newK_step me members _ k hlt b hb'] at hset
        exact ⟨hset, BlkAt.other hZ (by simp) _, hb.setCell (Nat.le_succ _) _⟩
      cases h1 : members.testBit k with
      | false =>
        rw [h1] at hbit key
        have hbit : bits BinOp.and IntKind.u64 ((members : Int) / 2 ^ k) 1 = 0 := hbit
        have KEY := Lib.hid (key false rfl)
        clear key h1
        go_wp2
        go_roundw
        case rel => exact ⟨k + 1, by omega, by go_num, KEY.out⟩
        case measure => simp [intOf]; omega
      | true =>
        rw [h1] at hbit key
        have hbit : bits BinOp.and IntKind.u64 ((members : Int) / 2 ^ k) 1 = 1 := hbit
        cases h2 : ((k : Int) != me) with
        | false =>
          have KEY := Lib.hid (key false (by rw [bne_eq_false_iff_eq] at h2; simp [h2]))
          clear key h1
          go_wp2
          go_roundw
          case rel => exact ⟨k + 1, by omega, by go_num, KEY.out⟩
          case measure => simp [intOf]; omega
        | true =>
          have KEY := Lib.hid (key true (by rw [bne_iff_ne] at h2; simp [h2]))
          clear key h1
          go_wp2
          go_roundw
          case rel => exact ⟨k + 1, by omega, by go_num, KEY.out⟩
          case measure => simp [intOf]; omega
    · obtain rfl : k = 64 := by omega
      rw [newK_64 me members _ hm] at hR
      go_wp2_with (first
        | (refine wpList_blk_load rfl (.tmp 7) rfl Tryd.underlying32 rfl rfl hR (Tryd.refI _) ?_)
        | (refine wpList_blk_store rfl (.tmp 6) (.tmp 35) rfl rfl rfl hZ (Tryd.refI _) (by rw [refC_size, refC_size]) (refC_one _) ?_; intro w4 hB hK hsz))
      refine bodyPost_ret (results_cell_row rfl _ _ w.heap.size 32 _ (0, 0) _ rfl hB Tryd.underlying32 rfl (Tryd.refI _)) rfl ⟨rfl, ?_⟩
      exact Kp.below hb hK (Nat.le_refl _) hb.size
set_option maxHeartbeats 800000 in
set_option maxRecDepth 100000 in
theorem rnew_low (me : Int) (members : Nat) (size : Int) (w : World) (hm : members < 18446744073709551616) (h1 : size < 1) :
    Calls Tryd.prog 9 #[.int .i64 me, .int .u64 members, .int .i64 size] w fun e w' => e = .returned (.agg (refC ⟨me, 1, butN members (bitN me), 0, fun _ => 0⟩)) ∧ Below w.heap.size w w' := by
  have hb0 := ref2_b w WS.zero
  have hz0 := ref2_0 w WS.zero
  have hz1 := ref2_1 w WS.zero
  have hsize := ref2_z w WS.zero
  go_enter Tryd.func9, Tryd.ntmps9
  go_wp2_with (first
    | (refine wpList_blk_alloc (b := w.heap.size) rfl rfl Tryd.refZ rfl ?_)
    | (refine wpList_blk_alloc (b := w.heap.size + 1) rfl rfl Tryd.refZ (by simp) ?_; change wpList _ _ _ _ _ (ref2 w WS.zero); generalize ref2 w WS.zero = w1 at *)
    | (refine wpList_blk_build (cs := refC ⟨me, size, 0, 0, fun _ => 0⟩) rfl #[(0, .tmp 9), (1, .tmp 10)] rfl (by rw [List.map_toArray]; exact Tryd.refB me size) ?_)
    | (refine wpList_blk_store rfl (.tmp 7) (.tmp 11) rfl rfl rfl hz1 (Tryd.refI _) (by rw [refC_size, refC_size]) (refC_one _) ?_; intro w2 hB hK hsz; have fz := BlkAt.fz hB 1; have cz := BlkAt.cell hB (refC_1 _)))
  have hset := BlkAt.set hB 1 (.int .i64 1)
  rw [refC_set1] at hset
  have hR : RefAt (w2.setCell ⟨w.heap.size + 1, 1, none⟩ (.int .i64 1)) (w.heap.size + 1) (newK me members 1 0) := by rw [newK_0]; exact hset
  have hZ : RefAt (w2.setCell ⟨w.heap.size + 1, 1, none⟩ (.int .i64 1)) w.heap.size WS.zero := BlkAt.other (hK.blk hz0 (by omega)) (by simp) _
  have hb : Below w.heap.size w (w2.setCell ⟨w.heap.size + 1, 1, none⟩ (.int .i64 1)) := (Kp.below hb0 hK (Nat.le_succ _) (by omega)).setCell (Nat.le_succ _) _
  clear hB hK hz0 hz1 hb0 fz cz hset
  generalize w2.setCell ⟨w.heap.size + 1, 1, none⟩ (.int .i64 1) = w3 at *
  go_loopw [8] (fun i wr => ∃ k : Nat, k ≤ 64 ∧ i = .int .i64 k ∧ RefAt wr (w.heap.size + 1) (newK me members 1 k) ∧ RefAt wr w.heap.size WS.zero ∧ Below w.heap.size w wr) (fun i _ => 64 - (intOf i).toNat)
  case atStart => exact ⟨0, Nat.zero_le _, rfl, hR, hZ, hb⟩
  case round =>
    clear hR hZ hb
    obtain ⟨k, hk, rfl, hR, hZ, hb⟩ := hrel
    by_cases hlt : k < 64
    · have hkI : (k : Int) < 64 := by omega
      have fz := hR.fz (2 + k)
      have hbit := shr_bit members k hm
      have hc2 := hR.c2 k hlt
      have key : ∀ b, b = (members.testBit k && !decide ((k : Int) = me)) → RefAt (wr.setCell ⟨w.heap.size + 1, 2 + k, none⟩ (.bool b)) (w.heap.size + 1) (newK me members 1 (k + 1)) ∧ RefAt (wr.setCell ⟨w.heap.size + 1, 2 + k, none⟩ (.bool b)) w.heap.size WS.zero ∧ Below w.heap.size w (wr.setCell ⟨w.heap.size + 1, 2 + k, none⟩ (.bool b)) := by
        intro b hb'
        have hset := BlkAt.set hR (2 + k) (.bool b)
        rw [newK_step me members _ k hlt b hb'] at hset
        exact ⟨hset, BlkAt.other hZ (by simp) _, hb.setCell (Nat.le_succ _) _⟩
      cases h1 : members.testBit k with
      | false =>
        rw [h1] at hbit key
        have hbit : bits BinOp.and IntKind.u64 ((members : Int) / 2 ^ k) 1 = 0 := hbit
        have KEY := Lib.hid (key false rfl)
        clear key h1
        go_wp2
        go_roundw
        case rel => exact ⟨k + 1, by omega, by go_num, KEY.out⟩
        case measure => simp [intOf]; omega
      | true =>
        rw [h1] at hbit key
        have hbit : bits BinOp.and IntKind.u64 ((members : Int) / 2 ^ k) 1 = 1 := hbit
        cases h2 : ((k : Int) != me) with
        | false =>
          have KEY := Lib.hid (key false (by rw [bne_eq_false_iff_eq] at h2; simp [h2]))
          clear key h1
          go_wp2
          go_roundw
          case rel => exact ⟨k + 1, by omega, by go_num, KEY.out⟩
          case measure => simp [intOf]; omega
        | true =>
          have KEY := Lib.hid (key true (by rw [bne_iff_ne] at h2; simp [h2]))
          clear key h1
          go_wp2
          go_roundw
          case rel => exact ⟨k + 1, by omega, by go_num, KEY.out⟩
          case measure => simp [intOf]; omega
    · obtain rfl : k = 64 := by omega
      rw [newK_64 me members _ hm] at hR
      go_wp2_with (first
        | (refine wpList_blk_load rfl (.tmp 7) rfl Tryd.underlying32 rfl rfl hR (Tryd.refI _) ?_)
        | (refine wpList_blk_store rfl (.tmp 6) (.tmp 35) rfl rfl rfl hZ (Tryd.refI _) (by rw [refC_size, refC_size]) (refC_one _) ?_; intro w4 hB hK hsz))
      refine bodyPost_ret (results_cell_row rfl _ _ w.heap.size 32 _ (0, 0) _ rfl hB Tryd.underlying32 rfl (Tryd.refI _)) rfl ⟨rfl, ?_⟩
      exact Kp.below hb hK (Nat.le_refl _) hb.size
set_option maxHeartbeats 800000 in
set_option maxRecDepth 100000 in
theorem rnew_high (me : Int) (members : Nat) (size : Int) (w : World) (hm : members < 18446744073709551616) (h1 : 64 < size) :
    Calls Tryd.prog 9 #[.int .i64 me, .int .u64 members, .int .i64 size] w fun e w' => e = .returned (.agg (refC ⟨me, 64, butN members (bitN me), 0, fun _ => 0⟩)) ∧ Below w.heap.size w w' := by
  have hb0 := ref2_b w WS.zero
  have hz0 := ref2_0 w WS.zero
  have hz1 := ref2_1 w WS.zero
  have hsize := ref2_z w WS.zero
  go_enter Tryd.func9, Tryd.ntmps9
  go_wp2_with (first
    | (refine wpList_blk_alloc (b := w.heap.size) rfl rfl Tryd.refZ rfl ?_)
    | (refine wpList_blk_alloc (b := w.heap.size + 1) rfl rfl Tryd.refZ (by simp) ?_; change wpList _ _ _ _ _ (ref2 w WS.zero); generalize ref2 w WS.zero = w1 at *)
    | (refine wpList_blk_build (cs := refC ⟨me, size, 0, 0, fun _ => 0⟩) rfl #[(0, .tmp 9), (1, .tmp 10)] rfl (by rw [List.map_toArray]; exact Tryd.refB me size) ?_)
    | (refine wpList_blk_store rfl (.tmp 7) (.tmp 11) rfl rfl rfl hz1 (Tryd.refI _) (by rw [refC_size, refC_size]) (refC_one _) ?_; intro w2 hB hK hsz; have fz := BlkAt.fz hB 1; have cz := BlkAt.cell hB (refC_1 _)))
  have hset := BlkAt.set hB 1 (.int .i64 64)
  rw [refC_set1] at hset
  have hR : RefAt (w2.setCell ⟨w.heap.size + 1, 1, none⟩ (.int .i64 64)) (w.heap.size + 1) (newK me members 64 0) := by rw [newK_0]; exact hset
  have hZ : RefAt (w2.setCell ⟨w.heap.size + 1, 1, none⟩ (.int .i64 64)) w.heap.size WS.zero := BlkAt.other (hK.blk hz0 (by omega)) (by simp) _
  have hb : Below w.heap.size w (w2.setCell ⟨w.heap.size + 1, 1, none⟩ (.int .i64 64)) := (Kp.below hb0 hK (Nat.le_succ _) (by omega)).setCell (Nat.le_succ _) _
  clear hB hK hz0 hz1 hb0 fz cz hset
  generalize w2.setCell ⟨w.heap.size + 1, 1, none⟩ (.int .i64 64) = w3 at *
  go_loopw [8] (fun i wr => ∃ k : Nat, k ≤ 64 ∧ i = .int .i64 k ∧ RefAt wr (w.heap.size + 1) (newK me members 64 k) ∧ RefAt wr w.heap.size WS.zero ∧ Below w.heap.size w wr) (fun i _ => 64 - (intOf i).toNat)
  case atStart => exact ⟨0, Nat.zero_le _, rfl, hR, hZ, hb⟩
  case round =>
    clear hR hZ hb
    obtain ⟨k, hk, rfl, hR, hZ, hb⟩ := hrel
    by_cases hlt : k < 64
    · have hkI : (k : Int) < 64 := by omega
      have fz := hR.fz (2 + k)
      have hbit := shr_bit members k hm
      have hc2 := hR.c2 k hlt
      have key : ∀ b, b = (members.testBit k && !decide ((k : Int) = me)) → RefAt (wr.setCell ⟨w.heap.size + 1, 2 + k, none⟩ (.bool b)) (w.heap.size + 1) (newK me members 64 (k + 1)) ∧ RefAt (wr.setCell ⟨w.heap.size + 1, 2 + k, none⟩ (.bool b)) w.heap.size WS.zero ∧ Below w.heap.size w (wr.setCell ⟨w.heap.size + 1, 2 + k, none⟩ (.bool b)) := by
        intro b hb'
        have hset := BlkAt.set hR (2 + k) (.bool b)
        rw [newK_step me members _ k hlt b hb'] at hset
        exact ⟨hset, BlkAt.other hZ (by simp) _, hb.setCell (Nat.le_succ _) _⟩
      cases h1 : members.testBit k with
      | false =>
        rw [h1] at hbit key
        have hbit : bits BinOp.and IntKind.u64 ((members : Int) / 2 ^ k) 1 = 0 := hbit
        have KEY := Lib.hid (key false rfl)
        clear key h1
        go_wp2
        go_roundw
        case rel => exact ⟨k + 1, by omega, by go_num, KEY.out⟩
        case measure => simp [intOf]; omega
      | true =>
        rw [h1] at hbit key
        have hbit : bits BinOp.and IntKind.u64 ((members : Int) / 2 ^ k) 1 = 1 := hbit
        cases h2 : ((k : Int) != me) with
        | false =>
          have KEY := Lib.hid (key false (by rw [bne_eq_false_iff_eq] at h2; simp [h2]))
          clear key h1
          go_wp2
          go_roundw
          case rel => exact ⟨k + 1, by omega, by go_num, KEY.out⟩
          case measure => simp [intOf]; omega
        | true =>
          have KEY := Lib.hid (key true (by rw [bne_iff_ne] at h2; simp [h2]))
          clear key h1
          go_wp2
          go_roundw
          case rel => exact ⟨k + 1, by omega, by go_num, KEY.out⟩
          case measure => simp [intOf]; omega
    · obtain rfl : k = 64 := by omega
      rw [newK_64 me members _ hm] at hR
      go_wp2_with (first
        | (refine wpList_blk_load rfl (.tmp 7) rfl Tryd.underlying32 rfl rfl hR (Tryd.refI _) ?_)
        | (refine wpList_blk_store rfl (.tmp 6) (.tmp 35) rfl rfl rfl hZ (Tryd.refI _) (by rw [refC_size, refC_size]) (refC_one _) ?_; intro w4 hB hK hsz))
      refine bodyPost_ret (results_cell_row rfl _ _ w.heap.size 32 _ (0, 0) _ rfl hB Tryd.underlying32 rfl (Tryd.refI _)) rfl ⟨rfl, ?_⟩
      exact Kp.below hb hK (Nat.le_refl _) hb.size
theorem rnew_any (me : Int) (members : Nat) (size : Int) (w : World) (hm : members < 18446744073709551616) :
    Calls Tryd.prog 9 #[.int .i64 me, .int .u64 members, .int .i64 size] w fun e w' => e = .returned (.agg (refC (WS.nw me members size))) ∧ Below w.heap.size w w' := by
  by_cases h1 : size < 1
  · rw [WS.nw, show max 1 (min size 64) = 1 from by omega]
    exact rnew_low me members size w hm h1
  by_cases h2 : 64 < size
  · rw [WS.nw, show max 1 (min size 64) = 64 from by omega]
    exact rnew_high me members size w hm h2
  · rw [WS.nw, show max 1 (min size 64) = size from by omega]
    exact rnew_mid me members size w hm h1 h2
end Go.Proofs.YthjlilgnnmnaeaaDoor
