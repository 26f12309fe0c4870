/- gather: the reference's MakeReady -/
import Derived.Test.YtlgabjffnjciaaaDoorGatY
import Derived.StillTailTactics
namespace Go.Proofs.YtlgabjffnjciaaaDoor
set_option linter.unusedSimpArgs false
set_option linter.unusedVariables false
open Go.RowKit Go.Sort
theorem rfA_range {W : World} {b : Nat} {v : AtV} {a : Option Addr} {n c : Nat} (h : BlkAt W b 53 (rfA v a n c)) : W.rangeAt b 0 (rfA v a n c).toList := h.range (fun j u hj => by rw [Nat.zero_add]; simpa using hj)
theorem shl_or (r k : Nat) (hr : r < 18446744073709551616) (hk : k < 64) : bits BinOp.or IntKind.u64 (r : Int) (IntKind.u64.wrap ((2 : Int) ^ k)) = ((r ||| 2 ^ k : Nat) : Int) := by
  have hpk : 2 ^ k < 18446744073709551616 := Nat.lt_of_lt_of_le (Nat.pow_lt_pow_right (by decide) hk) (by decide)
  have h2 : ((2 ^ k : Nat) : Int) < 18446744073709551616 := Int.ofNat_lt.2 hpk
  rw [IntKind.wrap_u64, show ((2 : Int) ^ k) = ((2 ^ k : Nat) : Int) from by simp, Int.emod_eq_of_lt (Int.natCast_nonneg _) h2]
  exact u64_or_nat r (2 ^ k) hr hpk
section
variable {w : World} {v : AtV} {a : Option Addr} {n c : Nat} {xs : List Xc}
theorem Rf.toRdy (h : Rf w v a n c xs) (p : Int) : Rf w (rdyV v p) a n c xs := ⟨h.rd, h.val.trans (rdyV_mem v p).2.1.symm, h.inv.toRdy p⟩
set_option maxHeartbeats 1600000 in
theorem rready_any (p : Int) (t : Bool) (ht : t = (rdyC v p && doneV (rdyV v p))) (h : Rf w v a n c xs) :
    Calls Tryd.prog 24 #[.agg (rfA v a n c), .int .i64 p] w fun e w' => e = .returned (.tuple #[.agg (rfA (rdyV v p) a n c), .bool t]) ∧ Below w.heap.size w w' := by
  have hB : BlkAt ((w.alloc (.cells (rfA v a n c) 53)).alloc (.cells #[.int .u64 0, .int .i64 0, .int .u64 0, .slice none 0 0, .int .u64 0] 53)) w.heap.size 53 (rfA v a n c) := BlkAt.alloc (BlkAt.new w _ _) _
  have hE : BlkAt ((w.alloc (.cells (rfA v a n c) 53)).alloc (.cells #[.int .u64 0, .int .i64 0, .int .u64 0, .slice none 0 0, .int .u64 0] 53)) (w.heap.size + 1) 53 #[.int .u64 0, .int .i64 0, .int .u64 0, .slice none 0 0, .int .u64 0] := by simpa using BlkAt.new (w.alloc (.cells (rfA v a n c) 53)) 53 #[.int .u64 0, .int .i64 0, .int .u64 0, .slice none 0 0, .int .u64 0]
  have hb1 : Below w.heap.size w ((w.alloc (.cells (rfA v a n c) 53)).alloc (.cells #[.int .u64 0, .int .i64 0, .int .u64 0, .slice none 0 0, .int .u64 0] 53)) := ((Below.refl _ _).alloc (Nat.le_refl _) _).alloc (by simp) _
  have hsz : ((w.alloc (.cells (rfA v a n c) 53)).alloc (.cells #[.int .u64 0, .int .i64 0, .int .u64 0, .slice none 0 0, .int .u64 0] 53)).heap.size = w.heap.size + 2 := by simp
  obtain ⟨tt, htt⟩ : ∃ z, z = toldV v := ⟨_, rfl⟩
  have HT := Lib.hid (fun W (hb : Below w.heap.size w W) => rtold_any tt htt (h.below hb))
  have HM := Lib.hid (fun t ht W => member_any v.mem p t ht h.inv.mem W)
  have HR := Lib.hid (fun t ht W => member_any v.rdy p t ht h.inv.rdy W)
  obtain ⟨m1, hm1⟩ : ∃ z, z = hasB v.mem p := ⟨_, rfl⟩
  obtain ⟨m2, hm2⟩ : ∃ z, z = hasB v.rdy p := ⟨_, rfl⟩
  have hrc : rdyC v p = (tt && m1 && !m2) := by rw [htt, hm1, hm2]; rfl
  have hiR := Tryd.rfI v a n c
  have hrl := h.inv.rdy
  replace hm1 := Lib.hid hm1
  replace hm2 := Lib.hid hm2
  cases hc : (tt && m1 && !m2) with
  | false =>
    rw [hc] at hrc
    have hz := Lib.hid (show rdyV v p = v from by rw [rdyV, hrc]; rfl)
    have ht2 := Lib.hid (show t = false from by rw [ht, hrc]; rfl)
    clear ht hrc h htt
    have key : ∀ W, BlkAt W w.heap.size 53 (rfA v a n c) → BlkAt W (w.heap.size + 1) 53 #[.int .u64 0, .int .i64 0, .int .u64 0, .slice none 0 0, .int .u64 0] → True := fun _ _ _ => trivial
    clear key
    cases tt with
    | false =>
      clear hc
      go_enter Tryd.func24, Tryd.ntmps24
      go_wp2_with (first
        | (refine wpList_blk_box rfl (.tmp 0) rfl rfl w.heap.size rfl ?_)
        | (refine wpList_blk_alloc rfl rfl Tryd.rfZ (w.heap.size + 1) (by simp) ?_; generalize (World.alloc (World.alloc w _) _) = w1 at *)
        | (refine wpList_blk_load rfl (.tmp 2) rfl Tryd.underlying53 rfl rfl hB hiR ?_))
      refine (HT.out _ hb1).mono ?_
      rintro e w2 ⟨rfl, hb2⟩
      have hB2 := hB.below hb2 hB.lt
      have hE2 := hE.below hb2 hE.lt
      have hs2 := hb2.size
      have hb12 := Lib.hid (belS hb1 hb2)
      clear hB hE hb1 hb2
      go_wp2_with (first
        | (refine wpList_blk_load rfl (.tmp 2) rfl Tryd.underlying53 rfl rfl hB2 hiR ?_)
        | (refine wpList_blk_store (cs := rfA v a n c) rfl (.tmp 4) (.tmp 22) rfl rfl rfl hE2 hiR rfl (rfA_one _ _ _ _) ?_; intro w4 hE4 hK4 hsz4))
      refine bodyPost_ret (results_row1 rfl _ _ (w.heap.size + 1) 53 _ (0, 0) _ rfl hE4 Tryd.underlying53 rfl hiR) rfl ⟨by rw [hz.out, ht2.out]; rfl, ?_⟩
      exact Kp.below hb12.out hK4 (by omega) (by omega)
    | true =>
    cases m1 with
    | false =>
      clear hc
      go_enter Tryd.func24, Tryd.ntmps24
      go_wp2_with (first
        | (refine wpList_blk_box rfl (.tmp 0) rfl rfl w.heap.size rfl ?_)
        | (refine wpList_blk_alloc rfl rfl Tryd.rfZ (w.heap.size + 1) (by simp) ?_; generalize (World.alloc (World.alloc w _) _) = w1 at *)
        | (refine wpList_blk_load rfl (.tmp 2) rfl Tryd.underlying53 rfl rfl hB hiR ?_))
      refine (HT.out _ hb1).mono ?_
      rintro e w2 ⟨rfl, hb2⟩
      have hB2 := hB.below hb2 hB.lt
      have hE2 := hE.below hb2 hE.lt
      have hs2 := hb2.size
      have hb12 := Lib.hid (belS hb1 hb2)
      clear hB hE hb1 hb2
      obtain ⟨c0, c1, c2, c3, c4⟩ := blk5 hB2
      go_wp2_with fail
      refine (HM.out false hm1.out _).mono ?_
      rintro e w3 ⟨rfl, rfl⟩
      go_wp2_with (first
        | (refine wpList_blk_load rfl (.tmp 2) rfl Tryd.underlying53 rfl rfl hB2 hiR ?_)
        | (refine wpList_blk_store (cs := rfA v a n c) rfl (.tmp 4) (.tmp 22) rfl rfl rfl hE2 hiR rfl (rfA_one _ _ _ _) ?_; intro w4 hE4 hK4 hsz4))
      refine bodyPost_ret (results_row1 rfl _ _ (w.heap.size + 1) 53 _ (0, 0) _ rfl hE4 Tryd.underlying53 rfl hiR) rfl ⟨by rw [hz.out, ht2.out]; rfl, ?_⟩
      exact Kp.below hb12.out hK4 (by omega) (by omega)
    | true =>
      obtain rfl : m2 = true := by cases m2 with
        | true => rfl
        | false => cases hc
      clear hc
      go_enter Tryd.func24, Tryd.ntmps24
      go_wp2_with (first
        | (refine wpList_blk_box rfl (.tmp 0) rfl rfl w.heap.size rfl ?_)
        | (refine wpList_blk_alloc rfl rfl Tryd.rfZ (w.heap.size + 1) (by simp) ?_; generalize (World.alloc (World.alloc w _) _) = w1 at *)
        | (refine wpList_blk_load rfl (.tmp 2) rfl Tryd.underlying53 rfl rfl hB hiR ?_))
      refine (HT.out _ hb1).mono ?_
      rintro e w2 ⟨rfl, hb2⟩
      have hB2 := hB.below hb2 hB.lt
      have hE2 := hE.below hb2 hE.lt
      have hs2 := hb2.size
      have hb12 := Lib.hid (belS hb1 hb2)
      clear hB hE hb1 hb2
      obtain ⟨c0, c1, c2, c3, c4⟩ := blk5 hB2
      go_wp2_with fail
      refine (HM.out true hm1.out _).mono ?_
      rintro e w3 ⟨rfl, rfl⟩
      go_wp2_with fail
      refine (HR.out true hm2.out _).mono ?_
      rintro e w3 ⟨rfl, rfl⟩
      go_wp2_with (first
        | (refine wpList_blk_load rfl (.tmp 2) rfl Tryd.underlying53 rfl rfl hB2 hiR ?_)
        | (refine wpList_blk_store (cs := rfA v a n c) rfl (.tmp 4) (.tmp 22) rfl rfl rfl hE2 hiR rfl (rfA_one _ _ _ _) ?_; intro w4 hE4 hK4 hsz4))
      refine bodyPost_ret (results_row1 rfl _ _ (w.heap.size + 1) 53 _ (0, 0) _ rfl hE4 Tryd.underlying53 rfl hiR) rfl ⟨by rw [hz.out, ht2.out]; rfl, ?_⟩
      exact Kp.below hb12.out hK4 (by omega) (by omega)
  | true =>
    rw [hc] at hrc
    obtain ⟨rfl, rfl, rfl⟩ : tt = true ∧ m1 = true ∧ m2 = false := by
      cases tt <;> cases m1 <;> cases m2 <;> first | exact ⟨rfl, rfl, rfl⟩ | cases hc
    clear hc
    obtain ⟨⟨hp0, hp1⟩, _⟩ := hasB_in.1 hm1.out.symm
    obtain ⟨k, rfl⟩ : ∃ k : Nat, p = k := ⟨p.toNat, by omega⟩
    have hkI : ¬ (k : Int) < 0 := by omega
    have hk : k < 64 := by omega
    have hwn : withN v.rdy [(k : Int)] = v.rdy ||| 2 ^ k := by
      show v.rdy ||| bitN k = _
      unfold bitN
      rw [if_pos (by omega), Int.toNat_natCast]
    have hor := Lib.hid (shl_or v.rdy k hrl hk)
    obtain ⟨v', hv'⟩ : ∃ z, z = rdyV v (k : Int) := ⟨_, rfl⟩
    have hv2 : v' = { v with rdy := withN v.rdy [(k : Int)] } := by rw [hv', rdyV, hrc]; rfl
    have ht2 := Lib.hid (show t = doneV v' from by rw [ht, hrc, hv']; rfl)
    have hset : Hid ((rfA v a n c).setIfInBounds 4 (.int .u64 ((v.rdy ||| 2 ^ k : Nat) : Int)) = rfA v' a n c) := Lib.hid (by rw [hv2, hwn]; simp [rfA])
    have HD := Lib.hid (fun W (hb : Below w.heap.size w W) => rdone_any t ht2.out ((h.toRdy (k : Int)).below hb |> fun (q : Rf W (rdyV v (k : Int)) a n c xs) => (hv' ▸ q : Rf W v' a n c xs)))
    have hiR2 := Tryd.rfI v' a n c
    rw [← hv']
    clear ht hrc h htt hv' hv2 hwn hp0 hp1
    go_enter Tryd.func24, Tryd.ntmps24
    go_wp2_with (first
      | (refine wpList_blk_box rfl (.tmp 0) rfl rfl w.heap.size rfl ?_)
      | (refine wpList_blk_alloc rfl rfl Tryd.rfZ (w.heap.size + 1) (by simp) ?_; generalize (World.alloc (World.alloc w _) _) = w1 at *)
      | (refine wpList_blk_load rfl (.tmp 2) rfl Tryd.underlying53 rfl rfl hB hiR ?_))
    refine (HT.out _ hb1).mono ?_
    rintro e w2 ⟨rfl, hb2⟩
    have hB2 := hB.below hb2 hB.lt
    have hE2 := hE.below hb2 hE.lt
    have hs2 := hb2.size
    have hb12 := Lib.hid (belS hb1 hb2)
    clear hB hE hb1 hb2
    obtain ⟨c0, c1, c2, c3, c4⟩ := blk5 hB2
    have f4 := hB2.fz 4
    go_wp2_with fail
    refine (HM.out true hm1.out _).mono ?_
    rintro e w3 ⟨rfl, rfl⟩
    go_wp2_with fail
    refine (HR.out false hm2.out _).mono ?_
    rintro e w3 ⟨rfl, rfl⟩
    go_wp2_with fail
    go_still_tail 6, (by kernel_rfl)
    go_wp2_with fail
    rw [hor.out]
    have hB3 : BlkAt (w2.setCell ⟨w.heap.size, 4, none⟩ (.int .u64 ((v.rdy ||| 2 ^ k : Nat) : Int))) w.heap.size 53 (rfA v' a n c) := by
      have := BlkAt.set hB2 4 (.int .u64 ((v.rdy ||| 2 ^ k : Nat) : Int))
      rw [hset.out] at this
      exact this
    have hE3 : BlkAt (w2.setCell ⟨w.heap.size, 4, none⟩ (.int .u64 ((v.rdy ||| 2 ^ k : Nat) : Int))) (w.heap.size + 1) 53 #[.int .u64 0, .int .i64 0, .int .u64 0, .slice none 0 0, .int .u64 0] := BlkAt.other hE2 (a := ⟨w.heap.size, 4, none⟩) (by simp) _
    have hb3 : Below w.heap.size w (w2.setCell ⟨w.heap.size, 4, none⟩ (.int .u64 ((v.rdy ||| 2 ^ k : Nat) : Int))) := hb12.out.setCell (Nat.le_refl _) _
    have hs3 : w.heap.size + 2 ≤ (w2.setCell ⟨w.heap.size, 4, none⟩ (.int .u64 ((v.rdy ||| 2 ^ k : Nat) : Int))).heap.size := by simp; omega
    clear c0 c1 c2 c3 c4 f4 hB2 hE2 hs2 hb12
    generalize w2.setCell ⟨w.heap.size, 4, none⟩ (.int .u64 ((v.rdy ||| 2 ^ k : Nat) : Int)) = w3 at *
    refine wp_region_held_drew (S := fun W => W.rangeAt w.heap.size 0 (rfA v' a n c).toList) (by kernel_rfl) (rfA_range hB3) ?_
    intro hHeld
    (refine wpAnyH_take (i := 0) (v := .agg (rfA v' a n c)) rfl (by kernel_rfl) (by kernel_rfl) (by kernel_rfl) (fun _ _ _ h => h) (yieldsIf_load_mid (by rfl) 53 (.tmp 2) rfl w.heap.size 0 rfl (rfA v' a n c).toList _ (fun W hW => hW) Tryd.underlying53 rfl hiR2) (by assumption) ?_; (try simp only [Act.put, List.getElem_toArray, List.getElem_cons_zero, List.getElem_cons_succ, List.setIfInBounds_toArray, List.set_cons_zero, List.set_cons_succ]))
    (refine wpAnyH_take (i := 1) (v := .agg (rfA v' a n c)) rfl (by kernel_rfl) (by kernel_rfl) (by kernel_rfl) (fun _ _ _ h => h) (yieldsIf_load_mid (by rfl) 53 (.tmp 2) rfl w.heap.size 0 rfl (rfA v' a n c).toList _ (fun W hW => hW) Tryd.underlying53 rfl hiR2) (by assumption) ?_; (try simp only [Act.put, List.getElem_toArray, List.getElem_cons_zero, List.getElem_cons_succ, List.setIfInBounds_toArray, List.set_cons_zero, List.set_cons_succ]))
    (refine wpAnyH_ready (rs := [2]) (by kernel_rfl) (by simp) ?_; refine AllReadyH.cons rfl (fun K hK => ?_) AllReadyH.nil)
    go_simp
    refine (HD.out _ (by first | exact hb3 | exact hb3.drew | exact (belN hb3 1).drew)).mono ?_
    rintro e w5 ⟨rfl, hb5⟩
    replace hb5 : Below w3.heap.size w3 w5 := belS (Below.refl w3.heap.size w3).drew.drew hb5
    have hB5 : BlkAt w5 w.heap.size 53 (rfA v' a n c) := BlkAt.below hB3 hb5 hB3.lt
    have hE5 : BlkAt w5 (w.heap.size + 1) 53 #[.int .u64 0, .int .i64 0, .int .u64 0, .slice none 0 0, .int .u64 0] := BlkAt.below hE3 hb5 hE3.lt
    have hb35 : Below w.heap.size w w5 := belS hb3 hb5
    have hs5 : w.heap.size + 2 ≤ w5.heap.size := Nat.le_trans hs3 hb5.size
    refine hK.out _ _ (rfA_range hB5) (fun hH2 => ?_)
    clear hK K hHeld hB3 hE3 hb3 hb5
    (refine wpAnyH_ready (rs := [3]) (by kernel_rfl) (by simp) ?_; refine AllReadyH.cons rfl (fun K hK => ?_) AllReadyH.nil)
    refine step_blk_store rfl (.tmp 4) (.tmp 29) rfl rfl rfl hE5 hiR2 rfl (rfA_one _ _ _ _) ?_
    intro w6 hE6 hK6 hs6
    (try simp only [Act.put, List.getElem_toArray, List.getElem_cons_zero, List.getElem_cons_succ, List.setIfInBounds_toArray, List.set_cons_zero, List.set_cons_succ])
    refine hK.out _ _ (rfA_range (hK6.blk hB5 (by omega))) (fun hH3 => ?_)
    clear hK K hH2
    (refine wpAnyH_take (i := 4) (v := ?_) rfl (by kernel_rfl) (by kernel_rfl) (by kernel_rfl) (fun _ _ _ h => h) (Or.inl ⟨by rfl, ?_⟩) (by assumption) ?_; rotate_left; (focus (intro w hSw; clear hSw; go_simp; (try with_reducible rfl))); (try simp only [Act.put, List.getElem_toArray, List.getElem_cons_zero, List.getElem_cons_succ, List.setIfInBounds_toArray, List.set_cons_zero, List.set_cons_succ]))
    refine wpAnyH_done (by kernel_rfl) ?_ _
    go_wp2_with fail
    refine bodyPost_ret (results_row1 rfl _ _ (w.heap.size + 1) 53 _ (0, 0) _ rfl hE6 Tryd.underlying53 rfl hiR2) rfl ⟨rfl, ?_⟩
    exact Kp.below hb35 hK6 (by omega) (by omega)
end
end Go.Proofs.YtlgabjffnjciaaaDoor
