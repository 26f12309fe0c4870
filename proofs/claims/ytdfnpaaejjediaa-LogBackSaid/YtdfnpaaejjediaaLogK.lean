/- log: the reader's numbers; the walk of the reader's view -/
import Derived.Test.YtdfnpaaejjediaaLogR
import Derived.Test.YtdfnpaaejjediaaLogD
import Derived.Deep.RegionHeld3
namespace Go.Proofs.Ytdfnpaaejjediaa
open Go.RowKit

def nvN (L : List Int) (p n : Nat) : Nat := (nv L p n).toNat
theorem nvN_lt {L : List Int} (h : ByL L) (p n : Nat) : nvN L p n < 256 ^ n := by
  have h1 := nv_nonneg h p n
  have h2 := nv_lt h p n
  have e : ((256 ^ n : Nat) : Int) = (256 : Int) ^ n := Int.natCast_pow 256 n
  unfold nvN
  omega
theorem nvN_cast {L : List Int} (h : ByL L) (p n : Nat) : ((nvN L p n : Nat) : Int) = nv L p n := Int.toNat_of_nonneg (nv_nonneg h p n)
theorem vwAt_N {L : List Int} (h : ByL L) (p : Nat) : vwAt L p = ⟨nvN L p 8, nvN L (p + 8) 8, (nvN L (p + 16) 1 : Nat), nvN L (p + 17) 8⟩ := by
  rw [vwAt, nvN_cast h]; rfl
theorem Kp.ofKeep {b : Nat} {w w' : World} (h : Keep b w w') : Kp b w w' := ⟨h.os, h.tape, h.output, h.size, h.block⟩
/-- What the reader's Num leaves. -/
def RnPost (b : Nat) (s : ByteArray) (p m : Nat) (w : World) (e : Ending) (w' : World) : Prop := (p + m ≤ s.size ∧ e = .returned (.int .u64 (nvN (bI s) p m : Nat)) ∧ Rdr w' b s (p + m) ∨ s.size < p + m ∧ e = pan 2) ∧ Kp b w w'
section
variable {w w' : World} {b : Nat} {s : ByteArray} {p : Nat}
theorem Rdr.drewN (h : Rdr w b s p) (n : Nat) : Rdr (w.drewN n) b s p := ⟨h.lt, h.c0, h.c1, h.fz, h.le⟩
theorem Rdr.kp {c : Nat} (h : Rdr w b s p) (k : Kp c w w') (hc : b ≠ c) : Rdr w' b s p := by
  have e := k.block b h.lt hc
  exact ⟨Nat.lt_of_lt_of_le h.lt k.size, (World.cell?_of_block (a := ⟨b, 0, none⟩) e).trans h.c0, (World.cell?_of_block (a := ⟨b, 1, none⟩) e).trans h.c1, (World.frozen?_of_block (a := ⟨b, 1, none⟩) e).trans h.fz, h.le⟩
theorem Kp.trans2 {b c : Nat} {x y z : World} (h : Kp b x y) (k : Kp c y z) (hc : x.heap.size ≤ c) : Kp b x z :=
  ⟨k.os.trans h.os, k.tape.trans h.tape, k.output.trans h.output, Nat.le_trans h.size k.size, fun i hi hb => (k.block i (Nat.lt_of_lt_of_le hi h.size) (by omega)).trans (h.block i hi hb)⟩
theorem rn_any (n : Int) (m : Nat) (hm : szB n = m) (h : Rdr w b s p) (hz : s.size ≤ 1000000000) :
    Calls Try.prog 36 #[.pointer (some ⟨b, 0, none⟩), .int .i64 n] w (RnPost b s p m w) := by
  subst hm
  by_cases hn : p + szB n ≤ s.size
  · refine (num_yes b s p n w h hz hn).mono ?_
    rintro e w' ⟨rfl, h1, k1⟩
    rw [nv_extract, ← nvN_cast (bI_mem s)]
    exact ⟨.inl ⟨hn, rfl, h1⟩, Kp.ofKeep k1⟩
  · refine (num_no b s p n w h hz (by have := h.le; omega)).mono ?_
    rintro e w' ⟨rfl, nq, rfl⟩
    exact ⟨.inr ⟨by omega, rfl⟩, (Kp.refl b w).drewN nq⟩
end
def VwPost (b : Nat) (s : ByteArray) (p : Nat) (w : World) (e : Ending) (w' : World) : Prop := (vwE (bI s) p = 0 ∧ e = .returned (.agg #[.int .u64 (vwAt (bI s) p).num, .int .u64 (vwAt (bI s) p).ce, .int .i64 (vwAt (bI s) p).cr, .int .u64 (vwAt (bI s) p).mem]) ∧ Rdr w' b s (p + 25) ∨ vwE (bI s) p ≠ 0 ∧ e = pan (vwE (bI s) p)) ∧ Kp b w w'
section
variable {w w' : World} {b : Nat} {s : ByteArray} {p : Nat}
theorem vwE_short {L : List Int} {p : Nat} (h : L.length < p + 17) : vwE L p = 2 := if_pos h
theorem vwE_rep {L : List Int} {p : Nat} (h : ¬ L.length < p + 17) (hr : 63 < nv L (p + 16) 1) : vwE L p = 1 := by unfold vwE; rw [if_neg h, if_pos hr]
theorem vwE_late {L : List Int} {p : Nat} (h : ¬ L.length < p + 17) (hr : ¬ 63 < nv L (p + 16) 1) (h2 : L.length < p + 25) : vwE L p = 2 := by unfold vwE; rw [if_neg h, if_neg hr, if_pos h2]
theorem VwPost.bad {e : Int} (he : vwE (bI s) p = e) (h0 : e ≠ 0) (k : Kp b w w') : VwPost b s p w (pan e) w' := ⟨.inr ⟨by rw [he]; exact h0, by rw [he]⟩, k⟩
set_option maxHeartbeats 3200000 in
set_option maxRecDepth 100000 in
theorem rview_any (h : Rdr w b s p) (hz : s.size ≤ 1000000) :
    Calls Try.prog 43 #[.agg #[.pointer (some ⟨b, 0, none⟩)]] w (VwPost b s p w) := by
  have hb := h.lt
  have hL : (bI s).length = s.size := bI_len s
  have hB := bI_mem s
  have hV := Lib.hid (vwAt_N hB p)
  have hS := Lib.hid (fun h => vwE_short (L := bI s) (p := p) h)
  have hR := Lib.hid (fun h h2 => vwE_rep (L := bI s) (p := p) h h2)
  have hT := Lib.hid (fun h h2 h3 => vwE_late (L := bI s) (p := p) h h2 h3)
  have hO := Lib.hid (fun h => (vwE_zero (L := bI s) (p := p)).2 h)
  rw [← nvN_cast hB] at hR hT hO
  rw [hL] at hS hR hT hO
  have hbx : Below w.heap.size w ((w.alloc (.cells #[.pointer (some ⟨b, 0, none⟩)] 82)).alloc (.cells (vwA .zero) 27)) := ((Below.refl _ _).alloc (Nat.le_refl _) _).alloc (by simp) _
  have hA : BlkAt ((w.alloc (.cells #[.pointer (some ⟨b, 0, none⟩)] 82)).alloc (.cells (vwA .zero) 27)) w.heap.size 82 #[.pointer (some ⟨b, 0, none⟩)] := (BlkAt.new w _ _).alloc _
  have hZ : BlkAt ((w.alloc (.cells #[.pointer (some ⟨b, 0, none⟩)] 82)).alloc (.cells (vwA .zero) 27)) (w.heap.size + 1) 27 (vwA .zero) := by
    have := BlkAt.new (w.alloc (.cells #[.pointer (some ⟨b, 0, none⟩)] 82)) 27 (vwA .zero)
    simpa using this
  have h1 := h.below hbx hb
  have kx := Kp.ofBelow (b := b) hbx
  have ha0 : ((w.alloc (.cells #[.pointer (some ⟨b, 0, none⟩)] 82)).alloc (.cells (vwA .zero) 27)).cell? ⟨w.heap.size, 0, none⟩ = some (.pointer (some ⟨b, 0, none⟩)) := hA.cell rfl
  have hN := Lib.hid (fun (W : World) (q : Nat) (h : Rdr W b s q) => rn_any 8 8 rfl h (by omega))
  have hN1 := Lib.hid (fun (W : World) (q : Nat) (h : Rdr W b s q) => rn_any 1 1 rfl h (by omega))
  have b3 : nvN (bI s) (p + 16) 1 < 256 := nvN_lt hB (p + 16) 1
  clear h hL hB
  go_enter Try.func43, Try.ntmps43
  go_wp2_with (first
    | (refine wpList_blk_alloc rfl rfl Try.viewZ (w.heap.size + 1) (by simp) ?_; generalize (w.alloc _).alloc _ = w1 at *))
  refine (hN.out _ _ h1).mono ?_
  rintro e w2 ⟨⟨g1, rfl, h2⟩ | ⟨g1, rfl⟩, k2⟩
  case inr => exact ⟨rfl, VwPost.bad (hS.out (by omega)) (by decide) (kx.trans k2)⟩
  have hA2 := k2.blk hA (by omega)
  have hZ2 := k2.blk hZ (by omega)
  have k2x := kx.trans k2
  have hw2 := k2x.size
  have hz2 := hZ2.lt
  clear ha0 hA hZ h1 kx k2 hbx
  go_wp2_with (first
    | (refine wpList_blk_alloc rfl rfl Try.viewZ w2.heap.size rfl ?_)
    | (refine wpList_blk_store (cs := #[.int .u64 (nvN (bI s) p 8 : Nat), .int .u64 0, .int .i64 0, .int .u64 0]) rfl (.tmp 3) (.tmp 7) rfl rfl rfl (BlkAt.new w2 _ _) (Try.viewI .zero) rfl (by simp [Value.oneCell']) ?_; intro w3 hB3 hK3 hs3))
  have hAl : Below w2.heap.size w2 (w2.alloc (.cells (vwA .zero) 27)) := (Below.refl _ _).alloc (Nat.le_refl _) _
  have hb3 : Below w2.heap.size w2 w3 := Kp.below hAl hK3 (Nat.le_refl _) hAl.size
  have h3 := h2.below hb3 (by omega)
  have hA3 := hA2.below hb3 hA2.lt
  have hZ3 := hZ2.below hb3 hZ2.lt
  have k3 := k2x.trans (Kp.ofBelow hb3)
  have hw3 := hb3.size
  clear hAl hK3 hs3 hb3 h2 hA2 hZ2 k2x
  have ha3 : w3.cell? ⟨w.heap.size, 0, none⟩ = some (.pointer (some ⟨b, 0, none⟩)) := hA3.cell rfl
  refine wp_region_held_drew (S := fun W => W.cell? ⟨w.heap.size, 0, none⟩ = some (.pointer (some ⟨b, 0, none⟩))) (by kernel_rfl) ha3 ?_
  intro hHeld
  (refine wpAnyH_take (i := 0) (v := ?_) rfl (by kernel_rfl) (by kernel_rfl) (by kernel_rfl) (fun _ _ _ h => h) (Or.inl ⟨by rfl, ?_⟩) (by assumption) ?_; rotate_left; (focus (intro w hSw; (try dsimp only at hSw); go_simp; (try with_reducible rfl))); (try simp only [Act.put, List.setIfInBounds_toArray, List.set_cons_zero, List.set_cons_succ]))
  (refine wpAnyH_take (i := 1) (v := ?_) rfl (by kernel_rfl) (by kernel_rfl) (by kernel_rfl) (fun _ _ _ h => h) (Or.inl ⟨by rfl, ?_⟩) (by assumption) ?_; rotate_left; (focus (intro w hSw; (try dsimp only at hSw); go_simp; (try with_reducible rfl))); (try simp only [Act.put, List.setIfInBounds_toArray, List.set_cons_zero, List.set_cons_succ]))
  (refine wpAnyH_take (i := 3) (v := ?_) rfl (by kernel_rfl) (by kernel_rfl) (by kernel_rfl) (fun _ _ _ h => h) (Or.inl ⟨by rfl, ?_⟩) (by assumption) ?_; rotate_left; (focus (intro w hSw; (try dsimp only at hSw); go_simp; (try with_reducible rfl))); (try simp only [Act.put, List.setIfInBounds_toArray, List.set_cons_zero, List.set_cons_succ]))
  (refine wpAnyH_take (i := 4) (v := ?_) rfl (by kernel_rfl) (by kernel_rfl) (by kernel_rfl) (fun _ _ _ h => h) (Or.inl ⟨by rfl, ?_⟩) (by assumption) ?_; rotate_left; (focus (intro w hSw; (try dsimp only at hSw); go_simp; (try with_reducible rfl))); (try simp only [Act.put, List.setIfInBounds_toArray, List.set_cons_zero, List.set_cons_succ]))
  (refine wpAnyH_ready (rs := [2]) (by kernel_rfl) (by simp) ?_; refine AllReadyH.cons rfl (fun K hK => ?_) AllReadyH.nil; go_simp)
  have h3d : Rdr w3.drew b s (p + 8) := h3.drewN 1
  refine (hN.out _ _ h3d).mono ?_
  rintro e w4 ⟨⟨g2, rfl, h4⟩ | ⟨g2, rfl⟩, k4⟩
  case inr => exact ⟨rfl, VwPost.bad (hS.out (by omega)) (by decide) ((k3.drewN 1).trans k4)⟩
  have k4x : Kp b w w4 := (k3.drewN 1).trans k4
  have hA4 := k4.blk (hA3.drewN 1) (by omega)
  have hB4 := k4.blk (hB3.drewN 1) (by omega)
  have hZ4 := k4.blk (hZ3.drewN 1) (by omega)
  have ha4 : w4.cell? ⟨w.heap.size, 0, none⟩ = some (.pointer (some ⟨b, 0, none⟩)) := hA4.cell rfl
  refine hK.out _ _ ha4 (fun hHeld4 => ?_)
  clear hK K k4 hHeld
  (refine wpAnyH_take (i := 7) (v := ?_) rfl (by kernel_rfl) (by kernel_rfl) (by kernel_rfl) (fun _ _ _ h => h) (Or.inl ⟨by rfl, ?_⟩) (by assumption) ?_; rotate_left; (focus (intro w hSw; (try dsimp only at hSw); go_simp; (try with_reducible rfl))); (try simp only [Act.put, List.setIfInBounds_toArray, List.set_cons_zero, List.set_cons_succ]))
  (refine wpAnyH_take (i := 8) (v := ?_) rfl (by kernel_rfl) (by kernel_rfl) (by kernel_rfl) (fun _ _ _ h => h) (Or.inl ⟨by rfl, ?_⟩) (by assumption) ?_; rotate_left; (focus (intro w hSw; (try dsimp only at hSw); go_simp; (try with_reducible rfl))); (try simp only [Act.put, List.setIfInBounds_toArray, List.set_cons_zero, List.set_cons_succ]))
  (refine wpAnyH_ready (rs := [5]) (by kernel_rfl) (by simp) ?_; refine AllReadyH.cons rfl (fun K hK => ?_) AllReadyH.nil; go_simp)
  refine (hN1.out _ _ h4).mono ?_
  rintro e w5 ⟨⟨g3, rfl, h5⟩ | ⟨g3, rfl⟩, k5⟩
  case inr => exact ⟨rfl, VwPost.bad (hS.out (by omega)) (by decide) (k4x.trans k5)⟩
  have k5x : Kp b w w5 := k4x.trans k5
  have hA5 := k5.blk hA4 (by omega)
  have hB5 := k5.blk hB4 (by omega)
  have hZ5 := k5.blk hZ4 (by omega)
  have ha5 : w5.cell? ⟨w.heap.size, 0, none⟩ = some (.pointer (some ⟨b, 0, none⟩)) := hA5.cell rfl
  refine hK.out _ _ ha5 (fun hHeld5 => ?_)
  clear hK K k5 hHeld4 hA4 hB4 hZ4 hA3 hB3 hZ3 h3d h3 h4 ha4 ha3
  generalize nvN (bI s) (p + 16) 1 = x3 at *
  have hx3 : IntKind.i64.wrap (x3 : Int) = x3 := by rw [IntKind.wrap_i64]; omega
  (refine wpAnyH_take (i := 6) (v := ?_) rfl (by kernel_rfl) (by kernel_rfl) (by kernel_rfl) (fun _ _ _ h => h) (Or.inl ⟨by rfl, ?_⟩) (by assumption) ?_; rotate_left; (focus (intro w hSw; (try dsimp only at hSw); go_simp; (try with_reducible rfl))); (try simp only [Act.put, List.setIfInBounds_toArray, List.set_cons_zero, List.set_cons_succ]))
  have y1 : w5.cell? ⟨w2.heap.size, 1, none⟩ = some (.int .u64 0) := hB5.cell rfl
  have f1 := hB5.fz 1
  (refine wpAnyH_ready (rs := [9]) (by kernel_rfl) (by simp) ?_; refine AllReadyH.cons rfl (fun K hK => ?_) AllReadyH.nil; go_simp)
  have hB6 := hB5.set 1 (.int .u64 (nvN (bI s) (p + 8) 8 : Nat))
  have q6 := (Kp.refl w2.heap.size w5).setCell ⟨w2.heap.size, 1, none⟩ rfl (.int .u64 (nvN (bI s) (p + 8) 8 : Nat))
  generalize w5.setCell _ _ = w6 at *
  have hA6 := q6.blk hA5 (by omega)
  have hZ6 := q6.blk hZ5 (by omega)
  have h6 := h5.kp q6 (by omega)
  have k6 : Kp b w w6 := Kp.trans2 k5x q6 (by omega)
  have ha6 : w6.cell? ⟨w.heap.size, 0, none⟩ = some (.pointer (some ⟨b, 0, none⟩)) := hA6.cell rfl
  refine hK.out _ _ ha6 (fun hHeld6 => ?_)
  clear hK K q6 y1 f1 hA5 hB5 hZ5 ha5 h5 k5x hHeld5
  have y2 : w6.cell? ⟨w2.heap.size, 2, none⟩ = some (.int .i64 0) := hB6.cell rfl
  have f2 := hB6.fz 2
  (refine wpAnyH_take (i := 10) (v := ?_) rfl (by kernel_rfl) (by kernel_rfl) (by kernel_rfl) (fun _ _ _ h => h) (Or.inl ⟨by rfl, ?_⟩) (by assumption) ?_; rotate_left; (focus (intro w hSw; (try dsimp only at hSw); go_simp; (try with_reducible rfl))); (try simp only [Act.put, List.setIfInBounds_toArray, List.set_cons_zero, List.set_cons_succ]))
  (refine wpAnyH_take (i := 11) (v := ?_) rfl (by kernel_rfl) (by kernel_rfl) (by kernel_rfl) (fun _ _ _ h => h) (Or.inl ⟨by rfl, ?_⟩) (by assumption) ?_; rotate_left; (focus (intro w hSw; (try dsimp only at hSw); go_simp; (try with_reducible rfl))); (try simp only [Act.put, List.setIfInBounds_toArray, List.set_cons_zero, List.set_cons_succ]))
  (refine wpAnyH_ready (rs := [12]) (by kernel_rfl) (by simp) ?_; refine AllReadyH.cons rfl (fun K hK => ?_) AllReadyH.nil; go_simp)
  have hB7 := hB6.set 2 (.int .i64 x3)
  have q7 := (Kp.refl w2.heap.size w6).setCell ⟨w2.heap.size, 2, none⟩ rfl (.int .i64 x3)
  generalize w6.setCell _ _ = w7 at *
  have hA7 := q7.blk hA6 (by omega)
  have hZ7 := q7.blk hZ6 (by omega)
  have h7 := h6.kp q7 (by omega)
  have k7 : Kp b w w7 := Kp.trans2 k6 q7 (by omega)
  have ha7 : w7.cell? ⟨w.heap.size, 0, none⟩ = some (.pointer (some ⟨b, 0, none⟩)) := hA7.cell rfl
  refine hK.out _ _ ha7 (fun hHeld7 => ?_)
  clear hK K q7 y2 f2 hA6 hB6 hZ6 ha6 h6 k6 hHeld6
  refine wpAnyH_done (by kernel_rfl) ?_ _
  have y3 : w7.cell? ⟨w2.heap.size, 2, none⟩ = some (.int .i64 x3) := hB7.cell rfl
  go_wp2_with fail
  by_cases hrep : 63 < x3
  · refine (bad_t (by first | (simp; done) | (simp; omega)) 1 _).mono ?_
    rintro e w' ⟨rfl, rfl⟩
    exact ⟨rfl, VwPost.bad (hR.out (by omega) (by omega)) (by decide) k7⟩
  refine (bad_f (by first | (simp; done) | (simp; omega)) 1 _).mono ?_
  rintro e w' ⟨rfl, rfl⟩
  clear y3
  have ha7 : w7.cell? ⟨w.heap.size, 0, none⟩ = some (.pointer (some ⟨b, 0, none⟩)) := hA7.cell rfl
  go_wp2_with fail
  refine (hN.out _ _ h7).mono ?_
  rintro e w8 ⟨⟨g4, rfl, h8⟩ | ⟨g4, rfl⟩, k8⟩
  case inr => exact ⟨rfl, VwPost.bad (hT.out (by omega) (by omega) (by omega)) (by decide) (k7.trans k8)⟩
  have hB8 := k8.blk hB7 (by omega)
  have hZ8 := k8.blk hZ7 (by omega)
  have k8x := k7.trans k8
  have y4 : w8.cell? ⟨w2.heap.size, 3, none⟩ = some (.int .u64 0) := hB8.cell rfl
  have f4 := hB8.fz 3
  have HO := Lib.hid (hO.out ⟨by omega, by omega⟩)
  have hB9 : BlkAt (w8.setCell ⟨w2.heap.size, 3, none⟩ (.int .u64 (nvN (bI s) (p + 17) 8 : Nat))) w2.heap.size 27 #[.int .u64 (nvN (bI s) p 8 : Nat), .int .u64 (nvN (bI s) (p + 8) 8 : Nat), .int .i64 x3, .int .u64 (nvN (bI s) (p + 17) 8 : Nat)] := hB8.set 3 _
  have q9 := (Kp.refl w2.heap.size w8).setCell ⟨w2.heap.size, 3, none⟩ rfl (.int .u64 (nvN (bI s) (p + 17) 8 : Nat))
  have hZ9 := q9.blk hZ8 (by omega)
  have h9 := h8.kp q9 (by omega)
  have k9 : Kp b w _ := Kp.trans2 k8x q9 (by omega)
  have H9 := Lib.hid (show Rdr _ b s (p + 25) ∧ Kp b w _ from ⟨h9, k9⟩)
  clear h9 k9 q9
  go_wp2_with (first
    | (refine wpList_blk_load rfl (.tmp 3) rfl Try.underlying27 rfl rfl hB9 (Try.viewI .zero) ?_)
    | (refine wpList_blk_store (cs := #[.int .u64 (nvN (bI s) p 8 : Nat), .int .u64 (nvN (bI s) (p + 8) 8 : Nat), .int .i64 x3, .int .u64 (nvN (bI s) (p + 17) 8 : Nat)]) rfl (.tmp 2) (.tmp 28) rfl rfl rfl hZ9 (Try.viewI .zero) rfl (by simp [Value.oneCell']) ?_; intro w4 hZ10 hK10 hsz10))
  refine bodyPost_ret (results_cell_row rfl _ _ (w.heap.size + 1) 27 _ (0, 0) _ rfl hZ10 Try.underlying27 rfl (Try.viewI .zero)) rfl ⟨.inl ⟨HO.out, ?_, H9.out.1.kp hK10 (by omega)⟩, Kp.trans2 H9.out.2 hK10 (by omega)⟩
  rw [hV.out]
end
end Go.Proofs.Ytdfnpaaejjediaa
