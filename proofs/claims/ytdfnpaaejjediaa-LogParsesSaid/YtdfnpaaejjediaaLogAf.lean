/- log: the reference's taker: view -/
import Derived.Test.YtdfnpaaejjediaaLogAe
namespace Go.Proofs.Ytdfnpaaejjediaa
open Go.RowKit

def tvw (s : ByteArray) (p : Nat) : Vw := ⟨gN s p 8, gN s (p + 8) 8, (gN s (p + 16) 1 : Nat), gN s (p + 17) 8⟩
def tvE (s : ByteArray) (p : Nat) (e : Int) : Int := if e = 0 then vwE (bI s) p else e
theorem bE_ne {e k : Int} {t : Bool} (h : e ≠ 0) : bE e k t = e := if_neg fun g => h g.2
theorem nE_ne {s : ByteArray} {p m : Nat} {e : Int} (h : e ≠ 0) : nE s p m e = e := bE_ne h
theorem nE_ok {s : ByteArray} {p m : Nat} {e : Int} (h : p + m ≤ s.size) : nE s p m e = e := if_neg fun g => by simp [h] at g
theorem nE_short {s : ByteArray} {p m : Nat} (h : ¬ p + m ≤ s.size) : nE s p m 0 = 2 := if_pos ⟨by simp [h], rfl⟩
theorem gN_ok {s : ByteArray} {p m : Nat} (h : p + m ≤ s.size) : gN s p m = nvN (bI s) p m := if_pos h
theorem gN_short {s : ByteArray} {p m : Nat} (h : ¬ p + m ≤ s.size) : gN s p m = 0 := if_neg h
theorem gN_lt (s : ByteArray) (p m : Nat) : gN s p m < 256 ^ m := by
  unfold gN
  split
  · exact nvN_lt (bI_mem s) p m
  · exact Nat.pow_pos (by decide)
theorem tvE_eq (s : ByteArray) (p : Nat) (e : Int) : nE s (p + 17) 8 (bE (nE s (p + 16) 1 (nE s (p + 8) 8 (nE s p 8 e))) 1 (decide ((63 : Int) < (gN s (p + 16) 1 : Nat)))) = tvE s p e := by
  have hl := bI_len s
  unfold tvE
  by_cases he : e = 0
  · subst he
    rw [if_pos rfl]
    have hn := nvN_cast (bI_mem s) (p + 16) 1
    by_cases h1 : p + 17 ≤ s.size
    · rw [nE_ok (p := p) (m := 8) (by omega), nE_ok (p := p + 8) (m := 8) (by omega), nE_ok (p := p + 16) (m := 1) (by omega), gN_ok (by omega)]
      by_cases h2 : (63 : Int) < nv (bI s) (p + 16) 1
      · rw [vwE_rep (by omega) h2, show bE 0 1 (decide ((63 : Int) < (nvN (bI s) (p + 16) 1 : Nat))) = 1 from if_pos ⟨by rw [decide_eq_true_eq]; omega, rfl⟩, nE_ne (by decide)]
      · rw [show bE 0 1 (decide ((63 : Int) < (nvN (bI s) (p + 16) 1 : Nat))) = 0 from if_neg fun g => by rw [decide_eq_true_eq] at g; omega]
        by_cases h3 : p + 25 ≤ s.size
        · rw [nE_ok (by omega), vwE_zero.2 ⟨by omega, by omega⟩]
        · rw [nE_short (by omega), vwE_late (by omega) h2 (by omega)]
    · rw [vwE_short (by omega)]
      by_cases g1 : p + 8 ≤ s.size
      · rw [nE_ok (p := p) (m := 8) (by omega)]
        by_cases g2 : p + 16 ≤ s.size
        · rw [nE_ok (p := p + 8) (m := 8) (by omega), nE_short (by omega), bE_ne (by decide), nE_ne (by decide)]
        · rw [nE_short (p := p + 8) (by omega), nE_ne (p := p + 16) (e := 2) (by decide), bE_ne (by decide), nE_ne (by decide)]
      · rw [nE_short (p := p) (by omega), nE_ne (p := p + 8) (by decide), nE_ne (p := p + 16) (e := 2) (by decide), bE_ne (by decide), nE_ne (by decide)]
  · rw [if_neg he, nE_ne (p := p) he, nE_ne (p := p + 8) he, nE_ne (p := p + 16) he, bE_ne he, nE_ne he]
theorem tvw_eq {s : ByteArray} {p : Nat} (h : vwE (bI s) p = 0) : tvw s p = vwAt (bI s) p := by
  have h1 := (vwE_zero.1 h).1
  rw [bI_len] at h1
  rw [vwAt_N (bI_mem s), tvw, gN_ok (by omega), gN_ok (by omega), gN_ok (by omega), gN_ok (by omega)]
section
variable {w w' : World} {b : Nat} {s : ByteArray} {p : Nat} {e : Int}
set_option maxHeartbeats 1600000 in
set_option maxRecDepth 100000 in
theorem tview_any (h : Tk w b s p e) (hz : s.size ≤ 5000) (hp : p ≤ 50000) :
    Calls Try.prog 46 #[.pointer (some ⟨b, 0, none⟩)] w fun x w' => x = .returned (.agg #[.int .u64 (tvw s p).num, .int .u64 (tvw s p).ce, .int .i64 (tvw s p).cr, .int .u64 (tvw s p).mem]) ∧ Tk w' b s (p + 25) (tvE s p e) ∧ Kp b w w' := by
  have hb := h.lt
  have hbx : Below w.heap.size w (w.alloc (.cells (vwA .zero) 27)) := (Below.refl _ _).alloc (Nat.le_refl _) _
  have hZ := BlkAt.new w 27 (vwA .zero)
  have h1 := h.below hbx hb
  have kx := Kp.ofBelow (b := b) hbx
  have hN := Lib.hid (fun (W : World) (q m : Nat) (e : Int) (h1 : 1 ≤ m) (h2 : m ≤ 8) (hq : q ≤ 100000) (h : Tk W b s q e) => tnum_any m h1 h2 h hz hq)
  have hB := Lib.hid (fun (W : World) (q : Nat) (e : Int) (t : Bool) (h : Tk W b s q e) => tbad_any (k := 1) t h)
  have hE := Lib.hid (tvE_eq s p e)
  have hT := Lib.hid (show tvw s p = ⟨gN s p 8, gN s (p + 8) 8, (gN s (p + 16) 1 : Nat), gN s (p + 17) 8⟩ from rfl)
  have l3 := gN_lt s (p + 16) 1
  generalize tvw s p = T at *
  generalize tvE s p e = eT at *
  clear h
  go_enter Try.func46, Try.ntmps46
  go_wp2_with (first
    | (refine wpList_blk_alloc rfl rfl Try.viewZ w.heap.size rfl ?_))
  generalize w.alloc _ = w1 at *
  refine (hN.out _ _ 8 _ (by decide) (by decide) (by omega) h1).mono ?_
  rintro x w2 ⟨rfl, h2, k2⟩
  have hZ2 := k2.blk hZ (by omega)
  have k2x := kx.trans k2
  have hw2 := k2x.size
  have hz2 := hZ2.lt
  clear h1 hZ kx k2 hbx
  go_wp2_with (first
    | (refine wpList_blk_alloc rfl rfl Try.viewZ w2.heap.size rfl ?_)
    | (refine wpList_blk_store (cs := #[.int .u64 (gN s p 8 : Nat), .int .u64 0, .int .i64 0, .int .u64 0]) rfl (.tmp 3) (.tmp 6) rfl rfl rfl (BlkAt.new w2 _ _) (Try.viewI .zero) rfl (by simp [Value.oneCell']) ?_; intro w3 hB3 hK3 hs3))
  have hAl : Below w2.heap.size w2 (w2.alloc (.cells (vwA .zero) 27)) := (Below.refl _ _).alloc (Nat.le_refl _) _
  have hb3 : Below w2.heap.size w2 w3 := Kp.below hAl hK3 (Nat.le_refl _) hAl.size
  have h3 := h2.below hb3 (by omega)
  have hZ3 := hZ2.below hb3 hZ2.lt
  have k3 := k2x.trans (Kp.ofBelow hb3)
  have hw3 := hb3.size
  have hg : w.heap.size < w2.heap.size := hz2
  generalize w2.heap.size = g at *
  clear hAl hK3 hs3 hb3 h2 hZ2 k2x
  refine (hN.out _ _ 8 _ (by decide) (by decide) (by omega) h3).mono ?_
  rintro x w4 ⟨rfl, h4, k4⟩
  have hB4 := k4.blk hB3 (by omega)
  have hZ4 := k4.blk hZ3 (by omega)
  have k4x := k3.trans k4
  have c1 := hB4.cell (i := 1) rfl
  have f1 := hB4.fz 1
  clear h3 hB3 hZ3 k3 k4
  go_wp2_with fail
  have hB5 := hB4.set 1 (.int .u64 (gN s (p + 8) 8 : Nat))
  have q5 := (Kp.refl g w4).setCell ⟨g, 1, none⟩ rfl (.int .u64 (gN s (p + 8) 8 : Nat))
  generalize w4.setCell _ _ = w5 at *
  have h5 := h4.kp q5 (by omega)
  have hZ5 := q5.blk hZ4 (by omega)
  have k5 : Kp b w w5 := Kp.trans2 k4x q5 (by omega)
  clear h4 hB4 hZ4 q5 k4x c1 f1
  refine (hN.out _ _ 1 _ (by decide) (by decide) (by omega) h5).mono ?_
  rintro x w6 ⟨rfl, h6, k6⟩
  have hB6 := k6.blk hB5 (by omega)
  have hZ6 := k6.blk hZ5 (by omega)
  have k6x := k5.trans k6
  have c2 := hB6.cell (i := 2) rfl
  have f2 := hB6.fz 2
  clear h5 hB5 hZ5 k5 k6
  generalize gN s (p + 16) 1 = x3 at *
  have hx3 : IntKind.i64.wrap (x3 : Int) = x3 := by rw [IntKind.wrap_i64]; omega
  go_wp2_with fail
  have hB7 := hB6.set 2 (.int .i64 x3)
  have q7 := (Kp.refl g w6).setCell ⟨g, 2, none⟩ rfl (.int .i64 x3)
  generalize w6.setCell _ _ = w7 at *
  have h7 := h6.kp q7 (by omega)
  have hZ7 := q7.blk hZ6 (by omega)
  have k7 : Kp b w w7 := Kp.trans2 k6x q7 (by omega)
  clear h6 hB6 hZ6 q7 k6x c2 f2
  refine (hB.out _ _ _ _ h7).mono ?_
  rintro x w8 ⟨rfl, h8, k8, _⟩
  have hB8 := k8.blk hB7 (by omega)
  have hZ8 := k8.blk hZ7 (by omega)
  have k8x := k7.trans k8
  clear h7 hB7 hZ7 k7 k8
  go_wp2_with fail
  refine (hN.out _ _ 8 _ (by decide) (by decide) (by omega) h8).mono ?_
  rintro x w9 ⟨rfl, h9, k9⟩
  have hB9 := k9.blk hB8 (by omega)
  have hZ9 := k9.blk hZ8 (by omega)
  have k9x := k8x.trans k9
  have c3 := hB9.cell (i := 3) rfl
  have f3 := hB9.fz 3
  rw [hE.out] at h9
  clear h8 hB8 hZ8 k8x k9
  have hB10 : BlkAt (w9.setCell ⟨g, 3, none⟩ (.int .u64 (gN s (p + 17) 8 : Nat))) g 27 #[.int .u64 T.num, .int .u64 T.ce, .int .i64 T.cr, .int .u64 T.mem] := by rw [hT.out]; exact hB9.set 3 _
  have q10 := (Kp.refl g w9).setCell ⟨g, 3, none⟩ rfl (.int .u64 (gN s (p + 17) 8 : Nat))
  have hZ10 := q10.blk hZ9 (by omega)
  have h10 := h9.kp q10 (by omega)
  have k10 : Kp b w _ := Kp.trans2 k9x q10 (by omega)
  have H := Lib.hid (show Tk _ b s (p + 25) eT ∧ Kp b w _ from ⟨h10, k10⟩)
  clear hB9 hZ9 h9 h10 q10 k10 k9x hT hE hN hB
  go_wp2_with (first
    | (refine wpList_blk_load rfl (.tmp 3) rfl Try.underlying27 rfl rfl hB10 (Try.viewI .zero) ?_)
    | (refine wpList_blk_store (cs := #[.int .u64 T.num, .int .u64 T.ce, .int .i64 T.cr, .int .u64 T.mem]) rfl (.tmp 2) (.tmp 25) rfl rfl rfl hZ10 (Try.viewI .zero) rfl (by simp [Value.oneCell']) ?_; intro w11 hZ11 hK11 hsz11))
  exact bodyPost_ret (results_cell_row rfl _ _ w.heap.size 27 _ (0, 0) _ rfl hZ11 Try.underlying27 rfl (Try.viewI .zero)) rfl ⟨rfl, H.out.1.kp hK11 (by omega), Kp.trans2 H.out.2 hK11 (by omega)⟩
end
end Go.Proofs.Ytdfnpaaejjediaa
