/- log: the reference's taker: record -/
import Derived.Test.YtdfnpaaejjediaaLogAf
import Derived.Test.YtdfnpaaejjediaaLogT
namespace Go.Proofs.Ytdfnpaaejjediaa
open Go.RowKit Go.Sort

/-- The error behind k views from q on. -/
def tl (s : ByteArray) (q : Nat) : Nat → Int → Int
  | 0, e => e
  | k + 1, e => tvE s (q + 25 * k) (tl s q k e)
theorem tvE_ne {s : ByteArray} {q : Nat} {e : Int} (h : e ≠ 0) : tvE s q e = e := if_neg h
theorem tvE_zero {s : ByteArray} {q : Nat} : tvE s q 0 = vwE (bI s) q := if_pos rfl
theorem tl_ne {s : ByteArray} {q : Nat} {e : Int} (h : e ≠ 0) : ∀ k, tl s q k e = e := by
  intro k
  induction k with
  | zero => rfl
  | succ k ih => rw [tl, ih, tvE_ne h]
theorem tl_front (s : ByteArray) (q : Nat) (e : Int) : ∀ k, tl s q (k + 1) e = tl s (q + 25) k (tvE s q e) := by
  intro k
  induction k with
  | zero => rfl
  | succ k ih => rw [tl, ih, tl, show q + 25 * (k + 1) = q + 25 + 25 * k from by omega]
theorem tl_vws (s : ByteArray) : ∀ n q, tl s q n 0 = vwsE (bI s) q n := by
  intro n
  induction n with
  | zero => intro q; rfl
  | succ n ih =>
    intro q
    rw [tl_front, tvE_zero, vwsE]
    by_cases h : vwE (bI s) q = 0
    · rw [h, if_pos rfl, ih]
    · rw [if_neg h, tl_ne h]
theorem tl_stop (s : ByteArray) (q : Nat) (e : Int) (k : Nat) (h : tl s q k e ≠ 0) : ∀ n, k ≤ n → tl s q n e = tl s q k e := by
  intro n hn
  obtain ⟨d, rfl⟩ : ∃ d, n = k + d := ⟨n - k, by omega⟩
  clear hn
  induction d with
  | zero => rfl
  | succ d ih => rw [show k + (d + 1) = k + d + 1 from rfl, tl, ih, tvE_ne h]
def trE (s : ByteArray) (p : Nat) (e : Int) : Int := if e = 0 then rcE (bI s) p else e
/-- The error ahead of the loop. -/
def t3E (s : ByteArray) (p : Nat) (e : Int) : Int := bE (nE s (p + 25) 1 (tvE s p e)) 3 (decide ((32 : Int) < (gN s (p + 25) 1 : Nat)))
theorem t3E_zero {s : ByteArray} {p : Nat} {e : Int} (h : t3E s p e = 0) : e = 0 ∧ vwE (bI s) p = 0 ∧ p + 26 ≤ s.size ∧ gN s (p + 25) 1 = rcN (bI s) p ∧ gN s (p + 25) 1 ≤ 32 := by
  unfold t3E at h
  by_cases he : e = 0
  · subst he
    rw [tvE_zero] at h
    by_cases hv : vwE (bI s) p = 0
    · rw [hv] at h
      by_cases hp : p + 26 ≤ s.size
      · rw [nE_ok (by omega)] at h
        refine ⟨rfl, hv, hp, gN_ok (by omega), ?_⟩
        by_cases hl : gN s (p + 25) 1 ≤ 32
        · exact hl
        · rw [bE, if_pos ⟨by rw [decide_eq_true_eq]; omega, rfl⟩] at h; cases h
      · rw [nE_short (by omega), bE_ne (by decide)] at h; cases h
    · rw [nE_ne hv, bE_ne hv] at h; exact absurd h hv
  · rw [tvE_ne he, nE_ne he, bE_ne he] at h; exact absurd h he
theorem t3E_ne {s : ByteArray} {p : Nat} {e : Int} (h : t3E s p e ≠ 0) : t3E s p e = trE s p e := by
  unfold t3E trE at *
  by_cases he : e = 0
  · subst he
    rw [tvE_zero] at h ⊢
    rw [if_pos rfl]
    unfold rcE
    by_cases hv : vwE (bI s) p = 0
    · rw [hv] at h ⊢
      rw [if_pos rfl, bI_len]
      by_cases hp : p + 26 ≤ s.size
      · rw [nE_ok (by omega)] at h ⊢
        rw [if_neg (by omega)]
        have hr : gN s (p + 25) 1 = rcN (bI s) p := gN_ok (by omega)
        by_cases hl : gN s (p + 25) 1 ≤ 32
        · exfalso; apply h; rw [bE, if_neg (fun g => by rw [decide_eq_true_eq] at g; omega)]
        · rw [bE, if_pos ⟨by rw [decide_eq_true_eq]; omega, rfl⟩, if_pos (by omega)]
      · rw [nE_short (by omega), bE_ne (by decide), if_pos (by omega)]
    · rw [nE_ne hv, bE_ne hv, if_neg hv]
  · rw [tvE_ne he, nE_ne he, bE_ne he, if_neg he]
theorem trE_eq (s : ByteArray) (p : Nat) (e : Int) : tl s (p + 26) (gN s (p + 25) 1) (t3E s p e) = trE s p e := by
  by_cases h : t3E s p e = 0
  · obtain ⟨h1, h2, h3, h4, h5⟩ := t3E_zero h
    subst h1
    rw [h, tl_vws, trE, if_pos rfl, rcE, if_pos h2, if_neg (by rw [bI_len]; omega), if_neg (by omega), h4]
  · rw [tl_ne h, t3E_ne h]
def tvs (s : ByteArray) (q k : Nat) : List Vw := (List.range k).map fun i => tvw s (q + 25 * i)
theorem tvs_succ (s : ByteArray) (q k : Nat) : tvs s q (k + 1) = tvs s q k ++ [tvw s (q + 25 * k)] := by simp [tvs, List.range_succ]
theorem tr_rc {s : ByteArray} {p : Nat} {e : Int} {k : Nat} (h : tl s (p + 26) k (t3E s p e) = 0) (hk : k = gN s (p + 25) 1 ∨ tl s (p + 26) k (t3E s p e) ≠ 0) : (⟨tvw s p, tvs s (p + 26) k⟩ : Rc) = rcAt (bI s) p ∧ p + 26 + 25 * k = rcEnd (bI s) p := by
  rcases hk with hk | hk
  · have h3 : t3E s p e = 0 := by
      by_cases g : t3E s p e = 0
      · exact g
      · rw [tl_ne g] at h; exact h
    obtain ⟨h1, h2, h4, h5, h6⟩ := t3E_zero h3
    rw [h3, tl_vws] at h
    rw [rcAt, rcEnd, tvw_eq h2, tvs, ← h5, hk]
    refine ⟨?_, rfl⟩
    congr 1
    refine List.map_congr_left fun i hi => ?_
    exact tvw_eq (vwsE_zero.1 h i (by rw [hk]; exact List.mem_range.1 hi))
  · exact absurd h hk
theorem Try.rrB1 (v : Vw) : Try.prog.built 41 [(0, .agg #[.int .u64 v.num, .int .u64 v.ce, .int .i64 v.cr, .int .u64 v.mem])] = some #[.int .u64 v.num, .int .u64 v.ce, .int .i64 v.cr, .int .u64 v.mem, .slice none 0 0] := by kernel_rfl
def TrPost (b : Nat) (s : ByteArray) (p : Nat) (e : Int) (w : World) (x : Ending) (w' : World) : Prop :=
  (∃ (k : Nat) (a : Option Addr) (c : Nat), x = .returned (.agg #[.int .u64 (tvw s p).num, .int .u64 (tvw s p).ce, .int .i64 (tvw s p).cr, .int .u64 (tvw s p).mem, .slice a k c]) ∧ w'.ownsRow w.heap.size 27 4 (.slice a k c) k ((tvs s (p + 26) k).flatMap vwF) ∧ k ≤ 255 ∧ Hid (trE s p e = 0 → (⟨tvw s p, tvs s (p + 26) k⟩ : Rc) = rcAt (bI s) p ∧ p + 26 + 25 * k = rcEnd (bI s) p) ∧ Tk w' b s (p + 26 + 25 * k) (trE s p e)) ∧ Kp b w w'
theorem vwF_one (y : Vw) : ∀ u ∈ vwF y, u.oneCell' = true := by intro u hu; simp [vwF] at hu; rcases hu with rfl | rfl | rfl | rfl <;> rfl
section
variable {w w' : World} {b : Nat} {s : ByteArray} {p : Nat} {e : Int}
set_option maxHeartbeats 6400000 in
set_option maxRecDepth 100000 in
theorem trec_any (h : Tk w b s p e) (hz : s.size ≤ 5000) (hp : p ≤ 20000) :
    Calls Try.prog 41 #[.pointer (some ⟨b, 0, none⟩)] w (TrPost b s p e w) := by
  have hb := h.lt
  have hVw := Lib.hid (fun (W : World) (q : Nat) (e : Int) (hq : q ≤ 50000) (h : Tk W b s q e) => tview_any h hz hq)
  have hN1 := Lib.hid (fun (W : World) (q : Nat) (e : Int) (hq : q ≤ 100000) (h : Tk W b s q e) => tnum_any 1 (by decide) (by decide) h hz hq)
  have hB := Lib.hid (fun (W : World) (q : Nat) (e : Int) (t : Bool) (h : Tk W b s q e) => tbad_any (k := 3) t h)
  have h3E := Lib.hid (show t3E s p e = bE (nE s (p + 25) 1 (tvE s p e)) 3 (decide ((32 : Int) < (gN s (p + 25) 1 : Nat))) from rfl)
  have hEQ := Lib.hid (trE_eq s p e)
  have hRC := Lib.hid (fun k => tr_rc (s := s) (p := p) (e := e) (k := k))
  have hn256 : gN s (p + 25) 1 < 256 := gN_lt s (p + 25) 1
  have hbx : Below w.heap.size w (w.alloc (.cells #[.int .u64 0, .int .u64 0, .int .i64 0, .int .u64 0, .slice none 0 0] 41)) := (Below.refl _ _).alloc (Nat.le_refl _) _
  have hZ := BlkAt.new w 41 #[.int .u64 0, .int .u64 0, .int .i64 0, .int .u64 0, .slice none 0 0]
  have h1 := h.below hbx hb
  have kx := Kp.ofBelow (b := b) hbx
  clear h
  go_enter Try.func41, Try.ntmps41
  go_wp2_with (first
    | (refine wpList_blk_alloc rfl rfl Try.rrZ w.heap.size rfl ?_))
  generalize w.alloc _ = w1 at *
  refine (hVw.out _ _ _ (by omega) h1).mono ?_
  rintro x w2 ⟨rfl, h2, k2⟩
  have hZ2 := k2.blk hZ (by omega)
  have k2x := kx.trans k2
  have hw2 := k2x.size
  have hz2 := hZ2.lt
  generalize hu : tvw s p = u at *
  replace hu := Lib.hid hu
  clear h1 hZ kx k2 hbx
  go_wp2_with (first
    | (refine wpList_blk_build rfl #[(0, .tmp 7)] rfl (by rw [List.map_toArray]; exact Try.rrB1 u) ?_)
    | (refine wpList_blk_alloc rfl rfl Try.rrZ w2.heap.size rfl ?_)
    | (refine wpList_blk_store (cs := #[.int .u64 u.num, .int .u64 u.ce, .int .i64 u.cr, .int .u64 u.mem, .slice none 0 0]) rfl (.tmp 3) (.tmp 8) rfl rfl rfl (BlkAt.new w2 _ _) (Try.rrI u _) rfl (by simp [Value.oneCell']) ?_; intro w3 hB3 hK3 hs3))
  have hAl : Below w2.heap.size w2 (w2.alloc (.cells #[.int .u64 0, .int .u64 0, .int .i64 0, .int .u64 0, .slice none 0 0] 41)) := (Below.refl _ _).alloc (Nat.le_refl _) _
  have hb3 : Below w2.heap.size w2 w3 := Kp.below hAl hK3 (Nat.le_refl _) hAl.size
  have h3 := h2.below hb3 (by omega)
  have hZ3 := hZ2.below hb3 hZ2.lt
  have k3 := k2x.trans (Kp.ofBelow hb3)
  have hw3 := hb3.size
  have hg : w.heap.size < w2.heap.size := hz2
  generalize w2.heap.size = g at *
  clear hAl hK3 hs3 hb3 h2 hZ2 k2x
  refine (hN1.out _ _ _ (by omega) h3).mono ?_
  rintro x w4 ⟨rfl, h4, k4⟩
  have hB4 := k4.blk hB3 (by omega)
  have hZ4 := k4.blk hZ3 (by omega)
  have k4x := k3.trans k4
  clear h3 hB3 hZ3 k3 k4
  generalize gN s (p + 25) 1 = n at *
  have hn64 : IntKind.i64.wrap (n : Int) = n := by rw [IntKind.wrap_i64]; omega
  go_wp2_with fail
  refine (hB.out _ _ _ _ h4).mono ?_
  rintro x w5 ⟨rfl, h5, k5, _⟩
  rw [← h3E.out] at h5
  have hB5 := k5.blk hB4 (by omega)
  have hZ5 := k5.blk hZ4 (by omega)
  have k5x := k4x.trans k5
  clear h4 hB4 hZ4 k4x k5 h3E hB hN1 hn64
  go_wp2
  go_loopw [5] (fun i wr => ∃ (k : Nat) (a : Option Addr) (c : Nat) (e' : Int), k ≤ n ∧ i = .int .i64 k ∧ Hid (e' = tl s (p + 26) k (t3E s p e)) ∧ BlkAt wr g 41 #[.int .u64 u.num, .int .u64 u.ce, .int .i64 u.cr, .int .u64 u.mem, .slice a k c] ∧ wr.ownsRow w.heap.size 27 4 (.slice a k c) k ((tvs s (p + 26) k).flatMap vwF) ∧ Tk wr b s (p + 26 + 25 * k) e' ∧ BlkAt wr w.heap.size 41 #[.int .u64 0, .int .u64 0, .int .i64 0, .int .u64 0, .slice none 0 0] ∧ Kp b w wr) (fun i _ => n - (intOf i).toNat)
  case atStart => exact ⟨0, none, 0, _, Nat.zero_le _, rfl, rfl, hB5, World.ownsRow_nil _ _ _ _, h5, hZ5, k5x⟩
  case round =>
    clear hB5 hZ5 k5x h5
    obtain ⟨k, a, c, e', hk, rfl, he', hB5, hown, h5, hZ5, k5⟩ := hrel
    have cE := h5.blk.cell (i := 2) rfl
    by_cases hlt : k < n ∧ e' = 0
    · obtain ⟨hlt, rfl⟩ := hlt
      have hkI : (k : Int) < n := by omega
      have c4 : wr.cell? ⟨g, 4, none⟩ = some (.slice a k c) := hB5.cell rfl
      go_wp2
      refine wp_region_held_drew (S := fun W => True) (by kernel_rfl) trivial ?_
      intro hHeld
      have HCall := Lib.hid (hVw.out _ _ _ (by omega) (show Tk wr.drew b s (p + 26 + 25 * k) 0 from h5.drewN 1))
      have HW := Lib.hid (fun w6 (k6 : Kp b wr.drew w6) => show w6.cell? ⟨g, 4, none⟩ = some (.slice a k c) from (k6.blk (hB5.drewN 1) (by omega)).cell rfl)
      have hE2 : Hid (tvE s (p + 26 + 25 * k) 0 = tl s (p + 26) (k + 1) (t3E s p e)) := by rw [tl, ← he'.out]; rfl
      have hV2 := Lib.hid (show (tvs s (p + 26) (k + 1)).flatMap vwF = (tvs s (p + 26) k).flatMap vwF ++ vwF (tvw s (p + 26 + 25 * k)) from by rw [tvs_succ, List.flatMap_append]; simp)
      generalize tvw s (p + 26 + 25 * k) = y at *
      clear cE
      (refine wpAnyH_take (i := 0) (v := ?_) rfl (by kernel_rfl) (by kernel_rfl) (by kernel_rfl) (fun _ _ _ h => h) (Or.inl ⟨by rfl, ?_⟩) (by assumption) ?_; rotate_left; (focus (intro w hSw; (try dsimp only at hSw); go_simp; (try with_reducible rfl))); (try simp only [Act.put, List.setIfInBounds_toArray, List.set_cons_zero, List.set_cons_succ]))
      (refine wpAnyH_take (i := 2) (v := ?_) rfl (by kernel_rfl) (by kernel_rfl) (by kernel_rfl) (fun _ _ _ h => h) (Or.inl ⟨by rfl, ?_⟩) (by assumption) ?_; rotate_left; (focus (intro w hSw; (try dsimp only at hSw); go_simp; (try with_reducible rfl))); (try simp only [Act.put, List.setIfInBounds_toArray, List.set_cons_zero, List.set_cons_succ]))
      refine wpAnyH_ready (rs := [1, 3]) (by kernel_rfl) (by simp) ?_
      refine AllReadyH.cons rfl (fun K hK => ?_) (AllReadyH.cons rfl (fun K hK => ?_) AllReadyH.nil)
      · go_simp
        refine hK.out _ _ trivial (fun hHeld5 => ?_)
        clear hK K
        (refine wpAnyH_ready (rs := [3]) (by kernel_rfl) (by simp) ?_; refine AllReadyH.cons rfl (fun K hK => ?_) AllReadyH.nil; go_simp)
        refine HCall.out.mono ?_
        rintro x w6 ⟨rfl, h6, k6⟩
        have cb6 := HW.out _ k6
        refine hK.out _ _ trivial (fun hHeld6 => ?_)
        clear hK K
        (refine wpAnyH_ready (rs := [4]) (by kernel_rfl) (by simp) ?_; refine AllReadyH.cons rfl (fun K hK => ?_) AllReadyH.nil; go_simp)
        have k6x := (k5.drewN 1).trans k6
        have hB6 := k6.blk (hB5.drewN 1) (by omega)
        have hZ6 := k6.blk (hZ5.drewN 1) (by omega)
        have ho6 := own_keep (own_belowB hown (Below.refl _ _).drew) fun g hg hl => k6.block g hl (by have := (hown.lt g hg).1; omega)
        have hw6 := k6x.size
        have hAl : Below w6.heap.size w6 (w6.alloc (.cells #[.int .u64 y.num, .int .u64 y.ce, .int .i64 y.cr, .int .u64 y.mem] 27)) := (Below.refl _ _).alloc (Nat.le_refl _) _
        have hB7 := hB6.below hAl hB6.lt
        have hZ7 := hZ6.below hAl hZ6.lt
        have h7 := h6.below hAl h6.lt
        have ho7 := Lib.hid (own_belowB ho6 hAl)
        have k7 := k6x.trans (Kp.ofBelow hAl)
        have hlv := Lib.hid (Rd.blk1 (w := w6) (e := 27) (cs := vwF y) rfl rfl)
        have hsz7 : w.heap.size ≤ (w6.alloc (.cells #[.int .u64 y.num, .int .u64 y.ce, .int .i64 y.cr, .int .u64 y.mem] 27)).heap.size := k7.size
        refine hK.out _ _ trivial (fun hHeld7 => ?_)
        clear hK K c4 hB5 hZ5 h5 k5 hown k6 k6x hB6 hZ6 h6 ho6 cb6
        (refine wpAnyH_ready (rs := [5]) (by kernel_rfl) (by simp) ?_; refine AllReadyH.cons rfl (fun K hK => ?_) AllReadyH.nil)
        refine step_append_rd (base := w.heap.size) (v := .slice a k c) (n := k) (xs := (tvs s (p + 26) k).flatMap vwF) (b := w6.heap.size) (off := 0) (m := 1) (c := 1) (news := vwF y) Try.viewE rfl (.tmp 29) (.tmp 32) rfl (by rfl) ho7.out (by rfl) hlv.out (by decide) (vwF_one y) (by unfold maxLen; omega) (by omega) hsz7 ?_
        intro v' w8 hown8 hg8
        obtain ⟨a', c', rfl, _⟩ := Rd.own hown8
        have hB8 := blk_grown hB7 hg8 (own_ne ho7.out hB7 (by decide))
        have hZ8 := blk_grown hZ7 hg8 (own_ne ho7.out hZ7 (by decide))
        have hbg : ∀ g, (Value.slice a k c).ownBlock = some g → w.heap.size ≤ g := fun g hg => (ho7.out.lt g hg).1
        have k8 : Kp b w w8 := ⟨hg8.os.trans k7.os, hg8.tape.trans k7.tape, hg8.output.trans k7.output, Nat.le_trans k7.size hg8.size, fun i hi hne => (hg8.block i (Nat.lt_of_lt_of_le hi k7.size) (fun e => by have := hbg i e.symm; omega)).trans (k7.block i hi hne)⟩
        have h8 : Tk w8 b s (p + 26 + 25 * k + 25) (tvE s (p + 26 + 25 * k) 0) := ⟨blk_grown h7.blk hg8 (own_ne ho7.out h7.blk (by decide))⟩
        have HO := Lib.hid hown8
        (try simp only [Act.put, List.setIfInBounds_toArray, List.set_cons_zero, List.set_cons_succ])
        have y4 : w8.cell? ⟨g, 4, none⟩ = some (.slice a k c) := hB8.cell rfl
        have f4 := hB8.fz 4
        refine hK.out _ _ trivial (fun hHeld8 => ?_)
        clear hK K hB7 hZ7 h7 k7 ho7 hlv hsz7 hg8 hbg hown8 hAl
        (refine wpAnyH_take (i := 6) (v := ?_) rfl (by kernel_rfl) (by kernel_rfl) (by kernel_rfl) (fun _ _ _ h => h) (Or.inl ⟨by rfl, ?_⟩) (by assumption) ?_; rotate_left; (focus (intro w hSw; (try dsimp only at hSw); go_simp; (try with_reducible rfl))); (try simp only [Act.put, List.setIfInBounds_toArray, List.set_cons_zero, List.set_cons_succ]))
        (refine wpAnyH_ready (rs := [7]) (by kernel_rfl) (by simp) ?_; refine AllReadyH.cons rfl (fun K hK => ?_) AllReadyH.nil; go_simp)
        have hB9 : BlkAt (w8.setCell ⟨g, 4, none⟩ (.slice a' (k + 1) c')) g 41 #[.int .u64 u.num, .int .u64 u.ce, .int .i64 u.cr, .int .u64 u.mem, .slice a' (k + 1) c'] := hB8.set 4 _
        have q9 := (Kp.refl g w8).setCell ⟨g, 4, none⟩ rfl (.slice a' (k + 1) c')
        have ho9 := own_keep HO.out fun g' hg hl => q9.block g' hl (fun e => own_ne HO.out hB8 (by decide) (by rw [hg, e]))
        generalize w8.setCell _ _ = w9 at *
        have hZ9 := q9.blk hZ8 (by omega)
        have h9 := h8.kp q9 (by omega)
        have k9 : Kp b w w9 := Kp.trans2 k8 q9 (by omega)
        rw [← hV2.out] at ho9
        refine hK.out _ _ trivial (fun hHeld9 => ?_)
        clear hK K hB8 hZ8 h8 k8 q9 y4 f4 HO
        refine wpAnyH_done (by kernel_rfl) ?_ _
        go_wp2
        go_roundw
        case rel => exact ⟨k + 1, a', c', _, by omega, by go_num, hE2, hB9, ho9, by rw [show p + 26 + 25 * (k + 1) = p + 26 + 25 * k + 25 from by omega]; exact h9, hZ9, k9⟩
        case measure => simp [intOf]; omega
      · go_simp
        refine HCall.out.mono ?_
        rintro x w6 ⟨rfl, h6, k6⟩
        have cb6 := HW.out _ k6
        refine hK.out _ _ trivial (fun hHeld6 => ?_)
        clear hK K
        refine wpAnyH_ready (rs := [1, 4]) (by kernel_rfl) (by simp) ?_
        refine AllReadyH.cons rfl (fun K hK => ?_) (AllReadyH.cons rfl (fun K hK => ?_) AllReadyH.nil)
        · go_simp
          refine hK.out _ _ trivial (fun hHeld7 => ?_)
          clear hK K
          (refine wpAnyH_ready (rs := [4]) (by kernel_rfl) (by simp) ?_; refine AllReadyH.cons rfl (fun K hK => ?_) AllReadyH.nil; go_simp)
          have k6x := (k5.drewN 1).trans k6
          have hB6 := k6.blk (hB5.drewN 1) (by omega)
          have hZ6 := k6.blk (hZ5.drewN 1) (by omega)
          have ho6 := own_keep (own_belowB hown (Below.refl _ _).drew) fun g hg hl => k6.block g hl (by have := (hown.lt g hg).1; omega)
          have hw6 := k6x.size
          have hAl : Below w6.heap.size w6 (w6.alloc (.cells #[.int .u64 y.num, .int .u64 y.ce, .int .i64 y.cr, .int .u64 y.mem] 27)) := (Below.refl _ _).alloc (Nat.le_refl _) _
          have hB7 := hB6.below hAl hB6.lt
          have hZ7 := hZ6.below hAl hZ6.lt
          have h7 := h6.below hAl h6.lt
          have ho7 := Lib.hid (own_belowB ho6 hAl)
          have k7 := k6x.trans (Kp.ofBelow hAl)
          have hlv := Lib.hid (Rd.blk1 (w := w6) (e := 27) (cs := vwF y) rfl rfl)
          have hsz7 : w.heap.size ≤ (w6.alloc (.cells #[.int .u64 y.num, .int .u64 y.ce, .int .i64 y.cr, .int .u64 y.mem] 27)).heap.size := k7.size
          refine hK.out _ _ trivial (fun hHeld7 => ?_)
          clear hK K c4 hB5 hZ5 h5 k5 hown k6 k6x hB6 hZ6 h6 ho6 cb6
          (refine wpAnyH_ready (rs := [5]) (by kernel_rfl) (by simp) ?_; refine AllReadyH.cons rfl (fun K hK => ?_) AllReadyH.nil)
          refine step_append_rd (base := w.heap.size) (v := .slice a k c) (n := k) (xs := (tvs s (p + 26) k).flatMap vwF) (b := w6.heap.size) (off := 0) (m := 1) (c := 1) (news := vwF y) Try.viewE rfl (.tmp 29) (.tmp 32) rfl (by rfl) ho7.out (by rfl) hlv.out (by decide) (vwF_one y) (by unfold maxLen; omega) (by omega) hsz7 ?_
          intro v' w8 hown8 hg8
          obtain ⟨a', c', rfl, _⟩ := Rd.own hown8
          have hB8 := blk_grown hB7 hg8 (own_ne ho7.out hB7 (by decide))
          have hZ8 := blk_grown hZ7 hg8 (own_ne ho7.out hZ7 (by decide))
          have hbg : ∀ g, (Value.slice a k c).ownBlock = some g → w.heap.size ≤ g := fun g hg => (ho7.out.lt g hg).1
          have k8 : Kp b w w8 := ⟨hg8.os.trans k7.os, hg8.tape.trans k7.tape, hg8.output.trans k7.output, Nat.le_trans k7.size hg8.size, fun i hi hne => (hg8.block i (Nat.lt_of_lt_of_le hi k7.size) (fun e => by have := hbg i e.symm; omega)).trans (k7.block i hi hne)⟩
          have h8 : Tk w8 b s (p + 26 + 25 * k + 25) (tvE s (p + 26 + 25 * k) 0) := ⟨blk_grown h7.blk hg8 (own_ne ho7.out h7.blk (by decide))⟩
          have HO := Lib.hid hown8
          (try simp only [Act.put, List.setIfInBounds_toArray, List.set_cons_zero, List.set_cons_succ])
          have y4 : w8.cell? ⟨g, 4, none⟩ = some (.slice a k c) := hB8.cell rfl
          have f4 := hB8.fz 4
          refine hK.out _ _ trivial (fun hHeld8 => ?_)
          clear hK K hB7 hZ7 h7 k7 ho7 hlv hsz7 hg8 hbg hown8 hAl
          (refine wpAnyH_take (i := 6) (v := ?_) rfl (by kernel_rfl) (by kernel_rfl) (by kernel_rfl) (fun _ _ _ h => h) (Or.inl ⟨by rfl, ?_⟩) (by assumption) ?_; rotate_left; (focus (intro w hSw; (try dsimp only at hSw); go_simp; (try with_reducible rfl))); (try simp only [Act.put, List.setIfInBounds_toArray, List.set_cons_zero, List.set_cons_succ]))
          (refine wpAnyH_ready (rs := [7]) (by kernel_rfl) (by simp) ?_; refine AllReadyH.cons rfl (fun K hK => ?_) AllReadyH.nil; go_simp)
          have hB9 : BlkAt (w8.setCell ⟨g, 4, none⟩ (.slice a' (k + 1) c')) g 41 #[.int .u64 u.num, .int .u64 u.ce, .int .i64 u.cr, .int .u64 u.mem, .slice a' (k + 1) c'] := hB8.set 4 _
          have q9 := (Kp.refl g w8).setCell ⟨g, 4, none⟩ rfl (.slice a' (k + 1) c')
          have ho9 := own_keep HO.out fun g' hg hl => q9.block g' hl (fun e => own_ne HO.out hB8 (by decide) (by rw [hg, e]))
          generalize w8.setCell _ _ = w9 at *
          have hZ9 := q9.blk hZ8 (by omega)
          have h9 := h8.kp q9 (by omega)
          have k9 : Kp b w w9 := Kp.trans2 k8 q9 (by omega)
          rw [← hV2.out] at ho9
          refine hK.out _ _ trivial (fun hHeld9 => ?_)
          clear hK K hB8 hZ8 h8 k8 q9 y4 f4 HO
          refine wpAnyH_done (by kernel_rfl) ?_ _
          go_wp2
          go_roundw
          case rel => exact ⟨k + 1, a', c', _, by omega, by go_num, hE2, hB9, ho9, by rw [show p + 26 + 25 * (k + 1) = p + 26 + 25 * k + 25 from by omega]; exact h9, hZ9, k9⟩
          case measure => simp [intOf]; omega
        · go_simp
          have cb7 : (w6.alloc (.cells #[.int .u64 y.num, .int .u64 y.ce, .int .i64 y.cr, .int .u64 y.mem] 27)).cell? ⟨g, 4, none⟩ = some (.slice a k c) := ((k6.blk (hB5.drewN 1) (by omega)).alloc _).cell rfl
          refine hK.out _ _ trivial (fun hHeld7 => ?_)
          clear hK K
          (refine wpAnyH_ready (rs := [1]) (by kernel_rfl) (by simp) ?_; refine AllReadyH.cons rfl (fun K hK => ?_) AllReadyH.nil; go_simp)
          have k6x := (k5.drewN 1).trans k6
          have hB6 := k6.blk (hB5.drewN 1) (by omega)
          have hZ6 := k6.blk (hZ5.drewN 1) (by omega)
          have ho6 := own_keep (own_belowB hown (Below.refl _ _).drew) fun g hg hl => k6.block g hl (by have := (hown.lt g hg).1; omega)
          have hw6 := k6x.size
          have hAl : Below w6.heap.size w6 (w6.alloc (.cells #[.int .u64 y.num, .int .u64 y.ce, .int .i64 y.cr, .int .u64 y.mem] 27)) := (Below.refl _ _).alloc (Nat.le_refl _) _
          have hB7 := hB6.below hAl hB6.lt
          have hZ7 := hZ6.below hAl hZ6.lt
          have h7 := h6.below hAl h6.lt
          have ho7 := Lib.hid (own_belowB ho6 hAl)
          have k7 := k6x.trans (Kp.ofBelow hAl)
          have hlv := Lib.hid (Rd.blk1 (w := w6) (e := 27) (cs := vwF y) rfl rfl)
          have hsz7 : w.heap.size ≤ (w6.alloc (.cells #[.int .u64 y.num, .int .u64 y.ce, .int .i64 y.cr, .int .u64 y.mem] 27)).heap.size := k7.size
          refine hK.out _ _ trivial (fun hHeld7 => ?_)
          clear hK K c4 hB5 hZ5 h5 k5 hown k6 k6x hB6 hZ6 h6 ho6 cb6 cb7
          (refine wpAnyH_ready (rs := [5]) (by kernel_rfl) (by simp) ?_; refine AllReadyH.cons rfl (fun K hK => ?_) AllReadyH.nil)
          refine step_append_rd (base := w.heap.size) (v := .slice a k c) (n := k) (xs := (tvs s (p + 26) k).flatMap vwF) (b := w6.heap.size) (off := 0) (m := 1) (c := 1) (news := vwF y) Try.viewE rfl (.tmp 29) (.tmp 32) rfl (by rfl) ho7.out (by rfl) hlv.out (by decide) (vwF_one y) (by unfold maxLen; omega) (by omega) hsz7 ?_
          intro v' w8 hown8 hg8
          obtain ⟨a', c', rfl, _⟩ := Rd.own hown8
          have hB8 := blk_grown hB7 hg8 (own_ne ho7.out hB7 (by decide))
          have hZ8 := blk_grown hZ7 hg8 (own_ne ho7.out hZ7 (by decide))
          have hbg : ∀ g, (Value.slice a k c).ownBlock = some g → w.heap.size ≤ g := fun g hg => (ho7.out.lt g hg).1
          have k8 : Kp b w w8 := ⟨hg8.os.trans k7.os, hg8.tape.trans k7.tape, hg8.output.trans k7.output, Nat.le_trans k7.size hg8.size, fun i hi hne => (hg8.block i (Nat.lt_of_lt_of_le hi k7.size) (fun e => by have := hbg i e.symm; omega)).trans (k7.block i hi hne)⟩
          have h8 : Tk w8 b s (p + 26 + 25 * k + 25) (tvE s (p + 26 + 25 * k) 0) := ⟨blk_grown h7.blk hg8 (own_ne ho7.out h7.blk (by decide))⟩
          have HO := Lib.hid hown8
          (try simp only [Act.put, List.setIfInBounds_toArray, List.set_cons_zero, List.set_cons_succ])
          have y4 : w8.cell? ⟨g, 4, none⟩ = some (.slice a k c) := hB8.cell rfl
          have f4 := hB8.fz 4
          refine hK.out _ _ trivial (fun hHeld8 => ?_)
          clear hK K hB7 hZ7 h7 k7 ho7 hlv hsz7 hg8 hbg hown8 hAl
          (refine wpAnyH_take (i := 6) (v := ?_) rfl (by kernel_rfl) (by kernel_rfl) (by kernel_rfl) (fun _ _ _ h => h) (Or.inl ⟨by rfl, ?_⟩) (by assumption) ?_; rotate_left; (focus (intro w hSw; (try dsimp only at hSw); go_simp; (try with_reducible rfl))); (try simp only [Act.put, List.setIfInBounds_toArray, List.set_cons_zero, List.set_cons_succ]))
          (refine wpAnyH_ready (rs := [7]) (by kernel_rfl) (by simp) ?_; refine AllReadyH.cons rfl (fun K hK => ?_) AllReadyH.nil; go_simp)
          have hB9 : BlkAt (w8.setCell ⟨g, 4, none⟩ (.slice a' (k + 1) c')) g 41 #[.int .u64 u.num, .int .u64 u.ce, .int .i64 u.cr, .int .u64 u.mem, .slice a' (k + 1) c'] := hB8.set 4 _
          have q9 := (Kp.refl g w8).setCell ⟨g, 4, none⟩ rfl (.slice a' (k + 1) c')
          have ho9 := own_keep HO.out fun g' hg hl => q9.block g' hl (fun e => own_ne HO.out hB8 (by decide) (by rw [hg, e]))
          generalize w8.setCell _ _ = w9 at *
          have hZ9 := q9.blk hZ8 (by omega)
          have h9 := h8.kp q9 (by omega)
          have k9 : Kp b w w9 := Kp.trans2 k8 q9 (by omega)
          rw [← hV2.out] at ho9
          refine hK.out _ _ trivial (fun hHeld9 => ?_)
          clear hK K hB8 hZ8 h8 k8 q9 y4 f4 HO
          refine wpAnyH_done (by kernel_rfl) ?_ _
          go_wp2
          go_roundw
          case rel => exact ⟨k + 1, a', c', _, by omega, by go_num, hE2, hB9, ho9, by rw [show p + 26 + 25 * (k + 1) = p + 26 + 25 * k + 25 from by omega]; exact h9, hZ9, k9⟩
          case measure => simp [intOf]; omega
    · have hkx : k = n ∨ e' ≠ 0 := by omega
      have EE : Hid (e' = trE s p e ∧ (e' = 0 → (⟨u, tvs s (p + 26) k⟩ : Rc) = rcAt (bI s) p ∧ p + 26 + 25 * k = rcEnd (bI s) p)) := by
        refine ⟨?_, fun h0 => ?_⟩
        · rw [← hEQ.out]
          rcases hkx with hx | hx
          · rw [he'.out, hx]
          · rw [he'.out] at hx ⊢
            exact (tl_stop s (p + 26) _ k hx n hk).symm
        · refine hRC.out k (he'.out ▸ h0) ?_
          rcases hkx with hx | hx
          · exact .inl hx
          · exact absurd h0 hx
      have hkI : (n : Int) ≤ k ∨ (k : Int) < n ∧ ¬ e' = 0 := by omega
      clear he' hRC hEQ hkx hlt hVw
      have FIN : ∀ w9, BlkAt w9 w.heap.size 41 #[.int .u64 u.num, .int .u64 u.ce, .int .i64 u.cr, .int .u64 u.mem, .slice a k c] → Kp w.heap.size wr w9 → TrPost b s p e w (.returned (.agg #[.int .u64 u.num, .int .u64 u.ce, .int .i64 u.cr, .int .u64 u.mem, .slice a k c])) w9 := by
        intro w9 hZ9 hK9
        have hown9 := own_keep hown fun g hg hl => hK9.block g hl (fun e => own_ne hown hZ5 (by decide) (by rw [hg, e]))
        refine ⟨⟨k, a, c, by rw [hu.out], hown9, by omega, ?_, ?_⟩, Kp.trans2 k5 hK9 (by omega)⟩
        · rw [← EE.out.1, hu.out]; exact EE.out.2
        · rw [← EE.out.1]; exact h5.kp hK9 (by omega)
      rcases hkI with hkI | ⟨hkI, hne⟩
      all_goals
        go_wp2_with (first
          | (refine wpList_blk_load rfl (.tmp 3) rfl Try.underlying41 rfl rfl hB5 (Try.rrI u _) ?_)
          | (refine wpList_blk_store (cs := #[.int .u64 u.num, .int .u64 u.ce, .int .i64 u.cr, .int .u64 u.mem, .slice a k c]) rfl (.tmp 2) (.tmp 35) rfl rfl rfl hZ5 (Try.rrI u _) rfl (by simp [Value.oneCell']) ?_; intro w9 hZ9 hK9 hs9))
        exact bodyPost_ret (results_cell_row rfl _ _ w.heap.size 41 _ (0, 0) _ rfl hZ9 Try.underlying41 rfl (Try.rrI u _)) rfl (FIN _ hZ9 hK9)
end
end Go.Proofs.Ytdfnpaaejjediaa
