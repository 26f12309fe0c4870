/- log: the walks of the reader's record and end -/
import Derived.Test.YtdfnpaaejjediaaLogK
import Derived.Test.YtdfnpaaejjediaaStep
import Derived.Test.YtdfnpaaejjediaaOwn
namespace Go.Proofs.Ytdfnpaaejjediaa
open Go.RowKit

theorem Rd.blk1 {w : World} {e : TypeId} {cs : List Value} {sz b : Nat} (hb : b = w.heap.size) (hs : cs.length = sz) : Rd (w.alloc (.cells cs.toArray e)) sz (some ⟨b, 0, none⟩) 1 1 cs := by
  subst hb
  refine ⟨⟨by omega, Nat.le_refl _, by decide, fun h => by cases h⟩, .inr ⟨_, 0, rfl, by simp, fun j u' hu => ?_⟩⟩
  rw [World.cell?_alloc_at _ _ _ _ rfl]
  simpa using hu
theorem vwsE_at {L : List Int} : ∀ {n p k : Nat}, k < n → (∀ i, i < k → vwE L (p + 25 * i) = 0) → vwE L (p + 25 * k) ≠ 0 → vwsE L p n = vwE L (p + 25 * k) := by
  intro n
  induction n with
  | zero => intro p k h; omega
  | succ n ih =>
    intro p k hk h0 h1
    rw [vwsE]
    cases k with
    | zero => simp only [Nat.mul_zero, Nat.add_zero] at h1 ⊢; rw [if_neg h1]
    | succ k =>
      have hz : vwE L p = 0 := by simpa using h0 0 (by omega)
      have e : ∀ i, p + 25 + 25 * i = p + 25 * (i + 1) := fun i => by omega
      rw [if_pos hz, ih (k := k) (by omega) (fun i hi => by rw [e]; exact h0 (i + 1) (by omega)) (by rw [e]; exact h1), e]
def vwsAt (L : List Int) (p k : Nat) : List Vw := (List.range k).map fun i => vwAt L (p + 26 + 25 * i)
theorem vwsAt_succ (L : List Int) (p k : Nat) : vwsAt L p (k + 1) = vwsAt L p k ++ [vwAt L (p + 26 + 25 * k)] := by simp [vwsAt, List.range_succ]
def RcPost (b : Nat) (s : ByteArray) (p : Nat) (w : World) (e : Ending) (w' : World) : Prop := (rcE (bI s) p = 0 ∧ (∃ a c, e = .returned (.agg #[.int .u64 (vwAt (bI s) p).num, .int .u64 (vwAt (bI s) p).ce, .int .i64 (vwAt (bI s) p).cr, .int .u64 (vwAt (bI s) p).mem, .slice a (rcN (bI s) p) c]) ∧ w'.ownsRow w.heap.size 27 4 (.slice a (rcN (bI s) p) c) (rcN (bI s) p) ((vwsAt (bI s) p (rcN (bI s) p)).flatMap vwF)) ∧ Rdr w' b s (rcEnd (bI s) p) ∨ rcE (bI s) p ≠ 0 ∧ e = pan (rcE (bI s) p)) ∧ Kp b w w'
section
variable {w w' : World} {b : Nat} {s : ByteArray} {p : Nat}
def EndPost (s : ByteArray) (p : Nat) (w : World) (e : Ending) (w' : World) : Prop := (s.size ≤ p ∧ e = .returned (.tuple #[]) ∨ p < s.size ∧ e = pan 4) ∧ Below w.heap.size w w'
set_option maxHeartbeats 800000 in
set_option maxRecDepth 100000 in
theorem rend_any (h : Rdr w b s p) (hz : s.size ≤ 1000000) :
    Calls Try.prog 38 #[.agg #[.pointer (some ⟨b, 0, none⟩)]] w (EndPost s p w) := by
  have hb := h.lt
  have hbx : Below w.heap.size w (w.alloc (.cells #[.pointer (some ⟨b, 0, none⟩)] 82)) := (Below.refl _ _).alloc (Nat.le_refl _) _
  have h1 := h.below hbx hb
  have hle := h.le
  have hLf := Lib.hid (fun (W : World) (h : Rdr W b s p) => left_any b s p W h (by omega))
  clear h
  go_enter Try.func38, Try.ntmps38
  go_wp2_with fail
  refine (hLf.out _ h1).mono ?_
  rintro e w2 ⟨nq, rfl, rfl⟩
  have hb2 := belN hbx nq
  by_cases hp : p < s.size
  · go_wp2_with fail
    refine (bad_t (by first | (simp; done) | (simp; omega)) 4 _).mono ?_
    rintro e w' ⟨rfl, rfl⟩
    exact ⟨rfl, .inr ⟨hp, rfl⟩, hb2⟩
  · go_wp2_with fail
    refine (bad_f (by first | (simp; done) | (simp; omega)) 4 _).mono ?_
    rintro e w' ⟨rfl, rfl⟩
    go_wp2
    go_end0
    exact ⟨.inl ⟨by omega, rfl⟩, hb2⟩
end
theorem Try.recI (v : Vw) (x : Value) : (Try.prog.info? 30).map (·.size) = some (#[.int .u64 v.num, .int .u64 v.ce, .int .i64 v.cr, .int .u64 v.mem, x] : Array Value).size := by show _ = some 5; kernel_rfl
theorem Try.recZ : (Try.prog.info? 30).map (·.zero) = some (some (.agg #[.int .u64 Vw.zero.num, .int .u64 Vw.zero.ce, .int .i64 Vw.zero.cr, .int .u64 Vw.zero.mem, .slice none 0 0])) := by kernel_rfl
theorem Try.recB1 (v : Vw) : Try.prog.built 30 [(0, .agg #[.int .u64 v.num, .int .u64 v.ce, .int .i64 v.cr, .int .u64 v.mem])] = some #[.int .u64 v.num, .int .u64 v.ce, .int .i64 v.cr, .int .u64 v.mem, .slice none 0 0] := by kernel_rfl
set_option maxHeartbeats 6400000 in
set_option maxRecDepth 100000 in
theorem rrec_any {w : World} {b : Nat} {s : ByteArray} {p : Nat} (h : Rdr w b s p) (hz : s.size ≤ 5000) :
    Calls Try.prog 37 #[.agg #[.pointer (some ⟨b, 0, none⟩)]] w (RcPost b s p w) := by
  have hb := h.lt
  have hL : (bI s).length = s.size := bI_len s
  have hB := bI_mem s
  have hVw := Lib.hid (fun (W : World) (q : Nat) (h : Rdr W b s q) => rview_any h (by omega))
  have hN1 := Lib.hid (fun (W : World) (q : Nat) (h : Rdr W b s q) => rn_any 1 1 rfl h (by omega))
  have E0 := Lib.hid (fun h => show rcE (bI s) p = vwE (bI s) p from if_neg h)
  have E1 := Lib.hid (fun (h : vwE (bI s) p = 0) (h1 : s.size < p + 26) => show rcE (bI s) p = 2 from by unfold rcE; rw [if_pos h, if_pos (by omega)])
  have E2 := Lib.hid (fun (h : vwE (bI s) p = 0) (h1 : ¬ s.size < p + 26) (h2 : 32 < rcN (bI s) p) => show rcE (bI s) p = 3 from by unfold rcE; rw [if_pos h, if_neg (by omega), if_pos h2])
  have E3 := Lib.hid (fun (h : vwE (bI s) p = 0) (h1 : ¬ s.size < p + 26) (h2 : ¬ 32 < rcN (bI s) p) => show rcE (bI s) p = vwsE (bI s) (p + 26) (rcN (bI s) p) from by unfold rcE; rw [if_pos h, if_neg (by omega), if_neg h2])
  have hNv := Lib.hid (show nvN (bI s) (p + 25) 1 = rcN (bI s) p from rfl)
  have hn256 : rcN (bI s) p < 256 := nvN_lt hB (p + 25) 1
  have hEnd := Lib.hid (show rcEnd (bI s) p = p + 26 + 25 * rcN (bI s) p from rfl)
  have hbx : Below w.heap.size w ((w.alloc (.cells #[.pointer (some ⟨b, 0, none⟩)] 82)).alloc (.cells #[.int .u64 Vw.zero.num, .int .u64 Vw.zero.ce, .int .i64 Vw.zero.cr, .int .u64 Vw.zero.mem, .slice none 0 0] 30)) := ((Below.refl _ _).alloc (Nat.le_refl _) _).alloc (by simp) _
  have hA : BlkAt ((w.alloc (.cells #[.pointer (some ⟨b, 0, none⟩)] 82)).alloc (.cells #[.int .u64 Vw.zero.num, .int .u64 Vw.zero.ce, .int .i64 Vw.zero.cr, .int .u64 Vw.zero.mem, .slice none 0 0] 30)) w.heap.size 82 #[.pointer (some ⟨b, 0, none⟩)] := (BlkAt.new w _ _).alloc _
  have hZ : BlkAt ((w.alloc (.cells #[.pointer (some ⟨b, 0, none⟩)] 82)).alloc (.cells #[.int .u64 Vw.zero.num, .int .u64 Vw.zero.ce, .int .i64 Vw.zero.cr, .int .u64 Vw.zero.mem, .slice none 0 0] 30)) (w.heap.size + 1) 30 #[.int .u64 Vw.zero.num, .int .u64 Vw.zero.ce, .int .i64 Vw.zero.cr, .int .u64 Vw.zero.mem, .slice none 0 0] := by
    have := BlkAt.new (w.alloc (.cells #[.pointer (some ⟨b, 0, none⟩)] 82)) 30 #[.int .u64 Vw.zero.num, .int .u64 Vw.zero.ce, .int .i64 Vw.zero.cr, .int .u64 Vw.zero.mem, .slice none 0 0]
    simpa using this
  have h1 := h.below hbx hb
  have kx := Kp.ofBelow (b := b) hbx
  have ha0 : ((w.alloc (.cells #[.pointer (some ⟨b, 0, none⟩)] 82)).alloc (.cells #[.int .u64 Vw.zero.num, .int .u64 Vw.zero.ce, .int .i64 Vw.zero.cr, .int .u64 Vw.zero.mem, .slice none 0 0] 30)).cell? ⟨w.heap.size, 0, none⟩ = some (.pointer (some ⟨b, 0, none⟩)) := hA.cell rfl
  generalize hnn : rcN (bI s) p = n at *
  replace hnn := Lib.hid hnn
  clear h hL hB
  go_enter Try.func37, Try.ntmps37
  go_wp2_with (first
    | (refine wpList_blk_alloc rfl rfl Try.recZ (w.heap.size + 1) (by simp) ?_; generalize (w.alloc _).alloc _ = w1 at *))
  refine (hVw.out _ _ h1).mono ?_
  rintro e w2 ⟨⟨g1, rfl, h2⟩ | ⟨g1, rfl⟩, k2⟩
  case inr => exact ⟨rfl, .inr ⟨by rw [E0.out g1]; exact g1, by rw [E0.out g1]; rfl⟩, kx.trans k2⟩
  have G1 := Lib.hid g1
  clear g1
  have hA2 := k2.blk hA (by omega)
  have hZ2 := k2.blk hZ (by omega)
  have k2x := kx.trans k2
  have hw2 := k2x.size
  have hz2 := hZ2.lt
  generalize hu : vwAt (bI s) p = u at *
  replace hu := Lib.hid hu
  have HF := Lib.hid (fun (w3 : World) (hK3 : Kp w2.heap.size (w2.alloc (.cells #[.int .u64 Vw.zero.num, .int .u64 Vw.zero.ce, .int .i64 Vw.zero.cr, .int .u64 Vw.zero.mem, .slice none 0 0] 30)) w3) => show w3.cell? ⟨w.heap.size, 0, none⟩ = some (.pointer (some ⟨b, 0, none⟩)) ∧ (Rdr w3 b s (p + 25) ∧ BlkAt w3 w.heap.size 82 #[.pointer (some ⟨b, 0, none⟩)] ∧ BlkAt w3 (w.heap.size + 1) 30 #[.int .u64 Vw.zero.num, .int .u64 Vw.zero.ce, .int .i64 Vw.zero.cr, .int .u64 Vw.zero.mem, .slice none 0 0] ∧ Kp b w w3 ∧ w2.heap.size ≤ w3.heap.size) from by
    have hAl : Below w2.heap.size w2 (w2.alloc (.cells #[.int .u64 Vw.zero.num, .int .u64 Vw.zero.ce, .int .i64 Vw.zero.cr, .int .u64 Vw.zero.mem, .slice none 0 0] 30)) := (Below.refl _ _).alloc (Nat.le_refl _) _
    have hb3 : Below w2.heap.size w2 w3 := Kp.below hAl hK3 (Nat.le_refl _) hAl.size
    exact ⟨(hA2.below hb3 hA2.lt).cell rfl, h2.below hb3 h2.lt, hA2.below hb3 hA2.lt, hZ2.below hb3 hZ2.lt, k2x.trans (Kp.ofBelow hb3), hb3.size⟩)
  clear ha0 hA hZ h1 kx k2 hbx h2 hA2 hZ2 k2x
  go_wp2_with (first
    | (refine wpList_blk_build rfl #[(0, .tmp 6)] rfl (by rw [List.map_toArray]; exact Try.recB1 u) ?_)
    | (refine wpList_blk_alloc rfl rfl Try.recZ w2.heap.size rfl ?_)
    | (refine wpList_blk_store (cs := #[.int .u64 u.num, .int .u64 u.ce, .int .i64 u.cr, .int .u64 u.mem, .slice none 0 0]) rfl (.tmp 3) (.tmp 7) rfl rfl rfl (BlkAt.new w2 _ _) (Try.recI u _) rfl (by simp [Value.oneCell']) ?_; intro w3 hB3 hK3 hs3; obtain ⟨ha3, H3⟩ := HF.out w3 hK3; clear hK3 hs3))
  obtain ⟨h3, hA3, hZ3, k3, hw3⟩ := H3
  refine (hN1.out _ _ h3).mono ?_
  rintro e w4 ⟨⟨g2, rfl, h4⟩ | ⟨g2, rfl⟩, k4⟩
  case inr => exact ⟨rfl, .inr ⟨by rw [E1.out G1.out (by omega)]; decide, by rw [E1.out G1.out (by omega)]; rfl⟩, k3.trans k4⟩
  have hA4 := k4.blk hA3 (by omega)
  have hB4 := k4.blk hB3 (by omega)
  have hZ4 := k4.blk hZ3 (by omega)
  have k4x := k3.trans k4
  clear ha3 h3 hA3 hB3 hZ3 k3 k4 HF
  rw [hNv.out]
  have hn64 : IntKind.i64.wrap (n : Int) = n := by rw [IntKind.wrap_i64]; omega
  go_wp2_with fail
  by_cases hlong : 32 < n
  · refine (bad_t (by first | (simp; done) | (simp; omega)) 3 _).mono ?_
    rintro e w' ⟨rfl, rfl⟩
    exact ⟨rfl, .inr ⟨by rw [E2.out G1.out (by omega) hlong]; decide, by rw [E2.out G1.out (by omega) hlong]; rfl⟩, k4x⟩
  refine (bad_f (by first | (simp; done) | (simp; omega)) 3 _).mono ?_
  rintro e w' ⟨rfl, rfl⟩
  have E4 := Lib.hid (E3.out G1.out (by omega) hlong)
  clear E0 E1 E2 E3 hN1 hn64
  have hw4 := k4x.size
  go_wp2
  go_loopw [16] (fun i wr => ∃ (k : Nat) (a : Option Addr) (c : Nat), k ≤ n ∧ i = .int .i64 k ∧ BlkAt wr w2.heap.size 30 #[.int .u64 u.num, .int .u64 u.ce, .int .i64 u.cr, .int .u64 u.mem, .slice a k c] ∧ wr.ownsRow w.heap.size 27 4 (.slice a k c) k ((vwsAt (bI s) p k).flatMap vwF) ∧ Hid (∀ i, i < k → vwE (bI s) (p + 26 + 25 * i) = 0) ∧ Rdr wr b s (p + 26 + 25 * k) ∧ BlkAt wr w.heap.size 82 #[.pointer (some ⟨b, 0, none⟩)] ∧ BlkAt wr (w.heap.size + 1) 30 #[.int .u64 Vw.zero.num, .int .u64 Vw.zero.ce, .int .i64 Vw.zero.cr, .int .u64 Vw.zero.mem, .slice none 0 0] ∧ Kp b w wr) (fun i _ => n - (intOf i).toNat)
  case atStart => exact ⟨0, none, 0, Nat.zero_le _, rfl, hB4, World.ownsRow_nil _ _ _ _, (fun i h => by omega), h4, hA4, hZ4, k4x⟩
  case round =>
    clear hA4 hB4 hZ4 k4x h4
    obtain ⟨k, a, c, hk, rfl, hB5, hown, hok, h5, hA5, hZ5, k5⟩ := hrel
    by_cases hlt : k < n
    · have hkI : (k : Int) < n := by omega
      have c4 : wr.cell? ⟨w2.heap.size, 4, none⟩ = some (.slice a k c) := hB5.cell rfl
      have ca : wr.cell? ⟨w.heap.size, 0, none⟩ = some (.pointer (some ⟨b, 0, none⟩)) := hA5.cell rfl
      have hcap : k ≤ 32 := by omega
      go_wp2
      refine wp_region_held_drew (S := fun W => W.cell? ⟨w.heap.size, 0, none⟩ = some (.pointer (some ⟨b, 0, none⟩))) (by kernel_rfl) ca ?_
      intro hHeld
      have HCall := Lib.hid (hVw.out _ _ (show Rdr wr.drew b s (p + 26 + 25 * k) from h5.drewN 1))
      have hone : ∀ y, ∀ u ∈ vwF y, u.oneCell' = true := by intro y u hu; simp [vwF] at hu; rcases hu with rfl | rfl | rfl | rfl <;> rfl
      have HW := Lib.hid (fun w6 (k6 : Kp b wr.drew w6) => show w6.cell? ⟨w.heap.size, 0, none⟩ = some (.pointer (some ⟨b, 0, none⟩)) ∧ w6.cell? ⟨w2.heap.size, 4, none⟩ = some (.slice a k c) from ⟨(k6.blk (hA5.drewN 1) (by omega)).cell rfl, (k6.blk (hB5.drewN 1) (by omega)).cell rfl⟩)
      (refine wpAnyH_take (i := 0) (v := ?_) rfl (by kernel_rfl) (by kernel_rfl) (by kernel_rfl) (fun _ _ _ h => h) (Or.inl ⟨by rfl, ?_⟩) (by assumption) ?_; rotate_left; (focus (intro w hSw; (try dsimp only at hSw); go_simp; (try with_reducible rfl))); (try simp only [Act.put, List.setIfInBounds_toArray, List.set_cons_zero, List.set_cons_succ]))
      (refine wpAnyH_take (i := 2) (v := ?_) rfl (by kernel_rfl) (by kernel_rfl) (by kernel_rfl) (fun _ _ _ h => h) (Or.inl ⟨by rfl, ?_⟩) (by assumption) ?_; rotate_left; (focus (intro w hSw; (try dsimp only at hSw); go_simp; (try with_reducible rfl))); (try simp only [Act.put, List.setIfInBounds_toArray, List.set_cons_zero, List.set_cons_succ]))
      refine wpAnyH_ready (rs := [1, 3]) (by kernel_rfl) (by simp) ?_
      refine AllReadyH.cons rfl (fun K hK => ?_) (AllReadyH.cons rfl (fun K hK => ?_) AllReadyH.nil)
      · go_simp
        refine hK.out _ _ ca (fun hHeld5 => ?_)
        clear hK K
        (refine wpAnyH_ready (rs := [3]) (by kernel_rfl) (by simp) ?_; refine AllReadyH.cons rfl (fun K hK => ?_) AllReadyH.nil; go_simp)
        refine HCall.out.mono ?_
        rintro e w6 ⟨⟨g3, rfl, h6⟩ | ⟨g3, rfl⟩, k6⟩
        case inr =>
          have e5 := E4.out.trans (vwsE_at hlt (fun i hi => hok.out i hi) g3)
          exact ⟨rfl, .inr ⟨by rw [e5]; exact g3, by rw [e5]; rfl⟩, (k5.drewN 1).trans k6⟩
        obtain ⟨ca6, cb6⟩ := HW.out _ k6
        refine hK.out _ _ ca6 (fun hHeld6 => ?_)
        clear hK K
        (refine wpAnyH_ready (rs := [4]) (by kernel_rfl) (by simp) ?_; refine AllReadyH.cons rfl (fun K hK => ?_) AllReadyH.nil; go_simp)
        have hok2 : Hid (∀ i, i < k + 1 → vwE (bI s) (p + 26 + 25 * i) = 0) := fun i hi => by
          by_cases e : i = k
          · subst e; exact g3
          · exact hok.out i (by omega)
        have hV2 := Lib.hid (show (vwsAt (bI s) p (k + 1)).flatMap vwF = (vwsAt (bI s) p k).flatMap vwF ++ vwF (vwAt (bI s) (p + 26 + 25 * k)) from by rw [vwsAt_succ, List.flatMap_append]; simp)
        generalize vwAt (bI s) (p + 26 + 25 * k) = y at *
        have k6x := (k5.drewN 1).trans k6
        have hA6 := k6.blk (hA5.drewN 1) (by omega)
        have hB6 := k6.blk (hB5.drewN 1) (by omega)
        have hZ6 := k6.blk (hZ5.drewN 1) (by omega)
        have ho6 := own_keep (own_belowB hown (Below.refl _ _).drew) fun g hg hl => k6.block g hl (by have := (hown.lt g hg).1; omega)
        have hw6 := k6x.size
        have hAl : Below w6.heap.size w6 (w6.alloc (.cells #[.int .u64 y.num, .int .u64 y.ce, .int .i64 y.cr, .int .u64 y.mem] 27)) := (Below.refl _ _).alloc (Nat.le_refl _) _
        have hA7 := hA6.below hAl hA6.lt
        have hB7 := hB6.below hAl hB6.lt
        have hZ7 := hZ6.below hAl hZ6.lt
        have h7 := h6.below hAl h6.lt
        have ho7 := Lib.hid (own_belowB ho6 hAl)
        have k7 := k6x.trans (Kp.ofBelow hAl)
        have hlv := Lib.hid (Rd.blk1 (w := w6) (e := 27) (cs := vwF y) rfl rfl)
        have hsz7 : w.heap.size ≤ (w6.alloc (.cells #[.int .u64 y.num, .int .u64 y.ce, .int .i64 y.cr, .int .u64 y.mem] 27)).heap.size := k7.size
        refine hK.out _ _ (hA7.cell rfl) (fun hHeld7 => ?_)
        clear hK K c4 ca hA5 hB5 hZ5 h5 k5 hown hok k6 k6x hA6 hB6 hZ6 h6 ho6 ca6 cb6
        (refine wpAnyH_ready (rs := [5]) (by kernel_rfl) (by simp) ?_; refine AllReadyH.cons rfl (fun K hK => ?_) AllReadyH.nil)
        refine step_append_rd (base := w.heap.size) (v := .slice a k c) (n := k) (xs := (vwsAt (bI s) p k).flatMap vwF) (b := w6.heap.size) (off := 0) (m := 1) (c := 1) (news := vwF y) Try.viewE rfl (.tmp 19) (.tmp 22) rfl (by rfl) ho7.out (by rfl) hlv.out (by decide) (hone y) (by unfold maxLen; omega) (by omega) hsz7 ?_
        intro v' w8 hown8 hg8
        obtain ⟨a', c', rfl, _⟩ := Rd.own hown8
        have hA8 := blk_grown hA7 hg8 (own_ne ho7.out hA7 (by decide))
        have hB8 := blk_grown hB7 hg8 (own_ne ho7.out hB7 (by decide))
        have hZ8 := blk_grown hZ7 hg8 (own_ne ho7.out hZ7 (by decide))
        have hbg : ∀ g, (Value.slice a k c).ownBlock = some g → w.heap.size ≤ g := fun g hg => (ho7.out.lt g hg).1
        have k8 : Kp b w w8 := ⟨hg8.os.trans k7.os, hg8.tape.trans k7.tape, hg8.output.trans k7.output, Nat.le_trans k7.size hg8.size, fun i hi hne => (hg8.block i (Nat.lt_of_lt_of_le hi k7.size) (fun e => by have := hbg i e.symm; omega)).trans (k7.block i hi hne)⟩
        have e8 := hg8.block b h7.lt (fun e => by have := hbg b e.symm; omega)
        have h8 : Rdr w8 b s (p + 26 + 25 * k + 25) := ⟨Nat.lt_of_lt_of_le h7.lt hg8.size, (World.cell?_of_block (a := ⟨b, 0, none⟩) e8).trans h7.c0, (World.cell?_of_block (a := ⟨b, 1, none⟩) e8).trans h7.c1, (World.frozen?_of_block (a := ⟨b, 1, none⟩) e8).trans h7.fz, h7.le⟩
        have HO := Lib.hid hown8
        (try simp only [Act.put, List.setIfInBounds_toArray, List.set_cons_zero, List.set_cons_succ])
        have y4 : w8.cell? ⟨w2.heap.size, 4, none⟩ = some (.slice a k c) := hB8.cell rfl
        have f4 := hB8.fz 4
        refine hK.out _ _ (hA8.cell rfl) (fun hHeld8 => ?_)
        clear hK K hA7 hB7 hZ7 h7 k7 ho7 hlv hsz7 hg8 hbg e8 hown8 hAl
        (refine wpAnyH_take (i := 6) (v := ?_) rfl (by kernel_rfl) (by kernel_rfl) (by kernel_rfl) (fun _ _ _ h => h) (Or.inl ⟨by rfl, ?_⟩) (by assumption) ?_; rotate_left; (focus (intro w hSw; (try dsimp only at hSw); go_simp; (try with_reducible rfl))); (try simp only [Act.put, List.setIfInBounds_toArray, List.set_cons_zero, List.set_cons_succ]))
        (refine wpAnyH_ready (rs := [7]) (by kernel_rfl) (by simp) ?_; refine AllReadyH.cons rfl (fun K hK => ?_) AllReadyH.nil; go_simp)
        have hB9 : BlkAt (w8.setCell ⟨w2.heap.size, 4, none⟩ (.slice a' (k + 1) c')) w2.heap.size 30 #[.int .u64 u.num, .int .u64 u.ce, .int .i64 u.cr, .int .u64 u.mem, .slice a' (k + 1) c'] := hB8.set 4 _
        have q9 := (Kp.refl w2.heap.size w8).setCell ⟨w2.heap.size, 4, none⟩ rfl (.slice a' (k + 1) c')
        have ho9 := own_keep HO.out fun g hg hl => q9.block g hl (fun e => own_ne HO.out hB8 (by decide) (by rw [hg, e]))
        generalize w8.setCell _ _ = w9 at *
        have hA9 := q9.blk hA8 (by omega)
        have hZ9 := q9.blk hZ8 (by omega)
        have h9 := h8.kp q9 (by omega)
        have k9 : Kp b w w9 := Kp.trans2 k8 q9 (by omega)
        rw [← hV2.out] at ho9
        refine hK.out _ _ (hA9.cell rfl) (fun hHeld9 => ?_)
        clear hK K hA8 hB8 hZ8 h8 k8 q9 y4 f4 HO
        refine wpAnyH_done (by kernel_rfl) ?_ _
        go_wp2
        go_roundw
        case rel => exact ⟨k + 1, a', c', by omega, by go_num, hB9, ho9, hok2, by rw [show p + 26 + 25 * (k + 1) = p + 26 + 25 * k + 25 from by omega]; exact h9, hA9, hZ9, k9⟩
        case measure => simp [intOf]; omega
      · go_simp
        refine HCall.out.mono ?_
        rintro e w6 ⟨⟨g3, rfl, h6⟩ | ⟨g3, rfl⟩, k6⟩
        case inr =>
          have e5 := E4.out.trans (vwsE_at hlt (fun i hi => hok.out i hi) g3)
          exact ⟨rfl, .inr ⟨by rw [e5]; exact g3, by rw [e5]; rfl⟩, (k5.drewN 1).trans k6⟩
        obtain ⟨ca6, cb6⟩ := HW.out _ k6
        refine hK.out _ _ ca6 (fun hHeld6 => ?_)
        clear hK K
        refine wpAnyH_ready (rs := [1, 4]) (by kernel_rfl) (by simp) ?_
        refine AllReadyH.cons rfl (fun K hK => ?_) (AllReadyH.cons rfl (fun K hK => ?_) AllReadyH.nil)
        · go_simp
          refine hK.out _ _ ca6 (fun hHeld7 => ?_)
          clear hK K
          (refine wpAnyH_ready (rs := [4]) (by kernel_rfl) (by simp) ?_; refine AllReadyH.cons rfl (fun K hK => ?_) AllReadyH.nil; go_simp)
          have hok2 : Hid (∀ i, i < k + 1 → vwE (bI s) (p + 26 + 25 * i) = 0) := fun i hi => by
            by_cases e : i = k
            · subst e; exact g3
            · exact hok.out i (by omega)
          have hV2 := Lib.hid (show (vwsAt (bI s) p (k + 1)).flatMap vwF = (vwsAt (bI s) p k).flatMap vwF ++ vwF (vwAt (bI s) (p + 26 + 25 * k)) from by rw [vwsAt_succ, List.flatMap_append]; simp)
          generalize vwAt (bI s) (p + 26 + 25 * k) = y at *
          have k6x := (k5.drewN 1).trans k6
          have hA6 := k6.blk (hA5.drewN 1) (by omega)
          have hB6 := k6.blk (hB5.drewN 1) (by omega)
          have hZ6 := k6.blk (hZ5.drewN 1) (by omega)
          have ho6 := own_keep (own_belowB hown (Below.refl _ _).drew) fun g hg hl => k6.block g hl (by have := (hown.lt g hg).1; omega)
          have hw6 := k6x.size
          have hAl : Below w6.heap.size w6 (w6.alloc (.cells #[.int .u64 y.num, .int .u64 y.ce, .int .i64 y.cr, .int .u64 y.mem] 27)) := (Below.refl _ _).alloc (Nat.le_refl _) _
          have hA7 := hA6.below hAl hA6.lt
          have hB7 := hB6.below hAl hB6.lt
          have hZ7 := hZ6.below hAl hZ6.lt
          have h7 := h6.below hAl h6.lt
          have ho7 := Lib.hid (own_belowB ho6 hAl)
          have k7 := k6x.trans (Kp.ofBelow hAl)
          have hlv := Lib.hid (Rd.blk1 (w := w6) (e := 27) (cs := vwF y) rfl rfl)
          have hsz7 : w.heap.size ≤ (w6.alloc (.cells #[.int .u64 y.num, .int .u64 y.ce, .int .i64 y.cr, .int .u64 y.mem] 27)).heap.size := k7.size
          refine hK.out _ _ (hA7.cell rfl) (fun hHeld7 => ?_)
          clear hK K c4 ca hA5 hB5 hZ5 h5 k5 hown hok k6 k6x hA6 hB6 hZ6 h6 ho6 ca6 cb6
          (refine wpAnyH_ready (rs := [5]) (by kernel_rfl) (by simp) ?_; refine AllReadyH.cons rfl (fun K hK => ?_) AllReadyH.nil)
          refine step_append_rd (base := w.heap.size) (v := .slice a k c) (n := k) (xs := (vwsAt (bI s) p k).flatMap vwF) (b := w6.heap.size) (off := 0) (m := 1) (c := 1) (news := vwF y) Try.viewE rfl (.tmp 19) (.tmp 22) rfl (by rfl) ho7.out (by rfl) hlv.out (by decide) (hone y) (by unfold maxLen; omega) (by omega) hsz7 ?_
          intro v' w8 hown8 hg8
          obtain ⟨a', c', rfl, _⟩ := Rd.own hown8
          have hA8 := blk_grown hA7 hg8 (own_ne ho7.out hA7 (by decide))
          have hB8 := blk_grown hB7 hg8 (own_ne ho7.out hB7 (by decide))
          have hZ8 := blk_grown hZ7 hg8 (own_ne ho7.out hZ7 (by decide))
          have hbg : ∀ g, (Value.slice a k c).ownBlock = some g → w.heap.size ≤ g := fun g hg => (ho7.out.lt g hg).1
          have k8 : Kp b w w8 := ⟨hg8.os.trans k7.os, hg8.tape.trans k7.tape, hg8.output.trans k7.output, Nat.le_trans k7.size hg8.size, fun i hi hne => (hg8.block i (Nat.lt_of_lt_of_le hi k7.size) (fun e => by have := hbg i e.symm; omega)).trans (k7.block i hi hne)⟩
          have e8 := hg8.block b h7.lt (fun e => by have := hbg b e.symm; omega)
          have h8 : Rdr w8 b s (p + 26 + 25 * k + 25) := ⟨Nat.lt_of_lt_of_le h7.lt hg8.size, (World.cell?_of_block (a := ⟨b, 0, none⟩) e8).trans h7.c0, (World.cell?_of_block (a := ⟨b, 1, none⟩) e8).trans h7.c1, (World.frozen?_of_block (a := ⟨b, 1, none⟩) e8).trans h7.fz, h7.le⟩
          have HO := Lib.hid hown8
          (try simp only [Act.put, List.setIfInBounds_toArray, List.set_cons_zero, List.set_cons_succ])
          have y4 : w8.cell? ⟨w2.heap.size, 4, none⟩ = some (.slice a k c) := hB8.cell rfl
          have f4 := hB8.fz 4
          refine hK.out _ _ (hA8.cell rfl) (fun hHeld8 => ?_)
          clear hK K hA7 hB7 hZ7 h7 k7 ho7 hlv hsz7 hg8 hbg e8 hown8 hAl
          (refine wpAnyH_take (i := 6) (v := ?_) rfl (by kernel_rfl) (by kernel_rfl) (by kernel_rfl) (fun _ _ _ h => h) (Or.inl ⟨by rfl, ?_⟩) (by assumption) ?_; rotate_left; (focus (intro w hSw; (try dsimp only at hSw); go_simp; (try with_reducible rfl))); (try simp only [Act.put, List.setIfInBounds_toArray, List.set_cons_zero, List.set_cons_succ]))
          (refine wpAnyH_ready (rs := [7]) (by kernel_rfl) (by simp) ?_; refine AllReadyH.cons rfl (fun K hK => ?_) AllReadyH.nil; go_simp)
          have hB9 : BlkAt (w8.setCell ⟨w2.heap.size, 4, none⟩ (.slice a' (k + 1) c')) w2.heap.size 30 #[.int .u64 u.num, .int .u64 u.ce, .int .i64 u.cr, .int .u64 u.mem, .slice a' (k + 1) c'] := hB8.set 4 _
          have q9 := (Kp.refl w2.heap.size w8).setCell ⟨w2.heap.size, 4, none⟩ rfl (.slice a' (k + 1) c')
          have ho9 := own_keep HO.out fun g hg hl => q9.block g hl (fun e => own_ne HO.out hB8 (by decide) (by rw [hg, e]))
          generalize w8.setCell _ _ = w9 at *
          have hA9 := q9.blk hA8 (by omega)
          have hZ9 := q9.blk hZ8 (by omega)
          have h9 := h8.kp q9 (by omega)
          have k9 : Kp b w w9 := Kp.trans2 k8 q9 (by omega)
          rw [← hV2.out] at ho9
          refine hK.out _ _ (hA9.cell rfl) (fun hHeld9 => ?_)
          clear hK K hA8 hB8 hZ8 h8 k8 q9 y4 f4 HO
          refine wpAnyH_done (by kernel_rfl) ?_ _
          go_wp2
          go_roundw
          case rel => exact ⟨k + 1, a', c', by omega, by go_num, hB9, ho9, hok2, by rw [show p + 26 + 25 * (k + 1) = p + 26 + 25 * k + 25 from by omega]; exact h9, hA9, hZ9, k9⟩
          case measure => simp [intOf]; omega
        · go_simp
          have cb7 : (w6.alloc (.cells #[.int .u64 (vwAt (bI s) (p + 26 + 25 * k)).num, .int .u64 (vwAt (bI s) (p + 26 + 25 * k)).ce, .int .i64 (vwAt (bI s) (p + 26 + 25 * k)).cr, .int .u64 (vwAt (bI s) (p + 26 + 25 * k)).mem] 27)).cell? ⟨w2.heap.size, 4, none⟩ = some (.slice a k c) := ((k6.blk (hB5.drewN 1) (by omega)).alloc _).cell rfl
          have ca7 : (w6.alloc (.cells #[.int .u64 (vwAt (bI s) (p + 26 + 25 * k)).num, .int .u64 (vwAt (bI s) (p + 26 + 25 * k)).ce, .int .i64 (vwAt (bI s) (p + 26 + 25 * k)).cr, .int .u64 (vwAt (bI s) (p + 26 + 25 * k)).mem] 27)).cell? ⟨w.heap.size, 0, none⟩ = some (.pointer (some ⟨b, 0, none⟩)) := ((k6.blk (hA5.drewN 1) (by omega)).alloc _).cell rfl
          refine hK.out _ _ ca7 (fun hHeld7 => ?_)
          clear hK K
          (refine wpAnyH_ready (rs := [1]) (by kernel_rfl) (by simp) ?_; refine AllReadyH.cons rfl (fun K hK => ?_) AllReadyH.nil; go_simp)
          have hok2 : Hid (∀ i, i < k + 1 → vwE (bI s) (p + 26 + 25 * i) = 0) := fun i hi => by
            by_cases e : i = k
            · subst e; exact g3
            · exact hok.out i (by omega)
          have hV2 := Lib.hid (show (vwsAt (bI s) p (k + 1)).flatMap vwF = (vwsAt (bI s) p k).flatMap vwF ++ vwF (vwAt (bI s) (p + 26 + 25 * k)) from by rw [vwsAt_succ, List.flatMap_append]; simp)
          generalize vwAt (bI s) (p + 26 + 25 * k) = y at *
          have k6x := (k5.drewN 1).trans k6
          have hA6 := k6.blk (hA5.drewN 1) (by omega)
          have hB6 := k6.blk (hB5.drewN 1) (by omega)
          have hZ6 := k6.blk (hZ5.drewN 1) (by omega)
          have ho6 := own_keep (own_belowB hown (Below.refl _ _).drew) fun g hg hl => k6.block g hl (by have := (hown.lt g hg).1; omega)
          have hw6 := k6x.size
          have hAl : Below w6.heap.size w6 (w6.alloc (.cells #[.int .u64 y.num, .int .u64 y.ce, .int .i64 y.cr, .int .u64 y.mem] 27)) := (Below.refl _ _).alloc (Nat.le_refl _) _
          have hA7 := hA6.below hAl hA6.lt
          have hB7 := hB6.below hAl hB6.lt
          have hZ7 := hZ6.below hAl hZ6.lt
          have h7 := h6.below hAl h6.lt
          have ho7 := Lib.hid (own_belowB ho6 hAl)
          have k7 := k6x.trans (Kp.ofBelow hAl)
          have hlv := Lib.hid (Rd.blk1 (w := w6) (e := 27) (cs := vwF y) rfl rfl)
          have hsz7 : w.heap.size ≤ (w6.alloc (.cells #[.int .u64 y.num, .int .u64 y.ce, .int .i64 y.cr, .int .u64 y.mem] 27)).heap.size := k7.size
          refine hK.out _ _ (hA7.cell rfl) (fun hHeld7 => ?_)
          clear hK K c4 ca hA5 hB5 hZ5 h5 k5 hown hok k6 k6x hA6 hB6 hZ6 h6 ho6 ca6 cb6
          (refine wpAnyH_ready (rs := [5]) (by kernel_rfl) (by simp) ?_; refine AllReadyH.cons rfl (fun K hK => ?_) AllReadyH.nil)
          refine step_append_rd (base := w.heap.size) (v := .slice a k c) (n := k) (xs := (vwsAt (bI s) p k).flatMap vwF) (b := w6.heap.size) (off := 0) (m := 1) (c := 1) (news := vwF y) Try.viewE rfl (.tmp 19) (.tmp 22) rfl (by rfl) ho7.out (by rfl) hlv.out (by decide) (hone y) (by unfold maxLen; omega) (by omega) hsz7 ?_
          intro v' w8 hown8 hg8
          obtain ⟨a', c', rfl, _⟩ := Rd.own hown8
          have hA8 := blk_grown hA7 hg8 (own_ne ho7.out hA7 (by decide))
          have hB8 := blk_grown hB7 hg8 (own_ne ho7.out hB7 (by decide))
          have hZ8 := blk_grown hZ7 hg8 (own_ne ho7.out hZ7 (by decide))
          have hbg : ∀ g, (Value.slice a k c).ownBlock = some g → w.heap.size ≤ g := fun g hg => (ho7.out.lt g hg).1
          have k8 : Kp b w w8 := ⟨hg8.os.trans k7.os, hg8.tape.trans k7.tape, hg8.output.trans k7.output, Nat.le_trans k7.size hg8.size, fun i hi hne => (hg8.block i (Nat.lt_of_lt_of_le hi k7.size) (fun e => by have := hbg i e.symm; omega)).trans (k7.block i hi hne)⟩
          have e8 := hg8.block b h7.lt (fun e => by have := hbg b e.symm; omega)
          have h8 : Rdr w8 b s (p + 26 + 25 * k + 25) := ⟨Nat.lt_of_lt_of_le h7.lt hg8.size, (World.cell?_of_block (a := ⟨b, 0, none⟩) e8).trans h7.c0, (World.cell?_of_block (a := ⟨b, 1, none⟩) e8).trans h7.c1, (World.frozen?_of_block (a := ⟨b, 1, none⟩) e8).trans h7.fz, h7.le⟩
          have HO := Lib.hid hown8
          (try simp only [Act.put, List.setIfInBounds_toArray, List.set_cons_zero, List.set_cons_succ])
          have y4 : w8.cell? ⟨w2.heap.size, 4, none⟩ = some (.slice a k c) := hB8.cell rfl
          have f4 := hB8.fz 4
          refine hK.out _ _ (hA8.cell rfl) (fun hHeld8 => ?_)
          clear hK K hA7 hB7 hZ7 h7 k7 ho7 hlv hsz7 hg8 hbg e8 hown8 hAl
          (refine wpAnyH_take (i := 6) (v := ?_) rfl (by kernel_rfl) (by kernel_rfl) (by kernel_rfl) (fun _ _ _ h => h) (Or.inl ⟨by rfl, ?_⟩) (by assumption) ?_; rotate_left; (focus (intro w hSw; (try dsimp only at hSw); go_simp; (try with_reducible rfl))); (try simp only [Act.put, List.setIfInBounds_toArray, List.set_cons_zero, List.set_cons_succ]))
          (refine wpAnyH_ready (rs := [7]) (by kernel_rfl) (by simp) ?_; refine AllReadyH.cons rfl (fun K hK => ?_) AllReadyH.nil; go_simp)
          have hB9 : BlkAt (w8.setCell ⟨w2.heap.size, 4, none⟩ (.slice a' (k + 1) c')) w2.heap.size 30 #[.int .u64 u.num, .int .u64 u.ce, .int .i64 u.cr, .int .u64 u.mem, .slice a' (k + 1) c'] := hB8.set 4 _
          have q9 := (Kp.refl w2.heap.size w8).setCell ⟨w2.heap.size, 4, none⟩ rfl (.slice a' (k + 1) c')
          have ho9 := own_keep HO.out fun g hg hl => q9.block g hl (fun e => own_ne HO.out hB8 (by decide) (by rw [hg, e]))
          generalize w8.setCell _ _ = w9 at *
          have hA9 := q9.blk hA8 (by omega)
          have hZ9 := q9.blk hZ8 (by omega)
          have h9 := h8.kp q9 (by omega)
          have k9 : Kp b w w9 := Kp.trans2 k8 q9 (by omega)
          rw [← hV2.out] at ho9
          refine hK.out _ _ (hA9.cell rfl) (fun hHeld9 => ?_)
          clear hK K hA8 hB8 hZ8 h8 k8 q9 y4 f4 HO
          refine wpAnyH_done (by kernel_rfl) ?_ _
          go_wp2
          go_roundw
          case rel => exact ⟨k + 1, a', c', by omega, by go_num, hB9, ho9, hok2, by rw [show p + 26 + 25 * (k + 1) = p + 26 + 25 * k + 25 from by omega]; exact h9, hA9, hZ9, k9⟩
          case measure => simp [intOf]; omega
    · obtain rfl : k = n := by omega
      have EE := Lib.hid (E4.out.trans (vwsE_zero.2 hok.out))
      go_wp2_with (first
        | (refine wpList_blk_load rfl (.tmp 3) rfl Try.underlying30 rfl rfl hB5 (Try.recI u _) ?_)
        | (refine wpList_blk_store (cs := #[.int .u64 u.num, .int .u64 u.ce, .int .i64 u.cr, .int .u64 u.mem, .slice a k c]) rfl (.tmp 2) (.tmp 26) rfl rfl rfl hZ5 (Try.recI u _) rfl (by simp [Value.oneCell']) ?_; intro w9 hZ9 hK9 hs9))
      have hown9 := own_keep hown fun g hg hl => hK9.block g hl (fun e => own_ne hown hZ5 (by decide) (by rw [hg, e]))
      refine bodyPost_ret (results_cell_row rfl _ _ (w.heap.size + 1) 30 _ (0, 0) _ rfl hZ9 Try.underlying30 rfl (Try.recI u _)) rfl ⟨.inl ⟨EE.out, ?_, ?_⟩, Kp.trans2 k5 hK9 (by omega)⟩
      · rw [hnn.out, hu.out]; exact ⟨a, c, rfl, hown9⟩
      · rw [hEnd.out]; exact h5.kp hK9 (by omega)
end Go.Proofs.Ytdfnpaaejjediaa
