/- text: the reference's taker: next, number, two, conf -/
import Derived.Test.YtpkknhhohbobaaaGreatDoorTxtRaQ
namespace Go.Proofs.YtpkknhhohbobaaaGreatDoor
set_option linter.unusedSimpArgs false
set_option linter.unusedVariables false
open Go.RowKit Go.Sort
/-- A taker: the words that it has still to take, and whether all was right. -/
def TkT (w : World) (b : Nat) (ws : List W8) (ok : Bool) : Prop := ∃ a n c, BlkAt w b 59 #[.slice a n c, .bool ok] ∧ Rd w 1 a n c (ws.map sv) ∧ (n ≠ 0 → ∀ g off, a = some ⟨g, off, none⟩ → g < b) ∧ ∀ u ∈ ws, u.length ≤ 4294967200
section
variable {b : Nat} {w w' : World} {ws : List W8} {ok : Bool}
theorem TkT.lt (h : TkT w b ws ok) : b < w.heap.size := by obtain ⟨_, _, _, h1, _⟩ := h; exact h1.lt
theorem TkT.below (h : TkT w b ws ok) (k : Below w.heap.size w w') : TkT w' b ws ok := by
  obtain ⟨a, n, c, h1, h2, h3⟩ := h
  exact ⟨a, n, c, h1.below k h1.lt, h2.below k (Nat.le_refl _), h3⟩
theorem TkT.lower {B : Nat} (h : TkT w b ws ok) (k : Below B w w') (hb : b < B) : TkT w' b ws ok := by
  obtain ⟨a, n, c, h1, h2, h3, h4⟩ := h
  exact ⟨a, n, c, h1.below k hb, Rd.keepB h2 k.size (fun h0 g off e => k.block g (by have := h3 h0 g off e; omega)), h3, h4⟩
theorem TkT.off {m : Nat} (h : TkT w b ws ok) (k : Kp m w w') (hm : b < m) : TkT w' b ws ok := by
  obtain ⟨a, n, c, h1, h2, h3, h4⟩ := h
  exact ⟨a, n, c, k.blk h1 (by omega), Rd.keepB h2 k.size (fun h0 g off e => by
    rcases h2.2 with hz | ⟨g', o', e', hlt, _⟩
    · exact absurd hz h0
    · rw [e] at e'; simp only [Option.some.injEq, Addr.mk.injEq] at e'
      exact k.block g (by omega) (by have := h3 h0 g off e; omega)), h3, h4⟩
theorem TkT.flag (h : TkT w b ws ok) (r : Bool) : TkT (w.setCell ⟨b, 1, none⟩ (.bool r)) b ws r := by
  obtain ⟨a, n, c, h1, h2, h3, h4⟩ := h
  have k : Kp b w (w.setCell ⟨b, 1, none⟩ (.bool r)) := (Kp.refl b w).setCell ⟨b, 1, none⟩ rfl _
  exact ⟨a, n, c, h1.set 1 _, Rd.keepB h2 k.size (fun h0 g off e => by
    rcases h2.2 with hz | ⟨g', o', e', hlt, _⟩
    · exact absurd hz h0
    · rw [e] at e'; simp only [Option.some.injEq, Addr.mk.injEq] at e'
      exact k.block g (by omega) (by have := h3 h0 g off e; omega)), h3, h4⟩
theorem TkT.cells (h : TkT w b ws ok) : w.cell? ⟨b, 1, none⟩ = some (.bool ok) ∧ w.frozen? ⟨b, 1, none⟩ = false ∧ ∃ a c, w.cell? ⟨b, 0, none⟩ = some (.slice a ws.length c) := by
  obtain ⟨a, n, c, h1, h2, h3, h4⟩ := h
  have hl := h2.length_eq
  rw [List.length_map, Nat.mul_one] at hl
  subst hl
  exact ⟨h1.cell rfl, h1.fz 1, a, c, h1.cell rfl⟩
theorem TkT.small (h : TkT w b ws ok) : ∀ u ∈ ws, u.length ≤ 4294967200 := by obtain ⟨_, _, _, _, _, _, h4⟩ := h; exact h4
theorem TkT.hd (h : TkT w b ws ok) : (ws.headD []).length ≤ 4294967200 := by
  cases ws with
  | nil => exact Nat.zero_le _
  | cons u r => exact h.small u (by simp)
def okN (ws : List W8) (ok : Bool) : Bool := ok && !ws.isEmpty
set_option maxHeartbeats 3200000 in
set_option maxRecDepth 100000 in
theorem rnext_any (ws : List W8) (ok : Bool) (h : TkT w b ws ok) :
    Calls Tryz.prog 19 #[.pointer (some ⟨b, 0, none⟩)] w fun e w' => e = .returned (.string (mkB (ws.headD []))) ∧ TkT w' b ws.tail (okN ws ok) ∧ Kp b w w' := by
  have hc := h.cells
  have hflag := Lib.hid (h.flag false)
  obtain ⟨a, n, c, h1, h2, h3, h5⟩ := h
  have hl := h2.length_eq
  rw [List.length_map, Nat.mul_one] at hl
  have c0 : w.cell? ⟨b, 0, none⟩ = some (.slice a n c) := h1.cell rfl
  have f0 := h1.fz 0
  have f1 := h1.fz 1
  have hcm := h2.le_cap
  cases ws with
  | nil =>
    obtain rfl : n = 0 := hl.symm
    have c1 : w.cell? ⟨b, 1, none⟩ = some (.bool ok) := hc.1
    have hz : okN [] ok = false := by unfold okN; simp
    clear h2 h3 hc
    go_enter Tryz.func19, Tryz.ntmps19
    go_wp2
    go_ret
    exact ⟨rfl, by rw [hz]; exact hflag.out, (Kp.refl b w).setCell ⟨b, 1, none⟩ rfl _⟩
  | cons u r =>
    obtain rfl : n = r.length + 1 := hl.symm
    obtain ⟨g, off, rfl, hg⟩ := h2.addr (by omega)
    have c1 : w.cell? ⟨g, off, none⟩ = some (.string (mkB u)) := h2.at (j := 0) rfl
    have hgb := h3 (by omega) g off rfl
    have hr := Lib.hid (Rd.rest h2)
    have hlen : ¬ ((r.length : Int) + 1 = 0) := by omega
    have hrl := Lib.hid (show (r.map sv).length = r.length from List.length_map ..)
    have hz : okN (u :: r) ok = ok := by unfold okN; simp
    generalize r.length = m at *
    replace h5 := Lib.hid h5
    clear h2 h3 hc hflag
    go_enter Tryz.func19, Tryz.ntmps19
    go_wp2
    · obtain rfl : m = 0 := by omega
      go_ret
      refine ⟨rfl, ?_, (Kp.refl b w).setCell ⟨b, 0, none⟩ rfl _⟩
      try rw [hz]
      exact ⟨_, 0, 0, h1.set 0 _, ⟨⟨by show (r.map sv).length = _; rw [hrl.out], Nat.le_refl 0, Nat.zero_le _, (fun e => by cases e)⟩, .inl rfl⟩, fun e => absurd rfl e, fun v hv => h5.out v (List.mem_cons_of_mem _ hv)⟩
    · have k := (Kp.refl b w).setCell ⟨b, 0, none⟩ rfl (.slice (some ⟨g, off + 1, none⟩) m (c - 1))
      go_ret
      refine ⟨rfl, ?_, k⟩
      try rw [hz]
      exact ⟨_, m, c - 1, h1.set 0 _, k.rd hr.out (fun g' o e => by cases e; omega), fun _ g' o e => by cases e; exact hgb, fun v hv => h5.out v (List.mem_cons_of_mem _ hv)⟩
def okR (ws : List W8) (most : Nat) (ok : Bool) : Bool := okN ws ok && (refV (ws.headD []) most).2
set_option maxHeartbeats 3200000 in
set_option maxRecDepth 100000 in
theorem rnumber_any (ws : List W8) (ok : Bool) (most : Nat) (hm : most ≤ 18446744073709551615) (h : TkT w b ws ok) :
    Calls Tryz.prog 18 #[.pointer (some ⟨b, 0, none⟩), .int .u64 (most : Int)] w fun e w' => e = .returned (.int .u64 ((refV (ws.headD []) most).1 : Int)) ∧ TkT w' b ws.tail (okR ws most ok) ∧ Kp b w w' := by
  have HN := Lib.hid (rnext_any ws ok h)
  have HV := Lib.hid (fun (W : World) => rvalue_any (ws.headD []) most hm (by have := h.hd; omega) W)
  have hz := Lib.hid (show okR ws most ok = (okN ws ok && (refV (ws.headD []) most).2) from rfl)
  clear h
  generalize okR ws most ok = z at *
  generalize refV (ws.headD []) most = rv at *
  generalize okN ws ok = q at *
  generalize ws.headD [] = u at *
  generalize ws.tail = ts at *
  obtain ⟨v, r⟩ := rv
  clear hm
  go_enter Tryz.func18, Tryz.ntmps18
  go_wp2_with fail
  refine HN.out.mono ?_
  rintro e w1 ⟨rfl, h1, k1⟩
  have HV1 := Lib.hid (HV.out w1)
  replace h1 := Lib.hid h1
  replace k1 := Lib.hid k1
  clear HN HV
  go_wp2_with fail
  refine HV1.out.mono ?_
  rintro e w2 ⟨rfl, hb2⟩
  have h2 := h1.out.below hb2
  have k2 := Lib.hid (k1.out.trans (Kp.ofBelow hb2))
  obtain ⟨c1, f1, -⟩ := h2.cells
  have hf := Lib.hid (fun r => h2.flag r)
  clear HV1 h1 k1 hb2 h2
  cases q with
  | false =>
    go_wp2
    go_ret
    exact ⟨rfl, by rw [hz.out]; exact hf.out _, k2.out.setCell ⟨b, 1, none⟩ rfl _⟩
  | true =>
    go_wp2
    go_ret
    exact ⟨rfl, by rw [hz.out, Bool.true_and]; exact hf.out _, k2.out.setCell ⟨b, 1, none⟩ rfl _⟩
/-- What the reference takes for two numbers. -/
def twoR (u : W8) (f s : Nat) : (Nat × Nat) × Bool := match pcs 46 u with
  | [x, y] => (((refV x f).1, (refV y s).1), (refV x f).2 && (refV y s).2)
  | _ => ((0, 0), false)
def ok2 (ws : List W8) (f s : Nat) (ok : Bool) : Bool := okN ws ok && (twoR (ws.headD []) f s).2
set_option maxHeartbeats 3200000 in
set_option maxRecDepth 100000 in
theorem rtwo_any (ws : List W8) (ok : Bool) (f s : Nat) (hf : f ≤ 18446744073709551615) (hs : s ≤ 18446744073709551615) (h : TkT w b ws ok) :
    Calls Tryz.prog 38 #[.pointer (some ⟨b, 0, none⟩), .int .u64 (f : Int), .int .u64 (s : Int)] w fun e w' => e = .returned (.tuple #[.int .u64 ((twoR (ws.headD []) f s).1.1 : Int), .int .u64 ((twoR (ws.headD []) f s).1.2 : Int)]) ∧ TkT w' b ws.tail (ok2 ws f s ok) ∧ Kp b w w' := by
  have HN := Lib.hid (rnext_any ws ok h)
  have hhd := h.hd
  have hz := Lib.hid (show ok2 ws f s ok = (okN ws ok && (twoR (ws.headD []) f s).2) from rfl)
  generalize ok2 ws f s ok = z at *
  have hu := Lib.hid (show twoR (ws.headD []) f s = twoR (ws.headD []) f s from rfl)
  generalize ws.headD [] = u at *
  have HP := Lib.hid (fun (W : World) => rpieces_any u 46 (by omega) W)
  clear h hu
  go_enter Tryz.func38, Tryz.ntmps38
  go_wp2_with fail
  refine HN.out.mono ?_
  rintro e w1 ⟨rfl, h1, k1⟩
  have HP1 := Lib.hid (HP.out w1)
  replace h1 := Lib.hid h1
  replace k1 := Lib.hid k1
  clear HN HP
  generalize okN ws ok = q at *
  go_wp2_with fail
  refine HP1.out.mono ?_
  rintro e w2 ⟨g, cap, rfl, ho, hb2⟩
  have h2 := h1.out.below hb2
  have k2 := Lib.hid (k1.out.trans (Kp.ofBelow hb2))
  have hps := fun p hp => pcs_small 46 u p hp
  clear HP1 h1 k1 hb2
  by_cases hl : (pcs 46 u).length = 2
  · obtain ⟨p0, p1, hp⟩ : ∃ p0 p1, pcs 46 u = [p0, p1] := by
      generalize pcs 46 u = L at hl
      match L, hl with
      | [p0, p1], _ => exact ⟨p0, p1, rfl⟩
    have htw := Lib.hid (show twoR u f s = (((refV p0 f).1, (refV p1 s).1), (refV p0 f).2 && (refV p1 s).2) from by unfold twoR; rw [hp])
    rw [hp] at ho hps ⊢
    have c0 : w2.cell? ⟨g, 0, none⟩ = some (.string (mkB p0)) := by rw [ho.cellAt 0 (by show 0 < 2 * 1; decide)]; rfl
    have HV0 := Lib.hid (rvalue_any p0 f hf (by have := hps p0 (by simp); omega) w2)
    have HV1 := Lib.hid (fun (W : World) => rvalue_any p1 s hs (by have := hps p1 (by simp); omega) W)
    have hc1 := Lib.hid (fun (W : World) (hb : Below w2.heap.size w2 W) => show W.cell? ⟨g, 1, none⟩ = some (.string (mkB p1)) from by rw [(own_belowB ho hb).cellAt 1 (by show 1 < 2 * 1; decide)]; rfl)
    replace h2 := Lib.hid h2
    rw [htw.out] at hz
    clear hps ho hl hp
    generalize refV p0 f = rv0 at *
    generalize refV p1 s = rv1 at *
    obtain ⟨v0, r0⟩ := rv0
    obtain ⟨v1, r1⟩ := rv1
    go_wp2_with fail
    refine HV0.out.mono ?_
    rintro e w3 ⟨rfl, hb3⟩
    have c1 := hc1.out w3 hb3
    have HV3 := Lib.hid (HV1.out w3)
    have h3 := Lib.hid (h2.out.below hb3)
    have k3 := Lib.hid (k2.out.trans (Kp.ofBelow hb3))
    clear HV0 HV1 hc1 h2 k2 hb3 c0
    go_wp2_with fail
    refine HV3.out.mono ?_
    rintro e w4 ⟨rfl, hb4⟩
    have h4 := h3.out.below hb4
    have k4 := Lib.hid (k3.out.trans (Kp.ofBelow hb4))
    obtain ⟨d1, f1, -⟩ := h4.cells
    have hfl := Lib.hid (fun r => h4.flag r)
    clear HV3 h3 k3 hb4 h4 c1
    cases q <;> cases r0
    all_goals
      go_wp2
      refine bodyPost_ret (v := .tuple #[.int .u64 (v0 : Int), .int .u64 (v1 : Int)]) (by simp [results, Tryz.results38, go_sem]) rfl ?_
      refine ⟨by rw [htw.out], ?_, k4.out.setCell ⟨b, 1, none⟩ rfl _⟩
      rw [hz.out]
      exact hfl.out _
  · have htw := Lib.hid (show twoR u f s = ((0, 0), false) from by
      unfold twoR
      split
      · rename_i h
        rw [h] at hl
        exact absurd rfl hl
      · rfl)
    have hlI : ¬ (((pcs 46 u).length : Int) = 2) := by omega
    obtain ⟨d1, f1, -⟩ := h2.cells
    have hfl := Lib.hid (fun r => h2.flag r)
    generalize (pcs 46 u).length = N at *
    clear ho hl hps h2
    go_wp2
    refine bodyPost_ret (v := .tuple #[.int .u64 0, .int .u64 0]) (by simp [results, Tryz.results38, go_sem]) rfl ?_
    refine ⟨by rw [htw.out]; rfl, ?_, k2.out.setCell ⟨b, 1, none⟩ rfl _⟩
    rw [hz.out, htw.out, Bool.and_false]
    exact hfl.out _
end
end Go.Proofs.YtpkknhhohbobaaaGreatDoor
