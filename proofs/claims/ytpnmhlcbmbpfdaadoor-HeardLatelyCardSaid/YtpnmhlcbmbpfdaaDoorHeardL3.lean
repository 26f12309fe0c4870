/- the law HeardEpoch; the walk of HeardLately -/
import Derived.Test.YtpnmhlcbmbpfdaaDoorHeardL2
namespace Go.Proofs.YtpnmhlcbmbpfdaaDoor
open Go.RowKit Go.Sort

set_option maxHeartbeats 400000 in
theorem epoch_out (me m : Int) (sa : Option Addr) (n c : Nat) (w : World) (hT : Tab w) (h : 100 < n) (hn : n ≤ 9223372036854775807) :
    Calls Tryd.prog 5 #[.int .i64 me, .int .i64 m, .slice sa n c] w fun e w' => e = .returned (.bool true) ∧ Below w.heap.size w w' := by
  go_enter Tryd.func5, Tryd.ntmps5
  go_wp2_with fail
  refine (awake_any _ hT).mono ?_
  rintro e w1 ⟨rfl, hb1⟩
  go_wp2
  go_ret
  exact ⟨rfl, hb1⟩
theorem epoch_law (me m : Int) (sa : Option Addr) (n c : Nat) (w : World) (hT : Tab w) (_ : (Lit.int .i64 me).wf = true) (_ : (Lit.int .i64 m).wf = true) (h : ∃ l, RSl RAc 8 w sa n c l) :
    Calls Tryd.prog 5 #[.int .i64 me, .int .i64 m, .slice sa n c] w fun e w' => e = .returned (.bool true) ∧ Below w.heap.size w w' := by
  obtain ⟨l, hl⟩ := h
  obtain ⟨l', hr, hln, hwf⟩ := hl.ac
  have hmx := hr.le_max
  unfold maxLen at hmx
  by_cases ho : 100 < n
  · exact epoch_out me m sa n c w hT ho hmx
  · exact epoch_main me m sa n c l' w hT hr hln hwf (by omega)

theorem rem_lt (x t : Nat) (ht : t ≤ 1000) (hx : x < 256) : x % (t + 3) < t + 3 ∧ x % (t + 3) < 256 := ⟨Nat.mod_lt _ (by omega), Nat.lt_of_le_of_lt (Nat.mod_le _ _) hx⟩
set_option maxHeartbeats 3200000 in
set_option maxRecDepth 100000 in
theorem lately_main (timeout p : Nat) (q : Int) (sa : Option Addr) (n c : Nat) (l : List Int) (w : World) (hT : Tab w) (ht : timeout ≤ 1000) (hp1 : 1 ≤ p) (hp2 : p ≤ 63) (hpq : ((p : Int) == q) = false) (hr : Rd w 1 sa n c (l.map (Value.int .u8))) (hwf : ∀ x ∈ l, (Lit.int .u8 x).wf = true) (hn : n ≤ 50) :
    Calls Tryd.prog 4 #[.int .i64 timeout, .int .i64 p, .int .i64 q, .slice sa n c] w fun e w' => e = .returned (.bool true) ∧ Below w.heap.size w w' := by
  have hpos := hT.1
  have hl := Lib.hid hr.intLen
  go_enter Tryd.func4, Tryd.ntmps4
  go_wp2_with fail
  refine (awake_any _ hT).mono ?_
  rintro e w1 ⟨rfl, hb1⟩
  have hT1 := hT.below hb1 hpos
  go_wp2_with fail
  refine (ear_new 0 64 timeout _).mono ?_
  rintro e w2 ⟨b, rfl, hb, hwin, hb2⟩
  have E : HEnv w b (ES.nw 0 64 timeout) w2 := ⟨belS hb1 hb2, Nat.le_trans hb1.size hb, hT1.below hb2 hT1.1, hwin⟩
  clear hwin hb2 hT1 hb1
  have HW := Lib.hid (show (ES.nw 0 64 timeout).Ok ∧ (ES.nw 0 64 timeout).now = 0 ∧ (ES.nw 0 64 timeout).me = 0 ∧ (ES.nw 0 64 timeout).timeout = timeout ∧ hasB (ES.nw 0 64 timeout).oth p = true from ⟨ES.nw_ok _ _ _, rfl, rfl, rfl, by
    show hasB (butN (allN 64) (bitN 0)) p = true
    rw [hasB_bit p (by omega), but_bit (bitN_lt 0) p (by omega), allN_bit 64 p (by omega), bitN_bit]
    simp; omega⟩)
  generalize ES.nw 0 64 (timeout : Int) = s0 at *
  go_wp2
  go_loopw [10] (fun i wr => ∃ (k : Nat) (s : ES), k ≤ n ∧ i = .int .i64 k ∧ Hid (s.Ok ∧ s.now ≤ k * 2000 ∧ s.me = 0 ∧ s.timeout = timeout ∧ hasB s.oth p = true) ∧ HEnv w b s wr) (fun i _ => n - (intOf i).toNat)
  case atStart => exact ⟨0, s0, Nat.zero_le _, rfl, ⟨HW.out.1, Nat.le_of_eq (HW.out.2.1.trans (Nat.zero_mul _).symm), HW.out.2.2⟩, E⟩
  case round =>
    clear E HW
    obtain ⟨k, s, hk, rfl, HI, E⟩ := hrel
    by_cases hlt : k < n
    · have hkl : k < l.length := by rw [hl.out]; exact hlt
      obtain ⟨bs, off, rfl, _⟩ := hr.addr (by omega)
      have HN := Lib.hid (beat_any s HI.out.1 p ⟨0, 0, 0, 0, 5⟩ b _ E.ear)
      have HL : Hid ((s.beat p ⟨0, 0, 0, 0, 5⟩).Ok ∧ (s.beat p ⟨0, 0, 0, 0, 5⟩).now ≤ k * 2000 ∧ (s.beat p ⟨0, 0, 0, 0, 5⟩).me = 0 ∧ (s.beat p ⟨0, 0, 0, 0, 5⟩).timeout = timeout ∧ hasB (s.beat p ⟨0, 0, 0, 0, 5⟩).oth p = true ∧ (s.beat p ⟨0, 0, 0, 0, 5⟩).Lat p 0) := by
        have hsm := s.same_beat p ⟨0, 0, 0, 0, 5⟩
        exact ⟨ES.beat_ok HI.out.1 _ _, by rw [s.now_beat]; exact HI.out.2.1, hsm.me.trans HI.out.2.2.1, hsm.timeout.trans HI.out.2.2.2.1, by rw [hsm.oth]; exact HI.out.2.2.2.2, s.lat_beat p _ HI.out.2.2.2.2⟩
      generalize s.beat p ⟨0, 0, 0, 0, 5⟩ = t at *
      go_wp2_with fail
      refine HN.out.mono ?_
      rintro e w5 ⟨rfl, hwin, hkp⟩
      replace E := E.kp hpos hkp hwin
      clear HN hwin hkp
      have hc := (hr.below E.bel (Nat.le_refl _)).at (j := k) (u := .int .u8 l[k]) (by rw [List.getElem?_map, List.getElem?_eq_getElem hkl]; rfl)
      have hx := wf_u8_bounds (hwf _ (List.getElem_mem hkl))
      generalize l[k] = x at *
      obtain ⟨x, rfl⟩ : ∃ y : Nat, x = y := ⟨x.toNat, by omega⟩
      have hrem := rem_lt x timeout ht (by omega)
      have hre : ((x : Int) % ((timeout : Int) + 3)) = ((x % (timeout + 3) : Nat) : Int) := by simp
      generalize x % (timeout + 3) = m at *
      go_wp2
      rw [hre]
      clear hre
      go_loopw [12] (fun i wr => ∃ (j : Nat) (u : ES), j ≤ m ∧ i = .int .i64 j ∧ Hid (u.Ok ∧ u.now ≤ k * 2000 + j ∧ u.me = 0 ∧ u.timeout = timeout ∧ hasB u.oth p = true ∧ u.Lat p j) ∧ HEnv w b u wr) (fun i _ => m - (intOf i).toNat)
      case atStart => exact ⟨0, t, Nat.zero_le _, rfl, HL.out, E⟩
      case round =>
        clear E HL
        obtain ⟨j, u, hj, rfl, HJ, E⟩ := hrel
        by_cases hlt2 : j < m
        · have hlat := HJ.out.2.2.2.2.2
          have r0 : hasB u.reach 0 = true := by
            rw [show (0 : Int) = ((0 : Nat) : Int) from rfl, hasB_bit 0 (by decide), u.reach_bit 0 (by decide), HJ.out.2.2.1]; rfl
          have rp : hasB u.reach p = decide (j ≤ timeout) := by
            have hoth := HJ.out.2.2.2.2.1
            rw [hasB_bit p (by omega)] at hoth
            rw [hasB_bit p (by omega), u.reach_bit p (by omega), hoth, hlat.lately, HJ.out.2.2.1, HJ.out.2.2.2.1]
            simp; omega
          have HR := Lib.hid (fun W (h : HEnv w b u W) => reach_any u HJ.out.1 b W h.ear h.tab)
          have HH0 := Lib.hid (fun W => show Calls Tryd.prog 22 #[.int .u64 u.reach, .int .i64 0] W fun e w' => e = .returned (.bool true) ∧ W = w' from by have := has_any u.reach 0 u.reach_lt W; rwa [r0] at this)
          have HHp := fun W => has_any u.reach p u.reach_lt W
          rw [rp] at HHp
          clear r0 rp hlat
          generalize u.reach = rs at *
          have HOk := Lib.hid (show u.tick.Ok from ES.tick_ok HJ.out.1 (by have := HJ.out.2.1; omega))
          have HFin : Hid (((u.tick.hear q).forget (bitN p)).Ok ∧ ((u.tick.hear q).forget (bitN p)).now ≤ k * 2000 + (j + 1) ∧ ((u.tick.hear q).forget (bitN p)).me = 0 ∧ ((u.tick.hear q).forget (bitN p)).timeout = timeout ∧ hasB ((u.tick.hear q).forget (bitN p)).oth p = true ∧ ((u.tick.hear q).forget (bitN p)).Lat p (j + 1)) := by
            have h1 := u.tick.same_hear q
            have h2 := (u.tick.hear q).same_forget (bitN p)
            have h3 := h1.trans h2
            refine ⟨ES.forget_ok (ES.hear_ok HOk.out q) _, ?_, h3.me.trans HJ.out.2.2.1, h3.timeout.trans HJ.out.2.2.2.1, by rw [h3.oth]; exact HJ.out.2.2.2.2.1, HJ.out.2.2.2.2.2.step q (by simpa using hpq) _ (by omega)⟩
            rw [ES.now_forget, ES.now_hear]
            have := HJ.out.2.1
            show u.now + 1 ≤ _
            omega
          have HTk := Lib.hid (fun W (h : HEnv w b u W) => tick_any u HJ.out.1 b W h.ear)
          have HHe := Lib.hid (fun W (h : HEnv w b u.tick W) => hear_any u.tick HOk.out q b W h.ear)
          have HFo := Lib.hid (fun W (h : HEnv w b (u.tick.hear q) W) => forget_any (u.tick.hear q) (ES.hear_ok HOk.out q) (bitN p) (bitN_lt p) b W h.ear h.tab)
          generalize (u.tick.hear q).forget (bitN p) = u3 at *
          generalize u.tick.hear q = u2 at *
          generalize u.tick = u1 at *
          cases hd : decide (j ≤ timeout)
          all_goals
            rw [hd] at HHp
            have HHp := Lib.hid HHp
            go_wp2_with fail
            refine (HR.out _ E).mono ?_
            rintro e w6 ⟨rfl, hbb⟩
            replace E := E.below hbb
            clear hbb
            go_wp2_with fail
            refine (HH0.out _).mono ?_
            rintro e w' ⟨rfl, rfl⟩
            go_wp2_with fail
            refine (HR.out _ E).mono ?_
            rintro e w7 ⟨rfl, hbb⟩
            replace E := E.below hbb
            clear hbb
            go_wp2_with fail
            refine (HHp.out _).mono ?_
            rintro e w' ⟨rfl, rfl⟩
            go_wp2_with fail
            refine (HTk.out _ E).mono ?_
            rintro e w8 ⟨rfl, hwin, hkp⟩
            replace E := E.kp hpos hkp hwin
            clear hwin hkp
            go_wp2_with fail
            refine (HHe.out _ E).mono ?_
            rintro e w9 ⟨rfl, hwin, hkp⟩
            replace E := E.kp hpos hkp hwin
            clear hwin hkp
            go_wp2_with fail
            refine (of_any 1 1 _ [(p : Int)] _ (by decide) (Rd.lit (by first | rfl | simp) rfl (by decide))).mono ?_
            rintro e w' ⟨rfl, rfl⟩
            rw [show withN 0 [(p : Int)] = bitN p from by simp [withN]]
            replace E := E.below ((Below.refl _ _).alloc (Nat.le_refl _) (.cells #[.int .i64 p] 3))
            go_wp2_with fail
            refine (HFo.out _ E).mono ?_
            rintro e w10 ⟨rfl, hwin, hkp⟩
            replace E := E.kp hpos hkp hwin
            clear hwin hkp
            go_wp2
            go_roundw
            case rel => exact ⟨j + 1, u3, by omega, by go_num, HFin, E⟩
            case measure => simp [intOf]; omega
        · go_wp2
          go_roundw
          case rel => exact ⟨k + 1, u, by omega, by go_num, ⟨HJ.out.1, by have := HJ.out.2.1; omega, HJ.out.2.2.1, HJ.out.2.2.2.1, HJ.out.2.2.2.2.1⟩, E⟩
          case measure => simp [intOf]; omega
    · go_wp2
      go_ret
      exact ⟨rfl, E.bel⟩
end Go.Proofs.YtpnmhlcbmbpfdaaDoor
