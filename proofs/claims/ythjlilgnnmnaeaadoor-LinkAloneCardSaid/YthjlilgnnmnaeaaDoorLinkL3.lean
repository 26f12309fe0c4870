/- the walk of LinkAlone -/
import Derived.Test.YthjlilgnnmnaeaaDoorLinkL1
namespace Go.Proofs.YthjlilgnnmnaeaaDoor
open Go.RowKit Go.Sort

theorem WS.room_alone {s : WS} (h : s.oth = 0) (r : Int) : s.room r = decide ((if r < 0 then 0 else r) < s.size) := by
  rw [WS.room, WS.low_alone h, decide_eq_decide]; omega
set_option maxHeartbeats 1600000 in
set_option maxRecDepth 100000 in
theorem alone_main (me size times reserve x S : Int) (w : World) (hT : Tab w) (hm1 : (if 64 < size then (64 : Int) else size) = x) (hm2 : (if 1 < x then x else (1 : Int)) = S) (hS : Hid (S = max 1 (min size 64))) (hS1 : 1 ≤ S) (hS2 : S ≤ 64) (ht : times ≤ 500)
    (hr1 : -9223372036854775808 ≤ reserve) (hr2 : reserve ≤ 9223372036854775807) :
    Calls Tryd.prog 5 #[.int .i64 me, .int .i64 size, .int .i64 times, .int .i64 reserve] w fun e w' => e = .returned (.bool true) ∧ Below w.heap.size w w' := by
  have hpos := hT.1
  go_enter Tryd.func5, Tryd.ntmps5
  go_wp2_with fail
  refine (awake_any _ hT).mono ?_
  rintro e w1 ⟨rfl, hb1⟩
  have hT1 := hT.below hb1 hpos
  go_wp2_with fail
  refine (of_any 1 1 _ [me] _ (by decide) (Rd.lit (by first | rfl | simp) rfl (by decide))).mono ?_
  rintro e w' ⟨rfl, rfl⟩
  rw [show withN 0 [me] = bitN me from by simp [withN]]
  go_wp2_with fail
  refine (new_any me (bitN me) size _ (bitN_lt me)).mono ?_
  rintro e w2 ⟨b, rfl, hb, hwin, hb2⟩
  have hba : Below w1.heap.size w1 (w1.alloc (.cells #[.int .i64 me] 3)) := (Below.refl _ _).alloc (Nat.le_refl _) _
  have E : LEnv w b (WS.nw me (bitN me) size) w2 := ⟨belS hb1 (belS hba hb2), Nat.le_trans hb1.size (Nat.le_trans hba.size hb), (hT1.below hba hT1.1).below hb2 (Nat.lt_of_lt_of_le hT1.1 hba.size), hwin⟩
  clear hwin hb2 hT1 hb1 hb hba
  have HW := Lib.hid (show (WS.nw me (bitN me) size).Ok ∧ (WS.nw me (bitN me) size).sent = 0 ∧ (WS.nw me (bitN me) size).oth = 0 ∧ (WS.nw me (bitN me) size).size = S from ⟨WS.nw_ok _ _ _ (bitN_lt me), rfl, but_self _ (bitN_lt me), hS.out.symm⟩)
  generalize WS.nw me (bitN me) size = s0 at *
  go_wp2
  go_loopw [10] (fun i wr => ∃ (k : Nat) (s : WS), (k : Int) ≤ max times 0 ∧ i = .int .i64 k ∧ Hid (s.Ok ∧ s.sent = k ∧ s.oth = 0 ∧ s.size = S) ∧ LEnv w b s wr) (fun i _ => (times - intOf i).toNat)
  case atStart => exact ⟨0, s0, by omega, rfl, HW.out, E⟩
  case round =>
    clear E HW
    obtain ⟨k, s, hk, rfl, HI, E⟩ := hrel
    by_cases hlt : (k : Int) < times
    · have hm : s.room 0 = true := by rw [WS.room_alone HI.out.2.2.1, HI.out.2.2.2]; simp; omega
      have HN := next_any s HI.out.1 0 b _ E.win E.tab (by decide) (by decide)
      rw [show s.nextV 0 = .tuple #[.int .u32 ((k : Int) + 1), .int .i64 0] from by rw [WS.nextV, if_pos hm, HI.out.2.1]] at HN
      have HL : Hid ((s.nexts 0).Ok ∧ (s.nexts 0).sent = k + 1 ∧ (s.nexts 0).oth = 0 ∧ (s.nexts 0).size = S ∧ (s.nexts 0).low = k + 1 ∧ (s.nexts 0).lag = 0) := by
        have h1 := WS.nexts_ok HI.out.1 0 (by have := HI.out.2.1; omega)
        have h2 : s.nexts 0 = s.next := by rw [WS.nexts, if_pos hm]
        rw [h2] at h1 ⊢
        have h3 : s.next.oth = 0 := HI.out.2.2.1
        have h4 : s.next.sent = k + 1 := by show s.sent + 1 = _; rw [HI.out.2.1]
        exact ⟨h1, h4, h3, HI.out.2.2.2, by rw [WS.low_alone h3, h4], WS.lag_alone h3⟩
      have HN := Lib.hid HN
      generalize s.nexts 0 = t at *
      clear hm
      go_wp2_with fail
      refine HN.out.mono ?_
      rintro e w5 ⟨rfl, hwin, hkp⟩
      replace E := E.kp hpos hkp hwin
      clear HN hwin hkp
      have e1 : (((k : Int) + 1) != (k : Int) + 1) = false := by simp
      go_wp2_with fail
      refine (low_any t HL.out.1 b _ E.win E.tab).mono ?_
      rintro e w6 ⟨rfl, hbb⟩
      rw [HL.out.2.2.2.2.1]
      replace E := E.below hbb
      go_wp2_with fail
      refine (lag_any t HL.out.1 b _ E.win E.tab).mono ?_
      rintro e w7 ⟨rfl, hbb⟩
      rw [HL.out.2.2.2.2.2]
      replace E := E.below hbb
      go_wp2
      go_roundw
      case rel => exact ⟨k + 1, t, by omega, by go_num, ⟨HL.out.1, HL.out.2.1, HL.out.2.2.1, HL.out.2.2.2.1⟩, E⟩
      case measure => simp [intOf]; omega
    · have HR := room_any s HI.out.1 reserve b wr E.win E.tab hr1 hr2
      rw [WS.room_alone HI.out.2.2.1, HI.out.2.2.2] at HR
      rw [show decide ((if reserve < 0 then 0 else reserve) < S) = decide (reserve < S) from by rw [decide_eq_decide]; split <;> omega] at HR
      cases hres : decide (reserve < S)
      all_goals
        rw [hres] at HR
        simp only [decide_eq_true_eq, decide_eq_false_iff_not] at hres
        have HR := Lib.hid HR
        go_wp2_with fail
        refine HR.out.mono ?_
        rintro e w5 ⟨rfl, hbb⟩
        replace E := E.below hbb
        go_wp2_with fail
        refine (copy_any s b _ E.win).mono ?_
        rintro e w6 ⟨rfl, hcw, hbb⟩
        replace E := E.below hbb
        go_wp2_with fail
        refine (sent_any s _ _ hcw).mono ?_
        rintro e w' ⟨rfl, rfl⟩
        go_wp2_with fail
        refine (sent_any s _ _ E.win).mono ?_
        rintro e w' ⟨rfl, rfl⟩
        go_wp2
        go_ret
        exact ⟨ret_bool (by simp; try omega), E.bel⟩
set_option maxHeartbeats 400000 in
theorem alone_out (me size times reserve : Int) (w : World) (hT : Tab w) (h : 500 < times) :
    Calls Tryd.prog 5 #[.int .i64 me, .int .i64 size, .int .i64 times, .int .i64 reserve] w fun e w' => e = .returned (.bool true) ∧ Below w.heap.size w w' := by
  go_enter Tryd.func5, Tryd.ntmps5
  go_wp2_with fail
  refine (awake_any _ hT).mono ?_
  rintro e w1 ⟨rfl, hb1⟩
  go_wp2
  go_ret
  exact ⟨rfl, hb1⟩
theorem alone_law (me size times reserve : Int) (w : World) (hT : Tab w) (_ : (Lit.int .i64 me).wf = true) (_ : (Lit.int .i64 size).wf = true) (_ : (Lit.int .i64 times).wf = true) (hr : (Lit.int .i64 reserve).wf = true) :
    Calls Tryd.prog 5 #[.int .i64 me, .int .i64 size, .int .i64 times, .int .i64 reserve] w fun e w' => e = .returned (.bool true) ∧ Below w.heap.size w w' := by
  have hr' := wf_i64_bounds hr
  by_cases ho : 500 < times
  · exact alone_out me size times reserve w hT ho
  · refine alone_main me size times reserve _ (max 1 (min size 64)) w hT rfl ?_ rfl (by omega) (by omega) (by omega) hr'.1 hr'.2
    split <;> split <;> omega
end Go.Proofs.YthjlilgnnmnaeaaDoor
