/- the walk of HeardEpoch -/
import Derived.Test.YtpnmhlcbmbpfdaaDoorHeardL1
namespace Go.Proofs.YtpnmhlcbmbpfdaaDoor
open Go.RowKit Go.Sort

set_option maxHeartbeats 3200000 in
set_option maxRecDepth 100000 in
theorem epoch_main (me m : Int) (sa : Option Addr) (n c : Nat) (l : List Ac) (w : World) (hT : Tab w) (hr : Rd w 8 sa n c (l.flatMap acF)) (hl : Hid (l.length = n)) (hwf : ∀ x ∈ l, x.s < 18446744073709551616) (hn : n ≤ 100) :
    Calls Tryd.prog 5 #[.int .i64 me, .int .i64 m, .slice sa n c] w fun e w' => e = .returned (.bool true) ∧ Below w.heap.size w w' := by
  have hpos := hT.1
  go_enter Tryd.func5, Tryd.ntmps5
  go_wp2_with fail
  refine (awake_any _ hT).mono ?_
  rintro e w1 ⟨rfl, hb1⟩
  have hT1 := hT.below hb1 hpos
  go_wp2_with fail
  refine (ear_new me m 3 _).mono ?_
  rintro e w2 ⟨b, rfl, hb, hwin, hb2⟩
  have E : HEnv w b (ES.nw me m 3) w2 := ⟨belS hb1 hb2, Nat.le_trans hb1.size hb, hT1.below hb2 hT1.1, hwin⟩
  clear hwin hb2 hT1 hb1
  have HW := Lib.hid (show (ES.nw me m 3).Ok ∧ (ES.nw me m 3).Fair from ⟨ES.nw_ok _ _ _, ES.fair_nw _ _ _⟩)
  generalize ES.nw me m 3 = s0 at *
  go_wp2
  go_loopw [8] (fun i wr => ∃ (k : Nat) (s : ES), k ≤ n ∧ i = .int .i64 k ∧ Hid (s.Ok ∧ s.Fair) ∧ HEnv w b s wr) (fun i _ => n - (intOf i).toNat)
  case atStart => exact ⟨0, s0, Nat.zero_le _, rfl, HW.out, E⟩
  case round =>
    clear E HW
    obtain ⟨k, s, hk, rfl, HI, E⟩ := hrel
    by_cases hlt : k < n
    · have hkl : k < l.length := by rw [hl.out]; exact hlt
      obtain ⟨bs, off, rfl, _⟩ := hr.addr (by omega); obtain ⟨c0, c1, c2, c3, c4, c5, c6, c7⟩ := (hr.below E.bel (Nat.le_refl _)).act8 k hkl; have hsx := hwf _ (List.getElem_mem hkl); generalize l[k] = ac at *; obtain ⟨kind, p, x, sx⟩ := ac; simp only at c0 c1 c2 c3 c4 c5 c6 c7 hsx
      have step : ∀ t : ES, t.Ok → t.Fair → Hid (t.Ok ∧ t.Fair) := fun t h1 h2 => ⟨h1, h2⟩
      cases hkd : (kind == 3)
      · go_wp2_with fail
        have hab : b < wr.heap.size := E.ear.lt; have hA := BlkAt.new wr 35 #[.int .i64 kind, .int .i64 p, .int .u64 x.ce, .int .i64 x.cr, .int .u64 x.pe, .int .i64 x.pr, .int .u64 x.ep, .int .u64 sx]; replace E := E.below ((Below.refl _ _).alloc (Nat.le_refl _) (.cells #[.int .i64 kind, .int .i64 p, .int .u64 x.ce, .int .i64 x.cr, .int .u64 x.pe, .int .i64 x.pr, .int .u64 x.ep, .int .u64 sx] 35)); clear c0 c1 c2 c3 c4 c5 c6 c7; generalize wr.alloc _ = w3 at *; generalize wr.heap.size = ab at *
        have HL := step (s.beat p x) (ES.beat_ok HI.out.1 p x) (ES.fair_beat HI.out.2 p x)
        have HN := Lib.hid (beat_any s HI.out.1 p x b _ E.ear)
        generalize s.beat p x = t at *
        clear step hkd HI
        refine HN.out.mono ?_
        rintro e w5 ⟨rfl, hwin, hkp⟩
        replace E := E.kp hpos hkp hwin
        clear HN hwin hkp hA
        go_wp2_with fail
        refine (epoch_any t b _ E.ear).mono ?_
        rintro e w6 ⟨rfl, hbb⟩
        replace E := E.below hbb
        have HF := Lib.hid (fnd_all HL.out.2)
        have HLE := Lib.hid (fun i hi => t.of_le i hi)
        have hf0 : ((t.epoch : Int) == 0) = fnd t t.epoch 0 := by rw [icb0]; simp [fnd]
        clear hbb
        generalize t.epoch = best at *
        obtain ⟨f0, hf0'⟩ : ∃ f0, f0 = fnd t best 0 := ⟨_, rfl⟩
        rw [← hf0'] at hf0
        have Hf0 := Lib.hid hf0'
        clear hf0'
        go_wp2
        go_loopw [11, 12] (fun fo q wr => ∃ (j : Nat) (fb : Bool), j ≤ 64 ∧ q = .int .i64 j ∧ fo = .bool fb ∧ Hid (fb = fnd t best j) ∧ HEnv w b t wr) (fun _ q _ => 64 - (intOf q).toNat)
        case atStart => exact ⟨0, f0, Nat.zero_le _, rfl, rfl, Hf0.out, E⟩
        case round =>
          clear E Hf0 hf0
          obtain ⟨j, fb, hj, rfl, rfl, hfb, E⟩ := hrel
          by_cases hlt2 : j < 64
          · have hjI : (j : Int) < 64 := by omega
            have HO := fun W (h : HEnv w b t W) => of_ear t HL.out.1 j b W h.ear
            have hsn := fnd_succ t best j
            rw [← hfb.out, hitB] at hsn
            obtain ⟨l1, l2, l3⟩ := HLE.out j hlt2
            generalize t.of (j : Int) = r at *
            obtain ⟨y, ok⟩ := r
            simp only at l1 l2 l3 hsn
            have HO := Lib.hid (fun W (h : HEnv w b t W) => show Calls Tryd.prog 14 #[.pointer (some ⟨b, 0, none⟩), .int .i64 j] W fun e w' => e = .returned (.tuple #[.agg #[.int .u64 y.ce, .int .i64 y.cr, .int .u64 y.pe, .int .i64 y.pr, .int .u64 y.ep], .bool ok]) ∧ Below W.heap.size W w' from HO W h)
            have e1 : ((y.ep : Int) == best) = (y.ep == best) := by rw [Bool.eq_iff_iff]; simp; omega
            have e2 : ((y.ce : Int) == best) = (y.ce == best) := by rw [Bool.eq_iff_iff]; simp; omega
            have e3 : ((y.pe : Int) == best) = (y.pe == best) := by rw [Bool.eq_iff_iff]; simp; omega
            generalize (y.ep == best) = b1 at *
            generalize (y.ce == best) = b2 at *
            generalize (y.pe == best) = b3 at *
            have HSN := Lib.hid hsn
            clear hsn
            have fine : ∀ B : Bool, (fb || (ok && (b1 || (b2 || b3)))) = B → Hid (B = fnd t best (j + 1)) := fun B h => (HSN.out.trans h).symm
            cases fb <;> cases ok <;> cases b1 <;> cases b2 <;> cases b3
            all_goals
              have HB := fine _ rfl
              clear fine HSN
              go_wp2_with fail
              refine (HO.out _ E).mono ?_
              rintro e w8 ⟨rfl, hbb⟩
              replace E := E.below hbb
              clear hbb
              go_wp2
              go_roundw
              case rel => exact ⟨j + 1, _, by omega, by go_num, rfl, HB, E.below ((Below.refl _ _).alloc (Nat.le_refl _) _)⟩
              case measure => simp [intOf]; omega
          · obtain rfl : j = 64 := by omega
            obtain rfl : fb = true := hfb.out.trans HF.out
            go_wp2
            go_roundw
            case rel => exact ⟨k + 1, t, by omega, by go_num, HL, E⟩
            case measure => simp [intOf]; omega
      · go_wp2_with fail
        have hab : b < wr.heap.size := E.ear.lt; have hA := BlkAt.new wr 35 #[.int .i64 kind, .int .i64 p, .int .u64 x.ce, .int .i64 x.cr, .int .u64 x.pe, .int .i64 x.pr, .int .u64 x.ep, .int .u64 sx]; replace E := E.below ((Below.refl _ _).alloc (Nat.le_refl _) (.cells #[.int .i64 kind, .int .i64 p, .int .u64 x.ce, .int .i64 x.cr, .int .u64 x.pe, .int .i64 x.pr, .int .u64 x.ep, .int .u64 sx] 35)); clear c0 c1 c2 c3 c4 c5 c6 c7; generalize wr.alloc _ = w3 at *; generalize wr.heap.size = ab at *
        have HL := step (s.forget sx) (ES.forget_ok HI.out.1 sx) (forgL_fair _ HI.out.2)
        have HN := Lib.hid (forget_any s HI.out.1 sx hsx b _ E.ear E.tab)
        generalize s.forget sx = t at *
        clear step hkd HI
        refine HN.out.mono ?_
        rintro e w5 ⟨rfl, hwin, hkp⟩
        replace E := E.kp hpos hkp hwin
        clear HN hwin hkp hA
        go_wp2_with fail
        refine (epoch_any t b _ E.ear).mono ?_
        rintro e w6 ⟨rfl, hbb⟩
        replace E := E.below hbb
        have HF := Lib.hid (fnd_all HL.out.2)
        have HLE := Lib.hid (fun i hi => t.of_le i hi)
        have hf0 : ((t.epoch : Int) == 0) = fnd t t.epoch 0 := by rw [icb0]; simp [fnd]
        clear hbb
        generalize t.epoch = best at *
        obtain ⟨f0, hf0'⟩ : ∃ f0, f0 = fnd t best 0 := ⟨_, rfl⟩
        rw [← hf0'] at hf0
        have Hf0 := Lib.hid hf0'
        clear hf0'
        go_wp2
        go_loopw [11, 12] (fun fo q wr => ∃ (j : Nat) (fb : Bool), j ≤ 64 ∧ q = .int .i64 j ∧ fo = .bool fb ∧ Hid (fb = fnd t best j) ∧ HEnv w b t wr) (fun _ q _ => 64 - (intOf q).toNat)
        case atStart => exact ⟨0, f0, Nat.zero_le _, rfl, rfl, Hf0.out, E⟩
        case round =>
          clear E Hf0 hf0
          obtain ⟨j, fb, hj, rfl, rfl, hfb, E⟩ := hrel
          by_cases hlt2 : j < 64
          · have hjI : (j : Int) < 64 := by omega
            have HO := fun W (h : HEnv w b t W) => of_ear t HL.out.1 j b W h.ear
            have hsn := fnd_succ t best j
            rw [← hfb.out, hitB] at hsn
            obtain ⟨l1, l2, l3⟩ := HLE.out j hlt2
            generalize t.of (j : Int) = r at *
            obtain ⟨y, ok⟩ := r
            simp only at l1 l2 l3 hsn
            have HO := Lib.hid (fun W (h : HEnv w b t W) => show Calls Tryd.prog 14 #[.pointer (some ⟨b, 0, none⟩), .int .i64 j] W fun e w' => e = .returned (.tuple #[.agg #[.int .u64 y.ce, .int .i64 y.cr, .int .u64 y.pe, .int .i64 y.pr, .int .u64 y.ep], .bool ok]) ∧ Below W.heap.size W w' from HO W h)
            have e1 : ((y.ep : Int) == best) = (y.ep == best) := by rw [Bool.eq_iff_iff]; simp; omega
            have e2 : ((y.ce : Int) == best) = (y.ce == best) := by rw [Bool.eq_iff_iff]; simp; omega
            have e3 : ((y.pe : Int) == best) = (y.pe == best) := by rw [Bool.eq_iff_iff]; simp; omega
            generalize (y.ep == best) = b1 at *
            generalize (y.ce == best) = b2 at *
            generalize (y.pe == best) = b3 at *
            have HSN := Lib.hid hsn
            clear hsn
            have fine : ∀ B : Bool, (fb || (ok && (b1 || (b2 || b3)))) = B → Hid (B = fnd t best (j + 1)) := fun B h => (HSN.out.trans h).symm
            cases fb <;> cases ok <;> cases b1 <;> cases b2 <;> cases b3
            all_goals
              have HB := fine _ rfl
              clear fine HSN
              go_wp2_with fail
              refine (HO.out _ E).mono ?_
              rintro e w8 ⟨rfl, hbb⟩
              replace E := E.below hbb
              clear hbb
              go_wp2
              go_roundw
              case rel => exact ⟨j + 1, _, by omega, by go_num, rfl, HB, E.below ((Below.refl _ _).alloc (Nat.le_refl _) _)⟩
              case measure => simp [intOf]; omega
          · obtain rfl : j = 64 := by omega
            obtain rfl : fb = true := hfb.out.trans HF.out
            go_wp2
            go_roundw
            case rel => exact ⟨k + 1, t, by omega, by go_num, HL, E⟩
            case measure => simp [intOf]; omega
    · go_wp2
      go_ret
      exact ⟨rfl, E.bel⟩
end Go.Proofs.YtpnmhlcbmbpfdaaDoor
