/- the walk of HeardApart -/
import Derived.Test.YtpnmhlcbmbpfdaaDoorHeardL2
import Derived.Deep.RegionHeld3
namespace Go.Proofs.YtpnmhlcbmbpfdaaDoor
open Go.RowKit Go.Sort

/-- Two ears are carried. -/
structure HEnv2 (w0 : World) (b c : Nat) (s t : ES) (W : World) : Prop where
  e : HEnv w0 b s W
  f : HEnv w0 c t W
  ne : b ≠ c
section
variable {w0 W W' : World} {b c : Nat} {s t u : ES}
theorem HEnv2.bel (h : HEnv2 w0 b c s t W) : Below w0.heap.size w0 W := h.e.bel
theorem HEnv2.ear (h : HEnv2 w0 b c s t W) : EarAt W b s := h.e.ear
theorem HEnv2.below (h : HEnv2 w0 b c s t W) (k : Below W.heap.size W W') : HEnv2 w0 b c s t W' := ⟨h.e.below k, h.f.below k, h.ne⟩
theorem HEnv2.kp1 (h : HEnv2 w0 b c s t W) (h0 : 0 < w0.heap.size) (k : Kp b W W') (hw : EarAt W' b u) : HEnv2 w0 b c u t W' :=
  ⟨h.e.kp h0 k hw, h.f.kpo h0 h.e.old (Ne.symm h.ne) k, h.ne⟩
theorem HEnv2.kp2 (h : HEnv2 w0 b c s t W) (h0 : 0 < w0.heap.size) (k : Kp c W W') (hw : EarAt W' c u) : HEnv2 w0 b c s u W' :=
  ⟨h.e.kpo h0 h.f.old h.ne k, h.f.kp h0 k hw, h.ne⟩
end
set_option maxHeartbeats 6400000 in
set_option maxRecDepth 100000 in
theorem apart_main (me m : Int) (q : Nat) (sa : Option Addr) (n c : Nat) (l : List Ac) (w : World) (hT : Tab w) (hq : q < 64) (hr : Rd w 8 sa n c (l.flatMap acF)) (hl : Hid (l.length = n)) (hwf : ∀ x ∈ l, x.s < 18446744073709551616) (hn : n ≤ 100) :
    Calls Tryd.prog 6 #[.int .i64 me, .int .i64 m, .slice sa n c, .int .i64 q] w fun e w' => e = .returned (.bool true) ∧ Below w.heap.size w w' := by
  have hpos := hT.1
  have hqI : (q : Int) ≤ 63 := by omega
  go_enter Tryd.func6, Tryd.ntmps6
  go_wp2_with fail
  refine (awake_any _ hT).mono ?_
  rintro e w1 ⟨rfl, hb1⟩
  have hT1 := hT.below hb1 hpos
  go_wp2_with fail
  refine (ear_new me m 3 _).mono ?_
  rintro e w2 ⟨b, rfl, hb, hwin, hb2⟩
  have E0 : HEnv w b (ES.nw me m 3) w2 := ⟨belS hb1 hb2, Nat.le_trans hb1.size hb, hT1.below hb2 hT1.1, hwin⟩
  clear hwin hb2 hT1 hb1
  go_wp2_with fail
  refine (ear_new me m 3 _).mono ?_
  rintro e w3 ⟨d, rfl, hd, hwin, hb2⟩
  have E : HEnv2 w b d (ES.nw me m 3) (ES.nw me m 3) w3 := ⟨E0.below hb2, ⟨(E0.below hb2).bel, Nat.le_trans E0.bel.size hd, (E0.below hb2).tab, hwin⟩, by have := E0.ear.lt; omega⟩
  clear E0 hwin hb2 hb hd
  have HW := Lib.hid (show (ES.nw me m 3).Ok ∧ (ES.nw me m 3).Ok ∧ (ES.nw me m 3).Apart (ES.nw me m 3) q ∧ (ES.nw me m 3).now = 0 ∧ (ES.nw me m 3).me = me from ⟨ES.nw_ok _ _ _, ES.nw_ok _ _ _, ES.apart_nw _ _ _ _, rfl, rfl⟩)
  generalize ES.nw me m 3 = s0 at *
  go_wp2
  go_loopw [11] (fun i wr => ∃ (k : Nat) (s t : ES), k ≤ n ∧ i = .int .i64 k ∧ Hid (s.Ok ∧ t.Ok ∧ s.Apart t q ∧ s.now ≤ k ∧ t.me = me) ∧ HEnv2 w b d s t wr) (fun i _ => n - (intOf i).toNat)
  case atStart => exact ⟨0, s0, s0, Nat.zero_le _, rfl, ⟨HW.out.1, HW.out.2.1, HW.out.2.2.1, Nat.le_of_eq HW.out.2.2.2.1, HW.out.2.2.2.2⟩, E⟩
  case round =>
    clear E HW
    obtain ⟨k, s, t, hk, rfl, HI, E⟩ := hrel
    by_cases hlt : k < n
    · have hkl : k < l.length := by rw [hl.out]; exact hlt
      obtain ⟨bs, off, rfl, _⟩ := hr.addr (by omega); obtain ⟨c0, c1, c2, c3, c4, c5, c6, c7⟩ := (hr.below E.bel (Nat.le_refl _)).act8 k hkl; have hsx := hwf _ (List.getElem_mem hkl); generalize l[k] = ac at *; obtain ⟨kind, p, x, sx⟩ := ac; simp only at c0 c1 c2 c3 c4 c5 c6 c7 hsx
      have hnt : t.now = s.now := HI.out.2.2.1.now
      have Hnt := Lib.hid hnt
      clear hnt
      by_cases k0 : (kind == 0) = true
      · go_wp2_with fail
        have hab : b < wr.heap.size := E.ear.lt; have hac : d < wr.heap.size := E.f.ear.lt; have hA := BlkAt.new wr 35 #[.int .i64 kind, .int .i64 p, .int .u64 x.ce, .int .i64 x.cr, .int .u64 x.pe, .int .i64 x.pr, .int .u64 x.ep, .int .u64 sx]; replace E := E.below ((Below.refl _ _).alloc (Nat.le_refl _) (.cells #[.int .i64 kind, .int .i64 p, .int .u64 x.ce, .int .i64 x.cr, .int .u64 x.pe, .int .i64 x.pr, .int .u64 x.ep, .int .u64 sx] 35)); clear c0 c1 c2 c3 c4 c5 c6 c7; generalize wr.alloc _ = w3 at *; generalize wr.heap.size = ab at *
        have HL : Hid (s.tick.Ok ∧ t.tick.Ok ∧ s.tick.Apart t.tick q ∧ s.tick.now ≤ k + 1 ∧ t.tick.me = me) := ⟨ES.tick_ok HI.out.1 (by have := HI.out.2.2.2.1; omega), ES.tick_ok HI.out.2.1 (by have := HI.out.2.2.2.1; rw [Hnt.out]; omega), HI.out.2.2.1.tick, Nat.succ_le_succ HI.out.2.2.2.1, HI.out.2.2.2.2⟩
        have H1 := Lib.hid (fun W (h : EarAt W b s) => tick_any s HI.out.1 b W h)
        have H2 := Lib.hid (fun W (h : EarAt W d t) => tick_any t HI.out.2.1 d W h)
        generalize s.tick = s' at *
        generalize t.tick = t' at *
        refine (H1.out _ E.ear).mono ?_
        rintro e w5 ⟨rfl, hwin, hkp⟩
        replace E := E.kp1 hpos hkp hwin
        clear hwin hkp
        go_wp2_with fail
        refine (H2.out _ E.f.ear).mono ?_
        rintro e w6 ⟨rfl, hwin, hkp⟩
        replace E := E.kp2 hpos hkp hwin
        clear hwin hkp H1 H2 hA
        have Hof := Lib.hid (HL.out.2.2.1.of)
        have hrq := HL.out.2.2.1.reach hq
        have hin := HL.out.2.2.1.inn hq
        rw [HL.out.2.2.2.2] at hin
        have HO1 := fun W (h : HEnv2 w b d s' t' W) => of_ear s' HL.out.1 q b W h.ear
        have HO2 := fun W (h : HEnv2 w b d s' t' W) => of_ear t' HL.out.2.1 q d W h.f.ear
        rw [Hof.out] at HO2
        clear Hof
        generalize s'.of (q : Int) = r at *
        obtain ⟨y, ok⟩ := r
        have HO1 := Lib.hid (fun W (h : HEnv2 w b d s' t' W) => show Calls Tryd.prog 14 #[.pointer (some ⟨b, 0, none⟩), .int .i64 q] W fun e w' => e = .returned (.tuple #[.agg #[.int .u64 y.ce, .int .i64 y.cr, .int .u64 y.pe, .int .i64 y.pr, .int .u64 y.ep], .bool ok]) ∧ Below W.heap.size W w' from HO1 W h)
        have HO2 := Lib.hid (fun W (h : HEnv2 w b d s' t' W) => show Calls Tryd.prog 14 #[.pointer (some ⟨d, 0, none⟩), .int .i64 q] W fun e w' => e = .returned (.tuple #[.agg #[.int .u64 y.ce, .int .i64 y.cr, .int .u64 y.pe, .int .i64 y.pr, .int .u64 y.ep], .bool ok]) ∧ Below W.heap.size W w' from HO2 W h)
        have HR1 := Lib.hid (fun W (h : HEnv2 w b d s' t' W) => reach_any s' HL.out.1 b W h.ear h.e.tab)
        have HR2 := Lib.hid (fun W (h : HEnv2 w b d s' t' W) => reach_any t' HL.out.2.1 d W h.f.ear h.e.tab)
        have hl1 := s'.reach_lt
        have hl2 := t'.reach_lt
        generalize s'.reach = r1 at *
        generalize t'.reach = r2 at *
        have HH1 := fun W => has_any r1 q hl1 W
        have HH2 := fun W => has_any r2 q hl2 W
        rw [hrq] at HH2
        generalize hasB r1 q = hb at *
        have HH1 := Lib.hid HH1
        have HH2 := Lib.hid HH2
        have HIn := Lib.hid (fun W => show Calls Tryd.prog 25 #[.int .u64 r2, .int .u64 (withN 0 [me, (q : Int)])] W fun e w' => e = .returned (.bool true) ∧ W = w' from by have := in_any r2 (withN 0 [me, (q : Int)]) hl2 (withN_lt _ (by decide)) W; rwa [hin] at this)
        clear hrq hin
        go_wp2_with fail
        refine (HO1.out _ E).mono ?_
        rintro e x1 ⟨rfl, hbb⟩
        replace E := E.below hbb
        clear hbb
        go_wp2_with fail
        have hB1 := BlkAt.new x1 33 #[.int .u64 y.ce, .int .i64 y.cr, .int .u64 y.pe, .int .i64 y.pr, .int .u64 y.ep]
        replace E := E.below ((Below.refl _ _).alloc (Nat.le_refl _) (.cells #[.int .u64 y.ce, .int .i64 y.cr, .int .u64 y.pe, .int .i64 y.pr, .int .u64 y.ep] 33))
        generalize x1.alloc _ = x2 at *
        generalize x1.heap.size = bb1 at *
        refine (HO2.out _ E).mono ?_
        rintro e x3 ⟨rfl, hbb⟩
        replace E := E.below hbb
        replace hB1 := hB1.below hbb hB1.lt
        clear hbb
        have y0 : x3.cell? ⟨bb1, 0, none⟩ = some (.int .u64 y.ce) := hB1.cell rfl
        have y1 : x3.cell? ⟨bb1, 1, none⟩ = some (.int .i64 y.cr) := hB1.cell rfl
        have y2 : x3.cell? ⟨bb1, 2, none⟩ = some (.int .u64 y.pe) := hB1.cell rfl
        have y3 : x3.cell? ⟨bb1, 3, none⟩ = some (.int .i64 y.pr) := hB1.cell rfl
        have y4 : x3.cell? ⟨bb1, 4, none⟩ = some (.int .u64 y.ep) := hB1.cell rfl
        have hbl1 := hB1.lt
        go_wp2_with fail
        replace E := E.below ((Below.refl _ _).alloc (Nat.le_refl _) (.cells #[.int .u64 y.ce, .int .i64 y.cr, .int .u64 y.pe, .int .i64 y.pr, .int .u64 y.ep] 33))
        clear hB1 y0 y1 y2 y3 y4 hbl1
        generalize x3.alloc _ = x4 at *
        refine (HR1.out _ E).mono ?_
        rintro e x5 ⟨rfl, hbb⟩
        replace E := E.below hbb
        clear hbb
        go_wp2_with fail
        refine (HH1.out _).mono ?_
        rintro e w' ⟨rfl, rfl⟩
        go_wp2_with fail
        refine (HR2.out _ E).mono ?_
        rintro e x6 ⟨rfl, hbb⟩
        replace E := E.below hbb
        clear hbb
        go_wp2_with fail
        refine (HH2.out _).mono ?_
        rintro e w' ⟨rfl, rfl⟩
        go_wp2_with fail
        refine (HR2.out _ E).mono ?_
        rintro e x7 ⟨rfl, hbb⟩
        replace E := E.below hbb
        clear hbb
        go_wp2_with fail
        refine (of_any 2 2 _ [me, (q : Int)] _ (by decide) (Rd.lit (by first | rfl | simp) rfl (by decide))).mono ?_
        rintro e w' ⟨rfl, rfl⟩
        replace E := E.below ((Below.refl _ _).alloc (Nat.le_refl _) (.cells #[.int .i64 me, .int .i64 q] 3))
        go_wp2_with fail
        refine (HIn.out _).mono ?_
        rintro e w' ⟨rfl, rfl⟩
        go_wp2
        go_roundw
        case rel => exact ⟨k + 1, s', t', by omega, by go_num, HL, E⟩
        case measure => simp [intOf]; omega
      have k0 : (kind == 0) = false := by simpa using k0
      by_cases k1 : (kind == 1) = true
      · cases hpq : (p == (q : Int)) with
        | true =>
          obtain rfl : p = q := by simpa using hpq
          go_wp2_with fail
          have hab : b < wr.heap.size := E.ear.lt; have hac : d < wr.heap.size := E.f.ear.lt; have hA := BlkAt.new wr 35 #[.int .i64 kind, .int .i64 (q : Int), .int .u64 x.ce, .int .i64 x.cr, .int .u64 x.pe, .int .i64 x.pr, .int .u64 x.ep, .int .u64 sx]; replace E := E.below ((Below.refl _ _).alloc (Nat.le_refl _) (.cells #[.int .i64 kind, .int .i64 (q : Int), .int .u64 x.ce, .int .i64 x.cr, .int .u64 x.pe, .int .i64 x.pr, .int .u64 x.ep, .int .u64 sx] 35)); clear c0 c1 c2 c3 c4 c5 c6 c7; generalize wr.alloc _ = w3 at *; generalize wr.heap.size = ab at *
          have HL : Hid ((s.hear q).Ok ∧ (t.hear q).Ok ∧ (s.hear q).Apart (t.hear q) q ∧ (s.hear q).now ≤ k + 1 ∧ (t.hear q).me = me) := ⟨ES.hear_ok HI.out.1 _, ES.hear_ok HI.out.2.1 _, HI.out.2.2.1.hear2, by rw [s.now_hear]; exact Nat.le_succ_of_le HI.out.2.2.2.1, (t.same_hear q).me.trans HI.out.2.2.2.2⟩
          have H1 := Lib.hid (fun W (h : EarAt W b s) => hear_any s HI.out.1 q b W h)
          have H2 := Lib.hid (fun W (h : EarAt W d t) => hear_any t HI.out.2.1 q d W h)
          generalize s.hear q = s' at *
          generalize t.hear q = t' at *
          refine (H1.out _ E.ear).mono ?_
          rintro e w5 ⟨rfl, hwin, hkp⟩
          replace E := E.kp1 hpos hkp hwin
          replace hA : BlkAt w5 ab _ _ := hkp.blk hA (by omega)
          clear hwin hkp
          have a1 : w5.cell? ⟨ab, 1, none⟩ = some (.int .i64 q) := hA.cell rfl
          go_wp2_with fail
          refine (H2.out _ E.f.ear).mono ?_
          rintro e w6 ⟨rfl, hwin, hkp⟩
          replace E := E.kp2 hpos hkp hwin
          clear hwin hkp H1 H2 hA a1
          have Hof := Lib.hid (HL.out.2.2.1.of)
          have hrq := HL.out.2.2.1.reach hq
          have hin := HL.out.2.2.1.inn hq
          rw [HL.out.2.2.2.2] at hin
          have HO1 := fun W (h : HEnv2 w b d s' t' W) => of_ear s' HL.out.1 q b W h.ear
          have HO2 := fun W (h : HEnv2 w b d s' t' W) => of_ear t' HL.out.2.1 q d W h.f.ear
          rw [Hof.out] at HO2
          clear Hof
          generalize s'.of (q : Int) = r at *
          obtain ⟨y, ok⟩ := r
          have HO1 := Lib.hid (fun W (h : HEnv2 w b d s' t' W) => show Calls Tryd.prog 14 #[.pointer (some ⟨b, 0, none⟩), .int .i64 q] W fun e w' => e = .returned (.tuple #[.agg #[.int .u64 y.ce, .int .i64 y.cr, .int .u64 y.pe, .int .i64 y.pr, .int .u64 y.ep], .bool ok]) ∧ Below W.heap.size W w' from HO1 W h)
          have HO2 := Lib.hid (fun W (h : HEnv2 w b d s' t' W) => show Calls Tryd.prog 14 #[.pointer (some ⟨d, 0, none⟩), .int .i64 q] W fun e w' => e = .returned (.tuple #[.agg #[.int .u64 y.ce, .int .i64 y.cr, .int .u64 y.pe, .int .i64 y.pr, .int .u64 y.ep], .bool ok]) ∧ Below W.heap.size W w' from HO2 W h)
          have HR1 := Lib.hid (fun W (h : HEnv2 w b d s' t' W) => reach_any s' HL.out.1 b W h.ear h.e.tab)
          have HR2 := Lib.hid (fun W (h : HEnv2 w b d s' t' W) => reach_any t' HL.out.2.1 d W h.f.ear h.e.tab)
          have hl1 := s'.reach_lt
          have hl2 := t'.reach_lt
          generalize s'.reach = r1 at *
          generalize t'.reach = r2 at *
          have HH1 := fun W => has_any r1 q hl1 W
          have HH2 := fun W => has_any r2 q hl2 W
          rw [hrq] at HH2
          generalize hasB r1 q = hb at *
          have HH1 := Lib.hid HH1
          have HH2 := Lib.hid HH2
          have HIn := Lib.hid (fun W => show Calls Tryd.prog 25 #[.int .u64 r2, .int .u64 (withN 0 [me, (q : Int)])] W fun e w' => e = .returned (.bool true) ∧ W = w' from by have := in_any r2 (withN 0 [me, (q : Int)]) hl2 (withN_lt _ (by decide)) W; rwa [hin] at this)
          clear hrq hin
          go_wp2_with fail
          refine (HO1.out _ E).mono ?_
          rintro e x1 ⟨rfl, hbb⟩
          replace E := E.below hbb
          clear hbb
          go_wp2_with fail
          have hB1 := BlkAt.new x1 33 #[.int .u64 y.ce, .int .i64 y.cr, .int .u64 y.pe, .int .i64 y.pr, .int .u64 y.ep]
          replace E := E.below ((Below.refl _ _).alloc (Nat.le_refl _) (.cells #[.int .u64 y.ce, .int .i64 y.cr, .int .u64 y.pe, .int .i64 y.pr, .int .u64 y.ep] 33))
          generalize x1.alloc _ = x2 at *
          generalize x1.heap.size = bb1 at *
          refine (HO2.out _ E).mono ?_
          rintro e x3 ⟨rfl, hbb⟩
          replace E := E.below hbb
          replace hB1 := hB1.below hbb hB1.lt
          clear hbb
          have y0 : x3.cell? ⟨bb1, 0, none⟩ = some (.int .u64 y.ce) := hB1.cell rfl
          have y1 : x3.cell? ⟨bb1, 1, none⟩ = some (.int .i64 y.cr) := hB1.cell rfl
          have y2 : x3.cell? ⟨bb1, 2, none⟩ = some (.int .u64 y.pe) := hB1.cell rfl
          have y3 : x3.cell? ⟨bb1, 3, none⟩ = some (.int .i64 y.pr) := hB1.cell rfl
          have y4 : x3.cell? ⟨bb1, 4, none⟩ = some (.int .u64 y.ep) := hB1.cell rfl
          have hbl1 := hB1.lt
          go_wp2_with fail
          replace E := E.below ((Below.refl _ _).alloc (Nat.le_refl _) (.cells #[.int .u64 y.ce, .int .i64 y.cr, .int .u64 y.pe, .int .i64 y.pr, .int .u64 y.ep] 33))
          clear hB1 y0 y1 y2 y3 y4 hbl1
          generalize x3.alloc _ = x4 at *
          refine (HR1.out _ E).mono ?_
          rintro e x5 ⟨rfl, hbb⟩
          replace E := E.below hbb
          clear hbb
          go_wp2_with fail
          refine (HH1.out _).mono ?_
          rintro e w' ⟨rfl, rfl⟩
          go_wp2_with fail
          refine (HR2.out _ E).mono ?_
          rintro e x6 ⟨rfl, hbb⟩
          replace E := E.below hbb
          clear hbb
          go_wp2_with fail
          refine (HH2.out _).mono ?_
          rintro e w' ⟨rfl, rfl⟩
          go_wp2_with fail
          refine (HR2.out _ E).mono ?_
          rintro e x7 ⟨rfl, hbb⟩
          replace E := E.below hbb
          clear hbb
          go_wp2_with fail
          refine (of_any 2 2 _ [me, (q : Int)] _ (by decide) (Rd.lit (by first | rfl | simp) rfl (by decide))).mono ?_
          rintro e w' ⟨rfl, rfl⟩
          replace E := E.below ((Below.refl _ _).alloc (Nat.le_refl _) (.cells #[.int .i64 me, .int .i64 q] 3))
          go_wp2_with fail
          refine (HIn.out _).mono ?_
          rintro e w' ⟨rfl, rfl⟩
          go_wp2
          go_roundw
          case rel => exact ⟨k + 1, s', t', by omega, by go_num, HL, E⟩
          case measure => simp [intOf]; omega
        | false =>
          have hpn : p ≠ q := by simpa using hpq
          go_wp2_with fail
          have hab : b < wr.heap.size := E.ear.lt; have hac : d < wr.heap.size := E.f.ear.lt; have hA := BlkAt.new wr 35 #[.int .i64 kind, .int .i64 p, .int .u64 x.ce, .int .i64 x.cr, .int .u64 x.pe, .int .i64 x.pr, .int .u64 x.ep, .int .u64 sx]; replace E := E.below ((Below.refl _ _).alloc (Nat.le_refl _) (.cells #[.int .i64 kind, .int .i64 p, .int .u64 x.ce, .int .i64 x.cr, .int .u64 x.pe, .int .i64 x.pr, .int .u64 x.ep, .int .u64 sx] 35)); clear c0 c1 c2 c3 c4 c5 c6 c7; generalize wr.alloc _ = w3 at *; generalize wr.heap.size = ab at *
          have HL : Hid ((s.hear p).Ok ∧ t.Ok ∧ (s.hear p).Apart t q ∧ (s.hear p).now ≤ k + 1 ∧ t.me = me) := ⟨ES.hear_ok HI.out.1 _, HI.out.2.1, HI.out.2.2.1.hear1 p hpn, by rw [s.now_hear]; exact Nat.le_succ_of_le HI.out.2.2.2.1, HI.out.2.2.2.2⟩
          have H1 := Lib.hid (fun W (h : EarAt W b s) => hear_any s HI.out.1 p b W h)
          generalize s.hear p = s' at *
          clear hpn
          refine (H1.out _ E.ear).mono ?_
          rintro e w5 ⟨rfl, hwin, hkp⟩
          replace E := E.kp1 hpos hkp hwin
          replace hA : BlkAt w5 ab _ _ := hkp.blk hA (by omega)
          clear hwin hkp
          have a1 : w5.cell? ⟨ab, 1, none⟩ = some (.int .i64 p) := hA.cell rfl
          clear hA H1
          obtain ⟨t', Ht'⟩ : ∃ t', Hid (t' = t) := ⟨t, rfl⟩
          replace E : HEnv2 w b d s' t' w5 := by rw [Ht'.out]; exact E
          replace HL : Hid (s'.Ok ∧ t'.Ok ∧ s'.Apart t' q ∧ s'.now ≤ k + 1 ∧ t'.me = me) := by rw [Ht'.out]; exact HL
          have Hof := Lib.hid (HL.out.2.2.1.of)
          have hrq := HL.out.2.2.1.reach hq
          have hin := HL.out.2.2.1.inn hq
          rw [HL.out.2.2.2.2] at hin
          have HO1 := fun W (h : HEnv2 w b d s' t' W) => of_ear s' HL.out.1 q b W h.ear
          have HO2 := fun W (h : HEnv2 w b d s' t' W) => of_ear t' HL.out.2.1 q d W h.f.ear
          rw [Hof.out] at HO2
          clear Hof
          generalize s'.of (q : Int) = r at *
          obtain ⟨y, ok⟩ := r
          have HO1 := Lib.hid (fun W (h : HEnv2 w b d s' t' W) => show Calls Tryd.prog 14 #[.pointer (some ⟨b, 0, none⟩), .int .i64 q] W fun e w' => e = .returned (.tuple #[.agg #[.int .u64 y.ce, .int .i64 y.cr, .int .u64 y.pe, .int .i64 y.pr, .int .u64 y.ep], .bool ok]) ∧ Below W.heap.size W w' from HO1 W h)
          have HO2 := Lib.hid (fun W (h : HEnv2 w b d s' t' W) => show Calls Tryd.prog 14 #[.pointer (some ⟨d, 0, none⟩), .int .i64 q] W fun e w' => e = .returned (.tuple #[.agg #[.int .u64 y.ce, .int .i64 y.cr, .int .u64 y.pe, .int .i64 y.pr, .int .u64 y.ep], .bool ok]) ∧ Below W.heap.size W w' from HO2 W h)
          have HR1 := Lib.hid (fun W (h : HEnv2 w b d s' t' W) => reach_any s' HL.out.1 b W h.ear h.e.tab)
          have HR2 := Lib.hid (fun W (h : HEnv2 w b d s' t' W) => reach_any t' HL.out.2.1 d W h.f.ear h.e.tab)
          have hl1 := s'.reach_lt
          have hl2 := t'.reach_lt
          generalize s'.reach = r1 at *
          generalize t'.reach = r2 at *
          have HH1 := fun W => has_any r1 q hl1 W
          have HH2 := fun W => has_any r2 q hl2 W
          rw [hrq] at HH2
          generalize hasB r1 q = hb at *
          have HH1 := Lib.hid HH1
          have HH2 := Lib.hid HH2
          have HIn := Lib.hid (fun W => show Calls Tryd.prog 25 #[.int .u64 r2, .int .u64 (withN 0 [me, (q : Int)])] W fun e w' => e = .returned (.bool true) ∧ W = w' from by have := in_any r2 (withN 0 [me, (q : Int)]) hl2 (withN_lt _ (by decide)) W; rwa [hin] at this)
          clear hrq hin
          go_wp2_with fail
          refine (HO1.out _ E).mono ?_
          rintro e x1 ⟨rfl, hbb⟩
          replace E := E.below hbb
          clear hbb
          go_wp2_with fail
          have hB1 := BlkAt.new x1 33 #[.int .u64 y.ce, .int .i64 y.cr, .int .u64 y.pe, .int .i64 y.pr, .int .u64 y.ep]
          replace E := E.below ((Below.refl _ _).alloc (Nat.le_refl _) (.cells #[.int .u64 y.ce, .int .i64 y.cr, .int .u64 y.pe, .int .i64 y.pr, .int .u64 y.ep] 33))
          generalize x1.alloc _ = x2 at *
          generalize x1.heap.size = bb1 at *
          refine (HO2.out _ E).mono ?_
          rintro e x3 ⟨rfl, hbb⟩
          replace E := E.below hbb
          replace hB1 := hB1.below hbb hB1.lt
          clear hbb
          have y0 : x3.cell? ⟨bb1, 0, none⟩ = some (.int .u64 y.ce) := hB1.cell rfl
          have y1 : x3.cell? ⟨bb1, 1, none⟩ = some (.int .i64 y.cr) := hB1.cell rfl
          have y2 : x3.cell? ⟨bb1, 2, none⟩ = some (.int .u64 y.pe) := hB1.cell rfl
          have y3 : x3.cell? ⟨bb1, 3, none⟩ = some (.int .i64 y.pr) := hB1.cell rfl
          have y4 : x3.cell? ⟨bb1, 4, none⟩ = some (.int .u64 y.ep) := hB1.cell rfl
          have hbl1 := hB1.lt
          go_wp2_with fail
          replace E := E.below ((Below.refl _ _).alloc (Nat.le_refl _) (.cells #[.int .u64 y.ce, .int .i64 y.cr, .int .u64 y.pe, .int .i64 y.pr, .int .u64 y.ep] 33))
          clear hB1 y0 y1 y2 y3 y4 hbl1
          generalize x3.alloc _ = x4 at *
          refine (HR1.out _ E).mono ?_
          rintro e x5 ⟨rfl, hbb⟩
          replace E := E.below hbb
          clear hbb
          go_wp2_with fail
          refine (HH1.out _).mono ?_
          rintro e w' ⟨rfl, rfl⟩
          go_wp2_with fail
          refine (HR2.out _ E).mono ?_
          rintro e x6 ⟨rfl, hbb⟩
          replace E := E.below hbb
          clear hbb
          go_wp2_with fail
          refine (HH2.out _).mono ?_
          rintro e w' ⟨rfl, rfl⟩
          go_wp2_with fail
          refine (HR2.out _ E).mono ?_
          rintro e x7 ⟨rfl, hbb⟩
          replace E := E.below hbb
          clear hbb
          go_wp2_with fail
          refine (of_any 2 2 _ [me, (q : Int)] _ (by decide) (Rd.lit (by first | rfl | simp) rfl (by decide))).mono ?_
          rintro e w' ⟨rfl, rfl⟩
          replace E := E.below ((Below.refl _ _).alloc (Nat.le_refl _) (.cells #[.int .i64 me, .int .i64 q] 3))
          go_wp2_with fail
          refine (HIn.out _).mono ?_
          rintro e w' ⟨rfl, rfl⟩
          go_wp2
          go_roundw
          case rel => exact ⟨k + 1, s', t', by omega, by go_num, HL, E⟩
          case measure => simp [intOf]; omega
      have k1 : (kind == 1) = false := by simpa using k1
      by_cases k2 : (kind == 2) = true
      · cases hpq : (p == (q : Int)) with
        | true =>
          obtain rfl : p = q := by simpa using hpq
          go_wp2_with fail
          have hab : b < wr.heap.size := E.ear.lt; have hac : d < wr.heap.size := E.f.ear.lt; have hA := BlkAt.new wr 35 #[.int .i64 kind, .int .i64 (q : Int), .int .u64 x.ce, .int .i64 x.cr, .int .u64 x.pe, .int .i64 x.pr, .int .u64 x.ep, .int .u64 sx]; replace E := E.below ((Below.refl _ _).alloc (Nat.le_refl _) (.cells #[.int .i64 kind, .int .i64 (q : Int), .int .u64 x.ce, .int .i64 x.cr, .int .u64 x.pe, .int .i64 x.pr, .int .u64 x.ep, .int .u64 sx] 35)); clear c0 c1 c2 c3 c4 c5 c6 c7; generalize wr.alloc _ = w3 at *; generalize wr.heap.size = ab at *
          have HL : Hid ((s.beat q x).Ok ∧ (t.beat q x).Ok ∧ (s.beat q x).Apart (t.beat q x) q ∧ (s.beat q x).now ≤ k + 1 ∧ (t.beat q x).me = me) := ⟨ES.beat_ok HI.out.1 _ _, ES.beat_ok HI.out.2.1 _ _, HI.out.2.2.1.beat2 x, by rw [s.now_beat]; exact Nat.le_succ_of_le HI.out.2.2.2.1, (t.same_beat q x).me.trans HI.out.2.2.2.2⟩
          have H1 := Lib.hid (fun W (h : EarAt W b s) => beat_any s HI.out.1 q x b W h)
          have H2 := Lib.hid (fun W (h : EarAt W d t) => beat_any t HI.out.2.1 q x d W h)
          generalize s.beat q x = s' at *
          generalize t.beat q x = t' at *
          refine (H1.out _ E.ear).mono ?_
          rintro e w5 ⟨rfl, hwin, hkp⟩
          replace E := E.kp1 hpos hkp hwin
          replace hA : BlkAt w5 ab _ _ := hkp.blk hA (by omega)
          clear hwin hkp
          have a1 : w5.cell? ⟨ab, 1, none⟩ = some (.int .i64 q) := hA.cell rfl
          have a2 : w5.cell? ⟨ab, 2, none⟩ = some (.int .u64 x.ce) := hA.cell rfl
          have a3 : w5.cell? ⟨ab, 3, none⟩ = some (.int .i64 x.cr) := hA.cell rfl
          have a4 : w5.cell? ⟨ab, 4, none⟩ = some (.int .u64 x.pe) := hA.cell rfl
          have a5 : w5.cell? ⟨ab, 5, none⟩ = some (.int .i64 x.pr) := hA.cell rfl
          have a6 : w5.cell? ⟨ab, 6, none⟩ = some (.int .u64 x.ep) := hA.cell rfl
          go_wp2_with fail
          refine (H2.out _ E.f.ear).mono ?_
          rintro e w6 ⟨rfl, hwin, hkp⟩
          replace E := E.kp2 hpos hkp hwin
          clear hwin hkp H1 H2 hA a1 a2 a3 a4 a5 a6
          have Hof := Lib.hid (HL.out.2.2.1.of)
          have hrq := HL.out.2.2.1.reach hq
          have hin := HL.out.2.2.1.inn hq
          rw [HL.out.2.2.2.2] at hin
          have HO1 := fun W (h : HEnv2 w b d s' t' W) => of_ear s' HL.out.1 q b W h.ear
          have HO2 := fun W (h : HEnv2 w b d s' t' W) => of_ear t' HL.out.2.1 q d W h.f.ear
          rw [Hof.out] at HO2
          clear Hof
          generalize s'.of (q : Int) = r at *
          obtain ⟨y, ok⟩ := r
          have HO1 := Lib.hid (fun W (h : HEnv2 w b d s' t' W) => show Calls Tryd.prog 14 #[.pointer (some ⟨b, 0, none⟩), .int .i64 q] W fun e w' => e = .returned (.tuple #[.agg #[.int .u64 y.ce, .int .i64 y.cr, .int .u64 y.pe, .int .i64 y.pr, .int .u64 y.ep], .bool ok]) ∧ Below W.heap.size W w' from HO1 W h)
          have HO2 := Lib.hid (fun W (h : HEnv2 w b d s' t' W) => show Calls Tryd.prog 14 #[.pointer (some ⟨d, 0, none⟩), .int .i64 q] W fun e w' => e = .returned (.tuple #[.agg #[.int .u64 y.ce, .int .i64 y.cr, .int .u64 y.pe, .int .i64 y.pr, .int .u64 y.ep], .bool ok]) ∧ Below W.heap.size W w' from HO2 W h)
          have HR1 := Lib.hid (fun W (h : HEnv2 w b d s' t' W) => reach_any s' HL.out.1 b W h.ear h.e.tab)
          have HR2 := Lib.hid (fun W (h : HEnv2 w b d s' t' W) => reach_any t' HL.out.2.1 d W h.f.ear h.e.tab)
          have hl1 := s'.reach_lt
          have hl2 := t'.reach_lt
          generalize s'.reach = r1 at *
          generalize t'.reach = r2 at *
          have HH1 := fun W => has_any r1 q hl1 W
          have HH2 := fun W => has_any r2 q hl2 W
          rw [hrq] at HH2
          generalize hasB r1 q = hb at *
          have HH1 := Lib.hid HH1
          have HH2 := Lib.hid HH2
          have HIn := Lib.hid (fun W => show Calls Tryd.prog 25 #[.int .u64 r2, .int .u64 (withN 0 [me, (q : Int)])] W fun e w' => e = .returned (.bool true) ∧ W = w' from by have := in_any r2 (withN 0 [me, (q : Int)]) hl2 (withN_lt _ (by decide)) W; rwa [hin] at this)
          clear hrq hin
          go_wp2_with fail
          refine (HO1.out _ E).mono ?_
          rintro e x1 ⟨rfl, hbb⟩
          replace E := E.below hbb
          clear hbb
          go_wp2_with fail
          have hB1 := BlkAt.new x1 33 #[.int .u64 y.ce, .int .i64 y.cr, .int .u64 y.pe, .int .i64 y.pr, .int .u64 y.ep]
          replace E := E.below ((Below.refl _ _).alloc (Nat.le_refl _) (.cells #[.int .u64 y.ce, .int .i64 y.cr, .int .u64 y.pe, .int .i64 y.pr, .int .u64 y.ep] 33))
          generalize x1.alloc _ = x2 at *
          generalize x1.heap.size = bb1 at *
          refine (HO2.out _ E).mono ?_
          rintro e x3 ⟨rfl, hbb⟩
          replace E := E.below hbb
          replace hB1 := hB1.below hbb hB1.lt
          clear hbb
          have y0 : x3.cell? ⟨bb1, 0, none⟩ = some (.int .u64 y.ce) := hB1.cell rfl
          have y1 : x3.cell? ⟨bb1, 1, none⟩ = some (.int .i64 y.cr) := hB1.cell rfl
          have y2 : x3.cell? ⟨bb1, 2, none⟩ = some (.int .u64 y.pe) := hB1.cell rfl
          have y3 : x3.cell? ⟨bb1, 3, none⟩ = some (.int .i64 y.pr) := hB1.cell rfl
          have y4 : x3.cell? ⟨bb1, 4, none⟩ = some (.int .u64 y.ep) := hB1.cell rfl
          have hbl1 := hB1.lt
          go_wp2_with fail
          replace E := E.below ((Below.refl _ _).alloc (Nat.le_refl _) (.cells #[.int .u64 y.ce, .int .i64 y.cr, .int .u64 y.pe, .int .i64 y.pr, .int .u64 y.ep] 33))
          clear hB1 y0 y1 y2 y3 y4 hbl1
          generalize x3.alloc _ = x4 at *
          refine (HR1.out _ E).mono ?_
          rintro e x5 ⟨rfl, hbb⟩
          replace E := E.below hbb
          clear hbb
          go_wp2_with fail
          refine (HH1.out _).mono ?_
          rintro e w' ⟨rfl, rfl⟩
          go_wp2_with fail
          refine (HR2.out _ E).mono ?_
          rintro e x6 ⟨rfl, hbb⟩
          replace E := E.below hbb
          clear hbb
          go_wp2_with fail
          refine (HH2.out _).mono ?_
          rintro e w' ⟨rfl, rfl⟩
          go_wp2_with fail
          refine (HR2.out _ E).mono ?_
          rintro e x7 ⟨rfl, hbb⟩
          replace E := E.below hbb
          clear hbb
          go_wp2_with fail
          refine (of_any 2 2 _ [me, (q : Int)] _ (by decide) (Rd.lit (by first | rfl | simp) rfl (by decide))).mono ?_
          rintro e w' ⟨rfl, rfl⟩
          replace E := E.below ((Below.refl _ _).alloc (Nat.le_refl _) (.cells #[.int .i64 me, .int .i64 q] 3))
          go_wp2_with fail
          refine (HIn.out _).mono ?_
          rintro e w' ⟨rfl, rfl⟩
          go_wp2
          go_roundw
          case rel => exact ⟨k + 1, s', t', by omega, by go_num, HL, E⟩
          case measure => simp [intOf]; omega
        | false =>
          have hpn : p ≠ q := by simpa using hpq
          go_wp2_with fail
          have hab : b < wr.heap.size := E.ear.lt; have hac : d < wr.heap.size := E.f.ear.lt; have hA := BlkAt.new wr 35 #[.int .i64 kind, .int .i64 p, .int .u64 x.ce, .int .i64 x.cr, .int .u64 x.pe, .int .i64 x.pr, .int .u64 x.ep, .int .u64 sx]; replace E := E.below ((Below.refl _ _).alloc (Nat.le_refl _) (.cells #[.int .i64 kind, .int .i64 p, .int .u64 x.ce, .int .i64 x.cr, .int .u64 x.pe, .int .i64 x.pr, .int .u64 x.ep, .int .u64 sx] 35)); clear c0 c1 c2 c3 c4 c5 c6 c7; generalize wr.alloc _ = w3 at *; generalize wr.heap.size = ab at *
          have HL : Hid ((s.beat p x).Ok ∧ t.Ok ∧ (s.beat p x).Apart t q ∧ (s.beat p x).now ≤ k + 1 ∧ t.me = me) := ⟨ES.beat_ok HI.out.1 _ _, HI.out.2.1, HI.out.2.2.1.beat1 p x hpn, by rw [s.now_beat]; exact Nat.le_succ_of_le HI.out.2.2.2.1, HI.out.2.2.2.2⟩
          have H1 := Lib.hid (fun W (h : EarAt W b s) => beat_any s HI.out.1 p x b W h)
          generalize s.beat p x = s' at *
          clear hpn
          refine (H1.out _ E.ear).mono ?_
          rintro e w5 ⟨rfl, hwin, hkp⟩
          replace E := E.kp1 hpos hkp hwin
          replace hA : BlkAt w5 ab _ _ := hkp.blk hA (by omega)
          clear hwin hkp
          have a1 : w5.cell? ⟨ab, 1, none⟩ = some (.int .i64 p) := hA.cell rfl
          clear hA H1
          obtain ⟨t', Ht'⟩ : ∃ t', Hid (t' = t) := ⟨t, rfl⟩
          replace E : HEnv2 w b d s' t' w5 := by rw [Ht'.out]; exact E
          replace HL : Hid (s'.Ok ∧ t'.Ok ∧ s'.Apart t' q ∧ s'.now ≤ k + 1 ∧ t'.me = me) := by rw [Ht'.out]; exact HL
          have Hof := Lib.hid (HL.out.2.2.1.of)
          have hrq := HL.out.2.2.1.reach hq
          have hin := HL.out.2.2.1.inn hq
          rw [HL.out.2.2.2.2] at hin
          have HO1 := fun W (h : HEnv2 w b d s' t' W) => of_ear s' HL.out.1 q b W h.ear
          have HO2 := fun W (h : HEnv2 w b d s' t' W) => of_ear t' HL.out.2.1 q d W h.f.ear
          rw [Hof.out] at HO2
          clear Hof
          generalize s'.of (q : Int) = r at *
          obtain ⟨y, ok⟩ := r
          have HO1 := Lib.hid (fun W (h : HEnv2 w b d s' t' W) => show Calls Tryd.prog 14 #[.pointer (some ⟨b, 0, none⟩), .int .i64 q] W fun e w' => e = .returned (.tuple #[.agg #[.int .u64 y.ce, .int .i64 y.cr, .int .u64 y.pe, .int .i64 y.pr, .int .u64 y.ep], .bool ok]) ∧ Below W.heap.size W w' from HO1 W h)
          have HO2 := Lib.hid (fun W (h : HEnv2 w b d s' t' W) => show Calls Tryd.prog 14 #[.pointer (some ⟨d, 0, none⟩), .int .i64 q] W fun e w' => e = .returned (.tuple #[.agg #[.int .u64 y.ce, .int .i64 y.cr, .int .u64 y.pe, .int .i64 y.pr, .int .u64 y.ep], .bool ok]) ∧ Below W.heap.size W w' from HO2 W h)
          have HR1 := Lib.hid (fun W (h : HEnv2 w b d s' t' W) => reach_any s' HL.out.1 b W h.ear h.e.tab)
          have HR2 := Lib.hid (fun W (h : HEnv2 w b d s' t' W) => reach_any t' HL.out.2.1 d W h.f.ear h.e.tab)
          have hl1 := s'.reach_lt
          have hl2 := t'.reach_lt
          generalize s'.reach = r1 at *
          generalize t'.reach = r2 at *
          have HH1 := fun W => has_any r1 q hl1 W
          have HH2 := fun W => has_any r2 q hl2 W
          rw [hrq] at HH2
          generalize hasB r1 q = hb at *
          have HH1 := Lib.hid HH1
          have HH2 := Lib.hid HH2
          have HIn := Lib.hid (fun W => show Calls Tryd.prog 25 #[.int .u64 r2, .int .u64 (withN 0 [me, (q : Int)])] W fun e w' => e = .returned (.bool true) ∧ W = w' from by have := in_any r2 (withN 0 [me, (q : Int)]) hl2 (withN_lt _ (by decide)) W; rwa [hin] at this)
          clear hrq hin
          go_wp2_with fail
          refine (HO1.out _ E).mono ?_
          rintro e x1 ⟨rfl, hbb⟩
          replace E := E.below hbb
          clear hbb
          go_wp2_with fail
          have hB1 := BlkAt.new x1 33 #[.int .u64 y.ce, .int .i64 y.cr, .int .u64 y.pe, .int .i64 y.pr, .int .u64 y.ep]
          replace E := E.below ((Below.refl _ _).alloc (Nat.le_refl _) (.cells #[.int .u64 y.ce, .int .i64 y.cr, .int .u64 y.pe, .int .i64 y.pr, .int .u64 y.ep] 33))
          generalize x1.alloc _ = x2 at *
          generalize x1.heap.size = bb1 at *
          refine (HO2.out _ E).mono ?_
          rintro e x3 ⟨rfl, hbb⟩
          replace E := E.below hbb
          replace hB1 := hB1.below hbb hB1.lt
          clear hbb
          have y0 : x3.cell? ⟨bb1, 0, none⟩ = some (.int .u64 y.ce) := hB1.cell rfl
          have y1 : x3.cell? ⟨bb1, 1, none⟩ = some (.int .i64 y.cr) := hB1.cell rfl
          have y2 : x3.cell? ⟨bb1, 2, none⟩ = some (.int .u64 y.pe) := hB1.cell rfl
          have y3 : x3.cell? ⟨bb1, 3, none⟩ = some (.int .i64 y.pr) := hB1.cell rfl
          have y4 : x3.cell? ⟨bb1, 4, none⟩ = some (.int .u64 y.ep) := hB1.cell rfl
          have hbl1 := hB1.lt
          go_wp2_with fail
          replace E := E.below ((Below.refl _ _).alloc (Nat.le_refl _) (.cells #[.int .u64 y.ce, .int .i64 y.cr, .int .u64 y.pe, .int .i64 y.pr, .int .u64 y.ep] 33))
          clear hB1 y0 y1 y2 y3 y4 hbl1
          generalize x3.alloc _ = x4 at *
          refine (HR1.out _ E).mono ?_
          rintro e x5 ⟨rfl, hbb⟩
          replace E := E.below hbb
          clear hbb
          go_wp2_with fail
          refine (HH1.out _).mono ?_
          rintro e w' ⟨rfl, rfl⟩
          go_wp2_with fail
          refine (HR2.out _ E).mono ?_
          rintro e x6 ⟨rfl, hbb⟩
          replace E := E.below hbb
          clear hbb
          go_wp2_with fail
          refine (HH2.out _).mono ?_
          rintro e w' ⟨rfl, rfl⟩
          go_wp2_with fail
          refine (HR2.out _ E).mono ?_
          rintro e x7 ⟨rfl, hbb⟩
          replace E := E.below hbb
          clear hbb
          go_wp2_with fail
          refine (of_any 2 2 _ [me, (q : Int)] _ (by decide) (Rd.lit (by first | rfl | simp) rfl (by decide))).mono ?_
          rintro e w' ⟨rfl, rfl⟩
          replace E := E.below ((Below.refl _ _).alloc (Nat.le_refl _) (.cells #[.int .i64 me, .int .i64 q] 3))
          go_wp2_with fail
          refine (HIn.out _).mono ?_
          rintro e w' ⟨rfl, rfl⟩
          go_wp2
          go_roundw
          case rel => exact ⟨k + 1, s', t', by omega, by go_num, HL, E⟩
          case measure => simp [intOf]; omega
      have k2 : (kind == 2) = false := by simpa using k2
      by_cases k3 : (kind == 3) = true
      · go_wp2_with fail
        have hab : b < wr.heap.size := E.ear.lt; have hac : d < wr.heap.size := E.f.ear.lt; have hA := BlkAt.new wr 35 #[.int .i64 kind, .int .i64 p, .int .u64 x.ce, .int .i64 x.cr, .int .u64 x.pe, .int .i64 x.pr, .int .u64 x.ep, .int .u64 sx]; replace E := E.below ((Below.refl _ _).alloc (Nat.le_refl _) (.cells #[.int .i64 kind, .int .i64 p, .int .u64 x.ce, .int .i64 x.cr, .int .u64 x.pe, .int .i64 x.pr, .int .u64 x.ep, .int .u64 sx] 35)); clear c0 c1 c2 c3 c4 c5 c6 c7; generalize wr.alloc _ = w3 at *; generalize wr.heap.size = ab at *
        have hbl := and_lt sx (bitN q) hsx
        have HL : Hid ((s.forget sx).Ok ∧ (t.forget (sx &&& bitN q)).Ok ∧ (s.forget sx).Apart (t.forget (sx &&& bitN q)) q ∧ (s.forget sx).now ≤ k + 1 ∧ (t.forget (sx &&& bitN q)).me = me) := ⟨ES.forget_ok HI.out.1 _, ES.forget_ok HI.out.2.1 _, HI.out.2.2.1.forget hq sx, by rw [s.now_forget]; exact Nat.le_succ_of_le HI.out.2.2.2.1, (t.same_forget _).me.trans HI.out.2.2.2.2⟩
        have H1 := Lib.hid (fun W (h : EarAt W b s) hT => forget_any s HI.out.1 sx hsx b W h hT)
        have H2 := Lib.hid (fun W (h : EarAt W d t) hT => forget_any t HI.out.2.1 (sx &&& bitN q) hbl d W h hT)
        have HB := Lib.hid (fun W => both_any sx (bitN q) hsx (bitN_lt q) W)
        generalize t.forget (sx &&& bitN q) = t' at *
        generalize s.forget sx = s' at *
        generalize sx &&& bitN q = sy at *
        refine (H1.out _ E.ear E.e.tab).mono ?_
        rintro e w5 ⟨rfl, hwin, hkp⟩
        replace E := E.kp1 hpos hkp hwin
        replace hA : BlkAt w5 ab _ _ := hkp.blk hA (by omega)
        clear hwin hkp H1
        have a3c : w5.cell? ⟨ab, 7, none⟩ = some (.int .u64 sx) := hA.cell rfl
        have hO := Lib.hid (fun W h => of_any 1 1 (some ⟨w5.heap.size, 0, none⟩) [(q : Int)] W (by decide) h)
        rw [show withN 0 [(q : Int)] = bitN q from by simp [withN]] at hO
        have bd1 : Below w5.heap.size w5 (w5.alloc (.cells #[.int .i64 q] 3)).drew := Below.drew ((Below.refl _ _).alloc (Nat.le_refl _) _)
        have rd1 : Rd (w5.alloc (.cells #[.int .i64 q] 3)).drew 1 (some ⟨w5.heap.size, 0, none⟩) 1 1 ([(q : Int)].map (Value.int .i64)) := Rd.below (Rd.one (w := w5) rfl) (Below.drew (Below.refl _ _)) (Nat.le_refl _)
        have cc : (w5.alloc (.cells #[.int .i64 q] 3)).drew.cell? ⟨ab, 7, none⟩ = some (.int .u64 sx) := (hA.below bd1 hA.lt).cell rfl
        have cd : w5.drew.cell? ⟨ab, 7, none⟩ = some (.int .u64 sx) := a3c
        have EB := E.below bd1
        go_wp2
        go_region_held3 (fun W => W.cell? ⟨ab, 7, none⟩ = some (.int .u64 sx)) (first | assumption | exact (hkp.blk (hA.below bd1 hA.lt) (by omega)).cell rfl)
          (first
            | (go_at_call 23; refine (hO.out _ rd1).mono ?_; rintro e w' ⟨rfl, rfl⟩)
            | (go_at_call 24; refine (HB.out _).mono ?_; rintro e w' ⟨rfl, rfl⟩)
            | (go_at_call 13; refine (H2.out _ EB.f.ear EB.e.tab).mono ?_; rintro e w6 ⟨rfl, hwin, hkp⟩))
        replace E := EB.kp2 hpos hkp hwin
        clear hwin hkp H2 hA EB a3c hO bd1 rd1 cc cd HB
        have Hof := Lib.hid (HL.out.2.2.1.of)
        have hrq := HL.out.2.2.1.reach hq
        have hin := HL.out.2.2.1.inn hq
        rw [HL.out.2.2.2.2] at hin
        have HO1 := fun W (h : HEnv2 w b d s' t' W) => of_ear s' HL.out.1 q b W h.ear
        have HO2 := fun W (h : HEnv2 w b d s' t' W) => of_ear t' HL.out.2.1 q d W h.f.ear
        rw [Hof.out] at HO2
        clear Hof
        generalize s'.of (q : Int) = r at *
        obtain ⟨y, ok⟩ := r
        have HO1 := Lib.hid (fun W (h : HEnv2 w b d s' t' W) => show Calls Tryd.prog 14 #[.pointer (some ⟨b, 0, none⟩), .int .i64 q] W fun e w' => e = .returned (.tuple #[.agg #[.int .u64 y.ce, .int .i64 y.cr, .int .u64 y.pe, .int .i64 y.pr, .int .u64 y.ep], .bool ok]) ∧ Below W.heap.size W w' from HO1 W h)
        have HO2 := Lib.hid (fun W (h : HEnv2 w b d s' t' W) => show Calls Tryd.prog 14 #[.pointer (some ⟨d, 0, none⟩), .int .i64 q] W fun e w' => e = .returned (.tuple #[.agg #[.int .u64 y.ce, .int .i64 y.cr, .int .u64 y.pe, .int .i64 y.pr, .int .u64 y.ep], .bool ok]) ∧ Below W.heap.size W w' from HO2 W h)
        have HR1 := Lib.hid (fun W (h : HEnv2 w b d s' t' W) => reach_any s' HL.out.1 b W h.ear h.e.tab)
        have HR2 := Lib.hid (fun W (h : HEnv2 w b d s' t' W) => reach_any t' HL.out.2.1 d W h.f.ear h.e.tab)
        have hl1 := s'.reach_lt
        have hl2 := t'.reach_lt
        generalize s'.reach = r1 at *
        generalize t'.reach = r2 at *
        have HH1 := fun W => has_any r1 q hl1 W
        have HH2 := fun W => has_any r2 q hl2 W
        rw [hrq] at HH2
        generalize hasB r1 q = hb at *
        have HH1 := Lib.hid HH1
        have HH2 := Lib.hid HH2
        have HIn := Lib.hid (fun W => show Calls Tryd.prog 25 #[.int .u64 r2, .int .u64 (withN 0 [me, (q : Int)])] W fun e w' => e = .returned (.bool true) ∧ W = w' from by have := in_any r2 (withN 0 [me, (q : Int)]) hl2 (withN_lt _ (by decide)) W; rwa [hin] at this)
        clear hrq hin
        go_wp2_with fail
        refine (HO1.out _ E).mono ?_
        rintro e x1 ⟨rfl, hbb⟩
        replace E := E.below hbb
        clear hbb
        go_wp2_with fail
        have hB1 := BlkAt.new x1 33 #[.int .u64 y.ce, .int .i64 y.cr, .int .u64 y.pe, .int .i64 y.pr, .int .u64 y.ep]
        replace E := E.below ((Below.refl _ _).alloc (Nat.le_refl _) (.cells #[.int .u64 y.ce, .int .i64 y.cr, .int .u64 y.pe, .int .i64 y.pr, .int .u64 y.ep] 33))
        generalize x1.alloc _ = x2 at *
        generalize x1.heap.size = bb1 at *
        refine (HO2.out _ E).mono ?_
        rintro e x3 ⟨rfl, hbb⟩
        replace E := E.below hbb
        replace hB1 := hB1.below hbb hB1.lt
        clear hbb
        have y0 : x3.cell? ⟨bb1, 0, none⟩ = some (.int .u64 y.ce) := hB1.cell rfl
        have y1 : x3.cell? ⟨bb1, 1, none⟩ = some (.int .i64 y.cr) := hB1.cell rfl
        have y2 : x3.cell? ⟨bb1, 2, none⟩ = some (.int .u64 y.pe) := hB1.cell rfl
        have y3 : x3.cell? ⟨bb1, 3, none⟩ = some (.int .i64 y.pr) := hB1.cell rfl
        have y4 : x3.cell? ⟨bb1, 4, none⟩ = some (.int .u64 y.ep) := hB1.cell rfl
        have hbl1 := hB1.lt
        go_wp2_with fail
        replace E := E.below ((Below.refl _ _).alloc (Nat.le_refl _) (.cells #[.int .u64 y.ce, .int .i64 y.cr, .int .u64 y.pe, .int .i64 y.pr, .int .u64 y.ep] 33))
        clear hB1 y0 y1 y2 y3 y4 hbl1
        generalize x3.alloc _ = x4 at *
        refine (HR1.out _ E).mono ?_
        rintro e x5 ⟨rfl, hbb⟩
        replace E := E.below hbb
        clear hbb
        go_wp2_with fail
        refine (HH1.out _).mono ?_
        rintro e w' ⟨rfl, rfl⟩
        go_wp2_with fail
        refine (HR2.out _ E).mono ?_
        rintro e x6 ⟨rfl, hbb⟩
        replace E := E.below hbb
        clear hbb
        go_wp2_with fail
        refine (HH2.out _).mono ?_
        rintro e w' ⟨rfl, rfl⟩
        go_wp2_with fail
        refine (HR2.out _ E).mono ?_
        rintro e x7 ⟨rfl, hbb⟩
        replace E := E.below hbb
        clear hbb
        go_wp2_with fail
        refine (of_any 2 2 _ [me, (q : Int)] _ (by decide) (Rd.lit (by first | rfl | simp) rfl (by decide))).mono ?_
        rintro e w' ⟨rfl, rfl⟩
        replace E := E.below ((Below.refl _ _).alloc (Nat.le_refl _) (.cells #[.int .i64 me, .int .i64 q] 3))
        go_wp2_with fail
        refine (HIn.out _).mono ?_
        rintro e w' ⟨rfl, rfl⟩
        go_wp2
        go_roundw
        case rel => exact ⟨k + 1, s', t', by omega, by go_num, HL, E⟩
        case measure => simp [intOf]; omega
      · have k3 : (kind == 3) = false := by simpa using k3
        go_wp2_with fail
        have hab : b < wr.heap.size := E.ear.lt; have hac : d < wr.heap.size := E.f.ear.lt; have hA := BlkAt.new wr 35 #[.int .i64 kind, .int .i64 p, .int .u64 x.ce, .int .i64 x.cr, .int .u64 x.pe, .int .i64 x.pr, .int .u64 x.ep, .int .u64 sx]; replace E := E.below ((Below.refl _ _).alloc (Nat.le_refl _) (.cells #[.int .i64 kind, .int .i64 p, .int .u64 x.ce, .int .i64 x.cr, .int .u64 x.pe, .int .i64 x.pr, .int .u64 x.ep, .int .u64 sx] 35)); clear c0 c1 c2 c3 c4 c5 c6 c7; generalize wr.alloc _ = w3 at *; generalize wr.heap.size = ab at *
        have HL : Hid (s.Ok ∧ t.Ok ∧ s.Apart t q ∧ s.now ≤ k + 1 ∧ t.me = me) := ⟨HI.out.1, HI.out.2.1, HI.out.2.2.1, Nat.le_succ_of_le HI.out.2.2.2.1, HI.out.2.2.2.2⟩
        clear hA
        obtain ⟨s', Hs'⟩ : ∃ s', Hid (s' = s) := ⟨s, rfl⟩
        obtain ⟨t', Ht'⟩ : ∃ t', Hid (t' = t) := ⟨t, rfl⟩
        replace E : HEnv2 w b d s' t' w3 := by rw [Hs'.out, Ht'.out]; exact E
        replace HL : Hid (s'.Ok ∧ t'.Ok ∧ s'.Apart t' q ∧ s'.now ≤ k + 1 ∧ t'.me = me) := by rw [Hs'.out, Ht'.out]; exact HL
        have Hof := Lib.hid (HL.out.2.2.1.of)
        have hrq := HL.out.2.2.1.reach hq
        have hin := HL.out.2.2.1.inn hq
        rw [HL.out.2.2.2.2] at hin
        have HO1 := fun W (h : HEnv2 w b d s' t' W) => of_ear s' HL.out.1 q b W h.ear
        have HO2 := fun W (h : HEnv2 w b d s' t' W) => of_ear t' HL.out.2.1 q d W h.f.ear
        rw [Hof.out] at HO2
        clear Hof
        generalize s'.of (q : Int) = r at *
        obtain ⟨y, ok⟩ := r
        have HO1 := Lib.hid (fun W (h : HEnv2 w b d s' t' W) => show Calls Tryd.prog 14 #[.pointer (some ⟨b, 0, none⟩), .int .i64 q] W fun e w' => e = .returned (.tuple #[.agg #[.int .u64 y.ce, .int .i64 y.cr, .int .u64 y.pe, .int .i64 y.pr, .int .u64 y.ep], .bool ok]) ∧ Below W.heap.size W w' from HO1 W h)
        have HO2 := Lib.hid (fun W (h : HEnv2 w b d s' t' W) => show Calls Tryd.prog 14 #[.pointer (some ⟨d, 0, none⟩), .int .i64 q] W fun e w' => e = .returned (.tuple #[.agg #[.int .u64 y.ce, .int .i64 y.cr, .int .u64 y.pe, .int .i64 y.pr, .int .u64 y.ep], .bool ok]) ∧ Below W.heap.size W w' from HO2 W h)
        have HR1 := Lib.hid (fun W (h : HEnv2 w b d s' t' W) => reach_any s' HL.out.1 b W h.ear h.e.tab)
        have HR2 := Lib.hid (fun W (h : HEnv2 w b d s' t' W) => reach_any t' HL.out.2.1 d W h.f.ear h.e.tab)
        have hl1 := s'.reach_lt
        have hl2 := t'.reach_lt
        generalize s'.reach = r1 at *
        generalize t'.reach = r2 at *
        have HH1 := fun W => has_any r1 q hl1 W
        have HH2 := fun W => has_any r2 q hl2 W
        rw [hrq] at HH2
        generalize hasB r1 q = hb at *
        have HH1 := Lib.hid HH1
        have HH2 := Lib.hid HH2
        have HIn := Lib.hid (fun W => show Calls Tryd.prog 25 #[.int .u64 r2, .int .u64 (withN 0 [me, (q : Int)])] W fun e w' => e = .returned (.bool true) ∧ W = w' from by have := in_any r2 (withN 0 [me, (q : Int)]) hl2 (withN_lt _ (by decide)) W; rwa [hin] at this)
        clear hrq hin
        refine (HO1.out _ E).mono ?_
        rintro e x1 ⟨rfl, hbb⟩
        replace E := E.below hbb
        clear hbb
        go_wp2_with fail
        have hB1 := BlkAt.new x1 33 #[.int .u64 y.ce, .int .i64 y.cr, .int .u64 y.pe, .int .i64 y.pr, .int .u64 y.ep]
        replace E := E.below ((Below.refl _ _).alloc (Nat.le_refl _) (.cells #[.int .u64 y.ce, .int .i64 y.cr, .int .u64 y.pe, .int .i64 y.pr, .int .u64 y.ep] 33))
        generalize x1.alloc _ = x2 at *
        generalize x1.heap.size = bb1 at *
        refine (HO2.out _ E).mono ?_
        rintro e x3 ⟨rfl, hbb⟩
        replace E := E.below hbb
        replace hB1 := hB1.below hbb hB1.lt
        clear hbb
        have y0 : x3.cell? ⟨bb1, 0, none⟩ = some (.int .u64 y.ce) := hB1.cell rfl
        have y1 : x3.cell? ⟨bb1, 1, none⟩ = some (.int .i64 y.cr) := hB1.cell rfl
        have y2 : x3.cell? ⟨bb1, 2, none⟩ = some (.int .u64 y.pe) := hB1.cell rfl
        have y3 : x3.cell? ⟨bb1, 3, none⟩ = some (.int .i64 y.pr) := hB1.cell rfl
        have y4 : x3.cell? ⟨bb1, 4, none⟩ = some (.int .u64 y.ep) := hB1.cell rfl
        have hbl1 := hB1.lt
        go_wp2_with fail
        replace E := E.below ((Below.refl _ _).alloc (Nat.le_refl _) (.cells #[.int .u64 y.ce, .int .i64 y.cr, .int .u64 y.pe, .int .i64 y.pr, .int .u64 y.ep] 33))
        clear hB1 y0 y1 y2 y3 y4 hbl1
        generalize x3.alloc _ = x4 at *
        refine (HR1.out _ E).mono ?_
        rintro e x5 ⟨rfl, hbb⟩
        replace E := E.below hbb
        clear hbb
        go_wp2_with fail
        refine (HH1.out _).mono ?_
        rintro e w' ⟨rfl, rfl⟩
        go_wp2_with fail
        refine (HR2.out _ E).mono ?_
        rintro e x6 ⟨rfl, hbb⟩
        replace E := E.below hbb
        clear hbb
        go_wp2_with fail
        refine (HH2.out _).mono ?_
        rintro e w' ⟨rfl, rfl⟩
        go_wp2_with fail
        refine (HR2.out _ E).mono ?_
        rintro e x7 ⟨rfl, hbb⟩
        replace E := E.below hbb
        clear hbb
        go_wp2_with fail
        refine (of_any 2 2 _ [me, (q : Int)] _ (by decide) (Rd.lit (by first | rfl | simp) rfl (by decide))).mono ?_
        rintro e w' ⟨rfl, rfl⟩
        replace E := E.below ((Below.refl _ _).alloc (Nat.le_refl _) (.cells #[.int .i64 me, .int .i64 q] 3))
        go_wp2_with fail
        refine (HIn.out _).mono ?_
        rintro e w' ⟨rfl, rfl⟩
        go_wp2
        go_roundw
        case rel => exact ⟨k + 1, s', t', by omega, by go_num, HL, E⟩
        case measure => simp [intOf]; omega
    · go_wp2
      go_ret
      exact ⟨rfl, E.bel⟩
theorem apart_out (me m q : Int) (sa : Option Addr) (n c : Nat) (w : World) (hT : Tab w) (h : 100 < n ∨ q < 0 ∨ 63 < q) (hn : n ≤ 9223372036854775807) :
    Calls Tryd.prog 6 #[.int .i64 me, .int .i64 m, .slice sa n c, .int .i64 q] w fun e w' => e = .returned (.bool true) ∧ Below w.heap.size w w' := by
  by_cases h1 : 100 < n
  · clear h
    go_enter Tryd.func6, Tryd.ntmps6
    go_wp2_with fail
    refine (awake_any _ hT).mono ?_
    rintro e w1 ⟨rfl, hb1⟩
    go_wp2; go_ret; exact ⟨rfl, hb1⟩
  by_cases h2 : q < 0
  · clear h
    go_enter Tryd.func6, Tryd.ntmps6
    go_wp2_with fail
    refine (awake_any _ hT).mono ?_
    rintro e w1 ⟨rfl, hb1⟩
    go_wp2; go_ret; exact ⟨rfl, hb1⟩
  · have h3 : 63 < q := by omega
    clear h
    go_enter Tryd.func6, Tryd.ntmps6
    go_wp2_with fail
    refine (awake_any _ hT).mono ?_
    rintro e w1 ⟨rfl, hb1⟩
    go_wp2; go_ret; exact ⟨rfl, hb1⟩
theorem apart_law (me m : Int) (sa : Option Addr) (n c : Nat) (q : Int) (w : World) (hT : Tab w) (_ : (Lit.int .i64 me).wf = true) (_ : (Lit.int .i64 m).wf = true) (h : ∃ l, RSl RAc 8 w sa n c l) (_ : (Lit.int .i64 q).wf = true) :
    Calls Tryd.prog 6 #[.int .i64 me, .int .i64 m, .slice sa n c, .int .i64 q] w fun e w' => e = .returned (.bool true) ∧ Below w.heap.size w w' := by
  obtain ⟨l, hl⟩ := h
  obtain ⟨l', hr, hln, hwf⟩ := hl.ac
  have hmx := hr.le_max
  unfold maxLen at hmx
  by_cases ho : 100 < n ∨ q < 0 ∨ 63 < q
  · exact apart_out me m q sa n c w hT ho hmx
  · obtain ⟨k, rfl⟩ : ∃ k : Nat, q = k := ⟨q.toNat, by omega⟩
    exact apart_main me m k sa n c l' w hT (by omega) hr hln hwf (by omega)
end Go.Proofs.YtpnmhlcbmbpfdaaDoor
