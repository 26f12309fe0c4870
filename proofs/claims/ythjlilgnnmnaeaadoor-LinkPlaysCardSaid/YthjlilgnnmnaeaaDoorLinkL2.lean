/- the walk of LinkBounds -/
import Derived.Test.YthjlilgnnmnaeaaDoorLinkL1
namespace Go.Proofs.YthjlilgnnmnaeaaDoor
open Go.RowKit Go.Sort

/-- An act's three cells. -/
def laF (x : Int × Int × Int) : List Value := [.int .i64 x.1, .int .i64 x.2.1, .int .u32 x.2.2]
def laC (l : List (Int × Int × Int)) : List Value := l.flatMap laF
theorem Rd.act3 {w : World} {b off n c : Nat} {l : List (Int × Int × Int)} (h : Rd w 3 (some ⟨b, off, none⟩) n c (laC l)) (k : Nat) (hk : k < l.length) :
    w.cell? ⟨b, off + k * 3, none⟩ = some (.int .i64 l[k].1) ∧ w.cell? ⟨b, off + k * 3 + 1, none⟩ = some (.int .i64 l[k].2.1) ∧ w.cell? ⟨b, off + k * 3 + 2, none⟩ = some (.int .u32 l[k].2.2) := by
  have h0 := flatMap_get (f := laF) (sz := 3) (fun _ => rfl) l k 0 (by decide)
  have h1 := flatMap_get (f := laF) (sz := 3) (fun _ => rfl) l k 1 (by decide)
  have h2 := flatMap_get (f := laF) (sz := 3) (fun _ => rfl) l k 2 (by decide)
  rw [List.getElem?_eq_getElem hk] at h0 h1 h2
  exact ⟨h.at h0, by rw [Nat.add_assoc]; exact h.at h1, by rw [Nat.add_assoc]; exact h.at h2⟩
def RLa : World → List Value → Int × Int × Int → Prop := RPair (RInt .i64) (RPair (RInt .i64) (RInt .u32))
theorem opens_la {H : Type} {enc : TypeId × Value → H} {W : World} : Opens enc Tryd.prog W 23 (RSlc RLa 3) :=
  opens_slice (sz := 3) Tryd.underlying23 (by kernel_rfl) (by decide) (opens_struct Tryd.underlying35 (by kernel_rfl) (OpensFs.cons (sz := 1) (total := 2) rfl (by kernel_rfl) (opens_int Tryd.underlying3) (OpensFs.cons (sz := 1) (total := 1) rfl (by kernel_rfl) (opens_int Tryd.underlying3) (OpensFs.one rfl (by kernel_rfl) (opens_int Tryd.underlying29)))))
theorem RSl.la {w : World} {a : Option Addr} {n c : Nat} {l : List (Int × Int × Int)} (hl : RSl RLa 3 w a n c l) : Rd w 3 a n c (laC l) ∧ ∀ x ∈ l, (Lit.int .i64 x.1).wf = true ∧ (Lit.int .i64 x.2.1).wf = true ∧ (Lit.int .u32 x.2.2).wf = true :=
  ⟨hl.flat laF (fun _ => rfl) (by decide) (fun w cs x ⟨c1, c2, e, ⟨e1, _⟩, c3, c4, e', ⟨e2, _⟩, e3, _⟩ => by rw [e, e', e1, e2, e3]; rfl),
   hl.all (Q := fun x => (Lit.int .i64 x.1).wf = true ∧ (Lit.int .i64 x.2.1).wf = true ∧ (Lit.int .u32 x.2.2).wf = true) (fun cs x ⟨c1, c2, _, ⟨_, f1⟩, c3, c4, _, ⟨_, f2⟩, _, f3⟩ => ⟨f1, f2, f3⟩)⟩
theorem Calls.pureB {P : Program} {f : FuncId} {args : Array Value} {w : World} {v : Value} (h : Calls P f args w fun e w' => e = .returned v ∧ w = w') : Calls P f args w fun e w' => e = .returned v ∧ Below w.heap.size w w' :=
  h.mono fun _ _ ⟨he, hw⟩ => ⟨he, by subst hw; exact Below.refl _ _⟩

set_option maxHeartbeats 3200000 in
set_option maxRecDepth 100000 in
theorem bounds_main (me size x S : Int) (members : Nat) (sa : Option Addr) (n c : Nat) (l : List (Int × Int × Int)) (w : World) (hT : Tab w) (hm : members < 18446744073709551616) (hm1 : (if 64 < size then (64 : Int) else size) = x) (hm2 : (if 1 < x then x else (1 : Int)) = S) (hS : Hid (S = max 1 (min size 64))) (hS1 : 1 ≤ S) (hS2 : S ≤ 64)
    (hr : Rd w 3 sa n c (laC l)) (hl : Hid (l.length = n)) (hwf : ∀ x ∈ l, (Lit.int .i64 x.1).wf = true ∧ (Lit.int .i64 x.2.1).wf = true ∧ (Lit.int .u32 x.2.2).wf = true) (hn : n ≤ 300) :
    Calls Tryd.prog 4 #[.int .i64 me, .int .u64 members, .int .i64 size, .slice sa n c] w fun e w' => e = .returned (.bool true) ∧ Below w.heap.size w w' := by
  have hpos := hT.1
  go_enter Tryd.func4, Tryd.ntmps4
  go_wp2_with fail
  refine (awake_any _ hT).mono ?_
  rintro e w1 ⟨rfl, hb1⟩
  have hT1 := hT.below hb1 hpos
  go_wp2_with fail
  refine (new_any me members size _ hm).mono ?_
  rintro e w2 ⟨b, rfl, hb, hwin, hb2⟩
  have E : LEnv w b (WS.nw me members size) w2 := ⟨belS hb1 hb2, Nat.le_trans hb1.size hb, hT1.below hb2 hT1.1, hwin⟩
  clear hwin hb2 hT1 hb1
  go_wp2_with fail
  refine (less_any members 1 1 _ [me] _ hm (by decide) (Rd.lit (by first | rfl | simp) rfl (by decide))).mono ?_
  rintro e w' ⟨rfl, rfl⟩
  rw [show withN 0 [me] = bitN me from by simp [withN]]
  replace E := E.below ((Below.refl _ _).alloc (Nat.le_refl _) (.cells #[.int .i64 me] 3))
  have ho := but_lt members (bitN me) hm
  have HW := Lib.hid (show (WS.nw me members size).Ok ∧ (WS.nw me members size).Fit ∧ (WS.nw me members size).sent = 0 ∧ (WS.nw me members size).oth = butN members (bitN me) ∧ (WS.nw me members size).size = S from ⟨WS.nw_ok _ _ _ hm, WS.fit_nw _ _ _, rfl, rfl, hS.out.symm⟩)
  generalize WS.nw me members size = s0 at *
  generalize butN members (bitN me) = oth at *
  go_wp2
  go_loopw [11] (fun i wr => ∃ (k : Nat) (s : WS), k ≤ n ∧ i = .int .i64 k ∧ Hid (s.Ok ∧ s.Fit ∧ s.sent ≤ k ∧ s.oth = oth ∧ s.size = S) ∧ LEnv w b s wr) (fun i _ => n - (intOf i).toNat)
  case atStart => exact ⟨0, s0, Nat.zero_le _, rfl, ⟨HW.out.1, HW.out.2.1, Nat.le_of_eq HW.out.2.2.1, HW.out.2.2.2⟩, E⟩
  case round =>
    clear E HW
    obtain ⟨k, s, hk, rfl, HI, E⟩ := hrel
    by_cases hlt : k < n
    · have hkl : k < l.length := by rw [hl.out]; exact hlt
      obtain ⟨bs, off, rfl, _⟩ := hr.addr (by omega)
      obtain ⟨c0, c1, c2⟩ := (hr.below E.bel (Nat.le_refl _)).act3 k hkl
      have hwf' := hwf _ (List.getElem_mem hkl)
      generalize l[k] = a at *
      obtain ⟨p, q, z⟩ := a
      simp only at c0 c1 c2 hwf'
      obtain ⟨z, rfl⟩ : ∃ m : Nat, z = m := ⟨z.toNat, by have := hwf'.2.2; simp [Lit.wf, IntKind.min, IntKind.max, IntKind.bits, IntKind.signed] at this; omega⟩
      have hq := wf_i64_bounds hwf'.2.1
      clear hwf'
      go_wp2
      have hab : b < wr.heap.size := E.win.lt
      have hA := BlkAt.new wr 35 #[.int .i64 p, .int .i64 q, .int .u32 z]
      replace E := E.below ((Below.refl _ _).alloc (Nat.le_refl _) (.cells #[.int .i64 p, .int .i64 q, .int .u32 z] 35))
      clear c0 c1 c2
      generalize wr.alloc _ = w3 at *
      generalize wr.heap.size = ab at *
      obtain ⟨hs, hf, hsk, hoth, hsz⟩ := HI.out
      have k0 := cell_regrown (hA.cell (i := 0) rfl)
      have kS := fun d os => Calls.regrown_of (Calls.pureB (sent_any s b _ (E.below (below_regrown w3 d os)).win))
      have kL := fun d os => Calls.regrown_of (low_any s hs b _ (E.below (below_regrown w3 d os)).win (E.below (below_regrown w3 d os)).tab)
      have kO := fun d os => Calls.regrown_of (Calls.pureB (of_win s hs p b _ (E.below (below_regrown w3 d os)).win))
      refine wp_region_quiet_below (by kernel_rfl) (by kernel_rfl) ?_
      repeat (go_big_quiet_step (first | exact kS _ _ | exact kL _ _ | exact kO _ _))
      refine wpQuiet_nil ?_
      intro w4 hw'
      obtain ⟨⟨dq, osq⟩, hw''⟩ := hw'
      subst hw''
      have hbb := below_regrown w3 dq osq
      replace E := E.below hbb
      replace hA := hA.below hbb hA.lt
      clear kS kL kO k0 hbb
      generalize grow (redrawn w3 dq) osq = w4 at *
      have a0 := hA.cell (i := 0) rfl
      have a1 := hA.cell (i := 1) rfl
      have a2 := hA.cell (i := 2) rfl
      have HS := Lib.hid hs
      have hsent := hs.sent
      have hnl := s.low_le
      clear hsz hoth
      have stop : ∀ t : WS, s.Le t → t.Ok → t.Fit → t.sent ≤ k + 1 → Hid (s.Le t ∧ t.Ok ∧ t.Fit ∧ t.sent ≤ k + 1 ∧ t.oth = oth ∧ t.size = S) := fun t h1 h2 h3 h4 => ⟨h1, h2, h3, h4, h1.oth.trans HI.out.2.2.2.1, h1.size.trans HI.out.2.2.2.2⟩
      by_cases hp : p < 0
      · cases hm : s.room q with
        | true =>
          have HN := next_any s hs q b _ E.win E.tab hq.1 hq.2
          rw [show s.nextV q = .tuple #[.int .u32 ((s.sent : Int) + 1), .int .i64 0] from by rw [WS.nextV, if_pos hm]] at HN
          have HL := stop (s.nexts q) (s.le_nexts q) (WS.nexts_ok hs q (by omega)) (WS.fit_nexts hf q) (by have := s.nexts_sent q; omega)
          have HN := Lib.hid HN
          generalize s.nexts q = t at *
          clear hm stop hs hf
          go_wp2_with fail
          refine HN.out.mono ?_
          rintro e w5 ⟨rfl, hwin, hkp⟩
          replace E := E.kp hpos hkp hwin
          replace hA : BlkAt w5 ab _ _ := hkp.blk hA (by omega)
          clear HN hwin hkp
          clear a0 a1 a2
          have a0 := hA.cell (i := 0) rfl
          have a1 := hA.cell (i := 1) rfl
          have a2 := hA.cell (i := 2) rfl
          replace HS := Lib.hid HL.out.2.1
          have hlow := HL.out.1.low
          have hof := HL.out.1.of p
          have hofs := WS.of_le HL.out.2.1 p
          have hll := t.low_le
          have hts := HL.out.2.1.sent
          have hf2 : (t.sent : Int) - t.low ≤ S := by have h3 := HL.out.2.2.1; unfold WS.Fit at h3; rw [HL.out.2.2.2.2.2] at h3; exact h3
          have HIn := Lib.hid (fun W => show Calls Tryd.prog 24 #[.int .u64 t.lag, .int .u64 oth] W fun e w' => e = .returned (.bool true) ∧ W = w' from by have := in_any t.lag oth (lagL_lt _ _ _) ho W; rwa [show inB t.lag oth = true from by rw [← HL.out.2.2.2.2.1]; exact lag_in t (by rw [HL.out.2.2.2.2.1]; exact ho)] at this)
          have HIn0 := Lib.hid (fun W => show Calls Tryd.prog 24 #[.int .u64 0, .int .u64 oth] W fun e w' => e = .returned (.bool true) ∧ W = w' from by have := in_any 0 oth (by decide) ho W; rwa [show inB 0 oth = true from by simp [inB, butN]] at this)
          have hz := lag_zero t
          have z1 : ((t.lag : Int) == 0) = _ := (icb0 t.lag).trans (show (t.lag == 0) = decide (t.lag = 0) from by rw [Bool.eq_iff_iff]; simp)
          have z2 : ((t.low : Int) == (t.sent : Int)) = decide (t.lag = 0) := by rw [Bool.eq_iff_iff]; simp; omega
          obtain ⟨bz, hbz⟩ : ∃ bz, bz = decide (t.lag = 0) := ⟨_, rfl⟩
          rw [← hbz] at z1 z2
          clear hz hbz
          cases bz
          all_goals
            go_wp2_with (first | (go_at_call 17; refine (low_any _ HS.out b _ E.win E.tab).mono ?_; rintro e w8 ⟨rfl, hbb⟩; replace E := E.below hbb; replace hA := hA.below hbb hA.lt; replace a0 := hA.cell (i := 0) rfl; replace a1 := hA.cell (i := 1) rfl; replace a2 := hA.cell (i := 2) rfl; clear hbb) | (go_at_call 19; refine (lag_any _ HS.out b _ E.win E.tab).mono ?_; rintro e w8 ⟨rfl, hbb⟩; replace E := E.below hbb; replace hA := hA.below hbb hA.lt; replace a0 := hA.cell (i := 0) rfl; replace a1 := hA.cell (i := 1) rfl; replace a2 := hA.cell (i := 2) rfl; clear hbb) | (go_at_call 16; refine (sent_any _ b _ E.win).mono ?_; rintro e w' ⟨rfl, rfl⟩) | (go_at_call 21; refine (of_win _ HS.out _ b _ E.win).mono ?_; rintro e w' ⟨rfl, rfl⟩) | (go_at_call 24; (with_reducible refine (HIn.out _).mono ?_); rintro e w' ⟨rfl, rfl⟩) | (go_at_call 24; (with_reducible refine (HIn0.out _).mono ?_); rintro e w' ⟨rfl, rfl⟩))
            go_roundw
            case rel => exact ⟨k + 1, t, by omega, by go_num, ⟨HL.out.2.1, HL.out.2.2.1, HL.out.2.2.2.1, HL.out.2.2.2.2⟩, E⟩
            case measure => simp [intOf]; omega
        | false =>
          have HN := next_any s hs q b _ E.win E.tab hq.1 hq.2
          rw [show s.nextV q = .tuple #[.int .u32 0, .int .i64 6] from by rw [WS.nextV, if_neg (by rw [hm]; decide)], show s.nexts q = s from by rw [WS.nexts, if_neg (by rw [hm]; decide)]] at HN
          have HL := stop s ⟨rfl, rfl, rfl, Nat.le_refl _, fun _ => Nat.le_refl _⟩ hs hf (by omega)
          have HN := Lib.hid HN
          clear hm stop hs hf
          go_wp2_with fail
          refine HN.out.mono ?_
          rintro e w5 ⟨rfl, hwin, hkp⟩
          replace E := E.kp hpos hkp hwin
          replace hA : BlkAt w5 ab _ _ := hkp.blk hA (by omega)
          clear HN hwin hkp
          go_wp2_with fail
          refine (sent_any _ b _ E.win).mono ?_
          rintro e w' ⟨rfl, rfl⟩
          obtain ⟨t, HT⟩ : ∃ t : WS, Hid (t = s) := ⟨s, rfl⟩
          replace E : LEnv w b t w5 := by rw [HT.out]; exact E
          replace HL : Hid (s.Le t ∧ t.Ok ∧ t.Fit ∧ t.sent ≤ k + 1 ∧ t.oth = oth ∧ t.size = S) := by rw [HT.out]; exact HL
          clear a0 a1 a2
          have a0 := hA.cell (i := 0) rfl
          have a1 := hA.cell (i := 1) rfl
          have a2 := hA.cell (i := 2) rfl
          replace HS := Lib.hid HL.out.2.1
          have hlow := HL.out.1.low
          have hof := HL.out.1.of p
          have hofs := WS.of_le HL.out.2.1 p
          have hll := t.low_le
          have hts := HL.out.2.1.sent
          have hf2 : (t.sent : Int) - t.low ≤ S := by have h3 := HL.out.2.2.1; unfold WS.Fit at h3; rw [HL.out.2.2.2.2.2] at h3; exact h3
          have HIn := Lib.hid (fun W => show Calls Tryd.prog 24 #[.int .u64 t.lag, .int .u64 oth] W fun e w' => e = .returned (.bool true) ∧ W = w' from by have := in_any t.lag oth (lagL_lt _ _ _) ho W; rwa [show inB t.lag oth = true from by rw [← HL.out.2.2.2.2.1]; exact lag_in t (by rw [HL.out.2.2.2.2.1]; exact ho)] at this)
          have HIn0 := Lib.hid (fun W => show Calls Tryd.prog 24 #[.int .u64 0, .int .u64 oth] W fun e w' => e = .returned (.bool true) ∧ W = w' from by have := in_any 0 oth (by decide) ho W; rwa [show inB 0 oth = true from by simp [inB, butN]] at this)
          have hz := lag_zero t
          have z1 : ((t.lag : Int) == 0) = _ := (icb0 t.lag).trans (show (t.lag == 0) = decide (t.lag = 0) from by rw [Bool.eq_iff_iff]; simp)
          have z2 : ((t.low : Int) == (t.sent : Int)) = decide (t.lag = 0) := by rw [Bool.eq_iff_iff]; simp; omega
          obtain ⟨bz, hbz⟩ : ∃ bz, bz = decide (t.lag = 0) := ⟨_, rfl⟩
          rw [← hbz] at z1 z2
          clear hz hbz
          cases bz
          all_goals
            go_wp2_with (first | (go_at_call 17; refine (low_any _ HS.out b _ E.win E.tab).mono ?_; rintro e w8 ⟨rfl, hbb⟩; replace E := E.below hbb; replace hA := hA.below hbb hA.lt; replace a0 := hA.cell (i := 0) rfl; replace a1 := hA.cell (i := 1) rfl; replace a2 := hA.cell (i := 2) rfl; clear hbb) | (go_at_call 19; refine (lag_any _ HS.out b _ E.win E.tab).mono ?_; rintro e w8 ⟨rfl, hbb⟩; replace E := E.below hbb; replace hA := hA.below hbb hA.lt; replace a0 := hA.cell (i := 0) rfl; replace a1 := hA.cell (i := 1) rfl; replace a2 := hA.cell (i := 2) rfl; clear hbb) | (go_at_call 16; refine (sent_any _ b _ E.win).mono ?_; rintro e w' ⟨rfl, rfl⟩) | (go_at_call 21; refine (of_win _ HS.out _ b _ E.win).mono ?_; rintro e w' ⟨rfl, rfl⟩) | (go_at_call 24; (with_reducible refine (HIn.out _).mono ?_); rintro e w' ⟨rfl, rfl⟩) | (go_at_call 24; (with_reducible refine (HIn0.out _).mono ?_); rintro e w' ⟨rfl, rfl⟩))
            go_roundw
            case rel => exact ⟨k + 1, t, by omega, by go_num, ⟨HL.out.2.1, HL.out.2.2.1, HL.out.2.2.2.1, HL.out.2.2.2.2⟩, E⟩
            case measure => simp [intOf]; omega
      · have HL := stop (s.put p z) (s.le_put p z) (WS.put_ok hs p z) (WS.fit_put hf p z) (by rw [s.put_sent]; omega)
        have HN := Lib.hid (got_any s hs p z b _ E.win)
        generalize s.put p z = t at *
        clear stop hs hf
        go_wp2_with fail
        refine HN.out.mono ?_
        rintro e w5 ⟨rfl, hwin, hkp⟩
        replace E := E.kp hpos hkp hwin
        replace hA : BlkAt w5 ab _ _ := hkp.blk hA (by omega)
        clear HN hwin hkp
        clear a0 a1 a2
        have a0 := hA.cell (i := 0) rfl
        have a1 := hA.cell (i := 1) rfl
        have a2 := hA.cell (i := 2) rfl
        replace HS := Lib.hid HL.out.2.1
        have hlow := HL.out.1.low
        have hof := HL.out.1.of p
        have hofs := WS.of_le HL.out.2.1 p
        have hll := t.low_le
        have hts := HL.out.2.1.sent
        have hf2 : (t.sent : Int) - t.low ≤ S := by have h3 := HL.out.2.2.1; unfold WS.Fit at h3; rw [HL.out.2.2.2.2.2] at h3; exact h3
        have HIn := Lib.hid (fun W => show Calls Tryd.prog 24 #[.int .u64 t.lag, .int .u64 oth] W fun e w' => e = .returned (.bool true) ∧ W = w' from by have := in_any t.lag oth (lagL_lt _ _ _) ho W; rwa [show inB t.lag oth = true from by rw [← HL.out.2.2.2.2.1]; exact lag_in t (by rw [HL.out.2.2.2.2.1]; exact ho)] at this)
        have HIn0 := Lib.hid (fun W => show Calls Tryd.prog 24 #[.int .u64 0, .int .u64 oth] W fun e w' => e = .returned (.bool true) ∧ W = w' from by have := in_any 0 oth (by decide) ho W; rwa [show inB 0 oth = true from by simp [inB, butN]] at this)
        have hz := lag_zero t
        have z1 : ((t.lag : Int) == 0) = _ := (icb0 t.lag).trans (show (t.lag == 0) = decide (t.lag = 0) from by rw [Bool.eq_iff_iff]; simp)
        have z2 : ((t.low : Int) == (t.sent : Int)) = decide (t.lag = 0) := by rw [Bool.eq_iff_iff]; simp; omega
        obtain ⟨bz, hbz⟩ : ∃ bz, bz = decide (t.lag = 0) := ⟨_, rfl⟩
        rw [← hbz] at z1 z2
        clear hz hbz
        cases bz
        all_goals
          go_wp2_with (first | (go_at_call 17; refine (low_any _ HS.out b _ E.win E.tab).mono ?_; rintro e w8 ⟨rfl, hbb⟩; replace E := E.below hbb; replace hA := hA.below hbb hA.lt; replace a0 := hA.cell (i := 0) rfl; replace a1 := hA.cell (i := 1) rfl; replace a2 := hA.cell (i := 2) rfl; clear hbb) | (go_at_call 19; refine (lag_any _ HS.out b _ E.win E.tab).mono ?_; rintro e w8 ⟨rfl, hbb⟩; replace E := E.below hbb; replace hA := hA.below hbb hA.lt; replace a0 := hA.cell (i := 0) rfl; replace a1 := hA.cell (i := 1) rfl; replace a2 := hA.cell (i := 2) rfl; clear hbb) | (go_at_call 16; refine (sent_any _ b _ E.win).mono ?_; rintro e w' ⟨rfl, rfl⟩) | (go_at_call 21; refine (of_win _ HS.out _ b _ E.win).mono ?_; rintro e w' ⟨rfl, rfl⟩) | (go_at_call 24; (with_reducible refine (HIn.out _).mono ?_); rintro e w' ⟨rfl, rfl⟩) | (go_at_call 24; (with_reducible refine (HIn0.out _).mono ?_); rintro e w' ⟨rfl, rfl⟩))
          go_roundw
          case rel => exact ⟨k + 1, t, by omega, by go_num, ⟨HL.out.2.1, HL.out.2.2.1, HL.out.2.2.2.1, HL.out.2.2.2.2⟩, E⟩
          case measure => simp [intOf]; omega
    · go_wp2
      go_ret
      exact ⟨rfl, E.bel⟩
set_option maxHeartbeats 400000 in
theorem bounds_out (me size : Int) (members : Nat) (sa : Option Addr) (n c : Nat) (w : World) (hT : Tab w) (h : 300 < n) (hn : n ≤ 9223372036854775807) :
    Calls Tryd.prog 4 #[.int .i64 me, .int .u64 members, .int .i64 size, .slice sa n c] w fun e w' => e = .returned (.bool true) ∧ Below w.heap.size w w' := by
  go_enter Tryd.func4, Tryd.ntmps4
  go_wp2_with fail
  refine (awake_any _ hT).mono ?_
  rintro e w1 ⟨rfl, hb1⟩
  go_wp2
  go_ret
  exact ⟨rfl, hb1⟩
theorem nat_u64 {x : Int} (h : (Lit.int .u64 x).wf = true) : ∃ n : Nat, x = n ∧ n < 18446744073709551616 := ⟨x.toNat, by have := wf_u64_bounds h; omega, by have := wf_u64_bounds h; omega⟩
theorem bounds_law (me members size : Int) (sa : Option Addr) (n c : Nat) (w : World) (hT : Tab w) (_ : (Lit.int .i64 me).wf = true) (hm : (Lit.int .u64 members).wf = true) (_ : (Lit.int .i64 size).wf = true) (h : ∃ l, RSl RLa 3 w sa n c l) :
    Calls Tryd.prog 4 #[.int .i64 me, .int .u64 members, .int .i64 size, .slice sa n c] w fun e w' => e = .returned (.bool true) ∧ Below w.heap.size w w' := by
  obtain ⟨l, hl⟩ := h
  obtain ⟨hr, hwf⟩ := hl.la
  obtain ⟨m, rfl, hm'⟩ := nat_u64 hm
  have hmx := hr.le_max
  unfold maxLen at hmx
  by_cases ho : 300 < n
  · exact bounds_out me size m sa n c w hT ho hmx
  · refine bounds_main me size _ (max 1 (min size 64)) m sa n c l w hT hm' rfl ?_ rfl (by omega) (by omega) hr hl.1.1 hwf (by omega)
    split <;> split <;> omega
end Go.Proofs.YthjlilgnnmnaeaaDoor
