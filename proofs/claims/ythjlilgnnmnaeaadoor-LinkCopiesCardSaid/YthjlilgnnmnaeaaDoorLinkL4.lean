/- the walk of LinkCopies -/
import Derived.Test.YthjlilgnnmnaeaaDoorLinkL2
namespace Go.Proofs.YthjlilgnnmnaeaaDoor
open Go.RowKit Go.Sort

/-- An act on a window. -/
def WS.act (s : WS) (a : Int × Int × Int) : WS := if a.1 < 0 then s.nexts a.2.1 else s.put a.1 a.2.2.toNat
theorem WS.act_ok {s : WS} (hs : s.Ok) (a : Int × Int × Int) (h : s.sent < 4294967294) : (s.act a).Ok ∧ (s.act a).sent ≤ s.sent + 1 := by
  unfold WS.act
  split
  · exact ⟨WS.nexts_ok hs _ h, s.nexts_sent _⟩
  · exact ⟨WS.put_ok hs _ _, by rw [s.put_sent]; omega⟩
/-- The acts from number a on, below number k. -/
def WS.run (s : WS) (l : List (Int × Int × Int)) (a k : Nat) : WS := ((l.take k).drop a).foldl WS.act s
theorem WS.run_0 (s : WS) (l : List (Int × Int × Int)) (a : Nat) : s.run l a a = s := by
  rw [WS.run, List.drop_eq_nil_of_le (by rw [List.length_take]; omega)]; rfl
theorem WS.run_s (s : WS) (l : List (Int × Int × Int)) (a k : Nat) (ha : a ≤ k) (hk : k < l.length) : s.run l a (k + 1) = (s.run l a k).act l[k] := by
  rw [WS.run, WS.run, List.take_succ_eq_append_getElem hk, List.drop_append_of_le_length (by rw [List.length_take]; omega), List.foldl_append]; rfl
set_option maxHeartbeats 800000 in
set_option maxRecDepth 100000 in
theorem do_any (s : WS) (hs : s.Ok) (hs2 : s.sent < 4294967294) (p q : Int) (z : Nat) (b : Nat) (w : World) (h : WinAt w b s) (hT : Tab w) (hq1 : -9223372036854775808 ≤ q) (hq2 : q ≤ 9223372036854775807) :
    Calls Tryd.prog 27 #[.pointer (some ⟨b, 0, none⟩), .agg #[.int .i64 p, .int .i64 q, .int .u32 z]] w fun e w' => e = .returned (.tuple #[]) ∧ WinAt w' b (s.act (p, q, z)) ∧ Kp b w w' := by
  have hbel : Below w.heap.size w (w.alloc (.cells #[.int .i64 p, .int .i64 q, .int .u32 z] 35)) := (Below.refl _ _).alloc (Nat.le_refl _) _
  have H1 := h.below hbel h.lt
  have T1 := hT.below hbel hT.1
  by_cases hp : p < 0
  · have HE := Lib.hid (show s.act (p, q, z) = s.nexts q from by rw [WS.act, if_pos hp])
    have HN := Lib.hid (next_any s hs q b _ H1 T1 hq1 hq2)
    go_enter Tryd.func27, Tryd.ntmps27
    go_wp2_with fail
    refine HN.out.mono ?_
    rintro e w' ⟨rfl, hw, hk⟩
    generalize s.nextV q = v
    go_wp2
    go_end0
    exact ⟨rfl, by rw [HE.out]; exact hw, (Kp.ofBelow hbel).trans hk⟩
  · have HE := Lib.hid (show s.act (p, q, z) = s.put p z from by rw [WS.act, if_neg hp]; rfl)
    have HN := Lib.hid (got_any s hs p z b _ H1)
    go_enter Tryd.func27, Tryd.ntmps27
    go_wp2_with fail
    refine HN.out.mono ?_
    rintro e w' ⟨rfl, hw, hk⟩
    go_wp2
    go_end0
    exact ⟨rfl, by rw [HE.out]; exact hw, (Kp.ofBelow hbel).trans hk⟩
/-- Two windows are carried. -/
structure LEnv2 (w0 : World) (b c : Nat) (s t : WS) (W : World) : Prop where
  e : LEnv w0 b s W
  f : LEnv w0 c t W
  ne : b ≠ c
section
variable {w0 W W' : World} {b c : Nat} {s t u : WS}
theorem LEnv2.below (h : LEnv2 w0 b c s t W) (k : Below W.heap.size W W') : LEnv2 w0 b c s t W' := ⟨h.e.below k, h.f.below k, h.ne⟩
theorem LEnv2.kp1 (h : LEnv2 w0 b c s t W) (h0 : 0 < w0.heap.size) (k : Kp b W W') (hw : WinAt W' b u) : LEnv2 w0 b c u t W' :=
  ⟨h.e.kp h0 k hw, ⟨(h.e.kp h0 k hw).bel, h.f.old, (h.e.kp h0 k hw).tab, k.blk h.f.win (Ne.symm h.ne)⟩, h.ne⟩
theorem LEnv2.kp2 (h : LEnv2 w0 b c s t W) (h0 : 0 < w0.heap.size) (k : Kp c W W') (hw : WinAt W' c u) : LEnv2 w0 b c s u W' :=
  ⟨⟨(h.f.kp h0 k hw).bel, h.e.old, (h.f.kp h0 k hw).tab, k.blk h.e.win h.ne⟩, h.f.kp h0 k hw, h.ne⟩
end
set_option maxHeartbeats 3200000 in
set_option maxRecDepth 100000 in
theorem copies_main (size : Int) (members : Nat) (sa : Option Addr) (n c at_ : Nat) (l : List (Int × Int × Int)) (w : World) (hT : Tab w) (hm : members < 18446744073709551616)
    (hr : Rd w 3 sa n c (laC l)) (hl : Hid (l.length = n)) (hwf : ∀ x ∈ l, (Lit.int .i64 x.1).wf = true ∧ (Lit.int .i64 x.2.1).wf = true ∧ (Lit.int .u32 x.2.2).wf = true) (hn : n ≤ 300) (hat : at_ ≤ n) :
    Calls Tryd.prog 6 #[.int .u64 members, .int .i64 size, .slice sa n c, .int .i64 at_] w fun e w' => e = .returned (.bool true) ∧ Below w.heap.size w w' := by
  have hpos := hT.1
  have hI : (at_ : Int) ≤ n := by omega
  go_enter Tryd.func6, Tryd.ntmps6
  go_wp2_with fail
  refine (awake_any _ hT).mono ?_
  rintro e w1 ⟨rfl, hb1⟩
  have hT1 := hT.below hb1 hpos
  go_wp2_with fail
  refine (new_any 0 members size _ hm).mono ?_
  rintro e w2 ⟨b, rfl, hb, hwin, hb2⟩
  have E : LEnv w b (WS.nw 0 members size) w2 := ⟨belS hb1 hb2, Nat.le_trans hb1.size hb, hT1.below hb2 hT1.1, hwin⟩
  clear hwin hb2 hT1 hb1
  have HW := Lib.hid (show (WS.nw 0 members size).Ok ∧ (WS.nw 0 members size).sent = 0 from ⟨WS.nw_ok _ _ _ hm, rfl⟩)
  generalize WS.nw 0 members size = s0 at *
  go_wp2
  go_loopw [11] (fun i wr => ∃ (k : Nat) (s : WS), k ≤ at_ ∧ i = .int .i64 k ∧ Hid (s = s0.run l 0 k) ∧ Hid (s.Ok ∧ s.sent ≤ k) ∧ LEnv w b s wr) (fun i _ => at_ - (intOf i).toNat)
  case atStart => exact ⟨0, s0, Nat.zero_le _, rfl, (s0.run_0 l 0).symm, ⟨HW.out.1, Nat.le_of_eq HW.out.2⟩, E⟩
  case round =>
    clear E HW
    obtain ⟨k, s, hk, rfl, HR, HI, E⟩ := hrel
    by_cases hlt : k < at_
    · have hkl : k < l.length := by rw [hl.out]; omega
      have HN := Lib.hid (s0.run_s l 0 k (Nat.zero_le _) hkl)
      rw [← HR.out] at HN
      have hkn : (k : Int) < n := by omega
      obtain ⟨bs, off, rfl, _⟩ := hr.addr (by omega); obtain ⟨c0, c1, c2⟩ := (hr.below E.bel (Nat.le_refl _)).act3 k hkl; have hwf' := hwf _ (List.getElem_mem hkl); generalize l[k] = a at *; obtain ⟨p, q, z⟩ := a; simp only at c0 c1 c2 hwf'; obtain ⟨z, rfl⟩ : ∃ m : Nat, z = m := ⟨z.toNat, by have := hwf'.2.2; simp [Lit.wf, IntKind.min, IntKind.max, IntKind.bits, IntKind.signed] at this; omega⟩; have hq := wf_i64_bounds hwf'.2.1; clear hwf'
      have HO := Lib.hid (WS.act_ok HI.out.1 (p, q, (z : Int)) (by have := HI.out.2; omega))
      go_wp2_with fail
      refine (do_any s HI.out.1 (by have := HI.out.2; omega) p q z b _ E.win E.tab hq.1 hq.2).mono ?_
      rintro e w5 ⟨rfl, hwin, hkp⟩
      replace E := E.kp hpos hkp hwin
      go_wp2
      go_roundw
      case rel => exact ⟨k + 1, _, by omega, by go_num, HN.out.symm, ⟨HO.out.1, Nat.le_trans HO.out.2 (by have := HI.out.2; omega)⟩, E⟩
      case measure => simp [intOf]; omega
    · obtain rfl : k = at_ := by omega
      go_wp2_with fail
      refine (copy_any s b _ E.win).mono ?_
      rintro e w3 ⟨rfl, hcw, hbb⟩
      have F : LEnv2 w b wr.heap.size s s w3 := ⟨E.below hbb, ⟨(E.below hbb).bel, E.bel.size, (E.below hbb).tab, hcw⟩, Nat.ne_of_lt E.win.lt⟩
      clear E hcw hbb
      generalize wr.heap.size = d at *
      have HI2 := Lib.hid HI.out.1
      go_wp2_with fail
      refine (sent_any s b _ F.e.win).mono ?_
      rintro e w' ⟨rfl, rfl⟩
      go_wp2_with fail
      refine (low_any s HI.out.1 b _ F.e.win F.e.tab).mono ?_
      rintro e w4 ⟨rfl, hbb⟩
      replace F := F.below hbb
      clear hbb HR hlt hk
      go_wp2
      go_loopw [15] (fun i wr => ∃ (j : Nat) (t : WS), k ≤ j ∧ j ≤ n ∧ i = .int .i64 j ∧ Hid (t = s.run l k j) ∧ Hid (t.Ok ∧ t.sent ≤ j) ∧ LEnv2 w b d t s wr) (fun i _ => n - (intOf i).toNat)
      case atStart => exact ⟨k, s, Nat.le_refl _, hat, rfl, (s.run_0 l k).symm, HI.out, F⟩
      case round =>
        clear F
        obtain ⟨j, t, hkj, hj, rfl, HR2, HJ, F⟩ := hrel
        by_cases hlt : j < n
        · have hkl : j < l.length := by rw [hl.out]; omega
          have HN := Lib.hid (s.run_s l k j hkj hkl)
          rw [← HR2.out] at HN
          have hkn : (j : Int) < n := by omega
          obtain ⟨bs, off, rfl, _⟩ := hr.addr (by omega); obtain ⟨c0, c1, c2⟩ := (hr.below F.e.bel (Nat.le_refl _)).act3 j hkl; have hwf' := hwf _ (List.getElem_mem hkl); generalize l[j] = a at *; obtain ⟨p, q, z⟩ := a; simp only at c0 c1 c2 hwf'; obtain ⟨z, rfl⟩ : ∃ m : Nat, z = m := ⟨z.toNat, by have := hwf'.2.2; simp [Lit.wf, IntKind.min, IntKind.max, IntKind.bits, IntKind.signed] at this; omega⟩; have hq := wf_i64_bounds hwf'.2.1; clear hwf'
          have HO := Lib.hid (WS.act_ok HJ.out.1 (p, q, (z : Int)) (by have := HJ.out.2; omega))
          go_wp2_with fail
          refine (do_any t HJ.out.1 (by have := HJ.out.2; omega) p q z b _ F.e.win F.e.tab hq.1 hq.2).mono ?_
          rintro e w5 ⟨rfl, hwin, hkp⟩
          replace F := F.kp1 hpos hkp hwin
          go_wp2
          go_roundw
          case rel => exact ⟨j + 1, _, by omega, by omega, by go_num, HN.out.symm, ⟨HO.out.1, Nat.le_trans HO.out.2 (by have := HJ.out.2; omega)⟩, F⟩
          case measure => simp [intOf]; omega
        · obtain rfl : j = n := by omega
          go_wp2_with fail
          refine (sent_any s d _ F.f.win).mono ?_
          rintro e w' ⟨rfl, rfl⟩
          go_wp2_with fail
          refine (low_any s HI.out.1 d _ F.f.win F.f.tab).mono ?_
          rintro e w6 ⟨rfl, hbb⟩
          replace F := F.below hbb
          clear hbb hlt hj hkj
          go_wp2
          go_loopw [16] (fun i wr => ∃ (m : Nat) (u : WS), k ≤ m ∧ m ≤ j ∧ i = .int .i64 m ∧ Hid (u = s.run l k m) ∧ Hid (u.Ok ∧ u.sent ≤ m) ∧ LEnv2 w b d t u wr) (fun i _ => j - (intOf i).toNat)
          case atStart => exact ⟨k, s, Nat.le_refl _, hat, rfl, (s.run_0 l k).symm, HI.out, F⟩
          case round =>
            clear F
            obtain ⟨m, u, hkm, hm2, rfl, HR3, HM, F⟩ := hrel
            by_cases hlt : m < j
            · have hkl : m < l.length := by rw [hl.out]; omega
              have HN := Lib.hid (s.run_s l k m hkm hkl)
              rw [← HR3.out] at HN
              have hkn : (m : Int) < j := by omega
              obtain ⟨bs, off, rfl, _⟩ := hr.addr (by omega); obtain ⟨c0, c1, c2⟩ := (hr.below F.e.bel (Nat.le_refl _)).act3 m hkl; have hwf' := hwf _ (List.getElem_mem hkl); generalize l[m] = a at *; obtain ⟨p, q, z⟩ := a; simp only at c0 c1 c2 hwf'; obtain ⟨z, rfl⟩ : ∃ m : Nat, z = m := ⟨z.toNat, by have := hwf'.2.2; simp [Lit.wf, IntKind.min, IntKind.max, IntKind.bits, IntKind.signed] at this; omega⟩; have hq := wf_i64_bounds hwf'.2.1; clear hwf'
              have HO := Lib.hid (WS.act_ok HM.out.1 (p, q, (z : Int)) (by have := HM.out.2; omega))
              go_wp2_with fail
              refine (do_any u HM.out.1 (by have := HM.out.2; omega) p q z d _ F.f.win F.f.tab hq.1 hq.2).mono ?_
              rintro e w5 ⟨rfl, hwin, hkp⟩
              replace F := F.kp2 hpos hkp hwin
              go_wp2
              go_roundw
              case rel => exact ⟨m + 1, _, by omega, by omega, by go_num, HN.out.symm, ⟨HO.out.1, Nat.le_trans HO.out.2 (by have := HM.out.2; omega)⟩, F⟩
              case measure => simp [intOf]; omega
            · obtain rfl : m = j := by omega
              obtain rfl : u = t := HR3.out.trans HR2.out.symm
              go_wp2_with fail
              refine (sent_any u d _ F.f.win).mono ?_
              rintro e w' ⟨rfl, rfl⟩
              go_wp2_with fail
              refine (sent_any u b _ F.e.win).mono ?_
              rintro e w' ⟨rfl, rfl⟩
              go_wp2_with fail
              refine (low_any u HM.out.1 d _ F.f.win F.f.tab).mono ?_
              rintro e w7 ⟨rfl, hbb⟩
              replace F := F.below hbb
              go_wp2_with fail
              refine (low_any u HM.out.1 b _ F.e.win F.e.tab).mono ?_
              rintro e w8 ⟨rfl, hbb⟩
              replace F := F.below hbb
              go_wp2_with fail
              refine (lag_any u HM.out.1 d _ F.f.win F.f.tab).mono ?_
              rintro e w9 ⟨rfl, hbb⟩
              replace F := F.below hbb
              go_wp2_with fail
              refine (lag_any u HM.out.1 b _ F.e.win F.e.tab).mono ?_
              rintro e w10 ⟨rfl, hbb⟩
              replace F := F.below hbb
              go_wp2
              go_ret
              exact ⟨rfl, F.e.bel⟩
set_option maxHeartbeats 400000 in
theorem copies_out (size at_ : Int) (members : Nat) (sa : Option Addr) (n c : Nat) (w : World) (hT : Tab w) (h : 300 < n ∨ at_ < 0 ∨ (n : Int) < at_) (hn : n ≤ 9223372036854775807) :
    Calls Tryd.prog 6 #[.int .u64 members, .int .i64 size, .slice sa n c, .int .i64 at_] w fun e w' => e = .returned (.bool true) ∧ Below w.heap.size w w' := by
  go_enter Tryd.func6, Tryd.ntmps6
  go_wp2_with fail
  refine (awake_any _ hT).mono ?_
  rintro e w1 ⟨rfl, hb1⟩
  by_cases h1 : 300 < n
  · clear h; go_wp2; go_ret; exact ⟨rfl, hb1⟩
  by_cases h2 : at_ < 0
  · clear h; go_wp2; go_ret; exact ⟨rfl, hb1⟩
  · have h3 : (n : Int) < at_ := by omega
    clear h; go_wp2; go_ret; exact ⟨rfl, hb1⟩
theorem copies_law (members size : Int) (sa : Option Addr) (n c : Nat) (at_ : Int) (w : World) (hT : Tab w) (hm : (Lit.int .u64 members).wf = true) (_ : (Lit.int .i64 size).wf = true) (h : ∃ l, RSl RLa 3 w sa n c l) (_ : (Lit.int .i64 at_).wf = true) :
    Calls Tryd.prog 6 #[.int .u64 members, .int .i64 size, .slice sa n c, .int .i64 at_] w fun e w' => e = .returned (.bool true) ∧ Below w.heap.size w w' := by
  obtain ⟨l, hl⟩ := h
  obtain ⟨hr, hwf⟩ := hl.la
  obtain ⟨m, rfl, hm'⟩ := nat_u64 hm
  have hmx := hr.le_max
  unfold maxLen at hmx
  by_cases ho : 300 < n ∨ at_ < 0 ∨ (n : Int) < at_
  · exact copies_out size at_ m sa n c w hT ho hmx
  · obtain ⟨k, rfl⟩ : ∃ k : Nat, at_ = k := ⟨at_.toNat, by omega⟩
    exact copies_main size m sa n c k l w hT hm' hr hl.1.1 hwf (by omega) (by omega)
end Go.Proofs.YthjlilgnnmnaeaaDoor
