/- gather: the reference's Waits -/
import Derived.Test.YtlgabjffnjciaaaDoorGatZb
namespace Go.Proofs.YtlgabjffnjciaaaDoor
set_option linter.unusedSimpArgs false
set_option linter.unusedVariables false
open Go.RowKit Go.Sort
def wB (v : AtV) (p : Nat) : Bool := hasB v.mem (p : Int) && (if toldV v = true then !hasB v.rdy (p : Int) else !thereV v (p : Int))
theorem wB_bit {v : AtV} (hV : VInv v) (i : Nat) (hi : i < 64) : (waitsV v).testBit i = wB v i := by
  unfold waitsV wB
  rw [hasB_nat hi]
  cases ht : toldV v with
  | true => rw [if_pos rfl, if_pos rfl, but_bit hV.rdy i hi, hasB_nat hi]
  | false =>
    rw [if_neg (by decide), if_neg (by decide), show withN 0 (v.xs.map (·.who)) = whoN v from rfl, but_bit (whoN_lt v) i hi]
    congr 2
    rw [Bool.eq_iff_iff]
    unfold thereV
    rw [List.any_eq_true]
    exact (whoN_bit v i hi).trans ⟨fun ⟨x, hx, e⟩ => ⟨x, hx, decide_eq_true e⟩, fun ⟨x, hx, e⟩ => ⟨x, hx, of_decide_eq_true e⟩⟩
def WS16 (v : AtV) (s p : Nat) : Prop := s < 18446744073709551616 ∧ ∀ i, i < 64 → s.testBit i = (decide (i < p) && wB v i)
theorem WS16.no {v : AtV} {s p : Nat} (h : WS16 v s p) (hb : wB v p = false) : WS16 v s (p + 1) := by
  refine ⟨h.1, fun i hi => ?_⟩
  rw [h.2 i hi]
  by_cases e : i = p
  · subst e; rw [hb]; simp
  · have : decide (i < p) = decide (i < p + 1) := by rw [decide_eq_decide]; omega
    rw [this]
theorem WS16.yes {v : AtV} {s p : Nat} (h : WS16 v s p) (hp : p < 64) (hb : wB v p = true) : WS16 v (s ||| 2 ^ p) (p + 1) := by
  refine ⟨Nat.or_lt_two_pow (n := 64) h.1 (Nat.pow_lt_pow_right (by decide) hp), fun i hi => ?_⟩
  rw [Nat.testBit_or, h.2 i hi, Nat.testBit_two_pow]
  by_cases e : p = i
  · subst e; rw [hb]; simp
  · have : decide (i < p) = decide (i < p + 1) := by rw [decide_eq_decide]; omega
    rw [this, decide_eq_false e, Bool.or_false]
theorem WS16.fin {v : AtV} {s : Nat} (hV : VInv v) (h : WS16 v s 64) : s = waitsV v := by
  refine ext64 h.1 (waitsV_lt hV.mem) (fun i hi => ?_)
  rw [h.2 i hi, wB_bit hV i hi, decide_eq_true hi, Bool.true_and]
section
variable {w : World} {v : AtV} {a : Option Addr} {n c : Nat} {xs : List Xc}
set_option maxHeartbeats 6400000 in
set_option maxRecDepth 100000 in
theorem rwaits_any (h : Rf w v a n c xs) :
    Calls Tryd.prog 29 #[.agg (rfA v a n c)] w fun e w' => e = .returned (.int .u64 (waitsV v : Nat)) ∧ Below w.heap.size w w' := by
  have hB := BlkAt.new w 53 (rfA v a n c)
  have hb1 := alloc_below w (.cells (rfA v a n c) 53)
  have HO := Lib.hid (fun p W (hb : Below w.heap.size w W) => rof_any p (h.below hb))
  obtain ⟨tt, htt⟩ : ∃ z, z = toldV v := ⟨_, rfl⟩
  have HT := Lib.hid (fun W (hb : Below w.heap.size w W) => rtold_any tt htt (h.below hb))
  have HM := Lib.hid (fun p t ht W => member_any v.mem p t ht h.inv.mem W)
  have HR := Lib.hid (fun p t ht W => member_any v.rdy p t ht h.inv.rdy W)
  have hth := Lib.hid (fun p => h.of_there p)
  have hfin := Lib.hid (fun s => WS16.fin (s := s) h.inv)
  have hiR := Tryd.rfI v a n c
  have hiZ : (Tryd.prog.info? 43).map (·.size) = some (#[.int .i64 0, .int .u64 0, .int .i64 0, .slice none 0 0, .int .u64 0, .int .i64 0] : Array Value).size := by show _ = some 6; kernel_rfl
  have hstart : WS16 v 0 0 := ⟨by decide, fun i hi => by simp⟩
  replace htt := Lib.hid htt
  clear h
  go_enter Tryd.func29, Tryd.ntmps29
  go_wp2_with (first | (refine wpList_blk_box rfl (.tmp 0) rfl rfl w.heap.size rfl ?_))
  generalize w.alloc _ = w1 at *
  have B1 := Lib.hid hb1
  have hSt := Lib.hid hstart
  clear hb1 hstart
  go_loopw [3, 4, 5, 6, 11] (fun sv pv _ _ _ wr => ∃ (p s : Nat), p ≤ 64 ∧ pv = .int .i64 p ∧ sv = .int .u64 s ∧ Hid (WS16 v s p) ∧ Hid (Below w.heap.size w wr) ∧ Hid (BlkAt wr w.heap.size 53 (rfA v a n c))) (fun _ pv _ _ _ _ => 64 - (RowKit.intOf pv).toNat)
  case atStart => exact ⟨0, 0, by omega, rfl, rfl, hSt, B1, Lib.hid hB⟩
  case round =>
    clear hB B1 hSt
    obtain ⟨p, s, hp, rfl, rfl, hS, hbr, hBr⟩ := hrel
    obtain ⟨wo, rfl⟩ : ∃ z, z = wr := ⟨_, rfl⟩
    by_cases hlt : p < 64
    · have hI : (p : Int) < 64 := by omega
      have hsl := hS.out.1
      obtain ⟨th, hthp⟩ : ∃ z, z = thereV v (p : Int) := ⟨_, rfl⟩
      obtain ⟨m1, hm1⟩ : ∃ z, z = hasB v.mem (p : Int) := ⟨_, rfl⟩
      obtain ⟨m2, hm2⟩ : ∃ z, z = hasB v.rdy (p : Int) := ⟨_, rfl⟩
      have hwb := Lib.hid (show wB v p = (m1 && (if tt = true then !m2 else !th)) from by rw [wB, htt.out, hthp, hm1, hm2])
      have hno := Lib.hid (fun (e : (m1 && (if tt = true then !m2 else !th)) = false) => Lib.hid (hS.out.no (by rw [hwb.out, e])))
      have hye := Lib.hid (fun (e : (m1 && (if tt = true then !m2 else !th)) = true) => Lib.hid (hS.out.yes hlt (by rw [hwb.out, e])))
      have hor := Lib.hid (shl_or s p hsl hlt)
      have hM1 := Lib.hid (fun W => HM.out (p : Int) m1 hm1 W)
      have hM2 := Lib.hid (fun W => HR.out (p : Int) m2 hm2 W)
      replace hthp := Lib.hid hthp
      clear hm1 hm2
      go_upto_region 5 with (fail)
      go_cut [5, 6] from 11 to 16 (fun _ t wx => t = .bool th ∧ Below wo.heap.size wo wx)
      case first => as_aux_lemma =>
        have hBo := hBr.out
        go_wp2_with (refine wpList_blk_load rfl (.tmp 1) rfl Tryd.underlying53 rfl rfl hBo hiR ?_)
        refine (HO.out (p : Int) _ hbr.out).mono ?_
        rintro e w2 ⟨⟨y, hy⟩, hb2⟩
        have hZ := BlkAt.new w2 43 #[.int .i64 0, .int .u64 0, .int .i64 0, .slice none 0 0, .int .u64 0, .int .i64 0]
        rcases hy with ⟨hof, rfl⟩ | ⟨hof, rfl⟩
        · have hiY := Tryd.exI y
          have hth2 := Lib.hid (show th = true from by rw [hthp.out, hth.out, hof]; rfl)
          replace hof := Lib.hid hof
          go_wp2_with (first
            | (refine wpList_blk_alloc rfl rfl Tryd.exZ w2.heap.size rfl ?_)
            | (refine wpList_blk_store (cs := xcA y) rfl (.tmp 5) (.tmp 15) rfl rfl rfl hZ hiY rfl (xcA_one y) ?_; intro w4 hX4 hK4 hsz4))
          go_meet
          exact ⟨by rw [hth2.out], belS hb2 (alloc_store hK4)⟩
        · have hth2 := Lib.hid (show th = false from by rw [hthp.out, hth.out, hof]; rfl)
          replace hof := Lib.hid hof
          go_wp2_with (first
            | (refine wpList_blk_alloc rfl rfl Tryd.exZ w2.heap.size rfl ?_)
            | (refine wpList_blk_store (cs := #[.int .i64 0, .int .u64 0, .int .i64 0, .slice none 0 0, .int .u64 0, .int .i64 0]) rfl (.tmp 5) (.tmp 15) rfl rfl rfl hZ hiZ rfl (by simp [Value.oneCell']) ?_; intro w4 hX4 hK4 hsz4))
          go_meet
          exact ⟨by rw [hth2.out], belS hb2 (alloc_store hK4)⟩
      case rest => as_aux_lemma =>
        obtain ⟨rfl, hb2⟩ := hcut
        obtain ⟨w3, rfl⟩ : ∃ z, z = wc := ⟨_, rfl⟩
        have hB3 := hBr.out.below hb2 hBr.out.lt
        have b3 := Lib.hid (belS hbr.out hb2)
        clear hBr hbr hb2 HO hth
        obtain ⟨c0, c1, c2, c3, c4⟩ := blk5 hB3
        cases m1 with
        | false =>
          go_wp2_with fail
          refine (hM1.out _).mono ?_
          rintro e w4 ⟨rfl, rfl⟩
          go_wp2
          go_roundw
          case rel => first | exact ⟨p + 1, s, by omega, by go_num, rfl, hno.out rfl, b3, Lib.hid hB3⟩ | ((repeat apply Exists.intro); exact ⟨⟨by omega, by go_num, rfl, hno.out rfl, b3, Lib.hid hB3⟩, rfl⟩)
          case measure => simp [RowKit.intOf]; omega
        | true =>
        cases tt with
        | true =>
          go_wp2_with fail
          refine (hM1.out _).mono ?_
          rintro e w4 ⟨rfl, rfl⟩
          go_wp2_with (refine wpList_blk_load rfl (.tmp 1) rfl Tryd.underlying53 rfl rfl hB3 hiR ?_)
          refine (HT.out _ b3.out).mono ?_
          rintro e w4 ⟨rfl, hb4⟩
          have hB4 := hB3.below hb4 hB3.lt
          have b4 := Lib.hid (belS b3.out hb4)
          clear c0 c1 c2 c3 c4 hB3 b3 hb4
          obtain ⟨c0, c1, c2, c3, c4⟩ := blk5 hB4
          go_wp2_with fail
          refine (hM2.out _).mono ?_
          rintro e w5 ⟨rfl, rfl⟩
          cases m2 with
          | false =>
            go_wp2
            rw [hor.out]
            go_roundw
            case rel => first | exact ⟨p + 1, s ||| 2 ^ p, by omega, by go_num, rfl, hye.out rfl, b4, Lib.hid hB4⟩ | ((repeat apply Exists.intro); exact ⟨⟨by omega, by go_num, rfl, hye.out rfl, b4, Lib.hid hB4⟩, rfl⟩)
            case measure => simp [RowKit.intOf]; omega
          | true =>
            go_wp2_with (refine wpList_blk_load rfl (.tmp 1) rfl Tryd.underlying53 rfl rfl hB4 hiR ?_)
            refine (HT.out _ b4.out).mono ?_
            rintro e w6 ⟨rfl, hb6⟩
            have hB6 := Lib.hid (hB4.below hb6 hB4.lt)
            have b6 := Lib.hid (belS b4.out hb6)
            clear c0 c1 c2 c3 c4 hB4 b4 hb6
            go_wp2
            go_roundw
            case rel => first | exact ⟨p + 1, s, by omega, by go_num, rfl, hno.out rfl, b6, hB6⟩ | ((repeat apply Exists.intro); exact ⟨⟨by omega, by go_num, rfl, hno.out rfl, b6, hB6⟩, rfl⟩)
            case measure => simp [RowKit.intOf]; omega
        | false =>
          go_wp2_with fail
          refine (hM1.out _).mono ?_
          rintro e w4 ⟨rfl, rfl⟩
          go_wp2_with (refine wpList_blk_load rfl (.tmp 1) rfl Tryd.underlying53 rfl rfl hB3 hiR ?_)
          refine (HT.out _ b3.out).mono ?_
          rintro e w4 ⟨rfl, hb4⟩
          have hB4 := hB3.below hb4 hB3.lt
          have b4 := Lib.hid (belS b3.out hb4)
          clear c0 c1 c2 c3 c4 hB3 b3 hb4
          obtain ⟨c0, c1, c2, c3, c4⟩ := blk5 hB4
          go_wp2_with (refine wpList_blk_load rfl (.tmp 1) rfl Tryd.underlying53 rfl rfl hB4 hiR ?_)
          refine (HT.out _ b4.out).mono ?_
          rintro e w6 ⟨rfl, hb6⟩
          have hB6 := Lib.hid (hB4.below hb6 hB4.lt)
          have b6 := Lib.hid (belS b4.out hb6)
          clear hB4 b4 hb6 c0 c1 c2 c3 c4
          cases th with
          | true =>
            go_wp2
            go_roundw
            case rel => first | exact ⟨p + 1, s, by omega, by go_num, rfl, hno.out rfl, b6, hB6⟩ | ((repeat apply Exists.intro); exact ⟨⟨by omega, by go_num, rfl, hno.out rfl, b6, hB6⟩, rfl⟩)
            case measure => simp [RowKit.intOf]; omega
          | false =>
            go_wp2
            rw [hor.out]
            go_roundw
            case rel => first | exact ⟨p + 1, s ||| 2 ^ p, by omega, by go_num, rfl, hye.out rfl, b6, hB6⟩ | ((repeat apply Exists.intro); exact ⟨⟨by omega, by go_num, rfl, hye.out rfl, b6, hB6⟩, rfl⟩)
            case measure => simp [RowKit.intOf]; omega
    · obtain rfl : p = 64 := by omega
      have he := Lib.hid (hfin.out s hS.out)
      go_wp2
      go_ret
      exact ⟨by rw [he.out]; rfl, hbr.out⟩
end
end Go.Proofs.YtlgabjffnjciaaaDoor
