/- gather: the walk of GatherWaits -/
import Derived.Test.YtlgabjffnjciaaaDoorGatG
import Derived.Test.YtlgabjffnjciaaaDoorGatM
namespace Go.Proofs.YtlgabjffnjciaaaDoor
set_option linter.unusedSimpArgs false
set_option linter.unusedVariables false
open Go.RowKit Go.Sort
theorem few_lenA {l : List Ac} (h : fewA l = true) : l.length ≤ 80 := by
  have := (of_decide_eq_true h).1
  simpa using this
theorem KpO.fresh {B b mb : Nat} {w W W' : World} (hB : Below B w W) (hk : KpO (Own2 b mb) W W') (h1 : B ≤ b) (h2 : B ≤ mb) (hs : B ≤ W.heap.size) : Below B w W' := KpO.below hB hk (fun g hg => by rcases hg with rfl | rfl <;> assumption) hs
/-- Behind a call. -/
def WtR (w0 : World) (b mb members : Nat) (tt : Bool) (wx : World) : Prop := ∃ v : AtV, Gat wx b mb v ∧ VInv v ∧ v.mem = members ∧ Below w0.heap.size w0 wx ∧ (tt = true → toldV v = true)
set_option maxHeartbeats 12800000 in
set_option maxRecDepth 100000 in
theorem waits_law (members : Nat) (hmem : members < 18446744073709551616) (a : Option Addr) (n c : Nat) (l : List Ac) (w : World) (hT : Tab w) (hr : RdA w a n c l) (hx : ∀ y ∈ l, ExOk w y.x) (hn : n * 80 ≤ 140737488355328) :
    Calls Tryd.prog 6 #[.int .u64 members, .slice a n c] w fun e w' => e = .returned (.bool true) ∧ Below w.heap.size w w' := by
  have HAw := Lib.hid (awake_any w hT)
  have HR := Lib.hid (fun W (hb : Below w.heap.size w W) => hr.below hb)
  have HF := Lib.hid (fun W (hb : Below w.heap.size w W) t ht => fewA_any a n c l hn t ht W (hr.below hb))
  have hmx := hr.le_max
  have hl := Lib.hid hr.len
  have hsm := Lib.hid (fun y (hy : y ∈ l) => (hx y hy).2.1)
  clear hx hr hT
  cases hf : fewA l with
  | false =>
    go_enter Tryd.func6, Tryd.ntmps6
    go_wp2_with fail
    refine HAw.out.mono ?_
    rintro e wA ⟨rfl, hA⟩
    go_wp2_with fail
    refine (HF.out _ hA false hf.symm).mono ?_
    rintro e w2 ⟨rfl, hb2⟩
    go_wp2
    go_ret
    exact ⟨rfl, belS hA hb2⟩
  | true =>
  go_enter Tryd.func6, Tryd.ntmps6
  go_wp2_with fail
  refine HAw.out.mono ?_
  rintro e wA ⟨rfl, hA⟩
  go_wp2_with fail
  refine (HF.out _ hA true hf.symm).mono ?_
  rintro e w2 ⟨rfl, hb2⟩
  have B2 := Lib.hid (belS hA hb2)
  clear HAw HF hA hb2 hf
  go_wp2_with (first | (refine wpList_blk_build rfl #[(0, .const (.int .u64 1))] rfl (by rw [List.map_toArray]; exact Tryd.bldC1 _) ?_))
  refine (g_new 1 0 members hmem w2).mono ?_
  rintro e w3 ⟨b, mb, rfl, hG3, hbl, hml, hb3⟩
  have B3 := Lib.hid (belS B2.out hb3)
  have hwb : w.heap.size ≤ b := Nat.le_trans B2.out.size hbl
  have hwm : w.heap.size ≤ mb := Nat.le_trans B2.out.size hml
  have hG3' := Lib.hid hG3
  have hV3 : Hid (VInv ⟨1, 0, members, 0, []⟩) := Lib.hid (VInv.start 1 0 hmem)
  clear hG3 hbl hml hb3 B2
  go_wp2
  go_loopw [6, 7, 8] (fun iv _ _ wr => ∃ (i : Nat) (v : AtV), i ≤ n ∧ iv = .int .i64 i ∧ Hid (Gat wr b mb v) ∧ Hid (VInv v) ∧ Hid (v.mem = members) ∧ Hid (Below w.heap.size w wr)) (fun iv _ _ _ => n - (RowKit.intOf iv).toNat)
  case atStart => exact ⟨0, _, Nat.zero_le _, rfl, hG3', hV3, rfl, B3⟩
  case round =>
    clear hG3' hV3 B3
    obtain ⟨i, v, hi, rfl, hG, hV, hvm, hbr⟩ := hrel
    obtain ⟨wo, rfl⟩ : ∃ z, z = wr := ⟨_, rfl⟩
    by_cases hin : i < n
    · have hiI : (i : Int) < n := by omega
      have hil : i < l.length := by rw [hl.out]; exact hin
      obtain ⟨g, off, rfl, hg, hrg, _, hinx⟩ := (HR.out _ hbr.out).at hil
      have hsy := hsm.out _ (List.getElem_mem hil)
      generalize l[i] = y at *
      have hi8 := Tryd.acI y
      go_upto_region 10 with (first
        | (refine wpList_load_mid rfl _ (.tmp 25) rfl g (off + i * 8) rfl (acC y) _ hrg Tryd.underlying45 rfl hi8 ?_)
        | (refine wpList_blk_alloc rfl rfl Tryd.acZ wo.heap.size rfl ?_)
        | (refine wpList_blk_store (cs := acA y) rfl (.tmp 7) (.tmp 26) rfl rfl rfl (BlkAt.new wo _ _) hi8 rfl (acA_one y) ?_; intro w4 hX hK4 hsz4))
      have hb4 := alloc_store hK4
      have hG4 := Lib.hid (hG.out.below hb4)
      have B4 := Lib.hid (belS hbr.out hb4)
      have hin4 := Lib.hid (hinx.below hb4)
      obtain ⟨hob, hom⟩ := hG.out.lt
      clear hrg hinx hK4 hsz4 hb4 hG hbr
      obtain ⟨tt, htt⟩ : ∃ z, z = toldV v := ⟨_, rfl⟩
      have HT5 := Lib.hid (g_told tt htt hG4.out)
      replace htt := Lib.hid htt
      go_wp2_with fail
      refine HT5.out.mono ?_
      rintro e w5 ⟨rfl, hb5⟩
      have hX5 := hX.below hb5 hX.lt
      have hG5 := Lib.hid (hG4.out.below hb5)
      have B5 := Lib.hid (belS B4.out hb5)
      have hin5 := Lib.hid (hin4.out.below hb5)
      clear hX hb5 hG4 B4 hin4 HT5
      obtain ⟨x0, x1, x2, xr⟩ := blk8 hX5
      obtain ⟨rd, hrd⟩ : ∃ z, z = y.rdy := ⟨_, rfl⟩
      rw [← hrd] at x0
      clear hrd
      go_upto_if 30 with (fail)
      go_cut [] from 31 to 57 (fun wx => WtR w b mb members tt wx)
      case first => as_aux_lemma =>
        cases rd with
        | true =>
          go_wp2_with fail
          refine (g_ready y.p _ rfl hG5.out).mono ?_
          rintro e w6 ⟨rfl, hG6, hk6⟩
          have hX6 := hk6.blk hX5 (fun h => by rcases h with h | h <;> omega)
          have B6 := Lib.hid (KpO.fresh B5.out hk6 hwb hwm B5.out.size)
          have hV6 := Lib.hid (hV.out.toRdy y.p)
          have hm6 := Lib.hid ((rdyV_mem v y.p).1.trans hvm.out)
          have ht6 := Lib.hid (show tt = true → toldV (rdyV v y.p) = true from fun h => by rw [told_rdy, ← htt.out]; exact h)
          have hw6 := Lib.hid (show tt = true → hasB (waitsV (rdyV v y.p)) y.p = false from fun h => hV.out.waits_rdy (by rw [← htt.out]; exact h) y.p)
          generalize (rdyC v y.p && doneV (rdyV v y.p)) = rb
          generalize rdyV v y.p = v6 at *
          obtain ⟨z0, z1, z2, zr⟩ := blk8 hX6
          clear hk6 x0 x1 x2 xr hX5 hG5 B5 zr
          cases tt with
          | false =>
            go_upto_region 13 with (fail)
            go_quiet (fail)
            go_wp2_with fail
            go_meet
            exact ⟨v6, hG6.below (belN (Below.refl _ _) _), hV6.out, hm6.out, belN B6.out _, fun h => ht6.out (by first | exact h | trivial)⟩
          | true =>
            have hwf := hw6.out rfl
            have k1 := cell_regrown z1
            have kW := fun d os => Calls.regrown_of (g_waits (hG6.below (below_regrown w6 d os)))
            have kH := fun d os => Calls.regrown_of (pureB (has_any (waitsV v6) y.p (waitsV_lt hG6.mem) (grow (redrawn w6 d) os)))
            rw [hwf] at kH
            generalize waitsV v6 = wv at *
            clear z0 z1 z2 hwf
            go_upto_region 13 with (fail)
            refine wp_region_quiet_below (by kernel_rfl) (by kernel_rfl) ?_
            iterate 8 (go_big_quiet_step (first | (with_reducible exact kW _ _) | (with_reducible exact kH _ _)))
            refine wpQuiet_nil ?_; intro w4' hw'; obtain ⟨⟨dq, osq⟩, hw''⟩ := hw'; subst hw''
            go_wp2_with fail
            go_meet
            exact ⟨v6, hG6.below (below_regrown _ _ _), hV6.out, hm6.out, belS B6.out (below_regrown _ _ _), fun h => ht6.out (by first | exact h | trivial)⟩
        | false =>
          have hi := Tryd.exI y.x
          go_wp2_with (refine wpList_load_mid rfl _ (.tmp 44) rfl wo.heap.size 2 rfl (xcC y.x) _ xr Tryd.underlying43 rfl hi ?_)
          refine (g_add y.x _ rfl hG5.out hin5.out hsy).mono ?_
          rintro e w6 ⟨rfl, hG6, hk6⟩
          have hX6 := hk6.blk hX5 (fun h => by rcases h with h | h <;> omega)
          have B6 := Lib.hid (KpO.fresh B5.out hk6 hwb hwm B5.out.size)
          have hV6 := Lib.hid (hV.out.toAdd y.x.v)
          have hm6 := Lib.hid ((addV_mem v y.x.v).1.trans hvm.out)
          have ht6 := Lib.hid (show tt = true → toldV (addV v y.x.v) = true from fun h => by rw [hV.out.told_add (by rw [← htt.out]; exact h), ← htt.out]; exact h)
          have hw6 := Lib.hid (show toldV (addV v y.x.v) = false → hasB (waitsV (addV v y.x.v)) y.x.v.who = false from hV.out.waits_add y.x.v)
          generalize (addC v y.x.v.who && toldV (addV v y.x.v)) = rb
          generalize addV v y.x.v = v6 at *
          obtain ⟨z0, z1, z2, zr⟩ := blk8 hX6
          clear hk6 x0 x1 x2 xr hX5 hG5 B5 zr
          obtain ⟨t6, ht6'⟩ : ∃ z, z = toldV v6 := ⟨_, rfl⟩
          have kT := fun d os => Calls.regrown_of (g_told t6 ht6' (hG6.below (below_regrown w6 d os)))
          rw [← ht6'] at hw6
          clear ht6'
          cases t6 with
          | true =>
            clear z0 z1 z2 hw6
            go_upto_region 16 with (fail)
            refine wp_region_quiet_below (by kernel_rfl) (by kernel_rfl) ?_
            iterate 11 (go_big_quiet_step (first | (with_reducible exact kT _ _)))
            refine wpQuiet_nil ?_; intro w4' hw'; obtain ⟨⟨dq, osq⟩, hw''⟩ := hw'; subst hw''
            go_wp2_with fail
            go_meet
            exact ⟨v6, hG6.below (below_regrown _ _ _), hV6.out, hm6.out, belS B6.out (below_regrown _ _ _), fun h => ht6.out (by first | exact h | trivial)⟩
          | false =>
            have hwf := hw6.out rfl
            have k2 := cell_regrown z2
            have kW := fun d os => Calls.regrown_of (g_waits (hG6.below (below_regrown w6 d os)))
            have kH := fun d os => Calls.regrown_of (pureB (has_any (waitsV v6) y.x.v.who (waitsV_lt hG6.mem) (grow (redrawn w6 d) os)))
            rw [hwf] at kH
            generalize waitsV v6 = wv at *
            clear z0 z1 z2 hwf hw6
            go_upto_region 16 with (fail)
            refine wp_region_quiet_below (by kernel_rfl) (by kernel_rfl) ?_
            iterate 11 (go_big_quiet_step (first | (with_reducible exact kT _ _) | (with_reducible exact kW _ _) | (with_reducible exact kH _ _)))
            refine wpQuiet_nil ?_; intro w4' hw'; obtain ⟨⟨dq, osq⟩, hw''⟩ := hw'; subst hw''
            go_wp2_with fail
            go_meet
            exact ⟨v6, hG6.below (below_regrown _ _ _), hV6.out, hm6.out, belS B6.out (below_regrown _ _ _), fun h => ht6.out (by first | exact h | trivial)⟩
      case rest => as_aux_lemma =>
        obtain ⟨w7, rfl⟩ : ∃ z, z = wc := ⟨_, rfl⟩
        obtain ⟨v7, hG7, hV7, hm7, hB7, ht7⟩ := hcut
        replace hV7 := Lib.hid hV7
        replace hm7 := Lib.hid hm7
        replace ht7 := Lib.hid ht7
        clear x0 x1 x2 xr hX5 hG5 B5 hV hvm htt hin5
        obtain ⟨wv, hwv⟩ : ∃ z, z = waitsV v7 := ⟨_, rfl⟩
        have HW := Lib.hid (fun W (h : Below w7.heap.size w7 W) => g_waits (hG7.below h))
        have HD := Lib.hid (fun W (h : Below w7.heap.size w7 W) => g_done _ rfl (hG7.below h))
        have HT := Lib.hid (fun W (h : Below w7.heap.size w7 W) t ht => g_told t ht (hG7.below h))
        have hIn := hV7.out.waits_in
        have hwl := waitsV_lt hG7.mem
        have hdn := hV7.out.waits_done
        rw [← hwv] at HW hIn hwl hdn
        rw [← hdn] at HD
        rw [hm7.out] at hIn
        replace hIn := Lib.hid hIn
        replace hwv := Lib.hid hwv
        have C0 := Below.refl w7.heap.size w7
        by_cases h0 : wv = 0
        · have e1 : ((wv : Int) == 0) = true := by rw [beq_iff_eq]; omega
          have e2 : (wv == 0) = true := by rw [beq_iff_eq]; exact h0
          rw [decide_eq_true h0] at HD
          clear h0
          go_wp2_with fail
          refine (HW.out _ C0).mono ?_
          rintro e w8 ⟨rfl, hb⟩
          have C1 := belS C0 hb
          clear hb C0
          go_wp2_with fail
          refine (HD.out _ C1).mono ?_
          rintro e w9 ⟨rfl, hb⟩
          have C2 := belS C1 hb
          clear hb C1
          go_wp2_with fail
          refine (HW.out _ C2).mono ?_
          rintro e w10 ⟨rfl, hb⟩
          have C3 := belS C2 hb
          clear hb C2
          go_wp2_with fail
          refine (in_any wv members hwl hmem _).mono ?_
          rintro e w11 ⟨rfl, rfl⟩
          rw [hIn.out]
          cases tt with
          | true =>
            have h77 := Lib.hid (ht7.out rfl).symm
            go_wp2_with fail
            refine (HT.out _ C3 true h77.out).mono ?_
            rintro e w12 ⟨rfl, hb⟩
            have C4 := belS C3 hb
            clear hb C3
            go_wp2
            go_roundw
            case rel => first | exact ⟨i + 1, v7, by omega, by go_num, Lib.hid (hG7.below C4), hV7, hm7, Lib.hid (belS hB7 C4)⟩ | ((repeat apply Exists.intro); exact ⟨⟨by omega, by go_num, Lib.hid (hG7.below C4), hV7, hm7, Lib.hid (belS hB7 C4)⟩, rfl⟩)
            case measure => simp [RowKit.intOf]; omega
          | false =>
            go_wp2
            go_roundw
            case rel => first | exact ⟨i + 1, v7, by omega, by go_num, Lib.hid (hG7.below C3), hV7, hm7, Lib.hid (belS hB7 C3)⟩ | ((repeat apply Exists.intro); exact ⟨⟨by omega, by go_num, Lib.hid (hG7.below C3), hV7, hm7, Lib.hid (belS hB7 C3)⟩, rfl⟩)
            case measure => simp [RowKit.intOf]; omega
        · have e1 : ((wv : Int) == 0) = false := by rw [beq_eq_false_iff_ne]; omega
          have e2 : (wv == 0) = false := by rw [beq_eq_false_iff_ne]; exact h0
          rw [decide_eq_false h0] at HD
          clear h0
          go_wp2_with fail
          refine (HW.out _ C0).mono ?_
          rintro e w8 ⟨rfl, hb⟩
          have C1 := belS C0 hb
          clear hb C0
          go_wp2_with fail
          refine (HD.out _ C1).mono ?_
          rintro e w9 ⟨rfl, hb⟩
          have C2 := belS C1 hb
          clear hb C1
          go_wp2_with fail
          refine (HW.out _ C2).mono ?_
          rintro e w10 ⟨rfl, hb⟩
          have C3 := belS C2 hb
          clear hb C2
          go_wp2_with fail
          refine (in_any wv members hwl hmem _).mono ?_
          rintro e w11 ⟨rfl, rfl⟩
          rw [hIn.out]
          cases tt with
          | true =>
            have h77 := Lib.hid (ht7.out rfl).symm
            go_wp2_with fail
            refine (HT.out _ C3 true h77.out).mono ?_
            rintro e w12 ⟨rfl, hb⟩
            have C4 := belS C3 hb
            clear hb C3
            go_wp2
            go_roundw
            case rel => first | exact ⟨i + 1, v7, by omega, by go_num, Lib.hid (hG7.below C4), hV7, hm7, Lib.hid (belS hB7 C4)⟩ | ((repeat apply Exists.intro); exact ⟨⟨by omega, by go_num, Lib.hid (hG7.below C4), hV7, hm7, Lib.hid (belS hB7 C4)⟩, rfl⟩)
            case measure => simp [RowKit.intOf]; omega
          | false =>
            go_wp2
            go_roundw
            case rel => first | exact ⟨i + 1, v7, by omega, by go_num, Lib.hid (hG7.below C3), hV7, hm7, Lib.hid (belS hB7 C3)⟩ | ((repeat apply Exists.intro); exact ⟨⟨by omega, by go_num, Lib.hid (hG7.below C3), hV7, hm7, Lib.hid (belS hB7 C3)⟩, rfl⟩)
            case measure => simp [RowKit.intOf]; omega
    · have hiI : (n : Int) ≤ i := by omega
      go_wp2
      go_ret
      exact ⟨rfl, hbr.out⟩
theorem waits_claim (members : Int) (a : Option Addr) (n c : Nat) (W : World) (hT : Tab W) (hw : (Lit.int .u64 members).wf = true) (r : ∃ l, RSl RAc 8 W a n c l ∧ n * 80 ≤ reachBytes) :
    Calls Tryd.prog 6 #[.int .u64 members, .slice a n c] W fun e w' => e = .returned (.bool true) ∧ Below W.heap.size W w' := by
  obtain ⟨l, h1, h2⟩ := r
  obtain ⟨ys, hy, hyo⟩ := h1.acs
  obtain ⟨g0, g1⟩ := wf_u64_bounds hw
  obtain ⟨m, rfl⟩ : ∃ k : Nat, members = k := ⟨members.toNat, by omega⟩
  exact waits_law m (by omega) a n c ys W hT hy hyo (by unfold reachBytes at h2; omega)
end Go.Proofs.YtlgabjffnjciaaaDoor
