/- gather: the walk of GatherCopies -/
import Derived.Test.YtlgabjffnjciaaaDoorGatT
namespace Go.Proofs.YtlgabjffnjciaaaDoor
set_option linter.unusedSimpArgs false
set_option linter.unusedVariables false
open Go.RowKit Go.Sort
set_option maxHeartbeats 12800000 in
set_option maxRecDepth 100000 in
theorem copies_law (members : Nat) (hmem : members < 18446744073709551616) (a : Option Addr) (n c : Nat) (at' : Int) (l : List Ac) (w : World) (hT : Tab w) (hr : RdA w a n c l) (hx : ∀ y ∈ l, ExOk w y.x) (hn : n * 80 ≤ 140737488355328) :
    Calls Tryd.prog 7 #[.int .u64 members, .slice a n c, .int .i64 at'] w fun e w' => e = .returned (.bool true) ∧ Below w.heap.size w w' := by
  have HAw := Lib.hid (awake_any w hT)
  have HR := Lib.hid (fun W (hb : Below w.heap.size w W) => hr.below hb)
  have HF := Lib.hid (fun W (hb : Below w.heap.size w W) t ht => fewA_any a n c l hn t ht W (hr.below hb))
  have HT := Lib.hid (fun W (hb : Below w.heap.size w W) => hT.below hb hT.1)
  have hmx := hr.le_max
  have hl := Lib.hid hr.len
  have hsm := Lib.hid (fun y (hy : y ∈ l) => (hx y hy).2.1)
  clear hx hr hT
  cases hf : fewA l with
  | false =>
    go_enter Tryd.func7, Tryd.ntmps7
    go_wp2_with fail
    refine HAw.out.mono ?_
    rintro e wA ⟨rfl, hA⟩
    go_wp2_with fail
    refine (HF.out _ hA false hf.symm).mono ?_
    rintro e w2 ⟨rfl, hb2⟩
    go_wp2
    go_ret
    exact ⟨rfl, belS hA hb2⟩
  | true =>
  by_cases h0 : at' < 0
  · go_enter Tryd.func7, Tryd.ntmps7
    go_wp2_with fail
    refine HAw.out.mono ?_
    rintro e wA ⟨rfl, hA⟩
    go_wp2_with fail
    refine (HF.out _ hA true hf.symm).mono ?_
    rintro e w2 ⟨rfl, hb2⟩
    go_wp2
    go_ret
    exact ⟨rfl, belS hA hb2⟩
  by_cases h1 : (n : Int) < at'
  · go_enter Tryd.func7, Tryd.ntmps7
    go_wp2_with fail
    refine HAw.out.mono ?_
    rintro e wA ⟨rfl, hA⟩
    go_wp2_with fail
    refine (HF.out _ hA true hf.symm).mono ?_
    rintro e w2 ⟨rfl, hb2⟩
    go_wp2
    go_ret
    exact ⟨rfl, belS hA hb2⟩
  obtain ⟨k, rfl⟩ : ∃ k : Nat, at' = k := ⟨at'.toNat, by omega⟩
  have hk : k ≤ n := by omega
  have hkI : ¬ (n : Int) < k := by omega
  have hk0 : ¬ (k : Int) < 0 := by omega
  clear h0 h1
  go_enter Tryd.func7, Tryd.ntmps7
  go_wp2_with fail
  refine HAw.out.mono ?_
  rintro e wA ⟨rfl, hA⟩
  go_wp2_with fail
  refine (HF.out _ hA true hf.symm).mono ?_
  rintro e w2 ⟨rfl, hb2⟩
  have B2 := Lib.hid (belS hA hb2)
  clear HAw HF hA hb2 hf
  go_wp2_with (first | (refine wpList_blk_build rfl #[(0, .const (.int .u64 1))] rfl (by rw [List.map_toArray]; exact Tryd.bldC1 _) ?_))
  refine (g_new 1 0 members hmem w2).mono ?_
  rintro e w3 ⟨b, mb, rfl, hG3, hbl, hml, hb3⟩
  have B3 := Lib.hid (belS B2.out hb3)
  have hwb : w.heap.size ≤ b := Nat.le_trans B2.out.size hbl
  have hwm : w.heap.size ≤ mb := Nat.le_trans B2.out.size hml
  have hG3' : Hid (Gat w3 b mb (vAt members l 0)) := Lib.hid hG3
  clear hG3 hbl hml hb3 B2 hkI hk0
  go_wp2
  go_loopw [9] (fun iv wr => ∃ (i : Nat), i ≤ k ∧ iv = .int .i64 i ∧ Hid (Gat wr b mb (vAt members l i)) ∧ Hid (Below w.heap.size w wr)) (fun iv _ => k - (RowKit.intOf iv).toNat)
  case atStart => exact ⟨0, Nat.zero_le _, rfl, hG3', B3⟩
  case round =>
    clear hG3' B3
    obtain ⟨i, hi, rfl, hG, hbr⟩ := hrel
    obtain ⟨wo, rfl⟩ : ∃ z, z = wr := ⟨_, rfl⟩
    by_cases hik : i < k
    · have hiI : (i : Int) < k := by omega
      have hil : i < l.length := by rw [hl.out]; omega
      obtain ⟨g, off, rfl, hg, hrg, _, hinx⟩ := (HR.out _ hbr.out).at hil
      have hsy := hsm.out _ (List.getElem_mem hil)
      have hvs := Lib.hid (vAt_succ members l hil)
      generalize l[i] = y at *
      have hi8 := Tryd.acI y
      go_wp2_with (refine wpList_load_mid rfl _ (.tmp 42) rfl g (off + i * 8) rfl (acC y) _ hrg Tryd.underlying45 rfl hi8 ?_)
      refine (do_any (F := NoB) (fun _ h => h.elim) y hG.out.noB hinx hsy).mono ?_
      rintro e w4 ⟨rfl, hG4, hk4⟩
      have B4 := Lib.hid (KpO.fresh hbr.out hk4 hwb hwm hbr.out.size)
      have hG4' : Hid (Gat w4 b mb (vAt members l (i + 1))) := Lib.hid (by rw [hvs.out]; exact hG4.gat)
      clear hG4 hk4 hrg hinx hvs hG hbr
      go_wp2
      go_roundw
      case rel => exact ⟨i + 1, by omega, by go_num, hG4', B4⟩
      case measure => simp [RowKit.intOf]; omega
    · have hiI : (k : Int) ≤ i := by omega
      obtain rfl : i = k := by omega
      clear hik hi
      have HC := Lib.hid (c_copy hG.out)
      obtain ⟨hlb0, hlm0⟩ := hG.out.lt
      clear hG
      go_wp2_with fail
      refine HC.out.mono ?_
      rintro e w5 ⟨cb, cmb, rfl, hA5, hC5, hcb, hcm, hb5⟩
      have B5 := Lib.hid (belS hbr.out hb5)
      have hA5' := Lib.hid hA5
      have hC5' := Lib.hid hC5
      obtain ⟨hlb, hlm⟩ := hA5.gat.lt
      obtain ⟨hlc, hlcm⟩ := hC5.gat.lt
      have hwc : w.heap.size ≤ cb := Nat.le_trans hbr.out.size hcb
      have hwcm : w.heap.size ≤ cmb := Nat.le_trans hbr.out.size hcm
      have hn1 : ¬ Own2 b mb cb := by intro h; rcases h with h | h <;> omega
      have hn2 : ¬ Own2 b mb cmb := by intro h; rcases h with h | h <;> omega
      have hn3 : ¬ Own2 cb cmb b := by intro h; rcases h with h | h <;> omega
      have hn4 : ¬ Own2 cb cmb mb := by intro h; rcases h with h | h <;> omega
      clear hA5 hC5 hcb hcm hb5 hbr HC
      go_wp2_with fail
      refine (g_waits hA5'.out.gat).mono ?_
      rintro e w6 ⟨rfl, hb6⟩
      have hA6 := Lib.hid (hA5'.out.below hb6)
      have hC6 := Lib.hid (hC5'.out.below hb6)
      have B6 := Lib.hid (belS B5.out hb6)
      have hs6 := hb6.size
      clear hb6 hA5' hC5' B5
      go_wp2_with fail
      refine (g_exs (HT.out _ B6.out) hA6.out.gat).mono ?_
      rintro e w7 ⟨la, ln, lc, xs, rfl, hrow, hxs, _, hb7⟩
      have hA7 := Lib.hid (hA6.out.below hb7)
      have hC7 := Lib.hid (hC6.out.below hb7)
      have B7 := Lib.hid (belS B6.out hb7)
      have hX7 := Lib.hid hrow.rdB
      have hs7 := hb7.size
      have hF1 := Lib.hid (show ∀ g, Own2 b mb g → g < w6.heap.size from fun g hg => by rcases hg with rfl | rfl <;> omega)
      replace hxs := Lib.hid hxs
      clear hb7 hA6 hC6 B6 hrow
      go_wp2
      go_loopw [13] (fun iv wr => ∃ (j : Nat), i ≤ j ∧ j ≤ n ∧ iv = .int .i64 j ∧ Hid (GatC (Own2 cb cmb) wr b mb (vAt members l j)) ∧ Hid (GatC (Own2 b mb) wr cb cmb (vAt members l i)) ∧ Hid (RdB w6.heap.size wr la ln lc xs) ∧ Hid (Below w.heap.size w wr) ∧ Hid (w5.heap.size ≤ wr.heap.size)) (fun iv _ => n - (RowKit.intOf iv).toNat)
      case atStart => exact ⟨i, Nat.le_refl _, hk, rfl, hA7, hC7, hX7, B7, Lib.hid (by omega)⟩
      case round =>
        clear hA7 hC7 hX7 B7
        obtain ⟨j, hij, hj, rfl, hG, hC, hX, hbr, hsz⟩ := hrel
        obtain ⟨wp, rfl⟩ : ∃ z, z = wr := ⟨_, rfl⟩
        by_cases hjn : j < n
        · have hjI : (j : Int) < n := by omega
          have hil : j < l.length := by rw [hl.out]; omega
          obtain ⟨g, off, rfl, hg, hrg, _, hinx⟩ := (HR.out _ hbr.out).at hil
          have hsy := hsm.out _ (List.getElem_mem hil)
          have hvs := Lib.hid (vAt_succ members l hil)
          have hls := hsz.out
          have hF2 := Lib.hid (show ∀ g, Own2 cb cmb g → g < wp.heap.size from fun g hg => by rcases hg with rfl | rfl <;> omega)
          generalize l[j] = y at *
          have hi8 := Tryd.acI y
          go_wp2_with (refine wpList_load_mid rfl _ (.tmp 62) rfl g (off + j * 8) rfl (acC y) _ hrg Tryd.underlying45 rfl hi8 ?_)
          refine (do_any hF2.out y hG.out hinx hsy).mono ?_
          rintro e w8 ⟨rfl, hG8, hk8⟩
          have B8 := Lib.hid (KpO.fresh hbr.out hk8 hwb hwm hbr.out.size)
          have hG8' : Hid (GatC (Own2 cb cmb) w8 b mb (vAt members l (j + 1))) := Lib.hid (by rw [hvs.out]; exact hG8)
          have hC8 := Lib.hid (hC.out.kpO hk8 hn1 hn2)
          have hX8 := Lib.hid (hX.out.kpO hk8 hF1.out)
          have hs8 := Lib.hid (Nat.le_trans hls hk8.size)
          clear hG8 hk8 hrg hinx hvs hG hbr hC hX hsz hls hF2
          go_wp2
          go_roundw
          case rel => exact ⟨j + 1, by omega, by omega, by go_num, hG8', hC8, hX8, B8, hs8⟩
          case measure => simp [RowKit.intOf]; omega
        · have hjI : (n : Int) ≤ j := by omega
          obtain rfl : j = n := by omega
          clear hjn hj
          obtain ⟨v1, hv1⟩ : ∃ z, z = vAt members l i := ⟨_, rfl⟩
          rw [← hv1] at hC hxs
          go_wp2_with fail
          refine (g_waits hC.out.gat).mono ?_
          rintro e w8 ⟨rfl, hb8⟩
          have hG8 := Lib.hid (hG.out.below hb8)
          have hC8 := Lib.hid (hC.out.below hb8)
          have hX8 := Lib.hid (hX.out.below hb8)
          have B8 := Lib.hid (belS hbr.out hb8)
          have hs8 := Lib.hid (Nat.le_trans hsz.out hb8.size)
          clear hb8 hG hC hX hbr hsz
          rw [← hv1]
          obtain ⟨wv, hwv⟩ : ∃ z, z = waitsV v1 := ⟨_, rfl⟩
          rw [← hwv]
          have hne : ((wv : Int) != (wv : Int)) = false := by simp
          go_wp2_with fail
          refine (g_exs (HT.out _ B8.out) hC8.out.gat).mono ?_
          rintro e w9 ⟨la2, ln2, lc2, xs2, rfl, hrow, hxs2, _, hb9⟩
          have hG9 := Lib.hid (hG8.out.below hb9)
          have hC9 := Lib.hid (hC8.out.below hb9)
          have hX9 := Lib.hid (hX8.out.below hb9)
          have B9 := Lib.hid (belS B8.out hb9)
          have hs9 := Lib.hid (Nat.le_trans hs8.out hb9.size)
          have hY9 := Lib.hid hrow.rd
          clear hb9 hG8 hC8 hX8 B8 hs8 hrow
          go_wp2_with fail
          refine (rexs_eq la2 ln2 lc2 xs2 la ln lc xs (by rw [hxs2, hxs.out]) w9 hY9.out hX9.out.rd).mono ?_
          rintro e w10 ⟨rfl, hb10⟩
          have hG10 := Lib.hid (hG9.out.below hb10)
          have hC10 : Hid (Gat w10 cb cmb (vAt members l i)) := Lib.hid (by rw [← hv1]; exact (hC9.out.below hb10).gat)
          have B10 := Lib.hid (belS B9.out hb10)
          clear hb10 hG9 hC9 hX9 B9 hs9 hY9 hxs2 hxs hv1 hwv hne
          go_wp2
          go_loopw [14] (fun iv wr => ∃ (q : Nat), i ≤ q ∧ q ≤ j ∧ iv = .int .i64 q ∧ Hid (GatC (Own2 cb cmb) wr b mb (vAt members l j)) ∧ Hid (Gat wr cb cmb (vAt members l q)) ∧ Hid (Below w.heap.size w wr)) (fun iv _ => j - (RowKit.intOf iv).toNat)
          case atStart => exact ⟨i, Nat.le_refl _, hk, rfl, hG10, hC10, B10⟩
          case round =>
            clear hG10 hC10 B10
            obtain ⟨q, hiq, hq, rfl, hG, hC, hbr⟩ := hrel
            obtain ⟨wq, rfl⟩ : ∃ z, z = wr := ⟨_, rfl⟩
            by_cases hqn : q < j
            · have hqI : (q : Int) < j := by omega
              have hil : q < l.length := by rw [hl.out]; omega
              obtain ⟨g, off, rfl, hg, hrg, _, hinx⟩ := (HR.out _ hbr.out).at hil
              have hsy := hsm.out _ (List.getElem_mem hil)
              have hvs := Lib.hid (vAt_succ members l hil)
              generalize l[q] = y at *
              have hi8 := Tryd.acI y
              go_wp2_with (refine wpList_load_mid rfl _ (.tmp 87) rfl g (off + q * 8) rfl (acC y) _ hrg Tryd.underlying45 rfl hi8 ?_)
              refine (do_any (F := NoB) (fun _ h => h.elim) y hC.out.noB hinx hsy).mono ?_
              rintro e w11 ⟨rfl, hC11, hk11⟩
              have B11 := Lib.hid (KpO.fresh hbr.out hk11 hwc hwcm hbr.out.size)
              have hG11 := Lib.hid (hG.out.kpO hk11 hn3 hn4)
              have hC11' : Hid (Gat w11 cb cmb (vAt members l (q + 1))) := Lib.hid (by rw [hvs.out]; exact hC11.gat)
              clear hC11 hk11 hrg hinx hvs hG hbr hC
              go_wp2
              go_roundw
              case rel => exact ⟨q + 1, by omega, by omega, by go_num, hG11, hC11', B11⟩
              case measure => simp [RowKit.intOf]; omega
            · have hqI : (j : Int) ≤ q := by omega
              obtain rfl : q = j := by omega
              clear hqn hq
              have hG2 := Lib.hid hG.out.gat
              clear hG
              generalize vAt members l q = v at *
              go_wp2_with fail
              refine (g_waits hC.out).mono ?_
              rintro e w8 ⟨rfl, hb⟩
              have hG3 := Lib.hid (hG2.out.below hb)
              have hC3 := Lib.hid (hC.out.below hb)
              have B3 := Lib.hid (belS hbr.out hb)
              clear hb hG2 hC hbr
              go_wp2_with fail
              refine (g_waits hG3.out).mono ?_
              rintro e w8 ⟨rfl, hb⟩
              have hG4 := Lib.hid (hG3.out.below hb)
              have hC4 := Lib.hid (hC3.out.below hb)
              have B4 := Lib.hid (belS B3.out hb)
              clear hb hG3 hC3 B3
              generalize waitsV v = wv
              have heq : ((wv : Int) == (wv : Int)) = true := by simp
              obtain ⟨dv, hdv⟩ : ∃ z, z = doneV v := ⟨_, rfl⟩
              have hdd : (dv == dv) = true := by cases dv <;> rfl
              go_wp2_with fail
              refine (g_done dv hdv hC4.out).mono ?_
              rintro e w8 ⟨rfl, hb⟩
              have hG5 := Lib.hid (hG4.out.below hb)
              have hC5 := Lib.hid (hC4.out.below hb)
              have B5 := Lib.hid (belS B4.out hb)
              clear hb hG4 hC4 B4
              go_wp2_with fail
              refine (g_done dv hdv hG5.out).mono ?_
              rintro e w8 ⟨rfl, hb⟩
              have hG6 := Lib.hid (hG5.out.below hb)
              have hC6 := Lib.hid (hC5.out.below hb)
              have B6 := Lib.hid (belS B5.out hb)
              clear hb hG5 hC5 B5
              go_wp2_with fail
              refine (g_exs (HT.out _ B6.out) hC6.out).mono ?_
              rintro e w8 ⟨la3, ln3, lc3, xs3, rfl, hrow3, hxs3, _, hb⟩
              have hG7 := Lib.hid (hG6.out.below hb)
              have hR7 := Lib.hid hrow3.rd
              have B7 := Lib.hid (belS B6.out hb)
              clear hb hG6 hC6 B6 hrow3
              replace hxs3 := Lib.hid hxs3
              go_wp2_with fail
              refine (g_exs (HT.out _ B7.out) hG7.out).mono ?_
              rintro e w8 ⟨la4, ln4, lc4, xs4, rfl, hrow4, hxs4, _, hb⟩
              have hR8 := Lib.hid (hR7.out.below hb)
              have hR9 := Lib.hid hrow4.rd
              have B8 := Lib.hid (belS B7.out hb)
              clear hb hG7 hR7 B7 hrow4
              go_wp2_with fail
              refine (rexs_eq la3 ln3 lc3 xs3 la4 ln4 lc4 xs4 (by rw [hxs3.out, hxs4]) w8 hR8.out hR9.out).mono ?_
              rintro e w9 ⟨rfl, hb⟩
              go_wp2
              go_ret
              exact ⟨rfl, belS B8.out hb⟩
theorem copies_claim (members : Int) (a : Option Addr) (n c : Nat) (at' : Int) (W : World) (hT : Tab W) (hw : (Lit.int .u64 members).wf = true) (r : ∃ l, RSl RAc 8 W a n c l ∧ n * 80 ≤ reachBytes) (_ : (Lit.int .i64 at').wf = true) :
    Calls Tryd.prog 7 #[.int .u64 members, .slice a n c, .int .i64 at'] W fun e w' => e = .returned (.bool true) ∧ Below W.heap.size W w' := by
  obtain ⟨l, h1, h2⟩ := r
  obtain ⟨ys, hy, hyo⟩ := h1.acs
  obtain ⟨g0, g1⟩ := wf_u64_bounds hw
  obtain ⟨m, rfl⟩ : ∃ k : Nat, members = k := ⟨members.toNat, by omega⟩
  exact copies_law m (by omega) a n c at' ys W hT hy hyo (by unfold reachBytes at h2; omega)
end Go.Proofs.YtlgabjffnjciaaaDoor
