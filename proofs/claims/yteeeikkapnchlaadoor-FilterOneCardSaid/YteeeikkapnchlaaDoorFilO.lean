/- filter: FilterLive -/
import Derived.Test.YteeeikkapnchlaaDoorFilN
namespace Go.Proofs.YteeeikkapnchlaaDoor
set_option linter.unusedSimpArgs false
set_option linter.unusedVariables false
open Go.RowKit Go.Sort
theorem acA_conf (y : Ac) : ∀ j v, (#[Value.int .u64 y.ce, .int .i64 y.cr] : Array Value).toList[j]? = some v → (acA y)[3 + j]? = some v := by
  intro j v h
  rcases j with _ | _ | j
  · exact h
  · exact h
  · cases h
theorem acA_item (y : Ac) : ∀ j v, (iwA y.x).toList[j]? = some v → (acA y)[6 + j]? = some v := by
  intro j v h
  have : (iwC y.x)[j]? = some v := by simpa [iwA] using h
  show (acC y).toArray[6 + j]? = some v
  rw [List.getElem?_toArray, acC, Nat.add_comm]
  exact this
theorem AcOk.wf {w : World} {y : Ac} (h : AcOk w y) (hl : y.x.v.rc.pend.length ≤ 500) : y.x.v.Wf := ⟨h.rc, h.vw, by omega⟩
set_option maxHeartbeats 12800000 in
set_option maxRecDepth 100000 in
theorem live_law (rc : Rc) (pa : Option Addr) (pn pc : Nat) (a : Option Addr) (n c : Nat) (l : List Ac) (w : World) (hT : Tab w) (hwf : rc.Wf) (hr : RdV w pa pn pc rc.pend) (hA : RdA w a n c l) :
    Calls Tryd.prog 4 #[.agg #[.int .u64 rc.last.num, .int .u64 rc.last.ce, .int .i64 rc.last.cr, .int .u64 rc.last.mem, .slice pa pn pc], .slice a n c] w fun e w' => e = .returned (.bool true) ∧ Below w.heap.size w w' := by
  have hB0 := BlkAt.new w 38 #[.int .u64 rc.last.num, .int .u64 rc.last.ce, .int .i64 rc.last.cr, .int .u64 rc.last.mem, .slice pa pn pc]
  have hb0 := alloc_below w (.cells #[.int .u64 rc.last.num, .int .u64 rc.last.ce, .int .i64 rc.last.cr, .int .u64 rc.last.mem, .slice pa pn pc] 38)
  have HAw := Lib.hid (fun W (hb : Below w.heap.size w W) => awake_any W (hT.below hb hT.1))
  have HF := Lib.hid (fun W (hb : Below w.heap.size w W) t ht => fewA_any a n c l t ht W (hA.below hb))
  have hln := Lib.hid hA.len
  have hmx := hA.le_max
  have hpl := Lib.hid (RdV.len hr)
  have hpm := Rd.le_max hr
  unfold maxLen at hpm
  have hT0 := Lib.hid hT
  have hA0 := Lib.hid hA
  have hr0 := Lib.hid hr
  clear hT hA hr
  cases hf : fewA l with
  | false =>
    go_enter Tryd.func4, Tryd.ntmps4
    go_wp2_with (first | (refine wpList_blk_box rfl (.tmp 0) rfl rfl w.heap.size rfl ?_))
    refine (HAw.out _ hb0).mono ?_
    rintro e w1 ⟨rfl, hb1⟩
    have hb1 := belS hb0 hb1
    go_wp2_with fail
    refine (HF.out _ hb1 false hf.symm).mono ?_
    rintro e w' ⟨rfl, rfl⟩
    go_wp2
    go_ret
    exact ⟨rfl, hb1⟩
  | true =>
  obtain ⟨hf1, hf2⟩ := fewA_imp hf
  go_enter Tryd.func4, Tryd.ntmps4
  go_wp2_with (first | (refine wpList_blk_box rfl (.tmp 0) rfl rfl w.heap.size rfl ?_))
  refine (HAw.out _ hb0).mono ?_
  rintro e w1 ⟨rfl, hb1⟩
  have hB1 := hB0.below hb1 hB0.lt
  have hb1 := belS hb0 hb1
  go_wp2_with fail
  refine (HF.out _ hb1 true hf.symm).mono ?_
  rintro e w' ⟨rfl, rfl⟩
  have c4 : w1.cell? ⟨w.heap.size, 4, none⟩ = some (.slice pa pn pc) := hB1.cell rfl
  by_cases hp : 100 < pn
  · have hpI : (100 : Int) < pn := by omega
    go_wp2
    go_ret
    exact ⟨rfl, hb1⟩
  have hpI : ¬ (100 : Int) < pn := by omega
  have hL0 := Lib.hid (FL.start hT0.out hb1)
  have HN := Lib.hid (hL0.out.fresh rc pa pn pc hwf (by rw [hpl.out]; omega) (hr0.out.below hb1 (Nat.le_refl _)))
  clear HAw HF hb0 hB0 hf
  go_wp2_with (first | (refine wpList_blk_load rfl (.tmp 2) rfl Tryd.underlying38 rfl rfl hB1 Tryd.recI ?_))
  refine HN.out.mono ?_
  rintro e w2 ⟨b, s0, F0, rfl, hL2, hs2, _, _, hb2⟩
  have hlv0 : s0.live = false := congrArg Fs.live hs2
  replace hL2 := Lib.hid hL2
  clear HN hL0 hb2 c4 hB1 hb1 hs2
  go_wp2
  go_loopw [6, 7, 8, 9, 10, 11, 12, 13] (fun lv iv _ _ _ _ _ _ wr => ∃ (i : Nat) (s : Fw) (F : Nat → Prop), i ≤ n ∧ iv = .int .i64 i ∧ lv = .bool s.live ∧ Hid (FL w wr F [(b, s)])) (fun _ iv _ _ _ _ _ _ _ => n - (RowKit.intOf iv).toNat)
  case atStart => exact ⟨0, s0, F0, Nat.zero_le _, rfl, by rw [hlv0], hL2⟩
  case round =>
    clear hL2
    obtain ⟨i, s, F, hi, rfl, rfl, hL⟩ := hrel
    obtain ⟨wi, rfl⟩ : ∃ z, z = wr := ⟨_, rfl⟩
    obtain ⟨lv, hlv⟩ : ∃ z, z = s.live := ⟨_, rfl⟩
    rw [← hlv]
    replace hlv := Lib.hid hlv
    by_cases hin : i < n
    · have hiI : (i : Int) < n := by omega
      have hil : i < l.length := by rw [hln.out]; exact hin
      have hAi := hA0.out.below hL.out.bel
      obtain ⟨g, off, rfl, _, hrg⟩ := hAi.at hil
      have hok := hAi.ok _ (List.getElem_mem hil)
      have hfy := hf2 _ (List.getElem_mem hil)
      generalize l[i] = y at *
      have hyL := Tryd.acL y
      have hZ := BlkAt.new wi 58 (acA .zero)
      clear hAi
      go_upto_region 11 with (first
        | (refine wpList_load_mid rfl _ (.tmp 35) rfl g (off + i * 24) rfl (acC y) _ hrg Tryd.underlying58 rfl hyL ?_)
        | (refine wpList_blk_alloc rfl rfl Tryd.acZ wi.heap.size rfl ?_)
        | (refine wpList_blk_store (cs := acA y) rfl (.tmp 8) (.tmp 36) rfl rfl rfl hZ (Tryd.acI _) rfl (acA_one y) ?_; intro w4 hY4 hK4 hsz4))
      have hb4 := alloc_store hK4
      have hL4 := Lib.hid (hL.out.below hb4)
      have hok4 := Lib.hid (hok.below hb4)
      have hA4 := hL4.out.at_ 0 (b, s) rfl
      have hylt := hY4.lt
      clear hrg hZ hK4 hsz4 hb4 hok hL
      go_wp2_with fail
      refine (recordA s b w4 hA4).mono ?_
      rintro e w5 ⟨ra, rk, rfl, hr5, hge5, hb5⟩
      have hF4 := Lib.hid hL4.out.fin
      replace hge5 := Lib.hid hge5
      have hb5s := hb5.size
      have hL5 := hL4.out.below hb5
      have hY5 := hY4.below hb5 hylt
      have hZ := BlkAt.new w5 38 #[.int .u64 0, .int .u64 0, .int .i64 0, .int .u64 0, .slice none 0 0]
      go_upto_region 12 with (first
        | (refine wpList_blk_alloc rfl rfl Tryd.recZ w5.heap.size rfl ?_)
        | (refine wpList_blk_store (cs := #[.int .u64 s.rc.last.num, .int .u64 s.rc.last.ce, .int .i64 s.rc.last.cr, .int .u64 s.rc.last.mem, .slice ra s.rn rk]) rfl (.tmp 9) (.tmp 38) rfl rfl rfl hZ Tryd.recI rfl (by simp [Value.oneCell']) ?_; intro w6 hW6 hK6 hsz6))
      have hb6 := alloc_store hK6
      have hL6 := Lib.hid (hL5.below hb6)
      have hY6 := hY5.below hb6 hY5.lt
      have hr6 := Lib.hid (RdV.below hr5 hb6 (Nat.le_refl _))
      have hok6 := Lib.hid (hok4.out.below (belS hb5 hb6))
      have hwlt := hW6.lt
      have hA6 := hL6.out.at_ 0 (b, s) rfl
      have hylt6 := hY6.lt
      clear hL5 hY5 hZ hK6 hsz6 hb6 hb5 hr5 hL4 hA4 hok4 hY4
      obtain ⟨st, hst⟩ : ∃ z, z = (!lv || s.formed) := ⟨_, rfl⟩
      replace hst := Lib.hid hst
      simp only [Act.put, List.setIfInBounds_toArray, List.set_cons_zero, List.set_cons_succ]
      go_cut [10] from 39 to 44 (fun t wx => t = .bool st ∧ wx = w6)
      case first => as_aux_lemma =>
        have hfA := Lib.hid (formedA s b w6 hA6)
        cases lv with
        | false =>
          have hz := Lib.hid (show st = true from by rw [hst.out]; rfl)
          go_wp2
          go_meet
          exact ⟨by rw [hz.out], rfl⟩
        | true =>
          have hz := Lib.hid (show st = s.formed from by rw [hst.out]; rfl)
          go_wp2_with fail
          refine hfA.out.mono ?_
          rintro e w' ⟨rfl, rfl⟩
          go_wp2
          go_meet
          exact ⟨by rw [hz.out], rfl⟩
      case rest => as_aux_lemma =>
        obtain ⟨rfl, rfl⟩ := hcut
        obtain ⟨w6, rfl⟩ : ∃ z, z = wc := ⟨_, rfl⟩
        have k0 : w6.cell? ⟨wi.heap.size, 0, none⟩ = some (.int .i64 y.kind) := hY6.cell rfl
        have k1 : w6.cell? ⟨wi.heap.size, 1, none⟩ = some (.int .i64 y.frm) := hY6.cell rfl
        have k5 : w6.cell? ⟨wi.heap.size, 5, none⟩ = some (.int .u64 y.mem) := hY6.cell rfl
        have hcI := Tryd.confI y.ce y.cr
        have hiI2 := Tryd.iwI y.x
        by_cases e0 : y.kind = 0
        · have e0b : (y.kind == 0) = true := by simpa using e0
          have HR := Lib.hid (hL6.out.regular (i := 0) rfl y.x y.ce y.cr y.mem hok6.out.mem hok6.out.vw)
          clear e0
          go_wp2_with (first
            | (refine wpList_blk_get (cs := #[.int .u64 y.ce, .int .i64 y.cr]) rfl (.tmp 88) rfl rfl hY6 Tryd.underlying30 rfl hcI (acA_conf y) ?_)
            | (refine wpList_blk_get (cs := iwA y.x) rfl (.tmp 92) rfl rfl hY6 Tryd.underlying45 rfl hiI2 (acA_item y) ?_))
          refine HR.out.mono ?_
          rintro e w7 ⟨s7, F7, a7, c7, o7, rfl, hL7, hs7, _⟩
          have hA7 := hL7.at_ 0 (b, s7) rfl
          have hlv7 : s7.live = true := congrArg Fs.live hs7
          have hfm7 : s7.formed = false := congrArg Fs.formed hs7
          have hfA := formedA s7 b w7 hA7
          rw [hfm7] at hfA
          replace hfA := Lib.hid hfA
          replace hL7 := Lib.hid hL7
          clear hA7 k0 k1 k5 HR hfm7 hs7
          go_wp2_with fail
          refine hfA.out.mono ?_
          rintro e w' ⟨rfl, rfl⟩
          go_wp2
          go_roundw
          case rel => exact ⟨i + 1, s7, F7, by omega, by go_num, by rw [hlv7], hL7⟩
          case measure => simp [RowKit.intOf]; omega
        · have e0b : (y.kind == 0) = false := by simpa using e0
          by_cases e1 : y.kind = 1
          · have e1b : (y.kind == 1) = true := by simpa using e1
            have HC := Lib.hid (hL6.out.close (i := 0) rfl)
            clear e0 e1
            go_wp2_with fail
            refine HC.out.mono ?_
            rintro e w7 ⟨rfl, hL7, _⟩
            replace hL7 := Lib.hid hL7
            clear k0 k1 k5 HC
            go_wp2
            go_roundw
            case rel => exact ⟨i + 1, { s with live := false }, F, by omega, by go_num, rfl, hL7⟩
            case measure => simp [RowKit.intOf]; omega
          · have e1b : (y.kind == 1) = false := by simpa using e1
            have HD := Lib.hid (hL6.out.deliver (i := 0) rfl y.frm y.x hok6.out.rd (hok6.out.wf hfy))
            clear e0 e1
            go_wp2_with (first
              | (refine wpList_blk_get (cs := iwA y.x) rfl (.tmp 50) rfl rfl hY6 Tryd.underlying45 rfl hiI2 (acA_item y) ?_))
            refine HD.out.mono ?_
            rintro e w7 ⟨s7, oa, on, oc, os, rfl, hL7, hs7, hO7, hv7, _, hk7⟩
            have hp := del_parts s.s y.frm y.x.v
            have hA7 := hL7.at_ 0 (b, s7) rfl
            have hst2 : st = true → on = 0 ∧ s7.rc = s.rc := fun e => by
              have h1 := del_still s.s y.frm y.x.v (by rw [← e, hst.out, hlv.out]; rfl)
              rw [h1] at hv7 hs7
              refine ⟨?_, congrArg Fs.rc hs7⟩
              have := hO7.len
              rw [List.eq_nil_of_map_eq_nil hv7] at this
              exact this.symm
            have hon2 : on = 0 → s7.rc = s.rc := fun e => by
              have h1 := hO7.len
              rw [e] at h1
              rw [List.eq_nil_of_length_eq_zero h1] at hv7
              have := hp.2 hv7.symm
              rw [← hs7] at this
              exact this
            have hlv7 := Lib.hid (show s7.live = lv from by
              have h1 : s7.live = s.live := (congrArg Fs.live hs7).trans hp.1
              rw [h1, hlv.out])
            have hmo := Rd.le_max hO7.1.1
            unfold maxLen at hmo
            have hblt : wi.heap.size < w6.heap.size := hylt6
            have hW7 : BlkAt w7 w5.heap.size 38 #[.int .u64 s.rc.last.num, .int .u64 s.rc.last.ce, .int .i64 s.rc.last.cr, .int .u64 s.rc.last.mem, .slice ra s.rn rk] := hk7.blk hW6 (fun hg => by have := hF4.out _ hg; omega)
            have hr7 : RdV w7 ra s.rn rk s.rc.pend := Rd.kpO0 hr6.out hk7 (fun hn0 g off e hg => by have := hF4.out g hg; have := hge5.out g off e; omega)
            have hL7' := Lib.hid hL7
            have hrec := Lib.hid (recordA s7 b w7 hA7)
            obtain ⟨sm, hsm⟩ : ∃ z, z = rcB s7.rc s.rc := ⟨_, rfl⟩
            have hsm1 : s7.rc = s.rc → sm = true := fun e => by rw [hsm, e]; exact rcB_self _
            have hfin : ((st = true ∧ on = 0 ∧ sm = true) ∨ (st = false ∧ on = 0 ∧ sm = true)) ∨ (st = false ∧ on ≠ 0) := by
              cases st with
              | true => exact .inl (.inl ⟨rfl, (hst2 rfl).1, hsm1 (hst2 rfl).2⟩)
              | false =>
                by_cases h0 : on = 0
                · exact .inl (.inr ⟨rfl, h0, hsm1 (hon2 h0)⟩)
                · exact .inr ⟨rfl, h0⟩
            replace hsm := Lib.hid hsm
            replace hfin := Lib.hid hfin
            replace hr7 := Lib.hid hr7
            have hw5lt := hW7.lt
            clear hp hst2 hon2 hsm1 hO7 hv7 hk7 hs7 hL7 hA7 hA6 hW6 hY6 k0 k1 k5 HD hL6 hr6 hF4 hge5 hst
            go_wp2_with fail
            refine hrec.out.mono ?_
            rintro e w8 ⟨rb, rj, rfl, hr8, hge8, hb8⟩
            have hW8 := hW7.below hb8 hw5lt
            have hZ := BlkAt.new w8 38 #[.int .u64 0, .int .u64 0, .int .i64 0, .int .u64 0, .slice none 0 0]
            go_upto_region 16 with (first
              | (refine wpList_blk_alloc rfl rfl Tryd.recZ w8.heap.size rfl ?_)
              | (refine wpList_blk_store (cs := #[.int .u64 s7.rc.last.num, .int .u64 s7.rc.last.ce, .int .i64 s7.rc.last.cr, .int .u64 s7.rc.last.mem, .slice rb s7.rn rj]) rfl (.tmp 12) (.tmp 54) rfl rfl rfl hZ Tryd.recI rfl (by simp [Value.oneCell']) ?_; intro w9 hV9 hK9 hsz9))
            have hb9 := alloc_store hK9
            have hb79 := belS hb8 hb9
            have hW9 := hW8.below hb9 hW8.lt
            have HS := Lib.hid (sameB_any s7.rc s.rc rb ra s7.rn s.rn rj rk sm hsm.out w9 (RdV.below hr8 hb9 (Nat.le_refl _)) (RdV.below hr7.out hb79 (Nat.le_refl _)))
            have hL9 := Lib.hid (hL7'.out.below hb79)
            have v4 : w9.cell? ⟨w8.heap.size, 4, none⟩ = some (.slice rb s7.rn rj) := hV9.cell rfl
            have u4' : w9.cell? ⟨w5.heap.size, 4, none⟩ = some (.slice ra s.rn rk) := hW9.cell rfl
            clear hZ hK9 hsz9 hb9 hb79 hb8 hW8 hW7 hL7' hr8 hr7 hrec
            go_wp2_with (first
              | (refine wpList_blk_get (cs := #[.int .u64 s7.rc.last.num, .int .u64 s7.rc.last.ce, .int .i64 s7.rc.last.cr, .int .u64 s7.rc.last.mem]) rfl (.tmp 55) rfl rfl hV9 Tryd.underlying35 rfl (Tryd.viewI s7.rc.last) (get4 rfl rfl rfl rfl) ?_)
              | (refine wpList_blk_get (cs := #[.int .u64 s.rc.last.num, .int .u64 s.rc.last.ce, .int .i64 s.rc.last.cr, .int .u64 s.rc.last.mem]) rfl (.tmp 60) rfl rfl hW9 Tryd.underlying35 rfl (Tryd.viewI s.rc.last) (get4 rfl rfl rfl rfl) ?_)
              | (refine wpList_blk_build (cs := #[.int .u64 s7.rc.last.num, .int .u64 s7.rc.last.ce, .int .i64 s7.rc.last.cr, .int .u64 s7.rc.last.mem, .slice rb s7.rn rj]) rfl #[(0, .tmp 56), (1, .tmp 58)] rfl (by rw [List.map_toArray]; exact Tryd.rrB s7.rc.last _ _ _) ?_)
              | (refine wpList_blk_build (cs := #[.int .u64 s.rc.last.num, .int .u64 s.rc.last.ce, .int .i64 s.rc.last.cr, .int .u64 s.rc.last.mem, .slice ra s.rn rk]) rfl #[(0, .tmp 61), (1, .tmp 63)] rfl (by rw [List.map_toArray]; exact Tryd.rrB s.rc.last _ _ _) ?_))
            refine HS.out.mono ?_
            rintro e w10 ⟨rfl, hb10⟩
            have hL10 := Lib.hid (hL9.out.below hb10)
            clear hb10 HS v4 u4' hV9 hW9 hL9
            rcases hfin.out with (⟨rfl, rfl, rfl⟩ | ⟨rfl, rfl, rfl⟩) | ⟨rfl, hon⟩
            · go_wp2
              go_roundw
              case rel => exact ⟨i + 1, s7, F, by omega, by go_num, by rw [hlv7.out], hL10⟩
              case measure => simp [RowKit.intOf]; omega
            · go_wp2
              go_roundw
              case rel => exact ⟨i + 1, s7, F, by omega, by go_num, by rw [hlv7.out], hL10⟩
              case measure => simp [RowKit.intOf]; omega
            · have honI : ((on : Int) == 0) = false := by simpa using hon
              have honI2 : (0 : Int) < on := by omega
              go_wp2
              go_roundw
              case rel => exact ⟨i + 1, s7, F, by omega, by go_num, by rw [hlv7.out], hL10⟩
              case measure => simp [RowKit.intOf]; omega
    · have hiI : ¬ (i : Int) < n := by omega
      have hbF := hL.out.bel
      go_wp2
      go_ret
      exact ⟨rfl, hbF⟩
theorem live_claim (cs : Array Value) (a : Option Addr) (n c : Nat) (W : World) (hT : Tab W) (r0 : ∃ x, RRec W cs.toList x) (r1 : ∃ l, RSl RAct 24 W a n c l ∧ n * 208 ≤ reachBytes) :
    Calls Tryd.prog 4 #[.agg cs, .slice a n c] W fun e w' => e = .returned (.bool true) ∧ Below W.heap.size W w' := by
  obtain ⟨x, hx⟩ := r0
  obtain ⟨pa, pn, pc, hcs, h1, h2, _⟩ := hx.rc
  obtain ⟨l, hl, _⟩ := r1
  obtain ⟨ys, hA⟩ := hl.acs
  obtain rfl : cs = #[.int .u64 (toRc x).last.num, .int .u64 (toRc x).last.ce, .int .i64 (toRc x).last.cr, .int .u64 (toRc x).last.mem, .slice pa pn pc] := by
    apply Array.toList_inj.1
    rw [hcs]
    rfl
  exact live_law (toRc x) pa pn pc a n c ys W hT h2 h1 hA
end Go.Proofs.YteeeikkapnchlaaDoor
