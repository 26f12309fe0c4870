/- plan: the walk of PlanFits -/
import Derived.Test.YtikhpafdnohhkaaDoorPlanS1
import Derived.Test.YtikhpafdnohhkaaDoorPlanV
import Derived.Test.YtikhpafdnohhkaaDoorPlanFa
import Derived.Deep.Cut
import Derived.Deep.CutRange
import Derived.Lib.QuietBelow
namespace Go.Proofs.YtikhpafdnohhkaaDoor
set_option linter.unusedSimpArgs false
set_option linter.unusedVariables false
open Go.RowKit Go.Sort
def leansB (x m : Ms) : Bool := decide (x.src = m.src ∧ x.seq ≤ m.seq) || decide (0 ≤ x.src ∧ x.src < m.deps.length ∧ x.seq ≤ m.deps.getD x.src.toNat 0)
theorem leans_drag {x m : Ms} (h : leansB x m = true) : dragM x m = true := by
  unfold leansB at h
  unfold dragM
  rw [Bool.or_eq_true, decide_eq_true_eq, decide_eq_true_eq] at h
  rw [Bool.or_eq_true, decide_eq_true_eq, decide_eq_true_eq]
  rcases h with h | ⟨h0, h1, h2⟩
  · exact .inl h
  · exact .inr (by rw [atL, if_neg (by omega)]; exact h2)
/-- What is kept, as the law asks it. -/
theorem fits_all {L : List Xv} {ms : List Ms} {rs : List Mc} (hms : ms = mX rs) {F : List Mc} (hF : F = rs.filter fun x => keptB (wholeV L) ms x.m) {k : Nat} (hk : k < F.length) :
    (0 < F[k].m.seq ∧ F[k].m.seq ≤ wholeV L F[k].m.src ∧ ∀ q : Nat, q < F[k].m.deps.length → F[k].m.deps.getD q 0 ≤ wholeV L q) ∧ ∀ j (hj : j < rs.length), leansB rs[j].m F[k].m = true → 0 < rs[j].m.seq → rs[j].m.seq ≤ wholeV L rs[j].m.src → rs[j].m ∈ mX' F := by
  have hmem : F[k] ∈ rs.filter fun x => keptB (wholeV L) ms x.m := by rw [← hF]; exact List.getElem_mem hk
  obtain ⟨hr, hkp⟩ := List.mem_filter.1 hmem
  have hm : F[k].m ∈ ms := by rw [hms]; exact List.mem_map.2 ⟨_, hr, rfl⟩
  refine ⟨kept_fits hm hkp, fun j hj hl h0 h1 => ?_⟩
  have hx : rs[j].m ∈ ms := by rw [hms]; exact List.mem_map.2 ⟨_, List.getElem_mem hj, rfl⟩
  have hc : cntM (wholeV L) rs[j].m = true := by unfold cntM; exact decide_eq_true ⟨h0, h1⟩
  have hkx := kept_leans hm hkp hx (leans_drag hl) hc
  refine List.mem_map.2 ⟨rs[j], ?_, rfl⟩
  rw [hF]
  exact List.mem_filter.2 ⟨List.getElem_mem hj, hkx⟩
set_option maxHeartbeats 12800000 in
set_option maxRecDepth 100000 in
theorem fits_law (me : Int) (a1 : Option Addr) (n1 c1 : Nat) (l : List Xc) (a2 : Option Addr) (n2 c2 : Nat) (rs : List Mc) (w : World) (hT : Tab w)
    (hr : RdX w a1 n1 c1 l) (hx : ∀ x ∈ l, ExOk w x) (hn64 : n1 * 64 ≤ 140737488355328) (hm : RdM w a2 n2 c2 rs) (hmx : ∀ x ∈ rs, MsOk w x) :
    Calls Tryd.prog 6 #[.int .i64 me, .slice a1 n1 c1, .slice a2 n2 c2] w fun e w' => e = .returned (.bool true) ∧ Below w.heap.size w w' := by
  have HAw := Lib.hid (awake_any w hT)
  have HFx := Lib.hid (fun W (hb : Below w.heap.size w W) t ht => few_any a1 n1 c1 l t ht W (hr.below hb))
  have HFm := Lib.hid (fun W (hb : Below w.heap.size w W) t ht => few03_any a2 n2 c2 rs t ht W (hm.below hb) (fun x hx => (hmx x hx).2.2.2.1))
  have HNw := Lib.hid (fun W (hb : Below w.heap.size w W) ok hok => new_any me a1 n1 c1 l W (hr.below hb) (fun x hxl => (hx x hxl).2.1) hn64 ok hok)
  have HMr := Lib.hid (fun W (hb : Below w.heap.size w W) => hm.below hb)
  have hcnt := Lib.hid (cnt_ok hx)
  have hmm := hm.le_max
  have hmr := hr.le_max
  have hml := Lib.hid hm.len
  clear hx hmx hr hm
  cases hfx : fewX l with
  | false =>
    go_enter Tryd.func6, Tryd.ntmps6
    go_wp2_with fail
    (refine (HAw.out).mono ?_; rintro e wA ⟨rfl, hA⟩)
    go_wp2_with fail
    refine (HFx.out _ hA false hfx.symm).mono ?_
    rintro e w2 ⟨rfl, rfl⟩
    go_wp2
    go_ret
    exact ⟨rfl, hA⟩
  | true =>
  cases hfm : fewM rs with
  | false =>
    go_enter Tryd.func6, Tryd.ntmps6
    go_wp2_with fail
    (refine (HAw.out).mono ?_; rintro e wA ⟨rfl, hA⟩)
    go_wp2_with fail
    refine (HFx.out _ hA true hfx.symm).mono ?_
    rintro e w2 ⟨rfl, rfl⟩
    go_wp2_with fail
    refine (HFm.out _ hA false hfm.symm).mono ?_
    rintro e w3 ⟨rfl, hb3⟩
    go_wp2
    go_ret
    exact ⟨rfl, belS hA hb3⟩
  | true =>
  by_cases h60 : 60 < n2
  · have h60I : (60 : Int) < n2 := by omega
    go_enter Tryd.func6, Tryd.ntmps6
    go_wp2_with fail
    (refine (HAw.out).mono ?_; rintro e wA ⟨rfl, hA⟩)
    go_wp2_with fail
    refine (HFx.out _ hA true hfx.symm).mono ?_
    rintro e w2 ⟨rfl, rfl⟩
    go_wp2_with fail
    refine (HFm.out _ hA true hfm.symm).mono ?_
    rintro e w3 ⟨rfl, hb3⟩
    go_wp2
    go_ret
    exact ⟨rfl, belS hA hb3⟩
  have h60I : (n2 : Int) ≤ 60 := by omega
  have hn2 : n2 ≤ 1000000000 := by omega
  obtain ⟨ok, hok⟩ := bool_of (okV (vX l) ∧ ∃ x ∈ vX l, x.who = me)
  have HN1 := Lib.hid (fun W hb => HNw.out W hb ok hok)
  clear HNw h60
  cases ok with
  | false =>
    clear hok
    go_enter Tryd.func6, Tryd.ntmps6
    go_wp2_with fail
    (refine (HAw.out).mono ?_; rintro e wA ⟨rfl, hA⟩)
    go_wp2_with fail
    refine (HFx.out _ hA true hfx.symm).mono ?_
    rintro e w2 ⟨rfl, rfl⟩
    go_wp2_with fail
    refine (HFm.out _ hA true hfm.symm).mono ?_
    rintro e w3 ⟨rfl, hb3⟩
    have B3 := Lib.hid (belS hA hb3)
    clear hb3 hA
    go_wp2_with fail
    refine (HN1.out _ B3.out).mono ?_
    rintro e w4 ⟨p, rfl, hpf, _, hb4⟩
    obtain rfl := hpf (by trivial)
    go_wp2
    go_ret
    exact ⟨rfl, belS B3.out hb4⟩
  | true =>
  clear hok
  go_enter Tryd.func6, Tryd.ntmps6
  go_wp2_with fail
  (refine (HAw.out).mono ?_; rintro e wA ⟨rfl, hA⟩)
  go_wp2_with fail
  refine (HFx.out _ hA true hfx.symm).mono ?_
  rintro e w2 ⟨rfl, rfl⟩
  go_wp2_with fail
  refine (HFm.out _ hA true hfm.symm).mono ?_
  rintro e w3 ⟨rfl, hb3⟩
  have B3 := Lib.hid (belS hA hb3)
  clear hA hb3 hfx hfm HFx HFm HAw
  go_wp2_with fail
  refine (HN1.out _ B3.out).mono ?_
  rintro e w5 ⟨p, rfl, _, hpt, hb5⟩
  obtain ⟨b, l', rfl, hp, hpl⟩ := hpt (by trivial)
  have B5 := Lib.hid (belS B3.out hb5)
  clear hpt hb5 B3 HN1
  replace hp := Lib.hid hp
  have hcp := Lib.hid (show ∀ x ∈ vX l', ∀ y ∈ x.cnt, y < 4294967296 from by rw [hpl]; exact cnt_comp hcnt.out)
  have HWp := Lib.hid (fun W (hb : Below w5.heap.size w5 W) i => whole_any b l' i W (hp.out.below hb))
  have HK := Lib.hid (keep_any b l' a2 n2 c2 rs w5 hp.out (HMr.out _ B5.out) hcp.out hn2)
  have HR2 := Lib.hid (fun W (hb : Below w5.heap.size w5 W) => HMr.out _ (belS B5.out hb))
  obtain ⟨F, hF⟩ : ∃ F, F = rs.filter fun x => keptB (wholeV (vX l')) (mX rs) x.m := ⟨_, rfl⟩
  have hFn : Hid (F.length ≤ n2) := Lib.hid (by rw [hF, ← hml.out]; exact List.length_filter_le _ _)
  rw [← hF] at HK
  have HFA := Lib.hid (fun k (hk : k < F.length) => fits_all (L := vX l') rfl hF hk)
  clear hp hpl hcp hF hcnt HMr
  generalize vX l' = L at *
  go_wp2_with fail
  refine HK.out.mono ?_
  rintro e w6 ⟨x1, m1, y1, rfl, hk1, hb6⟩
  have B6 := Lib.hid hb6
  have hml1 := Lib.hid hk1.len
  have hmm1 := hk1.le_max
  have hm12 : m1 ≤ n2 := by have := hFn.out; rw [hml1.out] at this; exact this
  have hm12I : (m1 : Int) ≤ n2 := by omega
  have hm12N : decide (n2 < m1) = false := decide_eq_false (by omega)
  replace hk1 := Lib.hid hk1
  clear HK hb6 hFn
  go_wp2
  go_loopw [10, 11, 12, 13, 14, 15] (fun i _ _ _ _ _ wr => ∃ k : Nat, k ≤ m1 ∧ i = .int .i64 k ∧ Below w6.heap.size w6 wr) (fun i _ _ _ _ _ _ => m1 - (intOf i).toNat)
  case atStart => exact ⟨0, Nat.zero_le _, rfl, Below.refl _ _⟩
  case round =>
    obtain ⟨k, hk, rfl, hbr⟩ := hrel
    by_cases hkn : k < m1
    · have hkF : k < F.length := by rw [hml1.out]; exact hkn
      have hkI : (k : Int) < m1 := by omega
      obtain ⟨g, off, rfl, hg, ⟨c0, c1, c2', c3, c4, c5⟩, hin⟩ := (hk1.out.below hbr).at hkF
      have HFK := Lib.hid (HFA.out k hkF)
      generalize F[k] = y at *
      go_upto_region 15 with (first
        | (refine wpList_blk_alloc rfl rfl Tryd.msZ wr.heap.size rfl ?_)
        | (refine wpList_blk_store (cs := mcA y) rfl (.tmp 11) (.tmp 60) rfl rfl rfl (BlkAt.new wr _ _) (Tryd.msI y) rfl (mcA_one y) ?_; intro w7 hX hK7 hsz7))
      have hb7 := Lib.hid (alloc_store hK7)
      have hin7 := Lib.hid (hin.below hb7.out)
      have B7 := Lib.hid (belS (belS B6.out hbr) hb7.out)
      obtain ⟨x0, x1, x2, x3, x4, x5⟩ := blk6 hX
      have HX := Lib.hid hX
      have hxb : wr.heap.size < w7.heap.size := hX.lt
      clear c0 c1 c2' c3 c4 c5 hin hK7 hsz7 hX
      obtain ⟨⟨s1, q1, t1, v1, d1, p1⟩, ya, yn, yc⟩ := y
      simp only at x0 x1 x4 hin7 HFK
      obtain ⟨⟨hq0, hq1, hdq⟩, HLN⟩ := HFK.out
      replace hdq := Lib.hid hdq
      replace HLN := Lib.hid HLN
      clear HFK
      simp only [Act.put, List.setIfInBounds_toArray, List.set_cons_zero, List.set_cons_succ]
      go_cut [72] from 61 to 72 (fun t wx => t = .bool false ∧ Below w7.heap.size w7 wx)
      case first => as_aux_lemma =>
        have k0 := cell_regrown x0
        have k1 := cell_regrown x1
        have kW := fun d os => Calls.regrown_of (HWp.out _ (belS B7.out (below_regrown w7 d os)) s1)
        clear x0 x1 x2 x3 x4 x5 hin7 HLN hdq HX
        generalize wholeV L s1 = wn at *
        have hqa : decide ((q1 : Int) < 1) = false := decide_eq_false (by omega)
        have hqb : decide ((wn : Int) < q1) = false := decide_eq_false (by omega)
        generalize (q1 : Int) = qi at *
        generalize (wn : Int) = wi at *
        clear hq0 hq1
        refine wp_region_quiet_below (by kernel_rfl) (by kernel_rfl) ?_
        iterate 12 (go_big_quiet_step (first | (with_reducible exact kW _ _)))
        refine wpQuiet_nil ?_; intro w4' hw'; obtain ⟨⟨dq, osq⟩, hw''⟩ := hw'; subst hw''
        go_wp2_with fail
        go_meet
        exact ⟨rfl, below_regrown _ _ _⟩
      case rest => as_aux_lemma =>
        obtain ⟨rfl, hb8⟩ := hcut
        obtain ⟨wo, rfl⟩ : ∃ z, z = wr := ⟨_, rfl⟩
        obtain ⟨w8, rfl⟩ : ∃ z, z = wc := ⟨_, rfl⟩
        have B8 := Lib.hid (belS B7.out hb8)
        have hin8 := Lib.hid (hin7.out.below hb8)
        have HX8 := Lib.hid (HX.out.below hb8 hxb)
        have hrb : Hid (Below wo.heap.size wo w8) := Lib.hid (belS hb7.out hb8)
        have hxb8 : wo.heap.size < w8.heap.size := HX8.out.lt
        have hyl := Lib.hid hin8.out.len
        have hymx := hin8.out.le_max
        clear x0 x1 x2 x3 x4 x5 hb8 hin7 HX hb7 hxb
        go_wp2
        go_loopw [12] (fun q wr => ∃ j : Nat, j ≤ yn ∧ q = .int .i64 j ∧ Below w8.heap.size w8 wr) (fun q _ => yn - (intOf q).toNat)
        case atStart => exact ⟨0, Nat.zero_le _, rfl, Below.refl _ _⟩
        case round =>
          obtain ⟨j, hj, rfl, hbq⟩ := hrel
          have HXq := Lib.hid (HX8.out.below hbq hxb8)
          obtain ⟨x0, x1, x2, x3, x4, x5⟩ := blk6 HXq.out
          clear x2 x3 x5
          have Bq := Lib.hid (belS B8.out hbq)
          by_cases hjn : j < yn
          · have hjI : (j : Int) < yn := by omega
            have hjl : j < d1.length := by rw [hyl.out]; exact hjn
            obtain ⟨gb, go, rfl, _⟩ := hin8.out.addr (by omega)
            have hc := (hin8.out.below hbq).at hjl
            have hle : d1[j] ≤ wholeV L j := by have := hdq.out j hjl; rwa [List.getD_eq_getElem?_getD, List.getElem?_eq_getElem hjl] at this
            generalize d1[j] = dj at *
            go_upto_region 20 with (fail)
            go_cut [88] from 80 to 88 (fun t wx => t = .bool false ∧ Below wr.heap.size wr wx)
            case first => as_aux_lemma =>
              have k4 := cell_regrown x4
              have kc := cell_regrown hc
              have kW := fun d os => Calls.regrown_of (HWp.out _ (belS Bq.out (below_regrown wr d os)) j)
              clear x0 x1 x4 hc
              generalize wholeV L j = wn at *
              have hqb : decide ((wn : Int) < dj) = false := decide_eq_false (by omega)
              generalize (wn : Int) = wi at *
              generalize (dj : Int) = di at *
              clear hle
              refine wp_region_quiet_below (by kernel_rfl) (by kernel_rfl) ?_
              iterate 9 (go_big_quiet_step (first | (with_reducible exact kW _ _)))
              refine wpQuiet_nil ?_; intro w4' hw'; obtain ⟨⟨dq, osq⟩, hw''⟩ := hw'; subst hw''
              go_wp2_with fail
              go_meet
              exact ⟨rfl, below_regrown _ _ _⟩
            case rest => as_aux_lemma =>
              obtain ⟨rfl, hb9⟩ := hcut
              clear x0 x1 x4 hc hle
              go_wp2
              go_roundw
              case rel => first | exact ⟨j + 1, by omega, by go_num, belS hbq hb9⟩ | ((repeat apply Exists.intro); exact ⟨⟨by omega, by go_num, belS hbq hb9⟩, rfl⟩)
              case measure => simp [intOf]; omega
          · have hjI : (yn : Int) ≤ j := by omega
            obtain ⟨wq0, rfl⟩ : ∃ z, z = wr := ⟨_, rfl⟩
            have hrq : Hid (Below wo.heap.size wo wq0) := Lib.hid (belS hrb.out hbq)
            have hinq := Lib.hid (hin8.out.below hbq)
            have hxbq : wo.heap.size < wq0.heap.size := HXq.out.lt
            clear hdq hjn HX8 hin8 hrb hbq B8 hq0 hq1
            go_wp2
            clear x0 x1 x4 hjI
            go_loopw [13, 14, 15] (fun i _ _ wr => ∃ j2 : Nat, j2 ≤ n2 ∧ i = .int .i64 j2 ∧ Below wq0.heap.size wq0 wr) (fun i _ _ _ => n2 - (intOf i).toNat)
            case atStart => exact ⟨0, Nat.zero_le _, rfl, Below.refl _ _⟩
            case round =>
              obtain ⟨j2, hj2, rfl, hbz⟩ := hrel
              have HXz := Lib.hid (HXq.out.below hbz hxbq)
              have Bz := Lib.hid (belS Bq.out hbz)
              by_cases hjn2 : j2 < n2
              · have hjI2 : (j2 : Int) < n2 := by omega
                have hjl2 : j2 < rs.length := by rw [hml.out]; exact hjn2
                obtain ⟨g2, off2, rfl, hg2, ⟨c0, c1, c2', c3, c4, c5⟩, hinx⟩ := (HR2.out _ Bz.out).at hjl2
                have HLX := Lib.hid (HLN.out j2 hjl2)
                generalize rs[j2] = x at *
                go_upto_region 26 with (first
                  | (refine wpList_blk_alloc rfl rfl Tryd.msZ wr.heap.size rfl ?_)
                  | (refine wpList_blk_store (cs := mcA x) rfl (.tmp 14) (.tmp 98) rfl rfl rfl (BlkAt.new wr _ _) (Tryd.msI x) rfl (mcA_one x) ?_; intro w9 hZ hK9 hsz9))
                have hb9 := Lib.hid (alloc_store hK9)
                have HX9 := Lib.hid (HXz.out.below hb9.out HXz.out.lt)
                have hin9 := Lib.hid (hinx.below hb9.out)
                have hiny9 := Lib.hid ((hinq.out.below hbz).below hb9.out)
                have B9 := Lib.hid (belS Bz.out hb9.out)
                obtain ⟨x0, x1, x2, x3, x4, x5⟩ := blk6 HX9.out
                obtain ⟨z0, z1, z2, z3, z4, z5⟩ := blk6 hZ
                have HZ := Lib.hid hZ
                clear c0 c1 c2' c3 c4 c5 hinx hK9 hsz9 hZ x2 x3 x5 z2 z3 z4 z5
                obtain ⟨⟨s2, q2, t2, v2, d2, p2⟩, xa, xn, xc⟩ := x
                simp only at z0 z1 hin9 HLX
                obtain ⟨tb, htb⟩ : ∃ tb : Bool, tb = leansB ⟨s2, q2, t2, v2, d2, p2⟩ ⟨s1, q1, t1, v1, d1, p1⟩ := ⟨_, rfl⟩
                have HLT := Lib.hid (fun (h : tb = true) => HLX.out (by rw [← htb]; exact h))
                replace htb := Lib.hid (show tb = (decide (s2 = s1 ∧ q2 ≤ q1) || decide (0 ≤ s2 ∧ s2 < d1.length ∧ q2 ≤ d1.getD s2.toNat 0)) from htb)
                clear HLX
                simp only [Act.put, List.setIfInBounds_toArray, List.set_cons_zero, List.set_cons_succ]
                go_cut [15] from 99 to 134 (fun t wx => t = .bool tb ∧ Below w9.heap.size w9 wx)
                case first => as_aux_lemma =>
                  clear HLT HZ hin9 HX9 B9
                  have SUB : s2 = s1 ∧ q2 ≤ q1 ∨ ¬ (s2 = s1 ∧ q2 ≤ q1) := Classical.em _
                  rcases SUB with ⟨eA, eC⟩ | hno
                  · have eB := beqI_t eA
                    have hz := Lib.hid (show tb = true from htb.out.trans (by rw [decide_eq_true ⟨eA, eC⟩]; rfl))
                    have e1 : decide ((q2 : Int) ≤ q1) = true := decide_eq_true (by omega)
                    have e2 : decide (q2 ≤ q1) = true := decide_eq_true eC
                    clear htb eA eC
                    (go_quiet (fail); go_wp2_with fail; go_meet; exact ⟨by rw [hz.out], belN (Below.refl _ _) _⟩)
                  have htb2 := Lib.hid (htb.out.trans (by rw [decide_eq_false hno, Bool.false_or]))
                  have SUB3 : ((s2 == s1) = true ∧ decide ((q2 : Int) ≤ q1) = false ∧ decide (q2 ≤ q1) = false) ∨ (s2 == s1) = false := by
                    rcases Classical.em (s2 = s1) with eA | eA
                    · exact .inl ⟨beqI_t eA, decide_eq_false (fun h => hno ⟨eA, by omega⟩), decide_eq_false (fun h => hno ⟨eA, h⟩)⟩
                    · exact .inr (beqI_f eA)
                  clear htb hno
                  have hdl := Lib.hid hiny9.out.len
                  rcases SUB3 with ⟨e0, e1, e2⟩ | e0
                  all_goals
                    by_cases f0 : 0 ≤ s2
                    · obtain ⟨p, rfl⟩ : ∃ p : Nat, s2 = p := ⟨s2.toNat, by omega⟩
                      by_cases f1 : p < yn
                      · have hpl : p < d1.length := by rw [hdl.out]; exact f1
                        have hgd := Lib.hid (show d1.getD p 0 = d1[p] from by rw [List.getD_eq_getElem?_getD, List.getElem?_eq_getElem hpl]; rfl)
                        obtain ⟨gb, go, rfl, _⟩ := hiny9.out.addr (by omega)
                        have hc := hiny9.out.at hpl
                        have f1I : (p : Int) < yn := by omega
                        have f1B : decide ((p : Int) < yn) = true := decide_eq_true f1I
                        have f1N : decide (p < yn) = true := decide_eq_true f1
                        have hz := Lib.hid (show tb = decide (q2 ≤ d1[p]) from htb2.out.trans (by
                          rw [Int.toNat_natCast, hgd.out]
                          by_cases h : q2 ≤ d1[p]
                          · rw [decide_eq_true h, decide_eq_true ⟨f0, by omega, h⟩]
                          · rw [decide_eq_false h, decide_eq_false (fun g => h g.2.2)]))
                        clear htb2 hgd
                        generalize d1[p] = dp at *
                        by_cases f2 : q2 ≤ dp
                        · replace hz := Lib.hid (hz.out.trans (decide_eq_true f2))
                          have g1 : decide ((q2 : Int) ≤ dp) = true := decide_eq_true (by omega)
                          have g2 : decide (q2 ≤ dp) = true := decide_eq_true f2
                          clear f2
                          (go_quiet (fail); go_wp2_with fail; go_meet; exact ⟨by rw [hz.out], belN (Below.refl _ _) _⟩)
                        · replace hz := Lib.hid (hz.out.trans (decide_eq_false f2))
                          have g1 : decide ((q2 : Int) ≤ dp) = false := decide_eq_false (by omega)
                          have g2 : decide (q2 ≤ dp) = false := decide_eq_false f2
                          clear f2
                          (go_quiet (fail); go_wp2_with fail; go_meet; exact ⟨by rw [hz.out], belN (Below.refl _ _) _⟩)
                      · have hz := Lib.hid (htb2.out.trans (decide_eq_false (fun g => f1 (by have := g.2.1; have := hdl.out; omega))))
                        have f1B : decide ((p : Int) < yn) = false := decide_eq_false (by omega)
                        have f1N : decide (p < yn) = false := decide_eq_false f1
                        clear htb2 f1
                        (go_quiet (fail); go_wp2_with fail; go_meet; exact ⟨by rw [hz.out], belN (Below.refl _ _) _⟩)
                    · have hz := Lib.hid (htb2.out.trans (decide_eq_false (fun g => f0 g.1)))
                      have f0I : s2 < 0 := by omega
                      have f0B : decide (0 ≤ s2) = false := decide_eq_false f0
                      clear htb2 f0
                      (go_quiet (fail); go_wp2_with fail; go_meet; exact ⟨by rw [hz.out], belN (Below.refl _ _) _⟩)
                case rest => as_aux_lemma =>
                  obtain ⟨rfl, hb10⟩ := hcut
                  obtain ⟨w10, rfl⟩ : ∃ z, z = wc := ⟨_, rfl⟩
                  have hZ := HZ.out.below hb10 HZ.out.lt
                  have hin10 := Lib.hid (hin9.out.below hb10)
                  have B10 := Lib.hid (belS B9.out hb10)
                  have B610 := Lib.hid (belS hbr (belS hrq.out (belS hbz (belS hb9.out hb10))))
                  have hbz10 := Lib.hid (belS hbz (belS hb9.out hb10))
                  clear x0 x1 x4 z0 z1 HX9 hin9 hiny9 htb HZ hb9 hb10 HXz
                  go_upto_region 27 with (fail)
                  go_cut [155] from 135 to 155 (fun t wx => t = .bool false ∧ Below w10.heap.size w10 wx)
                  case first => as_aux_lemma =>
                    obtain ⟨z0, z1, z2, z3, z4, z5⟩ := blk6 hZ
                    clear z2 z3 z4 z5
                    cases tb with
                    | false =>
                      clear hZ HLT
                      go_quiet (fail)
                      go_wp2_with fail
                      go_meet
                      exact ⟨rfl, belN (Below.refl _ _) _⟩
                    | true =>
                      by_cases h0 : 0 < q2
                      · have h0B : decide ((0 : Int) < q2) = true := decide_eq_true (by omega)
                        have h0N : decide (0 < q2) = true := decide_eq_true h0
                        have kW := fun d os => Calls.regrown_of (HWp.out _ (belS B10.out (below_regrown w10 d os)) s2)
                        have k0 := cell_regrown z0
                        have k1 := cell_regrown z1
                        by_cases h1 : q2 ≤ wholeV L s2
                        · have hmem := HLT.out rfl h0 h1
                          have kH := fun d os => Calls.regrown_of (has2_any _ _ _ F ⟨⟨s2, q2, t2, v2, d2, p2⟩, xa, xn, xc⟩ true ⟨fun _ => hmem, fun _ => rfl⟩ _ (hk1.out.below (belS B610.out (below_regrown w10 d os))) (hin10.out.below (below_regrown w10 d os)))
                          clear HLT z0 z1 hmem
                          generalize wholeV L s2 = wn at *
                          have h1B : decide ((q2 : Int) ≤ wn) = true := decide_eq_true (by omega)
                          have h1N : decide (q2 ≤ wn) = true := decide_eq_true h1
                          clear h0 h1
                          refine wp_region_quiet_below (by kernel_rfl) (by kernel_rfl) ?_
                          iterate 17 (go_big_quiet_step (first | (with_reducible exact kW _ _)))
                          (refine wpQuiet_blk_load (by rfl) (.tmp 14) rfl Tryd.underlying59 rfl rfl hZ (Tryd.msI _) ?_; simp only [Act.put, List.setIfInBounds_toArray, List.set_cons_zero, List.set_cons_succ])
                          iterate 3 (go_big_quiet_step (first | (with_reducible exact kH _ _)))
                          refine wpQuiet_nil ?_; intro w4' hw'; obtain ⟨⟨dq, osq⟩, hw''⟩ := hw'; subst hw''
                          go_wp2_with fail
                          go_meet
                          exact ⟨rfl, below_regrown _ _ _⟩
                        · clear HLT z0 z1 hZ
                          generalize wholeV L s2 = wn at *
                          have h1B : decide ((q2 : Int) ≤ wn) = false := decide_eq_false (by omega)
                          have h1N : decide (q2 ≤ wn) = false := decide_eq_false h1
                          clear h0 h1
                          refine wp_region_quiet_below (by kernel_rfl) (by kernel_rfl) ?_
                          iterate 21 (go_big_quiet_step (first | (with_reducible exact kW _ _)))
                          refine wpQuiet_nil ?_; intro w4' hw'; obtain ⟨⟨dq, osq⟩, hw''⟩ := hw'; subst hw''
                          go_wp2_with fail
                          go_meet
                          exact ⟨rfl, below_regrown _ _ _⟩
                      · have h0B : decide ((0 : Int) < q2) = false := decide_eq_false (by omega)
                        have h0N : decide (0 < q2) = false := decide_eq_false h0
                        clear HLT hZ h0
                        go_quiet (fail)
                        go_wp2_with fail
                        go_meet
                        exact ⟨rfl, belN (Below.refl _ _) _⟩
                  case rest => as_aux_lemma =>
                    obtain ⟨rfl, hb11⟩ := hcut
                    clear hZ HLT
                    go_wp2
                    go_roundw
                    case rel => first | exact ⟨j2 + 1, by omega, by go_num, belS hbz10.out hb11⟩ | ((repeat apply Exists.intro); exact ⟨⟨by omega, by go_num, belS hbz10.out hb11⟩, rfl⟩)
                    case measure => simp [intOf]; omega
              · have hjI2 : (n2 : Int) ≤ j2 := by omega
                go_wp2
                go_roundw
                case rel => first | exact ⟨k + 1, by omega, by go_num, belS hbr (belS hrq.out hbz)⟩ | ((repeat apply Exists.intro); exact ⟨⟨by omega, by go_num, belS hbr (belS hrq.out hbz)⟩, rfl⟩)
                case measure => simp [intOf]; omega
    · have hkI : (m1 : Int) ≤ k := by omega
      go_wp2
      go_ret
      exact ⟨rfl, belS B5.out (belS B6.out hbr)⟩
theorem fits_claim (me : Int) (a1 : Option Addr) (n1 c1 : Nat) (a2 : Option Addr) (n2 c2 : Nat) (W : World) (hT : Tab W) (_ : (Lit.int .i64 me).wf = true) (r1 : ∃ l, RSl RExc 6 W a1 n1 c1 l ∧ n1 * 64 ≤ reachBytes) (r2 : ∃ l, RSl RMsg 6 W a2 n2 c2 l ∧ n2 * 72 ≤ reachBytes) :
    Calls Tryd.prog 6 #[.int .i64 me, .slice a1 n1 c1, .slice a2 n2 c2] W fun e w' => e = .returned (.bool true) ∧ Below W.heap.size W w' := by
  obtain ⟨l, h1, h2⟩ := r1
  obtain ⟨m, h3, _⟩ := r2
  obtain ⟨xs, hx, hxo⟩ := h1.excs
  obtain ⟨ms, hm, hmo⟩ := h3.msgs
  exact fits_law me a1 n1 c1 xs a2 n2 c2 ms W hT hx hxo (by unfold reachBytes at h2; omega) hm hmo
end Go.Proofs.YtikhpafdnohhkaaDoor
