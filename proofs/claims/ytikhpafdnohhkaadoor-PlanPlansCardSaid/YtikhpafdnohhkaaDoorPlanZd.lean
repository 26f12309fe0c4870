/- plan: the walk of PlanPlans -/
import Derived.Test.YtikhpafdnohhkaaDoorPlanS1
import Derived.Test.YtikhpafdnohhkaaDoorPlanX
import Derived.Test.YtikhpafdnohhkaaDoorPlanY
namespace Go.Proofs.YtikhpafdnohhkaaDoor
set_option linter.unusedSimpArgs false
set_option linter.unusedVariables false
open Go.RowKit
theorem gaps_pre (L : List Xv) (cnt : List Nat) (k : Nat) : ∀ d, ∃ r, gapsV L cnt (k + d) = gapsV L cnt k ++ r
  | 0 => ⟨[], by simp⟩
  | d + 1 => by
    obtain ⟨r, hr⟩ := gaps_pre L cnt k d
    exact ⟨_, by rw [← Nat.add_assoc, gapsV, hr, List.append_assoc]⟩
theorem gapsV_y (L : List Xv) (cnt : List Nat) {k : Nat} (h : atL cnt k < wholeV L k) : gapsV L cnt (k + 1) = gapsV L cnt k ++ [⟨k, holdV L k, atL cnt k + 1, wholeV L k⟩] := by rw [gapsV, if_pos h]
theorem gaps_at64 (L : List Xv) (cnt : List Nat) (N : Nat) (G : List Gp) (hG : G = gapsV L cnt N) {k : Nat} (hk : k < N) (h : atL cnt k < wholeV L k) : G[(gapsV L cnt k).length]? = some ⟨k, holdV L k, atL cnt k + 1, wholeV L k⟩ := by
  obtain ⟨r, hr⟩ := gaps_pre L cnt (k + 1) (N - (k + 1))
  rw [show k + 1 + (N - (k + 1)) = N from by omega] at hr
  rw [hG, hr, gapsV_y L cnt h, List.append_assoc, List.getElem?_append_right (Nat.le_refl _), Nat.sub_self]; rfl
theorem gaps_step_y (L : List Xv) (cnt : List Nat) {k : Nat} (h : atL cnt k < wholeV L k) : (gapsV L cnt (k + 1)).length = (gapsV L cnt k).length + 1 := by rw [gapsV, if_pos h, List.length_append]; rfl
theorem gaps_step_n (L : List Xv) (cnt : List Nat) {k : Nat} (h : ¬ atL cnt k < wholeV L k) : (gapsV L cnt (k + 1)).length = (gapsV L cnt k).length := by rw [gapsV, if_neg h, List.append_nil]
theorem gap_cells {w : World} {a : Option Addr} {n c : Nat} {gs : List Gp} (h : Rd w 4 a n c (gs.flatMap gpC)) {i : Nat} {x : Gp} (hi : gs[i]? = some x) : ∃ g off, a = some ⟨g, off, none⟩ ∧ g < w.heap.size ∧ i < n ∧ (w.cell? ⟨g, off + i * 4, none⟩ = some (.int .i64 x.whom) ∧ w.cell? ⟨g, off + i * 4 + 1, none⟩ = some (.int .i64 x.holder) ∧ w.cell? ⟨g, off + i * 4 + 2, none⟩ = some (.int .u32 x.fr) ∧ w.cell? ⟨g, off + i * 4 + 3, none⟩ = some (.int .u32 x.to)) := by
  have hl := h.length_eq
  rw [flatMap_len (sz := 4) (fun _ => rfl)] at hl
  have hlt := (List.getElem?_eq_some_iff.1 hi).1
  obtain ⟨g, off, rfl, hg⟩ := Rd.addr h (by omega)
  have e : ∀ j (hj : j < 4) v, (gpC x)[j]? = some v → w.cell? ⟨g, off + (i * 4 + j), none⟩ = some v := fun j hj v hv => by
    refine Rd.at h ?_
    rw [flatMap_get (sz := 4) (fun _ => rfl) _ _ _ hj, hi]
    exact hv
  exact ⟨g, off, rfl, hg, by omega, e 0 (by decide) _ rfl, e 1 (by decide) _ rfl, e 2 (by decide) _ rfl, e 3 (by decide) _ rfl⟩
set_option maxHeartbeats 12800000 in
set_option maxRecDepth 100000 in
theorem plans_law (me : Int) (a1 : Option Addr) (n1 c1 : Nat) (l : List Xc) (a2 : Option Addr) (n2 c2 : Nat) (cnt : List Nat) (q : Int) (w : World) (hT : Tab w)
    (hr : RdX w a1 n1 c1 l) (hx : ∀ x ∈ l, ExOk w x) (hn64 : n1 * 64 ≤ 140737488355328) (hc : RdU w a2 n2 c2 cnt) :
    Calls Tryd.prog 3 #[.int .i64 me, .slice a1 n1 c1, .slice a2 n2 c2, .int .i64 q] w fun e w' => e = .returned (.bool true) ∧ Below w.heap.size w w' := by
  have HAw := Lib.hid (awake_any w hT)
  have HFx := Lib.hid (fun W (hb : Below w.heap.size w W) t ht => few_any a1 n1 c1 l t ht W (hr.below hb))
  have HNw := Lib.hid (fun W (hb : Below w.heap.size w W) ok hok => new_any me a1 n1 c1 l W (hr.below hb) (fun x hxl => (hx x hxl).2.1) hn64 ok hok)
  have HRi := Lib.hid (fun W (hb : Below w.heap.size w W) ok hok => right_any me a1 n1 c1 l ok hok W (hr.below hb))
  have HCo := Lib.hid (fun W (hb : Below w.heap.size w W) => rcomps_any me a1 n1 c1 l W (hr.below hb) hn64)
  have HcW := Lib.hid (fun W (hb : Below w.heap.size w W) => hc.below hb)
  have HTb := Lib.hid (fun W (hb : Below w.heap.size w W) => hT.below hb hT.1)
  have hcnt := Lib.hid (cnt_ok hx)
  have hmm := hc.le_max
  have hmr := hr.le_max
  clear hx hr hc
  cases hfx : fewX l with
  | false =>
    go_enter Tryd.func3, Tryd.ntmps3
    go_wp2_with fail
    (refine (HAw.out).mono ?_; rintro e wA ⟨rfl, hA⟩)
    go_wp2_with fail
    refine (HFx.out _ hA false hfx.symm).mono ?_
    rintro e w2 ⟨rfl, rfl⟩
    go_wp2
    go_ret
    exact ⟨rfl, hA⟩
  | true =>
  have hl80 := Lib.hid (few_len hfx)
  by_cases h200 : 200 < n2
  · have h2I : (200 : Int) < n2 := by omega
    go_enter Tryd.func3, Tryd.ntmps3
    go_wp2_with fail
    (refine (HAw.out).mono ?_; rintro e wA ⟨rfl, hA⟩)
    go_wp2_with fail
    refine (HFx.out _ hA true hfx.symm).mono ?_
    rintro e w2 ⟨rfl, rfl⟩
    go_wp2
    go_ret
    exact ⟨rfl, hA⟩
  have h2I : (n2 : Int) ≤ 200 := by omega
  obtain ⟨ok, hok⟩ := bool_of (okV (vX l) ∧ ∃ x ∈ vX l, x.who = me)
  have HR1 := Lib.hid (fun W hb => HRi.out W hb ok hok)
  have HN1 := Lib.hid (fun W hb => HNw.out W hb ok hok)
  replace hok := Lib.hid hok
  clear HRi HNw h200
  cases ok with
  | false =>
    go_enter Tryd.func3, Tryd.ntmps3
    go_wp2_with fail
    (refine (HAw.out).mono ?_; rintro e wA ⟨rfl, hA⟩)
    go_wp2_with fail
    refine (HFx.out _ hA true hfx.symm).mono ?_
    rintro e w2 ⟨rfl, rfl⟩
    go_wp2_with fail
    refine (HN1.out _ hA).mono ?_
    rintro e w3 ⟨p, rfl, hpf, _, hb3⟩
    obtain rfl := hpf (by trivial)
    go_wp2_with fail
    refine (HR1.out _ (belS hA hb3)).mono ?_
    rintro e w4 ⟨rfl, hb4⟩
    go_wp2
    go_ret
    exact ⟨rfl, belS (belS hA hb3) hb4⟩
  | true =>
  have hokv := Lib.hid (hok.out.1 rfl).1
  clear hok
  go_enter Tryd.func3, Tryd.ntmps3
  go_wp2_with fail
  (refine (HAw.out).mono ?_; rintro e wA ⟨rfl, hA⟩)
  go_wp2_with fail
  refine (HFx.out _ hA true hfx.symm).mono ?_
  rintro e w2 ⟨rfl, rfl⟩
  clear hfx HFx HAw
  go_wp2_with fail
  refine (HN1.out _ hA).mono ?_
  rintro e w3 ⟨p, rfl, _, hpt, hb3⟩
  obtain ⟨b, l', rfl, hp, hpl⟩ := hpt (by trivial)
  have B3 := Lib.hid (belS hA hb3)
  clear hpt hb3 hA HN1
  go_wp2_with fail
  refine (HR1.out _ B3.out).mono ?_
  rintro e w4 ⟨rfl, hb4⟩
  have B4 := Lib.hid (belS B3.out hb4)
  replace hp := hp.below hb4
  clear hb4 B3 HR1
  go_wp2_with fail
  refine (HCo.out _ B4.out).mono ?_
  rintro e w5 ⟨x1, m1, y1, rfl, hk, hb5⟩
  have B5 := Lib.hid (belS B4.out hb5)
  replace hp := Lib.hid (hp.below hb5)
  replace hk := Lib.hid hk
  clear hb5 B4 HCo
  have hcX := compX_v me l
  have hlen := Lib.hid (comp_len hpl hl80.out)
  obtain ⟨L, hL⟩ : ∃ L, L = compV me (vX l) := ⟨_, rfl⟩
  have hwho := Lib.hid (show ∀ x ∈ L, 0 ≤ x.who ∧ x.who < 64 from by rw [hL]; exact fun x hx => hokv.out.1 x (comp_mem.1 hx).1)
  have hcL := Lib.hid (show ∀ x ∈ L, ∀ y ∈ x.cnt, y < 4294967296 from by rw [hL]; exact cnt_comp hcnt.out)
  rw [← hL] at hpl hcX
  replace hpl := Lib.hid hpl
  replace hcX := Lib.hid hcX
  clear hL
  obtain ⟨r1, r2, hbn⟩ : ∃ r1 r2, bndV L = (r1, r2) := ⟨_, _, rfl⟩
  replace hbn := Lib.hid hbn
  have HCp := Lib.hid (fun W (hb : Below w5.heap.size w5 W) => comps_any b l' W (hp.out.below hb))
  have HSt := Lib.hid (fun W (hb : Below w5.heap.size w5 W) => set_any x1 m1 y1 (compX me l) (by rw [hcX.out]; exact hwho.out) W (hk.out.below hb))
  have HWp := Lib.hid (fun W (hb : Below w5.heap.size w5 W) i => whole_any b l' i W (hp.out.below hb))
  have HWc := Lib.hid (fun W (hb : Below w5.heap.size w5 W) i => rwhole_any x1 m1 y1 (compX me l) i W (hk.out.below hb))
  have HHp := Lib.hid (fun W (hb : Below w5.heap.size w5 W) i => hold_any b l' i W (hp.out.below hb) (HTb.out W (belS B5.out hb)))
  have HHc := Lib.hid (fun W (hb : Below w5.heap.size w5 W) i => rhold_any x1 m1 y1 (compX me l) (by rw [hcX.out]; exact hwho.out) i W (hk.out.below hb))
  have HBp := Lib.hid (fun W (hb : Below w5.heap.size w5 W) => bnd_any b l' r1 r2 (by rw [hpl.out]; exact hbn.out) hlen.out W (hp.out.below hb))
  have HBc := Lib.hid (fun W (hb : Below w5.heap.size w5 W) => rbnd_any x1 m1 y1 (compX me l) r1 r2 (by rw [hcX.out]; exact hbn.out) W (hk.out.below hb))
  have HLk := Lib.hid (fun W (hb : Below w5.heap.size w5 W) => lacks_any b l' a2 n2 c2 cnt W (hp.out.below hb) (HcW.out W (belS B5.out hb)) (HTb.out W (belS B5.out hb)) (by rw [hpl.out]; exact hcL.out))
  have HAt := Lib.hid (fun W (hb : Below w5.heap.size w5 W) i => atR_any a2 n2 c2 cnt i W (HcW.out W (belS B5.out hb)))
  have HLT := Lib.hid (fun i => wholeV_lt hcL.out i)
  rw [hpl.out] at HCp HWp HHp HLk
  rw [hcX.out] at HSt HWc HHc
  have C0 := Lib.hid (Below.refl w5.heap.size w5)
  clear hwho hcL hlen hokv hcnt hl80
  go_wp2_with fail
  refine (HCp.out _ C0.out).mono ?_
  rintro e z1 ⟨rfl, hb⟩
  have C1 := Lib.hid hb
  clear hb C0
  go_wp2_with fail
  refine (HSt.out _ C1.out).mono ?_
  rintro e z2 ⟨rfl, rfl⟩
  go_wp2_with fail
  refine (HWp.out _ C1.out q).mono ?_
  rintro e z3 ⟨rfl, hb⟩
  have C2 := Lib.hid (belS C1.out hb)
  clear hb C1
  go_wp2_with fail
  refine (HWc.out _ C2.out q).mono ?_
  rintro e z4 ⟨rfl, rfl⟩
  go_wp2_with fail
  refine (HHp.out _ C2.out q).mono ?_
  rintro e z5 ⟨rfl, hb⟩
  have C3 := Lib.hid (belS C2.out hb)
  clear hb C2
  go_wp2_with fail
  refine (HHc.out _ C3.out q).mono ?_
  rintro e z6 ⟨rfl, rfl⟩
  go_wp2_with fail
  refine (HBp.out _ C3.out).mono ?_
  rintro e z7 ⟨rfl, hb⟩
  have C4 := Lib.hid (belS C3.out hb)
  clear hb C3
  go_wp2_with fail
  refine (HBc.out _ C4.out).mono ?_
  rintro e z8 ⟨rfl, hb⟩
  have C5 := Lib.hid (belS C4.out hb)
  clear hb C4
  go_wp2_with fail
  refine (HLk.out _ C5.out).mono ?_
  rintro e z9 ⟨ga, gm, gc, rfl, hgd, hb⟩
  have C6 := Lib.hid (belS C5.out hb)
  obtain ⟨G, hG⟩ : ∃ G, G = gapsV L cnt 64 := ⟨_, rfl⟩
  have hGn : G.length ≤ 64 := by rw [hG]; exact gapsV_len L cnt 64
  rw [← hG] at hgd
  replace hG := Lib.hid hG
  have hgl : Hid (G.length = gm) := Lib.hid (by have := hgd.length_eq; rw [flatMap_len (sz := 4) (fun _ => rfl)] at this; omega)
  have hgmx : gm ≤ 64 := by rw [← hgl.out]; exact hGn
  clear hGn
  replace hgd := Lib.hid hgd
  clear hb C5 HCp HSt HWp HHp HBp HBc HLk
  go_wp2
  go_loopw [13, 14, 15] (fun nn i _ wr => ∃ (k m : Nat), k ≤ 64 ∧ i = .int .i64 k ∧ nn = .int .i64 m ∧ Hid (m = (gapsV L cnt k).length) ∧ Below z9.heap.size z9 wr) (fun _ i _ _ => 64 - (intOf i).toNat)
  case atStart => exact ⟨0, 0, by decide, rfl, rfl, rfl, Below.refl _ _⟩
  case round =>
    obtain ⟨k, m, hk2, rfl, rfl, hmk, hbr⟩ := hrel
    have Cr := Lib.hid (belS C6.out hbr)
    have hml := Lib.hid (show m ≤ k from by rw [hmk.out]; exact gapsV_len L cnt k)
    by_cases hkn : k < 64
    · have hkI : (k : Int) < 64 := by omega
      have hAT := Lib.hid (fun (h : atL cnt k < wholeV L k) => gaps_at64 L cnt 64 G hG.out hkn h)
      have hSY := Lib.hid (fun (h : atL cnt k < wholeV L k) => gaps_step_y L cnt h)
      have hSN := Lib.hid (fun (h : ¬ atL cnt k < wholeV L k) => gaps_step_n L cnt h)
      rw [← hmk.out] at hAT hSY hSN
      have HA2 := Lib.hid (fun W hb => HAt.out W hb k)
      have HH2 := Lib.hid (fun W hb => HHc.out W hb k)
      have hwl := HLT.out k
      go_wp2_with fail
      refine (HWc.out _ Cr.out k).mono ?_
      rintro e v1 ⟨rfl, rfl⟩
      go_wp2_with fail
      refine (HA2.out _ Cr.out).mono ?_
      rintro e v2 ⟨rfl, rfl⟩
      generalize wholeV L k = wn at *
      generalize atL cnt k = y at *
      generalize holdV L k = hv at *
      by_cases h1 : y < wn
      · obtain ⟨g, off, rfl, hg, hmn, ⟨c0, c1, c2', c3⟩⟩ := gap_cells hgd.out (hAT.out h1)
        have ec := fun j => hbr.cell (p := ⟨g, j, none⟩) hg
        rw [← ec] at c0 c1 c2' c3
        simp only at c0 c1 c2' c3
        have h1I : (y : Int) < wn := by omega
        have hmnI : (m : Int) < gm := by omega
        have hz := Lib.hid (hSY.out h1)
        have hge : decide ((gm : Int) ≤ m) = false := decide_eq_false (by omega)
        have hge2 : decide (gm ≤ m) = false := decide_eq_false (by omega)
        clear hAT hSY hSN ec h1
        go_wp2_with fail
        go_quiet (first | (go_at_call 19; exact qS (HH2.out _ (belN Cr.out _))) | (go_at_call 23; exact qS (HA2.out _ (belN Cr.out _))))
        have hbq := belN hbr nq
        generalize wr.drewN nq = w7 at *
        go_wp2
        go_roundw
        case rel => exact ⟨k + 1, m + 1, by omega, by go_num, by go_num, Lib.hid hz.out.symm, hbq⟩
        case measure => simp [intOf]; omega
      · have h1I : (wn : Int) ≤ y := by omega
        have hz := Lib.hid (hSN.out h1)
        clear hAT hSY hSN h1
        go_wp2
        go_roundw
        case rel => exact ⟨k + 1, m, by omega, by go_num, rfl, Lib.hid hz.out.symm, hbr⟩
        case measure => simp [intOf]; omega
    · have hk64 : Hid (k = 64) := Lib.hid (by omega)
      have hkI : (64 : Int) ≤ k := by omega
      have hmg : Hid (m = gm) := Lib.hid (by rw [hmk.out, hk64.out, ← hgl.out, hG.out])
      have hmB : ((m : Int) == gm) = true := by rw [hmg.out]; exact beq_self_eq_true _
      go_wp2
      go_ret
      exact ⟨rfl, belS B5.out Cr.out⟩
theorem plans_claim (me : Int) (a1 : Option Addr) (n1 c1 : Nat) (a2 : Option Addr) (n2 c2 : Nat) (q : Int) (W : World) (hT : Tab W) (_ : (Lit.int .i64 me).wf = true) (r1 : ∃ l, RSl RExc 6 W a1 n1 c1 l ∧ n1 * 64 ≤ reachBytes) (r2 : ∃ l, RSl (RInt .u32) 1 W a2 n2 c2 l ∧ n2 * 4 ≤ reachBytes) (_ : (Lit.int .i64 q).wf = true) :
    Calls Tryd.prog 3 #[.int .i64 me, .slice a1 n1 c1, .slice a2 n2 c2, .int .i64 q] W fun e w' => e = .returned (.bool true) ∧ Below W.heap.size W w' := by
  obtain ⟨l, h1, h2⟩ := r1
  obtain ⟨m, h3, h4⟩ := r2
  obtain ⟨xs, hx, hxo⟩ := h1.excs
  obtain ⟨a, n, c, he, hu, _⟩ := RSlz.u32 (w := W) (cs := [.slice a2 n2 c2]) (l := m) ⟨a2, n2, c2, rfl, h3, h4⟩
  injection he with he
  injection he with e1 e2 e3
  subst e1 e2 e3
  exact plans_law me a1 n1 c1 xs a2 n2 c2 _ q W hT hx hxo (by unfold reachBytes at h2; omega) hu
end Go.Proofs.YtikhpafdnohhkaaDoor
