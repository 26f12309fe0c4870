/- plan: the walk of PlanOne -/
import Derived.Test.YtikhpafdnohhkaaDoorPlanK
import Derived.Test.YtikhpafdnohhkaaDoorPlanL
import Derived.Test.YtikhpafdnohhkaaDoorPlanO
import Derived.Test.YtikhpafdnohhkaaDoorPlanQ
import Derived.Test.YtikhpafdnohhkaaDoorPlanR
namespace Go.Proofs.YtikhpafdnohhkaaDoor
set_option linter.unusedSimpArgs false
set_option linter.unusedVariables false
open Go.RowKit
theorem bool_of (P : Prop) : ∃ t : Bool, t = true ↔ P := by
  rcases Classical.em P with h | h
  · exact ⟨true, fun _ => h, fun _ => rfl⟩
  · exact ⟨false, (fun e => by cases e), fun e => absurd e h⟩
theorem ex_vX {l : List Xc} {me : Int} : (∃ x ∈ vX l, x.who = me) ↔ ∃ x ∈ vX l, x.who = me := Iff.rfl
theorem cnt_ok {w : World} {l : List Xc} (h : ∀ x ∈ l, ExOk w x) : ∀ x ∈ vX l, ∀ y ∈ x.cnt, y < 4294967296 := by
  intro x hx
  obtain ⟨c, hc, rfl⟩ := List.mem_map.1 hx
  exact (h c hc).2.2
theorem cnt_comp {me : Int} {l : List Xv} (h : ∀ x ∈ l, ∀ y ∈ x.cnt, y < 4294967296) : ∀ x ∈ compV me l, ∀ y ∈ x.cnt, y < 4294967296 := fun x hx => h x (comp_mem.1 hx).1
theorem few_len {l : List Xc} (h : fewX l = true) : l.length ≤ 80 := (of_decide_eq_true h).1
theorem comp_len {pl : List Xc} {me : Int} {l : List Xc} (h : vX pl = compV me (vX l)) (hl : l.length ≤ 80) : pl.length ≤ 1000000000 := by
  have e := congrArg List.length h
  rw [vX_len, compV, compO] at e
  have := List.length_filter_le (sameO (oldV me (vX l))) (vX l)
  rw [vX_len] at this
  omega
set_option maxHeartbeats 12800000 in
set_option maxRecDepth 100000 in
theorem one_law (a1 : Option Addr) (n1 c1 : Nat) (l : List Xc) (a2 : Option Addr) (n2 c2 : Nat) (rs : List Mc) (a b : Int) (w : World) (hT : Tab w)
    (hr : RdX w a1 n1 c1 l) (hx : ∀ x ∈ l, ExOk w x) (hn64 : n1 * 64 ≤ 140737488355328) (hm : RdM w a2 n2 c2 rs) (hmx : ∀ x ∈ rs, MsOk w x) :
    Calls Tryd.prog 5 #[.slice a1 n1 c1, .slice a2 n2 c2, .int .i64 a, .int .i64 b] w fun e w' => e = .returned (.bool true) ∧ Below w.heap.size w w' := by
  have HAw := Lib.hid (awake_any w hT)
  have HFx := Lib.hid (fun W (hb : Below w.heap.size w W) t ht => few_any a1 n1 c1 l t ht W (hr.below hb))
  have HFm := Lib.hid (fun W (hb : Below w.heap.size w W) t ht => few03_any a2 n2 c2 rs t ht W (hm.below hb) (fun x hx => (hmx x hx).2.2.2.1))
  have HNw := Lib.hid (fun W (hb : Below w.heap.size w W) me ok hok => new_any me a1 n1 c1 l W (hr.below hb) (fun x hxl => (hx x hxl).2.1) hn64 ok hok)
  have hmm := hm.le_max
  have hmr := hr.le_max
  cases hfx : fewX l with
  | false =>
    go_enter Tryd.func5, Tryd.ntmps5
    go_wp2_with fail
    (refine (HAw.out).mono ?_; rintro e wA ⟨rfl, hA⟩)
    go_wp2_with fail
    refine (HFx.out _ hA false hfx.symm).mono ?_
    rintro e w2 ⟨rfl, rfl⟩
    go_wp2
    go_ret
    exact ⟨rfl, hA⟩
  | true =>
  cases hfm : fewM rs with
  | false =>
    go_enter Tryd.func5, Tryd.ntmps5
    go_wp2_with fail
    (refine (HAw.out).mono ?_; rintro e wA ⟨rfl, hA⟩)
    go_wp2_with fail
    refine (HFx.out _ hA true hfx.symm).mono ?_
    rintro e w2 ⟨rfl, rfl⟩
    go_wp2_with fail
    refine (HFm.out _ hA false hfm.symm).mono ?_
    rintro e w3 ⟨rfl, hb3⟩
    go_wp2
    go_ret
    exact ⟨rfl, belS hA hb3⟩
  | true =>
  by_cases h60 : 60 < n2
  · have h60I : (60 : Int) < n2 := by omega
    go_enter Tryd.func5, Tryd.ntmps5
    go_wp2_with fail
    (refine (HAw.out).mono ?_; rintro e wA ⟨rfl, hA⟩)
    go_wp2_with fail
    refine (HFx.out _ hA true hfx.symm).mono ?_
    rintro e w2 ⟨rfl, rfl⟩
    go_wp2_with fail
    refine (HFm.out _ hA true hfm.symm).mono ?_
    rintro e w3 ⟨rfl, hb3⟩
    go_wp2
    go_ret
    exact ⟨rfl, belS hA hb3⟩
  have h60I : (n2 : Int) ≤ 60 := by omega
  have hn2 : n2 ≤ 1000000000 := by omega
  obtain ⟨ok1, hok1⟩ := bool_of (okV (vX l) ∧ ∃ x ∈ vX l, x.who = a)
  obtain ⟨ok2, hok2⟩ := bool_of (okV (vX l) ∧ ∃ x ∈ vX l, x.who = b)
  have HN1 := Lib.hid (fun W hb => HNw.out W hb a ok1 hok1)
  have HN2 := Lib.hid (fun W hb => HNw.out W hb b ok2 hok2)
  replace hok1 := Lib.hid hok1
  replace hok2 := Lib.hid hok2
  have hl80 := Lib.hid (few_len hfx)
  have hcnt := Lib.hid (cnt_ok hx)
  clear HNw h60
  go_enter Tryd.func5, Tryd.ntmps5
  go_wp2_with fail
  (refine (HAw.out).mono ?_; rintro e wA ⟨rfl, hA⟩)
  go_wp2_with fail
  refine (HFx.out _ hA true hfx.symm).mono ?_
  rintro e w2 ⟨rfl, rfl⟩
  go_wp2_with fail
  refine (HFm.out _ hA true hfm.symm).mono ?_
  rintro e w3 ⟨rfl, hb3⟩
  replace hA := Lib.hid (belS hA hb3)
  clear hb3 HFx HFm HAw hfx hfm
  go_wp2_with fail
  refine (HN1.out _ hA.out).mono ?_
  rintro e w4 ⟨p1, rfl, hp1f, hp1t, hb4⟩
  have hB4 := Lib.hid (belS hA.out hb4)
  go_wp2_with fail
  refine (HN2.out _ hB4.out).mono ?_
  rintro e w5 ⟨p2, rfl, hp2f, hp2t, hb5⟩
  have hB5 := Lib.hid (belS hB4.out hb5)
  have hb45 := Lib.hid hb5
  clear HN1 HN2 hA hB4 hb4 hb5
  cases ok1 with
  | false =>
    obtain rfl := hp1f rfl
    cases ok2 with
    | false =>
      obtain rfl := hp2f rfl
      go_wp2
      go_ret
      exact ⟨rfl, hB5.out⟩
    | true =>
      obtain ⟨b2, l2', rfl, hq, hql⟩ := hp2t rfl
      clear hp1f hp1t hp2f hp2t hq hql
      go_wp2
      go_ret
      exact ⟨rfl, hB5.out⟩
  | true =>
  obtain ⟨b1, l1', rfl, hp, hpl⟩ := hp1t rfl
  replace hpl := Lib.hid hpl
  cases ok2 with
  | false =>
    obtain rfl := hp2f rfl
    clear hp1f hp1t hp2f hp2t hp
    go_wp2
    go_ret
    exact ⟨rfl, hB5.out⟩
  | true =>
  obtain ⟨b2, l2', rfl, hq, hql⟩ := hp2t rfl
  replace hql := Lib.hid hql
  replace hp := Lib.hid (hp.below hb45.out)
  replace hq := Lib.hid hq
  clear hp1f hp1t hp2f hp2t hb45
  have HCp := Lib.hid (fun W (hb : Below w5.heap.size w5 W) => comps_any b1 l1' W (hp.out.below hb))
  have hml := Lib.hid (maskV_lt (vX l1'))
  go_wp2_with fail
  refine (HCp.out _ (Below.refl _ _)).mono ?_
  rintro e w6 ⟨rfl, hb6⟩
  have hB6 := Lib.hid hb6
  clear hb6
  go_wp2_with fail
  refine (has_any (maskV (vX l1')) b hml.out _).mono ?_
  rintro e w7 ⟨rfl, rfl⟩
  cases hhb : hasB (maskV (vX l1')) b with
  | false =>
    clear hhb
    go_wp2
    go_ret
    exact ⟨rfl, belS hB5.out hB6.out⟩
  | true =>
  have hEq := Lib.hid (show vX l2' = vX l1' from by
    rw [hql.out, hpl.out]
    rw [hpl.out] at hhb
    exact comp_same (hok1.out.1 trivial).1 hhb (hok2.out.1 trivial).2)
  have hMe := Lib.hid (show hasB (maskV (vX l1')) a = true from by rw [hpl.out]; exact comp_me (hok1.out.1 trivial).1 (hok1.out.1 trivial).2)
  clear hhb
  have HTb := Lib.hid (fun W (hb : Below w5.heap.size w5 W) => hT.below (belS hB5.out hb) hT.1)
  have HMs := Lib.hid (fun W (hb : Below w5.heap.size w5 W) => hm.below (belS hB5.out hb))
  have HWp := Lib.hid (fun W (hb : Below w5.heap.size w5 W) i => whole_any b1 l1' i W (hp.out.below hb))
  have HWq := Lib.hid (fun W (hb : Below w5.heap.size w5 W) i => (by have := whole_any b2 l2' i W (hq.out.below hb); rwa [hEq.out] at this : Calls Tryd.prog 16 #[.pointer (some ⟨b2, 0, none⟩), .int .i64 i] W fun e w' => e = .returned (.int .u32 (wholeV (vX l1') i)) ∧ Below W.heap.size W w'))
  have HHp := Lib.hid (fun W (hb : Below w5.heap.size w5 W) i => hold_any b1 l1' i W (hp.out.below hb) (HTb.out W hb))
  have HHq := Lib.hid (fun W (hb : Below w5.heap.size w5 W) i => (by have := hold_any b2 l2' i W (hq.out.below hb) (HTb.out W hb); rwa [hEq.out] at this : Calls Tryd.prog 18 #[.pointer (some ⟨b2, 0, none⟩), .int .i64 i] W fun e w' => e = .returned (.int .i64 (holdV (vX l1') i)) ∧ Below W.heap.size W w'))
  have HCq := Lib.hid (fun W (hb : Below w5.heap.size w5 W) => (by have := comps_any b2 l2' W (hq.out.below hb); rwa [hEq.out] at this : Calls Tryd.prog 14 #[.pointer (some ⟨b2, 0, none⟩)] W fun e w' => e = .returned (.int .u64 (maskV (vX l1'))) ∧ Below W.heap.size W w'))
  have hlen1 := Lib.hid (comp_len hpl.out hl80.out)
  have hlen2 := Lib.hid (comp_len hql.out hl80.out)
  have hcp := Lib.hid (show ∀ x ∈ vX l1', ∀ y ∈ x.cnt, y < 4294967296 from by rw [hpl.out]; exact cnt_comp hcnt.out)
  obtain ⟨r1, r2, hbn⟩ : ∃ r1 r2, bndV (vX l1') = (r1, r2) := ⟨_, _, rfl⟩
  replace hbn := Lib.hid hbn
  have HBp := Lib.hid (fun W (hb : Below w5.heap.size w5 W) => bnd_any b1 l1' r1 r2 hbn.out hlen1.out W (hp.out.below hb))
  have HBq := Lib.hid (fun W (hb : Below w5.heap.size w5 W) => bnd_any b2 l2' r1 r2 (by rw [hEq.out]; exact hbn.out) hlen2.out W (hq.out.below hb))
  have HKp := Lib.hid (fun W (hb : Below w5.heap.size w5 W) => keep_any b1 l1' a2 n2 c2 rs W (hp.out.below hb) (HMs.out W hb) hcp.out hn2)
  have HKq := Lib.hid (fun W (hb : Below w5.heap.size w5 W) => keep_any b2 l2' a2 n2 c2 rs W (hq.out.below hb) (HMs.out W hb) (by rw [hEq.out]; exact hcp.out) hn2)
  rw [hEq.out] at HKq
  have HHs := Lib.hid (fun i (h : 0 ≤ holdV (vX l1') i) => hold_has h)
  clear hx hmx hr hm hn64 hmm hmr hn2 hok1 hok2 hcnt hl80
  go_wp2
  go_loopw [13] (fun i wr => ∃ k : Nat, k ≤ 64 ∧ i = .int .i64 k ∧ Below w5.heap.size w5 wr) (fun i _ => 64 - (intOf i).toNat)
  case atStart => exact ⟨0, by decide, rfl, hB6.out⟩
  case round =>
    obtain ⟨k, hk, rfl, hbr⟩ := hrel
    replace hbr := Lib.hid hbr
    by_cases hkn : k < 64
    · have hkI : (k : Int) < 64 := by omega
      go_wp2_with fail
      refine (HWp.out _ hbr.out k).mono ?_
      rintro e v1 ⟨rfl, hb⟩
      have B1 := Lib.hid (belS hbr.out hb)
      clear hb
      go_wp2_with fail
      refine (HWq.out _ B1.out k).mono ?_
      rintro e v2 ⟨rfl, hb⟩
      have B2 := Lib.hid (belS B1.out hb)
      clear hb B1
      generalize wholeV (vX l1') k = wn at *
      go_wp2_with fail
      refine (HHp.out _ B2.out k).mono ?_
      rintro e v3 ⟨rfl, hb⟩
      have B3 := Lib.hid (belS B2.out hb)
      clear hb B2
      go_wp2_with fail
      refine (HHq.out _ B3.out k).mono ?_
      rintro e v4 ⟨rfl, hb⟩
      have B4 := Lib.hid (belS B3.out hb)
      clear hb B3
      have HH3 := Lib.hid (fun W hb => HHp.out W hb k)
      have HHsk := Lib.hid (HHs.out k)
      generalize holdV (vX l1') k = hv at *
      go_wp2_with fail
      refine (HH3.out _ B4.out).mono ?_
      rintro e v5 ⟨rfl, hb⟩
      have B5 := Lib.hid (belS B4.out hb)
      clear hb B4
      by_cases hv0 : 0 ≤ hv
      · have hhs := Lib.hid (HHsk.out hv0)
        go_wp2_with fail
        refine (HCp.out _ B5.out).mono ?_
        rintro e v6 ⟨rfl, hb⟩
        have B6 := Lib.hid (belS B5.out hb)
        clear hb B5
        go_wp2_with fail
        refine (HH3.out _ B6.out).mono ?_
        rintro e v7 ⟨rfl, hb⟩
        have B7 := Lib.hid (belS B6.out hb)
        clear hb B6
        go_wp2_with fail
        refine (has_any (maskV (vX l1')) hv hml.out _).mono ?_
        rintro e v8 ⟨rfl, rfl⟩
        rw [hhs.out]
        go_wp2
        go_roundw
        case rel => exact ⟨k + 1, by omega, by go_num, B7.out⟩
        case measure => simp [intOf]; omega
      · have hv1 : hv < 0 := by omega
        go_wp2
        go_roundw
        case rel => exact ⟨k + 1, by omega, by go_num, B5.out⟩
        case measure => simp [intOf]; omega
    · have hkI : (64 : Int) ≤ k := by omega
      go_wp2_with fail
      refine (HCp.out _ hbr.out).mono ?_
      rintro e v1 ⟨rfl, hb⟩
      have B1 := Lib.hid (belS hbr.out hb)
      clear hb
      go_wp2_with fail
      refine (HCq.out _ B1.out).mono ?_
      rintro e v2 ⟨rfl, hb⟩
      have B2 := Lib.hid (belS B1.out hb)
      clear hb B1
      go_wp2_with fail
      refine (HBp.out _ B2.out).mono ?_
      rintro e v3 ⟨rfl, hb⟩
      have B3 := Lib.hid (belS B2.out hb)
      clear hb B2
      go_wp2_with fail
      refine (HBq.out _ B3.out).mono ?_
      rintro e v4 ⟨rfl, hb⟩
      have B4 := Lib.hid (belS B3.out hb)
      clear hb B3
      go_wp2_with fail
      refine (HKp.out _ B4.out).mono ?_
      rintro e v5 ⟨x1, m1, y1, rfl, hk1, hb⟩
      have B5 := Lib.hid (belS B4.out hb)
      clear hb B4
      go_wp2_with fail
      refine (HKq.out _ B5.out).mono ?_
      rintro e v6 ⟨x2, m2, y2, rfl, hk2, hb⟩
      have B6 := Lib.hid (belS B5.out hb)
      have HAl := Lib.hid (all_any _ _ _ _ _ _ _ _ rfl v6 (hk1.below hb) hk2)
      clear hb B5 hk1 hk2
      go_wp2_with fail
      refine (HAl.out).mono ?_
      rintro e v7 ⟨rfl, hb⟩
      have B7 := Lib.hid (belS B6.out hb)
      clear hb B6 HAl
      go_wp2_with fail
      refine (HCp.out _ B7.out).mono ?_
      rintro e v8 ⟨rfl, hb⟩
      have B8 := Lib.hid (belS B7.out hb)
      clear hb B7
      go_wp2_with fail
      refine (has_any (maskV (vX l1')) a hml.out _).mono ?_
      rintro e v9 ⟨rfl, rfl⟩
      rw [hMe.out]
      go_wp2
      go_ret
      exact ⟨rfl, belS hB5.out B8.out⟩
end Go.Proofs.YtikhpafdnohhkaaDoor
