/- plan: the walk of PlanKeeps -/
import Derived.Test.YtikhpafdnohhkaaDoorPlanS1
import Derived.Test.YtikhpafdnohhkaaDoorPlanZb
namespace Go.Proofs.YtikhpafdnohhkaaDoor
set_option linter.unusedSimpArgs false
set_option linter.unusedVariables false
open Go.RowKit
set_option maxHeartbeats 12800000 in
set_option maxRecDepth 100000 in
theorem keeps_law (me : Int) (a1 : Option Addr) (n1 c1 : Nat) (l : List Xc) (a2 : Option Addr) (n2 c2 : Nat) (rs : List Mc) (w : World) (hT : Tab w)
    (hr : RdX w a1 n1 c1 l) (hx : ∀ x ∈ l, ExOk w x) (hn64 : n1 * 64 ≤ 140737488355328) (hm : RdM w a2 n2 c2 rs) (hmx : ∀ x ∈ rs, MsOk w x) :
    Calls Tryd.prog 4 #[.int .i64 me, .slice a1 n1 c1, .slice a2 n2 c2] w fun e w' => e = .returned (.bool true) ∧ Below w.heap.size w w' := by
  have HAw := Lib.hid (awake_any w hT)
  have HFx := Lib.hid (fun W (hb : Below w.heap.size w W) t ht => few_any a1 n1 c1 l t ht W (hr.below hb))
  have HFm := Lib.hid (fun W (hb : Below w.heap.size w W) t ht => few03_any a2 n2 c2 rs t ht W (hm.below hb) (fun x hx => (hmx x hx).2.2.2.1))
  have HNw := Lib.hid (fun W (hb : Below w.heap.size w W) ok hok => new_any me a1 n1 c1 l W (hr.below hb) (fun x hxl => (hx x hxl).2.1) hn64 ok hok)
  have HRi := Lib.hid (fun W (hb : Below w.heap.size w W) ok hok => right_any me a1 n1 c1 l ok hok W (hr.below hb))
  have HCo := Lib.hid (fun W (hb : Below w.heap.size w W) => rcomps_any me a1 n1 c1 l W (hr.below hb) hn64)
  have HMr := Lib.hid (fun W (hb : Below w.heap.size w W) => hm.below hb)
  have hcnt := Lib.hid (cnt_ok hx)
  have hmm := hm.le_max
  have hmr := hr.le_max
  have hml := Lib.hid hm.len
  have hmi := Lib.hid hm.inn
  have hmw := Lib.hid hm.row
  clear hx hmx hr hm
  cases hfx : fewX l with
  | false =>
    go_enter Tryd.func4, Tryd.ntmps4
    go_wp2_with fail
    (refine (HAw.out).mono ?_; rintro e wA ⟨rfl, hA⟩)
    go_wp2_with fail
    refine (HFx.out _ hA false hfx.symm).mono ?_
    rintro e w2 ⟨rfl, rfl⟩
    go_wp2
    go_ret
    exact ⟨rfl, hA⟩
  | true =>
  cases hfm : fewM rs with
  | false =>
    go_enter Tryd.func4, Tryd.ntmps4
    go_wp2_with fail
    (refine (HAw.out).mono ?_; rintro e wA ⟨rfl, hA⟩)
    go_wp2_with fail
    refine (HFx.out _ hA true hfx.symm).mono ?_
    rintro e w2 ⟨rfl, rfl⟩
    go_wp2_with fail
    refine (HFm.out _ hA false hfm.symm).mono ?_
    rintro e w3 ⟨rfl, hb3⟩
    go_wp2
    go_ret
    exact ⟨rfl, belS hA hb3⟩
  | true =>
  by_cases h40 : 40 < n2
  · have h40I : (40 : Int) < n2 := by omega
    go_enter Tryd.func4, Tryd.ntmps4
    go_wp2_with fail
    (refine (HAw.out).mono ?_; rintro e wA ⟨rfl, hA⟩)
    go_wp2_with fail
    refine (HFx.out _ hA true hfx.symm).mono ?_
    rintro e w2 ⟨rfl, rfl⟩
    go_wp2_with fail
    refine (HFm.out _ hA true hfm.symm).mono ?_
    rintro e w3 ⟨rfl, hb3⟩
    go_wp2
    go_ret
    exact ⟨rfl, belS hA hb3⟩
  have h40I : (n2 : Int) ≤ 40 := by omega
  have hn2 : n2 ≤ 1000000000 := by omega
  have hn72 : (0 + n2) * 72 ≤ 140737488355328 := by omega
  have hnmx : 0 + n2 ≤ maxLen := by unfold maxLen; omega
  obtain ⟨ok, hok⟩ := bool_of (okV (vX l) ∧ ∃ x ∈ vX l, x.who = me)
  have HR1 := Lib.hid (fun W hb => HRi.out W hb ok hok)
  have HN1 := Lib.hid (fun W hb => HNw.out W hb ok hok)
  clear HRi HNw h40
  cases ok with
  | false =>
    clear HN1 hok
    go_enter Tryd.func4, Tryd.ntmps4
    go_wp2_with fail
    (refine (HAw.out).mono ?_; rintro e wA ⟨rfl, hA⟩)
    go_wp2_with fail
    refine (HFx.out _ hA true hfx.symm).mono ?_
    rintro e w2 ⟨rfl, rfl⟩
    go_wp2_with fail
    refine (HFm.out _ hA true hfm.symm).mono ?_
    rintro e w3 ⟨rfl, hb3⟩
    go_wp2_with fail
    refine (HR1.out _ (belS hA hb3)).mono ?_
    rintro e w4 ⟨rfl, hb4⟩
    go_wp2
    go_ret
    exact ⟨rfl, belS (belS hA hb3) hb4⟩
  | true =>
  clear hok
  go_enter Tryd.func4, Tryd.ntmps4
  go_wp2_with fail
  (refine (HAw.out).mono ?_; rintro e wA ⟨rfl, hA⟩)
  go_wp2_with fail
  refine (HFx.out _ hA true hfx.symm).mono ?_
  rintro e w2 ⟨rfl, rfl⟩
  go_wp2_with fail
  refine (HFm.out _ hA true hfm.symm).mono ?_
  rintro e w3 ⟨rfl, hb3⟩
  have B3 := Lib.hid (belS hA hb3)
  clear hA hb3 hfx hfm HFx HFm HAw
  go_wp2_with fail
  refine (HR1.out _ B3.out).mono ?_
  rintro e w4 ⟨rfl, hb4⟩
  have B4 := Lib.hid (belS B3.out hb4)
  clear hb4 B3 HR1
  go_wp2_with fail
  refine (HN1.out _ B4.out).mono ?_
  rintro e w5 ⟨p, rfl, _, hpt, hb5⟩
  obtain ⟨b, l', rfl, hp, hpl⟩ := hpt (by trivial)
  have B5 := Lib.hid (belS B4.out hb5)
  clear hpt hb5 B4 HN1
  have hb6 := alloc_below w5 (.cells #[] 59)
  have ho := World.ownsRow_made (base := w5.heap.size) (e := 59) (size := 6) w5 #[] 0 (Nat.le_refl _) (Nat.zero_le _) rfl
  have hr2 := Rd.below hmw.out (belS B5.out hb6) (Nat.le_refl _)
  have h1 := mcC_one rs
  go_wp2_with (at_builtin; refine wpList_append_rd Tryd.msE rfl (.tmp 43) (.tmp 44) rfl ho rfl hr2 rfl h1 hnmx hn72 (by simp) ?_; intro v' w7 hown' hg'; rw [Nat.zero_add, List.nil_append] at hown'; obtain ⟨a', c', rfl, hr'⟩ := Rd.own hown')
  have hb7 := Lib.hid (hb6.grown hg' (by simp) (fun g hg => (ho.lt g hg).1))
  have B7 := Lib.hid (belS B5.out hb7.out)
  have hM7 := Lib.hid (show RdM w7 a' n2 c' rs from ⟨hr', fun x hx => (hmi.out x hx).below B7.out⟩)
  have hp7 := Lib.hid (hp.below hb7.out)
  have hcp := Lib.hid (show ∀ x ∈ vX l', ∀ y ∈ x.cnt, y < 4294967296 from by rw [hpl]; exact cnt_comp hcnt.out)
  have HK := Lib.hid (keep_any b l' a' n2 c' rs w7 hp7.out hM7.out hcp.out hn2)
  rw [hpl] at HK
  clear ho hr2 h1 hg' hown' hr' hb6 hp hpl hcp
  go_wp2_with fail
  refine HK.out.mono ?_
  rintro e w8 ⟨x1, m1, y1, rfl, hk1, hb8⟩
  have B8 := Lib.hid (belS B7.out hb8)
  have hM8 := Lib.hid (hM7.out.below hb8)
  replace hk1 := Lib.hid hk1
  clear hb8 HK
  go_wp2_with fail
  refine (HCo.out _ B8.out).mono ?_
  rintro e w9 ⟨x2, m2, y2, rfl, hk2, hb9⟩
  have B9 := Lib.hid (belS B8.out hb9)
  have hM9 := Lib.hid (hM8.out.below hb9)
  replace hk1 := Lib.hid (hk1.out.below hb9)
  have HKr := Lib.hid (rkeep_any x2 m2 y2 (compX me l) a2 n2 c2 rs w9 hk2 (HMr.out _ B9.out) hn2)
  rw [compX_v] at HKr
  clear hb9 hM8
  go_wp2_with fail
  refine HKr.out.mono ?_
  rintro e w10 ⟨x3, m3, y3, rfl, hk3, hb10⟩
  have B10 := Lib.hid (belS B9.out hb10)
  have hM10 := Lib.hid (hM9.out.below hb10)
  have HA1 := Lib.hid (all_any _ _ _ _ _ _ _ _ rfl w10 (hk1.out.below hb10) hk3)
  clear hb10 hM9 HKr hk1 hk3
  go_wp2_with fail
  refine HA1.out.mono ?_
  rintro e w11 ⟨rfl, hb11⟩
  have B11 := Lib.hid (belS B10.out hb11)
  have HA2 := Lib.hid (all_any _ _ _ _ _ _ _ _ rfl w11 (hM10.out.below hb11) (HMr.out _ B11.out))
  clear hb11 HA1
  go_wp2_with fail
  refine HA2.out.mono ?_
  rintro e w12 ⟨rfl, hb12⟩
  have B12 := Lib.hid (belS B11.out hb12)
  clear hb12 HA2
  go_wp2
  go_ret
  exact ⟨rfl, B12.out⟩
theorem keeps_claim (me : Int) (a1 : Option Addr) (n1 c1 : Nat) (a2 : Option Addr) (n2 c2 : Nat) (W : World) (hT : Tab W) (_ : (Lit.int .i64 me).wf = true) (r1 : ∃ l, RSl RExc 6 W a1 n1 c1 l ∧ n1 * 64 ≤ reachBytes) (r2 : ∃ l, RSl RMsg 6 W a2 n2 c2 l ∧ n2 * 72 ≤ reachBytes) :
    Calls Tryd.prog 4 #[.int .i64 me, .slice a1 n1 c1, .slice a2 n2 c2] W fun e w' => e = .returned (.bool true) ∧ Below W.heap.size W w' := by
  obtain ⟨l, h1, h2⟩ := r1
  obtain ⟨m, h3, _⟩ := r2
  obtain ⟨xs, hx, hxo⟩ := h1.excs
  obtain ⟨ms, hm, hmo⟩ := h3.msgs
  exact keeps_law me a1 n1 c1 xs a2 n2 c2 ms W hT hx hxo (by unfold reachBytes at h2; omega) hm hmo
end Go.Proofs.YtikhpafdnohhkaaDoor
