/- gather: ConfLess; the walk of GatherNeeds -/
import Derived.Test.YtlgabjffnjciaaaDoorGatQ
import Derived.Deep.Cut
import Derived.Deep.CutRange
namespace Go.Proofs.YtlgabjffnjciaaaDoor
set_option linter.unusedSimpArgs false
set_option linter.unusedVariables false
open Go.RowKit Go.Sort
theorem wpList_blk_load_g {P : Program} {w : World} {ops : Array Oper} {rest : List Oper} {o : Oper} {a : Act} {Q : Exit → Act → World → Prop} (hw : Region.wanted o (yielded ops a.tmps) = true) (ty : TypeId) (x : Operand) (ho : o.op = .load ty x)
    (b off : Nat) (hx : a.eval x = .pointer (some ⟨b, off, none⟩)) (cs : List Value) (d : TypeDesc) (hc : w.rangeAt b off cs)
    (hu : P.underlying ty = some d) (hd : d.isRow = true) (hi : (P.info? ty).map (·.size) = some cs.length)
    (h : wpList P ops Q rest (a.put o.dst (.agg cs.toArray)) w) : wpList P ops Q (o :: rest) a w :=
  wpList_step fun K hK => by
    rw [if_pos hw]
    exact wp_load_mid ty x ho b off hx cs d hc hu hd hi (hK _ _ h)
theorem range2 {W : World} {b t : Nat} {c0 c1 : Value} (h : BlkAt W b t #[c0, c1]) : W.rangeAt b 0 [c0, c1] := h.range (fun j v hj => by rw [Nat.zero_add]; simpa using hj)
set_option maxHeartbeats 1600000 in
theorem confLess_any (a b c d : Int) (t : Bool) (ht : t = kLt (a, b) (c, d)) (w : World) :
    Calls Tryd.prog 13 #[.agg #[.int .u64 a, .int .i64 b], .agg #[.int .u64 c, .int .i64 d]] w fun e w' => e = .returned (.bool t) ∧ Below w.heap.size w w' := by
  have ht2 := Lib.hid (show t = (decide (a < c) || (decide (a = c) && decide (b < d))) from ht)
  have hb := ((Below.refl w.heap.size w).alloc (Nat.le_refl _) (.cells #[.int .u64 a, .int .i64 b] 24)).alloc (by simp) (.cells #[.int .u64 c, .int .i64 d] 24)
  clear ht
  by_cases h1 : a < c
  · have hz := Lib.hid (show t = true from by rw [ht2.out]; simp [h1])
    clear ht2
    go_enter Tryd.func13, Tryd.ntmps13
    go_wp2
    go_ret
    exact ⟨by rw [hz.out]; rfl, hb⟩
  by_cases h2 : a = c
  · have e2 : (a == c) = true := by rw [beq_iff_eq]; exact h2
    by_cases h3 : b < d
    · have hz := Lib.hid (show t = true from by rw [ht2.out]; simp [h2, h3])
      replace h2 := Lib.hid h2
      clear ht2
      go_enter Tryd.func13, Tryd.ntmps13
      go_wp2
      go_ret
      exact ⟨by rw [hz.out]; rfl, hb⟩
    · have hz := Lib.hid (show t = false from by rw [ht2.out]; simp [h1, h3])
      replace h2 := Lib.hid h2
      clear ht2
      go_enter Tryd.func13, Tryd.ntmps13
      go_wp2
      go_ret
      exact ⟨by rw [hz.out]; rfl, hb⟩
  · have e2 : (a == c) = false := by rw [beq_eq_false_iff_ne]; exact h2
    have hz := Lib.hid (show t = false from by rw [ht2.out]; simp [h1, h2])
    replace h2 := Lib.hid h2
    clear ht2
    go_enter Tryd.func13, Tryd.ntmps13
    go_wp2
    go_ret
    exact ⟨by rw [hz.out]; rfl, hb⟩
set_option maxHeartbeats 6400000 in
set_option maxRecDepth 100000 in
theorem needs_law (members reach strange : Nat) (hm : members < 18446744073709551616) (hr : reach < 18446744073709551616) (hs : strange < 18446744073709551616) (me ep rp p ce cr : Int) (w : World) (hT : Tab w) :
    Calls Tryd.prog 3 #[.int .u64 members, .int .u64 reach, .int .u64 strange, .int .i64 me, .agg #[.int .u64 ep, .int .i64 rp], .int .i64 p, .agg #[.int .u64 ce, .int .i64 cr]] w fun e w' => e = .returned (.bool true) ∧ Below w.heap.size w w' := by
  have hmm := @run_makeMap Tryd.prog
  have hA : BlkAt ((w.alloc (.cells #[.int .u64 ep, .int .i64 rp] 24)).alloc (.cells #[.int .u64 ce, .int .i64 cr] 24)) w.heap.size 24 #[.int .u64 ep, .int .i64 rp] := BlkAt.alloc (BlkAt.new w _ _) _
  have hB : BlkAt ((w.alloc (.cells #[.int .u64 ep, .int .i64 rp] 24)).alloc (.cells #[.int .u64 ce, .int .i64 cr] 24)) (w.heap.size + 1) 24 #[.int .u64 ce, .int .i64 cr] := by simpa using BlkAt.new (w.alloc (.cells #[.int .u64 ep, .int .i64 rp] 24)) 24 #[.int .u64 ce, .int .i64 cr]
  have hb1 : Below w.heap.size w ((w.alloc (.cells #[.int .u64 ep, .int .i64 rp] 24)).alloc (.cells #[.int .u64 ce, .int .i64 cr] 24)) := ((Below.refl _ _).alloc (Nat.le_refl _) _).alloc (by simp) _
  have hi := Tryd.confI
  obtain ⟨tr, htr⟩ : ∃ tr, tr = decide (reach ≠ members) := ⟨_, rfl⟩
  obtain ⟨kl, hkl⟩ : ∃ kl, kl = kLt (ep, rp) (ce, cr) := ⟨_, rfl⟩
  obtain ⟨hh, hhh⟩ : ∃ hh, hh = hasB members p := ⟨_, rfl⟩
  obtain ⟨nd, hnd⟩ : ∃ nd, nd = needsB members reach strange me := ⟨_, rfl⟩
  obtain ⟨wt, hwt⟩ : ∃ wt, wt = (tr || hh && kl) := ⟨_, rfl⟩
  have hwf := Lib.hid (show wt = failsV members ep rp reach [(p, ce, cr)] from by
    have hk : decide (0 < keyC ce cr ep rp) = kl := by
      have := keyC_pos (ce, cr) (ep, rp)
      rw [← hkl] at this
      simp only at this
      cases kl with
      | true => exact decide_eq_true (this.2 rfl)
      | false => exact decide_eq_false (fun h => by have := this.1 h; cases this)
    unfold failsV
    rw [List.any_cons, List.any_nil, failB]
    simp only
    rw [hk, ← hhh, ← htr, hwt]
    cases tr <;> cases hh <;> cases kl <;> rfl)
  have e1 : ((reach : Int) != (members : Int)) = tr := by
    rw [htr]
    by_cases hq : reach = members
    · rw [decide_eq_false (fun h => h hq), bne_eq_false_iff_eq]; omega
    · rw [decide_eq_true hq, bne_iff_ne]; omega
  have e2 : (reach != members) = tr := by
    rw [htr]
    by_cases hq : reach = members
    · rw [decide_eq_false (fun h => h hq), bne_eq_false_iff_eq]; omega
    · rw [decide_eq_true hq, bne_iff_ne]; omega
  replace htr := Lib.hid htr
  replace hkl := Lib.hid hkl
  replace hhh := Lib.hid hhh
  replace hnd := Lib.hid hnd
  replace hwt := Lib.hid hwt
  go_enter Tryd.func3, Tryd.ntmps3
  go_upto_region 1 with (first
    | (refine wpList_blk_box rfl (.tmp 4) rfl rfl w.heap.size rfl ?_)
    | (refine wpList_blk_box rfl (.tmp 6) rfl rfl (w.heap.size + 1) (by simp) ?_; generalize (World.alloc (World.alloc w _) _) = w1 at *))
  have HA := Lib.hid (fun W (hb : Below w1.heap.size w1 W) => hA.below hb hA.lt)
  have HB := Lib.hid (fun W (hb : Below w1.heap.size w1 W) => hB.below hb hB.lt)
  have HTb := Lib.hid (fun W (hb : Below w1.heap.size w1 W) => hT.below (belS hb1 hb) hT.1)
  replace hb1 := Lib.hid hb1
  have C0 := Below.refl w1.heap.size w1
  clear hA hB hT
  go_wp2_with fail
  refine (awake_any w1 (HTb.out _ C0)).mono ?_
  rintro e w2 ⟨rfl, C1⟩
  clear C0
  have hA2 := HA.out _ C1
  go_wp2_with (first | (refine wpList_blk_load rfl (.tmp 11) rfl Tryd.underlying24 rfl rfl hA2 (hi _ _) ?_))
  refine (needs_any ep rp members reach strange me nd hnd.out hm hr hs w2 (HTb.out _ C1)).mono ?_
  rintro e w3 ⟨rfl, hb⟩
  have C2 := belS C1 hb
  clear hb C1 hA2
  go_wp2_with fail
  refine (rneeds_any members reach strange me nd hnd.out hm hr hs w3).mono ?_
  rintro e w4 ⟨rfl, rfl⟩
  have hA3 := HA.out _ C2
  have hneq : (nd != nd) = false := by cases nd <;> rfl
  go_wp2_with (first | (refine wpList_blk_load rfl (.tmp 11) rfl Tryd.underlying24 rfl rfl hA3 (hi _ _) ?_))
  refine (g_new ep rp members hm w3).mono ?_
  rintro e w5 ⟨b, mb, rfl, hG5, _, _, hb⟩
  have C3 := belS C2 hb
  clear hb C2 hA3
  have hA5 := range2 (HA.out _ C3)
  have hB5 := range2 (HB.out _ C3)
  replace hG5 := Lib.hid hG5
  go_upto_region 6 with (fail)
  go_cut [16] from 34 to 46 (fun t wx => t = .bool wt ∧ Below w5.heap.size w5 wx)
  case first => as_aux_lemma =>
    cases tr with
    | true =>
      have hz := Lib.hid (show wt = true from hwt.out)
      clear hwt hwf htr
      go_wp2_with fail
      go_meet
      exact ⟨by rw [hz.out], Below.refl _ _⟩
    | false =>
      cases hh with
      | false =>
        have hz := Lib.hid (show wt = false from hwt.out)
        clear hwt hwf htr
        go_wp2_with fail
        refine (has_any members p hm w5).mono ?_
        rintro e w6 ⟨rfl, rfl⟩
        rw [← hhh.out]
        go_wp2_with fail
        go_meet
        exact ⟨by rw [hz.out], Below.refl _ _⟩
      | true =>
        have hz := Lib.hid (show wt = kl from hwt.out)
        clear hwt hwf htr
        go_wp2_with fail
        refine (has_any members p hm w5).mono ?_
        rintro e w6 ⟨rfl, rfl⟩
        rw [← hhh.out]
        go_wp2_with (first
          | (refine wpList_blk_load_g (by first | rfl | simp [Region.wanted, go_sem]) _ (.tmp 11) rfl w.heap.size 0 rfl [.int .u64 ep, .int .i64 rp] _ hA5 Tryd.underlying24 rfl (hi _ _) ?_)
          | (refine wpList_blk_load_g (by first | rfl | simp [Region.wanted, go_sem]) _ (.tmp 13) rfl (w.heap.size + 1) 0 rfl [.int .u64 ce, .int .i64 cr] _ hB5 Tryd.underlying24 rfl (hi _ _) ?_))
        refine (confLess_any ep rp ce cr kl hkl.out w5).mono ?_
        rintro e w6 ⟨rfl, hb6⟩
        go_wp2_with fail
        go_meet
        exact ⟨by rw [hz.out], hb6⟩
  case rest => as_aux_lemma =>
    obtain ⟨rfl, hb6⟩ := hcut
    obtain ⟨w6, rfl⟩ : ∃ z, z = wc := ⟨_, rfl⟩
    have C4 := belS C3 hb6
    have hG6 := Lib.hid (hG5.out.below hb6)
    have hM0 := MapAt.new w6
    have hB7 := range2 (HB.out _ (belS C4 (alloc_below w6 (.map #[] 0))))
    clear hA5 hB5 hb6 C3 hG5 hwt htr hkl hhh hnd hneq e1 e2
    go_wp2_with (first
      | (refine wpList_blk_load_g (by first | rfl | simp [Region.wanted, go_sem]) _ (.tmp 13) rfl (w.heap.size + 1) 0 rfl [.int .u64 ce, .int .i64 cr] _ hB7 Tryd.underlying24 rfl (hi _ _) ?_)
      | (refine wpList_map_update_g (by first | rfl | simp [Region.wanted, go_sem]) (.tmp 49) (.tmp 50) (.tmp 51) (.inr rfl) Tryd.underlying34 Tryd.underlying3 hM0 rfl rfl rfl rfl ?_; intro w7 hM7 hK7 hs7))
    have hb7 := alloc_store hK7
    have hm7 : MapAt w7 w6.heap.size (cfM [(p, ce, cr)]) := hM7
    have C5 := belS C4 hb7
    have hG7 := Lib.hid (hG6.out.below hb7)
    clear hM0 hM7 hK7 hs7 hb7 hG6 C4 hB7
    refine (g_fails w6.heap.size reach [(p, ce, cr)] wt hwf.out hG7.out hm7).mono ?_
    rintro e w8 ⟨rfl, hb8⟩
    have C6 := belS C5 hb8
    have hG8 := Lib.hid (hG7.out.below hb8)
    clear hm7 hb8 hG7 C5 hwf
    have heq : (wt == wt) = true := by cases wt <;> rfl
    go_wp2_with fail
    refine (g_failsn members false (by simp) hG8.out).mono ?_
    rintro e w9 ⟨rfl, hb9⟩
    go_wp2
    go_ret
    exact ⟨rfl, belS hb1.out (belS C6 hb9)⟩
theorem needs_claim (members reach strange me : Int) (ep rp p ce cr : Int) (W : World) (hT : Tab W) (h1 : (Lit.int .u64 members).wf = true) (h2 : (Lit.int .u64 reach).wf = true) (h3 : (Lit.int .u64 strange).wf = true) (_ : (Lit.int .i64 me).wf = true) (_ : (Lit.int .u64 ep).wf = true) (_ : (Lit.int .i64 rp).wf = true) (_ : (Lit.int .i64 p).wf = true) (_ : (Lit.int .u64 ce).wf = true) (_ : (Lit.int .i64 cr).wf = true) :
    Calls Tryd.prog 3 #[.int .u64 members, .int .u64 reach, .int .u64 strange, .int .i64 me, .agg #[.int .u64 ep, .int .i64 rp], .int .i64 p, .agg #[.int .u64 ce, .int .i64 cr]] W fun e w' => e = .returned (.bool true) ∧ Below W.heap.size W w' := by
  obtain ⟨g0, g1⟩ := wf_u64_bounds h1
  obtain ⟨k0, k1⟩ := wf_u64_bounds h2
  obtain ⟨j0, j1⟩ := wf_u64_bounds h3
  obtain ⟨m, rfl⟩ : ∃ k : Nat, members = k := ⟨members.toNat, by omega⟩
  obtain ⟨r, rfl⟩ : ∃ k : Nat, reach = k := ⟨reach.toNat, by omega⟩
  obtain ⟨s, rfl⟩ : ∃ k : Nat, strange = k := ⟨strange.toNat, by omega⟩
  exact needs_law m r s (by omega) (by omega) (by omega) me ep rp p ce cr W hT
end Go.Proofs.YtlgabjffnjciaaaDoor
