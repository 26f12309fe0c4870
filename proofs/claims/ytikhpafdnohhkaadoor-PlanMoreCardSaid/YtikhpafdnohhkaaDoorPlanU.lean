/- plan: the walk of PlanMore (written by tools/gen_pu.py) -/
import Derived.Test.YtikhpafdnohhkaaDoorPlanS
import Derived.Test.YtikhpafdnohhkaaDoorPlanT
import Derived.Deep.CutRange
namespace Go.Proofs.YtikhpafdnohhkaaDoor
set_option linter.unusedSimpArgs false
set_option linter.unusedVariables false
open Go.RowKit
theorem step_append_gen {P : Program} {w : World} {ops : Array Oper} {o : Oper} {a : Act} {K : Act → World → Prop} {Q : Exit → Act → World → Prop} {E' : Prop} {t e : TypeId} {z : Value} {size bytes : Nat} (E : Elt P t e z size bytes) (hgd : o.guard = none) (s x : Operand)
    (ho : o.op = .call { callee := .builtin .append, args := #[s, x], argTypes := #[t, t] })
    {base : Nat} {v : Value} {n : Nat} {xs : List Value} (hs : a.eval s = v) (hown : w.ownsRow base e size v n xs)
    {xa : Option Addr} {m c : Nat} {news : List Value} (hx : a.eval x = .slice xa m c) (hr : Rd w size xa m c news) (h1 : ∀ u ∈ news, u.oneCell' = true)
    (h63 : n + m ≤ maxLen) (hbytes : (n + m) * bytes ≤ 140737488355328) (hbase : base ≤ w.heap.size)
    (h : ∀ v' w', w'.ownsRow base e size v' (n + m) (xs ++ news) → w.grownBy w' v.ownBlock → K (a.put o.dst v') w') : if Region.wanted o (yielded ops a.tmps) = true then Oper.wp P o a w K Q else E' := by
  obtain ⟨i, hi, hz0, hz1, hz2⟩ := info_parts E.info
  rw [if_pos (by simp [Region.wanted, hgd])]
  cases xa with
  | some ad =>
    refine wp_append_own w s x t ho base e i z size bytes E.ty hi hz0 hz1 hz2 E.cells E.pos v n xs hs hown ad m c news hx hr.length_eq ?_ h1 h63 hbytes hbase (fun v' w' h2 h3 _ => h v' w' h2 h3)
    intro j u hu
    rcases hr with ⟨⟨hl, _, _, _⟩, rfl | ⟨b, off, he, _, hc⟩⟩
    · have : news = [] := List.eq_nil_of_length_eq_zero (by simpa using hl)
      subst this; simp at hu
    · injection he with he
      subst he
      rw [add_zero_off]; exact hc j u hu
  | none =>
    obtain ⟨⟨hl, _, _, hnil⟩, _⟩ := hr
    obtain ⟨rfl, rfl⟩ := hnil rfl
    have hn : news = [] := List.eq_nil_of_length_eq_zero (by simpa using hl)
    subst hn
    have hrun := run_append_owned_none (P := P) w base t o.type e i size E.ty hi v n xs hown
    unfold Oper.wp
    simp [execOp, ho, resolve, invoke, builtin, hs, hx, hrun, Result.andThen]
    exact h v w (by simpa using hown) ⟨rfl, rfl, rfl, Nat.le_refl _, fun _ _ _ => rfl⟩
theorem Rd.grown {w w' : World} {sz b off n c : Nat} {xs : List Value} {row : Option Nat} (h : Rd w sz (some ⟨b, off, none⟩) n c xs) (hg : w.grownBy w' row) (hne : row ≠ some b) : Rd w' sz (some ⟨b, off, none⟩) n c xs := by
  refine ⟨h.1, ?_⟩
  rcases h.2 with hn | ⟨g, o, e, hlt, hc⟩
  · exact .inl hn
  · injection e with e; injection e with e1 e2
    subst e1 e2
    exact .inr ⟨b, off, rfl, Nat.lt_of_lt_of_le hlt hg.size, fun j u hu => by rw [World.cell?_of_block (w := w) (hg.block b hlt (fun e => hne e.symm))]; exact hc j u hu⟩
set_option maxHeartbeats 12800000 in
set_option maxRecDepth 100000 in
theorem more_law (me : Int) (a1 : Option Addr) (n1 c1 : Nat) (l : List Xc) (x : Xc) (w : World) (hT : Tab w)
    (hr : RdX w a1 n1 c1 l) (hx : ∀ x ∈ l, ExOk w x) (hn64 : n1 * 64 ≤ 140737488355328) (hxo : ExOk w x) :
    Calls Tryd.prog 8 #[.int .i64 me, .slice a1 n1 c1, .agg (xcA x)] w fun e w' => e = .returned (.bool true) ∧ Below w.heap.size w w' := by
  have hX := BlkAt.new w 64 (xcA x)
  have hb1 := alloc_below w (.cells (xcA x) 64)
  obtain ⟨w1, hw1⟩ : ∃ w1, w1 = w.alloc (.cells (xcA x) 64) := ⟨_, rfl⟩
  rw [← hw1] at hX hb1
  have HAw := Lib.hid (awake_any w1 (hT.below hb1 hT.1))
  have HFx := Lib.hid (fun W (hb : Below w.heap.size w W) t ht => few_any a1 n1 c1 l t ht W (hr.below hb))
  have HNw := Lib.hid (fun W (hb : Below w.heap.size w W) ok hok => new_any me a1 n1 c1 l W (hr.below hb) (fun x hxl => (hx x hxl).2.1) hn64 ok hok)
  have hmr := hr.le_max
  have hxn := hxo.1.le_max
  have HXW := Lib.hid (fun W (hb : Below w1.heap.size w1 W) => hX.below hb hX.lt)
  cases hfx : fewX l with
  | false =>
    go_enter Tryd.func8, Tryd.ntmps8
    go_wp2_with (first | (refine wpList_blk_box rfl (.tmp 2) rfl rfl w.heap.size rfl ?_; rw [← hw1]; clear hw1))
    (refine (HAw.out).mono ?_; rintro e wA ⟨rfl, hA⟩)
    have hA2 := belS hb1 hA
    go_wp2_with fail
    refine (HFx.out _ hA2 false hfx.symm).mono ?_
    rintro e w2 ⟨rfl, rfl⟩
    go_wp2
    go_ret
    exact ⟨rfl, hA2⟩
  | true =>
  have hl80 := Lib.hid (few_len hfx)
  have hn80 : n1 ≤ 80 := by rw [← hr.len]; exact hl80.out
  by_cases h1k : 1000 < x.pn
  · have h1I : (1000 : Int) < x.pn := by omega
    go_enter Tryd.func8, Tryd.ntmps8
    go_wp2_with (first | (refine wpList_blk_box rfl (.tmp 2) rfl rfl w.heap.size rfl ?_; rw [← hw1]; clear hw1))
    (refine (HAw.out).mono ?_; rintro e wA ⟨rfl, hA⟩)
    have hA2 := belS hb1 hA
    obtain ⟨x0, x1, x2, x3, x4, x5⟩ := blk6 (HXW.out _ hA)
    go_wp2_with fail
    refine (HFx.out _ hA2 true hfx.symm).mono ?_
    rintro e w2 ⟨rfl, rfl⟩
    go_wp2
    go_ret
    exact ⟨rfl, hA2⟩
  have h1I : (x.pn : Int) ≤ 1000 := by omega
  obtain ⟨ok1, hok1⟩ := bool_of (okV (vX l) ∧ ∃ x ∈ vX l, x.who = me)
  obtain ⟨ok2, hok2⟩ := bool_of (okV (vX (l ++ [x])) ∧ ∃ y ∈ vX (l ++ [x]), y.who = me)
  have HN1 := Lib.hid (fun W hb => HNw.out W hb ok1 hok1)
  have HN2' := Lib.hid (fun W (hb : Below w.heap.size w W) a n c (hrw : Rd W 6 a n c ((l ++ [x]).flatMap xcC)) (hn : n * 64 ≤ 140737488355328) => new_any me a n c (l ++ [x]) W ⟨hrw, fun y hy => by
    rcases List.mem_append.1 hy with hy | hy
    · exact (hx y hy).1.below hb
    · obtain rfl := List.mem_singleton.1 hy; exact hxo.1.below hb⟩ (fun y hy => by
    rcases List.mem_append.1 hy with hy | hy
    · exact (hx y hy).2.1
    · obtain rfl := List.mem_singleton.1 hy; exact hxo.2.1) hn ok2 hok2)
  replace hok1 := Lib.hid hok1
  replace hok2 := Lib.hid hok2
  have hcnt := Lib.hid (cnt_ok hx)
  have HRow := Lib.hid (fun W (hb : Below w.heap.size w W) => (hr.below hb).row)
  clear HNw h1k
  go_enter Tryd.func8, Tryd.ntmps8
  go_wp2_with (first | (refine wpList_blk_box rfl (.tmp 2) rfl rfl w.heap.size rfl ?_; rw [← hw1]; clear hw1))
  (refine (HAw.out).mono ?_; rintro e wA ⟨rfl, hA⟩)
  replace hA := Lib.hid hA
  obtain ⟨x0, x1, x2, x3, x4, x5⟩ := blk6 (HXW.out _ hA.out)
  have hA2 := Lib.hid (belS hb1 hA.out)
  go_wp2_with fail
  refine (HFx.out _ hA2.out true hfx.symm).mono ?_
  rintro e w2 ⟨rfl, rfl⟩
  clear HFx HAw hfx
  go_wp2_with fail
  refine (HN1.out _ hA2.out).mono ?_
  rintro e w4 ⟨p1, rfl, hp1f, hp1t, hb4⟩
  have hB4 := Lib.hid (belS hA.out hb4)
  have hB4w := Lib.hid (belS hb1 hB4.out)
  clear HN1 hA hA2 hb4 x0 x1 x2 x3 x4 x5
  have HN2 := Lib.hid (fun W (hb : Below w4.drew.heap.size w4.drew W) a n c hrw hn => HN2'.out W (belS hB4w.out.drew hb) a n c hrw hn)
  have HRL := Lib.hid (fun W (hb : Below w4.drew.heap.size w4.drew W) => HRow.out W (belS hB4w.out.drew hb))
  have HSx := Lib.hid (fun W (hb : Below w4.heap.size w4 W) => show W.rangeAt w.heap.size 0 (xcC x) from (HXW.out W (belS hB4.out hb)).range (fun j v hj => by rw [Nat.zero_add]; simpa [xcA, xcC] using hj))
  have HXI := Tryd.exI x
  have hLX : Hid (l.flatMap xcC ++ xcC x = (l ++ [x]).flatMap xcC) := Lib.hid (by simp [List.flatMap_append])
  clear HN2' HRow
  go_upto_region 6 with (fail)
  go_cut [9, 10] from 31 to 40 (fun p k wx => ∃ q, p = .pointer q ∧ k = .bool ok2 ∧ (ok2 = false → q = none) ∧ (ok2 = true → ∃ b2 l2, q = some ⟨b2, 0, none⟩ ∧ PlAt wx b2 l2 ∧ vX l2 = compV me (vX (l ++ [x]))) ∧ Below w4.heap.size w4 wx)
  case first => as_aux_lemma =>
    have HS := Lib.hid (fun W (hb : Below w4.drew.heap.size w4.drew W) => HSx.out W (belS (Below.refl _ _).drew hb))
    have hb0 := Lib.hid (Below.refl w4.drew.heap.size w4.drew)
    refine wp_region_held_drew (S := fun W => W.rangeAt w.heap.size 0 (xcC x)) (by kernel_rfl) (HS.out _ hb0.out) ?_
    intro hHeld
    have HD0 := Lib.hid (show Below w4.heap.size w4 w4.drew from (Below.refl _ _).drew)
    generalize w4.drew = W0 at *
    (refine wpAnyH_take (i := 0) (v := ?_) rfl (by kernel_rfl) (by kernel_rfl) (by kernel_rfl) (fun _ _ _ h => h) (Or.inl ⟨by rfl, ?_⟩) (by assumption) ?_; rotate_left; (focus (intro w hSw; clear hSw; go_simp; (try with_reducible rfl))); (try simp only [Act.put, List.getElem_toArray, List.getElem_cons_zero, List.getElem_cons_succ, List.setIfInBounds_toArray, List.set_cons_zero, List.set_cons_succ]))
    (refine wpAnyH_take (i := 2) (v := ?_) rfl (by kernel_rfl) (by kernel_rfl) (by kernel_rfl) (fun _ _ _ h => h) (Or.inl ⟨by rfl, ?_⟩) (by assumption) ?_; rotate_left; (focus (intro w hSw; clear hSw; go_simp; (try with_reducible rfl))); (try simp only [Act.put, List.getElem_toArray, List.getElem_cons_zero, List.getElem_cons_succ, List.setIfInBounds_toArray, List.set_cons_zero, List.set_cons_succ]))
    refine wpAnyH_take (i := 4) (v := .agg (xcA x)) rfl (by kernel_rfl) (by kernel_rfl) (by kernel_rfl) (fun _ _ _ h => h) ?_ (by assumption) ?_
    · exact yieldsIf_load_mid (by rfl) 64 (.tmp 5) rfl w.heap.size 0 rfl (xcC x) _ (fun W hW => hW) Tryd.underlying64 rfl HXI
    (try simp only [Act.put, List.getElem_toArray, List.getElem_cons_zero, List.getElem_cons_succ, List.setIfInBounds_toArray, List.set_cons_zero, List.set_cons_succ])
    refine wpAnyH_ready (rs := [1, 5]) (by kernel_rfl) (by simp) ?_
    refine AllReadyH.cons rfl (fun K hK => ?_) (AllReadyH.cons rfl (fun K hK => ?_) AllReadyH.nil)
    · go_simp
      have oE1 := World.ownsRow_made (base := W0.heap.size) (e := 64) (size := 6) W0 #[] 0 hb0.out.size (Nat.zero_le _) rfl
      have b1 := Lib.hid (belS hb0.out (alloc_below W0 (.cells #[] 64)))
      have hle1 : W0.heap.size < (W0.alloc (.cells #[] 64)).heap.size := by simp
      generalize (W0.alloc (.cells #[] 64)) = V1 at *
      refine hK.out _ _ (HS.out _ b1.out) (fun hH1 => ?_)
      clear hK K hHeld
      refine wpAnyH_ready (rs := [3, 5]) (by kernel_rfl) (by simp) ?_
      refine AllReadyH.cons rfl (fun K hK => ?_) (AllReadyH.cons rfl (fun K hK => ?_) AllReadyH.nil)
      · refine step_append_gen (base := W0.heap.size) (v := .slice (some ⟨W0.heap.size, 0, none⟩) 0 0) (n := 0) (xs := []) Tryd.exE rfl (.tmp 32) (.tmp 33) rfl (by rfl) oE1 (by rfl) (HRL.out _ b1.out) (xcC_one l) (by unfold maxLen; omega) (by omega) b1.out.size ?_
        intro vA2 V2 oA2 gA2
        rw [Nat.zero_add, List.nil_append] at oA2
        have b2 := Lib.hid (belG b1.out gA2 b1.out.size (fun g hg => (oE1.lt g hg).1))
        obtain ⟨aA2, cA2, rfl, _⟩ := Rd.own oA2
        (try simp only [Act.put, List.getElem_toArray, List.getElem_cons_zero, List.getElem_cons_succ, List.setIfInBounds_toArray, List.set_cons_zero, List.set_cons_succ])
        refine hK.out _ _ (HS.out _ b2.out) (fun hH2 => ?_)
        clear hK K hH1
        (refine wpAnyH_ready (rs := [5]) (by kernel_rfl) (by simp) ?_; refine AllReadyH.cons rfl (fun K hK => ?_) AllReadyH.nil)
        refine step_buildSlice1 (cs := xcA x) (some 36) rfl rfl 22 64 (.tmp 35) rfl Tryd.exE (by decide) (by rfl) rfl ?_
        (try simp only [Act.put, List.getElem_toArray, List.getElem_cons_zero, List.getElem_cons_succ, List.setIfInBounds_toArray, List.set_cons_zero, List.set_cons_succ])
        have li3 : Rd (V2.alloc (.cells (xcA x) 64)) 6 (some ⟨V2.heap.size, 0, none⟩) 1 1 (xcC x) := Rd.blk1 (w := V2) (e := 64) (cs := xcC x) rfl rfl
        have b3 := Lib.hid (belS b2.out (alloc_below V2 (.cells (xcA x) 64)))
        have hle3 : V2.heap.size < (V2.alloc (.cells (xcA x) 64)).heap.size := by simp
        have ow3 := own_belowB oA2 (alloc_below V2 (.cells (xcA x) 64))
        generalize (V2.alloc (.cells (xcA x) 64)) = V3 at *
        refine hK.out _ _ (HS.out _ b3.out) (fun hH3 => ?_)
        clear hK K hH2
        (refine wpAnyH_ready (rs := [6]) (by kernel_rfl) (by simp) ?_; refine AllReadyH.cons rfl (fun K hK => ?_) AllReadyH.nil)
        refine step_append_gen (base := W0.heap.size) (v := .slice aA2 n1 cA2) (n := n1) (xs := l.flatMap xcC) Tryd.exE rfl (.tmp 34) (.tmp 36) rfl (by rfl) ow3 (by rfl) li3 (fun u hu => xcC_one [x] u (by simpa using hu)) (by unfold maxLen; omega) (by omega) b3.out.size ?_
        intro vC V4 oC gC
        have b4 := Lib.hid (belG b3.out gC b3.out.size (fun g hg => (ow3.lt g hg).1))
        obtain ⟨aC, cC, rfl, rC⟩ := Rd.own oC
        (try simp only [Act.put, List.getElem_toArray, List.getElem_cons_zero, List.getElem_cons_succ, List.setIfInBounds_toArray, List.set_cons_zero, List.set_cons_succ])
        refine hK.out _ _ (HS.out _ b4.out) (fun hH4 => ?_)
        clear hK K hH3
        (refine wpAnyH_ready (rs := [7]) (by kernel_rfl) (by simp) ?_; refine AllReadyH.cons rfl (fun K hK => ?_) AllReadyH.nil)
        go_simp
        refine (HN2.out V4 b4.out aC (n1 + 1) cC (by rw [← hLX.out]; exact rC) (by omega)).mono ?_
        rintro e wn ⟨p2, rfl, hp2f, hp2t, hbn⟩
        have bN := Lib.hid (belS b4.out hbn)
        refine hK.out _ _ (HS.out _ bN.out) (fun hHn => ?_)
        clear hK K hH4 hbn
        (refine wpAnyH_take (i := 8) (v := ?_) rfl (by kernel_rfl) (by kernel_rfl) (by kernel_rfl) (fun _ _ _ h => h) (Or.inl ⟨by rfl, ?_⟩) (by assumption) ?_; rotate_left; (focus (intro w hSw; clear hSw; go_simp; (try with_reducible rfl))); (try simp only [Act.put, List.getElem_toArray, List.getElem_cons_zero, List.getElem_cons_succ, List.setIfInBounds_toArray, List.set_cons_zero, List.set_cons_succ]))
        (refine wpAnyH_take (i := 9) (v := ?_) rfl (by kernel_rfl) (by kernel_rfl) (by kernel_rfl) (fun _ _ _ h => h) (Or.inl ⟨by rfl, ?_⟩) (by assumption) ?_; rotate_left; (focus (intro w hSw; clear hSw; go_simp; (try with_reducible rfl))); (try simp only [Act.put, List.getElem_toArray, List.getElem_cons_zero, List.getElem_cons_succ, List.setIfInBounds_toArray, List.set_cons_zero, List.set_cons_succ]))
        (refine wpAnyH_take (i := 10) (v := ?_) rfl (by kernel_rfl) (by kernel_rfl) (by kernel_rfl) (fun _ _ _ h => h) (Or.inl ⟨by rfl, ?_⟩) (by assumption) ?_; rotate_left; (focus (intro w hSw; clear hSw; go_simp; (try with_reducible rfl))); (try simp only [Act.put, List.getElem_toArray, List.getElem_cons_zero, List.getElem_cons_succ, List.setIfInBounds_toArray, List.set_cons_zero, List.set_cons_succ]))
        (refine wpAnyH_take (i := 11) (v := ?_) rfl (by kernel_rfl) (by kernel_rfl) (by kernel_rfl) (fun _ _ _ h => h) (Or.inl ⟨by rfl, ?_⟩) (by assumption) ?_; rotate_left; (focus (intro w hSw; clear hSw; go_simp; (try with_reducible rfl))); (try simp only [Act.put, List.getElem_toArray, List.getElem_cons_zero, List.getElem_cons_succ, List.setIfInBounds_toArray, List.set_cons_zero, List.set_cons_succ]))
        (refine wpAnyH_take (i := 12) (v := ?_) rfl (by kernel_rfl) (by kernel_rfl) (by kernel_rfl) (fun _ _ _ h => h) (Or.inl ⟨by rfl, ?_⟩) (by assumption) ?_; rotate_left; (focus (intro w hSw; clear hSw; go_simp; (try with_reducible rfl))); (try simp only [Act.put, List.getElem_toArray, List.getElem_cons_zero, List.getElem_cons_succ, List.setIfInBounds_toArray, List.set_cons_zero, List.set_cons_succ]))
        refine wpAnyH_done (by kernel_rfl) ?_ _
        go_wp2_with fail; go_meet; exact ⟨p2, rfl, rfl, hp2f, hp2t, belS HD0.out bN.out⟩
      · refine step_buildSlice1 (cs := xcA x) (some 36) rfl rfl 22 64 (.tmp 35) rfl Tryd.exE (by decide) (by rfl) rfl ?_
        (try simp only [Act.put, List.getElem_toArray, List.getElem_cons_zero, List.getElem_cons_succ, List.setIfInBounds_toArray, List.set_cons_zero, List.set_cons_succ])
        have li5 : Rd (V1.alloc (.cells (xcA x) 64)) 6 (some ⟨V1.heap.size, 0, none⟩) 1 1 (xcC x) := Rd.blk1 (w := V1) (e := 64) (cs := xcC x) rfl rfl
        have b5 := Lib.hid (belS b1.out (alloc_below V1 (.cells (xcA x) 64)))
        have hle5 : V1.heap.size < (V1.alloc (.cells (xcA x) 64)).heap.size := by simp
        have ow5 := own_belowB oE1 (alloc_below V1 (.cells (xcA x) 64))
        generalize (V1.alloc (.cells (xcA x) 64)) = V5 at *
        refine hK.out _ _ (HS.out _ b5.out) (fun hH5 => ?_)
        clear hK K hH1
        (refine wpAnyH_ready (rs := [3]) (by kernel_rfl) (by simp) ?_; refine AllReadyH.cons rfl (fun K hK => ?_) AllReadyH.nil)
        refine step_append_gen (base := W0.heap.size) (v := .slice (some ⟨W0.heap.size, 0, none⟩) 0 0) (n := 0) (xs := []) Tryd.exE rfl (.tmp 32) (.tmp 33) rfl (by rfl) ow5 (by rfl) (HRL.out _ b5.out) (xcC_one l) (by unfold maxLen; omega) (by omega) b5.out.size ?_
        intro vA6 V6 oA6 gA6
        rw [Nat.zero_add, List.nil_append] at oA6
        have b6 := Lib.hid (belG b5.out gA6 b5.out.size (fun g hg => (ow5.lt g hg).1))
        have li6 := Rd.grown li5 gA6 (fun e => by have e2 : some W0.heap.size = some V1.heap.size := e; injection e2 with e2; omega)
        obtain ⟨aA6, cA6, rfl, _⟩ := Rd.own oA6
        (try simp only [Act.put, List.getElem_toArray, List.getElem_cons_zero, List.getElem_cons_succ, List.setIfInBounds_toArray, List.set_cons_zero, List.set_cons_succ])
        refine hK.out _ _ (HS.out _ b6.out) (fun hH6 => ?_)
        clear hK K hH5
        (refine wpAnyH_ready (rs := [6]) (by kernel_rfl) (by simp) ?_; refine AllReadyH.cons rfl (fun K hK => ?_) AllReadyH.nil)
        refine step_append_gen (base := W0.heap.size) (v := .slice aA6 n1 cA6) (n := n1) (xs := l.flatMap xcC) Tryd.exE rfl (.tmp 34) (.tmp 36) rfl (by rfl) oA6 (by rfl) li6 (fun u hu => xcC_one [x] u (by simpa using hu)) (by unfold maxLen; omega) (by omega) b6.out.size ?_
        intro vC V7 oC gC
        have b7 := Lib.hid (belG b6.out gC b6.out.size (fun g hg => (oA6.lt g hg).1))
        obtain ⟨aC, cC, rfl, rC⟩ := Rd.own oC
        (try simp only [Act.put, List.getElem_toArray, List.getElem_cons_zero, List.getElem_cons_succ, List.setIfInBounds_toArray, List.set_cons_zero, List.set_cons_succ])
        refine hK.out _ _ (HS.out _ b7.out) (fun hH7 => ?_)
        clear hK K hH6
        (refine wpAnyH_ready (rs := [7]) (by kernel_rfl) (by simp) ?_; refine AllReadyH.cons rfl (fun K hK => ?_) AllReadyH.nil)
        go_simp
        refine (HN2.out V7 b7.out aC (n1 + 1) cC (by rw [← hLX.out]; exact rC) (by omega)).mono ?_
        rintro e wn ⟨p2, rfl, hp2f, hp2t, hbn⟩
        have bN := Lib.hid (belS b7.out hbn)
        refine hK.out _ _ (HS.out _ bN.out) (fun hHn => ?_)
        clear hK K hH7 hbn
        (refine wpAnyH_take (i := 8) (v := ?_) rfl (by kernel_rfl) (by kernel_rfl) (by kernel_rfl) (fun _ _ _ h => h) (Or.inl ⟨by rfl, ?_⟩) (by assumption) ?_; rotate_left; (focus (intro w hSw; clear hSw; go_simp; (try with_reducible rfl))); (try simp only [Act.put, List.getElem_toArray, List.getElem_cons_zero, List.getElem_cons_succ, List.setIfInBounds_toArray, List.set_cons_zero, List.set_cons_succ]))
        (refine wpAnyH_take (i := 9) (v := ?_) rfl (by kernel_rfl) (by kernel_rfl) (by kernel_rfl) (fun _ _ _ h => h) (Or.inl ⟨by rfl, ?_⟩) (by assumption) ?_; rotate_left; (focus (intro w hSw; clear hSw; go_simp; (try with_reducible rfl))); (try simp only [Act.put, List.getElem_toArray, List.getElem_cons_zero, List.getElem_cons_succ, List.setIfInBounds_toArray, List.set_cons_zero, List.set_cons_succ]))
        (refine wpAnyH_take (i := 10) (v := ?_) rfl (by kernel_rfl) (by kernel_rfl) (by kernel_rfl) (fun _ _ _ h => h) (Or.inl ⟨by rfl, ?_⟩) (by assumption) ?_; rotate_left; (focus (intro w hSw; clear hSw; go_simp; (try with_reducible rfl))); (try simp only [Act.put, List.getElem_toArray, List.getElem_cons_zero, List.getElem_cons_succ, List.setIfInBounds_toArray, List.set_cons_zero, List.set_cons_succ]))
        (refine wpAnyH_take (i := 11) (v := ?_) rfl (by kernel_rfl) (by kernel_rfl) (by kernel_rfl) (fun _ _ _ h => h) (Or.inl ⟨by rfl, ?_⟩) (by assumption) ?_; rotate_left; (focus (intro w hSw; clear hSw; go_simp; (try with_reducible rfl))); (try simp only [Act.put, List.getElem_toArray, List.getElem_cons_zero, List.getElem_cons_succ, List.setIfInBounds_toArray, List.set_cons_zero, List.set_cons_succ]))
        (refine wpAnyH_take (i := 12) (v := ?_) rfl (by kernel_rfl) (by kernel_rfl) (by kernel_rfl) (fun _ _ _ h => h) (Or.inl ⟨by rfl, ?_⟩) (by assumption) ?_; rotate_left; (focus (intro w hSw; clear hSw; go_simp; (try with_reducible rfl))); (try simp only [Act.put, List.getElem_toArray, List.getElem_cons_zero, List.getElem_cons_succ, List.setIfInBounds_toArray, List.set_cons_zero, List.set_cons_succ]))
        refine wpAnyH_done (by kernel_rfl) ?_ _
        go_wp2_with fail; go_meet; exact ⟨p2, rfl, rfl, hp2f, hp2t, belS HD0.out bN.out⟩
    · refine step_buildSlice1 (cs := xcA x) (some 36) rfl rfl 22 64 (.tmp 35) rfl Tryd.exE (by decide) (by rfl) rfl ?_
      (try simp only [Act.put, List.getElem_toArray, List.getElem_cons_zero, List.getElem_cons_succ, List.setIfInBounds_toArray, List.set_cons_zero, List.set_cons_succ])
      have li8 : Rd (W0.alloc (.cells (xcA x) 64)) 6 (some ⟨W0.heap.size, 0, none⟩) 1 1 (xcC x) := Rd.blk1 (w := W0) (e := 64) (cs := xcC x) rfl rfl
      have b8 := Lib.hid (belS hb0.out (alloc_below W0 (.cells (xcA x) 64)))
      have hle8 : W0.heap.size < (W0.alloc (.cells (xcA x) 64)).heap.size := by simp
      generalize (W0.alloc (.cells (xcA x) 64)) = V8 at *
      refine hK.out _ _ (HS.out _ b8.out) (fun hH8 => ?_)
      clear hK K hHeld
      (refine wpAnyH_ready (rs := [1]) (by kernel_rfl) (by simp) ?_; refine AllReadyH.cons rfl (fun K hK => ?_) AllReadyH.nil)
      go_simp
      have oE9 := World.ownsRow_made (base := W0.heap.size) (e := 64) (size := 6) V8 #[] 0 b8.out.size (Nat.zero_le _) rfl
      have b9 := Lib.hid (belS b8.out (alloc_below V8 (.cells #[] 64)))
      have hle9 : V8.heap.size < (V8.alloc (.cells #[] 64)).heap.size := by simp
      have li9 := Rd.below li8 (alloc_below V8 (.cells #[] 64)) (Nat.le_refl _)
      generalize (V8.alloc (.cells #[] 64)) = V9 at *
      refine hK.out _ _ (HS.out _ b9.out) (fun hH9 => ?_)
      clear hK K hH8
      (refine wpAnyH_ready (rs := [3]) (by kernel_rfl) (by simp) ?_; refine AllReadyH.cons rfl (fun K hK => ?_) AllReadyH.nil)
      refine step_append_gen (base := W0.heap.size) (v := .slice (some ⟨V8.heap.size, 0, none⟩) 0 0) (n := 0) (xs := []) Tryd.exE rfl (.tmp 32) (.tmp 33) rfl (by rfl) oE9 (by rfl) (HRL.out _ b9.out) (xcC_one l) (by unfold maxLen; omega) (by omega) b9.out.size ?_
      intro vA10 V10 oA10 gA10
      rw [Nat.zero_add, List.nil_append] at oA10
      have b10 := Lib.hid (belG b9.out gA10 b9.out.size (fun g hg => (oE9.lt g hg).1))
      have li10 := Rd.grown li9 gA10 (fun e => by have e2 : some V8.heap.size = some W0.heap.size := e; injection e2 with e2; omega)
      obtain ⟨aA10, cA10, rfl, _⟩ := Rd.own oA10
      (try simp only [Act.put, List.getElem_toArray, List.getElem_cons_zero, List.getElem_cons_succ, List.setIfInBounds_toArray, List.set_cons_zero, List.set_cons_succ])
      refine hK.out _ _ (HS.out _ b10.out) (fun hH10 => ?_)
      clear hK K hH9
      (refine wpAnyH_ready (rs := [6]) (by kernel_rfl) (by simp) ?_; refine AllReadyH.cons rfl (fun K hK => ?_) AllReadyH.nil)
      refine step_append_gen (base := W0.heap.size) (v := .slice aA10 n1 cA10) (n := n1) (xs := l.flatMap xcC) Tryd.exE rfl (.tmp 34) (.tmp 36) rfl (by rfl) oA10 (by rfl) li10 (fun u hu => xcC_one [x] u (by simpa using hu)) (by unfold maxLen; omega) (by omega) b10.out.size ?_
      intro vC V11 oC gC
      have b11 := Lib.hid (belG b10.out gC b10.out.size (fun g hg => (oA10.lt g hg).1))
      obtain ⟨aC, cC, rfl, rC⟩ := Rd.own oC
      (try simp only [Act.put, List.getElem_toArray, List.getElem_cons_zero, List.getElem_cons_succ, List.setIfInBounds_toArray, List.set_cons_zero, List.set_cons_succ])
      refine hK.out _ _ (HS.out _ b11.out) (fun hH11 => ?_)
      clear hK K hH10
      (refine wpAnyH_ready (rs := [7]) (by kernel_rfl) (by simp) ?_; refine AllReadyH.cons rfl (fun K hK => ?_) AllReadyH.nil)
      go_simp
      refine (HN2.out V11 b11.out aC (n1 + 1) cC (by rw [← hLX.out]; exact rC) (by omega)).mono ?_
      rintro e wn ⟨p2, rfl, hp2f, hp2t, hbn⟩
      have bN := Lib.hid (belS b11.out hbn)
      refine hK.out _ _ (HS.out _ bN.out) (fun hHn => ?_)
      clear hK K hH11 hbn
      (refine wpAnyH_take (i := 8) (v := ?_) rfl (by kernel_rfl) (by kernel_rfl) (by kernel_rfl) (fun _ _ _ h => h) (Or.inl ⟨by rfl, ?_⟩) (by assumption) ?_; rotate_left; (focus (intro w hSw; clear hSw; go_simp; (try with_reducible rfl))); (try simp only [Act.put, List.getElem_toArray, List.getElem_cons_zero, List.getElem_cons_succ, List.setIfInBounds_toArray, List.set_cons_zero, List.set_cons_succ]))
      (refine wpAnyH_take (i := 9) (v := ?_) rfl (by kernel_rfl) (by kernel_rfl) (by kernel_rfl) (fun _ _ _ h => h) (Or.inl ⟨by rfl, ?_⟩) (by assumption) ?_; rotate_left; (focus (intro w hSw; clear hSw; go_simp; (try with_reducible rfl))); (try simp only [Act.put, List.getElem_toArray, List.getElem_cons_zero, List.getElem_cons_succ, List.setIfInBounds_toArray, List.set_cons_zero, List.set_cons_succ]))
      (refine wpAnyH_take (i := 10) (v := ?_) rfl (by kernel_rfl) (by kernel_rfl) (by kernel_rfl) (fun _ _ _ h => h) (Or.inl ⟨by rfl, ?_⟩) (by assumption) ?_; rotate_left; (focus (intro w hSw; clear hSw; go_simp; (try with_reducible rfl))); (try simp only [Act.put, List.getElem_toArray, List.getElem_cons_zero, List.getElem_cons_succ, List.setIfInBounds_toArray, List.set_cons_zero, List.set_cons_succ]))
      (refine wpAnyH_take (i := 11) (v := ?_) rfl (by kernel_rfl) (by kernel_rfl) (by kernel_rfl) (fun _ _ _ h => h) (Or.inl ⟨by rfl, ?_⟩) (by assumption) ?_; rotate_left; (focus (intro w hSw; clear hSw; go_simp; (try with_reducible rfl))); (try simp only [Act.put, List.getElem_toArray, List.getElem_cons_zero, List.getElem_cons_succ, List.setIfInBounds_toArray, List.set_cons_zero, List.set_cons_succ]))
      (refine wpAnyH_take (i := 12) (v := ?_) rfl (by kernel_rfl) (by kernel_rfl) (by kernel_rfl) (fun _ _ _ h => h) (Or.inl ⟨by rfl, ?_⟩) (by assumption) ?_; rotate_left; (focus (intro w hSw; clear hSw; go_simp; (try with_reducible rfl))); (try simp only [Act.put, List.getElem_toArray, List.getElem_cons_zero, List.getElem_cons_succ, List.setIfInBounds_toArray, List.set_cons_zero, List.set_cons_succ]))
      refine wpAnyH_done (by kernel_rfl) ?_ _
      go_wp2_with fail; go_meet; exact ⟨p2, rfl, rfl, hp2f, hp2t, belS HD0.out bN.out⟩
  case rest => as_aux_lemma =>
    obtain ⟨p2, rfl, rfl, hp2f, hp2t, hBc⟩ := hcut
    obtain ⟨wo, rfl⟩ : ∃ z, z = wc := ⟨_, rfl⟩
    have hBw := Lib.hid (belS hB4w.out hBc)
    have hB1c := Lib.hid (belS hB4.out hBc)
    clear HN2 HRL HSx HXI hLX
    cases ok1 with
    | false =>
      obtain rfl := hp1f rfl
      go_wp2
      go_ret
      exact ⟨rfl, hBw.out⟩
    | true =>
    obtain ⟨b1, l1', rfl, hp, hpl⟩ := hp1t rfl
    replace hp := Lib.hid (hp.below hBc)
    cases ok2 with
    | false =>
      obtain rfl := hp2f rfl
      clear hpl
      go_wp2
      go_ret
      exact ⟨rfl, hBw.out⟩
    | true =>
    obtain ⟨b2, l2', rfl, hq, hql⟩ := hp2t rfl
    replace hq := Lib.hid hq
    have hvx : vX (l ++ [x]) = vX l ++ [x.v] := by simp [vX]
    have hAll := more_all (me := me) (L := vX l) (x := x.v) (by rw [← hvx]; exact (hok2.out.1 rfl).1) (hok1.out.1 rfl).2
    rw [hvx] at hql
    rw [← hql, ← hpl] at hAll
    have hlen1 := Lib.hid (comp_len hpl hl80.out)
    have hlen2 := Lib.hid (show l2'.length ≤ 1000000000 from by
      have e := congrArg List.length hql
      rw [vX_len, compV, compO] at e
      have := List.length_filter_le (sameO (oldV me (vX l ++ [x.v]))) (vX l ++ [x.v])
      rw [List.length_append, vX_len, List.length_singleton] at this
      have := hl80.out
      omega)
    obtain ⟨hLs, hBn, hWh, hWi⟩ := hAll
    replace hLs := Lib.hid hLs
    replace hWh := Lib.hid hWh
    replace hWi := Lib.hid hWi
    clear hp1f hp1t hp2f hp2t hvx hpl hql hok1 hok2 hcnt hx hxo hr hn64 hmr hxn hl80 hn80 h1I
    obtain ⟨r1, r2, hbp⟩ : ∃ r1 r2, bndV (vX l1') = (r1, r2) := ⟨_, _, rfl⟩
    obtain ⟨s1, s2, hbq⟩ : ∃ s1 s2, bndV (vX l2') = (s1, s2) := ⟨_, _, rfl⟩
    rw [hbp, hbq] at hBn
    simp only at hBn
    have HTb := Lib.hid (fun W (hb : Below wo.heap.size wo W) => hT.below (belS hBw.out hb) hT.1)
    have HCp := Lib.hid (fun W (hb : Below wo.heap.size wo W) => comps_any b1 l1' W (hp.out.below hb))
    have HCq := Lib.hid (fun W (hb : Below wo.heap.size wo W) => comps_any b2 l2' W (hq.out.below hb))
    have HBp := Lib.hid (fun W (hb : Below wo.heap.size wo W) => bnd_any b1 l1' r1 r2 hbp hlen1.out W (hp.out.below hb))
    have HBq := Lib.hid (fun W (hb : Below wo.heap.size wo W) => bnd_any b2 l2' s1 s2 hbq hlen2.out W (hq.out.below hb))
    have HWp := Lib.hid (fun W (hb : Below wo.heap.size wo W) i => whole_any b1 l1' i W (hp.out.below hb))
    have HWq := Lib.hid (fun W (hb : Below wo.heap.size wo W) i => whole_any b2 l2' i W (hq.out.below hb))
    have HHp := Lib.hid (fun W (hb : Below wo.heap.size wo W) i => hold_any b1 l1' i W (hp.out.below hb) (HTb.out W hb))
    have HHq := Lib.hid (fun W (hb : Below wo.heap.size wo W) i => hold_any b2 l2' i W (hq.out.below hb) (HTb.out W hb))
    have hMq := maskV_lt (vX l2')
    have hLsq := Lib.hid (fun W (b : Nat) (hrd : Rd W 1 (some ⟨b, 0, none⟩) 1 1 ([x.v.who].map (Value.int .i64))) => (by have := less_any (maskV (vX l2')) 1 1 (some ⟨b, 0, none⟩) [x.v.who] W hMq (by decide) hrd; rwa [hLs.out] at this : Calls Tryd.prog 31 #[.int .u64 (maskV (vX l2')), .slice (some ⟨b, 0, none⟩) 1 1] W fun e w' => e = .returned (.int .u64 (maskV (vX l1'))) ∧ W = w'))
    have HXc := Lib.hid (fun W (hb : Below wo.heap.size wo W) => show W.cell? ⟨w.heap.size, 0, none⟩ = some (.int .i64 x.v.who) from (HXW.out W (belS hB1c.out hb)).cell rfl)
    have HHas := Lib.hid (fun W => has_any (maskV (vX l2')) x.v.who hMq W)
    have hEqs := Lib.hid (fun (h : hasB (maskV (vX l2')) x.v.who = false) => show vX l2' = vX l1' from hWi.out.resolve_left (by rw [h]; simp))
    generalize hasB (maskV (vX l2')) x.v.who = wb at *
    replace hbp := Lib.hid hbp
    replace hbq := Lib.hid hbq
    clear hWi
    go_upto_region 9 with (fail)
    have hbD : Hid (Below wo.heap.size wo wo.drew) := Lib.hid (Below.refl _ _).drew
    refine wp_region_held_drew (S := fun W => W.cell? ⟨w.heap.size, 0, none⟩ = some (.int .i64 x.v.who)) (by kernel_rfl) (HXc.out _ hbD.out) ?_
    intro hHeld
    (refine wpAnyH_take (i := 0) (v := ?_) rfl (by kernel_rfl) (by kernel_rfl) (by kernel_rfl) (fun _ _ _ h => h) (Or.inl ⟨by rfl, ?_⟩) (by assumption) ?_; rotate_left; (focus (intro w hSw; clear hSw; go_simp; (try with_reducible rfl))); (try simp only [Act.put, List.getElem_toArray, List.getElem_cons_zero, List.getElem_cons_succ, List.setIfInBounds_toArray, List.set_cons_zero, List.set_cons_succ]))
    (refine wpAnyH_take (i := 2) (v := ?_) rfl (by kernel_rfl) (by kernel_rfl) (by kernel_rfl) (fun _ _ _ h => h) (Or.inl ⟨by rfl, ?_⟩) (by assumption) ?_; rotate_left; (focus (intro w hSw; clear hSw; go_simp; (try with_reducible rfl))); (try simp only [Act.put, List.getElem_toArray, List.getElem_cons_zero, List.getElem_cons_succ, List.setIfInBounds_toArray, List.set_cons_zero, List.set_cons_succ]))
    (refine wpAnyH_take (i := 3) (v := ?_) rfl (by kernel_rfl) (by kernel_rfl) (by kernel_rfl) (fun _ _ _ h => h) (Or.inl ⟨by rfl, ?_⟩) (by assumption) ?_; rotate_left; (focus (intro w hSw; go_simp; (try with_reducible rfl))); (try simp only [Act.put, List.getElem_toArray, List.getElem_cons_zero, List.getElem_cons_succ, List.setIfInBounds_toArray, List.set_cons_zero, List.set_cons_succ]))
    (refine wpAnyH_ready (rs := [1]) (by kernel_rfl) (by simp) ?_; refine AllReadyH.cons rfl (fun K hK => ?_) AllReadyH.nil)
    go_simp
    refine (HCq.out _ hbD.out).mono ?_
    rintro e v1 ⟨rfl, hb⟩
    have B1 := Lib.hid (belS hbD.out hb)
    refine hK.out _ _ (HXc.out _ B1.out) (fun hHeld2 => ?_)
    clear hK K hHeld hb
    (refine wpAnyH_ready (rs := [4]) (by kernel_rfl) (by simp) ?_; refine AllReadyH.cons rfl (fun K hK => ?_) AllReadyH.nil)
    go_simp
    refine (HHas.out _).mono ?_
    rintro e v2 ⟨rfl, rfl⟩
    refine hK.out _ _ (HXc.out _ B1.out) (fun hHeld3 => ?_)
    clear hK K hHeld2
    (refine wpAnyH_take (i := 5) (v := ?_) rfl (by kernel_rfl) (by kernel_rfl) (by kernel_rfl) (fun _ _ _ h => h) (Or.inl ⟨by rfl, ?_⟩) (by assumption) ?_; rotate_left; (focus (intro w hSw; clear hSw; go_simp; (try with_reducible rfl))); (try simp only [Act.put, List.getElem_toArray, List.getElem_cons_zero, List.getElem_cons_succ, List.setIfInBounds_toArray, List.set_cons_zero, List.set_cons_succ]))
    refine wpAnyH_done (by kernel_rfl) ?_ _
    clear hbD hHeld3
    go_upto_region 10 with (fail)
    go_cut [76] from 60 to 76 (fun t wx => t = .bool false ∧ Below wo.heap.size wo wx)
    case first => as_aux_lemma =>
      have bD := Lib.hid B1.out.drew
      refine wp_region_held_drew (S := fun W => W.cell? ⟨w.heap.size, 0, none⟩ = some (.int .i64 x.v.who)) (by kernel_rfl) (HXc.out _ bD.out) ?_
      intro hHeld
      generalize v1.drew = v1d at *
      (refine wpAnyH_take (i := 0) (v := ?_) rfl (by kernel_rfl) (by kernel_rfl) (by kernel_rfl) (fun _ _ _ h => h) (Or.inl ⟨by rfl, ?_⟩) (by assumption) ?_; rotate_left; (focus (intro w hSw; clear hSw; go_simp; (try with_reducible rfl))); (try simp only [Act.put, List.getElem_toArray, List.getElem_cons_zero, List.getElem_cons_succ, List.setIfInBounds_toArray, List.set_cons_zero, List.set_cons_succ]))
      (refine wpAnyH_take (i := 2) (v := ?_) rfl (by kernel_rfl) (by kernel_rfl) (by kernel_rfl) (fun _ _ _ h => h) (Or.inl ⟨by rfl, ?_⟩) (by assumption) ?_; rotate_left; (focus (intro w hSw; clear hSw; go_simp; (try with_reducible rfl))); (try simp only [Act.put, List.getElem_toArray, List.getElem_cons_zero, List.getElem_cons_succ, List.setIfInBounds_toArray, List.set_cons_zero, List.set_cons_succ]))
      (refine wpAnyH_take (i := 3) (v := ?_) rfl (by kernel_rfl) (by kernel_rfl) (by kernel_rfl) (fun _ _ _ h => h) (Or.inl ⟨by rfl, ?_⟩) (by assumption) ?_; rotate_left; (focus (intro w hSw; go_simp; (try with_reducible rfl))); (try simp only [Act.put, List.getElem_toArray, List.getElem_cons_zero, List.getElem_cons_succ, List.setIfInBounds_toArray, List.set_cons_zero, List.set_cons_succ]))
      (refine wpAnyH_take (i := 6) (v := ?_) rfl (by kernel_rfl) (by kernel_rfl) (by kernel_rfl) (fun _ _ _ h => h) (Or.inl ⟨by rfl, ?_⟩) (by assumption) ?_; rotate_left; (focus (intro w hSw; clear hSw; go_simp; (try with_reducible rfl))); (try simp only [Act.put, List.getElem_toArray, List.getElem_cons_zero, List.getElem_cons_succ, List.setIfInBounds_toArray, List.set_cons_zero, List.set_cons_succ]))
      refine wpAnyH_ready (rs := [1, 4]) (by kernel_rfl) (by simp) ?_
      refine AllReadyH.cons rfl (fun K hK => ?_) (AllReadyH.cons rfl (fun K hK => ?_) AllReadyH.nil)
      · go_simp
        refine (HCq.out _ bD.out).mono ?_
        rintro e v3 ⟨rfl, hb⟩
        have B3 := Lib.hid (belS bD.out hb)
        refine hK.out _ _ (HXc.out _ B3.out) (fun hHeld4 => ?_)
        clear hK K hHeld hb
        (refine wpAnyH_ready (rs := [4]) (by kernel_rfl) (by simp) ?_; refine AllReadyH.cons rfl (fun K hK => ?_) AllReadyH.nil)
        go_simp
        have hrd := Rd.one (w := v3) (u := .int .i64 x.v.who) (e := 3) rfl
        have B4 := Lib.hid (belS B3.out (alloc_below v3 (.cells #[.int .i64 x.v.who] 3)))
        refine hK.out _ _ (HXc.out _ B4.out) (fun hHeld5 => ?_)
        clear hK K hHeld4
        generalize (v3.alloc (.cells #[.int .i64 x.v.who] 3)) = v3a at *
        (refine wpAnyH_ready (rs := [5]) (by kernel_rfl) (by simp) ?_; refine AllReadyH.cons rfl (fun K hK => ?_) AllReadyH.nil)
        go_simp
        refine (hLsq.out _ _ hrd).mono ?_
        rintro e v4 ⟨rfl, rfl⟩
        refine hK.out _ _ (HXc.out _ B4.out) (fun hHeld6 => ?_)
        clear hK K hHeld5
        (refine wpAnyH_ready (rs := [7]) (by kernel_rfl) (by simp) ?_; refine AllReadyH.cons rfl (fun K hK => ?_) AllReadyH.nil)
        go_simp
        refine (HCp.out _ B4.out).mono ?_
        rintro e v5 ⟨rfl, hb⟩
        have B5 := Lib.hid (belS B4.out hb)
        refine hK.out _ _ (HXc.out _ B5.out) (fun hHeld7 => ?_)
        clear hK K hHeld6 hb
        (refine wpAnyH_take (i := 8) (v := ?_) rfl (by kernel_rfl) (by kernel_rfl) (by kernel_rfl) (fun _ _ _ h => h) (Or.inl ⟨by rfl, ?_⟩) (by assumption) ?_; rotate_left; (focus (intro w hSw; clear hSw; go_simp; (try with_reducible rfl))); (try simp only [Act.put, List.getElem_toArray, List.getElem_cons_zero, List.getElem_cons_succ, List.setIfInBounds_toArray, List.set_cons_zero, List.set_cons_succ]))
        (refine wpAnyH_take (i := 9) (v := ?_) rfl (by kernel_rfl) (by kernel_rfl) (by kernel_rfl) (fun _ _ _ h => h) (Or.inl ⟨by rfl, ?_⟩) (by assumption) ?_; rotate_left; (focus (intro w hSw; clear hSw; go_simp; (try with_reducible rfl))); (try simp only [Act.put, List.getElem_toArray, List.getElem_cons_zero, List.getElem_cons_succ, List.setIfInBounds_toArray, List.set_cons_zero, List.set_cons_succ]))
        (refine wpAnyH_take (i := 10) (v := ?_) rfl (by kernel_rfl) (by kernel_rfl) (by kernel_rfl) (fun _ _ _ h => h) (Or.inl ⟨by rfl, ?_⟩) (by assumption) ?_; rotate_left; (focus (intro w hSw; clear hSw; go_simp; (try with_reducible rfl))); (try simp only [Act.put, List.getElem_toArray, List.getElem_cons_zero, List.getElem_cons_succ, List.setIfInBounds_toArray, List.set_cons_zero, List.set_cons_succ]))
        (refine wpAnyH_take (i := 12) (v := ?_) rfl (by kernel_rfl) (by kernel_rfl) (by kernel_rfl) (fun _ _ _ h => h) (Or.inl ⟨by rfl, ?_⟩) (by assumption) ?_; rotate_left; (focus (intro w hSw; clear hSw; go_simp; (try with_reducible rfl))); (try simp only [Act.put, List.getElem_toArray, List.getElem_cons_zero, List.getElem_cons_succ, List.setIfInBounds_toArray, List.set_cons_zero, List.set_cons_succ]))
        (refine wpAnyH_ready (rs := [11]) (by kernel_rfl) (by simp) ?_; refine AllReadyH.cons rfl (fun K hK => ?_) AllReadyH.nil)
        go_simp
        refine (HBq.out _ B5.out).mono ?_
        rintro e v6 ⟨rfl, hb⟩
        have B6 := Lib.hid (belS B5.out hb)
        refine hK.out _ _ (HXc.out _ B6.out) (fun hHeld8 => ?_)
        clear hK K hHeld7 hb
        (refine wpAnyH_ready (rs := [13]) (by kernel_rfl) (by simp) ?_; refine AllReadyH.cons rfl (fun K hK => ?_) AllReadyH.nil)
        go_simp
        refine (HBp.out _ B6.out).mono ?_
        rintro e v7 ⟨rfl, hb⟩
        have B7 := Lib.hid (belS B6.out hb)
        refine hK.out _ _ (HXc.out _ B7.out) (fun hHeld9 => ?_)
        clear hK K hHeld8 hb
        (refine wpAnyH_ready (rs := [14]) (by kernel_rfl) (by simp) ?_; refine AllReadyH.cons rfl (fun K hK => ?_) AllReadyH.nil)
        go_simp
        refine (cmp_any s1 s2 r1 r2 _).mono ?_
        rintro e v8 ⟨rfl, hb⟩
        have B8 := Lib.hid (belS B7.out hb)
        refine hK.out _ _ (HXc.out _ B8.out) (fun hHeld10 => ?_)
        clear hK K hHeld9 hb
        generalize keyC s1 s2 r1 r2 = kc at *
        have hkc : decide (kc < 0) = false := decide_eq_false (by omega)
        (refine wpAnyH_take (i := 15) (v := ?_) rfl (by kernel_rfl) (by kernel_rfl) (by kernel_rfl) (fun _ _ _ h => h) (Or.inl ⟨by rfl, ?_⟩) (by assumption) ?_; rotate_left; (focus (intro w hSw; clear hSw; go_simp; (try with_reducible rfl))); (try simp only [Act.put, List.getElem_toArray, List.getElem_cons_zero, List.getElem_cons_succ, List.setIfInBounds_toArray, List.set_cons_zero, List.set_cons_succ]))
        (refine wpAnyH_take (i := 16) (v := ?_) rfl (by kernel_rfl) (by kernel_rfl) (by kernel_rfl) (fun _ _ _ h => h) (Or.inl ⟨by rfl, ?_⟩) (by assumption) ?_; rotate_left; (focus (intro w hSw; clear hSw; go_simp; (try with_reducible rfl))); (try simp only [Act.put, List.getElem_toArray, List.getElem_cons_zero, List.getElem_cons_succ, List.setIfInBounds_toArray, List.set_cons_zero, List.set_cons_succ]))
        refine wpAnyH_done (by kernel_rfl) ?_ _
        go_wp2_with fail
        go_meet
        exact ⟨rfl, B8.out⟩
      · go_simp
        have hrd := Rd.one (w := v1d) (u := .int .i64 x.v.who) (e := 3) rfl
        have B3 := Lib.hid (belS bD.out (alloc_below v1d (.cells #[.int .i64 x.v.who] 3)))
        refine hK.out _ _ (HXc.out _ B3.out) (fun hHeld4 => ?_)
        clear hK K hHeld
        generalize (v1d.alloc (.cells #[.int .i64 x.v.who] 3)) = v1a at *
        (refine wpAnyH_ready (rs := [1]) (by kernel_rfl) (by simp) ?_; refine AllReadyH.cons rfl (fun K hK => ?_) AllReadyH.nil)
        go_simp
        refine (HCq.out _ B3.out).mono ?_
        rintro e v3 ⟨rfl, hb⟩
        replace hrd := Rd.below hrd hb (Nat.le_refl _)
        have B4 := Lib.hid (belS B3.out hb)
        refine hK.out _ _ (HXc.out _ B4.out) (fun hHeld5 => ?_)
        clear hK K hHeld4 hb
        (refine wpAnyH_ready (rs := [5]) (by kernel_rfl) (by simp) ?_; refine AllReadyH.cons rfl (fun K hK => ?_) AllReadyH.nil)
        go_simp
        refine (hLsq.out _ _ hrd).mono ?_
        rintro e v4 ⟨rfl, rfl⟩
        refine hK.out _ _ (HXc.out _ B4.out) (fun hHeld6 => ?_)
        clear hK K hHeld5
        (refine wpAnyH_ready (rs := [7]) (by kernel_rfl) (by simp) ?_; refine AllReadyH.cons rfl (fun K hK => ?_) AllReadyH.nil)
        go_simp
        refine (HCp.out _ B4.out).mono ?_
        rintro e v5 ⟨rfl, hb⟩
        have B5 := Lib.hid (belS B4.out hb)
        refine hK.out _ _ (HXc.out _ B5.out) (fun hHeld7 => ?_)
        clear hK K hHeld6 hb
        (refine wpAnyH_take (i := 8) (v := ?_) rfl (by kernel_rfl) (by kernel_rfl) (by kernel_rfl) (fun _ _ _ h => h) (Or.inl ⟨by rfl, ?_⟩) (by assumption) ?_; rotate_left; (focus (intro w hSw; clear hSw; go_simp; (try with_reducible rfl))); (try simp only [Act.put, List.getElem_toArray, List.getElem_cons_zero, List.getElem_cons_succ, List.setIfInBounds_toArray, List.set_cons_zero, List.set_cons_succ]))
        (refine wpAnyH_take (i := 9) (v := ?_) rfl (by kernel_rfl) (by kernel_rfl) (by kernel_rfl) (fun _ _ _ h => h) (Or.inl ⟨by rfl, ?_⟩) (by assumption) ?_; rotate_left; (focus (intro w hSw; clear hSw; go_simp; (try with_reducible rfl))); (try simp only [Act.put, List.getElem_toArray, List.getElem_cons_zero, List.getElem_cons_succ, List.setIfInBounds_toArray, List.set_cons_zero, List.set_cons_succ]))
        (refine wpAnyH_take (i := 10) (v := ?_) rfl (by kernel_rfl) (by kernel_rfl) (by kernel_rfl) (fun _ _ _ h => h) (Or.inl ⟨by rfl, ?_⟩) (by assumption) ?_; rotate_left; (focus (intro w hSw; clear hSw; go_simp; (try with_reducible rfl))); (try simp only [Act.put, List.getElem_toArray, List.getElem_cons_zero, List.getElem_cons_succ, List.setIfInBounds_toArray, List.set_cons_zero, List.set_cons_succ]))
        (refine wpAnyH_take (i := 12) (v := ?_) rfl (by kernel_rfl) (by kernel_rfl) (by kernel_rfl) (fun _ _ _ h => h) (Or.inl ⟨by rfl, ?_⟩) (by assumption) ?_; rotate_left; (focus (intro w hSw; clear hSw; go_simp; (try with_reducible rfl))); (try simp only [Act.put, List.getElem_toArray, List.getElem_cons_zero, List.getElem_cons_succ, List.setIfInBounds_toArray, List.set_cons_zero, List.set_cons_succ]))
        (refine wpAnyH_ready (rs := [11]) (by kernel_rfl) (by simp) ?_; refine AllReadyH.cons rfl (fun K hK => ?_) AllReadyH.nil)
        go_simp
        refine (HBq.out _ B5.out).mono ?_
        rintro e v6 ⟨rfl, hb⟩
        have B6 := Lib.hid (belS B5.out hb)
        refine hK.out _ _ (HXc.out _ B6.out) (fun hHeld8 => ?_)
        clear hK K hHeld7 hb
        (refine wpAnyH_ready (rs := [13]) (by kernel_rfl) (by simp) ?_; refine AllReadyH.cons rfl (fun K hK => ?_) AllReadyH.nil)
        go_simp
        refine (HBp.out _ B6.out).mono ?_
        rintro e v7 ⟨rfl, hb⟩
        have B7 := Lib.hid (belS B6.out hb)
        refine hK.out _ _ (HXc.out _ B7.out) (fun hHeld9 => ?_)
        clear hK K hHeld8 hb
        (refine wpAnyH_ready (rs := [14]) (by kernel_rfl) (by simp) ?_; refine AllReadyH.cons rfl (fun K hK => ?_) AllReadyH.nil)
        go_simp
        refine (cmp_any s1 s2 r1 r2 _).mono ?_
        rintro e v8 ⟨rfl, hb⟩
        have B8 := Lib.hid (belS B7.out hb)
        refine hK.out _ _ (HXc.out _ B8.out) (fun hHeld10 => ?_)
        clear hK K hHeld9 hb
        generalize keyC s1 s2 r1 r2 = kc at *
        have hkc : decide (kc < 0) = false := decide_eq_false (by omega)
        (refine wpAnyH_take (i := 15) (v := ?_) rfl (by kernel_rfl) (by kernel_rfl) (by kernel_rfl) (fun _ _ _ h => h) (Or.inl ⟨by rfl, ?_⟩) (by assumption) ?_; rotate_left; (focus (intro w hSw; clear hSw; go_simp; (try with_reducible rfl))); (try simp only [Act.put, List.getElem_toArray, List.getElem_cons_zero, List.getElem_cons_succ, List.setIfInBounds_toArray, List.set_cons_zero, List.set_cons_succ]))
        (refine wpAnyH_take (i := 16) (v := ?_) rfl (by kernel_rfl) (by kernel_rfl) (by kernel_rfl) (fun _ _ _ h => h) (Or.inl ⟨by rfl, ?_⟩) (by assumption) ?_; rotate_left; (focus (intro w hSw; clear hSw; go_simp; (try with_reducible rfl))); (try simp only [Act.put, List.getElem_toArray, List.getElem_cons_zero, List.getElem_cons_succ, List.setIfInBounds_toArray, List.set_cons_zero, List.set_cons_succ]))
        refine wpAnyH_done (by kernel_rfl) ?_ _
        go_wp2_with fail
        go_meet
        exact ⟨rfl, B8.out⟩
    case rest => as_aux_lemma =>
      obtain ⟨rfl, hBx⟩ := hcut
      replace hBx := Lib.hid hBx
      clear hLsq HHas HXc B1 HCq HCp
      cases wb with
      | true =>
        go_wp2
        go_loopw [12] (fun i wr => ∃ k : Nat, k ≤ 64 ∧ i = .int .i64 k ∧ Below wo.heap.size wo wr) (fun i _ => 64 - (intOf i).toNat)
        case atStart => exact ⟨0, by decide, rfl, hBx.out⟩
        case round =>
          obtain ⟨k, hk, rfl, hbr⟩ := hrel
          replace hbr := Lib.hid hbr
          by_cases hkn : k < 64
          · have hkI : (k : Int) < 64 := by omega
            have hle := hWh.out k
            go_wp2_with fail
            refine (HWq.out _ hbr.out k).mono ?_
            rintro e z1 ⟨rfl, hb⟩
            have C1 := Lib.hid (belS hbr.out hb)
            clear hb
            go_wp2_with fail
            refine (HWp.out _ C1.out k).mono ?_
            rintro e z2 ⟨rfl, hb⟩
            have C2 := Lib.hid (belS C1.out hb)
            clear hb C1
            generalize wholeV (vX l1') k = y1 at *
            generalize wholeV (vX l2') k = y2 at *
            have hleI : (y1 : Int) ≤ y2 := by omega
            go_wp2
            go_roundw
            case rel => exact ⟨k + 1, by omega, by go_num, C2.out⟩
            case measure => simp [intOf]; omega
          · have hkI : (64 : Int) ≤ k := by omega
            go_wp2
            go_ret
            exact ⟨rfl, belS hBw.out hbr.out⟩
      | false =>
        have hE := Lib.hid (hEqs.out rfl)
        rw [hE.out] at HWq HHq hbq
        have hbb := Lib.hid (show (s1, s2) = (r1, r2) from hbq.out.symm.trans hbp.out)
        obtain ⟨hs1, hs2⟩ := Prod.mk.inj hbb.out
        subst hs1 hs2
        clear hbb hbq hE hEqs hWh hBn
        go_wp2
        go_loopw [12] (fun i wr => ∃ k : Nat, k ≤ 64 ∧ i = .int .i64 k ∧ Below wo.heap.size wo wr) (fun i _ => 64 - (intOf i).toNat)
        case atStart => exact ⟨0, by decide, rfl, hBx.out⟩
        case round =>
          obtain ⟨k, hk, rfl, hbr⟩ := hrel
          replace hbr := Lib.hid hbr
          by_cases hkn : k < 64
          · have hkI : (k : Int) < 64 := by omega
            have HWq2 := Lib.hid (fun W hb => HWq.out W hb k)
            have HWp2 := Lib.hid (fun W hb => HWp.out W hb k)
            have HHq2 := Lib.hid (fun W hb => HHq.out W hb k)
            have HHp2 := Lib.hid (fun W hb => HHp.out W hb k)
            generalize wholeV (vX l1') k = y1 at *
            generalize holdV (vX l1') k = y2 at *
            go_wp2_with fail
            refine (HWq2.out _ hbr.out).mono ?_
            rintro e z1 ⟨rfl, hb⟩
            have C1 := Lib.hid (belS hbr.out hb)
            clear hb
            go_wp2_with fail
            refine (HWp2.out _ C1.out).mono ?_
            rintro e z2 ⟨rfl, hb⟩
            have C2 := Lib.hid (belS C1.out hb)
            clear hb C1
            go_wp2_with fail
            refine (HWq2.out _ C2.out).mono ?_
            rintro e z3 ⟨rfl, hb⟩
            have C3 := Lib.hid (belS C2.out hb)
            clear hb C2
            go_wp2_with fail
            refine (HWp2.out _ C3.out).mono ?_
            rintro e z4 ⟨rfl, hb⟩
            have C4 := Lib.hid (belS C3.out hb)
            clear hb C3
            go_wp2_with fail
            refine (HHq2.out _ C4.out).mono ?_
            rintro e z5 ⟨rfl, hb⟩
            have C5 := Lib.hid (belS C4.out hb)
            clear hb C4
            go_wp2_with fail
            refine (HHp2.out _ C5.out).mono ?_
            rintro e z6 ⟨rfl, hb⟩
            have C6 := Lib.hid (belS C5.out hb)
            clear hb C5
            go_wp2
            go_roundw
            case rel => exact ⟨k + 1, by omega, by go_num, C6.out⟩
            case measure => simp [intOf]; omega
          · have hkI : (64 : Int) ≤ k := by omega
            go_wp2_with fail
            refine (HBq.out _ hbr.out).mono ?_
            rintro e z1 ⟨rfl, hb⟩
            have C1 := Lib.hid (belS hbr.out hb)
            clear hb
            go_wp2_with fail
            refine (HBp.out _ C1.out).mono ?_
            rintro e z2 ⟨rfl, hb⟩
            have C2 := Lib.hid (belS C1.out hb)
            clear hb C1
            go_wp2
            go_ret
            exact ⟨rfl, belS hBw.out C2.out⟩
end Go.Proofs.YtikhpafdnohhkaaDoor
