/- gather: the reference's Add (its region 4 written by tools/gen_ga.py) -/
import Derived.Test.YtlgabjffnjciaaaDoorGatZ
import Derived.Deep.Cut
import Derived.Deep.CutRange
namespace Go.Proofs.YtlgabjffnjciaaaDoor
set_option linter.unusedSimpArgs false
set_option linter.unusedVariables false
open Go.RowKit Go.Sort
theorem step_append_gen {P : Program} {w : World} {ops : Array Oper} {o : Oper} {a : Act} {K : Act → World → Prop} {Q : Exit → Act → World → Prop} {E' : Prop} {t e : TypeId} {z : Value} {size bytes : Nat} (E : Elt P t e z size bytes) (hgd : o.guard = none) (s x : Operand)
    (ho : o.op = .call { callee := .builtin .append, args := #[s, x], argTypes := #[t, t] })
    {base : Nat} {v : Value} {n : Nat} {xs : List Value} (hs : a.eval s = v) (hown : w.ownsRow base e size v n xs)
    {xa : Option Addr} {m c : Nat} {news : List Value} (hx : a.eval x = .slice xa m c) (hr : Rd w size xa m c news) (h1 : ∀ u ∈ news, u.oneCell' = true)
    (h63 : n + m ≤ maxLen) (hbytes : (n + m) * bytes ≤ 140737488355328) (hbase : base ≤ w.heap.size)
    (h : ∀ v' w', w'.ownsRow base e size v' (n + m) (xs ++ news) → w.grownBy w' v.ownBlock → K (a.put o.dst v') w') : if Region.wanted o (yielded ops a.tmps) = true then Oper.wp P o a w K Q else E' := by
  obtain ⟨i, hi, hz0, hz1, hz2⟩ := info_parts E.info
  rw [if_pos (by simp [Region.wanted, hgd])]
  cases xa with
  | some ad =>
    refine wp_append_own w s x t ho base e i z size bytes E.ty hi hz0 hz1 hz2 E.cells E.pos v n xs hs hown ad m c news hx hr.length_eq ?_ h1 h63 hbytes hbase (fun v' w' h2 h3 _ => h v' w' h2 h3)
    intro j u hu
    rcases hr with ⟨⟨hl, _, _, _⟩, rfl | ⟨b, off, he, _, hc⟩⟩
    · have : news = [] := List.eq_nil_of_length_eq_zero (by simpa using hl)
      subst this; simp at hu
    · injection he with he
      subst he
      rw [add_zero_off]; exact hc j u hu
  | none =>
    obtain ⟨⟨hl, _, _, hnil⟩, _⟩ := hr
    obtain ⟨rfl, rfl⟩ := hnil rfl
    have hn : news = [] := List.eq_nil_of_length_eq_zero (by simpa using hl)
    subst hn
    have hrun := run_append_owned_none (P := P) w base t o.type e i size E.ty hi v n xs hown
    unfold Oper.wp
    simp [execOp, ho, resolve, invoke, builtin, hs, hx, hrun, Result.andThen]
    exact h v w (by simpa using hown) ⟨rfl, rfl, rfl, Nat.le_refl _, fun _ _ _ => rfl⟩
theorem Rd.grown {w w' : World} {sz b off n c : Nat} {xs : List Value} {row : Option Nat} (h : Rd w sz (some ⟨b, off, none⟩) n c xs) (hg : w.grownBy w' row) (hne : row ≠ some b) : Rd w' sz (some ⟨b, off, none⟩) n c xs := by
  refine ⟨h.1, ?_⟩
  rcases h.2 with hn | ⟨g, o, e, hlt, hc⟩
  · exact .inl hn
  · injection e with e; injection e with e1 e2
    subst e1 e2
    exact .inr ⟨b, off, rfl, Nat.lt_of_lt_of_le hlt hg.size, fun j u hu => by rw [World.cell?_of_block (w := w) (hg.block b hlt (fun e => hne e.symm))]; exact hc j u hu⟩
section
variable {w : World} {v : AtV} {a : Option Addr} {n c : Nat} {xs : List Xc}
theorem Rf.of_there (h : Rf w v a n c xs) (p : Int) : thereV v p = (ofX xs p).isSome := by
  unfold thereV ofX
  rw [← h.val, vX, List.any_map, Bool.eq_iff_iff, List.any_eq_true, List.find?_isSome]
  rfl
set_option maxHeartbeats 12800000 in
set_option maxRecDepth 100000 in
theorem radd_any (x : Xc) (t : Bool) (ht : t = (addC v x.v.who && toldV (addV v x.v))) (h : Rf w v a n c xs) (hx : RdU w x.pa x.pn x.pc x.v.cnt) (hn : n ≤ 1000000) :
    Calls Tryd.prog 25 #[.agg (rfA v a n c), .agg (xcA x)] w fun e w' => ∃ a' n' c' xs', e = .returned (.tuple #[.agg (rfA (addV v x.v) a' n' c'), .bool t]) ∧ Rf w' (addV v x.v) a' n' c' xs' ∧ (n' ≤ n + 1 ∧ (∀ g off, a' = some ⟨g, off, none⟩ → a = some ⟨g, off, none⟩ ∨ w.heap.size ≤ g) ∧ ∀ y ∈ xs', y ∈ xs ∨ y = x) ∧ Below w.heap.size w w' := by
  have hB : BlkAt (((w.alloc (.cells (rfA v a n c) 53)).alloc (.cells (xcA x) 43)).alloc (.cells #[.int .u64 0, .int .i64 0, .int .u64 0, .slice none 0 0, .int .u64 0] 53)) w.heap.size 53 (rfA v a n c) := BlkAt.alloc (BlkAt.alloc (BlkAt.new w _ _) _) _
  have hX : BlkAt (((w.alloc (.cells (rfA v a n c) 53)).alloc (.cells (xcA x) 43)).alloc (.cells #[.int .u64 0, .int .i64 0, .int .u64 0, .slice none 0 0, .int .u64 0] 53)) (w.heap.size + 1) 43 (xcA x) := by simpa using BlkAt.alloc (BlkAt.new (w.alloc (.cells (rfA v a n c) 53)) 43 (xcA x)) _
  have hE : BlkAt (((w.alloc (.cells (rfA v a n c) 53)).alloc (.cells (xcA x) 43)).alloc (.cells #[.int .u64 0, .int .i64 0, .int .u64 0, .slice none 0 0, .int .u64 0] 53)) (w.heap.size + 2) 53 #[.int .u64 0, .int .i64 0, .int .u64 0, .slice none 0 0, .int .u64 0] := by simpa using BlkAt.new ((w.alloc (.cells (rfA v a n c) 53)).alloc (.cells (xcA x) 43)) 53 #[.int .u64 0, .int .i64 0, .int .u64 0, .slice none 0 0, .int .u64 0]
  have hb1 : Below w.heap.size w (((w.alloc (.cells (rfA v a n c) 53)).alloc (.cells (xcA x) 43)).alloc (.cells #[.int .u64 0, .int .i64 0, .int .u64 0, .slice none 0 0, .int .u64 0] 53)) := (((Below.refl _ _).alloc (Nat.le_refl _) _).alloc (by simp) _).alloc (by simp; omega) _
  have hsz : (((w.alloc (.cells (rfA v a n c) 53)).alloc (.cells (xcA x) 43)).alloc (.cells #[.int .u64 0, .int .i64 0, .int .u64 0, .slice none 0 0, .int .u64 0] 53)).heap.size = w.heap.size + 3 := by simp
  have HO := Lib.hid (fun W (hb : Below w.heap.size w W) => rof_any x.v.who (h.below hb))
  have HM := Lib.hid (fun t ht W => member_any v.mem x.v.who t ht h.inv.mem W)
  have hth := Lib.hid (h.of_there x.v.who)
  have hiR := Tryd.rfI v a n c
  have hiX := Tryd.exI x
  obtain ⟨m1, hm1⟩ : ∃ z, z = hasB v.mem x.v.who := ⟨_, rfl⟩
  have hac := Lib.hid (show addC v x.v.who = (!(ofX xs x.v.who).isSome && m1) from by rw [addC, hth.out, hm1])
  obtain ⟨v', hv'⟩ : ∃ z, z = addV v x.v := ⟨_, rfl⟩
  rw [← hv'] at ht ⊢
  replace hv' := Lib.hid hv'
  have h0 := Lib.hid h
  have hx0 := Lib.hid hx
  replace ht := Lib.hid ht
  replace hm1 := Lib.hid hm1
  clear h hx
  go_enter Tryd.func25, Tryd.ntmps25
  go_wp2_with (first
    | (refine wpList_blk_box rfl (.tmp 0) rfl rfl w.heap.size rfl ?_)
    | (refine wpList_blk_box rfl (.tmp 1) rfl rfl (w.heap.size + 1) (by simp) ?_)
    | (refine wpList_blk_alloc rfl rfl Tryd.rfZ (w.heap.size + 2) (by simp) ?_; generalize (World.alloc (World.alloc (World.alloc w _) _) _) = w1 at *; obtain ⟨x0, _, _, _, _, _⟩ := blk6 hX)
    | (refine wpList_blk_load rfl (.tmp 2) rfl Tryd.underlying53 rfl rfl hB hiR ?_))
  refine (HO.out _ hb1).mono ?_
  rintro e w2 ⟨⟨y, hy⟩, hb2⟩
  have hB2 := hB.below hb2 hB.lt
  have hX2 := hX.below hb2 hX.lt
  have hE2 := hE.below hb2 hE.lt
  have hs2 : w.heap.size + 3 ≤ w2.heap.size := by have := hb2.size; omega
  have hb12 := belS hb1 hb2
  clear hB hX hE hb1 hb2 hsz x0
  rcases hy with ⟨hof, rfl⟩ | ⟨hof, rfl⟩
  · have hz := Lib.hid (show addC v x.v.who = false from by rw [hac.out, hof]; rfl)
    have hz2 := Lib.hid (show v' = v from by rw [hv'.out, addV, hz.out]; rfl)
    have hiY := Tryd.exI y
    have hZ := BlkAt.new w2 43 #[.int .i64 0, .int .u64 0, .int .i64 0, .slice none 0 0, .int .u64 0, .int .i64 0]
    replace hof := Lib.hid hof
    go_wp2_with (first
      | (refine wpList_blk_alloc rfl rfl Tryd.exZ w2.heap.size rfl ?_)
      | (refine wpList_blk_store (cs := xcA y) rfl (.tmp 6) (.tmp 13) rfl rfl rfl hZ hiY rfl (xcA_one y) ?_; intro w4 hX4 hK4 hsz4; have hb4 := alloc_store hK4; have hB4 := hB2.below hb4 hB2.lt; have hE4 := hE2.below hb4 hE2.lt; have hs4 := Nat.le_trans hs2 hb4.size)
      | (refine wpList_blk_load rfl (.tmp 2) rfl Tryd.underlying53 rfl rfl hB4 hiR ?_)
      | (refine wpList_blk_store (cs := rfA v a n c) rfl (.tmp 4) (.tmp 24) rfl rfl rfl hE4 hiR rfl (rfA_one _ _ _ _) ?_; intro w5 hE5 hK5 hsz5))
    have hbf : Below w.heap.size w w5 := Kp.below (belS hb12 hb4) hK5 (by omega) (by omega)
    refine bodyPost_ret (results_row1 rfl _ _ (w.heap.size + 2) 53 _ (0, 0) _ rfl hE5 Tryd.underlying53 rfl hiR) rfl ⟨a, n, c, xs, by rw [hz2.out, ht.out, hz.out]; rfl, ?_, ⟨by omega, fun g off e => .inl e, fun y hy => .inl hy⟩, hbf⟩
    rw [hz2.out]
    exact h0.out.below hbf
  · have hZ := BlkAt.new w2 43 #[.int .i64 0, .int .u64 0, .int .i64 0, .slice none 0 0, .int .u64 0, .int .i64 0]
    have hiZ : (Tryd.prog.info? 43).map (·.size) = some (#[.int .i64 0, .int .u64 0, .int .i64 0, .slice none 0 0, .int .u64 0, .int .i64 0] : Array Value).size := by show _ = some 6; kernel_rfl
    cases m1 with
    | false =>
      have hz := Lib.hid (show addC v x.v.who = false from by rw [hac.out]; simp)
      have hz2 := Lib.hid (show v' = v from by rw [hv'.out, addV, hz.out]; rfl)
      replace hof := Lib.hid hof
      go_wp2_with (first
        | (refine wpList_blk_alloc rfl rfl Tryd.exZ w2.heap.size rfl ?_)
        | (refine wpList_blk_store (cs := #[.int .i64 0, .int .u64 0, .int .i64 0, .slice none 0 0, .int .u64 0, .int .i64 0]) rfl (.tmp 6) (.tmp 13) rfl rfl rfl hZ hiZ rfl (by simp [Value.oneCell']) ?_; intro w4 hX4 hK4 hsz4; have hb4 := alloc_store hK4; have hB4 := hB2.below hb4 hB2.lt; have hE4 := hE2.below hb4 hE2.lt; have hX4' := hX2.below hb4 hX2.lt; have hs4 := Nat.le_trans hs2 hb4.size; obtain ⟨c0, c1, c2, c3, c4⟩ := blk5 hB4; obtain ⟨x0, _, _, _, _, _⟩ := blk6 hX4'))
      refine (HM.out false hm1.out _).mono ?_
      rintro e w3' ⟨rfl, rfl⟩
      go_wp2_with (first
        | (refine wpList_blk_load rfl (.tmp 2) rfl Tryd.underlying53 rfl rfl hB4 hiR ?_)
        | (refine wpList_blk_store (cs := rfA v a n c) rfl (.tmp 4) (.tmp 24) rfl rfl rfl hE4 hiR rfl (rfA_one _ _ _ _) ?_; intro w5 hE5 hK5 hsz5))
      have hbf : Below w.heap.size w w5 := Kp.below (belS hb12 hb4) hK5 (by omega) (by omega)
      refine bodyPost_ret (results_row1 rfl _ _ (w.heap.size + 2) 53 _ (0, 0) _ rfl hE5 Tryd.underlying53 rfl hiR) rfl ⟨a, n, c, xs, by rw [hz2.out, ht.out, hz.out]; rfl, ?_, ⟨by omega, fun g off e => .inl e, fun y hy => .inl hy⟩, hbf⟩
      rw [hz2.out]
      exact h0.out.below hbf
    | true =>
      have hz := Lib.hid (show addC v x.v.who = true from by rw [hac.out, hof]; rfl)
      have hv2 : v' = { v with xs := v.xs ++ [x.v] } := by rw [hv'.out, addV, hz.out]; rfl
      have hset := Lib.hid (show ∀ aC cC, (rfA v a n c).setIfInBounds 3 (.slice aC (n + 1) cC) = rfA v' aC (n + 1) cC from fun aC cC => by rw [hv2]; simp [rfA])
      have ht2 := Lib.hid (show t = toldV v' from by rw [ht.out, hz.out]; rfl)
      have hval := Lib.hid (show vX (xs ++ [x]) = v'.xs from by rw [hv2]; show _ = v.xs ++ [x.v]; rw [← h0.out.val]; simp [vX])
      have hinv := Lib.hid (show VInv v' from by rw [hv'.out]; exact h0.out.inv.toAdd x.v)
      have hLX : Hid (xs.flatMap xcC ++ xcC x = (xs ++ [x]).flatMap xcC) := Lib.hid (by simp [List.flatMap_append])
      replace hof := Lib.hid hof
      clear hv' hv2
      go_wp2_with (first
        | (refine wpList_blk_alloc rfl rfl Tryd.exZ w2.heap.size rfl ?_)
        | (refine wpList_blk_store (cs := #[.int .i64 0, .int .u64 0, .int .i64 0, .slice none 0 0, .int .u64 0, .int .i64 0]) rfl (.tmp 6) (.tmp 13) rfl rfl rfl hZ hiZ rfl (by simp [Value.oneCell']) ?_; intro w4 hX4 hK4 hsz4; have hb4 := alloc_store hK4; have hB4 := hB2.below hb4 hB2.lt; have hE4 := hE2.below hb4 hE2.lt; have hX4' := hX2.below hb4 hX2.lt; have hs4 := Nat.le_trans hs2 hb4.size; obtain ⟨c0, c1, c2, c3, c4⟩ := blk5 hB4; obtain ⟨x0, _, _, _, _, _⟩ := blk6 hX4'))
      refine (HM.out true hm1.out _).mono ?_
      rintro e w3' ⟨rfl, rfl⟩
      have hb14 := Lib.hid (belS hb12 hb4)
      clear c0 c1 c2 c3 c4 x0 hB2 hX2 hE2 hs2 hb12 hZ hX4 hK4 hsz4 hb4
      go_upto_region 4 with (fail)
      go_cut [] from 25 to 31 (fun wx => ∃ aC cC, BlkAt wx w.heap.size 53 (rfA v' aC (n + 1) cC) ∧ BlkAt wx (w.heap.size + 2) 53 #[.int .u64 0, .int .i64 0, .int .u64 0, .slice none 0 0, .int .u64 0] ∧ Rd wx 6 aC (n + 1) cC ((xs ++ [x]).flatMap xcC) ∧ (Below w.heap.size w wx ∧ w.heap.size + 3 ≤ wx.heap.size) ∧ ∀ g off, aC = some ⟨g, off, none⟩ → w.heap.size + 3 ≤ g)
      case first => as_aux_lemma =>
        have hBd : BlkAt w4.drew w.heap.size 53 (rfA v a n c) := hB4
        have hXd : BlkAt w4.drew (w.heap.size + 1) 43 (xcA x) := hX4'
        have hEd : BlkAt w4.drew (w.heap.size + 2) 53 #[.int .u64 0, .int .i64 0, .int .u64 0, .slice none 0 0, .int .u64 0] := hE4
        have hbd : Below w.heap.size w w4.drew := hb14.out.drew
        have hsd : w.heap.size + 3 ≤ w4.drew.heap.size := hs4
        have hRd : Rd w4.drew 6 a n c (xs.flatMap xcC) := (h0.out.rd.below hbd).row
        clear hB4 hX4' hE4 hb14 hs4
        have hb0 := Lib.hid (Below.refl w4.drew.heap.size w4.drew)
        have hW0 := Lib.hid hsd
        have HS := Lib.hid (fun W (hb : Below w4.drew.heap.size w4.drew W) => show W.rangeAt (w.heap.size + 1) 0 (xcC x) from (hXd.below hb hXd.lt).range (fun j v hj => by rw [Nat.zero_add]; simpa [xcA, xcC] using hj))
        have HSet := Lib.hid (fun W (hb : Below w4.drew.heap.size w4.drew W) (u : Value) => show (W.setCell ⟨w.heap.size, 3, none⟩ u).rangeAt (w.heap.size + 1) 0 (xcC x) from (BlkAt.other (hXd.below hb hXd.lt) (a := ⟨w.heap.size, 3, none⟩) (by simp) u).range (fun j v hj => by rw [Nat.zero_add]; simpa [xcA, xcC] using hj))
        have HBl := Lib.hid (fun W (hb : Below w4.drew.heap.size w4.drew W) (u : Value) => show Below w.heap.size w (W.setCell ⟨w.heap.size, 3, none⟩ u) ∧ w.heap.size + 3 ≤ (W.setCell ⟨w.heap.size, 3, none⟩ u).heap.size from ⟨(belS hbd hb).setCell (Nat.le_refl _) u, by have := hb.size; simp; omega⟩)
        have HBk := Lib.hid (fun W (hb : Below w4.drew.heap.size w4.drew W) => hBd.below hb hBd.lt)
        have HEk := Lib.hid (fun W (hb : Below w4.drew.heap.size w4.drew W) => hEd.below hb hEd.lt)
        have HRL := Lib.hid (fun W (hb : Below w4.drew.heap.size w4.drew W) => Rd.below hRd hb (Nat.le_refl _))
        have HLc := Lib.hid (fun W (hb : Below w4.drew.heap.size w4.drew W) => show W.cell? ⟨w.heap.size, 3, none⟩ = some (.slice a n c) from (hBd.below hb hBd.lt).cell rfl)
        clear hBd hXd hEd hbd hsd hRd
        refine wp_region_held_drew (S := fun W => W.rangeAt (w.heap.size + 1) 0 (xcC x)) (by kernel_rfl) (HS.out _ hb0.out) ?_
        intro hHeld
        generalize w4.drew = W0 at *
        (refine wpAnyH_take (i := 1) (v := ?_) rfl (by kernel_rfl) (by kernel_rfl) (by kernel_rfl) (fun _ _ _ h => h) (Or.inl ⟨by rfl, ?_⟩) (by assumption) ?_; rotate_left; (focus (intro w hSw; clear hSw; go_simp; (try with_reducible rfl))); (try simp only [Act.put, List.getElem_toArray, List.getElem_cons_zero, List.getElem_cons_succ, List.setIfInBounds_toArray, List.set_cons_zero, List.set_cons_succ]))
        refine wpAnyH_take (i := 4) (v := .agg (xcA x)) rfl (by kernel_rfl) (by kernel_rfl) (by kernel_rfl) (fun _ _ _ h => h) ?_ (by assumption) ?_
        · exact yieldsIf_load_mid (by rfl) 43 (.tmp 3) rfl (w.heap.size + 1) 0 rfl (xcC x) _ (fun W hW => hW) Tryd.underlying43 rfl hiX
        (try simp only [Act.put, List.getElem_toArray, List.getElem_cons_zero, List.getElem_cons_succ, List.setIfInBounds_toArray, List.set_cons_zero, List.set_cons_succ])
        refine wpAnyH_ready (rs := [0, 2, 5]) (by kernel_rfl) (by simp) ?_
        refine AllReadyH.cons rfl (fun K hK => ?_) (AllReadyH.cons rfl (fun K hK => ?_) (AllReadyH.cons rfl (fun K hK => ?_) AllReadyH.nil))
        · go_simp
          have oE1 := World.ownsRow_made (base := W0.heap.size) (e := 43) (size := 6) W0 #[] 0 hb0.out.size (Nat.zero_le _) rfl
          have b1 := Lib.hid (belS hb0.out (alloc_below W0 (.cells #[] 43)))
          have hle1 : W0.heap.size < (W0.alloc (.cells #[] 43)).heap.size := by simp
          generalize (W0.alloc (.cells #[] 43)) = V1 at *
          refine hK.out _ _ (HS.out _ b1.out) (fun hH1 => ?_)
          clear hK K hHeld
          refine wpAnyH_ready (rs := [2, 5]) (by kernel_rfl) (by simp) ?_
          refine AllReadyH.cons rfl (fun K hK => ?_) (AllReadyH.cons rfl (fun K hK => ?_) AllReadyH.nil)
          · have lc2 := HLc.out _ b1.out
            go_simp
            clear lc2
            have b2 := b1
            refine hK.out _ _ (HS.out _ b2.out) (fun hH2 => ?_)
            clear hK K hH1
            refine wpAnyH_ready (rs := [3, 5]) (by kernel_rfl) (by simp) ?_
            refine AllReadyH.cons rfl (fun K hK => ?_) (AllReadyH.cons rfl (fun K hK => ?_) AllReadyH.nil)
            · refine step_append_gen (base := W0.heap.size) (v := .slice (some ⟨W0.heap.size, 0, none⟩) 0 0) (n := 0) (xs := []) Tryd.exE rfl (.tmp 25) (.tmp 27) rfl (by rfl) oE1 (by rfl) (HRL.out _ b2.out) (xcC_one xs) (by unfold maxLen; omega) (by omega) b2.out.size ?_
              intro vA3 V3 oA3 gA3
              rw [Nat.zero_add, List.nil_append] at oA3
              have b3 := Lib.hid (belG b2.out gA3 b2.out.size (fun g hg => (oE1.lt g hg).1))
              obtain ⟨aA3, cA3, rfl, _⟩ := Rd.own oA3
              (try simp only [Act.put, List.getElem_toArray, List.getElem_cons_zero, List.getElem_cons_succ, List.setIfInBounds_toArray, List.set_cons_zero, List.set_cons_succ])
              refine hK.out _ _ (HS.out _ b3.out) (fun hH3 => ?_)
              clear hK K hH2
              (refine wpAnyH_ready (rs := [5]) (by kernel_rfl) (by simp) ?_; refine AllReadyH.cons rfl (fun K hK => ?_) AllReadyH.nil)
              refine step_buildSlice1 (cs := xcA x) (some 30) rfl rfl 38 43 (.tmp 29) rfl Tryd.exE (by decide) (by rfl) rfl ?_
              (try simp only [Act.put, List.getElem_toArray, List.getElem_cons_zero, List.getElem_cons_succ, List.setIfInBounds_toArray, List.set_cons_zero, List.set_cons_succ])
              have li4 : Rd (V3.alloc (.cells (xcA x) 43)) 6 (some ⟨V3.heap.size, 0, none⟩) 1 1 (xcC x) := Rd.blk1 (w := V3) (e := 43) (cs := xcC x) rfl rfl
              have b4 := Lib.hid (belS b3.out (alloc_below V3 (.cells (xcA x) 43)))
              have hle4 : V3.heap.size < (V3.alloc (.cells (xcA x) 43)).heap.size := by simp
              have ow4 := own_belowB oA3 (alloc_below V3 (.cells (xcA x) 43))
              generalize (V3.alloc (.cells (xcA x) 43)) = V4 at *
              refine hK.out _ _ (HS.out _ b4.out) (fun hH4 => ?_)
              clear hK K hH3
              (refine wpAnyH_ready (rs := [6]) (by kernel_rfl) (by simp) ?_; refine AllReadyH.cons rfl (fun K hK => ?_) AllReadyH.nil)
              refine step_append_gen (base := W0.heap.size) (v := .slice aA3 n cA3) (n := n) (xs := xs.flatMap xcC) Tryd.exE rfl (.tmp 28) (.tmp 30) rfl (by rfl) ow4 (by rfl) li4 (fun u hu => xcC_one [x] u (by simpa using hu)) (by unfold maxLen; omega) (by omega) b4.out.size ?_
              intro vC V5 oC gC
              have b5 := Lib.hid (belG b4.out gC b4.out.size (fun g hg => (ow4.lt g hg).1))
              obtain ⟨aC, cC, rfl, rC⟩ := Rd.own oC
              (try simp only [Act.put, List.getElem_toArray, List.getElem_cons_zero, List.getElem_cons_succ, List.setIfInBounds_toArray, List.set_cons_zero, List.set_cons_succ])
              refine hK.out _ _ (HS.out _ b5.out) (fun hH5 => ?_)
              clear hK K hH4
              (refine wpAnyH_take (i := 7) (v := ?_) rfl (by kernel_rfl) (by kernel_rfl) (by kernel_rfl) (fun _ _ _ h => h) (Or.inl ⟨by rfl, ?_⟩) (by assumption) ?_; rotate_left; (focus (intro w hSw; clear hSw; go_simp; (try with_reducible rfl))); (try simp only [Act.put, List.getElem_toArray, List.getElem_cons_zero, List.getElem_cons_succ, List.setIfInBounds_toArray, List.set_cons_zero, List.set_cons_succ]))
              (refine wpAnyH_ready (rs := [8]) (by kernel_rfl) (by simp) ?_; refine AllReadyH.cons rfl (fun K hK => ?_) AllReadyH.nil)
              have hBk := HBk.out _ b5.out
              have f3 := hBk.fz 3
              have hEk := HEk.out _ b5.out
              have hst := BlkAt.set hBk 3 (.slice aC (n + 1) cC)
              rw [hset.out aC cC] at hst
              have hot := BlkAt.other hEk (a := ⟨w.heap.size, 3, none⟩) (by simp) (.slice aC (n + 1) cC)
              have hrx := HSet.out _ b5.out (.slice aC (n + 1) cC)
              have hbl := HBl.out _ b5.out (.slice aC (n + 1) cC)
              have hnb : ∀ g off, aC = some ⟨g, off, none⟩ → w.heap.size + 3 ≤ g := fun g off e => by subst e; have := (oC.lt g rfl).1; have := hW0.out; omega
              have hrc := Kp.rd ((Kp.refl w.heap.size V5).setCell ⟨w.heap.size, 3, none⟩ rfl (.slice aC (n + 1) cC)) rC (fun g off e => by subst e; have := (oC.lt g rfl).1; have := hW0.out; omega)
              clear hBk hEk
              have lc := HLc.out _ b5.out
              go_simp
              clear lc f3
              generalize (V5.setCell ⟨w.heap.size, 3, none⟩ (.slice aC (n + 1) cC)) = V9 at *
              refine hK.out _ _ hrx (fun hH9 => ?_)
              clear hK K hH5
              refine wpAnyH_done (by kernel_rfl) ?_ _
              go_wp2_with fail
              go_meet
              exact ⟨aC, cC, hst, hot, by rw [← hLX.out]; exact hrc, hbl, hnb⟩
            · refine step_buildSlice1 (cs := xcA x) (some 30) rfl rfl 38 43 (.tmp 29) rfl Tryd.exE (by decide) (by rfl) rfl ?_
              (try simp only [Act.put, List.getElem_toArray, List.getElem_cons_zero, List.getElem_cons_succ, List.setIfInBounds_toArray, List.set_cons_zero, List.set_cons_succ])
              have li6 : Rd (V1.alloc (.cells (xcA x) 43)) 6 (some ⟨V1.heap.size, 0, none⟩) 1 1 (xcC x) := Rd.blk1 (w := V1) (e := 43) (cs := xcC x) rfl rfl
              have b6 := Lib.hid (belS b2.out (alloc_below V1 (.cells (xcA x) 43)))
              have hle6 : V1.heap.size < (V1.alloc (.cells (xcA x) 43)).heap.size := by simp
              have ow6 := own_belowB oE1 (alloc_below V1 (.cells (xcA x) 43))
              generalize (V1.alloc (.cells (xcA x) 43)) = V6 at *
              refine hK.out _ _ (HS.out _ b6.out) (fun hH6 => ?_)
              clear hK K hH2
              (refine wpAnyH_ready (rs := [3]) (by kernel_rfl) (by simp) ?_; refine AllReadyH.cons rfl (fun K hK => ?_) AllReadyH.nil)
              refine step_append_gen (base := W0.heap.size) (v := .slice (some ⟨W0.heap.size, 0, none⟩) 0 0) (n := 0) (xs := []) Tryd.exE rfl (.tmp 25) (.tmp 27) rfl (by rfl) ow6 (by rfl) (HRL.out _ b6.out) (xcC_one xs) (by unfold maxLen; omega) (by omega) b6.out.size ?_
              intro vA7 V7 oA7 gA7
              rw [Nat.zero_add, List.nil_append] at oA7
              have b7 := Lib.hid (belG b6.out gA7 b6.out.size (fun g hg => (ow6.lt g hg).1))
              have li7 := Rd.grown li6 gA7 (fun e => by have e2 : some W0.heap.size = some V1.heap.size := e; injection e2 with e2; omega)
              obtain ⟨aA7, cA7, rfl, _⟩ := Rd.own oA7
              (try simp only [Act.put, List.getElem_toArray, List.getElem_cons_zero, List.getElem_cons_succ, List.setIfInBounds_toArray, List.set_cons_zero, List.set_cons_succ])
              refine hK.out _ _ (HS.out _ b7.out) (fun hH7 => ?_)
              clear hK K hH6
              (refine wpAnyH_ready (rs := [6]) (by kernel_rfl) (by simp) ?_; refine AllReadyH.cons rfl (fun K hK => ?_) AllReadyH.nil)
              refine step_append_gen (base := W0.heap.size) (v := .slice aA7 n cA7) (n := n) (xs := xs.flatMap xcC) Tryd.exE rfl (.tmp 28) (.tmp 30) rfl (by rfl) oA7 (by rfl) li7 (fun u hu => xcC_one [x] u (by simpa using hu)) (by unfold maxLen; omega) (by omega) b7.out.size ?_
              intro vC V8 oC gC
              have b8 := Lib.hid (belG b7.out gC b7.out.size (fun g hg => (oA7.lt g hg).1))
              obtain ⟨aC, cC, rfl, rC⟩ := Rd.own oC
              (try simp only [Act.put, List.getElem_toArray, List.getElem_cons_zero, List.getElem_cons_succ, List.setIfInBounds_toArray, List.set_cons_zero, List.set_cons_succ])
              refine hK.out _ _ (HS.out _ b8.out) (fun hH8 => ?_)
              clear hK K hH7
              (refine wpAnyH_take (i := 7) (v := ?_) rfl (by kernel_rfl) (by kernel_rfl) (by kernel_rfl) (fun _ _ _ h => h) (Or.inl ⟨by rfl, ?_⟩) (by assumption) ?_; rotate_left; (focus (intro w hSw; clear hSw; go_simp; (try with_reducible rfl))); (try simp only [Act.put, List.getElem_toArray, List.getElem_cons_zero, List.getElem_cons_succ, List.setIfInBounds_toArray, List.set_cons_zero, List.set_cons_succ]))
              (refine wpAnyH_ready (rs := [8]) (by kernel_rfl) (by simp) ?_; refine AllReadyH.cons rfl (fun K hK => ?_) AllReadyH.nil)
              have hBk := HBk.out _ b8.out
              have f3 := hBk.fz 3
              have hEk := HEk.out _ b8.out
              have hst := BlkAt.set hBk 3 (.slice aC (n + 1) cC)
              rw [hset.out aC cC] at hst
              have hot := BlkAt.other hEk (a := ⟨w.heap.size, 3, none⟩) (by simp) (.slice aC (n + 1) cC)
              have hrx := HSet.out _ b8.out (.slice aC (n + 1) cC)
              have hbl := HBl.out _ b8.out (.slice aC (n + 1) cC)
              have hnb : ∀ g off, aC = some ⟨g, off, none⟩ → w.heap.size + 3 ≤ g := fun g off e => by subst e; have := (oC.lt g rfl).1; have := hW0.out; omega
              have hrc := Kp.rd ((Kp.refl w.heap.size V8).setCell ⟨w.heap.size, 3, none⟩ rfl (.slice aC (n + 1) cC)) rC (fun g off e => by subst e; have := (oC.lt g rfl).1; have := hW0.out; omega)
              clear hBk hEk
              have lc := HLc.out _ b8.out
              go_simp
              clear lc f3
              generalize (V8.setCell ⟨w.heap.size, 3, none⟩ (.slice aC (n + 1) cC)) = V9 at *
              refine hK.out _ _ hrx (fun hH9 => ?_)
              clear hK K hH8
              refine wpAnyH_done (by kernel_rfl) ?_ _
              go_wp2_with fail
              go_meet
              exact ⟨aC, cC, hst, hot, by rw [← hLX.out]; exact hrc, hbl, hnb⟩
          · refine step_buildSlice1 (cs := xcA x) (some 30) rfl rfl 38 43 (.tmp 29) rfl Tryd.exE (by decide) (by rfl) rfl ?_
            (try simp only [Act.put, List.getElem_toArray, List.getElem_cons_zero, List.getElem_cons_succ, List.setIfInBounds_toArray, List.set_cons_zero, List.set_cons_succ])
            have li9 : Rd (V1.alloc (.cells (xcA x) 43)) 6 (some ⟨V1.heap.size, 0, none⟩) 1 1 (xcC x) := Rd.blk1 (w := V1) (e := 43) (cs := xcC x) rfl rfl
            have b9 := Lib.hid (belS b1.out (alloc_below V1 (.cells (xcA x) 43)))
            have hle9 : V1.heap.size < (V1.alloc (.cells (xcA x) 43)).heap.size := by simp
            have ow9 := own_belowB oE1 (alloc_below V1 (.cells (xcA x) 43))
            generalize (V1.alloc (.cells (xcA x) 43)) = V9 at *
            refine hK.out _ _ (HS.out _ b9.out) (fun hH9 => ?_)
            clear hK K hH1
            (refine wpAnyH_ready (rs := [2]) (by kernel_rfl) (by simp) ?_; refine AllReadyH.cons rfl (fun K hK => ?_) AllReadyH.nil)
            have lc10 := HLc.out _ b9.out
            go_simp
            clear lc10
            have b10 := b9
            refine hK.out _ _ (HS.out _ b10.out) (fun hH10 => ?_)
            clear hK K hH9
            (refine wpAnyH_ready (rs := [3]) (by kernel_rfl) (by simp) ?_; refine AllReadyH.cons rfl (fun K hK => ?_) AllReadyH.nil)
            refine step_append_gen (base := W0.heap.size) (v := .slice (some ⟨W0.heap.size, 0, none⟩) 0 0) (n := 0) (xs := []) Tryd.exE rfl (.tmp 25) (.tmp 27) rfl (by rfl) ow9 (by rfl) (HRL.out _ b10.out) (xcC_one xs) (by unfold maxLen; omega) (by omega) b10.out.size ?_
            intro vA11 V11 oA11 gA11
            rw [Nat.zero_add, List.nil_append] at oA11
            have b11 := Lib.hid (belG b10.out gA11 b10.out.size (fun g hg => (ow9.lt g hg).1))
            have li11 := Rd.grown li9 gA11 (fun e => by have e2 : some W0.heap.size = some V1.heap.size := e; injection e2 with e2; omega)
            obtain ⟨aA11, cA11, rfl, _⟩ := Rd.own oA11
            (try simp only [Act.put, List.getElem_toArray, List.getElem_cons_zero, List.getElem_cons_succ, List.setIfInBounds_toArray, List.set_cons_zero, List.set_cons_succ])
            refine hK.out _ _ (HS.out _ b11.out) (fun hH11 => ?_)
            clear hK K hH10
            (refine wpAnyH_ready (rs := [6]) (by kernel_rfl) (by simp) ?_; refine AllReadyH.cons rfl (fun K hK => ?_) AllReadyH.nil)
            refine step_append_gen (base := W0.heap.size) (v := .slice aA11 n cA11) (n := n) (xs := xs.flatMap xcC) Tryd.exE rfl (.tmp 28) (.tmp 30) rfl (by rfl) oA11 (by rfl) li11 (fun u hu => xcC_one [x] u (by simpa using hu)) (by unfold maxLen; omega) (by omega) b11.out.size ?_
            intro vC V12 oC gC
            have b12 := Lib.hid (belG b11.out gC b11.out.size (fun g hg => (oA11.lt g hg).1))
            obtain ⟨aC, cC, rfl, rC⟩ := Rd.own oC
            (try simp only [Act.put, List.getElem_toArray, List.getElem_cons_zero, List.getElem_cons_succ, List.setIfInBounds_toArray, List.set_cons_zero, List.set_cons_succ])
            refine hK.out _ _ (HS.out _ b12.out) (fun hH12 => ?_)
            clear hK K hH11
            (refine wpAnyH_take (i := 7) (v := ?_) rfl (by kernel_rfl) (by kernel_rfl) (by kernel_rfl) (fun _ _ _ h => h) (Or.inl ⟨by rfl, ?_⟩) (by assumption) ?_; rotate_left; (focus (intro w hSw; clear hSw; go_simp; (try with_reducible rfl))); (try simp only [Act.put, List.getElem_toArray, List.getElem_cons_zero, List.getElem_cons_succ, List.setIfInBounds_toArray, List.set_cons_zero, List.set_cons_succ]))
            (refine wpAnyH_ready (rs := [8]) (by kernel_rfl) (by simp) ?_; refine AllReadyH.cons rfl (fun K hK => ?_) AllReadyH.nil)
            have hBk := HBk.out _ b12.out
            have f3 := hBk.fz 3
            have hEk := HEk.out _ b12.out
            have hst := BlkAt.set hBk 3 (.slice aC (n + 1) cC)
            rw [hset.out aC cC] at hst
            have hot := BlkAt.other hEk (a := ⟨w.heap.size, 3, none⟩) (by simp) (.slice aC (n + 1) cC)
            have hrx := HSet.out _ b12.out (.slice aC (n + 1) cC)
            have hbl := HBl.out _ b12.out (.slice aC (n + 1) cC)
            have hnb : ∀ g off, aC = some ⟨g, off, none⟩ → w.heap.size + 3 ≤ g := fun g off e => by subst e; have := (oC.lt g rfl).1; have := hW0.out; omega
            have hrc := Kp.rd ((Kp.refl w.heap.size V12).setCell ⟨w.heap.size, 3, none⟩ rfl (.slice aC (n + 1) cC)) rC (fun g off e => by subst e; have := (oC.lt g rfl).1; have := hW0.out; omega)
            clear hBk hEk
            have lc := HLc.out _ b12.out
            go_simp
            clear lc f3
            generalize (V12.setCell ⟨w.heap.size, 3, none⟩ (.slice aC (n + 1) cC)) = V9 at *
            refine hK.out _ _ hrx (fun hH9 => ?_)
            clear hK K hH12
            refine wpAnyH_done (by kernel_rfl) ?_ _
            go_wp2_with fail
            go_meet
            exact ⟨aC, cC, hst, hot, by rw [← hLX.out]; exact hrc, hbl, hnb⟩
        · have lc13 := HLc.out _ hb0.out
          go_simp
          clear lc13
          have b13 := hb0
          refine hK.out _ _ (HS.out _ b13.out) (fun hH13 => ?_)
          clear hK K hHeld
          refine wpAnyH_ready (rs := [0, 5]) (by kernel_rfl) (by simp) ?_
          refine AllReadyH.cons rfl (fun K hK => ?_) (AllReadyH.cons rfl (fun K hK => ?_) AllReadyH.nil)
          · go_simp
            have oE14 := World.ownsRow_made (base := W0.heap.size) (e := 43) (size := 6) W0 #[] 0 b13.out.size (Nat.zero_le _) rfl
            have b14 := Lib.hid (belS b13.out (alloc_below W0 (.cells #[] 43)))
            have hle14 : W0.heap.size < (W0.alloc (.cells #[] 43)).heap.size := by simp
            generalize (W0.alloc (.cells #[] 43)) = V14 at *
            refine hK.out _ _ (HS.out _ b14.out) (fun hH14 => ?_)
            clear hK K hH13
            refine wpAnyH_ready (rs := [3, 5]) (by kernel_rfl) (by simp) ?_
            refine AllReadyH.cons rfl (fun K hK => ?_) (AllReadyH.cons rfl (fun K hK => ?_) AllReadyH.nil)
            · refine step_append_gen (base := W0.heap.size) (v := .slice (some ⟨W0.heap.size, 0, none⟩) 0 0) (n := 0) (xs := []) Tryd.exE rfl (.tmp 25) (.tmp 27) rfl (by rfl) oE14 (by rfl) (HRL.out _ b14.out) (xcC_one xs) (by unfold maxLen; omega) (by omega) b14.out.size ?_
              intro vA15 V15 oA15 gA15
              rw [Nat.zero_add, List.nil_append] at oA15
              have b15 := Lib.hid (belG b14.out gA15 b14.out.size (fun g hg => (oE14.lt g hg).1))
              obtain ⟨aA15, cA15, rfl, _⟩ := Rd.own oA15
              (try simp only [Act.put, List.getElem_toArray, List.getElem_cons_zero, List.getElem_cons_succ, List.setIfInBounds_toArray, List.set_cons_zero, List.set_cons_succ])
              refine hK.out _ _ (HS.out _ b15.out) (fun hH15 => ?_)
              clear hK K hH14
              (refine wpAnyH_ready (rs := [5]) (by kernel_rfl) (by simp) ?_; refine AllReadyH.cons rfl (fun K hK => ?_) AllReadyH.nil)
              refine step_buildSlice1 (cs := xcA x) (some 30) rfl rfl 38 43 (.tmp 29) rfl Tryd.exE (by decide) (by rfl) rfl ?_
              (try simp only [Act.put, List.getElem_toArray, List.getElem_cons_zero, List.getElem_cons_succ, List.setIfInBounds_toArray, List.set_cons_zero, List.set_cons_succ])
              have li16 : Rd (V15.alloc (.cells (xcA x) 43)) 6 (some ⟨V15.heap.size, 0, none⟩) 1 1 (xcC x) := Rd.blk1 (w := V15) (e := 43) (cs := xcC x) rfl rfl
              have b16 := Lib.hid (belS b15.out (alloc_below V15 (.cells (xcA x) 43)))
              have hle16 : V15.heap.size < (V15.alloc (.cells (xcA x) 43)).heap.size := by simp
              have ow16 := own_belowB oA15 (alloc_below V15 (.cells (xcA x) 43))
              generalize (V15.alloc (.cells (xcA x) 43)) = V16 at *
              refine hK.out _ _ (HS.out _ b16.out) (fun hH16 => ?_)
              clear hK K hH15
              (refine wpAnyH_ready (rs := [6]) (by kernel_rfl) (by simp) ?_; refine AllReadyH.cons rfl (fun K hK => ?_) AllReadyH.nil)
              refine step_append_gen (base := W0.heap.size) (v := .slice aA15 n cA15) (n := n) (xs := xs.flatMap xcC) Tryd.exE rfl (.tmp 28) (.tmp 30) rfl (by rfl) ow16 (by rfl) li16 (fun u hu => xcC_one [x] u (by simpa using hu)) (by unfold maxLen; omega) (by omega) b16.out.size ?_
              intro vC V17 oC gC
              have b17 := Lib.hid (belG b16.out gC b16.out.size (fun g hg => (ow16.lt g hg).1))
              obtain ⟨aC, cC, rfl, rC⟩ := Rd.own oC
              (try simp only [Act.put, List.getElem_toArray, List.getElem_cons_zero, List.getElem_cons_succ, List.setIfInBounds_toArray, List.set_cons_zero, List.set_cons_succ])
              refine hK.out _ _ (HS.out _ b17.out) (fun hH17 => ?_)
              clear hK K hH16
              (refine wpAnyH_take (i := 7) (v := ?_) rfl (by kernel_rfl) (by kernel_rfl) (by kernel_rfl) (fun _ _ _ h => h) (Or.inl ⟨by rfl, ?_⟩) (by assumption) ?_; rotate_left; (focus (intro w hSw; clear hSw; go_simp; (try with_reducible rfl))); (try simp only [Act.put, List.getElem_toArray, List.getElem_cons_zero, List.getElem_cons_succ, List.setIfInBounds_toArray, List.set_cons_zero, List.set_cons_succ]))
              (refine wpAnyH_ready (rs := [8]) (by kernel_rfl) (by simp) ?_; refine AllReadyH.cons rfl (fun K hK => ?_) AllReadyH.nil)
              have hBk := HBk.out _ b17.out
              have f3 := hBk.fz 3
              have hEk := HEk.out _ b17.out
              have hst := BlkAt.set hBk 3 (.slice aC (n + 1) cC)
              rw [hset.out aC cC] at hst
              have hot := BlkAt.other hEk (a := ⟨w.heap.size, 3, none⟩) (by simp) (.slice aC (n + 1) cC)
              have hrx := HSet.out _ b17.out (.slice aC (n + 1) cC)
              have hbl := HBl.out _ b17.out (.slice aC (n + 1) cC)
              have hnb : ∀ g off, aC = some ⟨g, off, none⟩ → w.heap.size + 3 ≤ g := fun g off e => by subst e; have := (oC.lt g rfl).1; have := hW0.out; omega
              have hrc := Kp.rd ((Kp.refl w.heap.size V17).setCell ⟨w.heap.size, 3, none⟩ rfl (.slice aC (n + 1) cC)) rC (fun g off e => by subst e; have := (oC.lt g rfl).1; have := hW0.out; omega)
              clear hBk hEk
              have lc := HLc.out _ b17.out
              go_simp
              clear lc f3
              generalize (V17.setCell ⟨w.heap.size, 3, none⟩ (.slice aC (n + 1) cC)) = V9 at *
              refine hK.out _ _ hrx (fun hH9 => ?_)
              clear hK K hH17
              refine wpAnyH_done (by kernel_rfl) ?_ _
              go_wp2_with fail
              go_meet
              exact ⟨aC, cC, hst, hot, by rw [← hLX.out]; exact hrc, hbl, hnb⟩
            · refine step_buildSlice1 (cs := xcA x) (some 30) rfl rfl 38 43 (.tmp 29) rfl Tryd.exE (by decide) (by rfl) rfl ?_
              (try simp only [Act.put, List.getElem_toArray, List.getElem_cons_zero, List.getElem_cons_succ, List.setIfInBounds_toArray, List.set_cons_zero, List.set_cons_succ])
              have li18 : Rd (V14.alloc (.cells (xcA x) 43)) 6 (some ⟨V14.heap.size, 0, none⟩) 1 1 (xcC x) := Rd.blk1 (w := V14) (e := 43) (cs := xcC x) rfl rfl
              have b18 := Lib.hid (belS b14.out (alloc_below V14 (.cells (xcA x) 43)))
              have hle18 : V14.heap.size < (V14.alloc (.cells (xcA x) 43)).heap.size := by simp
              have ow18 := own_belowB oE14 (alloc_below V14 (.cells (xcA x) 43))
              generalize (V14.alloc (.cells (xcA x) 43)) = V18 at *
              refine hK.out _ _ (HS.out _ b18.out) (fun hH18 => ?_)
              clear hK K hH14
              (refine wpAnyH_ready (rs := [3]) (by kernel_rfl) (by simp) ?_; refine AllReadyH.cons rfl (fun K hK => ?_) AllReadyH.nil)
              refine step_append_gen (base := W0.heap.size) (v := .slice (some ⟨W0.heap.size, 0, none⟩) 0 0) (n := 0) (xs := []) Tryd.exE rfl (.tmp 25) (.tmp 27) rfl (by rfl) ow18 (by rfl) (HRL.out _ b18.out) (xcC_one xs) (by unfold maxLen; omega) (by omega) b18.out.size ?_
              intro vA19 V19 oA19 gA19
              rw [Nat.zero_add, List.nil_append] at oA19
              have b19 := Lib.hid (belG b18.out gA19 b18.out.size (fun g hg => (ow18.lt g hg).1))
              have li19 := Rd.grown li18 gA19 (fun e => by have e2 : some W0.heap.size = some V14.heap.size := e; injection e2 with e2; omega)
              obtain ⟨aA19, cA19, rfl, _⟩ := Rd.own oA19
              (try simp only [Act.put, List.getElem_toArray, List.getElem_cons_zero, List.getElem_cons_succ, List.setIfInBounds_toArray, List.set_cons_zero, List.set_cons_succ])
              refine hK.out _ _ (HS.out _ b19.out) (fun hH19 => ?_)
              clear hK K hH18
              (refine wpAnyH_ready (rs := [6]) (by kernel_rfl) (by simp) ?_; refine AllReadyH.cons rfl (fun K hK => ?_) AllReadyH.nil)
              refine step_append_gen (base := W0.heap.size) (v := .slice aA19 n cA19) (n := n) (xs := xs.flatMap xcC) Tryd.exE rfl (.tmp 28) (.tmp 30) rfl (by rfl) oA19 (by rfl) li19 (fun u hu => xcC_one [x] u (by simpa using hu)) (by unfold maxLen; omega) (by omega) b19.out.size ?_
              intro vC V20 oC gC
              have b20 := Lib.hid (belG b19.out gC b19.out.size (fun g hg => (oA19.lt g hg).1))
              obtain ⟨aC, cC, rfl, rC⟩ := Rd.own oC
              (try simp only [Act.put, List.getElem_toArray, List.getElem_cons_zero, List.getElem_cons_succ, List.setIfInBounds_toArray, List.set_cons_zero, List.set_cons_succ])
              refine hK.out _ _ (HS.out _ b20.out) (fun hH20 => ?_)
              clear hK K hH19
              (refine wpAnyH_take (i := 7) (v := ?_) rfl (by kernel_rfl) (by kernel_rfl) (by kernel_rfl) (fun _ _ _ h => h) (Or.inl ⟨by rfl, ?_⟩) (by assumption) ?_; rotate_left; (focus (intro w hSw; clear hSw; go_simp; (try with_reducible rfl))); (try simp only [Act.put, List.getElem_toArray, List.getElem_cons_zero, List.getElem_cons_succ, List.setIfInBounds_toArray, List.set_cons_zero, List.set_cons_succ]))
              (refine wpAnyH_ready (rs := [8]) (by kernel_rfl) (by simp) ?_; refine AllReadyH.cons rfl (fun K hK => ?_) AllReadyH.nil)
              have hBk := HBk.out _ b20.out
              have f3 := hBk.fz 3
              have hEk := HEk.out _ b20.out
              have hst := BlkAt.set hBk 3 (.slice aC (n + 1) cC)
              rw [hset.out aC cC] at hst
              have hot := BlkAt.other hEk (a := ⟨w.heap.size, 3, none⟩) (by simp) (.slice aC (n + 1) cC)
              have hrx := HSet.out _ b20.out (.slice aC (n + 1) cC)
              have hbl := HBl.out _ b20.out (.slice aC (n + 1) cC)
              have hnb : ∀ g off, aC = some ⟨g, off, none⟩ → w.heap.size + 3 ≤ g := fun g off e => by subst e; have := (oC.lt g rfl).1; have := hW0.out; omega
              have hrc := Kp.rd ((Kp.refl w.heap.size V20).setCell ⟨w.heap.size, 3, none⟩ rfl (.slice aC (n + 1) cC)) rC (fun g off e => by subst e; have := (oC.lt g rfl).1; have := hW0.out; omega)
              clear hBk hEk
              have lc := HLc.out _ b20.out
              go_simp
              clear lc f3
              generalize (V20.setCell ⟨w.heap.size, 3, none⟩ (.slice aC (n + 1) cC)) = V9 at *
              refine hK.out _ _ hrx (fun hH9 => ?_)
              clear hK K hH20
              refine wpAnyH_done (by kernel_rfl) ?_ _
              go_wp2_with fail
              go_meet
              exact ⟨aC, cC, hst, hot, by rw [← hLX.out]; exact hrc, hbl, hnb⟩
          · refine step_buildSlice1 (cs := xcA x) (some 30) rfl rfl 38 43 (.tmp 29) rfl Tryd.exE (by decide) (by rfl) rfl ?_
            (try simp only [Act.put, List.getElem_toArray, List.getElem_cons_zero, List.getElem_cons_succ, List.setIfInBounds_toArray, List.set_cons_zero, List.set_cons_succ])
            have li21 : Rd (W0.alloc (.cells (xcA x) 43)) 6 (some ⟨W0.heap.size, 0, none⟩) 1 1 (xcC x) := Rd.blk1 (w := W0) (e := 43) (cs := xcC x) rfl rfl
            have b21 := Lib.hid (belS b13.out (alloc_below W0 (.cells (xcA x) 43)))
            have hle21 : W0.heap.size < (W0.alloc (.cells (xcA x) 43)).heap.size := by simp
            generalize (W0.alloc (.cells (xcA x) 43)) = V21 at *
            refine hK.out _ _ (HS.out _ b21.out) (fun hH21 => ?_)
            clear hK K hH13
            (refine wpAnyH_ready (rs := [0]) (by kernel_rfl) (by simp) ?_; refine AllReadyH.cons rfl (fun K hK => ?_) AllReadyH.nil)
            go_simp
            have oE22 := World.ownsRow_made (base := W0.heap.size) (e := 43) (size := 6) V21 #[] 0 b21.out.size (Nat.zero_le _) rfl
            have b22 := Lib.hid (belS b21.out (alloc_below V21 (.cells #[] 43)))
            have hle22 : V21.heap.size < (V21.alloc (.cells #[] 43)).heap.size := by simp
            have li22 := Rd.below li21 (alloc_below V21 (.cells #[] 43)) (Nat.le_refl _)
            generalize (V21.alloc (.cells #[] 43)) = V22 at *
            refine hK.out _ _ (HS.out _ b22.out) (fun hH22 => ?_)
            clear hK K hH21
            (refine wpAnyH_ready (rs := [3]) (by kernel_rfl) (by simp) ?_; refine AllReadyH.cons rfl (fun K hK => ?_) AllReadyH.nil)
            refine step_append_gen (base := W0.heap.size) (v := .slice (some ⟨V21.heap.size, 0, none⟩) 0 0) (n := 0) (xs := []) Tryd.exE rfl (.tmp 25) (.tmp 27) rfl (by rfl) oE22 (by rfl) (HRL.out _ b22.out) (xcC_one xs) (by unfold maxLen; omega) (by omega) b22.out.size ?_
            intro vA23 V23 oA23 gA23
            rw [Nat.zero_add, List.nil_append] at oA23
            have b23 := Lib.hid (belG b22.out gA23 b22.out.size (fun g hg => (oE22.lt g hg).1))
            have li23 := Rd.grown li22 gA23 (fun e => by have e2 : some V21.heap.size = some W0.heap.size := e; injection e2 with e2; omega)
            obtain ⟨aA23, cA23, rfl, _⟩ := Rd.own oA23
            (try simp only [Act.put, List.getElem_toArray, List.getElem_cons_zero, List.getElem_cons_succ, List.setIfInBounds_toArray, List.set_cons_zero, List.set_cons_succ])
            refine hK.out _ _ (HS.out _ b23.out) (fun hH23 => ?_)
            clear hK K hH22
            (refine wpAnyH_ready (rs := [6]) (by kernel_rfl) (by simp) ?_; refine AllReadyH.cons rfl (fun K hK => ?_) AllReadyH.nil)
            refine step_append_gen (base := W0.heap.size) (v := .slice aA23 n cA23) (n := n) (xs := xs.flatMap xcC) Tryd.exE rfl (.tmp 28) (.tmp 30) rfl (by rfl) oA23 (by rfl) li23 (fun u hu => xcC_one [x] u (by simpa using hu)) (by unfold maxLen; omega) (by omega) b23.out.size ?_
            intro vC V24 oC gC
            have b24 := Lib.hid (belG b23.out gC b23.out.size (fun g hg => (oA23.lt g hg).1))
            obtain ⟨aC, cC, rfl, rC⟩ := Rd.own oC
            (try simp only [Act.put, List.getElem_toArray, List.getElem_cons_zero, List.getElem_cons_succ, List.setIfInBounds_toArray, List.set_cons_zero, List.set_cons_succ])
            refine hK.out _ _ (HS.out _ b24.out) (fun hH24 => ?_)
            clear hK K hH23
            (refine wpAnyH_take (i := 7) (v := ?_) rfl (by kernel_rfl) (by kernel_rfl) (by kernel_rfl) (fun _ _ _ h => h) (Or.inl ⟨by rfl, ?_⟩) (by assumption) ?_; rotate_left; (focus (intro w hSw; clear hSw; go_simp; (try with_reducible rfl))); (try simp only [Act.put, List.getElem_toArray, List.getElem_cons_zero, List.getElem_cons_succ, List.setIfInBounds_toArray, List.set_cons_zero, List.set_cons_succ]))
            (refine wpAnyH_ready (rs := [8]) (by kernel_rfl) (by simp) ?_; refine AllReadyH.cons rfl (fun K hK => ?_) AllReadyH.nil)
            have hBk := HBk.out _ b24.out
            have f3 := hBk.fz 3
            have hEk := HEk.out _ b24.out
            have hst := BlkAt.set hBk 3 (.slice aC (n + 1) cC)
            rw [hset.out aC cC] at hst
            have hot := BlkAt.other hEk (a := ⟨w.heap.size, 3, none⟩) (by simp) (.slice aC (n + 1) cC)
            have hrx := HSet.out _ b24.out (.slice aC (n + 1) cC)
            have hbl := HBl.out _ b24.out (.slice aC (n + 1) cC)
            have hnb : ∀ g off, aC = some ⟨g, off, none⟩ → w.heap.size + 3 ≤ g := fun g off e => by subst e; have := (oC.lt g rfl).1; have := hW0.out; omega
            have hrc := Kp.rd ((Kp.refl w.heap.size V24).setCell ⟨w.heap.size, 3, none⟩ rfl (.slice aC (n + 1) cC)) rC (fun g off e => by subst e; have := (oC.lt g rfl).1; have := hW0.out; omega)
            clear hBk hEk
            have lc := HLc.out _ b24.out
            go_simp
            clear lc f3
            generalize (V24.setCell ⟨w.heap.size, 3, none⟩ (.slice aC (n + 1) cC)) = V9 at *
            refine hK.out _ _ hrx (fun hH9 => ?_)
            clear hK K hH24
            refine wpAnyH_done (by kernel_rfl) ?_ _
            go_wp2_with fail
            go_meet
            exact ⟨aC, cC, hst, hot, by rw [← hLX.out]; exact hrc, hbl, hnb⟩
        · refine step_buildSlice1 (cs := xcA x) (some 30) rfl rfl 38 43 (.tmp 29) rfl Tryd.exE (by decide) (by rfl) rfl ?_
          (try simp only [Act.put, List.getElem_toArray, List.getElem_cons_zero, List.getElem_cons_succ, List.setIfInBounds_toArray, List.set_cons_zero, List.set_cons_succ])
          have li25 : Rd (W0.alloc (.cells (xcA x) 43)) 6 (some ⟨W0.heap.size, 0, none⟩) 1 1 (xcC x) := Rd.blk1 (w := W0) (e := 43) (cs := xcC x) rfl rfl
          have b25 := Lib.hid (belS hb0.out (alloc_below W0 (.cells (xcA x) 43)))
          have hle25 : W0.heap.size < (W0.alloc (.cells (xcA x) 43)).heap.size := by simp
          generalize (W0.alloc (.cells (xcA x) 43)) = V25 at *
          refine hK.out _ _ (HS.out _ b25.out) (fun hH25 => ?_)
          clear hK K hHeld
          refine wpAnyH_ready (rs := [0, 2]) (by kernel_rfl) (by simp) ?_
          refine AllReadyH.cons rfl (fun K hK => ?_) (AllReadyH.cons rfl (fun K hK => ?_) AllReadyH.nil)
          · go_simp
            have oE26 := World.ownsRow_made (base := W0.heap.size) (e := 43) (size := 6) V25 #[] 0 b25.out.size (Nat.zero_le _) rfl
            have b26 := Lib.hid (belS b25.out (alloc_below V25 (.cells #[] 43)))
            have hle26 : V25.heap.size < (V25.alloc (.cells #[] 43)).heap.size := by simp
            have li26 := Rd.below li25 (alloc_below V25 (.cells #[] 43)) (Nat.le_refl _)
            generalize (V25.alloc (.cells #[] 43)) = V26 at *
            refine hK.out _ _ (HS.out _ b26.out) (fun hH26 => ?_)
            clear hK K hH25
            (refine wpAnyH_ready (rs := [2]) (by kernel_rfl) (by simp) ?_; refine AllReadyH.cons rfl (fun K hK => ?_) AllReadyH.nil)
            have lc27 := HLc.out _ b26.out
            go_simp
            clear lc27
            have b27 := b26
            refine hK.out _ _ (HS.out _ b27.out) (fun hH27 => ?_)
            clear hK K hH26
            (refine wpAnyH_ready (rs := [3]) (by kernel_rfl) (by simp) ?_; refine AllReadyH.cons rfl (fun K hK => ?_) AllReadyH.nil)
            refine step_append_gen (base := W0.heap.size) (v := .slice (some ⟨V25.heap.size, 0, none⟩) 0 0) (n := 0) (xs := []) Tryd.exE rfl (.tmp 25) (.tmp 27) rfl (by rfl) oE26 (by rfl) (HRL.out _ b27.out) (xcC_one xs) (by unfold maxLen; omega) (by omega) b27.out.size ?_
            intro vA28 V28 oA28 gA28
            rw [Nat.zero_add, List.nil_append] at oA28
            have b28 := Lib.hid (belG b27.out gA28 b27.out.size (fun g hg => (oE26.lt g hg).1))
            have li28 := Rd.grown li26 gA28 (fun e => by have e2 : some V25.heap.size = some W0.heap.size := e; injection e2 with e2; omega)
            obtain ⟨aA28, cA28, rfl, _⟩ := Rd.own oA28
            (try simp only [Act.put, List.getElem_toArray, List.getElem_cons_zero, List.getElem_cons_succ, List.setIfInBounds_toArray, List.set_cons_zero, List.set_cons_succ])
            refine hK.out _ _ (HS.out _ b28.out) (fun hH28 => ?_)
            clear hK K hH27
            (refine wpAnyH_ready (rs := [6]) (by kernel_rfl) (by simp) ?_; refine AllReadyH.cons rfl (fun K hK => ?_) AllReadyH.nil)
            refine step_append_gen (base := W0.heap.size) (v := .slice aA28 n cA28) (n := n) (xs := xs.flatMap xcC) Tryd.exE rfl (.tmp 28) (.tmp 30) rfl (by rfl) oA28 (by rfl) li28 (fun u hu => xcC_one [x] u (by simpa using hu)) (by unfold maxLen; omega) (by omega) b28.out.size ?_
            intro vC V29 oC gC
            have b29 := Lib.hid (belG b28.out gC b28.out.size (fun g hg => (oA28.lt g hg).1))
            obtain ⟨aC, cC, rfl, rC⟩ := Rd.own oC
            (try simp only [Act.put, List.getElem_toArray, List.getElem_cons_zero, List.getElem_cons_succ, List.setIfInBounds_toArray, List.set_cons_zero, List.set_cons_succ])
            refine hK.out _ _ (HS.out _ b29.out) (fun hH29 => ?_)
            clear hK K hH28
            (refine wpAnyH_take (i := 7) (v := ?_) rfl (by kernel_rfl) (by kernel_rfl) (by kernel_rfl) (fun _ _ _ h => h) (Or.inl ⟨by rfl, ?_⟩) (by assumption) ?_; rotate_left; (focus (intro w hSw; clear hSw; go_simp; (try with_reducible rfl))); (try simp only [Act.put, List.getElem_toArray, List.getElem_cons_zero, List.getElem_cons_succ, List.setIfInBounds_toArray, List.set_cons_zero, List.set_cons_succ]))
            (refine wpAnyH_ready (rs := [8]) (by kernel_rfl) (by simp) ?_; refine AllReadyH.cons rfl (fun K hK => ?_) AllReadyH.nil)
            have hBk := HBk.out _ b29.out
            have f3 := hBk.fz 3
            have hEk := HEk.out _ b29.out
            have hst := BlkAt.set hBk 3 (.slice aC (n + 1) cC)
            rw [hset.out aC cC] at hst
            have hot := BlkAt.other hEk (a := ⟨w.heap.size, 3, none⟩) (by simp) (.slice aC (n + 1) cC)
            have hrx := HSet.out _ b29.out (.slice aC (n + 1) cC)
            have hbl := HBl.out _ b29.out (.slice aC (n + 1) cC)
            have hnb : ∀ g off, aC = some ⟨g, off, none⟩ → w.heap.size + 3 ≤ g := fun g off e => by subst e; have := (oC.lt g rfl).1; have := hW0.out; omega
            have hrc := Kp.rd ((Kp.refl w.heap.size V29).setCell ⟨w.heap.size, 3, none⟩ rfl (.slice aC (n + 1) cC)) rC (fun g off e => by subst e; have := (oC.lt g rfl).1; have := hW0.out; omega)
            clear hBk hEk
            have lc := HLc.out _ b29.out
            go_simp
            clear lc f3
            generalize (V29.setCell ⟨w.heap.size, 3, none⟩ (.slice aC (n + 1) cC)) = V9 at *
            refine hK.out _ _ hrx (fun hH9 => ?_)
            clear hK K hH29
            refine wpAnyH_done (by kernel_rfl) ?_ _
            go_wp2_with fail
            go_meet
            exact ⟨aC, cC, hst, hot, by rw [← hLX.out]; exact hrc, hbl, hnb⟩
          · have lc30 := HLc.out _ b25.out
            go_simp
            clear lc30
            have b30 := b25
            refine hK.out _ _ (HS.out _ b30.out) (fun hH30 => ?_)
            clear hK K hH25
            (refine wpAnyH_ready (rs := [0]) (by kernel_rfl) (by simp) ?_; refine AllReadyH.cons rfl (fun K hK => ?_) AllReadyH.nil)
            go_simp
            have oE31 := World.ownsRow_made (base := W0.heap.size) (e := 43) (size := 6) V25 #[] 0 b30.out.size (Nat.zero_le _) rfl
            have b31 := Lib.hid (belS b30.out (alloc_below V25 (.cells #[] 43)))
            have hle31 : V25.heap.size < (V25.alloc (.cells #[] 43)).heap.size := by simp
            have li31 := Rd.below li25 (alloc_below V25 (.cells #[] 43)) (Nat.le_refl _)
            generalize (V25.alloc (.cells #[] 43)) = V31 at *
            refine hK.out _ _ (HS.out _ b31.out) (fun hH31 => ?_)
            clear hK K hH30
            (refine wpAnyH_ready (rs := [3]) (by kernel_rfl) (by simp) ?_; refine AllReadyH.cons rfl (fun K hK => ?_) AllReadyH.nil)
            refine step_append_gen (base := W0.heap.size) (v := .slice (some ⟨V25.heap.size, 0, none⟩) 0 0) (n := 0) (xs := []) Tryd.exE rfl (.tmp 25) (.tmp 27) rfl (by rfl) oE31 (by rfl) (HRL.out _ b31.out) (xcC_one xs) (by unfold maxLen; omega) (by omega) b31.out.size ?_
            intro vA32 V32 oA32 gA32
            rw [Nat.zero_add, List.nil_append] at oA32
            have b32 := Lib.hid (belG b31.out gA32 b31.out.size (fun g hg => (oE31.lt g hg).1))
            have li32 := Rd.grown li31 gA32 (fun e => by have e2 : some V25.heap.size = some W0.heap.size := e; injection e2 with e2; omega)
            obtain ⟨aA32, cA32, rfl, _⟩ := Rd.own oA32
            (try simp only [Act.put, List.getElem_toArray, List.getElem_cons_zero, List.getElem_cons_succ, List.setIfInBounds_toArray, List.set_cons_zero, List.set_cons_succ])
            refine hK.out _ _ (HS.out _ b32.out) (fun hH32 => ?_)
            clear hK K hH31
            (refine wpAnyH_ready (rs := [6]) (by kernel_rfl) (by simp) ?_; refine AllReadyH.cons rfl (fun K hK => ?_) AllReadyH.nil)
            refine step_append_gen (base := W0.heap.size) (v := .slice aA32 n cA32) (n := n) (xs := xs.flatMap xcC) Tryd.exE rfl (.tmp 28) (.tmp 30) rfl (by rfl) oA32 (by rfl) li32 (fun u hu => xcC_one [x] u (by simpa using hu)) (by unfold maxLen; omega) (by omega) b32.out.size ?_
            intro vC V33 oC gC
            have b33 := Lib.hid (belG b32.out gC b32.out.size (fun g hg => (oA32.lt g hg).1))
            obtain ⟨aC, cC, rfl, rC⟩ := Rd.own oC
            (try simp only [Act.put, List.getElem_toArray, List.getElem_cons_zero, List.getElem_cons_succ, List.setIfInBounds_toArray, List.set_cons_zero, List.set_cons_succ])
            refine hK.out _ _ (HS.out _ b33.out) (fun hH33 => ?_)
            clear hK K hH32
            (refine wpAnyH_take (i := 7) (v := ?_) rfl (by kernel_rfl) (by kernel_rfl) (by kernel_rfl) (fun _ _ _ h => h) (Or.inl ⟨by rfl, ?_⟩) (by assumption) ?_; rotate_left; (focus (intro w hSw; clear hSw; go_simp; (try with_reducible rfl))); (try simp only [Act.put, List.getElem_toArray, List.getElem_cons_zero, List.getElem_cons_succ, List.setIfInBounds_toArray, List.set_cons_zero, List.set_cons_succ]))
            (refine wpAnyH_ready (rs := [8]) (by kernel_rfl) (by simp) ?_; refine AllReadyH.cons rfl (fun K hK => ?_) AllReadyH.nil)
            have hBk := HBk.out _ b33.out
            have f3 := hBk.fz 3
            have hEk := HEk.out _ b33.out
            have hst := BlkAt.set hBk 3 (.slice aC (n + 1) cC)
            rw [hset.out aC cC] at hst
            have hot := BlkAt.other hEk (a := ⟨w.heap.size, 3, none⟩) (by simp) (.slice aC (n + 1) cC)
            have hrx := HSet.out _ b33.out (.slice aC (n + 1) cC)
            have hbl := HBl.out _ b33.out (.slice aC (n + 1) cC)
            have hnb : ∀ g off, aC = some ⟨g, off, none⟩ → w.heap.size + 3 ≤ g := fun g off e => by subst e; have := (oC.lt g rfl).1; have := hW0.out; omega
            have hrc := Kp.rd ((Kp.refl w.heap.size V33).setCell ⟨w.heap.size, 3, none⟩ rfl (.slice aC (n + 1) cC)) rC (fun g off e => by subst e; have := (oC.lt g rfl).1; have := hW0.out; omega)
            clear hBk hEk
            have lc := HLc.out _ b33.out
            go_simp
            clear lc f3
            generalize (V33.setCell ⟨w.heap.size, 3, none⟩ (.slice aC (n + 1) cC)) = V9 at *
            refine hK.out _ _ hrx (fun hH9 => ?_)
            clear hK K hH33
            refine wpAnyH_done (by kernel_rfl) ?_ _
            go_wp2_with fail
            go_meet
            exact ⟨aC, cC, hst, hot, by rw [← hLX.out]; exact hrc, hbl, hnb⟩
      case rest => as_aux_lemma =>
        obtain ⟨aC, cC, hB7, hE7, hR7, ⟨hb7, hs7⟩, hnb⟩ := hcut
        replace hnb := Lib.hid hnb
        obtain ⟨w7, rfl⟩ : ∃ z, z = wc := ⟨_, rfl⟩
        have hRf := Lib.hid (show Rf w7 v' aC (n + 1) cC (xs ++ [x]) from ⟨⟨hR7, fun y hy => by
          rcases List.mem_append.1 hy with hy | hy
          · exact (h0.out.rd.below hb7).inn y hy
          · obtain rfl := List.mem_singleton.1 hy; exact hx0.out.below hb7⟩, hval.out, hinv.out⟩)
        have HD := Lib.hid (fun W (hb : Below w7.heap.size w7 W) => rtold_any t ht2.out (hRf.out.below hb))
        have hiR2 := Tryd.rfI v' aC (n + 1) cC
        clear hB4 hX4' hE4 hb14 hs4 hR7
        go_wp2_with fail
        refine wp_region_held_drew (S := fun W => W.rangeAt w.heap.size 0 (rfA v' aC (n + 1) cC).toList) (by kernel_rfl) (rfA_range hB7) ?_
        intro hHeld
        (refine wpAnyH_take (i := 0) (v := .agg (rfA v' aC (n + 1) cC)) rfl (by kernel_rfl) (by kernel_rfl) (by kernel_rfl) (fun _ _ _ h => h) (yieldsIf_load_mid (by rfl) 53 (.tmp 2) rfl w.heap.size 0 rfl (rfA v' aC (n + 1) cC).toList _ (fun W hW => hW) Tryd.underlying53 rfl hiR2) (by assumption) ?_; (try simp only [Act.put, List.getElem_toArray, List.getElem_cons_zero, List.getElem_cons_succ, List.setIfInBounds_toArray, List.set_cons_zero, List.set_cons_succ]))
        (refine wpAnyH_take (i := 1) (v := .agg (rfA v' aC (n + 1) cC)) rfl (by kernel_rfl) (by kernel_rfl) (by kernel_rfl) (fun _ _ _ h => h) (yieldsIf_load_mid (by rfl) 53 (.tmp 2) rfl w.heap.size 0 rfl (rfA v' aC (n + 1) cC).toList _ (fun W hW => hW) Tryd.underlying53 rfl hiR2) (by assumption) ?_; (try simp only [Act.put, List.getElem_toArray, List.getElem_cons_zero, List.getElem_cons_succ, List.setIfInBounds_toArray, List.set_cons_zero, List.set_cons_succ]))
        (refine wpAnyH_ready (rs := [2]) (by kernel_rfl) (by simp) ?_; refine AllReadyH.cons rfl (fun K hK => ?_) AllReadyH.nil)
        go_simp
        refine (HD.out _ (Below.refl w7.heap.size w7).drew).mono ?_
        rintro e w5 ⟨rfl, hb5⟩
        replace hb5 : Below w7.heap.size w7 w5 := belS (Below.refl w7.heap.size w7).drew hb5
        have hB5 : BlkAt w5 w.heap.size 53 (rfA v' aC (n + 1) cC) := BlkAt.below hB7 hb5 hB7.lt
        have hE5 : BlkAt w5 (w.heap.size + 2) 53 #[.int .u64 0, .int .i64 0, .int .u64 0, .slice none 0 0, .int .u64 0] := BlkAt.below hE7 hb5 hE7.lt
        have hb35 : Below w.heap.size w w5 := belS hb7 hb5
        have hs5 : w.heap.size + 3 ≤ w5.heap.size := Nat.le_trans hs7 hb5.size
        have hRf5 := Lib.hid (hRf.out.below hb5)
        refine hK.out _ _ (rfA_range hB5) (fun hH2 => ?_)
        clear hK K hHeld hB7 hE7 hb7 hb5 hRf
        (refine wpAnyH_ready (rs := [3]) (by kernel_rfl) (by simp) ?_; refine AllReadyH.cons rfl (fun K hK => ?_) AllReadyH.nil)
        refine step_blk_store rfl (.tmp 4) (.tmp 33) rfl rfl rfl hE5 hiR2 rfl (rfA_one _ _ _ _) ?_
        intro w6 hE6 hK6 hs6
        (try simp only [Act.put, List.getElem_toArray, List.getElem_cons_zero, List.getElem_cons_succ, List.setIfInBounds_toArray, List.set_cons_zero, List.set_cons_succ])
        refine hK.out _ _ (rfA_range (hK6.blk hB5 (by omega))) (fun hH3 => ?_)
        clear hK K hH2
        (refine wpAnyH_take (i := 4) (v := ?_) rfl (by kernel_rfl) (by kernel_rfl) (by kernel_rfl) (fun _ _ _ h => h) (Or.inl ⟨by rfl, ?_⟩) (by assumption) ?_; rotate_left; (focus (intro w hSw; clear hSw; go_simp; (try with_reducible rfl))); (try simp only [Act.put, List.getElem_toArray, List.getElem_cons_zero, List.getElem_cons_succ, List.setIfInBounds_toArray, List.set_cons_zero, List.set_cons_succ]))
        refine wpAnyH_done (by kernel_rfl) ?_ _
        go_wp2_with fail
        have hbf : Below w.heap.size w w6 := Kp.below hb35 hK6 (by omega) (by omega)
        refine bodyPost_ret (results_row1 rfl _ _ (w.heap.size + 2) 53 _ (0, 0) _ rfl hE6 Tryd.underlying53 rfl hiR2) rfl ⟨aC, n + 1, cC, xs ++ [x], rfl, ?_, ⟨Nat.le_refl _, fun g off e => .inr (by have := hnb.out g off e; omega), fun y hy => by rcases List.mem_append.1 hy with hy | hy; exact .inl hy; exact .inr (List.mem_singleton.1 hy)⟩, hbf⟩
        refine ⟨⟨Kp.rd hK6 hRf5.out.rd.row (fun g off e => ?_), fun y hy => ?_⟩, hval.out, hinv.out⟩
        · have := hnb.out g off e; omega
        · rcases List.mem_append.1 hy with hy | hy
          · exact (h0.out.rd.below hbf).inn y hy
          · obtain rfl := List.mem_singleton.1 hy; exact hx0.out.below hbf
end
end Go.Proofs.YtlgabjffnjciaaaDoor
