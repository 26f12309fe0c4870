/- text: the reference's Events; text: the reference's Clean (written by gen_tzf.py) -/
import Derived.Test.YtpkknhhohbobaaaGreatDoorG5
namespace Go.Proofs.YtpkknhhohbobaaaGreatDoor
set_option linter.unusedSimpArgs false
set_option linter.unusedVariables false
open Go.RowKit Go.Sort
section
variable {w w' : World} {x : TEv} {da na : Option Addr} {dn dc nn nc : Nat}
theorem ev_view {W : World} {mb : Nat} {t : TypeId} (h : BlkAt W mb t (evC x da dn dc na nn nc)) : W.rangeAt mb 13 [.int .u64 x.num, .int .u64 x.vconf.ep, .int .i64 x.vconf.rp, .int .u64 x.vmem] := h.range (fun j y hj => by
  rcases j with _ | _ | _ | _ | j
  · exact hj
  · exact hj
  · exact hj
  · exact hj
  · simp at hj)
theorem Tryz.vwL (a b c : Int) (d : Int) : (Tryz.prog.info? 31).map (·.size) = some ([.int .u64 a, .int .u64 b, .int .i64 c, .int .u64 d] : List Value).length := by show _ = some 4; kernel_rfl
theorem Tryz.eqConf (a b : Int) (W : World) : (binOp .eql 25 (.agg #[.int .u64 a, .int .i64 b]) (.agg #[.int .u64 a, .int .i64 b])).run Tryz.prog W = .ok (.bool true) W := by simp [go_sem]
theorem Tryz.eqView (a b c d : Int) (W : World) : (binOp .eql 31 (.agg #[.int .u64 a, .int .u64 b, .int .i64 c, .int .u64 d]) (.agg #[.int .u64 a, .int .u64 b, .int .i64 c, .int .u64 d])).run Tryz.prog W = .ok (.bool true) W := by simp [go_sem]
theorem Tryz.confG : Tryz.prog.eqGuardType Tryz.prog.depth 25 = false := by kernel_rfl
theorem Tryz.viewG : Tryz.prog.eqGuardType Tryz.prog.depth 31 = false := by kernel_rfl
end
section
variable {P : Program} {w : World} {ops : Array Oper} {rest : List Oper} {o : Oper} {a : Act} {Q : Exit → Act → World → Prop} {t : TypeId}
theorem wpList_want (hw : Region.wanted o (yielded ops a.tmps) = true) (h : ∀ K : Act → World → Prop, (∀ a w, wpList P ops Q rest a w → K a w) → o.wp P a w K Q) : wpList P ops Q (o :: rest) a w :=
  wpList_step fun K hK => by simp only [hw, if_true]; exact h K hK
/-- A part of a block, loaded where a guard lets it. -/
theorem wpList_get_w (hw : Region.wanted o (yielded ops a.tmps) = true) (x : Operand) (ho : o.op = .load t x) {b p : Nat} (hx : a.eval x = .pointer (some ⟨b, p, none⟩)) {cs : List Value} (hr : w.rangeAt b p cs) {d : TypeDesc}
    (hu : P.underlying t = some d) (hd : d.isRow = true) (hi : (P.info? t).map (·.size) = some cs.length)
    (h : wpList P ops Q rest (a.put o.dst (.agg cs.toArray)) w) : wpList P ops Q (o :: rest) a w :=
  wpList_want hw fun _ hK => wp_load_mid t x ho b p hx cs d hr hu hd hi (hK _ _ h)
theorem wpList_agg_w (hw : Region.wanted o (yielded ops a.tmps) = true) {b : BinOp} {t : TypeId} (hg : P.eqGuardType P.depth t = false) (x y : Operand) (t2 : TypeId) (ho : o.op = .binOp b t x y t2) {u v : Array Value} {r : Value} (hx : a.eval x = .agg u) (hy : a.eval y = .agg v)
    (hrun : ∀ W, (binOp b t (.agg u) (.agg v)).run P W = .ok r W) (h : wpList P ops Q rest (a.put o.dst r) w) : wpList P ops Q (o :: rest) a w := by
  refine wpList_want hw fun K hK => ?_
  unfold Oper.wp
  simp only [execOp, ho, hx, hy, Sem.run_bind, Sem.run_pure, run_eqGuard_agg hg, hrun w, Result.andThen_ok]
  exact hK _ _ h
end
set_option maxHeartbeats 6400000 in
set_option maxRecDepth 100000 in
theorem revents_same (x : TEv) (da da' : Option Addr) (dn dc dc' : Nat) (na na' : Option Addr) (nn nc nc' : Nat) (w : World) (h1 : Rd w 1 da dn dc (c32 x.m.deps)) (h2 : Rd w 2 na nn nc (x.names.flatMap nmC)) (h1' : Rd w 1 da' dn dc' (c32 x.m.deps)) (h2' : Rd w 2 na' nn nc' (x.names.flatMap nmC)) :
    Calls Tryz.prog 8 #[.agg (evC x da dn dc na nn nc), .agg (evC x da' dn dc' na' nn nc')] w fun e w' => e = .returned (.bool true) ∧ Below w.heap.size w w' := by
  have hb1 := alloc_below w (.cells (evC x da dn dc na nn nc) 34)
  obtain ⟨w1, hw1⟩ : ∃ z, z = w.alloc (.cells (evC x da dn dc na nn nc) 34) := ⟨_, rfl⟩
  have hA1 : BlkAt w1 w.heap.size 34 (evC x da dn dc na nn nc) := by rw [hw1]; exact BlkAt.new _ _ _
  rw [← hw1] at hb1
  have hb2 := alloc_below w1 (.cells (evC x da' dn dc' na' nn nc') 34)
  obtain ⟨w2, hw2⟩ : ∃ z, z = w1.alloc (.cells (evC x da' dn dc' na' nn nc') 34) := ⟨_, rfl⟩
  have hB2 : BlkAt w2 w1.heap.size 34 (evC x da' dn dc' na' nn nc') := by rw [hw2]; exact BlkAt.new _ _ _
  rw [← hw2] at hb2
  have hA2 := hA1.below hb2 hA1.lt
  have hbz := Lib.hid (belS hb1 hb2)
  have HS := Lib.hid (rsame_same x.m da da' dn dc dc' w2 (h1.below hbz.out (Nat.le_refl _)) (h1'.below hbz.out (Nat.le_refl _)))
  have HN := Lib.hid (fun (W : World) (hb : Below w2.heap.size w2 W) => rnames_same x.names na na' nn nc nc' W ((h2.below hbz.out (Nat.le_refl _)).below hb (Nat.le_refl _)) ((h2'.below hbz.out (Nat.le_refl _)).below hb (Nat.le_refl _)))
  obtain ⟨xa, hxa⟩ : ∃ z, z = w.heap.size := ⟨_, rfl⟩
  obtain ⟨xb, hxb⟩ : ∃ z, z = w1.heap.size := ⟨_, rfl⟩
  rw [← hxa] at hA2
  rw [← hxb] at hB2
  have a0 : w2.cell? ⟨xa, 0, none⟩ = some (.int .i64 x.kind) := hA2.cell rfl
  have a1 : w2.cell? ⟨xa, 1, none⟩ = some (.int .i64 x.proc) := hA2.cell rfl
  have a6 : w2.cell? ⟨xa, 6, none⟩ = some (.int .u64 x.mem) := hA2.cell rfl
  have b0 : w2.cell? ⟨xb, 0, none⟩ = some (.int .i64 x.kind) := hB2.cell rfl
  have b1 : w2.cell? ⟨xb, 1, none⟩ = some (.int .i64 x.proc) := hB2.cell rfl
  have b6 : w2.cell? ⟨xb, 6, none⟩ = some (.int .u64 x.mem) := hB2.cell rfl
  have hcC := Tryz.cfL x.conf.ep x.conf.rp
  have hcN := Tryz.cfL x.new.ep x.new.rp
  have hcM := Tryz.mgL (x := x) (da := da) (dn := dn) (dc := dc)
  have hcM' := Tryz.mgL (x := x) (da := da') (dn := dn) (dc := dc')
  have hA := Lib.hid hA2
  have hB := Lib.hid hB2
  have rA2 := ev_conf hA2
  have rA3 := ev_new hA2
  have rA5 := ev_msg hA2
  have rB2 := ev_conf hB2
  have rB3 := ev_new hB2
  have rB5 := ev_msg hB2
  obtain ⟨cA, hcA⟩ : ∃ z, z = evC x da dn dc na nn nc := ⟨_, rfl⟩
  obtain ⟨cB, hcB⟩ : ∃ z, z = evC x da' dn dc' na' nn nc' := ⟨_, rfl⟩
  rw [← hcA] at hw1 ⊢
  rw [← hcB] at hw2 ⊢
  replace hw1 := Lib.hid hw1
  replace hw2 := Lib.hid hw2
  replace hxa := Lib.hid hxa
  replace hxb := Lib.hid hxb
  clear hcA hcB hA1 hA2 hB2 hb1 hb2 h1 h2 h1' h2'
  go_enter Tryz.func8, Tryz.ntmps8
  go_upto_region 1 with (first
    | (refine wpList_blk_box rfl (.tmp 0) rfl rfl xa hxa.out.symm ?_; rw [← hw1.out])
    | (refine wpList_blk_box rfl (.tmp 1) rfl rfl xb hxb.out.symm ?_; rw [← hw2.out]))
  go_wp2_with (first
    | (refine wpList_get_w (by rfl) (.tmp 18) rfl rfl rA2 Tryz.underlying25 rfl hcC ?_)
    | (refine wpList_get_w (by rfl) (.tmp 20) rfl rfl rB2 Tryz.underlying25 rfl hcC ?_)
    | (refine wpList_agg_w (by rfl) Tryz.confG (.tmp 19) (.tmp 21) _ rfl rfl rfl (Tryz.eqConf _ _) ?_)
    | (refine wpList_get_w (by rfl) (.tmp 25) rfl rfl rA3 Tryz.underlying25 rfl hcN ?_)
    | (refine wpList_get_w (by rfl) (.tmp 27) rfl rfl rB3 Tryz.underlying25 rfl hcN ?_)
    | (refine wpList_agg_w (by rfl) Tryz.confG (.tmp 26) (.tmp 28) _ rfl rfl rfl (Tryz.eqConf _ _) ?_)
    | (refine wpList_get_w (by rfl) (.tmp 39) rfl rfl rA5 Tryz.underlying29 rfl hcM ?_)
    | (refine wpList_get_w (by rfl) (.tmp 41) rfl rfl rB5 Tryz.underlying29 rfl hcM' ?_))
  refine HS.out.mono ?_
  rintro e w3 ⟨rfl, hb3⟩
  have hA3 := hA.out.below hb3 hA.out.lt
  have hB3 := hB.out.below hb3 hB.out.lt
  have rA6 := ev_view hA3
  have rB6 := ev_view hB3
  have hcV := Tryz.vwL x.num x.vconf.ep x.vconf.rp x.vmem
  have a7 : w3.cell? ⟨xa, 17, none⟩ = some (.slice na nn nc) := hA3.cell (by rfl)
  have b7 : w3.cell? ⟨xb, 17, none⟩ = some (.slice na' nn nc') := hB3.cell (by rfl)
  have HN3 := Lib.hid (HN.out _ hb3)
  have hA3' := Lib.hid hA3
  have hB3' := Lib.hid hB3
  have hbz3 := Lib.hid (belS hbz.out hb3)
  clear HS HN hA hB hA3 hB3 rA2 rA3 rA5 rB2 rB3 rB5 hcC hcN hcM hcM' a0 a1 a6 b0 b1 b6 hb3 hbz
  go_wp2_with (first
    | (refine wpList_get_w (by rfl) (.tmp 46) rfl rfl rA6 Tryz.underlying31 rfl hcV ?_)
    | (refine wpList_get_w (by rfl) (.tmp 48) rfl rfl rB6 Tryz.underlying31 rfl hcV ?_)
    | (refine wpList_agg_w (by rfl) Tryz.viewG (.tmp 47) (.tmp 49) _ rfl rfl rfl (Tryz.eqView _ _ _ _) ?_))
  refine HN3.out.mono ?_
  rintro e w4 ⟨rfl, hb4⟩
  have a8 : w4.cell? ⟨xa, 18, none⟩ = some (.string (mkB x.state)) := (hA3'.out.below hb4 hA3'.out.lt).cell (by rfl)
  have b8 : w4.cell? ⟨xb, 18, none⟩ = some (.string (mkB x.state)) := (hB3'.out.below hb4 hB3'.out.lt).cell (by rfl)
  have hbz4 := Lib.hid (belS hbz3.out hb4)
  clear HN3 hA3' hB3' rA6 rB6 hcV a7 b7 hb4 hbz3
  generalize mkB x.state = P at *
  go_wp2
  go_ret
  exact ⟨rfl, hbz4.out⟩
end Go.Proofs.YtpkknhhohbobaaaGreatDoor
namespace Go.Proofs.YtpkknhhohbobaaaGreatDoor
set_option linter.unusedSimpArgs false
set_option linter.unusedVariables false
open Go.RowKit Go.Sort
/-- What Clean answers: the clean event, its rows as they were. -/
def PCl (x : TEv) (w : World) (e : Ending) (w' : World) : Prop := ∃ ea en ec fa fn fc, e = .returned (.agg (evC (cleanE x) ea en ec fa fn fc)) ∧ Rd w' 1 ea en ec (c32 (cleanE x).m.deps) ∧ Rd w' 2 fa fn fc ((cleanE x).names.flatMap nmC) ∧ Below w.heap.size w w'
theorem cleanE_out {x : TEv} (h : x.kind < 1 ∨ 12 < x.kind) : cleanE x = begE x.kind x.proc := by
  unfold cleanE
  have : rowL x.kind.toNat = [] := by
    rcases h with h | h
    · rw [show x.kind.toNat = 0 from by omega]; rfl
    · unfold rowL
      split <;> first | rfl | omega
  rw [this]
  rfl
end Go.Proofs.YtpkknhhohbobaaaGreatDoor
