/- plan: consortref03.Same, All; has -/
import Derived.Test.YtikhpafdnohhkaaDoorPlanB
import Derived.Deep.Cut
namespace Go.Proofs.YtikhpafdnohhkaaDoor
set_option linter.unusedSimpArgs false
set_option linter.unusedVariables false
open Go.RowKit
theorem wpList_skip {P : Program} {w : World} {ops : Array Oper} {rest : List Oper} {o : Oper} {a : Act} {Q : Exit → Act → World → Prop} (hw : Region.wanted o (yielded ops a.tmps) = false) (h : wpList P ops Q rest (a.put o.dst undef) w) : wpList P ops Q (o :: rest) a w :=
  wpList_step fun K hK => by rw [if_neg (by rw [hw]; decide)]; exact hK _ _ h
theorem wpList_take {P : Program} {w : World} {ops : Array Oper} {rest : List Oper} {o : Oper} {a : Act} {Q : Exit → Act → World → Prop} {v : Value} (hw : Region.wanted o (yielded ops a.tmps) = true) (hr : (execOp a.eval o).run P w = .ok (.value v) w) (h : wpList P ops Q rest (a.put o.dst v) w) : wpList P ops Q (o :: rest) a w :=
  wpList_step fun K hK => by rw [if_pos hw]; unfold Oper.wp; rw [hr]; exact hK _ _ h
theorem bneN_f {a b : Nat} (h : a = b) : ((a : Int) != (b : Int)) = false := by subst h; simp
theorem bneN_t {a b : Nat} (h : ¬ a = b) : ((a : Int) != (b : Int)) = true := by simp; omega
theorem bneI_f {a b : Int} (h : a = b) : (a != b) = false := by subst h; simp
theorem bneI_t {a b : Int} (h : ¬ a = b) : (a != b) = true := by simpa using h
theorem bneS_t {a b : ByteArray} (h : ¬ a = b) : (a.toList == b.toList) = false := by
  rw [beq_eq_false_iff_ne]
  intro e
  rw [ByteArray.toList_eq, ByteArray.toList_eq] at e
  exact h (bL_ext e)
set_option maxHeartbeats 6400000 in
set_option maxRecDepth 100000 in
theorem same_any (x y : Mc) (t : Bool) (ht : t = true ↔ x.m = y.m) (w : World) (hx : RdU w x.pa x.pn x.pc x.m.deps) (hy : RdU w y.pa y.pn y.pc y.m.deps) :
    Calls Tryd.prog 38 #[.agg (mcA x), .agg (mcA y)] w fun e w' => e = .returned (.bool t) ∧ Below w.heap.size w w' := by
  replace ht := Lib.hid ht
  have hX : BlkAt ((w.alloc (.cells (mcA x) 59)).alloc (.cells (mcA y) 59)) w.heap.size 59 (mcA x) := BlkAt.alloc (BlkAt.new w _ _) _
  have hY : BlkAt ((w.alloc (.cells (mcA x) 59)).alloc (.cells (mcA y) 59)) (w.heap.size + 1) 59 (mcA y) := by simpa using BlkAt.new (w.alloc (.cells (mcA x) 59)) 59 (mcA y)
  have hb1 : Below w.heap.size w ((w.alloc (.cells (mcA x) 59)).alloc (.cells (mcA y) 59)) := ((Below.refl _ _).alloc (Nat.le_refl _) _).alloc (by simp) _
  obtain ⟨w1, hw1⟩ : ∃ w1, w1 = (w.alloc (.cells (mcA x) 59)).alloc (.cells (mcA y) 59) := ⟨_, rfl⟩
  rw [← hw1] at hX hY hb1
  have hxl := Lib.hid hx.len
  have hyl := Lib.hid hy.len
  have hx1 := hx.below hb1
  have hy1 := hy.below hb1
  have hmx := hx.le_max
  clear hx hy
  obtain ⟨⟨s1, q1, t1, v1, d1, p1⟩, xa, xn, xc⟩ := x
  obtain ⟨⟨s2, q2, t2, v2, d2, p2⟩, ya, yn, yc⟩ := y
  simp only [Ms.mk.injEq] at ht
  simp only at hxl hyl hx1 hy1 hmx
  obtain ⟨x0, x1, x2, x3, x4, x5⟩ := blk6 hX
  obtain ⟨y0, y1, y2, y3, y4, y5⟩ := blk6 hY
  rcases (Classical.em (s1 = s2)).symm with e0 | e0
  · have b0 := bneI_t e0
    have hz := Lib.hid (show t = false from by
      rw [Bool.eq_false_iff, Ne, ht.out]
      rintro ⟨g0, g1, g2, g3, g4, g5⟩
      exact e0 g0)
    clear e0
    go_enter Tryd.func38, Tryd.ntmps38
    go_upto_region 1 with (first
      | (refine wpList_blk_box rfl (.tmp 0) rfl rfl w.heap.size rfl ?_)
      | (refine wpList_blk_box rfl (.tmp 1) rfl rfl (w.heap.size + 1) (by simp) ?_; rw [← hw1]; clear hw1))
    go_step
    (refine wpList_take (v := ?_) (by kernel_rfl) ?_ ?_; rotate_left; (focus (go_simp; (try with_reducible rfl))); (try simp only [Act.put, List.getElem_toArray, List.getElem_cons_zero, List.getElem_cons_succ, List.setIfInBounds_toArray, List.set_cons_zero, List.set_cons_succ]))
    (refine wpList_take (v := ?_) (by kernel_rfl) ?_ ?_; rotate_left; (focus (go_simp; (try with_reducible rfl))); (try simp only [Act.put, List.getElem_toArray, List.getElem_cons_zero, List.getElem_cons_succ, List.setIfInBounds_toArray, List.set_cons_zero, List.set_cons_succ]))
    (refine wpList_take (v := ?_) (by kernel_rfl) ?_ ?_; rotate_left; (focus (go_simp; (try with_reducible rfl))); (try simp only [Act.put, List.getElem_toArray, List.getElem_cons_zero, List.getElem_cons_succ, List.setIfInBounds_toArray, List.set_cons_zero, List.set_cons_succ]))
    (refine wpList_take (v := ?_) (by kernel_rfl) ?_ ?_; rotate_left; (focus (go_simp; (try with_reducible rfl))); (try simp only [Act.put, List.getElem_toArray, List.getElem_cons_zero, List.getElem_cons_succ, List.setIfInBounds_toArray, List.set_cons_zero, List.set_cons_succ]))
    (refine wpList_take (v := ?_) (by kernel_rfl) ?_ ?_; rotate_left; (focus (go_simp; (try with_reducible rfl))); (try simp only [Act.put, List.getElem_toArray, List.getElem_cons_zero, List.getElem_cons_succ, List.setIfInBounds_toArray, List.set_cons_zero, List.set_cons_succ]))
    (refine wpList_take (v := ?_) (by kernel_rfl) ?_ ?_; rotate_left; (focus (go_simp; (try with_reducible rfl))); (try simp only [Act.put, List.getElem_toArray, List.getElem_cons_zero, List.getElem_cons_succ, List.setIfInBounds_toArray, List.set_cons_zero, List.set_cons_succ]))
    (refine wpList_skip (by kernel_rfl) ?_; (try simp only [Act.put, List.getElem_toArray, List.getElem_cons_zero, List.getElem_cons_succ, List.setIfInBounds_toArray, List.set_cons_zero, List.set_cons_succ]))
    (refine wpList_skip (by kernel_rfl) ?_; (try simp only [Act.put, List.getElem_toArray, List.getElem_cons_zero, List.getElem_cons_succ, List.setIfInBounds_toArray, List.set_cons_zero, List.set_cons_succ]))
    (refine wpList_skip (by kernel_rfl) ?_; (try simp only [Act.put, List.getElem_toArray, List.getElem_cons_zero, List.getElem_cons_succ, List.setIfInBounds_toArray, List.set_cons_zero, List.set_cons_succ]))
    (refine wpList_skip (by kernel_rfl) ?_; (try simp only [Act.put, List.getElem_toArray, List.getElem_cons_zero, List.getElem_cons_succ, List.setIfInBounds_toArray, List.set_cons_zero, List.set_cons_succ]))
    (refine wpList_skip (by kernel_rfl) ?_; (try simp only [Act.put, List.getElem_toArray, List.getElem_cons_zero, List.getElem_cons_succ, List.setIfInBounds_toArray, List.set_cons_zero, List.set_cons_succ]))
    (refine wpList_take (v := ?_) (by kernel_rfl) ?_ ?_; rotate_left; (focus (go_simp; (try with_reducible rfl))); (try simp only [Act.put, List.getElem_toArray, List.getElem_cons_zero, List.getElem_cons_succ, List.setIfInBounds_toArray, List.set_cons_zero, List.set_cons_succ]))
    (refine wpList_take (v := ?_) (by kernel_rfl) ?_ ?_; rotate_left; (focus (go_simp; (try with_reducible rfl))); (try simp only [Act.put, List.getElem_toArray, List.getElem_cons_zero, List.getElem_cons_succ, List.setIfInBounds_toArray, List.set_cons_zero, List.set_cons_succ]))
    (refine wpList_skip (by kernel_rfl) ?_; (try simp only [Act.put, List.getElem_toArray, List.getElem_cons_zero, List.getElem_cons_succ, List.setIfInBounds_toArray, List.set_cons_zero, List.set_cons_succ]))
    (refine wpList_skip (by kernel_rfl) ?_; (try simp only [Act.put, List.getElem_toArray, List.getElem_cons_zero, List.getElem_cons_succ, List.setIfInBounds_toArray, List.set_cons_zero, List.set_cons_succ]))
    (refine wpList_skip (by kernel_rfl) ?_; (try simp only [Act.put, List.getElem_toArray, List.getElem_cons_zero, List.getElem_cons_succ, List.setIfInBounds_toArray, List.set_cons_zero, List.set_cons_succ]))
    (refine wpList_skip (by kernel_rfl) ?_; (try simp only [Act.put, List.getElem_toArray, List.getElem_cons_zero, List.getElem_cons_succ, List.setIfInBounds_toArray, List.set_cons_zero, List.set_cons_succ]))
    (refine wpList_skip (by kernel_rfl) ?_; (try simp only [Act.put, List.getElem_toArray, List.getElem_cons_zero, List.getElem_cons_succ, List.setIfInBounds_toArray, List.set_cons_zero, List.set_cons_succ]))
    (refine wpList_take (v := ?_) (by kernel_rfl) ?_ ?_; rotate_left; (focus (go_simp; (try with_reducible rfl))); (try simp only [Act.put, List.getElem_toArray, List.getElem_cons_zero, List.getElem_cons_succ, List.setIfInBounds_toArray, List.set_cons_zero, List.set_cons_succ]))
    (refine wpList_take (v := ?_) (by kernel_rfl) ?_ ?_; rotate_left; (focus (go_simp; (try with_reducible rfl))); (try simp only [Act.put, List.getElem_toArray, List.getElem_cons_zero, List.getElem_cons_succ, List.setIfInBounds_toArray, List.set_cons_zero, List.set_cons_succ]))
    (refine wpList_skip (by kernel_rfl) ?_; (try simp only [Act.put, List.getElem_toArray, List.getElem_cons_zero, List.getElem_cons_succ, List.setIfInBounds_toArray, List.set_cons_zero, List.set_cons_succ]))
    (refine wpList_skip (by kernel_rfl) ?_; (try simp only [Act.put, List.getElem_toArray, List.getElem_cons_zero, List.getElem_cons_succ, List.setIfInBounds_toArray, List.set_cons_zero, List.set_cons_succ]))
    (refine wpList_skip (by kernel_rfl) ?_; (try simp only [Act.put, List.getElem_toArray, List.getElem_cons_zero, List.getElem_cons_succ, List.setIfInBounds_toArray, List.set_cons_zero, List.set_cons_succ]))
    (refine wpList_skip (by kernel_rfl) ?_; (try simp only [Act.put, List.getElem_toArray, List.getElem_cons_zero, List.getElem_cons_succ, List.setIfInBounds_toArray, List.set_cons_zero, List.set_cons_succ]))
    (refine wpList_skip (by kernel_rfl) ?_; (try simp only [Act.put, List.getElem_toArray, List.getElem_cons_zero, List.getElem_cons_succ, List.setIfInBounds_toArray, List.set_cons_zero, List.set_cons_succ]))
    (refine wpList_take (v := ?_) (by kernel_rfl) ?_ ?_; rotate_left; (focus (go_simp; (try with_reducible rfl))); (try simp only [Act.put, List.getElem_toArray, List.getElem_cons_zero, List.getElem_cons_succ, List.setIfInBounds_toArray, List.set_cons_zero, List.set_cons_succ]))
    (refine wpList_take (v := ?_) (by kernel_rfl) ?_ ?_; rotate_left; (focus (go_simp; (try with_reducible rfl))); (try simp only [Act.put, List.getElem_toArray, List.getElem_cons_zero, List.getElem_cons_succ, List.setIfInBounds_toArray, List.set_cons_zero, List.set_cons_succ]))
    (refine wpList_skip (by kernel_rfl) ?_; (try simp only [Act.put, List.getElem_toArray, List.getElem_cons_zero, List.getElem_cons_succ, List.setIfInBounds_toArray, List.set_cons_zero, List.set_cons_succ]))
    (refine wpList_skip (by kernel_rfl) ?_; (try simp only [Act.put, List.getElem_toArray, List.getElem_cons_zero, List.getElem_cons_succ, List.setIfInBounds_toArray, List.set_cons_zero, List.set_cons_succ]))
    (refine wpList_skip (by kernel_rfl) ?_; (try simp only [Act.put, List.getElem_toArray, List.getElem_cons_zero, List.getElem_cons_succ, List.setIfInBounds_toArray, List.set_cons_zero, List.set_cons_succ]))
    (refine wpList_skip (by kernel_rfl) ?_; (try simp only [Act.put, List.getElem_toArray, List.getElem_cons_zero, List.getElem_cons_succ, List.setIfInBounds_toArray, List.set_cons_zero, List.set_cons_succ]))
    (refine wpList_skip (by kernel_rfl) ?_; (try simp only [Act.put, List.getElem_toArray, List.getElem_cons_zero, List.getElem_cons_succ, List.setIfInBounds_toArray, List.set_cons_zero, List.set_cons_succ]))
    (refine wpList_take (v := ?_) (by kernel_rfl) ?_ ?_; rotate_left; (focus (go_simp; (try with_reducible rfl))); (try simp only [Act.put, List.getElem_toArray, List.getElem_cons_zero, List.getElem_cons_succ, List.setIfInBounds_toArray, List.set_cons_zero, List.set_cons_succ]))
    (refine wpList_take (v := ?_) (by kernel_rfl) ?_ ?_; rotate_left; (focus (go_simp; (try with_reducible rfl))); (try simp only [Act.put, List.getElem_toArray, List.getElem_cons_zero, List.getElem_cons_succ, List.setIfInBounds_toArray, List.set_cons_zero, List.set_cons_succ]))
    (refine wpList_skip (by kernel_rfl) ?_; (try simp only [Act.put, List.getElem_toArray, List.getElem_cons_zero, List.getElem_cons_succ, List.setIfInBounds_toArray, List.set_cons_zero, List.set_cons_succ]))
    (refine wpList_skip (by kernel_rfl) ?_; (try simp only [Act.put, List.getElem_toArray, List.getElem_cons_zero, List.getElem_cons_succ, List.setIfInBounds_toArray, List.set_cons_zero, List.set_cons_succ]))
    (refine wpList_skip (by kernel_rfl) ?_; (try simp only [Act.put, List.getElem_toArray, List.getElem_cons_zero, List.getElem_cons_succ, List.setIfInBounds_toArray, List.set_cons_zero, List.set_cons_succ]))
    (refine wpList_skip (by kernel_rfl) ?_; (try simp only [Act.put, List.getElem_toArray, List.getElem_cons_zero, List.getElem_cons_succ, List.setIfInBounds_toArray, List.set_cons_zero, List.set_cons_succ]))
    (refine wpList_skip (by kernel_rfl) ?_; (try simp only [Act.put, List.getElem_toArray, List.getElem_cons_zero, List.getElem_cons_succ, List.setIfInBounds_toArray, List.set_cons_zero, List.set_cons_succ]))
    (refine wpList_skip (by kernel_rfl) ?_; (try simp only [Act.put, List.getElem_toArray, List.getElem_cons_zero, List.getElem_cons_succ, List.setIfInBounds_toArray, List.set_cons_zero, List.set_cons_succ]))
    (refine wpList_skip (by kernel_rfl) ?_; (try simp only [Act.put, List.getElem_toArray, List.getElem_cons_zero, List.getElem_cons_succ, List.setIfInBounds_toArray, List.set_cons_zero, List.set_cons_succ]))
    (refine wpList_take (v := ?_) (by kernel_rfl) ?_ ?_; rotate_left; (focus (go_simp; (try with_reducible rfl))); (try simp only [Act.put, List.getElem_toArray, List.getElem_cons_zero, List.getElem_cons_succ, List.setIfInBounds_toArray, List.set_cons_zero, List.set_cons_succ]))
    go_wp2
    go_ret
    exact ⟨by rw [hz.out]; rfl, hb1⟩
  have b0 := bneI_f e0
  replace e0 := Lib.hid e0
  rcases (Classical.em (q1 = q2)).symm with e1 | e1
  · have b1 := bneN_t e1
    have hz := Lib.hid (show t = false from by
      rw [Bool.eq_false_iff, Ne, ht.out]
      rintro ⟨g0, g1, g2, g3, g4, g5⟩
      exact e1 g1)
    clear e1
    go_enter Tryd.func38, Tryd.ntmps38
    go_upto_region 1 with (first
      | (refine wpList_blk_box rfl (.tmp 0) rfl rfl w.heap.size rfl ?_)
      | (refine wpList_blk_box rfl (.tmp 1) rfl rfl (w.heap.size + 1) (by simp) ?_; rw [← hw1]; clear hw1))
    go_step
    (refine wpList_take (v := ?_) (by kernel_rfl) ?_ ?_; rotate_left; (focus (go_simp; (try with_reducible rfl))); (try simp only [Act.put, List.getElem_toArray, List.getElem_cons_zero, List.getElem_cons_succ, List.setIfInBounds_toArray, List.set_cons_zero, List.set_cons_succ]))
    (refine wpList_take (v := ?_) (by kernel_rfl) ?_ ?_; rotate_left; (focus (go_simp; (try with_reducible rfl))); (try simp only [Act.put, List.getElem_toArray, List.getElem_cons_zero, List.getElem_cons_succ, List.setIfInBounds_toArray, List.set_cons_zero, List.set_cons_succ]))
    (refine wpList_take (v := ?_) (by kernel_rfl) ?_ ?_; rotate_left; (focus (go_simp; (try with_reducible rfl))); (try simp only [Act.put, List.getElem_toArray, List.getElem_cons_zero, List.getElem_cons_succ, List.setIfInBounds_toArray, List.set_cons_zero, List.set_cons_succ]))
    (refine wpList_take (v := ?_) (by kernel_rfl) ?_ ?_; rotate_left; (focus (go_simp; (try with_reducible rfl))); (try simp only [Act.put, List.getElem_toArray, List.getElem_cons_zero, List.getElem_cons_succ, List.setIfInBounds_toArray, List.set_cons_zero, List.set_cons_succ]))
    (refine wpList_take (v := ?_) (by kernel_rfl) ?_ ?_; rotate_left; (focus (go_simp; (try with_reducible rfl))); (try simp only [Act.put, List.getElem_toArray, List.getElem_cons_zero, List.getElem_cons_succ, List.setIfInBounds_toArray, List.set_cons_zero, List.set_cons_succ]))
    (refine wpList_take (v := ?_) (by kernel_rfl) ?_ ?_; rotate_left; (focus (go_simp; (try with_reducible rfl))); (try simp only [Act.put, List.getElem_toArray, List.getElem_cons_zero, List.getElem_cons_succ, List.setIfInBounds_toArray, List.set_cons_zero, List.set_cons_succ]))
    (refine wpList_take (v := ?_) (by kernel_rfl) ?_ ?_; rotate_left; (focus (go_simp; (try with_reducible rfl))); (try simp only [Act.put, List.getElem_toArray, List.getElem_cons_zero, List.getElem_cons_succ, List.setIfInBounds_toArray, List.set_cons_zero, List.set_cons_succ]))
    (refine wpList_take (v := ?_) (by kernel_rfl) ?_ ?_; rotate_left; (focus (go_simp; (try with_reducible rfl))); (try simp only [Act.put, List.getElem_toArray, List.getElem_cons_zero, List.getElem_cons_succ, List.setIfInBounds_toArray, List.set_cons_zero, List.set_cons_succ]))
    (refine wpList_take (v := ?_) (by kernel_rfl) ?_ ?_; rotate_left; (focus (go_simp; (try with_reducible rfl))); (try simp only [Act.put, List.getElem_toArray, List.getElem_cons_zero, List.getElem_cons_succ, List.setIfInBounds_toArray, List.set_cons_zero, List.set_cons_succ]))
    (refine wpList_take (v := ?_) (by kernel_rfl) ?_ ?_; rotate_left; (focus (go_simp; (try with_reducible rfl))); (try simp only [Act.put, List.getElem_toArray, List.getElem_cons_zero, List.getElem_cons_succ, List.setIfInBounds_toArray, List.set_cons_zero, List.set_cons_succ]))
    (refine wpList_take (v := ?_) (by kernel_rfl) ?_ ?_; rotate_left; (focus (go_simp; (try with_reducible rfl))); (try simp only [Act.put, List.getElem_toArray, List.getElem_cons_zero, List.getElem_cons_succ, List.setIfInBounds_toArray, List.set_cons_zero, List.set_cons_succ]))
    (refine wpList_take (v := ?_) (by kernel_rfl) ?_ ?_; rotate_left; (focus (go_simp; (try with_reducible rfl))); (try simp only [Act.put, List.getElem_toArray, List.getElem_cons_zero, List.getElem_cons_succ, List.setIfInBounds_toArray, List.set_cons_zero, List.set_cons_succ]))
    (refine wpList_take (v := ?_) (by kernel_rfl) ?_ ?_; rotate_left; (focus (go_simp; (try with_reducible rfl))); (try simp only [Act.put, List.getElem_toArray, List.getElem_cons_zero, List.getElem_cons_succ, List.setIfInBounds_toArray, List.set_cons_zero, List.set_cons_succ]))
    (refine wpList_skip (by kernel_rfl) ?_; (try simp only [Act.put, List.getElem_toArray, List.getElem_cons_zero, List.getElem_cons_succ, List.setIfInBounds_toArray, List.set_cons_zero, List.set_cons_succ]))
    (refine wpList_skip (by kernel_rfl) ?_; (try simp only [Act.put, List.getElem_toArray, List.getElem_cons_zero, List.getElem_cons_succ, List.setIfInBounds_toArray, List.set_cons_zero, List.set_cons_succ]))
    (refine wpList_skip (by kernel_rfl) ?_; (try simp only [Act.put, List.getElem_toArray, List.getElem_cons_zero, List.getElem_cons_succ, List.setIfInBounds_toArray, List.set_cons_zero, List.set_cons_succ]))
    (refine wpList_skip (by kernel_rfl) ?_; (try simp only [Act.put, List.getElem_toArray, List.getElem_cons_zero, List.getElem_cons_succ, List.setIfInBounds_toArray, List.set_cons_zero, List.set_cons_succ]))
    (refine wpList_skip (by kernel_rfl) ?_; (try simp only [Act.put, List.getElem_toArray, List.getElem_cons_zero, List.getElem_cons_succ, List.setIfInBounds_toArray, List.set_cons_zero, List.set_cons_succ]))
    (refine wpList_take (v := ?_) (by kernel_rfl) ?_ ?_; rotate_left; (focus (go_simp; (try with_reducible rfl))); (try simp only [Act.put, List.getElem_toArray, List.getElem_cons_zero, List.getElem_cons_succ, List.setIfInBounds_toArray, List.set_cons_zero, List.set_cons_succ]))
    (refine wpList_take (v := ?_) (by kernel_rfl) ?_ ?_; rotate_left; (focus (go_simp; (try with_reducible rfl))); (try simp only [Act.put, List.getElem_toArray, List.getElem_cons_zero, List.getElem_cons_succ, List.setIfInBounds_toArray, List.set_cons_zero, List.set_cons_succ]))
    (refine wpList_skip (by kernel_rfl) ?_; (try simp only [Act.put, List.getElem_toArray, List.getElem_cons_zero, List.getElem_cons_succ, List.setIfInBounds_toArray, List.set_cons_zero, List.set_cons_succ]))
    (refine wpList_skip (by kernel_rfl) ?_; (try simp only [Act.put, List.getElem_toArray, List.getElem_cons_zero, List.getElem_cons_succ, List.setIfInBounds_toArray, List.set_cons_zero, List.set_cons_succ]))
    (refine wpList_skip (by kernel_rfl) ?_; (try simp only [Act.put, List.getElem_toArray, List.getElem_cons_zero, List.getElem_cons_succ, List.setIfInBounds_toArray, List.set_cons_zero, List.set_cons_succ]))
    (refine wpList_skip (by kernel_rfl) ?_; (try simp only [Act.put, List.getElem_toArray, List.getElem_cons_zero, List.getElem_cons_succ, List.setIfInBounds_toArray, List.set_cons_zero, List.set_cons_succ]))
    (refine wpList_skip (by kernel_rfl) ?_; (try simp only [Act.put, List.getElem_toArray, List.getElem_cons_zero, List.getElem_cons_succ, List.setIfInBounds_toArray, List.set_cons_zero, List.set_cons_succ]))
    (refine wpList_take (v := ?_) (by kernel_rfl) ?_ ?_; rotate_left; (focus (go_simp; (try with_reducible rfl))); (try simp only [Act.put, List.getElem_toArray, List.getElem_cons_zero, List.getElem_cons_succ, List.setIfInBounds_toArray, List.set_cons_zero, List.set_cons_succ]))
    (refine wpList_take (v := ?_) (by kernel_rfl) ?_ ?_; rotate_left; (focus (go_simp; (try with_reducible rfl))); (try simp only [Act.put, List.getElem_toArray, List.getElem_cons_zero, List.getElem_cons_succ, List.setIfInBounds_toArray, List.set_cons_zero, List.set_cons_succ]))
    (refine wpList_skip (by kernel_rfl) ?_; (try simp only [Act.put, List.getElem_toArray, List.getElem_cons_zero, List.getElem_cons_succ, List.setIfInBounds_toArray, List.set_cons_zero, List.set_cons_succ]))
    (refine wpList_skip (by kernel_rfl) ?_; (try simp only [Act.put, List.getElem_toArray, List.getElem_cons_zero, List.getElem_cons_succ, List.setIfInBounds_toArray, List.set_cons_zero, List.set_cons_succ]))
    (refine wpList_skip (by kernel_rfl) ?_; (try simp only [Act.put, List.getElem_toArray, List.getElem_cons_zero, List.getElem_cons_succ, List.setIfInBounds_toArray, List.set_cons_zero, List.set_cons_succ]))
    (refine wpList_skip (by kernel_rfl) ?_; (try simp only [Act.put, List.getElem_toArray, List.getElem_cons_zero, List.getElem_cons_succ, List.setIfInBounds_toArray, List.set_cons_zero, List.set_cons_succ]))
    (refine wpList_skip (by kernel_rfl) ?_; (try simp only [Act.put, List.getElem_toArray, List.getElem_cons_zero, List.getElem_cons_succ, List.setIfInBounds_toArray, List.set_cons_zero, List.set_cons_succ]))
    (refine wpList_take (v := ?_) (by kernel_rfl) ?_ ?_; rotate_left; (focus (go_simp; (try with_reducible rfl))); (try simp only [Act.put, List.getElem_toArray, List.getElem_cons_zero, List.getElem_cons_succ, List.setIfInBounds_toArray, List.set_cons_zero, List.set_cons_succ]))
    (refine wpList_take (v := ?_) (by kernel_rfl) ?_ ?_; rotate_left; (focus (go_simp; (try with_reducible rfl))); (try simp only [Act.put, List.getElem_toArray, List.getElem_cons_zero, List.getElem_cons_succ, List.setIfInBounds_toArray, List.set_cons_zero, List.set_cons_succ]))
    (refine wpList_skip (by kernel_rfl) ?_; (try simp only [Act.put, List.getElem_toArray, List.getElem_cons_zero, List.getElem_cons_succ, List.setIfInBounds_toArray, List.set_cons_zero, List.set_cons_succ]))
    (refine wpList_skip (by kernel_rfl) ?_; (try simp only [Act.put, List.getElem_toArray, List.getElem_cons_zero, List.getElem_cons_succ, List.setIfInBounds_toArray, List.set_cons_zero, List.set_cons_succ]))
    (refine wpList_skip (by kernel_rfl) ?_; (try simp only [Act.put, List.getElem_toArray, List.getElem_cons_zero, List.getElem_cons_succ, List.setIfInBounds_toArray, List.set_cons_zero, List.set_cons_succ]))
    (refine wpList_skip (by kernel_rfl) ?_; (try simp only [Act.put, List.getElem_toArray, List.getElem_cons_zero, List.getElem_cons_succ, List.setIfInBounds_toArray, List.set_cons_zero, List.set_cons_succ]))
    (refine wpList_skip (by kernel_rfl) ?_; (try simp only [Act.put, List.getElem_toArray, List.getElem_cons_zero, List.getElem_cons_succ, List.setIfInBounds_toArray, List.set_cons_zero, List.set_cons_succ]))
    (refine wpList_skip (by kernel_rfl) ?_; (try simp only [Act.put, List.getElem_toArray, List.getElem_cons_zero, List.getElem_cons_succ, List.setIfInBounds_toArray, List.set_cons_zero, List.set_cons_succ]))
    (refine wpList_skip (by kernel_rfl) ?_; (try simp only [Act.put, List.getElem_toArray, List.getElem_cons_zero, List.getElem_cons_succ, List.setIfInBounds_toArray, List.set_cons_zero, List.set_cons_succ]))
    (refine wpList_take (v := ?_) (by kernel_rfl) ?_ ?_; rotate_left; (focus (go_simp; (try with_reducible rfl))); (try simp only [Act.put, List.getElem_toArray, List.getElem_cons_zero, List.getElem_cons_succ, List.setIfInBounds_toArray, List.set_cons_zero, List.set_cons_succ]))
    go_wp2
    go_ret
    exact ⟨by rw [hz.out]; rfl, hb1⟩
  have b1 := bneN_f e1
  replace e1 := Lib.hid e1
  rcases (Classical.em (t1 = t2)).symm with e2 | e2
  · have b2 := bneN_t e2
    have hz := Lib.hid (show t = false from by
      rw [Bool.eq_false_iff, Ne, ht.out]
      rintro ⟨g0, g1, g2, g3, g4, g5⟩
      exact e2 g2)
    clear e2
    go_enter Tryd.func38, Tryd.ntmps38
    go_upto_region 1 with (first
      | (refine wpList_blk_box rfl (.tmp 0) rfl rfl w.heap.size rfl ?_)
      | (refine wpList_blk_box rfl (.tmp 1) rfl rfl (w.heap.size + 1) (by simp) ?_; rw [← hw1]; clear hw1))
    go_step
    (refine wpList_take (v := ?_) (by kernel_rfl) ?_ ?_; rotate_left; (focus (go_simp; (try with_reducible rfl))); (try simp only [Act.put, List.getElem_toArray, List.getElem_cons_zero, List.getElem_cons_succ, List.setIfInBounds_toArray, List.set_cons_zero, List.set_cons_succ]))
    (refine wpList_take (v := ?_) (by kernel_rfl) ?_ ?_; rotate_left; (focus (go_simp; (try with_reducible rfl))); (try simp only [Act.put, List.getElem_toArray, List.getElem_cons_zero, List.getElem_cons_succ, List.setIfInBounds_toArray, List.set_cons_zero, List.set_cons_succ]))
    (refine wpList_take (v := ?_) (by kernel_rfl) ?_ ?_; rotate_left; (focus (go_simp; (try with_reducible rfl))); (try simp only [Act.put, List.getElem_toArray, List.getElem_cons_zero, List.getElem_cons_succ, List.setIfInBounds_toArray, List.set_cons_zero, List.set_cons_succ]))
    (refine wpList_take (v := ?_) (by kernel_rfl) ?_ ?_; rotate_left; (focus (go_simp; (try with_reducible rfl))); (try simp only [Act.put, List.getElem_toArray, List.getElem_cons_zero, List.getElem_cons_succ, List.setIfInBounds_toArray, List.set_cons_zero, List.set_cons_succ]))
    (refine wpList_take (v := ?_) (by kernel_rfl) ?_ ?_; rotate_left; (focus (go_simp; (try with_reducible rfl))); (try simp only [Act.put, List.getElem_toArray, List.getElem_cons_zero, List.getElem_cons_succ, List.setIfInBounds_toArray, List.set_cons_zero, List.set_cons_succ]))
    (refine wpList_take (v := ?_) (by kernel_rfl) ?_ ?_; rotate_left; (focus (go_simp; (try with_reducible rfl))); (try simp only [Act.put, List.getElem_toArray, List.getElem_cons_zero, List.getElem_cons_succ, List.setIfInBounds_toArray, List.set_cons_zero, List.set_cons_succ]))
    (refine wpList_take (v := ?_) (by kernel_rfl) ?_ ?_; rotate_left; (focus (go_simp; (try with_reducible rfl))); (try simp only [Act.put, List.getElem_toArray, List.getElem_cons_zero, List.getElem_cons_succ, List.setIfInBounds_toArray, List.set_cons_zero, List.set_cons_succ]))
    (refine wpList_take (v := ?_) (by kernel_rfl) ?_ ?_; rotate_left; (focus (go_simp; (try with_reducible rfl))); (try simp only [Act.put, List.getElem_toArray, List.getElem_cons_zero, List.getElem_cons_succ, List.setIfInBounds_toArray, List.set_cons_zero, List.set_cons_succ]))
    (refine wpList_take (v := ?_) (by kernel_rfl) ?_ ?_; rotate_left; (focus (go_simp; (try with_reducible rfl))); (try simp only [Act.put, List.getElem_toArray, List.getElem_cons_zero, List.getElem_cons_succ, List.setIfInBounds_toArray, List.set_cons_zero, List.set_cons_succ]))
    (refine wpList_take (v := ?_) (by kernel_rfl) ?_ ?_; rotate_left; (focus (go_simp; (try with_reducible rfl))); (try simp only [Act.put, List.getElem_toArray, List.getElem_cons_zero, List.getElem_cons_succ, List.setIfInBounds_toArray, List.set_cons_zero, List.set_cons_succ]))
    (refine wpList_take (v := ?_) (by kernel_rfl) ?_ ?_; rotate_left; (focus (go_simp; (try with_reducible rfl))); (try simp only [Act.put, List.getElem_toArray, List.getElem_cons_zero, List.getElem_cons_succ, List.setIfInBounds_toArray, List.set_cons_zero, List.set_cons_succ]))
    (refine wpList_take (v := ?_) (by kernel_rfl) ?_ ?_; rotate_left; (focus (go_simp; (try with_reducible rfl))); (try simp only [Act.put, List.getElem_toArray, List.getElem_cons_zero, List.getElem_cons_succ, List.setIfInBounds_toArray, List.set_cons_zero, List.set_cons_succ]))
    (refine wpList_take (v := ?_) (by kernel_rfl) ?_ ?_; rotate_left; (focus (go_simp; (try with_reducible rfl))); (try simp only [Act.put, List.getElem_toArray, List.getElem_cons_zero, List.getElem_cons_succ, List.setIfInBounds_toArray, List.set_cons_zero, List.set_cons_succ]))
    (refine wpList_take (v := ?_) (by kernel_rfl) ?_ ?_; rotate_left; (focus (go_simp; (try with_reducible rfl))); (try simp only [Act.put, List.getElem_toArray, List.getElem_cons_zero, List.getElem_cons_succ, List.setIfInBounds_toArray, List.set_cons_zero, List.set_cons_succ]))
    (refine wpList_take (v := ?_) (by kernel_rfl) ?_ ?_; rotate_left; (focus (go_simp; (try with_reducible rfl))); (try simp only [Act.put, List.getElem_toArray, List.getElem_cons_zero, List.getElem_cons_succ, List.setIfInBounds_toArray, List.set_cons_zero, List.set_cons_succ]))
    (refine wpList_take (v := ?_) (by kernel_rfl) ?_ ?_; rotate_left; (focus (go_simp; (try with_reducible rfl))); (try simp only [Act.put, List.getElem_toArray, List.getElem_cons_zero, List.getElem_cons_succ, List.setIfInBounds_toArray, List.set_cons_zero, List.set_cons_succ]))
    (refine wpList_take (v := ?_) (by kernel_rfl) ?_ ?_; rotate_left; (focus (go_simp; (try with_reducible rfl))); (try simp only [Act.put, List.getElem_toArray, List.getElem_cons_zero, List.getElem_cons_succ, List.setIfInBounds_toArray, List.set_cons_zero, List.set_cons_succ]))
    (refine wpList_take (v := ?_) (by kernel_rfl) ?_ ?_; rotate_left; (focus (go_simp; (try with_reducible rfl))); (try simp only [Act.put, List.getElem_toArray, List.getElem_cons_zero, List.getElem_cons_succ, List.setIfInBounds_toArray, List.set_cons_zero, List.set_cons_succ]))
    (refine wpList_take (v := ?_) (by kernel_rfl) ?_ ?_; rotate_left; (focus (go_simp; (try with_reducible rfl))); (try simp only [Act.put, List.getElem_toArray, List.getElem_cons_zero, List.getElem_cons_succ, List.setIfInBounds_toArray, List.set_cons_zero, List.set_cons_succ]))
    (refine wpList_take (v := ?_) (by kernel_rfl) ?_ ?_; rotate_left; (focus (go_simp; (try with_reducible rfl))); (try simp only [Act.put, List.getElem_toArray, List.getElem_cons_zero, List.getElem_cons_succ, List.setIfInBounds_toArray, List.set_cons_zero, List.set_cons_succ]))
    (refine wpList_skip (by kernel_rfl) ?_; (try simp only [Act.put, List.getElem_toArray, List.getElem_cons_zero, List.getElem_cons_succ, List.setIfInBounds_toArray, List.set_cons_zero, List.set_cons_succ]))
    (refine wpList_skip (by kernel_rfl) ?_; (try simp only [Act.put, List.getElem_toArray, List.getElem_cons_zero, List.getElem_cons_succ, List.setIfInBounds_toArray, List.set_cons_zero, List.set_cons_succ]))
    (refine wpList_skip (by kernel_rfl) ?_; (try simp only [Act.put, List.getElem_toArray, List.getElem_cons_zero, List.getElem_cons_succ, List.setIfInBounds_toArray, List.set_cons_zero, List.set_cons_succ]))
    (refine wpList_skip (by kernel_rfl) ?_; (try simp only [Act.put, List.getElem_toArray, List.getElem_cons_zero, List.getElem_cons_succ, List.setIfInBounds_toArray, List.set_cons_zero, List.set_cons_succ]))
    (refine wpList_skip (by kernel_rfl) ?_; (try simp only [Act.put, List.getElem_toArray, List.getElem_cons_zero, List.getElem_cons_succ, List.setIfInBounds_toArray, List.set_cons_zero, List.set_cons_succ]))
    (refine wpList_take (v := ?_) (by kernel_rfl) ?_ ?_; rotate_left; (focus (go_simp; (try with_reducible rfl))); (try simp only [Act.put, List.getElem_toArray, List.getElem_cons_zero, List.getElem_cons_succ, List.setIfInBounds_toArray, List.set_cons_zero, List.set_cons_succ]))
    (refine wpList_take (v := ?_) (by kernel_rfl) ?_ ?_; rotate_left; (focus (go_simp; (try with_reducible rfl))); (try simp only [Act.put, List.getElem_toArray, List.getElem_cons_zero, List.getElem_cons_succ, List.setIfInBounds_toArray, List.set_cons_zero, List.set_cons_succ]))
    (refine wpList_skip (by kernel_rfl) ?_; (try simp only [Act.put, List.getElem_toArray, List.getElem_cons_zero, List.getElem_cons_succ, List.setIfInBounds_toArray, List.set_cons_zero, List.set_cons_succ]))
    (refine wpList_skip (by kernel_rfl) ?_; (try simp only [Act.put, List.getElem_toArray, List.getElem_cons_zero, List.getElem_cons_succ, List.setIfInBounds_toArray, List.set_cons_zero, List.set_cons_succ]))
    (refine wpList_skip (by kernel_rfl) ?_; (try simp only [Act.put, List.getElem_toArray, List.getElem_cons_zero, List.getElem_cons_succ, List.setIfInBounds_toArray, List.set_cons_zero, List.set_cons_succ]))
    (refine wpList_skip (by kernel_rfl) ?_; (try simp only [Act.put, List.getElem_toArray, List.getElem_cons_zero, List.getElem_cons_succ, List.setIfInBounds_toArray, List.set_cons_zero, List.set_cons_succ]))
    (refine wpList_skip (by kernel_rfl) ?_; (try simp only [Act.put, List.getElem_toArray, List.getElem_cons_zero, List.getElem_cons_succ, List.setIfInBounds_toArray, List.set_cons_zero, List.set_cons_succ]))
    (refine wpList_take (v := ?_) (by kernel_rfl) ?_ ?_; rotate_left; (focus (go_simp; (try with_reducible rfl))); (try simp only [Act.put, List.getElem_toArray, List.getElem_cons_zero, List.getElem_cons_succ, List.setIfInBounds_toArray, List.set_cons_zero, List.set_cons_succ]))
    (refine wpList_take (v := ?_) (by kernel_rfl) ?_ ?_; rotate_left; (focus (go_simp; (try with_reducible rfl))); (try simp only [Act.put, List.getElem_toArray, List.getElem_cons_zero, List.getElem_cons_succ, List.setIfInBounds_toArray, List.set_cons_zero, List.set_cons_succ]))
    (refine wpList_skip (by kernel_rfl) ?_; (try simp only [Act.put, List.getElem_toArray, List.getElem_cons_zero, List.getElem_cons_succ, List.setIfInBounds_toArray, List.set_cons_zero, List.set_cons_succ]))
    (refine wpList_skip (by kernel_rfl) ?_; (try simp only [Act.put, List.getElem_toArray, List.getElem_cons_zero, List.getElem_cons_succ, List.setIfInBounds_toArray, List.set_cons_zero, List.set_cons_succ]))
    (refine wpList_skip (by kernel_rfl) ?_; (try simp only [Act.put, List.getElem_toArray, List.getElem_cons_zero, List.getElem_cons_succ, List.setIfInBounds_toArray, List.set_cons_zero, List.set_cons_succ]))
    (refine wpList_skip (by kernel_rfl) ?_; (try simp only [Act.put, List.getElem_toArray, List.getElem_cons_zero, List.getElem_cons_succ, List.setIfInBounds_toArray, List.set_cons_zero, List.set_cons_succ]))
    (refine wpList_skip (by kernel_rfl) ?_; (try simp only [Act.put, List.getElem_toArray, List.getElem_cons_zero, List.getElem_cons_succ, List.setIfInBounds_toArray, List.set_cons_zero, List.set_cons_succ]))
    (refine wpList_skip (by kernel_rfl) ?_; (try simp only [Act.put, List.getElem_toArray, List.getElem_cons_zero, List.getElem_cons_succ, List.setIfInBounds_toArray, List.set_cons_zero, List.set_cons_succ]))
    (refine wpList_skip (by kernel_rfl) ?_; (try simp only [Act.put, List.getElem_toArray, List.getElem_cons_zero, List.getElem_cons_succ, List.setIfInBounds_toArray, List.set_cons_zero, List.set_cons_succ]))
    (refine wpList_take (v := ?_) (by kernel_rfl) ?_ ?_; rotate_left; (focus (go_simp; (try with_reducible rfl))); (try simp only [Act.put, List.getElem_toArray, List.getElem_cons_zero, List.getElem_cons_succ, List.setIfInBounds_toArray, List.set_cons_zero, List.set_cons_succ]))
    go_wp2
    go_ret
    exact ⟨by rw [hz.out]; rfl, hb1⟩
  have b2 := bneN_f e2
  replace e2 := Lib.hid e2
  rcases (Classical.em (v1 = v2)).symm with e3 | e3
  · have b3 := bneI_t e3
    have hz := Lib.hid (show t = false from by
      rw [Bool.eq_false_iff, Ne, ht.out]
      rintro ⟨g0, g1, g2, g3, g4, g5⟩
      exact e3 g3)
    clear e3
    go_enter Tryd.func38, Tryd.ntmps38
    go_upto_region 1 with (first
      | (refine wpList_blk_box rfl (.tmp 0) rfl rfl w.heap.size rfl ?_)
      | (refine wpList_blk_box rfl (.tmp 1) rfl rfl (w.heap.size + 1) (by simp) ?_; rw [← hw1]; clear hw1))
    go_step
    (refine wpList_take (v := ?_) (by kernel_rfl) ?_ ?_; rotate_left; (focus (go_simp; (try with_reducible rfl))); (try simp only [Act.put, List.getElem_toArray, List.getElem_cons_zero, List.getElem_cons_succ, List.setIfInBounds_toArray, List.set_cons_zero, List.set_cons_succ]))
    (refine wpList_take (v := ?_) (by kernel_rfl) ?_ ?_; rotate_left; (focus (go_simp; (try with_reducible rfl))); (try simp only [Act.put, List.getElem_toArray, List.getElem_cons_zero, List.getElem_cons_succ, List.setIfInBounds_toArray, List.set_cons_zero, List.set_cons_succ]))
    (refine wpList_take (v := ?_) (by kernel_rfl) ?_ ?_; rotate_left; (focus (go_simp; (try with_reducible rfl))); (try simp only [Act.put, List.getElem_toArray, List.getElem_cons_zero, List.getElem_cons_succ, List.setIfInBounds_toArray, List.set_cons_zero, List.set_cons_succ]))
    (refine wpList_take (v := ?_) (by kernel_rfl) ?_ ?_; rotate_left; (focus (go_simp; (try with_reducible rfl))); (try simp only [Act.put, List.getElem_toArray, List.getElem_cons_zero, List.getElem_cons_succ, List.setIfInBounds_toArray, List.set_cons_zero, List.set_cons_succ]))
    (refine wpList_take (v := ?_) (by kernel_rfl) ?_ ?_; rotate_left; (focus (go_simp; (try with_reducible rfl))); (try simp only [Act.put, List.getElem_toArray, List.getElem_cons_zero, List.getElem_cons_succ, List.setIfInBounds_toArray, List.set_cons_zero, List.set_cons_succ]))
    (refine wpList_take (v := ?_) (by kernel_rfl) ?_ ?_; rotate_left; (focus (go_simp; (try with_reducible rfl))); (try simp only [Act.put, List.getElem_toArray, List.getElem_cons_zero, List.getElem_cons_succ, List.setIfInBounds_toArray, List.set_cons_zero, List.set_cons_succ]))
    (refine wpList_take (v := ?_) (by kernel_rfl) ?_ ?_; rotate_left; (focus (go_simp; (try with_reducible rfl))); (try simp only [Act.put, List.getElem_toArray, List.getElem_cons_zero, List.getElem_cons_succ, List.setIfInBounds_toArray, List.set_cons_zero, List.set_cons_succ]))
    (refine wpList_take (v := ?_) (by kernel_rfl) ?_ ?_; rotate_left; (focus (go_simp; (try with_reducible rfl))); (try simp only [Act.put, List.getElem_toArray, List.getElem_cons_zero, List.getElem_cons_succ, List.setIfInBounds_toArray, List.set_cons_zero, List.set_cons_succ]))
    (refine wpList_take (v := ?_) (by kernel_rfl) ?_ ?_; rotate_left; (focus (go_simp; (try with_reducible rfl))); (try simp only [Act.put, List.getElem_toArray, List.getElem_cons_zero, List.getElem_cons_succ, List.setIfInBounds_toArray, List.set_cons_zero, List.set_cons_succ]))
    (refine wpList_take (v := ?_) (by kernel_rfl) ?_ ?_; rotate_left; (focus (go_simp; (try with_reducible rfl))); (try simp only [Act.put, List.getElem_toArray, List.getElem_cons_zero, List.getElem_cons_succ, List.setIfInBounds_toArray, List.set_cons_zero, List.set_cons_succ]))
    (refine wpList_take (v := ?_) (by kernel_rfl) ?_ ?_; rotate_left; (focus (go_simp; (try with_reducible rfl))); (try simp only [Act.put, List.getElem_toArray, List.getElem_cons_zero, List.getElem_cons_succ, List.setIfInBounds_toArray, List.set_cons_zero, List.set_cons_succ]))
    (refine wpList_take (v := ?_) (by kernel_rfl) ?_ ?_; rotate_left; (focus (go_simp; (try with_reducible rfl))); (try simp only [Act.put, List.getElem_toArray, List.getElem_cons_zero, List.getElem_cons_succ, List.setIfInBounds_toArray, List.set_cons_zero, List.set_cons_succ]))
    (refine wpList_take (v := ?_) (by kernel_rfl) ?_ ?_; rotate_left; (focus (go_simp; (try with_reducible rfl))); (try simp only [Act.put, List.getElem_toArray, List.getElem_cons_zero, List.getElem_cons_succ, List.setIfInBounds_toArray, List.set_cons_zero, List.set_cons_succ]))
    (refine wpList_take (v := ?_) (by kernel_rfl) ?_ ?_; rotate_left; (focus (go_simp; (try with_reducible rfl))); (try simp only [Act.put, List.getElem_toArray, List.getElem_cons_zero, List.getElem_cons_succ, List.setIfInBounds_toArray, List.set_cons_zero, List.set_cons_succ]))
    (refine wpList_take (v := ?_) (by kernel_rfl) ?_ ?_; rotate_left; (focus (go_simp; (try with_reducible rfl))); (try simp only [Act.put, List.getElem_toArray, List.getElem_cons_zero, List.getElem_cons_succ, List.setIfInBounds_toArray, List.set_cons_zero, List.set_cons_succ]))
    (refine wpList_take (v := ?_) (by kernel_rfl) ?_ ?_; rotate_left; (focus (go_simp; (try with_reducible rfl))); (try simp only [Act.put, List.getElem_toArray, List.getElem_cons_zero, List.getElem_cons_succ, List.setIfInBounds_toArray, List.set_cons_zero, List.set_cons_succ]))
    (refine wpList_take (v := ?_) (by kernel_rfl) ?_ ?_; rotate_left; (focus (go_simp; (try with_reducible rfl))); (try simp only [Act.put, List.getElem_toArray, List.getElem_cons_zero, List.getElem_cons_succ, List.setIfInBounds_toArray, List.set_cons_zero, List.set_cons_succ]))
    (refine wpList_take (v := ?_) (by kernel_rfl) ?_ ?_; rotate_left; (focus (go_simp; (try with_reducible rfl))); (try simp only [Act.put, List.getElem_toArray, List.getElem_cons_zero, List.getElem_cons_succ, List.setIfInBounds_toArray, List.set_cons_zero, List.set_cons_succ]))
    (refine wpList_take (v := ?_) (by kernel_rfl) ?_ ?_; rotate_left; (focus (go_simp; (try with_reducible rfl))); (try simp only [Act.put, List.getElem_toArray, List.getElem_cons_zero, List.getElem_cons_succ, List.setIfInBounds_toArray, List.set_cons_zero, List.set_cons_succ]))
    (refine wpList_take (v := ?_) (by kernel_rfl) ?_ ?_; rotate_left; (focus (go_simp; (try with_reducible rfl))); (try simp only [Act.put, List.getElem_toArray, List.getElem_cons_zero, List.getElem_cons_succ, List.setIfInBounds_toArray, List.set_cons_zero, List.set_cons_succ]))
    (refine wpList_take (v := ?_) (by kernel_rfl) ?_ ?_; rotate_left; (focus (go_simp; (try with_reducible rfl))); (try simp only [Act.put, List.getElem_toArray, List.getElem_cons_zero, List.getElem_cons_succ, List.setIfInBounds_toArray, List.set_cons_zero, List.set_cons_succ]))
    (refine wpList_take (v := ?_) (by kernel_rfl) ?_ ?_; rotate_left; (focus (go_simp; (try with_reducible rfl))); (try simp only [Act.put, List.getElem_toArray, List.getElem_cons_zero, List.getElem_cons_succ, List.setIfInBounds_toArray, List.set_cons_zero, List.set_cons_succ]))
    (refine wpList_take (v := ?_) (by kernel_rfl) ?_ ?_; rotate_left; (focus (go_simp; (try with_reducible rfl))); (try simp only [Act.put, List.getElem_toArray, List.getElem_cons_zero, List.getElem_cons_succ, List.setIfInBounds_toArray, List.set_cons_zero, List.set_cons_succ]))
    (refine wpList_take (v := ?_) (by kernel_rfl) ?_ ?_; rotate_left; (focus (go_simp; (try with_reducible rfl))); (try simp only [Act.put, List.getElem_toArray, List.getElem_cons_zero, List.getElem_cons_succ, List.setIfInBounds_toArray, List.set_cons_zero, List.set_cons_succ]))
    (refine wpList_take (v := ?_) (by kernel_rfl) ?_ ?_; rotate_left; (focus (go_simp; (try with_reducible rfl))); (try simp only [Act.put, List.getElem_toArray, List.getElem_cons_zero, List.getElem_cons_succ, List.setIfInBounds_toArray, List.set_cons_zero, List.set_cons_succ]))
    (refine wpList_take (v := ?_) (by kernel_rfl) ?_ ?_; rotate_left; (focus (go_simp; (try with_reducible rfl))); (try simp only [Act.put, List.getElem_toArray, List.getElem_cons_zero, List.getElem_cons_succ, List.setIfInBounds_toArray, List.set_cons_zero, List.set_cons_succ]))
    (refine wpList_take (v := ?_) (by kernel_rfl) ?_ ?_; rotate_left; (focus (go_simp; (try with_reducible rfl))); (try simp only [Act.put, List.getElem_toArray, List.getElem_cons_zero, List.getElem_cons_succ, List.setIfInBounds_toArray, List.set_cons_zero, List.set_cons_succ]))
    (refine wpList_skip (by kernel_rfl) ?_; (try simp only [Act.put, List.getElem_toArray, List.getElem_cons_zero, List.getElem_cons_succ, List.setIfInBounds_toArray, List.set_cons_zero, List.set_cons_succ]))
    (refine wpList_skip (by kernel_rfl) ?_; (try simp only [Act.put, List.getElem_toArray, List.getElem_cons_zero, List.getElem_cons_succ, List.setIfInBounds_toArray, List.set_cons_zero, List.set_cons_succ]))
    (refine wpList_skip (by kernel_rfl) ?_; (try simp only [Act.put, List.getElem_toArray, List.getElem_cons_zero, List.getElem_cons_succ, List.setIfInBounds_toArray, List.set_cons_zero, List.set_cons_succ]))
    (refine wpList_skip (by kernel_rfl) ?_; (try simp only [Act.put, List.getElem_toArray, List.getElem_cons_zero, List.getElem_cons_succ, List.setIfInBounds_toArray, List.set_cons_zero, List.set_cons_succ]))
    (refine wpList_skip (by kernel_rfl) ?_; (try simp only [Act.put, List.getElem_toArray, List.getElem_cons_zero, List.getElem_cons_succ, List.setIfInBounds_toArray, List.set_cons_zero, List.set_cons_succ]))
    (refine wpList_take (v := ?_) (by kernel_rfl) ?_ ?_; rotate_left; (focus (go_simp; (try with_reducible rfl))); (try simp only [Act.put, List.getElem_toArray, List.getElem_cons_zero, List.getElem_cons_succ, List.setIfInBounds_toArray, List.set_cons_zero, List.set_cons_succ]))
    (refine wpList_take (v := ?_) (by kernel_rfl) ?_ ?_; rotate_left; (focus (go_simp; (try with_reducible rfl))); (try simp only [Act.put, List.getElem_toArray, List.getElem_cons_zero, List.getElem_cons_succ, List.setIfInBounds_toArray, List.set_cons_zero, List.set_cons_succ]))
    (refine wpList_skip (by kernel_rfl) ?_; (try simp only [Act.put, List.getElem_toArray, List.getElem_cons_zero, List.getElem_cons_succ, List.setIfInBounds_toArray, List.set_cons_zero, List.set_cons_succ]))
    (refine wpList_skip (by kernel_rfl) ?_; (try simp only [Act.put, List.getElem_toArray, List.getElem_cons_zero, List.getElem_cons_succ, List.setIfInBounds_toArray, List.set_cons_zero, List.set_cons_succ]))
    (refine wpList_skip (by kernel_rfl) ?_; (try simp only [Act.put, List.getElem_toArray, List.getElem_cons_zero, List.getElem_cons_succ, List.setIfInBounds_toArray, List.set_cons_zero, List.set_cons_succ]))
    (refine wpList_skip (by kernel_rfl) ?_; (try simp only [Act.put, List.getElem_toArray, List.getElem_cons_zero, List.getElem_cons_succ, List.setIfInBounds_toArray, List.set_cons_zero, List.set_cons_succ]))
    (refine wpList_skip (by kernel_rfl) ?_; (try simp only [Act.put, List.getElem_toArray, List.getElem_cons_zero, List.getElem_cons_succ, List.setIfInBounds_toArray, List.set_cons_zero, List.set_cons_succ]))
    (refine wpList_skip (by kernel_rfl) ?_; (try simp only [Act.put, List.getElem_toArray, List.getElem_cons_zero, List.getElem_cons_succ, List.setIfInBounds_toArray, List.set_cons_zero, List.set_cons_succ]))
    (refine wpList_skip (by kernel_rfl) ?_; (try simp only [Act.put, List.getElem_toArray, List.getElem_cons_zero, List.getElem_cons_succ, List.setIfInBounds_toArray, List.set_cons_zero, List.set_cons_succ]))
    (refine wpList_take (v := ?_) (by kernel_rfl) ?_ ?_; rotate_left; (focus (go_simp; (try with_reducible rfl))); (try simp only [Act.put, List.getElem_toArray, List.getElem_cons_zero, List.getElem_cons_succ, List.setIfInBounds_toArray, List.set_cons_zero, List.set_cons_succ]))
    go_wp2
    go_ret
    exact ⟨by rw [hz.out]; rfl, hb1⟩
  have b3 := bneI_f e3
  replace e3 := Lib.hid e3
  rcases (Classical.em (p1 = p2)).symm with e4 | e4
  · have b4 := bneS_t e4
    have hz := Lib.hid (show t = false from by
      rw [Bool.eq_false_iff, Ne, ht.out]
      rintro ⟨g0, g1, g2, g3, g4, g5⟩
      exact e4 g5)
    clear e4
    go_enter Tryd.func38, Tryd.ntmps38
    go_upto_region 1 with (first
      | (refine wpList_blk_box rfl (.tmp 0) rfl rfl w.heap.size rfl ?_)
      | (refine wpList_blk_box rfl (.tmp 1) rfl rfl (w.heap.size + 1) (by simp) ?_; rw [← hw1]; clear hw1))
    go_step
    (refine wpList_take (v := ?_) (by kernel_rfl) ?_ ?_; rotate_left; (focus (go_simp; (try with_reducible rfl))); (try simp only [Act.put, List.getElem_toArray, List.getElem_cons_zero, List.getElem_cons_succ, List.setIfInBounds_toArray, List.set_cons_zero, List.set_cons_succ]))
    (refine wpList_take (v := ?_) (by kernel_rfl) ?_ ?_; rotate_left; (focus (go_simp; (try with_reducible rfl))); (try simp only [Act.put, List.getElem_toArray, List.getElem_cons_zero, List.getElem_cons_succ, List.setIfInBounds_toArray, List.set_cons_zero, List.set_cons_succ]))
    (refine wpList_take (v := ?_) (by kernel_rfl) ?_ ?_; rotate_left; (focus (go_simp; (try with_reducible rfl))); (try simp only [Act.put, List.getElem_toArray, List.getElem_cons_zero, List.getElem_cons_succ, List.setIfInBounds_toArray, List.set_cons_zero, List.set_cons_succ]))
    (refine wpList_take (v := ?_) (by kernel_rfl) ?_ ?_; rotate_left; (focus (go_simp; (try with_reducible rfl))); (try simp only [Act.put, List.getElem_toArray, List.getElem_cons_zero, List.getElem_cons_succ, List.setIfInBounds_toArray, List.set_cons_zero, List.set_cons_succ]))
    (refine wpList_take (v := ?_) (by kernel_rfl) ?_ ?_; rotate_left; (focus (go_simp; (try with_reducible rfl))); (try simp only [Act.put, List.getElem_toArray, List.getElem_cons_zero, List.getElem_cons_succ, List.setIfInBounds_toArray, List.set_cons_zero, List.set_cons_succ]))
    (refine wpList_take (v := ?_) (by kernel_rfl) ?_ ?_; rotate_left; (focus (go_simp; (try with_reducible rfl))); (try simp only [Act.put, List.getElem_toArray, List.getElem_cons_zero, List.getElem_cons_succ, List.setIfInBounds_toArray, List.set_cons_zero, List.set_cons_succ]))
    (refine wpList_take (v := ?_) (by kernel_rfl) ?_ ?_; rotate_left; (focus (go_simp; (try with_reducible rfl))); (try simp only [Act.put, List.getElem_toArray, List.getElem_cons_zero, List.getElem_cons_succ, List.setIfInBounds_toArray, List.set_cons_zero, List.set_cons_succ]))
    (refine wpList_take (v := ?_) (by kernel_rfl) ?_ ?_; rotate_left; (focus (go_simp; (try with_reducible rfl))); (try simp only [Act.put, List.getElem_toArray, List.getElem_cons_zero, List.getElem_cons_succ, List.setIfInBounds_toArray, List.set_cons_zero, List.set_cons_succ]))
    (refine wpList_take (v := ?_) (by kernel_rfl) ?_ ?_; rotate_left; (focus (go_simp; (try with_reducible rfl))); (try simp only [Act.put, List.getElem_toArray, List.getElem_cons_zero, List.getElem_cons_succ, List.setIfInBounds_toArray, List.set_cons_zero, List.set_cons_succ]))
    (refine wpList_take (v := ?_) (by kernel_rfl) ?_ ?_; rotate_left; (focus (go_simp; (try with_reducible rfl))); (try simp only [Act.put, List.getElem_toArray, List.getElem_cons_zero, List.getElem_cons_succ, List.setIfInBounds_toArray, List.set_cons_zero, List.set_cons_succ]))
    (refine wpList_take (v := ?_) (by kernel_rfl) ?_ ?_; rotate_left; (focus (go_simp; (try with_reducible rfl))); (try simp only [Act.put, List.getElem_toArray, List.getElem_cons_zero, List.getElem_cons_succ, List.setIfInBounds_toArray, List.set_cons_zero, List.set_cons_succ]))
    (refine wpList_take (v := ?_) (by kernel_rfl) ?_ ?_; rotate_left; (focus (go_simp; (try with_reducible rfl))); (try simp only [Act.put, List.getElem_toArray, List.getElem_cons_zero, List.getElem_cons_succ, List.setIfInBounds_toArray, List.set_cons_zero, List.set_cons_succ]))
    (refine wpList_take (v := ?_) (by kernel_rfl) ?_ ?_; rotate_left; (focus (go_simp; (try with_reducible rfl))); (try simp only [Act.put, List.getElem_toArray, List.getElem_cons_zero, List.getElem_cons_succ, List.setIfInBounds_toArray, List.set_cons_zero, List.set_cons_succ]))
    (refine wpList_take (v := ?_) (by kernel_rfl) ?_ ?_; rotate_left; (focus (go_simp; (try with_reducible rfl))); (try simp only [Act.put, List.getElem_toArray, List.getElem_cons_zero, List.getElem_cons_succ, List.setIfInBounds_toArray, List.set_cons_zero, List.set_cons_succ]))
    (refine wpList_take (v := ?_) (by kernel_rfl) ?_ ?_; rotate_left; (focus (go_simp; (try with_reducible rfl))); (try simp only [Act.put, List.getElem_toArray, List.getElem_cons_zero, List.getElem_cons_succ, List.setIfInBounds_toArray, List.set_cons_zero, List.set_cons_succ]))
    (refine wpList_take (v := ?_) (by kernel_rfl) ?_ ?_; rotate_left; (focus (go_simp; (try with_reducible rfl))); (try simp only [Act.put, List.getElem_toArray, List.getElem_cons_zero, List.getElem_cons_succ, List.setIfInBounds_toArray, List.set_cons_zero, List.set_cons_succ]))
    (refine wpList_take (v := ?_) (by kernel_rfl) ?_ ?_; rotate_left; (focus (go_simp; (try with_reducible rfl))); (try simp only [Act.put, List.getElem_toArray, List.getElem_cons_zero, List.getElem_cons_succ, List.setIfInBounds_toArray, List.set_cons_zero, List.set_cons_succ]))
    (refine wpList_take (v := ?_) (by kernel_rfl) ?_ ?_; rotate_left; (focus (go_simp; (try with_reducible rfl))); (try simp only [Act.put, List.getElem_toArray, List.getElem_cons_zero, List.getElem_cons_succ, List.setIfInBounds_toArray, List.set_cons_zero, List.set_cons_succ]))
    (refine wpList_take (v := ?_) (by kernel_rfl) ?_ ?_; rotate_left; (focus (go_simp; (try with_reducible rfl))); (try simp only [Act.put, List.getElem_toArray, List.getElem_cons_zero, List.getElem_cons_succ, List.setIfInBounds_toArray, List.set_cons_zero, List.set_cons_succ]))
    (refine wpList_take (v := ?_) (by kernel_rfl) ?_ ?_; rotate_left; (focus (go_simp; (try with_reducible rfl))); (try simp only [Act.put, List.getElem_toArray, List.getElem_cons_zero, List.getElem_cons_succ, List.setIfInBounds_toArray, List.set_cons_zero, List.set_cons_succ]))
    (refine wpList_take (v := ?_) (by kernel_rfl) ?_ ?_; rotate_left; (focus (go_simp; (try with_reducible rfl))); (try simp only [Act.put, List.getElem_toArray, List.getElem_cons_zero, List.getElem_cons_succ, List.setIfInBounds_toArray, List.set_cons_zero, List.set_cons_succ]))
    (refine wpList_take (v := ?_) (by kernel_rfl) ?_ ?_; rotate_left; (focus (go_simp; (try with_reducible rfl))); (try simp only [Act.put, List.getElem_toArray, List.getElem_cons_zero, List.getElem_cons_succ, List.setIfInBounds_toArray, List.set_cons_zero, List.set_cons_succ]))
    (refine wpList_take (v := ?_) (by kernel_rfl) ?_ ?_; rotate_left; (focus (go_simp; (try with_reducible rfl))); (try simp only [Act.put, List.getElem_toArray, List.getElem_cons_zero, List.getElem_cons_succ, List.setIfInBounds_toArray, List.set_cons_zero, List.set_cons_succ]))
    (refine wpList_take (v := ?_) (by kernel_rfl) ?_ ?_; rotate_left; (focus (go_simp; (try with_reducible rfl))); (try simp only [Act.put, List.getElem_toArray, List.getElem_cons_zero, List.getElem_cons_succ, List.setIfInBounds_toArray, List.set_cons_zero, List.set_cons_succ]))
    (refine wpList_take (v := ?_) (by kernel_rfl) ?_ ?_; rotate_left; (focus (go_simp; (try with_reducible rfl))); (try simp only [Act.put, List.getElem_toArray, List.getElem_cons_zero, List.getElem_cons_succ, List.setIfInBounds_toArray, List.set_cons_zero, List.set_cons_succ]))
    (refine wpList_take (v := ?_) (by kernel_rfl) ?_ ?_; rotate_left; (focus (go_simp; (try with_reducible rfl))); (try simp only [Act.put, List.getElem_toArray, List.getElem_cons_zero, List.getElem_cons_succ, List.setIfInBounds_toArray, List.set_cons_zero, List.set_cons_succ]))
    (refine wpList_take (v := ?_) (by kernel_rfl) ?_ ?_; rotate_left; (focus (go_simp; (try with_reducible rfl))); (try simp only [Act.put, List.getElem_toArray, List.getElem_cons_zero, List.getElem_cons_succ, List.setIfInBounds_toArray, List.set_cons_zero, List.set_cons_succ]))
    (refine wpList_take (v := ?_) (by kernel_rfl) ?_ ?_; rotate_left; (focus (go_simp; (try with_reducible rfl))); (try simp only [Act.put, List.getElem_toArray, List.getElem_cons_zero, List.getElem_cons_succ, List.setIfInBounds_toArray, List.set_cons_zero, List.set_cons_succ]))
    (refine wpList_take (v := ?_) (by kernel_rfl) ?_ ?_; rotate_left; (focus (go_simp; (try with_reducible rfl))); (try simp only [Act.put, List.getElem_toArray, List.getElem_cons_zero, List.getElem_cons_succ, List.setIfInBounds_toArray, List.set_cons_zero, List.set_cons_succ]))
    (refine wpList_take (v := ?_) (by kernel_rfl) ?_ ?_; rotate_left; (focus (go_simp; (try with_reducible rfl))); (try simp only [Act.put, List.getElem_toArray, List.getElem_cons_zero, List.getElem_cons_succ, List.setIfInBounds_toArray, List.set_cons_zero, List.set_cons_succ]))
    (refine wpList_take (v := ?_) (by kernel_rfl) ?_ ?_; rotate_left; (focus (go_simp; (try with_reducible rfl))); (try simp only [Act.put, List.getElem_toArray, List.getElem_cons_zero, List.getElem_cons_succ, List.setIfInBounds_toArray, List.set_cons_zero, List.set_cons_succ]))
    (refine wpList_take (v := ?_) (by kernel_rfl) ?_ ?_; rotate_left; (focus (go_simp; (try with_reducible rfl))); (try simp only [Act.put, List.getElem_toArray, List.getElem_cons_zero, List.getElem_cons_succ, List.setIfInBounds_toArray, List.set_cons_zero, List.set_cons_succ]))
    (refine wpList_take (v := ?_) (by kernel_rfl) ?_ ?_; rotate_left; (focus (go_simp; (try with_reducible rfl))); (try simp only [Act.put, List.getElem_toArray, List.getElem_cons_zero, List.getElem_cons_succ, List.setIfInBounds_toArray, List.set_cons_zero, List.set_cons_succ]))
    (refine wpList_take (v := ?_) (by kernel_rfl) ?_ ?_; rotate_left; (focus (go_simp; (try with_reducible rfl))); (try simp only [Act.put, List.getElem_toArray, List.getElem_cons_zero, List.getElem_cons_succ, List.setIfInBounds_toArray, List.set_cons_zero, List.set_cons_succ]))
    (refine wpList_skip (by kernel_rfl) ?_; (try simp only [Act.put, List.getElem_toArray, List.getElem_cons_zero, List.getElem_cons_succ, List.setIfInBounds_toArray, List.set_cons_zero, List.set_cons_succ]))
    (refine wpList_skip (by kernel_rfl) ?_; (try simp only [Act.put, List.getElem_toArray, List.getElem_cons_zero, List.getElem_cons_succ, List.setIfInBounds_toArray, List.set_cons_zero, List.set_cons_succ]))
    (refine wpList_skip (by kernel_rfl) ?_; (try simp only [Act.put, List.getElem_toArray, List.getElem_cons_zero, List.getElem_cons_succ, List.setIfInBounds_toArray, List.set_cons_zero, List.set_cons_succ]))
    (refine wpList_skip (by kernel_rfl) ?_; (try simp only [Act.put, List.getElem_toArray, List.getElem_cons_zero, List.getElem_cons_succ, List.setIfInBounds_toArray, List.set_cons_zero, List.set_cons_succ]))
    (refine wpList_skip (by kernel_rfl) ?_; (try simp only [Act.put, List.getElem_toArray, List.getElem_cons_zero, List.getElem_cons_succ, List.setIfInBounds_toArray, List.set_cons_zero, List.set_cons_succ]))
    (refine wpList_skip (by kernel_rfl) ?_; (try simp only [Act.put, List.getElem_toArray, List.getElem_cons_zero, List.getElem_cons_succ, List.setIfInBounds_toArray, List.set_cons_zero, List.set_cons_succ]))
    (refine wpList_skip (by kernel_rfl) ?_; (try simp only [Act.put, List.getElem_toArray, List.getElem_cons_zero, List.getElem_cons_succ, List.setIfInBounds_toArray, List.set_cons_zero, List.set_cons_succ]))
    (refine wpList_take (v := ?_) (by kernel_rfl) ?_ ?_; rotate_left; (focus (go_simp; (try with_reducible rfl))); (try simp only [Act.put, List.getElem_toArray, List.getElem_cons_zero, List.getElem_cons_succ, List.setIfInBounds_toArray, List.set_cons_zero, List.set_cons_succ]))
    go_wp2
    go_ret
    exact ⟨by rw [hz.out]; rfl, hb1⟩
  subst e4
  rcases (Classical.em (xn = yn)).symm with e5 | e5
  · have b5 := bneN_t e5
    have hz := Lib.hid (show t = false from by
      rw [Bool.eq_false_iff, Ne, ht.out]
      rintro ⟨g0, g1, g2, g3, g4, g5⟩
      exact e5 (by rw [← hxl.out, ← hyl.out, g4]))
    clear e5
    go_enter Tryd.func38, Tryd.ntmps38
    go_upto_region 1 with (first
      | (refine wpList_blk_box rfl (.tmp 0) rfl rfl w.heap.size rfl ?_)
      | (refine wpList_blk_box rfl (.tmp 1) rfl rfl (w.heap.size + 1) (by simp) ?_; rw [← hw1]; clear hw1))
    go_step
    (refine wpList_take (v := ?_) (by kernel_rfl) ?_ ?_; rotate_left; (focus (go_simp; (try with_reducible rfl))); (try simp only [Act.put, List.getElem_toArray, List.getElem_cons_zero, List.getElem_cons_succ, List.setIfInBounds_toArray, List.set_cons_zero, List.set_cons_succ]))
    (refine wpList_take (v := ?_) (by kernel_rfl) ?_ ?_; rotate_left; (focus (go_simp; (try with_reducible rfl))); (try simp only [Act.put, List.getElem_toArray, List.getElem_cons_zero, List.getElem_cons_succ, List.setIfInBounds_toArray, List.set_cons_zero, List.set_cons_succ]))
    (refine wpList_take (v := ?_) (by kernel_rfl) ?_ ?_; rotate_left; (focus (go_simp; (try with_reducible rfl))); (try simp only [Act.put, List.getElem_toArray, List.getElem_cons_zero, List.getElem_cons_succ, List.setIfInBounds_toArray, List.set_cons_zero, List.set_cons_succ]))
    (refine wpList_take (v := ?_) (by kernel_rfl) ?_ ?_; rotate_left; (focus (go_simp; (try with_reducible rfl))); (try simp only [Act.put, List.getElem_toArray, List.getElem_cons_zero, List.getElem_cons_succ, List.setIfInBounds_toArray, List.set_cons_zero, List.set_cons_succ]))
    (refine wpList_take (v := ?_) (by kernel_rfl) ?_ ?_; rotate_left; (focus (go_simp; (try with_reducible rfl))); (try simp only [Act.put, List.getElem_toArray, List.getElem_cons_zero, List.getElem_cons_succ, List.setIfInBounds_toArray, List.set_cons_zero, List.set_cons_succ]))
    (refine wpList_take (v := ?_) (by kernel_rfl) ?_ ?_; rotate_left; (focus (go_simp; (try with_reducible rfl))); (try simp only [Act.put, List.getElem_toArray, List.getElem_cons_zero, List.getElem_cons_succ, List.setIfInBounds_toArray, List.set_cons_zero, List.set_cons_succ]))
    (refine wpList_take (v := ?_) (by kernel_rfl) ?_ ?_; rotate_left; (focus (go_simp; (try with_reducible rfl))); (try simp only [Act.put, List.getElem_toArray, List.getElem_cons_zero, List.getElem_cons_succ, List.setIfInBounds_toArray, List.set_cons_zero, List.set_cons_succ]))
    (refine wpList_take (v := ?_) (by kernel_rfl) ?_ ?_; rotate_left; (focus (go_simp; (try with_reducible rfl))); (try simp only [Act.put, List.getElem_toArray, List.getElem_cons_zero, List.getElem_cons_succ, List.setIfInBounds_toArray, List.set_cons_zero, List.set_cons_succ]))
    (refine wpList_take (v := ?_) (by kernel_rfl) ?_ ?_; rotate_left; (focus (go_simp; (try with_reducible rfl))); (try simp only [Act.put, List.getElem_toArray, List.getElem_cons_zero, List.getElem_cons_succ, List.setIfInBounds_toArray, List.set_cons_zero, List.set_cons_succ]))
    (refine wpList_take (v := ?_) (by kernel_rfl) ?_ ?_; rotate_left; (focus (go_simp; (try with_reducible rfl))); (try simp only [Act.put, List.getElem_toArray, List.getElem_cons_zero, List.getElem_cons_succ, List.setIfInBounds_toArray, List.set_cons_zero, List.set_cons_succ]))
    (refine wpList_take (v := ?_) (by kernel_rfl) ?_ ?_; rotate_left; (focus (go_simp; (try with_reducible rfl))); (try simp only [Act.put, List.getElem_toArray, List.getElem_cons_zero, List.getElem_cons_succ, List.setIfInBounds_toArray, List.set_cons_zero, List.set_cons_succ]))
    (refine wpList_take (v := ?_) (by kernel_rfl) ?_ ?_; rotate_left; (focus (go_simp; (try with_reducible rfl))); (try simp only [Act.put, List.getElem_toArray, List.getElem_cons_zero, List.getElem_cons_succ, List.setIfInBounds_toArray, List.set_cons_zero, List.set_cons_succ]))
    (refine wpList_take (v := ?_) (by kernel_rfl) ?_ ?_; rotate_left; (focus (go_simp; (try with_reducible rfl))); (try simp only [Act.put, List.getElem_toArray, List.getElem_cons_zero, List.getElem_cons_succ, List.setIfInBounds_toArray, List.set_cons_zero, List.set_cons_succ]))
    (refine wpList_take (v := ?_) (by kernel_rfl) ?_ ?_; rotate_left; (focus (go_simp; (try with_reducible rfl))); (try simp only [Act.put, List.getElem_toArray, List.getElem_cons_zero, List.getElem_cons_succ, List.setIfInBounds_toArray, List.set_cons_zero, List.set_cons_succ]))
    (refine wpList_take (v := ?_) (by kernel_rfl) ?_ ?_; rotate_left; (focus (go_simp; (try with_reducible rfl))); (try simp only [Act.put, List.getElem_toArray, List.getElem_cons_zero, List.getElem_cons_succ, List.setIfInBounds_toArray, List.set_cons_zero, List.set_cons_succ]))
    (refine wpList_take (v := ?_) (by kernel_rfl) ?_ ?_; rotate_left; (focus (go_simp; (try with_reducible rfl))); (try simp only [Act.put, List.getElem_toArray, List.getElem_cons_zero, List.getElem_cons_succ, List.setIfInBounds_toArray, List.set_cons_zero, List.set_cons_succ]))
    (refine wpList_take (v := ?_) (by kernel_rfl) ?_ ?_; rotate_left; (focus (go_simp; (try with_reducible rfl))); (try simp only [Act.put, List.getElem_toArray, List.getElem_cons_zero, List.getElem_cons_succ, List.setIfInBounds_toArray, List.set_cons_zero, List.set_cons_succ]))
    (refine wpList_take (v := ?_) (by kernel_rfl) ?_ ?_; rotate_left; (focus (go_simp; (try with_reducible rfl))); (try simp only [Act.put, List.getElem_toArray, List.getElem_cons_zero, List.getElem_cons_succ, List.setIfInBounds_toArray, List.set_cons_zero, List.set_cons_succ]))
    (refine wpList_take (v := ?_) (by kernel_rfl) ?_ ?_; rotate_left; (focus (go_simp; (try with_reducible rfl))); (try simp only [Act.put, List.getElem_toArray, List.getElem_cons_zero, List.getElem_cons_succ, List.setIfInBounds_toArray, List.set_cons_zero, List.set_cons_succ]))
    (refine wpList_take (v := ?_) (by kernel_rfl) ?_ ?_; rotate_left; (focus (go_simp; (try with_reducible rfl))); (try simp only [Act.put, List.getElem_toArray, List.getElem_cons_zero, List.getElem_cons_succ, List.setIfInBounds_toArray, List.set_cons_zero, List.set_cons_succ]))
    (refine wpList_take (v := ?_) (by kernel_rfl) ?_ ?_; rotate_left; (focus (go_simp; (try with_reducible rfl))); (try simp only [Act.put, List.getElem_toArray, List.getElem_cons_zero, List.getElem_cons_succ, List.setIfInBounds_toArray, List.set_cons_zero, List.set_cons_succ]))
    (refine wpList_take (v := ?_) (by kernel_rfl) ?_ ?_; rotate_left; (focus (go_simp; (try with_reducible rfl))); (try simp only [Act.put, List.getElem_toArray, List.getElem_cons_zero, List.getElem_cons_succ, List.setIfInBounds_toArray, List.set_cons_zero, List.set_cons_succ]))
    (refine wpList_take (v := ?_) (by kernel_rfl) ?_ ?_; rotate_left; (focus (go_simp; (try with_reducible rfl))); (try simp only [Act.put, List.getElem_toArray, List.getElem_cons_zero, List.getElem_cons_succ, List.setIfInBounds_toArray, List.set_cons_zero, List.set_cons_succ]))
    (refine wpList_take (v := ?_) (by kernel_rfl) ?_ ?_; rotate_left; (focus (go_simp; (try with_reducible rfl))); (try simp only [Act.put, List.getElem_toArray, List.getElem_cons_zero, List.getElem_cons_succ, List.setIfInBounds_toArray, List.set_cons_zero, List.set_cons_succ]))
    (refine wpList_take (v := ?_) (by kernel_rfl) ?_ ?_; rotate_left; (focus (go_simp; (try with_reducible rfl))); (try simp only [Act.put, List.getElem_toArray, List.getElem_cons_zero, List.getElem_cons_succ, List.setIfInBounds_toArray, List.set_cons_zero, List.set_cons_succ]))
    (refine wpList_take (v := ?_) (by kernel_rfl) ?_ ?_; rotate_left; (focus (go_simp; (try with_reducible rfl))); (try simp only [Act.put, List.getElem_toArray, List.getElem_cons_zero, List.getElem_cons_succ, List.setIfInBounds_toArray, List.set_cons_zero, List.set_cons_succ]))
    (refine wpList_take (v := ?_) (by kernel_rfl) ?_ ?_; rotate_left; (focus (go_simp; (try with_reducible rfl))); (try simp only [Act.put, List.getElem_toArray, List.getElem_cons_zero, List.getElem_cons_succ, List.setIfInBounds_toArray, List.set_cons_zero, List.set_cons_succ]))
    (refine wpList_take (v := ?_) (by kernel_rfl) ?_ ?_; rotate_left; (focus (go_simp; (try with_reducible rfl))); (try simp only [Act.put, List.getElem_toArray, List.getElem_cons_zero, List.getElem_cons_succ, List.setIfInBounds_toArray, List.set_cons_zero, List.set_cons_succ]))
    (refine wpList_take (v := ?_) (by kernel_rfl) ?_ ?_; rotate_left; (focus (go_simp; (try with_reducible rfl))); (try simp only [Act.put, List.getElem_toArray, List.getElem_cons_zero, List.getElem_cons_succ, List.setIfInBounds_toArray, List.set_cons_zero, List.set_cons_succ]))
    (refine wpList_take (v := ?_) (by kernel_rfl) ?_ ?_; rotate_left; (focus (go_simp; (try with_reducible rfl))); (try simp only [Act.put, List.getElem_toArray, List.getElem_cons_zero, List.getElem_cons_succ, List.setIfInBounds_toArray, List.set_cons_zero, List.set_cons_succ]))
    (refine wpList_take (v := ?_) (by kernel_rfl) ?_ ?_; rotate_left; (focus (go_simp; (try with_reducible rfl))); (try simp only [Act.put, List.getElem_toArray, List.getElem_cons_zero, List.getElem_cons_succ, List.setIfInBounds_toArray, List.set_cons_zero, List.set_cons_succ]))
    (refine wpList_take (v := ?_) (by kernel_rfl) ?_ ?_; rotate_left; (focus (go_simp; (try with_reducible rfl))); (try simp only [Act.put, List.getElem_toArray, List.getElem_cons_zero, List.getElem_cons_succ, List.setIfInBounds_toArray, List.set_cons_zero, List.set_cons_succ]))
    (refine wpList_take (v := ?_) (by kernel_rfl) ?_ ?_; rotate_left; (focus (go_simp; (try with_reducible rfl))); (try simp only [Act.put, List.getElem_toArray, List.getElem_cons_zero, List.getElem_cons_succ, List.setIfInBounds_toArray, List.set_cons_zero, List.set_cons_succ]))
    (refine wpList_take (v := ?_) (by kernel_rfl) ?_ ?_; rotate_left; (focus (go_simp; (try with_reducible rfl))); (try simp only [Act.put, List.getElem_toArray, List.getElem_cons_zero, List.getElem_cons_succ, List.setIfInBounds_toArray, List.set_cons_zero, List.set_cons_succ]))
    (refine wpList_take (v := ?_) (by kernel_rfl) ?_ ?_; rotate_left; (focus (go_simp; (try with_reducible rfl))); (try simp only [Act.put, List.getElem_toArray, List.getElem_cons_zero, List.getElem_cons_succ, List.setIfInBounds_toArray, List.set_cons_zero, List.set_cons_succ]))
    (refine wpList_take (v := ?_) (by kernel_rfl) ?_ ?_; rotate_left; (focus (go_simp; (try with_reducible rfl))); (try simp only [Act.put, List.getElem_toArray, List.getElem_cons_zero, List.getElem_cons_succ, List.setIfInBounds_toArray, List.set_cons_zero, List.set_cons_succ]))
    (refine wpList_take (v := ?_) (by kernel_rfl) ?_ ?_; rotate_left; (focus (go_simp; (try with_reducible rfl))); (try simp only [Act.put, List.getElem_toArray, List.getElem_cons_zero, List.getElem_cons_succ, List.setIfInBounds_toArray, List.set_cons_zero, List.set_cons_succ]))
    (refine wpList_take (v := ?_) (by kernel_rfl) ?_ ?_; rotate_left; (focus (go_simp; (try with_reducible rfl))); (try simp only [Act.put, List.getElem_toArray, List.getElem_cons_zero, List.getElem_cons_succ, List.setIfInBounds_toArray, List.set_cons_zero, List.set_cons_succ]))
    (refine wpList_take (v := ?_) (by kernel_rfl) ?_ ?_; rotate_left; (focus (go_simp; (try with_reducible rfl))); (try simp only [Act.put, List.getElem_toArray, List.getElem_cons_zero, List.getElem_cons_succ, List.setIfInBounds_toArray, List.set_cons_zero, List.set_cons_succ]))
    (refine wpList_take (v := ?_) (by kernel_rfl) ?_ ?_; rotate_left; (focus (go_simp; (try with_reducible rfl))); (try simp only [Act.put, List.getElem_toArray, List.getElem_cons_zero, List.getElem_cons_succ, List.setIfInBounds_toArray, List.set_cons_zero, List.set_cons_succ]))
    (refine wpList_take (v := ?_) (by kernel_rfl) ?_ ?_; rotate_left; (focus (go_simp; (try with_reducible rfl))); (try simp only [Act.put, List.getElem_toArray, List.getElem_cons_zero, List.getElem_cons_succ, List.setIfInBounds_toArray, List.set_cons_zero, List.set_cons_succ]))
    (refine wpList_take (v := ?_) (by kernel_rfl) ?_ ?_; rotate_left; (focus (go_simp; (try with_reducible rfl))); (try simp only [Act.put, List.getElem_toArray, List.getElem_cons_zero, List.getElem_cons_succ, List.setIfInBounds_toArray, List.set_cons_zero, List.set_cons_succ]))
    go_wp2
    go_ret
    exact ⟨by rw [hz.out]; rfl, hb1⟩
  have b5 := bneN_f e5
  replace e5 := Lib.hid e5
  go_enter Tryd.func38, Tryd.ntmps38
  go_upto_region 1 with (first
    | (refine wpList_blk_box rfl (.tmp 0) rfl rfl w.heap.size rfl ?_)
    | (refine wpList_blk_box rfl (.tmp 1) rfl rfl (w.heap.size + 1) (by simp) ?_; rw [← hw1]; clear hw1))
  go_step
  (refine wpList_take (v := ?_) (by kernel_rfl) ?_ ?_; rotate_left; (focus (go_simp; (try with_reducible rfl))); (try simp only [Act.put, List.getElem_toArray, List.getElem_cons_zero, List.getElem_cons_succ, List.setIfInBounds_toArray, List.set_cons_zero, List.set_cons_succ]))
  (refine wpList_take (v := ?_) (by kernel_rfl) ?_ ?_; rotate_left; (focus (go_simp; (try with_reducible rfl))); (try simp only [Act.put, List.getElem_toArray, List.getElem_cons_zero, List.getElem_cons_succ, List.setIfInBounds_toArray, List.set_cons_zero, List.set_cons_succ]))
  (refine wpList_take (v := ?_) (by kernel_rfl) ?_ ?_; rotate_left; (focus (go_simp; (try with_reducible rfl))); (try simp only [Act.put, List.getElem_toArray, List.getElem_cons_zero, List.getElem_cons_succ, List.setIfInBounds_toArray, List.set_cons_zero, List.set_cons_succ]))
  (refine wpList_take (v := ?_) (by kernel_rfl) ?_ ?_; rotate_left; (focus (go_simp; (try with_reducible rfl))); (try simp only [Act.put, List.getElem_toArray, List.getElem_cons_zero, List.getElem_cons_succ, List.setIfInBounds_toArray, List.set_cons_zero, List.set_cons_succ]))
  (refine wpList_take (v := ?_) (by kernel_rfl) ?_ ?_; rotate_left; (focus (go_simp; (try with_reducible rfl))); (try simp only [Act.put, List.getElem_toArray, List.getElem_cons_zero, List.getElem_cons_succ, List.setIfInBounds_toArray, List.set_cons_zero, List.set_cons_succ]))
  (refine wpList_take (v := ?_) (by kernel_rfl) ?_ ?_; rotate_left; (focus (go_simp; (try with_reducible rfl))); (try simp only [Act.put, List.getElem_toArray, List.getElem_cons_zero, List.getElem_cons_succ, List.setIfInBounds_toArray, List.set_cons_zero, List.set_cons_succ]))
  (refine wpList_take (v := ?_) (by kernel_rfl) ?_ ?_; rotate_left; (focus (go_simp; (try with_reducible rfl))); (try simp only [Act.put, List.getElem_toArray, List.getElem_cons_zero, List.getElem_cons_succ, List.setIfInBounds_toArray, List.set_cons_zero, List.set_cons_succ]))
  (refine wpList_take (v := ?_) (by kernel_rfl) ?_ ?_; rotate_left; (focus (go_simp; (try with_reducible rfl))); (try simp only [Act.put, List.getElem_toArray, List.getElem_cons_zero, List.getElem_cons_succ, List.setIfInBounds_toArray, List.set_cons_zero, List.set_cons_succ]))
  (refine wpList_take (v := ?_) (by kernel_rfl) ?_ ?_; rotate_left; (focus (go_simp; (try with_reducible rfl))); (try simp only [Act.put, List.getElem_toArray, List.getElem_cons_zero, List.getElem_cons_succ, List.setIfInBounds_toArray, List.set_cons_zero, List.set_cons_succ]))
  (refine wpList_take (v := ?_) (by kernel_rfl) ?_ ?_; rotate_left; (focus (go_simp; (try with_reducible rfl))); (try simp only [Act.put, List.getElem_toArray, List.getElem_cons_zero, List.getElem_cons_succ, List.setIfInBounds_toArray, List.set_cons_zero, List.set_cons_succ]))
  (refine wpList_take (v := ?_) (by kernel_rfl) ?_ ?_; rotate_left; (focus (go_simp; (try with_reducible rfl))); (try simp only [Act.put, List.getElem_toArray, List.getElem_cons_zero, List.getElem_cons_succ, List.setIfInBounds_toArray, List.set_cons_zero, List.set_cons_succ]))
  (refine wpList_take (v := ?_) (by kernel_rfl) ?_ ?_; rotate_left; (focus (go_simp; (try with_reducible rfl))); (try simp only [Act.put, List.getElem_toArray, List.getElem_cons_zero, List.getElem_cons_succ, List.setIfInBounds_toArray, List.set_cons_zero, List.set_cons_succ]))
  (refine wpList_take (v := ?_) (by kernel_rfl) ?_ ?_; rotate_left; (focus (go_simp; (try with_reducible rfl))); (try simp only [Act.put, List.getElem_toArray, List.getElem_cons_zero, List.getElem_cons_succ, List.setIfInBounds_toArray, List.set_cons_zero, List.set_cons_succ]))
  (refine wpList_take (v := ?_) (by kernel_rfl) ?_ ?_; rotate_left; (focus (go_simp; (try with_reducible rfl))); (try simp only [Act.put, List.getElem_toArray, List.getElem_cons_zero, List.getElem_cons_succ, List.setIfInBounds_toArray, List.set_cons_zero, List.set_cons_succ]))
  (refine wpList_take (v := ?_) (by kernel_rfl) ?_ ?_; rotate_left; (focus (go_simp; (try with_reducible rfl))); (try simp only [Act.put, List.getElem_toArray, List.getElem_cons_zero, List.getElem_cons_succ, List.setIfInBounds_toArray, List.set_cons_zero, List.set_cons_succ]))
  (refine wpList_take (v := ?_) (by kernel_rfl) ?_ ?_; rotate_left; (focus (go_simp; (try with_reducible rfl))); (try simp only [Act.put, List.getElem_toArray, List.getElem_cons_zero, List.getElem_cons_succ, List.setIfInBounds_toArray, List.set_cons_zero, List.set_cons_succ]))
  (refine wpList_take (v := ?_) (by kernel_rfl) ?_ ?_; rotate_left; (focus (go_simp; (try with_reducible rfl))); (try simp only [Act.put, List.getElem_toArray, List.getElem_cons_zero, List.getElem_cons_succ, List.setIfInBounds_toArray, List.set_cons_zero, List.set_cons_succ]))
  (refine wpList_take (v := ?_) (by kernel_rfl) ?_ ?_; rotate_left; (focus (go_simp; (try with_reducible rfl))); (try simp only [Act.put, List.getElem_toArray, List.getElem_cons_zero, List.getElem_cons_succ, List.setIfInBounds_toArray, List.set_cons_zero, List.set_cons_succ]))
  (refine wpList_take (v := ?_) (by kernel_rfl) ?_ ?_; rotate_left; (focus (go_simp; (try with_reducible rfl))); (try simp only [Act.put, List.getElem_toArray, List.getElem_cons_zero, List.getElem_cons_succ, List.setIfInBounds_toArray, List.set_cons_zero, List.set_cons_succ]))
  (refine wpList_take (v := ?_) (by kernel_rfl) ?_ ?_; rotate_left; (focus (go_simp; (try with_reducible rfl))); (try simp only [Act.put, List.getElem_toArray, List.getElem_cons_zero, List.getElem_cons_succ, List.setIfInBounds_toArray, List.set_cons_zero, List.set_cons_succ]))
  (refine wpList_take (v := ?_) (by kernel_rfl) ?_ ?_; rotate_left; (focus (go_simp; (try with_reducible rfl))); (try simp only [Act.put, List.getElem_toArray, List.getElem_cons_zero, List.getElem_cons_succ, List.setIfInBounds_toArray, List.set_cons_zero, List.set_cons_succ]))
  (refine wpList_take (v := ?_) (by kernel_rfl) ?_ ?_; rotate_left; (focus (go_simp; (try with_reducible rfl))); (try simp only [Act.put, List.getElem_toArray, List.getElem_cons_zero, List.getElem_cons_succ, List.setIfInBounds_toArray, List.set_cons_zero, List.set_cons_succ]))
  (refine wpList_take (v := ?_) (by kernel_rfl) ?_ ?_; rotate_left; (focus (go_simp; (try with_reducible rfl))); (try simp only [Act.put, List.getElem_toArray, List.getElem_cons_zero, List.getElem_cons_succ, List.setIfInBounds_toArray, List.set_cons_zero, List.set_cons_succ]))
  (refine wpList_take (v := ?_) (by kernel_rfl) ?_ ?_; rotate_left; (focus (go_simp; (try with_reducible rfl))); (try simp only [Act.put, List.getElem_toArray, List.getElem_cons_zero, List.getElem_cons_succ, List.setIfInBounds_toArray, List.set_cons_zero, List.set_cons_succ]))
  (refine wpList_take (v := ?_) (by kernel_rfl) ?_ ?_; rotate_left; (focus (go_simp; (try with_reducible rfl))); (try simp only [Act.put, List.getElem_toArray, List.getElem_cons_zero, List.getElem_cons_succ, List.setIfInBounds_toArray, List.set_cons_zero, List.set_cons_succ]))
  (refine wpList_take (v := ?_) (by kernel_rfl) ?_ ?_; rotate_left; (focus (go_simp; (try with_reducible rfl))); (try simp only [Act.put, List.getElem_toArray, List.getElem_cons_zero, List.getElem_cons_succ, List.setIfInBounds_toArray, List.set_cons_zero, List.set_cons_succ]))
  (refine wpList_take (v := ?_) (by kernel_rfl) ?_ ?_; rotate_left; (focus (go_simp; (try with_reducible rfl))); (try simp only [Act.put, List.getElem_toArray, List.getElem_cons_zero, List.getElem_cons_succ, List.setIfInBounds_toArray, List.set_cons_zero, List.set_cons_succ]))
  (refine wpList_take (v := ?_) (by kernel_rfl) ?_ ?_; rotate_left; (focus (go_simp; (try with_reducible rfl))); (try simp only [Act.put, List.getElem_toArray, List.getElem_cons_zero, List.getElem_cons_succ, List.setIfInBounds_toArray, List.set_cons_zero, List.set_cons_succ]))
  (refine wpList_take (v := ?_) (by kernel_rfl) ?_ ?_; rotate_left; (focus (go_simp; (try with_reducible rfl))); (try simp only [Act.put, List.getElem_toArray, List.getElem_cons_zero, List.getElem_cons_succ, List.setIfInBounds_toArray, List.set_cons_zero, List.set_cons_succ]))
  (refine wpList_take (v := ?_) (by kernel_rfl) ?_ ?_; rotate_left; (focus (go_simp; (try with_reducible rfl))); (try simp only [Act.put, List.getElem_toArray, List.getElem_cons_zero, List.getElem_cons_succ, List.setIfInBounds_toArray, List.set_cons_zero, List.set_cons_succ]))
  (refine wpList_take (v := ?_) (by kernel_rfl) ?_ ?_; rotate_left; (focus (go_simp; (try with_reducible rfl))); (try simp only [Act.put, List.getElem_toArray, List.getElem_cons_zero, List.getElem_cons_succ, List.setIfInBounds_toArray, List.set_cons_zero, List.set_cons_succ]))
  (refine wpList_take (v := ?_) (by kernel_rfl) ?_ ?_; rotate_left; (focus (go_simp; (try with_reducible rfl))); (try simp only [Act.put, List.getElem_toArray, List.getElem_cons_zero, List.getElem_cons_succ, List.setIfInBounds_toArray, List.set_cons_zero, List.set_cons_succ]))
  (refine wpList_take (v := ?_) (by kernel_rfl) ?_ ?_; rotate_left; (focus (go_simp; (try with_reducible rfl))); (try simp only [Act.put, List.getElem_toArray, List.getElem_cons_zero, List.getElem_cons_succ, List.setIfInBounds_toArray, List.set_cons_zero, List.set_cons_succ]))
  (refine wpList_take (v := ?_) (by kernel_rfl) ?_ ?_; rotate_left; (focus (go_simp; (try with_reducible rfl))); (try simp only [Act.put, List.getElem_toArray, List.getElem_cons_zero, List.getElem_cons_succ, List.setIfInBounds_toArray, List.set_cons_zero, List.set_cons_succ]))
  (refine wpList_take (v := ?_) (by kernel_rfl) ?_ ?_; rotate_left; (focus (go_simp; (try with_reducible rfl))); (try simp only [Act.put, List.getElem_toArray, List.getElem_cons_zero, List.getElem_cons_succ, List.setIfInBounds_toArray, List.set_cons_zero, List.set_cons_succ]))
  (refine wpList_take (v := ?_) (by kernel_rfl) ?_ ?_; rotate_left; (focus (go_simp; (try with_reducible rfl))); (try simp only [Act.put, List.getElem_toArray, List.getElem_cons_zero, List.getElem_cons_succ, List.setIfInBounds_toArray, List.set_cons_zero, List.set_cons_succ]))
  (refine wpList_take (v := ?_) (by kernel_rfl) ?_ ?_; rotate_left; (focus (go_simp; (try with_reducible rfl))); (try simp only [Act.put, List.getElem_toArray, List.getElem_cons_zero, List.getElem_cons_succ, List.setIfInBounds_toArray, List.set_cons_zero, List.set_cons_succ]))
  (refine wpList_take (v := ?_) (by kernel_rfl) ?_ ?_; rotate_left; (focus (go_simp; (try with_reducible rfl))); (try simp only [Act.put, List.getElem_toArray, List.getElem_cons_zero, List.getElem_cons_succ, List.setIfInBounds_toArray, List.set_cons_zero, List.set_cons_succ]))
  (refine wpList_take (v := ?_) (by kernel_rfl) ?_ ?_; rotate_left; (focus (go_simp; (try with_reducible rfl))); (try simp only [Act.put, List.getElem_toArray, List.getElem_cons_zero, List.getElem_cons_succ, List.setIfInBounds_toArray, List.set_cons_zero, List.set_cons_succ]))
  (refine wpList_take (v := ?_) (by kernel_rfl) ?_ ?_; rotate_left; (focus (go_simp; (try with_reducible rfl))); (try simp only [Act.put, List.getElem_toArray, List.getElem_cons_zero, List.getElem_cons_succ, List.setIfInBounds_toArray, List.set_cons_zero, List.set_cons_succ]))
  (refine wpList_take (v := ?_) (by kernel_rfl) ?_ ?_; rotate_left; (focus (go_simp; (try with_reducible rfl))); (try simp only [Act.put, List.getElem_toArray, List.getElem_cons_zero, List.getElem_cons_succ, List.setIfInBounds_toArray, List.set_cons_zero, List.set_cons_succ]))
  (refine wpList_take (v := ?_) (by kernel_rfl) ?_ ?_; rotate_left; (focus (go_simp; (try with_reducible rfl))); (try simp only [Act.put, List.getElem_toArray, List.getElem_cons_zero, List.getElem_cons_succ, List.setIfInBounds_toArray, List.set_cons_zero, List.set_cons_succ]))
  have e1' := e1.out
  have e2' := e2.out
  have e3' := e3.out
  have e0' := e0.out
  obtain rfl := e5.out
  have hED := Lib.hid (fun (h : d1 = d2) => ht.out.2 ⟨e0', e1', e2', e3', h, rfl⟩)
  have hND := Lib.hid (fun (h : d1 ≠ d2) => show t = false from by
    rw [Bool.eq_false_iff, Ne, ht.out]
    exact fun g => h g.2.2.2.2.1)
  clear e0' e1' e2' e3' e0 e1 e2 e3 e5 b0 b1 b2 b3 b5 ht
  go_wp2
  go_loopw [5] (fun i wr => ∃ k : Nat, k ≤ xn ∧ i = .int .i64 k ∧ Hid (∀ j, j < k → d1[j]? = d2[j]?) ∧ Below w1.heap.size w1 wr) (fun i _ => xn - (intOf i).toNat)
  case atStart => exact ⟨0, Nat.zero_le _, rfl, Lib.hid (fun j h => by omega), Below.refl _ _⟩
  case round =>
    obtain ⟨k, hk, rfl, hq, hbr⟩ := hrel
    have hXr := hX.below hbr hX.lt
    have hYr := hY.below hbr hY.lt
    clear x0 x1 x2 x3 x4 x5 y0 y1 y2 y3 y4 y5
    have x4 := hXr.cell (i := 4) (v := .slice xa xn xc) rfl
    have y4 := hYr.cell (i := 4) (v := .slice ya xn yc) rfl
    clear hXr hYr
    by_cases hkn : k < xn
    · have hk1 : k < d1.length := by rw [hxl.out]; exact hkn
      have hk2 : k < d2.length := by rw [hyl.out]; exact hkn
      obtain ⟨g1, o1, rfl, hg1⟩ := hx1.addr (by omega)
      obtain ⟨g2, o2, rfl, hg2⟩ := hy1.addr (by omega)
      have z1 := (hx1.below hbr).at hk1
      have z2 := (hy1.below hbr).at hk2
      have hkI : (k : Int) < xn := by omega
      have hG1 : Hid (d1[k]? = some d1[k]) := Lib.hid (List.getElem?_eq_getElem hk1)
      have hG2 : Hid (d2[k]? = some d2[k]) := Lib.hid (List.getElem?_eq_getElem hk2)
      generalize d1[k] = v1' at *
      generalize d2[k] = v2' at *
      by_cases hv : v1' = v2'
      · have bv := bneN_f hv
        have hq2 := Lib.hid (show ∀ j, j < k + 1 → d1[j]? = d2[j]? from fun j hj => by
          by_cases e : j = k
          · subst e; rw [hG1.out, hG2.out, hv]
          · exact hq.out j (by omega))
        replace hv := Lib.hid hv
        clear hG1 hG2
        go_wp2_with fail
        go_quiet (fail)
        have hbq := belN hbr nq
        generalize wr.drewN nq = w2 at *
        clear z1 z2 x4 y4
        go_wp2
        go_roundw
        case rel => exact ⟨k + 1, by omega, by go_num, hq2, hbq⟩
        case measure => simp [intOf]; omega
      · have bv := bneN_t hv
        have hz := Lib.hid (hND.out (fun e => hv (by have := hG1.out; rw [e, hG2.out] at this; injection this with this; exact this.symm)))
        clear hv hG1 hG2
        go_wp2_with fail
        go_quiet (fail)
        have hbq := belN hbr nq
        generalize wr.drewN nq = w2 at *
        clear z1 z2 x4 y4
        go_wp2
        go_ret
        exact ⟨by rw [hz.out]; rfl, belS hb1 hbq⟩
    · have hkI : (xn : Int) ≤ k := by omega
      have hz := Lib.hid (hED.out (List.ext_getElem? (fun j => by
        by_cases hj : j < k
        · exact hq.out j hj
        · rw [List.getElem?_eq_none (by rw [hxl.out]; omega), List.getElem?_eq_none (by rw [hyl.out]; omega)])))
      go_wp2
      go_ret
      exact ⟨by rw [hz.out]; rfl, belS hb1 hbr⟩
end Go.Proofs.YtikhpafdnohhkaaDoor
