/- the walk of awake -/
import Derived.Test.YtnpinkcadkkeoaaVoteK
import Derived.Test.YtnpinkcadkkeoaaVoteM
namespace Go.Proofs.Ytnpinkcadkkeoaa
open Go.RowKit Go.Sort

def r0 : Rc := ⟨⟨0, 0, 0, 7⟩, []⟩
def v1 : Vw := ⟨1, 0, 0, 3⟩
def r1 : Rc := ⟨⟨0, 0, 0, 7⟩, [v1]⟩
theorem RdR.one {W : World} {b : Nat} {t : TypeId} {r : Rc} {pa : Option Addr} {pn pc : Nat} (h : BlkAt W b t #[.int .u64 r.last.num, .int .u64 r.last.ce, .int .i64 r.last.cr, .int .u64 r.last.mem, .slice pa pn pc]) (hp : RdV W pa pn pc r.pend) : RdR W (some ⟨b, 0, none⟩) 1 1 [r] := by
  refine ⟨⟨rfl, Nat.le_refl _, by decide, by simp⟩, .inr ⟨b, 0, rfl, h.lt, fun i hi => ?_⟩⟩
  obtain rfl : i = 0 := by simp at hi; exact hi
  exact ⟨pa, pn, pc, ⟨h.cell rfl, h.cell rfl, h.cell rfl, h.cell rfl, h.cell rfl⟩, hp⟩
theorem Try.recZ : (Try.prog.info? 34).map (·.zero) = some (some (.agg #[.int .u64 0, .int .u64 0, .int .i64 0, .int .u64 0, .slice none 0 0])) := by kernel_rfl
theorem RdV.nil (w : World) : RdV w none 0 0 [] := Rd.mk_nil w 4
theorem aw_first (w : World) : Calls Try.prog 10 #[.int .i64 3] w fun e w' => e = .returned (.agg #[.int .u64 0, .int .u64 0, .int .i64 0, .int .u64 7, .slice none 0 0]) ∧ Below w.heap.size w w' := first_any 3 w
theorem aw_add (w : World) : Calls Try.prog 21 #[.agg #[.int .u64 0, .int .u64 0, .int .i64 0, .int .u64 7, .slice none 0 0], .agg #[.int .u64 1, .int .u64 0, .int .i64 0, .int .u64 3]] w fun e w' => ∃ a c, e = .returned (.tuple #[.agg #[.int .u64 0, .int .u64 0, .int .i64 0, .int .u64 7, .slice a 1 c], .bool true]) ∧ RdV w' a 1 c [v1] ∧ Below w.heap.size w w' := add_yes ⟨0, 0, 0, 7⟩ v1 none 0 0 [] (by decide) w (RdV.nil w)
theorem aw_form (a : Option Addr) (c : Nat) (w : World) (h : RdV w a 1 c [v1]) : Calls Try.prog 22 #[.agg #[.int .u64 0, .int .u64 0, .int .i64 0, .int .u64 7, .slice a 1 c], .agg #[.int .u64 1, .int .u64 0, .int .i64 0, .int .u64 3]] w fun e w' => ∃ a c, e = .returned (.agg #[.int .u64 1, .int .u64 0, .int .i64 0, .int .u64 3, .slice a 0 c]) ∧ Below w.heap.size w w' :=
  (form_any ⟨0, 0, 0, 7⟩ v1 a 1 c [v1] (by decide) w h).mono (by rintro e w' ⟨a', c', rfl, _, hb⟩; exact ⟨a', c', rfl, hb⟩)
theorem aw_may (x : Nat) (hx : x < 18446744073709551616) (b : Bool) (r : Rc) (hr : r.Wf) (ht : r.pend.length ≤ 1000000) (hb : mayB x [r] = b) {t : TypeId} {pa : Option Addr} {pn pc g : Nat} (w : World) (h : BlkAt w g t #[.int .u64 r.last.num, .int .u64 r.last.ce, .int .i64 r.last.cr, .int .u64 r.last.mem, .slice pa pn pc]) (hp : RdV w pa pn pc r.pend) :
    Calls Try.prog 16 #[.int .u64 x, .slice (some ⟨g, 0, none⟩) 1 1] w fun e w' => e = .returned (.bool b) ∧ Below w.heap.size w w' := by
  have := may_any x hx (some ⟨g, 0, none⟩) 1 1 [r] (by simpa using hr) (by simpa [tot] using ht) w (RdR.one h hp)
  rw [hb] at this
  exact this
theorem r0_wf : r0.Wf := ⟨⟨by decide, by decide⟩, by intro v hv; cases hv⟩
theorem r1_wf : r1.Wf := ⟨⟨by decide, by decide⟩, by intro v hv; have e : v = v1 := (by simpa [r1] using hv); rw [e]; exact ⟨by decide, by decide⟩⟩
theorem aw_f : mayB 3 [r0] = true ∧ mayB 4 [r0] = false ∧ mayB 6 [r1] = false ∧ mayB 3 [r1] = true ∧ nextL [r1] = 2 ∧ mayB 7 [] = false ∧ nextL [] = 1 := by decide +kernel
theorem aw_next (w : World) {t : TypeId} {pa : Option Addr} {pc g : Nat} (h : BlkAt w g t #[.int .u64 0, .int .u64 0, .int .i64 0, .int .u64 7, .slice pa 1 pc]) (hp : RdV w pa 1 pc [v1]) :
    Calls Try.prog 18 #[.slice (some ⟨g, 0, none⟩) 1 1] w fun e w' => e = .returned (.int .u64 2) ∧ Below w.heap.size w w' := by
  have := next_any (some ⟨g, 0, none⟩) 1 1 [r1] (by intro r hr; have e : r = r1 := (by simpa using hr); rw [e]; exact r1_wf) w (RdR.one (r := r1) h hp)
  rw [aw_f.2.2.2.2.1] at this
  exact this
theorem aw_may0 (w : World) : Calls Try.prog 16 #[.int .u64 7, .slice none 0 0] w fun e w' => e = .returned (.bool false) ∧ Below w.heap.size w w' := may_any 7 (by decide) none 0 0 [] (by simp) (by decide) w (RdR.nil w)
theorem aw_next0 (w : World) : Calls Try.prog 18 #[.slice none 0 0] w fun e w' => e = .returned (.int .u64 1) ∧ Below w.heap.size w w' := next_any none 0 0 [] (by simp) w (RdR.nil w)
theorem aw_last0 (w : World) : Calls Try.prog 11 #[.slice none 0 0] w fun e w' => e = .returned (.agg #[.int .u64 0, .int .u64 0, .int .i64 0, .int .u64 0]) ∧ Below w.heap.size w w' := last_any none 0 0 [] w (RdR.nil w)
theorem wpList_blk_load_g {P : Program} {w : World} {ops : Array Oper} {rest : List Oper} {o : Oper} {a : Act} {Q : Exit → Act → World → Prop} {t : TypeId} (hw : Region.wanted o (yielded ops a.tmps) = true) (x : Operand) (ho : o.op = .load t x) {d : TypeDesc} (hu : P.underlying t = some d) (hd : (match d with | .struct _ | .array _ _ => true | _ => false) = true)
    {b : Nat} (hx : a.eval x = .pointer (some ⟨b, 0, none⟩)) {t' : TypeId} {cs : Array Value} (hb : BlkAt w b t' cs) (hi : (P.info? t).map (·.size) = some cs.size)
    (h : wpList P ops Q rest (a.put o.dst (.agg cs)) w) : wpList P ops Q (o :: rest) a w :=
  wpList_step fun K hK => by
    rw [if_pos hw]
    exact wp_load_row t x ho b hx t' cs (0, 0) d hb hu hd hi (hK _ _ h)
theorem alloc_store {w w' : World} {o : Obj} (k : Kp w.heap.size (w.alloc o) w') : Below w.heap.size w w' := Kp.below ((Below.refl _ _).alloc (Nat.le_refl _) _) k (Nat.le_refl _) (by simp)
theorem alloc_below (w : World) (o : Obj) : Below w.heap.size w (w.alloc o) := (Below.refl _ _).alloc (Nat.le_refl _) _
set_option maxHeartbeats 3200000 in
set_option maxRecDepth 100000 in
theorem awake_any (w : World) : Calls Try.prog 7 #[] w fun e w' => e = .returned (.bool true) ∧ Below w.heap.size w w' := by
  go_enter Try.func7, Try.ntmps7
  go_wp2_with fail
  refine (aw_first _).mono ?_
  rintro e w1 ⟨rfl, E⟩
  have hZ := BlkAt.new w1 34 #[.int .u64 0, .int .u64 0, .int .i64 0, .int .u64 0, .slice none 0 0]
  go_wp2_with (first
    | (refine wpList_blk_alloc rfl rfl Try.recZ w1.heap.size rfl ?_)
    | (refine wpList_blk_store rfl (.tmp 1) (.tmp 5) rfl rfl rfl hZ Try.recI rfl (by simp [Value.oneCell']) ?_; intro w2 hA hK hsz)
    | (refine wpList_blk_load rfl (.tmp 1) rfl Try.underlying34 rfl rfl hA Try.recI ?_))
  replace hK := alloc_store hK
  replace E := belS E hK
  clear hZ hsz hK
  refine (aw_add _).mono ?_
  rintro e w3 ⟨a, c, rfl, hp, hb⟩
  replace E := belS E hb
  replace hA := hA.below hb hA.lt
  have hZ := BlkAt.new w3 34 #[.int .u64 0, .int .u64 0, .int .i64 0, .int .u64 0, .slice none 0 0]
  clear hb
  go_wp2_with (first
    | (refine wpList_blk_alloc rfl rfl Try.recZ w3.heap.size rfl ?_)
    | (refine wpList_blk_store rfl (.tmp 2) (.tmp 10) rfl rfl rfl hZ Try.recI rfl (by simp [Value.oneCell']) ?_; intro w4 hB hK hsz)
    | (refine wpList_blk_load rfl (.tmp 2) rfl Try.underlying34 rfl rfl hB Try.recI ?_))
  replace hK := alloc_store hK
  replace E := belS E hK
  replace hA := hA.below hK hA.lt
  replace hp := hp.below hK (Nat.le_refl _)
  clear hZ hsz hK
  refine (aw_form a c _ hp).mono ?_
  rintro e w5 ⟨a5, c5, rfl, hb⟩
  replace E := belS E hb
  replace hA := hA.below hb hA.lt
  replace hB := hB.below hb hB.lt
  replace hp := hp.below hb (Nat.le_refl _)
  have hZ := BlkAt.new w5 34 #[.int .u64 0, .int .u64 0, .int .i64 0, .int .u64 0, .slice none 0 0]
  clear hb
  go_wp2_with (first
    | (refine wpList_blk_alloc rfl rfl Try.recZ w5.heap.size rfl ?_)
    | (refine wpList_blk_store rfl (.tmp 4) (.tmp 14) rfl rfl rfl hZ Try.recI rfl (by simp [Value.oneCell']) ?_; intro w6 hC hK hsz;
       replace hK := alloc_store hK; replace E := belS E hK; replace hA := hA.below hK hA.lt; replace hB := hB.below hK hB.lt; replace hp := hp.below hK (Nat.le_refl _); clear hZ hsz hK)
    | (refine wpList_blk_load_g (by first | rfl | simp [Region.wanted, go_sem]) (.tmp 1) rfl Try.underlying34 rfl rfl hA Try.recI ?_))
  refine (aw_may 3 (by decide) true r0 r0_wf (by decide) aw_f.1 _ (BlkAt.new w6 _ _) (RdV.nil _)).mono ?_
  rintro e w7 ⟨rfl, hb⟩
  replace hb := belS (alloc_below w6 _) hb
  replace E := belS E hb
  replace hA := hA.below hb hA.lt
  replace hB := hB.below hb hB.lt
  replace hC := hC.below hb hC.lt
  replace hp := hp.below hb (Nat.le_refl _)
  clear hb
  go_wp2_with (refine wpList_blk_load_g (by first | rfl | simp [Region.wanted, go_sem]) (.tmp 1) rfl Try.underlying34 rfl rfl hA Try.recI ?_)
  refine (aw_may 4 (by decide) false r0 r0_wf (by decide) aw_f.2.1 _ (BlkAt.new w7 _ _) (RdV.nil _)).mono ?_
  rintro e w8 ⟨rfl, hb⟩
  replace hb := belS (alloc_below w7 _) hb
  replace E := belS E hb
  replace hA := hA.below hb hA.lt
  replace hB := hB.below hb hB.lt
  replace hC := hC.below hb hC.lt
  replace hp := hp.below hb (Nat.le_refl _)
  clear hb
  go_wp2_with (refine wpList_blk_load_g (by first | rfl | simp [Region.wanted, go_sem]) (.tmp 2) rfl Try.underlying34 rfl rfl hB Try.recI ?_)
  refine (aw_may 6 (by decide) false r1 r1_wf (by decide) aw_f.2.2.1 _ (BlkAt.new w8 _ _) (hp.below (alloc_below w8 _) (Nat.le_refl _))).mono ?_
  rintro e w9 ⟨rfl, hb⟩
  replace hb := belS (alloc_below w8 _) hb
  replace E := belS E hb
  replace hA := hA.below hb hA.lt
  replace hB := hB.below hb hB.lt
  replace hC := hC.below hb hC.lt
  replace hp := hp.below hb (Nat.le_refl _)
  clear hb
  go_wp2_with (refine wpList_blk_load_g (by first | rfl | simp [Region.wanted, go_sem]) (.tmp 2) rfl Try.underlying34 rfl rfl hB Try.recI ?_)
  refine (aw_may 3 (by decide) true r1 r1_wf (by decide) aw_f.2.2.2.1 _ (BlkAt.new w9 _ _) (hp.below (alloc_below w9 _) (Nat.le_refl _))).mono ?_
  rintro e w10 ⟨rfl, hb⟩
  replace hb := belS (alloc_below w9 _) hb
  replace E := belS E hb
  replace hA := hA.below hb hA.lt
  replace hB := hB.below hb hB.lt
  replace hC := hC.below hb hC.lt
  replace hp := hp.below hb (Nat.le_refl _)
  clear hb
  go_wp2_with (refine wpList_blk_load_g (by first | rfl | simp [Region.wanted, go_sem]) (.tmp 2) rfl Try.underlying34 rfl rfl hB Try.recI ?_)
  refine (aw_next _ (BlkAt.new w10 _ _) (hp.below (alloc_below w10 _) (Nat.le_refl _))).mono ?_
  rintro e w11 ⟨rfl, hb⟩
  replace hb := belS (alloc_below w10 _) hb
  replace E := belS E hb
  replace hA := hA.below hb hA.lt
  replace hB := hB.below hb hB.lt
  replace hC := hC.below hb hC.lt
  replace hp := hp.below hb (Nat.le_refl _)
  clear hb
  have c0 : w11.cell? ⟨w5.heap.size, 0, none⟩ = some (.int .u64 1) := hC.cell rfl
  have c4 : w11.cell? ⟨w5.heap.size, 4, none⟩ = some (.slice a5 0 c5) := hC.cell rfl
  go_wp2_with fail
  refine (aw_may0 _).mono ?_
  rintro e w12 ⟨rfl, hb⟩
  replace E := belS E hb
  go_wp2_with fail
  refine (aw_next0 _).mono ?_
  rintro e w13 ⟨rfl, hb⟩
  replace E := belS E hb
  go_wp2_with fail
  refine (aw_last0 _).mono ?_
  rintro e w14 ⟨rfl, hb⟩
  replace E := belS E hb
  go_wp2
  go_ret
  exact ⟨rfl, E⟩
end Go.Proofs.Ytnpinkcadkkeoaa
