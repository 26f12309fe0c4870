/- gather: own, Add -/
import Derived.Test.YtlgabjffnjciaaaDoorGatA
import Derived.Deep.Cut
import Derived.Deep.CutRange
namespace Go.Proofs.YtlgabjffnjciaaaDoor
set_option linter.unusedSimpArgs false
set_option linter.unusedVariables false
open Go.RowKit Go.Sort
section
variable {P : Program} {ops : Array Oper} {o : Oper} {a : Act} {w : World} {K : Act → World → Prop} {Q : Exit → Act → World → Prop} {E' : Prop} {t : TypeId}
theorem step_blk_alloc (hg : o.guard = none) (ho : o.op = .alloc t) {zs : Array Value} (hz : (P.info? t).map (·.zero) = some (some (.agg zs))) (b : Nat) (hb : w.heap.size = b)
    (h : K (a.put o.dst (.pointer (some ⟨b, 0, none⟩))) (w.alloc (.cells zs t))) : if Region.wanted o (yielded ops a.tmps) = true then Oper.wp P o a w K Q else E' := by
  subst hb
  rw [if_pos (by simp [Region.wanted, hg])]
  obtain ⟨i, hi, hz⟩ : ∃ i, P.info? t = some i ∧ i.zero = some (.agg zs) := by
    cases h : P.info? t with
    | none => rw [h] at hz; cases hz
    | some i => rw [h] at hz; simp at hz; exact ⟨i, rfl, hz⟩
  unfold Oper.wp
  simp [execOp, ho, Instr.alloc, zeroValue, typeInfo, hi, hz, newVar, newRow, Value.cells, Result.andThen]
  exact h
theorem step_blk_store (hg : o.guard = none) (x y : Operand) (ho : o.op = .store t x y) {b : Nat} (hx : a.eval x = .pointer (some ⟨b, 0, none⟩)) {t' : TypeId} {old cs : Array Value} (hy : a.eval y = .agg cs) (hb : BlkAt w b t' old)
    (hi : (P.info? t).map (·.size) = some cs.size) (hs : old.size = cs.size) (h1 : cs.all (·.oneCell') = true)
    (h : ∀ w', BlkAt w' b t' cs → Kp b w w' → w'.heap.size = w.heap.size → K (a.put o.dst undef) w') : if Region.wanted o (yielded ops a.tmps) = true then Oper.wp P o a w K Q else E' := by
  rw [if_pos (by simp [Region.wanted, hg])]
  exact wp_store_row t x y ho b cs hx hy t' old hb hi hs h1
    (h _ (setRow_heap w b _ _ t' (0, 0) hb) ⟨rfl, rfl, rfl, by simp, fun k _ hk => setRow_other w b k _ hk⟩ (size_setRow _ _ _))
theorem step_map_update {b : Nat} {l : List (Int × Value)} {Kt E : TypeId} (hg : o.guard = none) (x ix v : Operand) (ho : o.op = .mapUpdate t x ix v) (ht : P.underlying t = some (.map Kt E)) (hk : P.underlying Kt = some (.int .i64)) (h : MapAt w b l) (hx : a.eval x = .map (some b)) {k : Int} (hix : a.eval ix = .int .i64 k) {u : Value} (hv : a.eval v = u) (hn : mGet l k = none)
    (hK : ∀ w', MapAt w' b (l ++ [(k, u)]) → Kp b w w' → w'.heap.size = w.heap.size → K (a.put o.dst undef) w') : if Region.wanted o (yielded ops a.tmps) = true then Oper.wp P o a w K Q else E' := by
  rw [if_pos (by simp [Region.wanted, hg])]
  obtain ⟨w', hrun, r1, r2, r3⟩ := h.run_update ht hk k u hn
  unfold Oper.wp
  simp [execOp, ho, hx, hix, hv, hrun, Result.andThen]
  exact hK w' r1 r2 r3
end
set_option maxHeartbeats 800000 in
theorem own_any (x : Xc) (w : World) (hx : RdU w x.pa x.pn x.pc x.v.cnt) (hn : x.pn * 4 ≤ 140737488355328) :
    Calls Tryd.prog 43 #[.agg (xcA x)] w fun e w' => ∃ a c, e = .returned (.agg (xcA ⟨x.v, a, x.pn, c⟩)) ∧ RdU w' a x.pn c x.v.cnt ∧ (∀ g off, a = some ⟨g, off, none⟩ → w.heap.size ≤ g) ∧ Below w.heap.size w w' := by
  have hA : BlkAt ((w.alloc (.cells (xcA x) 43)).alloc (.cells #[.int .i64 0, .int .u64 0, .int .i64 0, .slice none 0 0, .int .u64 0, .int .i64 0] 43)) w.heap.size 43 (xcA x) := BlkAt.alloc (BlkAt.new w _ _) _
  have hB : BlkAt ((w.alloc (.cells (xcA x) 43)).alloc (.cells #[.int .i64 0, .int .u64 0, .int .i64 0, .slice none 0 0, .int .u64 0, .int .i64 0] 43)) (w.heap.size + 1) 43 #[.int .i64 0, .int .u64 0, .int .i64 0, .slice none 0 0, .int .u64 0, .int .i64 0] := by simpa using BlkAt.new (w.alloc (.cells (xcA x) 43)) 43 #[.int .i64 0, .int .u64 0, .int .i64 0, .slice none 0 0, .int .u64 0, .int .i64 0]
  have hb1 : Below w.heap.size w ((w.alloc (.cells (xcA x) 43)).alloc (.cells #[.int .i64 0, .int .u64 0, .int .i64 0, .slice none 0 0, .int .u64 0, .int .i64 0] 43)) := ((Below.refl _ _).alloc (Nat.le_refl _) _).alloc (by simp) _
  go_enter Tryd.func43, Tryd.ntmps43
  go_wp2_with (first
    | (refine wpList_blk_box rfl (.tmp 0) rfl rfl w.heap.size rfl ?_)
    | (refine wpList_blk_alloc rfl rfl Tryd.exZ (w.heap.size + 1) (by simp) ?_; generalize (World.alloc (World.alloc w _) _) = w1 at *; obtain ⟨x0, x1, x2, x3, x4, x5⟩ := blk6 hA))
  refine (clone_any x.pa x.pn x.pc x.v.cnt w1 (hx.below hb1) hn).mono ?_
  rintro e w2 ⟨a', c', rfl, hr2, hnew, hb2⟩
  have hA2 := hA.below hb2 hA.lt
  have hB2 := hB.below hb2 hB.lt
  clear x0 x1 x2 x3 x4 x5
  obtain ⟨x0, x1, x2, x3, x4, x5⟩ := blk6 hA2
  have f3 := hA2.fz 3
  have hA3 : BlkAt (w2.setCell ⟨w.heap.size, 3, none⟩ (.slice a' x.pn c')) w.heap.size 43 (xcA ⟨x.v, a', x.pn, c'⟩) := BlkAt.set hA2 3 (.slice a' x.pn c')
  have hB3 : BlkAt (w2.setCell ⟨w.heap.size, 3, none⟩ (.slice a' x.pn c')) (w.heap.size + 1) 43 #[.int .i64 0, .int .u64 0, .int .i64 0, .slice none 0 0, .int .u64 0, .int .i64 0] := BlkAt.other hB2 (a := ⟨w.heap.size, 3, none⟩) (by simp) _
  have hb3 := Lib.hid (Kp.below (hb1.trans (hb2.mono hb1.size)) ((Kp.refl w.heap.size w2).setCell ⟨w.heap.size, 3, none⟩ rfl (.slice a' x.pn c')) (Nat.le_refl _) (Nat.le_trans hb1.size hb2.size))
  have hw1 := hb1.size
  have hlB := hB.lt
  have hr3 := Lib.hid (show RdU (w2.setCell ⟨w.heap.size, 3, none⟩ (.slice a' x.pn c')) a' x.pn c' x.v.cnt from Kp.rd ((Kp.refl w.heap.size w2).setCell ⟨w.heap.size, 3, none⟩ rfl _) hr2 (fun g off e => by have := hnew g off e; omega))
  replace hnew := Lib.hid hnew
  clear hr2
  go_upto_region 2 with (fail)
  clear x0 x1 x2 x3 x4 x5 f3 hA2 hB2
  generalize w2.setCell ⟨w.heap.size, 3, none⟩ (.slice a' x.pn c') = w3 at *
  go_wp2_with (first
    | (refine wpList_blk_load rfl (.tmp 1) rfl Tryd.underlying43 rfl rfl hA3 (Tryd.exI _) ?_)
    | (refine wpList_blk_store (cs := xcA ⟨x.v, a', x.pn, c'⟩) rfl (.tmp 2) (.tmp 7) rfl rfl rfl hB3 (Tryd.exI _) rfl (xcA_one _) ?_; intro w4 hB4 hK4 hsz4))
  refine bodyPost_ret (results_cell_row rfl _ _ (w.heap.size + 1) 43 _ (0, 0) _ rfl hB4 Tryd.underlying43 rfl (Tryd.exI _)) rfl ⟨a', c', rfl, ?_, ?_, ?_⟩
  · exact Kp.rd hK4 hr3.out (fun g off e => by have := hnew.out g off e; omega)
  · intro g off e; have := hnew.out g off e; omega
  · exact Kp.below hb3.out hK4 (by omega) hb3.out.size
/-- What an attempt says. -/
structure AtV where
  ep : Int
  rp : Int
  mem : Nat
  rdy : Nat
  xs : List Xv
def AtS.val (s : AtS) : AtV := ⟨s.ep, s.rp, s.mem, s.rdy, vX s.xs⟩
def toldV (v : AtV) : Bool := decide (v.xs.length = cardN v.mem)
def doneV (v : AtV) : Bool := toldV v && decide (v.rdy = v.mem)
def rdyC (v : AtV) (p : Int) : Bool := toldV v && hasB v.mem p && !hasB v.rdy p
def rdyV (v : AtV) (p : Int) : AtV := if rdyC v p = true then { v with rdy := withN v.rdy [p] } else v
def thereV (v : AtV) (p : Int) : Bool := v.xs.any fun x => decide (x.who = p)
def addC (v : AtV) (p : Int) : Bool := !thereV v p && hasB v.mem p
def addV (v : AtV) (x : Xv) : AtV := if addC v x.who = true then { v with xs := v.xs ++ [x] } else v
/-- What is new of an attempt lies in new memory. -/
def Newer (w : World) (s s' : AtS) : Prop := ∀ y ∈ s'.xs, y ∈ s.xs ∨ ∀ g off, y.pa = some ⟨g, off, none⟩ → w.heap.size ≤ g
theorem toldB_val (s : AtS) : toldB s = toldV s.val := by simp [toldB, toldV, AtS.val, vX_len]
theorem doneB_val (s : AtS) : doneB s = doneV s.val := by simp [doneB, doneV, toldB_val]; rfl
theorem rdyS_val (s : AtS) (p : Int) : rdyS s p = rdyC s.val p := by simp only [rdyS, rdyC, toldB_val]; rfl
theorem rdyN_val (s : AtS) (p : Int) : (rdyN s p).val = rdyV s.val p := by
  unfold rdyN rdyV
  rw [rdyS_val]
  split <;> rfl
theorem there_get (xs : List Xc) (p : Int) : (mGet (xsM xs) p).isSome = (vX xs).any fun x => decide (x.who = p) := by
  rw [Bool.eq_iff_iff, Option.isSome_iff_ne_none, Ne, mGet_none, List.any_eq_true]
  constructor
  · intro h
    refine Classical.byContradiction (fun hn => h (fun q hq e => hn ?_))
    obtain ⟨x, hx, rfl⟩ := List.mem_map.1 hq
    exact ⟨x.v, List.mem_map.2 ⟨x, hx, rfl⟩, decide_eq_true e⟩
  · rintro ⟨y, hy, e⟩ h
    obtain ⟨x, hx, rfl⟩ := List.mem_map.1 hy
    exact h (x.v.who, .agg (xcA x)) (List.mem_map.2 ⟨x, hx, rfl⟩) (of_decide_eq_true e)
theorem look_agg (xs : List Xc) (p : Int) : ∃ cs : Array Value, (mGet (xsM xs) p).getD (.agg #[.int .i64 0, .int .u64 0, .int .i64 0, .slice none 0 0, .int .u64 0, .int .i64 0]) = .agg cs ∧ cs.size = 6 ∧ cs.all (·.oneCell') = true := by
  cases h : mGet (xsM xs) p with
  | none => exact ⟨_, rfl, rfl, by simp [Value.oneCell']⟩
  | some v =>
    unfold mGet at h
    obtain ⟨q, hq, e⟩ := Option.map_eq_some_iff.1 h
    obtain ⟨x, hx, e2⟩ := List.mem_map.1 (List.mem_of_find?_eq_some hq)
    subst e2
    simp only at e
    subst e
    exact ⟨_, rfl, rfl, xcA_one x⟩
theorem Tryd.zeroX (W : World) : (zeroValue 43).run Tryd.prog W = .ok (.agg #[.int .i64 0, .int .u64 0, .int .i64 0, .slice none 0 0, .int .u64 0, .int .i64 0]) W := by kernel_rfl
theorem yieldsIf_look {P : Program} {ops : Array Oper} {S : World → Prop} {o : Oper} {a : Act} {t K E : TypeId} {mb : Nat} {l : List (Int × Value)} (hw : Region.wanted o (yielded ops a.tmps) = true) (x ix : Operand) (ho : o.op = .lookup t x ix true) (ht : P.underlying t = some (.map K E)) (hk : P.underlying K = some (.int .i64)) {z : Value} (hz : ∀ W, (zeroValue E).run P W = .ok z W)
    (hS : ∀ W, S W → MapAt W mb l) (hx : a.eval x = .map (some mb)) {k : Int} (hix : a.eval ix = .int .i64 k) : YieldsIf P ops S o (.tuple #[(mGet l k).getD z, .bool (mGet l k).isSome]) a :=
  .inl ⟨hw, fun w h => by simp [execOp, ho, hx, hix, (hS w h).run_lookup ht hk (hz _) k, Result.andThen]⟩
/-- An exchange more. -/
theorem GatAt.more {w w' : World} {b mb : Nat} {s : AtS} {x : Xc} (h : GatAt w b mb s) (hm : MapAt w' mb (xsM s.xs ++ [(x.v.who, .agg (xcA x))])) (hk : Kp mb w w') (hx : RdU w x.pa x.pn x.pc x.v.cnt) (ha : ∀ g off, x.pa = some ⟨g, off, none⟩ → g ≠ b ∧ g ≠ mb) (hh : hasB s.mem x.v.who = true) (hn : x.pn * 4 ≤ 140737488355328) :
    GatAt w' b mb { s with xs := s.xs ++ [x] } := by
  refine ⟨hk.blk h.blk h.ne, by simpa [xsM] using hm, fun y hy => ?_, fun y hy => ?_, ⟨h.ok.mem, h.ok.rdy, fun y hy => ?_, fun y hy => ?_⟩⟩
  · rcases List.mem_append.1 hy with hy | hy
    · exact RdU.kpO (O := fun g => g = mb) (KpO.ofKp hk rfl) (h.inn y hy) (fun g off e hn => (h.away y hy g off e hn).2)
    · obtain rfl := List.mem_singleton.1 hy
      exact RdU.kpO (O := fun g => g = mb) (KpO.ofKp hk rfl) hx (fun g off e hn => (ha g off e).2)
  · rcases List.mem_append.1 hy with hy | hy
    · exact h.away y hy
    · obtain rfl := List.mem_singleton.1 hy; exact fun g off e _ => ha g off e
  · rcases List.mem_append.1 hy with hy | hy
    · exact h.ok.who y hy
    · obtain rfl := List.mem_singleton.1 hy; exact hh
  · rcases List.mem_append.1 hy with hy | hy
    · exact h.ok.sm y hy
    · obtain rfl := List.mem_singleton.1 hy; exact hn
set_option maxHeartbeats 3200000 in
set_option maxRecDepth 100000 in
theorem add_any (s : AtS) (b mb : Nat) (x : Xc) (t : Bool) (ht : t = (addC s.val x.v.who && toldV (addV s.val x.v))) (w : World) (h : GatAt w b mb s) (hx : RdU w x.pa x.pn x.pc x.v.cnt) (hn : x.pn * 4 ≤ 140737488355328) :
    Calls Tryd.prog 19 #[.pointer (some ⟨b, 0, none⟩), .agg (xcA x)] w fun e w' => e = .returned (.bool t) ∧ (∃ s', GatAt w' b mb s' ∧ s'.val = addV s.val x.v ∧ Newer w s s') ∧ KpO (Own2 b mb) w w' := by
  obtain ⟨tt, htt⟩ : ∃ tt, tt = thereV s.val x.v.who := ⟨_, rfl⟩
  have hget : (mGet (xsM s.xs) x.v.who).isSome = tt := by rw [there_get]; exact htt.symm
  obtain ⟨cs, hcs, hcz, hc1⟩ := look_agg s.xs x.v.who
  have hX := BlkAt.new w 43 (xcA x)
  have hb1 := alloc_below w (.cells (xcA x) 43)
  have h1 := Lib.hid (h.below hb1)
  have hx1 := Lib.hid (hx.below hb1)
  have hbl := h.blk.lt
  have hml := h.map.lt
  have hmm := Lib.hid h.ok.mem
  have hC := Lib.hid (show addC s.val x.v.who = (!tt && hasB s.mem x.v.who) from by rw [htt]; rfl)
  replace ht := Lib.hid ht
  replace htt := Lib.hid htt
  have hsz1 : (w.alloc (.cells (xcA x) 43)).heap.size = w.heap.size + 1 := by simp
  clear h hx
  go_enter Tryd.func19, Tryd.ntmps19
  go_upto_region 1 with (first
    | (refine wpList_blk_box rfl (.tmp 1) rfl rfl w.heap.size rfl ?_; generalize (w.alloc (.cells (xcA x) 43)) = w1 at *))
  have hi := Tryd.exI x
  have hxi : (Tryd.prog.info? 43).map (·.size) = some cs.size := by rw [hcz]; exact hi
  go_cut [6] from 5 to 16 (fun t wx => t = .bool tt ∧ Below w1.heap.size w1 wx)
  case first => as_aux_lemma =>
    have HS := Lib.hid (fun W (hb : Below w1.heap.size w1 W) => show W.cell? ⟨b, 3, none⟩ = some (.map (some mb)) ∧ W.cell? ⟨w.heap.size, 0, none⟩ = some (.int .i64 x.v.who) ∧ MapAt W mb (xsM s.xs) ∧ True from
      ⟨(h1.out.below hb).blk.cell (i := 3) rfl, (hX.below hb hX.lt).cell (i := 0) rfl, (h1.out.below hb).map, trivial⟩)
    have hbD : Hid (Below w1.heap.size w1 w1.drew) := Lib.hid (Below.refl _ _).drew
    clear h1 hx1 hX
    refine wp_region_held_drew (S := fun W => W.cell? ⟨b, 3, none⟩ = some (.map (some mb)) ∧ W.cell? ⟨w.heap.size, 0, none⟩ = some (.int .i64 x.v.who) ∧ MapAt W mb (xsM s.xs) ∧ True) (by kernel_rfl) (HS.out _ hbD.out) ?_
    intro hHeld
    (refine wpAnyH_take (i := 0) (v := ?_) rfl (by kernel_rfl) (by kernel_rfl) (by kernel_rfl) (fun _ _ _ h => h) (Or.inl ⟨by rfl, ?_⟩) (by assumption) ?_; rotate_left; (focus (intro w hSw; obtain ⟨s1, s2, s3, s4⟩ := hSw; clear s4; go_simp; (try with_reducible rfl))); (try simp only [Act.put, List.getElem_toArray, List.getElem_cons_zero, List.getElem_cons_succ, List.setIfInBounds_toArray, List.set_cons_zero, List.set_cons_succ]))
    (refine wpAnyH_take (i := 1) (v := ?_) rfl (by kernel_rfl) (by kernel_rfl) (by kernel_rfl) (fun _ _ _ h => h) (Or.inl ⟨by rfl, ?_⟩) (by assumption) ?_; rotate_left; (focus (intro w hSw; obtain ⟨s1, s2, s3, s4⟩ := hSw; clear s4; go_simp; (try with_reducible rfl))); (try simp only [Act.put, List.getElem_toArray, List.getElem_cons_zero, List.getElem_cons_succ, List.setIfInBounds_toArray, List.set_cons_zero, List.set_cons_succ]))
    (refine wpAnyH_take (i := 2) (v := ?_) rfl (by kernel_rfl) (by kernel_rfl) (by kernel_rfl) (fun _ _ _ h => h) (Or.inl ⟨by rfl, ?_⟩) (by assumption) ?_; rotate_left; (focus (intro w hSw; obtain ⟨s1, s2, s3, s4⟩ := hSw; clear s4; go_simp; (try with_reducible rfl))); (try simp only [Act.put, List.getElem_toArray, List.getElem_cons_zero, List.getElem_cons_succ, List.setIfInBounds_toArray, List.set_cons_zero, List.set_cons_succ]))
    (refine wpAnyH_take (i := 3) (v := ?_) rfl (by kernel_rfl) (by kernel_rfl) (by kernel_rfl) (fun _ _ _ h => h) (Or.inl ⟨by rfl, ?_⟩) (by assumption) ?_; rotate_left; (focus (intro w hSw; obtain ⟨s1, s2, s3, s4⟩ := hSw; clear s4; go_simp; (try with_reducible rfl))); (try simp only [Act.put, List.getElem_toArray, List.getElem_cons_zero, List.getElem_cons_succ, List.setIfInBounds_toArray, List.set_cons_zero, List.set_cons_succ]))
    (refine wpAnyH_take (i := 4) (v := ?_) rfl (by kernel_rfl) (by kernel_rfl) (by kernel_rfl) (fun _ _ _ h => h) (Or.inl ⟨by rfl, ?_⟩) (by assumption) ?_; rotate_left; (focus (intro w hSw; obtain ⟨s1, s2, s3, s4⟩ := hSw; clear s4; go_simp; (try with_reducible rfl))); (try simp only [Act.put, List.getElem_toArray, List.getElem_cons_zero, List.getElem_cons_succ, List.setIfInBounds_toArray, List.set_cons_zero, List.set_cons_succ]))
    (refine wpAnyH_take (i := 5) (v := ?_) rfl (by kernel_rfl) (by kernel_rfl) (by kernel_rfl) (fun _ _ _ h => h) (Or.inl ⟨by rfl, ?_⟩) (by assumption) ?_; rotate_left; (focus (intro w hSw; obtain ⟨s1, s2, s3, s4⟩ := hSw; clear s4; go_simp; (try with_reducible rfl))); (try simp only [Act.put, List.getElem_toArray, List.getElem_cons_zero, List.getElem_cons_succ, List.setIfInBounds_toArray, List.set_cons_zero, List.set_cons_succ]))
    refine wpAnyH_take (i := 6) (v := .tuple #[.agg cs, .bool tt]) rfl (by kernel_rfl) (by kernel_rfl) (by kernel_rfl) (fun _ _ _ h => h) ?_ (by assumption) ?_
    · rw [← hcs, ← hget]
      exact yieldsIf_look (by rfl) (.tmp 11) (.tmp 13) rfl Tryd.underlying70 Tryd.underlying3 Tryd.zeroX (fun W hW => hW.2.2.1) rfl rfl
    (try simp only [Act.put, List.getElem_toArray, List.getElem_cons_zero, List.getElem_cons_succ, List.setIfInBounds_toArray, List.set_cons_zero, List.set_cons_succ])
    (refine wpAnyH_take (i := 7) (v := ?_) rfl (by kernel_rfl) (by kernel_rfl) (by kernel_rfl) (fun _ _ _ h => h) (Or.inl ⟨by rfl, ?_⟩) (by assumption) ?_; rotate_left; (focus (intro w hSw; obtain ⟨s1, s2, s3, s4⟩ := hSw; clear s4; go_simp; (try with_reducible rfl))); (try simp only [Act.put, List.getElem_toArray, List.getElem_cons_zero, List.getElem_cons_succ, List.setIfInBounds_toArray, List.set_cons_zero, List.set_cons_succ]))
    (refine wpAnyH_take (i := 8) (v := ?_) rfl (by kernel_rfl) (by kernel_rfl) (by kernel_rfl) (fun _ _ _ h => h) (Or.inl ⟨by rfl, ?_⟩) (by assumption) ?_; rotate_left; (focus (intro w hSw; obtain ⟨s1, s2, s3, s4⟩ := hSw; clear s4; go_simp; (try with_reducible rfl))); (try simp only [Act.put, List.getElem_toArray, List.getElem_cons_zero, List.getElem_cons_succ, List.setIfInBounds_toArray, List.set_cons_zero, List.set_cons_succ]))
    (refine wpAnyH_take (i := 9) (v := ?_) rfl (by kernel_rfl) (by kernel_rfl) (by kernel_rfl) (fun _ _ _ h => h) (Or.inl ⟨by rfl, ?_⟩) (by assumption) ?_; rotate_left; (focus (intro w hSw; obtain ⟨s1, s2, s3, s4⟩ := hSw; clear s4; go_simp; (try with_reducible rfl))); (try simp only [Act.put, List.getElem_toArray, List.getElem_cons_zero, List.getElem_cons_succ, List.setIfInBounds_toArray, List.set_cons_zero, List.set_cons_succ]))
    (refine wpAnyH_ready (rs := [10]) (by kernel_rfl) (by simp) ?_; refine AllReadyH.cons rfl (fun K hK => ?_) AllReadyH.nil)
    have hZ := BlkAt.new w1.drew 43 #[.int .i64 0, .int .u64 0, .int .i64 0, .slice none 0 0, .int .u64 0, .int .i64 0]
    have HAl := Lib.hid (fun w3 (hK3 : Kp w1.drew.heap.size (w1.drew.alloc (.cells #[.int .i64 0, .int .u64 0, .int .i64 0, .slice none 0 0, .int .u64 0, .int .i64 0] 43)) w3) => belS hbD.out (alloc_store hK3))
    have hbA := Lib.hid (belS hbD.out (alloc_below w1.drew (.cells #[.int .i64 0, .int .u64 0, .int .i64 0, .slice none 0 0, .int .u64 0, .int .i64 0] 43)))
    refine step_blk_alloc rfl rfl Tryd.exZ _ rfl ?_
    (try simp only [Act.put, List.getElem_toArray, List.getElem_cons_zero, List.getElem_cons_succ, List.setIfInBounds_toArray, List.set_cons_zero, List.set_cons_succ])
    refine hK.out _ _ (HS.out _ hbA.out) (fun hHeld2 => ?_)
    clear hK K hHeld
    (refine wpAnyH_ready (rs := [11]) (by kernel_rfl) (by simp) ?_; refine AllReadyH.cons rfl (fun K hK => ?_) AllReadyH.nil)
    refine step_blk_store rfl (.tmp 5) (.tmp 15) rfl rfl rfl hZ hxi (by rw [hcz]; rfl) hc1 ?_
    intro w3 _ hK3 _
    have hb3 := Lib.hid (HAl.out _ hK3)
    clear hK3 hZ hbA
    (try simp only [Act.put, List.getElem_toArray, List.getElem_cons_zero, List.getElem_cons_succ, List.setIfInBounds_toArray, List.set_cons_zero, List.set_cons_succ])
    refine hK.out _ _ (HS.out _ hb3.out) (fun hHeld3 => ?_)
    clear hK K hHeld2
    (refine wpAnyH_take (i := 12) (v := ?_) rfl (by kernel_rfl) (by kernel_rfl) (by kernel_rfl) (fun _ _ _ h => h) (Or.inl ⟨by rfl, ?_⟩) (by assumption) ?_; rotate_left; (focus (intro w hSw; obtain ⟨s1, s2, s3, s4⟩ := hSw; clear s4; go_simp; (try with_reducible rfl))); (try simp only [Act.put, List.getElem_toArray, List.getElem_cons_zero, List.getElem_cons_succ, List.setIfInBounds_toArray, List.set_cons_zero, List.set_cons_succ]))
    refine wpAnyH_done (by kernel_rfl) ?_ _
    go_wp2_with fail
    go_meet
    exact ⟨rfl, hb3.out⟩
  case rest => as_aux_lemma =>
    obtain ⟨rfl, hb2⟩ := hcut
    obtain ⟨w2, rfl⟩ : ∃ z, z = wc := ⟨_, rfl⟩
    have h2 := Lib.hid (h1.out.below hb2)
    have hX2 := hX.below hb2 hX.lt
    have hx2 := Lib.hid (hx1.out.below hb2)
    have hb12 := Lib.hid (belS hb1 hb2)
    have c2 := h2.out.blk.cell (i := 2) (v := .int .u64 (s.mem : Nat)) rfl
    have x0 := hX2.cell (i := 0) (v := .int .i64 x.v.who) rfl
    have k2 := cell_regrown c2
    have k0 := cell_regrown x0
    have kH := fun d os => Calls.regrown_of (pureB (has_any s.mem x.v.who hmm.out (grow (redrawn w2 d) os)))
    clear hb1 hb2 h1 hX hx1 hcs hcz hc1 hi hxi hget
    cases tt with
    | true =>
      have hc0 : addC s.val x.v.who = false := hC.out
      have hz := Lib.hid (show t = false from by rw [ht.out, hc0]; rfl)
      have hv := Lib.hid (show s.val = addV s.val x.v from by rw [addV, hc0]; rfl)
      clear hC ht hc0
      go_upto_region 2 with (fail)
      refine wp_region_quiet_below (by kernel_rfl) (by kernel_rfl) ?_
      iterate 11 (go_big_quiet_step (first | (with_reducible exact kH _ _)))
      refine wpQuiet_nil ?_; intro w4' hw'; obtain ⟨⟨dq, osq⟩, hw''⟩ := hw'; subst hw''
      go_wp2
      go_ret
      exact ⟨by rw [hz.out]; rfl, ⟨s, h2.out.below (below_regrown _ _ _), hv.out, fun y hy => .inl hy⟩, KpO.own (belS hb12.out (below_regrown _ _ _))⟩
    | false =>
    cases hh : hasB s.mem x.v.who with
    | false =>
      have hc0 : addC s.val x.v.who = false := by rw [hC.out, hh]; rfl
      have hz := Lib.hid (show t = false from by rw [ht.out, hc0]; rfl)
      have hv := Lib.hid (show s.val = addV s.val x.v from by rw [addV, hc0]; rfl)
      rw [hh] at kH
      clear hC ht hc0 hh
      go_upto_region 2 with (fail)
      refine wp_region_quiet_below (by kernel_rfl) (by kernel_rfl) ?_
      iterate 11 (go_big_quiet_step (first | (with_reducible exact kH _ _)))
      refine wpQuiet_nil ?_; intro w4' hw'; obtain ⟨⟨dq, osq⟩, hw''⟩ := hw'; subst hw''
      go_wp2
      go_ret
      exact ⟨by rw [hz.out]; rfl, ⟨s, h2.out.below (below_regrown _ _ _), hv.out, fun y hy => .inl hy⟩, KpO.own (belS hb12.out (below_regrown _ _ _))⟩
    | true =>
      have hc0 : addC s.val x.v.who = true := by rw [hC.out, hh]; rfl
      have hz := Lib.hid (show t = toldV (addV s.val x.v) from by rw [ht.out, hc0]; rfl)
      have hv := Lib.hid (show { s.val with xs := s.val.xs ++ [x.v] } = addV s.val x.v from by rw [addV, hc0]; rfl)
      have hgn : Hid (mGet (xsM s.xs) x.v.who = none) := Lib.hid (by
        have := htt.out
        rw [thereV] at this
        have h3 := there_get s.xs x.v.who
        rw [show (vX s.xs).any (fun y => decide (y.who = x.v.who)) = false from this.symm] at h3
        cases hg : mGet (xsM s.xs) x.v.who with
        | none => rfl
        | some v => rw [hg] at h3; cases h3)
      rw [hh] at kH
      have hhh := Lib.hid hh
      clear hC ht hc0 hh
      go_upto_region 2 with (fail)
      refine wp_region_quiet_below (by kernel_rfl) (by kernel_rfl) ?_
      iterate 11 (go_big_quiet_step (first | (with_reducible exact kH _ _)))
      refine wpQuiet_nil ?_; intro w4' hw'; obtain ⟨⟨dq, osq⟩, hw''⟩ := hw'; subst hw''
      have hbq := below_regrown w2 dq osq
      generalize grow (redrawn w2 dq) osq = w4 at *
      have h4 := Lib.hid (h2.out.below hbq)
      have hX4 := hX2.below hbq hX2.lt
      have hx4 := Lib.hid (hx2.out.below hbq)
      have hb4 := Lib.hid (belS hb12.out hbq)
      have hw4 : w.heap.size < w4.heap.size := hX4.lt
      clear hbq kH k2 k0 x0 c2 hX2 h2 hx2 hb12
      go_upto_region 4 with (fail)
      have HS := Lib.hid (fun W (hb : Below w4.heap.size w4 W) => show W.cell? ⟨b, 3, none⟩ = some (.map (some mb)) ∧ W.cell? ⟨w.heap.size, 0, none⟩ = some (.int .i64 x.v.who) ∧ W.rangeAt w.heap.size 0 (xcC x) ∧ True from
        ⟨(h4.out.below hb).blk.cell (i := 3) rfl, (hX4.below hb hX4.lt).cell (i := 0) rfl, (hX4.below hb hX4.lt).range (fun j v hj => by rw [Nat.zero_add]; simpa [xcA, xcC] using hj), trivial⟩)
      have hbD : Hid (Below w4.heap.size w4 w4.drew) := Lib.hid (Below.refl _ _).drew
      have HO := Lib.hid (own_any x w4.drew (hx4.out.below hbD.out) hn)
      have hxi := Tryd.exI x
      clear hX4
      refine wp_region_held_drew (S := fun W => W.cell? ⟨b, 3, none⟩ = some (.map (some mb)) ∧ W.cell? ⟨w.heap.size, 0, none⟩ = some (.int .i64 x.v.who) ∧ W.rangeAt w.heap.size 0 (xcC x) ∧ True) (by kernel_rfl) (HS.out _ hbD.out) ?_
      intro hHeld
      (refine wpAnyH_take (i := 0) (v := ?_) rfl (by kernel_rfl) (by kernel_rfl) (by kernel_rfl) (fun _ _ _ h => h) (Or.inl ⟨by rfl, ?_⟩) (by assumption) ?_; rotate_left; (focus (intro w hSw; obtain ⟨s1, s2, s3, s4⟩ := hSw; clear s4; go_simp; (try with_reducible rfl))); (try simp only [Act.put, List.getElem_toArray, List.getElem_cons_zero, List.getElem_cons_succ, List.setIfInBounds_toArray, List.set_cons_zero, List.set_cons_succ]))
      (refine wpAnyH_take (i := 1) (v := ?_) rfl (by kernel_rfl) (by kernel_rfl) (by kernel_rfl) (fun _ _ _ h => h) (Or.inl ⟨by rfl, ?_⟩) (by assumption) ?_; rotate_left; (focus (intro w hSw; obtain ⟨s1, s2, s3, s4⟩ := hSw; clear s4; go_simp; (try with_reducible rfl))); (try simp only [Act.put, List.getElem_toArray, List.getElem_cons_zero, List.getElem_cons_succ, List.setIfInBounds_toArray, List.set_cons_zero, List.set_cons_succ]))
      (refine wpAnyH_take (i := 2) (v := ?_) rfl (by kernel_rfl) (by kernel_rfl) (by kernel_rfl) (fun _ _ _ h => h) (Or.inl ⟨by rfl, ?_⟩) (by assumption) ?_; rotate_left; (focus (intro w hSw; obtain ⟨s1, s2, s3, s4⟩ := hSw; clear s4; go_simp; (try with_reducible rfl))); (try simp only [Act.put, List.getElem_toArray, List.getElem_cons_zero, List.getElem_cons_succ, List.setIfInBounds_toArray, List.set_cons_zero, List.set_cons_succ]))
      (refine wpAnyH_take (i := 3) (v := ?_) rfl (by kernel_rfl) (by kernel_rfl) (by kernel_rfl) (fun _ _ _ h => h) (Or.inl ⟨by rfl, ?_⟩) (by assumption) ?_; rotate_left; (focus (intro w hSw; obtain ⟨s1, s2, s3, s4⟩ := hSw; clear s4; go_simp; (try with_reducible rfl))); (try simp only [Act.put, List.getElem_toArray, List.getElem_cons_zero, List.getElem_cons_succ, List.setIfInBounds_toArray, List.set_cons_zero, List.set_cons_succ]))
      (refine wpAnyH_take (i := 4) (v := ?_) rfl (by kernel_rfl) (by kernel_rfl) (by kernel_rfl) (fun _ _ _ h => h) (Or.inl ⟨by rfl, ?_⟩) (by assumption) ?_; rotate_left; (focus (intro w hSw; obtain ⟨s1, s2, s3, s4⟩ := hSw; clear s4; go_simp; (try with_reducible rfl))); (try simp only [Act.put, List.getElem_toArray, List.getElem_cons_zero, List.getElem_cons_succ, List.setIfInBounds_toArray, List.set_cons_zero, List.set_cons_succ]))
      (refine wpAnyH_take (i := 5) (v := ?_) rfl (by kernel_rfl) (by kernel_rfl) (by kernel_rfl) (fun _ _ _ h => h) (Or.inl ⟨by rfl, ?_⟩) (by assumption) ?_; rotate_left; (focus (intro w hSw; obtain ⟨s1, s2, s3, s4⟩ := hSw; clear s4; go_simp; (try with_reducible rfl))); (try simp only [Act.put, List.getElem_toArray, List.getElem_cons_zero, List.getElem_cons_succ, List.setIfInBounds_toArray, List.set_cons_zero, List.set_cons_succ]))
      refine wpAnyH_take (i := 6) (v := .agg (xcA x)) rfl (by kernel_rfl) (by kernel_rfl) (by kernel_rfl) (fun _ _ _ h => h) ?_ (by assumption) ?_
      · exact yieldsIf_load_mid (by rfl) 43 (.tmp 3) rfl w.heap.size 0 rfl (xcC x) _ (fun W hW => hW.2.2.1) Tryd.underlying43 rfl hxi
      (try simp only [Act.put, List.getElem_toArray, List.getElem_cons_zero, List.getElem_cons_succ, List.setIfInBounds_toArray, List.set_cons_zero, List.set_cons_succ])
      (refine wpAnyH_ready (rs := [7]) (by kernel_rfl) (by simp) ?_; refine AllReadyH.cons rfl (fun K hK => ?_) AllReadyH.nil)
      go_simp
      refine HO.out.mono ?_
      rintro e w5 ⟨a', c', rfl, hr5, hnew, hb5⟩
      have hb5' := Lib.hid (belS hbD.out hb5)
      refine hK.out _ _ (HS.out _ hb5'.out) (fun hHeld2 => ?_)
      clear hK K hHeld HO hxi
      have h5 := Lib.hid (h4.out.below hb5'.out)
      have hM5 := h5.out.map
      (refine wpAnyH_ready (rs := [8]) (by kernel_rfl) (by simp) ?_; refine AllReadyH.cons rfl (fun K hK => ?_) AllReadyH.nil)
      refine step_map_update rfl (.tmp 31) (.tmp 33) (.tmp 35) rfl Tryd.underlying70 Tryd.underlying3 hM5 rfl rfl rfl hgn.out ?_
      intro w6 hM6 hK6 hs6
      (try simp only [Act.put, List.getElem_toArray, List.getElem_cons_zero, List.getElem_cons_succ, List.setIfInBounds_toArray, List.set_cons_zero, List.set_cons_succ])
      have hnb : ∀ g off, a' = some ⟨g, off, none⟩ → g ≠ b ∧ g ≠ mb := fun g off e => by
        have h7 := hnew g off e
        have h8 := h4.out.blk.lt
        have h9 := h4.out.map.lt
        have h10 : w4.drew.heap.size = w4.heap.size := rfl
        omega
      have h6 := Lib.hid (h5.out.more (x := ⟨x.v, a', x.pn, c'⟩) hM6 hK6 hr5 hnb hhh.out hn)
      have hk6 := Lib.hid ((KpO.own (b := b) (mb := mb) (belS hb4.out hb5'.out)).trans (KpO.ofKp (O := Own2 b mb) hK6 (.inr rfl)) (fun g hg => .inl hg))
      have hS6 : Hid (w6.cell? ⟨b, 3, none⟩ = some (.map (some mb)) ∧ w6.cell? ⟨w.heap.size, 0, none⟩ = some (.int .i64 x.v.who) ∧ w6.rangeAt w.heap.size 0 (xcC x) ∧ True) := by
        obtain ⟨q1, q2, q3, _⟩ := HS.out _ hb5'.out
        have h8 := h5.out.blk.lt
        have h9 := hb5'.out.size
        have hcell : ∀ g off v, g ≠ mb → g < w5.heap.size → w5.cell? ⟨g, off, none⟩ = some v → w6.cell? ⟨g, off, none⟩ = some v := fun g off v hne hlt h => by rw [World.cell?_of_block (w := w5) (hK6.block g hlt hne)]; exact h
        exact Lib.hid ⟨hcell _ _ _ h5.out.ne h8 q1, hcell _ _ _ (by omega) (by omega) q2, fun j v hj => hcell _ _ _ (by omega) (by omega) (q3 j v hj), trivial⟩
      refine hK.out _ _ hS6.out (fun hHeld3 => ?_)
      have hnw : Hid (∀ g off, a' = some ⟨g, off, none⟩ → w.heap.size ≤ g) := Lib.hid (fun g off e => by
        have h7 := hnew g off e
        have h10 : w4.drew.heap.size = w4.heap.size := rfl
        omega)
      clear hK K hHeld2 hM5 hM6 hK6 hr5 hnew hnb hS6
      refine wpAnyH_done (by kernel_rfl) ?_ _
      have HT2 := Lib.hid (told_any _ b mb t (by rw [hz.out, ← hv.out, toldB_val]; simp [AtS.val, vX]) w6 h6.out)
      go_wp2_with fail
      refine HT2.out.mono ?_
      rintro e w7 ⟨rfl, hb7⟩
      go_wp2
      go_ret
      refine ⟨rfl, ⟨_, h6.out.below hb7, ?_, fun y hy => ?_⟩, hk6.out.trans (KpO.own (b := b) (mb := mb) hb7) (fun g hg => .inl hg)⟩
      · rw [← hv.out]
        simp [AtS.val, vX]
      · rcases List.mem_append.1 hy with hy | hy
        · exact .inl hy
        · obtain rfl := List.mem_singleton.1 hy
          exact .inr hnw.out
end Go.Proofs.YtlgabjffnjciaaaDoor
