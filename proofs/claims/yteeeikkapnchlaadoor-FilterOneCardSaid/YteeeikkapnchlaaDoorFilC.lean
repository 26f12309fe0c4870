/- filter: outs as they lie; steps of held walks; Regular -/
import Derived.Test.YteeeikkapnchlaaDoorFilB
import Derived.Deep.RegionHeld
namespace Go.Proofs.YteeeikkapnchlaaDoor
set_option linter.unusedSimpArgs false
set_option linter.unusedVariables false
open Go.RowKit Go.Sort
section
variable {P : Program} {ops : Array Oper} {o : Oper} {a : Act} {w : World} {K : Act → World → Prop} {Q : Exit → Act → World → Prop} {E' : Prop} {t : TypeId}
theorem step_blk_alloc (hg : o.guard = none) (ho : o.op = .alloc t) {zs : Array Value} (hz : (P.info? t).map (·.zero) = some (some (.agg zs))) (b : Nat) (hb : w.heap.size = b)
    (h : K (a.put o.dst (.pointer (some ⟨b, 0, none⟩))) (w.alloc (.cells zs t))) : if Region.wanted o (yielded ops a.tmps) = true then Oper.wp P o a w K Q else E' := by
  subst hb
  rw [if_pos (by simp [Region.wanted, hg])]
  obtain ⟨i, hi, hz⟩ : ∃ i, P.info? t = some i ∧ i.zero = some (.agg zs) := by
    cases h : P.info? t with
    | none => rw [h] at hz; cases hz
    | some i => rw [h] at hz; simp at hz; exact ⟨i, rfl, hz⟩
  unfold Oper.wp
  simp [execOp, ho, Instr.alloc, zeroValue, typeInfo, hi, hz, newVar, newRow, Value.cells, Result.andThen]
  exact h
theorem step_blk_store (hg : o.guard = none) (x y : Operand) (ho : o.op = .store t x y) {b : Nat} (hx : a.eval x = .pointer (some ⟨b, 0, none⟩)) {t' : TypeId} {old cs : Array Value} (hy : a.eval y = .agg cs) (hb : BlkAt w b t' old)
    (hi : (P.info? t).map (·.size) = some cs.size) (hs : old.size = cs.size) (h1 : cs.all (·.oneCell') = true)
    (h : ∀ w', BlkAt w' b t' cs → Kp b w w' → w'.heap.size = w.heap.size → K (a.put o.dst undef) w') : if Region.wanted o (yielded ops a.tmps) = true then Oper.wp P o a w K Q else E' := by
  rw [if_pos (by simp [Region.wanted, hg])]
  exact wp_store_row t x y ho b cs hx hy t' old hb hi hs h1
    (h _ (setRow_heap w b _ _ t' (0, 0) hb) ⟨rfl, rfl, rfl, by simp, fun k _ hk => setRow_other w b k _ hk⟩ (size_setRow _ _ _))
theorem step_blk_put (hg : o.guard = none) (x y : Operand) (ho : o.op = .store t x y) {b p : Nat} (hx : a.eval x = .pointer (some ⟨b, p, none⟩)) {t' : TypeId} {old cs : Array Value} (hy : a.eval y = .agg cs) (hb : BlkAt w b t' old)
    (hi : (P.info? t).map (·.size) = some cs.size) (hs : p + cs.size ≤ old.size) (h1 : cs.all (·.oneCell') = true)
    (h : ∀ w', BlkAt w' b t' (setArr old p cs.toList) → Kp b w w' → w'.heap.size = w.heap.size → K (a.put o.dst undef) w') : if Region.wanted o (yielded ops a.tmps) = true then Oper.wp P o a w K Q else E' := by
  rw [if_pos (by simp [Region.wanted, hg])]
  exact wp_store_mid t x y ho b p cs hx hy (hb.there hs) hi h1 (h _ (hb.setCells _ _ _) (Kp.setCells _ _ _ (Kp.refl _ _)) (setCells_size _ _ _))
theorem step_map_update {b : Nat} {l : List (Int × Value)} {Kt E : TypeId} (hg : o.guard = none) (x ix v : Operand) (ho : o.op = .mapUpdate t x ix v) (ht : P.underlying t = some (.map Kt E)) (hk : P.underlying Kt = some (.int .i64)) (h : MapAt w b l) (hx : a.eval x = .map (some b)) {k : Int} (hix : a.eval ix = .int .i64 k) {u : Value} (hv : a.eval v = u) (hn : mGet l k = none)
    (hK : ∀ w', MapAt w' b (l ++ [(k, u)]) → Kp b w w' → w'.heap.size = w.heap.size → K (a.put o.dst undef) w') : if Region.wanted o (yielded ops a.tmps) = true then Oper.wp P o a w K Q else E' := by
  rw [if_pos (by simp [Region.wanted, hg])]
  obtain ⟨w', hrun, r1, r2, r3⟩ := h.run_update ht hk k u hn
  unfold Oper.wp
  simp [execOp, ho, hx, hix, hv, hrun, Result.andThen]
  exact hK w' r1 r2 r3
end
theorem Rd.lit1 {w : World} {e : TypeId} {cs : List Value} {sz b : Nat} (hb : b = w.heap.size) (hs : cs.length = sz) : Rd (w.alloc (.cells cs.toArray e)) sz (some ⟨b, 0, none⟩) 1 1 cs := by
  subst hb
  refine ⟨⟨by omega, Nat.le_refl _, by decide, fun h => by cases h⟩, .inr ⟨_, 0, rfl, by simp, fun j u' hu => ?_⟩⟩
  rw [World.cell?_alloc_at _ _ _ _ rfl]
  simpa using hu
/-- An out, without where it lies. -/
structure Ov where
  kind : Int
  it : Itm
  rc : Rc
  view : Vw
  cl : List Itm
structure Ow where
  kind : Int
  it : Iw
  rc : Rc
  ra : Option Addr
  rn : Nat
  rk : Nat
  view : Vw
  ca : Option Addr
  cn : Nat
  ck : Nat
  cl : List Iw
def Ow.v (o : Ow) : Ov := ⟨o.kind, o.it.v, o.rc, o.view, o.cl.map (·.v)⟩
def owC (o : Ow) : List Value := .int .i64 o.kind :: (iwC o.it ++ [.int .u64 o.rc.last.num, .int .u64 o.rc.last.ce, .int .i64 o.rc.last.cr, .int .u64 o.rc.last.mem, .slice o.ra o.rn o.rk, .int .u64 o.view.num, .int .u64 o.view.ce, .int .i64 o.view.cr, .int .u64 o.view.mem, .slice o.ca o.cn o.ck])
def owA (o : Ow) : Array Value := (owC o).toArray
def Ow.zero : Ow := ⟨0, .zero, ⟨.zero, []⟩, none, 0, 0, .zero, none, 0, 0, []⟩
theorem owC_len (o : Ow) : (owC o).length = 29 := rfl
theorem owC_one (o : Ow) : ∀ u ∈ owC o, u.oneCell' = true := by
  intro u hu
  simp only [owC, List.mem_cons, List.mem_append, List.not_mem_nil, or_false] at hu
  rcases hu with rfl | hu | rfl | rfl | rfl | rfl | rfl | rfl | rfl | rfl | rfl | rfl
  · rfl
  · exact iwC_one _ u hu
  all_goals rfl
theorem owA_one (o : Ow) : (owA o).all (·.oneCell') = true := by
  rw [owA, List.all_toArray, List.all_eq_true]
  exact owC_one o
theorem Tryd.owI (o : Ow) : (Tryd.prog.info? 47).map (·.size) = some (owA o).size := by show _ = some 29; kernel_rfl
theorem Tryd.owL (o : Ow) : (Tryd.prog.info? 47).map (·.size) = some (owC o).length := by show _ = some 29; kernel_rfl
theorem Tryd.owZ : (Tryd.prog.info? 47).map (·.zero) = some (some (.agg (owA .zero))) := by kernel_rfl
theorem Tryd.owE : Elt Tryd.prog 41 47 (.agg (owA .zero)) 29 280 := ⟨by kernel_rfl, by kernel_rfl, rfl, by decide⟩
/-- What an out leads to, read off the blocks of F. -/
structure OwF (F : Nat → Prop) (w : World) (o : Ow) : Prop where
  it : InF F w o.it
  iwf : o.it.v.Wf
  rd : RdF F w 4 o.ra o.rn o.rk (o.rc.pend.flatMap vwF)
  cl : RdF F w 18 o.ca o.cn o.ck (o.cl.flatMap iwC)
  cin : ∀ x ∈ o.cl, InF F w x
  few : o.cl.length ≤ 64
def RdO (F : Nat → Prop) (w : World) (a : Option Addr) (n c : Nat) (os : List Ow) : Prop := RdF F w 29 a n c (os.flatMap owC) ∧ ∀ o ∈ os, OwF F w o
section
variable {F F' O : Nat → Prop} {w w' : World} {o : Ow} {a : Option Addr} {n c : Nat} {os : List Ow}
theorem OwF.below (h : OwF F w o) (hb : Below w.heap.size w w') : OwF F w' o := ⟨h.it.below hb, h.iwf, h.rd.below hb, h.cl.below hb, fun x hx => (h.cin x hx).below hb, h.few⟩
theorem OwF.kpO (h : OwF F w o) (hk : KpO O w w') (hO : ∀ g, O g → F g) : OwF F w' o := ⟨h.it.kpO hk hO, h.iwf, h.rd.kpO hk hO, h.cl.kpO hk hO, fun x hx => (h.cin x hx).kpO hk hO, h.few⟩
theorem OwF.more (h : OwF F w o) (hF : ∀ g, F' g → F g ∨ w.heap.size ≤ g) : OwF F' w o := ⟨h.it.more hF, h.iwf, h.rd.more hF, h.cl.more hF, fun x hx => (h.cin x hx).more hF, h.few⟩
theorem RdO.below (h : RdO F w a n c os) (hb : Below w.heap.size w w') : RdO F w' a n c os := ⟨h.1.below hb, fun o ho => (h.2 o ho).below hb⟩
theorem RdO.kpO (h : RdO F w a n c os) (hk : KpO O w w') (hO : ∀ g, O g → F g) : RdO F w' a n c os := ⟨h.1.kpO hk hO, fun o ho => (h.2 o ho).kpO hk hO⟩
theorem RdO.more (h : RdO F w a n c os) (hF : ∀ g, F' g → F g ∨ w.heap.size ≤ g) : RdO F' w a n c os := ⟨h.1.more hF, fun o ho => (h.2 o ho).more hF⟩
theorem RdF.less {sz : Nat} {xs : List Value} (h : RdF F w sz a n c xs) (hF : ∀ g, F' g → F g) : RdF F' w sz a n c xs := ⟨h.1, fun hn g off e hf => h.2 hn g off e (hF g hf)⟩
theorem InF.less {x : Iw} (h : InF F w x) (hF : ∀ g, F' g → F g) : InF F' w x := RdF.less h hF
theorem OwF.less (h : OwF F w o) (hF : ∀ g, F' g → F g) : OwF F' w o := ⟨h.it.less hF, h.iwf, h.rd.less hF, h.cl.less hF, fun x hx => (h.cin x hx).less hF, h.few⟩
theorem RdO.less (h : RdO F w a n c os) (hF : ∀ g, F' g → F g) : RdO F' w a n c os := ⟨h.1.less hF, fun o ho => (h.2 o ho).less hF⟩
theorem RdO.len (h : RdO F w a n c os) : os.length = n := by
  have := h.1.1.length_eq
  rw [flatMap_len owC_len] at this
  omega
theorem RdO.nil : RdO F w none 0 0 [] := ⟨RdF.nil, fun o ho => by cases ho⟩
end
theorem Tryd.bldO (x : Iw) : Tryd.prog.built 47 [(0, .int .i64 1), (1, .agg (iwA x))] = some (owA ⟨1, x, ⟨.zero, []⟩, none, 0, 0, .zero, none, 0, 0, []⟩) := by kernel_rfl
def regS (s : Fs) (ce : Nat) (cr : Int) (mem : Nat) : Fs := ⟨s.rc, ce, cr, mem, true, false, [], none, 0⟩
def regO (s : Fs) (x : Itm) : Ov := ⟨1, { x with kind := 2, rc := s.rc }, ⟨.zero, []⟩, .zero, []⟩
def regW (s : Fw) (ce : Nat) (cr : Int) (mem m : Nat) : Fw := ⟨s.rc, s.ra, s.rn, s.rk, ce, cr, mem, true, false, some m, [], none, .zero, 0⟩
theorem Tryd.bldR (s : Fw) (ce : Nat) (cr : Int) (mem m : Nat) : Tryd.prog.built 71 [(0, .agg #[.int .u64 s.rc.last.num, .int .u64 s.rc.last.ce, .int .i64 s.rc.last.cr, .int .u64 s.rc.last.mem, .slice s.ra s.rn s.rk]), (1, .agg #[.int .u64 ce, .int .i64 cr]), (2, .int .u64 mem), (3, .bool true), (5, .map (some m))] = some (fwA (regW s ce cr mem m)) := by kernel_rfl
theorem Tryd.confI (a b : Int) : (Tryd.prog.info? 30).map (·.size) = some (#[Value.int .u64 a, .int .i64 b] : Array Value).size := by show _ = some 2; kernel_rfl
theorem Tryd.confL (a b : Int) : (Tryd.prog.info? 30).map (·.size) = some [Value.int .u64 a, .int .i64 b].length := by show _ = some 2; kernel_rfl
theorem Tryd.recL (v : Vw) (x : Value) : (Tryd.prog.info? 38).map (·.size) = some [.int .u64 v.num, .int .u64 v.ce, .int .i64 v.cr, .int .u64 v.mem, x].length := by show _ = some 5; kernel_rfl
set_option maxHeartbeats 3200000 in
set_option maxRecDepth 100000 in
theorem regular_any {F : Nat → Prop} (s : Fw) (b : Nat) (x : Iw) (ce : Nat) (cr : Int) (mem : Nat) (hmem : mem < 18446744073709551616) (hxw : x.v.view.Wf) (w : World) (hF : ∀ g, F g → g < w.heap.size) (h : FAt F w b s) :
    Calls Tryd.prog 10 #[.pointer (some ⟨b, 0, none⟩), .agg #[.int .u64 ce, .int .i64 cr], .int .u64 mem, .agg (iwA x)] w fun e w' => ∃ s' m a c o, e = .returned (.slice a 1 c) ∧ FAt (fun g => F g ∨ g = m) w' b s' ∧ s'.s = regS s.s ce cr mem ∧ w.heap.size ≤ m ∧ s'.mb = some m ∧ RdO (fun g => F g ∨ g = m) w' a 1 c [o] ∧ o.v = regO s.s x.v ∧ (∀ g off, a = some ⟨g, off, none⟩ → w.heap.size ≤ g) ∧ KpO (OwnF b none) w w' := by
  have hmm := @run_makeMap Tryd.prog
  have hlb := h.blk.lt
  have hC := BlkAt.new w 30 #[.int .u64 ce, .int .i64 cr]
  have hb1 := alloc_below w (.cells #[.int .u64 ce, .int .i64 cr] 30)
  have hsz1 : (w.alloc (.cells #[.int .u64 ce, .int .i64 cr] 30)).heap.size = w.heap.size + 1 := by simp
  obtain ⟨w1, hw1⟩ : ∃ z, z = w.alloc (.cells #[.int .u64 ce, .int .i64 cr] 30) := ⟨_, rfl⟩
  rw [← hw1] at hC hb1 hsz1
  have hI := BlkAt.new w1 45 (iwA x)
  have hb2 := alloc_below w1 (.cells (iwA x) 45)
  have hsz2 : (w1.alloc (.cells (iwA x) 45)).heap.size = w.heap.size + 2 := by simp [hsz1]
  rw [hsz1] at hI
  have hC2 := hC.below hb2 hC.lt
  obtain ⟨w2, hw2⟩ : ∃ z, z = w1.alloc (.cells (iwA x) 45) := ⟨_, rfl⟩
  rw [← hw2] at hI hb2 hsz2 hC2
  have hB2 := belS hb1 hb2
  have h2 := h.below hB2
  replace hw1 := Lib.hid hw1
  replace hw2 := Lib.hid hw2
  clear hC hb1 hb2
  have hcI := Tryd.confL ce cr
  have hrI := Tryd.recL s.rc.last (.slice s.ra s.rn s.rk)
  go_enter Tryd.func10, Tryd.ntmps10
  go_wp2_with (first
    | (refine wpList_blk_box rfl (.tmp 1) rfl rfl w.heap.size rfl ?_; rw [← hw1.out])
    | (refine wpList_blk_box rfl (.tmp 3) rfl rfl (w.heap.size + 1) hsz1 ?_; rw [← hw2.out]))
  have hSt : Hid (∀ W, Below w2.heap.size w2 W → W.rangeAt b 0 [.int .u64 s.rc.last.num, .int .u64 s.rc.last.ce, .int .i64 s.rc.last.cr, .int .u64 s.rc.last.mem, .slice s.ra s.rn s.rk] ∧ W.rangeAt w.heap.size 0 [.int .u64 ce, .int .i64 cr]) := Lib.hid (fun W hb => ⟨(h2.below hb).blk.range (fwA_rec s), (hC2.below hb hC2.lt).range (fun j u hj => by rw [Nat.zero_add]; simpa using hj)⟩)
  have hb0 := (Below.refl w2.heap.size w2).drew
  refine wp_region_held_drew (S := fun W => W.rangeAt b 0 [.int .u64 s.rc.last.num, .int .u64 s.rc.last.ce, .int .i64 s.rc.last.cr, .int .u64 s.rc.last.mem, .slice s.ra s.rn s.rk] ∧ W.rangeAt w.heap.size 0 [.int .u64 ce, .int .i64 cr]) (by kernel_rfl) (hSt.out _ hb0) ?_
  intro hHeld
  (refine wpAnyH_take (i := 0) (v := ?_) rfl (by kernel_rfl) (by kernel_rfl) (by kernel_rfl) (fun _ _ _ h => h) (Or.inl ⟨by rfl, ?_⟩) (by assumption) ?_; rotate_left; (focus (intro w hSw; clear hSw; go_simp; (try with_reducible rfl))); (try simp only [Act.put, List.getElem_toArray, List.getElem_cons_zero, List.getElem_cons_succ, List.setIfInBounds_toArray, List.set_cons_zero, List.set_cons_succ]))
  (refine wpAnyH_take (i := 1) (v := ?_) rfl (by kernel_rfl) (by kernel_rfl) (by kernel_rfl) (fun _ _ _ h => h) (Or.inl ⟨by rfl, ?_⟩) (by assumption) ?_; rotate_left; (focus (intro w hSw; clear hSw; go_simp; (try with_reducible rfl))); (try simp only [Act.put, List.getElem_toArray, List.getElem_cons_zero, List.getElem_cons_succ, List.setIfInBounds_toArray, List.set_cons_zero, List.set_cons_succ]))
  (refine wpAnyH_take (i := 2) (v := ?_) rfl (by kernel_rfl) (by kernel_rfl) (by kernel_rfl) (fun _ _ _ h => h) (Or.inl ⟨by rfl, ?_⟩) (by assumption) ?_; rotate_left; (focus (intro w hSw; clear hSw; go_simp; (try with_reducible rfl))); (try simp only [Act.put, List.getElem_toArray, List.getElem_cons_zero, List.getElem_cons_succ, List.setIfInBounds_toArray, List.set_cons_zero, List.set_cons_succ]))
  (refine wpAnyH_take (i := 3) (v := ?_) rfl (by kernel_rfl) (by kernel_rfl) (by kernel_rfl) (fun _ _ _ h => h) (Or.inl ⟨by rfl, ?_⟩) (by assumption) ?_; rotate_left; (focus (intro w hSw; clear hSw; go_simp; (try with_reducible rfl))); (try simp only [Act.put, List.getElem_toArray, List.getElem_cons_zero, List.getElem_cons_succ, List.setIfInBounds_toArray, List.set_cons_zero, List.set_cons_succ]))
  (refine wpAnyH_take (i := 4) (v := .agg #[.int .u64 s.rc.last.num, .int .u64 s.rc.last.ce, .int .i64 s.rc.last.cr, .int .u64 s.rc.last.mem, .slice s.ra s.rn s.rk]) rfl (by kernel_rfl) (by kernel_rfl) (by kernel_rfl) (fun _ _ _ h => h) (yieldsIf_load_mid (by rfl) 38 (.tmp 12) rfl b 0 rfl [.int .u64 s.rc.last.num, .int .u64 s.rc.last.ce, .int .i64 s.rc.last.cr, .int .u64 s.rc.last.mem, .slice s.ra s.rn s.rk] _ (fun W hW => hW.1) Tryd.underlying38 rfl hrI) (by assumption) ?_; (try simp only [Act.put, List.getElem_toArray, List.getElem_cons_zero, List.getElem_cons_succ, List.setIfInBounds_toArray, List.set_cons_zero, List.set_cons_succ]))
  (refine wpAnyH_take (i := 5) (v := .agg #[.int .u64 ce, .int .i64 cr]) rfl (by kernel_rfl) (by kernel_rfl) (by kernel_rfl) (fun _ _ _ h => h) (yieldsIf_load_mid (by rfl) 30 (.tmp 5) rfl w.heap.size 0 rfl [.int .u64 ce, .int .i64 cr] _ (fun W hW => hW.2) Tryd.underlying30 rfl hcI) (by assumption) ?_; (try simp only [Act.put, List.getElem_toArray, List.getElem_cons_zero, List.getElem_cons_succ, List.setIfInBounds_toArray, List.set_cons_zero, List.set_cons_succ]))
  (refine wpAnyH_take (i := 6) (v := ?_) rfl (by kernel_rfl) (by kernel_rfl) (by kernel_rfl) (fun _ _ _ h => h) (Or.inl ⟨by rfl, ?_⟩) (by assumption) ?_; rotate_left; (focus (intro w hSw; clear hSw; go_simp; (try with_reducible rfl))); (try simp only [Act.put, List.getElem_toArray, List.getElem_cons_zero, List.getElem_cons_succ, List.setIfInBounds_toArray, List.set_cons_zero, List.set_cons_succ]))
  (refine wpAnyH_ready (rs := [7]) (by kernel_rfl) (by simp) ?_; refine AllReadyH.cons rfl (fun K hK => ?_) AllReadyH.nil)
  go_simp
  have hM3 : MapAt (w2.alloc (.map #[] 0)).drew (w.heap.size + 2) [] := by have := (MapAt.new w2).drew; rw [hsz2] at this; exact this
  have hb3 : Below w2.heap.size w2 (w2.alloc (.map #[] 0)).drew := (alloc_below w2 (.map #[] 0)).drew
  have hsz3 : (w2.alloc (.map #[] 0)).drew.heap.size = w.heap.size + 3 := by show (w2.alloc (.map #[] 0)).heap.size = _; simp [hsz2]
  generalize (w2.alloc (.map #[] 0)).drew = w3 at *
  have h3 := h2.below hb3
  have hI3 := hI.below hb3 hI.lt
  have hB3 := belS hB2 hb3
  refine hK.out _ _ (hSt.out _ hb3) (fun hHeld => ?_)
  clear hK K
  (refine wpAnyH_take (i := 8) (v := .agg (fwA (regW s ce cr mem (w.heap.size + 2)))) rfl (by kernel_rfl) (by kernel_rfl) (by kernel_rfl) (fun _ _ _ h => h) (yieldsIf_build (by rfl) 71 #[(0, .tmp 13), (1, .tmp 14), (2, .tmp 15), (3, .const (.bool true)), (5, .tmp 16)] rfl (by rw [List.map_toArray]; exact Tryd.bldR s ce cr mem (w.heap.size + 2))) (by assumption) ?_; (try simp only [Act.put, List.getElem_toArray, List.getElem_cons_zero, List.getElem_cons_succ, List.setIfInBounds_toArray, List.set_cons_zero, List.set_cons_succ]))
  (refine wpAnyH_take (i := 9) (v := ?_) rfl (by kernel_rfl) (by kernel_rfl) (by kernel_rfl) (fun _ _ _ h => h) (Or.inl ⟨by rfl, ?_⟩) (by assumption) ?_; rotate_left; (focus (intro w hSw; clear hSw; go_simp; (try with_reducible rfl))); (try simp only [Act.put, List.getElem_toArray, List.getElem_cons_zero, List.getElem_cons_succ, List.setIfInBounds_toArray, List.set_cons_zero, List.set_cons_succ]))
  (refine wpAnyH_ready (rs := [10]) (by kernel_rfl) (by simp) ?_; refine AllReadyH.cons rfl (fun K hK => ?_) AllReadyH.nil)
  refine step_blk_store rfl (.tmp 18) (.tmp 17) rfl (b := b) rfl (cs := fwA (regW s ce cr mem (w.heap.size + 2))) rfl h3.blk (Tryd.fwI _) rfl (fwA_one _) (fun w4 hB4 hK4 hs4 => ?_)
  (try simp only [Act.put, List.getElem_toArray, List.getElem_cons_zero, List.getElem_cons_succ, List.setIfInBounds_toArray, List.set_cons_zero, List.set_cons_succ])
  refine hK.out _ _ ⟨hB4.range (fwA_rec (regW s ce cr mem (w.heap.size + 2))), ?_⟩ (fun hHeld => ?_)
  · exact (hK4.blk (hC2.below hb3 hC2.lt) (by omega)).range (fun j u hj => by rw [Nat.zero_add]; simpa using hj)
  clear hK K
  refine wpAnyH_done (by kernel_rfl) ?_ _
  have hO4 : KpO (fun g => g = b) w3 w4 := KpO.ofKp hK4 rfl
  have h4 : FAt (fun g => (F g ∨ g = w.heap.size + 2) ∨ g = w.heap.size + 1) w4 b (regW s ce cr mem (w.heap.size + 2)) := by
    refine ⟨hB4, fun m e => ?_, (fun e => by cases e), ?_, (fun p hp => by cases hp), (fun t e => by cases e), .inl (.inl h.own), ⟨hmem, by show 0 < 18446744073709551616; decide, h.ok.rc, (fun p hp => by cases hp), vz_wf⟩⟩
    · obtain rfl : w.heap.size + 2 = m := by injection e
      exact ⟨hM3.kp hK4 (by omega), .inl (.inr rfl)⟩
    · exact ((h.rd.more (F' := fun g => (F g ∨ g = w.heap.size + 2) ∨ g = w.heap.size + 1) (fun g hg => hg.elim (fun hg => hg.elim .inl (fun e => .inr (by omega))) (fun e => .inr (by omega)))).below hB3).kpO hO4 (fun g e => e ▸ .inl (.inl h.own))
  have hI4 := hK4.blk hI3 (by omega)
  have hF4 : ∀ g, (F g ∨ g = w.heap.size + 2) ∨ g = w.heap.size + 1 → g < w4.heap.size := fun g hg => by
    rcases hg with (hg | hg) | hg
    · have := hF g hg
      omega
    · omega
    · omega
  have hk4 : KpO (OwnF b none) w w4 := (KpO.ofBelow hB3).trans hO4 (fun g e => .inl (.inl e))
  have hs4' : w.heap.size + 3 = w4.heap.size := by omega
  have hn4 := h4.ok.rc.2
  have hl4 := h4.len
  clear hHeld hK4 hO4 hb0 hSt h3 hI3 hM3 hb3 hB3 h2 hI hC2 hB2
  go_wp2_with (first
    | (refine wpList_blk_get (cs := #[.int .u64 s.rc.last.num, .int .u64 s.rc.last.ce, .int .i64 s.rc.last.cr, .int .u64 s.rc.last.mem, .slice s.ra s.rn s.rk]) rfl (.tmp 21) rfl rfl h4.blk Tryd.underlying38 rfl Tryd.recI (fwA_rec (regW s ce cr mem (w.heap.size + 2))) ?_))
  refine (own_any s.rc.last s.ra s.rn s.rk s.rc.pend (Nat.le_trans (Nat.le_of_eq hl4.symm) (Nat.le_trans hn4 (by decide))) _ h4.rd.1).mono ?_
  rintro e w5 ⟨oa, oc, rfl, hr5, hb5, hge⟩
  have h5 := h4.below hb5
  have hI5 := hI4.below hb5 hI4.lt
  have f5 := hI5.fz 0
  have c5 : w5.cell? ⟨w.heap.size + 1, 0, none⟩ = some (.int .i64 x.v.kind) := hI5.cell rfl
  have hI6 : BlkAt (w5.setCell ⟨w.heap.size + 1, 0, none⟩ (.int .i64 2)) (w.heap.size + 1) 45 (iwA ⟨{ x.v with kind := 2 }, x.pa, x.pn, x.pc⟩) := hI5.set 0 (.int .i64 2)
  have hK6 := (Kp.refl (w.heap.size + 1) w5).setCell ⟨w.heap.size + 1, 0, none⟩ rfl (.int .i64 2)
  go_wp2_with (first
    | (refine wpList_blk_put (cs := #[.int .u64 s.rc.last.num, .int .u64 s.rc.last.ce, .int .i64 s.rc.last.cr, .int .u64 s.rc.last.mem, .slice oa s.rn oc]) rfl (.tmp 25) (.tmp 23) rfl rfl rfl hI6 Tryd.recI (by show 6 + 5 ≤ 18; decide) (by simp [Value.oneCell']) ?_; intro w7 hI7 hK7 hs7)
    | (refine wpList_blk_load rfl (.tmp 7) rfl Tryd.underlying45 rfl rfl hI7 (Tryd.iwI ⟨{ x.v with kind := 2, rc := s.rc }, oa, s.rn, oc⟩) ?_)
    | (refine wpList_blk_build (cs := owA ⟨1, ⟨{ x.v with kind := 2, rc := s.rc }, oa, s.rn, oc⟩, ⟨.zero, []⟩, none, 0, 0, .zero, none, 0, 0, []⟩) rfl #[(0, .const (.int .i64 1)), (1, .tmp 26)] rfl (by rw [List.map_toArray]; exact Tryd.bldO ⟨{ x.v with kind := 2, rc := s.rc }, oa, s.rn, oc⟩) ?_)
    | (refine wpList_buildSlice1 rfl 41 47 (.tmp 27) rfl Tryd.owE (by decide) rfl rfl ?_))
  go_ret
  have hsz7 : w7.heap.size = w5.heap.size := by simpa using hs7
  have hO7 : KpO (fun g => g = w.heap.size + 1) w5 w7 := KpO.ofKp (hK6.trans hK7) rfl
  have hOF : ∀ g, g = w.heap.size + 1 → ((F g ∨ g = w.heap.size + 2) ∨ g = w.heap.size + 1) := fun g e => .inr e
  have h7 := h5.kpO hO7 hOF (by omega) (fun m e => by injection e with e; omega)
  have hb8 := alloc_below w7 (.cells (owA ⟨1, ⟨{ x.v with kind := 2, rc := s.rc }, oa, s.rn, oc⟩, ⟨.zero, []⟩, none, 0, 0, .zero, none, 0, 0, []⟩) 47)
  have hX : RdF (fun g => (F g ∨ g = w.heap.size + 2) ∨ g = w.heap.size + 1) w5 4 oa s.rn oc (s.rc.pend.flatMap vwF) := ⟨hr5, Off.fresh hge hF4⟩
  have h5b := hb5.size
  refine ⟨regW s ce cr mem (w.heap.size + 2), w.heap.size + 2, some ⟨w5.heap.size, 0, none⟩, 1, rfl, (h7.below hb8).less (fun g hg => .inl hg) (.inl h.own) (fun m e => by injection e with e; exact .inr e.symm), rfl, by omega, rfl, ⟨1, ⟨{ x.v with kind := 2, rc := s.rc }, oa, s.rn, oc⟩, ⟨.zero, []⟩, none, 0, 0, .zero, none, 0, 0, []⟩, RdO.less (F := fun g => (F g ∨ g = w.heap.size + 2) ∨ g = w.heap.size + 1) ⟨⟨?_, fun _ g off e hg => ?_⟩, fun o ho => ?_⟩ (fun g hg => .inl hg), rfl, fun g off e => ?_, ?_⟩
  · rw [List.flatMap_cons, List.flatMap_nil, List.append_nil, ← hsz7]
    exact Rd.lit1 rfl rfl
  · have := hF4 g hg
    injection e with e
    injection e with e
    omega
  · obtain rfl := List.mem_singleton.1 ho
    exact ⟨(hX.kpO hO7 hOF).below hb8, ⟨h.ok.rc.1, hxw, h.ok.rc.2⟩, RdF.nil, RdF.nil, (fun x hx => by cases hx), Nat.zero_le _⟩
  · injection e with e
    injection e with e
    omega
  · refine (hk4.trans (KpO.ofBelow (O := fun g => False) hb5) (fun g hg => hg.elim)).trans (hO7.trans (KpO.ofBelow (O := fun g => False) hb8) (fun g hg => hg.elim)) (fun g hg => .inr (by omega))
end Go.Proofs.YteeeikkapnchlaaDoor
