/- names: the statements' Item: a claim as the document has it -/
import Derived.Test.YtcgfpolklfhppaaDoorNameKa
import Derived.Test.YtcgfpolklfhppaaDoorNameM
import Derived.Test.YtcgfpolklfhppaaDoorPut
import Derived.Test.YtcgfpolklfhppaaDoorHeld
import Derived.Deep.MidRow
namespace Go.Proofs.YtcgfpolklfhppaaDoor
open Go.RowKit Go.Sort

/-- A claim's cells are of the types that they should be. -/
def It.Ty (x : It) : Prop := ∃ (k : Int) (D : ByteArray) (i h : Int) (b1 b2 : Bool) (v0 v1 v2 v3 : Int) (a : Option Addr) (n c : Nat) (u0 u1 u2 u3 nu ix tt : Int), x.cs = [.int .i64 k, .string D, .int .u32 i, .int .u64 h, .bool b1, .bool b2, .int .u64 v0, .int .u64 v1, .int .i64 v2, .int .u64 v3, .slice a n c, .int .u64 u0, .int .u64 u1, .int .i64 u2, .int .u64 u3, .int .u64 nu, .int .i64 ix, .int .i64 tt]
theorem RItem.ty {w : World} {cs : List Value} {x} (h : RItem w cs x) : ∃ y : It, y.cs = cs ∧ (y.Wf ∧ y.Ty) := by
  obtain ⟨y, e, hy⟩ := h.it
  refine ⟨y, e, hy, ?_⟩
  obtain ⟨k, s, inc, ho, ha, dr, rc, vw, nr, ix, tl⟩ := x
  obtain ⟨_, _, rfl, ⟨rfl, _⟩, _, _, rfl, ⟨rfl, _⟩, _, _, rfl, ⟨rfl, fi⟩, _, _, rfl, ⟨rfl, fh⟩, _, _, rfl, rfl, _, _, rfl, rfl, _, _, rfl, ⟨cv, cp, rfl, hv, pa, pn, pc, rfl, _⟩, _, _, rfl, hw, _, _, rfl, ⟨rfl, _⟩, _, _, rfl, ⟨rfl, _⟩, rfl, _⟩ := h
  rw [hv.cells, hw.cells] at e
  exact ⟨_, _, _, _, _, _, _, _, _, _, _, _, _, _, _, _, _, _, _, _, e⟩
theorem get4 {x0 x1 x2 x3 : Value} {old : Array Value} {p : Nat} (h0 : old[p]? = some x0) (h1 : old[p + 1]? = some x1) (h2 : old[p + 2]? = some x2) (h3 : old[p + 3]? = some x3) : ∀ j v, (#[x0, x1, x2, x3] : Array Value).toList[j]? = some v → old[p + j]? = some v := by
  intro j v hj
  match j, hj with
  | 0, hj => cases hj; exact h0
  | 1, hj => cases hj; exact h1
  | 2, hj => cases hj; exact h2
  | 3, hj => cases hj; exact h3
  | j + 4, hj => simp at hj
theorem get5 {x0 x1 x2 x3 x4 : Value} {old : Array Value} {p : Nat} (h0 : old[p]? = some x0) (h1 : old[p + 1]? = some x1) (h2 : old[p + 2]? = some x2) (h3 : old[p + 3]? = some x3) (h4 : old[p + 4]? = some x4) : ∀ j v, (#[x0, x1, x2, x3, x4] : Array Value).toList[j]? = some v → old[p + j]? = some v := by
  intro j v hj
  match j, hj with
  | 0, hj => cases hj; exact h0
  | 1, hj => cases hj; exact h1
  | 2, hj => cases hj; exact h2
  | 3, hj => cases hj; exact h3
  | 4, hj => cases hj; exact h4
  | j + 5, hj => simp at hj
theorem Tryd.nviewI (v0 v1 v2 v3 : Int) : (Tryd.prog.info? 43).map (·.size) = some (#[.int .u64 v0, .int .u64 v1, .int .i64 v2, .int .u64 v3] : Array Value).size := by show _ = some 4; kernel_rfl
theorem Tryd.nrecI (v0 v1 v2 v3 : Int) (x : Value) : (Tryd.prog.info? 46).map (·.size) = some (#[.int .u64 v0, .int .u64 v1, .int .i64 v2, .int .u64 v3, x] : Array Value).size := by show _ = some 5; kernel_rfl
theorem Tryd.nrrZ : (Tryd.prog.info? 57).map (·.zero) = some (some (.agg #[.int .u64 0, .int .u64 0, .int .i64 0, .int .u64 0, .slice none 0 0])) := by kernel_rfl
theorem Tryd.nrrI (v0 v1 v2 v3 : Int) (x : Value) : (Tryd.prog.info? 57).map (·.size) = some (#[.int .u64 v0, .int .u64 v1, .int .i64 v2, .int .u64 v3, x] : Array Value).size := by show _ = some 5; kernel_rfl
theorem Tryd.nrrB (v0 v1 v2 v3 : Int) (a : Option Addr) (n c : Nat) : Tryd.prog.built 57 [(0, .agg #[.int .u64 v0, .int .u64 v1, .int .i64 v2, .int .u64 v3]), (1, .slice a n c)] = some #[.int .u64 v0, .int .u64 v1, .int .i64 v2, .int .u64 v3, .slice a n c] := by kernel_rfl
set_option maxHeartbeats 1600000 in
set_option maxRecDepth 100000 in
theorem nrec_any (v0 v1 v2 v3 : Int) (a : Option Addr) (n c : Nat) (w : World) : Calls Tryd.prog 35 #[.agg #[.int .u64 v0, .int .u64 v1, .int .i64 v2, .int .u64 v3, .slice a n c]] w fun e w' => e = .returned (.agg #[.int .u64 v0, .int .u64 v1, .int .i64 v2, .int .u64 v3, .slice a n c]) ∧ Below w.heap.size w w' := by
  have BA := (BlkAt.new w 46 #[.int .u64 v0, .int .u64 v1, .int .i64 v2, .int .u64 v3, .slice a n c]).alloc (.cells #[.int .u64 0, .int .u64 0, .int .i64 0, .int .u64 0, .slice none 0 0] 57)
  have BR : BlkAt ((w.alloc (.cells #[.int .u64 v0, .int .u64 v1, .int .i64 v2, .int .u64 v3, .slice a n c] 46)).alloc (.cells #[.int .u64 0, .int .u64 0, .int .i64 0, .int .u64 0, .slice none 0 0] 57)) (w.heap.size + 1) 57 #[.int .u64 0, .int .u64 0, .int .i64 0, .int .u64 0, .slice none 0 0] := by
    have := BlkAt.new (w.alloc (.cells #[.int .u64 v0, .int .u64 v1, .int .i64 v2, .int .u64 v3, .slice a n c] 46)) 57 #[.int .u64 0, .int .u64 0, .int .i64 0, .int .u64 0, .slice none 0 0]
    simpa using this
  have E : Below w.heap.size w ((w.alloc (.cells #[.int .u64 v0, .int .u64 v1, .int .i64 v2, .int .u64 v3, .slice a n c] 46)).alloc (.cells #[.int .u64 0, .int .u64 0, .int .i64 0, .int .u64 0, .slice none 0 0] 57)) := ((Below.refl _ _).alloc (Nat.le_refl _) _).alloc (by simp) _
  have c4 := BA.cell (i := 4) rfl
  go_enter Tryd.func35, Tryd.ntmps35
  go_wp2_with (first
    | (refine wpList_blk_box rfl (.tmp 0) rfl rfl w.heap.size rfl ?_)
    | (refine wpList_blk_alloc rfl rfl Tryd.nrrZ (w.heap.size + 1) (by simp) ?_)
    | (refine wpList_blk_get (cs := #[.int .u64 v0, .int .u64 v1, .int .i64 v2, .int .u64 v3]) rfl (.tmp 3) rfl rfl BA Tryd.underlying43 rfl (Tryd.nviewI v0 v1 v2 v3) (get4 rfl rfl rfl rfl) ?_)
    | (refine wpList_blk_build rfl #[(0, .tmp 4), (1, .tmp 6)] rfl (by rw [List.map_toArray]; exact Tryd.nrrB v0 v1 v2 v3 _ _ _) ?_)
    | (refine wpList_blk_store rfl (.tmp 2) (.tmp 7) rfl rfl rfl BR (Tryd.nrrI v0 v1 v2 v3 _) rfl (by simp [Value.oneCell']) ?_; intro w4 hB4 hK4 hs4))
  exact bodyPost_ret (results_cell_row rfl _ _ (w.heap.size + 1) 57 _ (0, 0) _ rfl hB4 Tryd.underlying57 rfl (Tryd.nrrI v0 v1 v2 v3 _)) rfl ⟨rfl, Kp.below E hK4 (by omega) E.size⟩
theorem step_build_to {P : Program} {w : World} {ops : Array Oper} {o : Oper} {a : Act} {K : Act → World → Prop} {Q : Exit → Act → World → Prop} {E' : Prop} (d : Option Tmp) (hd : o.dst = d) (hgd : o.guard = none) (t : TypeId) (parts : Array (Nat × Operand)) (ho : o.op = .build t parts) {cs : Array Value}
    (hf : P.built t (parts.map fun (i, x) => (i, a.eval x)).toList = some cs) (h : K (a.put d (.agg cs)) w) : if Region.wanted o (yielded ops a.tmps) = true then Oper.wp P o a w K Q else E' :=
  step_build hgd t parts ho hf (by rw [hd]; exact h)
theorem step_blk_store {P : Program} {w : World} {ops : Array Oper} {o : Oper} {a : Act} {K : Act → World → Prop} {Q : Exit → Act → World → Prop} {E' : Prop} {t : TypeId} (d : Option Tmp) (hd : o.dst = d) (hgd : o.guard = none) (x y : Operand) (ho : o.op = .store t x y) {b : Nat} (hx : a.eval x = .pointer (some ⟨b, 0, none⟩)) {t' : TypeId} {old cs : Array Value} (hy : a.eval y = .agg cs) (hb : BlkAt w b t' old)
    (hi : (P.info? t).map (·.size) = some cs.size) (hs : old.size = cs.size) (h1 : cs.all (·.oneCell') = true)
    (h : ∀ w', BlkAt w' b t' cs → Kp b w w' → w'.heap.size = w.heap.size → K (a.put d undef) w') : if Region.wanted o (yielded ops a.tmps) = true then Oper.wp P o a w K Q else E' := by
  subst hd
  rw [if_pos (by simp [Region.wanted, hgd])]
  exact wp_store_row t x y ho b cs hx hy t' old hb hi hs h1 (h _ (setRow_heap w b _ _ t' (0, 0) hb) ⟨rfl, rfl, rfl, by simp, fun k _ hk => setRow_other w b k _ hk⟩ (size_setRow _ _ _))
theorem Tryd.nriZ : (Tryd.prog.info? 59).map (·.zero) = some (some (.agg zIt.cs.toArray)) := by kernel_rfl
theorem Tryd.nriI : (Tryd.prog.info? 59).map (·.size) = some 18 := by kernel_rfl
theorem Tryd.nriB (k : Int) (D : ByteArray) (i h : Int) (b1 b2 : Bool) (v0 v1 v2 v3 : Int) (a : Option Addr) (n c : Nat) (u0 u1 u2 u3 nu ix tt : Int) : Tryd.prog.built 59 [(0, .int .i64 k), (1, .string D), (2, .int .u32 i), (3, .int .u64 h), (4, .bool b1), (5, .bool b2), (6, .agg #[.int .u64 v0, .int .u64 v1, .int .i64 v2, .int .u64 v3, .slice a n c]), (7, .agg #[.int .u64 u0, .int .u64 u1, .int .i64 u2, .int .u64 u3]), (8, .int .u64 nu), (9, .int .i64 ix), (10, .int .i64 tt)] = some #[.int .i64 k, .string D, .int .u32 i, .int .u64 h, .bool b1, .bool b2, .int .u64 v0, .int .u64 v1, .int .i64 v2, .int .u64 v3, .slice a n c, .int .u64 u0, .int .u64 u1, .int .i64 u2, .int .u64 u3, .int .u64 nu, .int .i64 ix, .int .i64 tt] := by kernel_rfl
set_option maxHeartbeats 3200000 in
set_option maxRecDepth 100000 in
theorem nitem_walk (k : Int) (D : ByteArray) (i h : Int) (b1 b2 : Bool) (v0 v1 v2 v3 : Int) (a : Option Addr) (n c : Nat) (u0 u1 u2 u3 nu ix tt : Int) (cs z : Array Value) (hcs : cs = #[.int .i64 k, .string D, .int .u32 i, .int .u64 h, .bool b1, .bool b2, .int .u64 v0, .int .u64 v1, .int .i64 v2, .int .u64 v3, .slice a n c, .int .u64 u0, .int .u64 u1, .int .i64 u2, .int .u64 u3, .int .u64 nu, .int .i64 ix, .int .i64 tt]) (hz : z = zIt.cs.toArray) (w : World) :
    Calls Tryd.prog 22 #[.agg cs] w fun e w' => e = .returned (.agg cs) ∧ Below w.heap.size w w' := by
  have h0 := Lib.hid (show cs[0]? = some (.int .i64 k) from by rw [hcs]; rfl)
  have h1 := Lib.hid (show cs[1]? = some (.string D) from by rw [hcs]; rfl)
  have h2 := Lib.hid (show cs[2]? = some (.int .u32 i) from by rw [hcs]; rfl)
  have h3 := Lib.hid (show cs[3]? = some (.int .u64 h) from by rw [hcs]; rfl)
  have h4 := Lib.hid (show cs[4]? = some (.bool b1) from by rw [hcs]; rfl)
  have h5 := Lib.hid (show cs[5]? = some (.bool b2) from by rw [hcs]; rfl)
  have h15 := Lib.hid (show cs[15]? = some (.int .u64 nu) from by rw [hcs]; rfl)
  have h16 := Lib.hid (show cs[16]? = some (.int .i64 ix) from by rw [hcs]; rfl)
  have h17 := Lib.hid (show cs[17]? = some (.int .i64 tt) from by rw [hcs]; rfl)
  have h6 := Lib.hid (show ∀ j x, (#[.int .u64 v0, .int .u64 v1, .int .i64 v2, .int .u64 v3, .slice a n c] : Array Value).toList[j]? = some x → cs[6 + j]? = some x from by rw [hcs]; exact get5 rfl rfl rfl rfl rfl)
  have h11 := Lib.hid (show ∀ j x, (#[.int .u64 u0, .int .u64 u1, .int .i64 u2, .int .u64 u3] : Array Value).toList[j]? = some x → cs[11 + j]? = some x from by rw [hcs]; exact get4 rfl rfl rfl rfl)
  have hsz : cs.size = 18 := by rw [hcs]; rfl
  have hone : cs.all (·.oneCell') = true := by rw [hcs]; simp [Value.oneCell']
  have hZ : (Tryd.prog.info? 59).map (·.zero) = some (some (.agg z)) := by rw [hz]; exact Tryd.nriZ
  have hzs : z.size = 18 := by rw [hz]; rfl
  have hBd := Lib.hid (show Tryd.prog.built 59 [(0, .int .i64 k), (1, .string D), (2, .int .u32 i), (3, .int .u64 h), (4, .bool b1), (5, .bool b2), (6, .agg #[.int .u64 v0, .int .u64 v1, .int .i64 v2, .int .u64 v3, .slice a n c]), (7, .agg #[.int .u64 u0, .int .u64 u1, .int .i64 u2, .int .u64 u3]), (8, .int .u64 nu), (9, .int .i64 ix), (10, .int .i64 tt)] = some cs from by rw [hcs]; exact Tryd.nriB k D i h b1 b2 v0 v1 v2 v3 a n c u0 u1 u2 u3 nu ix tt)
  obtain ⟨wS, hwS⟩ : ∃ wS, wS = (w.alloc (.cells cs 48)).alloc (.cells z 59) := ⟨_, rfl⟩
  have E : Below w.heap.size w wS := by rw [hwS]; exact ((Below.refl _ _).alloc (Nat.le_refl _) _).alloc (by simp) _
  have BA : BlkAt wS w.heap.size 48 cs := by rw [hwS]; exact (BlkAt.new w _ _).alloc _
  have BR : BlkAt wS (w.heap.size + 1) 59 z := by
    rw [hwS]
    have := BlkAt.new (w.alloc (.cells cs 48)) 59 z
    simpa using this
  have HR := Lib.hid (fun W => nrec_any v0 v1 v2 v3 a n c W)
  replace hwS := Lib.hid hwS
  clear hcs hz
  replace hsz := Lib.hid hsz
  replace hone := Lib.hid hone
  replace hzs := Lib.hid hzs
  replace hZ := Lib.hid hZ
  go_enter Tryd.func22, Tryd.ntmps22
  go_wp2_with (first
    | (refine wpList_blk_box rfl (.tmp 0) rfl rfl w.heap.size rfl ?_)
    | (refine wpList_blk_alloc rfl rfl hZ.out (w.heap.size + 1) (by simp) ?_))
  rw [← hwS.out]
  generalize hg : w.heap.size = g at *
  replace hg := Lib.hid hg
  refine wp_region_held_drew (S := fun W => BlkAt W g 48 cs) (by kernel_rfl) BA ?_
  intro hHeld
  (refine wpAnyH_take (i := 0) (v := .pointer (some ⟨g, 0, none⟩)) rfl (by kernel_rfl) (by kernel_rfl) (by kernel_rfl) (fun _ _ _ h => h) (Or.inl ⟨by rfl, ?_⟩) (by assumption) ?_; (focus (intro w hSw; clear hSw; go_simp)); (try simp only [Act.put, List.getElem_toArray, List.getElem_cons_zero, List.getElem_cons_succ, List.setIfInBounds_toArray, List.set_cons_zero, List.set_cons_succ]))
  (refine wpAnyH_take (i := 1) (v := .int .i64 k) rfl (by kernel_rfl) (by kernel_rfl) (by kernel_rfl) (fun _ _ _ h => h) (Or.inl ⟨by rfl, ?_⟩) (by assumption) ?_; (focus (intro w hSw; have hc := BlkAt.cell hSw h0.out; clear hSw; go_simp)); (try simp only [Act.put, List.getElem_toArray, List.getElem_cons_zero, List.getElem_cons_succ, List.setIfInBounds_toArray, List.set_cons_zero, List.set_cons_succ]))
  (refine wpAnyH_take (i := 2) (v := .pointer (some ⟨g, 1, none⟩)) rfl (by kernel_rfl) (by kernel_rfl) (by kernel_rfl) (fun _ _ _ h => h) (Or.inl ⟨by rfl, ?_⟩) (by assumption) ?_; (focus (intro w hSw; clear hSw; go_simp)); (try simp only [Act.put, List.getElem_toArray, List.getElem_cons_zero, List.getElem_cons_succ, List.setIfInBounds_toArray, List.set_cons_zero, List.set_cons_succ]))
  (refine wpAnyH_take (i := 3) (v := .string D) rfl (by kernel_rfl) (by kernel_rfl) (by kernel_rfl) (fun _ _ _ h => h) (Or.inl ⟨by rfl, ?_⟩) (by assumption) ?_; (focus (intro w hSw; have hc := BlkAt.cell hSw h1.out; clear hSw; go_simp)); (try simp only [Act.put, List.getElem_toArray, List.getElem_cons_zero, List.getElem_cons_succ, List.setIfInBounds_toArray, List.set_cons_zero, List.set_cons_succ]))
  (refine wpAnyH_take (i := 4) (v := .pointer (some ⟨g, 2, none⟩)) rfl (by kernel_rfl) (by kernel_rfl) (by kernel_rfl) (fun _ _ _ h => h) (Or.inl ⟨by rfl, ?_⟩) (by assumption) ?_; (focus (intro w hSw; clear hSw; go_simp)); (try simp only [Act.put, List.getElem_toArray, List.getElem_cons_zero, List.getElem_cons_succ, List.setIfInBounds_toArray, List.set_cons_zero, List.set_cons_succ]))
  (refine wpAnyH_take (i := 5) (v := .int .u32 i) rfl (by kernel_rfl) (by kernel_rfl) (by kernel_rfl) (fun _ _ _ h => h) (Or.inl ⟨by rfl, ?_⟩) (by assumption) ?_; (focus (intro w hSw; have hc := BlkAt.cell hSw h2.out; clear hSw; go_simp)); (try simp only [Act.put, List.getElem_toArray, List.getElem_cons_zero, List.getElem_cons_succ, List.setIfInBounds_toArray, List.set_cons_zero, List.set_cons_succ]))
  (refine wpAnyH_take (i := 6) (v := .pointer (some ⟨g, 3, none⟩)) rfl (by kernel_rfl) (by kernel_rfl) (by kernel_rfl) (fun _ _ _ h => h) (Or.inl ⟨by rfl, ?_⟩) (by assumption) ?_; (focus (intro w hSw; clear hSw; go_simp)); (try simp only [Act.put, List.getElem_toArray, List.getElem_cons_zero, List.getElem_cons_succ, List.setIfInBounds_toArray, List.set_cons_zero, List.set_cons_succ]))
  (refine wpAnyH_take (i := 7) (v := .int .u64 h) rfl (by kernel_rfl) (by kernel_rfl) (by kernel_rfl) (fun _ _ _ h => h) (Or.inl ⟨by rfl, ?_⟩) (by assumption) ?_; (focus (intro w hSw; have hc := BlkAt.cell hSw h3.out; clear hSw; go_simp)); (try simp only [Act.put, List.getElem_toArray, List.getElem_cons_zero, List.getElem_cons_succ, List.setIfInBounds_toArray, List.set_cons_zero, List.set_cons_succ]))
  (refine wpAnyH_take (i := 8) (v := .pointer (some ⟨g, 4, none⟩)) rfl (by kernel_rfl) (by kernel_rfl) (by kernel_rfl) (fun _ _ _ h => h) (Or.inl ⟨by rfl, ?_⟩) (by assumption) ?_; (focus (intro w hSw; clear hSw; go_simp)); (try simp only [Act.put, List.getElem_toArray, List.getElem_cons_zero, List.getElem_cons_succ, List.setIfInBounds_toArray, List.set_cons_zero, List.set_cons_succ]))
  (refine wpAnyH_take (i := 9) (v := .bool b1) rfl (by kernel_rfl) (by kernel_rfl) (by kernel_rfl) (fun _ _ _ h => h) (Or.inl ⟨by rfl, ?_⟩) (by assumption) ?_; (focus (intro w hSw; have hc := BlkAt.cell hSw h4.out; clear hSw; go_simp)); (try simp only [Act.put, List.getElem_toArray, List.getElem_cons_zero, List.getElem_cons_succ, List.setIfInBounds_toArray, List.set_cons_zero, List.set_cons_succ]))
  (refine wpAnyH_take (i := 10) (v := .pointer (some ⟨g, 5, none⟩)) rfl (by kernel_rfl) (by kernel_rfl) (by kernel_rfl) (fun _ _ _ h => h) (Or.inl ⟨by rfl, ?_⟩) (by assumption) ?_; (focus (intro w hSw; clear hSw; go_simp)); (try simp only [Act.put, List.getElem_toArray, List.getElem_cons_zero, List.getElem_cons_succ, List.setIfInBounds_toArray, List.set_cons_zero, List.set_cons_succ]))
  (refine wpAnyH_take (i := 11) (v := .bool b2) rfl (by kernel_rfl) (by kernel_rfl) (by kernel_rfl) (fun _ _ _ h => h) (Or.inl ⟨by rfl, ?_⟩) (by assumption) ?_; (focus (intro w hSw; have hc := BlkAt.cell hSw h5.out; clear hSw; go_simp)); (try simp only [Act.put, List.getElem_toArray, List.getElem_cons_zero, List.getElem_cons_succ, List.setIfInBounds_toArray, List.set_cons_zero, List.set_cons_succ]))
  (refine wpAnyH_take (i := 12) (v := .pointer (some ⟨g, 6, none⟩)) rfl (by kernel_rfl) (by kernel_rfl) (by kernel_rfl) (fun _ _ _ h => h) (Or.inl ⟨by rfl, ?_⟩) (by assumption) ?_; (focus (intro w hSw; clear hSw; go_simp)); (try simp only [Act.put, List.getElem_toArray, List.getElem_cons_zero, List.getElem_cons_succ, List.setIfInBounds_toArray, List.set_cons_zero, List.set_cons_succ]))
  refine wpAnyH_take (i := 13) (v := .agg #[.int .u64 v0, .int .u64 v1, .int .i64 v2, .int .u64 v3, .slice a n c]) rfl (by kernel_rfl) (by kernel_rfl) (by kernel_rfl) (fun _ _ _ h => h) ?_ (by assumption) ?_
  · exact yieldsIf_load_mid (by kernel_rfl) 46 (.tmp 15) (by kernel_rfl) g 6 (by kernel_rfl) [.int .u64 v0, .int .u64 v1, .int .i64 v2, .int .u64 v3, .slice a n c] _ (fun W (hW : BlkAt W _ _ _) => hW.range h6.out) Tryd.underlying46 rfl (Tryd.nrecI v0 v1 v2 v3 _)
  (try simp only [Act.put, List.getElem_toArray, List.getElem_cons_zero, List.getElem_cons_succ, List.setIfInBounds_toArray, List.set_cons_zero, List.set_cons_succ])
  (refine wpAnyH_take (i := 15) (v := .pointer (some ⟨g, 11, none⟩)) rfl (by kernel_rfl) (by kernel_rfl) (by kernel_rfl) (fun _ _ _ h => h) (Or.inl ⟨by rfl, ?_⟩) (by assumption) ?_; (focus (intro w hSw; clear hSw; go_simp)); (try simp only [Act.put, List.getElem_toArray, List.getElem_cons_zero, List.getElem_cons_succ, List.setIfInBounds_toArray, List.set_cons_zero, List.set_cons_succ]))
  refine wpAnyH_take (i := 16) (v := .agg #[.int .u64 u0, .int .u64 u1, .int .i64 u2, .int .u64 u3]) rfl (by kernel_rfl) (by kernel_rfl) (by kernel_rfl) (fun _ _ _ h => h) ?_ (by assumption) ?_
  · exact yieldsIf_load_mid (by kernel_rfl) 43 (.tmp 18) (by kernel_rfl) g 11 (by kernel_rfl) [.int .u64 u0, .int .u64 u1, .int .i64 u2, .int .u64 u3] _ (fun W (hW : BlkAt W _ _ _) => hW.range h11.out) Tryd.underlying43 rfl (Tryd.nviewI u0 u1 u2 u3)
  (try simp only [Act.put, List.getElem_toArray, List.getElem_cons_zero, List.getElem_cons_succ, List.setIfInBounds_toArray, List.set_cons_zero, List.set_cons_succ])
  (refine wpAnyH_take (i := 17) (v := .pointer (some ⟨g, 15, none⟩)) rfl (by kernel_rfl) (by kernel_rfl) (by kernel_rfl) (fun _ _ _ h => h) (Or.inl ⟨by rfl, ?_⟩) (by assumption) ?_; (focus (intro w hSw; clear hSw; go_simp)); (try simp only [Act.put, List.getElem_toArray, List.getElem_cons_zero, List.getElem_cons_succ, List.setIfInBounds_toArray, List.set_cons_zero, List.set_cons_succ]))
  (refine wpAnyH_take (i := 18) (v := .int .u64 nu) rfl (by kernel_rfl) (by kernel_rfl) (by kernel_rfl) (fun _ _ _ h => h) (Or.inl ⟨by rfl, ?_⟩) (by assumption) ?_; (focus (intro w hSw; have hc := BlkAt.cell hSw h15.out; clear hSw; go_simp)); (try simp only [Act.put, List.getElem_toArray, List.getElem_cons_zero, List.getElem_cons_succ, List.setIfInBounds_toArray, List.set_cons_zero, List.set_cons_succ]))
  (refine wpAnyH_take (i := 19) (v := .pointer (some ⟨g, 16, none⟩)) rfl (by kernel_rfl) (by kernel_rfl) (by kernel_rfl) (fun _ _ _ h => h) (Or.inl ⟨by rfl, ?_⟩) (by assumption) ?_; (focus (intro w hSw; clear hSw; go_simp)); (try simp only [Act.put, List.getElem_toArray, List.getElem_cons_zero, List.getElem_cons_succ, List.setIfInBounds_toArray, List.set_cons_zero, List.set_cons_succ]))
  (refine wpAnyH_take (i := 20) (v := .int .i64 ix) rfl (by kernel_rfl) (by kernel_rfl) (by kernel_rfl) (fun _ _ _ h => h) (Or.inl ⟨by rfl, ?_⟩) (by assumption) ?_; (focus (intro w hSw; have hc := BlkAt.cell hSw h16.out; clear hSw; go_simp)); (try simp only [Act.put, List.getElem_toArray, List.getElem_cons_zero, List.getElem_cons_succ, List.setIfInBounds_toArray, List.set_cons_zero, List.set_cons_succ]))
  (refine wpAnyH_take (i := 21) (v := .pointer (some ⟨g, 17, none⟩)) rfl (by kernel_rfl) (by kernel_rfl) (by kernel_rfl) (fun _ _ _ h => h) (Or.inl ⟨by rfl, ?_⟩) (by assumption) ?_; (focus (intro w hSw; clear hSw; go_simp)); (try simp only [Act.put, List.getElem_toArray, List.getElem_cons_zero, List.getElem_cons_succ, List.setIfInBounds_toArray, List.set_cons_zero, List.set_cons_succ]))
  (refine wpAnyH_take (i := 22) (v := .int .i64 tt) rfl (by kernel_rfl) (by kernel_rfl) (by kernel_rfl) (fun _ _ _ h => h) (Or.inl ⟨by rfl, ?_⟩) (by assumption) ?_; (focus (intro w hSw; have hc := BlkAt.cell hSw h17.out; clear hSw; go_simp)); (try simp only [Act.put, List.getElem_toArray, List.getElem_cons_zero, List.getElem_cons_succ, List.setIfInBounds_toArray, List.set_cons_zero, List.set_cons_succ]))
  (refine wpAnyH_ready (rs := [14]) (by kernel_rfl) (by simp) ?_; refine AllReadyH.cons rfl (fun K hK => ?_) AllReadyH.nil; go_simp)
  refine (HR.out _).mono ?_
  rintro e w2 ⟨rfl, hb⟩
  have b0 := Lib.hid ((Below.refl _ wS).drew.trans (hb.mono (Nat.le_refl _)))
  replace BA := (BA.drewN 1).below hb BA.lt
  replace BR := (BR.drewN 1).below hb BR.lt
  refine hK.out _ _ BA (fun hHeld2 => ?_)
  clear hK K hHeld hb
  (refine wpAnyH_ready (rs := [23]) (by kernel_rfl) (by simp) ?_; refine AllReadyH.cons rfl (fun K hK => ?_) AllReadyH.nil)
  refine step_build_to (some 26) rfl rfl 59 #[(0, .tmp 4), (1, .tmp 6), (2, .tmp 8), (3, .tmp 10), (4, .tmp 12), (5, .tmp 14), (6, .tmp 17), (7, .tmp 19), (8, .tmp 21), (9, .tmp 23), (10, .tmp 25)] rfl (by rw [List.map_toArray]; exact hBd.out) ?_
  (try simp only [Act.put, List.getElem_toArray, List.getElem_cons_zero, List.getElem_cons_succ, List.setIfInBounds_toArray, List.set_cons_zero, List.set_cons_succ])
  refine hK.out _ _ BA (fun hHeld3 => ?_)
  clear hK K hHeld2
  (refine wpAnyH_ready (rs := [24]) (by kernel_rfl) (by simp) ?_; refine AllReadyH.cons rfl (fun K hK => ?_) AllReadyH.nil)
  refine step_blk_store (cs := cs) none rfl rfl (.tmp 2) (.tmp 26) rfl rfl rfl BR (by rw [hsz.out]; exact Tryd.nriI) (by rw [hsz.out, hzs.out]) hone.out ?_
  intro w3 hB3 hK3 hs3
  (try simp only [Act.put, List.getElem_toArray, List.getElem_cons_zero, List.getElem_cons_succ, List.setIfInBounds_toArray, List.set_cons_zero, List.set_cons_succ])
  refine hK.out _ _ (hK3.blk BA (by omega)) (fun hHeld4 => ?_)
  clear hK K hHeld3
  refine wpAnyH_done (by kernel_rfl) ?_ _
  have E1 : Below w.heap.size w wS := by rw [hg.out]; exact E
  have E2 := belS E1 b0.out
  have e3 := Kp.below E2 hK3 (by rw [hg.out]; omega) E2.size
  have e4 : Below g w w3 := by rw [hg.out] at e3; exact e3
  clear E1 E2
  go_wp2
  exact bodyPost_ret (results_cell_row rfl _ _ (g + 1) 59 _ (0, 0) _ rfl hB3 Tryd.underlying59 rfl (by rw [hsz.out]; exact Tryd.nriI)) rfl ⟨rfl, by first | exact e3 | exact e4⟩
theorem nitem_any {x : It} (hx : x.Ty) (w : World) : Calls Tryd.prog 22 #[.agg x.cs.toArray] w fun e w' => e = .returned (.agg x.cs.toArray) ∧ Below w.heap.size w w' := by
  obtain ⟨k, D, i, h, b1, b2, v0, v1, v2, v3, a, n, c, u0, u1, u2, u3, nu, ix, tt, hc⟩ := hx
  exact nitem_walk k D i h b1 b2 v0 v1 v2 v3 a n c u0 u1 u2 u3 nu ix tt _ _ (by rw [hc]) rfl w
end Go.Proofs.YtcgfpolklfhppaaDoor
