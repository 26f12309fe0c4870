/- filter: the statements' helpers: rec, Same, Item, Items -/
import Derived.Test.YteeeikkapnchlaaDoorFilF
namespace Go.Proofs.YteeeikkapnchlaaDoor
set_option linter.unusedSimpArgs false
set_option linter.unusedVariables false
open Go.RowKit Go.Sort
theorem wpList_agg_g {P : Program} {w : World} {ops : Array Oper} {rest : List Oper} {o : Oper} {a : Act} {Q : Exit → Act → World → Prop} (hw : Region.wanted o (yielded ops a.tmps) = true) {b : BinOp} {t : TypeId} (hg : P.eqGuardType P.depth t = false) (x y : Operand) (t2 : TypeId) (ho : o.op = .binOp b t x y t2) {u v : Array Value} {r : Value} (hx : a.eval x = .agg u) (hy : a.eval y = .agg v)
    (hrun : ∀ W, (binOp b t (.agg u) (.agg v)).run P W = .ok r W) (h : wpList P ops Q rest (a.put o.dst r) w) : wpList P ops Q (o :: rest) a w :=
  wpList_step fun K hK => by
    rw [if_pos hw]
    unfold Oper.wp
    simp only [execOp, ho, hx, hy, Sem.run_bind, Sem.run_pure, run_eqGuard_agg hg, hrun w, Result.andThen_ok]
    exact hK _ _ h
theorem run_neq_vw (w : World) (v u : Vw) : (binOp .neq 35 (.agg #[.int .u64 v.num, .int .u64 v.ce, .int .i64 v.cr, .int .u64 v.mem]) (.agg #[.int .u64 u.num, .int .u64 u.ce, .int .i64 u.cr, .int .u64 u.mem])).run Tryd.prog w = .ok (.bool (!veq v u)) w := by
  have h := run_eql_vw w v u
  by_cases h1 : v.num = u.num <;> by_cases h2 : v.ce = u.ce <;> by_cases h3 : v.cr = u.cr <;> by_cases h4 : v.mem = u.mem <;> simp [go_sem, veq, h1, h2, h3, h4] <;> omega
set_option maxHeartbeats 800000 in
theorem views_some (b off c b' off' c' n : Nat) (l : List Vw) (w : World) (hr : RdV w (some ⟨b, off, none⟩) n c l) (hr' : RdV w (some ⟨b', off', none⟩) n c' l) :
    Calls Tryd.prog 39 #[.slice (some ⟨b, off, none⟩) n c, .slice (some ⟨b', off', none⟩) n c'] w fun e w' => e = .returned (.bool true) ∧ Below w.heap.size w w' := by
  have hl := Lib.hid hr.len
  have hmx := Rd.le_max hr
  unfold maxLen at hmx
  go_enter Tryd.func39, Tryd.ntmps39
  go_wp2
  go_loopw [5] (fun i wr => ∃ k : Nat, k ≤ n ∧ i = .int .i64 k ∧ Below w.heap.size w wr) (fun i _ => n - (intOf i).toNat)
  case atStart => exact ⟨0, Nat.zero_le _, rfl, Below.refl _ _⟩
  case round =>
    obtain ⟨k, hk, rfl, hbr⟩ := hrel
    by_cases hlt : k < n
    · have hkl : k < l.length := by rw [hl.out]; exact hlt
      obtain ⟨c0, c1, c2, c3⟩ := (hr.below hbr (Nat.le_refl _)).at k hkl
      obtain ⟨d0, d1, d2, d3⟩ := (hr'.below hbr (Nat.le_refl _)).at k hkl
      have hkI : (k : Int) < n := by omega
      have HE := fun W => run_neq_vw W l[k] l[k]
      rw [show veq l[k] l[k] = true from veq_eq.2 rfl] at HE
      replace HE := Lib.hid HE
      generalize l[k] = p at *
      go_wp2
      refine wp_region_quiet_lit (by kernel_rfl) (by kernel_rfl) ?_
      iterate 8 go_big_quiet_step (fail)
      refine wpQuiet_agg (by rfl) Tryd.viewG (.tmp 20) (.tmp 24) _ rfl rfl rfl HE.out ?_
      refine wpQuiet_nil ?_
      rintro _ ⟨nq, rfl⟩
      go_wp2
      go_roundw
      case rel => exact ⟨k + 1, by omega, by go_num, belN hbr _⟩
      case measure => simp [intOf]; omega
    · have hki : ¬ (k : Int) < n := by omega
      go_wp2
      go_ret
      exact ⟨rfl, hbr⟩
set_option maxHeartbeats 800000 in
theorem views_nil (a a' : Option Addr) (c c' : Nat) (w : World) :
    Calls Tryd.prog 39 #[.slice a 0 c, .slice a' 0 c'] w fun e w' => e = .returned (.bool true) ∧ Below w.heap.size w w' := by
  go_enter Tryd.func39, Tryd.ntmps39
  go_wp2
  refine wp_loop_rounds 1 ?_
  rw [rounds_succ]
  go_wp2
  go_ret
  exact ⟨rfl, Below.refl _ _⟩
theorem views_any (a a' : Option Addr) (n c c' : Nat) (l : List Vw) (w : World) (hr : RdV w a n c l) (hr' : RdV w a' n c' l) :
    Calls Tryd.prog 39 #[.slice a n c, .slice a' n c'] w fun e w' => e = .returned (.bool true) ∧ Below w.heap.size w w' := by
  by_cases h0 : n = 0
  · subst h0; exact views_nil _ _ c c' w
  · obtain ⟨b, off, rfl, _⟩ := Rd.addr hr (by omega)
    obtain ⟨b', off', rfl, _⟩ := Rd.addr hr' (by omega)
    exact views_some b off c b' off' c' n l w hr hr'
section
variable {P : Program} {w : World} {ops : Array Oper} {rest : List Oper} {o : Oper} {a : Act} {Q : Exit → Act → World → Prop} {t : TypeId}
theorem wpList_blk_get_g (hw : Region.wanted o (yielded ops a.tmps) = true) (x : Operand) (ho : o.op = .load t x) {b p : Nat} (hx : a.eval x = .pointer (some ⟨b, p, none⟩)) {t' : TypeId} {old cs : Array Value} (hb : BlkAt w b t' old) {d : TypeDesc}
    (hu : P.underlying t = some d) (hd : d.isRow = true) (hi : (P.info? t).map (·.size) = some cs.size) (hv : ∀ j v, cs.toList[j]? = some v → old[p + j]? = some v)
    (h : wpList P ops Q rest (a.put o.dst (.agg cs)) w) : wpList P ops Q (o :: rest) a w :=
  wpList_step fun K hK => by
    rw [if_pos hw]
    exact wp_load_mid t x ho b p hx cs.toList d (hb.range hv) hu hd (by simpa using hi) (hK _ _ h)
end
theorem get4 {x0 x1 x2 x3 : Value} {old : Array Value} {p : Nat} (h0 : old[p]? = some x0) (h1 : old[p + 1]? = some x1) (h2 : old[p + 2]? = some x2) (h3 : old[p + 3]? = some x3) : ∀ j v, (#[x0, x1, x2, x3] : Array Value).toList[j]? = some v → old[p + j]? = some v := by
  intro j v h
  rcases j with _ | _ | _ | _ | j
  · exact h0.trans h
  · exact h1.trans h
  · exact h2.trans h
  · exact h3.trans h
  · cases h
theorem get5 {x0 x1 x2 x3 x4 : Value} {old : Array Value} {p : Nat} (h0 : old[p]? = some x0) (h1 : old[p + 1]? = some x1) (h2 : old[p + 2]? = some x2) (h3 : old[p + 3]? = some x3) (h4 : old[p + 4]? = some x4) : ∀ j v, (#[x0, x1, x2, x3, x4] : Array Value).toList[j]? = some v → old[p + j]? = some v := by
  intro j v h
  rcases j with _ | _ | _ | _ | _ | j
  · exact h0.trans h
  · exact h1.trans h
  · exact h2.trans h
  · exact h3.trans h
  · exact h4.trans h
  · cases h
theorem Tryd.rrZ : (Tryd.prog.info? 60).map (·.zero) = some (some (.agg #[.int .u64 0, .int .u64 0, .int .i64 0, .int .u64 0, .slice none 0 0])) := by kernel_rfl
theorem Tryd.rrI (v : Vw) (x : Value) : (Tryd.prog.info? 60).map (·.size) = some (#[.int .u64 v.num, .int .u64 v.ce, .int .i64 v.cr, .int .u64 v.mem, x] : Array Value).size := by show _ = some 5; kernel_rfl
theorem Tryd.rrB (v : Vw) (a : Option Addr) (n c : Nat) : Tryd.prog.built 60 [(0, .agg #[.int .u64 v.num, .int .u64 v.ce, .int .i64 v.cr, .int .u64 v.mem]), (1, .slice a n c)] = some #[.int .u64 v.num, .int .u64 v.ce, .int .i64 v.cr, .int .u64 v.mem, .slice a n c] := by kernel_rfl
set_option maxHeartbeats 1600000 in
set_option maxRecDepth 100000 in
theorem rec_any (v : Vw) (a : Option Addr) (n c : Nat) (w : World) : Calls Tryd.prog 50 #[.agg #[.int .u64 v.num, .int .u64 v.ce, .int .i64 v.cr, .int .u64 v.mem, .slice a n c]] w fun e w' => e = .returned (.agg #[.int .u64 v.num, .int .u64 v.ce, .int .i64 v.cr, .int .u64 v.mem, .slice a n c]) ∧ Below w.heap.size w w' := by
  have BA := (BlkAt.new w 38 #[.int .u64 v.num, .int .u64 v.ce, .int .i64 v.cr, .int .u64 v.mem, .slice a n c]).alloc (.cells #[.int .u64 0, .int .u64 0, .int .i64 0, .int .u64 0, .slice none 0 0] 60)
  have BR : BlkAt ((w.alloc (.cells #[.int .u64 v.num, .int .u64 v.ce, .int .i64 v.cr, .int .u64 v.mem, .slice a n c] 38)).alloc (.cells #[.int .u64 0, .int .u64 0, .int .i64 0, .int .u64 0, .slice none 0 0] 60)) (w.heap.size + 1) 60 #[.int .u64 0, .int .u64 0, .int .i64 0, .int .u64 0, .slice none 0 0] := by
    have := BlkAt.new (w.alloc (.cells #[.int .u64 v.num, .int .u64 v.ce, .int .i64 v.cr, .int .u64 v.mem, .slice a n c] 38)) 60 #[.int .u64 0, .int .u64 0, .int .i64 0, .int .u64 0, .slice none 0 0]
    simpa using this
  have E : Below w.heap.size w ((w.alloc (.cells #[.int .u64 v.num, .int .u64 v.ce, .int .i64 v.cr, .int .u64 v.mem, .slice a n c] 38)).alloc (.cells #[.int .u64 0, .int .u64 0, .int .i64 0, .int .u64 0, .slice none 0 0] 60)) := ((Below.refl _ _).alloc (Nat.le_refl _) _).alloc (by simp) _
  have c4 := BA.cell (i := 4) rfl
  go_enter Tryd.func50, Tryd.ntmps50
  go_wp2_with (first
    | (refine wpList_blk_box rfl (.tmp 0) rfl rfl w.heap.size rfl ?_)
    | (refine wpList_blk_alloc rfl rfl Tryd.rrZ (w.heap.size + 1) (by simp) ?_)
    | (refine wpList_blk_get (cs := #[.int .u64 v.num, .int .u64 v.ce, .int .i64 v.cr, .int .u64 v.mem]) rfl (.tmp 3) rfl rfl BA Tryd.underlying35 rfl (Tryd.viewI v) (get4 rfl rfl rfl rfl) ?_)
    | (refine wpList_blk_build rfl #[(0, .tmp 4), (1, .tmp 6)] rfl (by rw [List.map_toArray]; exact Tryd.rrB v _ _ _) ?_)
    | (refine wpList_blk_store rfl (.tmp 2) (.tmp 7) rfl rfl rfl BR (Tryd.rrI _ _) rfl (by simp [Value.oneCell']) ?_; intro w4 hB4 hK4 hs4))
  exact bodyPost_ret (results_cell_row rfl _ _ (w.heap.size + 1) 60 _ (0, 0) _ rfl hB4 Tryd.underlying60 rfl (Tryd.rrI v _)) rfl ⟨rfl, Kp.below E hK4 (by omega) E.size⟩
theorem step_build_to {P : Program} {w : World} {ops : Array Oper} {o : Oper} {a : Act} {K : Act → World → Prop} {Q : Exit → Act → World → Prop} {E' : Prop} (d : Option Tmp) (hd : o.dst = d) (hgd : o.guard = none) (t : TypeId) (parts : Array (Nat × Operand)) (ho : o.op = .build t parts) {cs : Array Value}
    (hf : P.built t (parts.map fun (i, x) => (i, a.eval x)).toList = some cs) (h : K (a.put d (.agg cs)) w) : if Region.wanted o (yielded ops a.tmps) = true then Oper.wp P o a w K Q else E' :=
  step_build hgd t parts ho hf (by rw [hd]; exact h)
theorem step_blk_store_to {P : Program} {w : World} {ops : Array Oper} {o : Oper} {a : Act} {K : Act → World → Prop} {Q : Exit → Act → World → Prop} {E' : Prop} {t : TypeId} (d : Option Tmp) (hd : o.dst = d) (hgd : o.guard = none) (x y : Operand) (ho : o.op = .store t x y) {b : Nat} (hx : a.eval x = .pointer (some ⟨b, 0, none⟩)) {t' : TypeId} {old cs : Array Value} (hy : a.eval y = .agg cs) (hb : BlkAt w b t' old)
    (hi : (P.info? t).map (·.size) = some cs.size) (hs : old.size = cs.size) (h1 : cs.all (·.oneCell') = true)
    (h : ∀ w', BlkAt w' b t' cs → Kp b w w' → w'.heap.size = w.heap.size → K (a.put d undef) w') : if Region.wanted o (yielded ops a.tmps) = true then Oper.wp P o a w K Q else E' := by
  subst hd
  rw [if_pos (by simp [Region.wanted, hgd])]
  exact wp_store_row t x y ho b cs hx hy t' old hb hi hs h1 (h _ (setRow_heap w b _ _ t' (0, 0) hb) ⟨rfl, rfl, rfl, by simp, fun k _ hk => setRow_other w b k _ hk⟩ (size_setRow _ _ _))
set_option maxHeartbeats 1600000 in
set_option maxRecDepth 100000 in
theorem same_any (v : Vw) (l : List Vw) (a a' : Option Addr) (n c c' : Nat) (w : World) (h1 : RdV w a n c l) (h2 : RdV w a' n c' l) :
    Calls Tryd.prog 19 #[.agg #[.int .u64 v.num, .int .u64 v.ce, .int .i64 v.cr, .int .u64 v.mem, .slice a n c], .agg #[.int .u64 v.num, .int .u64 v.ce, .int .i64 v.cr, .int .u64 v.mem, .slice a' n c']] w fun e w' => e = .returned (.bool true) ∧ Below w.heap.size w w' := by
  obtain ⟨wS, hwS⟩ : ∃ wS, wS = (w.alloc (.cells #[.int .u64 v.num, .int .u64 v.ce, .int .i64 v.cr, .int .u64 v.mem, .slice a n c] 60)).alloc (.cells #[.int .u64 v.num, .int .u64 v.ce, .int .i64 v.cr, .int .u64 v.mem, .slice a' n c'] 60) := ⟨_, rfl⟩
  have E : Below w.heap.size w wS := by rw [hwS]; exact ((Below.refl _ _).alloc (Nat.le_refl _) _).alloc (by simp) _
  have BA : BlkAt wS w.heap.size 60 #[.int .u64 v.num, .int .u64 v.ce, .int .i64 v.cr, .int .u64 v.mem, .slice a n c] := by rw [hwS]; exact (BlkAt.new w _ _).alloc _
  have BB : BlkAt wS (w.heap.size + 1) 60 #[.int .u64 v.num, .int .u64 v.ce, .int .i64 v.cr, .int .u64 v.mem, .slice a' n c'] := by
    rw [hwS]
    have := BlkAt.new (w.alloc (.cells #[.int .u64 v.num, .int .u64 v.ce, .int .i64 v.cr, .int .u64 v.mem, .slice a n c] 60)) 60 #[.int .u64 v.num, .int .u64 v.ce, .int .i64 v.cr, .int .u64 v.mem, .slice a' n c']
    simpa using this
  have HV := Lib.hid (fun W (h1 : RdV W a n c l) (h2 : RdV W a' n c' l) => views_any a a' n c c' l W h1 h2)
  replace h1 := h1.below E (Nat.le_refl _)
  replace h2 := h2.below E (Nat.le_refl _)
  have c4 := BA.cell (i := 4) rfl
  have d4 := BB.cell (i := 4) rfl
  have HE := fun W => run_eql_vw W v v
  rw [show veq v v = true from veq_eq.2 rfl] at HE
  replace HE := Lib.hid HE
  subst hwS
  go_enter Tryd.func19, Tryd.ntmps19
  go_wp2_with (first
    | (refine wpList_blk_box rfl (.tmp 0) rfl rfl w.heap.size rfl ?_)
    | (refine wpList_blk_box rfl (.tmp 1) rfl rfl (w.heap.size + 1) (by simp) ?_)
    | (refine wpList_blk_get (cs := #[.int .u64 v.num, .int .u64 v.ce, .int .i64 v.cr, .int .u64 v.mem]) rfl (.tmp 5) rfl rfl BA Tryd.underlying35 rfl (Tryd.viewI v) (get4 rfl rfl rfl rfl) ?_)
    | (refine wpList_blk_get (cs := #[.int .u64 v.num, .int .u64 v.ce, .int .i64 v.cr, .int .u64 v.mem]) rfl (.tmp 7) rfl rfl BB Tryd.underlying35 rfl (Tryd.viewI v) (get4 rfl rfl rfl rfl) ?_)
    | (refine wpList_agg rfl Tryd.viewG (.tmp 6) (.tmp 8) _ rfl rfl rfl (HE.out _) ?_))
  refine (HV.out _ h1 h2).mono ?_
  rintro e w' ⟨rfl, hb⟩
  replace E := belS E hb
  go_wp2
  go_ret
  exact ⟨rfl, E⟩
theorem Tryd.riZ : (Tryd.prog.info? 85).map (·.zero) = some (some (.agg (iwA .zero))) := by kernel_rfl
theorem Tryd.riI : (Tryd.prog.info? 85).map (·.size) = some 18 := by kernel_rfl
theorem Tryd.riB (k : Int) (D : ByteArray) (i h : Int) (b1 b2 : Bool) (v : Vw) (a : Option Addr) (n c : Nat) (u : Vw) (nu ix tt : Int) : Tryd.prog.built 85 [(0, .int .i64 k), (1, .string D), (2, .int .u32 i), (3, .int .u64 h), (4, .bool b1), (5, .bool b2), (6, .agg #[.int .u64 v.num, .int .u64 v.ce, .int .i64 v.cr, .int .u64 v.mem, .slice a n c]), (7, .agg #[.int .u64 u.num, .int .u64 u.ce, .int .i64 u.cr, .int .u64 u.mem]), (8, .int .u64 nu), (9, .int .i64 ix), (10, .int .i64 tt)] = some #[.int .i64 k, .string D, .int .u32 i, .int .u64 h, .bool b1, .bool b2, .int .u64 v.num, .int .u64 v.ce, .int .i64 v.cr, .int .u64 v.mem, .slice a n c, .int .u64 u.num, .int .u64 u.ce, .int .i64 u.cr, .int .u64 u.mem, .int .u64 nu, .int .i64 ix, .int .i64 tt] := by kernel_rfl
set_option maxHeartbeats 3200000 in
set_option maxRecDepth 100000 in
theorem item_walk (k : Int) (D : ByteArray) (i h : Int) (b1 b2 : Bool) (v : Vw) (a : Option Addr) (n c : Nat) (u : Vw) (nu ix tt : Int) (cs z : Array Value) (hcs : cs = #[.int .i64 k, .string D, .int .u32 i, .int .u64 h, .bool b1, .bool b2, .int .u64 v.num, .int .u64 v.ce, .int .i64 v.cr, .int .u64 v.mem, .slice a n c, .int .u64 u.num, .int .u64 u.ce, .int .i64 u.cr, .int .u64 u.mem, .int .u64 nu, .int .i64 ix, .int .i64 tt]) (hz : z = (iwA .zero)) (w : World) : Calls Tryd.prog 38 #[.agg cs] w fun e w' => e = .returned (.agg cs) ∧ Below w.heap.size w w' := by
  have h0 := Lib.hid (show cs[0]? = some (.int .i64 k) from by rw [hcs]; rfl)
  have h1 := Lib.hid (show cs[1]? = some (.string D) from by rw [hcs]; rfl)
  have h2 := Lib.hid (show cs[2]? = some (.int .u32 i) from by rw [hcs]; rfl)
  have h3 := Lib.hid (show cs[3]? = some (.int .u64 h) from by rw [hcs]; rfl)
  have h4 := Lib.hid (show cs[4]? = some (.bool b1) from by rw [hcs]; rfl)
  have h5 := Lib.hid (show cs[5]? = some (.bool b2) from by rw [hcs]; rfl)
  have h6 := Lib.hid (show ∀ j x, (#[.int .u64 v.num, .int .u64 v.ce, .int .i64 v.cr, .int .u64 v.mem, .slice a n c] : Array Value).toList[j]? = some x → cs[6 + j]? = some x from by rw [hcs]; exact get5 rfl rfl rfl rfl rfl)
  have h11 := Lib.hid (show ∀ j x, (#[.int .u64 u.num, .int .u64 u.ce, .int .i64 u.cr, .int .u64 u.mem] : Array Value).toList[j]? = some x → cs[11 + j]? = some x from by rw [hcs]; exact get4 rfl rfl rfl rfl)
  have h15 := Lib.hid (show cs[15]? = some (.int .u64 nu) from by rw [hcs]; rfl)
  have h16 := Lib.hid (show cs[16]? = some (.int .i64 ix) from by rw [hcs]; rfl)
  have h17 := Lib.hid (show cs[17]? = some (.int .i64 tt) from by rw [hcs]; rfl)
  have hsz : cs.size = 18 := by rw [hcs]; rfl
  have hone : cs.all (·.oneCell') = true := by rw [hcs]; simp [Value.oneCell']
  have hZ : (Tryd.prog.info? 85).map (·.zero) = some (some (.agg z)) := by rw [hz]; exact Tryd.riZ
  have hzs : z.size = 18 := by rw [hz]; rfl
  have hBd := Lib.hid (show Tryd.prog.built 85 [(0, .int .i64 k), (1, .string D), (2, .int .u32 i), (3, .int .u64 h), (4, .bool b1), (5, .bool b2), (6, .agg #[.int .u64 v.num, .int .u64 v.ce, .int .i64 v.cr, .int .u64 v.mem, .slice a n c]), (7, .agg #[.int .u64 u.num, .int .u64 u.ce, .int .i64 u.cr, .int .u64 u.mem]), (8, .int .u64 nu), (9, .int .i64 ix), (10, .int .i64 tt)] = some cs from by rw [hcs]; exact Tryd.riB _ _ _ _ _ _ _ _ _ _ _ _ _ _)
  obtain ⟨wS, hwS⟩ : ∃ wS, wS = (w.alloc (.cells cs 45)).alloc (.cells z 85) := ⟨_, rfl⟩
  have E : Below w.heap.size w wS := by rw [hwS]; exact ((Below.refl _ _).alloc (Nat.le_refl _) _).alloc (by simp) _
  have BA : BlkAt wS w.heap.size 45 cs := by rw [hwS]; exact (BlkAt.new w _ _).alloc _
  have BR : BlkAt wS (w.heap.size + 1) 85 z := by
    rw [hwS]
    have := BlkAt.new (w.alloc (.cells cs 45)) 85 z
    simpa using this
  have HR := Lib.hid (fun W => rec_any v a n c W)
  replace hwS := Lib.hid hwS
  clear hcs hz
  replace hsz := Lib.hid hsz
  replace hone := Lib.hid hone
  replace hzs := Lib.hid hzs
  replace hZ := Lib.hid hZ
  go_enter Tryd.func38, Tryd.ntmps38
  go_wp2_with (first
    | (refine wpList_blk_box rfl (.tmp 0) rfl rfl w.heap.size rfl ?_)
    | (refine wpList_blk_alloc rfl rfl hZ.out (w.heap.size + 1) (by simp) ?_))
  rw [← hwS.out]
  generalize hg : w.heap.size = g at *
  replace hg := Lib.hid hg
  refine wp_region_held_drew (S := fun W => BlkAt W g 45 cs) (by kernel_rfl) BA ?_
  intro hHeld
  (refine wpAnyH_take (i := 0) (v := .pointer (some ⟨g, 0, none⟩)) rfl (by kernel_rfl) (by kernel_rfl) (by kernel_rfl) (fun _ _ _ h => h) (Or.inl ⟨by rfl, ?_⟩) (by assumption) ?_; (focus (intro w hSw; clear hSw; go_simp)); (try simp only [Act.put, List.setIfInBounds_toArray, List.set_cons_zero, List.set_cons_succ]))
  (refine wpAnyH_take (i := 1) (v := .int .i64 k) rfl (by kernel_rfl) (by kernel_rfl) (by kernel_rfl) (fun _ _ _ h => h) (Or.inl ⟨by rfl, ?_⟩) (by assumption) ?_; (focus (intro w hSw; have hc := BlkAt.cell hSw h0.out; clear hSw; go_simp)); (try simp only [Act.put, List.setIfInBounds_toArray, List.set_cons_zero, List.set_cons_succ]))
  (refine wpAnyH_take (i := 2) (v := .pointer (some ⟨g, 1, none⟩)) rfl (by kernel_rfl) (by kernel_rfl) (by kernel_rfl) (fun _ _ _ h => h) (Or.inl ⟨by rfl, ?_⟩) (by assumption) ?_; (focus (intro w hSw; clear hSw; go_simp)); (try simp only [Act.put, List.setIfInBounds_toArray, List.set_cons_zero, List.set_cons_succ]))
  (refine wpAnyH_take (i := 3) (v := .string D) rfl (by kernel_rfl) (by kernel_rfl) (by kernel_rfl) (fun _ _ _ h => h) (Or.inl ⟨by rfl, ?_⟩) (by assumption) ?_; (focus (intro w hSw; have hc := BlkAt.cell hSw h1.out; clear hSw; go_simp)); (try simp only [Act.put, List.setIfInBounds_toArray, List.set_cons_zero, List.set_cons_succ]))
  (refine wpAnyH_take (i := 4) (v := .pointer (some ⟨g, 2, none⟩)) rfl (by kernel_rfl) (by kernel_rfl) (by kernel_rfl) (fun _ _ _ h => h) (Or.inl ⟨by rfl, ?_⟩) (by assumption) ?_; (focus (intro w hSw; clear hSw; go_simp)); (try simp only [Act.put, List.setIfInBounds_toArray, List.set_cons_zero, List.set_cons_succ]))
  (refine wpAnyH_take (i := 5) (v := .int .u32 i) rfl (by kernel_rfl) (by kernel_rfl) (by kernel_rfl) (fun _ _ _ h => h) (Or.inl ⟨by rfl, ?_⟩) (by assumption) ?_; (focus (intro w hSw; have hc := BlkAt.cell hSw h2.out; clear hSw; go_simp)); (try simp only [Act.put, List.setIfInBounds_toArray, List.set_cons_zero, List.set_cons_succ]))
  (refine wpAnyH_take (i := 6) (v := .pointer (some ⟨g, 3, none⟩)) rfl (by kernel_rfl) (by kernel_rfl) (by kernel_rfl) (fun _ _ _ h => h) (Or.inl ⟨by rfl, ?_⟩) (by assumption) ?_; (focus (intro w hSw; clear hSw; go_simp)); (try simp only [Act.put, List.setIfInBounds_toArray, List.set_cons_zero, List.set_cons_succ]))
  (refine wpAnyH_take (i := 7) (v := .int .u64 h) rfl (by kernel_rfl) (by kernel_rfl) (by kernel_rfl) (fun _ _ _ h => h) (Or.inl ⟨by rfl, ?_⟩) (by assumption) ?_; (focus (intro w hSw; have hc := BlkAt.cell hSw h3.out; clear hSw; go_simp)); (try simp only [Act.put, List.setIfInBounds_toArray, List.set_cons_zero, List.set_cons_succ]))
  (refine wpAnyH_take (i := 8) (v := .pointer (some ⟨g, 4, none⟩)) rfl (by kernel_rfl) (by kernel_rfl) (by kernel_rfl) (fun _ _ _ h => h) (Or.inl ⟨by rfl, ?_⟩) (by assumption) ?_; (focus (intro w hSw; clear hSw; go_simp)); (try simp only [Act.put, List.setIfInBounds_toArray, List.set_cons_zero, List.set_cons_succ]))
  (refine wpAnyH_take (i := 9) (v := .bool b1) rfl (by kernel_rfl) (by kernel_rfl) (by kernel_rfl) (fun _ _ _ h => h) (Or.inl ⟨by rfl, ?_⟩) (by assumption) ?_; (focus (intro w hSw; have hc := BlkAt.cell hSw h4.out; clear hSw; go_simp)); (try simp only [Act.put, List.setIfInBounds_toArray, List.set_cons_zero, List.set_cons_succ]))
  (refine wpAnyH_take (i := 10) (v := .pointer (some ⟨g, 5, none⟩)) rfl (by kernel_rfl) (by kernel_rfl) (by kernel_rfl) (fun _ _ _ h => h) (Or.inl ⟨by rfl, ?_⟩) (by assumption) ?_; (focus (intro w hSw; clear hSw; go_simp)); (try simp only [Act.put, List.setIfInBounds_toArray, List.set_cons_zero, List.set_cons_succ]))
  (refine wpAnyH_take (i := 11) (v := .bool b2) rfl (by kernel_rfl) (by kernel_rfl) (by kernel_rfl) (fun _ _ _ h => h) (Or.inl ⟨by rfl, ?_⟩) (by assumption) ?_; (focus (intro w hSw; have hc := BlkAt.cell hSw h5.out; clear hSw; go_simp)); (try simp only [Act.put, List.setIfInBounds_toArray, List.set_cons_zero, List.set_cons_succ]))
  (refine wpAnyH_take (i := 12) (v := .pointer (some ⟨g, 6, none⟩)) rfl (by kernel_rfl) (by kernel_rfl) (by kernel_rfl) (fun _ _ _ h => h) (Or.inl ⟨by rfl, ?_⟩) (by assumption) ?_; (focus (intro w hSw; clear hSw; go_simp)); (try simp only [Act.put, List.setIfInBounds_toArray, List.set_cons_zero, List.set_cons_succ]))
  refine wpAnyH_take (i := 13) (v := .agg #[.int .u64 v.num, .int .u64 v.ce, .int .i64 v.cr, .int .u64 v.mem, .slice a n c]) rfl (by kernel_rfl) (by kernel_rfl) (by kernel_rfl) (fun _ _ _ h => h) ?_ (by assumption) ?_
  · exact yieldsIf_load_mid (by kernel_rfl) 38 (.tmp 15) (by kernel_rfl) g 6 (by kernel_rfl) [.int .u64 v.num, .int .u64 v.ce, .int .i64 v.cr, .int .u64 v.mem, .slice a n c] _ (fun W (hW : BlkAt W _ _ _) => hW.range h6.out) Tryd.underlying38 rfl Tryd.recI
  (try simp only [Act.put, List.setIfInBounds_toArray, List.set_cons_zero, List.set_cons_succ])
  (refine wpAnyH_take (i := 15) (v := .pointer (some ⟨g, 11, none⟩)) rfl (by kernel_rfl) (by kernel_rfl) (by kernel_rfl) (fun _ _ _ h => h) (Or.inl ⟨by rfl, ?_⟩) (by assumption) ?_; (focus (intro w hSw; clear hSw; go_simp)); (try simp only [Act.put, List.setIfInBounds_toArray, List.set_cons_zero, List.set_cons_succ]))
  refine wpAnyH_take (i := 16) (v := .agg #[.int .u64 u.num, .int .u64 u.ce, .int .i64 u.cr, .int .u64 u.mem]) rfl (by kernel_rfl) (by kernel_rfl) (by kernel_rfl) (fun _ _ _ h => h) ?_ (by assumption) ?_
  · exact yieldsIf_load_mid (by kernel_rfl) 35 (.tmp 18) (by kernel_rfl) g 11 (by kernel_rfl) [.int .u64 u.num, .int .u64 u.ce, .int .i64 u.cr, .int .u64 u.mem] _ (fun W (hW : BlkAt W _ _ _) => hW.range h11.out) Tryd.underlying35 rfl (Tryd.viewI _)
  (try simp only [Act.put, List.setIfInBounds_toArray, List.set_cons_zero, List.set_cons_succ])
  (refine wpAnyH_take (i := 17) (v := .pointer (some ⟨g, 15, none⟩)) rfl (by kernel_rfl) (by kernel_rfl) (by kernel_rfl) (fun _ _ _ h => h) (Or.inl ⟨by rfl, ?_⟩) (by assumption) ?_; (focus (intro w hSw; clear hSw; go_simp)); (try simp only [Act.put, List.setIfInBounds_toArray, List.set_cons_zero, List.set_cons_succ]))
  (refine wpAnyH_take (i := 18) (v := .int .u64 nu) rfl (by kernel_rfl) (by kernel_rfl) (by kernel_rfl) (fun _ _ _ h => h) (Or.inl ⟨by rfl, ?_⟩) (by assumption) ?_; (focus (intro w hSw; have hc := BlkAt.cell hSw h15.out; clear hSw; go_simp)); (try simp only [Act.put, List.setIfInBounds_toArray, List.set_cons_zero, List.set_cons_succ]))
  (refine wpAnyH_take (i := 19) (v := .pointer (some ⟨g, 16, none⟩)) rfl (by kernel_rfl) (by kernel_rfl) (by kernel_rfl) (fun _ _ _ h => h) (Or.inl ⟨by rfl, ?_⟩) (by assumption) ?_; (focus (intro w hSw; clear hSw; go_simp)); (try simp only [Act.put, List.setIfInBounds_toArray, List.set_cons_zero, List.set_cons_succ]))
  (refine wpAnyH_take (i := 20) (v := .int .i64 ix) rfl (by kernel_rfl) (by kernel_rfl) (by kernel_rfl) (fun _ _ _ h => h) (Or.inl ⟨by rfl, ?_⟩) (by assumption) ?_; (focus (intro w hSw; have hc := BlkAt.cell hSw h16.out; clear hSw; go_simp)); (try simp only [Act.put, List.setIfInBounds_toArray, List.set_cons_zero, List.set_cons_succ]))
  (refine wpAnyH_take (i := 21) (v := .pointer (some ⟨g, 17, none⟩)) rfl (by kernel_rfl) (by kernel_rfl) (by kernel_rfl) (fun _ _ _ h => h) (Or.inl ⟨by rfl, ?_⟩) (by assumption) ?_; (focus (intro w hSw; clear hSw; go_simp)); (try simp only [Act.put, List.setIfInBounds_toArray, List.set_cons_zero, List.set_cons_succ]))
  (refine wpAnyH_take (i := 22) (v := .int .i64 tt) rfl (by kernel_rfl) (by kernel_rfl) (by kernel_rfl) (fun _ _ _ h => h) (Or.inl ⟨by rfl, ?_⟩) (by assumption) ?_; (focus (intro w hSw; have hc := BlkAt.cell hSw h17.out; clear hSw; go_simp)); (try simp only [Act.put, List.setIfInBounds_toArray, List.set_cons_zero, List.set_cons_succ]))
  (refine wpAnyH_ready (rs := [14]) (by kernel_rfl) (by simp) ?_; refine AllReadyH.cons rfl (fun K hK => ?_) AllReadyH.nil; go_simp)
  refine (HR.out _).mono ?_
  rintro e w2 ⟨rfl, hb⟩
  have b0 := Lib.hid ((Below.refl _ wS).drew.trans (hb.mono (Nat.le_refl _)))
  replace BA := (BA.drewN 1).below hb BA.lt
  replace BR := (BR.drewN 1).below hb BR.lt
  refine hK.out _ _ BA (fun hHeld2 => ?_)
  clear hK K hHeld hb
  (refine wpAnyH_ready (rs := [23]) (by kernel_rfl) (by simp) ?_; refine AllReadyH.cons rfl (fun K hK => ?_) AllReadyH.nil)
  refine step_build_to (some 26) rfl rfl 85 #[(0, .tmp 4), (1, .tmp 6), (2, .tmp 8), (3, .tmp 10), (4, .tmp 12), (5, .tmp 14), (6, .tmp 17), (7, .tmp 19), (8, .tmp 21), (9, .tmp 23), (10, .tmp 25)] rfl (by rw [List.map_toArray]; exact hBd.out) ?_
  (try simp only [Act.put, List.setIfInBounds_toArray, List.set_cons_zero, List.set_cons_succ])
  refine hK.out _ _ BA (fun hHeld3 => ?_)
  clear hK K hHeld2
  (refine wpAnyH_ready (rs := [24]) (by kernel_rfl) (by simp) ?_; refine AllReadyH.cons rfl (fun K hK => ?_) AllReadyH.nil)
  refine step_blk_store_to (cs := cs) none rfl rfl (.tmp 2) (.tmp 26) rfl rfl rfl BR (by rw [hsz.out]; exact Tryd.riI) (by rw [hsz.out, hzs.out]) hone.out ?_
  intro w3 hB3 hK3 hs3
  (try simp only [Act.put, List.setIfInBounds_toArray, List.set_cons_zero, List.set_cons_succ])
  refine hK.out _ _ (hK3.blk BA (by omega)) (fun hHeld4 => ?_)
  clear hK K hHeld3
  refine wpAnyH_done (by kernel_rfl) ?_ _
  have E1 : Below w.heap.size w wS := by rw [hg.out]; exact E
  have E2 := belS E1 b0.out
  have e3 := Kp.below E2 hK3 (by rw [hg.out]; omega) E2.size
  have e4 : Below g w w3 := by rw [hg.out] at e3; exact e3
  clear E1 E2
  go_wp2
  exact bodyPost_ret (results_cell_row rfl _ _ (g + 1) 85 _ (0, 0) _ rfl hB3 Tryd.underlying85 rfl (by rw [hsz.out]; exact Tryd.riI)) rfl ⟨rfl, by first | exact e3 | exact e4⟩
set_option maxHeartbeats 3200000 in
set_option maxRecDepth 100000 in
theorem items_any (x : Itm) (a a' : Option Addr) (n c c' : Nat) (w : World) (h1 : RdV w a n c x.rc.pend) (h2 : RdV w a' n c' x.rc.pend) :
    Calls Tryd.prog 37 #[.agg #[.int .i64 x.kind, .string x.data, .int .u32 x.inc, .int .u64 x.holds, .bool x.has, .bool x.direct, .int .u64 x.rc.last.num, .int .u64 x.rc.last.ce, .int .i64 x.rc.last.cr, .int .u64 x.rc.last.mem, .slice a n c, .int .u64 x.view.num, .int .u64 x.view.ce, .int .i64 x.view.cr, .int .u64 x.view.mem, .int .u64 x.number, .int .i64 x.index, .int .i64 x.total], .agg #[.int .i64 x.kind, .string x.data, .int .u32 x.inc, .int .u64 x.holds, .bool x.has, .bool x.direct, .int .u64 x.rc.last.num, .int .u64 x.rc.last.ce, .int .i64 x.rc.last.cr, .int .u64 x.rc.last.mem, .slice a' n c', .int .u64 x.view.num, .int .u64 x.view.ce, .int .i64 x.view.cr, .int .u64 x.view.mem, .int .u64 x.number, .int .i64 x.index, .int .i64 x.total]] w fun e w' => e = .returned (.bool true) ∧ Below w.heap.size w w' := by
  obtain ⟨wS, hwS⟩ : ∃ wS, wS = (w.alloc (.cells #[.int .i64 x.kind, .string x.data, .int .u32 x.inc, .int .u64 x.holds, .bool x.has, .bool x.direct, .int .u64 x.rc.last.num, .int .u64 x.rc.last.ce, .int .i64 x.rc.last.cr, .int .u64 x.rc.last.mem, .slice a n c, .int .u64 x.view.num, .int .u64 x.view.ce, .int .i64 x.view.cr, .int .u64 x.view.mem, .int .u64 x.number, .int .i64 x.index, .int .i64 x.total] 85)).alloc (.cells #[.int .i64 x.kind, .string x.data, .int .u32 x.inc, .int .u64 x.holds, .bool x.has, .bool x.direct, .int .u64 x.rc.last.num, .int .u64 x.rc.last.ce, .int .i64 x.rc.last.cr, .int .u64 x.rc.last.mem, .slice a' n c', .int .u64 x.view.num, .int .u64 x.view.ce, .int .i64 x.view.cr, .int .u64 x.view.mem, .int .u64 x.number, .int .i64 x.index, .int .i64 x.total] 85) := ⟨_, rfl⟩
  have E : Below w.heap.size w wS := by rw [hwS]; exact ((Below.refl _ _).alloc (Nat.le_refl _) _).alloc (by simp) _
  have BA : BlkAt wS w.heap.size 85 #[.int .i64 x.kind, .string x.data, .int .u32 x.inc, .int .u64 x.holds, .bool x.has, .bool x.direct, .int .u64 x.rc.last.num, .int .u64 x.rc.last.ce, .int .i64 x.rc.last.cr, .int .u64 x.rc.last.mem, .slice a n c, .int .u64 x.view.num, .int .u64 x.view.ce, .int .i64 x.view.cr, .int .u64 x.view.mem, .int .u64 x.number, .int .i64 x.index, .int .i64 x.total] := by rw [hwS]; exact (BlkAt.new w _ _).alloc _
  have BB : BlkAt wS (w.heap.size + 1) 85 #[.int .i64 x.kind, .string x.data, .int .u32 x.inc, .int .u64 x.holds, .bool x.has, .bool x.direct, .int .u64 x.rc.last.num, .int .u64 x.rc.last.ce, .int .i64 x.rc.last.cr, .int .u64 x.rc.last.mem, .slice a' n c', .int .u64 x.view.num, .int .u64 x.view.ce, .int .i64 x.view.cr, .int .u64 x.view.mem, .int .u64 x.number, .int .i64 x.index, .int .i64 x.total] := by
    rw [hwS]
    have := BlkAt.new (w.alloc (.cells #[.int .i64 x.kind, .string x.data, .int .u32 x.inc, .int .u64 x.holds, .bool x.has, .bool x.direct, .int .u64 x.rc.last.num, .int .u64 x.rc.last.ce, .int .i64 x.rc.last.cr, .int .u64 x.rc.last.mem, .slice a n c, .int .u64 x.view.num, .int .u64 x.view.ce, .int .i64 x.view.cr, .int .u64 x.view.mem, .int .u64 x.number, .int .i64 x.index, .int .i64 x.total] 85)) 85 #[.int .i64 x.kind, .string x.data, .int .u32 x.inc, .int .u64 x.holds, .bool x.has, .bool x.direct, .int .u64 x.rc.last.num, .int .u64 x.rc.last.ce, .int .i64 x.rc.last.cr, .int .u64 x.rc.last.mem, .slice a' n c', .int .u64 x.view.num, .int .u64 x.view.ce, .int .i64 x.view.cr, .int .u64 x.view.mem, .int .u64 x.number, .int .i64 x.index, .int .i64 x.total]
    simpa using this
  have HV := Lib.hid (fun W (h1 : RdV W a n c x.rc.pend) (h2 : RdV W a' n c' x.rc.pend) => same_any x.rc.last x.rc.pend a a' n c c' W h1 h2)
  have HE := fun W => run_eql_vw W x.view x.view
  rw [show veq x.view x.view = true from veq_eq.2 rfl] at HE
  replace HE := Lib.hid HE
  replace h1 := h1.below E (Nat.le_refl _)
  replace h2 := h2.below E (Nat.le_refl _)
  have c0 := BA.cell (i := 0) rfl
  have c1 := BA.cell (i := 1) rfl
  have c2 := BA.cell (i := 2) rfl
  have c3 := BA.cell (i := 3) rfl
  have c4 := BA.cell (i := 4) rfl
  have c5 := BA.cell (i := 5) rfl
  have d0 := BB.cell (i := 0) rfl
  have d1 := BB.cell (i := 1) rfl
  have d2 := BB.cell (i := 2) rfl
  have d3 := BB.cell (i := 3) rfl
  have d4 := BB.cell (i := 4) rfl
  have d5 := BB.cell (i := 5) rfl
  replace hwS := Lib.hid hwS
  go_enter Tryd.func37, Tryd.ntmps37
  go_wp2_with (first
    | (refine wpList_blk_box rfl (.tmp 0) rfl rfl w.heap.size rfl ?_)
    | (refine wpList_blk_box rfl (.tmp 1) rfl rfl (w.heap.size + 1) (by simp) ?_; rw [← hwS.out])
    | (refine wpList_blk_get_g (cs := #[.int .u64 x.rc.last.num, .int .u64 x.rc.last.ce, .int .i64 x.rc.last.cr, .int .u64 x.rc.last.mem, .slice a n c]) (by first | rfl | simp [Region.wanted, go_sem]) (.tmp 46) rfl rfl BA Tryd.underlying60 rfl (Tryd.rrI _ _) (get5 rfl rfl rfl rfl rfl) ?_)
    | (refine wpList_blk_get_g (cs := #[.int .u64 x.rc.last.num, .int .u64 x.rc.last.ce, .int .i64 x.rc.last.cr, .int .u64 x.rc.last.mem, .slice a' n c']) (by first | rfl | simp [Region.wanted, go_sem]) (.tmp 48) rfl rfl BB Tryd.underlying60 rfl (Tryd.rrI _ _) (get5 rfl rfl rfl rfl rfl) ?_))
  refine (HV.out _ h1 h2).mono ?_
  rintro e w2 ⟨rfl, hb⟩
  replace E := belS E hb
  replace BA := BA.below hb BA.lt
  replace BB := BB.below hb BB.lt
  clear c0 c1 c2 c3 c4 c5 d0 d1 d2 d3 d4 d5 h1 h2 HV hb hwS
  have c6 := BA.cell (i := 15) rfl
  have c7 := BA.cell (i := 16) rfl
  have c8 := BA.cell (i := 17) rfl
  have d6 := BB.cell (i := 15) rfl
  have d7 := BB.cell (i := 16) rfl
  have d8 := BB.cell (i := 17) rfl
  go_wp2_with (first
    | (refine wpList_blk_get_g (cs := #[.int .u64 x.view.num, .int .u64 x.view.ce, .int .i64 x.view.cr, .int .u64 x.view.mem]) (by first | rfl | simp [Region.wanted, go_sem]) (.tmp 53) rfl rfl BA Tryd.underlying35 rfl (Tryd.viewI _) (get4 rfl rfl rfl rfl) ?_)
    | (refine wpList_blk_get_g (cs := #[.int .u64 x.view.num, .int .u64 x.view.ce, .int .i64 x.view.cr, .int .u64 x.view.mem]) (by first | rfl | simp [Region.wanted, go_sem]) (.tmp 55) rfl rfl BB Tryd.underlying35 rfl (Tryd.viewI _) (get4 rfl rfl rfl rfl) ?_)
    | (refine wpList_agg_g (by first | rfl | simp [Region.wanted, go_sem]) Tryd.viewG (.tmp 54) (.tmp 56) _ rfl rfl rfl HE.out ?_))
  go_ret
  exact ⟨rfl, E⟩
theorem itm_eq (x : Iw) (w : World) : Calls Tryd.prog 38 #[.agg (iwA x)] w fun e w' => e = .returned (.agg (iwA x)) ∧ Below w.heap.size w w' :=
  item_walk _ _ _ _ _ _ _ _ _ _ _ _ _ _ (iwA x) (iwA .zero) rfl rfl w
theorem items_eq (x y : Iw) (h : x.v = y.v) (w : World) (h1 : RdV w x.pa x.pn x.pc x.v.rc.pend) (h2 : RdV w y.pa y.pn y.pc y.v.rc.pend) : Calls Tryd.prog 37 #[.agg (iwA x), .agg (iwA y)] w fun e w' => e = .returned (.bool true) ∧ Below w.heap.size w w' := by
  obtain ⟨xv, xa, xn, xc⟩ := x
  obtain ⟨yv, ya, yn, yc⟩ := y
  simp only at h
  subst h
  obtain rfl : xn = yn := (RdV.len h1).symm.trans (RdV.len h2)
  exact items_any xv xa ya xn xc yc w h1 h2
end Go.Proofs.YteeeikkapnchlaaDoor
