/- the walk of Add -/
import Derived.Test.YteeeikkapnchlaaDoorVoteJ
import Derived.Deep.RegionLaw
namespace Go.Proofs.YteeeikkapnchlaaDoor
set_option linter.unusedSimpArgs false
set_option linter.unusedVariables false
open Go.RowKit Go.Sort

/-- 'append(v, x...)' in a drawn region: v the call's own, x from anywhere but nil. -/
theorem step_append_rd {P : Program} {w : World} {ops : Array Oper} {o : Oper} {a : Act} {K : Act → World → Prop} {Q : Exit → Act → World → Prop} {E' : Prop} {t e : TypeId} {z : Value} {size bytes : Nat} (E : Elt P t e z size bytes) (hgd : o.guard = none) (s x : Operand)
    (ho : o.op = .call { callee := .builtin .append, args := #[s, x], argTypes := #[t, t] })
    {base : Nat} {v : Value} {n : Nat} {xs : List Value} (hs : a.eval s = v) (hown : w.ownsRow base e size v n xs)
    {b off m c : Nat} {news : List Value} (hx : a.eval x = .slice (some ⟨b, off, none⟩) m c) (hr : Rd w size (some ⟨b, off, none⟩) m c news) (hm : 0 < m) (h1 : ∀ u ∈ news, u.oneCell' = true)
    (h63 : n + m ≤ maxLen) (hbytes : (n + m) * bytes ≤ 140737488355328) (hbase : base ≤ w.heap.size)
    (h : ∀ v' w', w'.ownsRow base e size v' (n + m) (xs ++ news) → w.grownBy w' v.ownBlock → K (a.put o.dst v') w') : if Region.wanted o (yielded ops a.tmps) = true then Oper.wp P o a w K Q else E' := by
  obtain ⟨i, hi, hz0, hz1, hz2⟩ := info_parts E.info
  rw [if_pos (by simp [Region.wanted, hgd])]
  refine wp_append_own w s x t ho base e i z size bytes E.ty hi hz0 hz1 hz2 E.cells E.pos v n xs hs hown ⟨b, off, none⟩ m c news hx hr.length_eq (fun j u hu => ?_) h1 h63 hbytes hbase (fun v' w' h2 h3 _ => h v' w' h2 h3)
  rw [add_zero_off]; exact hr.at hu
set_option maxHeartbeats 1600000 in
set_option maxRecDepth 100000 in
theorem add_no (x u : Vw) (pa : Option Addr) (pn pc : Nat) (hn : 32 ≤ pn) (hn2 : pn ≤ 9223372036854775807) (w : World) :
    Calls Tryd.prog 43 #[.agg #[.int .u64 x.num, .int .u64 x.ce, .int .i64 x.cr, .int .u64 x.mem, .slice pa pn pc], .agg #[.int .u64 u.num, .int .u64 u.ce, .int .i64 u.cr, .int .u64 u.mem]] w fun e w' => e = .returned (.tuple #[.agg #[.int .u64 x.num, .int .u64 x.ce, .int .i64 x.cr, .int .u64 x.mem, .slice pa pn pc], .bool false]) ∧ Below w.heap.size w w' := by
  go_enter Tryd.func43, Tryd.ntmps43
  go_wp2
  refine bodyPost_ret (v := .tuple #[.agg #[.int .u64 x.num, .int .u64 x.ce, .int .i64 x.cr, .int .u64 x.mem, .slice pa pn pc], .bool false]) (by simp [results, Tryd.results43, go_sem]) rfl ⟨rfl, ?_⟩
  exact (((Below.refl _ _).alloc (Nat.le_refl _) _).alloc (by simp) _).alloc (by simp; omega) _
theorem results_row1 {P : Program} {fn : Func} {p q : Tmp} {ty : TypeId} (h : fn.results = #[.cell p ty, .tmp q]) (tmps : Array Value) (w : World) (g : Nat) (t : TypeId) (cs : Array Value) (fr : Nat × Nat) (d : TypeDesc)
    (hp : tmps.getD p undef = .pointer (some ⟨g, 0, none⟩)) (hg : w.heap[g]? = some (.cells cs t fr))
    (hu : P.underlying ty = some d) (hd : (match d with | .struct _ | .array _ _ => true | _ => false) = true) (hi : (P.info? ty).map (·.size) = some cs.size) :
    (results fn tmps).run P w = .ok (.tuple #[.agg cs, tmps.getD q undef]) w := by
  have hp' : tmps[p]?.getD undef = .pointer (some ⟨g, 0, none⟩) := by simpa using hp
  simp [results, h, hp', asAddr, run_loadVar_row w g t ty cs fr d hg hu hd hi, Result.andThen]
theorem vcells {W : World} {b t : Nat} {u : Vw} (h : BlkAt W b t #[.int .u64 u.num, .int .u64 u.ce, .int .i64 u.cr, .int .u64 u.mem]) : W.cell? ⟨b, 0, none⟩ = some (.int .u64 u.num) ∧ W.cell? ⟨b, 1, none⟩ = some (.int .u64 u.ce) ∧ W.cell? ⟨b, 2, none⟩ = some (.int .i64 u.cr) ∧ W.cell? ⟨b, 3, none⟩ = some (.int .u64 u.mem) := ⟨h.cell rfl, h.cell rfl, h.cell rfl, h.cell rfl⟩
theorem vwF_one (u : Vw) : ∀ v ∈ vwF u, v.oneCell' = true := by
  intro v hv
  simp [vwF] at hv
  rcases hv with rfl | rfl | rfl | rfl <;> rfl
theorem Rd.vw1 {w : World} {u : Vw} {e : TypeId} {b : Nat} (hb : b = w.heap.size) : Rd (w.alloc (.cells #[.int .u64 u.num, .int .u64 u.ce, .int .i64 u.cr, .int .u64 u.mem] e)) 4 (some ⟨b, 0, none⟩) 1 1 (vwF u) := by
  subst hb
  refine ⟨⟨rfl, Nat.le_refl _, by decide, by simp⟩, .inr ⟨_, _, rfl, by simp, fun j v hv => ?_⟩⟩
  exact ((BlkAt.new w e #[.int .u64 u.num, .int .u64 u.ce, .int .i64 u.cr, .int .u64 u.mem]).cell (by simpa [vwF] using hv))
set_option maxHeartbeats 3200000 in
set_option maxRecDepth 100000 in
theorem add_new (x u : Vw) (pa : Option Addr) (pn pc : Nat) (pd : List Vw) (hn : pn < 32) (w : World) (hr : RdV w pa pn pc pd) :
    Calls Tryd.prog 43 #[.agg #[.int .u64 x.num, .int .u64 x.ce, .int .i64 x.cr, .int .u64 x.mem, .slice pa pn pc], .agg #[.int .u64 u.num, .int .u64 u.ce, .int .i64 u.cr, .int .u64 u.mem]] w fun e w' => ∃ a c, e = .returned (.tuple #[.agg #[.int .u64 x.num, .int .u64 x.ce, .int .i64 x.cr, .int .u64 x.mem, .slice a (pn + 1) c], .bool true]) ∧ RdV w' a (pn + 1) c (pd ++ [u]) ∧ Below w.heap.size w w' ∧ ∀ g off, a = some ⟨g, off, none⟩ → w.heap.size ≤ g := by
  obtain ⟨W3, hW3⟩ : ∃ W, W = ((w.alloc (.cells #[.int .u64 x.num, .int .u64 x.ce, .int .i64 x.cr, .int .u64 x.mem, .slice pa pn pc] 38)).alloc (.cells #[.int .u64 u.num, .int .u64 u.ce, .int .i64 u.cr, .int .u64 u.mem] 35)).alloc (.cells #[.int .u64 0, .int .u64 0, .int .i64 0, .int .u64 0, .slice none 0 0] 38) := ⟨_, rfl⟩
  have hb : Below w.heap.size w W3 := by rw [hW3]; exact (((Below.refl _ _).alloc (Nat.le_refl _) _).alloc (by simp) _).alloc (by simp; omega) _
  have hA : BlkAt W3 w.heap.size 38 #[.int .u64 x.num, .int .u64 x.ce, .int .i64 x.cr, .int .u64 x.mem, .slice pa pn pc] := by rw [hW3]; exact BlkAt.alloc (BlkAt.alloc (BlkAt.new w _ _) _) _
  have hB : BlkAt W3 (w.heap.size + 1) 35 #[.int .u64 u.num, .int .u64 u.ce, .int .i64 u.cr, .int .u64 u.mem] := by rw [hW3]; exact BlkAt.alloc (by simpa using BlkAt.new (w.alloc (.cells #[.int .u64 x.num, .int .u64 x.ce, .int .i64 x.cr, .int .u64 x.mem, .slice pa pn pc] 38)) 35 #[.int .u64 u.num, .int .u64 u.ce, .int .i64 u.cr, .int .u64 u.mem]) _
  have hC : BlkAt W3 (w.heap.size + 2) 38 #[.int .u64 0, .int .u64 0, .int .i64 0, .int .u64 0, .slice none 0 0] := by rw [hW3]; simpa using BlkAt.new ((w.alloc (.cells #[.int .u64 x.num, .int .u64 x.ce, .int .i64 x.cr, .int .u64 x.mem, .slice pa pn pc] 38)).alloc (.cells #[.int .u64 u.num, .int .u64 u.ce, .int .i64 u.cr, .int .u64 u.mem] 35)) 38 #[.int .u64 0, .int .u64 0, .int .i64 0, .int .u64 0, .slice none 0 0]
  have hs : W3.heap.size = w.heap.size + 3 := by rw [hW3]; simp
  have hs1 : w.heap.size + 3 ≤ W3.heap.size := Nat.le_of_eq hs.symm
  have hr3 := hr.below hb (Nat.le_refl _)
  have HCl := Lib.hid (fun W (h : Below W3.heap.size W3 W) => clone_any pa pn pc pd (by omega) W (hr3.below h (Nat.le_refl _)))
  have HW := Lib.hid hW3.symm
  have c4 : W3.cell? ⟨w.heap.size, 4, none⟩ = some (.slice pa pn pc) := hA.cell rfl
  have u0 : W3.cell? ⟨w.heap.size + 1, 0, none⟩ = some (.int .u64 u.num) := hB.cell rfl
  have u1 : W3.cell? ⟨w.heap.size + 1, 1, none⟩ = some (.int .u64 u.ce) := hB.cell rfl
  have u2 : W3.cell? ⟨w.heap.size + 1, 2, none⟩ = some (.int .i64 u.cr) := hB.cell rfl
  have u3 : W3.cell? ⟨w.heap.size + 1, 3, none⟩ = some (.int .u64 u.mem) := hB.cell rfl
  have hnI : (pn : Int) < 32 := by omega
  have hB1 := hB.lt
  have c4a : ∀ o, (W3.alloc o).cell? ⟨w.heap.size, 4, none⟩ = some (.slice pa pn pc) := fun o => (hA.alloc o).cell rfl
  have hS : Below W3.heap.size W3 W3 := Below.refl _ _
  clear hs hW3
  go_enter Tryd.func43, Tryd.ntmps43
  go_wp2_with fail
  rw [HW.out]
  go_region_law (first
      | (go_simp; go_at_call 41; refine (HCl.out _ (by first | exact hS.drew | exact hS.drew.alloc (Nat.le_refl _) _)).mono ?_; rintro e w4 ⟨sv, rfl, hown, hb4⟩;
         have hb3 : Below W3.heap.size W3 w4 := (by first | exact belS hS.drew hb4 | exact belS (hS.drew.alloc (Nat.le_refl _) _) hb4);
         obtain ⟨z0, z1, z2, z3⟩ := vcells (hB.below hb3 hB1))
      | (refine step_append_rd Tryd.viewE rfl (.tmp 13) (.tmp 15) rfl (base := W3.heap.size) (v := sv) (n := pn) (xs := pd.flatMap vwF) (by simp [Act.eval, Act.put]) (own_below hown ((Below.refl _ _).alloc (Nat.le_refl _) _)) (b := w4.heap.size) (off := 0) (m := 1) (c := 1) (news := vwF u) (by simp [Act.eval, Act.put]) (Rd.vw1 rfl) (by decide) (vwF_one u) (by unfold maxLen; omega) (by omega) (by simpa using Nat.le_succ_of_le hb3.size) ?_; intro v' w' hown' hg'; obtain ⟨a', c', rfl, hr'⟩ := Rd.own hown';
         have hbF : Below W3.heap.size W3 w' := belG (hb3.alloc hb3.size _) hg' (by simpa using Nat.le_succ_of_le hb3.size) (fun g hg => (hown.lt g hg).1);
         have c4' : w'.cell? ⟨w.heap.size, 4, none⟩ = some (.slice pa pn pc) := (hA.below hbF hA.lt).cell rfl;
         have f4' : w'.frozen? ⟨w.heap.size, 4, none⟩ = false := (hA.below hbF hA.lt).fz 4)
      | (refine step_append_rd Tryd.viewE rfl (.tmp 13) (.tmp 15) rfl (base := W3.heap.size) (v := sv) (n := pn) (xs := pd.flatMap vwF) (by simp [Act.eval, Act.put]) (own_mono hown (by show W3.heap.size ≤ (W3.alloc _).heap.size; simp)) (b := W3.heap.size) (off := 0) (m := 1) (c := 1) (news := vwF u) (by simp [Act.eval, Act.put]) ((Rd.vw1 (w := W3.drew) rfl).below hb4 (Nat.le_refl _)) (by decide) (vwF_one u) (by unfold maxLen; omega) (by omega) hb3.size ?_; intro v' w' hown' hg'; obtain ⟨a', c', rfl, hr'⟩ := Rd.own hown';
         have hbF : Below W3.heap.size W3 w' := belG hb3 hg' hb3.size (fun g hg => Nat.le_trans (by show W3.heap.size ≤ (W3.alloc _).heap.size; simp) (hown.lt g hg).1);
         have c4' : w'.cell? ⟨w.heap.size, 4, none⟩ = some (.slice pa pn pc) := (hA.below hbF hA.lt).cell rfl;
         have f4' : w'.frozen? ⟨w.heap.size, 4, none⟩ = false := (hA.below hbF hA.lt).fz 4))
  all_goals
    have hA5 := hA.below hbF hA.lt
    have hB5 := hB.below hbF hB.lt
    have hC5 := (hC.below hbF hC.lt).other (a := ⟨w.heap.size, 4, none⟩) (by simp) (.slice a' (pn + 1) c')
    have hA6 := hA5.set 4 (.slice a' (pn + 1) c')
    simp only [List.setIfInBounds_toArray, List.set_cons_zero, List.set_cons_succ] at hA6
    have hge : ∀ g off, a' = some ⟨g, off, none⟩ → W3.heap.size ≤ g := by
      intro g off e
      rcases hown'.2 with ⟨hv, _⟩ | ⟨g', cap, cur, hv, hb', _⟩
      · simp at hv
      · simp at hv; rw [e] at hv; simp at hv; omega
    have hK5 := (Kp.refl w.heap.size w').setCell ⟨w.heap.size, 4, none⟩ rfl (.slice a' (pn + 1) c')
    generalize w'.setCell ⟨w.heap.size, 4, none⟩ (.slice a' (pn + 1) c') = w5 at *
    go_wp2_with (first
      | (refine wpList_blk_load rfl (.tmp 2) rfl Tryd.underlying38 rfl rfl hA6 Tryd.recI ?_)
      | (refine wpList_blk_store rfl (.tmp 4) (.tmp 18) rfl rfl rfl hC5 Tryd.recI rfl (by simp [Value.oneCell']) ?_; intro w6 hC6 hK6 hsz6))
    refine bodyPost_ret (results_row1 rfl _ _ (w.heap.size + 2) 38 _ (0, 0) _ rfl hC6 Tryd.underlying38 rfl Tryd.recI) rfl ⟨a', c', rfl, ?_, ?_, fun g off e => Nat.le_trans hb.size (hge g off e)⟩
    · have h6 := hK6.rd (hK5.rd hr' (fun g off e => by have := hge g off e; omega)) (fun g off e => by have := hge g off e; omega)
      show Rd _ 4 a' (pn + 1) c' ((pd ++ [u]).flatMap vwF)
      rw [List.flatMap_append]
      simpa using h6
    · have hall : Below w.heap.size w w' := hb.trans (hbF.mono hb.size)
      exact Kp.below (Kp.below hall hK5 (Nat.le_refl _) hall.size) hK6 (by omega) (Nat.le_trans hall.size hK5.size)
theorem add_yes (x u : Vw) (pa : Option Addr) (pn pc : Nat) (pd : List Vw) (hn : pn < 32) (w : World) (hr : RdV w pa pn pc pd) :
    Calls Tryd.prog 43 #[.agg #[.int .u64 x.num, .int .u64 x.ce, .int .i64 x.cr, .int .u64 x.mem, .slice pa pn pc], .agg #[.int .u64 u.num, .int .u64 u.ce, .int .i64 u.cr, .int .u64 u.mem]] w fun e w' => ∃ a c, e = .returned (.tuple #[.agg #[.int .u64 x.num, .int .u64 x.ce, .int .i64 x.cr, .int .u64 x.mem, .slice a (pn + 1) c], .bool true]) ∧ RdV w' a (pn + 1) c (pd ++ [u]) ∧ Below w.heap.size w w' :=
  (add_new x u pa pn pc pd hn w hr).mono fun _ _ ⟨a, c, h1, h2, h3, _⟩ => ⟨a, c, h1, h2, h3⟩
end Go.Proofs.YteeeikkapnchlaaDoor
