/- log: the walks of flags, PrintItem -/
import Derived.Test.YtdfnpaaejjediaaLogF
import Derived.Deep.RegionLaw
import Derived.Lib.AppendStr
namespace Go.Proofs.Ytdfnpaaejjediaa
open Go.RowKit

theorem icells {W : World} {g : Nat} {t : TypeId} {v0 v1 v2 v3 v4 v5 v6 v7 v8 v9 v10 v11 v12 v13 v14 v15 v16 v17 : Value} (h : BlkAt W g t #[v0, v1, v2, v3, v4, v5, v6, v7, v8, v9, v10, v11, v12, v13, v14, v15, v16, v17]) : (W.cell? ⟨g, 0, none⟩ = some v0 ∧ W.cell? ⟨g, 1, none⟩ = some v1 ∧ W.cell? ⟨g, 2, none⟩ = some v2 ∧ W.cell? ⟨g, 3, none⟩ = some v3 ∧ W.cell? ⟨g, 4, none⟩ = some v4 ∧ W.cell? ⟨g, 5, none⟩ = some v5) ∧ (W.cell? ⟨g, 6, none⟩ = some v6 ∧ W.cell? ⟨g, 7, none⟩ = some v7 ∧ W.cell? ⟨g, 8, none⟩ = some v8 ∧ W.cell? ⟨g, 9, none⟩ = some v9 ∧ W.cell? ⟨g, 10, none⟩ = some v10) ∧ (W.cell? ⟨g, 11, none⟩ = some v11 ∧ W.cell? ⟨g, 12, none⟩ = some v12 ∧ W.cell? ⟨g, 13, none⟩ = some v13 ∧ W.cell? ⟨g, 14, none⟩ = some v14) ∧ (W.cell? ⟨g, 15, none⟩ = some v15 ∧ W.cell? ⟨g, 16, none⟩ = some v16 ∧ W.cell? ⟨g, 17, none⟩ = some v17) :=
  ⟨⟨h.cell rfl, h.cell rfl, h.cell rfl, h.cell rfl, h.cell rfl, h.cell rfl⟩, ⟨h.cell rfl, h.cell rfl, h.cell rfl, h.cell rfl, h.cell rfl⟩, ⟨h.cell rfl, h.cell rfl, h.cell rfl, h.cell rfl⟩, h.cell rfl, h.cell rfl, h.cell rfl⟩
set_option maxHeartbeats 1600000 in
set_option maxRecDepth 100000 in
theorem flags_any (x : It) (D : ByteArray) (pa : Option Addr) (pn pc : Nat) (w : World) :
    Calls Try.prog 31 #[.agg #[.int .i64 x.kind, .string D, .int .u32 x.inc, .int .u64 x.holds, .bool x.has, .bool x.direct, .int .u64 x.rc.last.num, .int .u64 x.rc.last.ce, .int .i64 x.rc.last.cr, .int .u64 x.rc.last.mem, .slice pa pn pc, .int .u64 x.view.num, .int .u64 x.view.ce, .int .i64 x.view.cr, .int .u64 x.view.mem, .int .u64 x.number, .int .i64 x.index, .int .i64 x.total]] w fun e w' => e = .returned (.int .u64 (flN x.has x.direct)) ∧ Below w.heap.size w w' := by
  obtain ⟨kind, data, inc, holds, has, direct, rc, view, number, index, total⟩ := x
  have hbA : Below w.heap.size w (w.alloc (.cells #[.int .i64 (⟨kind, data, inc, holds, has, direct, rc, view, number, index, total⟩ : It).kind, .string D, .int .u32 (⟨kind, data, inc, holds, has, direct, rc, view, number, index, total⟩ : It).inc, .int .u64 (⟨kind, data, inc, holds, has, direct, rc, view, number, index, total⟩ : It).holds, .bool (⟨kind, data, inc, holds, has, direct, rc, view, number, index, total⟩ : It).has, .bool (⟨kind, data, inc, holds, has, direct, rc, view, number, index, total⟩ : It).direct, .int .u64 (⟨kind, data, inc, holds, has, direct, rc, view, number, index, total⟩ : It).rc.last.num, .int .u64 (⟨kind, data, inc, holds, has, direct, rc, view, number, index, total⟩ : It).rc.last.ce, .int .i64 (⟨kind, data, inc, holds, has, direct, rc, view, number, index, total⟩ : It).rc.last.cr, .int .u64 (⟨kind, data, inc, holds, has, direct, rc, view, number, index, total⟩ : It).rc.last.mem, .slice pa pn pc, .int .u64 (⟨kind, data, inc, holds, has, direct, rc, view, number, index, total⟩ : It).view.num, .int .u64 (⟨kind, data, inc, holds, has, direct, rc, view, number, index, total⟩ : It).view.ce, .int .i64 (⟨kind, data, inc, holds, has, direct, rc, view, number, index, total⟩ : It).view.cr, .int .u64 (⟨kind, data, inc, holds, has, direct, rc, view, number, index, total⟩ : It).view.mem, .int .u64 (⟨kind, data, inc, holds, has, direct, rc, view, number, index, total⟩ : It).number, .int .i64 (⟨kind, data, inc, holds, has, direct, rc, view, number, index, total⟩ : It).index, .int .i64 (⟨kind, data, inc, holds, has, direct, rc, view, number, index, total⟩ : It).total] 34)) := (Below.refl _ _).alloc (Nat.le_refl _) _
  have b1 : bits BinOp.or IntKind.u64 0 1 = 1 := by decide
  have b2 : bits BinOp.or IntKind.u64 0 2 = 2 := by decide
  have b3 : bits BinOp.or IntKind.u64 1 2 = 3 := by decide
  cases has <;> cases direct
  all_goals
    go_enter Try.func31, Try.ntmps31
    go_wp2
    go_ret
    exact ⟨rfl, hbA⟩
theorem strCells_bI (s : ByteArray) : Lib.strCells s = (bI s).map (Value.int .u8) := by simp [Lib.strCells, bI, bL]
theorem step_append_str {P : Program} {w : World} {ops : Array Oper} {o : Oper} {a : Act} {K : Act → World → Prop} {Q : Exit → Act → World → Prop} {E' : Prop} {t u e : TypeId} (E : Elt P t e (.int .u8 0) 1 1) (hu : P.underlying u = some .string) (hgd : o.guard = none) (sl x : Operand)
    (ho : o.op = .call { callee := .builtin .append, args := #[sl, x], argTypes := #[t, u] })
    {base : Nat} {v : Value} {n : Nat} {xs : List Value} (hs : a.eval sl = v) (hown : w.ownsRow base e 1 v n xs) {s : ByteArray} (hx : a.eval x = .string s)
    (h63 : n + s.size ≤ maxLen) (hbytes : n + s.size ≤ 140737488355328) (hbase : base ≤ w.heap.size)
    (h : ∀ v' w', w'.ownsRow base e 1 v' (n + s.size) (xs ++ (bI s).map (Value.int .u8)) → w.grownBy w' v.ownBlock → K (a.put o.dst v') w') : if Region.wanted o (yielded ops a.tmps) = true then Oper.wp P o a w K Q else E' := by
  obtain ⟨i, hi, hz0, hz1, hz2⟩ := info_parts E.info
  rw [if_pos (by simp [Region.wanted, hgd])]
  obtain ⟨v', w', hr, h2, h3, h4⟩ := Lib.run_append_own_string (P := P) w base t u o.type e i E.ty hu hi hz0 hz1 hz2 v n xs hown s h63 hbytes hbase
  unfold Oper.wp execOp
  simp only [ho, resolve, invoke, builtin, Sem.run_bind, Sem.run_pure, Result.andThen_ok, List.map_toArray, List.map_cons, List.map_nil, hs, hx, hr]
  rw [strCells_bI] at h2
  exact h v' w' h2 h3
/-- What stands while an item is printed: the item's block, the two results' blocks; the writer lies behind them. -/
structure PiS (w W : World) (cs : Array Value) : Prop where
  bel : Below w.heap.size w W
  A : BlkAt W w.heap.size 34 cs
  T : BlkAt W (w.heap.size + 1) 9 #[.string ⟨#[]⟩]
  E : BlkAt W (w.heap.size + 1 + 1) 36 #[.int .i64 0]
section
variable {w W W' : World} {cs : Array Value}
theorem PiS.keep (h : PiS w W cs) (k : Kp (w.heap.size + 1 + 1 + 1) W W') : PiS w W' cs :=
  ⟨Kp.below h.bel k (by omega) h.bel.size, k.blk h.A (by omega), k.blk h.T (by omega), k.blk h.E (by omega)⟩
theorem PiS.below (h : PiS w W cs) (k : Below W.heap.size W W') : PiS w W' cs := h.keep (Kp.ofBelow k)
theorem PiS.res (h : PiS w W cs) : Res2 W (w.heap.size + 1) (w.heap.size + 1 + 1) (.string ⟨#[]⟩) (.int .i64 0) := Res2.mk2 h.T h.E (by omega)
theorem PiS.fin (h : PiS w W cs) (x y : Value) : Below w.heap.size w ((W.setCell ⟨w.heap.size + 1, 0, none⟩ x).setCell ⟨w.heap.size + 1 + 1, 0, none⟩ y) := (h.bel.setCell (by simp) _).setCell (by simp; omega) _
theorem PiS.start (w : World) (cs : Array Value) : ∃ W, W = (((w.alloc (.cells cs 34)).alloc (.cells #[.string ⟨#[]⟩] 9)).alloc (.cells #[.int .i64 0] 36)).alloc (.cells #[.slice none 0 0] 70) ∧ PiS w W cs ∧ WrAt w.heap.size W (w.heap.size + 1 + 1 + 1) [] := by
  refine ⟨_, rfl, ⟨?_, ?_, ?_, ?_⟩, ?_⟩
  · exact ((((Below.refl _ _).alloc (Nat.le_refl _) _).alloc (by simp) _).alloc (by simp <;> omega) _).alloc (by simp <;> omega) _
  · exact (((BlkAt.new w _ _).alloc _).alloc _).alloc _
  · have := BlkAt.new (w.alloc (.cells cs 34)) 9 #[.string ⟨#[]⟩]
    exact ((by simpa using this : BlkAt _ (w.heap.size + 1) _ _).alloc _).alloc _
  · have := BlkAt.new ((w.alloc (.cells cs 34)).alloc (.cells #[.string ⟨#[]⟩] 9)) 36 #[.int .i64 0]
    exact (by simpa using this : BlkAt _ (w.heap.size + 1 + 1) _ _).alloc _
  · have := WrAt.nil (B := w.heap.size) (w := ((w.alloc (.cells cs 34)).alloc (.cells #[.string ⟨#[]⟩] 9)).alloc (.cells #[.int .i64 0] 36)) (by simp <;> omega)
    simpa using this
end
def prI (x : It) : ByteArray := if itE x = 0 then strOfNums (itB x) else ⟨#[]⟩
set_option maxHeartbeats 3200000 in
set_option maxRecDepth 100000 in
theorem pitem_bad (x : It) (D : ByteArray) (pa : Option Addr) (pn pc : Nat) (w : World) (hk : x.kind < 1 ∨ 4 < x.kind) : Calls Try.prog 11 #[.agg #[.int .i64 x.kind, .string D, .int .u32 x.inc, .int .u64 x.holds, .bool x.has, .bool x.direct, .int .u64 x.rc.last.num, .int .u64 x.rc.last.ce, .int .i64 x.rc.last.cr, .int .u64 x.rc.last.mem, .slice pa pn pc, .int .u64 x.view.num, .int .u64 x.view.ce, .int .i64 x.view.cr, .int .u64 x.view.mem, .int .u64 x.number, .int .i64 x.index, .int .i64 x.total]] w fun e w' => e = .returned (.tuple #[.string (prI x), .int .i64 (itE x)]) ∧ Below w.heap.size w w' := by
  (have hmf : ∀ (fn : Fn) (first cap : Array Value) (w : World), (Instr.makeFunc fn first cap).run Try.prog w = .ok (.func fn first cap) w := fun _ _ _ _ => rfl)
  have HE : itE x = 10 := if_pos hk
  have HP := Lib.hid (show prI x = ⟨#[]⟩ from if_neg (by rw [HE]; decide))
  replace HE := Lib.hid HE
  obtain ⟨wS, hwS, PS, HW⟩ := PiS.start w #[.int .i64 x.kind, .string D, .int .u32 x.inc, .int .u64 x.holds, .bool x.has, .bool x.direct, .int .u64 x.rc.last.num, .int .u64 x.rc.last.ce, .int .i64 x.rc.last.cr, .int .u64 x.rc.last.mem, .slice pa pn pc, .int .u64 x.view.num, .int .u64 x.view.ce, .int .i64 x.view.cr, .int .u64 x.view.mem, .int .u64 x.number, .int .i64 x.index, .int .i64 x.total]
  replace hwS := Lib.hid hwS
  (obtain ⟨⟨c0, c1, c2, c3, c4, c5⟩, ⟨c6, c7, c8, c9, c10⟩, ⟨c11, c12, c13, c14⟩, c15, c16, c17⟩ := icells PS.A)
  go_enter_defers Try.func11, Try.ntmps11
  rcases hk with hk | hk
  all_goals
    go_wp2_with fail
    rw [← hwS.out]
    refine (bad_t (by first | (simp; done) | (simp; omega)) 10 _).mono ?_
    rintro e w' ⟨rfl, rfl⟩
    (unfold pan; (refine leaves_cons (f := 29) (args := #[.pointer (some ⟨w.heap.size + 1, 0, none⟩), .pointer (some ⟨w.heap.size + 1 + 1, 0, none⟩)]) (by simp) (by simp [go_sem]) ?_); refine (catchI_err _ _ _ _ _ (by decide) [] _ PS.res).mono ?_; rintro e u' w'' ⟨rfl, rfl, rfl⟩; obtain ⟨d0, d1, _, _, _⟩ := PS.res.set (.string ⟨#[]⟩) (.int .i64 10); have hbF := PS.fin (.string ⟨#[]⟩) (.int .i64 10); simp [Leaves, settle, results, Try.results11, go_sem, d0, d1]; exact ⟨⟨HP.out.symm, HE.out.symm⟩, hbF⟩)
set_option maxHeartbeats 3200000 in
set_option maxRecDepth 100000 in
theorem pitem3 (x : It) (D : ByteArray) (pa : Option Addr) (pn pc : Nat) (w : World) (hw : x.Wf) (hk : x.kind = 3) : Calls Try.prog 11 #[.agg #[.int .i64 x.kind, .string D, .int .u32 x.inc, .int .u64 x.holds, .bool x.has, .bool x.direct, .int .u64 x.rc.last.num, .int .u64 x.rc.last.ce, .int .i64 x.rc.last.cr, .int .u64 x.rc.last.mem, .slice pa pn pc, .int .u64 x.view.num, .int .u64 x.view.ce, .int .i64 x.view.cr, .int .u64 x.view.mem, .int .u64 x.number, .int .i64 x.index, .int .i64 x.total]] w fun e w' => e = .returned (.tuple #[.string (prI x), .int .i64 (itE x)]) ∧ Below w.heap.size w w' := by
  (have hmf : ∀ (fn : Fn) (first cap : Array Value) (w : World), (Instr.makeFunc fn first cap).run Try.prog w = .ok (.func fn first cap) w := fun _ _ _ _ => rfl)
  have HE : itE x = if x.view.ok = true then 0 else 1 := by unfold itE; rw [if_neg (by omega), if_neg (by omega), if_pos hk]
  have HB := Lib.hid (itB3 hk)
  have hvw := hw.2.2.2.1
  clear hw
  rw [hk]
  clear hk
  obtain ⟨wS, hwS, PS, HW⟩ := PiS.start w #[.int .i64 3, .string D, .int .u32 x.inc, .int .u64 x.holds, .bool x.has, .bool x.direct, .int .u64 x.rc.last.num, .int .u64 x.rc.last.ce, .int .i64 x.rc.last.cr, .int .u64 x.rc.last.mem, .slice pa pn pc, .int .u64 x.view.num, .int .u64 x.view.ce, .int .i64 x.view.cr, .int .u64 x.view.mem, .int .u64 x.number, .int .i64 x.index, .int .i64 x.total]
  replace hwS := Lib.hid hwS
  (obtain ⟨⟨c0, c1, c2, c3, c4, c5⟩, ⟨c6, c7, c8, c9, c10⟩, ⟨c11, c12, c13, c14⟩, c15, c16, c17⟩ := icells PS.A)
  cases ho : x.view.ok with
  | false =>
    rw [ho, if_neg (by decide)] at HE
    have HP := Lib.hid (show prI x = ⟨#[]⟩ from if_neg (by rw [HE]; decide))
    replace HE := Lib.hid HE
    have HV := Lib.hid (fun W => wview_no (w := W) (b := w.heap.size + 1 + 1 + 1) x.view ho)
    clear ho
    go_enter_defers Try.func11, Try.ntmps11
    go_wp2_with fail
    rw [← hwS.out]
    refine (bad_f (by first | (simp; done) | (simp; omega)) 10 _).mono ?_
    rintro e w' ⟨rfl, rfl⟩
    (go_wp2_with fail; (refine (wnum1 _ HW (by first | omega | (simp only [List.length_append, beL_len, vwB_len, recB_len, List.length_nil]; omega)) (by omega) (by omega)).mono ?_; rintro e wa ⟨rfl, hwa, kwa⟩; have Pwa := PS.keep kwa))
    (clear c0 c1 c2 c3 c4 c5 c6 c7 c8 c9 c10 c11 c12 c13 c14 c15 c16 c17)
    (obtain ⟨⟨c0, c1, c2, c3, c4, c5⟩, ⟨c6, c7, c8, c9, c10⟩, ⟨c11, c12, c13, c14⟩, c15, c16, c17⟩ := icells Pwa.A)
    go_wp2_with fail
    refine (HV.out _).mono ?_
    rintro e w' ⟨rfl, hb⟩
    have Pb := Pwa.below hb
    (unfold pan; (refine leaves_cons (f := 29) (args := #[.pointer (some ⟨w.heap.size + 1, 0, none⟩), .pointer (some ⟨w.heap.size + 1 + 1, 0, none⟩)]) (by simp) (by simp [go_sem]) ?_); refine (catchI_err _ _ _ _ _ (by decide) [] _ Pb.res).mono ?_; rintro e u' w'' ⟨rfl, rfl, rfl⟩; obtain ⟨d0, d1, _, _, _⟩ := Pb.res.set (.string ⟨#[]⟩) (.int .i64 1); have hbF := Pb.fin (.string ⟨#[]⟩) (.int .i64 1); simp [Leaves, settle, results, Try.results11, go_sem, d0, d1]; exact ⟨⟨HP.out.symm, HE.out.symm⟩, hbF⟩)
  | true =>
    rw [ho, if_pos rfl] at HE
    have HP := Lib.hid (show prI x = strOfNums (itB x) from if_pos HE)
    replace HE := Lib.hid HE
    have HV := Lib.hid (fun W l h hl => wview_yes (B := w.heap.size) (w := W) (l := l) (b := w.heap.size + 1 + 1 + 1) x.view hvw ho h hl)
    clear ho
    go_enter_defers Try.func11, Try.ntmps11
    go_wp2_with fail
    rw [← hwS.out]
    refine (bad_f (by first | (simp; done) | (simp; omega)) 10 _).mono ?_
    rintro e w' ⟨rfl, rfl⟩
    (go_wp2_with fail; (refine (wnum1 _ HW (by first | omega | (simp only [List.length_append, beL_len, vwB_len, recB_len, List.length_nil]; omega)) (by omega) (by omega)).mono ?_; rintro e wa ⟨rfl, hwa, kwa⟩; have Pwa := PS.keep kwa))
    (clear c0 c1 c2 c3 c4 c5 c6 c7 c8 c9 c10 c11 c12 c13 c14 c15 c16 c17)
    (obtain ⟨⟨c0, c1, c2, c3, c4, c5⟩, ⟨c6, c7, c8, c9, c10⟩, ⟨c11, c12, c13, c14⟩, c15, c16, c17⟩ := icells Pwa.A)
    go_wp2_with fail
    refine (HV.out _ _ hwa (by first | omega | (simp only [List.length_append, beL_len, vwB_len, recB_len, List.length_nil]; omega))).mono ?_
    rintro e wb ⟨rfl, hwb, kwb⟩
    have Pwb := Pwa.keep kwb
    (clear c0 c1 c2 c3 c4 c5 c6 c7 c8 c9 c10 c11 c12 c13 c14 c15 c16 c17)
    (obtain ⟨⟨c0, c1, c2, c3, c4, c5⟩, ⟨c6, c7, c8, c9, c10⟩, ⟨c11, c12, c13, c14⟩, c15, c16, c17⟩ := icells Pwb.A)
    obtain ⟨sa, sn, sc, s0, hr, hn⟩ := hwb.str
    have hnI : (sn : Int) ≤ 1024 := by have := hn.out; simp only [List.length_append, beL_len, vwB_len, List.length_nil] at this; omega
    (have R3 := Pwb.res; obtain ⟨t0, t1, t2, t3, _⟩ := Pwb.res; go_wp2_with (first | (go_at_call 30; refine (bad_f (by first | (simp; done) | (simp; omega)) 3 _).mono ?_; rintro e w' ⟨rfl, rfl⟩) | (refine wpList_bytes_str (t := 68) (d := 9) (e := 5) Try.underlying68 Try.underlying5 Try.underlying9 rfl (.tmp 112) rfl rfl hr ?_; intro S hS hS1 hS2)); (refine leaves_cons (f := 29) (args := #[.pointer (some ⟨w.heap.size + 1, 0, none⟩), .pointer (some ⟨w.heap.size + 1 + 1, 0, none⟩)]) (by simp) (by simp [go_sem]) ?_); refine (catchI_idle _ _ _).mono ?_; rintro e u' w'' ⟨rfl, rfl, rfl⟩; obtain ⟨d0, d1, _, _, _⟩ := R3.set (.string S) (.int .i64 0); have hbF := Pwb.fin (.string S) (.int .i64 0); have hS2 : S = prI x := (by rw [hS.out, HP.out, HB.out]; simp); simp [Leaves, settle, results, Try.results11, go_sem, d0, d1]; exact ⟨⟨hS2, HE.out.symm⟩, hbF⟩)
end Go.Proofs.Ytdfnpaaejjediaa
