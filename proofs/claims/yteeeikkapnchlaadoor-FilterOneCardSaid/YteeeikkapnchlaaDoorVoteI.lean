/- the walk of slices.DeleteFunc with Form's function -/
import Derived.Test.YteeeikkapnchlaaDoorVoteH
namespace Go.Proofs.YteeeikkapnchlaaDoor
set_option linter.unusedSimpArgs false
set_option linter.unusedVariables false
open Go.RowKit Go.Sort

theorem filter_take_s {α : Type} (q : α → Bool) (l : List α) (j : Nat) (hj : j < l.length) : (l.take (j + 1)).filter q = if q l[j] = true then (l.take j).filter q ++ [l[j]] else (l.take j).filter q := by
  rw [List.take_succ_eq_append_getElem hj, List.filter_append]
  cases h : q l[j] <;> simp [h]
theorem deleteF_none (u : Vw) (cb : Nat) (sa : Option Addr) (n c : Nat) (l : List Vw) (w : World) (hr : RdV w sa n c l) (hB : BlkAt w cb 35 #[.int .u64 u.num, .int .u64 u.ce, .int .i64 u.cr, .int .u64 u.mem]) (hno : ∀ v ∈ l, decide (v.num ≤ u.num) = false) :
    Calls Tryd.prog 44 #[.slice sa n c, .func (Fn.func 45) #[] #[.pointer (some ⟨cb, 0, none⟩)]] w fun e w' => e = .returned (.slice sa n c) ∧ Below w.heap.size w w' := by
  have HI := indexF_form u cb sa n c l w hr hB
  rw [show idxQ l (fun v => decide (v.num ≤ u.num)) = -1 from by unfold idxQ; rw [List.findIdx?_eq_none_iff.2 hno]] at HI
  have HI := Lib.hid HI
  go_enter Tryd.func44, Tryd.ntmps44
  go_wp2_with fail
  refine HI.out.mono ?_
  rintro e w' ⟨rfl, hb⟩
  go_wp2
  go_ret
  exact ⟨rfl, hb⟩
set_option maxHeartbeats 1600000 in
set_option maxRecDepth 100000 in
theorem deleteF_some (u : Vw) (cb base g n c : Nat) (l : List Vw) (i0 : Nat) (w : World) (hn : n ≤ 1000000) (hown : w.ownsRow base 35 4 (.slice (some ⟨g, 0, none⟩) n c) n (l.flatMap vwF)) (hcb : cb < base) (hbase : base ≤ w.heap.size) (hB : BlkAt w cb 35 #[.int .u64 u.num, .int .u64 u.ce, .int .i64 u.cr, .int .u64 u.mem])
    (hi0 : l.findIdx? (fun v => decide (v.num ≤ u.num)) = some i0) :
    Calls Tryd.prog 44 #[.slice (some ⟨g, 0, none⟩) n c, .func (Fn.func 45) #[] #[.pointer (some ⟨cb, 0, none⟩)]] w fun e w' => ∃ v, e = .returned v ∧ w'.ownsRow base 35 4 v (l.filter fun v => !decide (v.num ≤ u.num)).length ((l.filter fun v => !decide (v.num ≤ u.num)).flatMap vwF) ∧ Below base w w' := by
  obtain ⟨hlt0, hq0, hpre⟩ := List.findIdx?_eq_some_iff_getElem.1 hi0
  obtain ⟨_, _, hsv, hr⟩ := Rd.own hown
  simp only [Value.slice.injEq, true_and] at hsv
  obtain ⟨rfl, rfl⟩ := hsv
  have hr : RdV w (some ⟨g, 0, none⟩) n c l := hr
  have hln := hr.len
  have hcn : n ≤ c := hr.1.2.1
  have HI := indexF_form u cb (some ⟨g, 0, none⟩) n c l w hr hB
  rw [show idxQ l (fun v => decide (v.num ≤ u.num)) = i0 from by unfold idxQ; rw [hi0]] at HI
  have HI := Lib.hid HI
  have hgb := (hown.lt g rfl).1
  have hi0n : i0 < n := by omega
  have hf0 : (l.take (i0 + 1)).filter (fun v => !decide (v.num ≤ u.num)) = l.take i0 := by
    rw [filter_take_s _ _ _ hlt0, if_neg (by rw [hq0]; decide), List.filter_eq_self]
    intro v hv
    obtain ⟨j, hj, rfl⟩ := List.mem_iff_getElem.1 hv
    rw [List.length_take] at hj
    rw [List.getElem_take]
    have := hpre j (by omega)
    simp only [Bool.not_eq_true] at this
    rw [this]; rfl
  have HF0 := Lib.hid hf0
  have hl := Lib.hid hln
  have hneg : ((i0 : Int) == -1) = false := by
    rw [beq_eq_false_iff_ne]; omega
  clear hi0 hq0 hpre hf0 hr hln
  go_enter Tryd.func44, Tryd.ntmps44
  go_wp2_with fail
  refine HI.out.mono ?_
  rintro e w1 ⟨rfl, hb⟩
  have ho1 := own_below hown hb
  have hb1 : Below base w w1 := hb.mono hbase
  go_wp2
  go_loopw [5, 6, 7] (fun si sj _ wr => ∃ (i j : Nat) (m : List Vw), i < j ∧ j ≤ n ∧ si = .int .i64 i ∧ sj = .int .i64 j ∧ m.length = n ∧ Hid (m.take i = (l.take j).filter (fun v => !decide (v.num ≤ u.num))) ∧ Hid (m.drop j = l.drop j) ∧ wr.ownsRow base 35 4 (.slice (some ⟨g, 0, none⟩) n c) n (m.flatMap vwF) ∧ Below base w wr) (fun _ sj _ _ => n - (intOf sj).toNat)
  case atStart => exact ⟨i0, i0 + 1, l, by omega, by omega, rfl, by go_num, hl.out, HF0.out.symm, rfl, ho1, hb1⟩
  case round =>
    clear ho1 hb1 hown
    obtain ⟨i, j, m, hij, hjn, rfl, rfl, hm, HK, HD, ho, hb1⟩ := hrel
    have hmn := Lib.hid hm
    have hm1 : n ≤ m.length := Nat.le_of_eq hm.symm
    clear hm
    by_cases hlt : j < n
    · have hjl : j < l.length := by rw [hl.out]; exact hlt
      have hjm : j < m.length := by rw [hmn.out]; exact hlt
      have him : i < m.length := by rw [hmn.out]; omega
      have hrm : RdV wr (some ⟨g, 0, none⟩) n c m := by obtain ⟨_, _, e, h⟩ := Rd.own ho; simp only [Value.slice.injEq, true_and] at e; obtain ⟨rfl, rfl⟩ := e; exact h
      obtain ⟨d0, d1, d2, d3⟩ := hrm.at j hjm
      have hmj : m[j] = l[j] := by
        have h1 : (m.drop j)[0]? = (l.drop j)[0]? := by rw [HD.out]
        rw [List.getElem?_drop, List.getElem?_drop, Nat.add_zero, List.getElem?_eq_getElem hjm, List.getElem?_eq_getElem hjl] at h1
        exact Option.some.inj h1
      have hKs := filter_take_s (fun v => !decide (v.num ≤ u.num)) l j hjl
      have hDs : m.drop (j + 1) = l.drop (j + 1) := by rw [← List.drop_drop, HD.out, List.drop_drop]
      rw [hmj] at d0 d1 d2 d3
      rw [← HK.out] at hKs
      have hgz := (ho.lt g rfl).2
      have hjI : (j : Int) < n := by omega
      have HD2 := Lib.hid hDs
      have hl2 := hl.out
      generalize hx : l[j] = x at *
      clear hx hmj hDs
      simp only [Nat.zero_add] at d0 d1 d2 d3
      have hbx : Below wr.heap.size wr (wr.alloc (.cells #[.int .u64 x.num, .int .u64 x.ce, .int .i64 x.cr, .int .u64 x.mem] 35)) := (Below.refl _ _).alloc (Nat.le_refl _) _
      have o2 := own_below ho hbx
      have b2 : Below base w (wr.alloc (.cells #[.int .u64 x.num, .int .u64 x.ce, .int .i64 x.cr, .int .u64 x.mem] 35)) := hb1.trans (hbx.mono (Nat.le_trans hbase hb1.size))
      have hBr : BlkAt (wr.alloc (.cells #[.int .u64 x.num, .int .u64 x.ce, .int .i64 x.cr, .int .u64 x.mem] 35)) cb 35 #[.int .u64 u.num, .int .u64 u.ce, .int .i64 u.cr, .int .u64 u.mem] := hB.below b2 hcb
      have hV := BlkAt.new wr 35 #[.int .u64 x.num, .int .u64 x.ce, .int .i64 x.cr, .int .u64 x.mem]
      have HDL := fun W h => form_del u x cb W h
      clear hl2 hrm ho hb1 hbx
      cases hdl : decide (x.num ≤ u.num) with
      | true =>
        rw [hdl] at HDL hKs
        have HDL := Lib.hid HDL
        have HK2 := Lib.hid (hKs.trans (if_neg (by decide)))
        clear hKs hdl
        go_wp2_with fail
        refine (HDL.out _ hBr).mono ?_
        rintro e w5 ⟨rfl, hb5⟩
        have o5 := own_below o2 hb5
        have b5 := b2.trans (hb5.mono (Nat.le_trans hbase b2.size))
        clear d0 d1 d2 d3
        go_wp2
        go_roundw
        case rel => exact ⟨i, j + 1, m, by omega, by omega, rfl, by go_num, hmn.out, HK2.out.symm, HD2.out, o5, b5⟩
        case measure => simp [intOf]; omega
      | false =>
        rw [hdl] at HDL hKs
        have HDL := Lib.hid HDL
        have HK2 := Lib.hid (hKs.trans (if_pos (by decide)))
        clear hKs hdl
        go_wp2_with fail
        refine (HDL.out _ hBr).mono ?_
        rintro e w5 ⟨rfl, hb5⟩
        have o5 := own_below o2 hb5
        have b5 := b2.trans (hb5.mono (Nat.le_trans hbase b2.size))
        have V5 := hV.below hb5 hV.lt
        have x0 : w5.cell? ⟨wr.heap.size, 0, none⟩ = some (.int .u64 x.num) := V5.cell rfl
        have x1 : w5.cell? ⟨wr.heap.size, 1, none⟩ = some (.int .u64 x.ce) := V5.cell rfl
        have x2 : w5.cell? ⟨wr.heap.size, 2, none⟩ = some (.int .i64 x.cr) := V5.cell rfl
        have x3 : w5.cell? ⟨wr.heap.size, 3, none⟩ = some (.int .u64 x.mem) := V5.cell rfl
        have hr5 : RdV w5 (some ⟨g, 0, none⟩) n c m := by obtain ⟨_, _, e, h⟩ := Rd.own o5; simp only [Value.slice.injEq, true_and] at e; obtain ⟨rfl, rfl⟩ := e; exact h
        obtain ⟨t0, t1, t2, t3⟩ := hr5.at i him
        simp only [Nat.zero_add] at t0 t1 t2 t3
        have f0 := o5.frozenAt (i * 4)
        have f1 := o5.frozenAt (i * 4 + 1)
        have f2 := o5.frozenAt (i * 4 + 2)
        have f3 := o5.frozenAt (i * 4 + 3)
        have hiI : (i : Int) < n := by omega
        have s3 := ((((o5.stored (i * 4) (.int .u64 x.num)).1.stored (i * 4 + 1) (.int .u64 x.ce)).1.stored (i * 4 + 2) (.int .i64 x.cr)).1.stored (i * 4 + 3) (.int .u64 x.mem)).1
        rw [flat_set x m i him] at s3
        have S3 := Lib.hid s3
        have B3 := Lib.hid (show Below base w ((((w5.setCell ⟨g, i * 4, none⟩ (.int .u64 x.num)).setCell ⟨g, i * 4 + 1, none⟩ (.int .u64 x.ce)).setCell ⟨g, i * 4 + 2, none⟩ (.int .i64 x.cr)).setCell ⟨g, i * 4 + 3, none⟩ (.int .u64 x.mem)) from (((b5.setCell hgb _).setCell hgb _).setCell hgb _).setCell hgb _)
        have HM := Lib.hid (show (m.set i x).length = n ∧ (m.set i x).take (i + 1) = (l.take (j + 1)).filter (fun v => !decide (v.num ≤ u.num)) ∧ (m.set i x).drop (j + 1) = l.drop (j + 1) from ⟨by rw [List.length_set]; exact hmn.out, by
          rw [HK2.out, List.take_succ_eq_append_getElem (by rw [List.length_set]; exact him), List.take_set_of_le (Nat.le_refl _), List.getElem_set_self], by
          rw [List.drop_set_of_lt (by omega)]; exact HD2.out⟩)
        clear d0 d1 d2 d3 s3 hr5 o2 b2 hBr
        go_wp2
        go_roundw
        case rel => exact ⟨i + 1, j + 1, m.set i x, by omega, by omega, by go_num, by go_num, HM.out.1, HM.out.2.1, HM.out.2.2, S3.out, B3.out⟩
        case measure => simp [intOf]; omega
    · obtain rfl : j = n := by omega
      have him : i < m.length := by omega
      have hrm : RdV wr (some ⟨g, 0, none⟩) j c m := by obtain ⟨_, _, e, h⟩ := Rd.own ho; simp only [Value.slice.injEq, true_and] at e; obtain ⟨rfl, rfl⟩ := e; exact h
      have hcl := fun ty => run_clear_view wr ty g (i * 4) (j - i) (c - i) (by omega) (fun q hq => by
        have := Rd.cells hrm (i * 4 + q) (by have : i * 4 + (j - i) * 4 = j * 4 := by rw [← Nat.add_mul]; congr 1; omega
                                             omega)
        rw [Nat.zero_add] at this
        rw [this]; rfl) (fun q => ho.frozenAt q)
      have hE := own_setCells (i * 4) (Builtin.zeroCells (vwA .zero) (j - i)).toList (i * 4) wr _ (Nat.le_refl _) ho
      obtain ⟨ys, oy, hty, gy⟩ := hE
      have op := own_prefix oy i (by omega)
      have HT := Lib.hid (show ys.take (i * 4) = (l.filter (fun v => !decide (v.num ≤ u.num))).flatMap vwF from by
        have h1 : l.take j = l := List.take_of_length_le (by have := hl.out; omega)
        have h2 := HK.out
        rw [h1] at h2
        rw [hty, ← h2]
        have h3 : m.flatMap vwF = (m.take i).flatMap vwF ++ (m.drop i).flatMap vwF := by rw [← List.flatMap_append, List.take_append_drop]
        have h4 : ((m.take i).flatMap vwF).length = i * 4 := by rw [flatMap_len vwF_len, List.length_take]; congr 1; omega
        rw [h3, List.take_append_of_le_length (by omega), List.take_of_length_le (by omega)])
      have HLn := Lib.hid (show (l.filter (fun v => !decide (v.num ≤ u.num))).length = i from by
        have h1 : l.take j = l := List.take_of_length_le (by have := hl.out; omega)
        have h2 := congrArg List.length HK.out
        rw [h1, List.length_take] at h2
        omega)
      have hbE := hb1.grown gy (Nat.le_trans hbase hb1.size) (fun k hk => by cases hk; exact hgb)
      generalize wr.setCells g (i * 4) (Builtin.zeroCells (vwA .zero) (j - i)).toList = wz at *
      clear hty hrm ho hb1 gy oy
      go_wp2
      go_ret
      exact ⟨_, rfl, by rw [HLn.out, ← HT.out]; exact op, hbE⟩
/-- DeleteFunc with Form's function, over a row of the call's own. -/
theorem deleteF_any (u : Vw) (cb base n : Nat) (sv : Value) (l : List Vw) (w : World) (hn : n ≤ 1000000) (hown : w.ownsRow base 35 4 sv n (l.flatMap vwF)) (hcb : cb < base) (hbase : base ≤ w.heap.size) (hB : BlkAt w cb 35 #[.int .u64 u.num, .int .u64 u.ce, .int .i64 u.cr, .int .u64 u.mem]) :
    Calls Tryd.prog 44 #[sv, .func (Fn.func 45) #[] #[.pointer (some ⟨cb, 0, none⟩)]] w fun e w' => ∃ v, e = .returned v ∧ w'.ownsRow base 35 4 v (l.filter fun v => !decide (v.num ≤ u.num)).length ((l.filter fun v => !decide (v.num ≤ u.num)).flatMap vwF) ∧ Below base w w' := by
  obtain ⟨sa, c, rfl, hr⟩ := Rd.own hown
  have hr : RdV w sa n c l := hr
  cases hi : l.findIdx? (fun v => decide (v.num ≤ u.num)) with
  | none =>
    have hno := List.findIdx?_eq_none_iff.1 hi
    refine (deleteF_none u cb sa n c l w hr hB hno).mono ?_
    rintro e w' ⟨rfl, hb⟩
    have hf : l.filter (fun v => !decide (v.num ≤ u.num)) = l := List.filter_eq_self.2 fun v hv => by rw [hno v hv]; rfl
    rw [hf, hr.len]
    exact ⟨_, rfl, own_below hown hb, hb.mono hbase⟩
  | some i0 =>
    obtain ⟨hlt0, _, _⟩ := List.findIdx?_eq_some_iff_getElem.1 hi
    have hln := hr.len
    have hown' := hown
    rcases hown.2 with ⟨hv, hz⟩ | ⟨g, cap, cur, hv, _⟩
    · omega
    · simp only [Value.slice.injEq, true_and] at hv
      obtain ⟨rfl, rfl⟩ := hv
      exact deleteF_some u cb base g n c l i0 w hn hown' hcb hbase hB hi
end Go.Proofs.YteeeikkapnchlaaDoor
