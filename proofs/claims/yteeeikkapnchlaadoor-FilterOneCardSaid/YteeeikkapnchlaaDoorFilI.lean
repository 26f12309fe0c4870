/- filter: the statements' same -/
import Derived.Test.YteeeikkapnchlaaDoorFilH
namespace Go.Proofs.YteeeikkapnchlaaDoor
set_option linter.unusedSimpArgs false
set_option linter.unusedVariables false
open Go.RowKit Go.Sort
theorem wpList_load_mid_g {P : Program} {w : World} {ops : Array Oper} {rest : List Oper} {o : Oper} {a : Act} {Q : Exit → Act → World → Prop} (hw : Region.wanted o (yielded ops a.tmps) = true) (ty : TypeId) (x : Operand) (ho : o.op = .load ty x)
    (b off : Nat) (hx : a.eval x = .pointer (some ⟨b, off, none⟩)) (cs : List Value) (d : TypeDesc) (hc : w.rangeAt b off cs)
    (hu : P.underlying ty = some d) (hd : d.isRow = true) (hi : (P.info? ty).map (·.size) = some cs.length)
    (h : wpList P ops Q rest (a.put o.dst (.agg cs.toArray)) w) : wpList P ops Q (o :: rest) a w :=
  wpList_step fun K hK => by
    rw [if_pos hw]
    exact wp_load_mid ty x ho b off hx cs d hc hu hd hi (hK _ _ h)
theorem get5L {x0 x1 x2 x3 x4 : Value} {old : List Value} {p : Nat} (h0 : old[p]? = some x0) (h1 : old[p + 1]? = some x1) (h2 : old[p + 2]? = some x2) (h3 : old[p + 3]? = some x3) (h4 : old[p + 4]? = some x4) : ∀ j v, ([x0, x1, x2, x3, x4] : List Value)[j]? = some v → old[p + j]? = some v := by
  intro j v h
  rcases j with _ | _ | _ | _ | _ | j
  · exact h0.trans h
  · exact h1.trans h
  · exact h2.trans h
  · exact h3.trans h
  · exact h4.trans h
  · cases h
theorem Tryd.riL (x : Iw) : (Tryd.prog.info? 85).map (·.size) = some (iwC x).length := by show _ = some 18; kernel_rfl
theorem Tryd.rrL (v : Vw) (x : Value) : (Tryd.prog.info? 60).map (·.size) = some ([.int .u64 v.num, .int .u64 v.ce, .int .i64 v.cr, .int .u64 v.mem, x] : List Value).length := by show _ = some 5; kernel_rfl
theorem Ow.parts {w : World} {b off n c : Nat} {os : List Ow} (h : Rd w 29 (some ⟨b, off, none⟩) n c (os.flatMap owC)) (k : Nat) (hk : k < os.length) :
    w.rangeAt b (off + k * 29 + 1) (iwC os[k].it) ∧ w.rangeAt b (off + k * 29 + 19) [.int .u64 os[k].rc.last.num, .int .u64 os[k].rc.last.ce, .int .i64 os[k].rc.last.cr, .int .u64 os[k].rc.last.mem, .slice os[k].ra os[k].rn os[k].rk] ∧ w.rangeAt b (off + k * 29 + 24) [.int .u64 os[k].view.num, .int .u64 os[k].view.ce, .int .i64 os[k].view.cr, .int .u64 os[k].view.mem] ∧ w.cell? ⟨b, off + k * 29, none⟩ = some (.int .i64 os[k].kind) ∧ w.cell? ⟨b, off + k * 29 + 28, none⟩ = some (.slice os[k].ca os[k].cn os[k].ck) := by
  have hr := ow_range h k hk
  exact ⟨range_sub hr 1 (owC_it _), range_sub hr 19 (owC_tail _ 19 (by decide) _ (get5L rfl rfl rfl rfl rfl)), range_sub hr 24 (owC_tail _ 24 (by decide) _ (get4L rfl rfl rfl rfl)), hr 0 _ rfl, hr 28 _ rfl⟩
theorem items_eqC (x y : Iw) (h : x.v = y.v) (w : World) (h1 : RdV w x.pa x.pn x.pc x.v.rc.pend) (h2 : RdV w y.pa y.pn y.pc y.v.rc.pend) : Calls Tryd.prog 37 #[.agg (iwC x).toArray, .agg (iwC y).toArray] w fun e w' => e = .returned (.bool true) ∧ Below w.heap.size w w' := items_eq x y h w h1 h2
theorem neqI (a : Int) : (a != a) = false := by simp
set_option maxHeartbeats 6400000 in
set_option maxRecDepth 100000 in
theorem sameO_any {F : Nat → Prop} (a a' : Option Addr) (n c c' : Nat) (os qs : List Ow) (w : World) (h : RdO F w a n c os) (h' : RdO F w a' n c' qs) (hv : os.map (·.v) = qs.map (·.v)) :
    Calls Tryd.prog 14 #[.slice a n c, .slice a' n c'] w fun e w' => e = .returned (.bool true) ∧ Below w.heap.size w w' := by
  have hlen := Lib.hid h.len
  have hlen' := Lib.hid h'.len
  have hmx := Rd.le_max h.1.1
  unfold maxLen at hmx
  have h0 := Lib.hid h
  have h0' := Lib.hid h'
  replace hv := Lib.hid hv
  have hnn : ((n : Int) != (n : Int)) = false := by simp
  clear h h'
  go_enter Tryd.func14, Tryd.ntmps14
  go_wp2
  go_loopw [5, 6] (fun iv _ wr => ∃ (i : Nat), i ≤ n ∧ iv = .int .i64 i ∧ Hid (Below w.heap.size w wr)) (fun iv _ _ => n - (RowKit.intOf iv).toNat)
  case atStart => exact ⟨0, Nat.zero_le _, rfl, Lib.hid (Below.refl _ _)⟩
  case round =>
    obtain ⟨i, hi, rfl, hbr⟩ := hrel
    obtain ⟨wi, rfl⟩ : ∃ z, z = wr := ⟨_, rfl⟩
    by_cases hin : i < n
    · have hiI : (i : Int) < n := by omega
      have hil : i < os.length := by rw [hlen.out]; exact hin
      have hil' : i < qs.length := by rw [hlen'.out]; exact hin
      obtain ⟨gl, ol, rfl, hgl⟩ := Rd.addr h0.out.1.1 (by omega)
      obtain ⟨gm, om, rfl, hgm⟩ := Rd.addr h0'.out.1.1 (by omega)
      have hO := Lib.hid (fun W (hb : Below w.heap.size w W) => Ow.parts (Rd.below h0.out.1.1 hb (Nat.le_refl _)) i hil)
      have hQ := Lib.hid (fun W (hb : Below w.heap.size w W) => Ow.parts (Rd.below h0'.out.1.1 hb (Nat.le_refl _)) i hil')
      have hoF := Lib.hid (h0.out.2 _ (List.getElem_mem hil))
      have hqF := Lib.hid (h0'.out.2 _ (List.getElem_mem hil'))
      have hoq : os[i].v = qs[i].v := by
        have h1 : (os.map (·.v))[i]? = (qs.map (·.v))[i]? := by rw [hv.out]
        rw [List.getElem?_map, List.getElem?_map, List.getElem?_eq_getElem hil, List.getElem?_eq_getElem hil'] at h1
        exact Option.some.inj h1
      generalize os[i] = o at *
      generalize qs[i] = q at *
      have ek : q.kind = o.kind := (congrArg Ov.kind hoq).symm
      have ei : o.it.v = q.it.v := congrArg Ov.it hoq
      have er : q.rc = o.rc := (congrArg Ov.rc hoq).symm
      have ev : q.view = o.view := (congrArg Ov.view hoq).symm
      have ec : o.cl.map (·.v) = q.cl.map (·.v) := congrArg Ov.cl hoq
      have hcl1 : o.cl.length = o.cn := by
        have := hoF.out.cl.1.length_eq
        rw [flatMap_len iwC_len] at this
        omega
      have hcl2 : q.cl.length = q.cn := by
        have := hqF.out.cl.1.length_eq
        rw [flatMap_len iwC_len] at this
        omega
      have ecn : q.cn = o.cn := by
        have := congrArg List.length ec
        rw [List.length_map, List.length_map] at this
        omega
      have ern : q.rn = o.rn := by
        have h1 := RdV.len hoF.out.rd.1
        have h2 := RdV.len hqF.out.rd.1
        rw [er] at h2
        omega
      rw [ek, er, ev, ecn, ern] at hQ
      have HI := Lib.hid (fun W (hb : Below w.heap.size w W) => items_eqC o.it q.it ei W (hoF.out.it.below (hb.mono (Nat.le_refl _))).1 (hqF.out.it.below (hb.mono (Nat.le_refl _))).1)
      have hqr := hqF.out.rd.1
      rw [er, ern] at hqr
      have HS := Lib.hid (fun W (hb : Below w.heap.size w W) => same_any o.rc.last o.rc.pend o.ra q.ra o.rn o.rk q.rk W ((hoF.out.rd.1).below hb (Nat.le_refl _)) (Rd.below hqr hb (Nat.le_refl _)))
      have HE := fun W => run_neq_vw W o.view o.view
      rw [show veq o.view o.view = true from veq_eq.2 rfl] at HE
      replace HE := Lib.hid HE
      obtain ⟨o1, o2, o3, o4, o5⟩ := hO.out wi hbr.out
      obtain ⟨p1, p2, p3, p4, p5⟩ := hQ.out wi hbr.out
      have hk0 := neqI o.kind
      have hiO := Tryd.riL o.it
      have hiQ := Tryd.riL q.it
      have hrO := Tryd.rrL o.rc.last (.slice o.ra o.rn o.rk)
      have hrQ := Tryd.rrL o.rc.last (.slice q.ra o.rn q.rk)
      have hvL : (Tryd.prog.info? 35).map (·.size) = some ([.int .u64 o.view.num, .int .u64 o.view.ce, .int .i64 o.view.cr, .int .u64 o.view.mem] : List Value).length := by show _ = some 4; kernel_rfl
      replace ec := Lib.hid ec
      have hc64 : o.cn ≤ 64 := by rw [← hcl1]; exact hoF.out.few
      replace hcl1 := Lib.hid hcl1
      replace hcl2 := Lib.hid hcl2
      clear ek ei er ev ecn ern hoq hqr
      have k4 := cell_regrown o4
      have q4 := cell_regrown p4
      have k5 := cell_regrown o5
      have q5 := cell_regrown p5
      have hbS := hbr.out.size
      have hgl' : gl < wi.heap.size := by omega
      have hgm' : gm < wi.heap.size := by omega
      have kI := fun d os => Calls.regrown_of (HI.out (grow (redrawn wi d) os) (belS hbr.out (below_regrown wi d os)))
      have kS := fun d os => Calls.regrown_of (HS.out (grow (redrawn wi d) os) (belS hbr.out (below_regrown wi d os)))
      have hcc : ((o.cn : Int) != (o.cn : Int)) = false := by simp
      clear o4 p4 o5 p5
      go_wp2_with fail
      refine wp_region_quiet_below (by kernel_rfl) (by kernel_rfl) ?_
      iterate 67 (first
        | (refine wpQuiet_mid_load (by first | rfl | simp [Region.wanted, go_sem]) _ (.tmp 33) rfl gl (ol + i * 29 + 1) rfl (iwC o.it) _ o1 hgl' Tryd.underlying85 rfl hiO ?_; simp only [Act.put, List.setIfInBounds_toArray, List.set_cons_zero, List.set_cons_succ])
        | (refine wpQuiet_mid_load (by first | rfl | simp [Region.wanted, go_sem]) _ (.tmp 38) rfl gm (om + i * 29 + 1) rfl (iwC q.it) _ p1 hgm' Tryd.underlying85 rfl hiQ ?_; simp only [Act.put, List.setIfInBounds_toArray, List.set_cons_zero, List.set_cons_succ])
        | (refine wpQuiet_mid_load (by first | rfl | simp [Region.wanted, go_sem]) _ (.tmp 47) rfl gl (ol + i * 29 + 19) rfl [.int .u64 o.rc.last.num, .int .u64 o.rc.last.ce, .int .i64 o.rc.last.cr, .int .u64 o.rc.last.mem, .slice o.ra o.rn o.rk] _ o2 hgl' Tryd.underlying60 rfl hrO ?_; simp only [Act.put, List.setIfInBounds_toArray, List.set_cons_zero, List.set_cons_succ])
        | (refine wpQuiet_mid_load (by first | rfl | simp [Region.wanted, go_sem]) _ (.tmp 52) rfl gm (om + i * 29 + 19) rfl [.int .u64 o.rc.last.num, .int .u64 o.rc.last.ce, .int .i64 o.rc.last.cr, .int .u64 o.rc.last.mem, .slice q.ra o.rn q.rk] _ p2 hgm' Tryd.underlying60 rfl hrQ ?_; simp only [Act.put, List.setIfInBounds_toArray, List.set_cons_zero, List.set_cons_succ])
        | (refine wpQuiet_mid_load (by first | rfl | simp [Region.wanted, go_sem]) _ (.tmp 61) rfl gl (ol + i * 29 + 24) rfl [.int .u64 o.view.num, .int .u64 o.view.ce, .int .i64 o.view.cr, .int .u64 o.view.mem] _ o3 hgl' Tryd.underlying35 rfl hvL ?_; simp only [Act.put, List.setIfInBounds_toArray, List.set_cons_zero, List.set_cons_succ])
        | (refine wpQuiet_mid_load (by first | rfl | simp [Region.wanted, go_sem]) _ (.tmp 66) rfl gm (om + i * 29 + 24) rfl [.int .u64 o.view.num, .int .u64 o.view.ce, .int .i64 o.view.cr, .int .u64 o.view.mem] _ p3 hgm' Tryd.underlying35 rfl hvL ?_; simp only [Act.put, List.setIfInBounds_toArray, List.set_cons_zero, List.set_cons_succ])
        | (refine wpQuiet_agg (by first | rfl | simp [Region.wanted, go_sem]) Tryd.viewG (.tmp 62) (.tmp 67) _ rfl rfl rfl HE.out ?_; simp only [Act.put, List.setIfInBounds_toArray, List.set_cons_zero, List.set_cons_succ])
        | go_big_quiet_step (first | (with_reducible exact kI _ _) | (with_reducible exact kS _ _)))
      refine wpQuiet_nil ?_; intro w4' hw'; obtain ⟨⟨dq, osq⟩, hw''⟩ := hw'; subst hw''
      have hb3 := Lib.hid (belS hbr.out (below_regrown wi dq osq))
      clear k4 q4 k5 q5 kI kS o1 o2 o3 p1 p2 p3
      generalize grow (redrawn wi dq) osq = w3 at *
      go_wp2
      go_loopw [6] (fun jv wr => ∃ (j : Nat), j ≤ o.cn ∧ jv = .int .i64 j ∧ Hid (Below w.heap.size w wr)) (fun jv _ => o.cn - (RowKit.intOf jv).toNat)
      case atStart => exact ⟨0, Nat.zero_le _, rfl, hb3⟩
      case round =>
        clear hb3
        obtain ⟨j, hj, rfl, hbj⟩ := hrel
        obtain ⟨wj, rfl⟩ : ∃ z, z = wr := ⟨_, rfl⟩
        obtain ⟨_, _, _, _, o5⟩ := hO.out wj hbj.out
        obtain ⟨_, _, _, _, p5⟩ := hQ.out wj hbj.out
        by_cases hjn : j < o.cn
        · have hjI : (j : Int) < o.cn := by omega
          have hj1 : j < o.cl.length := by rw [hcl1.out]; exact hjn
          have hqcn : q.cn = o.cn := by
            have := congrArg List.length ec.out
            rw [List.length_map, List.length_map] at this
            have h1 := hcl1.out
            have h2 := hcl2.out
            omega
          have hj2 : j < q.cl.length := by rw [hcl2.out, hqcn]; exact hjn
          have hcO := hoF.out.cl.1
          have hcQ := hqF.out.cl.1
          obtain ⟨g2, o2, e2, _⟩ := Rd.addr hcO (by omega)
          obtain ⟨g3, o3, e3, _⟩ := Rd.addr hcQ (by omega)
          rw [e2] at hcO o5
          rw [e3] at hcQ p5
          have hyz : o.cl[j].v = q.cl[j].v := by
            have h1 : (o.cl.map (·.v))[j]? = (q.cl.map (·.v))[j]? := by rw [ec.out]
            rw [List.getElem?_map, List.getElem?_map, List.getElem?_eq_getElem hj1, List.getElem?_eq_getElem hj2] at h1
            exact Option.some.inj h1
          have hbjs := hbj.out.size
          have r2 := iw_range (Rd.below hcO hbj.out (Nat.le_refl _)) j hj1
          have r3 := iw_range (Rd.below hcQ hbj.out (Nat.le_refl _)) j hj2
          have l2 := (hoF.out.cin _ (List.getElem_mem hj1)).below hbj.out
          have l3 := (hqF.out.cin _ (List.getElem_mem hj2)).below hbj.out
          have hg2 : g2 < wj.heap.size := by
            obtain ⟨b', o', e', hl⟩ := Rd.addr (Rd.below hcO hbj.out (Nat.le_refl _)) (by omega)
            injection e' with e'; injection e' with e'; omega
          have hg3 : g3 < wj.heap.size := by
            obtain ⟨b', o', e', hl⟩ := Rd.addr (Rd.below hcQ hbj.out (Nat.le_refl _)) (by omega)
            injection e' with e'; injection e' with e'; omega
          generalize o.cl[j] = y at *
          generalize q.cl[j] = z at *
          have k5 := cell_regrown o5
          have k6 := cell_regrown p5
          have kI := fun d os => Calls.regrown_of (items_eqC y z hyz (grow (redrawn wj d) os) (l2.below (below_regrown wj d os)).1 (l3.below (below_regrown wj d os)).1)
          have hyL := Tryd.riL y
          have hzL := Tryd.riL z
          replace e2 := Lib.hid e2
          replace e3 := Lib.hid e3
          clear hcO hcQ l2 l3 hyz hqcn
          go_upto_region 11 with (fail)
          clear o5 p5
          refine wp_region_quiet_below (by kernel_rfl) (by kernel_rfl) ?_
          iterate 18 (first
            | (refine wpQuiet_mid_load (by rfl) _ (.tmp 101) rfl g2 (o2 + j * 18) rfl (iwC y) _ r2 hg2 Tryd.underlying85 rfl hyL ?_; simp only [Act.put, List.setIfInBounds_toArray, List.set_cons_zero, List.set_cons_succ])
            | (refine wpQuiet_mid_load (by rfl) _ (.tmp 109) rfl g3 (o3 + j * 18) rfl (iwC z) _ r3 hg3 Tryd.underlying85 rfl hzL ?_; simp only [Act.put, List.setIfInBounds_toArray, List.set_cons_zero, List.set_cons_succ])
            | go_big_quiet_step (first | (with_reducible exact kI _ _)))
          refine wpQuiet_nil ?_; intro w4' hw'; obtain ⟨⟨dq, osq⟩, hw''⟩ := hw'; subst hw''
          have hbN := Lib.hid (belS hbj.out (below_regrown wj dq osq))
          clear k5 k6 kI r2 r3
          generalize grow (redrawn wj dq) osq = w9 at *
          go_wp2
          go_roundw
          case rel => first | exact ⟨j + 1, by omega, by go_num, hbN⟩ | ((repeat apply Exists.intro); exact ⟨⟨by omega, by go_num, hbN⟩, rfl⟩)
          case measure => simp [RowKit.intOf]; omega
        · have hjI : ¬ (j : Int) < o.cn := by omega
          go_wp2
          go_roundw
          case rel => first | exact ⟨i + 1, by omega, by go_num, hbj⟩ | ((repeat apply Exists.intro); exact ⟨⟨by omega, by go_num, hbj⟩, rfl⟩)
          case measure => simp [RowKit.intOf]; omega
    · have hiI : ¬ (i : Int) < n := by omega
      have hbF := hbr.out
      go_wp2
      go_ret
      exact ⟨rfl, hbF⟩
end Go.Proofs.YteeeikkapnchlaaDoor
