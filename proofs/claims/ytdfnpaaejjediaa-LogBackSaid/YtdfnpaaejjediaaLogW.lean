/- log: LogBack -/
import Derived.Test.YtdfnpaaejjediaaLogV
import Derived.Deep.CutRange
namespace Go.Proofs.Ytdfnpaaejjediaa
open Go.RowKit Go.Sort

theorem wpQuiet_blk_get {P : Program} {ops : Array Oper} {w : World} {Q : Act → Prop} {a : Act} {o : Oper} {rest : List Oper} (hw : Region.wanted o (yielded ops a.tmps) = true) {t : TypeId} (x : Operand) (ho : o.op = .load t x)
    {b p : Nat} (hx : a.eval x = .pointer (some ⟨b, p, none⟩)) {t' : TypeId} {old cs : Array Value} (hb : BlkAt w b t' old) {d : TypeDesc} (hu : P.underlying t = some d) (hd : d.isRow = true) (hi : (P.info? t).map (·.size) = some cs.size) (hv : ∀ j v, cs.toList[j]? = some v → old[p + j]? = some v)
    (h : wpQuiet P ops (fun w' => ∃ p : Regrown, w' = grow (redrawn w p.d) p.os) Q rest (a.put o.dst (.agg cs))) : wpQuiet P ops (fun w' => ∃ p : Regrown, w' = grow (redrawn w p.d) p.os) Q (o :: rest) a :=
  wpQuiet_step fun K hK => by
    rw [if_pos hw]
    refine ⟨_, fun w' hw' => ?_, hK _ h⟩
    obtain ⟨p', rfl⟩ := hw'
    have hb' := hb.below (below_regrown w p'.d p'.os) hb.lt
    unfold Oper.quietAt
    simp only [execOp, ho, hx, Instr.loadAt, Instr.sureAddr, Sem.run_bind, Sem.run_pure, Result.andThen_ok, run_loadVar_mid (P := P) _ b p t cs.toList d (hb'.range hv) hu hd (by simpa using hi)]
    exact ⟨rfl, rfl⟩
theorem wpList_agg_g {P : Program} {w : World} {ops : Array Oper} {rest : List Oper} {o : Oper} {a : Act} {Q : Exit → Act → World → Prop} (hw : Region.wanted o (yielded ops a.tmps) = true) {b : BinOp} {t : TypeId} (hg : P.eqGuardType P.depth t = false) (x y : Operand) (t2 : TypeId) (ho : o.op = .binOp b t x y t2) {u v : Array Value} {r : Value} (hx : a.eval x = .agg u) (hy : a.eval y = .agg v)
    (hrun : ∀ W, (binOp b t (.agg u) (.agg v)).run P W = .ok r W) (h : wpList P ops Q rest (a.put o.dst r) w) : wpList P ops Q (o :: rest) a w :=
  wpList_step fun K hK => by
    rw [if_pos hw]
    unfold Oper.wp
    simp only [execOp, ho, hx, hy, Sem.run_bind, Sem.run_pure, run_eqGuard_agg hg, hrun w, Result.andThen_ok]
    exact hK _ _ h
set_option maxHeartbeats 40000000 in
set_option maxRecDepth 100000 in
theorem back_walk (s : St) (pa : Option Addr) (pn pc : Nat) (x : It) (D : ByteArray) (qa : Option Addr) (qn qc : Nat) (t : ByteArray) (w : World) (hs : s.Wf) (hp : RdV w pa pn pc s.rc.pend) (hx : x.Wf) (hd : x.data = bI D) (hq : RdV w qa qn qc x.rc.pend) :
    Calls Try.prog 5 #[.agg #[.int .u64 s.epoch, .int .u32 s.inc, .int .u64 s.rc.last.num, .int .u64 s.rc.last.ce, .int .i64 s.rc.last.cr, .int .u64 s.rc.last.mem, .slice pa pn pc], .agg #[.int .i64 x.kind, .string D, .int .u32 x.inc, .int .u64 x.holds, .bool x.has, .bool x.direct, .int .u64 x.rc.last.num, .int .u64 x.rc.last.ce, .int .i64 x.rc.last.cr, .int .u64 x.rc.last.mem, .slice qa qn qc, .int .u64 x.view.num, .int .u64 x.view.ce, .int .i64 x.view.cr, .int .u64 x.view.mem, .int .u64 x.number, .int .i64 x.index, .int .i64 x.total], .string t] w fun e w' => e = .returned (.bool true) ∧ Below w.heap.size w w' := by
  obtain ⟨wS, hwS⟩ : ∃ wS, wS = (w.alloc (.cells #[.int .u64 s.epoch, .int .u32 s.inc, .int .u64 s.rc.last.num, .int .u64 s.rc.last.ce, .int .i64 s.rc.last.cr, .int .u64 s.rc.last.mem, .slice pa pn pc] 32)).alloc (.cells #[.int .i64 x.kind, .string D, .int .u32 x.inc, .int .u64 x.holds, .bool x.has, .bool x.direct, .int .u64 x.rc.last.num, .int .u64 x.rc.last.ce, .int .i64 x.rc.last.cr, .int .u64 x.rc.last.mem, .slice qa qn qc, .int .u64 x.view.num, .int .u64 x.view.ce, .int .i64 x.view.cr, .int .u64 x.view.mem, .int .u64 x.number, .int .i64 x.index, .int .i64 x.total] 34) := ⟨_, rfl⟩
  have E : Below w.heap.size w wS := by rw [hwS]; exact ((Below.refl _ _).alloc (Nat.le_refl _) _).alloc (by simp) _
  have BA : BlkAt wS w.heap.size 32 #[.int .u64 s.epoch, .int .u32 s.inc, .int .u64 s.rc.last.num, .int .u64 s.rc.last.ce, .int .i64 s.rc.last.cr, .int .u64 s.rc.last.mem, .slice pa pn pc] := by rw [hwS]; exact (BlkAt.new w _ _).alloc _
  have BB : BlkAt wS (w.heap.size + 1) 34 #[.int .i64 x.kind, .string D, .int .u32 x.inc, .int .u64 x.holds, .bool x.has, .bool x.direct, .int .u64 x.rc.last.num, .int .u64 x.rc.last.ce, .int .i64 x.rc.last.cr, .int .u64 x.rc.last.mem, .slice qa qn qc, .int .u64 x.view.num, .int .u64 x.view.ce, .int .i64 x.view.cr, .int .u64 x.view.mem, .int .u64 x.number, .int .i64 x.index, .int .i64 x.total] := by
    rw [hwS]
    have := BlkAt.new (w.alloc (.cells #[.int .u64 s.epoch, .int .u32 s.inc, .int .u64 s.rc.last.num, .int .u64 s.rc.last.ce, .int .i64 s.rc.last.cr, .int .u64 s.rc.last.mem, .slice pa pn pc] 32)) 34 #[.int .i64 x.kind, .string D, .int .u32 x.inc, .int .u64 x.holds, .bool x.has, .bool x.direct, .int .u64 x.rc.last.num, .int .u64 x.rc.last.ce, .int .i64 x.rc.last.cr, .int .u64 x.rc.last.mem, .slice qa qn qc, .int .u64 x.view.num, .int .u64 x.view.ce, .int .i64 x.view.cr, .int .u64 x.view.mem, .int .u64 x.number, .int .i64 x.index, .int .i64 x.total]
    simpa using this
  replace hp : RdV wS pa pn pc s.rc.pend := hp.below E (Nat.le_refl _)
  replace hq : RdV wS qa qn qc x.rc.pend := hq.below E (Nat.le_refl _)
  have hbig : pn ≤ maxLen := Rd.le_max hp
  have hbig2 : qn ≤ maxLen := Rd.le_max hq
  replace hwS := Lib.hid hwS
  replace hs := Lib.hid hs
  replace hx := Lib.hid hx
  replace hd := Lib.hid hd
  go_enter Try.func5, Try.ntmps5
  go_wp2_with (first
    | (refine wpList_blk_box rfl (.tmp 0) rfl rfl w.heap.size rfl ?_)
    | (refine wpList_blk_box rfl (.tmp 1) rfl rfl (w.heap.size + 1) (by simp) ?_))
  rw [← hwS.out]
  refine (awake_any _).mono ?_
  rintro e w1 ⟨rfl, hb⟩
  replace BA := BA.below hb BA.lt
  replace BB := BB.below hb BB.lt
  replace hp : RdV w1 pa pn pc s.rc.pend := hp.below hb (Nat.le_refl _)
  replace hq := hq.below hb (Nat.le_refl _)
  replace E := belS E hb
  clear hb
  have a6 : w1.cell? ⟨w.heap.size, 6, none⟩ = some (.slice pa pn pc) := BA.cell rfl
  have b10 : w1.cell? ⟨w.heap.size + 1, 10, none⟩ = some (.slice qa qn qc) := BB.cell rfl
  have b1 : w1.cell? ⟨w.heap.size + 1, 1, none⟩ = some (.string D) := BB.cell rfl
  by_cases h3 : 300 < pn
  · have h3I : (300 : Int) < pn := by omega
    go_wp2
    go_ret
    exact ⟨rfl, E⟩
  have h3I : ¬ (300 : Int) < pn := by omega
  by_cases h4 : 300 < qn
  · have h4I : (300 : Int) < qn := by omega
    go_wp2
    go_ret
    exact ⟨rfl, E⟩
  have h4I : ¬ (300 : Int) < qn := by omega
  by_cases h5 : 5000 < D.size
  · have h5I : (5000 : Int) < D.size := by omega
    go_wp2
    go_ret
    exact ⟨rfl, E⟩
  have h5I : ¬ (5000 : Int) < D.size := by omega
  by_cases h6 : 5000 < t.size
  · have h6I : (5000 : Int) < t.size := by omega
    go_wp2
    go_ret
    exact ⟨rfl, E⟩
  have h6I : ¬ (5000 : Int) < t.size := by omega
  have HK := Lib.hid (fun W (h : Below w1.heap.size w1 W) => show BlkAt W w.heap.size 32 #[.int .u64 s.epoch, .int .u32 s.inc, .int .u64 s.rc.last.num, .int .u64 s.rc.last.ce, .int .i64 s.rc.last.cr, .int .u64 s.rc.last.mem, .slice pa pn pc] ∧ BlkAt W (w.heap.size + 1) 34 #[.int .i64 x.kind, .string D, .int .u32 x.inc, .int .u64 x.holds, .bool x.has, .bool x.direct, .int .u64 x.rc.last.num, .int .u64 x.rc.last.ce, .int .i64 x.rc.last.cr, .int .u64 x.rc.last.mem, .slice qa qn qc, .int .u64 x.view.num, .int .u64 x.view.ce, .int .i64 x.view.cr, .int .u64 x.view.mem, .int .u64 x.number, .int .i64 x.index, .int .i64 x.total] ∧ RdV W pa pn pc s.rc.pend ∧ RdV W qa qn qc x.rc.pend ∧ Below w.heap.size w W from ⟨BA.below h BA.lt, BB.below h BB.lt, hp.below h (Nat.le_refl _), hq.below h (Nat.le_refl _), belS E h⟩)
  have b01 : Below w1.heap.size w1 w1 := Below.refl _ _
  clear E hp hq BB
  go_upto_if 56 with (first
    | (refine wpList_blk_load rfl (.tmp 3) rfl Try.underlying32 rfl rfl BA Try.stI ?_)
    | (go_at_call 8; refine (print_any s pa pn pc hs.out _ (HK.out _ b01).2.2.1).mono ?_; rintro e w2 ⟨rfl, b02⟩; clear BA a6 b10 b1))
  go_cut [] from 7 (fun wx => Below w1.heap.size w1 wx)
  case first => as_aux_lemma =>
    replace b02 := belS b01 b02
    clear b01
    by_cases hE : recE s.rc = 0
    · have hB := Lib.hid (fun W => parse_back s hs.out hE W)
      have hO := Lib.hid (fun a' n' c' W (h : RdV W a' n' c' s.rc.pend) (h2 : RdV W pa pn pc s.rc.pend) => show n' = pn from by have e1 := h.len; have e2 := h2.len; omega)
      rw [hE]
      generalize prS s = T at *
      clear hE
      go_wp2_with fail
      refine (hB.out _).mono ?_
      rintro e w3 ⟨a', n', c', rfl, hp3, b03⟩
      replace b03 := belS b02 b03
      have hn := hO.out a' n' c' _ hp3 (HK.out _ b03).2.2.1
      subst hn
      clear hB hO b02
      have hZ := BlkAt.new w3 32 zST
      go_wp2_with (first
        | (refine wpList_blk_alloc rfl rfl Try.stZ w3.heap.size rfl ?_)
        | (refine wpList_blk_store rfl (.tmp 9) (.tmp 60) rfl rfl rfl hZ Try.stI rfl (by simp [Value.oneCell']) ?_; intro w4 hS hK hsz; replace hK := alloc_store hK; replace b03 := belS b03 hK; replace hp3 := hp3.below hK (Nat.le_refl _); clear hZ hsz hK))
      obtain ⟨BA, _, hp4, _, _⟩ := HK.out _ b03
      have kS1 := fun d os => Calls.regrown_of (stable_any s a' n' c' (grow (redrawn w4 d) os))
      have kS2 := fun d os => Calls.regrown_of (stable_any s pa n' pc (grow (redrawn w4 d) os))
      have kT := fun d os => Calls.regrown_of (stables_any s a' pa n' c' pc (grow (redrawn w4 d) os) (hp3.below (below_regrown w4 d os) (Nat.le_refl _)) (hp4.below (below_regrown w4 d os) (Nat.le_refl _)))
      refine wp_region_quiet_below (by kernel_rfl) (by kernel_rfl) ?_
      iterate 10 (first
        | (refine wpQuiet_blk_load (by first | rfl | simp [Region.wanted, go_sem]) (.tmp 9) rfl Try.underlying32 rfl rfl hS Try.stI ?_; (try simp only [Act.put, List.setIfInBounds_toArray, List.set_cons_zero, List.set_cons_succ]))
        | (refine wpQuiet_blk_load (by first | rfl | simp [Region.wanted, go_sem]) (.tmp 3) rfl Try.underlying32 rfl rfl BA Try.stI ?_; (try simp only [Act.put, List.setIfInBounds_toArray, List.set_cons_zero, List.set_cons_succ]))
        | go_big_quiet_step (first | (with_reducible exact kS1 _ _) | (with_reducible exact kS2 _ _) | (with_reducible exact kT _ _)))
      refine wpQuiet_nil ?_
      intro w5 hw'
      obtain ⟨⟨dq, osq⟩, hw''⟩ := hw'
      subst hw''
      replace b03 := belS b03 (below_regrown w4 dq osq)
      clear kS1 kS2 kT BA hS hp3 hp4
      generalize grow (redrawn w4 dq) osq = w5 at *
      go_wp2_with fail
      go_meet
      exact b03
    · generalize recE s.rc = er at *
      go_wp2_with fail
      go_meet
      exact b02
  case rest =>
    clear b01
    obtain ⟨w2, hw2⟩ : ∃ z, z = wc := ⟨_, rfl⟩
    subst hw2
    obtain ⟨_, BB, _, hq2, _⟩ := HK.out _ hcut
    go_upto_if 78 with (first
      | (refine wpList_blk_load rfl (.tmp 4) rfl Try.underlying34 rfl rfl BB Try.itI ?_)
      | (go_at_call 11; refine (pitem_any x D qa qn qc _ hx.out hd.out (by omega) hq2).mono ?_; rintro e w3 ⟨rfl, b3⟩; clear BB; generalize hT : prI x = T at *; generalize hes : itE x = es at *; replace hT := Lib.hid hT; replace hes := Lib.hid hes))
    go_cut [] from 7 (fun wx => Below w1.heap.size w1 wx)
    case first => as_aux_lemma =>
      replace hcut := belS hcut b3
      clear b3
      by_cases hE : es = 0
      · have hB := Lib.hid (fun W => parseI_back x D hx.out hd.out (hes.out.trans hE) W)
        have hk := Lib.hid (itE_kind (hes.out.trans hE))
        rw [hT.out] at hB
        subst hE
        go_wp2_with fail
        refine (hB.out _).mono ?_
        rintro e w4 ⟨y, D', a', n', c', rfl, hy, hyx, hp4, b4⟩
        replace hcut := belS hcut b4
        clear hB b4
        have hZ := BlkAt.new w4 34 zIT
        go_wp2_with (first
          | (refine wpList_blk_alloc rfl rfl Try.itZ w4.heap.size rfl ?_)
          | (refine wpList_blk_store rfl (.tmp 13) (.tmp 82) rfl rfl rfl hZ Try.itI rfl (by simp [Value.oneCell']) ?_; intro w5 hS hK hsz; replace hK := alloc_store hK; replace hcut := belS hcut hK; replace hp4 := hp4.below hK (Nat.le_refl _); clear hZ hsz hK)
          | (refine wpList_blk_load rfl (.tmp 13) rfl Try.underlying34 rfl rfl hS Try.itI ?_))
        refine (pitem_any y D' a' n' c' _ hy.out.1 hy.out.2.2.2.1 hy.out.2.2.2.2 hp4).mono ?_
        rw [hy.out.2.1, hy.out.2.2.1]
        rintro e w6 ⟨rfl, b6⟩
        replace hcut := belS hcut b6
        replace hS := hS.below b6 hS.lt
        replace hp4 := hp4.below b6 (Nat.le_refl _)
        generalize w4.heap.size = g at *
        obtain ⟨_, BB, _, hq6, _⟩ := HK.out _ hcut
        clear b6 hy
        have ky := hyx.out.1
        rcases hk.out with hk1 | hk1 | hk1 | hk1
        · as_aux_lemma => (have hD := hyx.out.2.1 (by omega); have y0 : w6.cell? ⟨g, 0, none⟩ = some (.int .i64 1) := (hS.cell (i := 0) rfl).trans (congrArg (fun k => some (Value.int .i64 k)) (ky.trans hk1)); have y1 : w6.cell? ⟨g, 1, none⟩ = some (.string D) := (hS.cell (i := 1) rfl).trans (congrArg (fun D => some (Value.string D)) hD); have x0 : w6.cell? ⟨w.heap.size + 1, 0, none⟩ = some (.int .i64 1) := (BB.cell (i := 0) rfl).trans (congrArg (fun k => some (Value.int .i64 k)) hk1); have x1 : w6.cell? ⟨w.heap.size + 1, 1, none⟩ = some (.string D) := BB.cell (i := 1) rfl; clear hD ky hyx hk hk1 hp4 hq6 hS BB; go_wp2_with fail; have k0 := cell_regrown x0; refine wp_region_quiet_below (by kernel_rfl) (by kernel_rfl) ?_; (iterate 41 go_big_quiet_step (fail)); refine wpQuiet_nil ?_; intro w7 hw'; obtain ⟨⟨dq, osq⟩, hw''⟩ := hw'; subst hw''; replace hcut := belS hcut (below_regrown w6 dq osq); clear k0 y0 y1 x0 x1; generalize grow (redrawn w6 dq) osq = w7 at *; go_wp2_with fail; go_meet; exact hcut)
        · as_aux_lemma =>
            obtain ⟨f1, f2, f3, f4, f5⟩ := hyx.out.2.2.2 hk1
            rw [f1, f2, f3, f4, f5] at hS
            rw [f5] at hp4
            have hn : n' = qn := by have e1 := hp4.len; have e2 := hq6.len; omega
            subst hn
            have y0 : w6.cell? ⟨g, 0, none⟩ = some (.int .i64 2) := (hS.cell (i := 0) rfl).trans (congrArg (fun k => some (Value.int .i64 k)) (ky.trans hk1))
            have x0 : w6.cell? ⟨w.heap.size + 1, 0, none⟩ = some (.int .i64 2) := (BB.cell (i := 0) rfl).trans (congrArg (fun k => some (Value.int .i64 k)) hk1)
            have y2 := hS.cell (i := 2) rfl
            have y3 := hS.cell (i := 3) rfl
            have y4 := hS.cell (i := 4) rfl
            have y5 := hS.cell (i := 5) rfl
            have x2 := BB.cell (i := 2) rfl
            have x3 := BB.cell (i := 3) rfl
            have x4 := BB.cell (i := 4) rfl
            have x5 := BB.cell (i := 5) rfl
            have kR1 := fun d os => Calls.regrown_of (rec_any x.rc.last a' n' c' (grow (redrawn w6 d) os))
            have kR2 := fun d os => Calls.regrown_of (rec_any x.rc.last qa n' qc (grow (redrawn w6 d) os))
            have kT := fun d os => Calls.regrown_of (same_any x.rc.last x.rc.pend a' qa n' c' qc (grow (redrawn w6 d) os) (hp4.below (below_regrown w6 d os) (Nat.le_refl _)) (hq6.below (below_regrown w6 d os) (Nat.le_refl _)))
            clear ky hyx hk hk1 f1 f2 f3 f4 f5
            go_wp2_with fail
            have k0 := cell_regrown x0
            have j2 := cell_regrown y2
            have j3 := cell_regrown y3
            have j4 := cell_regrown y4
            have j5 := cell_regrown y5
            have k2 := cell_regrown x2
            have k3 := cell_regrown x3
            have k4 := cell_regrown x4
            have k5 := cell_regrown x5
            refine wp_region_quiet_below (by kernel_rfl) (by kernel_rfl) ?_
            iterate 41 (first
              | (refine wpQuiet_blk_get (cs := #[.int .u64 x.rc.last.num, .int .u64 x.rc.last.ce, .int .i64 x.rc.last.cr, .int .u64 x.rc.last.mem, .slice a' n' c']) (by first | rfl | simp [Region.wanted, go_sem]) (.tmp 167) rfl rfl hS Try.underlying30 rfl (Try.recI _ _) (get5 rfl rfl rfl rfl rfl) ?_; (try simp only [Act.put, List.setIfInBounds_toArray, List.set_cons_zero, List.set_cons_succ]))
              | (refine wpQuiet_blk_get (cs := #[.int .u64 x.rc.last.num, .int .u64 x.rc.last.ce, .int .i64 x.rc.last.cr, .int .u64 x.rc.last.mem, .slice qa n' qc]) (by first | rfl | simp [Region.wanted, go_sem]) (.tmp 170) rfl rfl BB Try.underlying30 rfl (Try.recI _ _) (get5 rfl rfl rfl rfl rfl) ?_; (try simp only [Act.put, List.setIfInBounds_toArray, List.set_cons_zero, List.set_cons_succ]))
              | go_big_quiet_step (first | (with_reducible exact kR1 _ _) | (with_reducible exact kR2 _ _) | (with_reducible exact kT _ _)))
            refine wpQuiet_nil ?_
            intro w7 hw'
            obtain ⟨⟨dq, osq⟩, hw''⟩ := hw'
            subst hw''
            replace hcut := belS hcut (below_regrown w6 dq osq)
            clear kR1 kR2 kT hp4 hq6 hS BB k0 j2 j3 j4 j5 k2 k3 k4 k5 y0 x0 y2 y3 y4 y5 x2 x3 x4 x5
            generalize grow (redrawn w6 dq) osq = w7 at *
            go_wp2_with fail
            go_meet
            exact hcut
        · as_aux_lemma =>
            have hv := hyx.out.2.2.1 hk1
            rw [hv] at hS
            have y0 : w6.cell? ⟨g, 0, none⟩ = some (.int .i64 3) := (hS.cell (i := 0) rfl).trans (congrArg (fun k => some (Value.int .i64 k)) (ky.trans hk1))
            have x0 : w6.cell? ⟨w.heap.size + 1, 0, none⟩ = some (.int .i64 3) := (BB.cell (i := 0) rfl).trans (congrArg (fun k => some (Value.int .i64 k)) hk1)
            have HN := fun W => run_neq_vw W x.view x.view
            rw [show veq x.view x.view = true from veq_eq.2 rfl] at HN
            replace HN := Lib.hid HN
            clear ky hyx hk hk1 hv hp4 hq6
            go_wp2_with (first
              | (refine wpList_blk_get_g (cs := #[.int .u64 x.view.num, .int .u64 x.view.ce, .int .i64 x.view.cr, .int .u64 x.view.mem]) (by first | rfl | simp [Region.wanted, go_sem]) (.tmp 129) rfl rfl hS Try.underlying27 rfl (Try.viewI _) (get4 rfl rfl rfl rfl) ?_)
              | (refine wpList_blk_get_g (cs := #[.int .u64 x.view.num, .int .u64 x.view.ce, .int .i64 x.view.cr, .int .u64 x.view.mem]) (by first | rfl | simp [Region.wanted, go_sem]) (.tmp 131) rfl rfl BB Try.underlying27 rfl (Try.viewI _) (get4 rfl rfl rfl rfl) ?_)
              | (refine wpList_agg_g (by first | rfl | simp [Region.wanted, go_sem]) Try.viewG (.tmp 130) (.tmp 132) _ rfl rfl rfl HN.out ?_))
            have k0 := cell_regrown x0
            refine wp_region_quiet_below (by kernel_rfl) (by kernel_rfl) ?_
            iterate 41 go_big_quiet_step (fail)
            refine wpQuiet_nil ?_
            intro w7 hw'
            obtain ⟨⟨dq, osq⟩, hw''⟩ := hw'
            subst hw''
            replace hcut := belS hcut (below_regrown w6 dq osq)
            clear k0 y0 x0 hS BB
            generalize grow (redrawn w6 dq) osq = w7 at *
            go_wp2_with fail
            go_meet
            exact hcut
        · as_aux_lemma => (have hD := hyx.out.2.1 (by omega); have y0 : w6.cell? ⟨g, 0, none⟩ = some (.int .i64 4) := (hS.cell (i := 0) rfl).trans (congrArg (fun k => some (Value.int .i64 k)) (ky.trans hk1)); have y1 : w6.cell? ⟨g, 1, none⟩ = some (.string D) := (hS.cell (i := 1) rfl).trans (congrArg (fun D => some (Value.string D)) hD); have x0 : w6.cell? ⟨w.heap.size + 1, 0, none⟩ = some (.int .i64 4) := (BB.cell (i := 0) rfl).trans (congrArg (fun k => some (Value.int .i64 k)) hk1); have x1 : w6.cell? ⟨w.heap.size + 1, 1, none⟩ = some (.string D) := BB.cell (i := 1) rfl; clear hD ky hyx hk hk1 hp4 hq6 hS BB; go_wp2_with fail; have k0 := cell_regrown x0; refine wp_region_quiet_below (by kernel_rfl) (by kernel_rfl) ?_; (iterate 41 go_big_quiet_step (fail)); refine wpQuiet_nil ?_; intro w7 hw'; obtain ⟨⟨dq, osq⟩, hw''⟩ := hw'; subst hw''; replace hcut := belS hcut (below_regrown w6 dq osq); clear k0 y0 y1 x0 x1; generalize grow (redrawn w6 dq) osq = w7 at *; go_wp2_with fail; go_meet; exact hcut)
      · go_wp2_with fail
        go_meet
        exact hcut
    case rest =>
      obtain ⟨w3, hw3⟩ : ∃ z, z = wc := ⟨_, rfl⟩
      subst hw3
      go_upto_if 183 with (first
        | (go_at_call 14; refine (parse_fwd t (by omega) _).mono ?_; rintro e w4 ⟨y, er, a', n', c', rfl, _, hf, hp4, b4⟩; replace hcut := belS hcut b4; have hZ := BlkAt.new w4 32 zST; clear b4)
        | (refine wpList_blk_alloc rfl rfl Try.stZ w4.heap.size rfl ?_)
        | (refine wpList_blk_store rfl (.tmp 17) (.tmp 180) rfl rfl rfl hZ Try.stI rfl (by simp [Value.oneCell']) ?_; intro w5 hS hK hsz; replace hK := alloc_store hK; replace hcut := belS hcut hK; replace hp4 := hp4.below hK (Nat.le_refl _); clear hZ hsz hK))
      go_cut [] from 7 (fun wx => Below w1.heap.size w1 wx)
      case first => as_aux_lemma =>
        by_cases hE : er = 0
        · obtain ⟨hyy, hw, hpr, hre⟩ := hf.out hE; clear hyy
          have HP := Lib.hid (fun W (h : RdV W a' n' c' y.rc.pend) => print_any y a' n' c' hw W h)
          rw [hpr, hre] at HP
          clear hw hpr hre hf
          subst hE
          go_wp2_with (first
            | (refine wpList_blk_load rfl (.tmp 17) rfl Try.underlying32 rfl rfl hS Try.stI ?_)
            | (go_at_call 8; refine (HP.out _ hp4).mono ?_; rintro e w6 ⟨rfl, b6⟩; replace hcut := belS hcut b6; clear hS b6 hp4))
          go_meet
          exact hcut
        · clear hf
          go_wp2_with fail
          go_meet
          exact hcut
      case rest =>
        obtain ⟨w4, hw4⟩ : ∃ z, z = wc := ⟨_, rfl⟩
        subst hw4
        clear hS hp4 hf
        go_upto_if 202 with (first
          | (go_at_call 16; refine (parseI_fwd t (by omega) _).mono ?_; rintro e w5 ⟨y, D', er, a', n', c', rfl, _, hf, hp5, b5⟩; replace hcut := belS hcut b5; have hZ := BlkAt.new w5 34 zIT; clear b5)
          | (refine wpList_blk_alloc rfl rfl Try.itZ w5.heap.size rfl ?_)
          | (refine wpList_blk_store rfl (.tmp 21) (.tmp 199) rfl rfl rfl hZ Try.itI rfl (by simp [Value.oneCell']) ?_; intro w6 hS hK hsz; replace hK := alloc_store hK; replace hcut := belS hcut hK; replace hp5 := hp5.below hK (Nat.le_refl _); clear hZ hsz hK))
        go_cut [] from 7 (fun wx => Below w1.heap.size w1 wx)
        case first => as_aux_lemma =>
          by_cases hE : er = 0
          · obtain ⟨hyy, hw, hpr, hre, hdd, hDD⟩ := hf.out hE; clear hyy
            have HP := Lib.hid (fun W (h : RdV W a' n' c' y.rc.pend) => pitem_any y D' a' n' c' W hw hdd hDD h)
            rw [hpr, hre] at HP
            clear hw hpr hre hf hdd hDD
            subst hE
            go_wp2_with (first
              | (refine wpList_blk_load rfl (.tmp 21) rfl Try.underlying34 rfl rfl hS Try.itI ?_)
              | (go_at_call 11; refine (HP.out _ hp5).mono ?_; rintro e w7 ⟨rfl, b7⟩; replace hcut := belS hcut b7; clear hS b7 hp5))
            go_meet
            exact hcut
          · clear hf
            go_wp2_with fail
            go_meet
            exact hcut
        case rest =>
          have E := (HK.out _ hcut).2.2.2.2
          go_wp2
          go_ret
          exact ⟨rfl, E⟩
theorem back_law (cs0 cs1 : Array Value) (t : ByteArray) (w : World) (h0 : ∃ x, RStab w cs0.toList x) (h1 : ∃ x, RItem w cs1.toList x) (_ : t.size ≤ maxLen) :
    Calls Try.prog 5 #[.agg cs0, .agg cs1, .string t] w fun e w' => e = .returned (.bool true) ∧ Below w.heap.size w w' := by
  obtain ⟨x0, h0⟩ := h0
  obtain ⟨x1, h1⟩ := h1
  obtain ⟨s, pa, pn, pc, rfl, hp, hs⟩ := h0.st
  obtain ⟨x, D, qa, qn, qc, rfl, hd, _, hq, hx, _, _, _⟩ := h1.it
  exact back_walk s pa pn pc x D qa qn qc t w hs hp hx hd hq
end Go.Proofs.Ytdfnpaaejjediaa
