/- log: the reference's Items; LogParses -/
import Derived.Test.YtdfnpaaejjediaaLogAn
namespace Go.Proofs.Ytdfnpaaejjediaa
open Go.RowKit Go.Sort

set_option maxHeartbeats 3200000 in
set_option maxRecDepth 100000 in
theorem items_any (x : It) (D : ByteArray) (a a' : Option Addr) (n c c' : Nat) (w : World) (h1 : RdV w a n c x.rc.pend) (h2 : RdV w a' n c' x.rc.pend) :
    Calls Try.prog 19 #[.agg #[.int .i64 x.kind, .string D, .int .u32 x.inc, .int .u64 x.holds, .bool x.has, .bool x.direct, .int .u64 x.rc.last.num, .int .u64 x.rc.last.ce, .int .i64 x.rc.last.cr, .int .u64 x.rc.last.mem, .slice a n c, .int .u64 x.view.num, .int .u64 x.view.ce, .int .i64 x.view.cr, .int .u64 x.view.mem, .int .u64 x.number, .int .i64 x.index, .int .i64 x.total], .agg #[.int .i64 x.kind, .string D, .int .u32 x.inc, .int .u64 x.holds, .bool x.has, .bool x.direct, .int .u64 x.rc.last.num, .int .u64 x.rc.last.ce, .int .i64 x.rc.last.cr, .int .u64 x.rc.last.mem, .slice a' n c', .int .u64 x.view.num, .int .u64 x.view.ce, .int .i64 x.view.cr, .int .u64 x.view.mem, .int .u64 x.number, .int .i64 x.index, .int .i64 x.total]] w fun e w' => e = .returned (.bool true) ∧ Below w.heap.size w w' := by
  obtain ⟨wS, hwS⟩ : ∃ wS, wS = (w.alloc (.cells #[.int .i64 x.kind, .string D, .int .u32 x.inc, .int .u64 x.holds, .bool x.has, .bool x.direct, .int .u64 x.rc.last.num, .int .u64 x.rc.last.ce, .int .i64 x.rc.last.cr, .int .u64 x.rc.last.mem, .slice a n c, .int .u64 x.view.num, .int .u64 x.view.ce, .int .i64 x.view.cr, .int .u64 x.view.mem, .int .u64 x.number, .int .i64 x.index, .int .i64 x.total] 48)).alloc (.cells #[.int .i64 x.kind, .string D, .int .u32 x.inc, .int .u64 x.holds, .bool x.has, .bool x.direct, .int .u64 x.rc.last.num, .int .u64 x.rc.last.ce, .int .i64 x.rc.last.cr, .int .u64 x.rc.last.mem, .slice a' n c', .int .u64 x.view.num, .int .u64 x.view.ce, .int .i64 x.view.cr, .int .u64 x.view.mem, .int .u64 x.number, .int .i64 x.index, .int .i64 x.total] 48) := ⟨_, rfl⟩
  have E : Below w.heap.size w wS := by rw [hwS]; exact ((Below.refl _ _).alloc (Nat.le_refl _) _).alloc (by simp) _
  have BA : BlkAt wS w.heap.size 48 #[.int .i64 x.kind, .string D, .int .u32 x.inc, .int .u64 x.holds, .bool x.has, .bool x.direct, .int .u64 x.rc.last.num, .int .u64 x.rc.last.ce, .int .i64 x.rc.last.cr, .int .u64 x.rc.last.mem, .slice a n c, .int .u64 x.view.num, .int .u64 x.view.ce, .int .i64 x.view.cr, .int .u64 x.view.mem, .int .u64 x.number, .int .i64 x.index, .int .i64 x.total] := by rw [hwS]; exact (BlkAt.new w _ _).alloc _
  have BB : BlkAt wS (w.heap.size + 1) 48 #[.int .i64 x.kind, .string D, .int .u32 x.inc, .int .u64 x.holds, .bool x.has, .bool x.direct, .int .u64 x.rc.last.num, .int .u64 x.rc.last.ce, .int .i64 x.rc.last.cr, .int .u64 x.rc.last.mem, .slice a' n c', .int .u64 x.view.num, .int .u64 x.view.ce, .int .i64 x.view.cr, .int .u64 x.view.mem, .int .u64 x.number, .int .i64 x.index, .int .i64 x.total] := by
    rw [hwS]
    have := BlkAt.new (w.alloc (.cells #[.int .i64 x.kind, .string D, .int .u32 x.inc, .int .u64 x.holds, .bool x.has, .bool x.direct, .int .u64 x.rc.last.num, .int .u64 x.rc.last.ce, .int .i64 x.rc.last.cr, .int .u64 x.rc.last.mem, .slice a n c, .int .u64 x.view.num, .int .u64 x.view.ce, .int .i64 x.view.cr, .int .u64 x.view.mem, .int .u64 x.number, .int .i64 x.index, .int .i64 x.total] 48)) 48 #[.int .i64 x.kind, .string D, .int .u32 x.inc, .int .u64 x.holds, .bool x.has, .bool x.direct, .int .u64 x.rc.last.num, .int .u64 x.rc.last.ce, .int .i64 x.rc.last.cr, .int .u64 x.rc.last.mem, .slice a' n c', .int .u64 x.view.num, .int .u64 x.view.ce, .int .i64 x.view.cr, .int .u64 x.view.mem, .int .u64 x.number, .int .i64 x.index, .int .i64 x.total]
    simpa using this
  have HV := Lib.hid (fun W (h1 : RdV W a n c x.rc.pend) (h2 : RdV W a' n c' x.rc.pend) => same_any x.rc.last x.rc.pend a a' n c c' W h1 h2)
  have HE := fun W => run_eql_vw W x.view x.view
  rw [show veq x.view x.view = true from veq_eq.2 rfl] at HE
  replace HE := Lib.hid HE
  replace h1 := h1.below E (Nat.le_refl _)
  replace h2 := h2.below E (Nat.le_refl _)
  have c0 := BA.cell (i := 0) rfl
  have c1 := BA.cell (i := 1) rfl
  have c2 := BA.cell (i := 2) rfl
  have c3 := BA.cell (i := 3) rfl
  have c4 := BA.cell (i := 4) rfl
  have c5 := BA.cell (i := 5) rfl
  have d0 := BB.cell (i := 0) rfl
  have d1 := BB.cell (i := 1) rfl
  have d2 := BB.cell (i := 2) rfl
  have d3 := BB.cell (i := 3) rfl
  have d4 := BB.cell (i := 4) rfl
  have d5 := BB.cell (i := 5) rfl
  replace hwS := Lib.hid hwS
  go_enter Try.func19, Try.ntmps19
  go_wp2_with (first
    | (refine wpList_blk_box rfl (.tmp 0) rfl rfl w.heap.size rfl ?_)
    | (refine wpList_blk_box rfl (.tmp 1) rfl rfl (w.heap.size + 1) (by simp) ?_; rw [← hwS.out])
    | (refine wpList_blk_get_g (cs := #[.int .u64 x.rc.last.num, .int .u64 x.rc.last.ce, .int .i64 x.rc.last.cr, .int .u64 x.rc.last.mem, .slice a n c]) (by first | rfl | simp [Region.wanted, go_sem]) (.tmp 46) rfl rfl BA Try.underlying41 rfl (Try.rrI _ _) (get5 rfl rfl rfl rfl rfl) ?_)
    | (refine wpList_blk_get_g (cs := #[.int .u64 x.rc.last.num, .int .u64 x.rc.last.ce, .int .i64 x.rc.last.cr, .int .u64 x.rc.last.mem, .slice a' n c']) (by first | rfl | simp [Region.wanted, go_sem]) (.tmp 48) rfl rfl BB Try.underlying41 rfl (Try.rrI _ _) (get5 rfl rfl rfl rfl rfl) ?_))
  refine (HV.out _ h1 h2).mono ?_
  rintro e w2 ⟨rfl, hb⟩
  replace E := belS E hb
  replace BA := BA.below hb BA.lt
  replace BB := BB.below hb BB.lt
  clear c0 c1 c2 c3 c4 c5 d0 d1 d2 d3 d4 d5 h1 h2 HV hb hwS
  have c6 := BA.cell (i := 15) rfl
  have c7 := BA.cell (i := 16) rfl
  have c8 := BA.cell (i := 17) rfl
  have d6 := BB.cell (i := 15) rfl
  have d7 := BB.cell (i := 16) rfl
  have d8 := BB.cell (i := 17) rfl
  go_wp2_with (first
    | (refine wpList_blk_get_g (cs := #[.int .u64 x.view.num, .int .u64 x.view.ce, .int .i64 x.view.cr, .int .u64 x.view.mem]) (by first | rfl | simp [Region.wanted, go_sem]) (.tmp 53) rfl rfl BA Try.underlying27 rfl (Try.viewI _) (get4 rfl rfl rfl rfl) ?_)
    | (refine wpList_blk_get_g (cs := #[.int .u64 x.view.num, .int .u64 x.view.ce, .int .i64 x.view.cr, .int .u64 x.view.mem]) (by first | rfl | simp [Region.wanted, go_sem]) (.tmp 55) rfl rfl BB Try.underlying27 rfl (Try.viewI _) (get4 rfl rfl rfl rfl) ?_)
    | (refine wpList_agg_g (by first | rfl | simp [Region.wanted, go_sem]) Try.viewG (.tmp 54) (.tmp 56) _ rfl rfl rfl HE.out ?_))
  go_ret
  exact ⟨rfl, E⟩
set_option maxHeartbeats 6400000 in
set_option maxRecDepth 100000 in
theorem parses_any (s : ByteArray) (w : World) : Calls Try.prog 4 #[.string s] w fun e w' => e = .returned (.bool true) ∧ Below w.heap.size w w' := by
  go_enter Try.func4, Try.ntmps4
  go_wp2_with fail
  refine (awake_any _).mono ?_
  rintro e w1 ⟨rfl, hb1⟩
  by_cases h5 : 5000 < s.size
  · have h5I : (5000 : Int) < s.size := by omega
    go_wp2
    go_ret
    exact ⟨rfl, hb1⟩
  have h5I : ¬ (5000 : Int) < s.size := by omega
  have hP := Lib.hid (fun W => parse_any s W (by omega))
  have hRP := Lib.hid (fun W => rparse_any s W (by omega))
  have hI := Lib.hid (fun W => parseItem_any s W (by omega))
  have hRI := Lib.hid (fun W => rparseItem_any s W (by omega))
  go_wp2_with fail
  refine (hP.out _).mono ?_
  rintro e w2 ⟨⟨x, pa, pn, pc, rfl, x0, x1, hp⟩, b2⟩
  replace b2 := belS hb1 b2
  have hZ := BlkAt.new w2 32 zST
  go_wp2_with (first
    | (refine wpList_blk_alloc rfl rfl Try.stZ w2.heap.size rfl ?_)
    | (refine wpList_blk_store rfl (.tmp 3) (.tmp 19) rfl rfl rfl hZ Try.stI rfl (by simp [Value.oneCell']) ?_; intro w3 BA hK3 hs3; replace hK3 := alloc_store hK3; replace hp := hp.below hK3 (Nat.le_refl _); replace b2 := belS b2 hK3; clear hZ hK3 hs3))
  refine (hRP.out _).mono ?_
  rintro e w4 ⟨⟨y, qa, qn, qc, rfl, y0, y1, hq⟩, b4⟩
  replace b2 := belS b2 b4
  replace BA := BA.below b4 BA.lt
  replace hp := hp.below b4 (Nat.le_refl _)
  have hxy : x = y := by
    by_cases h : stE (bI s) = 0
    · rw [x0.out h, y0.out h]
    · rw [x1.out h, y1.out h]
  subst hxy
  clear x0 x1 y0 y1 b4 hP hRP
  have hn : pn = qn := by have e1 := hp.len; have e2 := hq.len; omega
  subst hn
  have hZ := BlkAt.new w4 43 zST
  have hg2 := BA.lt
  generalize w2.heap.size = g2 at *
  go_wp2_with (first
    | (refine wpList_blk_alloc rfl rfl Try.rsZ w4.heap.size rfl ?_)
    | (refine wpList_blk_store rfl (.tmp 5) (.tmp 24) rfl rfl rfl hZ Try.rsI rfl (by simp [Value.oneCell']) ?_; intro w5 BB hK5 hs5; replace hK5 := alloc_store hK5; replace hp := hp.below hK5 (Nat.le_refl _); replace hq := hq.below hK5 (Nat.le_refl _); replace BA := BA.below hK5 BA.lt; replace b2 := belS b2 hK5; clear hZ hK5 hs5))
  refine (hI.out _).mono ?_
  rintro e w6 ⟨⟨u, D, ua, un, uc, rfl, u0, u1, hD, hu⟩, b6⟩
  replace b2 := belS b2 b6
  replace BA := BA.below b6 BA.lt
  replace BB := BB.below b6 BB.lt
  replace hp := hp.below b6 (Nat.le_refl _)
  replace hq := hq.below b6 (Nat.le_refl _)
  have hZ := BlkAt.new w6 34 zIT
  generalize w4.heap.size = g4 at *
  clear b6 hI
  go_wp2_with (first
    | (refine wpList_blk_alloc rfl rfl Try.itZ w6.heap.size rfl ?_)
    | (refine wpList_blk_store rfl (.tmp 7) (.tmp 29) rfl rfl rfl hZ Try.itI rfl (by simp [Value.oneCell']) ?_; intro w7 BC hK7 hs7; replace hK7 := alloc_store hK7; replace hp := hp.below hK7 (Nat.le_refl _); replace hq := hq.below hK7 (Nat.le_refl _); replace hu := hu.below hK7 (Nat.le_refl _); replace BA := BA.below hK7 BA.lt; replace BB := BB.below hK7 BB.lt; replace b2 := belS b2 hK7; clear hZ hK7 hs7))
  refine (hRI.out _).mono ?_
  rintro e w8 ⟨⟨v, D', va, vn, vc, rfl, v0, v1, hD', hv⟩, b8⟩
  replace b2 := belS b2 b8
  replace BA := BA.below b8 BA.lt
  replace BB := BB.below b8 BB.lt
  replace BC := BC.below b8 BC.lt
  replace hp := hp.below b8 (Nat.le_refl _)
  replace hq := hq.below b8 (Nat.le_refl _)
  replace hu := hu.below b8 (Nat.le_refl _)
  have huv : u = v := by
    by_cases h : itPE (bI s) = 0
    · rw [u0.out h, v0.out h]
    · rw [u1.out h, v1.out h]
  subst huv
  obtain rfl : D = D' := bI_inj2 (hD.symm.trans hD')
  have hn : un = vn := by have e1 := hu.len; have e2 := hv.len; omega
  subst hn
  clear u0 u1 v0 v1 hD hD' b8 hRI
  have hZ := BlkAt.new w8 48 zIT
  have hg6 := BC.lt
  generalize w6.heap.size = g6 at *
  generalize stE (bI s) = er at *
  generalize itPE (bI s) = es at *
  go_wp2_with (first
    | (refine wpList_blk_alloc rfl rfl Try.riZ w8.heap.size rfl ?_)
    | (refine wpList_blk_store rfl (.tmp 9) (.tmp 34) rfl rfl rfl hZ Try.riI rfl (by simp [Value.oneCell']) ?_; intro w9 BD hK9 hs9; replace hK9 := alloc_store hK9; replace hp := hp.below hK9 (Nat.le_refl _); replace hq := hq.below hK9 (Nat.le_refl _); replace hu := hu.below hK9 (Nat.le_refl _); replace hv := hv.below hK9 (Nat.le_refl _); replace BA := BA.below hK9 BA.lt; replace BB := BB.below hK9 BB.lt; replace BC := BC.below hK9 BC.lt; replace b2 := belS b2 hK9; clear hZ hK9 hs9))
  generalize w8.heap.size = g8 at *
  have kS := fun d os => Calls.regrown_of (stable_any x pa pn pc (grow (redrawn w9 d) os))
  have kI := fun d os => Calls.regrown_of (item_any u D ua un uc (grow (redrawn w9 d) os))
  have kT := fun d os => Calls.regrown_of (stables_any x pa qa pn pc qc (grow (redrawn w9 d) os) (hp.below (below_regrown w9 d os) (Nat.le_refl _)) (hq.below (below_regrown w9 d os) (Nat.le_refl _)))
  have kU := fun d os => Calls.regrown_of (items_any u D ua va un uc vc (grow (redrawn w9 d) os) (hu.below (below_regrown w9 d os) (Nat.le_refl _)) (hv.below (below_regrown w9 d os) (Nat.le_refl _)))
  refine wp_region_quiet_below (by kernel_rfl) (by kernel_rfl) ?_
  iterate 21 (first
    | (refine wpQuiet_blk_load (by first | rfl | simp [Region.wanted, go_sem]) (.tmp 3) rfl Try.underlying32 rfl rfl BA Try.stI ?_; (try simp only [Act.put, List.getElem_toArray, List.getElem_cons_zero, List.getElem_cons_succ, List.setIfInBounds_toArray, List.set_cons_zero, List.set_cons_succ]))
    | (refine wpQuiet_blk_load (by first | rfl | simp [Region.wanted, go_sem]) (.tmp 5) rfl Try.underlying43 rfl rfl BB Try.rsI ?_; (try simp only [Act.put, List.getElem_toArray, List.getElem_cons_zero, List.getElem_cons_succ, List.setIfInBounds_toArray, List.set_cons_zero, List.set_cons_succ]))
    | (refine wpQuiet_blk_load (by first | rfl | simp [Region.wanted, go_sem]) (.tmp 7) rfl Try.underlying34 rfl rfl BC Try.itI ?_; (try simp only [Act.put, List.getElem_toArray, List.getElem_cons_zero, List.getElem_cons_succ, List.setIfInBounds_toArray, List.set_cons_zero, List.set_cons_succ]))
    | (refine wpQuiet_blk_load (by first | rfl | simp [Region.wanted, go_sem]) (.tmp 9) rfl Try.underlying48 rfl rfl BD Try.riI ?_; (try simp only [Act.put, List.getElem_toArray, List.getElem_cons_zero, List.getElem_cons_succ, List.setIfInBounds_toArray, List.set_cons_zero, List.set_cons_succ]))
    | go_big_quiet_step (first | (with_reducible exact kS _ _) | (with_reducible exact kI _ _) | (with_reducible exact kT _ _) | (with_reducible exact kU _ _)))
  refine wpQuiet_nil ?_
  intro w10 hw'
  obtain ⟨⟨dq, osq⟩, hw''⟩ := hw'
  subst hw''
  replace b2 := belS b2 (below_regrown w9 dq osq)
  clear kS kI kT kU BA BB BC BD hp hq hu hv
  generalize grow (redrawn w9 dq) osq = w10 at *
  go_wp2
  go_ret
  exact ⟨rfl, b2⟩
theorem parses_law (s : ByteArray) (w : World) (_ : s.size ≤ maxLen) : Calls Try.prog 4 #[.string s] w fun e w' => e = .returned (.bool true) ∧ Below w.heap.size w w' := parses_any s w
end Go.Proofs.Ytdfnpaaejjediaa
