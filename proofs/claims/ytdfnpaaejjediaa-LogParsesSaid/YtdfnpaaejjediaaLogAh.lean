/- log: the reference's Parse -/
import Derived.Test.YtdfnpaaejjediaaLogAg
import Derived.Test.YtdfnpaaejjediaaPut
import Derived.Test.YtdfnpaaejjediaaLogU
namespace Go.Proofs.Ytdfnpaaejjediaa
open Go.RowKit Go.Sort

theorem Try.tkB (s : ByteArray) : Try.prog.built 87 [(0, .string s)] = some #[.string s, .int .i64 0, .int .i64 0] := by kernel_rfl
theorem Try.rsB1 (x : Nat) : Try.prog.built 43 [(0, .int .u64 x)] = some #[.int .u64 x, .int .u32 0, .int .u64 0, .int .u64 0, .int .i64 0, .int .u64 0, .slice none 0 0] := by kernel_rfl
theorem Try.rsB0 : Try.prog.built 43 [] = some zST := by kernel_rfl
/-- What the reference's Parse returns. -/
def RpPost (s : ByteArray) (w : World) (e : Ending) (w' : World) : Prop := (∃ (x : St) (pa : Option Addr) (pn pc : Nat), e = .returned (.tuple #[.agg #[.int .u64 x.epoch, .int .u32 x.inc, .int .u64 x.rc.last.num, .int .u64 x.rc.last.ce, .int .i64 x.rc.last.cr, .int .u64 x.rc.last.mem, .slice pa pn pc], .int .i64 (stE (bI s))]) ∧ Hid (stE (bI s) = 0 → x = stV (bI s)) ∧ Hid (stE (bI s) ≠ 0 → x = ⟨0, 0, .zero, []⟩) ∧ RdV w' pa pn pc x.rc.pend) ∧ Below w.heap.size w w'
/-- The chain of errors is what is wrong. -/
def pc1 (s : ByteArray) : Int := bE (nE s 0 1 0) 10 ((gN s 0 1 : Int) != 1)
def pc3 (s : ByteArray) : Int := nE s 9 4 (nE s 1 8 (pc1 s))
def pc5 (s : ByteArray) (q : Nat) : Int := bE (trE s 13 (pc3 s)) 4 (decide (q < s.size))
theorem pc3_zero {s : ByteArray} (h : pc3 s = 0) : 13 ≤ s.size ∧ nv (bI s) 0 1 = 1 := by
  unfold pc3 pc1 at h
  by_cases h1 : 1 ≤ s.size
  · rw [nE_ok (p := 0) (m := 1) (by omega)] at h
    have hn := nvN_cast (bI_mem s) 0 1
    by_cases h2 : nv (bI s) 0 1 = 1
    · rw [bE, if_neg (fun g => by have g1 := g.1; rw [gN_ok (by omega), hn, h2] at g1; simp at g1)] at h
      by_cases h3 : 13 ≤ s.size
      · exact ⟨h3, h2⟩
      · by_cases h4 : 9 ≤ s.size
        · rw [nE_ok (p := 1) (by omega), nE_short (by omega)] at h; cases h
        · rw [nE_short (p := 1) (by omega), nE_ne (by decide)] at h; cases h
    · rw [bE, if_pos ⟨by rw [gN_ok (by omega), hn]; simp [h2], rfl⟩, nE_ne (p := 1) (e := 10) (by decide), nE_ne (by decide)] at h; cases h
  · rw [nE_short (p := 0) (by omega), bE_ne (by decide), nE_ne (p := 1) (e := 2) (by decide), nE_ne (by decide)] at h; cases h
theorem pc3_ne {s : ByteArray} (h : pc3 s ≠ 0) : pc3 s = stE (bI s) := by
  have hl := bI_len s
  unfold pc3 pc1 at *
  by_cases h1 : 1 ≤ s.size
  · rw [nE_ok (p := 0) (m := 1) (by omega)] at h ⊢
    have hn := nvN_cast (bI_mem s) 0 1
    by_cases h2 : nv (bI s) 0 1 = 1
    · rw [bE, if_neg (fun g => by have g1 := g.1; rw [gN_ok (by omega), hn, h2] at g1; simp at g1)] at h ⊢
      by_cases h3 : 13 ≤ s.size
      · rw [nE_ok (p := 1) (by omega), nE_ok (by omega)] at h; exact absurd rfl h
      · rw [stE_s (by omega) h2 (by omega)]
        by_cases h4 : 9 ≤ s.size
        · rw [nE_ok (p := 1) (by omega), nE_short (by omega)]
        · rw [nE_short (p := 1) (by omega), nE_ne (by decide)]
    · rw [bE, if_pos ⟨by rw [gN_ok (by omega), hn]; simp [h2], rfl⟩, nE_ne (p := 1) (e := 10) (by decide), nE_ne (by decide), stE_f (by omega) h2]
  · rw [nE_short (p := 0) (by omega), bE_ne (by decide), nE_ne (p := 1) (e := 2) (by decide), nE_ne (by decide), stE_l (by omega)]
/-- The whole: the error, and the value where there is none. -/
theorem pc5_eq {s : ByteArray} {k : Nat} (hk : trE s 13 (pc3 s) = 0 → (⟨tvw s 13, tvs s (13 + 26) k⟩ : Rc) = rcAt (bI s) 13 ∧ 13 + 26 + 25 * k = rcEnd (bI s) 13) :
    pc5 s (13 + 26 + 25 * k) = stE (bI s) ∧ (stE (bI s) = 0 → (⟨gN s 1 8, gN s 9 4, ⟨tvw s 13, tvs s (13 + 26) k⟩⟩ : St) = stV (bI s)) := by
  have hl := bI_len s
  by_cases h3 : pc3 s = 0
  · obtain ⟨g1, g2⟩ := pc3_zero h3
    unfold pc5
    rw [h3] at hk ⊢
    unfold trE at hk ⊢
    rw [if_pos rfl] at hk ⊢
    by_cases hr : rcE (bI s) 13 = 0
    · obtain ⟨e1, e2⟩ := hk hr
      rw [hr]
      by_cases hq : rcEnd (bI s) 13 < s.size
      · have hE := stE_e (L := bI s) (by omega) g2 (by omega) hr (by omega)
        rw [hE, bE, if_pos ⟨by rw [decide_eq_true_eq]; omega, rfl⟩]
        exact ⟨rfl, fun h => by cases h⟩
      · have hE : stE (bI s) = 0 := stE_zero.2 ⟨g2, by omega, hr, by omega⟩
        rw [hE, bE, if_neg (fun g => by have g1 := g.1; rw [decide_eq_true_eq] at g1; omega)]
        refine ⟨rfl, fun _ => ?_⟩
        rw [stV, e1, gN_ok (by omega), gN_ok (by omega)]
        rfl
    · rw [bE_ne hr, stE_r (by omega) g2 (by omega) hr]
      exact ⟨rfl, fun h => absurd h hr⟩
  · unfold pc5
    unfold trE
    rw [if_neg h3, bE_ne h3, pc3_ne h3]
    exact ⟨rfl, fun h => absurd (pc3_ne h3 ▸ h) h3⟩
/-- The results' values, of a cell that holds a struct, and a slot. -/
theorem results_cell_slot {fn : Func} {p q : Tmp} {ty : TypeId} (h : fn.results = #[.cell p ty, .tmp q]) (tmps : Array Value) (w : World) (g : Nat) (t : TypeId) (cs : Array Value) (e : Value) (fs : Array Field)
    (hp : tmps.getD p undef = .pointer (some ⟨g, 0, none⟩)) (hq : tmps.getD q undef = e) (hg : BlkAt w g t cs) (hu : Try.prog.underlying ty = some (.struct fs)) (hi : (Try.prog.info? ty).map (·.size) = some cs.size) :
    (results fn tmps).run Try.prog w = .ok (.tuple #[.agg cs, e]) w := by
  have hp' : tmps[p]?.getD undef = .pointer (some ⟨g, 0, none⟩) := by simpa using hp
  have hq' : tmps[q]?.getD undef = e := by simpa using hq
  simp [results, h, hp', hq', asAddr, run_loadVar_row w g t ty cs (0, 0) _ hg hu rfl hi, Result.andThen]
theorem own_rd {w : World} {B : Nat} {e : TypeId} {sz n c : Nat} {a : Option Addr} {xs : List Value} (h : w.ownsRow B e sz (.slice a n c) n xs) : Rd w sz a n c xs := by
  obtain ⟨a', c', he, hr⟩ := Rd.own h
  simp only [Value.slice.injEq, true_and] at he
  obtain ⟨rfl, rfl⟩ := he
  exact hr
structure PS (w W : World) (t : TypeId) (z : Array Value) (s : ByteArray) (q : Nat) (e : Int) : Prop where
  bel : Below w.heap.size w W
  Z : BlkAt W w.heap.size t z
  tk : Tk W (w.heap.size + 1) s q e
section
variable {w W W' : World} {t : TypeId} {z : Array Value} {s : ByteArray} {q q' : Nat} {e e' : Int}
theorem PS.kp (h : PS w W t z s q e) (k : Kp (w.heap.size + 1) W W') (h' : Tk W' (w.heap.size + 1) s q' e') : PS w W' t z s q' e' :=
  ⟨Kp.below h.bel k (by omega) h.bel.size, k.blk h.Z (by omega), h'⟩
theorem PS.below (h : PS w W t z s q e) (k : Below W.heap.size W W') : PS w W' t z s q e := ⟨belS h.bel k, h.Z.below k h.Z.lt, h.tk.below k h.tk.lt⟩
theorem PS.other {g : Nat} (h : PS w W t z s q e) (k : Kp g W W') (hg : w.heap.size + 1 < g) : PS w W' t z s q e :=
  ⟨Kp.below h.bel k (by omega) h.bel.size, k.blk h.Z (by omega), h.tk.kp k (by omega)⟩
end
section
set_option maxHeartbeats 6400000 in
set_option maxRecDepth 100000 in
theorem rparse_any (s : ByteArray) (w : World) (hz : s.size ≤ 5000) : Calls Try.prog 15 #[.string s] w (RpPost s w) := by
  have hN := Lib.hid (fun (W : World) (b q m : Nat) (e : Int) (h1 : 1 ≤ m) (h2 : m ≤ 8) (hq : q ≤ 100000) (h : Tk W b s q e) => tnum_any m h1 h2 h hz hq)
  have hB := Lib.hid (fun (W : World) (b q : Nat) (e k : Int) (t : Bool) (h : Tk W b s q e) => tbad_any (k := k) t h)
  have hR := Lib.hid (fun (W : World) (b q : Nat) (e : Int) (hq : q ≤ 20000) (h : Tk W b s q e) => trec_any h hz hq)
  go_enter Try.func15, Try.ntmps15
  go_wp2_with (first
    | (refine wpList_blk_alloc rfl rfl Try.rsZ w.heap.size rfl ?_)
    | (refine wpList_blk_build rfl #[(0, .tmp 7)] rfl (by rw [List.map_toArray]; exact Try.tkB s) ?_)
    | (refine wpList_blk_box rfl (.tmp 8) rfl rfl (w.heap.size + 1) (by simp) ?_))
  have h0 : PS w ((w.alloc (.cells zST 43)).alloc (.cells #[.string s, .int .i64 0, .int .i64 0] 87)) 43 zST s 0 0 :=
    ⟨((Below.refl _ _).alloc (Nat.le_refl _) _).alloc (by simp) _, (BlkAt.new w _ _).alloc _, ⟨by have := BlkAt.new (w.alloc (.cells zST 43)) 87 #[.string s, .int .i64 0, .int .i64 0]; simpa using this⟩⟩
  generalize (w.alloc _).alloc _ = w1 at *
  refine (hN.out _ _ _ 1 _ (by decide) (by decide) (by omega) h0.tk).mono ?_
  rintro x w2 ⟨rfl, t2, k2⟩
  replace h0 := h0.kp k2 t2
  clear t2 k2
  have hp1 := Lib.hid (show pc1 s = bE (nE s 0 1 0) 10 ((gN s 0 1 : Int) != 1) from rfl)
  go_wp2_with fail
  refine (hB.out _ _ _ _ _ _ h0.tk).mono ?_
  rintro x w3 ⟨rfl, t3, k3, _⟩
  rw [← hp1.out] at t3
  replace h0 := h0.kp k3 (show Tk w3 _ s 1 (pc1 s) from t3)
  clear t3 k3 hp1
  have hp3 := Lib.hid (show pc3 s = nE s 9 4 (nE s 1 8 (pc1 s)) from rfl)
  go_wp2_with fail
  refine (hN.out _ _ _ 8 _ (by decide) (by decide) (by omega) h0.tk).mono ?_
  rintro x w4 ⟨rfl, t4, k4⟩
  replace h0 := h0.kp k4 (show Tk w4 _ s 9 _ from t4)
  clear t4 k4
  have hz4 := h0.tk.lt
  go_wp2_with (first
    | (refine wpList_blk_build rfl #[(0, .tmp 17)] rfl (by rw [List.map_toArray]; exact Try.rsB1 _) ?_)
    | (refine wpList_blk_alloc rfl rfl Try.rsZ w4.heap.size rfl ?_)
    | (refine wpList_blk_store (cs := #[.int .u64 (gN s 1 8 : Nat), .int .u32 0, .int .u64 0, .int .u64 0, .int .i64 0, .int .u64 0, .slice none 0 0]) rfl (.tmp 6) (.tmp 18) rfl rfl rfl (BlkAt.new w4 _ _) Try.rsI rfl (by simp [Value.oneCell']) ?_; intro w5 hT5 hK5 hs5))
  replace h0 := h0.below (alloc_store hK5)
  have hg : w.heap.size + 1 < w4.heap.size := hz4
  clear hK5 hs5 hz4
  generalize w4.heap.size = g at *
  refine (hN.out _ _ _ 4 _ (by decide) (by decide) (by omega) h0.tk).mono ?_
  rintro x w6 ⟨rfl, t6, k6⟩
  rw [← hp3.out] at t6
  replace h0 := h0.kp k6 (show Tk w6 _ s 13 _ from t6)
  have hT6 := k6.blk hT5 (by omega)
  have c1 := hT6.cell (i := 1) rfl
  have f1 := hT6.fz 1
  clear t6 k6 hT5 hp3
  have hm : ((gN s 9 4 : Nat) : Int) % 4294967296 = gN s 9 4 := by have := gN_lt s 9 4; omega
  go_wp2_with fail
  clear hm c1 f1
  have hT7 := hT6.set 1 (.int .u32 (gN s 9 4 : Nat))
  have q7 := (Kp.refl g w6).setCell ⟨g, 1, none⟩ rfl (.int .u32 (gN s 9 4 : Nat))
  generalize w6.setCell _ _ = w7 at *
  replace h0 := h0.other q7 (by omega)
  clear hT6 q7
  refine (hR.out _ _ _ _ (by omega) h0.tk).mono ?_
  rintro x w8 ⟨⟨k, a, c, rfl, hown, hk, hrc, t8⟩, k8⟩
  replace h0 := h0.kp k8 t8
  have hT8 := k8.blk hT7 (by omega)
  have hlt7 := hT7.lt
  have hbw := h0.bel.size
  have hq5 := Lib.hid (show pc5 s (13 + 26 + 25 * k) = bE (trE s 13 (pc3 s)) 4 (decide (13 + 26 + 25 * k < s.size)) from rfl)
  obtain ⟨E1, E2⟩ := pc5_eq hrc.out
  replace E1 := Lib.hid E1
  replace E2 := Lib.hid E2
  have hRd := Rd.own hown
  obtain ⟨_, _, hRd1, hRd⟩ := hRd
  clear t8 k8 hT7 hrc hN hR
  generalize tvw s 13 = u at *
  generalize tvs s (13 + 26) k = vs at *
  generalize gN s 1 8 = x1 at *
  generalize gN s 9 4 = x2 at *
  generalize 13 + 26 + 25 * k = q at *
  go_wp2_with (first
    | (refine wpList_blk_put rfl (.tmp 25) (.tmp 24) rfl rfl rfl hT8 (Try.rrI _ _) (Nat.le_refl 7) (by simp [Value.oneCell']) ?_; intro w9 hT9 hK9 hs9; replace h0 := h0.other hK9 (by omega); have d1 := h0.tk.blk.cell (i := 1) rfl; have hown9 := own_keep hown fun g' hg' hl' => hK9.block g' hl' (fun e => by have := (hown.lt g' hg').1; omega); clear hK9 hs9))
  refine (hB.out _ _ _ _ 4 _ h0.tk).mono ?_
  rintro x w10 ⟨rfl, t10, k10, _⟩
  rw [← hq5.out, E1.out] at t10
  replace h0 := h0.kp k10 t10
  have hown10 := own_keep hown9 fun g' hg' hl' => k10.block g' hl' (fun e => by have := (hown9.lt g' hg').1; omega)
  have hT10 : BlkAt w10 g 43 #[.int .u64 (⟨x1, x2, ⟨u, vs⟩⟩ : St).epoch, .int .u32 (⟨x1, x2, ⟨u, vs⟩⟩ : St).inc, .int .u64 (⟨x1, x2, ⟨u, vs⟩⟩ : St).rc.last.num, .int .u64 (⟨x1, x2, ⟨u, vs⟩⟩ : St).rc.last.ce, .int .i64 (⟨x1, x2, ⟨u, vs⟩⟩ : St).rc.last.cr, .int .u64 (⟨x1, x2, ⟨u, vs⟩⟩ : St).rc.last.mem, .slice a k c] := k10.blk (show BlkAt w9 g 43 #[.int .u64 (⟨x1, x2, ⟨u, vs⟩⟩ : St).epoch, .int .u32 (⟨x1, x2, ⟨u, vs⟩⟩ : St).inc, .int .u64 (⟨x1, x2, ⟨u, vs⟩⟩ : St).rc.last.num, .int .u64 (⟨x1, x2, ⟨u, vs⟩⟩ : St).rc.last.ce, .int .i64 (⟨x1, x2, ⟨u, vs⟩⟩ : St).rc.last.cr, .int .u64 (⟨x1, x2, ⟨u, vs⟩⟩ : St).rc.last.mem, .slice a k c] from hT9) (by omega)
  have d2 := h0.tk.blk.cell (i := 2) rfl
  clear k10 t10 d1 hT8 hT9 hq5 hB
  generalize hE : stE (bI s) = er at *
  replace hE := Lib.hid hE
  by_cases h00 : er = 0
  · subst h00
    go_wp2_with (first
      | (refine wpList_blk_load rfl (.tmp 6) rfl Try.underlying43 rfl rfl hT10 Try.rsI ?_)
      | (refine wpList_blk_store (cs := #[.int .u64 (⟨x1, x2, ⟨u, vs⟩⟩ : St).epoch, .int .u32 (⟨x1, x2, ⟨u, vs⟩⟩ : St).inc, .int .u64 (⟨x1, x2, ⟨u, vs⟩⟩ : St).rc.last.num, .int .u64 (⟨x1, x2, ⟨u, vs⟩⟩ : St).rc.last.ce, .int .i64 (⟨x1, x2, ⟨u, vs⟩⟩ : St).rc.last.cr, .int .u64 (⟨x1, x2, ⟨u, vs⟩⟩ : St).rc.last.mem, .slice a k c]) rfl (.tmp 2) (.tmp 45) rfl rfl rfl h0.Z Try.rsI rfl (by simp [Value.oneCell']) ?_; intro w11 hZ11 hK11 hs11))
    refine bodyPost_ret (results_cell_slot rfl _ _ w.heap.size 43 _ (.int .i64 0) _ rfl rfl hZ11 Try.underlying43 Try.rsI) rfl ⟨⟨⟨x1, x2, ⟨u, vs⟩⟩, a, k, c, by rw [hE.out], fun _ => E2.out trivial, fun h => absurd hE.out h, ?_⟩, Kp.below h0.bel hK11 (Nat.le_refl _) h0.bel.size⟩
    exact own_rd (own_keep hown10 fun g' hg' hl' => hK11.block g' hl' (fun e => by have := (hown10.lt g' hg').1; omega))
  · have S2 : (fun W : World => W.cell? ⟨w.heap.size + 1, 2, none⟩ = some (.int .i64 er)) w10 := d2
    go_wp2_with fail
    refine wp_region_held_drew (S := fun W => W.cell? ⟨w.heap.size + 1, 2, none⟩ = some (.int .i64 er)) (by kernel_rfl) S2 ?_
    intro hHeld
    (refine wpAnyH_take (i := 0) (v := ?_) rfl (by kernel_rfl) (by kernel_rfl) (by kernel_rfl) (fun _ _ _ h => h) (Or.inl ⟨by rfl, ?_⟩) (by assumption) ?_; rotate_left; (focus (intro w hSw; (try dsimp only at hSw); go_simp; (try with_reducible rfl))); (try simp only [Act.put, List.getElem_toArray, List.getElem_cons_zero, List.getElem_cons_succ, List.setIfInBounds_toArray, List.set_cons_zero, List.set_cons_succ]))
    trace_state
    (refine wpAnyH_take (i := 1) (v := ?_) rfl (by kernel_rfl) (by kernel_rfl) (by kernel_rfl) (fun _ _ _ h => h) (Or.inl ⟨by rfl, ?_⟩) (by assumption) ?_; rotate_left; (focus (intro w hSw; (try dsimp only at hSw); go_simp; (try with_reducible rfl))); (try simp only [Act.put, List.getElem_toArray, List.getElem_cons_zero, List.getElem_cons_succ, List.setIfInBounds_toArray, List.set_cons_zero, List.set_cons_succ]))
    (refine wpAnyH_take (i := 2) (v := ?_) rfl (by kernel_rfl) (by kernel_rfl) (by kernel_rfl) (fun _ _ _ h => h) (Or.inl ⟨by rfl, ?_⟩) (by assumption) ?_; rotate_left; (focus (intro w hSw; (try dsimp only at hSw); go_simp; (try with_reducible rfl))); (try simp only [Act.put, List.getElem_toArray, List.getElem_cons_zero, List.getElem_cons_succ, List.setIfInBounds_toArray, List.set_cons_zero, List.set_cons_succ]))
    (refine wpAnyH_take (i := 3) (v := ?_) rfl (by kernel_rfl) (by kernel_rfl) (by kernel_rfl) (fun _ _ _ h => h) (Or.inl ⟨by rfl, ?_⟩) (by assumption) ?_; rotate_left; (focus (intro w hSw; (try dsimp only at hSw); go_simp; (try with_reducible rfl))); (try simp only [Act.put, List.getElem_toArray, List.getElem_cons_zero, List.getElem_cons_succ, List.setIfInBounds_toArray, List.set_cons_zero, List.set_cons_succ]))
    (refine wpAnyH_take (i := 4) (v := ?_) rfl (by kernel_rfl) (by kernel_rfl) (by kernel_rfl) (fun _ _ _ h => h) (Or.inl ⟨by rfl, ?_⟩) (by assumption) ?_; rotate_left; (focus (intro w hSw; (try dsimp only at hSw); go_simp; (try with_reducible rfl))); (try simp only [Act.put, List.getElem_toArray, List.getElem_cons_zero, List.getElem_cons_succ, List.setIfInBounds_toArray, List.set_cons_zero, List.set_cons_succ]))
    (refine wpAnyH_ready (rs := [5]) (by kernel_rfl) (by simp) ?_; refine AllReadyH.cons rfl (fun K hK => ?_) AllReadyH.nil)
    refine step_blk_store (cs := zST) none rfl rfl (.tmp 2) (.tmp 40) rfl rfl rfl h0.Z.drew Try.rsI rfl zST_one ?_
    intro w11 hZ11 hK11 hs11
    (try simp only [Act.put, List.getElem_toArray, List.getElem_cons_zero, List.getElem_cons_succ, List.setIfInBounds_toArray, List.set_cons_zero, List.set_cons_succ])
    refine hK.out _ _ ((hK11.blk h0.tk.blk (by omega)).cell rfl) (fun hHeld4 => ?_)
    clear hK K hHeld
    (refine wpAnyH_take (i := 6) (v := ?_) rfl (by kernel_rfl) (by kernel_rfl) (by kernel_rfl) (fun _ _ _ h => h) (Or.inl ⟨by rfl, ?_⟩) (by assumption) ?_; rotate_left; (focus (intro w hSw; (try dsimp only at hSw); go_simp; (try with_reducible rfl))); (try simp only [Act.put, List.getElem_toArray, List.getElem_cons_zero, List.getElem_cons_succ, List.setIfInBounds_toArray, List.set_cons_zero, List.set_cons_succ]))
    refine wpAnyH_done (by kernel_rfl) ?_ _
    go_wp2
    trace_state
    refine bodyPost_ret (results_cell_slot rfl _ _ w.heap.size 43 _ (.int .i64 er) _ rfl rfl hZ11 Try.underlying43 Try.rsI) rfl ⟨⟨⟨0, 0, .zero, []⟩, none, 0, 0, by rw [hE.out]; rfl, fun h => absurd (hE.out.symm.trans h) h00, fun h => rfl, Rd.mk_nil _ _⟩, Kp.below h0.bel (Kp.trans ((Kp.refl w.heap.size w10).drewN 1) hK11) (Nat.le_refl _) h0.bel.size⟩
end
end Go.Proofs.Ytdfnpaaejjediaa
