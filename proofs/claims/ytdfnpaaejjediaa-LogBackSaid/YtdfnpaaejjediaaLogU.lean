/- log: the statements' helpers: Stable, Same, Stables -/
import Derived.Test.YtdfnpaaejjediaaLogT
import Derived.Test.YtdfnpaaejjediaaStep
namespace Go.Proofs.Ytdfnpaaejjediaa
open Go.RowKit

theorem step_build_to {P : Program} {w : World} {ops : Array Oper} {o : Oper} {a : Act} {K : Act → World → Prop} {Q : Exit → Act → World → Prop} {E' : Prop} (d : Option Tmp) (hd : o.dst = d) (hgd : o.guard = none) (t : TypeId) (parts : Array (Nat × Operand)) (ho : o.op = .build t parts) {cs : Array Value}
    (hf : P.built t (parts.map fun (i, x) => (i, a.eval x)).toList = some cs) (h : K (a.put d (.agg cs)) w) : if Region.wanted o (yielded ops a.tmps) = true then Oper.wp P o a w K Q else E' :=
  step_build hgd t parts ho hf (by rw [hd]; exact h)
theorem step_blk_store {P : Program} {w : World} {ops : Array Oper} {o : Oper} {a : Act} {K : Act → World → Prop} {Q : Exit → Act → World → Prop} {E' : Prop} {t : TypeId} (d : Option Tmp) (hd : o.dst = d) (hgd : o.guard = none) (x y : Operand) (ho : o.op = .store t x y) {b : Nat} (hx : a.eval x = .pointer (some ⟨b, 0, none⟩)) {t' : TypeId} {old cs : Array Value} (hy : a.eval y = .agg cs) (hb : BlkAt w b t' old)
    (hi : (P.info? t).map (·.size) = some cs.size) (hs : old.size = cs.size) (h1 : cs.all (·.oneCell') = true)
    (h : ∀ w', BlkAt w' b t' cs → Kp b w w' → w'.heap.size = w.heap.size → K (a.put d undef) w') : if Region.wanted o (yielded ops a.tmps) = true then Oper.wp P o a w K Q else E' := by
  subst hd
  rw [if_pos (by simp [Region.wanted, hgd])]
  exact wp_store_row t x y ho b cs hx hy t' old hb hi hs h1 (h _ (setRow_heap w b _ _ t' (0, 0) hb) ⟨rfl, rfl, rfl, by simp, fun k _ hk => setRow_other w b k _ hk⟩ (size_setRow _ _ _))
set_option maxHeartbeats 1600000 in
set_option maxRecDepth 100000 in
theorem same_any (v : Vw) (l : List Vw) (a a' : Option Addr) (n c c' : Nat) (w : World) (h1 : RdV w a n c l) (h2 : RdV w a' n c' l) :
    Calls Try.prog 20 #[.agg #[.int .u64 v.num, .int .u64 v.ce, .int .i64 v.cr, .int .u64 v.mem, .slice a n c], .agg #[.int .u64 v.num, .int .u64 v.ce, .int .i64 v.cr, .int .u64 v.mem, .slice a' n c']] w fun e w' => e = .returned (.bool true) ∧ Below w.heap.size w w' := by
  obtain ⟨wS, hwS⟩ : ∃ wS, wS = (w.alloc (.cells #[.int .u64 v.num, .int .u64 v.ce, .int .i64 v.cr, .int .u64 v.mem, .slice a n c] 41)).alloc (.cells #[.int .u64 v.num, .int .u64 v.ce, .int .i64 v.cr, .int .u64 v.mem, .slice a' n c'] 41) := ⟨_, rfl⟩
  have E : Below w.heap.size w wS := by rw [hwS]; exact ((Below.refl _ _).alloc (Nat.le_refl _) _).alloc (by simp) _
  have BA : BlkAt wS w.heap.size 41 #[.int .u64 v.num, .int .u64 v.ce, .int .i64 v.cr, .int .u64 v.mem, .slice a n c] := by rw [hwS]; exact (BlkAt.new w _ _).alloc _
  have BB : BlkAt wS (w.heap.size + 1) 41 #[.int .u64 v.num, .int .u64 v.ce, .int .i64 v.cr, .int .u64 v.mem, .slice a' n c'] := by
    rw [hwS]
    have := BlkAt.new (w.alloc (.cells #[.int .u64 v.num, .int .u64 v.ce, .int .i64 v.cr, .int .u64 v.mem, .slice a n c] 41)) 41 #[.int .u64 v.num, .int .u64 v.ce, .int .i64 v.cr, .int .u64 v.mem, .slice a' n c']
    simpa using this
  have HV := Lib.hid (fun W (h1 : RdV W a n c l) (h2 : RdV W a' n c' l) => views_any a a' n c c' l W h1 h2)
  replace h1 := h1.below E (Nat.le_refl _)
  replace h2 := h2.below E (Nat.le_refl _)
  have c4 := BA.cell (i := 4) rfl
  have d4 := BB.cell (i := 4) rfl
  have HE := fun W => run_eql_vw W v v
  rw [show veq v v = true from veq_eq.2 rfl] at HE
  replace HE := Lib.hid HE
  subst hwS
  go_enter Try.func20, Try.ntmps20
  go_wp2_with (first
    | (refine wpList_blk_box rfl (.tmp 0) rfl rfl w.heap.size rfl ?_)
    | (refine wpList_blk_box rfl (.tmp 1) rfl rfl (w.heap.size + 1) (by simp) ?_)
    | (refine wpList_blk_get (cs := #[.int .u64 v.num, .int .u64 v.ce, .int .i64 v.cr, .int .u64 v.mem]) rfl (.tmp 5) rfl rfl BA Try.underlying27 rfl (Try.viewI v) (get4 rfl rfl rfl rfl) ?_)
    | (refine wpList_blk_get (cs := #[.int .u64 v.num, .int .u64 v.ce, .int .i64 v.cr, .int .u64 v.mem]) rfl (.tmp 7) rfl rfl BB Try.underlying27 rfl (Try.viewI v) (get4 rfl rfl rfl rfl) ?_)
    | (refine wpList_agg rfl Try.viewG (.tmp 6) (.tmp 8) _ rfl rfl rfl (HE.out _) ?_))
  refine (HV.out _ h1 h2).mono ?_
  rintro e w' ⟨rfl, hb⟩
  replace E := belS E hb
  go_wp2
  go_ret
  exact ⟨rfl, E⟩
set_option maxHeartbeats 1600000 in
set_option maxRecDepth 100000 in
theorem stables_any (s : St) (a a' : Option Addr) (n c c' : Nat) (w : World) (h1 : RdV w a n c s.rc.pend) (h2 : RdV w a' n c' s.rc.pend) :
    Calls Try.prog 18 #[.agg #[.int .u64 s.epoch, .int .u32 s.inc, .int .u64 s.rc.last.num, .int .u64 s.rc.last.ce, .int .i64 s.rc.last.cr, .int .u64 s.rc.last.mem, .slice a n c], .agg #[.int .u64 s.epoch, .int .u32 s.inc, .int .u64 s.rc.last.num, .int .u64 s.rc.last.ce, .int .i64 s.rc.last.cr, .int .u64 s.rc.last.mem, .slice a' n c']] w fun e w' => e = .returned (.bool true) ∧ Below w.heap.size w w' := by
  obtain ⟨wS, hwS⟩ : ∃ wS, wS = (w.alloc (.cells #[.int .u64 s.epoch, .int .u32 s.inc, .int .u64 s.rc.last.num, .int .u64 s.rc.last.ce, .int .i64 s.rc.last.cr, .int .u64 s.rc.last.mem, .slice a n c] 43)).alloc (.cells #[.int .u64 s.epoch, .int .u32 s.inc, .int .u64 s.rc.last.num, .int .u64 s.rc.last.ce, .int .i64 s.rc.last.cr, .int .u64 s.rc.last.mem, .slice a' n c'] 43) := ⟨_, rfl⟩
  have E : Below w.heap.size w wS := by rw [hwS]; exact ((Below.refl _ _).alloc (Nat.le_refl _) _).alloc (by simp) _
  have BA : BlkAt wS w.heap.size 43 #[.int .u64 s.epoch, .int .u32 s.inc, .int .u64 s.rc.last.num, .int .u64 s.rc.last.ce, .int .i64 s.rc.last.cr, .int .u64 s.rc.last.mem, .slice a n c] := by rw [hwS]; exact (BlkAt.new w _ _).alloc _
  have BB : BlkAt wS (w.heap.size + 1) 43 #[.int .u64 s.epoch, .int .u32 s.inc, .int .u64 s.rc.last.num, .int .u64 s.rc.last.ce, .int .i64 s.rc.last.cr, .int .u64 s.rc.last.mem, .slice a' n c'] := by
    rw [hwS]
    have := BlkAt.new (w.alloc (.cells #[.int .u64 s.epoch, .int .u32 s.inc, .int .u64 s.rc.last.num, .int .u64 s.rc.last.ce, .int .i64 s.rc.last.cr, .int .u64 s.rc.last.mem, .slice a n c] 43)) 43 #[.int .u64 s.epoch, .int .u32 s.inc, .int .u64 s.rc.last.num, .int .u64 s.rc.last.ce, .int .i64 s.rc.last.cr, .int .u64 s.rc.last.mem, .slice a' n c']
    simpa using this
  have HV := Lib.hid (fun W (h1 : RdV W a n c s.rc.pend) (h2 : RdV W a' n c' s.rc.pend) => same_any s.rc.last s.rc.pend a a' n c c' W h1 h2)
  replace h1 := h1.below E (Nat.le_refl _)
  replace h2 := h2.below E (Nat.le_refl _)
  have c0 := BA.cell (i := 0) rfl
  have d0 := BB.cell (i := 0) rfl
  have c1 := BA.cell (i := 1) rfl
  have d1 := BB.cell (i := 1) rfl
  subst hwS
  go_enter Try.func18, Try.ntmps18
  go_wp2_with (first
    | (refine wpList_blk_box rfl (.tmp 0) rfl rfl w.heap.size rfl ?_)
    | (refine wpList_blk_box rfl (.tmp 1) rfl rfl (w.heap.size + 1) (by simp) ?_)
    | (refine wpList_blk_get_g (cs := #[.int .u64 s.rc.last.num, .int .u64 s.rc.last.ce, .int .i64 s.rc.last.cr, .int .u64 s.rc.last.mem, .slice a n c]) (by first | rfl | simp [Region.wanted, go_sem]) (.tmp 18) rfl rfl BA Try.underlying41 rfl (Try.rrI _ _) (get5 rfl rfl rfl rfl rfl) ?_)
    | (refine wpList_blk_get_g (cs := #[.int .u64 s.rc.last.num, .int .u64 s.rc.last.ce, .int .i64 s.rc.last.cr, .int .u64 s.rc.last.mem, .slice a' n c']) (by first | rfl | simp [Region.wanted, go_sem]) (.tmp 20) rfl rfl BB Try.underlying41 rfl (Try.rrI _ _) (get5 rfl rfl rfl rfl rfl) ?_))
  refine (HV.out _ h1 h2).mono ?_
  rintro e w' ⟨rfl, hb⟩
  replace E := belS E hb
  go_wp2
  go_ret
  exact ⟨rfl, E⟩
set_option maxHeartbeats 1600000 in
set_option maxRecDepth 100000 in
theorem stable_any (s : St) (a : Option Addr) (n c : Nat) (w : World) : Calls Try.prog 10 #[.agg #[.int .u64 s.epoch, .int .u32 s.inc, .int .u64 s.rc.last.num, .int .u64 s.rc.last.ce, .int .i64 s.rc.last.cr, .int .u64 s.rc.last.mem, .slice a n c]] w fun e w' => e = .returned (.agg #[.int .u64 s.epoch, .int .u32 s.inc, .int .u64 s.rc.last.num, .int .u64 s.rc.last.ce, .int .i64 s.rc.last.cr, .int .u64 s.rc.last.mem, .slice a n c]) ∧ Below w.heap.size w w' := by
  obtain ⟨wS, hwS⟩ : ∃ wS, wS = (w.alloc (.cells #[.int .u64 s.epoch, .int .u32 s.inc, .int .u64 s.rc.last.num, .int .u64 s.rc.last.ce, .int .i64 s.rc.last.cr, .int .u64 s.rc.last.mem, .slice a n c] 32)).alloc (.cells zST 43) := ⟨_, rfl⟩
  have E : Below w.heap.size w wS := by rw [hwS]; exact ((Below.refl _ _).alloc (Nat.le_refl _) _).alloc (by simp) _
  have BA : BlkAt wS w.heap.size 32 #[.int .u64 s.epoch, .int .u32 s.inc, .int .u64 s.rc.last.num, .int .u64 s.rc.last.ce, .int .i64 s.rc.last.cr, .int .u64 s.rc.last.mem, .slice a n c] := by rw [hwS]; exact (BlkAt.new w _ _).alloc _
  have BR : BlkAt wS (w.heap.size + 1) 43 zST := by
    rw [hwS]
    have := BlkAt.new (w.alloc (.cells #[.int .u64 s.epoch, .int .u32 s.inc, .int .u64 s.rc.last.num, .int .u64 s.rc.last.ce, .int .i64 s.rc.last.cr, .int .u64 s.rc.last.mem, .slice a n c] 32)) 43 zST
    simpa using this
  have HR := Lib.hid (fun W => rec_any s.rc.last a n c W)
  replace hwS := Lib.hid hwS
  go_enter Try.func10, Try.ntmps10
  go_wp2_with (first
    | (refine wpList_blk_box rfl (.tmp 0) rfl rfl w.heap.size rfl ?_)
    | (refine wpList_blk_alloc rfl rfl Try.rsZ (w.heap.size + 1) (by simp) ?_))
  rw [← hwS.out]
  refine wp_region_held_drew (S := fun W => BlkAt W w.heap.size 32 #[.int .u64 s.epoch, .int .u32 s.inc, .int .u64 s.rc.last.num, .int .u64 s.rc.last.ce, .int .i64 s.rc.last.cr, .int .u64 s.rc.last.mem, .slice a n c]) (by kernel_rfl) BA ?_
  intro hHeld
  (refine wpAnyH_take (i := 0) (v := ?_) rfl (by kernel_rfl) (by kernel_rfl) (by kernel_rfl) (fun _ _ _ h => h) (Or.inl ⟨by rfl, ?_⟩) (by assumption) ?_; rotate_left; (focus (intro w hSw; have hc := BlkAt.cell (i := 0) hSw rfl; clear hSw; go_simp; (try with_reducible rfl))); (try simp only [Act.put, List.setIfInBounds_toArray, List.set_cons_zero, List.set_cons_succ]))
  (refine wpAnyH_take (i := 1) (v := ?_) rfl (by kernel_rfl) (by kernel_rfl) (by kernel_rfl) (fun _ _ _ h => h) (Or.inl ⟨by rfl, ?_⟩) (by assumption) ?_; rotate_left; (focus (intro w hSw; have hc := BlkAt.cell (i := 0) hSw rfl; clear hSw; go_simp; (try with_reducible rfl))); (try simp only [Act.put, List.setIfInBounds_toArray, List.set_cons_zero, List.set_cons_succ]))
  (refine wpAnyH_take (i := 2) (v := ?_) rfl (by kernel_rfl) (by kernel_rfl) (by kernel_rfl) (fun _ _ _ h => h) (Or.inl ⟨by rfl, ?_⟩) (by assumption) ?_; rotate_left; (focus (intro w hSw; have hc := BlkAt.cell (i := 0) hSw rfl; clear hSw; go_simp; (try with_reducible rfl))); (try simp only [Act.put, List.setIfInBounds_toArray, List.set_cons_zero, List.set_cons_succ]))
  (refine wpAnyH_take (i := 3) (v := ?_) rfl (by kernel_rfl) (by kernel_rfl) (by kernel_rfl) (fun _ _ _ h => h) (Or.inl ⟨by rfl, ?_⟩) (by assumption) ?_; rotate_left; (focus (intro w hSw; have hc := BlkAt.cell (i := 1) hSw rfl; clear hSw; go_simp; (try with_reducible rfl))); (try simp only [Act.put, List.setIfInBounds_toArray, List.set_cons_zero, List.set_cons_succ]))
  (refine wpAnyH_take (i := 4) (v := ?_) rfl (by kernel_rfl) (by kernel_rfl) (by kernel_rfl) (fun _ _ _ h => h) (Or.inl ⟨by rfl, ?_⟩) (by assumption) ?_; rotate_left; (focus (intro w hSw; have hc := BlkAt.cell (i := 0) hSw rfl; clear hSw; go_simp; (try with_reducible rfl))); (try simp only [Act.put, List.setIfInBounds_toArray, List.set_cons_zero, List.set_cons_succ]))
  refine wpAnyH_take (i := 5) (v := .agg #[.int .u64 s.rc.last.num, .int .u64 s.rc.last.ce, .int .i64 s.rc.last.cr, .int .u64 s.rc.last.mem, .slice a n c]) rfl (by kernel_rfl) (by kernel_rfl) (by kernel_rfl) (fun _ _ _ h => h) ?_ (by assumption) ?_
  · exact yieldsIf_load_mid (by rfl) 30 (.tmp 7) rfl w.heap.size 2 rfl [.int .u64 s.rc.last.num, .int .u64 s.rc.last.ce, .int .i64 s.rc.last.cr, .int .u64 s.rc.last.mem, .slice a n c] _ (fun W (hW : BlkAt W _ _ _) => hW.range (get5 rfl rfl rfl rfl rfl)) Try.underlying30 rfl (Try.recI _ _)
  (try simp only [Act.put, List.setIfInBounds_toArray, List.set_cons_zero, List.set_cons_succ])
  (refine wpAnyH_ready (rs := [6]) (by kernel_rfl) (by simp) ?_; refine AllReadyH.cons rfl (fun K hK => ?_) AllReadyH.nil; go_simp)
  refine (HR.out _).mono ?_
  rintro e w2 ⟨rfl, hb⟩
  have b0 := Lib.hid ((Below.refl _ wS).drew.trans (hb.mono (Nat.le_refl _)))
  replace BA := (BA.drewN 1).below hb BA.lt
  replace BR := (BR.drewN 1).below hb BR.lt
  refine hK.out _ _ BA (fun hHeld2 => ?_)
  clear hK K hHeld hb
  (refine wpAnyH_ready (rs := [7]) (by kernel_rfl) (by simp) ?_; refine AllReadyH.cons rfl (fun K hK => ?_) AllReadyH.nil)
  refine step_build_to (some 10) rfl rfl 43 #[(0, .tmp 4), (1, .tmp 6), (2, .tmp 9)] rfl (by rw [List.map_toArray]; exact Try.rsB _ _ _ _ _ _) ?_
  (try simp only [Act.put, List.setIfInBounds_toArray, List.set_cons_zero, List.set_cons_succ])
  refine hK.out _ _ BA (fun hHeld3 => ?_)
  clear hK K hHeld2
  (refine wpAnyH_ready (rs := [8]) (by kernel_rfl) (by simp) ?_; refine AllReadyH.cons rfl (fun K hK => ?_) AllReadyH.nil)
  refine step_blk_store (cs := #[.int .u64 s.epoch, .int .u32 s.inc, .int .u64 s.rc.last.num, .int .u64 s.rc.last.ce, .int .i64 s.rc.last.cr, .int .u64 s.rc.last.mem, .slice a n c]) none rfl rfl (.tmp 2) (.tmp 10) rfl rfl rfl BR Try.rsI rfl (by simp [Value.oneCell']) ?_
  intro w3 hB3 hK3 hs3
  (try simp only [Act.put, List.setIfInBounds_toArray, List.set_cons_zero, List.set_cons_succ])
  refine hK.out _ _ (hK3.blk BA (by omega)) (fun hHeld4 => ?_)
  clear hK K hHeld3
  refine wpAnyH_done (by kernel_rfl) ?_ _
  have e3 := Kp.below (belS E b0.out) hK3 (by omega) (belS E b0.out).size
  go_wp2
  exact bodyPost_ret (results_cell_row rfl _ _ (w.heap.size + 1) 43 _ (0, 0) _ rfl hB3 Try.underlying43 rfl Try.rsI) rfl ⟨rfl, e3⟩
end Go.Proofs.Ytdfnpaaejjediaa
