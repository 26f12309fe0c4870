/- log: the statements' Item -/
import Derived.Test.YtdfnpaaejjediaaLogY
import Derived.Test.YtdfnpaaejjediaaLogF
namespace Go.Proofs.Ytdfnpaaejjediaa
open Go.RowKit Go.Sort

theorem Try.riZ : (Try.prog.info? 48).map (·.zero) = some (some (.agg zIT)) := by kernel_rfl
theorem Try.riI : (Try.prog.info? 48).map (·.size) = some 18 := by kernel_rfl
theorem Try.riB (k : Int) (D : ByteArray) (i h : Int) (b1 b2 : Bool) (v : Vw) (a : Option Addr) (n c : Nat) (u : Vw) (nu ix tt : Int) : Try.prog.built 48 [(0, .int .i64 k), (1, .string D), (2, .int .u32 i), (3, .int .u64 h), (4, .bool b1), (5, .bool b2), (6, .agg #[.int .u64 v.num, .int .u64 v.ce, .int .i64 v.cr, .int .u64 v.mem, .slice a n c]), (7, .agg #[.int .u64 u.num, .int .u64 u.ce, .int .i64 u.cr, .int .u64 u.mem]), (8, .int .u64 nu), (9, .int .i64 ix), (10, .int .i64 tt)] = some #[.int .i64 k, .string D, .int .u32 i, .int .u64 h, .bool b1, .bool b2, .int .u64 v.num, .int .u64 v.ce, .int .i64 v.cr, .int .u64 v.mem, .slice a n c, .int .u64 u.num, .int .u64 u.ce, .int .i64 u.cr, .int .u64 u.mem, .int .u64 nu, .int .i64 ix, .int .i64 tt] := by kernel_rfl
set_option maxHeartbeats 3200000 in
set_option maxRecDepth 100000 in
theorem item_walk (k : Int) (D : ByteArray) (i h : Int) (b1 b2 : Bool) (v : Vw) (a : Option Addr) (n c : Nat) (u : Vw) (nu ix tt : Int) (cs z : Array Value) (hcs : cs = #[.int .i64 k, .string D, .int .u32 i, .int .u64 h, .bool b1, .bool b2, .int .u64 v.num, .int .u64 v.ce, .int .i64 v.cr, .int .u64 v.mem, .slice a n c, .int .u64 u.num, .int .u64 u.ce, .int .i64 u.cr, .int .u64 u.mem, .int .u64 nu, .int .i64 ix, .int .i64 tt]) (hz : z = zIT) (w : World) : Calls Try.prog 13 #[.agg cs] w fun e w' => e = .returned (.agg cs) ∧ Below w.heap.size w w' := by
  have h0 := Lib.hid (show cs[0]? = some (.int .i64 k) from by rw [hcs]; rfl)
  have h1 := Lib.hid (show cs[1]? = some (.string D) from by rw [hcs]; rfl)
  have h2 := Lib.hid (show cs[2]? = some (.int .u32 i) from by rw [hcs]; rfl)
  have h3 := Lib.hid (show cs[3]? = some (.int .u64 h) from by rw [hcs]; rfl)
  have h4 := Lib.hid (show cs[4]? = some (.bool b1) from by rw [hcs]; rfl)
  have h5 := Lib.hid (show cs[5]? = some (.bool b2) from by rw [hcs]; rfl)
  have h6 := Lib.hid (show ∀ j x, (#[.int .u64 v.num, .int .u64 v.ce, .int .i64 v.cr, .int .u64 v.mem, .slice a n c] : Array Value).toList[j]? = some x → cs[6 + j]? = some x from by rw [hcs]; exact get5 rfl rfl rfl rfl rfl)
  have h11 := Lib.hid (show ∀ j x, (#[.int .u64 u.num, .int .u64 u.ce, .int .i64 u.cr, .int .u64 u.mem] : Array Value).toList[j]? = some x → cs[11 + j]? = some x from by rw [hcs]; exact get4 rfl rfl rfl rfl)
  have h15 := Lib.hid (show cs[15]? = some (.int .u64 nu) from by rw [hcs]; rfl)
  have h16 := Lib.hid (show cs[16]? = some (.int .i64 ix) from by rw [hcs]; rfl)
  have h17 := Lib.hid (show cs[17]? = some (.int .i64 tt) from by rw [hcs]; rfl)
  have hsz : cs.size = 18 := by rw [hcs]; rfl
  have hone : cs.all (·.oneCell') = true := by rw [hcs]; simp [Value.oneCell']
  have hZ : (Try.prog.info? 48).map (·.zero) = some (some (.agg z)) := by rw [hz]; exact Try.riZ
  have hzs : z.size = 18 := by rw [hz]; rfl
  have hBd := Lib.hid (show Try.prog.built 48 [(0, .int .i64 k), (1, .string D), (2, .int .u32 i), (3, .int .u64 h), (4, .bool b1), (5, .bool b2), (6, .agg #[.int .u64 v.num, .int .u64 v.ce, .int .i64 v.cr, .int .u64 v.mem, .slice a n c]), (7, .agg #[.int .u64 u.num, .int .u64 u.ce, .int .i64 u.cr, .int .u64 u.mem]), (8, .int .u64 nu), (9, .int .i64 ix), (10, .int .i64 tt)] = some cs from by rw [hcs]; exact Try.riB _ _ _ _ _ _ _ _ _ _ _ _ _ _)
  obtain ⟨wS, hwS⟩ : ∃ wS, wS = (w.alloc (.cells cs 34)).alloc (.cells z 48) := ⟨_, rfl⟩
  have E : Below w.heap.size w wS := by rw [hwS]; exact ((Below.refl _ _).alloc (Nat.le_refl _) _).alloc (by simp) _
  have BA : BlkAt wS w.heap.size 34 cs := by rw [hwS]; exact (BlkAt.new w _ _).alloc _
  have BR : BlkAt wS (w.heap.size + 1) 48 z := by
    rw [hwS]
    have := BlkAt.new (w.alloc (.cells cs 34)) 48 z
    simpa using this
  have HR := Lib.hid (fun W => rec_any v a n c W)
  replace hwS := Lib.hid hwS
  clear hcs hz
  replace hsz := Lib.hid hsz
  replace hone := Lib.hid hone
  replace hzs := Lib.hid hzs
  replace hZ := Lib.hid hZ
  go_enter Try.func13, Try.ntmps13
  go_wp2_with (first
    | (refine wpList_blk_box rfl (.tmp 0) rfl rfl w.heap.size rfl ?_)
    | (refine wpList_blk_alloc rfl rfl hZ.out (w.heap.size + 1) (by simp) ?_))
  rw [← hwS.out]
  generalize hg : w.heap.size = g at *
  replace hg := Lib.hid hg
  refine wp_region_held_drew (S := fun W => BlkAt W g 34 cs) (by kernel_rfl) BA ?_
  intro hHeld
  (refine wpAnyH_take (i := 0) (v := .pointer (some ⟨g, 0, none⟩)) rfl (by kernel_rfl) (by kernel_rfl) (by kernel_rfl) (fun _ _ _ h => h) (Or.inl ⟨by rfl, ?_⟩) (by assumption) ?_; (focus (intro w hSw; clear hSw; go_simp)); (try simp only [Act.put, List.setIfInBounds_toArray, List.set_cons_zero, List.set_cons_succ]))
  (refine wpAnyH_take (i := 1) (v := .int .i64 k) rfl (by kernel_rfl) (by kernel_rfl) (by kernel_rfl) (fun _ _ _ h => h) (Or.inl ⟨by rfl, ?_⟩) (by assumption) ?_; (focus (intro w hSw; have hc := BlkAt.cell hSw h0.out; clear hSw; go_simp)); (try simp only [Act.put, List.setIfInBounds_toArray, List.set_cons_zero, List.set_cons_succ]))
  (refine wpAnyH_take (i := 2) (v := .pointer (some ⟨g, 1, none⟩)) rfl (by kernel_rfl) (by kernel_rfl) (by kernel_rfl) (fun _ _ _ h => h) (Or.inl ⟨by rfl, ?_⟩) (by assumption) ?_; (focus (intro w hSw; clear hSw; go_simp)); (try simp only [Act.put, List.setIfInBounds_toArray, List.set_cons_zero, List.set_cons_succ]))
  (refine wpAnyH_take (i := 3) (v := .string D) rfl (by kernel_rfl) (by kernel_rfl) (by kernel_rfl) (fun _ _ _ h => h) (Or.inl ⟨by rfl, ?_⟩) (by assumption) ?_; (focus (intro w hSw; have hc := BlkAt.cell hSw h1.out; clear hSw; go_simp)); (try simp only [Act.put, List.setIfInBounds_toArray, List.set_cons_zero, List.set_cons_succ]))
  (refine wpAnyH_take (i := 4) (v := .pointer (some ⟨g, 2, none⟩)) rfl (by kernel_rfl) (by kernel_rfl) (by kernel_rfl) (fun _ _ _ h => h) (Or.inl ⟨by rfl, ?_⟩) (by assumption) ?_; (focus (intro w hSw; clear hSw; go_simp)); (try simp only [Act.put, List.setIfInBounds_toArray, List.set_cons_zero, List.set_cons_succ]))
  (refine wpAnyH_take (i := 5) (v := .int .u32 i) rfl (by kernel_rfl) (by kernel_rfl) (by kernel_rfl) (fun _ _ _ h => h) (Or.inl ⟨by rfl, ?_⟩) (by assumption) ?_; (focus (intro w hSw; have hc := BlkAt.cell hSw h2.out; clear hSw; go_simp)); (try simp only [Act.put, List.setIfInBounds_toArray, List.set_cons_zero, List.set_cons_succ]))
  (refine wpAnyH_take (i := 6) (v := .pointer (some ⟨g, 3, none⟩)) rfl (by kernel_rfl) (by kernel_rfl) (by kernel_rfl) (fun _ _ _ h => h) (Or.inl ⟨by rfl, ?_⟩) (by assumption) ?_; (focus (intro w hSw; clear hSw; go_simp)); (try simp only [Act.put, List.setIfInBounds_toArray, List.set_cons_zero, List.set_cons_succ]))
  (refine wpAnyH_take (i := 7) (v := .int .u64 h) rfl (by kernel_rfl) (by kernel_rfl) (by kernel_rfl) (fun _ _ _ h => h) (Or.inl ⟨by rfl, ?_⟩) (by assumption) ?_; (focus (intro w hSw; have hc := BlkAt.cell hSw h3.out; clear hSw; go_simp)); (try simp only [Act.put, List.setIfInBounds_toArray, List.set_cons_zero, List.set_cons_succ]))
  (refine wpAnyH_take (i := 8) (v := .pointer (some ⟨g, 4, none⟩)) rfl (by kernel_rfl) (by kernel_rfl) (by kernel_rfl) (fun _ _ _ h => h) (Or.inl ⟨by rfl, ?_⟩) (by assumption) ?_; (focus (intro w hSw; clear hSw; go_simp)); (try simp only [Act.put, List.setIfInBounds_toArray, List.set_cons_zero, List.set_cons_succ]))
  (refine wpAnyH_take (i := 9) (v := .bool b1) rfl (by kernel_rfl) (by kernel_rfl) (by kernel_rfl) (fun _ _ _ h => h) (Or.inl ⟨by rfl, ?_⟩) (by assumption) ?_; (focus (intro w hSw; have hc := BlkAt.cell hSw h4.out; clear hSw; go_simp)); (try simp only [Act.put, List.setIfInBounds_toArray, List.set_cons_zero, List.set_cons_succ]))
  (refine wpAnyH_take (i := 10) (v := .pointer (some ⟨g, 5, none⟩)) rfl (by kernel_rfl) (by kernel_rfl) (by kernel_rfl) (fun _ _ _ h => h) (Or.inl ⟨by rfl, ?_⟩) (by assumption) ?_; (focus (intro w hSw; clear hSw; go_simp)); (try simp only [Act.put, List.setIfInBounds_toArray, List.set_cons_zero, List.set_cons_succ]))
  (refine wpAnyH_take (i := 11) (v := .bool b2) rfl (by kernel_rfl) (by kernel_rfl) (by kernel_rfl) (fun _ _ _ h => h) (Or.inl ⟨by rfl, ?_⟩) (by assumption) ?_; (focus (intro w hSw; have hc := BlkAt.cell hSw h5.out; clear hSw; go_simp)); (try simp only [Act.put, List.setIfInBounds_toArray, List.set_cons_zero, List.set_cons_succ]))
  (refine wpAnyH_take (i := 12) (v := .pointer (some ⟨g, 6, none⟩)) rfl (by kernel_rfl) (by kernel_rfl) (by kernel_rfl) (fun _ _ _ h => h) (Or.inl ⟨by rfl, ?_⟩) (by assumption) ?_; (focus (intro w hSw; clear hSw; go_simp)); (try simp only [Act.put, List.setIfInBounds_toArray, List.set_cons_zero, List.set_cons_succ]))
  refine wpAnyH_take (i := 13) (v := .agg #[.int .u64 v.num, .int .u64 v.ce, .int .i64 v.cr, .int .u64 v.mem, .slice a n c]) rfl (by kernel_rfl) (by kernel_rfl) (by kernel_rfl) (fun _ _ _ h => h) ?_ (by assumption) ?_
  · exact yieldsIf_load_mid (by kernel_rfl) 30 (.tmp 15) (by kernel_rfl) g 6 (by kernel_rfl) [.int .u64 v.num, .int .u64 v.ce, .int .i64 v.cr, .int .u64 v.mem, .slice a n c] _ (fun W (hW : BlkAt W _ _ _) => hW.range h6.out) Try.underlying30 rfl (Try.recI _ _)
  (try simp only [Act.put, List.setIfInBounds_toArray, List.set_cons_zero, List.set_cons_succ])
  (refine wpAnyH_take (i := 15) (v := .pointer (some ⟨g, 11, none⟩)) rfl (by kernel_rfl) (by kernel_rfl) (by kernel_rfl) (fun _ _ _ h => h) (Or.inl ⟨by rfl, ?_⟩) (by assumption) ?_; (focus (intro w hSw; clear hSw; go_simp)); (try simp only [Act.put, List.setIfInBounds_toArray, List.set_cons_zero, List.set_cons_succ]))
  refine wpAnyH_take (i := 16) (v := .agg #[.int .u64 u.num, .int .u64 u.ce, .int .i64 u.cr, .int .u64 u.mem]) rfl (by kernel_rfl) (by kernel_rfl) (by kernel_rfl) (fun _ _ _ h => h) ?_ (by assumption) ?_
  · exact yieldsIf_load_mid (by kernel_rfl) 27 (.tmp 18) (by kernel_rfl) g 11 (by kernel_rfl) [.int .u64 u.num, .int .u64 u.ce, .int .i64 u.cr, .int .u64 u.mem] _ (fun W (hW : BlkAt W _ _ _) => hW.range h11.out) Try.underlying27 rfl (Try.viewI _)
  (try simp only [Act.put, List.setIfInBounds_toArray, List.set_cons_zero, List.set_cons_succ])
  (refine wpAnyH_take (i := 17) (v := .pointer (some ⟨g, 15, none⟩)) rfl (by kernel_rfl) (by kernel_rfl) (by kernel_rfl) (fun _ _ _ h => h) (Or.inl ⟨by rfl, ?_⟩) (by assumption) ?_; (focus (intro w hSw; clear hSw; go_simp)); (try simp only [Act.put, List.setIfInBounds_toArray, List.set_cons_zero, List.set_cons_succ]))
  (refine wpAnyH_take (i := 18) (v := .int .u64 nu) rfl (by kernel_rfl) (by kernel_rfl) (by kernel_rfl) (fun _ _ _ h => h) (Or.inl ⟨by rfl, ?_⟩) (by assumption) ?_; (focus (intro w hSw; have hc := BlkAt.cell hSw h15.out; clear hSw; go_simp)); (try simp only [Act.put, List.setIfInBounds_toArray, List.set_cons_zero, List.set_cons_succ]))
  (refine wpAnyH_take (i := 19) (v := .pointer (some ⟨g, 16, none⟩)) rfl (by kernel_rfl) (by kernel_rfl) (by kernel_rfl) (fun _ _ _ h => h) (Or.inl ⟨by rfl, ?_⟩) (by assumption) ?_; (focus (intro w hSw; clear hSw; go_simp)); (try simp only [Act.put, List.setIfInBounds_toArray, List.set_cons_zero, List.set_cons_succ]))
  (refine wpAnyH_take (i := 20) (v := .int .i64 ix) rfl (by kernel_rfl) (by kernel_rfl) (by kernel_rfl) (fun _ _ _ h => h) (Or.inl ⟨by rfl, ?_⟩) (by assumption) ?_; (focus (intro w hSw; have hc := BlkAt.cell hSw h16.out; clear hSw; go_simp)); (try simp only [Act.put, List.setIfInBounds_toArray, List.set_cons_zero, List.set_cons_succ]))
  (refine wpAnyH_take (i := 21) (v := .pointer (some ⟨g, 17, none⟩)) rfl (by kernel_rfl) (by kernel_rfl) (by kernel_rfl) (fun _ _ _ h => h) (Or.inl ⟨by rfl, ?_⟩) (by assumption) ?_; (focus (intro w hSw; clear hSw; go_simp)); (try simp only [Act.put, List.setIfInBounds_toArray, List.set_cons_zero, List.set_cons_succ]))
  (refine wpAnyH_take (i := 22) (v := .int .i64 tt) rfl (by kernel_rfl) (by kernel_rfl) (by kernel_rfl) (fun _ _ _ h => h) (Or.inl ⟨by rfl, ?_⟩) (by assumption) ?_; (focus (intro w hSw; have hc := BlkAt.cell hSw h17.out; clear hSw; go_simp)); (try simp only [Act.put, List.setIfInBounds_toArray, List.set_cons_zero, List.set_cons_succ]))
  (refine wpAnyH_ready (rs := [14]) (by kernel_rfl) (by simp) ?_; refine AllReadyH.cons rfl (fun K hK => ?_) AllReadyH.nil; go_simp)
  refine (HR.out _).mono ?_
  rintro e w2 ⟨rfl, hb⟩
  have b0 := Lib.hid ((Below.refl _ wS).drew.trans (hb.mono (Nat.le_refl _)))
  replace BA := (BA.drewN 1).below hb BA.lt
  replace BR := (BR.drewN 1).below hb BR.lt
  refine hK.out _ _ BA (fun hHeld2 => ?_)
  clear hK K hHeld hb
  (refine wpAnyH_ready (rs := [23]) (by kernel_rfl) (by simp) ?_; refine AllReadyH.cons rfl (fun K hK => ?_) AllReadyH.nil)
  refine step_build_to (some 26) rfl rfl 48 #[(0, .tmp 4), (1, .tmp 6), (2, .tmp 8), (3, .tmp 10), (4, .tmp 12), (5, .tmp 14), (6, .tmp 17), (7, .tmp 19), (8, .tmp 21), (9, .tmp 23), (10, .tmp 25)] rfl (by rw [List.map_toArray]; exact hBd.out) ?_
  (try simp only [Act.put, List.setIfInBounds_toArray, List.set_cons_zero, List.set_cons_succ])
  refine hK.out _ _ BA (fun hHeld3 => ?_)
  clear hK K hHeld2
  (refine wpAnyH_ready (rs := [24]) (by kernel_rfl) (by simp) ?_; refine AllReadyH.cons rfl (fun K hK => ?_) AllReadyH.nil)
  refine step_blk_store (cs := cs) none rfl rfl (.tmp 2) (.tmp 26) rfl rfl rfl BR (by rw [hsz.out]; exact Try.riI) (by rw [hsz.out, hzs.out]) hone.out ?_
  intro w3 hB3 hK3 hs3
  (try simp only [Act.put, List.setIfInBounds_toArray, List.set_cons_zero, List.set_cons_succ])
  refine hK.out _ _ (hK3.blk BA (by omega)) (fun hHeld4 => ?_)
  clear hK K hHeld3
  refine wpAnyH_done (by kernel_rfl) ?_ _
  have E1 : Below w.heap.size w wS := by rw [hg.out]; exact E
  have E2 := belS E1 b0.out
  have e3 := Kp.below E2 hK3 (by rw [hg.out]; omega) E2.size
  have e4 : Below g w w3 := by rw [hg.out] at e3; exact e3
  clear E1 E2
  go_wp2
  exact bodyPost_ret (results_cell_row rfl _ _ (g + 1) 48 _ (0, 0) _ rfl hB3 Try.underlying48 rfl (by rw [hsz.out]; exact Try.riI)) rfl ⟨rfl, by first | exact e3 | exact e4⟩
theorem item_any (x : It) (D : ByteArray) (a : Option Addr) (n c : Nat) (w : World) : Calls Try.prog 13 #[.agg #[.int .i64 x.kind, .string D, .int .u32 x.inc, .int .u64 x.holds, .bool x.has, .bool x.direct, .int .u64 x.rc.last.num, .int .u64 x.rc.last.ce, .int .i64 x.rc.last.cr, .int .u64 x.rc.last.mem, .slice a n c, .int .u64 x.view.num, .int .u64 x.view.ce, .int .i64 x.view.cr, .int .u64 x.view.mem, .int .u64 x.number, .int .i64 x.index, .int .i64 x.total]] w fun e w' => e = .returned (.agg #[.int .i64 x.kind, .string D, .int .u32 x.inc, .int .u64 x.holds, .bool x.has, .bool x.direct, .int .u64 x.rc.last.num, .int .u64 x.rc.last.ce, .int .i64 x.rc.last.cr, .int .u64 x.rc.last.mem, .slice a n c, .int .u64 x.view.num, .int .u64 x.view.ce, .int .i64 x.view.cr, .int .u64 x.view.mem, .int .u64 x.number, .int .i64 x.index, .int .i64 x.total]) ∧ Below w.heap.size w w' :=
  item_walk _ _ _ _ _ _ _ _ _ _ _ _ _ _ _ _ rfl rfl w
end Go.Proofs.Ytdfnpaaejjediaa
