/- log: LogSizes -/
import Derived.Test.YtdfnpaaejjediaaLogQ
namespace Go.Proofs.Ytdfnpaaejjediaa
open Go.RowKit

theorem recE_len {r : Rc} (h : recE r = 0) : r.pend.length ≤ 32 := by
  unfold recE at h
  split at h
  · cases h
  · split at h
    · cases h
    · omega
theorem strOfNums_size {l : List Int} (h : ByL l) : (strOfNums l).size = l.length := by rw [← bI_len, strOfNums_bI h]
theorem itB_by {x : It} (h : ByL x.data) : ByL (itB x) := by
  unfold itB itBody
  refine ByL.append (beL_mem _ _ _) ?_
  split
  · exact ByL.append (beL_mem _ _ _) (ByL.append (beL_mem _ _ _) (ByL.append (beL_mem _ _ _) (recB_by _)))
  · split
    · exact vwB_by _
    · split
      · exact ByL.append (beL_mem _ _ _) (ByL.append (beL_mem _ _ _) (ByL.append (beL_mem _ _ _) h))
      · exact h
theorem prS_size (s : St) : ((recE s.rc = 0 → (prS s).size = 39 + 25 * s.rc.pend.length) ∧ (prS s).size ≤ 8192) := by
  unfold prS
  by_cases h : recE s.rc = 0
  · have := recE_len h
    rw [if_pos h, strOfNums_size (stB_by _), stB_len]
    exact ⟨fun _ => rfl, by omega⟩
  · rw [if_neg h]; exact ⟨fun h' => absurd h' h, by decide⟩
theorem prI_size2 (x : It) (hk : x.kind = 2) : itE x = recE x.rc ∧ ((recE x.rc = 0 → (prI x).size = 40 + 25 * x.rc.pend.length) ∧ (prI x).size ≤ 1024) := by
  have e : itE x = recE x.rc := by unfold itE; rw [if_neg (by omega), if_pos hk]
  refine ⟨e, ?_⟩
  unfold prI
  by_cases h : recE x.rc = 0
  · have := recE_len h
    have hb : ByL (itB x) := by rw [itB2 hk]; exact ByL.append (beL_mem _ _ _) (ByL.append (beL_mem _ _ _) (ByL.append (beL_mem _ _ _) (ByL.append (beL_mem _ _ _) (recB_by _))))
    have hl : (itB x).length = 40 + 25 * x.rc.pend.length := by rw [itB2 hk]; simp only [List.length_append, beL_len, recB_len]; omega
    rw [e, if_pos h, strOfNums_size hb, hl]
    exact ⟨fun _ => rfl, by omega⟩
  · rw [e, if_neg h]; exact ⟨fun h' => absurd h' h, by decide⟩
set_option maxHeartbeats 6400000 in
set_option maxRecDepth 100000 in
theorem sizes_walk (s : St) (pa : Option Addr) (pn pc : Nat) (x : It) (D : ByteArray) (qa : Option Addr) (qn qc : Nat) (w : World) (hs : s.Wf) (hp : RdV w pa pn pc s.rc.pend) (hx : x.Wf) (hd : x.data = bI D) :
    Calls Try.prog 6 #[.agg #[.int .u64 s.epoch, .int .u32 s.inc, .int .u64 s.rc.last.num, .int .u64 s.rc.last.ce, .int .i64 s.rc.last.cr, .int .u64 s.rc.last.mem, .slice pa pn pc], .agg #[.int .i64 x.kind, .string D, .int .u32 x.inc, .int .u64 x.holds, .bool x.has, .bool x.direct, .int .u64 x.rc.last.num, .int .u64 x.rc.last.ce, .int .i64 x.rc.last.cr, .int .u64 x.rc.last.mem, .slice qa qn qc, .int .u64 x.view.num, .int .u64 x.view.ce, .int .i64 x.view.cr, .int .u64 x.view.mem, .int .u64 x.number, .int .i64 x.index, .int .i64 x.total]] w fun e w' => e = .returned (.bool true) ∧ Below w.heap.size w w' := by
  obtain ⟨wS, hwS⟩ : ∃ wS, wS = (w.alloc (.cells #[.int .u64 s.epoch, .int .u32 s.inc, .int .u64 s.rc.last.num, .int .u64 s.rc.last.ce, .int .i64 s.rc.last.cr, .int .u64 s.rc.last.mem, .slice pa pn pc] 32)).alloc (.cells #[.int .i64 x.kind, .string D, .int .u32 x.inc, .int .u64 x.holds, .bool x.has, .bool x.direct, .int .u64 x.rc.last.num, .int .u64 x.rc.last.ce, .int .i64 x.rc.last.cr, .int .u64 x.rc.last.mem, .slice qa qn qc, .int .u64 x.view.num, .int .u64 x.view.ce, .int .i64 x.view.cr, .int .u64 x.view.mem, .int .u64 x.number, .int .i64 x.index, .int .i64 x.total] 34) := ⟨_, rfl⟩
  have E : Below w.heap.size w wS := by rw [hwS]; exact ((Below.refl _ _).alloc (Nat.le_refl _) _).alloc (by simp) _
  have BA : BlkAt wS w.heap.size 32 #[.int .u64 s.epoch, .int .u32 s.inc, .int .u64 s.rc.last.num, .int .u64 s.rc.last.ce, .int .i64 s.rc.last.cr, .int .u64 s.rc.last.mem, .slice pa pn pc] := by rw [hwS]; exact (BlkAt.new w _ _).alloc _
  have BB : BlkAt wS (w.heap.size + 1) 34 #[.int .i64 x.kind, .string D, .int .u32 x.inc, .int .u64 x.holds, .bool x.has, .bool x.direct, .int .u64 x.rc.last.num, .int .u64 x.rc.last.ce, .int .i64 x.rc.last.cr, .int .u64 x.rc.last.mem, .slice qa qn qc, .int .u64 x.view.num, .int .u64 x.view.ce, .int .i64 x.view.cr, .int .u64 x.view.mem, .int .u64 x.number, .int .i64 x.index, .int .i64 x.total] := by
    rw [hwS]
    have := BlkAt.new (w.alloc (.cells #[.int .u64 s.epoch, .int .u32 s.inc, .int .u64 s.rc.last.num, .int .u64 s.rc.last.ce, .int .i64 s.rc.last.cr, .int .u64 s.rc.last.mem, .slice pa pn pc] 32)) 34 #[.int .i64 x.kind, .string D, .int .u32 x.inc, .int .u64 x.holds, .bool x.has, .bool x.direct, .int .u64 x.rc.last.num, .int .u64 x.rc.last.ce, .int .i64 x.rc.last.cr, .int .u64 x.rc.last.mem, .slice qa qn qc, .int .u64 x.view.num, .int .u64 x.view.ce, .int .i64 x.view.cr, .int .u64 x.view.mem, .int .u64 x.number, .int .i64 x.index, .int .i64 x.total]
    simpa using this
  have hp0 : RdV wS pa pn pc s.rc.pend := hp.below E (Nat.le_refl _)
  have hbig : pn ≤ maxLen := Rd.le_max hp
  have hpl := Rd.blkLt hp
  replace hwS := Lib.hid hwS
  obtain ⟨hT1, hT2⟩ := prS_size s
  rw [RdV.len hp] at hT1
  have hxw : ({ x with kind := 2, rc := s.rc } : It).Wf := ⟨hx.1, hx.2.1, hs.2.2, hx.2.2.2.1, hx.2.2.2.2.1, hx.2.2.2.2.2⟩
  obtain ⟨hI1, hU1, hU2⟩ := prI_size2 { x with kind := 2, rc := s.rc } rfl
  replace hU1 : recE s.rc = 0 → (prI { x with kind := 2, rc := s.rc }).size = 40 + 25 * pn := fun h => by rw [hU1 h]; show 40 + 25 * s.rc.pend.length = _; rw [RdV.len hp]
  replace hI1 : itE { x with kind := 2, rc := s.rc } = recE s.rc := hI1
  have HP := Lib.hid (fun W (h : RdV W pa pn pc s.rc.pend) => print_any s pa pn pc hs W h)
  have HI := Lib.hid (fun W (hD : D.size ≤ 5000) (h : RdV W pa pn pc s.rc.pend) => pitem_any { x with kind := 2, rc := s.rc } D pa pn pc W hxw hd hD h)
  rw [hI1] at HI
  dsimp only at HI
  clear hp hd hxw hI1
  generalize prS s = T at *
  generalize prI { x with kind := 2, rc := s.rc } = U at *
  generalize recE s.rc = er at *
  replace hT1 := Lib.hid hT1
  replace hU1 := Lib.hid hU1
  replace hT2 := Lib.hid hT2
  replace hU2 := Lib.hid hU2
  go_enter Try.func6, Try.ntmps6
  go_wp2_with (first
    | (refine wpList_blk_box rfl (.tmp 0) rfl rfl w.heap.size rfl ?_)
    | (refine wpList_blk_box rfl (.tmp 1) rfl rfl (w.heap.size + 1) (by simp) ?_))
  rw [← hwS.out]
  refine (awake_any _).mono ?_
  rintro e w1 ⟨rfl, hb⟩
  have hlt := BB.lt
  have hb' : Kp (w.heap.size + 1) wS w1 := Kp.ofBelow hb
  replace BA := BA.below hb BA.lt
  replace BB := BB.below hb hlt
  replace hp0 := hp0.below hb (Nat.le_refl _)
  replace E := belS E hb
  clear hb hb'
  have hlt := BB.lt
  have a6 : w1.cell? ⟨w.heap.size, 6, none⟩ = some (.slice pa pn pc) := BA.cell rfl
  have b10 : w1.cell? ⟨w.heap.size + 1, 10, none⟩ = some (.slice qa qn qc) := BB.cell rfl
  have b1 : w1.cell? ⟨w.heap.size + 1, 1, none⟩ = some (.string D) := BB.cell rfl
  by_cases h3 : 300 < pn
  · have h3I : (300 : Int) < pn := by omega
    go_wp2
    go_ret
    exact ⟨rfl, E⟩
  have h3I : ¬ (300 : Int) < pn := by omega
  by_cases h4 : 300 < qn
  · have h4I : (300 : Int) < qn := by omega
    go_wp2
    go_ret
    exact ⟨rfl, E⟩
  have h4I : ¬ (300 : Int) < qn := by omega
  by_cases h5 : 5000 < D.size
  · have h5I : (5000 : Int) < D.size := by omega
    go_wp2
    go_ret
    exact ⟨rfl, E⟩
  have h5I : ¬ (5000 : Int) < D.size := by omega
  go_wp2_with (first
    | (refine wpList_blk_load rfl (.tmp 2) rfl Try.underlying32 rfl rfl BA Try.stI ?_))
  refine (HP.out _ hp0).mono ?_
  rintro e w2 ⟨rfl, hb⟩
  replace BA := BA.below hb BA.lt
  replace BB := BB.below hb hlt
  replace hp0 := hp0.below hb (Nat.le_refl _)
  replace E := belS E hb
  clear hb a6 b10 b1
  have hlt := BB.lt
  have b0 : w2.cell? ⟨w.heap.size + 1, 0, none⟩ = some (.int .i64 x.kind) := BB.cell rfl
  have f0 := BB.fz 0
  have BA2 := BA.other (a := ⟨w.heap.size + 1, 0, none⟩) (by simp) (.int .i64 2)
  have BB2 : BlkAt (w2.setCell ⟨w.heap.size + 1, 0, none⟩ (.int .i64 2)) (w.heap.size + 1) 34 #[.int .i64 ({ x with kind := 2 } : It).kind, .string D, .int .u32 ({ x with kind := 2 } : It).inc, .int .u64 ({ x with kind := 2 } : It).holds, .bool ({ x with kind := 2 } : It).has, .bool ({ x with kind := 2 } : It).direct, .int .u64 ({ x with kind := 2 } : It).rc.last.num, .int .u64 ({ x with kind := 2 } : It).rc.last.ce, .int .i64 ({ x with kind := 2 } : It).rc.last.cr, .int .u64 ({ x with kind := 2 } : It).rc.last.mem, .slice qa qn qc, .int .u64 ({ x with kind := 2 } : It).view.num, .int .u64 ({ x with kind := 2 } : It).view.ce, .int .i64 ({ x with kind := 2 } : It).view.cr, .int .u64 ({ x with kind := 2 } : It).view.mem, .int .u64 ({ x with kind := 2 } : It).number, .int .i64 ({ x with kind := 2 } : It).index, .int .i64 ({ x with kind := 2 } : It).total] := BB.set 0 (.int .i64 2)
  have k2 := (Kp.refl (w.heap.size + 1) w2).setCell ⟨w.heap.size + 1, 0, none⟩ rfl (.int .i64 2)
  go_wp2_with (first
    | (refine wpList_blk_get (cs := #[.int .u64 s.rc.last.num, .int .u64 s.rc.last.ce, .int .i64 s.rc.last.cr, .int .u64 s.rc.last.mem, .slice pa pn pc]) rfl (.tmp 35) rfl rfl BA2 Try.underlying30 rfl (Try.recI _ _) (by intro j v h; rcases j with _ | _ | _ | _ | _ | j <;> first | exact h | cases h) ?_)
    | (refine wpList_blk_put rfl (.tmp 37) (.tmp 36) rfl rfl rfl BB2 (Try.recI _ _) (Nat.le_of_ble_eq_true rfl) (by simp [Value.oneCell']) ?_; intro w3 BB3 k3 hs3; replace k2 := k2.trans k3; clear k3)
    | (refine wpList_blk_load (cs := #[.int .i64 ({ x with kind := 2, rc := s.rc } : It).kind, .string D, .int .u32 ({ x with kind := 2, rc := s.rc } : It).inc, .int .u64 ({ x with kind := 2, rc := s.rc } : It).holds, .bool ({ x with kind := 2, rc := s.rc } : It).has, .bool ({ x with kind := 2, rc := s.rc } : It).direct, .int .u64 ({ x with kind := 2, rc := s.rc } : It).rc.last.num, .int .u64 ({ x with kind := 2, rc := s.rc } : It).rc.last.ce, .int .i64 ({ x with kind := 2, rc := s.rc } : It).rc.last.cr, .int .u64 ({ x with kind := 2, rc := s.rc } : It).rc.last.mem, .slice pa pn pc, .int .u64 ({ x with kind := 2, rc := s.rc } : It).view.num, .int .u64 ({ x with kind := 2, rc := s.rc } : It).view.ce, .int .i64 ({ x with kind := 2, rc := s.rc } : It).view.cr, .int .u64 ({ x with kind := 2, rc := s.rc } : It).view.mem, .int .u64 ({ x with kind := 2, rc := s.rc } : It).number, .int .i64 ({ x with kind := 2, rc := s.rc } : It).index, .int .i64 ({ x with kind := 2, rc := s.rc } : It).total]) rfl (.tmp 3) rfl Try.underlying34 rfl rfl BB3 Try.itI ?_))
  replace BA := k2.blk BA (by omega)
  replace hp0 := k2.rd0 hp0 (fun h g off e => by have := hpl h g off e; omega)
  replace E := Kp.below E k2 (by omega) E.size
  clear k2 BA2 BB2 BB3 b0 f0 BB hs3
  refine (HI.out _ (by omega) hp0).mono ?_
  rintro e w4 ⟨rfl, hb⟩
  replace BA := BA.below hb BA.lt
  replace E := belS E hb
  have a6 : w4.cell? ⟨w.heap.size, 6, none⟩ = some (.slice pa pn pc) := BA.cell rfl
  clear hb BA hp0 HI HP
  have g1 := hT2.out
  have g2 := hU2.out
  have hTI : ¬ (8192 : Int) < T.size := by omega
  have hUI : ¬ (1024 : Int) < U.size := by omega
  clear g1 g2
  by_cases hE : er = 0
  · subst hE
    have e1 := hT1.out rfl
    have e2 := hU1.out rfl
    have m1 : (T.size : Int) = 39 + 25 * pn := by omega
    have m2 : (U.size : Int) = 40 + 25 * pn := by omega
    clear e1 e2
    have hw1 : IntKind.i64.wrap (25 * (pn : Int)) = 25 * pn := by rw [IntKind.wrap_i64]; omega
    have hw2 : IntKind.i64.wrap (39 + 25 * (pn : Int)) = 39 + 25 * pn := by rw [IntKind.wrap_i64]; omega
    have hw3 : IntKind.i64.wrap (40 + 25 * (pn : Int)) = 40 + 25 * pn := by rw [IntKind.wrap_i64]; omega
    go_wp2
    go_ret
    exact ⟨rfl, E⟩
  · go_wp2
    go_ret
    exact ⟨rfl, E⟩
theorem sizes_law (cs0 cs1 : Array Value) (w : World) (h0 : ∃ x, RStab w cs0.toList x) (h1 : ∃ x, RItem w cs1.toList x) :
    Calls Try.prog 6 #[.agg cs0, .agg cs1] w fun e w' => e = .returned (.bool true) ∧ Below w.heap.size w w' := by
  obtain ⟨x0, h0⟩ := h0
  obtain ⟨x1, h1⟩ := h1
  obtain ⟨s, pa, pn, pc, rfl, hp, hs⟩ := h0.st
  obtain ⟨x, D, qa, qn, qc, rfl, hd, _, hq, hx, _, _, _⟩ := h1.it
  exact sizes_walk s pa pn pc x D qa qn qc w hs hp hx hd
end Go.Proofs.Ytdfnpaaejjediaa
