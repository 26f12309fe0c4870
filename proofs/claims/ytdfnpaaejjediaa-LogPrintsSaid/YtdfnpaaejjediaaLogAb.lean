/- log: the reference's PrintItem: attempts, chunks -/
import Derived.Test.YtdfnpaaejjediaaLogAa
namespace Go.Proofs.Ytdfnpaaejjediaa
open Go.RowKit Go.Sort

set_option maxHeartbeats 3200000 in
set_option maxRecDepth 100000 in
theorem rpitem_3 (x : It) (D : ByteArray) (pa : Option Addr) (pn pc : Nat) (w : World) (hw : x.view.Wf) (hk : x.kind = 3) (hd : x.data = bI D) : Calls Try.prog 12 #[.agg #[.int .i64 x.kind, .string D, .int .u32 x.inc, .int .u64 x.holds, .bool x.has, .bool x.direct, .int .u64 x.rc.last.num, .int .u64 x.rc.last.ce, .int .i64 x.rc.last.cr, .int .u64 x.rc.last.mem, .slice pa pn pc, .int .u64 x.view.num, .int .u64 x.view.ce, .int .i64 x.view.cr, .int .u64 x.view.mem, .int .u64 x.number, .int .i64 x.index, .int .i64 x.total]] w fun e w' => e = .returned (.tuple #[.string (prI x), .int .i64 (itE x)]) ∧ Below w.heap.size w w' := by
  (obtain ⟨k, dt, i, h, b1, b2, r, v, nu, ix, tt⟩ := x; dsimp only at hk hd ⊢; subst hk; subst hd)
  have e0 : itE ⟨3, bI D, i, h, b1, b2, r, v, nu, ix, tt⟩ = if v.ok = true then 0 else 1 := by
    unfold itE
    dsimp only
    rw [if_neg (by omega), if_neg (by omega), if_pos rfl]
  have e1 : itE ⟨3, bI D, i, h, b1, b2, r, v, nu, ix, tt⟩ = 0 → prI ⟨3, bI D, i, h, b1, b2, r, v, nu, ix, tt⟩ = strOfNums [3] ++ strOfNums (vwB v) := fun h => by
    rw [prI, if_pos h, itB3 rfl, ← strOfNums_app]; rfl
  have e2 : ¬ itE ⟨3, bI D, i, h, b1, b2, r, v, nu, ix, tt⟩ = 0 → prI ⟨3, bI D, i, h, b1, b2, r, v, nu, ix, tt⟩ = ⟨#[]⟩ := fun h => if_neg h
  (obtain ⟨S, hS⟩ : ∃ S, S = prI ⟨3, bI D, i, h, b1, b2, r, v, nu, ix, tt⟩ := ⟨_, rfl⟩; obtain ⟨er, her⟩ : ∃ er, er = itE ⟨3, bI D, i, h, b1, b2, r, v, nu, ix, tt⟩ := ⟨_, rfl⟩; rw [← hS, ← her]; replace hS := Lib.hid hS; replace her := Lib.hid her; have hA : BlkAt ((w.alloc (.cells #[.int .i64 3, .string D, .int .u32 (i : Nat), .int .u64 (h : Nat), .bool b1, .bool b2, .int .u64 r.last.num, .int .u64 r.last.ce, .int .i64 r.last.cr, .int .u64 r.last.mem, .slice pa pn pc, .int .u64 v.num, .int .u64 v.ce, .int .i64 v.cr, .int .u64 v.mem, .int .u64 (nu : Nat), .int .i64 ix, .int .i64 tt] 48)).alloc (.cells #[.int .u8 3] 5)) w.heap.size 48 #[.int .i64 3, .string D, .int .u32 (i : Nat), .int .u64 (h : Nat), .bool b1, .bool b2, .int .u64 r.last.num, .int .u64 r.last.ce, .int .i64 r.last.cr, .int .u64 r.last.mem, .slice pa pn pc, .int .u64 v.num, .int .u64 v.ce, .int .i64 v.cr, .int .u64 v.mem, .int .u64 (nu : Nat), .int .i64 ix, .int .i64 tt] := (BlkAt.new w _ _).alloc _; have E : Below w.heap.size w ((w.alloc (.cells #[.int .i64 3, .string D, .int .u32 (i : Nat), .int .u64 (h : Nat), .bool b1, .bool b2, .int .u64 r.last.num, .int .u64 r.last.ce, .int .i64 r.last.cr, .int .u64 r.last.mem, .slice pa pn pc, .int .u64 v.num, .int .u64 v.ce, .int .i64 v.cr, .int .u64 v.mem, .int .u64 (nu : Nat), .int .i64 ix, .int .i64 tt] 48)).alloc (.cells #[.int .u8 3] 5)) := ((Below.refl _ _).alloc (Nat.le_refl _) _).alloc (by simp) _; have hR1 : Rd ((w.alloc (.cells #[.int .i64 3, .string D, .int .u32 (i : Nat), .int .u64 (h : Nat), .bool b1, .bool b2, .int .u64 r.last.num, .int .u64 r.last.ce, .int .i64 r.last.cr, .int .u64 r.last.mem, .slice pa pn pc, .int .u64 v.num, .int .u64 v.ce, .int .i64 v.cr, .int .u64 v.mem, .int .u64 (nu : Nat), .int .i64 ix, .int .i64 tt] 48)).alloc (.cells #[.int .u8 3] 5)) 1 (some ⟨w.heap.size + 1, 0, none⟩) 1 1 ([(3)].map (Value.int .u8)) := Rd.one (by simp))
  rw [← hS.out, ← her.out] at e1 e2
  rw [← her.out] at e0
  have hz : (strOfNums (vwB v)).size = 25 := by rw [strOfNums_len, vwB_len]
  have hzI : ((strOfNums (vwB v)).size : Int) = 25 := by rw [hz]; rfl
  clear hS her
  cases ho : v.ok with
  | false =>
    have HV := Lib.hid (fun W => rvw_no v ho W)
    rw [if_neg (by rw [ho]; decide)] at e0
    subst e0
    obtain rfl := e2 (by decide)
    clear e1 e2 ho hz hzI
    go_enter Try.func12, Try.ntmps12
    go_wp2_with (first
      | (refine wpList_blk_box rfl (.tmp 0) rfl rfl w.heap.size rfl ?_)
      | (refine wpList_bytes_str (t := 68) (d := 9) (e := 5) Try.underlying68 Try.underlying5 Try.underlying9 (l := [3]) rfl (.tmp 11) rfl rfl hR1 ?_; intro S1 hS1 hz1 hz2; have z1 : S1.size = 1 := (by omega); clear hz1 hz2; have z1I : (S1.size : Int) = 1 := (by omega))
      | (refine wpList_blk_get (cs := #[.int .u64 v.num, .int .u64 v.ce, .int .i64 v.cr, .int .u64 v.mem]) rfl (.tmp 49) rfl rfl hA Try.underlying27 rfl (Try.viewI v) (get4 rfl rfl rfl rfl) ?_))
    refine (HV.out _).mono ?_
    rintro e w2 ⟨rfl, hb⟩
    replace E := belS E hb
    clear hA hR1 hb
    go_wp2
    exact bodyPost_ret (v := .tuple #[.string ⟨#[]⟩, .int .i64 1]) (by simp [results, Try.results12, go_sem]) rfl ⟨rfl, E⟩
  | true =>
    have HV := Lib.hid (fun W => rvw_yes v hw ho W)
    rw [if_pos ho] at e0
    subst e0
    obtain rfl := e1 rfl
    clear e1 e2 ho
    generalize strOfNums (vwB v) = V at *
    go_enter Try.func12, Try.ntmps12
    go_wp2_with (first
      | (refine wpList_blk_box rfl (.tmp 0) rfl rfl w.heap.size rfl ?_)
      | (refine wpList_bytes_str (t := 68) (d := 9) (e := 5) Try.underlying68 Try.underlying5 Try.underlying9 (l := [3]) rfl (.tmp 11) rfl rfl hR1 ?_; intro S1 hS1 hz1 hz2; have z1 : S1.size = 1 := (by omega); clear hz1 hz2; have z1I : (S1.size : Int) = 1 := (by omega))
      | (refine wpList_blk_get (cs := #[.int .u64 v.num, .int .u64 v.ce, .int .i64 v.cr, .int .u64 v.mem]) rfl (.tmp 49) rfl rfl hA Try.underlying27 rfl (Try.viewI v) (get4 rfl rfl rfl rfl) ?_))
    refine (HV.out _).mono ?_
    rintro e w2 ⟨rfl, hb⟩
    replace E := belS E hb
    have hcat : ¬ 9223372036854775807 < S1.size + V.size := by omega
    clear hA hR1 hb
    go_wp2
    exact bodyPost_ret (v := .tuple #[.string (S1 ++ V), .int .i64 0]) (by simp [results, Try.results12, go_sem]) rfl ⟨by rw [hS1.out], E⟩
set_option maxHeartbeats 3200000 in
set_option maxRecDepth 100000 in
theorem rpitem_4 (x : It) (D : ByteArray) (pa : Option Addr) (pn pc : Nat) (w : World) (hw : x.number < 18446744073709551616) (hk : x.kind = 4) (hd : x.data = bI D) (hD : D.size ≤ 5000) : Calls Try.prog 12 #[.agg #[.int .i64 x.kind, .string D, .int .u32 x.inc, .int .u64 x.holds, .bool x.has, .bool x.direct, .int .u64 x.rc.last.num, .int .u64 x.rc.last.ce, .int .i64 x.rc.last.cr, .int .u64 x.rc.last.mem, .slice pa pn pc, .int .u64 x.view.num, .int .u64 x.view.ce, .int .i64 x.view.cr, .int .u64 x.view.mem, .int .u64 x.number, .int .i64 x.index, .int .i64 x.total]] w fun e w' => e = .returned (.tuple #[.string (prI x), .int .i64 (itE x)]) ∧ Below w.heap.size w w' := by
  (obtain ⟨k, dt, i, h, b1, b2, r, v, nu, ix, tt⟩ := x; dsimp only at hk hd ⊢; subst hk; subst hd)
  dsimp only at hw
  have e0 : itE ⟨4, bI D, i, h, b1, b2, r, v, nu, ix, tt⟩ = if rgB ⟨4, bI D, i, h, b1, b2, r, v, nu, ix, tt⟩ = true then (if 1024 < 13 + D.size then 3 else 0) else 1 := by
    unfold itE
    dsimp only
    rw [if_neg (by omega), if_neg (by omega), if_neg (by omega), if_pos rfl, bI_len]
  have hrg : rgB ⟨4, bI D, i, h, b1, b2, r, v, nu, ix, tt⟩ = decide (0 ≤ ix ∧ ix ≤ 65535 ∧ 0 ≤ tt ∧ tt ≤ 65535) := rfl
  rw [hrg] at e0
  have e1 : itE ⟨4, bI D, i, h, b1, b2, r, v, nu, ix, tt⟩ = 0 → prI ⟨4, bI D, i, h, b1, b2, r, v, nu, ix, tt⟩ = strOfNums [4] ++ (strOfNums (beL nu 8 8 ++ beL ix 2 2 ++ beL tt 2 2) ++ D) := fun h => by
    rw [prI, if_pos h, itB4 rfl]
    conv => rhs; rw [← strOfNums_self D]
    rw [strOfNums_app, strOfNums_app]
    simp only [List.append_assoc]
    rfl
  have e2 : ¬ itE ⟨4, bI D, i, h, b1, b2, r, v, nu, ix, tt⟩ = 0 → prI ⟨4, bI D, i, h, b1, b2, r, v, nu, ix, tt⟩ = ⟨#[]⟩ := fun h => if_neg h
  (obtain ⟨S, hS⟩ : ∃ S, S = prI ⟨4, bI D, i, h, b1, b2, r, v, nu, ix, tt⟩ := ⟨_, rfl⟩; obtain ⟨er, her⟩ : ∃ er, er = itE ⟨4, bI D, i, h, b1, b2, r, v, nu, ix, tt⟩ := ⟨_, rfl⟩; rw [← hS, ← her]; replace hS := Lib.hid hS; replace her := Lib.hid her; have hA : BlkAt ((w.alloc (.cells #[.int .i64 4, .string D, .int .u32 (i : Nat), .int .u64 (h : Nat), .bool b1, .bool b2, .int .u64 r.last.num, .int .u64 r.last.ce, .int .i64 r.last.cr, .int .u64 r.last.mem, .slice pa pn pc, .int .u64 v.num, .int .u64 v.ce, .int .i64 v.cr, .int .u64 v.mem, .int .u64 (nu : Nat), .int .i64 ix, .int .i64 tt] 48)).alloc (.cells #[.int .u8 4] 5)) w.heap.size 48 #[.int .i64 4, .string D, .int .u32 (i : Nat), .int .u64 (h : Nat), .bool b1, .bool b2, .int .u64 r.last.num, .int .u64 r.last.ce, .int .i64 r.last.cr, .int .u64 r.last.mem, .slice pa pn pc, .int .u64 v.num, .int .u64 v.ce, .int .i64 v.cr, .int .u64 v.mem, .int .u64 (nu : Nat), .int .i64 ix, .int .i64 tt] := (BlkAt.new w _ _).alloc _; have E : Below w.heap.size w ((w.alloc (.cells #[.int .i64 4, .string D, .int .u32 (i : Nat), .int .u64 (h : Nat), .bool b1, .bool b2, .int .u64 r.last.num, .int .u64 r.last.ce, .int .i64 r.last.cr, .int .u64 r.last.mem, .slice pa pn pc, .int .u64 v.num, .int .u64 v.ce, .int .i64 v.cr, .int .u64 v.mem, .int .u64 (nu : Nat), .int .i64 ix, .int .i64 tt] 48)).alloc (.cells #[.int .u8 4] 5)) := ((Below.refl _ _).alloc (Nat.le_refl _) _).alloc (by simp) _; have hR1 : Rd ((w.alloc (.cells #[.int .i64 4, .string D, .int .u32 (i : Nat), .int .u64 (h : Nat), .bool b1, .bool b2, .int .u64 r.last.num, .int .u64 r.last.ce, .int .i64 r.last.cr, .int .u64 r.last.mem, .slice pa pn pc, .int .u64 v.num, .int .u64 v.ce, .int .i64 v.cr, .int .u64 v.mem, .int .u64 (nu : Nat), .int .i64 ix, .int .i64 tt] 48)).alloc (.cells #[.int .u8 4] 5)) 1 (some ⟨w.heap.size + 1, 0, none⟩) 1 1 ([(4)].map (Value.int .u8)) := Rd.one (by simp))
  rw [← hS.out, ← her.out] at e1 e2
  rw [← her.out] at e0
  clear hS her hrg
  have c8 := hA.cell (i := 15) rfl
  have c9 := hA.cell (i := 16) rfl
  have c10 := hA.cell (i := 17) rfl
  by_cases hr : 0 ≤ ix ∧ ix ≤ 65535 ∧ 0 ≤ tt ∧ tt ≤ 65535
  · rw [if_pos (decide_eq_true hr)] at e0
    obtain ⟨r1, r2, r3, r4⟩ := hr
    have q1 : ¬ ix < 0 := by omega
    have q2 : ¬ 65535 < ix := by omega
    have q3 : ¬ tt < 0 := by omega
    have q4 : ¬ 65535 < tt := by omega
    have v1 : IntKind.u64.wrap ix = ix := by rw [IntKind.wrap_u64]; omega
    have v2 : IntKind.u64.wrap tt = tt := by rw [IntKind.wrap_u64]; omega
    have HP1 := Lib.hid (fun W => rput0 nu 8 8 rfl W (by omega) (by omega))
    have HP2 := Lib.hid (fun W => rputA (beL nu 8 8) ix 2 2 rfl W (by simp only [beL_len]; omega) (by omega) (by omega))
    have HP3 := Lib.hid (fun W => rputA (beL nu 8 8 ++ beL ix 2 2) tt 2 2 rfl W (by simp only [List.length_append, beL_len]; omega) (by omega) (by omega))
    have hl3 : (strOfNums (beL nu 8 8 ++ beL ix 2 2 ++ beL tt 2 2)).size = 12 := by rw [strOfNums_len]; simp only [List.length_append, beL_len]
    generalize beL nu 8 8 ++ beL ix 2 2 ++ beL tt 2 2 = l3 at *
    generalize beL nu 8 8 ++ beL ix 2 2 = l2 at *
    generalize beL nu 8 8 = l1 at *
    have hcat : ¬ 9223372036854775807 < (strOfNums l3).size + D.size := by omega
    have hBs : (strOfNums l3 ++ D).size = 12 + D.size := by rw [ByteArray.size_append, hl3]
    have hBI : ((strOfNums l3 ++ D).size : Int) = 12 + D.size := by rw [hBs]; omega
    have hwp : IntKind.i64.wrap (1 + (12 + (D.size : Int))) = 1 + (12 + D.size) := by rw [IntKind.wrap_i64]; omega
    replace hBs := Lib.hid hBs
    replace hl3 := Lib.hid hl3
    replace hBI := Lib.hid hBI
    clear r1 r2 r3 r4
    go_enter Try.func12, Try.ntmps12
    go_wp2_with (first
      | (refine wpList_blk_box rfl (.tmp 0) rfl rfl w.heap.size rfl ?_)
      | (refine wpList_bytes_str (t := 68) (d := 9) (e := 5) Try.underlying68 Try.underlying5 Try.underlying9 (l := [4]) rfl (.tmp 11) rfl rfl hR1 ?_; intro S1 hS1 hz1 hz2; have z1 : S1.size = 1 := (by omega); clear hz1 hz2; have z1I : (S1.size : Int) = 1 := (by omega)))
    have c1 := hA.cell (i := 1) rfl
    generalize ((w.alloc (.cells #[.int .i64 4, .string D, .int .u32 (i : Nat), .int .u64 (h : Nat), .bool b1, .bool b2, .int .u64 r.last.num, .int .u64 r.last.ce, .int .i64 r.last.cr, .int .u64 r.last.mem, .slice pa pn pc, .int .u64 v.num, .int .u64 v.ce, .int .i64 v.cr, .int .u64 v.mem, .int .u64 (nu : Nat), .int .i64 ix, .int .i64 tt] 48)).alloc (.cells #[.int .u8 4] 5)) = w1 at *
    have k1 := cell_regrown c1
    have k8 := cell_regrown c8
    have k9 := cell_regrown c9
    have k10 := cell_regrown c10
    have kP1 := fun d os => Calls.regrown_of (HP1.out (grow (redrawn w1 d) os))
    have kP2 := fun d os => Calls.regrown_of (HP2.out (grow (redrawn w1 d) os))
    have kP3 := fun d os => Calls.regrown_of (HP3.out (grow (redrawn w1 d) os))
    refine wp_region_quiet_below (by kernel_rfl) (by kernel_rfl) ?_
    iterate 15 go_big_quiet_step (first | (with_reducible exact kP1 _ _) | (with_reducible exact kP2 _ _) | (with_reducible exact kP3 _ _))
    refine wpQuiet_nil ?_
    intro w3 hw'
    obtain ⟨⟨dq, osq⟩, hw''⟩ := hw'
    subst hw''
    replace E := belS E (below_regrown w1 dq osq)
    clear k1 k8 k9 k10 kP1 kP2 kP3 c1 c8 c9 c10 hA hR1 q1 q2 q3 q4 v1 v2 HP1 HP2 HP3
    generalize grow (redrawn w1 dq) osq = w3 at *
    generalize strOfNums l3 ++ D = B at *
    have hBI := hBI.out
    have hcat2 : ¬ 9223372036854775807 < S1.size + B.size := by omega
    by_cases hlong : 1024 < 13 + D.size
    · have hlI : (1024 : Int) < 1 + (12 + D.size) := by omega
      rw [if_pos hlong] at e0
      subst e0
      obtain rfl := e2 (by decide)
      clear e1 e2
      go_wp2
      exact bodyPost_ret (v := .tuple #[.string ⟨#[]⟩, .int .i64 3]) (by simp [results, Try.results12, go_sem]) rfl ⟨rfl, E⟩
    · have hlI : ¬ (1024 : Int) < 1 + (12 + D.size) := by omega
      rw [if_neg hlong] at e0
      subst e0
      obtain rfl := e1 rfl
      clear e1 e2
      go_wp2
      exact bodyPost_ret (v := .tuple #[.string (S1 ++ B), .int .i64 0]) (by simp [results, Try.results12, go_sem]) rfl ⟨by rw [hS1.out], E⟩
  · rw [if_neg (by rw [decide_eq_true_eq]; exact hr)] at e0
    subst e0
    obtain rfl := e2 (by decide)
    clear e1 e2
    have hq : ix < 0 ∨ (¬ ix < 0 ∧ 65535 < ix) ∨ (¬ ix < 0 ∧ ¬ 65535 < ix ∧ tt < 0) ∨ (¬ ix < 0 ∧ ¬ 65535 < ix ∧ ¬ tt < 0 ∧ 65535 < tt) := by omega
    clear hr
    rcases hq with q1 | ⟨q1, q2⟩ | ⟨q1, q2, q3⟩ | ⟨q1, q2, q3, q4⟩
    all_goals
      go_enter Try.func12, Try.ntmps12
      go_wp2_with (first
        | (refine wpList_blk_box rfl (.tmp 0) rfl rfl w.heap.size rfl ?_)
        | (refine wpList_bytes_str (t := 68) (d := 9) (e := 5) Try.underlying68 Try.underlying5 Try.underlying9 (l := [4]) rfl (.tmp 11) rfl rfl hR1 ?_; intro S1 hS1 hz1 hz2; have z1 : S1.size = 1 := (by omega); clear hz1 hz2; have z1I : (S1.size : Int) = 1 := (by omega)))
      exact bodyPost_ret (v := .tuple #[.string ⟨#[]⟩, .int .i64 1]) (by simp [results, Try.results12, go_sem]) rfl ⟨rfl, E⟩
end Go.Proofs.Ytdfnpaaejjediaa
