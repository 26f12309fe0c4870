/- log: the reference's PrintItem: states; any item -/
import Derived.Test.YtdfnpaaejjediaaLogAb
namespace Go.Proofs.Ytdfnpaaejjediaa
open Go.RowKit Go.Sort

set_option maxHeartbeats 3200000 in
set_option maxRecDepth 100000 in
theorem rpitem_2 (x : It) (D : ByteArray) (pa : Option Addr) (pn pc : Nat) (w : World) (hw1 : x.inc < 4294967296) (hw2 : x.holds < 18446744073709551616) (hw3 : x.rc.Wf) (hp : RdV w pa pn pc x.rc.pend) (hk : x.kind = 2) (hd : x.data = bI D) : Calls Try.prog 12 #[.agg #[.int .i64 x.kind, .string D, .int .u32 x.inc, .int .u64 x.holds, .bool x.has, .bool x.direct, .int .u64 x.rc.last.num, .int .u64 x.rc.last.ce, .int .i64 x.rc.last.cr, .int .u64 x.rc.last.mem, .slice pa pn pc, .int .u64 x.view.num, .int .u64 x.view.ce, .int .i64 x.view.cr, .int .u64 x.view.mem, .int .u64 x.number, .int .i64 x.index, .int .i64 x.total]] w fun e w' => e = .returned (.tuple #[.string (prI x), .int .i64 (itE x)]) ∧ Below w.heap.size w w' := by
  (obtain ⟨k, dt, i, h, b1, b2, r, v, nu, ix, tt⟩ := x; dsimp only at hk hd ⊢; subst hk; subst hd)
  dsimp only at hw1 hw2 hw3 hp
  have e0 : itE ⟨2, bI D, i, h, b1, b2, r, v, nu, ix, tt⟩ = recE r := by
    unfold itE
    dsimp only
    rw [if_neg (by omega), if_pos rfl]
  have e1 : itE ⟨2, bI D, i, h, b1, b2, r, v, nu, ix, tt⟩ = 0 → prI ⟨2, bI D, i, h, b1, b2, r, v, nu, ix, tt⟩ = strOfNums [2] ++ (strOfNums (beL i 4 4 ++ beL h 8 8 ++ beL (flN b1 b2) 1 1) ++ rcS r) := fun hh => by
    rw [prI, if_pos hh, itB2 rfl, rcS, if_pos (by rw [← e0]; exact hh), strOfNums_app, strOfNums_app]
    simp only [List.append_assoc]
    rfl
  have e2 : ¬ itE ⟨2, bI D, i, h, b1, b2, r, v, nu, ix, tt⟩ = 0 → prI ⟨2, bI D, i, h, b1, b2, r, v, nu, ix, tt⟩ = ⟨#[]⟩ := fun h => if_neg h
  (obtain ⟨S, hS⟩ : ∃ S, S = prI ⟨2, bI D, i, h, b1, b2, r, v, nu, ix, tt⟩ := ⟨_, rfl⟩; obtain ⟨er, her⟩ : ∃ er, er = itE ⟨2, bI D, i, h, b1, b2, r, v, nu, ix, tt⟩ := ⟨_, rfl⟩; rw [← hS, ← her]; replace hS := Lib.hid hS; replace her := Lib.hid her; have hA : BlkAt ((w.alloc (.cells #[.int .i64 2, .string D, .int .u32 (i : Nat), .int .u64 (h : Nat), .bool b1, .bool b2, .int .u64 r.last.num, .int .u64 r.last.ce, .int .i64 r.last.cr, .int .u64 r.last.mem, .slice pa pn pc, .int .u64 v.num, .int .u64 v.ce, .int .i64 v.cr, .int .u64 v.mem, .int .u64 (nu : Nat), .int .i64 ix, .int .i64 tt] 48)).alloc (.cells #[.int .u8 2] 5)) w.heap.size 48 #[.int .i64 2, .string D, .int .u32 (i : Nat), .int .u64 (h : Nat), .bool b1, .bool b2, .int .u64 r.last.num, .int .u64 r.last.ce, .int .i64 r.last.cr, .int .u64 r.last.mem, .slice pa pn pc, .int .u64 v.num, .int .u64 v.ce, .int .i64 v.cr, .int .u64 v.mem, .int .u64 (nu : Nat), .int .i64 ix, .int .i64 tt] := (BlkAt.new w _ _).alloc _; have E : Below w.heap.size w ((w.alloc (.cells #[.int .i64 2, .string D, .int .u32 (i : Nat), .int .u64 (h : Nat), .bool b1, .bool b2, .int .u64 r.last.num, .int .u64 r.last.ce, .int .i64 r.last.cr, .int .u64 r.last.mem, .slice pa pn pc, .int .u64 v.num, .int .u64 v.ce, .int .i64 v.cr, .int .u64 v.mem, .int .u64 (nu : Nat), .int .i64 ix, .int .i64 tt] 48)).alloc (.cells #[.int .u8 2] 5)) := ((Below.refl _ _).alloc (Nat.le_refl _) _).alloc (by simp) _; have hR1 : Rd ((w.alloc (.cells #[.int .i64 2, .string D, .int .u32 (i : Nat), .int .u64 (h : Nat), .bool b1, .bool b2, .int .u64 r.last.num, .int .u64 r.last.ce, .int .i64 r.last.cr, .int .u64 r.last.mem, .slice pa pn pc, .int .u64 v.num, .int .u64 v.ce, .int .i64 v.cr, .int .u64 v.mem, .int .u64 (nu : Nat), .int .i64 ix, .int .i64 tt] 48)).alloc (.cells #[.int .u8 2] 5)) 1 (some ⟨w.heap.size + 1, 0, none⟩) 1 1 ([(2)].map (Value.int .u8)) := Rd.one (by simp))
  rw [← hS.out, ← her.out] at e1 e2
  rw [← her.out] at e0
  replace hp : RdV ((w.alloc (.cells #[.int .i64 2, .string D, .int .u32 (i : Nat), .int .u64 (h : Nat), .bool b1, .bool b2, .int .u64 r.last.num, .int .u64 r.last.ce, .int .i64 r.last.cr, .int .u64 r.last.mem, .slice pa pn pc, .int .u64 v.num, .int .u64 v.ce, .int .i64 v.cr, .int .u64 v.mem, .int .u64 (nu : Nat), .int .i64 ix, .int .i64 tt] 48)).alloc (.cells #[.int .u8 2] 5)) pa pn pc r.pend := hp.below E (Nat.le_refl _)
  have HR := Lib.hid (fun W (hp : RdV W pa pn pc r.pend) => rrecp_any r pa pn pc hw3 W hp)
  have hrs : (rcS r).size ≤ 900 := by
    unfold rcS
    by_cases hh : recE r = 0
    · have := recE_len hh
      rw [if_pos hh, strOfNums_len, recB_len]; omega
    · rw [if_neg hh]; decide
  rw [← e0] at HR
  obtain ⟨f, hf⟩ : ∃ f : Int, f = (flN b1 b2 : Nat) := ⟨_, rfl⟩
  have hf3 : 0 ≤ f ∧ f ≤ 3 := by have := flN_le b1 b2; omega
  rw [← hf] at e1
  have HP1 := Lib.hid (fun W => rput0 i 4 4 rfl W (by omega) (by omega))
  have HP2 := Lib.hid (fun W => rputA (beL i 4 4) h 8 8 rfl W (by simp only [beL_len]; omega) (by omega) (by omega))
  have HP3 := Lib.hid (fun W => rputA (beL i 4 4 ++ beL h 8 8) f 1 1 rfl W (by simp only [List.length_append, beL_len]; omega) (by omega) (by omega))
  have hl3 : (strOfNums (beL i 4 4 ++ beL h 8 8 ++ beL f 1 1)).size = 13 := by rw [strOfNums_len]; simp only [List.length_append, beL_len]
  generalize beL i 4 4 ++ beL h 8 8 ++ beL f 1 1 = l3 at *
  generalize beL i 4 4 ++ beL h 8 8 = l2 at *
  generalize beL i 4 4 = l1 at *
  generalize rcS r = R at *
  have hcat : ¬ 9223372036854775807 < (strOfNums l3).size + R.size := by omega
  have hBs : (strOfNums l3 ++ R).size = 13 + R.size := by rw [ByteArray.size_append, hl3]
  have hBI : ((strOfNums l3 ++ R).size : Int) = 13 + R.size := by rw [hBs]; omega
  have hwp : IntKind.i64.wrap (1 + (13 + (R.size : Int))) = 1 + (13 + R.size) := by rw [IntKind.wrap_i64]; omega
  have hlI : ¬ (1024 : Int) < 1 + (13 + R.size) := by omega
  have hi4 : IntKind.u64.wrap (i : Int) = i := by rw [IntKind.wrap_u64]; omega
  replace hBI := Lib.hid hBI
  replace hl3 := Lib.hid hl3
  replace e0 := Lib.hid e0
  clear hS her hw3
  have c2 := hA.cell (i := 2) rfl
  have c3 := hA.cell (i := 3) rfl
  cases b1 <;> cases b2 <;> (try (obtain rfl : f = 0 := hf)) <;> (try (obtain rfl : f = 2 := hf)) <;> (try (obtain rfl : f = 1 := hf)) <;> (try (obtain rfl : f = 3 := hf))
  all_goals
    go_enter Try.func12, Try.ntmps12
    go_wp2_with (first
      | (refine wpList_blk_box rfl (.tmp 0) rfl rfl w.heap.size rfl ?_)
      | (refine wpList_bytes_str (t := 68) (d := 9) (e := 5) Try.underlying68 Try.underlying5 Try.underlying9 (l := [2]) rfl (.tmp 11) rfl rfl hR1 ?_; intro S1 hS1 hz1 hz2; have z1 : S1.size = 1 := (by omega); clear hz1 hz2; have z1I : (S1.size : Int) = 1 := (by omega))
      | (refine wpList_blk_get (cs := #[.int .u64 r.last.num, .int .u64 r.last.ce, .int .i64 r.last.cr, .int .u64 r.last.mem, .slice pa pn pc]) rfl (.tmp 30) rfl rfl hA Try.underlying41 rfl (Try.rrI _ _) (get5 rfl rfl rfl rfl rfl) ?_))
    refine (HR.out _ hp).mono ?_
    rintro e w1 ⟨rfl, hb⟩
    replace E := belS E hb
    replace c2 := (hb.cell (p := ⟨w.heap.size, 2, none⟩) hA.lt).trans c2
    replace c3 := (hb.cell (p := ⟨w.heap.size, 3, none⟩) hA.lt).trans c3
    clear hb hA hp HR hR1
    go_wp2_with fail
    have k2 := cell_regrown c2
    have k3 := cell_regrown c3
    have kP1 := fun d os => Calls.regrown_of (HP1.out (grow (redrawn w1 d) os))
    have kP2 := fun d os => Calls.regrown_of (HP2.out (grow (redrawn w1 d) os))
    have kP3 := fun d os => Calls.regrown_of (HP3.out (grow (redrawn w1 d) os))
    refine wp_region_quiet_below (by kernel_rfl) (by kernel_rfl) ?_
    iterate 12 go_big_quiet_step (first | (with_reducible exact kP1 _ _) | (with_reducible exact kP2 _ _) | (with_reducible exact kP3 _ _))
    refine wpQuiet_nil ?_
    intro w3 hw'
    obtain ⟨⟨dq, osq⟩, hw''⟩ := hw'
    subst hw''
    replace E := belS E (below_regrown w1 dq osq)
    clear k2 k3 kP1 kP2 kP3 c2 c3 HP1 HP2 HP3
    generalize grow (redrawn w1 dq) osq = w3 at *
    generalize strOfNums l3 ++ R = B at *
    have hBI := hBI.out
    have hcat2 : ¬ 9223372036854775807 < S1.size + B.size := by omega
    by_cases he : er = 0
    · obtain rfl := e1 he
      clear e0 e1 e2
      subst he
      go_wp2
      exact bodyPost_ret (v := .tuple #[.string (S1 ++ B), .int .i64 0]) (by simp [results, Try.results12, go_sem]) rfl ⟨by rw [hS1.out], E⟩
    · obtain rfl := e2 he
      clear e0 e1 e2
      go_wp2
      exact bodyPost_ret (v := .tuple #[.string ⟨#[]⟩, .int .i64 er]) (by simp [results, Try.results12, go_sem]) rfl ⟨rfl, E⟩
theorem rpitem_any (x : It) (D : ByteArray) (pa : Option Addr) (pn pc : Nat) (w : World) (hw : x.Wf) (hd : x.data = bI D) (hD : D.size ≤ 5000) (hp : RdV w pa pn pc x.rc.pend) : Calls Try.prog 12 #[.agg #[.int .i64 x.kind, .string D, .int .u32 x.inc, .int .u64 x.holds, .bool x.has, .bool x.direct, .int .u64 x.rc.last.num, .int .u64 x.rc.last.ce, .int .i64 x.rc.last.cr, .int .u64 x.rc.last.mem, .slice pa pn pc, .int .u64 x.view.num, .int .u64 x.view.ce, .int .i64 x.view.cr, .int .u64 x.view.mem, .int .u64 x.number, .int .i64 x.index, .int .i64 x.total]] w fun e w' => e = .returned (.tuple #[.string (prI x), .int .i64 (itE x)]) ∧ Below w.heap.size w w' := by
  by_cases hk : x.kind < 1 ∨ 4 < x.kind
  · exact rpitem_none x D pa pn pc w hk
  · have : x.kind = 1 ∨ x.kind = 2 ∨ x.kind = 3 ∨ x.kind = 4 := by omega
    rcases this with h | h | h | h
    · exact rpitem_1 x D pa pn pc w h hd hD
    · exact rpitem_2 x D pa pn pc w hw.1 hw.2.1 hw.2.2.1 hp h hd
    · exact rpitem_3 x D pa pn pc w hw.2.2.2.1 h hd
    · exact rpitem_4 x D pa pn pc w hw.2.2.2.2.1 h hd hD
end Go.Proofs.Ytdfnpaaejjediaa
