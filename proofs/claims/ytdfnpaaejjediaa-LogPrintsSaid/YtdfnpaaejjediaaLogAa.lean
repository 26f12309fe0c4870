/- log: the reference's PrintItem: kinds that are none, and what an application sends, and attempts -/
import Derived.Test.YtdfnpaaejjediaaLogZ
import Derived.Test.YtdfnpaaejjediaaLogV
namespace Go.Proofs.Ytdfnpaaejjediaa
open Go.RowKit Go.Sort

theorem strOfNums_self (D : ByteArray) : strOfNums (bI D) = D := bI_inj2 (strOfNums_bI (bI_mem D))
set_option maxHeartbeats 3200000 in
set_option maxRecDepth 100000 in
theorem rpitem_none (x : It) (D : ByteArray) (pa : Option Addr) (pn pc : Nat) (w : World) (hk : x.kind < 1 ∨ 4 < x.kind) : Calls Try.prog 12 #[.agg #[.int .i64 x.kind, .string D, .int .u32 x.inc, .int .u64 x.holds, .bool x.has, .bool x.direct, .int .u64 x.rc.last.num, .int .u64 x.rc.last.ce, .int .i64 x.rc.last.cr, .int .u64 x.rc.last.mem, .slice pa pn pc, .int .u64 x.view.num, .int .u64 x.view.ce, .int .i64 x.view.cr, .int .u64 x.view.mem, .int .u64 x.number, .int .i64 x.index, .int .i64 x.total]] w fun e w' => e = .returned (.tuple #[.string (prI x), .int .i64 (itE x)]) ∧ Below w.heap.size w w' := by
  have e0 : itE x = 10 := if_pos hk
  have e1 : prI x = ⟨#[]⟩ := if_neg (by rw [e0]; decide)
  have hkm : IntKind.u8.wrap x.kind = x.kind % 256 := IntKind.wrap_u8 _
  (obtain ⟨S, hS⟩ : ∃ S, S = prI x := ⟨_, rfl⟩; obtain ⟨er, her⟩ : ∃ er, er = itE x := ⟨_, rfl⟩; rw [← hS, ← her]; replace hS := Lib.hid hS; replace her := Lib.hid her; have hA : BlkAt ((w.alloc (.cells #[.int .i64 x.kind, .string D, .int .u32 x.inc, .int .u64 x.holds, .bool x.has, .bool x.direct, .int .u64 x.rc.last.num, .int .u64 x.rc.last.ce, .int .i64 x.rc.last.cr, .int .u64 x.rc.last.mem, .slice pa pn pc, .int .u64 x.view.num, .int .u64 x.view.ce, .int .i64 x.view.cr, .int .u64 x.view.mem, .int .u64 x.number, .int .i64 x.index, .int .i64 x.total] 48)).alloc (.cells #[.int .u8 (IntKind.u8.wrap x.kind)] 5)) w.heap.size 48 #[.int .i64 x.kind, .string D, .int .u32 x.inc, .int .u64 x.holds, .bool x.has, .bool x.direct, .int .u64 x.rc.last.num, .int .u64 x.rc.last.ce, .int .i64 x.rc.last.cr, .int .u64 x.rc.last.mem, .slice pa pn pc, .int .u64 x.view.num, .int .u64 x.view.ce, .int .i64 x.view.cr, .int .u64 x.view.mem, .int .u64 x.number, .int .i64 x.index, .int .i64 x.total] := (BlkAt.new w _ _).alloc _; have E : Below w.heap.size w ((w.alloc (.cells #[.int .i64 x.kind, .string D, .int .u32 x.inc, .int .u64 x.holds, .bool x.has, .bool x.direct, .int .u64 x.rc.last.num, .int .u64 x.rc.last.ce, .int .i64 x.rc.last.cr, .int .u64 x.rc.last.mem, .slice pa pn pc, .int .u64 x.view.num, .int .u64 x.view.ce, .int .i64 x.view.cr, .int .u64 x.view.mem, .int .u64 x.number, .int .i64 x.index, .int .i64 x.total] 48)).alloc (.cells #[.int .u8 (IntKind.u8.wrap x.kind)] 5)) := ((Below.refl _ _).alloc (Nat.le_refl _) _).alloc (by simp) _; have hR1 : Rd ((w.alloc (.cells #[.int .i64 x.kind, .string D, .int .u32 x.inc, .int .u64 x.holds, .bool x.has, .bool x.direct, .int .u64 x.rc.last.num, .int .u64 x.rc.last.ce, .int .i64 x.rc.last.cr, .int .u64 x.rc.last.mem, .slice pa pn pc, .int .u64 x.view.num, .int .u64 x.view.ce, .int .i64 x.view.cr, .int .u64 x.view.mem, .int .u64 x.number, .int .i64 x.index, .int .i64 x.total] 48)).alloc (.cells #[.int .u8 (IntKind.u8.wrap x.kind)] 5)) 1 (some ⟨w.heap.size + 1, 0, none⟩) 1 1 ([(IntKind.u8.wrap x.kind)].map (Value.int .u8)) := Rd.one (by simp))
  rw [hkm] at hA E hR1
  obtain rfl := hS.out.trans e1
  obtain rfl := her.out.trans e0
  have c0 : ((w.alloc (.cells #[.int .i64 x.kind, .string D, .int .u32 x.inc, .int .u64 x.holds, .bool x.has, .bool x.direct, .int .u64 x.rc.last.num, .int .u64 x.rc.last.ce, .int .i64 x.rc.last.cr, .int .u64 x.rc.last.mem, .slice pa pn pc, .int .u64 x.view.num, .int .u64 x.view.ce, .int .i64 x.view.cr, .int .u64 x.view.mem, .int .u64 x.number, .int .i64 x.index, .int .i64 x.total] 48)).alloc (.cells #[.int .u8 (x.kind % 256)] 5)).cell? ⟨w.heap.size, 0, none⟩ = some (.int .i64 x.kind) := hA.cell rfl
  clear e0 e1 hS her hkm
  generalize x.kind = k at *
  have n1 : ¬ k = 1 := by omega
  have n2 : ¬ k = 2 := by omega
  have n3 : ¬ k = 3 := by omega
  have n4 : ¬ k = 4 := by omega
  clear hk
  go_enter Try.func12, Try.ntmps12
  go_wp2_with (first
    | (refine wpList_blk_box rfl (.tmp 0) rfl rfl w.heap.size rfl ?_)
    | (refine wpList_bytes_str (t := 68) (d := 9) (e := 5) Try.underlying68 Try.underlying5 Try.underlying9 (l := [k % 256]) rfl (.tmp 11) rfl rfl hR1 ?_; intro S1 hS1 hz1 hz2))
  exact bodyPost_ret (v := .tuple #[.string ⟨#[]⟩, .int .i64 10]) (by simp [results, Try.results12, go_sem]) rfl ⟨rfl, E⟩
set_option maxHeartbeats 3200000 in
set_option maxRecDepth 100000 in
theorem rpitem_1 (x : It) (D : ByteArray) (pa : Option Addr) (pn pc : Nat) (w : World) (hk : x.kind = 1) (hd : x.data = bI D) (hD : D.size ≤ 5000) : Calls Try.prog 12 #[.agg #[.int .i64 x.kind, .string D, .int .u32 x.inc, .int .u64 x.holds, .bool x.has, .bool x.direct, .int .u64 x.rc.last.num, .int .u64 x.rc.last.ce, .int .i64 x.rc.last.cr, .int .u64 x.rc.last.mem, .slice pa pn pc, .int .u64 x.view.num, .int .u64 x.view.ce, .int .i64 x.view.cr, .int .u64 x.view.mem, .int .u64 x.number, .int .i64 x.index, .int .i64 x.total]] w fun e w' => e = .returned (.tuple #[.string (prI x), .int .i64 (itE x)]) ∧ Below w.heap.size w w' := by
  (obtain ⟨k, dt, i, h, b1, b2, r, v, nu, ix, tt⟩ := x; dsimp only at hk hd ⊢; subst hk; subst hd)
  have e0 : itE ⟨1, bI D, i, h, b1, b2, r, v, nu, ix, tt⟩ = if 1024 < 1 + D.size then 3 else 0 := by
    unfold itE
    dsimp only
    rw [if_neg (by omega), if_neg (by omega), if_neg (by omega), if_neg (by omega), bI_len]
  have e1 : itE ⟨1, bI D, i, h, b1, b2, r, v, nu, ix, tt⟩ = 0 → prI ⟨1, bI D, i, h, b1, b2, r, v, nu, ix, tt⟩ = strOfNums [1] ++ D := fun h => by
    rw [prI, if_pos h, itB1 rfl, ← strOfNums_app, strOfNums_self]; rfl
  have e2 : ¬ itE ⟨1, bI D, i, h, b1, b2, r, v, nu, ix, tt⟩ = 0 → prI ⟨1, bI D, i, h, b1, b2, r, v, nu, ix, tt⟩ = ⟨#[]⟩ := fun h => if_neg h
  (obtain ⟨S, hS⟩ : ∃ S, S = prI ⟨1, bI D, i, h, b1, b2, r, v, nu, ix, tt⟩ := ⟨_, rfl⟩; obtain ⟨er, her⟩ : ∃ er, er = itE ⟨1, bI D, i, h, b1, b2, r, v, nu, ix, tt⟩ := ⟨_, rfl⟩; rw [← hS, ← her]; replace hS := Lib.hid hS; replace her := Lib.hid her; have hA : BlkAt ((w.alloc (.cells #[.int .i64 1, .string D, .int .u32 (i : Nat), .int .u64 (h : Nat), .bool b1, .bool b2, .int .u64 r.last.num, .int .u64 r.last.ce, .int .i64 r.last.cr, .int .u64 r.last.mem, .slice pa pn pc, .int .u64 v.num, .int .u64 v.ce, .int .i64 v.cr, .int .u64 v.mem, .int .u64 (nu : Nat), .int .i64 ix, .int .i64 tt] 48)).alloc (.cells #[.int .u8 1] 5)) w.heap.size 48 #[.int .i64 1, .string D, .int .u32 (i : Nat), .int .u64 (h : Nat), .bool b1, .bool b2, .int .u64 r.last.num, .int .u64 r.last.ce, .int .i64 r.last.cr, .int .u64 r.last.mem, .slice pa pn pc, .int .u64 v.num, .int .u64 v.ce, .int .i64 v.cr, .int .u64 v.mem, .int .u64 (nu : Nat), .int .i64 ix, .int .i64 tt] := (BlkAt.new w _ _).alloc _; have E : Below w.heap.size w ((w.alloc (.cells #[.int .i64 1, .string D, .int .u32 (i : Nat), .int .u64 (h : Nat), .bool b1, .bool b2, .int .u64 r.last.num, .int .u64 r.last.ce, .int .i64 r.last.cr, .int .u64 r.last.mem, .slice pa pn pc, .int .u64 v.num, .int .u64 v.ce, .int .i64 v.cr, .int .u64 v.mem, .int .u64 (nu : Nat), .int .i64 ix, .int .i64 tt] 48)).alloc (.cells #[.int .u8 1] 5)) := ((Below.refl _ _).alloc (Nat.le_refl _) _).alloc (by simp) _; have hR1 : Rd ((w.alloc (.cells #[.int .i64 1, .string D, .int .u32 (i : Nat), .int .u64 (h : Nat), .bool b1, .bool b2, .int .u64 r.last.num, .int .u64 r.last.ce, .int .i64 r.last.cr, .int .u64 r.last.mem, .slice pa pn pc, .int .u64 v.num, .int .u64 v.ce, .int .i64 v.cr, .int .u64 v.mem, .int .u64 (nu : Nat), .int .i64 ix, .int .i64 tt] 48)).alloc (.cells #[.int .u8 1] 5)) 1 (some ⟨w.heap.size + 1, 0, none⟩) 1 1 ([(1)].map (Value.int .u8)) := Rd.one (by simp))
  rw [← hS.out, ← her.out] at e1 e2
  rw [← her.out] at e0
  have hwp : IntKind.i64.wrap (1 + (D.size : Int)) = 1 + D.size := by rw [IntKind.wrap_i64]; omega
  clear hS her hA
  by_cases hlong : 1024 < 1 + D.size
  · have hlI : (1024 : Int) < 1 + D.size := by omega
    rw [if_pos hlong] at e0
    subst e0
    obtain rfl := e2 (by decide)
    clear e1 e2
    go_enter Try.func12, Try.ntmps12
    go_wp2_with (first
      | (refine wpList_blk_box rfl (.tmp 0) rfl rfl w.heap.size rfl ?_)
      | (refine wpList_bytes_str (t := 68) (d := 9) (e := 5) Try.underlying68 Try.underlying5 Try.underlying9 (l := [1]) rfl (.tmp 11) rfl rfl hR1 ?_; intro S1 hS1 hz1 hz2; have z1 : S1.size = 1 := (by omega); clear hz1 hz2; have z1I : (S1.size : Int) = 1 := (by omega)))
    exact bodyPost_ret (v := .tuple #[.string ⟨#[]⟩, .int .i64 3]) (by simp [results, Try.results12, go_sem]) rfl ⟨rfl, E⟩
  · have hlI : ¬ (1024 : Int) < 1 + D.size := by omega
    rw [if_neg hlong] at e0
    subst e0
    obtain rfl := e1 rfl
    clear e1 e2
    go_enter Try.func12, Try.ntmps12
    go_wp2_with (first
      | (refine wpList_blk_box rfl (.tmp 0) rfl rfl w.heap.size rfl ?_)
      | ((refine wpList_bytes_str (t := 68) (d := 9) (e := 5) Try.underlying68 Try.underlying5 Try.underlying9 (l := [1]) rfl (.tmp 11) rfl rfl hR1 ?_; intro S1 hS1 hz1 hz2; have z1 : S1.size = 1 := (by omega); clear hz1 hz2; have z1I : (S1.size : Int) = 1 := (by omega)); have hcat : ¬ 9223372036854775807 < S1.size + D.size := by omega))
    exact bodyPost_ret (v := .tuple #[.string (S1 ++ D), .int .i64 0]) (by simp [results, Try.results12, go_sem]) rfl ⟨by rw [hS1.out], E⟩
end Go.Proofs.Ytdfnpaaejjediaa
