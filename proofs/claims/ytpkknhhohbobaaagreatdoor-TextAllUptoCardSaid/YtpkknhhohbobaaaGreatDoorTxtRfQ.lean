/- text: the reference's field, read: letter m (written by gen_rf.py) -/
import Derived.Test.YtpkknhhohbobaaaGreatDoorTxtReQ
namespace Go.Proofs.YtpkknhhohbobaaaGreatDoor
set_option linter.unusedSimpArgs false
set_option linter.unusedVariables false
open Go.RowKit Go.Sort
def dL (t : W8) : List W8 := if t = [] then [] else pcs 44 t
def vk (u : W8) : Bool := (refV u 4294967295).2
def vv (u : W8) : Nat := (refV u 4294967295).1
theorem mapO_ref (L : List W8) : mapO (fun w => valN w 4294967295) L = if L.all vk = true then some (L.map vv) else none := by
  induction L with
  | nil => rfl
  | cons u r ih =>
    simp only [mapO, List.all_cons, List.map_cons, ih, refV_valN u (show (4294967295 : Nat) ≤ 18446744073709551615 by decide)]
    have h1 : vk u = (refV u 4294967295).2 := rfl
    have h2 : vv u = (refV u 4294967295).1 := rfl
    rw [h1, h2]
    cases (refV u 4294967295).2 <;> cases r.all vk <;> rfl
theorem depsN_ref (t : W8) : depsN (100 :: t) = if (dL t).all vk = true then some ((dL t).map vv) else none := by
  unfold dL
  rw [depsN_cons2, if_pos rfl, mapO_ref]
  by_cases ht : t = []
  · rw [if_pos ht, if_pos ht]; rfl
  · rw [if_neg ht, if_neg ht]
theorem takeD_ref {ws : List W8} {t : W8} (h : ws.headD [] = 100 :: t) : takeD ws = if (okN ws true && (dL t).all vk) = true then some ((dL t).map vv, ws.tail) else none := by
  cases ws with
  | nil => cases h
  | cons u r =>
    obtain rfl : u = 100 :: t := h
    rw [takeD_cons, depsN_ref]
    have h1 : okN ((100 :: t) :: r) true = true := rfl
    rw [h1, Bool.true_and]
    cases (dL t).all vk <;> rfl
theorem takeD_no {ws : List W8} (h : ∀ t, ws.headD [] ≠ 100 :: t) : takeD ws = none := by
  cases ws with
  | nil => rfl
  | cons u r =>
    rw [takeD_cons]
    cases u with
    | nil => rfl
    | cons x0 t =>
      rw [depsN_cons2, if_neg (fun e => h t (by rw [e]; rfl))]
      rfl
def mq (ws : List W8) : Bool := okR ws.tail.tail.tail 63 (okR ws.tail.tail 18446744073709551615 (okR ws.tail 4294967295 (okR ws 63 true)))
theorem mq_and (ws : List W8) : mq ws = (((okR ws 63 true && okR ws.tail 4294967295 true) && okR ws.tail.tail 18446744073709551615 true) && okR ws.tail.tail.tail 63 true) := by
  unfold mq
  rw [okR_and ws.tail.tail.tail, okR_and ws.tail.tail, okR_and ws.tail]
set_option maxRecDepth 20000 in
theorem fieldT_m {x : TEv} {ws : List W8} {t : W8} (h : ws.tail.tail.tail.tail.headD [] = 100 :: t) : fieldT .m x ws = if (okN ws.tail.tail.tail.tail.tail (okN ws.tail.tail.tail.tail (mq ws) && (dL t).all vk) && (bytR (ws.tail.tail.tail.tail.tail.headD [])).2) = true then some ({ x with m := ⟨((refV (ws.headD []) 63).1 : Nat), (refV (ws.tail.headD []) 4294967295).1, (refV (ws.tail.tail.headD []) 18446744073709551615).1, ((refV (ws.tail.tail.tail.headD []) 63).1 : Nat), (dL t).map vv, (bytR (ws.tail.tail.tail.tail.tail.headD [])).1⟩ }, ws.tail.tail.tail.tail.tail.tail) else none := by
  rw [okN_and ws.tail.tail.tail.tail.tail, okN_and ws.tail.tail.tail.tail, mq_and]
  simp only [fieldT, takeM]
  rw [takeN_ref ws (by decide)]
  cases okR ws 63 true
  · rfl
  rw [if_pos rfl, Option.bind_some, takeN_ref ws.tail (by decide)]
  cases okR ws.tail 4294967295 true
  · rfl
  rw [if_pos rfl, Option.bind_some, takeN_ref ws.tail.tail (by decide)]
  cases okR ws.tail.tail 18446744073709551615 true
  · rfl
  rw [if_pos rfl, Option.bind_some, takeN_ref ws.tail.tail.tail (by decide)]
  cases okR ws.tail.tail.tail 63 true
  · rfl
  rw [if_pos rfl, Option.bind_some, takeD_ref h]
  cases okN ws.tail.tail.tail.tail true
  · rfl
  cases (dL t).all vk
  · rfl
  rw [if_pos (show (true && true) = true from rfl), Option.bind_some, takeB_ref]
  cases okN ws.tail.tail.tail.tail.tail true
  · rfl
  cases (bytR (ws.tail.tail.tail.tail.tail.headD [])).2 <;> rfl
theorem fieldT_mno {x : TEv} {ws : List W8} (h : ∀ t, ws.tail.tail.tail.tail.headD [] ≠ 100 :: t) : fieldT .m x ws = none := by
  simp only [fieldT, takeM]
  rw [takeN_ref ws (by decide)]
  cases okR ws 63 true
  · rfl
  rw [if_pos rfl, Option.bind_some, takeN_ref ws.tail (by decide)]
  cases okR ws.tail 4294967295 true
  · rfl
  rw [if_pos rfl, Option.bind_some, takeN_ref ws.tail.tail (by decide)]
  cases okR ws.tail.tail 18446744073709551615 true
  · rfl
  rw [if_pos rfl, Option.bind_some, takeN_ref ws.tail.tail.tail (by decide)]
  cases okR ws.tail.tail.tail 63 true
  · rfl
  rw [if_pos rfl, Option.bind_some, takeD_no h]
  rfl
theorem mq_le {ws : List W8} (h : mq ws = true) : (refV (ws.headD []) 63).1 ≤ 63 ∧ (refV (ws.tail.headD []) 4294967295).1 ≤ 4294967295 ∧ (refV (ws.tail.tail.tail.headD []) 63).1 ≤ 63 := by
  rw [mq_and] at h
  simp only [Bool.and_eq_true] at h
  obtain ⟨⟨⟨h1, h2⟩, h3⟩, h4⟩ := h
  exact ⟨refV_le (by decide) (okR_ref h1).2.2, refV_le (by decide) (okR_ref h2).2.2, refV_le (by decide) (okR_ref h4).2.2⟩
/-- A count that is read. -/
def dv (u : W8) : Nat := vv u % 4294967296
theorem dv_map {L : List W8} (h : L.all vk = true) : L.map dv = L.map vv := by
  apply List.map_congr_left
  intro u hu
  have h1 : vk u = true := List.all_eq_true.1 h u hu
  have h2 : vv u ≤ 4294967295 := refV_le (by decide) h1
  exact Nat.mod_eq_of_lt (by omega)
section
variable {w W W' : World} {mb b B : Nat} {y y' : TEv} {da da' na : Option Addr} {dn dc dc' nn nc : Nat} {ws ws' : List W8} {ok ok' : Bool} {cs : Array Value}
theorem PFe.no {f : Lt} {x : TEv} {da0 na0 : Option Addr} {dn0 dc0 nn0 nc0 : Nat} (hr : TkT W' b ws' false ∧ FdR W' B y da dn dc na nn nc ∧ Kp b w W') (ho : fieldT f x ws = none) (hcs : cs = evC y da dn dc na nn nc) (h1 : f ≠ .m → da = da0 ∧ dn = dn0 ∧ dc = dc0) (h2 : f ≠ .a → f ≠ .o → na = na0 ∧ nn = nn0 ∧ nc = nc0) : PFe f x ws b B da0 dn0 dc0 na0 nn0 nc0 w (.returned (.agg cs)) W' := by
  subst hcs
  exact ⟨y, da, dn, dc, na, nn, nc, ws', false, rfl, hr.1, hr.2.1, hr.2.2, by rw [ho]; rfl, (fun h => by cases h), h1, h2⟩
theorem PFe.yes {f : Lt} {x z : TEv} {da0 na0 : Option Addr} {dn0 dc0 nn0 nc0 : Nat} {q : Bool} (hr : TkT W' b ws' q ∧ FdR W' B y da dn dc na nn nc ∧ Kp b w W') (ho : fieldT f x ws = if q = true then some (z, ws') else none) (hz : q = true → y = z) (hcs : cs = evC y da dn dc na nn nc) (h1 : f ≠ .m → da = da0 ∧ dn = dn0 ∧ dc = dc0) (h2 : f ≠ .a → f ≠ .o → na = na0 ∧ nn = nn0 ∧ nc = nc0) : PFe f x ws b B da0 dn0 dc0 na0 nn0 nc0 w (.returned (.agg cs)) W' := by
  subst hcs
  refine ⟨y, da, dn, dc, na, nn, nc, ws', q, rfl, hr.1, hr.2.1, hr.2.2, ?_, ?_, h1, h2⟩
  · rw [ho]; cases q <;> rfl
  · intro h
    rw [ho, if_pos h, hz h]
theorem FdS.flag (h : FdS w W mb b B y da dn dc na nn nc ws ok) (r : Bool) : FdS w (W.setCell ⟨b, 1, none⟩ (.bool r)) mb b B y da dn dc na nn nc ws r := h.kk ((Kp.refl b W).setCell ⟨b, 1, none⟩ rfl _) (h.r.flag r)
/-- One count more. -/
theorem FdS.appD {n base d : Nat} (h : FdS w W mb b B y da n dc na nn nc ws ok) (hown : W.ownsRow base 26 1 (.slice da n dc) n (c32 y.m.deps)) (g : W.grownBy W' (Value.slice da n dc).ownBlock) (ho : W'.ownsRow base 26 1 (.slice da' (n + 1) dc') (n + 1) (c32 y.m.deps ++ c32 [d])) (hb1 : mb + 2 ≤ base) (hb2 : base ≤ W.heap.size) (hnl : nn ≠ 0 → ∀ g off, na = some ⟨g, off, none⟩ → g < mb) :
    FdS w (W'.setCell ⟨mb, 11, none⟩ (.slice da' (n + 1) dc')) mb b B { y with m := { y.m with deps := y.m.deps ++ [d] } } da' (n + 1) dc' na nn nc ws ok ∧ (W'.setCell ⟨mb, 11, none⟩ (.slice da' (n + 1) dc')).ownsRow base 26 1 (.slice da' (n + 1) dc') (n + 1) (c32 (y.m.deps ++ [d])) := by
  obtain ⟨o1, o2, o3, o4⟩ := h.ord
  have hB : Below base W W' := (Below.refl base W).grown g hb2 (fun k hk => (hown.lt k hk).1)
  have hbk := h.bk.below hB (by omega)
  have hK : Kp mb W' (W'.setCell ⟨mb, 11, none⟩ (.slice da' (n + 1) dc')) := (Kp.refl _ _).setCell ⟨mb, 11, none⟩ rfl _
  have hset : (evC y da n dc na nn nc).setIfInBounds 11 (.slice da' (n + 1) dc') = evC { y with m := { y.m with deps := y.m.deps ++ [d] } } da' (n + 1) dc' na nn nc := by kernel_rfl
  have hkW : Kp b w W' := ⟨hB.os.trans h.k.os, hB.tape.trans h.k.tape, hB.output.trans h.k.output, Nat.le_trans h.k.size hB.size, fun i hi hne => (hB.block i (by omega)).trans (h.k.block i hi hne)⟩
  have hb0 := hbk.set 11 (.slice da' (n + 1) dc')
  rw [hset] at hb0
  have ho2 := own_keep ho (fun g hg hlt => hK.block g hlt (by have := (ho.lt g hg).1; omega))
  rw [show c32 y.m.deps ++ c32 [d] = c32 (y.m.deps ++ [d]) from List.map_append.symm] at ho2
  obtain ⟨pa, pc, e1, hrd⟩ := Rd.own ho2
  injection e1 with e1 e2 e3
  subst e1 e3
  have hlt := ho2.lt
  have hnr := hK.rd0 (Rd.keepB h.f.nr hB.size (fun h0 g off e => hB.block g (by have := hnl h0 g off e; omega))) (fun h0 g off e => by have := hnl h0 g off e; omega)
  refine ⟨⟨h.ord, hb0, hK.blk (h.m.below hB (by omega)) (by omega), TkT.off (h.r.lower hB (by omega)) hK (by omega), Kp.near hkW hK (by simp [World.setCell]) (by omega), ⟨hrd, hnr, ?_, h.f.nb⟩, ?_, h.nx⟩, ho2⟩
  · intro _ g off e
    subst e
    have := (hlt g rfl).1
    omega
  · intro _ g off e
    subst e
    have := (hlt g rfl).1
    omega
end
section
variable {b B : Nat} {w w' : World} {ws : List W8} {x : TEv} {da na : Option Addr} {dn dc nn nc : Nat}
set_option maxHeartbeats 12800000 in
set_option maxRecDepth 100000 in
theorem fd_m (hF : FdR w B x da dn dc na nn nc) (hB : b ≤ B) (hB2 : B < w.heap.size) (h : TkT w b ws true) (hd : da = none ∧ dn = 0 ∧ dc = 0) :
    Calls Tryz.prog 22 #[.pointer (some ⟨b, 0, none⟩), .int .u8 109, .agg (evC x da dn dc na nn nc)] w (PFe .m x ws b B da dn dc na nn nc w) := by
  obtain ⟨rfl, rfl, rfl⟩ := hd
  have hdd : x.m.deps = [] := by
    have := hF.dr.length_eq
    unfold c32 at this
    rw [List.length_map] at this
    exact List.eq_nil_of_length_eq_zero (by simpa using this)
  have hnl := Lib.hid hF.nr.blt
  have hS0 := FdS.start hF hB hB2 h
  have hs1 : (w.alloc (.cells (evC x none 0 0 na nn nc) 34)).heap.size = w.heap.size + 1 := by simp
  obtain ⟨w1, hw1⟩ : ∃ z, z = w.alloc (.cells (evC x none 0 0 na nn nc) 34) := ⟨_, rfl⟩
  rw [← hw1] at hS0 hs1
  obtain ⟨w2, hw2⟩ : ∃ z, z = w1.alloc (.cells #[.int .i64 0, .int .i64 0, .int .u64 0, .int .i64 0, .int .u64 0, .int .i64 0, .int .u64 0, .int .i64 0, .int .u32 0, .int .u64 0, .int .i64 0, .slice none 0 0, .string ⟨#[]⟩, .int .u64 0, .int .u64 0, .int .i64 0, .int .u64 0, .slice none 0 0, .string ⟨#[]⟩] 34) := ⟨_, rfl⟩
  rw [← hw2] at hS0
  obtain ⟨mb, hmb⟩ : ∃ z, z = w.heap.size := ⟨_, rfl⟩
  rw [← hmb] at hs1 hS0
  replace hS0 := Lib.hid hS0
  replace hw1 := Lib.hid hw1
  replace hw2 := Lib.hid hw2
  replace hmb := Lib.hid hmb
  replace hs1 := Lib.hid hs1
  clear hF hB hB2 h
  rw [hmb.out.symm] at hnl
  have HO := Lib.hid (fun t => fieldT_m (x := x) (ws := ws) (t := t))
  have HN := Lib.hid (fieldT_mno (x := x) (ws := ws))
  have HB := Lib.hid (mq_le (ws := ws))
  unfold mq at HO HB
  have HC := Lib.hid (rnumber_any ws true 63 (by decide) hS0.out.r)
  generalize okR ws 63 true = q1 at *
  generalize refV (ws.headD []) 63 = v1 at *
  generalize ws.tail = ws1 at *
  obtain ⟨n1, r1⟩ := v1
  obtain ⟨i1, hi1⟩ : ∃ z, z = IntKind.i64.wrap (n1 : Int) := ⟨_, rfl⟩
  have hw1c : IntKind.i64.wrap (n1 : Int) = i1 := hi1.symm
  replace hi1 := Lib.hid hi1
  go_enter Tryz.func22, Tryz.ntmps22
  go_wp2_with (first | (refine wpList_blk_box rfl (.tmp 2) rfl rfl mb hmb.out.symm ?_; rw [← hw1.out]))
  rw [← hw2.out, hs1.out]
  refine HC.out.mono ?_
  rintro e a1 ⟨rfl, h3, k3⟩
  have hA1 := Lib.hid (hS0.out.kk k3 h3)
  clear HC h3 k3 hS0
  have f7 := hA1.out.bk.fz 7
  have c7 := hA1.out.bk.cell (i := 7) rfl
  obtain ⟨b1, hb1⟩ : ∃ z, z = a1.setCell ⟨mb, 7, none⟩ (.int .i64 i1) := ⟨_, rfl⟩
  have hB1 := Lib.hid (hA1.out.put (y' := { x with m := { x.m with frm := i1 } }) (hA1.out.bk.set 7 (.int .i64 i1)) ((Kp.refl _ _).setCell ⟨mb, 7, none⟩ rfl _) (by simp [World.setCell]) (by kernel_rfl) rfl rfl)
  rw [← hb1] at hB1
  replace hb1 := Lib.hid hb1
  clear hA1
  have HC := Lib.hid (rnumber_any ws1 q1 4294967295 (by decide) hB1.out.r)
  generalize okR ws1 4294967295 q1 = q2 at *
  generalize refV (ws1.headD []) 4294967295 = v2 at *
  generalize ws1.tail = ws2 at *
  obtain ⟨n2, r2⟩ := v2
  obtain ⟨s2, hs2⟩ : ∃ z, z = n2 % 4294967296 := ⟨_, rfl⟩
  have hw2c : IntKind.u32.wrap (n2 : Int) = (s2 : Int) := by rw [IntKind.wrap_u32]; omega
  replace hs2 := Lib.hid hs2
  go_wp2_with fail
  rw [← hb1.out]
  clear f7 c7 hb1
  refine HC.out.mono ?_
  rintro e a2 ⟨rfl, h3, k3⟩
  have hA2 := Lib.hid (hB1.out.kk k3 h3)
  clear HC h3 k3 hB1
  have f8 := hA2.out.bk.fz 8
  have c8 := hA2.out.bk.cell (i := 8) rfl
  obtain ⟨b2, hb2⟩ : ∃ z, z = a2.setCell ⟨mb, 8, none⟩ (.int .u32 (s2 : Int)) := ⟨_, rfl⟩
  have hB2 := Lib.hid (hA2.out.put (y' := { x with m := { x.m with frm := i1, seq := s2 } }) (hA2.out.bk.set 8 (.int .u32 (s2 : Int))) ((Kp.refl _ _).setCell ⟨mb, 8, none⟩ rfl _) (by simp [World.setCell]) (by kernel_rfl) rfl rfl)
  rw [← hb2] at hB2
  replace hb2 := Lib.hid hb2
  clear hA2
  have HC := Lib.hid (rnumber_any ws2 q2 18446744073709551615 (by decide) hB2.out.r)
  generalize okR ws2 18446744073709551615 q2 = q3 at *
  generalize refV (ws2.headD []) 18446744073709551615 = v3 at *
  generalize ws2.tail = ws3 at *
  obtain ⟨n3, r3⟩ := v3
  go_wp2_with fail
  rw [← hb2.out]
  clear f8 c8 hb2
  refine HC.out.mono ?_
  rintro e a3 ⟨rfl, h3, k3⟩
  have hA3 := Lib.hid (hB2.out.kk k3 h3)
  clear HC h3 k3 hB2
  have f9 := hA3.out.bk.fz 9
  have c9 := hA3.out.bk.cell (i := 9) rfl
  obtain ⟨b3, hb3⟩ : ∃ z, z = a3.setCell ⟨mb, 9, none⟩ (.int .u64 (n3 : Int)) := ⟨_, rfl⟩
  have hB3 := Lib.hid (hA3.out.put (y' := { x with m := { x.m with frm := i1, seq := s2, stamp := n3 } }) (hA3.out.bk.set 9 (.int .u64 (n3 : Int))) ((Kp.refl _ _).setCell ⟨mb, 9, none⟩ rfl _) (by simp [World.setCell]) (by kernel_rfl) rfl rfl)
  rw [← hb3] at hB3
  replace hb3 := Lib.hid hb3
  clear hA3
  have HC := Lib.hid (rnumber_any ws3 q3 63 (by decide) hB3.out.r)
  generalize okR ws3 63 q3 = q4 at *
  generalize refV (ws3.headD []) 63 = v4 at *
  generalize ws3.tail = ws4 at *
  obtain ⟨n4, r4⟩ := v4
  obtain ⟨i4, hi4⟩ : ∃ z, z = IntKind.i64.wrap (n4 : Int) := ⟨_, rfl⟩
  have hw4c : IntKind.i64.wrap (n4 : Int) = i4 := hi4.symm
  replace hi4 := Lib.hid hi4
  go_wp2_with fail
  rw [← hb3.out]
  clear f9 c9 hb3
  refine HC.out.mono ?_
  rintro e a4 ⟨rfl, h3, k3⟩
  have hA4 := Lib.hid (hB3.out.kk k3 h3)
  clear HC h3 k3 hB3
  have f10 := hA4.out.bk.fz 10
  have c10 := hA4.out.bk.cell (i := 10) rfl
  obtain ⟨b4, hb4⟩ : ∃ z, z = a4.setCell ⟨mb, 10, none⟩ (.int .i64 i4) := ⟨_, rfl⟩
  have hB4 := Lib.hid (hA4.out.put (y' := { x with m := { x.m with frm := i1, seq := s2, stamp := n3, svc := i4 } }) (hA4.out.bk.set 10 (.int .i64 i4)) ((Kp.refl _ _).setCell ⟨mb, 10, none⟩ rfl _) (by simp [World.setCell]) (by kernel_rfl) rfl rfl)
  rw [← hb4] at hB4
  replace hb4 := Lib.hid hb4
  clear hA4
  have HC := Lib.hid (rnext_any ws4 q4 hB4.out.r)
  have hhd := hB4.out.r.hd
  have hq54 : Hid (okN ws4 q4 = true → q4 = true) := Lib.hid (fun h => by unfold okN at h; rw [Bool.and_eq_true] at h; exact h.1)
  generalize okN ws4 q4 = q5 at *
  generalize ws4.headD [] = u at *
  generalize ws4.tail = ws5 at *
  go_wp2_with fail
  rw [← hb4.out]
  clear f10 c10 hb4
  refine HC.out.mono ?_
  rintro e w5 ⟨rfl, h3, k3⟩
  have hS5 := Lib.hid (hB4.out.kk k3 h3)
  have hsz := mkB_size u
  have hSl := mkB_toList u
  have hi0 := Lib.hid (fun (i : Nat) (c : UInt8) (h : u[i]? = some c) (W : World) => idx_mkB u i c h .i64 W)
  obtain ⟨Z, hZ⟩ : ∃ z, z = mkB u := ⟨_, rfl⟩
  rw [← hZ] at hsz hi0 hSl ⊢
  replace hZ := Lib.hid hZ
  clear hw1c hw2c hw4c
  cases u with
  | nil =>
    clear hi0 hsz
    have hSe : Z.toList.isEmpty = true := by rw [hSl]; rfl
    replace hhd := Lib.hid hhd
    have hS6 := Lib.hid (hS5.out.flag false)
    obtain ⟨d1, f1, -⟩ := hS5.out.r.cells
    obtain ⟨w6, hw6⟩ : ∃ z, z = w5.setCell ⟨b, 1, none⟩ (.bool false) := ⟨_, rfl⟩
    rw [← hw6] at hS6
    replace hw6 := Lib.hid hw6
    have hno := Lib.hid (HN.out (fun t e => by cases e))
    clear hS5 HO HN HB
    go_upto_region 16 with (fail)
    rw [← hw6.out]
    obtain ⟨cs, hcs⟩ : ∃ z, z = evC { x with m := { x.m with frm := i1, seq := s2, stamp := n3, svc := i4 } } none 0 0 na nn nc := ⟨_, rfl⟩; have hbk7 := hS6.out.bk; have hm7 := hS6.out.m; have hIE : (Tryz.prog.info? 34).map (·.size) = some (evC { x with m := { x.m with frm := i1, seq := s2, stamp := n3, svc := i4 } } none 0 0 na nn nc).size := Tryz.evI; have h1c : cs.all (·.oneCell') = true := (by rw [hcs]; exact evC_one _ _ _ _ _ _ _); have h19 : 0 + cs.size ≤ 19 := (by rw [hcs, evC_size]; decide); have hset : setArr #[.int .i64 0, .int .i64 0, .int .u64 0, .int .i64 0, .int .u64 0, .int .i64 0, .int .u64 0, .int .i64 0, .int .u32 0, .int .u64 0, .int .i64 0, .slice none 0 0, .string ⟨#[]⟩, .int .u64 0, .int .u64 0, .int .i64 0, .int .u64 0, .slice none 0 0, .string ⟨#[]⟩] 0 cs.toList = evC { x with m := { x.m with frm := i1, seq := s2, stamp := n3, svc := i4 } } none 0 0 na nn nc := (by rw [hcs]; exact evC_set _ _ _ _ _ _ _); rw [← hcs] at hbk7 hIE; replace hcs := Lib.hid hcs
    go_wp2_with (first
      | (refine wpList_blk_load rfl (.tmp 5) rfl Tryz.underlying34 rfl rfl hbk7 hIE ?_)
      | (refine wpList_blk_put (cs := cs) rfl (.tmp 6) (.tmp 64) rfl rfl rfl hm7 hIE h19 h1c ?_; intro w9 hM9 hK9 hs9))
    rw [hset, ← hcs.out] at hM9
    refine bodyPost_ret (results_cell_row rfl _ _ (mb + 1) 34 _ (0, 0) _ rfl hM9 Tryz.underlying34 rfl hIE) rfl ?_
    exact PFe.no (f := .m) (hS6.out.done hK9 hs9) hno.out hcs.out (fun h => absurd rfl h) (fun _ _ => ⟨rfl, rfl, rfl⟩)
  | cons x0 t =>
    have hI0 : ∀ W : World, (Instr.index 9 (.string Z) (.int .i64 0)).run Tryz.prog W = .ok (.int .u8 (x0.toNat : Int)) W := hi0.out 0 x0 rfl
    have hSe : Z.toList.isEmpty = false := by rw [hSl]; rfl
    have hSn : ¬ Z.toList = [] := by rw [hSl]; exact fun e => by cases e
    have hSn2 : (Z.toList == []) = false := by rw [beq_eq_false_iff_ne]; exact hSn
    rw [List.length_cons] at hsz hhd
    clear hi0
    by_cases hx : x0 = 100
    case neg =>
      have hxI : ¬ (x0.toNat : Int) = 100 := fun e => hx (UInt8.toNat_inj.1 (show x0.toNat = 100 from by omega))
      clear hSl hsz
      replace hhd := Lib.hid hhd
      have hS6 := Lib.hid (hS5.out.flag false)
      obtain ⟨d1, f1, -⟩ := hS5.out.r.cells
      obtain ⟨w6, hw6⟩ : ∃ z, z = w5.setCell ⟨b, 1, none⟩ (.bool false) := ⟨_, rfl⟩
      rw [← hw6] at hS6
      replace hw6 := Lib.hid hw6
      have hno := Lib.hid (HN.out (fun t e => hx (by injection e)))
      clear hS5 HO HN HB
      go_upto_region 16 with (fail)
      rw [← hw6.out]
      obtain ⟨cs, hcs⟩ : ∃ z, z = evC { x with m := { x.m with frm := i1, seq := s2, stamp := n3, svc := i4 } } none 0 0 na nn nc := ⟨_, rfl⟩; have hbk7 := hS6.out.bk; have hm7 := hS6.out.m; have hIE : (Tryz.prog.info? 34).map (·.size) = some (evC { x with m := { x.m with frm := i1, seq := s2, stamp := n3, svc := i4 } } none 0 0 na nn nc).size := Tryz.evI; have h1c : cs.all (·.oneCell') = true := (by rw [hcs]; exact evC_one _ _ _ _ _ _ _); have h19 : 0 + cs.size ≤ 19 := (by rw [hcs, evC_size]; decide); have hset : setArr #[.int .i64 0, .int .i64 0, .int .u64 0, .int .i64 0, .int .u64 0, .int .i64 0, .int .u64 0, .int .i64 0, .int .u32 0, .int .u64 0, .int .i64 0, .slice none 0 0, .string ⟨#[]⟩, .int .u64 0, .int .u64 0, .int .i64 0, .int .u64 0, .slice none 0 0, .string ⟨#[]⟩] 0 cs.toList = evC { x with m := { x.m with frm := i1, seq := s2, stamp := n3, svc := i4 } } none 0 0 na nn nc := (by rw [hcs]; exact evC_set _ _ _ _ _ _ _); rw [← hcs] at hbk7 hIE; replace hcs := Lib.hid hcs
      go_wp2_with (first
        | (refine wpList_blk_load rfl (.tmp 5) rfl Tryz.underlying34 rfl rfl hbk7 hIE ?_)
        | (refine wpList_blk_put (cs := cs) rfl (.tmp 6) (.tmp 64) rfl rfl rfl hm7 hIE h19 h1c ?_; intro w9 hM9 hK9 hs9))
      rw [hset, ← hcs.out] at hM9
      refine bodyPost_ret (results_cell_row rfl _ _ (mb + 1) 34 _ (0, 0) _ rfl hM9 Tryz.underlying34 rfl hIE) rfl ?_
      exact PFe.no (f := .m) (hS6.out.done hK9 hs9) hno.out hcs.out (fun h => absurd rfl h) (fun _ _ => ⟨rfl, rfl, rfl⟩)
    case pos =>
      have hxI : (x0.toNat : Int) = 100 := by rw [hx]; rfl
      subst hx
      have hex : Z.extract 1 (t.length + 1) = mkB t := by rw [hZ.out]; exact mkB_tail _ _
      have hdq : Hid ((Z.toList == [100]) = decide (t = [])) := Lib.hid (by rw [hSl]; cases t <;> rfl)
      have HP := Lib.hid (rpieces_any t 44 (by omega) w5)
      have ho := Lib.hid (HO.out t rfl)
      clear HO HN hSl
      go_wp2_with fail
      refine HP.out.mono ?_
      rintro e w6 ⟨g, cap, rfl, hoL, hb6⟩
      have hS6 := Lib.hid (hS5.out.kk (Kp.ofBelow hb6) (hS5.out.r.below hb6))
      obtain ⟨ga, gc, hge, hrL⟩ := Rd.own hoL
      injection hge with e1 e2 e3
      subst e1 e3
      have hg1 := (hoL.lt g rfl)
      have hmz := hS5.out.m.lt
      have hLs := pcs_small 44 t
      have hLn := pcs_le 44 t
      obtain ⟨D, hD⟩ : ∃ z, z = dL t := ⟨_, rfl⟩
      have hDl : D.length ≤ (pcs 44 t).length := by rw [hD]; unfold dL; split <;> simp
      have hDe : ∀ i (h : i < D.length), ∃ h2, (pcs 44 t)[i]'h2 = D[i] := fun i h => ⟨by omega, by subst hD; unfold dL at h ⊢; split at h <;> simp_all⟩
      have hDt : Hid (t ≠ [] → D.length = (pcs 44 t).length) := Lib.hid (fun h => by rw [hD]; unfold dL; rw [if_neg h])
      have hD0 : Hid (t = [] → D.length = 0 ∧ 0 < (pcs 44 t).length) := Lib.hid (fun h => by subst h; rw [hD]; exact ⟨rfl, by decide⟩)
      rw [← hD] at ho
      generalize pcs 44 t = L at *
      obtain ⟨N, hN⟩ : ∃ z, z = L.length := ⟨_, rfl⟩
      rw [← hN] at hrL hDl hDt hD0 hLn ⊢
      have hn32 : N ≤ 4294967296 := by omega
      have hdd6 : Hid (FdS w w6 mb b B { x with m := ⟨i1, s2, n3, i4, [], x.m.pay⟩ } none 0 0 na nn nc ws5 q5) := Lib.hid (by have := hS6.out; rw [hdd] at this; exact this)
      obtain ⟨o1, o2, -, -⟩ := hS5.out.ord
      have hg2 : mb + 1 < g := by omega
      have hg3 := hg1.2
      have hb56 : mb + 2 ≤ w6.heap.size := by have := hb6.size; omega
      have htl : Hid (t.length ≤ 4294967296) := Lib.hid (by omega)
      replace hD := Lib.hid hD
      replace hN := Lib.hid hN
      replace hLs := Lib.hid hLs
      replace hDe := Lib.hid hDe
      replace hrL := Lib.hid hrL
      replace o2 := Lib.hid o2
      replace hDl := Lib.hid hDl
      clear HP hoL hb6 hS6 hex hI0 hSe hSn hSn2 hS5 hdd hsz hhd hg1 hmz hLn hxI
      go_wp2
      go_loopw [9, 10, 11] (fun iv _ _ wr => ∃ (i : Nat) (da : Option Addr) (dc : Nat) (acc : List Nat) (q : Bool), i ≤ D.length ∧ iv = .int .i64 i ∧ Hid (acc = (D.take i).map dv) ∧ Hid (q = (q5 && (D.take i).all vk)) ∧ Hid (FdS w wr mb b B { x with m := ⟨i1, s2, n3, i4, acc, x.m.pay⟩ } da i dc na nn nc ws5 q) ∧ Hid (wr.ownsRow w6.heap.size 26 1 (.slice da i dc) i (c32 acc)) ∧ Hid (Rd wr 1 (some ⟨g, 0, none⟩) N cap (L.map sv)) ∧ Hid (w6.heap.size ≤ wr.heap.size)) (fun iv _ _ _ => N + 1 - (RowKit.intOf iv).toNat)
      case atStart => exact ⟨0, none, 0, [], q5, Nat.zero_le _, rfl, Lib.hid (by simp), Lib.hid (by simp), hdd6, Lib.hid (World.ownsRow_nil _ _ _ _), hrL, Lib.hid (Nat.le_refl _)⟩
      case round =>
        obtain ⟨i, da, dc, acc, q, hiD, rfl, hac, hq, hS, hown, hL, hsz⟩ := hrel
        obtain ⟨w7, rfl⟩ : ∃ z, z = wr := ⟨_, rfl⟩
        clear hdd6 hrL
        by_cases hin : i < D.length
        case pos =>
          have hiN : i < N := Nat.lt_of_lt_of_le hin hDl.out
          have hiI : (i : Int) < N := by omega
          obtain ⟨hiL, hLD⟩ := hDe.out i hin
          have c1 : w7.cell? ⟨g, i, none⟩ = some (.string (mkB D[i])) := by
            have := hL.out.at (j := i) (u := sv D[i]) (by rw [List.getElem?_map, List.getElem?_eq_getElem hiL, hLD]; rfl)
            simpa [sv] using this
          have hpl := hLs.out L[i] (List.getElem_mem hiL)
          rw [hLD] at hpl
          have hSl : (Z.toList == [100]) = false := by
            rw [hdq.out, decide_eq_false_iff_not]
            intro e
            have := (hD0.out e).1
            omega
          have htk : Hid (D.take (i + 1) = D.take i ++ [D[i]]) := Lib.hid (by rw [List.take_add_one, List.getElem?_eq_getElem hin]; rfl)
          have hac2 : Hid (acc ++ [dv D[i]] = (D.take (i + 1)).map dv) := Lib.hid (by rw [htk.out, List.map_append, ← hac.out]; rfl)
          have hq2 : Hid ((q && vk D[i]) = (q5 && (D.take (i + 1)).all vk)) := Lib.hid (by rw [htk.out, List.all_append, hq.out, ← Bool.and_assoc]; simp)
          have hvk : vk D[i] = (refV D[i] 4294967295).2 := rfl
          have hdv : dv D[i] = (refV D[i] 4294967295).1 % 4294967296 := rfl
          rw [hvk] at hq2
          rw [hdv] at hac2
          clear hvk hdv htk hac hq hLD hiL
          generalize D[i] = p at *
          have HV := Lib.hid (rvalue_any p 4294967295 (by decide) (by have := htl.out; omega) w7)
          generalize refV p 4294967295 = vr at *
          obtain ⟨v, r⟩ := vr
          obtain ⟨d, hd⟩ : ∃ z, z = v % 4294967296 := ⟨_, rfl⟩
          have hwd : IntKind.u32.wrap (v : Int) = (d : Int) := by rw [IntKind.wrap_u32]; omega
          have hac3 : Hid (acc ++ [d] = (D.take (i + 1)).map dv) := Lib.hid (by rw [hd]; exact hac2.out)
          have hi32 : i ≤ 4294967296 := by omega
          replace hd := Lib.hid hd
          replace hpl := Lib.hid hpl
          clear hac2
          go_wp2_with fail
          refine HV.out.mono ?_
          rintro e w8 ⟨rfl, hb8⟩
          have hS8 := Lib.hid (hS.out.kk (Kp.ofBelow hb8) (hS.out.r.below hb8))
          have ho8 := Lib.hid (own_belowB hown.out hb8)
          have hL8 := Lib.hid (hL.out.below hb8 (Nat.le_refl _))
          have hz8 := Lib.hid (Nat.le_trans hsz.out hb8.size)
          obtain ⟨d1, f1, -⟩ := hS8.out.r.cells
          clear HV hb8 hS hown hL hsz c1
          have hkf := Lib.hid (fun r => (Kp.refl b w8).setCell ⟨b, 1, none⟩ rfl (.bool r))
          obtain ⟨qr, hqr⟩ : ∃ z, z = (q && r) := ⟨_, rfl⟩
          obtain ⟨w9, hw9⟩ : ∃ z, z = w8.setCell ⟨b, 1, none⟩ (.bool qr) := ⟨_, rfl⟩
          have hk9 := hkf.out qr
          have hS9 := hS8.out.flag qr
          rw [← hw9] at hk9 hS9
          have ho9 := own_keep ho8.out (fun g hg hlt => hk9.block g hlt (by have := (ho8.out.lt g hg).1; omega))
          have hL9 := Lib.hid (hk9.rd hL8.out (fun g' off e => by cases e; omega))
          have hz9 := Lib.hid (Nat.le_trans hz8.out hk9.size)
          have hbA := alloc_below w9 (.cells #[.int .u32 (d : Int)] 26)
          have hS10 := Lib.hid (hS9.kk (Kp.ofBelow hbA) (hS9.r.below hbA))
          have ho10 := own_belowB ho9 hbA
          have hr10 : Rd (w9.alloc (.cells #[.int .u32 (d : Int)] 26)) 1 (some ⟨w9.heap.size, 0, none⟩) 1 1 (c32 [d]) := Rd.lit rfl rfl (by decide)
          have hL10 := Lib.hid (hL9.out.below hbA (Nat.le_refl _))
          have hz10 := Nat.le_trans hz9.out hbA.size
          have c11 : w9.cell? ⟨mb, 11, none⟩ = some (.slice da i dc) := hS9.bk.cell rfl
          have hq3 : Hid (qr = (q5 && (D.take (i + 1)).all vk)) := Lib.hid (hqr.trans hq2.out)
          replace hw9 := Lib.hid hw9
          clear hkf hk9 hS9 ho9 hL9 hz9 hS8 ho8 hL8 hz8 hbA hq2
          have hstep : qr = (q && r) := hqr
          clear hqr
          cases q <;> (
            obtain rfl := hstep
            go_upto_region 23 with (fail)
            first | rw [← hw9.out] | (have e9 := hw9.out; simp only [Bool.true_and, Bool.false_and] at e9; rw [← e9]; clear e9)
            clear d1 f1
            go_wp2_with (first | (refine wpList_append_apart Tryz.u32E rfl (.tmp 98) (.tmp 101) rfl ho10 rfl hr10 (by decide) rfl (by intro u hu; obtain rfl := List.mem_singleton.1 hu; rfl) (by unfold maxLen; omega) (by omega) hz10 ?_; intro v' w11 ho11 hg11 hv11; obtain ⟨pa, pc, rfl, -⟩ := Rd.own ho11; have hap := Lib.hid (FdS.appD hS10.out ho10 hg11 ho11 hb56 hz10 hnl.out); have hB11 : Below w6.heap.size _ w11 := (Below.refl w6.heap.size _).grown hg11 hz10 (fun k hk => (ho10.lt k hk).1); have hbk11 := hS10.out.bk.below hB11 (by omega); have c12 : w11.cell? ⟨mb, 11, none⟩ = some (.slice da i dc) := hbk11.cell rfl; have f12 := hbk11.fz 11; have hL12 := Lib.hid ((Kp.refl mb w11).setCell ⟨mb, 11, none⟩ rfl (.slice pa (i + 1) pc) |>.rd (Rd.keepB hL10.out hB11.size (fun _ g' off e => hB11.block g' (by cases e; omega))) (fun g' off e => by cases e; omega)); have hz12 : Hid (w6.heap.size ≤ (w11.setCell ⟨mb, 11, none⟩ (.slice pa (i + 1) pc)).heap.size) := Lib.hid (by have := hB11.size; simp [World.setCell]; omega); clear ho10 hr10 ho11 hg11 hv11 hB11 hbk11 hS10 hL10 hz10))
            go_roundw
            case rel => exact ⟨i + 1, pa, pc, acc ++ [d], _, by omega, by go_num, hac3, hq3, Lib.hid hap.out.1, Lib.hid hap.out.2, hL12, hz12⟩
            case measure => simp [RowKit.intOf]; omega)
        case neg =>
          have hiE : i = D.length := by omega
          have hqD : Hid (q = (q5 && D.all vk)) := Lib.hid (by rw [hq.out, List.take_of_length_le (by omega)])
          have hfin : Hid (q = true → ∀ v, ({ x with m := ⟨i1, s2, n3, i4, acc, v⟩ } : TEv) = { x with m := ⟨(n1 : Nat), n2, n3, (n4 : Nat), D.map vv, v⟩ }) := Lib.hid (fun h v => by
            rw [hqD.out, Bool.and_eq_true] at h
            obtain ⟨m1, m2, m4⟩ := HB.out (hq54.out h.1)
            rw [hi1.out, hs2.out, hi4.out, hac.out, List.take_of_length_le (by omega), dv_map h.2, wr63 m1, wr63 m4, Nat.mod_eq_of_lt (by have : n2 ≤ 4294967295 := m2; omega)])
          clear hac hq hown hL hsz HB
          by_cases ht : t = []
          case pos =>
            have hiI : (i : Int) < N := by have := hD0.out ht; omega
            have hSl : Z.toList = [100] := by have := hdq.out; rw [decide_eq_true ht] at this; exact eq_of_beq this
            have hSb : (Z.toList == [100]) = true := by rw [hSl]; rfl
            clear hiE hin
            have HC := Lib.hid (rtbytes_any ws5 q hS.out.r)
            have hqn : Hid ((okN ws5 q && (bytR (ws5.headD [])).2) = true → q = true) := Lib.hid (fun h => by unfold okN at h; simp only [Bool.and_eq_true] at h; exact h.1.1)
            have ho2 : Hid (fieldT .m x ws = if (okN ws5 q && (bytR (ws5.headD [])).2) = true then some ({ x with m := ⟨(n1 : Nat), n2, n3, (n4 : Nat), D.map vv, (bytR (ws5.headD [])).1⟩ }, ws5.tail) else none) := Lib.hid (by rw [hqD.out]; exact ho.out)
            generalize (okN ws5 q && (bytR (ws5.headD [])).2) = q9 at *
            generalize bytR (ws5.headD []) = bv at *
            generalize ws5.tail = ws6 at *
            obtain ⟨v, vb⟩ := bv
            go_wp2_with fail
            refine HC.out.mono ?_
            rintro e w8 ⟨rfl, h8, k8⟩
            have hS8 := Lib.hid (hS.out.kk k8 h8)
            clear HC h8 k8 hS
            have f12 := hS8.out.bk.fz 12
            have c12 := hS8.out.bk.cell (i := 12) rfl
            obtain ⟨w10, hw10⟩ : ∃ z, z = w8.setCell ⟨mb, 12, none⟩ (.string (mkB v)) := ⟨_, rfl⟩
            have hS10 := Lib.hid (hS8.out.put (y' := { x with m := ⟨i1, s2, n3, i4, acc, v⟩ }) (hS8.out.bk.set 12 (.string (mkB v))) ((Kp.refl _ _).setCell ⟨mb, 12, none⟩ rfl _) (by simp [World.setCell]) (by kernel_rfl) rfl rfl)
            rw [← hw10] at hS10
            replace hw10 := Lib.hid hw10
            clear hS8
            go_upto_region 38 with (fail)
            rw [← hw10.out]
            clear f12 c12
            obtain ⟨cs, hcs⟩ : ∃ z, z = evC { x with m := ⟨i1, s2, n3, i4, acc, v⟩ } da i dc na nn nc := ⟨_, rfl⟩; have hbk7 := hS10.out.bk; have hm7 := hS10.out.m; have hIE : (Tryz.prog.info? 34).map (·.size) = some (evC { x with m := ⟨i1, s2, n3, i4, acc, v⟩ } da i dc na nn nc).size := Tryz.evI; have h1c : cs.all (·.oneCell') = true := (by rw [hcs]; exact evC_one _ _ _ _ _ _ _); have h19 : 0 + cs.size ≤ 19 := (by rw [hcs, evC_size]; decide); have hset : setArr #[.int .i64 0, .int .i64 0, .int .u64 0, .int .i64 0, .int .u64 0, .int .i64 0, .int .u64 0, .int .i64 0, .int .u32 0, .int .u64 0, .int .i64 0, .slice none 0 0, .string ⟨#[]⟩, .int .u64 0, .int .u64 0, .int .i64 0, .int .u64 0, .slice none 0 0, .string ⟨#[]⟩] 0 cs.toList = evC { x with m := ⟨i1, s2, n3, i4, acc, v⟩ } da i dc na nn nc := (by rw [hcs]; exact evC_set _ _ _ _ _ _ _); rw [← hcs] at hbk7 hIE; replace hcs := Lib.hid hcs
            go_wp2_with (first
              | (refine wpList_blk_load rfl (.tmp 5) rfl Tryz.underlying34 rfl rfl hbk7 hIE ?_)
              | (refine wpList_blk_put (cs := cs) rfl (.tmp 6) (.tmp 172) rfl rfl rfl hm7 hIE h19 h1c ?_; intro w9 hM9 hK9 hs9))
            rw [hset, ← hcs.out] at hM9
            refine bodyPost_ret (results_cell_row rfl _ _ (mb + 1) 34 _ (0, 0) _ rfl hM9 Tryz.underlying34 rfl hIE) rfl ?_
            exact PFe.yes (f := .m) (hS10.out.done hK9 hs9) ho2.out (fun h => hfin.out (hqn.out h) v) hcs.out (fun h => absurd rfl h) (fun _ _ => ⟨rfl, rfl, rfl⟩)
          case neg =>
            have hiI : ¬ (i : Int) < N := by have := hDt.out ht; omega
            clear hiE hin
            have HC := Lib.hid (rtbytes_any ws5 q hS.out.r)
            have hqn : Hid ((okN ws5 q && (bytR (ws5.headD [])).2) = true → q = true) := Lib.hid (fun h => by unfold okN at h; simp only [Bool.and_eq_true] at h; exact h.1.1)
            have ho2 : Hid (fieldT .m x ws = if (okN ws5 q && (bytR (ws5.headD [])).2) = true then some ({ x with m := ⟨(n1 : Nat), n2, n3, (n4 : Nat), D.map vv, (bytR (ws5.headD [])).1⟩ }, ws5.tail) else none) := Lib.hid (by rw [hqD.out]; exact ho.out)
            generalize (okN ws5 q && (bytR (ws5.headD [])).2) = q9 at *
            generalize bytR (ws5.headD []) = bv at *
            generalize ws5.tail = ws6 at *
            obtain ⟨v, vb⟩ := bv
            go_wp2_with fail
            refine HC.out.mono ?_
            rintro e w8 ⟨rfl, h8, k8⟩
            have hS8 := Lib.hid (hS.out.kk k8 h8)
            clear HC h8 k8 hS
            have f12 := hS8.out.bk.fz 12
            have c12 := hS8.out.bk.cell (i := 12) rfl
            obtain ⟨w10, hw10⟩ : ∃ z, z = w8.setCell ⟨mb, 12, none⟩ (.string (mkB v)) := ⟨_, rfl⟩
            have hS10 := Lib.hid (hS8.out.put (y' := { x with m := ⟨i1, s2, n3, i4, acc, v⟩ }) (hS8.out.bk.set 12 (.string (mkB v))) ((Kp.refl _ _).setCell ⟨mb, 12, none⟩ rfl _) (by simp [World.setCell]) (by kernel_rfl) rfl rfl)
            rw [← hw10] at hS10
            replace hw10 := Lib.hid hw10
            clear hS8
            go_upto_region 38 with (fail)
            rw [← hw10.out]
            clear f12 c12
            obtain ⟨cs, hcs⟩ : ∃ z, z = evC { x with m := ⟨i1, s2, n3, i4, acc, v⟩ } da i dc na nn nc := ⟨_, rfl⟩; have hbk7 := hS10.out.bk; have hm7 := hS10.out.m; have hIE : (Tryz.prog.info? 34).map (·.size) = some (evC { x with m := ⟨i1, s2, n3, i4, acc, v⟩ } da i dc na nn nc).size := Tryz.evI; have h1c : cs.all (·.oneCell') = true := (by rw [hcs]; exact evC_one _ _ _ _ _ _ _); have h19 : 0 + cs.size ≤ 19 := (by rw [hcs, evC_size]; decide); have hset : setArr #[.int .i64 0, .int .i64 0, .int .u64 0, .int .i64 0, .int .u64 0, .int .i64 0, .int .u64 0, .int .i64 0, .int .u32 0, .int .u64 0, .int .i64 0, .slice none 0 0, .string ⟨#[]⟩, .int .u64 0, .int .u64 0, .int .i64 0, .int .u64 0, .slice none 0 0, .string ⟨#[]⟩] 0 cs.toList = evC { x with m := ⟨i1, s2, n3, i4, acc, v⟩ } da i dc na nn nc := (by rw [hcs]; exact evC_set _ _ _ _ _ _ _); rw [← hcs] at hbk7 hIE; replace hcs := Lib.hid hcs
            go_wp2_with (first
              | (refine wpList_blk_load rfl (.tmp 5) rfl Tryz.underlying34 rfl rfl hbk7 hIE ?_)
              | (refine wpList_blk_put (cs := cs) rfl (.tmp 6) (.tmp 172) rfl rfl rfl hm7 hIE h19 h1c ?_; intro w9 hM9 hK9 hs9))
            rw [hset, ← hcs.out] at hM9
            refine bodyPost_ret (results_cell_row rfl _ _ (mb + 1) 34 _ (0, 0) _ rfl hM9 Tryz.underlying34 rfl hIE) rfl ?_
            exact PFe.yes (f := .m) (hS10.out.done hK9 hs9) ho2.out (fun h => hfin.out (hqn.out h) v) hcs.out (fun h => absurd rfl h) (fun _ _ => ⟨rfl, rfl, rfl⟩)
end
end Go.Proofs.YtpkknhhohbobaaaGreatDoor
