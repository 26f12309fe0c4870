/- gather: contracts by what an attempt says; awake -/
import Derived.Test.YtlgabjffnjciaaaDoorGatF
namespace Go.Proofs.YtlgabjffnjciaaaDoor
set_option linter.unusedSimpArgs false
set_option linter.unusedVariables false
open Go.RowKit Go.Sort
/-- An attempt, and what it says. -/
def Gat (w : World) (b mb : Nat) (v : AtV) : Prop := ∃ s, GatAt w b mb s ∧ s.val = v
section
variable {w w' : World} {b mb : Nat} {v : AtV}
theorem Gat.below (h : Gat w b mb v) (hb : Below w.heap.size w w') : Gat w' b mb v := by
  obtain ⟨s, h1, h2⟩ := h
  exact ⟨s, h1.below hb, h2⟩
theorem Gat.mem (h : Gat w b mb v) : v.mem < 18446744073709551616 := by
  obtain ⟨s, h1, rfl⟩ := h
  exact h1.ok.mem
theorem Gat.rdy (h : Gat w b mb v) : v.rdy < 18446744073709551616 := by
  obtain ⟨s, h1, rfl⟩ := h
  exact h1.ok.rdy
theorem Gat.lt (h : Gat w b mb v) : b < w.heap.size ∧ mb < w.heap.size := by
  obtain ⟨s, h1, rfl⟩ := h
  exact ⟨h1.blk.lt, h1.map.lt⟩
theorem g_new (ep rp : Int) (mem : Nat) (hm : mem < 18446744073709551616) (w : World) :
    Calls Tryd.prog 11 #[.agg #[.int .u64 ep, .int .i64 rp], .int .u64 mem] w fun e w' => ∃ b mb, e = .returned (.pointer (some ⟨b, 0, none⟩)) ∧ Gat w' b mb ⟨ep, rp, mem, 0, []⟩ ∧ w.heap.size ≤ b ∧ w.heap.size ≤ mb ∧ Below w.heap.size w w' :=
  (gnew_any ep rp mem hm w).mono fun _ _ ⟨b, mb, h1, h2, h3⟩ => ⟨b, mb, h1, ⟨_, h2, rfl⟩, h3⟩
theorem g_told (t : Bool) (ht : t = toldV v) (h : Gat w b mb v) : Calls Tryd.prog 16 #[.pointer (some ⟨b, 0, none⟩)] w fun e w' => e = .returned (.bool t) ∧ Below w.heap.size w w' := by
  obtain ⟨s, h1, rfl⟩ := h
  exact told_any s b mb t (by rw [ht, toldB_val]) w h1
theorem g_done (t : Bool) (ht : t = doneV v) (h : Gat w b mb v) : Calls Tryd.prog 20 #[.pointer (some ⟨b, 0, none⟩)] w fun e w' => e = .returned (.bool t) ∧ Below w.heap.size w w' := by
  obtain ⟨s, h1, rfl⟩ := h
  exact done_any s b mb t (by rw [ht, doneB_val]) w h1
theorem g_members (h : Gat w b mb v) : Calls Tryd.prog 32 #[.pointer (some ⟨b, 0, none⟩)] w fun e w' => e = .returned (.int .u64 v.mem) ∧ w = w' := by
  obtain ⟨s, h1, rfl⟩ := h
  exact members_any s b mb w h1
theorem g_id (h : Gat w b mb v) : Calls Tryd.prog 31 #[.pointer (some ⟨b, 0, none⟩)] w fun e w' => e = .returned (.agg #[.int .u64 v.ep, .int .i64 v.rp]) ∧ Below w.heap.size w w' := by
  obtain ⟨s, h1, rfl⟩ := h
  exact id_any s b mb w h1
theorem g_waits (h : Gat w b mb v) : Calls Tryd.prog 28 #[.pointer (some ⟨b, 0, none⟩)] w fun e w' => e = .returned (.int .u64 (waitsV v : Nat)) ∧ Below w.heap.size w w' := by
  obtain ⟨s, h1, rfl⟩ := h
  exact waits_any s b mb w h1
theorem g_ready (p : Int) (t : Bool) (ht : t = (rdyC v p && doneV (rdyV v p))) (h : Gat w b mb v) : Calls Tryd.prog 18 #[.pointer (some ⟨b, 0, none⟩), .int .i64 p] w fun e w' => e = .returned (.bool t) ∧ Gat w' b mb (rdyV v p) ∧ KpO (Own2 b mb) w w' := by
  obtain ⟨s, h1, rfl⟩ := h
  refine (ready_any s b mb p t (by rw [ht, rdyS_val, doneB_val, rdyN_val]) w h1).mono fun e w' ⟨h2, h3, h4⟩ => ⟨h2, ⟨_, h3, rdyN_val s p⟩, h4⟩
theorem g_add (x : Xc) (t : Bool) (ht : t = (addC v x.v.who && toldV (addV v x.v))) (h : Gat w b mb v) (hx : RdU w x.pa x.pn x.pc x.v.cnt) (hn : x.pn * 4 ≤ 140737488355328) : Calls Tryd.prog 19 #[.pointer (some ⟨b, 0, none⟩), .agg (xcA x)] w fun e w' => e = .returned (.bool t) ∧ Gat w' b mb (addV v x.v) ∧ KpO (Own2 b mb) w w' := by
  obtain ⟨s, h1, rfl⟩ := h
  exact (add_any s b mb x t ht w h1 hx hn).mono fun e w' ⟨h2, ⟨s', h3, h4, _⟩, h5⟩ => ⟨h2, ⟨s', h3, h4⟩, h5⟩
theorem g_exs (hT : Tab w) (h : Gat w b mb v) : Calls Tryd.prog 22 #[.pointer (some ⟨b, 0, none⟩)] w fun e w' => ∃ (a : Option Addr) (n c : Nat) (xs : List Xc), e = .returned (.slice a n c) ∧ ExRow w.heap.size w' (.slice a n c) n xs ∧ vX xs = exsV v ∧ n ≤ 64 ∧ Below w.heap.size w w' := by
  obtain ⟨s, h1, rfl⟩ := h
  exact exs_any s b mb w hT h1
theorem g_fails (nb : Nat) (reach : Nat) (L : List (Int × Int × Int)) (t : Bool) (ht : t = failsV v.mem v.ep v.rp reach L) (h : Gat w b mb v) (hn : MapAt w nb (cfM L)) :
    Calls Tryd.prog 14 #[.pointer (some ⟨b, 0, none⟩), .int .u64 reach, .map (some nb)] w fun e w' => e = .returned (.bool t) ∧ Below w.heap.size w w' := by
  obtain ⟨s, h1, rfl⟩ := h
  exact fails_any s b mb nb reach L t ht w h1 hn
theorem g_failsn (reach : Nat) (t : Bool) (ht : t = decide (reach ≠ v.mem)) (h : Gat w b mb v) :
    Calls Tryd.prog 14 #[.pointer (some ⟨b, 0, none⟩), .int .u64 reach, .map none] w fun e w' => e = .returned (.bool t) ∧ Below w.heap.size w w' := by
  obtain ⟨s, h1, rfl⟩ := h
  exact fails_nil s b mb reach t ht w h1
end
def v0 : AtV := ⟨3, 0, 3, 0, []⟩
def xz (p : Int) : Xv := ⟨p, 0, 0, [], 0, 0⟩
def v2 : AtV := ⟨3, 0, 3, 0, [xz 0, xz 1]⟩
def v3 : AtV := ⟨3, 0, 3, 2, [xz 0, xz 1]⟩
def v4 : AtV := ⟨3, 0, 3, 3, [xz 0, xz 1]⟩
def v1 : AtV := ⟨3, 0, 3, 0, [xz 0]⟩
theorem w_rdyC0 : rdyC v0 0 = false := by decide +kernel
theorem w_rdyV0 : rdyV v0 0 = v0 := by rw [rdyV, w_rdyC0]; rfl
theorem w_addC0 : addC v0 (xz 0).who = true := by decide +kernel
theorem w_addV0 : addV v0 (xz 0) = v1 := by rw [addV, w_addC0]; rfl
theorem w_told1 : toldV v1 = false := by decide +kernel
theorem w_addC1 : addC v1 (xz 1).who = true := by decide +kernel
theorem w_addV1 : addV v1 (xz 1) = v2 := by rw [addV, w_addC1]; rfl
theorem w_told2 : toldV v2 = true := by decide +kernel
theorem w_rdyC2 : rdyC v2 1 = true := by decide +kernel
theorem w_with2 : withN 0 [1] = 2 := by decide +kernel
theorem w_rdyV2 : rdyV v2 1 = v3 := by rw [rdyV, w_rdyC2]; show AtV.mk 3 0 3 (withN 0 [1]) [xz 0, xz 1] = v3; rw [w_with2]; rfl
theorem w_done3 : doneV v3 = false := by decide +kernel
theorem w_rdyC3 : rdyC v3 0 = true := by decide +kernel
theorem w_with3 : withN 2 [0] = 3 := by decide +kernel
theorem w_rdyV3 : rdyV v3 0 = v4 := by rw [rdyV, w_rdyC3]; show AtV.mk 3 0 3 (withN 2 [0]) [xz 0, xz 1] = v4; rw [w_with3]; rfl
theorem w_done4 : doneV v4 = true := by decide +kernel
theorem w_exs : (exsV v4).length = 2 := by decide +kernel
theorem w_of : withN 0 [0, 1] = 3 := by decide +kernel
theorem w_needs1 : needsB 1 3 0 0 = true := by decide +kernel
theorem w_needs2 : needsB 3 3 0 0 = false := by decide +kernel
theorem w_fails1 : failsV 3 3 0 3 [(1, 3, 1)] = true := by decide +kernel
theorem w_fails2 : failsV 3 3 0 3 [(1, 3, 0), (2, 9, 0)] = false := by decide +kernel
theorem Tryd.bldC0 : Tryd.prog.built 24 [] = some #[.int .u64 0, .int .i64 0] := by kernel_rfl
theorem Tryd.bldC1 (a : Int) : Tryd.prog.built 24 [(0, .int .u64 a)] = some #[.int .u64 a, .int .i64 0] := by kernel_rfl
theorem Tryd.bldC2 (a b : Int) : Tryd.prog.built 24 [(0, .int .u64 a), (1, .int .i64 b)] = some #[.int .u64 a, .int .i64 b] := by kernel_rfl
theorem Tryd.bldX1 (a : Int) : Tryd.prog.built 43 [(0, .int .i64 a)] = some (xcA ⟨xz a, none, 0, 0⟩) := by kernel_rfl
theorem RdU.nil (w : World) : RdU w none 0 0 [] := Rd.mk_nil w 1
theorem run_eql_cf (w : World) (a b : Int) : (binOp .eql 24 (.agg #[.int .u64 a, .int .i64 b]) (.agg #[.int .u64 a, .int .i64 b])).run Tryd.prog w = .ok (.bool true) w := by simp [go_sem]
set_option maxHeartbeats 3200000 in
set_option maxRecDepth 100000 in
theorem awake_any (w : World) (hT : Tab w) : Calls Tryd.prog 8 #[] w fun e w' => e = .returned (.bool true) ∧ Below w.heap.size w w' := by
  have hmm := @run_makeMap Tryd.prog
  have hb1 := alloc_below w (.cells #[.int .i64 0, .int .i64 1] 3)
  have hL : Rd (w.alloc (.cells #[.int .i64 0, .int .i64 1] 3)) 1 (some ⟨w.heap.size, 0, none⟩) 2 2 ([0, 1].map (Value.int .i64)) := ⟨⟨rfl, Nat.le_refl _, by decide, (fun h => by cases h)⟩, .inr ⟨w.heap.size, 0, rfl, by simp, fun j u hu => by
    have hB := BlkAt.new w 3 #[.int .i64 0, .int .i64 1]
    match j, hu with
    | 0, hu => simp at hu; subst hu; exact hB.cell rfl
    | 1, hu => simp at hu; subst hu; exact hB.cell rfl⟩⟩
  have HOf := Lib.hid (of_any 2 2 (some ⟨w.heap.size, 0, none⟩) [0, 1] _ (by decide) hL)
  rw [w_of] at HOf
  have HN := Lib.hid (g_new 3 0 3 (by decide) (w.alloc (.cells #[.int .i64 0, .int .i64 1] 3)))
  replace hb1 := Lib.hid hb1
  clear hL
  go_enter Tryd.func8, Tryd.ntmps8
  go_wp2_with (first | (refine wpList_blk_build rfl #[(0, .const (.int .u64 3))] rfl (by rw [List.map_toArray]; exact Tryd.bldC1 _) ?_))
  refine HOf.out.mono ?_
  rintro e w1 ⟨rfl, hw1⟩
  rw [hw1] at HN hb1
  clear HOf hw1
  go_wp2_with fail
  refine HN.out.mono ?_
  rintro e w2 ⟨b, mb, rfl, hG2, hbl, hml, hb2⟩
  have B2 := Lib.hid (belS hb1.out hb2)
  have hwb : w.heap.size ≤ b := Nat.le_trans hb1.out.size hbl
  have hwm : w.heap.size ≤ mb := Nat.le_trans hb1.out.size hml
  have HKB := Lib.hid (fun (W W' : World) (hk : KpO (Own2 b mb) W W') (hB : Below w.heap.size w W) => show Below w.heap.size w W' from KpO.below hB hk (fun g hg => by rcases hg with rfl | rfl <;> assumption) hB.size)
  replace hG2 := Lib.hid (show Gat w2 b mb v0 from hG2)
  clear HN hb1 hb2 hbl hml
  go_wp2_with fail
  refine (g_ready 0 false (by rw [w_rdyC0]; rfl) hG2.out).mono ?_
  rintro e w3 ⟨rfl, hG3, hk3⟩
  rw [w_rdyV0] at hG3
  have B3 := Lib.hid (HKB.out _ _ hk3 B2.out)
  replace hG3 := Lib.hid hG3
  clear hk3 hG2 B2
  go_wp2_with (first | (refine wpList_blk_build rfl #[(0, .const (.int .i64 0))] rfl (by rw [List.map_toArray]; exact Tryd.bldX1 _) ?_))
  refine (g_add ⟨xz 0, none, 0, 0⟩ false (by rw [show (Xc.mk (xz 0) none 0 0).v = xz 0 from rfl, w_addC0, w_addV0, w_told1]; rfl) hG3.out (RdU.nil _) (by decide)).mono ?_
  rintro e w4 ⟨rfl, hG4, hk4⟩
  rw [show (Xc.mk (xz 0) none 0 0).v = xz 0 from rfl, w_addV0] at hG4
  have B4 := Lib.hid (HKB.out _ _ hk4 B3.out)
  replace hG4 := Lib.hid hG4
  clear hk4 hG3 B3
  go_wp2_with (first | (refine wpList_blk_build rfl #[(0, .const (.int .i64 1))] rfl (by rw [List.map_toArray]; exact Tryd.bldX1 _) ?_))
  refine (g_add ⟨xz 1, none, 0, 0⟩ true (by rw [show (Xc.mk (xz 1) none 0 0).v = xz 1 from rfl, w_addC1, w_addV1, w_told2]; rfl) hG4.out (RdU.nil _) (by decide)).mono ?_
  rintro e w5 ⟨rfl, hG5, hk5⟩
  rw [show (Xc.mk (xz 1) none 0 0).v = xz 1 from rfl, w_addV1] at hG5
  have B5 := Lib.hid (HKB.out _ _ hk5 B4.out)
  replace hG5 := Lib.hid hG5
  clear hk5 hG4 B4
  go_wp2_with fail
  refine (g_ready 1 false (by rw [w_rdyC2, w_rdyV2, w_done3]; rfl) hG5.out).mono ?_
  rintro e w6 ⟨rfl, hG6, hk6⟩
  rw [w_rdyV2] at hG6
  have B6 := Lib.hid (HKB.out _ _ hk6 B5.out)
  replace hG6 := Lib.hid hG6
  clear hk6 hG5 B5
  go_wp2_with fail
  refine (g_ready 0 true (by rw [w_rdyC3, w_rdyV3, w_done4]; rfl) hG6.out).mono ?_
  rintro e w7 ⟨rfl, hG7, hk7⟩
  rw [w_rdyV3] at hG7
  have B7 := Lib.hid (HKB.out _ _ hk7 B6.out)
  replace hG7 := Lib.hid hG7
  clear hk7 hG6 B6 HKB
  go_wp2_with fail
  refine (g_done true w_done4.symm hG7.out).mono ?_
  rintro e w8 ⟨rfl, hb8⟩
  have B8 := Lib.hid (belS B7.out hb8)
  have hG8 := Lib.hid (hG7.out.below hb8)
  clear hb8 hG7 B7
  go_wp2_with fail
  refine (g_id hG8.out).mono ?_
  rintro e w9 ⟨rfl, hb9⟩
  have B9 := Lib.hid (belS B8.out hb9)
  have hG9 := Lib.hid (hG8.out.below hb9)
  clear hb9 hG8 B8
  have hcf := fun W => run_eql_cf W 3 0
  go_wp2_with (first | (refine wpList_blk_build rfl #[(0, .const (.int .u64 3))] rfl (by rw [List.map_toArray]; exact Tryd.bldC1 _) ?_))
  refine (g_exs (hT.below B9.out hT.1) hG9.out).mono ?_
  rintro e w10 ⟨xa, xn, xc, xs, rfl, hX, hvx, _, hb10⟩
  have hxn : xn = 2 := by
    have h1 := hX.rd.len
    have h2 := w_exs
    rw [← hvx, vX_len] at h2
    omega
  subst hxn
  have B10 := Lib.hid (belS B9.out hb10)
  have hG10 := Lib.hid (hG9.out.below hb10)
  clear hb10 hG9 B9 hX hvx
  go_wp2_with (first | (refine wpList_blk_build rfl #[] rfl Tryd.bldC0 ?_))
  refine (needs_any 0 0 1 3 0 0 true w_needs1.symm (by decide) (by decide) (by decide) w10 (hT.below B10.out hT.1)).mono ?_
  rintro e w11 ⟨rfl, hb11⟩
  have B11 := Lib.hid (belS B10.out hb11)
  have hG11 := Lib.hid (hG10.out.below hb11)
  clear hb11 hG10 B10
  go_wp2_with (first | (refine wpList_blk_build rfl #[] rfl Tryd.bldC0 ?_))
  refine (needs_any 0 0 3 3 0 0 false w_needs2.symm (by decide) (by decide) (by decide) w11 (hT.below B11.out hT.1)).mono ?_
  rintro e w12 ⟨rfl, hb12⟩
  have B12 := Lib.hid (belS B11.out hb12)
  have hG12 := Lib.hid (hG11.out.below hb12)
  clear hb12 hG11 B11
  have hM0 := MapAt.new w12
  have hbm := alloc_below w12 (.map #[] 0)
  go_wp2_with (first
    | (refine wpList_blk_build rfl #[(0, .const (.int .u64 3)), (1, .const (.int .i64 1))] rfl (by rw [List.map_toArray]; exact Tryd.bldC2 _ _) ?_)
    | (refine wpList_map_update_g (by first | rfl | simp [Region.wanted, go_sem]) (.tmp 68) (.const (.int .i64 1)) (.tmp 69) (.inr rfl) Tryd.underlying34 Tryd.underlying3 hM0 rfl rfl rfl rfl ?_; intro w13 hM13 hK13 hs13))
  have hb13 := alloc_store hK13
  have hm13 : MapAt w13 w12.heap.size (cfM [(1, 3, 1)]) := hM13
  have B13 := Lib.hid (belS B12.out hb13)
  have hG13 := Lib.hid (hG12.out.below hb13)
  clear hM0 hbm hM13 hK13 hs13 hb13 hG12 B12
  refine (g_fails w12.heap.size 3 [(1, 3, 1)] true w_fails1.symm hG13.out hm13).mono ?_
  rintro e w14 ⟨rfl, hb14⟩
  have B14 := Lib.hid (belS B13.out hb14)
  have hG14 := Lib.hid (hG13.out.below hb14)
  clear hm13 hb14 hG13 B13
  have hM0 := MapAt.new w14
  go_wp2_with (first
    | (refine wpList_blk_build rfl #[(0, .const (.int .u64 3))] rfl (by rw [List.map_toArray]; exact Tryd.bldC1 _) ?_)
    | (refine wpList_blk_build rfl #[(0, .const (.int .u64 9))] rfl (by rw [List.map_toArray]; exact Tryd.bldC1 _) ?_)
    | (refine wpList_map_update_g (by first | rfl | simp [Region.wanted, go_sem]) (.tmp 75) (.const (.int .i64 1)) (.tmp 76) (.inr rfl) Tryd.underlying34 Tryd.underlying3 hM0 rfl rfl rfl rfl ?_; intro w15 hM15 hK15 hs15)
    | (refine wpList_map_update_g (by first | rfl | simp [Region.wanted, go_sem]) (.tmp 75) (.const (.int .i64 2)) (.tmp 77) (.inr rfl) Tryd.underlying34 Tryd.underlying3 hM15 rfl rfl rfl (by simp [mGet]) ?_; intro w16 hM16 hK16 hs16))
  have hb16 := alloc_store (hK15.trans hK16)
  have hm16 : MapAt w16 w14.heap.size (cfM [(1, 3, 0), (2, 9, 0)]) := hM16
  have B16 := Lib.hid (belS B14.out hb16)
  have hG16 := Lib.hid (hG14.out.below hb16)
  clear hM0 hM15 hK15 hs15 hM16 hK16 hs16 hb16 hG14 B14
  refine (g_fails w14.heap.size 3 [(1, 3, 0), (2, 9, 0)] false w_fails2.symm hG16.out hm16).mono ?_
  rintro e w17 ⟨rfl, hb17⟩
  go_wp2
  go_ret
  exact ⟨rfl, belS B16.out hb17⟩
end Go.Proofs.YtlgabjffnjciaaaDoor
