/- text: cut; conf, name, view; text: the reader's view (written by gen_tq.py) -/
import Derived.Test.YtpkknhhohbobaaaGreatDoorG3
namespace Go.Proofs.YtpkknhhohbobaaaGreatDoor
set_option linter.unusedSimpArgs false
set_option linter.unusedVariables false
open Go.RowKit Go.Sort
theorem valN_no {r : W8} (h : (46 : UInt8) ∈ r) (m : Nat) : valN r m = none := by
  cases e : valN r m with
  | none => rfl
  | some v =>
    have h1 := (valN_some.1 e).1
    rw [← h1] at h
    have := (num_digit v 46 h).1
    exact absurd this (by decide)
theorem twoN_none {s : W8} (h : (46 : UInt8) ∉ s) (f m : Nat) : twoN s f m = none := by unfold twoN; rw [pcs_noc h]
/-- Both numbers, or none. -/
def bothN (x y : Option Nat) : Option (Nat × Nat) := match x, y with
  | some x, some y => some (x, y)
  | _, _ => none
theorem bothN_r (x : Option Nat) : bothN x none = none := by cases x <;> rfl
theorem twoN_cut {a r : W8} (h : (46 : UInt8) ∉ a) (f m : Nat) : twoN (a ++ 46 :: r) f m = bothN (valN a f) (valN r m) := by
  unfold twoN
  rw [pcs_app h]
  by_cases h2 : (46 : UInt8) ∈ r
  · rw [valN_no h2, bothN_r]
    obtain ⟨x, y, rfl, hx⟩ := cut_at h2
    rw [pcs_app hx]
    cases e : pcs 46 y with
    | nil => exact absurd e (pcs_ne _ _)
    | cons p q => rfl
  · rw [pcs_noc h2]
    rfl
/-- What two numbers' reading answers. -/
def PT (o : Option (Nat × Nat)) (e : Ending) : Prop := match o with
  | some (x, y) => e = .returned (.tuple #[.int .u64 (x : Int), .int .u64 (y : Int)])
  | none => e = pan 4
set_option maxHeartbeats 1600000 in
set_option maxRecDepth 100000 in
theorem two_any (s : W8) (f m : Nat) (hf : f ≤ 18446744073709551615) (hm : m ≤ 18446744073709551615) (hs : s.length < 4294967281) (w : World) (hT : TL w) :
    Calls Tryz.prog 74 #[.string (mkB s), .int .u64 (f : Int), .int .u64 (m : Int)] w fun e w' => PT (twoN s f m) e ∧ Below w.heap.size w w' := by
  obtain ⟨mx, hmx⟩ := hT.max
  have hC := Lib.hid (Tryz.strings_Cut (mkB s) ⟨#[46]⟩ mx w (by rw [mkB_size]; exact hs) hmx)
  have hdl : (mkB s).data.toList = s := rfl
  rw [hdl, show (⟨#[46]⟩ : ByteArray).data.toList = [46] from rfl] at hC
  by_cases h : (46 : UInt8) ∈ s
  · obtain ⟨a, r, rfl, ha⟩ := cut_at h
    rw [twoN_cut ha, ]
    rw [cut_some ha] at hC
    rw [List.length_append, List.length_cons] at hs
    have hA := Lib.hid (fun (W : World) (hb : Below w.heap.size w W) => value_any a f hf (by omega) W (hT.on hb))
    have hB := Lib.hid (fun (W : World) (hb : Below w.heap.size w W) => value_any r m hm (by omega) W (hT.on hb))
    obtain ⟨S, hS⟩ : ∃ z, z = mkB (a ++ 46 :: r) := ⟨_, rfl⟩
    rw [← hS] at hC ⊢
    clear hT hdl h hS hmx
    go_enter Tryz.func74, Tryz.ntmps74
    go_wp2_with fail
    refine hC.out.mono ?_
    rintro e w1 ⟨rfl, n, rfl⟩
    have hb1 := Lib.hid (belN (Below.refl w.heap.size w) n)
    generalize w.drewN n = w1 at *
    clear hC
    go_wp2_with fail
    refine (bad_f (by first | rfl | (simp; done)) 4 _).mono ?_
    rintro e w2 ⟨rfl, rfl⟩
    have HA := Lib.hid (hA.out _ hb1.out)
    clear hA
    go_wp2_with fail
    refine HA.out.mono ?_
    rintro e w2 ⟨hv, hb2⟩
    have hb3 := Lib.hid (belS hb1.out hb2)
    clear HA hb1 hb2
    cases hx : valN a f with
    | none =>
      rw [hx] at hv
      obtain rfl : e = pan 4 := hv
      exact ⟨rfl, by rw [hx]; rfl, hb3.out⟩
    | some x =>
      rw [hx] at hv
      obtain rfl : e = .returned (.int .u64 (x : Int)) := hv
      have HB := Lib.hid (hB.out _ hb3.out)
      replace hx := Lib.hid hx
      clear hB
      go_wp2_with fail
      refine HB.out.mono ?_
      rintro e w4 ⟨hv, hb4⟩
      have hb5 := Lib.hid (belS hb3.out hb4)
      clear HB hb3 hb4
      cases hy : valN r m with
      | none =>
        rw [hy] at hv
        obtain rfl : e = pan 4 := hv
        exact ⟨rfl, by rw [hx.out, hy]; rfl, hb5.out⟩
      | some y =>
        rw [hy] at hv
        obtain rfl : e = .returned (.int .u64 (y : Int)) := hv
        replace hy := Lib.hid hy
        go_wp2
        refine bodyPost_ret (v := .tuple #[.int .u64 (x : Int), .int .u64 (y : Int)]) (by simp [results, Tryz.results74, go_sem]) rfl ?_
        exact ⟨by rw [hx.out, hy.out]; rfl, hb5.out⟩
  · rw [twoN_none h]
    rw [cut_none h] at hC
    clear hT hdl h hmx
    go_enter Tryz.func74, Tryz.ntmps74
    go_wp2_with fail
    refine hC.out.mono ?_
    rintro e w1 ⟨rfl, n, rfl⟩
    have hb1 := Lib.hid (belN (Below.refl w.heap.size w) n)
    clear hC
    go_wp2_with fail
    refine (bad_t (by first | rfl | (simp; done)) 4 _).mono ?_
    rintro e w2 ⟨rfl, rfl⟩
    exact ⟨rfl, rfl, hb1.out⟩
section
variable {b : Nat} {w w' : World} {ws : List W8}
theorem takeT_cons (u : W8) (r : List W8) (f m : Nat) : takeT f m (u :: r) = (twoN u f m).map (fun v => (v, r)) := rfl
theorem twoN_le {u : W8} {f m x y : Nat} (h : twoN u f m = some (x, y)) : x ≤ f ∧ y ≤ m := (two_twoN h).2
set_option maxHeartbeats 1600000 in
set_option maxRecDepth 100000 in
theorem rdconf_any (ws : List W8) (h : RdT w b ws) (hT : TL w) :
    Calls Tryz.prog 50 #[.pointer (some ⟨b, 0, none⟩)] w fun e w' => PR (takeT 18446744073709551615 63 ws) (fun v => .agg #[.int .u64 (v.1 : Int), .int .i64 (v.2 : Int)]) b e w' ∧ Kp b w w' := by
  have HW0 := Lib.hid (fun (W : World) (hb : Below w.heap.size w W) => word_any ws (h.below hb))
  have h8 := h.b8
  have hlt := h.lt
  have hs := h.small
  have hb1 := alloc_below w (.cells #[.int .u64 0, .int .i64 0] 25)
  have hM := BlkAt.new w 25 #[.int .u64 0, .int .i64 0]
  obtain ⟨w1, hw1⟩ : ∃ z, z = w.alloc (.cells #[.int .u64 0, .int .i64 0] 25) := ⟨_, rfl⟩
  rw [← hw1] at hb1 hM
  obtain ⟨mb, hmb⟩ : ∃ z, z = w.heap.size := ⟨_, rfl⟩
  rw [← hmb] at hM
  have hmbb : mb ≠ b := by omega
  have hbm : b < mb := by omega
  have HW := Lib.hid (HW0.out _ hb1)
  have hk1 := Lib.hid (Kp.ofBelow (b := b) hb1)
  replace hM := Lib.hid hM
  replace hw1 := Lib.hid hw1
  replace hmb := Lib.hid hmb
  replace hT := Lib.hid hT
  clear h HW0 hb1
  go_enter Tryz.func50, Tryz.ntmps50
  go_wp2_with fail
  rw [← hw1.out, ← hmb.out]
  refine HW.out.mono ?_
  rintro e w2 ⟨hp, hk⟩
  clear HW
  have hM2 := Lib.hid (hk.blk hM.out hmbb)
  replace hk := Lib.hid (hk1.out.trans hk)
  cases ws with
  | nil =>
    obtain rfl : e = pan 4 := hp
    exact ⟨rfl, PR.no rfl rfl, hk.out⟩
  | cons u r =>
    obtain ⟨rfl, hR⟩ := hp
    have HV := Lib.hid (two_any u 18446744073709551615 63 (by decide) (by decide) (hs u (by simp)) w2 (hT.out.kp hk.out h8))
    replace hR := Lib.hid hR
    clear hs
    go_wp2_with fail
    refine HV.out.mono ?_
    rintro e w3 ⟨hv, hb2⟩
    clear HV
    cases hval : twoN u 18446744073709551615 63 with
    | none =>
      rw [hval] at hv
      obtain rfl : e = pan 4 := hv
      exact ⟨rfl, PR.no (by rw [takeT_cons, hval]; rfl) rfl, hk.out.trans (Kp.ofBelow hb2)⟩
    | some v =>
      obtain ⟨x, y⟩ := v
      rw [hval] at hv
      obtain rfl : e = .returned (.tuple #[.int .u64 (x : Int), .int .u64 (y : Int)]) := hv
      obtain ⟨hx, hy⟩ := twoN_le hval
      have hwr : IntKind.i64.wrap (y : Int) = y := by rw [IntKind.wrap_i64]; omega
      have hq := Lib.hid (show takeT 18446744073709551615 63 (u :: r) = some ((x, y), r) from by rw [takeT_cons, hval]; rfl)
      have hR2 := Lib.hid (hR.out.below hb2)
      have hk2 := Lib.hid (hk.out.trans (Kp.ofBelow hb2))
      have hM3 := Lib.hid (hM2.out.below hb2 hM2.out.lt)
      clear hval hb2 hk hR hM2 hM
      have hI : (Tryz.prog.info? 25).map (·.size) = some 2 := by kernel_rfl
      go_wp2_with (first | (refine wpList_blk_put (cs := #[.int .u64 (x : Int), .int .i64 (y : Int)]) rfl (.tmp 2) (.tmp 14) rfl rfl rfl hM3.out hI (by show 0 + 2 ≤ 2; decide) (by simp [Value.oneCell']) ?_; intro w4 hM4 hK4 hs4))
      have hR4 := Lib.hid (RdT.off hR2.out hK4 (by omega))
      have hk4 := Lib.hid (Kp.near hk2.out hK4 hs4 (by have := hmb.out; omega))
      refine bodyPost_ret (results_cell_row rfl _ _ mb 25 _ (0, 0) _ rfl hM4 Tryz.underlying25 rfl hI) rfl ?_
      exact ⟨PR.yes hq.out rfl hR4.out, hk4.out⟩
set_option maxHeartbeats 1600000 in
set_option maxRecDepth 100000 in
theorem rdname_any (ws : List W8) (h : RdT w b ws) (hT : TL w) :
    Calls Tryz.prog 54 #[.pointer (some ⟨b, 0, none⟩)] w fun e w' => PR (takeT 63 4294967295 ws) (fun v => .agg #[.int .i64 (v.1 : Int), .int .u32 (v.2 : Int)]) b e w' ∧ Kp b w w' := by
  have HW0 := Lib.hid (fun (W : World) (hb : Below w.heap.size w W) => word_any ws (h.below hb))
  have h8 := h.b8
  have hlt := h.lt
  have hs := h.small
  have hb1 := alloc_below w (.cells #[.int .i64 0, .int .u32 0] 96)
  have hM := BlkAt.new w 96 #[.int .i64 0, .int .u32 0]
  obtain ⟨w1, hw1⟩ : ∃ z, z = w.alloc (.cells #[.int .i64 0, .int .u32 0] 96) := ⟨_, rfl⟩
  rw [← hw1] at hb1 hM
  obtain ⟨mb, hmb⟩ : ∃ z, z = w.heap.size := ⟨_, rfl⟩
  rw [← hmb] at hM
  have hmbb : mb ≠ b := by omega
  have hbm : b < mb := by omega
  have HW := Lib.hid (HW0.out _ hb1)
  have hk1 := Lib.hid (Kp.ofBelow (b := b) hb1)
  replace hM := Lib.hid hM
  replace hw1 := Lib.hid hw1
  replace hmb := Lib.hid hmb
  replace hT := Lib.hid hT
  clear h HW0 hb1
  go_enter Tryz.func54, Tryz.ntmps54
  go_wp2_with fail
  rw [← hw1.out, ← hmb.out]
  refine HW.out.mono ?_
  rintro e w2 ⟨hp, hk⟩
  clear HW
  have hM2 := Lib.hid (hk.blk hM.out hmbb)
  replace hk := Lib.hid (hk1.out.trans hk)
  cases ws with
  | nil =>
    obtain rfl : e = pan 4 := hp
    exact ⟨rfl, PR.no rfl rfl, hk.out⟩
  | cons u r =>
    obtain ⟨rfl, hR⟩ := hp
    have HV := Lib.hid (two_any u 63 4294967295 (by decide) (by decide) (hs u (by simp)) w2 (hT.out.kp hk.out h8))
    replace hR := Lib.hid hR
    clear hs
    go_wp2_with fail
    refine HV.out.mono ?_
    rintro e w3 ⟨hv, hb2⟩
    clear HV
    cases hval : twoN u 63 4294967295 with
    | none =>
      rw [hval] at hv
      obtain rfl : e = pan 4 := hv
      exact ⟨rfl, PR.no (by rw [takeT_cons, hval]; rfl) rfl, hk.out.trans (Kp.ofBelow hb2)⟩
    | some v =>
      obtain ⟨x, y⟩ := v
      rw [hval] at hv
      obtain rfl : e = .returned (.tuple #[.int .u64 (x : Int), .int .u64 (y : Int)]) := hv
      obtain ⟨hx, hy⟩ := twoN_le hval
      have hwr : IntKind.i64.wrap (x : Int) = x := by rw [IntKind.wrap_i64]; omega
      have hwr2 : IntKind.u32.wrap (y : Int) = y := by rw [IntKind.wrap_u32]; omega
      have hq := Lib.hid (show takeT 63 4294967295 (u :: r) = some ((x, y), r) from by rw [takeT_cons, hval]; rfl)
      have hR2 := Lib.hid (hR.out.below hb2)
      have hk2 := Lib.hid (hk.out.trans (Kp.ofBelow hb2))
      have hM3 := Lib.hid (hM2.out.below hb2 hM2.out.lt)
      clear hval hb2 hk hR hM2 hM
      have hI : (Tryz.prog.info? 96).map (·.size) = some 2 := by kernel_rfl
      go_wp2_with (first | (refine wpList_blk_put (cs := #[.int .i64 (x : Int), .int .u32 (y : Int)]) rfl (.tmp 2) (.tmp 15) rfl rfl rfl hM3.out hI (by show 0 + 2 ≤ 2; decide) (by simp [Value.oneCell']) ?_; intro w4 hM4 hK4 hs4))
      have hR4 := Lib.hid (RdT.off hR2.out hK4 (by omega))
      have hk4 := Lib.hid (Kp.near hk2.out hK4 hs4 (by have := hmb.out; omega))
      refine bodyPost_ret (results_cell_row rfl _ _ mb 96 _ (0, 0) _ rfl hM4 Tryz.underlying96 rfl hI) rfl ?_
      exact ⟨PR.yes hq.out rfl hR4.out, hk4.out⟩
end
end Go.Proofs.YtpkknhhohbobaaaGreatDoor
namespace Go.Proofs.YtpkknhhohbobaaaGreatDoor
set_option linter.unusedSimpArgs false
set_option linter.unusedVariables false
open Go.RowKit Go.Sort
section
variable {b : Nat} {w w' : World} {ws : List W8}
def vwC (v : Nat × TCf × Nat) : Array Value := #[.int .u64 (v.1 : Int), .int .u64 (v.2.1.ep : Int), .int .i64 v.2.1.rp, .int .u64 (v.2.2 : Int)]
set_option maxHeartbeats 1600000 in
set_option maxRecDepth 100000 in
theorem rdview_any (l0 : List W8) (h : RdT w b l0) (hT : TL w) :
    Calls Tryz.prog 53 #[.pointer (some ⟨b, 0, none⟩)] w fun e w' => PR (takeV l0) (fun v => .agg (vwC v)) b e w' ∧ Kp b w w' := by
  have h8 := h.b8
  have hlt := h.lt
  have hb1 := alloc_below w (.cells #[.int .u64 0, .int .u64 0, .int .i64 0, .int .u64 0] 31)
  have hM := BlkAt.new w 31 #[.int .u64 0, .int .u64 0, .int .i64 0, .int .u64 0]
  obtain ⟨w0, hw0⟩ : ∃ z, z = w.alloc (.cells #[.int .u64 0, .int .u64 0, .int .i64 0, .int .u64 0] 31) := ⟨_, rfl⟩
  rw [← hw0] at hb1 hM
  obtain ⟨mb, hmb⟩ : ∃ z, z = w.heap.size := ⟨_, rfl⟩
  rw [← hmb] at hM
  have hmbb : mb ≠ b := by omega
  have hbm : b < mb := by omega
  have hR0 := Lib.hid (h.below hb1)
  have hk0 := Lib.hid (Kp.ofBelow (b := b) hb1)
  have hM0 := Lib.hid hM
  replace hw0 := Lib.hid hw0
  replace hmb := Lib.hid hmb
  replace hT := Lib.hid hT
  clear h hM hb1
  have HA0 := Lib.hid (rdnum_any l0 hR0.out (hT.out.kp hk0.out h8))
  go_enter Tryz.func53, Tryz.ntmps53
  go_wp2_with fail
  rw [← hw0.out, ← hmb.out]
  refine HA0.out.mono ?_
  rintro e w1 ⟨hp, hkk⟩
  have hM1 := Lib.hid (hkk.blk hM0.out hmbb)
  have hk1 := Lib.hid (hk0.out.trans hkk)
  clear HA0 hkk hM0 hk0 hR0
  cases hv0 : takeN 18446744073709551615 l0 with
  | none =>
    rw [hv0] at hp
    obtain rfl : e = pan 4 := hp
    exact ⟨rfl, PR.no (by simp only [takeV, hv0, Option.bind_some, Option.bind_none, Option.map_none]) rfl, hk1.out⟩
  | some p =>
    obtain ⟨v0, l1⟩ := p
    rw [hv0] at hp
    obtain ⟨rfl, hR1⟩ : e = .returned (.int .u64 (v0 : Int)) ∧ RdT w1 b l1 := hp
    replace hR1 := Lib.hid hR1
    replace hv0 := Lib.hid hv0
    have HA1 := Lib.hid (rdconf_any l1 hR1.out (hT.out.kp hk1.out h8))
    go_wp2_with fail
    refine HA1.out.mono ?_
    rintro e w2 ⟨hp, hkk⟩
    have hM2 := Lib.hid (hkk.blk hM1.out hmbb)
    have hk2 := Lib.hid (hk1.out.trans hkk)
    clear HA1 hkk hM1 hk1 hR1
    cases hv1 : takeT 18446744073709551615 63 l1 with
    | none =>
      rw [hv1] at hp
      obtain rfl : e = pan 4 := hp
      exact ⟨rfl, PR.no (by simp only [takeV, hv0.out, hv1, Option.bind_some, Option.bind_none, Option.map_none]) rfl, hk2.out⟩
    | some p =>
      obtain ⟨v1, l2⟩ := p
      rw [hv1] at hp
      obtain ⟨rfl, hR2⟩ : e = .returned (.agg #[.int .u64 (v1.1 : Int), .int .i64 (v1.2 : Int)]) ∧ RdT w2 b l2 := hp
      replace hR2 := Lib.hid hR2
      replace hv1 := Lib.hid hv1
      have HA2 := Lib.hid (rdnum_any l2 hR2.out (hT.out.kp hk2.out h8))
      go_wp2_with fail
      refine HA2.out.mono ?_
      rintro e w3 ⟨hp, hkk⟩
      have hM3 := Lib.hid (hkk.blk hM2.out hmbb)
      have hk3 := Lib.hid (hk2.out.trans hkk)
      clear HA2 hkk hM2 hk2 hR2
      cases hv2 : takeN 18446744073709551615 l2 with
      | none =>
        rw [hv2] at hp
        obtain rfl : e = pan 4 := hp
        exact ⟨rfl, PR.no (by simp only [takeV, hv0.out, hv1.out, hv2, Option.bind_some, Option.bind_none, Option.map_none]) rfl, hk3.out⟩
      | some p =>
        obtain ⟨v2, l3⟩ := p
        rw [hv2] at hp
        obtain ⟨rfl, hR3⟩ : e = .returned (.int .u64 (v2 : Int)) ∧ RdT w3 b l3 := hp
        replace hR3 := Lib.hid hR3
        replace hv2 := Lib.hid hv2
        have hq := Lib.hid (show takeV l0 = some ((v0, cfOf v1, v2), l3) from by simp only [takeV, hv0.out, hv1.out, hv2.out, Option.bind_some, Option.map_some])
        have hI : (Tryz.prog.info? 31).map (·.size) = some 4 := by kernel_rfl
        clear hv0 hv1 hv2
        go_wp2_with (first | (refine wpList_blk_put (cs := vwC (v0, cfOf v1, v2)) rfl (.tmp 2) (.tmp 9) rfl rfl rfl hM3.out hI (by show 0 + 4 ≤ 4; decide) (by simp [vwC, Value.oneCell']) ?_; intro w4 hM4 hK4 hs4))
        have hR4 := Lib.hid (RdT.off hR3.out hK4 (by omega))
        have hk4 := Lib.hid (Kp.near hk3.out hK4 hs4 (by have := hmb.out; omega))
        refine bodyPost_ret (results_cell_row rfl _ _ mb 31 _ (0, 0) _ rfl hM4 Tryz.underlying31 rfl hI) rfl ?_
        exact ⟨PR.yes hq.out rfl hR4.out, hk4.out⟩
end
end Go.Proofs.YtpkknhhohbobaaaGreatDoor
