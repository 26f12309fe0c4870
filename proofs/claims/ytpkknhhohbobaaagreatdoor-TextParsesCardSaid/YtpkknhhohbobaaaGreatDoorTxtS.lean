/- text: the reader's view (written by gen_tq.py) -/
import Derived.Test.YtpkknhhohbobaaaGreatDoorTxtR
namespace Go.Proofs.YtpkknhhohbobaaaGreatDoor
set_option linter.unusedSimpArgs false
set_option linter.unusedVariables false
open Go.RowKit Go.Sort
section
variable {b : Nat} {w w' : World} {ws : List W8}
def vwC (v : Nat × TCf × Nat) : Array Value := #[.int .u64 (v.1 : Int), .int .u64 (v.2.1.ep : Int), .int .i64 v.2.1.rp, .int .u64 (v.2.2 : Int)]
set_option maxHeartbeats 1600000 in
set_option maxRecDepth 100000 in
theorem rdview_any (l0 : List W8) (h : RdT w b l0) (hT : TL w) :
    Calls Tryz.prog 53 #[.pointer (some ⟨b, 0, none⟩)] w fun e w' => PR (takeV l0) (fun v => .agg (vwC v)) b e w' ∧ Kp b w w' := by
  have h8 := h.b8
  have hlt := h.lt
  have hb1 := alloc_below w (.cells #[.int .u64 0, .int .u64 0, .int .i64 0, .int .u64 0] 31)
  have hM := BlkAt.new w 31 #[.int .u64 0, .int .u64 0, .int .i64 0, .int .u64 0]
  obtain ⟨w0, hw0⟩ : ∃ z, z = w.alloc (.cells #[.int .u64 0, .int .u64 0, .int .i64 0, .int .u64 0] 31) := ⟨_, rfl⟩
  rw [← hw0] at hb1 hM
  obtain ⟨mb, hmb⟩ : ∃ z, z = w.heap.size := ⟨_, rfl⟩
  rw [← hmb] at hM
  have hmbb : mb ≠ b := by omega
  have hbm : b < mb := by omega
  have hR0 := Lib.hid (h.below hb1)
  have hk0 := Lib.hid (Kp.ofBelow (b := b) hb1)
  have hM0 := Lib.hid hM
  replace hw0 := Lib.hid hw0
  replace hmb := Lib.hid hmb
  replace hT := Lib.hid hT
  clear h hM hb1
  have HA0 := Lib.hid (rdnum_any l0 hR0.out (hT.out.kp hk0.out h8))
  go_enter Tryz.func53, Tryz.ntmps53
  go_wp2_with fail
  rw [← hw0.out, ← hmb.out]
  refine HA0.out.mono ?_
  rintro e w1 ⟨hp, hkk⟩
  have hM1 := Lib.hid (hkk.blk hM0.out hmbb)
  have hk1 := Lib.hid (hk0.out.trans hkk)
  clear HA0 hkk hM0 hk0 hR0
  cases hv0 : takeN 18446744073709551615 l0 with
  | none =>
    rw [hv0] at hp
    obtain rfl : e = pan 4 := hp
    exact ⟨rfl, PR.no (by simp only [takeV, hv0, Option.bind_some, Option.bind_none, Option.map_none]) rfl, hk1.out⟩
  | some p =>
    obtain ⟨v0, l1⟩ := p
    rw [hv0] at hp
    obtain ⟨rfl, hR1⟩ : e = .returned (.int .u64 (v0 : Int)) ∧ RdT w1 b l1 := hp
    replace hR1 := Lib.hid hR1
    replace hv0 := Lib.hid hv0
    have HA1 := Lib.hid (rdconf_any l1 hR1.out (hT.out.kp hk1.out h8))
    go_wp2_with fail
    refine HA1.out.mono ?_
    rintro e w2 ⟨hp, hkk⟩
    have hM2 := Lib.hid (hkk.blk hM1.out hmbb)
    have hk2 := Lib.hid (hk1.out.trans hkk)
    clear HA1 hkk hM1 hk1 hR1
    cases hv1 : takeT 18446744073709551615 63 l1 with
    | none =>
      rw [hv1] at hp
      obtain rfl : e = pan 4 := hp
      exact ⟨rfl, PR.no (by simp only [takeV, hv0.out, hv1, Option.bind_some, Option.bind_none, Option.map_none]) rfl, hk2.out⟩
    | some p =>
      obtain ⟨v1, l2⟩ := p
      rw [hv1] at hp
      obtain ⟨rfl, hR2⟩ : e = .returned (.agg #[.int .u64 (v1.1 : Int), .int .i64 (v1.2 : Int)]) ∧ RdT w2 b l2 := hp
      replace hR2 := Lib.hid hR2
      replace hv1 := Lib.hid hv1
      have HA2 := Lib.hid (rdnum_any l2 hR2.out (hT.out.kp hk2.out h8))
      go_wp2_with fail
      refine HA2.out.mono ?_
      rintro e w3 ⟨hp, hkk⟩
      have hM3 := Lib.hid (hkk.blk hM2.out hmbb)
      have hk3 := Lib.hid (hk2.out.trans hkk)
      clear HA2 hkk hM2 hk2 hR2
      cases hv2 : takeN 18446744073709551615 l2 with
      | none =>
        rw [hv2] at hp
        obtain rfl : e = pan 4 := hp
        exact ⟨rfl, PR.no (by simp only [takeV, hv0.out, hv1.out, hv2, Option.bind_some, Option.bind_none, Option.map_none]) rfl, hk3.out⟩
      | some p =>
        obtain ⟨v2, l3⟩ := p
        rw [hv2] at hp
        obtain ⟨rfl, hR3⟩ : e = .returned (.int .u64 (v2 : Int)) ∧ RdT w3 b l3 := hp
        replace hR3 := Lib.hid hR3
        replace hv2 := Lib.hid hv2
        have hq := Lib.hid (show takeV l0 = some ((v0, cfOf v1, v2), l3) from by simp only [takeV, hv0.out, hv1.out, hv2.out, Option.bind_some, Option.map_some])
        have hI : (Tryz.prog.info? 31).map (·.size) = some 4 := by kernel_rfl
        clear hv0 hv1 hv2
        go_wp2_with (first | (refine wpList_blk_put (cs := vwC (v0, cfOf v1, v2)) rfl (.tmp 2) (.tmp 9) rfl rfl rfl hM3.out hI (by show 0 + 4 ≤ 4; decide) (by simp [vwC, Value.oneCell']) ?_; intro w4 hM4 hK4 hs4))
        have hR4 := Lib.hid (RdT.off hR3.out hK4 (by omega))
        have hk4 := Lib.hid (Kp.near hk3.out hK4 hs4 (by have := hmb.out; omega))
        refine bodyPost_ret (results_cell_row rfl _ _ mb 31 _ (0, 0) _ rfl hM4 Tryz.underlying31 rfl hI) rfl ?_
        exact ⟨PR.yes hq.out rfl hR4.out, hk4.out⟩
end
end Go.Proofs.YtpkknhhohbobaaaGreatDoor
