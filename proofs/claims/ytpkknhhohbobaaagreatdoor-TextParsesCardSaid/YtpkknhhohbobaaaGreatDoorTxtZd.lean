/- text: the reference's Names, Same and Events: like events are told so -/
import Derived.Test.YtpkknhhohbobaaaGreatDoorTxtZc
namespace Go.Proofs.YtpkknhhohbobaaaGreatDoor
set_option linter.unusedSimpArgs false
set_option linter.unusedVariables false
open Go.RowKit Go.Sort
section
variable {w w' : World}
set_option maxHeartbeats 1600000 in
set_option maxRecDepth 100000 in
theorem rnames_same (l : List TNm) (a a' : Option Addr) (n c c' : Nat) (w : World) (h : Rd w 2 a n c (l.flatMap nmC)) (h' : Rd w 2 a' n c' (l.flatMap nmC)) :
    Calls Tryz.prog 24 #[.slice a n c, .slice a' n c'] w fun e w' => e = .returned (.bool true) ∧ Below w.heap.size w w' := by
  have hl : Hid (l.length = n) := Lib.hid (by have := h.length_eq; rw [flatMap_len nmC_len] at this; omega)
  have hmx := h.le_max
  unfold maxLen at hmx
  replace h := Lib.hid h
  replace h' := Lib.hid h'
  go_enter Tryz.func24, Tryz.ntmps24
  go_wp2
  go_loopw [5] (fun iv wr => ∃ (k : Nat), k ≤ n ∧ iv = .int .i64 k ∧ Hid (Below w.heap.size w wr)) (fun iv _ => n - (RowKit.intOf iv).toNat)
  case atStart => exact ⟨0, Nat.zero_le _, rfl, Lib.hid (Below.refl _ _)⟩
  case round =>
    obtain ⟨k, hk, rfl, hb⟩ := hrel
    obtain ⟨w1, rfl⟩ : ∃ z, z = wr := ⟨_, rfl⟩
    by_cases hkn : k < n
    · have hkI : (k : Int) < n := by omega
      have hkl : k < l.length := by rw [hl.out]; exact hkn
      obtain ⟨g, off, rfl, _⟩ := h.out.addr (by omega)
      obtain ⟨g', off', rfl, _⟩ := h'.out.addr (by omega)
      obtain ⟨c1, c2⟩ := own_nm (h.out.below hb.out (Nat.le_refl _)) k hkl
      obtain ⟨c3, c4⟩ := own_nm (h'.out.below hb.out (Nat.le_refl _)) k hkl
      generalize l[k].proc = p at *
      generalize l[k].inc = q at *
      go_wp2_with fail
      go_quiet (fail)
      have hbq := Lib.hid (belN hb.out nq)
      generalize w1.drewN nq = w2 at *
      clear c1 c2 c3 c4
      go_wp2
      go_roundw
      case rel => exact ⟨k + 1, by omega, by go_num, hbq⟩
      case measure => simp [RowKit.intOf]; omega
    · have hkI : ¬ (k : Int) < n := by omega
      go_wp2
      go_ret
      exact ⟨rfl, hb.out⟩
set_option maxHeartbeats 3200000 in
set_option maxRecDepth 100000 in
theorem rsame_same (m : TMg) (a a' : Option Addr) (n c c' : Nat) (w : World) (h : Rd w 1 a n c (c32 m.deps)) (h' : Rd w 1 a' n c' (c32 m.deps)) :
    Calls Tryz.prog 23 #[.agg (mgA m a n c), .agg (mgA m a' n c')] w fun e w' => e = .returned (.bool true) ∧ Below w.heap.size w w' := by
  have hl : Hid (m.deps.length = n) := Lib.hid (by have := h.length_eq; unfold c32 at this; rw [List.length_map] at this; omega)
  have hmx := h.le_max
  unfold maxLen at hmx
  have hb1 := alloc_below w (.cells (mgA m a n c) 29)
  obtain ⟨w1, hw1⟩ : ∃ z, z = w.alloc (.cells (mgA m a n c) 29) := ⟨_, rfl⟩
  have hA1 : BlkAt w1 w.heap.size 29 (mgA m a n c) := by rw [hw1]; exact BlkAt.new _ _ _
  rw [← hw1] at hb1
  have hb2 := alloc_below w1 (.cells (mgA m a' n c') 29)
  obtain ⟨w2, hw2⟩ : ∃ z, z = w1.alloc (.cells (mgA m a' n c') 29) := ⟨_, rfl⟩
  have hB2 : BlkAt w2 w1.heap.size 29 (mgA m a' n c') := by rw [hw2]; exact BlkAt.new _ _ _
  rw [← hw2] at hb2
  have hA2 := hA1.below hb2 hA1.lt
  have hbz := Lib.hid (belS hb1 hb2)
  obtain ⟨xa, hxa⟩ : ∃ z, z = w.heap.size := ⟨_, rfl⟩
  obtain ⟨xb, hxb⟩ : ∃ z, z = w1.heap.size := ⟨_, rfl⟩
  rw [← hxa] at hA2
  rw [← hxb] at hB2
  have h2 := Lib.hid (h.below hbz.out (Nat.le_refl _))
  have h2' := Lib.hid (h'.below hbz.out (Nat.le_refl _))
  obtain ⟨cA, hcA⟩ : ∃ z, z = mgA m a n c := ⟨_, rfl⟩
  obtain ⟨cB, hcB⟩ : ∃ z, z = mgA m a' n c' := ⟨_, rfl⟩
  have a0 : w2.cell? ⟨xa, 0, none⟩ = some (.int .i64 m.frm) := hA2.cell rfl
  have a1 : w2.cell? ⟨xa, 1, none⟩ = some (.int .u32 m.seq) := hA2.cell rfl
  have a2 : w2.cell? ⟨xa, 2, none⟩ = some (.int .u64 m.stamp) := hA2.cell rfl
  have a3 : w2.cell? ⟨xa, 3, none⟩ = some (.int .i64 m.svc) := hA2.cell rfl
  have a4 : w2.cell? ⟨xa, 4, none⟩ = some (.slice a n c) := hA2.cell rfl
  have a5 : w2.cell? ⟨xa, 5, none⟩ = some (.string (mkB m.pay)) := hA2.cell rfl
  have b0 : w2.cell? ⟨xb, 0, none⟩ = some (.int .i64 m.frm) := hB2.cell rfl
  have b1 : w2.cell? ⟨xb, 1, none⟩ = some (.int .u32 m.seq) := hB2.cell rfl
  have b2 : w2.cell? ⟨xb, 2, none⟩ = some (.int .u64 m.stamp) := hB2.cell rfl
  have b3 : w2.cell? ⟨xb, 3, none⟩ = some (.int .i64 m.svc) := hB2.cell rfl
  have b4 : w2.cell? ⟨xb, 4, none⟩ = some (.slice a' n c') := hB2.cell rfl
  have b5 : w2.cell? ⟨xb, 5, none⟩ = some (.string (mkB m.pay)) := hB2.cell rfl
  have hA := Lib.hid hA2
  have hB := Lib.hid hB2
  rw [← hcA] at hw1 ⊢
  rw [← hcB] at hw2 ⊢
  replace hw1 := Lib.hid hw1
  replace hw2 := Lib.hid hw2
  replace hxa := Lib.hid hxa
  replace hxb := Lib.hid hxb
  clear hcA hcB hA1 hA2 hB2 hb1 hb2 h h'
  obtain ⟨ds, hds⟩ : ∃ z, z = m.deps := ⟨_, rfl⟩
  rw [← hds] at h2 h2' hl
  generalize m.frm = mf at a0 b0
  generalize m.seq = mq at a1 b1
  generalize m.stamp = mt at a2 b2
  generalize m.svc = ms at a3 b3
  generalize mkB m.pay = P at a5 b5
  go_enter Tryz.func23, Tryz.ntmps23
  go_upto_region 1 with (first
    | (refine wpList_blk_box rfl (.tmp 0) rfl rfl xa hxa.out.symm ?_; rw [← hw1.out])
    | (refine wpList_blk_box rfl (.tmp 1) rfl rfl xb hxb.out.symm ?_; rw [← hw2.out]))
  go_wp2
  go_loopw [5] (fun iv wr => ∃ (k : Nat), k ≤ n ∧ iv = .int .i64 k ∧ Hid (Below w2.heap.size w2 wr)) (fun iv _ => n - (RowKit.intOf iv).toNat)
  case atStart => exact ⟨0, Nat.zero_le _, rfl, Lib.hid (Below.refl _ _)⟩
  case round =>
    obtain ⟨k, hk, rfl, hb⟩ := hrel
    obtain ⟨w3, rfl⟩ : ∃ z, z = wr := ⟨_, rfl⟩
    have p4 : w3.cell? ⟨xa, 4, none⟩ = some (.slice a n c) := (hA.out.below hb.out hA.out.lt).cell (by rfl)
    have q4 : w3.cell? ⟨xb, 4, none⟩ = some (.slice a' n c') := (hB.out.below hb.out hB.out.lt).cell (by rfl)
    clear a0 a1 a2 a3 a4 a5 b0 b1 b2 b3 b4 b5
    by_cases hkn : k < n
    · have hkI : (k : Int) < n := by omega
      have hkl : k < ds.length := by rw [hl.out]; exact hkn
      obtain ⟨g, off, rfl, _⟩ := h2.out.addr (by omega)
      obtain ⟨g', off', rfl, _⟩ := h2'.out.addr (by omega)
      have hat : (c32 ds)[k]? = some (.int .u32 (ds[k] : Int)) := by unfold c32; rw [List.getElem?_map, List.getElem?_eq_getElem hkl]; rfl
      have c1 := (h2.out.below hb.out (Nat.le_refl _)).at hat
      have c2 := (h2'.out.below hb.out (Nat.le_refl _)).at hat
      generalize ds[k] = d at *
      clear hat
      go_wp2_with fail
      go_quiet (fail)
      have hbq := Lib.hid (belN hb.out nq)
      generalize w3.drewN nq = w4 at *
      clear c1 c2 p4 q4
      go_wp2
      go_roundw
      case rel => exact ⟨k + 1, by omega, by go_num, hbq⟩
      case measure => simp [RowKit.intOf]; omega
    · have hkI : ¬ (k : Int) < n := by omega
      go_wp2
      go_ret
      exact ⟨rfl, belS hbz.out hb.out⟩
end
end Go.Proofs.YtpkknhhohbobaaaGreatDoor
