/- text: Parse -/
import Derived.Test.YtpkknhhohbobaaaGreatDoorTxtYQ
namespace Go.Proofs.YtpkknhhohbobaaaGreatDoor
set_option linter.unusedSimpArgs false
set_option linter.unusedVariables false
open Go.RowKit Go.Sort
theorem parE_ne {s : W8} (h : parE s ≠ 0) : parseL s = none ∧ parE s = 4 := by
  unfold parE at h ⊢
  cases e : parseL s with
  | none => exact ⟨rfl, rfl⟩
  | some y => rw [e] at h; exact absurd rfl h
theorem parE_eq {s : W8} (h : parE s = 0) : ∃ y, parseL s = some y := by
  unfold parE at h
  cases e : parseL s with
  | none => rw [e] at h; exact absurd h (by decide)
  | some y => exact ⟨y, rfl⟩
set_option maxHeartbeats 3200000 in
set_option maxRecDepth 100000 in
theorem parse_any (s : W8) (hs : s.length < 4294967281) (w : World) (hT : TL w) :
    Calls Tryz.prog 6 #[.string (mkB s)] w fun e w' => PTry s w.heap.size e w' ∧ Below w.heap.size w w' := by
  have hb0 := alloc_below w (.cells #[.int .i64 0, .int .i64 0, .int .u64 0, .int .i64 0, .int .u64 0, .int .i64 0, .int .u64 0, .int .i64 0, .int .u32 0, .int .u64 0, .int .i64 0, .slice none 0 0, .string ⟨#[]⟩, .int .u64 0, .int .u64 0, .int .i64 0, .int .u64 0, .slice none 0 0, .string ⟨#[]⟩] 34)
  have hM := BlkAt.new w 34 #[.int .i64 0, .int .i64 0, .int .u64 0, .int .i64 0, .int .u64 0, .int .i64 0, .int .u64 0, .int .i64 0, .int .u32 0, .int .u64 0, .int .i64 0, .slice none 0 0, .string ⟨#[]⟩, .int .u64 0, .int .u64 0, .int .i64 0, .int .u64 0, .slice none 0 0, .string ⟨#[]⟩]
  obtain ⟨w0, hw0⟩ : ∃ z, z = w.alloc (.cells #[.int .i64 0, .int .i64 0, .int .u64 0, .int .i64 0, .int .u64 0, .int .i64 0, .int .u64 0, .int .i64 0, .int .u32 0, .int .u64 0, .int .i64 0, .slice none 0 0, .string ⟨#[]⟩, .int .u64 0, .int .u64 0, .int .i64 0, .int .u64 0, .slice none 0 0, .string ⟨#[]⟩] 34) := ⟨_, rfl⟩
  have hs0 : w0.heap.size = w.heap.size + 1 := by rw [hw0]; simp
  rw [← hw0] at hb0 hM
  obtain ⟨mb, hmb⟩ : ∃ z, z = w.heap.size := ⟨_, rfl⟩
  rw [← hmb] at hM
  have HT := Lib.hid (tryp_any s hs w0 (hT.on hb0))
  replace hw0 := Lib.hid hw0
  replace hmb := Lib.hid hmb
  replace hM := Lib.hid hM
  replace hb0 := Lib.hid hb0
  have hIZ : (Tryz.prog.info? 34).map (·.size) = some 19 := by kernel_rfl
  clear hT
  go_enter Tryz.func6, Tryz.ntmps6
  go_wp2_with fail
  rw [← hw0.out, ← hmb.out]
  refine HT.out.mono ?_
  rintro e w1 ⟨⟨da, dc, na, nc, rfl, hF⟩, hb1⟩
  have hM1 := Lib.hid (hM.out.below hb1 hM.out.lt)
  have hB1 := Lib.hid (hb0.out.trans (hb1.mono (by omega)))
  obtain ⟨cs, hcs⟩ : ∃ z, z = (evC (parX s) da (parX s).m.deps.length dc na (parX s).names.length nc) := ⟨_, rfl⟩
  have hIE : (Tryz.prog.info? 34).map (·.size) = some cs.size := by rw [hcs]; exact Tryz.evI
  have h1c : cs.all (·.oneCell') = true := by rw [hcs]; exact evC_one _ _ _ _ _ _ _
  have h19 : 0 + cs.size ≤ 19 := by rw [hcs, evC_size]; decide
  have hset : setArr #[.int .i64 0, .int .i64 0, .int .u64 0, .int .i64 0, .int .u64 0, .int .i64 0, .int .u64 0, .int .i64 0, .int .u32 0, .int .u64 0, .int .i64 0, .slice none 0 0, .string ⟨#[]⟩, .int .u64 0, .int .u64 0, .int .i64 0, .int .u64 0, .slice none 0 0, .string ⟨#[]⟩] 0 cs.toList = cs := by rw [hcs]; exact evC_set _ _ _ _ _ _ _
  rw [← hcs]
  replace hcs := Lib.hid hcs
  have hN1 := BlkAt.new w1 34 #[.int .i64 0, .int .i64 0, .int .u64 0, .int .i64 0, .int .u64 0, .int .i64 0, .int .u64 0, .int .i64 0, .int .u32 0, .int .u64 0, .int .i64 0, .slice none 0 0, .string ⟨#[]⟩, .int .u64 0, .int .u64 0, .int .i64 0, .int .u64 0, .slice none 0 0, .string ⟨#[]⟩]
  have hb2 := alloc_below w1 (.cells #[.int .i64 0, .int .i64 0, .int .u64 0, .int .i64 0, .int .u64 0, .int .i64 0, .int .u64 0, .int .i64 0, .int .u32 0, .int .u64 0, .int .i64 0, .slice none 0 0, .string ⟨#[]⟩, .int .u64 0, .int .u64 0, .int .i64 0, .int .u64 0, .slice none 0 0, .string ⟨#[]⟩] 34)
  have hlt0 : mb < w0.heap.size := hM.out.lt
  have hlt1 := hM1.out.lt
  replace hF := Lib.hid hF
  clear HT hM hb0 hb1
  by_cases h0 : parE s = 0
  · have hz := Lib.hid h0
    rw [h0]
    clear h0
    go_wp2_with (first
      | (refine wpList_blk_put (cs := cs) rfl (.tmp 4) (.tmp 9) rfl rfl rfl hN1 hIE h19 h1c ?_; intro w3 hX3 hK3 hs3; rw [hset] at hX3; have hM3 := hK3.blk (hM1.out.below hb2 hlt1) (by omega); have hb3 := Lib.hid (Kp.below hb2 hK3 (Nat.le_refl _) hb2.size))
      | (refine wpList_blk_load rfl (.tmp 4) rfl Tryz.underlying34 rfl rfl hX3 hIE ?_)
      | (refine wpList_blk_put (cs := cs) rfl (.tmp 2) (.tmp 15) rfl rfl rfl hM3 hIE h19 h1c ?_; intro w4 hX4 hK4 hs4; rw [hset] at hX4))
    have hb4 := Kp.below (hB1.out.trans (hb3.out.mono hB1.out.size)) hK4 (by have := hmb.out; omega) (by have := hB1.out.size; have := hb3.out.size; omega)
    refine bodyPost_ret (results_cellslot rfl _ _ mb 34 cs (0, 0) _ rfl hX4 Tryz.underlying34 rfl hIE) rfl ?_
    refine ⟨⟨da, dc, na, nc, by rw [hcs.out, hz.out]; rfl, ((hF.out.below hb3.out).kp hK4 hlt0).mono (by omega)⟩, hb4⟩
  · have h0b : (parE s != 0) = true := by simpa using h0
    obtain ⟨hp, h4⟩ := parE_ne h0
    replace hp := Lib.hid hp
    clear h0
    rw [h4] at h0b
    rw [h4]
    clear h4
    go_wp2_with (first
      | (refine wpList_blk_put (cs := cs) rfl (.tmp 4) (.tmp 9) rfl rfl rfl hN1 hIE h19 h1c ?_; intro w3 hX3 hK3 hs3; rw [hset] at hX3; have hM3 := hK3.blk (hM1.out.below hb2 hlt1) (by omega); have hb3 := Lib.hid (Kp.below hb2 hK3 (Nat.le_refl _) hb2.size))
      | (refine wpList_blk_build rfl _ rfl (cs := #[.int .i64 0, .int .i64 0, .int .u64 0, .int .i64 0, .int .u64 0, .int .i64 0, .int .u64 0, .int .i64 0, .int .u32 0, .int .u64 0, .int .i64 0, .slice none 0 0, .string ⟨#[]⟩, .int .u64 0, .int .u64 0, .int .i64 0, .int .u64 0, .slice none 0 0, .string ⟨#[]⟩]) (by kernel_rfl) ?_)
      | (refine wpList_blk_put (cs := #[.int .i64 0, .int .i64 0, .int .u64 0, .int .i64 0, .int .u64 0, .int .i64 0, .int .u64 0, .int .i64 0, .int .u32 0, .int .u64 0, .int .i64 0, .slice none 0 0, .string ⟨#[]⟩, .int .u64 0, .int .u64 0, .int .i64 0, .int .u64 0, .slice none 0 0, .string ⟨#[]⟩]) rfl (.tmp 2) (.tmp 13) rfl rfl rfl hM3 hIZ (by decide) (by kernel_rfl) ?_; intro w4 hX4 hK4 hs4))
    have hb4 := Kp.below (hB1.out.trans (hb3.out.mono hB1.out.size)) hK4 (by have := hmb.out; omega) (by have := hB1.out.size; have := hb3.out.size; omega)
    refine bodyPost_ret (results_cellslot rfl _ _ mb 34 (evC TEv.zero none 0 0 none 0 0) (0, 0) _ rfl hX4 Tryz.underlying34 rfl Tryz.evI) rfl ?_
    exact ⟨PTry.no hp.out rfl, hb4⟩
end Go.Proofs.YtpkknhhohbobaaaGreatDoor
