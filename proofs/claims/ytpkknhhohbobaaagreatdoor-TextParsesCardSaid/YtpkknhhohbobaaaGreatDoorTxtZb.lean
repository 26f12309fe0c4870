/- text: awake -/
import Derived.Test.YtpkknhhohbobaaaGreatDoorTxtZa
namespace Go.Proofs.YtpkknhhohbobaaaGreatDoor
set_option linter.unusedSimpArgs false
set_option linter.unusedVariables false
open Go.RowKit Go.Sort
def a1X : TEv := { TEv.zero with kind := 3, proc := 1, conf := ⟨5, 0⟩, mem := 3 }
def a1S : W8 := [49, 32, 114, 101, 103, 117, 108, 97, 114, 32, 53, 46, 48, 32, 51]
def a2S : W8 := [50, 32, 115, 116, 111, 112]
def a3S : W8 := [50, 32, 32, 115, 116, 111, 112]
def a4S : W8 := [50, 32, 115, 116, 111, 112, 10, 120, 10]
theorem a1_e : evE a1X = 0 := by decide +kernel
theorem a1_l : lineW a1X = a1S := by decide +kernel
theorem a1_s : prS a1X = ⟨#[49, 32, 114, 101, 103, 117, 108, 97, 114, 32, 53, 46, 48, 32, 51]⟩ := by unfold prS; rw [if_pos a1_e, a1_l]; rfl
theorem a2_p : parE a2S = 0 ∧ (parX a2S).kind = 6 ∧ (parX a2S).proc = 2 := by decide +kernel
theorem a3_p : parE a3S = 4 := by decide +kernel
theorem a4_p : (allT (pcs 10 a4S) 1).1.isNone = true ∧ (allT (pcs 10 a4S) 1).2 = 2 := by decide +kernel
theorem a4_q : allT (pcs 10 a4S) 1 = (none, 2) := by
  obtain ⟨h1, h2⟩ := a4_p
  generalize allT (pcs 10 a4S) 1 = r at *
  obtain ⟨o, k⟩ := r
  cases o with
  | none => cases h2; rfl
  | some l => cases h1
theorem a5_e : evE TEv.zero = 10 := by decide +kernel
theorem a5_s : prS TEv.zero = ⟨#[]⟩ := by unfold prS; rw [if_neg (by rw [a5_e]; decide)]
theorem a_zr {w : World} {x : TEv} (hw : x.Wf) (hd : x.m.deps = []) (hn : x.names = []) (hp : x.m.pay = []) (hs : x.state = []) : EvR w x none 0 0 none 0 0 :=
  ⟨hw, by rw [hd]; exact ⟨⟨rfl, Nat.le_refl 0, Nat.zero_le _, (fun _ => ⟨rfl, rfl⟩)⟩, .inl rfl⟩, by rw [hn]; exact ⟨⟨rfl, Nat.le_refl 0, Nat.zero_le _, (fun _ => ⟨rfl, rfl⟩)⟩, .inl rfl⟩, by decide, by decide, by rw [hp]; decide, by rw [hs]; decide⟩
theorem a1_w : a1X.Wf := ⟨⟨by decide, by decide, by decide⟩, ⟨by decide, by decide, by decide⟩, ⟨by decide, by decide, fun d hd => by cases hd⟩, fun n hn => by cases hn⟩
theorem sizeZE : (#[.int .i64 0, .int .i64 0, .int .u64 0, .int .i64 0, .int .u64 0, .int .i64 0, .int .u64 0, .int .i64 0, .int .u32 0, .int .u64 0, .int .i64 0, .slice none 0 0, .string ⟨#[]⟩, .int .u64 0, .int .u64 0, .int .i64 0, .int .u64 0, .slice none 0 0, .string ⟨#[]⟩] : Array Value).size = 19 := rfl
set_option maxHeartbeats 1000000 in
set_option maxRecDepth 100000 in
theorem awake_any (w : World) (hT : TL w) : Calls Tryz.prog 5 #[] w fun e w' => e = .returned (.bool true) ∧ Below w.heap.size w w' := by
  have H1 := Lib.hid (print_any (a_zr (w := w) a1_w rfl rfl rfl rfl) hT)
  rw [a1_s, a1_e] at H1
  have H2 : Hid (∀ W : World, Below w.heap.size w W → Calls Tryz.prog 6 #[.string ⟨#[50, 32, 115, 116, 111, 112]⟩] W fun e w' => PTry a2S W.heap.size e w' ∧ Below W.heap.size W w') := Lib.hid (fun (W : World) (hb : Below w.heap.size w W) => parse_any a2S (by decide) W (hT.on hb))
  have H3 : Hid (∀ W : World, Below w.heap.size w W → Calls Tryz.prog 6 #[.string ⟨#[50, 32, 32, 115, 116, 111, 112]⟩] W fun e w' => PTry a3S W.heap.size e w' ∧ Below W.heap.size W w') := Lib.hid (fun (W : World) (hb : Below w.heap.size w W) => parse_any a3S (by decide) W (hT.on hb))
  have H4 : Hid (∀ W : World, Below w.heap.size w W → Calls Tryz.prog 12 #[.string ⟨#[50, 32, 115, 116, 111, 112, 10, 120, 10]⟩] W fun e w' => PAll a4S W.heap.size e w' ∧ Below W.heap.size W w') := Lib.hid (fun (W : World) (hb : Below w.heap.size w W) => parseall_any a4S (by decide) W (hT.on hb))
  have H5 := Lib.hid (fun (W : World) (hb : Below w.heap.size w W) => print_any (a_zr (w := W) (x := TEv.zero) (Wf.zero 0 0) rfl rfl rfl rfl) (hT.on hb))
  rw [a5_s, a5_e] at H5
  clear hT
  go_enter Tryz.func5, Tryz.ntmps5
  go_wp2_with (first
    | (refine wpList_blk_build rfl #[(0, .const (.int .u64 5))] rfl (cs := #[.int .u64 5, .int .i64 0]) (by kernel_rfl) ?_)
    | (refine wpList_blk_build rfl #[(0, .const (.int .i64 3)), (1, .const (.int .i64 1)), (2, .tmp 13), (4, .const (.int .u64 3))] rfl (cs := evC a1X none 0 0 none 0 0) (by kernel_rfl) ?_))
  refine H1.out.mono ?_
  rintro e w1 ⟨rfl, hb1⟩
  clear H1
  have H2a := Lib.hid (H2.out _ hb1)
  clear H2
  replace hb1 := Lib.hid hb1
  go_wp2_with fail
  refine H2a.out.mono ?_
  rintro e w2 ⟨⟨da, dc, na, nc, rfl, hf⟩, hb2⟩
  clear hf H2a
  obtain ⟨p1, p2, p3⟩ := a2_p
  rw [p1]
  obtain ⟨cs, hcs⟩ : ∃ z, z = (evC (parX a2S) da (parX a2S).m.deps.length dc na (parX a2S).names.length nc) := ⟨_, rfl⟩
  have hIE : (Tryz.prog.info? 34).map (·.size) = some cs.size := by rw [hcs]; exact Tryz.evI
  have h1c : cs.all (·.oneCell') = true := by rw [hcs]; exact evC_one _ _ _ _ _ _ _
  have h19 : 0 + cs.size ≤ 19 := by rw [hcs, evC_size]; decide
  have hset : setArr #[.int .i64 0, .int .i64 0, .int .u64 0, .int .i64 0, .int .u64 0, .int .i64 0, .int .u64 0, .int .i64 0, .int .u32 0, .int .u64 0, .int .i64 0, .slice none 0 0, .string ⟨#[]⟩, .int .u64 0, .int .u64 0, .int .i64 0, .int .u64 0, .slice none 0 0, .string ⟨#[]⟩] 0 cs.toList = cs := by rw [hcs]; exact evC_set _ _ _ _ _ _ _
  have hc0 : cs[0]? = some (.int .i64 6) := by rw [hcs, ← p2]; rfl
  have hc1 : cs[1]? = some (.int .i64 2) := by rw [hcs, ← p3]; rfl
  rw [← hcs]
  replace hc0 := Lib.hid hc0
  replace hc1 := Lib.hid hc1
  clear hcs p1 p2 p3
  have hN2 := BlkAt.new w2 34 #[.int .i64 0, .int .i64 0, .int .u64 0, .int .i64 0, .int .u64 0, .int .i64 0, .int .u64 0, .int .i64 0, .int .u32 0, .int .u64 0, .int .i64 0, .slice none 0 0, .string ⟨#[]⟩, .int .u64 0, .int .u64 0, .int .i64 0, .int .u64 0, .slice none 0 0, .string ⟨#[]⟩]
  have hb2a := alloc_below w2 (.cells #[.int .i64 0, .int .i64 0, .int .u64 0, .int .i64 0, .int .u64 0, .int .i64 0, .int .u64 0, .int .i64 0, .int .u32 0, .int .u64 0, .int .i64 0, .slice none 0 0, .string ⟨#[]⟩, .int .u64 0, .int .u64 0, .int .i64 0, .int .u64 0, .slice none 0 0, .string ⟨#[]⟩] 34)
  replace hb2 := Lib.hid hb2
  go_upto_region 3 with (first
    | (refine wpList_blk_put (cs := cs) rfl (.tmp 3) (.tmp 20) rfl rfl rfl hN2 hIE h19 h1c ?_; intro w3 hX3 hK3 hs3; rw [hset] at hX3; have hb3 := Lib.hid (Kp.below hb2a hK3 (Nat.le_refl _) hb2a.size)))
  have hB3 := Lib.hid (belS (belS hb1.out hb2.out) hb3.out)
  have H3a := Lib.hid (H3.out _ hB3.out)
  clear hIE h1c h19 hset hb1 hb2 hb3 hb2a hN2 hK3 hs3 H3
  generalize w2.heap.size = xb at *
  replace hX3 := Lib.hid hX3
  go_wp2_with fail
  refine H3a.out.mono ?_
  rintro e w4 ⟨⟨da, dc, na, nc, rfl, hf⟩, hb4⟩
  clear H3a
  rw [a3_p]
  have hparX : parX a3S = TEv.zero := by unfold parX; rw [(parE_ne (s := a3S) (by rw [a3_p]; decide)).1]; rfl
  obtain ⟨cs2, hcs2⟩ : ∃ z, z = (evC (parX a3S) da (parX a3S).m.deps.length dc na (parX a3S).names.length nc) := ⟨_, rfl⟩
  have hIE : (Tryz.prog.info? 34).map (·.size) = some cs2.size := by rw [hcs2]; exact Tryz.evI
  have h1c : cs2.all (·.oneCell') = true := by rw [hcs2]; exact evC_one _ _ _ _ _ _ _
  have h19 : 0 + cs2.size ≤ 19 := by rw [hcs2, evC_size]; decide
  rw [← hcs2]
  clear hcs2 hparX hf
  have hN4 := BlkAt.new w4 34 #[.int .i64 0, .int .i64 0, .int .u64 0, .int .i64 0, .int .u64 0, .int .i64 0, .int .u64 0, .int .i64 0, .int .u32 0, .int .u64 0, .int .i64 0, .slice none 0 0, .string ⟨#[]⟩, .int .u64 0, .int .u64 0, .int .i64 0, .int .u64 0, .slice none 0 0, .string ⟨#[]⟩]
  have hb4a := alloc_below w4 (.cells #[.int .i64 0, .int .i64 0, .int .u64 0, .int .i64 0, .int .u64 0, .int .i64 0, .int .u64 0, .int .i64 0, .int .u32 0, .int .u64 0, .int .i64 0, .slice none 0 0, .string ⟨#[]⟩, .int .u64 0, .int .u64 0, .int .i64 0, .int .u64 0, .slice none 0 0, .string ⟨#[]⟩] 34)
  have hX4 := Lib.hid (hX3.out.below hb4 hX3.out.lt)
  have hX4a := Lib.hid (hX4.out.below hb4a hX4.out.lt)
  have hxl := hX4.out.lt
  replace hb4 := Lib.hid hb4
  go_upto_region 4 with (first
    | (refine wpList_blk_put (cs := cs2) rfl (.tmp 5) (.tmp 24) rfl rfl rfl hN4 hIE h19 h1c ?_; intro w5 hX5 hK5 hs5; have hb5 := Lib.hid (Kp.below hb4a hK5 (Nat.le_refl _) hb4a.size); have hY5 := Lib.hid (hK5.blk hX4a.out (by omega))))
  have hB5 := Lib.hid (belS (belS hB3.out hb4.out) hb5.out)
  have H4a := Lib.hid (H4.out _ hB5.out)
  clear hIE h1c h19 hb4 hb5 hb4a hN4 hK5 hs5 H4 hX5 hX4 hX4a hB3 hX3 hxl
  go_wp2_with fail
  refine H4a.out.mono ?_
  rintro e w6 ⟨hp, hb6⟩
  unfold PAll at hp
  rw [a4_q] at hp
  obtain rfl : e = .returned (.tuple #[.slice none 0 0, .int .i64 2, .int .i64 4]) := hp
  have hB6 := Lib.hid (belS hB5.out hb6)
  have hY6 := Lib.hid (hY5.out.below hb6 hY5.out.lt)
  have H5a := Lib.hid (H5.out _ hB6.out)
  clear hB5 hb6 hY5 H5 H4a
  go_wp2_with (first
    | (refine wpList_blk_build rfl _ rfl (cs := evC TEv.zero none 0 0 none 0 0) (by kernel_rfl) ?_))
  refine H5a.out.mono ?_
  rintro e w7 ⟨rfl, hb7⟩
  have hB7 := Lib.hid (belS hB6.out hb7)
  have hY7 := hY6.out.below hb7 hY6.out.lt
  have c0 : w7.cell? ⟨xb, 0, none⟩ = some (.int .i64 6) := hY7.cell hc0.out
  have c1 : w7.cell? ⟨xb, 1, none⟩ = some (.int .i64 2) := hY7.cell hc1.out
  clear hB6 hb7 hY6 H5a hY7 hc0 hc1
  go_wp2
  go_ret
  exact ⟨rfl, hB7.out⟩
end Go.Proofs.YtpkknhhohbobaaaGreatDoor
