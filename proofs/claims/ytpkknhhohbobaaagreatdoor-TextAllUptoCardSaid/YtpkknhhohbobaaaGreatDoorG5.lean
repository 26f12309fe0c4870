/- text: awake; text: TextPrints; text: the reference's Names, Same and Events: like events are told so -/
import Derived.Test.YtpkknhhohbobaaaGreatDoorTxtZaQ
namespace Go.Proofs.YtpkknhhohbobaaaGreatDoor
set_option linter.unusedSimpArgs false
set_option linter.unusedVariables false
open Go.RowKit Go.Sort
def a1X : TEv := { TEv.zero with kind := 3, proc := 1, conf := ⟨5, 0⟩, mem := 3 }
def a1S : W8 := [49, 32, 114, 101, 103, 117, 108, 97, 114, 32, 53, 46, 48, 32, 51]
def a2S : W8 := [50, 32, 115, 116, 111, 112]
def a3S : W8 := [50, 32, 32, 115, 116, 111, 112]
def a4S : W8 := [50, 32, 115, 116, 111, 112, 10, 120, 10]
theorem a1_e : evE a1X = 0 := by decide +kernel
theorem a1_l : lineW a1X = a1S := by decide +kernel
theorem a1_s : prS a1X = ⟨#[49, 32, 114, 101, 103, 117, 108, 97, 114, 32, 53, 46, 48, 32, 51]⟩ := by unfold prS; rw [if_pos a1_e, a1_l]; rfl
theorem a2_p : parE a2S = 0 ∧ (parX a2S).kind = 6 ∧ (parX a2S).proc = 2 := by decide +kernel
theorem a3_p : parE a3S = 4 := by decide +kernel
theorem a4_p : (allT (pcs 10 a4S) 1).1.isNone = true ∧ (allT (pcs 10 a4S) 1).2 = 2 := by decide +kernel
theorem a4_q : allT (pcs 10 a4S) 1 = (none, 2) := by
  obtain ⟨h1, h2⟩ := a4_p
  generalize allT (pcs 10 a4S) 1 = r at *
  obtain ⟨o, k⟩ := r
  cases o with
  | none => cases h2; rfl
  | some l => cases h1
theorem a5_e : evE TEv.zero = 10 := by decide +kernel
theorem a5_s : prS TEv.zero = ⟨#[]⟩ := by unfold prS; rw [if_neg (by rw [a5_e]; decide)]
theorem a_zr {w : World} {x : TEv} (hw : x.Wf) (hd : x.m.deps = []) (hn : x.names = []) (hp : x.m.pay = []) (hs : x.state = []) : EvR w x none 0 0 none 0 0 :=
  ⟨hw, by rw [hd]; exact ⟨⟨rfl, Nat.le_refl 0, Nat.zero_le _, (fun _ => ⟨rfl, rfl⟩)⟩, .inl rfl⟩, by rw [hn]; exact ⟨⟨rfl, Nat.le_refl 0, Nat.zero_le _, (fun _ => ⟨rfl, rfl⟩)⟩, .inl rfl⟩, by decide, by decide, by rw [hp]; decide, by rw [hs]; decide⟩
theorem a1_w : a1X.Wf := ⟨⟨by decide, by decide, by decide⟩, ⟨by decide, by decide, by decide⟩, ⟨by decide, by decide, fun d hd => by cases hd⟩, fun n hn => by cases hn⟩
theorem sizeZE : (#[.int .i64 0, .int .i64 0, .int .u64 0, .int .i64 0, .int .u64 0, .int .i64 0, .int .u64 0, .int .i64 0, .int .u32 0, .int .u64 0, .int .i64 0, .slice none 0 0, .string ⟨#[]⟩, .int .u64 0, .int .u64 0, .int .i64 0, .int .u64 0, .slice none 0 0, .string ⟨#[]⟩] : Array Value).size = 19 := rfl
set_option maxHeartbeats 1000000 in
set_option maxRecDepth 100000 in
theorem awake_any (w : World) (hT : TL w) : Calls Tryz.prog 5 #[] w fun e w' => e = .returned (.bool true) ∧ Below w.heap.size w w' := by
  have H1 := Lib.hid (print_any (a_zr (w := w) a1_w rfl rfl rfl rfl) hT)
  rw [a1_s, a1_e] at H1
  have H2 : Hid (∀ W : World, Below w.heap.size w W → Calls Tryz.prog 6 #[.string ⟨#[50, 32, 115, 116, 111, 112]⟩] W fun e w' => PTry a2S W.heap.size e w' ∧ Below W.heap.size W w') := Lib.hid (fun (W : World) (hb : Below w.heap.size w W) => parse_any a2S (by decide) W (hT.on hb))
  have H3 : Hid (∀ W : World, Below w.heap.size w W → Calls Tryz.prog 6 #[.string ⟨#[50, 32, 32, 115, 116, 111, 112]⟩] W fun e w' => PTry a3S W.heap.size e w' ∧ Below W.heap.size W w') := Lib.hid (fun (W : World) (hb : Below w.heap.size w W) => parse_any a3S (by decide) W (hT.on hb))
  have H4 : Hid (∀ W : World, Below w.heap.size w W → Calls Tryz.prog 12 #[.string ⟨#[50, 32, 115, 116, 111, 112, 10, 120, 10]⟩] W fun e w' => PAll a4S W.heap.size e w' ∧ Below W.heap.size W w') := Lib.hid (fun (W : World) (hb : Below w.heap.size w W) => parseall_any a4S (by decide) W (hT.on hb))
  have H5 := Lib.hid (fun (W : World) (hb : Below w.heap.size w W) => print_any (a_zr (w := W) (x := TEv.zero) (Wf.zero 0 0) rfl rfl rfl rfl) (hT.on hb))
  rw [a5_s, a5_e] at H5
  clear hT
  go_enter Tryz.func5, Tryz.ntmps5
  go_wp2_with (first
    | (refine wpList_blk_build rfl #[(0, .const (.int .u64 5))] rfl (cs := #[.int .u64 5, .int .i64 0]) (by kernel_rfl) ?_)
    | (refine wpList_blk_build rfl #[(0, .const (.int .i64 3)), (1, .const (.int .i64 1)), (2, .tmp 13), (4, .const (.int .u64 3))] rfl (cs := evC a1X none 0 0 none 0 0) (by kernel_rfl) ?_))
  refine H1.out.mono ?_
  rintro e w1 ⟨rfl, hb1⟩
  clear H1
  have H2a := Lib.hid (H2.out _ hb1)
  clear H2
  replace hb1 := Lib.hid hb1
  go_wp2_with fail
  refine H2a.out.mono ?_
  rintro e w2 ⟨⟨da, dc, na, nc, rfl, hf⟩, hb2⟩
  clear hf H2a
  obtain ⟨p1, p2, p3⟩ := a2_p
  rw [p1]
  obtain ⟨cs, hcs⟩ : ∃ z, z = (evC (parX a2S) da (parX a2S).m.deps.length dc na (parX a2S).names.length nc) := ⟨_, rfl⟩
  have hIE : (Tryz.prog.info? 34).map (·.size) = some cs.size := by rw [hcs]; exact Tryz.evI
  have h1c : cs.all (·.oneCell') = true := by rw [hcs]; exact evC_one _ _ _ _ _ _ _
  have h19 : 0 + cs.size ≤ 19 := by rw [hcs, evC_size]; decide
  have hset : setArr #[.int .i64 0, .int .i64 0, .int .u64 0, .int .i64 0, .int .u64 0, .int .i64 0, .int .u64 0, .int .i64 0, .int .u32 0, .int .u64 0, .int .i64 0, .slice none 0 0, .string ⟨#[]⟩, .int .u64 0, .int .u64 0, .int .i64 0, .int .u64 0, .slice none 0 0, .string ⟨#[]⟩] 0 cs.toList = cs := by rw [hcs]; exact evC_set _ _ _ _ _ _ _
  have hc0 : cs[0]? = some (.int .i64 6) := by rw [hcs, ← p2]; rfl
  have hc1 : cs[1]? = some (.int .i64 2) := by rw [hcs, ← p3]; rfl
  rw [← hcs]
  replace hc0 := Lib.hid hc0
  replace hc1 := Lib.hid hc1
  clear hcs p1 p2 p3
  have hN2 := BlkAt.new w2 34 #[.int .i64 0, .int .i64 0, .int .u64 0, .int .i64 0, .int .u64 0, .int .i64 0, .int .u64 0, .int .i64 0, .int .u32 0, .int .u64 0, .int .i64 0, .slice none 0 0, .string ⟨#[]⟩, .int .u64 0, .int .u64 0, .int .i64 0, .int .u64 0, .slice none 0 0, .string ⟨#[]⟩]
  have hb2a := alloc_below w2 (.cells #[.int .i64 0, .int .i64 0, .int .u64 0, .int .i64 0, .int .u64 0, .int .i64 0, .int .u64 0, .int .i64 0, .int .u32 0, .int .u64 0, .int .i64 0, .slice none 0 0, .string ⟨#[]⟩, .int .u64 0, .int .u64 0, .int .i64 0, .int .u64 0, .slice none 0 0, .string ⟨#[]⟩] 34)
  replace hb2 := Lib.hid hb2
  go_upto_region 3 with (first
    | (refine wpList_blk_put (cs := cs) rfl (.tmp 3) (.tmp 20) rfl rfl rfl hN2 hIE h19 h1c ?_; intro w3 hX3 hK3 hs3; rw [hset] at hX3; have hb3 := Lib.hid (Kp.below hb2a hK3 (Nat.le_refl _) hb2a.size)))
  have hB3 := Lib.hid (belS (belS hb1.out hb2.out) hb3.out)
  have H3a := Lib.hid (H3.out _ hB3.out)
  clear hIE h1c h19 hset hb1 hb2 hb3 hb2a hN2 hK3 hs3 H3
  generalize w2.heap.size = xb at *
  replace hX3 := Lib.hid hX3
  go_wp2_with fail
  refine H3a.out.mono ?_
  rintro e w4 ⟨⟨da, dc, na, nc, rfl, hf⟩, hb4⟩
  clear H3a
  rw [a3_p]
  have hparX : parX a3S = TEv.zero := by unfold parX; rw [(parE_ne (s := a3S) (by rw [a3_p]; decide)).1]; rfl
  obtain ⟨cs2, hcs2⟩ : ∃ z, z = (evC (parX a3S) da (parX a3S).m.deps.length dc na (parX a3S).names.length nc) := ⟨_, rfl⟩
  have hIE : (Tryz.prog.info? 34).map (·.size) = some cs2.size := by rw [hcs2]; exact Tryz.evI
  have h1c : cs2.all (·.oneCell') = true := by rw [hcs2]; exact evC_one _ _ _ _ _ _ _
  have h19 : 0 + cs2.size ≤ 19 := by rw [hcs2, evC_size]; decide
  rw [← hcs2]
  clear hcs2 hparX hf
  have hN4 := BlkAt.new w4 34 #[.int .i64 0, .int .i64 0, .int .u64 0, .int .i64 0, .int .u64 0, .int .i64 0, .int .u64 0, .int .i64 0, .int .u32 0, .int .u64 0, .int .i64 0, .slice none 0 0, .string ⟨#[]⟩, .int .u64 0, .int .u64 0, .int .i64 0, .int .u64 0, .slice none 0 0, .string ⟨#[]⟩]
  have hb4a := alloc_below w4 (.cells #[.int .i64 0, .int .i64 0, .int .u64 0, .int .i64 0, .int .u64 0, .int .i64 0, .int .u64 0, .int .i64 0, .int .u32 0, .int .u64 0, .int .i64 0, .slice none 0 0, .string ⟨#[]⟩, .int .u64 0, .int .u64 0, .int .i64 0, .int .u64 0, .slice none 0 0, .string ⟨#[]⟩] 34)
  have hX4 := Lib.hid (hX3.out.below hb4 hX3.out.lt)
  have hX4a := Lib.hid (hX4.out.below hb4a hX4.out.lt)
  have hxl := hX4.out.lt
  replace hb4 := Lib.hid hb4
  go_upto_region 4 with (first
    | (refine wpList_blk_put (cs := cs2) rfl (.tmp 5) (.tmp 24) rfl rfl rfl hN4 hIE h19 h1c ?_; intro w5 hX5 hK5 hs5; have hb5 := Lib.hid (Kp.below hb4a hK5 (Nat.le_refl _) hb4a.size); have hY5 := Lib.hid (hK5.blk hX4a.out (by omega))))
  have hB5 := Lib.hid (belS (belS hB3.out hb4.out) hb5.out)
  have H4a := Lib.hid (H4.out _ hB5.out)
  clear hIE h1c h19 hb4 hb5 hb4a hN4 hK5 hs5 H4 hX5 hX4 hX4a hB3 hX3 hxl
  go_wp2_with fail
  refine H4a.out.mono ?_
  rintro e w6 ⟨hp, hb6⟩
  unfold PAll at hp
  rw [a4_q] at hp
  obtain rfl : e = .returned (.tuple #[.slice none 0 0, .int .i64 2, .int .i64 4]) := hp
  have hB6 := Lib.hid (belS hB5.out hb6)
  have hY6 := Lib.hid (hY5.out.below hb6 hY5.out.lt)
  have H5a := Lib.hid (H5.out _ hB6.out)
  clear hB5 hb6 hY5 H5 H4a
  go_wp2_with (first
    | (refine wpList_blk_build rfl _ rfl (cs := evC TEv.zero none 0 0 none 0 0) (by kernel_rfl) ?_))
  refine H5a.out.mono ?_
  rintro e w7 ⟨rfl, hb7⟩
  have hB7 := Lib.hid (belS hB6.out hb7)
  have hY7 := hY6.out.below hb7 hY6.out.lt
  have c0 : w7.cell? ⟨xb, 0, none⟩ = some (.int .i64 6) := hY7.cell hc0.out
  have c1 : w7.cell? ⟨xb, 1, none⟩ = some (.int .i64 2) := hY7.cell hc1.out
  clear hB6 hb7 hY6 H5a hY7 hc0 hc1
  go_wp2
  go_ret
  exact ⟨rfl, hB7.out⟩
end Go.Proofs.YtpkknhhohbobaaaGreatDoor
namespace Go.Proofs.YtpkknhhohbobaaaGreatDoor
set_option linter.unusedSimpArgs false
set_option linter.unusedVariables false
open Go.RowKit Go.Sort
theorem flatMap_erC1 (e : Er) : [e].flatMap erC = erC e := by simp
theorem erC_arr {cs : Array Value} {e : Er} (h : cs.toList = erC e) : cs = evC e.x e.da e.dn e.dc e.na e.nn e.nc := by
  rw [← Array.toArray_toList (xs := cs), h]
  exact Array.toArray_toList
end Go.Proofs.YtpkknhhohbobaaaGreatDoor
namespace Go.Proofs.YtpkknhhohbobaaaGreatDoor
set_option linter.unusedSimpArgs false
set_option linter.unusedVariables false
open Go.RowKit Go.Sort
section
variable {w w' : World}
set_option maxHeartbeats 1600000 in
set_option maxRecDepth 100000 in
theorem rnames_same (l : List TNm) (a a' : Option Addr) (n c c' : Nat) (w : World) (h : Rd w 2 a n c (l.flatMap nmC)) (h' : Rd w 2 a' n c' (l.flatMap nmC)) :
    Calls Tryz.prog 24 #[.slice a n c, .slice a' n c'] w fun e w' => e = .returned (.bool true) ∧ Below w.heap.size w w' := by
  have hl : Hid (l.length = n) := Lib.hid (by have := h.length_eq; rw [flatMap_len nmC_len] at this; omega)
  have hmx := h.le_max
  unfold maxLen at hmx
  replace h := Lib.hid h
  replace h' := Lib.hid h'
  go_enter Tryz.func24, Tryz.ntmps24
  go_wp2
  go_loopw [5] (fun iv wr => ∃ (k : Nat), k ≤ n ∧ iv = .int .i64 k ∧ Hid (Below w.heap.size w wr)) (fun iv _ => n - (RowKit.intOf iv).toNat)
  case atStart => exact ⟨0, Nat.zero_le _, rfl, Lib.hid (Below.refl _ _)⟩
  case round =>
    obtain ⟨k, hk, rfl, hb⟩ := hrel
    obtain ⟨w1, rfl⟩ : ∃ z, z = wr := ⟨_, rfl⟩
    by_cases hkn : k < n
    · have hkI : (k : Int) < n := by omega
      have hkl : k < l.length := by rw [hl.out]; exact hkn
      obtain ⟨g, off, rfl, _⟩ := h.out.addr (by omega)
      obtain ⟨g', off', rfl, _⟩ := h'.out.addr (by omega)
      obtain ⟨c1, c2⟩ := own_nm (h.out.below hb.out (Nat.le_refl _)) k hkl
      obtain ⟨c3, c4⟩ := own_nm (h'.out.below hb.out (Nat.le_refl _)) k hkl
      generalize l[k].proc = p at *
      generalize l[k].inc = q at *
      go_wp2_with fail
      go_quiet (fail)
      have hbq := Lib.hid (belN hb.out nq)
      generalize w1.drewN nq = w2 at *
      clear c1 c2 c3 c4
      go_wp2
      go_roundw
      case rel => exact ⟨k + 1, by omega, by go_num, hbq⟩
      case measure => simp [RowKit.intOf]; omega
    · have hkI : ¬ (k : Int) < n := by omega
      go_wp2
      go_ret
      exact ⟨rfl, hb.out⟩
set_option maxHeartbeats 3200000 in
set_option maxRecDepth 100000 in
theorem rsame_same (m : TMg) (a a' : Option Addr) (n c c' : Nat) (w : World) (h : Rd w 1 a n c (c32 m.deps)) (h' : Rd w 1 a' n c' (c32 m.deps)) :
    Calls Tryz.prog 23 #[.agg (mgA m a n c), .agg (mgA m a' n c')] w fun e w' => e = .returned (.bool true) ∧ Below w.heap.size w w' := by
  have hl : Hid (m.deps.length = n) := Lib.hid (by have := h.length_eq; unfold c32 at this; rw [List.length_map] at this; omega)
  have hmx := h.le_max
  unfold maxLen at hmx
  have hb1 := alloc_below w (.cells (mgA m a n c) 29)
  obtain ⟨w1, hw1⟩ : ∃ z, z = w.alloc (.cells (mgA m a n c) 29) := ⟨_, rfl⟩
  have hA1 : BlkAt w1 w.heap.size 29 (mgA m a n c) := by rw [hw1]; exact BlkAt.new _ _ _
  rw [← hw1] at hb1
  have hb2 := alloc_below w1 (.cells (mgA m a' n c') 29)
  obtain ⟨w2, hw2⟩ : ∃ z, z = w1.alloc (.cells (mgA m a' n c') 29) := ⟨_, rfl⟩
  have hB2 : BlkAt w2 w1.heap.size 29 (mgA m a' n c') := by rw [hw2]; exact BlkAt.new _ _ _
  rw [← hw2] at hb2
  have hA2 := hA1.below hb2 hA1.lt
  have hbz := Lib.hid (belS hb1 hb2)
  obtain ⟨xa, hxa⟩ : ∃ z, z = w.heap.size := ⟨_, rfl⟩
  obtain ⟨xb, hxb⟩ : ∃ z, z = w1.heap.size := ⟨_, rfl⟩
  rw [← hxa] at hA2
  rw [← hxb] at hB2
  have h2 := Lib.hid (h.below hbz.out (Nat.le_refl _))
  have h2' := Lib.hid (h'.below hbz.out (Nat.le_refl _))
  obtain ⟨cA, hcA⟩ : ∃ z, z = mgA m a n c := ⟨_, rfl⟩
  obtain ⟨cB, hcB⟩ : ∃ z, z = mgA m a' n c' := ⟨_, rfl⟩
  have a0 : w2.cell? ⟨xa, 0, none⟩ = some (.int .i64 m.frm) := hA2.cell rfl
  have a1 : w2.cell? ⟨xa, 1, none⟩ = some (.int .u32 m.seq) := hA2.cell rfl
  have a2 : w2.cell? ⟨xa, 2, none⟩ = some (.int .u64 m.stamp) := hA2.cell rfl
  have a3 : w2.cell? ⟨xa, 3, none⟩ = some (.int .i64 m.svc) := hA2.cell rfl
  have a4 : w2.cell? ⟨xa, 4, none⟩ = some (.slice a n c) := hA2.cell rfl
  have a5 : w2.cell? ⟨xa, 5, none⟩ = some (.string (mkB m.pay)) := hA2.cell rfl
  have b0 : w2.cell? ⟨xb, 0, none⟩ = some (.int .i64 m.frm) := hB2.cell rfl
  have b1 : w2.cell? ⟨xb, 1, none⟩ = some (.int .u32 m.seq) := hB2.cell rfl
  have b2 : w2.cell? ⟨xb, 2, none⟩ = some (.int .u64 m.stamp) := hB2.cell rfl
  have b3 : w2.cell? ⟨xb, 3, none⟩ = some (.int .i64 m.svc) := hB2.cell rfl
  have b4 : w2.cell? ⟨xb, 4, none⟩ = some (.slice a' n c') := hB2.cell rfl
  have b5 : w2.cell? ⟨xb, 5, none⟩ = some (.string (mkB m.pay)) := hB2.cell rfl
  have hA := Lib.hid hA2
  have hB := Lib.hid hB2
  rw [← hcA] at hw1 ⊢
  rw [← hcB] at hw2 ⊢
  replace hw1 := Lib.hid hw1
  replace hw2 := Lib.hid hw2
  replace hxa := Lib.hid hxa
  replace hxb := Lib.hid hxb
  clear hcA hcB hA1 hA2 hB2 hb1 hb2 h h'
  obtain ⟨ds, hds⟩ : ∃ z, z = m.deps := ⟨_, rfl⟩
  rw [← hds] at h2 h2' hl
  generalize m.frm = mf at a0 b0
  generalize m.seq = mq at a1 b1
  generalize m.stamp = mt at a2 b2
  generalize m.svc = ms at a3 b3
  generalize mkB m.pay = P at a5 b5
  go_enter Tryz.func23, Tryz.ntmps23
  go_upto_region 1 with (first
    | (refine wpList_blk_box rfl (.tmp 0) rfl rfl xa hxa.out.symm ?_; rw [← hw1.out])
    | (refine wpList_blk_box rfl (.tmp 1) rfl rfl xb hxb.out.symm ?_; rw [← hw2.out]))
  go_wp2
  go_loopw [5] (fun iv wr => ∃ (k : Nat), k ≤ n ∧ iv = .int .i64 k ∧ Hid (Below w2.heap.size w2 wr)) (fun iv _ => n - (RowKit.intOf iv).toNat)
  case atStart => exact ⟨0, Nat.zero_le _, rfl, Lib.hid (Below.refl _ _)⟩
  case round =>
    obtain ⟨k, hk, rfl, hb⟩ := hrel
    obtain ⟨w3, rfl⟩ : ∃ z, z = wr := ⟨_, rfl⟩
    have p4 : w3.cell? ⟨xa, 4, none⟩ = some (.slice a n c) := (hA.out.below hb.out hA.out.lt).cell (by rfl)
    have q4 : w3.cell? ⟨xb, 4, none⟩ = some (.slice a' n c') := (hB.out.below hb.out hB.out.lt).cell (by rfl)
    clear a0 a1 a2 a3 a4 a5 b0 b1 b2 b3 b4 b5
    by_cases hkn : k < n
    · have hkI : (k : Int) < n := by omega
      have hkl : k < ds.length := by rw [hl.out]; exact hkn
      obtain ⟨g, off, rfl, _⟩ := h2.out.addr (by omega)
      obtain ⟨g', off', rfl, _⟩ := h2'.out.addr (by omega)
      have hat : (c32 ds)[k]? = some (.int .u32 (ds[k] : Int)) := by unfold c32; rw [List.getElem?_map, List.getElem?_eq_getElem hkl]; rfl
      have c1 := (h2.out.below hb.out (Nat.le_refl _)).at hat
      have c2 := (h2'.out.below hb.out (Nat.le_refl _)).at hat
      generalize ds[k] = d at *
      clear hat
      go_wp2_with fail
      go_quiet (fail)
      have hbq := Lib.hid (belN hb.out nq)
      generalize w3.drewN nq = w4 at *
      clear c1 c2 p4 q4
      go_wp2
      go_roundw
      case rel => exact ⟨k + 1, by omega, by go_num, hbq⟩
      case measure => simp [RowKit.intOf]; omega
    · have hkI : ¬ (k : Int) < n := by omega
      go_wp2
      go_ret
      exact ⟨rfl, belS hbz.out hb.out⟩
end
end Go.Proofs.YtpkknhhohbobaaaGreatDoor
