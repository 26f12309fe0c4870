/- text: TextParses -/
import Derived.Test.YtpkknhhohbobaaaGreatDoorTxtRi
import Derived.Test.YtpkknhhohbobaaaGreatDoorTxtZe
namespace Go.Proofs.YtpkknhhohbobaaaGreatDoor
set_option linter.unusedSimpArgs false
set_option linter.unusedVariables false
open Go.RowKit Go.Sort
set_option maxHeartbeats 6400000 in
set_option maxRecDepth 100000 in
theorem parses_law (line : ByteArray) (w : World) (hT : TL w) :
    Calls Tryz.prog 3 #[.string line] w fun e w' => e = .returned (.bool true) ∧ Below w.heap.size w w' := by
  have HA := Lib.hid (awake_any w hT)
  replace hT := Lib.hid hT
  by_cases hl : 4000 < line.size
  · have hlI : (4000 : Int) < line.size := by omega
    go_enter Tryz.func3, Tryz.ntmps3
    go_wp2_with fail
    refine HA.out.mono ?_
    rintro e w1 ⟨rfl, hb1⟩
    go_wp2
    go_ret
    exact ⟨rfl, hb1⟩
  · have hlI : ¬ (4000 : Int) < line.size := by omega
    obtain ⟨l0, hl0⟩ : ∃ z : W8, z = line.data.toList := ⟨_, rfl⟩
    have hlm : line = mkB l0 := by rw [hl0, mkB_list]
    have hll : l0.length ≤ 4000 := by
      have := mkB_size l0
      rw [← hlm] at this
      omega
    have HP := Lib.hid (fun (W : World) (hb : Below w.heap.size w W) => parse_any l0 (by omega) W (hT.out.on hb))
    have HR := Lib.hid (fun (W : World) => rparse_any l0 (by omega) W)
    rw [← hlm] at HP HR
    replace hlm := Lib.hid hlm
    clear hl0 hll hl
    go_enter Tryz.func3, Tryz.ntmps3
    go_wp2_with fail
    refine HA.out.mono ?_
    rintro e w1 ⟨rfl, hb1⟩
    have HP1 := Lib.hid (HP.out w1 hb1)
    replace hb1 := Lib.hid hb1
    clear HA HP
    go_wp2_with fail
    refine HP1.out.mono ?_
    rintro e w2 ⟨⟨ea, ec, fa, fc, rfl, hf⟩, hb2⟩
    have hB2 := Lib.hid (belS hb1.out hb2)
    clear HP1 hb1 hb2
    have hN2 := BlkAt.new w2 34 #[.int .i64 0, .int .i64 0, .int .u64 0, .int .i64 0, .int .u64 0, .int .i64 0, .int .u64 0, .int .i64 0, .int .u32 0, .int .u64 0, .int .i64 0, .slice none 0 0, .string ⟨#[]⟩, .int .u64 0, .int .u64 0, .int .i64 0, .int .u64 0, .slice none 0 0, .string ⟨#[]⟩]
    have hb2a := alloc_below w2 (.cells #[.int .i64 0, .int .i64 0, .int .u64 0, .int .i64 0, .int .u64 0, .int .i64 0, .int .u64 0, .int .i64 0, .int .u32 0, .int .u64 0, .int .i64 0, .slice none 0 0, .string ⟨#[]⟩, .int .u64 0, .int .u64 0, .int .i64 0, .int .u64 0, .slice none 0 0, .string ⟨#[]⟩] 34)
    have hIy : (Tryz.prog.info? 34).map (·.size) = some (evC (parX l0) ea (parX l0).m.deps.length ec fa (parX l0).names.length fc).size := Tryz.evI
    have h9y : 0 + (evC (parX l0) ea (parX l0).m.deps.length ec fa (parX l0).names.length fc).size ≤ 19 := by rw [evC_size]; decide
    have h1y : (evC (parX l0) ea (parX l0).m.deps.length ec fa (parX l0).names.length fc).all (·.oneCell') = true := evC_one _ _ _ _ _ _ _
    have hsy : setArr #[.int .i64 0, .int .i64 0, .int .u64 0, .int .i64 0, .int .u64 0, .int .i64 0, .int .u64 0, .int .i64 0, .int .u32 0, .int .u64 0, .int .i64 0, .slice none 0 0, .string ⟨#[]⟩, .int .u64 0, .int .u64 0, .int .i64 0, .int .u64 0, .slice none 0 0, .string ⟨#[]⟩] 0 (evC (parX l0) ea (parX l0).m.deps.length ec fa (parX l0).names.length fc).toList = evC (parX l0) ea (parX l0).m.deps.length ec fa (parX l0).names.length fc := evC_set _ _ _ _ _ _ _
    obtain ⟨cy, hcy⟩ : ∃ z, z = evC (parX l0) ea (parX l0).m.deps.length ec fa (parX l0).names.length fc := ⟨_, rfl⟩
    rw [← hcy] at hIy h9y h1y hsy ⊢
    replace hcy := Lib.hid hcy
    have hfr := Lib.hid (fun (W : World) (hb : Below w2.heap.size w2 W) => hf.below hb)
    generalize hE : parE l0 = E at *
    clear hf
    go_upto_region 6 with (first
      | (refine wpList_blk_put (cs := cy) rfl (.tmp 3) (.tmp 15) rfl rfl rfl hN2 hIy h9y h1y ?_; intro w3 hY3 hK3 hs3; rw [hsy] at hY3))
    have hb3 := Kp.below hb2a hK3 (Nat.le_refl _) hb2a.size
    have hB3 := Lib.hid (belS hB2.out hb3)
    have hfr3 := Lib.hid (fun (W : World) (hb : Below w3.heap.size w3 W) => hfr.out W (belS hb3 hb))
    have HR3 := Lib.hid (HR.out w3)
    generalize w2.heap.size = yb at *
    clear hK3 hs3 hb3 hN2 hb2a hfr h9y h1y hsy HR hB2
    go_wp2_with fail
    refine HR3.out.mono ?_
    rintro e w4 ⟨⟨ga, gc, ha, hc, rfl, hg⟩, hb4⟩
    have hB4 := Lib.hid (belS hB3.out hb4)
    have hY4 := hY3.below hb4 hY3.lt
    have hfr4 := Lib.hid (fun (W : World) (hb : Below w4.heap.size w4 W) => hfr3.out W (belS hb4 hb))
    rw [hE]
    clear HR3 hb4 hY3 hB3 hfr3
    have hN4 := BlkAt.new w4 34 #[.int .i64 0, .int .i64 0, .int .u64 0, .int .i64 0, .int .u64 0, .int .i64 0, .int .u64 0, .int .i64 0, .int .u32 0, .int .u64 0, .int .i64 0, .slice none 0 0, .string ⟨#[]⟩, .int .u64 0, .int .u64 0, .int .i64 0, .int .u64 0, .slice none 0 0, .string ⟨#[]⟩]
    have hb4a := alloc_below w4 (.cells #[.int .i64 0, .int .i64 0, .int .u64 0, .int .i64 0, .int .u64 0, .int .i64 0, .int .u64 0, .int .i64 0, .int .u32 0, .int .u64 0, .int .i64 0, .slice none 0 0, .string ⟨#[]⟩, .int .u64 0, .int .u64 0, .int .i64 0, .int .u64 0, .slice none 0 0, .string ⟨#[]⟩] 34)
    have hIz : (Tryz.prog.info? 34).map (·.size) = some (evC (parX l0) ga (parX l0).m.deps.length gc ha (parX l0).names.length hc).size := Tryz.evI
    have h9z : 0 + (evC (parX l0) ga (parX l0).m.deps.length gc ha (parX l0).names.length hc).size ≤ 19 := by rw [evC_size]; decide
    have h1z : (evC (parX l0) ga (parX l0).m.deps.length gc ha (parX l0).names.length hc).all (·.oneCell') = true := evC_one _ _ _ _ _ _ _
    have hsz : setArr #[.int .i64 0, .int .i64 0, .int .u64 0, .int .i64 0, .int .u64 0, .int .i64 0, .int .u64 0, .int .i64 0, .int .u32 0, .int .u64 0, .int .i64 0, .slice none 0 0, .string ⟨#[]⟩, .int .u64 0, .int .u64 0, .int .i64 0, .int .u64 0, .slice none 0 0, .string ⟨#[]⟩] 0 (evC (parX l0) ga (parX l0).m.deps.length gc ha (parX l0).names.length hc).toList = evC (parX l0) ga (parX l0).m.deps.length gc ha (parX l0).names.length hc := evC_set _ _ _ _ _ _ _
    have HEv : Hid (∀ W : World, Below w4.heap.size w4 W → Calls Tryz.prog 8 #[.agg cy, .agg (evC (parX l0) ga (parX l0).m.deps.length gc ha (parX l0).names.length hc)] W fun e W' => e = .returned (.bool true) ∧ Below W.heap.size W W') := Lib.hid (fun W hb => by
      rw [hcy.out]
      exact revents_same (parX l0) ea ga _ ec gc fa ha _ fc hc W (hfr4.out W hb).dr (hfr4.out W hb).nr (hg.below hb).dr (hg.below hb).nr)
    generalize evC (parX l0) ga (parX l0).m.deps.length gc ha (parX l0).names.length hc = cz at *
    clear hg hfr4
    go_upto_region 7 with (first
      | (refine wpList_blk_put (cs := cz) rfl (.tmp 5) (.tmp 20) rfl rfl rfl hN4 hIz h9z h1z ?_; intro w5 hZ5 hK5 hs5; rw [hsz] at hZ5))
    have hb5 := Kp.below hb4a hK5 (Nat.le_refl _) hb4a.size
    have hB5 := Lib.hid (belS hB4.out hb5)
    have hY5 := hY4.below hb5 hY4.lt
    have HE5 := Lib.hid (HEv.out w5 hb5)
    generalize w4.heap.size = zb at *
    clear hK5 hs5 hb5 hN4 hb4a h9z h1z hsz HEv hB4 hY4
    go_wp2_with (first
      | (refine wpList_blk_load rfl (.tmp 3) rfl Tryz.underlying34 rfl rfl hY5 hIy ?_)
      | (refine wpList_blk_load rfl (.tmp 5) rfl Tryz.underlying34 rfl rfl hZ5 hIz ?_))
    refine HE5.out.mono ?_
    rintro e w6 ⟨rfl, hb6⟩
    have hB6 := Lib.hid (belS hB5.out hb6)
    clear HE5 hY5 hZ5 hb6 hB5
    go_wp2
    go_ret
    exact ⟨rfl, hB6.out⟩
theorem parses_claim (line : ByteArray) (w : World) (hT : TL w) (_ : line.size ≤ maxLen) :
    Calls Tryz.prog 3 #[.string line] w fun e w' => e = .returned (.bool true) ∧ Below w.heap.size w w' := parses_law line w hT
end Go.Proofs.YtpkknhhohbobaaaGreatDoor
