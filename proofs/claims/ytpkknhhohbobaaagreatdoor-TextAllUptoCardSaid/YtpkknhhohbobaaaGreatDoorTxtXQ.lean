/- text: the reader's event (written by gen_tx.py) -/
import Derived.Test.YtpkknhhohbobaaaGreatDoorTxtWQ
import Derived.Deep.CutBlock
namespace Go.Proofs.YtpkknhhohbobaaaGreatDoor
set_option linter.unusedSimpArgs false
set_option linter.unusedVariables false
open Go.RowKit Go.Sort
section
variable {b : Nat} {w w' : World} {ws : List W8}
set_option maxHeartbeats 6400000 in
set_option maxRecDepth 100000 in
theorem rdevent_any (l0 : List W8) (hln : l0.length ≤ 4294967296) (h : RdT w b l0) (hT : TL w) :
    Calls Tryz.prog 34 #[.pointer (some ⟨b, 0, none⟩)] w fun e w' => PRE (parseW l0) w.heap.size e w' ∧ Kp b w w' := by
  have h8 := h.b8
  have hlt := h.lt
  have hb1 := alloc_below w (.cells #[.int .i64 0, .int .i64 0, .int .u64 0, .int .i64 0, .int .u64 0, .int .i64 0, .int .u64 0, .int .i64 0, .int .u32 0, .int .u64 0, .int .i64 0, .slice none 0 0, .string ⟨#[]⟩, .int .u64 0, .int .u64 0, .int .i64 0, .int .u64 0, .slice none 0 0, .string ⟨#[]⟩] 34)
  have hM := BlkAt.new w 34 #[.int .i64 0, .int .i64 0, .int .u64 0, .int .i64 0, .int .u64 0, .int .i64 0, .int .u64 0, .int .i64 0, .int .u32 0, .int .u64 0, .int .i64 0, .slice none 0 0, .string ⟨#[]⟩, .int .u64 0, .int .u64 0, .int .i64 0, .int .u64 0, .slice none 0 0, .string ⟨#[]⟩]
  obtain ⟨w0, hw0⟩ : ∃ z, z = w.alloc (.cells #[.int .i64 0, .int .i64 0, .int .u64 0, .int .i64 0, .int .u64 0, .int .i64 0, .int .u64 0, .int .i64 0, .int .u32 0, .int .u64 0, .int .i64 0, .slice none 0 0, .string ⟨#[]⟩, .int .u64 0, .int .u64 0, .int .i64 0, .int .u64 0, .slice none 0 0, .string ⟨#[]⟩] 34) := ⟨_, rfl⟩
  have hsz0 : w0.heap.size = w.heap.size + 1 := by rw [hw0]; simp
  rw [← hw0] at hb1 hM
  obtain ⟨mb, hmb⟩ : ∃ z, z = w.heap.size := ⟨_, rfl⟩
  rw [← hmb] at hM hsz0
  have hmbb : mb ≠ b := by omega
  have hbm : b < mb := by omega
  have hR0 := Lib.hid (h.below hb1)
  have hk0 := Lib.hid (Kp.ofBelow (b := b) hb1)
  have hM0 := Lib.hid hM
  replace hw0 := Lib.hid hw0
  replace hmb := Lib.hid hmb
  replace hT := Lib.hid hT
  clear h hM hb1
  have HA0 := Lib.hid (rdproc_any l0 hR0.out (hT.out.kp hk0.out h8))
  go_enter Tryz.func34, Tryz.ntmps34
  go_wp2_with fail
  rw [← hw0.out, ← hmb.out]
  refine HA0.out.mono ?_
  rintro e w1 ⟨hp, hkk⟩
  have hM1 := Lib.hid (hkk.blk hM0.out hmbb)
  have hk1 := Lib.hid (hk0.out.trans hkk)
  clear HA0 hkk hM0 hk0 hR0
  cases hv0 : takeN 63 l0 with
  | none =>
    rw [hv0] at hp
    obtain rfl : e = pan 4 := hp
    exact ⟨rfl, PRE.no (parseW_t1 hv0) rfl, hk1.out⟩
  | some p =>
    obtain ⟨p0, l1⟩ := p
    rw [hv0] at hp
    obtain ⟨rfl, hR1⟩ : e = .returned (.int .i64 (p0 : Int)) ∧ RdT w1 b l1 := hp
    go_wp2_with (first
      | (refine wpList_blk_build rfl _ rfl (cs := #[.int .i64 0, .int .i64 (p0 : Int), .int .u64 0, .int .i64 0, .int .u64 0, .int .i64 0, .int .u64 0, .int .i64 0, .int .u32 0, .int .u64 0, .int .i64 0, .slice none 0 0, .string ⟨#[]⟩, .int .u64 0, .int .u64 0, .int .i64 0, .int .u64 0, .slice none 0 0, .string ⟨#[]⟩]) (by kernel_rfl) ?_)
      | (refine wpList_blk_put (cs := #[.int .i64 0, .int .i64 (p0 : Int), .int .u64 0, .int .i64 0, .int .u64 0, .int .i64 0, .int .u64 0, .int .i64 0, .int .u32 0, .int .u64 0, .int .i64 0, .slice none 0 0, .string ⟨#[]⟩, .int .u64 0, .int .u64 0, .int .i64 0, .int .u64 0, .slice none 0 0, .string ⟨#[]⟩]) rfl (.tmp 3) (.tmp 9) rfl rfl rfl (BlkAt.new w1 34 #[.int .i64 0, .int .i64 0, .int .u64 0, .int .i64 0, .int .u64 0, .int .i64 0, .int .u64 0, .int .i64 0, .int .u32 0, .int .u64 0, .int .i64 0, .slice none 0 0, .string ⟨#[]⟩, .int .u64 0, .int .u64 0, .int .i64 0, .int .u64 0, .slice none 0 0, .string ⟨#[]⟩]) (Tryz.evI (x := TEv.zero) (da := none) (dn := 0) (dc := 0) (na := none) (nn := 0) (nc := 0)) (by show 0 + 19 ≤ 19; decide) (by simp [Value.oneCell']) ?_; intro w2 hX2 hK2 hs2))
    have hb2 := Kp.below (alloc_below w1 (.cells #[.int .i64 0, .int .i64 0, .int .u64 0, .int .i64 0, .int .u64 0, .int .i64 0, .int .u64 0, .int .i64 0, .int .u32 0, .int .u64 0, .int .i64 0, .slice none 0 0, .string ⟨#[]⟩, .int .u64 0, .int .u64 0, .int .i64 0, .int .u64 0, .slice none 0 0, .string ⟨#[]⟩] 34)) hK2 (Nat.le_refl _) (by simp)
    have hsz2 : w2.heap.size = w1.heap.size + 1 := by rw [hs2]; simp
    rw [show setArr #[.int .i64 0, .int .i64 0, .int .u64 0, .int .i64 0, .int .u64 0, .int .i64 0, .int .u64 0, .int .i64 0, .int .u32 0, .int .u64 0, .int .i64 0, .slice none 0 0, .string ⟨#[]⟩, .int .u64 0, .int .u64 0, .int .i64 0, .int .u64 0, .slice none 0 0, .string ⟨#[]⟩] 0 (#[.int .i64 0, .int .i64 (p0 : Int), .int .u64 0, .int .i64 0, .int .u64 0, .int .i64 0, .int .u64 0, .int .i64 0, .int .u32 0, .int .u64 0, .int .i64 0, .slice none 0 0, .string ⟨#[]⟩, .int .u64 0, .int .u64 0, .int .i64 0, .int .u64 0, .slice none 0 0, .string ⟨#[]⟩]).toList = (evC (begE 0 p0) none 0 0 none 0 0) from by kernel_rfl] at hX2
    have hle1 := hM1.out.lt
    have hR2 := Lib.hid (hR1.below hb2)
    have hlt1 := hR1.lt
    have hk2 := Lib.hid (hk1.out.trans (Kp.ofBelow (b := b) hb2))
    have hM2 := Lib.hid (hM1.out.below hb2 hM1.out.lt)
    have HA2 := Lib.hid (word_any l1 hR2.out)
    clear hR1 hb2 hM1 hk1 hK2 hs2
    generalize w1.heap.size = xb at *
    replace hX2 := Lib.hid hX2
    replace hv0 := Lib.hid hv0
    refine HA2.out.mono ?_
    rintro e w3 ⟨hp, hkk⟩
    have hM3 := Lib.hid (hkk.blk hM2.out hmbb)
    have hX3 := Lib.hid (hkk.blk hX2.out (by omega))
    have hk3 := Lib.hid (hk2.out.trans hkk)
    have hs3 := hkk.size
    have hfl := hR2.out.full
    clear HA2 hkk hM2 hk2 hX2 hR2
    cases l1 with
    | nil =>
      obtain rfl : e = pan 4 := hp
      exact ⟨rfl, PRE.no (parseW_t2 hv0.out) rfl, hk3.out⟩
    | cons u l2 =>
      obtain ⟨rfl, hR3⟩ := hp
      have hun := hfl u (by simp)
      have HB := Lib.hid (words_any w3)
      clear hfl
      go_wp2_with fail
      refine HB.out.mono ?_
      rintro e w4 ⟨rfl, hw4⟩
      have hb4 := alloc_below w3 (.cells (kindWs.map sv).toArray 9)
      have hW4 : Rd (w3.alloc (.cells (kindWs.map sv).toArray 9)) 1 (some ⟨w3.heap.size, 0, none⟩) 13 13 (kindWs.map sv) := words_row w3
      rw [← hw4] at hb4 hW4
      have hR4 := Lib.hid (hR3.below hb4)
      have hk4 := Lib.hid (hk3.out.trans (Kp.ofBelow (b := b) hb4))
      have hM4 := Lib.hid (hM3.out.below hb4 hM3.out.lt)
      have hX4 := Lib.hid (hX3.out.below hb4 hX3.out.lt)
      have hxq : xb < w3.heap.size := hX3.out.lt
      replace hW4 := Lib.hid hW4
      clear hw4 HB hR3 hb4 hM3 hX3 hk3
      generalize w3.heap.size = q at *
      go_wp2
      go_loopw [5, 6, 14] (fun _ _ iv wr => ∃ (i : Nat), i ≤ 13 ∧ iv = .int .i64 i ∧ Hid (BlkAt wr xb 34 (evC (begE (kdN u i : Nat) p0) none 0 0 none 0 0)) ∧ Hid (Kp xb w4 wr) ∧ Hid (wr.heap.size = w4.heap.size)) (fun _ _ iv _ => 13 - (RowKit.intOf iv).toNat)
      case atStart => exact ⟨0, Nat.zero_le _, rfl, hX4, Lib.hid (Kp.refl _ _), Lib.hid rfl⟩
      case round =>
        obtain ⟨i, hi, rfl, hX, hk, hz⟩ := hrel
        obtain ⟨w5, rfl⟩ : ∃ z, z = wr := ⟨_, rfl⟩
        by_cases hin : i < 13
        case pos => as_aux_lemma =>
          have hiI : (i : Int) < 13 := by omega
          have c1 : w5.cell? ⟨q, i, none⟩ = some (.string (mkB (kindW i))) := by
            have := (hk.out.rd hW4.out (fun g off e => by cases e; omega)).at (kindWs_at hin)
            simpa using this
          by_cases hu : kindW i = u
          · have hq : ((mkB (kindW i)).toList == (mkB u).toList) = true := by rw [hu]; exact beq_self_eq_true _
            have hkd := Lib.hid (show kdN u (i + 1) = i from if_pos hu)
            have c0 : w5.cell? ⟨xb, 0, none⟩ = some (.int .i64 (kdN u i : Nat)) := hX.out.cell rfl
            have f0 := hX.out.fz 0
            clear hu
            go_wp2_with fail
            go_roundw
            case rel => exact ⟨i + 1, by omega, by go_num, Lib.hid (by rw [hkd.out]; exact hX.out.set 0 _), Lib.hid (hk.out.setCell ⟨xb, 0, none⟩ rfl _), Lib.hid (by simpa using hz.out)⟩
            case measure => simp [RowKit.intOf]; omega
          · have hq : ((mkB (kindW i)).toList == (mkB u).toList) = false := by
              rw [mkB_toList, mkB_toList]
              exact beq_eq_false_iff_ne.2 hu
            have hkd := Lib.hid (show kdN u (i + 1) = kdN u i from if_neg hu)
            clear hu
            go_wp2_with fail
            go_roundw
            case rel => exact ⟨i + 1, by omega, by go_num, Lib.hid (by rw [hkd.out]; exact hX.out), hk, hz⟩
            case measure => simp [RowKit.intOf]; omega
        case neg => as_aux_lemma =>
          have hiI : ¬ (i : Int) < 13 := by omega
          have hX5 : Hid (BlkAt w5 xb 34 (evC (begE (kindN u : Nat) p0) none 0 0 none 0 0)) := Lib.hid (by
            rw [← kdN_eq, ← show i = 13 from by omega]
            exact hX.out)
          clear hX
          have hS : Hid (EvS w w5 mb xb b (begE (kindN u : Nat) p0) none 0 none 0 l2) := Lib.hid
            ⟨⟨hlt, Nat.le_of_eq hmb.out.symm, hle1⟩, hX5.out, ⟨⟨rfl, Nat.le_refl 0, Nat.zero_le _, (fun _ => ⟨rfl, rfl⟩)⟩, .inl rfl⟩, (fun h => absurd rfl h), World.ownsRow_nil _ _ _ _, hk.out.blk hM4.out (by omega), RdT.off hR4.out hk.out (by omega), Kp.near hk4.out hk.out hz.out (by have := hmb.out; omega)⟩
          have hPW0 := Lib.hid (parseW_some hv0.out)
          have hl2 : Hid (l2.length ≤ 4294967296) := Lib.hid (by have := takeN_le hv0.out; rw [List.length_cons] at this; omega)
          have hk12 := kindN_lt u
          have c0 : w5.cell? ⟨xb, 0, none⟩ = some (.int .i64 (kindN u : Nat)) := hS.out.bk.cell rfl
          have hIc : (Tryz.prog.info? 25).map (·.size) = some 2 := by kernel_rfl
          have hIm : (Tryz.prog.info? 29).map (·.size) = some 6 := by kernel_rfl
          have hIv : (Tryz.prog.info? 31).map (·.size) = some 4 := by kernel_rfl
          clear hX5 hk hz hM4 hR4 hk4 hv0 hW4 hun hsz2 hs3
          have hP0 : Hid (kindN u = 0 → parseW l0 = none) := Lib.hid (fun e => by rw [hPW0.out, if_pos e])
          generalize kindN u = k at *
          by_cases hk0 : k = 0
          · subst hk0
            clear hIc hIm hIv
            go_wp2_with fail
            refine (bad_t (by first | rfl | (simp; done) | (simp; omega)) 4 _).mono ?_
            rintro e w6 ⟨rfl, rfl⟩
            exact ⟨rfl, PRE.no (hP0.out (by first | rfl | trivial)) rfl, hS.out.k⟩
          have hPW := Lib.hid (show parseW l0 = fin (rowT (rowL k) (begE (k : Nat) p0) l2) from by rw [hPW0.out, if_neg hk0])
          clear hPW0 hP0
          go_upto_block 2 with (fail)
          go_cut [] from 28 to 99 (fun wx => ∃ (y : TEv) (da : Option Addr) (dc : Nat) (na : Option Addr) (nc : Nat) (l6 : List W8), Hid (EvS w wx mb xb b y da dc na nc l6) ∧ Hid (y.kind = (k : Int)) ∧ Hid (rowT (rowL k) (begE (k : Nat) p0) l2 = rowT (sw2 k) y l6))
          case first => as_aux_lemma =>
            obtain rfl | rfl | rfl | rfl | rfl | rfl | rfl | rfl | rfl | rfl | rfl | rfl : k = 1 ∨ k = 2 ∨ k = 3 ∨ k = 4 ∨ k = 5 ∨ k = 6 ∨ k = 7 ∨ k = 8 ∨ k = 9 ∨ k = 10 ∨ k = 11 ∨ k = 12 := by omega
            all_goals clear hk0 hk12
            · -- 1
              have HA := Lib.hid (rdconf_any l2 hS.out.r (hS.out.tl hT.out))
              have hxl := hS.out.bk.lt
              go_wp2_with fail
              refine HA.out.mono ?_
              rintro e x1 ⟨hp, hkk⟩
              replace hkk := Lib.hid hkk
              clear HA
              cases hv1 : takeT 18446744073709551615 63 l2 with
              | none =>
                rw [hv1] at hp
                obtain rfl : e = pan 4 := hp
                exact ⟨rfl, PRE.no (by rw [hPW.out]; simp only [rowL, rowT, fieldT, hv1, Option.bind_some, Option.bind_none, Option.map_some, Option.map_none, fin]) rfl, hS.out.k.trans hkk.out⟩
              | some p =>
                obtain ⟨v1, k1⟩ := p
                rw [hv1] at hp
                obtain ⟨rfl, hR⟩ : e = .returned (.agg #[.int .u64 (v1.1 : Int), .int .i64 (v1.2 : Int)]) ∧ RdT x1 b k1 := hp
                replace hv1 := Lib.hid hv1
                have hS1 := Lib.hid (hS.out.kk hkk.out hR)
                clear hS hkk hR hxl
                have HA := Lib.hid (rdmsg_any k1 hS1.out.r (hS1.out.tl hT.out))
                have hxl := hS1.out.bk.lt
                go_wp2_with fail
                refine HA.out.mono ?_
                rintro e x2 ⟨hp, hkk⟩
                replace hkk := Lib.hid hkk
                clear HA
                cases hv2 : takeM k1 with
                | none =>
                  rw [hv2] at hp
                  obtain rfl : e = pan 4 := hp
                  exact ⟨rfl, PRE.no (by rw [hPW.out]; simp only [rowL, rowT, fieldT, hv1.out, hv2, Option.bind_some, Option.bind_none, Option.map_some, Option.map_none, fin]) rfl, hS1.out.k.trans hkk.out⟩
                | some p =>
                  obtain ⟨v2, k2⟩ := p
                  rw [hv2] at hp
                  obtain ⟨ma, mc, rfl, hmr, hmB, hR⟩ : ∃ a c, e = .returned (.agg (mgA v2 a v2.deps.length c)) ∧ Rd x2 1 a v2.deps.length c (c32 v2.deps) ∧ (v2.deps.length ≠ 0 → ∀ g off, a = some ⟨g, off, none⟩ → x1.heap.size ≤ g) ∧ RdT x2 b k2 := hp
                  replace hmr := Lib.hid hmr
                  have hmb2 : Hid (v2.deps.length ≠ 0 → ∀ g off, ma = some ⟨g, off, none⟩ → xb + 1 ≤ g) := Lib.hid (fun h0 g off e => by have := hmB h0 g off e; omega)
                  clear hmB
                  replace hv2 := Lib.hid hv2
                  have hS2 := Lib.hid (hS1.out.kk hkk.out hR)
                  clear hS1 hkk hR hxl
                  go_wp2_with (first
                    | (refine wpList_blk_put (cs := #[.int .u64 (v1.1 : Int), .int .i64 (v1.2 : Int)]) rfl (.tmp 34) (.tmp 31) rfl rfl rfl hS2.out.bk hIc (by show 2 + 2 ≤ 19; decide) (by simp [mgA, vwC, Value.oneCell']) ?_; intro y1 hX hK hs; have hP1 := Lib.hid (hS2.out.put (y' := { (begE (1 : Nat) p0) with conf := cfOf v1 }) hX hK hs (by kernel_rfl) rfl rfl); replace hmr := Lib.hid (Kp.rdN hK hmr.out hmb2.out (by omega)); clear hX hK hs hS2)
                    | (refine wpList_blk_put (cs := mgA v2 ma v2.deps.length mc) rfl (.tmp 35) (.tmp 33) rfl rfl rfl hP1.out.bk (show _ = some 6 from hIm) (by show 7 + 6 ≤ 19; decide) (by simp [mgA, vwC, Value.oneCell']) ?_; intro y2 hX hK hs; have hP2 := Lib.hid (hP1.out.putM (y' := { (begE (1 : Nat) p0) with conf := cfOf v1, m := v2 }) hX hK hs (by kernel_rfl) rfl hmr.out hmb2.out); clear hX hK hs hP1))
                  go_meet
                  exact ⟨{ (begE (1 : Nat) p0) with conf := cfOf v1, m := v2 }, ma, mc, none, 0, k2, hP2, Lib.hid rfl, Lib.hid (by simp only [rowL, rowT, sw2, fieldT, hv1.out, hv2.out, Option.bind_some, Option.bind_none, Option.map_some, Option.map_none, fin])⟩
            · -- 2
              have HA := Lib.hid (rdconf_any l2 hS.out.r (hS.out.tl hT.out))
              have hxl := hS.out.bk.lt
              go_wp2_with fail
              refine HA.out.mono ?_
              rintro e x1 ⟨hp, hkk⟩
              replace hkk := Lib.hid hkk
              clear HA
              cases hv1 : takeT 18446744073709551615 63 l2 with
              | none =>
                rw [hv1] at hp
                obtain rfl : e = pan 4 := hp
                exact ⟨rfl, PRE.no (by rw [hPW.out]; simp only [rowL, rowT, fieldT, hv1, Option.bind_some, Option.bind_none, Option.map_some, Option.map_none, fin]) rfl, hS.out.k.trans hkk.out⟩
              | some p =>
                obtain ⟨v1, k1⟩ := p
                rw [hv1] at hp
                obtain ⟨rfl, hR⟩ : e = .returned (.agg #[.int .u64 (v1.1 : Int), .int .i64 (v1.2 : Int)]) ∧ RdT x1 b k1 := hp
                replace hv1 := Lib.hid hv1
                have hS1 := Lib.hid (hS.out.kk hkk.out hR)
                clear hS hkk hR hxl
                have HA := Lib.hid (rdconf_any k1 hS1.out.r (hS1.out.tl hT.out))
                have hxl := hS1.out.bk.lt
                go_wp2_with fail
                refine HA.out.mono ?_
                rintro e x2 ⟨hp, hkk⟩
                replace hkk := Lib.hid hkk
                clear HA
                cases hv2 : takeT 18446744073709551615 63 k1 with
                | none =>
                  rw [hv2] at hp
                  obtain rfl : e = pan 4 := hp
                  exact ⟨rfl, PRE.no (by rw [hPW.out]; simp only [rowL, rowT, fieldT, hv1.out, hv2, Option.bind_some, Option.bind_none, Option.map_some, Option.map_none, fin]) rfl, hS1.out.k.trans hkk.out⟩
                | some p =>
                  obtain ⟨v2, k2⟩ := p
                  rw [hv2] at hp
                  obtain ⟨rfl, hR⟩ : e = .returned (.agg #[.int .u64 (v2.1 : Int), .int .i64 (v2.2 : Int)]) ∧ RdT x2 b k2 := hp
                  replace hv2 := Lib.hid hv2
                  have hS2 := Lib.hid (hS1.out.kk hkk.out hR)
                  clear hS1 hkk hR hxl
                  go_upto_region 15 with (first
                    | (refine wpList_blk_put (cs := #[.int .u64 (v1.1 : Int), .int .i64 (v1.2 : Int)]) rfl (.tmp 42) (.tmp 39) rfl rfl rfl hS2.out.bk hIc (by show 2 + 2 ≤ 19; decide) (by simp [mgA, vwC, Value.oneCell']) ?_; intro y1 hX hK hs; have hP1 := Lib.hid (hS2.out.put (y' := { (begE (2 : Nat) p0) with conf := cfOf v1 }) hX hK hs (by kernel_rfl) rfl rfl); clear hX hK hs hS2)
                    | (refine wpList_blk_put (cs := #[.int .u64 (v2.1 : Int), .int .i64 (v2.2 : Int)]) rfl (.tmp 43) (.tmp 41) rfl rfl rfl hP1.out.bk hIc (by show 4 + 2 ≤ 19; decide) (by simp [mgA, vwC, Value.oneCell']) ?_; intro y2 hX hK hs; have hP2 := Lib.hid (hP1.out.put (y' := { (begE (2 : Nat) p0) with conf := cfOf v1, new := cfOf v2 }) hX hK hs (by kernel_rfl) rfl rfl); clear hX hK hs hP1))
                  have HA := Lib.hid (rdmsg_any k2 hP2.out.r (hP2.out.tl hT.out))
                  have hxl := hP2.out.bk.lt
                  go_wp2_with fail
                  refine HA.out.mono ?_
                  rintro e x3 ⟨hp, hkk⟩
                  replace hkk := Lib.hid hkk
                  clear HA
                  cases hv3 : takeM k2 with
                  | none =>
                    rw [hv3] at hp
                    obtain rfl : e = pan 4 := hp
                    exact ⟨rfl, PRE.no (by rw [hPW.out]; simp only [rowL, rowT, fieldT, hv1.out, hv2.out, hv3, Option.bind_some, Option.bind_none, Option.map_some, Option.map_none, fin]) rfl, hP2.out.k.trans hkk.out⟩
                  | some p =>
                    obtain ⟨v3, k3⟩ := p
                    rw [hv3] at hp
                    obtain ⟨ma, mc, rfl, hmr, hmB, hR⟩ : ∃ a c, e = .returned (.agg (mgA v3 a v3.deps.length c)) ∧ Rd x3 1 a v3.deps.length c (c32 v3.deps) ∧ (v3.deps.length ≠ 0 → ∀ g off, a = some ⟨g, off, none⟩ → y2.heap.size ≤ g) ∧ RdT x3 b k3 := hp
                    replace hmr := Lib.hid hmr
                    have hmb2 : Hid (v3.deps.length ≠ 0 → ∀ g off, ma = some ⟨g, off, none⟩ → xb + 1 ≤ g) := Lib.hid (fun h0 g off e => by have := hmB h0 g off e; omega)
                    clear hmB
                    replace hv3 := Lib.hid hv3
                    have hS3 := Lib.hid (hP2.out.kk hkk.out hR)
                    clear hP2 hkk hR hxl
                    go_wp2_with (first
                      | (refine wpList_blk_put (cs := mgA v3 ma v3.deps.length mc) rfl (.tmp 46) (.tmp 45) rfl rfl rfl hS3.out.bk (show _ = some 6 from hIm) (by show 7 + 6 ≤ 19; decide) (by simp [mgA, vwC, Value.oneCell']) ?_; intro y3 hX hK hs; have hP3 := Lib.hid (hS3.out.putM (y' := { (begE (2 : Nat) p0) with conf := cfOf v1, new := cfOf v2, m := v3 }) hX hK hs (by kernel_rfl) rfl hmr.out hmb2.out); clear hX hK hs hS3))
                    go_meet
                    exact ⟨{ (begE (2 : Nat) p0) with conf := cfOf v1, new := cfOf v2, m := v3 }, ma, mc, none, 0, k3, hP3, Lib.hid rfl, Lib.hid (by simp only [rowL, rowT, sw2, fieldT, hv1.out, hv2.out, hv3.out, Option.bind_some, Option.bind_none, Option.map_some, Option.map_none, fin])⟩
            · -- 3
              have HA := Lib.hid (rdconf_any l2 hS.out.r (hS.out.tl hT.out))
              have hxl := hS.out.bk.lt
              go_wp2_with fail
              refine HA.out.mono ?_
              rintro e x1 ⟨hp, hkk⟩
              replace hkk := Lib.hid hkk
              clear HA
              cases hv1 : takeT 18446744073709551615 63 l2 with
              | none =>
                rw [hv1] at hp
                obtain rfl : e = pan 4 := hp
                exact ⟨rfl, PRE.no (by rw [hPW.out]; simp only [rowL, rowT, fieldT, hv1, Option.bind_some, Option.bind_none, Option.map_some, Option.map_none, fin]) rfl, hS.out.k.trans hkk.out⟩
              | some p =>
                obtain ⟨v1, k1⟩ := p
                rw [hv1] at hp
                obtain ⟨rfl, hR⟩ : e = .returned (.agg #[.int .u64 (v1.1 : Int), .int .i64 (v1.2 : Int)]) ∧ RdT x1 b k1 := hp
                replace hv1 := Lib.hid hv1
                have hS1 := Lib.hid (hS.out.kk hkk.out hR)
                clear hS hkk hR hxl
                have HA := Lib.hid (rdnum_any k1 hS1.out.r (hS1.out.tl hT.out))
                have hxl := hS1.out.bk.lt
                go_wp2_with fail
                refine HA.out.mono ?_
                rintro e x2 ⟨hp, hkk⟩
                replace hkk := Lib.hid hkk
                clear HA
                cases hv2 : takeN 18446744073709551615 k1 with
                | none =>
                  rw [hv2] at hp
                  obtain rfl : e = pan 4 := hp
                  exact ⟨rfl, PRE.no (by rw [hPW.out]; simp only [rowL, rowT, fieldT, hv1.out, hv2, Option.bind_some, Option.bind_none, Option.map_some, Option.map_none, fin]) rfl, hS1.out.k.trans hkk.out⟩
                | some p =>
                  obtain ⟨v2, k2⟩ := p
                  rw [hv2] at hp
                  obtain ⟨rfl, hR⟩ : e = .returned (.int .u64 (v2 : Int)) ∧ RdT x2 b k2 := hp
                  replace hv2 := Lib.hid hv2
                  have hS2 := Lib.hid (hS1.out.kk hkk.out hR)
                  clear hS1 hkk hR hxl
                  go_wp2_with (first
                    | (refine wpList_blk_put (cs := #[.int .u64 (v1.1 : Int), .int .i64 (v1.2 : Int)]) rfl (.tmp 53) (.tmp 50) rfl rfl rfl hS2.out.bk hIc (by show 2 + 2 ≤ 19; decide) (by simp [mgA, vwC, Value.oneCell']) ?_; intro y1 hX hK hs; have hP1 := Lib.hid (hS2.out.put (y' := { (begE (3 : Nat) p0) with conf := cfOf v1 }) hX hK hs (by kernel_rfl) rfl rfl); have c6 : y1.cell? ⟨xb, 6, none⟩ = some (.int .u64 0) := hP1.out.bk.cell rfl; have f6 := hP1.out.fz 6; clear hX hK hs hS2))
                  go_meet
                  exact ⟨{ (begE (3 : Nat) p0) with conf := cfOf v1, mem := v2 }, none, 0, none, 0, k2, Lib.hid (hP1.out.put (y' := { (begE (3 : Nat) p0) with conf := cfOf v1, mem := v2 }) (hP1.out.bk.set 6 _) ((Kp.refl _ _).setCell ⟨xb, 6, none⟩ rfl _) (by simp [World.setCell]) (by kernel_rfl) rfl rfl), Lib.hid rfl, Lib.hid (by simp only [rowL, rowT, sw2, fieldT, hv1.out, hv2.out, Option.bind_some, Option.bind_none, Option.map_some, Option.map_none, fin])⟩
            · -- 4
              have HA := Lib.hid (rdconf_any l2 hS.out.r (hS.out.tl hT.out))
              have hxl := hS.out.bk.lt
              go_wp2_with fail
              refine HA.out.mono ?_
              rintro e x1 ⟨hp, hkk⟩
              replace hkk := Lib.hid hkk
              clear HA
              cases hv1 : takeT 18446744073709551615 63 l2 with
              | none =>
                rw [hv1] at hp
                obtain rfl : e = pan 4 := hp
                exact ⟨rfl, PRE.no (by rw [hPW.out]; simp only [rowL, rowT, fieldT, hv1, Option.bind_some, Option.bind_none, Option.map_some, Option.map_none, fin]) rfl, hS.out.k.trans hkk.out⟩
              | some p =>
                obtain ⟨v1, k1⟩ := p
                rw [hv1] at hp
                obtain ⟨rfl, hR⟩ : e = .returned (.agg #[.int .u64 (v1.1 : Int), .int .i64 (v1.2 : Int)]) ∧ RdT x1 b k1 := hp
                replace hv1 := Lib.hid hv1
                have hS1 := Lib.hid (hS.out.kk hkk.out hR)
                clear hS hkk hR hxl
                have HA := Lib.hid (rdconf_any k1 hS1.out.r (hS1.out.tl hT.out))
                have hxl := hS1.out.bk.lt
                go_wp2_with fail
                refine HA.out.mono ?_
                rintro e x2 ⟨hp, hkk⟩
                replace hkk := Lib.hid hkk
                clear HA
                cases hv2 : takeT 18446744073709551615 63 k1 with
                | none =>
                  rw [hv2] at hp
                  obtain rfl : e = pan 4 := hp
                  exact ⟨rfl, PRE.no (by rw [hPW.out]; simp only [rowL, rowT, fieldT, hv1.out, hv2, Option.bind_some, Option.bind_none, Option.map_some, Option.map_none, fin]) rfl, hS1.out.k.trans hkk.out⟩
                | some p =>
                  obtain ⟨v2, k2⟩ := p
                  rw [hv2] at hp
                  obtain ⟨rfl, hR⟩ : e = .returned (.agg #[.int .u64 (v2.1 : Int), .int .i64 (v2.2 : Int)]) ∧ RdT x2 b k2 := hp
                  replace hv2 := Lib.hid hv2
                  have hS2 := Lib.hid (hS1.out.kk hkk.out hR)
                  clear hS1 hkk hR hxl
                  go_upto_region 20 with (first
                    | (refine wpList_blk_put (cs := #[.int .u64 (v1.1 : Int), .int .i64 (v1.2 : Int)]) rfl (.tmp 61) (.tmp 58) rfl rfl rfl hS2.out.bk hIc (by show 2 + 2 ≤ 19; decide) (by simp [mgA, vwC, Value.oneCell']) ?_; intro y1 hX hK hs; have hP1 := Lib.hid (hS2.out.put (y' := { (begE (4 : Nat) p0) with conf := cfOf v1 }) hX hK hs (by kernel_rfl) rfl rfl); clear hX hK hs hS2)
                    | (refine wpList_blk_put (cs := #[.int .u64 (v2.1 : Int), .int .i64 (v2.2 : Int)]) rfl (.tmp 62) (.tmp 60) rfl rfl rfl hP1.out.bk hIc (by show 4 + 2 ≤ 19; decide) (by simp [mgA, vwC, Value.oneCell']) ?_; intro y2 hX hK hs; have hP2 := Lib.hid (hP1.out.put (y' := { (begE (4 : Nat) p0) with conf := cfOf v1, new := cfOf v2 }) hX hK hs (by kernel_rfl) rfl rfl); clear hX hK hs hP1))
                  have HA := Lib.hid (rdnum_any k2 hP2.out.r (hP2.out.tl hT.out))
                  have hxl := hP2.out.bk.lt
                  go_wp2_with fail
                  refine HA.out.mono ?_
                  rintro e x3 ⟨hp, hkk⟩
                  replace hkk := Lib.hid hkk
                  clear HA
                  cases hv3 : takeN 18446744073709551615 k2 with
                  | none =>
                    rw [hv3] at hp
                    obtain rfl : e = pan 4 := hp
                    exact ⟨rfl, PRE.no (by rw [hPW.out]; simp only [rowL, rowT, fieldT, hv1.out, hv2.out, hv3, Option.bind_some, Option.bind_none, Option.map_some, Option.map_none, fin]) rfl, hP2.out.k.trans hkk.out⟩
                  | some p =>
                    obtain ⟨v3, k3⟩ := p
                    rw [hv3] at hp
                    obtain ⟨rfl, hR⟩ : e = .returned (.int .u64 (v3 : Int)) ∧ RdT x3 b k3 := hp
                    replace hv3 := Lib.hid hv3
                    have hS3 := Lib.hid (hP2.out.kk hkk.out hR)
                    clear hP2 hkk hR hxl
                    have c6 : x3.cell? ⟨xb, 6, none⟩ = some (.int .u64 0) := hS3.out.bk.cell rfl
                    have f6 := hS3.out.fz 6
                    go_wp2_with fail
                    go_meet
                    exact ⟨{ (begE (4 : Nat) p0) with conf := cfOf v1, new := cfOf v2, mem := v3 }, none, 0, none, 0, k3, Lib.hid (hS3.out.put (y' := { (begE (4 : Nat) p0) with conf := cfOf v1, new := cfOf v2, mem := v3 }) (hS3.out.bk.set 6 _) ((Kp.refl _ _).setCell ⟨xb, 6, none⟩ rfl _) (by simp [World.setCell]) (by kernel_rfl) rfl rfl), Lib.hid rfl, Lib.hid (by simp only [rowL, rowT, sw2, fieldT, hv1.out, hv2.out, hv3.out, Option.bind_some, Option.bind_none, Option.map_some, Option.map_none, fin])⟩
            · -- 5
              go_wp2_with fail
              go_meet
              exact ⟨(begE (5 : Nat) p0), none, 0, none, 0, l2, hS, Lib.hid rfl, Lib.hid rfl⟩
            · -- 6
              go_wp2_with fail
              go_meet
              exact ⟨(begE (6 : Nat) p0), none, 0, none, 0, l2, hS, Lib.hid rfl, Lib.hid rfl⟩
            · -- 7
              have HA := Lib.hid (rdview_any l2 hS.out.r (hS.out.tl hT.out))
              have hxl := hS.out.bk.lt
              go_wp2_with fail
              refine HA.out.mono ?_
              rintro e x1 ⟨hp, hkk⟩
              replace hkk := Lib.hid hkk
              clear HA
              cases hv1 : takeV l2 with
              | none =>
                rw [hv1] at hp
                obtain rfl : e = pan 4 := hp
                exact ⟨rfl, PRE.no (by rw [hPW.out]; simp only [rowL, rowT, fieldT, hv1, Option.bind_some, Option.bind_none, Option.map_some, Option.map_none, fin]) rfl, hS.out.k.trans hkk.out⟩
              | some p =>
                obtain ⟨v1, k1⟩ := p
                rw [hv1] at hp
                obtain ⟨rfl, hR⟩ : e = .returned (.agg (vwC v1)) ∧ RdT x1 b k1 := hp
                replace hv1 := Lib.hid hv1
                have hS1 := Lib.hid (hS.out.kk hkk.out hR)
                clear hS hkk hR hxl
                go_wp2_with (first
                  | (refine wpList_blk_put (cs := vwC v1) rfl (.tmp 73) (.tmp 72) rfl rfl rfl hS1.out.bk (show _ = some 4 from hIv) (by show 13 + 4 ≤ 19; decide) (by simp [mgA, vwC, Value.oneCell']) ?_; intro y1 hX hK hs; have hP1 := Lib.hid (hS1.out.put (y' := { (begE (7 : Nat) p0) with num := v1.1, vconf := v1.2.1, vmem := v1.2.2 }) hX hK hs (by kernel_rfl) rfl rfl); clear hX hK hs hS1))
                go_loopw [83] (fun _ wr => ∃ (acc : List (Nat × Nat)) (l6 : List W8) (na : Option Addr) (nc : Nat), Hid (EvS w wr mb xb b { (begE (7 : Nat) p0) with num := v1.1, vconf := v1.2.1, vmem := v1.2.2, names := (acc).map nmOf } none 0 na nc l6) ∧ Hid (mapO (fun w => twoN w 63 4294967295) k1 = (mapO (fun w => twoN w 63 4294967295) l6).map (acc ++ ·)) ∧ Hid (acc.length + l6.length = k1.length)) (fun _ wr => lenW b wr)
                case atStart => exact ⟨[], k1, none, 0, hP1, Lib.hid (by cases mapO (fun w => twoN w 63 4294967295) k1 <;> rfl), Lib.hid (by simp)⟩
                case round =>
                  obtain ⟨acc, l6, na, nc, hS6, hmo, hal⟩ := hrel
                  obtain ⟨w6, rfl⟩ : ∃ z, z = wr := ⟨_, rfl⟩
                  obtain ⟨ra, rc, c7⟩ := hS6.out.r.lenAt
                  have hms := Lib.hid hS6.out.r.lenW
                  cases l6 with
                  | nil =>
                    clear hP1
                    go_wp2_with fail
                    go_meet
                    exact ⟨{ (begE (7 : Nat) p0) with num := v1.1, vconf := v1.2.1, vmem := v1.2.2, names := (acc).map nmOf }, none, 0, na, nc, [], hS6, Lib.hid rfl, Lib.hid (by simp only [rowL, rowT, sw2, fieldT, hv1.out, hmo.out, mapO, List.append_nil, Option.bind_some, Option.bind_none, Option.map_some, Option.map_none, fin])⟩
                  | cons u r =>
                    have hlen : (0 : Int) < (r.length : Int) + 1 := by omega
                    rw [List.length_cons] at c7
                    clear hP1
                    go_upto_region 26 with (fail)
                    have hSd := Lib.hid (hS6.out.kk (Kp.refl b w6).drew (hS6.out.r.below (Below.refl _ _).drew))
                    obtain ⟨wd, hwd⟩ : ∃ z, z = w6.drew := ⟨_, rfl⟩
                    have hsd : w6.heap.size = wd.heap.size := by rw [hwd]; rfl
                    refine wp_region_held_drew (S := fun _ => True) (by kernel_rfl) trivial ?_
                    intro hHeld
                    rw [← hwd] at hSd
                    first | rw [← hwd] | (change wpAnyH _ _ _ _ _ _ _ _ w6.drew; rw [← hwd])
                    clear hwd hS6 c7
                    have HN := Lib.hid (rdname_any (u :: r) hSd.out.r (hSd.out.tl hT.out))
                    have hxl := hSd.out.bk.lt
                    obtain ⟨n, hn⟩ : ∃ z, z = (acc.map nmOf).length := ⟨_, rfl⟩
                    have c17 : wd.cell? ⟨xb, 17, none⟩ = some (.slice na n nc) := by rw [hn]; exact hSd.out.bk.cell rfl
                    have hnr := hSd.out.nr
                    have hnm : Hid (n ≤ 4294967296) := Lib.hid (by have h1 := hal.out; have h2 := takeV_le hv1.out; have h3 := hl2.out; have h4 := hn; rw [List.length_map] at h4; rw [List.length_cons] at h1; omega)
                    replace hn := Lib.hid hn
                    (refine wpAnyH_take (i := 0) (v := ?_) rfl (by kernel_rfl) (by kernel_rfl) (by kernel_rfl) (fun _ _ _ h => h) (Or.inl ⟨by rfl, ?_⟩) (by assumption) ?_; rotate_left; (focus (intro w hSw; clear hSw; go_simp; (try with_reducible rfl))); (try simp only [Act.put, List.getElem_toArray, List.getElem_cons_zero, List.getElem_cons_succ, List.setIfInBounds_toArray, List.set_cons_zero, List.set_cons_succ]))
                    (refine wpAnyH_take (i := 2) (v := ?_) rfl (by kernel_rfl) (by kernel_rfl) (by kernel_rfl) (fun _ _ _ h => h) (Or.inl ⟨by rfl, ?_⟩) (by assumption) ?_; rotate_left; (focus (intro w hSw; clear hSw; go_simp; (try with_reducible rfl))); (try simp only [Act.put, List.getElem_toArray, List.getElem_cons_zero, List.getElem_cons_succ, List.setIfInBounds_toArray, List.set_cons_zero, List.set_cons_succ]))
                    refine wpAnyH_ready (rs := [1, 3]) (by kernel_rfl) (by simp) ?_
                    refine AllReadyH.cons rfl (fun K hK => ?_) (AllReadyH.cons rfl (fun K hK => ?_) AllReadyH.nil)
                    · -- load, name, build
                      go_simp
                      refine hK.out _ _ trivial (fun hHeld => ?_)
                      clear hK K
                      (refine wpAnyH_ready (rs := [3]) (by kernel_rfl) (by simp) ?_; refine AllReadyH.cons rfl (fun K hK => ?_) AllReadyH.nil)
                      go_simp
                      refine HN.out.mono ?_
                      rintro e w7 ⟨hp, hkk⟩
                      clear HN
                      cases hv2 : takeT 63 4294967295 (u :: r) with
                      | none =>
                        rw [hv2] at hp
                        obtain rfl : e = pan 4 := hp
                        exact ⟨rfl, PRE.no (by
                          rw [takeT_cons] at hv2
                          have ht : twoN u 63 4294967295 = none := by cases e : twoN u 63 4294967295 with
                            | none => rfl
                            | some v => rw [e] at hv2; cases hv2
                          rw [hPW.out]; simp only [rowL, rowT, fieldT, hv1.out, hmo.out, mapO, ht, Option.bind_some, Option.bind_none, Option.map_some, Option.map_none, fin]) rfl, hSd.out.k.trans hkk⟩
                      | some q =>
                        obtain ⟨v2, k2⟩ := q
                        rw [hv2] at hp
                        obtain ⟨rfl, hR⟩ : e = .returned (.agg #[.int .i64 (v2.1 : Int), .int .u32 (v2.2 : Int)]) ∧ RdT w7 b k2 := hp
                        obtain ⟨hk2, ht⟩ : k2 = r ∧ twoN u 63 4294967295 = some v2 := by
                          rw [takeT_cons] at hv2
                          cases e : twoN u 63 4294967295 with
                          | none => rw [e] at hv2; cases hv2
                          | some v =>
                            rw [e] at hv2
                            simp only [Option.map_some, Option.some.injEq, Prod.mk.injEq] at hv2
                            exact ⟨hv2.2.symm, by rw [hv2.1]⟩
                        subst hk2
                        replace ht := Lib.hid ht
                        clear hv2
                        have hS7 := Lib.hid (hSd.out.kk hkk hR)
                        have hle7 := hkk.size
                        have c17 : w7.cell? ⟨xb, 17, none⟩ = some (.slice na n nc) := by rw [hn.out]; exact hS7.out.bk.cell rfl
                        refine hK.out _ _ trivial (fun hHeld => ?_)
                        clear hK K hSd hkk hR
                        (refine wpAnyH_ready (rs := [4]) (by kernel_rfl) (by simp) ?_; refine AllReadyH.cons rfl (fun K hK => ?_) AllReadyH.nil)
                        refine step_buildSlice1 (some 84) rfl rfl 32 96 (.tmp 83) rfl Tryz.nmE (by decide) rfl rfl ?_
                        have hbz := alloc_below w7 (.cells #[.int .i64 (v2.1 : Int), .int .u32 (v2.2 : Int)] 96)
                        have hrz : Hid (Rd (w7.alloc (.cells #[.int .i64 (v2.1 : Int), .int .u32 (v2.2 : Int)] 96)) 2 (some ⟨w7.heap.size, 0, none⟩) 1 1 (nmC (nmOf v2))) := Lib.hid (rd_newn rfl rfl)
                        have hS8 := Lib.hid (hS7.out.kk (Kp.ofBelow hbz) (hS7.out.r.below hbz))
                        have hle8 := hbz.size
                        obtain ⟨rb, hrb⟩ : ∃ z, z = w7.heap.size := ⟨_, rfl⟩
                        rw [← hrb] at hrz
                        obtain ⟨w8, hw8⟩ : ∃ z, z = w7.alloc (.cells #[.int .i64 (v2.1 : Int), .int .u32 (v2.2 : Int)] 96) := ⟨_, rfl⟩
                        rw [← hw8] at hrz hS8 hle8
                        rw [← hrb, ← hw8]
                        have c17 : w8.cell? ⟨xb, 17, none⟩ = some (.slice na n nc) := by rw [hn.out]; exact hS8.out.bk.cell rfl
                        refine hK.out _ _ trivial (fun hHeld => ?_)
                        clear hK K hw8 hrb hbz hS7
                        (refine wpAnyH_ready (rs := [5]) (by kernel_rfl) (by simp) ?_; refine AllReadyH.cons rfl (fun K hK => ?_) AllReadyH.nil)
                        have hnr8 : World.ownsRow w8 (xb + 1) 96 2 (.slice na n nc) n ((acc.map nmOf).flatMap nmC) := by rw [hn.out]; exact hS8.out.nr
                        refine step_append_apart Tryz.nmE rfl (.tmp 81) (.tmp 84) rfl (by rfl) hnr8 rfl hrz.out (by decide) (by intro x hx; rcases hx with _ | ⟨_, _ | ⟨_, hx⟩⟩ <;> first | rfl | cases hx) (by have := hnm.out; unfold maxLen; omega) (by have := hnm.out; omega) (by have := hS8.out.bk.lt; omega) ?_
                        intro v' w9 ho9 hg9 hv9
                        obtain ⟨na9, nc9, rfl, hrd9⟩ := Rd.own ho9
                        have hg9' := hg9
                        rw [hn.out] at hg9'
                        have hbk9 := hS8.out.bk.below (hS8.out.grown hg9') (Nat.lt_succ_self _)
                        have c19 : w9.cell? ⟨xb, 17, none⟩ = some (.slice na n nc) := by rw [hn.out]; exact hbk9.cell rfl
                        have f19 : w9.frozen? ⟨xb, 17, none⟩ = false := hbk9.fz 17
                        have hS10 := Lib.hid (hS8.out.app (t := nmOf v2) hn.out rfl hg9' ho9)
                        refine hK.out _ _ trivial (fun hHeld => ?_)
                        clear hK K hg9 hg9' hbk9 ho9 hnr8 hS8 hrd9 hv9
                        (refine wpAnyH_take (i := 6) (v := ?_) rfl (by kernel_rfl) (by kernel_rfl) (by kernel_rfl) (fun _ _ _ h => h) (Or.inl ⟨by rfl, ?_⟩) (by assumption) ?_; rotate_left; (focus (intro w hSw; clear hSw; go_simp; (try with_reducible rfl))); (try simp only [Act.put, List.getElem_toArray, List.getElem_cons_zero, List.getElem_cons_succ, List.setIfInBounds_toArray, List.set_cons_zero, List.set_cons_succ]))
                        (refine wpAnyH_ready (rs := [7]) (by kernel_rfl) (by simp) ?_; refine AllReadyH.cons rfl (fun K hK => ?_) AllReadyH.nil)
                        go_simp
                        refine hK.out _ _ trivial (fun hHeld => ?_)
                        clear hK K
                        refine wpAnyH_done (by kernel_rfl) ?_ _
                        go_wp2
                        go_roundw
                        case rel =>
                          exact ⟨acc ++ [v2], k2, na9, nc9, Lib.hid (by rw [show (acc ++ [v2]).map nmOf = acc.map nmOf ++ [nmOf v2] from by simp]; exact hS10.out), Lib.hid (by
                            rw [hmo.out]
                            simp only [mapO, ht.out]
                            cases mapO (fun w => twoN w 63 4294967295) k2 <;> simp), Lib.hid (by have := hal.out; simp at this ⊢; omega)⟩
                        case measure =>
                          rw [hms.out, hS10.out.r.lenW, List.length_cons]
                          omega
                    · -- name first
                      go_simp
                      refine HN.out.mono ?_
                      rintro e w7 ⟨hp, hkk⟩
                      clear HN
                      cases hv2 : takeT 63 4294967295 (u :: r) with
                      | none =>
                        rw [hv2] at hp
                        obtain rfl : e = pan 4 := hp
                        exact ⟨rfl, PRE.no (by
                          rw [takeT_cons] at hv2
                          have ht : twoN u 63 4294967295 = none := by cases e : twoN u 63 4294967295 with
                            | none => rfl
                            | some v => rw [e] at hv2; cases hv2
                          rw [hPW.out]; simp only [rowL, rowT, fieldT, hv1.out, hmo.out, mapO, ht, Option.bind_some, Option.bind_none, Option.map_some, Option.map_none, fin]) rfl, hSd.out.k.trans hkk⟩
                      | some q =>
                        obtain ⟨v2, k2⟩ := q
                        rw [hv2] at hp
                        obtain ⟨rfl, hR⟩ : e = .returned (.agg #[.int .i64 (v2.1 : Int), .int .u32 (v2.2 : Int)]) ∧ RdT w7 b k2 := hp
                        obtain ⟨hk2, ht⟩ : k2 = r ∧ twoN u 63 4294967295 = some v2 := by
                          rw [takeT_cons] at hv2
                          cases e : twoN u 63 4294967295 with
                          | none => rw [e] at hv2; cases hv2
                          | some v =>
                            rw [e] at hv2
                            simp only [Option.map_some, Option.some.injEq, Prod.mk.injEq] at hv2
                            exact ⟨hv2.2.symm, by rw [hv2.1]⟩
                        subst hk2
                        replace ht := Lib.hid ht
                        clear hv2
                        have hS7 := Lib.hid (hSd.out.kk hkk hR)
                        have hle7 := hkk.size
                        have c17 : w7.cell? ⟨xb, 17, none⟩ = some (.slice na n nc) := by rw [hn.out]; exact hS7.out.bk.cell rfl
                        refine hK.out _ _ trivial (fun hHeld => ?_)
                        clear hK K hSd hkk hR
                        refine wpAnyH_ready (rs := [1, 4]) (by kernel_rfl) (by simp) ?_
                        refine AllReadyH.cons rfl (fun K hK => ?_) (AllReadyH.cons rfl (fun K hK => ?_) AllReadyH.nil)
                        · -- load, build
                          go_simp
                          refine hK.out _ _ trivial (fun hHeld => ?_)
                          clear hK K
                          (refine wpAnyH_ready (rs := [4]) (by kernel_rfl) (by simp) ?_; refine AllReadyH.cons rfl (fun K hK => ?_) AllReadyH.nil)
                          refine step_buildSlice1 (some 84) rfl rfl 32 96 (.tmp 83) rfl Tryz.nmE (by decide) rfl rfl ?_
                          have hbz := alloc_below w7 (.cells #[.int .i64 (v2.1 : Int), .int .u32 (v2.2 : Int)] 96)
                          have hrz : Hid (Rd (w7.alloc (.cells #[.int .i64 (v2.1 : Int), .int .u32 (v2.2 : Int)] 96)) 2 (some ⟨w7.heap.size, 0, none⟩) 1 1 (nmC (nmOf v2))) := Lib.hid (rd_newn rfl rfl)
                          have hS8 := Lib.hid (hS7.out.kk (Kp.ofBelow hbz) (hS7.out.r.below hbz))
                          have hle8 := hbz.size
                          obtain ⟨rb, hrb⟩ : ∃ z, z = w7.heap.size := ⟨_, rfl⟩
                          rw [← hrb] at hrz
                          obtain ⟨w8, hw8⟩ : ∃ z, z = w7.alloc (.cells #[.int .i64 (v2.1 : Int), .int .u32 (v2.2 : Int)] 96) := ⟨_, rfl⟩
                          rw [← hw8] at hrz hS8 hle8
                          rw [← hrb, ← hw8]
                          have c17 : w8.cell? ⟨xb, 17, none⟩ = some (.slice na n nc) := by rw [hn.out]; exact hS8.out.bk.cell rfl
                          refine hK.out _ _ trivial (fun hHeld => ?_)
                          clear hK K hw8 hrb hbz hS7
                          (refine wpAnyH_ready (rs := [5]) (by kernel_rfl) (by simp) ?_; refine AllReadyH.cons rfl (fun K hK => ?_) AllReadyH.nil)
                          have hnr8 : World.ownsRow w8 (xb + 1) 96 2 (.slice na n nc) n ((acc.map nmOf).flatMap nmC) := by rw [hn.out]; exact hS8.out.nr
                          refine step_append_apart Tryz.nmE rfl (.tmp 81) (.tmp 84) rfl (by rfl) hnr8 rfl hrz.out (by decide) (by intro x hx; rcases hx with _ | ⟨_, _ | ⟨_, hx⟩⟩ <;> first | rfl | cases hx) (by have := hnm.out; unfold maxLen; omega) (by have := hnm.out; omega) (by have := hS8.out.bk.lt; omega) ?_
                          intro v' w9 ho9 hg9 hv9
                          obtain ⟨na9, nc9, rfl, hrd9⟩ := Rd.own ho9
                          have hg9' := hg9
                          rw [hn.out] at hg9'
                          have hbk9 := hS8.out.bk.below (hS8.out.grown hg9') (Nat.lt_succ_self _)
                          have c19 : w9.cell? ⟨xb, 17, none⟩ = some (.slice na n nc) := by rw [hn.out]; exact hbk9.cell rfl
                          have f19 : w9.frozen? ⟨xb, 17, none⟩ = false := hbk9.fz 17
                          have hS10 := Lib.hid (hS8.out.app (t := nmOf v2) hn.out rfl hg9' ho9)
                          refine hK.out _ _ trivial (fun hHeld => ?_)
                          clear hK K hg9 hg9' hbk9 ho9 hnr8 hS8 hrd9 hv9
                          (refine wpAnyH_take (i := 6) (v := ?_) rfl (by kernel_rfl) (by kernel_rfl) (by kernel_rfl) (fun _ _ _ h => h) (Or.inl ⟨by rfl, ?_⟩) (by assumption) ?_; rotate_left; (focus (intro w hSw; clear hSw; go_simp; (try with_reducible rfl))); (try simp only [Act.put, List.getElem_toArray, List.getElem_cons_zero, List.getElem_cons_succ, List.setIfInBounds_toArray, List.set_cons_zero, List.set_cons_succ]))
                          (refine wpAnyH_ready (rs := [7]) (by kernel_rfl) (by simp) ?_; refine AllReadyH.cons rfl (fun K hK => ?_) AllReadyH.nil)
                          go_simp
                          refine hK.out _ _ trivial (fun hHeld => ?_)
                          clear hK K
                          refine wpAnyH_done (by kernel_rfl) ?_ _
                          go_wp2
                          go_roundw
                          case rel =>
                            exact ⟨acc ++ [v2], k2, na9, nc9, Lib.hid (by rw [show (acc ++ [v2]).map nmOf = acc.map nmOf ++ [nmOf v2] from by simp]; exact hS10.out), Lib.hid (by
                              rw [hmo.out]
                              simp only [mapO, ht.out]
                              cases mapO (fun w => twoN w 63 4294967295) k2 <;> simp), Lib.hid (by have := hal.out; simp at this ⊢; omega)⟩
                          case measure =>
                            rw [hms.out, hS10.out.r.lenW, List.length_cons]
                            omega
                        · -- build, load
                          refine step_buildSlice1 (some 84) rfl rfl 32 96 (.tmp 83) rfl Tryz.nmE (by decide) rfl rfl ?_
                          have hbz := alloc_below w7 (.cells #[.int .i64 (v2.1 : Int), .int .u32 (v2.2 : Int)] 96)
                          have hrz : Hid (Rd (w7.alloc (.cells #[.int .i64 (v2.1 : Int), .int .u32 (v2.2 : Int)] 96)) 2 (some ⟨w7.heap.size, 0, none⟩) 1 1 (nmC (nmOf v2))) := Lib.hid (rd_newn rfl rfl)
                          have hS8 := Lib.hid (hS7.out.kk (Kp.ofBelow hbz) (hS7.out.r.below hbz))
                          have hle8 := hbz.size
                          obtain ⟨rb, hrb⟩ : ∃ z, z = w7.heap.size := ⟨_, rfl⟩
                          rw [← hrb] at hrz
                          obtain ⟨w8, hw8⟩ : ∃ z, z = w7.alloc (.cells #[.int .i64 (v2.1 : Int), .int .u32 (v2.2 : Int)] 96) := ⟨_, rfl⟩
                          rw [← hw8] at hrz hS8 hle8
                          rw [← hrb, ← hw8]
                          have c17 : w8.cell? ⟨xb, 17, none⟩ = some (.slice na n nc) := by rw [hn.out]; exact hS8.out.bk.cell rfl
                          refine hK.out _ _ trivial (fun hHeld => ?_)
                          clear hK K hw8 hrb hbz hS7
                          (refine wpAnyH_ready (rs := [1]) (by kernel_rfl) (by simp) ?_; refine AllReadyH.cons rfl (fun K hK => ?_) AllReadyH.nil)
                          go_simp
                          refine hK.out _ _ trivial (fun hHeld => ?_)
                          clear hK K
                          (refine wpAnyH_ready (rs := [5]) (by kernel_rfl) (by simp) ?_; refine AllReadyH.cons rfl (fun K hK => ?_) AllReadyH.nil)
                          have hnr8 : World.ownsRow w8 (xb + 1) 96 2 (.slice na n nc) n ((acc.map nmOf).flatMap nmC) := by rw [hn.out]; exact hS8.out.nr
                          refine step_append_apart Tryz.nmE rfl (.tmp 81) (.tmp 84) rfl (by rfl) hnr8 rfl hrz.out (by decide) (by intro x hx; rcases hx with _ | ⟨_, _ | ⟨_, hx⟩⟩ <;> first | rfl | cases hx) (by have := hnm.out; unfold maxLen; omega) (by have := hnm.out; omega) (by have := hS8.out.bk.lt; omega) ?_
                          intro v' w9 ho9 hg9 hv9
                          obtain ⟨na9, nc9, rfl, hrd9⟩ := Rd.own ho9
                          have hg9' := hg9
                          rw [hn.out] at hg9'
                          have hbk9 := hS8.out.bk.below (hS8.out.grown hg9') (Nat.lt_succ_self _)
                          have c19 : w9.cell? ⟨xb, 17, none⟩ = some (.slice na n nc) := by rw [hn.out]; exact hbk9.cell rfl
                          have f19 : w9.frozen? ⟨xb, 17, none⟩ = false := hbk9.fz 17
                          have hS10 := Lib.hid (hS8.out.app (t := nmOf v2) hn.out rfl hg9' ho9)
                          refine hK.out _ _ trivial (fun hHeld => ?_)
                          clear hK K hg9 hg9' hbk9 ho9 hnr8 hS8 hrd9 hv9
                          (refine wpAnyH_take (i := 6) (v := ?_) rfl (by kernel_rfl) (by kernel_rfl) (by kernel_rfl) (fun _ _ _ h => h) (Or.inl ⟨by rfl, ?_⟩) (by assumption) ?_; rotate_left; (focus (intro w hSw; clear hSw; go_simp; (try with_reducible rfl))); (try simp only [Act.put, List.getElem_toArray, List.getElem_cons_zero, List.getElem_cons_succ, List.setIfInBounds_toArray, List.set_cons_zero, List.set_cons_succ]))
                          (refine wpAnyH_ready (rs := [7]) (by kernel_rfl) (by simp) ?_; refine AllReadyH.cons rfl (fun K hK => ?_) AllReadyH.nil)
                          go_simp
                          refine hK.out _ _ trivial (fun hHeld => ?_)
                          clear hK K
                          refine wpAnyH_done (by kernel_rfl) ?_ _
                          go_wp2
                          go_roundw
                          case rel =>
                            exact ⟨acc ++ [v2], k2, na9, nc9, Lib.hid (by rw [show (acc ++ [v2]).map nmOf = acc.map nmOf ++ [nmOf v2] from by simp]; exact hS10.out), Lib.hid (by
                              rw [hmo.out]
                              simp only [mapO, ht.out]
                              cases mapO (fun w => twoN w 63 4294967295) k2 <;> simp), Lib.hid (by have := hal.out; simp at this ⊢; omega)⟩
                          case measure =>
                            rw [hms.out, hS10.out.r.lenW, List.length_cons]
                            omega
            · -- 8
              have HA := Lib.hid (rdview_any l2 hS.out.r (hS.out.tl hT.out))
              have hxl := hS.out.bk.lt
              go_wp2_with fail
              refine HA.out.mono ?_
              rintro e x1 ⟨hp, hkk⟩
              replace hkk := Lib.hid hkk
              clear HA
              cases hv1 : takeV l2 with
              | none =>
                rw [hv1] at hp
                obtain rfl : e = pan 4 := hp
                exact ⟨rfl, PRE.no (by rw [hPW.out]; simp only [rowL, rowT, fieldT, hv1, Option.bind_some, Option.bind_none, Option.map_some, Option.map_none, fin]) rfl, hS.out.k.trans hkk.out⟩
              | some p =>
                obtain ⟨v1, k1⟩ := p
                rw [hv1] at hp
                obtain ⟨rfl, hR⟩ : e = .returned (.agg (vwC v1)) ∧ RdT x1 b k1 := hp
                replace hv1 := Lib.hid hv1
                have hS1 := Lib.hid (hS.out.kk hkk.out hR)
                clear hS hkk hR hxl
                have HA := Lib.hid (rdname_any k1 hS1.out.r (hS1.out.tl hT.out))
                have hxl := hS1.out.bk.lt
                go_wp2_with fail
                refine HA.out.mono ?_
                rintro e x2 ⟨hp, hkk⟩
                replace hkk := Lib.hid hkk
                clear HA
                cases hv2 : takeT 63 4294967295 k1 with
                | none =>
                  rw [hv2] at hp
                  obtain rfl : e = pan 4 := hp
                  exact ⟨rfl, PRE.no (by rw [hPW.out]; simp only [rowL, rowT, fieldT, hv1.out, hv2, Option.bind_some, Option.bind_none, Option.map_some, Option.map_none, fin]) rfl, hS1.out.k.trans hkk.out⟩
                | some p =>
                  obtain ⟨v2, k2⟩ := p
                  rw [hv2] at hp
                  obtain ⟨rfl, hR⟩ : e = .returned (.agg #[.int .i64 (v2.1 : Int), .int .u32 (v2.2 : Int)]) ∧ RdT x2 b k2 := hp
                  replace hv2 := Lib.hid hv2
                  have hS2 := Lib.hid (hS1.out.kk hkk.out hR)
                  clear hS1 hkk hR hxl
                  go_wp2_with (first
                    | (refine wpList_buildSlice1 rfl 32 96 (.tmp 96) rfl Tryz.nmE (by decide) rfl rfl ?_; have hbz := alloc_below x2 (.cells #[.int .i64 (v2.1 : Int), .int .u32 (v2.2 : Int)] 96); have hnr : Hid (World.ownsRow (x2.alloc (.cells #[.int .i64 (v2.1 : Int), .int .u32 (v2.2 : Int)] 96)) x2.heap.size 96 2 (.slice (some ⟨x2.heap.size, 0, none⟩) 1 1) 1 [.int .i64 (v2.1 : Int), .int .u32 (v2.2 : Int)]) := Lib.hid (own_newn rfl rfl); have hxl := hS2.out.bk.lt; have hSz := Lib.hid (hS2.out.kk (Kp.ofBelow hbz) (hS2.out.r.below hbz)); generalize x2.heap.size = rb at *; generalize x2.alloc (.cells #[.int .i64 (v2.1 : Int), .int .u32 (v2.2 : Int)] 96) = wz at *; clear hbz hS2)
                    | (refine wpList_blk_put (cs := vwC v1) rfl (.tmp 98) (.tmp 94) rfl rfl rfl hSz.out.bk (show _ = some 4 from hIv) (by show 13 + 4 ≤ 19; decide) (by simp [mgA, vwC, Value.oneCell']) ?_; intro y1 hX hK hs; have hP1 := Lib.hid (hSz.out.put (y' := { (begE (8 : Nat) p0) with num := v1.1, vconf := v1.2.1, vmem := v1.2.2 }) hX hK hs (by kernel_rfl) rfl rfl); replace hnr := Lib.hid (own_keep hnr.out (fun g hg hlt => hK.block g hlt (by have := (hnr.out.lt g hg).1; omega))); have c6 : y1.cell? ⟨xb, 17, none⟩ = some (.slice none 0 0) := hP1.out.bk.cell rfl; have f6 := hP1.out.fz 17; clear hX hK hs hSz))
                  go_meet
                  exact ⟨{ (begE (8 : Nat) p0) with num := v1.1, vconf := v1.2.1, vmem := v1.2.2, names := [nmOf v2] }, none, 0, some ⟨rb, 0, none⟩, 1, k2, Lib.hid (hP1.out.putN (y' := { (begE (8 : Nat) p0) with num := v1.1, vconf := v1.2.1, vmem := v1.2.2, names := [nmOf v2] }) (na' := some ⟨rb, 0, none⟩) (nc' := 1) (hP1.out.bk.set 17 _) ((Kp.refl _ _).setCell ⟨xb, 17, none⟩ rfl _) (by simp [World.setCell]) (by kernel_rfl) hP1.out.dr hP1.out.db (own_mono hnr.out (by omega))), Lib.hid rfl, Lib.hid (by simp only [rowL, rowT, sw2, fieldT, hv1.out, hv2.out, Option.bind_some, Option.bind_none, Option.map_some, Option.map_none, fin])⟩
            · -- 9
              have HA := Lib.hid (rdview_any l2 hS.out.r (hS.out.tl hT.out))
              have hxl := hS.out.bk.lt
              go_wp2_with fail
              refine HA.out.mono ?_
              rintro e x1 ⟨hp, hkk⟩
              replace hkk := Lib.hid hkk
              clear HA
              cases hv1 : takeV l2 with
              | none =>
                rw [hv1] at hp
                obtain rfl : e = pan 4 := hp
                exact ⟨rfl, PRE.no (by rw [hPW.out]; simp only [rowL, rowT, fieldT, hv1, Option.bind_some, Option.bind_none, Option.map_some, Option.map_none, fin]) rfl, hS.out.k.trans hkk.out⟩
              | some p =>
                obtain ⟨v1, k1⟩ := p
                rw [hv1] at hp
                obtain ⟨rfl, hR⟩ : e = .returned (.agg (vwC v1)) ∧ RdT x1 b k1 := hp
                replace hv1 := Lib.hid hv1
                have hS1 := Lib.hid (hS.out.kk hkk.out hR)
                clear hS hkk hR hxl
                have HA := Lib.hid (rdname_any k1 hS1.out.r (hS1.out.tl hT.out))
                have hxl := hS1.out.bk.lt
                go_wp2_with fail
                refine HA.out.mono ?_
                rintro e x2 ⟨hp, hkk⟩
                replace hkk := Lib.hid hkk
                clear HA
                cases hv2 : takeT 63 4294967295 k1 with
                | none =>
                  rw [hv2] at hp
                  obtain rfl : e = pan 4 := hp
                  exact ⟨rfl, PRE.no (by rw [hPW.out]; simp only [rowL, rowT, fieldT, hv1.out, hv2, Option.bind_some, Option.bind_none, Option.map_some, Option.map_none, fin]) rfl, hS1.out.k.trans hkk.out⟩
                | some p =>
                  obtain ⟨v2, k2⟩ := p
                  rw [hv2] at hp
                  obtain ⟨rfl, hR⟩ : e = .returned (.agg #[.int .i64 (v2.1 : Int), .int .u32 (v2.2 : Int)]) ∧ RdT x2 b k2 := hp
                  replace hv2 := Lib.hid hv2
                  have hS2 := Lib.hid (hS1.out.kk hkk.out hR)
                  clear hS1 hkk hR hxl
                  go_wp2_with (first
                    | (refine wpList_buildSlice1 rfl 32 96 (.tmp 96) rfl Tryz.nmE (by decide) rfl rfl ?_; have hbz := alloc_below x2 (.cells #[.int .i64 (v2.1 : Int), .int .u32 (v2.2 : Int)] 96); have hnr : Hid (World.ownsRow (x2.alloc (.cells #[.int .i64 (v2.1 : Int), .int .u32 (v2.2 : Int)] 96)) x2.heap.size 96 2 (.slice (some ⟨x2.heap.size, 0, none⟩) 1 1) 1 [.int .i64 (v2.1 : Int), .int .u32 (v2.2 : Int)]) := Lib.hid (own_newn rfl rfl); have hxl := hS2.out.bk.lt; have hSz := Lib.hid (hS2.out.kk (Kp.ofBelow hbz) (hS2.out.r.below hbz)); generalize x2.heap.size = rb at *; generalize x2.alloc (.cells #[.int .i64 (v2.1 : Int), .int .u32 (v2.2 : Int)] 96) = wz at *; clear hbz hS2)
                    | (refine wpList_blk_put (cs := vwC v1) rfl (.tmp 98) (.tmp 94) rfl rfl rfl hSz.out.bk (show _ = some 4 from hIv) (by show 13 + 4 ≤ 19; decide) (by simp [mgA, vwC, Value.oneCell']) ?_; intro y1 hX hK hs; have hP1 := Lib.hid (hSz.out.put (y' := { (begE (9 : Nat) p0) with num := v1.1, vconf := v1.2.1, vmem := v1.2.2 }) hX hK hs (by kernel_rfl) rfl rfl); replace hnr := Lib.hid (own_keep hnr.out (fun g hg hlt => hK.block g hlt (by have := (hnr.out.lt g hg).1; omega))); have c6 : y1.cell? ⟨xb, 17, none⟩ = some (.slice none 0 0) := hP1.out.bk.cell rfl; have f6 := hP1.out.fz 17; clear hX hK hs hSz))
                  go_meet
                  exact ⟨{ (begE (9 : Nat) p0) with num := v1.1, vconf := v1.2.1, vmem := v1.2.2, names := [nmOf v2] }, none, 0, some ⟨rb, 0, none⟩, 1, k2, Lib.hid (hP1.out.putN (y' := { (begE (9 : Nat) p0) with num := v1.1, vconf := v1.2.1, vmem := v1.2.2, names := [nmOf v2] }) (na' := some ⟨rb, 0, none⟩) (nc' := 1) (hP1.out.bk.set 17 _) ((Kp.refl _ _).setCell ⟨xb, 17, none⟩ rfl _) (by simp [World.setCell]) (by kernel_rfl) hP1.out.dr hP1.out.db (own_mono hnr.out (by omega))), Lib.hid rfl, Lib.hid (by simp only [rowL, rowT, sw2, fieldT, hv1.out, hv2.out, Option.bind_some, Option.bind_none, Option.map_some, Option.map_none, fin])⟩
            · -- 10
              have HA := Lib.hid (rdview_any l2 hS.out.r (hS.out.tl hT.out))
              have hxl := hS.out.bk.lt
              go_wp2_with fail
              refine HA.out.mono ?_
              rintro e x1 ⟨hp, hkk⟩
              replace hkk := Lib.hid hkk
              clear HA
              cases hv1 : takeV l2 with
              | none =>
                rw [hv1] at hp
                obtain rfl : e = pan 4 := hp
                exact ⟨rfl, PRE.no (by rw [hPW.out]; simp only [rowL, rowT, fieldT, hv1, Option.bind_some, Option.bind_none, Option.map_some, Option.map_none, fin]) rfl, hS.out.k.trans hkk.out⟩
              | some p =>
                obtain ⟨v1, k1⟩ := p
                rw [hv1] at hp
                obtain ⟨rfl, hR⟩ : e = .returned (.agg (vwC v1)) ∧ RdT x1 b k1 := hp
                replace hv1 := Lib.hid hv1
                have hS1 := Lib.hid (hS.out.kk hkk.out hR)
                clear hS hkk hR hxl
                have HA := Lib.hid (rdname_any k1 hS1.out.r (hS1.out.tl hT.out))
                have hxl := hS1.out.bk.lt
                go_wp2_with fail
                refine HA.out.mono ?_
                rintro e x2 ⟨hp, hkk⟩
                replace hkk := Lib.hid hkk
                clear HA
                cases hv2 : takeT 63 4294967295 k1 with
                | none =>
                  rw [hv2] at hp
                  obtain rfl : e = pan 4 := hp
                  exact ⟨rfl, PRE.no (by rw [hPW.out]; simp only [rowL, rowT, fieldT, hv1.out, hv2, Option.bind_some, Option.bind_none, Option.map_some, Option.map_none, fin]) rfl, hS1.out.k.trans hkk.out⟩
                | some p =>
                  obtain ⟨v2, k2⟩ := p
                  rw [hv2] at hp
                  obtain ⟨rfl, hR⟩ : e = .returned (.agg #[.int .i64 (v2.1 : Int), .int .u32 (v2.2 : Int)]) ∧ RdT x2 b k2 := hp
                  replace hv2 := Lib.hid hv2
                  have hS2 := Lib.hid (hS1.out.kk hkk.out hR)
                  clear hS1 hkk hR hxl
                  go_wp2_with (first
                    | (refine wpList_buildSlice1 rfl 32 96 (.tmp 96) rfl Tryz.nmE (by decide) rfl rfl ?_; have hbz := alloc_below x2 (.cells #[.int .i64 (v2.1 : Int), .int .u32 (v2.2 : Int)] 96); have hnr : Hid (World.ownsRow (x2.alloc (.cells #[.int .i64 (v2.1 : Int), .int .u32 (v2.2 : Int)] 96)) x2.heap.size 96 2 (.slice (some ⟨x2.heap.size, 0, none⟩) 1 1) 1 [.int .i64 (v2.1 : Int), .int .u32 (v2.2 : Int)]) := Lib.hid (own_newn rfl rfl); have hxl := hS2.out.bk.lt; have hSz := Lib.hid (hS2.out.kk (Kp.ofBelow hbz) (hS2.out.r.below hbz)); generalize x2.heap.size = rb at *; generalize x2.alloc (.cells #[.int .i64 (v2.1 : Int), .int .u32 (v2.2 : Int)] 96) = wz at *; clear hbz hS2)
                    | (refine wpList_blk_put (cs := vwC v1) rfl (.tmp 98) (.tmp 94) rfl rfl rfl hSz.out.bk (show _ = some 4 from hIv) (by show 13 + 4 ≤ 19; decide) (by simp [mgA, vwC, Value.oneCell']) ?_; intro y1 hX hK hs; have hP1 := Lib.hid (hSz.out.put (y' := { (begE (10 : Nat) p0) with num := v1.1, vconf := v1.2.1, vmem := v1.2.2 }) hX hK hs (by kernel_rfl) rfl rfl); replace hnr := Lib.hid (own_keep hnr.out (fun g hg hlt => hK.block g hlt (by have := (hnr.out.lt g hg).1; omega))); have c6 : y1.cell? ⟨xb, 17, none⟩ = some (.slice none 0 0) := hP1.out.bk.cell rfl; have f6 := hP1.out.fz 17; clear hX hK hs hSz))
                  go_meet
                  exact ⟨{ (begE (10 : Nat) p0) with num := v1.1, vconf := v1.2.1, vmem := v1.2.2, names := [nmOf v2] }, none, 0, some ⟨rb, 0, none⟩, 1, k2, Lib.hid (hP1.out.putN (y' := { (begE (10 : Nat) p0) with num := v1.1, vconf := v1.2.1, vmem := v1.2.2, names := [nmOf v2] }) (na' := some ⟨rb, 0, none⟩) (nc' := 1) (hP1.out.bk.set 17 _) ((Kp.refl _ _).setCell ⟨xb, 17, none⟩ rfl _) (by simp [World.setCell]) (by kernel_rfl) hP1.out.dr hP1.out.db (own_mono hnr.out (by omega))), Lib.hid rfl, Lib.hid (by simp only [rowL, rowT, sw2, fieldT, hv1.out, hv2.out, Option.bind_some, Option.bind_none, Option.map_some, Option.map_none, fin])⟩
            · -- 11
              have HA := Lib.hid (rdview_any l2 hS.out.r (hS.out.tl hT.out))
              have hxl := hS.out.bk.lt
              go_wp2_with fail
              refine HA.out.mono ?_
              rintro e x1 ⟨hp, hkk⟩
              replace hkk := Lib.hid hkk
              clear HA
              cases hv1 : takeV l2 with
              | none =>
                rw [hv1] at hp
                obtain rfl : e = pan 4 := hp
                exact ⟨rfl, PRE.no (by rw [hPW.out]; simp only [rowL, rowT, fieldT, hv1, Option.bind_some, Option.bind_none, Option.map_some, Option.map_none, fin]) rfl, hS.out.k.trans hkk.out⟩
              | some p =>
                obtain ⟨v1, k1⟩ := p
                rw [hv1] at hp
                obtain ⟨rfl, hR⟩ : e = .returned (.agg (vwC v1)) ∧ RdT x1 b k1 := hp
                replace hv1 := Lib.hid hv1
                have hS1 := Lib.hid (hS.out.kk hkk.out hR)
                clear hS hkk hR hxl
                have HA := Lib.hid (rdname_any k1 hS1.out.r (hS1.out.tl hT.out))
                have hxl := hS1.out.bk.lt
                go_wp2_with fail
                refine HA.out.mono ?_
                rintro e x2 ⟨hp, hkk⟩
                replace hkk := Lib.hid hkk
                clear HA
                cases hv2 : takeT 63 4294967295 k1 with
                | none =>
                  rw [hv2] at hp
                  obtain rfl : e = pan 4 := hp
                  exact ⟨rfl, PRE.no (by rw [hPW.out]; simp only [rowL, rowT, fieldT, hv1.out, hv2, Option.bind_some, Option.bind_none, Option.map_some, Option.map_none, fin]) rfl, hS1.out.k.trans hkk.out⟩
                | some p =>
                  obtain ⟨v2, k2⟩ := p
                  rw [hv2] at hp
                  obtain ⟨rfl, hR⟩ : e = .returned (.agg #[.int .i64 (v2.1 : Int), .int .u32 (v2.2 : Int)]) ∧ RdT x2 b k2 := hp
                  replace hv2 := Lib.hid hv2
                  have hS2 := Lib.hid (hS1.out.kk hkk.out hR)
                  clear hS1 hkk hR hxl
                  go_wp2_with (first
                    | (refine wpList_buildSlice1 rfl 32 96 (.tmp 96) rfl Tryz.nmE (by decide) rfl rfl ?_; have hbz := alloc_below x2 (.cells #[.int .i64 (v2.1 : Int), .int .u32 (v2.2 : Int)] 96); have hnr : Hid (World.ownsRow (x2.alloc (.cells #[.int .i64 (v2.1 : Int), .int .u32 (v2.2 : Int)] 96)) x2.heap.size 96 2 (.slice (some ⟨x2.heap.size, 0, none⟩) 1 1) 1 [.int .i64 (v2.1 : Int), .int .u32 (v2.2 : Int)]) := Lib.hid (own_newn rfl rfl); have hxl := hS2.out.bk.lt; have hSz := Lib.hid (hS2.out.kk (Kp.ofBelow hbz) (hS2.out.r.below hbz)); generalize x2.heap.size = rb at *; generalize x2.alloc (.cells #[.int .i64 (v2.1 : Int), .int .u32 (v2.2 : Int)] 96) = wz at *; clear hbz hS2)
                    | (refine wpList_blk_put (cs := vwC v1) rfl (.tmp 98) (.tmp 94) rfl rfl rfl hSz.out.bk (show _ = some 4 from hIv) (by show 13 + 4 ≤ 19; decide) (by simp [mgA, vwC, Value.oneCell']) ?_; intro y1 hX hK hs; have hP1 := Lib.hid (hSz.out.put (y' := { (begE (11 : Nat) p0) with num := v1.1, vconf := v1.2.1, vmem := v1.2.2 }) hX hK hs (by kernel_rfl) rfl rfl); replace hnr := Lib.hid (own_keep hnr.out (fun g hg hlt => hK.block g hlt (by have := (hnr.out.lt g hg).1; omega))); have c6 : y1.cell? ⟨xb, 17, none⟩ = some (.slice none 0 0) := hP1.out.bk.cell rfl; have f6 := hP1.out.fz 17; clear hX hK hs hSz))
                  go_meet
                  exact ⟨{ (begE (11 : Nat) p0) with num := v1.1, vconf := v1.2.1, vmem := v1.2.2, names := [nmOf v2] }, none, 0, some ⟨rb, 0, none⟩, 1, k2, Lib.hid (hP1.out.putN (y' := { (begE (11 : Nat) p0) with num := v1.1, vconf := v1.2.1, vmem := v1.2.2, names := [nmOf v2] }) (na' := some ⟨rb, 0, none⟩) (nc' := 1) (hP1.out.bk.set 17 _) ((Kp.refl _ _).setCell ⟨xb, 17, none⟩ rfl _) (by simp [World.setCell]) (by kernel_rfl) hP1.out.dr hP1.out.db (own_mono hnr.out (by omega))), Lib.hid rfl, Lib.hid (by simp only [rowL, rowT, sw2, fieldT, hv1.out, hv2.out, Option.bind_some, Option.bind_none, Option.map_some, Option.map_none, fin])⟩
            · -- 12
              have HA := Lib.hid (rdview_any l2 hS.out.r (hS.out.tl hT.out))
              have hxl := hS.out.bk.lt
              go_wp2_with fail
              refine HA.out.mono ?_
              rintro e x1 ⟨hp, hkk⟩
              replace hkk := Lib.hid hkk
              clear HA
              cases hv1 : takeV l2 with
              | none =>
                rw [hv1] at hp
                obtain rfl : e = pan 4 := hp
                exact ⟨rfl, PRE.no (by rw [hPW.out]; simp only [rowL, rowT, fieldT, hv1, Option.bind_some, Option.bind_none, Option.map_some, Option.map_none, fin]) rfl, hS.out.k.trans hkk.out⟩
              | some p =>
                obtain ⟨v1, k1⟩ := p
                rw [hv1] at hp
                obtain ⟨rfl, hR⟩ : e = .returned (.agg (vwC v1)) ∧ RdT x1 b k1 := hp
                replace hv1 := Lib.hid hv1
                have hS1 := Lib.hid (hS.out.kk hkk.out hR)
                clear hS hkk hR hxl
                have HA := Lib.hid (rdname_any k1 hS1.out.r (hS1.out.tl hT.out))
                have hxl := hS1.out.bk.lt
                go_wp2_with fail
                refine HA.out.mono ?_
                rintro e x2 ⟨hp, hkk⟩
                replace hkk := Lib.hid hkk
                clear HA
                cases hv2 : takeT 63 4294967295 k1 with
                | none =>
                  rw [hv2] at hp
                  obtain rfl : e = pan 4 := hp
                  exact ⟨rfl, PRE.no (by rw [hPW.out]; simp only [rowL, rowT, fieldT, hv1.out, hv2, Option.bind_some, Option.bind_none, Option.map_some, Option.map_none, fin]) rfl, hS1.out.k.trans hkk.out⟩
                | some p =>
                  obtain ⟨v2, k2⟩ := p
                  rw [hv2] at hp
                  obtain ⟨rfl, hR⟩ : e = .returned (.agg #[.int .i64 (v2.1 : Int), .int .u32 (v2.2 : Int)]) ∧ RdT x2 b k2 := hp
                  replace hv2 := Lib.hid hv2
                  have hS2 := Lib.hid (hS1.out.kk hkk.out hR)
                  clear hS1 hkk hR hxl
                  go_wp2_with (first
                    | (refine wpList_buildSlice1 rfl 32 96 (.tmp 96) rfl Tryz.nmE (by decide) rfl rfl ?_; have hbz := alloc_below x2 (.cells #[.int .i64 (v2.1 : Int), .int .u32 (v2.2 : Int)] 96); have hnr : Hid (World.ownsRow (x2.alloc (.cells #[.int .i64 (v2.1 : Int), .int .u32 (v2.2 : Int)] 96)) x2.heap.size 96 2 (.slice (some ⟨x2.heap.size, 0, none⟩) 1 1) 1 [.int .i64 (v2.1 : Int), .int .u32 (v2.2 : Int)]) := Lib.hid (own_newn rfl rfl); have hxl := hS2.out.bk.lt; have hSz := Lib.hid (hS2.out.kk (Kp.ofBelow hbz) (hS2.out.r.below hbz)); generalize x2.heap.size = rb at *; generalize x2.alloc (.cells #[.int .i64 (v2.1 : Int), .int .u32 (v2.2 : Int)] 96) = wz at *; clear hbz hS2)
                    | (refine wpList_blk_put (cs := vwC v1) rfl (.tmp 98) (.tmp 94) rfl rfl rfl hSz.out.bk (show _ = some 4 from hIv) (by show 13 + 4 ≤ 19; decide) (by simp [mgA, vwC, Value.oneCell']) ?_; intro y1 hX hK hs; have hP1 := Lib.hid (hSz.out.put (y' := { (begE (12 : Nat) p0) with num := v1.1, vconf := v1.2.1, vmem := v1.2.2 }) hX hK hs (by kernel_rfl) rfl rfl); replace hnr := Lib.hid (own_keep hnr.out (fun g hg hlt => hK.block g hlt (by have := (hnr.out.lt g hg).1; omega))); have c6 : y1.cell? ⟨xb, 17, none⟩ = some (.slice none 0 0) := hP1.out.bk.cell rfl; have f6 := hP1.out.fz 17; clear hX hK hs hSz))
                  go_meet
                  exact ⟨{ (begE (12 : Nat) p0) with num := v1.1, vconf := v1.2.1, vmem := v1.2.2, names := [nmOf v2] }, none, 0, some ⟨rb, 0, none⟩, 1, k2, Lib.hid (hP1.out.putN (y' := { (begE (12 : Nat) p0) with num := v1.1, vconf := v1.2.1, vmem := v1.2.2, names := [nmOf v2] }) (na' := some ⟨rb, 0, none⟩) (nc' := 1) (hP1.out.bk.set 17 _) ((Kp.refl _ _).setCell ⟨xb, 17, none⟩ rfl _) (by simp [World.setCell]) (by kernel_rfl) hP1.out.dr hP1.out.db (own_mono hnr.out (by omega))), Lib.hid rfl, Lib.hid (by simp only [rowL, rowT, sw2, fieldT, hv1.out, hv2.out, Option.bind_some, Option.bind_none, Option.map_some, Option.map_none, fin])⟩
          case rest => as_aux_lemma =>
            clear hS
            obtain ⟨y, da, dc, na, nc, l6, hS6, hyk, hrow⟩ := hcut
            obtain ⟨w6, rfl⟩ : ∃ z, z = wc := ⟨_, rfl⟩
            have c0 : w6.cell? ⟨xb, 0, none⟩ = some (.int .i64 (k : Int)) := by rw [← hyk.out]; exact hS6.out.bk.cell rfl
            clear hyk
            go_upto_block 5 with (fail)
            go_cut [] from 102 to 112 (fun wx => ∃ (y : TEv) (da : Option Addr) (dc : Nat) (na : Option Addr) (nc : Nat) (l6 : List W8), Hid (EvS w wx mb xb b y da dc na nc l6) ∧ Hid (rowT (rowL k) (begE (k : Nat) p0) l2 = some (y, l6)))
            case first => as_aux_lemma =>
              obtain rfl | rfl | rfl | rfl | rfl | rfl | rfl | rfl | rfl | rfl | rfl | rfl : k = 1 ∨ k = 2 ∨ k = 3 ∨ k = 4 ∨ k = 5 ∨ k = 6 ∨ k = 7 ∨ k = 8 ∨ k = 9 ∨ k = 10 ∨ k = 11 ∨ k = 12 := by omega
              all_goals clear hk0 hk12
              · -- 1
                go_wp2_with fail
                go_meet
                exact ⟨y, da, dc, na, nc, l6, hS6, Lib.hid (by rw [hrow.out]; rfl)⟩
              · -- 2
                go_wp2_with fail
                go_meet
                exact ⟨y, da, dc, na, nc, l6, hS6, Lib.hid (by rw [hrow.out]; rfl)⟩
              · -- 3
                go_wp2_with fail
                go_meet
                exact ⟨y, da, dc, na, nc, l6, hS6, Lib.hid (by rw [hrow.out]; rfl)⟩
              · -- 4
                go_wp2_with fail
                go_meet
                exact ⟨y, da, dc, na, nc, l6, hS6, Lib.hid (by rw [hrow.out]; rfl)⟩
              · -- 5
                go_wp2_with fail
                go_meet
                exact ⟨y, da, dc, na, nc, l6, hS6, Lib.hid (by rw [hrow.out]; rfl)⟩
              · -- 6
                go_wp2_with fail
                go_meet
                exact ⟨y, da, dc, na, nc, l6, hS6, Lib.hid (by rw [hrow.out]; rfl)⟩
              · -- 7
                go_wp2_with fail
                go_meet
                exact ⟨y, da, dc, na, nc, l6, hS6, Lib.hid (by rw [hrow.out]; rfl)⟩
              · -- 8
                have HA := Lib.hid (rdmsg_any l6 hS6.out.r (hS6.out.tl hT.out))
                have hxl := hS6.out.bk.lt
                go_wp2_with fail
                refine HA.out.mono ?_
                rintro e x1 ⟨hp, hkk⟩
                replace hkk := Lib.hid hkk
                clear HA
                cases hv1 : takeM l6 with
                | none =>
                  rw [hv1] at hp
                  obtain rfl : e = pan 4 := hp
                  exact ⟨rfl, PRE.no (by rw [hPW.out]; rw [hrow.out]; simp only [sw2, rowT, fieldT, hv1, Option.bind_some, Option.bind_none, Option.map_some, Option.map_none, fin]) rfl, hS6.out.k.trans hkk.out⟩
                | some p =>
                  obtain ⟨v1, k1⟩ := p
                  rw [hv1] at hp
                  obtain ⟨ma, mc, rfl, hmr, hmB, hR⟩ : ∃ a c, e = .returned (.agg (mgA v1 a v1.deps.length c)) ∧ Rd x1 1 a v1.deps.length c (c32 v1.deps) ∧ (v1.deps.length ≠ 0 → ∀ g off, a = some ⟨g, off, none⟩ → w6.heap.size ≤ g) ∧ RdT x1 b k1 := hp
                  replace hmr := Lib.hid hmr
                  have hmb2 : Hid (v1.deps.length ≠ 0 → ∀ g off, ma = some ⟨g, off, none⟩ → xb + 1 ≤ g) := Lib.hid (fun h0 g off e => by have := hmB h0 g off e; omega)
                  clear hmB
                  replace hv1 := Lib.hid hv1
                  have hS1 := Lib.hid (hS6.out.kk hkk.out hR)
                  clear hS6 hkk hR hxl
                  go_wp2_with (first
                    | (refine wpList_blk_put (cs := mgA v1 ma v1.deps.length mc) rfl (.tmp 107) (.tmp 106) rfl rfl rfl hS1.out.bk (show _ = some 6 from hIm) (by show 7 + 6 ≤ 19; decide) (by simp [mgA, vwC, Value.oneCell']) ?_; intro y3 hX hK hs; have hP3 := Lib.hid (hS1.out.putM (y' := { y with m := v1 }) hX hK hs (by kernel_rfl) rfl hmr.out hmb2.out); clear hX hK hs hS1))
                  go_meet
                  exact ⟨{ y with m := v1 }, ma, mc, na, nc, k1, hP3, Lib.hid (by rw [hrow.out]; simp only [sw2, rowT, fieldT, hv1.out, Option.bind_some, Option.bind_none, Option.map_some, Option.map_none, fin])⟩
              · -- 9
                have HA := Lib.hid (rdmsg_any l6 hS6.out.r (hS6.out.tl hT.out))
                have hxl := hS6.out.bk.lt
                go_wp2_with fail
                refine HA.out.mono ?_
                rintro e x1 ⟨hp, hkk⟩
                replace hkk := Lib.hid hkk
                clear HA
                cases hv1 : takeM l6 with
                | none =>
                  rw [hv1] at hp
                  obtain rfl : e = pan 4 := hp
                  exact ⟨rfl, PRE.no (by rw [hPW.out]; rw [hrow.out]; simp only [sw2, rowT, fieldT, hv1, Option.bind_some, Option.bind_none, Option.map_some, Option.map_none, fin]) rfl, hS6.out.k.trans hkk.out⟩
                | some p =>
                  obtain ⟨v1, k1⟩ := p
                  rw [hv1] at hp
                  obtain ⟨ma, mc, rfl, hmr, hmB, hR⟩ : ∃ a c, e = .returned (.agg (mgA v1 a v1.deps.length c)) ∧ Rd x1 1 a v1.deps.length c (c32 v1.deps) ∧ (v1.deps.length ≠ 0 → ∀ g off, a = some ⟨g, off, none⟩ → w6.heap.size ≤ g) ∧ RdT x1 b k1 := hp
                  replace hmr := Lib.hid hmr
                  have hmb2 : Hid (v1.deps.length ≠ 0 → ∀ g off, ma = some ⟨g, off, none⟩ → xb + 1 ≤ g) := Lib.hid (fun h0 g off e => by have := hmB h0 g off e; omega)
                  clear hmB
                  replace hv1 := Lib.hid hv1
                  have hS1 := Lib.hid (hS6.out.kk hkk.out hR)
                  clear hS6 hkk hR hxl
                  go_wp2_with (first
                    | (refine wpList_blk_put (cs := mgA v1 ma v1.deps.length mc) rfl (.tmp 107) (.tmp 106) rfl rfl rfl hS1.out.bk (show _ = some 6 from hIm) (by show 7 + 6 ≤ 19; decide) (by simp [mgA, vwC, Value.oneCell']) ?_; intro y3 hX hK hs; have hP3 := Lib.hid (hS1.out.putM (y' := { y with m := v1 }) hX hK hs (by kernel_rfl) rfl hmr.out hmb2.out); clear hX hK hs hS1))
                  go_meet
                  exact ⟨{ y with m := v1 }, ma, mc, na, nc, k1, hP3, Lib.hid (by rw [hrow.out]; simp only [sw2, rowT, fieldT, hv1.out, Option.bind_some, Option.bind_none, Option.map_some, Option.map_none, fin])⟩
              · -- 10
                go_wp2_with fail
                go_meet
                exact ⟨y, da, dc, na, nc, l6, hS6, Lib.hid (by rw [hrow.out]; rfl)⟩
              · -- 11
                have HA := Lib.hid (rdbytes_any l6 hS6.out.r (hS6.out.tl hT.out))
                have hxl := hS6.out.bk.lt
                go_wp2_with fail
                refine HA.out.mono ?_
                rintro e x1 ⟨hp, hkk⟩
                replace hkk := Lib.hid hkk
                clear HA
                cases hv1 : takeB l6 with
                | none =>
                  rw [hv1] at hp
                  obtain rfl : e = pan 4 := hp
                  exact ⟨rfl, PRE.no (by rw [hPW.out]; rw [hrow.out]; simp only [sw2, rowT, fieldT, hv1, Option.bind_some, Option.bind_none, Option.map_some, Option.map_none, fin]) rfl, hS6.out.k.trans hkk.out⟩
                | some p =>
                  obtain ⟨v1, k1⟩ := p
                  rw [hv1] at hp
                  obtain ⟨rfl, hR⟩ : e = .returned (.string (mkB v1)) ∧ RdT x1 b k1 := hp
                  replace hv1 := Lib.hid hv1
                  have hS1 := Lib.hid (hS6.out.kk hkk.out hR)
                  clear hS6 hkk hR hxl
                  have c6 : x1.cell? ⟨xb, 18, none⟩ = some (.string (mkB y.state)) := hS1.out.bk.cell rfl
                  have f6 := hS1.out.fz 18
                  go_wp2_with fail
                  go_meet
                  exact ⟨{ y with state := v1 }, da, dc, na, nc, k1, Lib.hid (hS1.out.put (y' := { y with state := v1 }) (hS1.out.bk.set 18 _) ((Kp.refl _ _).setCell ⟨xb, 18, none⟩ rfl _) (by simp [World.setCell]) (by kernel_rfl) rfl rfl), Lib.hid (by rw [hrow.out]; simp only [sw2, rowT, fieldT, hv1.out, Option.bind_some, Option.bind_none, Option.map_some, Option.map_none, fin])⟩
              · -- 12
                go_wp2_with fail
                go_meet
                exact ⟨y, da, dc, na, nc, l6, hS6, Lib.hid (by rw [hrow.out]; rfl)⟩
            case rest => as_aux_lemma =>
              obtain ⟨y7, da7, dc7, na7, nc7, l7, hS7, hrow7⟩ := hcut
              obtain ⟨w7, rfl⟩ : ∃ z, z = wc := ⟨_, rfl⟩
              obtain ⟨ra, rc, c7⟩ := hS7.out.r.lenAt
              clear hS6 hrow c0
              cases l7 with
              | cons u7 r7 =>
                have hlen : (0 : Int) < (r7.length : Int) + 1 := by omega
                rw [List.length_cons] at c7
                go_wp2_with fail
                refine (bad_t (by first | rfl | (simp; done) | (simp; omega)) 4 _).mono ?_
                rintro e w8 ⟨rfl, rfl⟩
                exact ⟨rfl, PRE.no (by rw [hPW.out, hrow7.out]; rfl) rfl, hS7.out.k⟩
              | nil =>
                have hq := Lib.hid (show parseW l0 = some y7 from by rw [hPW.out, hrow7.out]; rfl)
                have hIE : (Tryz.prog.info? 34).map (·.size) = some (evC y7 da7 y7.m.deps.length dc7 na7 y7.names.length nc7).size := Tryz.evI
                clear hrow7 hPW
                go_wp2_with fail
                refine (bad_f (by first | rfl | (simp; done) | (simp; omega)) 4 _).mono ?_
                rintro e w8 ⟨rfl, rfl⟩
                obtain ⟨cs, hcs⟩ : ∃ z, z = evC y7 da7 y7.m.deps.length dc7 na7 y7.names.length nc7 := ⟨_, rfl⟩
                have hbk7 := hS7.out.bk
                have hm7 := hS7.out.m
                have h1c : cs.all (·.oneCell') = true := by rw [hcs]; exact evC_one _ _ _ _ _ _ _
                have h19 : 0 + cs.size ≤ 19 := by rw [hcs, evC_size]; decide
                have hset : setArr #[.int .i64 0, .int .i64 0, .int .u64 0, .int .i64 0, .int .u64 0, .int .i64 0, .int .u64 0, .int .i64 0, .int .u32 0, .int .u64 0, .int .i64 0, .slice none 0 0, .string ⟨#[]⟩, .int .u64 0, .int .u64 0, .int .i64 0, .int .u64 0, .slice none 0 0, .string ⟨#[]⟩] 0 cs.toList = evC y7 da7 y7.m.deps.length dc7 na7 y7.names.length nc7 := by rw [hcs]; exact evC_set _ _ _ _ _ _ _
                rw [← hcs] at hbk7 hIE
                replace hcs := Lib.hid hcs
                go_wp2_with (first
                  | (refine wpList_blk_load rfl (.tmp 3) rfl Tryz.underlying34 rfl rfl hbk7 hIE ?_)
                  | (refine wpList_blk_put (cs := cs) rfl (.tmp 2) (.tmp 120) rfl rfl rfl hm7 hIE h19 h1c ?_; intro w9 hM9 hK9 hs9))
                obtain ⟨o1, o2, o3⟩ := hS7.out.ord
                have hX9 := hK9.blk hS7.out.bk (by omega)
                rw [hset, ← hcs.out] at hM9
                refine bodyPost_ret (results_cell_row rfl _ _ mb 34 _ (0, 0) _ rfl hM9 Tryz.underlying34 rfl hIE) rfl ?_
                have hnr := own_keep hS7.out.nr (fun g hg hlt => hK9.block g hlt (by have := (hS7.out.nr.lt g hg).1; omega))
                obtain ⟨na9, nc9, hn9, hrd9⟩ := Rd.own hnr
                injection hn9 with e1 e2 e3
                subst e1 e3
                refine ⟨PRE.yes hq.out (by rw [hcs.out]) (Kp.rdN hK9 hS7.out.dr hS7.out.db (by omega)) hrd9 (fun h0 g off e => by have := hS7.out.db h0 g off e; omega) (fun h0 g off e => by subst e; have := (hnr.lt g rfl).1; omega), Kp.near hS7.out.k hK9 hs9 (by omega)⟩
end
end Go.Proofs.YtpkknhhohbobaaaGreatDoor
