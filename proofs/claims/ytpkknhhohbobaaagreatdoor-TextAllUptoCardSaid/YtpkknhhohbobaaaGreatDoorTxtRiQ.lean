/- text: the reference's Parse -/
import Derived.Test.YtpkknhhohbobaaaGreatDoorTxtRhQ
import Derived.Deep.CutRange
namespace Go.Proofs.YtpkknhhohbobaaaGreatDoor
set_option linter.unusedSimpArgs false
set_option linter.unusedVariables false
open Go.RowKit Go.Sort
theorem FdR.like {w : World} {b : Nat} {y y' : TEv} {da na : Option Addr} {dn dc nn nc : Nat} (h : FdR w b y da dn dc na nn nc) (h1 : y'.m.deps = y.m.deps) (h2 : y'.names = y.names) : FdR w b y' da dn dc na nn nc := ⟨by rw [h1]; exact h.dr, by rw [h2]; exact h.nr, h.db, h.nb⟩
theorem evC_set2 (x y : TEv) (da na ea fa : Option Addr) (dn dc nn nc en ec fn fc : Nat) : setArr (evC x da dn dc na nn nc) 0 (evC y ea en ec fa fn fc).toList = evC y ea en ec fa fn fc := by kernel_rfl
theorem kdN_1 (u : W8) : kdN u 1 = 0 := by unfold kdN; split <;> rfl
set_option maxHeartbeats 12800000 in
set_option maxRecDepth 100000 in
theorem rparse_any (s : W8) (hs : s.length < 4294967200) (w : World) :
    Calls Tryz.prog 7 #[.string (mkB s)] w fun e w' => PTry s w.heap.size e w' ∧ Below w.heap.size w w' := by
  have hbA := alloc_below w (.cells #[.int .i64 0, .int .i64 0, .int .u64 0, .int .i64 0, .int .u64 0, .int .i64 0, .int .u64 0, .int .i64 0, .int .u32 0, .int .u64 0, .int .i64 0, .slice none 0 0, .string ⟨#[]⟩, .int .u64 0, .int .u64 0, .int .i64 0, .int .u64 0, .slice none 0 0, .string ⟨#[]⟩] 34)
  obtain ⟨wA, hwA⟩ : ∃ z, z = w.alloc (.cells #[.int .i64 0, .int .i64 0, .int .u64 0, .int .i64 0, .int .u64 0, .int .i64 0, .int .u64 0, .int .i64 0, .int .u32 0, .int .u64 0, .int .i64 0, .slice none 0 0, .string ⟨#[]⟩, .int .u64 0, .int .u64 0, .int .i64 0, .int .u64 0, .slice none 0 0, .string ⟨#[]⟩] 34) := ⟨_, rfl⟩
  have hXA : BlkAt wA w.heap.size 34 #[.int .i64 0, .int .i64 0, .int .u64 0, .int .i64 0, .int .u64 0, .int .i64 0, .int .u64 0, .int .i64 0, .int .u32 0, .int .u64 0, .int .i64 0, .slice none 0 0, .string ⟨#[]⟩, .int .u64 0, .int .u64 0, .int .i64 0, .int .u64 0, .slice none 0 0, .string ⟨#[]⟩] := by rw [hwA]; exact BlkAt.new _ _ _
  have hsA : wA.heap.size = w.heap.size + 1 := by rw [hwA]; simp
  rw [← hwA] at hbA
  obtain ⟨mb, hmb⟩ : ∃ z, z = w.heap.size := ⟨_, rfl⟩
  rw [← hmb] at hXA hsA
  have HP := Lib.hid (rpieces_any s 32 (by omega) wA)
  have hpq : parseL s = parseW (pcs 32 s) := rfl
  replace hpq := Lib.hid hpq
  replace hwA := Lib.hid hwA
  replace hXA := Lib.hid hXA
  replace hbA := Lib.hid hbA
  have hmq := Lib.hid hmb
  have hsq := Lib.hid hsA
  clear hmb hsA
  go_enter Tryz.func7, Tryz.ntmps7
  go_wp2_with fail
  rw [← hwA.out, ← hmq.out]
  refine HP.out.mono ?_
  rintro e wB ⟨g, cap, rfl, hoL, hbB⟩
  have hmb := hmq.out
  have hsA := hsq.out
  have hsm := pcs_small 32 s
  have hln := pcs_le 32 s
  obtain ⟨ga, gc, hge, hrL⟩ := Rd.own hoL
  injection hge with e1 e2 e3
  subst e1 e3
  have hg := hoL.lt g rfl
  generalize pcs 32 s = ws at *
  obtain ⟨n, hn⟩ : ∃ z, z = ws.length := ⟨_, rfl⟩
  rw [← hn] at hrL ⊢
  have hbC := alloc_below wB (.cells #[.slice (some ⟨g, 0, none⟩) n cap, .bool true] 59)
  have hTC := BlkAt.new wB 59 #[.slice (some ⟨g, 0, none⟩) n cap, .bool true]
  obtain ⟨wC, hwC⟩ : ∃ z, z = wB.alloc (.cells #[.slice (some ⟨g, 0, none⟩) n cap, .bool true] 59) := ⟨_, rfl⟩
  rw [← hwC] at hbC hTC
  obtain ⟨tb, htb⟩ : ∃ z, z = wB.heap.size := ⟨_, rfl⟩
  rw [← htb] at hTC hg
  have hTk : TkT wC tb ws true := ⟨_, n, cap, hTC, hrL.below hbC (Nat.le_refl _), (fun _ g' off e => by cases e; exact hg.2), fun u hu => by have := hsm u hu; omega⟩
  have hmt : mb < tb := by omega
  have hB1 : Below w.heap.size w wC := belS (hbA.out.trans (hbB.mono (by omega))) hbC
  have hXC := Lib.hid ((hXA.out.below hbB (by omega)).below hbC (by omega))
  have HN := Lib.hid (rnumber_any ws true 63 (by decide) hTk)
  have hlw : Hid (ws.tail.tail.length ≤ 4294967296) := Lib.hid (by have h1 := tail_le ws; have h2 := tail_le ws.tail; omega)
  have hPK := Lib.hid (parse_k0 (ws := ws))
  have hPQ := Lib.hid (parse_q (ws := ws))
  have hPO := Lib.hid (parse_ok (ws := ws))
  generalize okR ws 63 true = q0 at *
  generalize refV (ws.headD []) 63 = v0 at *
  generalize ws.tail = ws1 at *
  generalize parseW ws = PW at *
  obtain ⟨n0, r0⟩ := v0
  obtain ⟨p0, hp0⟩ : ∃ z, z = IntKind.i64.wrap (n0 : Int) := ⟨_, rfl⟩
  have hw0 : IntKind.i64.wrap (n0 : Int) = p0 := hp0.symm
  replace hp0 := Lib.hid hp0
  replace hwC := Lib.hid hwC
  replace htb := Lib.hid htb
  replace hB1 := Lib.hid hB1
  clear HP hoL hbB hsm hln hrL hg hbC hTC hTk hXA hbA hwA hs hsA hn hmb
  go_wp2_with (first
    | (refine wpList_blk_build rfl _ rfl (cs := #[.slice (some ⟨g, 0, none⟩) n cap, .bool true]) (by kernel_rfl) ?_)
    | (refine wpList_blk_box rfl (.tmp 12) rfl rfl tb htb.out.symm ?_; rw [← hwC.out]))
  refine HN.out.mono ?_
  rintro e wD ⟨rfl, h1, k1⟩
  have hZ := BlkAt.new wD 34 #[.int .i64 0, .int .i64 0, .int .u64 0, .int .i64 0, .int .u64 0, .int .i64 0, .int .u64 0, .int .i64 0, .int .u32 0, .int .u64 0, .int .i64 0, .slice none 0 0, .string ⟨#[]⟩, .int .u64 0, .int .u64 0, .int .i64 0, .int .u64 0, .slice none 0 0, .string ⟨#[]⟩]
  have hbE := alloc_below wD (.cells #[.int .i64 0, .int .i64 0, .int .u64 0, .int .i64 0, .int .u64 0, .int .i64 0, .int .u64 0, .int .i64 0, .int .u32 0, .int .u64 0, .int .i64 0, .slice none 0 0, .string ⟨#[]⟩, .int .u64 0, .int .u64 0, .int .i64 0, .int .u64 0, .slice none 0 0, .string ⟨#[]⟩] 34)
  have hXD := k1.blk hXC.out (by omega)
  have hB2 := Kp.below hB1.out k1 (by have := hmq.out; omega) hB1.out.size
  have htd : tb < wD.heap.size := h1.lt
  obtain ⟨xb, hxb⟩ : ∃ z, z = wD.heap.size := ⟨_, rfl⟩
  rw [← hxb] at hZ htd
  obtain ⟨wE, hwE⟩ : ∃ z, z = wD.alloc (.cells #[.int .i64 0, .int .i64 0, .int .u64 0, .int .i64 0, .int .u64 0, .int .i64 0, .int .u64 0, .int .i64 0, .int .u32 0, .int .u64 0, .int .i64 0, .slice none 0 0, .string ⟨#[]⟩, .int .u64 0, .int .u64 0, .int .i64 0, .int .u64 0, .slice none 0 0, .string ⟨#[]⟩] 34) := ⟨_, rfl⟩
  rw [← hwE] at hZ hbE
  have hzz : Hid (setArr #[.int .i64 0, .int .i64 0, .int .u64 0, .int .i64 0, .int .u64 0, .int .i64 0, .int .u64 0, .int .i64 0, .int .u32 0, .int .u64 0, .int .i64 0, .slice none 0 0, .string ⟨#[]⟩, .int .u64 0, .int .u64 0, .int .i64 0, .int .u64 0, .slice none 0 0, .string ⟨#[]⟩] 0 (#[.int .i64 0, .int .i64 p0, .int .u64 0, .int .i64 0, .int .u64 0, .int .i64 0, .int .u64 0, .int .i64 0, .int .u32 0, .int .u64 0, .int .i64 0, .slice none 0 0, .string ⟨#[]⟩, .int .u64 0, .int .u64 0, .int .i64 0, .int .u64 0, .slice none 0 0, .string ⟨#[]⟩] : Array Value).toList = evC (begE 0 p0) none 0 0 none 0 0) := Lib.hid (by kernel_rfl)
  have hIx : (Tryz.prog.info? 34).map (·.size) = some (#[.int .i64 0, .int .i64 p0, .int .u64 0, .int .i64 0, .int .u64 0, .int .i64 0, .int .u64 0, .int .i64 0, .int .u32 0, .int .u64 0, .int .i64 0, .slice none 0 0, .string ⟨#[]⟩, .int .u64 0, .int .u64 0, .int .i64 0, .int .u64 0, .slice none 0 0, .string ⟨#[]⟩] : Array Value).size := by kernel_rfl
  have h1x : (#[.int .i64 0, .int .i64 p0, .int .u64 0, .int .i64 0, .int .u64 0, .int .i64 0, .int .u64 0, .int .i64 0, .int .u32 0, .int .u64 0, .int .i64 0, .slice none 0 0, .string ⟨#[]⟩, .int .u64 0, .int .u64 0, .int .i64 0, .int .u64 0, .slice none 0 0, .string ⟨#[]⟩] : Array Value).all (·.oneCell') = true := by simp [Value.oneCell']
  have hxq := Lib.hid hxb
  have hwq := Lib.hid hwE
  clear HN hXC hB1 hxb hwE
  go_wp2_with (first
    | (refine wpList_blk_build rfl _ rfl (cs := #[.int .i64 0, .int .i64 p0, .int .u64 0, .int .i64 0, .int .u64 0, .int .i64 0, .int .u64 0, .int .i64 0, .int .u32 0, .int .u64 0, .int .i64 0, .slice none 0 0, .string ⟨#[]⟩, .int .u64 0, .int .u64 0, .int .i64 0, .int .u64 0, .slice none 0 0, .string ⟨#[]⟩]) (by kernel_rfl) ?_)
    | (rw [← hwq.out, ← hxq.out]; refine wpList_blk_put (cs := #[.int .i64 0, .int .i64 p0, .int .u64 0, .int .i64 0, .int .u64 0, .int .i64 0, .int .u64 0, .int .i64 0, .int .u32 0, .int .u64 0, .int .i64 0, .slice none 0 0, .string ⟨#[]⟩, .int .u64 0, .int .u64 0, .int .i64 0, .int .u64 0, .slice none 0 0, .string ⟨#[]⟩]) rfl (.tmp 5) (.tmp 17) rfl rfl rfl hZ hIx (by show 0 + 19 ≤ 19; decide) h1x ?_; intro wF hF hKF hsF))
  rw [hzz.out] at hF
  have hS0 : Hid (PSt w wF mb tb xb (begE 0 p0) none 0 0 none 0 0 ws1 q0) := Lib.hid (by
    have hxq' := hxq.out
    have hmq' := hmq.out
    have hb2 := hB2.size
    have hTE := h1.below hbE
    refine ⟨⟨hmq'.symm, hmt, htd⟩, hF, hKF.blk (hXD.below hbE hXD.lt) (by omega), TkT.off hTE hKF htd, Kp.below (belS hB2 hbE) hKF (by omega) (belS hB2 hbE).size, ⟨⟨⟨rfl, Nat.le_refl 0, Nat.zero_le _, (fun _ => ⟨rfl, rfl⟩)⟩, .inl rfl⟩, ⟨⟨rfl, Nat.le_refl 0, Nat.zero_le _, (fun _ => ⟨rfl, rfl⟩)⟩, .inl rfl⟩, fun h => absurd rfl h, fun h => absurd rfl h⟩⟩)
  have HX := Lib.hid (rnext_any ws1 q0 hS0.out.r)
  generalize okN ws1 q0 = q1 at *
  generalize ws1.headD [] = u at *
  generalize ws1.tail = ws2 at *
  have hsz : Hid (setArr #[.int .i64 0, .int .i64 0, .int .u64 0, .int .i64 0, .int .u64 0, .int .i64 0, .int .u64 0, .int .i64 0, .int .u32 0, .int .u64 0, .int .i64 0, .slice none 0 0, .string ⟨#[]⟩, .int .u64 0, .int .u64 0, .int .i64 0, .int .u64 0, .slice none 0 0, .string ⟨#[]⟩] 0 (#[.int .i64 0, .int .i64 0, .int .u64 0, .int .i64 0, .int .u64 0, .int .i64 0, .int .u64 0, .int .i64 0, .int .u32 0, .int .u64 0, .int .i64 0, .slice none 0 0, .string ⟨#[]⟩, .int .u64 0, .int .u64 0, .int .i64 0, .int .u64 0, .slice none 0 0, .string ⟨#[]⟩] : Array Value).toList = #[.int .i64 0, .int .i64 0, .int .u64 0, .int .i64 0, .int .u64 0, .int .i64 0, .int .u64 0, .int .i64 0, .int .u32 0, .int .u64 0, .int .i64 0, .slice none 0 0, .string ⟨#[]⟩, .int .u64 0, .int .u64 0, .int .i64 0, .int .u64 0, .slice none 0 0, .string ⟨#[]⟩]) := Lib.hid (by kernel_rfl)
  have hIz : Hid ((Tryz.prog.info? 34).map (·.size) = some (#[.int .i64 0, .int .i64 0, .int .u64 0, .int .i64 0, .int .u64 0, .int .i64 0, .int .u64 0, .int .i64 0, .int .u32 0, .int .u64 0, .int .i64 0, .slice none 0 0, .string ⟨#[]⟩, .int .u64 0, .int .u64 0, .int .i64 0, .int .u64 0, .slice none 0 0, .string ⟨#[]⟩] : Array Value).size) := Lib.hid (by kernel_rfl)
  have h1z : Hid ((#[.int .i64 0, .int .i64 0, .int .u64 0, .int .i64 0, .int .u64 0, .int .i64 0, .int .u64 0, .int .i64 0, .int .u32 0, .int .u64 0, .int .i64 0, .slice none 0 0, .string ⟨#[]⟩, .int .u64 0, .int .u64 0, .int .i64 0, .int .u64 0, .slice none 0 0, .string ⟨#[]⟩] : Array Value).all (·.oneCell') = true) := Lib.hid (by simp [Value.oneCell'])
  clear h1 k1 hXD hB2 hZ hbE hzz hIx h1x hwq hF hKF hsF hw0
  refine HX.out.mono ?_
  rintro e wG ⟨rfl, h2, k2⟩
  have hS1 := Lib.hid (hS0.out.kq k2 h2)
  clear HX h2 k2 hS0
  go_wp2
  go_loopw [7] (fun iv wr => ∃ (i : Nat), 1 ≤ i ∧ i ≤ 13 ∧ iv = .int .i64 i ∧ Hid (PSt w wr mb tb xb (begE (kdN u i : Nat) p0) none 0 0 none 0 0 ws2 q1)) (fun iv _ => 13 - (RowKit.intOf iv).toNat)
  case atStart => exact ⟨1, by decide, by decide, rfl, by rw [kdN_1]; exact hS1⟩
  case round =>
    obtain ⟨i, hi1, hi, rfl, hS⟩ := hrel
    obtain ⟨w5, rfl⟩ : ∃ z, z = wr := ⟨_, rfl⟩
    clear hS1
    by_cases hin : i ≤ 12
    case pos => as_aux_lemma =>
      have hiI : (i : Int) ≤ 12 := by omega
      have HW := Lib.hid (rword_any i hi1 hin w5)
      go_wp2_with fail
      refine HW.out.mono ?_
      rintro e w6 ⟨rfl, rfl⟩
      clear HW
      by_cases hu : kindW i = u
      · have hq : ((mkB (kindW i)).toList == (mkB u).toList) = true := by rw [hu]; exact beq_self_eq_true _
        have hkd := Lib.hid (show kdN u (i + 1) = i from if_pos hu)
        have c0 : w6.cell? ⟨xb, 0, none⟩ = some (.int .i64 (kdN u i : Nat)) := hS.out.bk.cell rfl
        have f0 := hS.out.bk.fz 0
        clear hu
        go_wp2_with fail
        go_roundw
        case rel => exact ⟨i + 1, by omega, by omega, by go_num, Lib.hid (by rw [hkd.out]; exact hS.out.put (y' := begE (i : Nat) p0) (hS.out.bk.set 0 (.int .i64 i)) ((Kp.refl _ _).setCell ⟨xb, 0, none⟩ rfl _) (by simp [World.setCell]) (by kernel_rfl) (hS.out.f.like rfl rfl))⟩
        case measure => simp [RowKit.intOf]; omega
      · have hq : ((mkB (kindW i)).toList == (mkB u).toList) = false := by
          rw [mkB_toList, mkB_toList]
          exact beq_eq_false_iff_ne.2 hu
        have hkd := Lib.hid (show kdN u (i + 1) = kdN u i from if_neg hu)
        clear hu
        go_wp2_with fail
        go_roundw
        case rel => exact ⟨i + 1, by omega, by omega, by go_num, Lib.hid (by rw [hkd.out]; exact hS.out)⟩
        case measure => simp [RowKit.intOf]; omega
    case neg => as_aux_lemma =>
      have hiI : ¬ (i : Int) ≤ 12 := by omega
      have hS2 : Hid (PSt w w5 mb tb xb (begE (kindN u : Nat) p0) none 0 0 none 0 0 ws2 q1) := Lib.hid (by
        rw [← kdN_eq, ← show i = 13 from by omega]
        exact hS.out)
      have hk12 := kindN_lt u
      have c0 : w5.cell? ⟨xb, 0, none⟩ = some (.int .i64 (kindN u : Nat)) := hS2.out.bk.cell rfl
      obtain ⟨d1, f1, pa0, pc0, d0⟩ := hS2.out.r.cells
      clear hS hin hi hi1
      generalize kindN u = k at *
      by_cases hk0 : k = 0
      · subst hk0
        have hno := Lib.hid (hPK.out rfl)
        clear hPK hPQ hPO
        go_wp2_with (first | (refine wpList_blk_build rfl _ rfl (cs := #[.int .i64 0, .int .i64 0, .int .u64 0, .int .i64 0, .int .u64 0, .int .i64 0, .int .u64 0, .int .i64 0, .int .u32 0, .int .u64 0, .int .i64 0, .slice none 0 0, .string ⟨#[]⟩, .int .u64 0, .int .u64 0, .int .i64 0, .int .u64 0, .slice none 0 0, .string ⟨#[]⟩]) (by kernel_rfl) ?_) | (refine wpList_blk_put (cs := #[.int .i64 0, .int .i64 0, .int .u64 0, .int .i64 0, .int .u64 0, .int .i64 0, .int .u64 0, .int .i64 0, .int .u32 0, .int .u64 0, .int .i64 0, .slice none 0 0, .string ⟨#[]⟩, .int .u64 0, .int .u64 0, .int .i64 0, .int .u64 0, .slice none 0 0, .string ⟨#[]⟩]) rfl (.tmp 2) (.tmp 40) rfl rfl rfl hS2.out.m hIz.out (by show 0 + 19 ≤ 19; decide) h1z.out ?_; intro w9 hM9 hK9 hs9)); rw [hsz.out] at hM9; refine bodyPost_ret (results_cellslot rfl _ _ mb 34 #[.int .i64 0, .int .i64 0, .int .u64 0, .int .i64 0, .int .u64 0, .int .i64 0, .int .u64 0, .int .i64 0, .int .u32 0, .int .u64 0, .int .i64 0, .slice none 0 0, .string ⟨#[]⟩, .int .u64 0, .int .u64 0, .int .i64 0, .int .u64 0, .slice none 0 0, .string ⟨#[]⟩] (0, 0) _ rfl hM9 Tryz.underlying34 rfl hIz.out) rfl ?_; exact ⟨PTry.no (hpq.out.trans (hno.out)) rfl, hS2.out.no hK9⟩
      · have hk1 : 1 ≤ k := by omega
        have hkI : ¬ (k : Int) = 0 := by omega
        cases q1 with
        | false =>
          have hno := Lib.hid (hPQ.out rfl)
          clear hPK hPQ hPO
          go_wp2_with (first | (refine wpList_blk_build rfl _ rfl (cs := #[.int .i64 0, .int .i64 0, .int .u64 0, .int .i64 0, .int .u64 0, .int .i64 0, .int .u64 0, .int .i64 0, .int .u32 0, .int .u64 0, .int .i64 0, .slice none 0 0, .string ⟨#[]⟩, .int .u64 0, .int .u64 0, .int .i64 0, .int .u64 0, .slice none 0 0, .string ⟨#[]⟩]) (by kernel_rfl) ?_) | (refine wpList_blk_put (cs := #[.int .i64 0, .int .i64 0, .int .u64 0, .int .i64 0, .int .u64 0, .int .i64 0, .int .u64 0, .int .i64 0, .int .u32 0, .int .u64 0, .int .i64 0, .slice none 0 0, .string ⟨#[]⟩, .int .u64 0, .int .u64 0, .int .i64 0, .int .u64 0, .slice none 0 0, .string ⟨#[]⟩]) rfl (.tmp 2) (.tmp 40) rfl rfl rfl hS2.out.m hIz.out (by show 0 + 19 ≤ 19; decide) h1z.out ?_; intro w9 hM9 hK9 hs9)); rw [hsz.out] at hM9; refine bodyPost_ret (results_cellslot rfl _ _ mb 34 #[.int .i64 0, .int .i64 0, .int .u64 0, .int .i64 0, .int .u64 0, .int .i64 0, .int .u64 0, .int .i64 0, .int .u32 0, .int .u64 0, .int .i64 0, .slice none 0 0, .string ⟨#[]⟩, .int .u64 0, .int .u64 0, .int .i64 0, .int .u64 0, .slice none 0 0, .string ⟨#[]⟩] (0, 0) _ rfl hM9 Tryz.underlying34 rfl hIz.out) rfl ?_; exact ⟨PTry.no (hpq.out.trans (hno.out)) rfl, hS2.out.no hK9⟩
        | true =>
          obtain ⟨hpw, hn63⟩ := hPO.out rfl hk0
          have hPW : Hid (PW = fin (rowT (rowL k) (begE (k : Nat) p0) ws2)) := Lib.hid (by rw [hpw, hp0.out, wr63 hn63])
          have HR := Lib.hid (rrow_any k hk1 (by omega) w5)
          have hem : Hid (once (rowL k) = true) := Lib.hid (row_once ⟨k, hk12⟩)
          clear hPK hPQ hPO hpw hn63 hk0
          go_wp2_with fail
          refine HR.out.mono ?_
          rintro e w6 ⟨rfl, hw⟩
          rw [hw]
          clear hw w6
          have hrs := mkB_size (rowW k)
          have hrlen : (rowW k).length = (rowL k).length := List.length_map ..
          have hI0 := Lib.hid (fun (i : Nat) (h : i < (rowL k).length) (W : World) => idx_mkB (rowW k) i (ltB (rowL k)[i]) (by unfold rowW; rw [List.getElem?_map, List.getElem?_eq_getElem h]; rfl) .i64 W)
          have hrl : (rowL k).length ≤ 3 := rowL_le ⟨k, hk12⟩
          obtain ⟨S, hS⟩ : ∃ z, z = mkB (rowW k) := ⟨_, rfl⟩
          rw [← hS] at hrs hI0 ⊢
          rw [hrlen] at hrs
          replace hS := Lib.hid hS
          have hS2' : Hid (PSt w w5 mb tb xb (begE (k : Nat) p0) none 0 0 none 0 0 ws2 true) := hS2
          generalize rowL k = L at *
          generalize begE (k : Nat) p0 = x0 at *
          replace hrs := Lib.hid hrs
          clear HR hrlen c0 hS2 d1 f1 d0
          go_wp2
          go_loopw [9] (fun iv wr => ∃ (i : Nat) (x : TEv) (da : Option Addr) (dn dc : Nat) (na : Option Addr) (nn nc : Nat) (ws' : List W8) (q : Bool), i ≤ L.length ∧ iv = .int .i64 i ∧ Hid (PSt w wr mb tb xb x da dn dc na nn nc ws' q) ∧ Hid (Emp (L.drop i) da dn dc na nn nc) ∧ Hid (q = true → rowT L x0 ws2 = rowT (L.drop i) x ws' ∧ ws'.length ≤ 4294967296) ∧ Hid (q = false → rowT L x0 ws2 = none)) (fun iv _ => L.length - (RowKit.intOf iv).toNat)
          case atStart => exact ⟨0, x0, none, 0, 0, none, 0, 0, ws2, true, Nat.zero_le _, rfl, hS2', Lib.hid ⟨hem.out, fun _ => ⟨rfl, rfl, rfl⟩, fun _ => ⟨rfl, rfl, rfl⟩⟩, Lib.hid (fun _ => ⟨rfl, hlw.out⟩), Lib.hid (fun h => by cases h)⟩
          case round =>
            obtain ⟨i, x, da, dn, dc, na, nn, nc, ws', q, hi, rfl, hS3, hE3, hqt, hqf⟩ := hrel
            obtain ⟨w6, rfl⟩ : ∃ z, z = wr := ⟨_, rfl⟩
            obtain ⟨d1, f1, pa1, pc1, d0⟩ := hS3.out.r.cells
            clear hS2' hem
            by_cases hin : i < L.length
            case pos => as_aux_lemma =>
              have hiI : (i : Int) < S.size := by rw [hrs.out]; omega
              cases q with
              | false =>
                have hno := Lib.hid (show PW = none from by rw [hPW.out, hqf.out rfl]; rfl)
                clear hqt hqf hPW hI0
                go_wp2_with (first | (refine wpList_blk_build rfl _ rfl (cs := #[.int .i64 0, .int .i64 0, .int .u64 0, .int .i64 0, .int .u64 0, .int .i64 0, .int .u64 0, .int .i64 0, .int .u32 0, .int .u64 0, .int .i64 0, .slice none 0 0, .string ⟨#[]⟩, .int .u64 0, .int .u64 0, .int .i64 0, .int .u64 0, .slice none 0 0, .string ⟨#[]⟩]) (by kernel_rfl) ?_) | (refine wpList_blk_put (cs := #[.int .i64 0, .int .i64 0, .int .u64 0, .int .i64 0, .int .u64 0, .int .i64 0, .int .u64 0, .int .i64 0, .int .u32 0, .int .u64 0, .int .i64 0, .slice none 0 0, .string ⟨#[]⟩, .int .u64 0, .int .u64 0, .int .i64 0, .int .u64 0, .slice none 0 0, .string ⟨#[]⟩]) rfl (.tmp 2) (.tmp 75) rfl rfl rfl hS3.out.m hIz.out (by show 0 + 19 ≤ 19; decide) h1z.out ?_; intro w9 hM9 hK9 hs9)); rw [hsz.out] at hM9; refine bodyPost_ret (results_cellslot rfl _ _ mb 34 #[.int .i64 0, .int .i64 0, .int .u64 0, .int .i64 0, .int .u64 0, .int .i64 0, .int .u64 0, .int .i64 0, .int .u32 0, .int .u64 0, .int .i64 0, .slice none 0 0, .string ⟨#[]⟩, .int .u64 0, .int .u64 0, .int .i64 0, .int .u64 0, .slice none 0 0, .string ⟨#[]⟩] (0, 0) _ rfl hM9 Tryz.underlying34 rfl hIz.out) rfl ?_; exact ⟨PTry.no (hpq.out.trans (hno.out)) rfl, hS3.out.no hK9⟩
              | true =>
                have hI := hI0.out i hin
                have hdr := Lib.hid (show L.drop i = L[i] :: L.drop (i + 1) from List.drop_eq_getElem_cons hin)
                generalize L[i] = f at *
                obtain ⟨hrow, hwl⟩ := hqt.out rfl
                have hwl' := Lib.hid hwl
                rw [hdr.out] at hrow hE3
                have hkB : Hid (Kp tb w6 w6.drew) := Lib.hid (Kp.refl tb w6).drew
                have hS4 := hS3.out.kq hkB.out (hS3.out.r.below ((Below.refl w6.heap.size w6).drew))
                obtain ⟨o1, o2, o3⟩ := hS4.ord
                have hat := hE3.out.at
                have HF := Lib.hid (fd_any f hS4.f (Nat.le_of_lt o3) hS4.bk.lt hS4.r hwl hat.1 hat.2)
                obtain ⟨wd, hwd⟩ : ∃ z, z = w6.drew := ⟨_, rfl⟩
                rw [← hwd] at hS4 HF
                have hMI := Tryz.evI (x := x) (da := da) (dn := dn) (dc := dc) (na := na) (nn := nn) (nc := nc)
                have hbk := hS4.bk
                replace hrow := Lib.hid hrow
                replace hS4 := Lib.hid hS4
                replace o1 := Lib.hid o1
                clear hat hS3 hkB hqt hqf hwl hdr
                go_upto_region 15 with (fail)
                clear d1 f1 d0
                refine wp_region_held_drew (S := fun _ => True) (by kernel_rfl) trivial ?_
                intro hHeld
                first | rw [← hwd] | (change wpAnyH _ _ _ _ _ _ _ _ w6.drew; rw [← hwd])
                clear hwd
                (refine wpAnyH_take (i := 0) (v := ?_) rfl (by kernel_rfl) (by kernel_rfl) (by kernel_rfl) (fun _ _ _ h => h) (Or.inl ⟨by rfl, ?_⟩) (by assumption) ?_; rotate_left; (focus (intro w hSw; clear hSw; go_simp; (try with_reducible rfl))); (try simp only [Act.put, List.getElem_toArray, List.getElem_cons_zero, List.getElem_cons_succ, List.setIfInBounds_toArray, List.set_cons_zero, List.set_cons_succ]))
                (refine wpAnyH_take (i := 1) (v := ?_) rfl (by kernel_rfl) (by kernel_rfl) (by kernel_rfl) (fun _ _ _ h => h) (Or.inl ⟨by rfl, ?_⟩) (by assumption) ?_; rotate_left; (focus (intro w hSw; clear hSw; go_simp; (try with_reducible rfl))); (try simp only [Act.put, List.getElem_toArray, List.getElem_cons_zero, List.getElem_cons_succ, List.setIfInBounds_toArray, List.set_cons_zero, List.set_cons_succ]))
                (refine wpAnyH_take (i := 2) (v := ?_) rfl (by kernel_rfl) (by kernel_rfl) (by kernel_rfl) (fun _ _ _ h => h) (Or.inl ⟨by rfl, ?_⟩) (by assumption) ?_; rotate_left; (focus (intro w hSw; clear hSw; go_simp; (try with_reducible rfl))); (try simp only [Act.put, List.getElem_toArray, List.getElem_cons_zero, List.getElem_cons_succ, List.setIfInBounds_toArray, List.set_cons_zero, List.set_cons_succ]))
                (refine wpAnyH_take (i := 3) (v := ?_) rfl (by kernel_rfl) (by kernel_rfl) (by kernel_rfl) (fun _ _ _ h => h) (Or.inl ⟨by rfl, ?_⟩) (by assumption) ?_; rotate_left; (focus (intro w hSw; clear hSw; go_simp; (try with_reducible rfl))); (try simp only [Act.put, List.getElem_toArray, List.getElem_cons_zero, List.getElem_cons_succ, List.setIfInBounds_toArray, List.set_cons_zero, List.set_cons_succ]))
                (refine wpAnyH_ready (rs := [4]) (by kernel_rfl) (by simp) ?_; refine AllReadyH.cons rfl (fun K hK => ?_) AllReadyH.nil)
                refine step_ldb rfl 34 (.tmp 5) rfl xb rfl _ hbk Tryz.underlying34 rfl hMI ?_
                refine hK.out _ _ trivial (fun hHeld => ?_)
                clear hK K
                (refine wpAnyH_ready (rs := [5]) (by kernel_rfl) (by simp) ?_; refine AllReadyH.cons rfl (fun K hK => ?_) AllReadyH.nil)
                go_simp
                refine HF.out.mono ?_
                rintro e w7 ⟨y', ea, en, ec, fa, fn, fc, ws'', q', rfl, hT7, hF7, hk7, hq7, hy7, hm1, hm2⟩
                obtain ⟨_, _, hbk7, hput⟩ := hS4.out.fld (y' := y') (ea := ea) (en := en) (ec := ec) (fa := fa) (fn := fn) (fc := fc) hk7 hT7
                refine hK.out _ _ trivial (fun hHeld => ?_)
                clear hK K
                (refine wpAnyH_ready (rs := [6]) (by kernel_rfl) (by simp) ?_; refine AllReadyH.cons rfl (fun K hK => ?_) AllReadyH.nil)
                have hIE : (Tryz.prog.info? 34).map (·.size) = some (evC y' ea en ec fa fn fc).size := Tryz.evI
                have h1c : (evC y' ea en ec fa fn fc).all (·.oneCell') = true := evC_one _ _ _ _ _ _ _
                have h19 : 0 + (evC y' ea en ec fa fn fc).size ≤ (evC x da dn dc na nn nc).size := by rw [evC_size, evC_size]; decide
                have hset : setArr (evC x da dn dc na nn nc) 0 (evC y' ea en ec fa fn fc).toList = evC y' ea en ec fa fn fc := evC_set2 _ _ _ _ _ _ _ _ _ _ _ _ _ _
                have hput2 := hput
                clear hput
                generalize evC y' ea en ec fa fn fc = cs at *
                generalize evC x da dn dc na nn nc = os at *
                refine step_stm (cs := cs) (old := os) (b := xb) (p := 0) rfl (.tmp 5) (.tmp 61) rfl ?_ ?_ hbk7 hIE h19 h1c ?_
                · rfl
                · rfl
                intro w8 hX8 hK8 hs8
                rw [hset] at hX8
                have hS8 := Lib.hid (hput2 w8 cs hF7 hX8 hK8 hs8 rfl)
                refine hK.out _ _ trivial (fun hHeld => ?_)
                clear hK K
                refine wpAnyH_done (by kernel_rfl) ?_ _
                have hE8 := Lib.hid (hE3.out.next hm1 hm2)
                clear hHeld hT7 hF7 hk7 hbk7 hput2 HF hMI hbk hS4 hIE h1c h19 hset hX8 hK8 hs8 hm1 hm2 hE3
                have hqt8 : Hid (q' = true → rowT L x0 ws2 = rowT (L.drop (i + 1)) y' ws'' ∧ ws''.length ≤ 4294967296) := Lib.hid (fun h => by
                  have h2 := hy7 h
                  refine ⟨?_, Nat.le_trans (fieldT_le h2) hwl'.out⟩
                  rw [hrow.out]
                  simp only [rowT, h2, Option.bind_some])
                have hqf8 : Hid (q' = false → rowT L x0 ws2 = none) := Lib.hid (fun h => by
                  rw [h] at hq7
                  rw [hrow.out]
                  have h3 : fieldT f x ws' = none := by
                    cases e : fieldT f x ws' with
                    | none => rfl
                    | some z => rw [e] at hq7; cases hq7
                  simp only [rowT, h3, Option.bind_none])
                clear hq7 hy7
                go_wp2
                go_roundw
                case rel => exact ⟨i + 1, y', ea, en, ec, fa, fn, fc, ws'', q', by omega, by go_num, hS8, hE8, hqt8, hqf8⟩
                case measure => simp [RowKit.intOf]; omega
            case neg => as_aux_lemma =>
              have hiI : ¬ (i : Int) < S.size := by rw [hrs.out]; omega
              cases q with
              | false =>
                have hno := Lib.hid (show PW = none from by rw [hPW.out, hqf.out rfl]; rfl)
                clear hqt hqf hPW hI0
                go_wp2_with (first | (refine wpList_blk_build rfl _ rfl (cs := #[.int .i64 0, .int .i64 0, .int .u64 0, .int .i64 0, .int .u64 0, .int .i64 0, .int .u64 0, .int .i64 0, .int .u32 0, .int .u64 0, .int .i64 0, .slice none 0 0, .string ⟨#[]⟩, .int .u64 0, .int .u64 0, .int .i64 0, .int .u64 0, .slice none 0 0, .string ⟨#[]⟩]) (by kernel_rfl) ?_) | (refine wpList_blk_put (cs := #[.int .i64 0, .int .i64 0, .int .u64 0, .int .i64 0, .int .u64 0, .int .i64 0, .int .u64 0, .int .i64 0, .int .u32 0, .int .u64 0, .int .i64 0, .slice none 0 0, .string ⟨#[]⟩, .int .u64 0, .int .u64 0, .int .i64 0, .int .u64 0, .slice none 0 0, .string ⟨#[]⟩]) rfl (.tmp 2) (.tmp 75) rfl rfl rfl hS3.out.m hIz.out (by show 0 + 19 ≤ 19; decide) h1z.out ?_; intro w9 hM9 hK9 hs9)); rw [hsz.out] at hM9; refine bodyPost_ret (results_cellslot rfl _ _ mb 34 #[.int .i64 0, .int .i64 0, .int .u64 0, .int .i64 0, .int .u64 0, .int .i64 0, .int .u64 0, .int .i64 0, .int .u32 0, .int .u64 0, .int .i64 0, .slice none 0 0, .string ⟨#[]⟩, .int .u64 0, .int .u64 0, .int .i64 0, .int .u64 0, .slice none 0 0, .string ⟨#[]⟩] (0, 0) _ rfl hM9 Tryz.underlying34 rfl hIz.out) rfl ?_; exact ⟨PTry.no (hpq.out.trans (hno.out)) rfl, hS3.out.no hK9⟩
              | true =>
                have hrow := (hqt.out rfl).1
                rw [List.drop_of_length_le (by omega)] at hrow
                cases ws' with
                | cons u7 r7 =>
                  have hlen : (0 : Int) < (r7.length : Int) + 1 := by omega
                  rw [List.length_cons] at d0
                  have hno := Lib.hid (show PW = none from by rw [hPW.out, hrow]; rfl)
                  clear hqt hqf hPW hI0 hrow
                  go_wp2_with (first | (refine wpList_blk_build rfl _ rfl (cs := #[.int .i64 0, .int .i64 0, .int .u64 0, .int .i64 0, .int .u64 0, .int .i64 0, .int .u64 0, .int .i64 0, .int .u32 0, .int .u64 0, .int .i64 0, .slice none 0 0, .string ⟨#[]⟩, .int .u64 0, .int .u64 0, .int .i64 0, .int .u64 0, .slice none 0 0, .string ⟨#[]⟩]) (by kernel_rfl) ?_) | (refine wpList_blk_put (cs := #[.int .i64 0, .int .i64 0, .int .u64 0, .int .i64 0, .int .u64 0, .int .i64 0, .int .u64 0, .int .i64 0, .int .u32 0, .int .u64 0, .int .i64 0, .slice none 0 0, .string ⟨#[]⟩, .int .u64 0, .int .u64 0, .int .i64 0, .int .u64 0, .slice none 0 0, .string ⟨#[]⟩]) rfl (.tmp 2) (.tmp 75) rfl rfl rfl hS3.out.m hIz.out (by show 0 + 19 ≤ 19; decide) h1z.out ?_; intro w9 hM9 hK9 hs9)); rw [hsz.out] at hM9; refine bodyPost_ret (results_cellslot rfl _ _ mb 34 #[.int .i64 0, .int .i64 0, .int .u64 0, .int .i64 0, .int .u64 0, .int .i64 0, .int .u64 0, .int .i64 0, .int .u32 0, .int .u64 0, .int .i64 0, .slice none 0 0, .string ⟨#[]⟩, .int .u64 0, .int .u64 0, .int .i64 0, .int .u64 0, .slice none 0 0, .string ⟨#[]⟩] (0, 0) _ rfl hM9 Tryz.underlying34 rfl hIz.out) rfl ?_; exact ⟨PTry.no (hpq.out.trans (hno.out)) rfl, hS3.out.no hK9⟩
                | nil =>
                  rw [List.length_nil] at d0
                  have hyes := Lib.hid (show PW = some x from by rw [hPW.out, hrow]; rfl)
                  clear hqt hqf hPW hI0 hrow
                  obtain ⟨cs, hcs⟩ : ∃ z, z = evC x da dn dc na nn nc := ⟨_, rfl⟩
                  have hbk := hS3.out.bk
                  have hm7 := hS3.out.m
                  have hIE : (Tryz.prog.info? 34).map (·.size) = some cs.size := by rw [hcs]; exact Tryz.evI
                  have h1c : cs.all (·.oneCell') = true := by rw [hcs]; exact evC_one _ _ _ _ _ _ _
                  have h19 : 0 + cs.size ≤ 19 := by rw [hcs, evC_size]; decide
                  have hset : setArr #[.int .i64 0, .int .i64 0, .int .u64 0, .int .i64 0, .int .u64 0, .int .i64 0, .int .u64 0, .int .i64 0, .int .u32 0, .int .u64 0, .int .i64 0, .slice none 0 0, .string ⟨#[]⟩, .int .u64 0, .int .u64 0, .int .i64 0, .int .u64 0, .slice none 0 0, .string ⟨#[]⟩] 0 cs.toList = cs := by rw [hcs]; exact evC_set _ _ _ _ _ _ _
                  rw [← hcs] at hbk
                  replace hcs := Lib.hid hcs
                  go_wp2_with (first
                    | (refine wpList_blk_load rfl (.tmp 5) rfl Tryz.underlying34 rfl rfl hbk hIE ?_)
                    | (refine wpList_blk_put (cs := cs) rfl (.tmp 2) (.tmp 76) rfl rfl rfl hm7 hIE h19 h1c ?_; intro w9 hM9 hK9 hs9))
                  rw [hset] at hM9
                  refine bodyPost_ret (results_cellslot rfl _ _ mb 34 cs (0, 0) _ rfl hM9 Tryz.underlying34 rfl hIE) rfl ?_
                  obtain ⟨hF9, rfl, rfl⟩ := hS3.out.yes hK9
                  exact ⟨PTry.yes (hpq.out.trans hyes.out) (by rw [hcs.out]; rfl) hF9, hS3.out.no hK9⟩
end Go.Proofs.YtpkknhhohbobaaaGreatDoor
