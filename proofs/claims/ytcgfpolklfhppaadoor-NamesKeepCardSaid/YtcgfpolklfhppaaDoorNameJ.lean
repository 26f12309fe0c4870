/- the walk of NamesKeep -/
import Derived.Test.YtcgfpolklfhppaaDoorNameI
import Derived.Deep.CutRange
namespace Go.Proofs.YtcgfpolklfhppaaDoor
open Go.RowKit Go.Sort

theorem Tryd.nmG : Tryd.prog.eqGuardType Tryd.prog.depth 30 = false := by kernel_rfl
theorem run_neq_nm (w : World) (p x : Int) : (binOp .neq 30 (.agg #[.int .i64 p, .int .u32 x]) (.agg #[.int .i64 p, .int .u32 x])).run Tryd.prog w = .ok (.bool false) w := by simp [go_sem]
theorem names_at (m st : Nat) (l : List It) (sure : Bool) {w : World} {b off n c : Nat} (h : RdM w (some ⟨b, off, none⟩) n c (nameK m st l sure (memN m).length)) (k : Nat) (hk : k < (memN m).length) :
    w.cell? ⟨b, off + k * 2, none⟩ = some (.int .i64 ((memN m)[k] : Nat)) ∧ w.cell? ⟨b, off + k * 2 + 1, none⟩ = some (.int .u32 (inc1 st sure (memN m)[k] (clAt l k).inc)) := by
  have hlen := nameK_len m st l sure (memN m).length
  have h1 := nameK_at m st l sure (memN m).length k hk
  have hgd : (memN m).getD k 0 = (memN m)[k] := by rw [List.getD_eq_getElem?_getD, List.getElem?_eq_getElem hk]; rfl
  rw [List.getElem?_eq_getElem (by omega), hgd, inc0_at] at h1
  have h2 := RdM.at h k (by omega)
  rw [Option.some.inj h1] at h2
  exact h2
theorem alloc_store {w w' : World} {o : Obj} (k : Kp w.heap.size (w.alloc o) w') : Below w.heap.size w w' := Kp.below ((Below.refl _ _).alloc (Nat.le_refl _) _) k (Nat.le_refl _) (by simp)
/-- The cells of a claim that count. -/
def CellsY (b x ho : Nat) (ha dr : Bool) (W : World) : Prop := W.cell? ⟨b, 2, none⟩ = some (.int .u32 x) ∧ W.cell? ⟨b, 3, none⟩ = some (.int .u64 ho) ∧ W.cell? ⟨b, 4, none⟩ = some (.bool ha) ∧ W.cell? ⟨b, 5, none⟩ = some (.bool dr)
theorem CellsY.below {b x ho : Nat} {ha dr : Bool} {w W : World} (h : CellsY b x ho ha dr w) (hb : Below w.heap.size w W) : CellsY b x ho ha dr W := by
  obtain ⟨h2, h3, h4, h5⟩ := h
  exact ⟨(hb.cell (World.block_lt_of_cell? _ _ h2)).trans h2, (hb.cell (World.block_lt_of_cell? _ _ h3)).trans h3, (hb.cell (World.block_lt_of_cell? _ _ h4)).trans h4, (hb.cell (World.block_lt_of_cell? _ _ h5)).trans h5⟩
set_option maxHeartbeats 64000000 in
set_option maxRecDepth 100000 in
theorem keep_any (n m : Nat) (hn : n < 18446744073709551616) (hm : m < 18446744073709551616) (a : Option Addr) (cn c : Nat) (l : List It) (hw : ∀ x ∈ l, x.Wf) (w : World) (hr : RdI w a cn c l) (hT : Tab w) :
    Calls Tryd.prog 5 #[.int .u64 n, .int .u64 m, .slice a cn c] w fun e w' => e = .returned (.bool true) ∧ Below w.heap.size w w' := by
  have hl := Lib.hid (hr.len hw)
  have hmx := Rd.le_max hr
  unfold maxLen at hmx
  have hc64 := cardN_le m
  have hmlen := memN_len m
  have hAw := Lib.hid (awake_any w hT)
  go_enter Tryd.func5, Tryd.ntmps5
  go_wp2_with fail
  refine hAw.out.mono ?_
  rintro e w1 ⟨rfl, hb1⟩
  clear hAw
  have hT1 := hT.below hb1 hT.1
  have hr1 : RdI w1 a cn c l := Rd.below hr hb1 (Nat.le_refl _)
  by_cases hgt : 200 < cn
  · have hgtI : (200 : Int) < cn := by omega
    go_wp2
    go_ret
    exact ⟨rfl, hb1⟩
  have hgtI : ¬ (200 : Int) < cn := by omega
  go_wp2_with fail
  refine (stay_any n m hm a cn c l hw _ hr1 hT1).mono ?_
  rintro e w2 ⟨rfl, hb2⟩
  have hT2 := hT1.below hb2 hT1.1
  have hbw2 := belS hb1 hb2
  have hr2 : RdI w2 a cn c l := Rd.below hr1 hb2 (Nat.le_refl _)
  clear hT1 hr1 hb1 hb2
  have hK := Lib.hid (kept n m l)
  have hst := stayN_lt n m l
  obtain ⟨hs1, hs2, hs3⟩ := sub_facts hm hst (stayN_sub n m l)
  have hbst := but_lt m (stayN n m l) hm
  have HIn := Lib.hid (fun W => in_any (stayN n m l) m hst hm W)
  have HAny := Lib.hid (fun W => anyS_any (butN m (stayN n m l)) (stayN n m l) hbst hst W)
  have HBo := Lib.hid (fun W => both_any (butN m (stayN n m l)) (stayN n m l) hbst hst W)
  rw [hs1] at HIn
  rw [hs2] at HAny
  rw [hs3] at HBo
  have HSz := Lib.hid (fun W => size_any (stayN n m l) hst W)
  have HJ := Lib.hid (fun W h1 h2 => joins_any n m hm a cn c l hw W h1 h2)
  have HN1 := Lib.hid (fun i hi => name_of m (stayN n m l) l true i hi)
  have HNT := Lib.hid (show namesN n m l true = nameK m (stayN n m l) l true (memN m).length from rfl)
  have HNF := Lib.hid (show namesN n m l false = nameK m (stayN n m l) l false (memN m).length from rfl)
  generalize stayN n m l = st at *
  clear hs1 hs2 hs3
  go_wp2_with fail
  refine (names_any n m hm a cn c l hw true _ hr2 hT2).mono ?_
  rintro e w3 ⟨v3, rfl, ho3, hb3⟩
  have hT3 := hT2.below hb3 hT2.1
  have hr3 : RdI w3 a cn c l := Rd.below hr2 hb3 (Nat.le_refl _)
  have hbw3 := belS hbw2 hb3
  obtain ⟨na, nc, rfl, hnm3⟩ := Rd.own ho3
  clear hT2 hr2 hbw2 hb3 ho3
  go_wp2_with fail
  refine (names_any n m hm a cn c l hw false _ hr3 hT3).mono ?_
  rintro e w4 ⟨v4, rfl, ho4, hb4⟩
  have hT4 := hT3.below hb4 hT3.1
  have hr4 : RdI w4 a cn c l := Rd.below hr3 hb4 (Nat.le_refl _)
  have hnm4 := hnm3.below hb4 (Nat.le_refl _)
  have hbw4 := belS hbw3 hb4
  obtain ⟨fa, fc, rfl, hfm4⟩ := Rd.own ho4
  clear hT3 hr3 hbw3 hb4 ho4 hnm3
  go_wp2_with fail
  refine (list_any m _ hm hT4).mono ?_
  rintro e w5 ⟨v5, rfl, ho5, hb5⟩
  have hT5 := hT4.below hb5 hT4.1
  have hr5 : RdI w5 a cn c l := Rd.below hr4 hb5 (Nat.le_refl _)
  have hnm5 := hnm4.below hb5 (Nat.le_refl _)
  have hfm5 := hfm4.below hb5 (Nat.le_refl _)
  have hbw5 := belS hbw4 hb5
  obtain ⟨ma, mc, rfl, hmm5⟩ := Rd.own ho5
  clear hT4 hr4 hbw4 hb5 ho5 hnm4 hfm4
  go_wp2_with (go_at_call 18; refine (HIn.out _).mono ?_; rintro e w' ⟨rfl, rfl⟩)
  refine (HJ.out _ hr5 hT5).mono ?_
  rintro e w6 ⟨rfl, hb6⟩
  have hT6 := hT5.below hb6 hT5.1
  have hr6 : RdI w6 a cn c l := Rd.below hr5 hb6 (Nat.le_refl _)
  have hnm6 := hnm5.below hb6 (Nat.le_refl _)
  have hfm6 := hfm5.below hb6 (Nat.le_refl _)
  have hmm6 := hmm5.below hb6 (Nat.le_refl _)
  have hbw6 := belS hbw5 hb6
  clear hT5 hr5 hbw5 hb6 hnm5 hfm5 hmm5
  go_wp2_with (go_at_call 19; refine (HAny.out _).mono ?_; rintro e w' ⟨rfl, rfl⟩)
  refine (HJ.out _ hr6 hT6).mono ?_
  rintro e w7 ⟨rfl, hb7⟩
  have hr7 : RdI w7 a cn c l := Rd.below hr6 hb7 (Nat.le_refl _)
  have hnm7 := hnm6.below hb7 (Nat.le_refl _)
  have hfm7 := hfm6.below hb7 (Nat.le_refl _)
  have hmm7 := hmm6.below hb7 (Nat.le_refl _)
  have hbw7 := belS hbw6 hb7
  clear hT6 hr6 hbw6 hb7 hnm6 hfm6 hmm6 HJ HIn
  go_wp2_with (go_at_call 20; refine (HBo.out _).mono ?_; rintro e w' ⟨rfl, rfl⟩)
  clear HAny HBo hbst
  rw [HNT.out] at hnm7
  rw [HNF.out] at hfm7
  clear HNT HNF
  have hln := hmm7.intLen
  go_loopw [12] (fun i wr => ∃ k : Nat, k ≤ cardN m ∧ i = .int .i64 k ∧ Below w7.heap.size w7 wr) (fun i _ => cardN m - (intOf i).toNat)
  case atStart => exact ⟨0, Nat.zero_le _, rfl, Below.refl _ _⟩
  case round =>
    obtain ⟨k, hk, rfl, hbr⟩ := hrel
    by_cases hlt : k < cardN m
    · have hkl : k < (memI m).length := by rw [hln]; exact hlt
      have hkn : k < (memN m).length := by rw [hmlen]; exact hlt
      have hkI : (k : Int) < cardN m := by omega
      obtain ⟨bm, offm, rfl, _⟩ := (Rd.below hmm7 hbr (Nat.le_refl _)).addr (by omega)
      obtain ⟨bn, offn, rfl, _⟩ := (Rd.below hnm7 hbr (Nat.le_refl _)).addr (by omega)
      obtain ⟨bf, offf, rfl, _⟩ := (Rd.below hfm7 hbr (Nat.le_refl _)).addr (by omega)
      have hcm := fun W (h : Below w7.heap.size w7 W) => (Rd.below hmm7 h (Nat.le_refl _)).at (j := k) (u := .int .i64 ((memN m)[k] : Nat)) (by rw [List.getElem?_map, List.getElem?_eq_getElem hkl, memI_at]; rfl)
      have hcn := fun W (h : Below w7.heap.size w7 W) => names_at m st l true (Rd.below hnm7 h (Nat.le_refl _)) k hkn
      have hcf := fun W (h : Below w7.heap.size w7 W) => names_at m st l false (Rd.below hfm7 h (Nat.le_refl _)) k hkn
      have hOf := Lib.hid (fun W (h : Below w7.heap.size w7 W) => nof_any ((memN m)[k] : Nat) _ _ _ _ W (Rd.below hnm7 h (Nat.le_refl _)))
      rw [HN1.out k hkn, inc0_at] at hOf
      have hp := memN_at hkn
      have hkept := hK.out k hkn
      have hyw := clAt_wf hw k
      have hyd : Hid (clAt l k = (l[k]?).getD zIt) := rfl
      generalize (memN m)[k] = p at *
      have hpI : (p : Int) < 64 := by omega
      have HH0 := fun W => has_any st p hst W
      rw [hasB_eq, decide_eq_true (by omega), Bool.true_and, Int.toNat_natCast] at HH0
      replace HH0 := Lib.hid HH0
      have hksz := hbr.size
      have hZ := BlkAt.new wr 48 zIt.cs.toArray
      have hbA : Below w7.heap.size w7 (wr.alloc (.cells zIt.cs.toArray 48)) := hbr.alloc hksz _
      generalize hyl0 : clAt l k = y at *
      have HY := Lib.hid hyl0
      clear hyl0 hyd
      have hxr := hyw.i32
      obtain ⟨h1, h2, h3, h4⟩ := hkept
      obtain ⟨x, ho, ha, dr, HE⟩ : ∃ x ho ha dr, Hid (y.inc = x ∧ y.holds = ho ∧ y.has = ha ∧ y.direct = dr) := ⟨_, _, _, _, rfl, rfl, rfl, rfl⟩
      have hE := HE.out
      obtain ⟨v, hv⟩ : ∃ v, v = inc1 st true p y.inc := ⟨_, rfl⟩
      obtain ⟨f, hf⟩ : ∃ f, f = inc1 st false p y.inc := ⟨_, rfl⟩
      rw [← hv] at hcn hOf
      rw [← hf] at hcf
      rw [inc1, hE.1] at hv hf
      rw [hE.1] at hxr
      rw [hE.2.1, hE.2.2.1] at h1 h3 h4
      rw [hE.2.2.2] at h2 h3
      clear hE
      generalize st.testBit p = sb at *
      have HF := Lib.hid hf
      have HV := Lib.hid hv
      have HCN := Lib.hid hcn
      have HCF := Lib.hid hcf
      have HCM := Lib.hid hcm
      have K1 := Lib.hid h1
      have K2 := Lib.hid h2
      have K3 := Lib.hid h3
      have K4 := Lib.hid h4
      clear hcn hcf hcm hf hv h1 h2 h3 h4
      go_upto_if 83 with (first | (refine wpList_blk_alloc rfl rfl Tryd.itZ wr.heap.size rfl ?_))
      go_cut [12, 13, 14] from 74 to 235 (fun c12 c13 c14 wx => c12 = .int .i64 k ∧ c13 = .int .u32 x ∧ c14 = .pointer (some ⟨wr.heap.size, 0, none⟩) ∧ Below w7.heap.size w7 wx ∧ CellsY wr.heap.size x ho ha dr wx)
      case first => as_aux_lemma =>
        by_cases hlt2 : k < cn
        · have hkl2 : k < l.length := by rw [hl.out]; exact hlt2
          have hkI2 : (k : Int) < cn := by omega
          obtain ⟨b2, off2, rfl, _⟩ := Rd.addr (Rd.below hr7 hbr (Nat.le_refl _)) (by omega)
          have hR := RdI.range (show RdI _ (some ⟨b2, off2, none⟩) cn c l from Rd.below hr7 hbA (Nat.le_refl _)) hw k hkl2
          have hyl : l[k] = y := by rw [← HY.out, clAt, List.getElem?_eq_getElem hkl2]; rfl
          rw [hyl] at hR
          clear hyl HY
          have hi := Tryd.itI hyw
          go_wp2_with (first
            | (refine wpList_load_mid_g (by first | rfl | simp [Region.wanted, go_sem]) _ (.tmp 86) rfl b2 (off2 + k * 18) rfl y.cs _ hR Tryd.underlying48 rfl hi ?_)
            | (refine wpList_blk_store rfl (.tmp 14) (.tmp 87) rfl rfl rfl hZ hi (by simp [hyw.len, zIt]) (by rw [Array.all_eq_true_iff_forall_mem]; intro v hv; exact hyw.one v (by simpa using hv)) ?_; intro w8 hX hK8 hsz8; obtain ⟨i2, i3, i4, i5⟩ := It.blk hX hyw; rw [HE.out.1] at i2; rw [HE.out.2.1] at i3; rw [HE.out.2.2.1] at i4; rw [HE.out.2.2.2] at i5; have HX := Lib.hid (show CellsY wr.heap.size x ho ha dr w8 from ⟨i2, i3, i4, i5⟩); clear i3 i4 i5))
          go_meet
          exact ⟨rfl, rfl, rfl, hbr.trans ((alloc_store hK8).mono hksz), HX.out⟩
        · have hkI2 : ¬ (k : Int) < cn := by omega
          have hyz : y = zIt := by rw [← HY.out, clAt, List.getElem?_eq_none (by have := hl.out; omega)]; rfl
          have HX := Lib.hid (It.blk hZ zIt_wf)
          obtain ⟨e1, e2, e3, e4⟩ := HE.out
          rw [hyz] at e1 e2 e3 e4
          subst e1 e2 e3 e4
          go_wp2_with fail
          go_meet
          exact ⟨rfl, rfl, rfl, hbA, HX.out⟩
      case rest => as_aux_lemma =>
        obtain ⟨rfl, rfl, rfl, hb8, hcy⟩ := hcut
        obtain ⟨w8, rfl⟩ : ∃ z, z = wc := ⟨_, rfl⟩
        have HI := Lib.hid (fun W (h : Below w8.heap.size w8 W) => hcy.below h)
        have hbx := Below.refl w8.heap.size w8
        obtain ⟨i2, i3, i4, i5⟩ := HI.out _ hbx
        obtain ⟨n0, n1⟩ := HCN.out _ hb8
        have m0 := HCM.out _ hb8
        clear hcy hbA hZ HY hyw HE
        go_upto_region 20 with (fail)
        go_cut [149] from 74 to 235 (fun t wx => t = .bool false ∧ Below w8.heap.size w8 wx)
        case first => as_aux_lemma =>
          cases sb with
          | true =>
            obtain rfl := HV.out.trans (if_neg (by simp))
            obtain ⟨rfl, rfl⟩ := K1.out rfl
            have HH := HH0
            clear HH0 hxr
            go_quiet ((go_at_call 21; exact qS (HH.out _)))
            (go_wp2_with fail; go_meet; exact ⟨rfl, belN hbx _⟩)
          | false =>
            have HH := HH0
            clear HH0
            by_cases hx : x < 4294967295
            · obtain rfl := HV.out.trans (if_pos ⟨.inr rfl, hx⟩)
              have hxB : decide ((x : Int) < 4294967295) = true := decide_eq_true (by omega)
              have hvB : decide (x + 1 ≤ x) = false := decide_eq_false (by omega)
              clear hx hxr
              generalize x + 1 = v at *
              go_quiet ((go_at_call 21; exact qS (HH.out _)))
              (go_wp2_with fail; go_meet; exact ⟨rfl, belN hbx _⟩)
            · obtain rfl := HV.out.trans (if_neg (fun h => hx h.2))
              have hxB : decide ((v : Int) < 4294967295) = false := decide_eq_false (by omega)
              clear hx hxr
              go_quiet ((go_at_call 21; exact qS (HH.out _)))
              (go_wp2_with fail; go_meet; exact ⟨rfl, belN hbx _⟩)
        case rest => as_aux_lemma =>
          clear i2 i3 i4 i5 n0 n1 m0 hbx
          (obtain ⟨rfl, hbx⟩ := hcut; obtain ⟨w9, rfl⟩ : ∃ z, z = wc := ⟨_, rfl⟩; have hby := hb8.trans (hbx.mono hb8.size); obtain ⟨i2, i3, i4, i5⟩ := HI.out _ hbx; obtain ⟨n0, n1⟩ := HCN.out _ hby; obtain ⟨f0, f1⟩ := HCF.out _ hby; have m0 := HCM.out _ hby)
          go_upto_region 22 with (fail)
          go_cut [165] from 74 to 235 (fun t wx => t = .bool false ∧ Below w8.heap.size w8 wx)
          case first => as_aux_lemma =>
            clear n0 n1 i2 i3 i4 i5 HH0
            by_cases hx : x < 4294967295
            · have hxI : (x : Int) < 4294967295 := by omega
              have q2 := HF.out.trans (if_pos ⟨.inl rfl, hx⟩)
              rw [q2, Int.natCast_add, Int.cast_ofNat_Int] at f1
              clear q2
              go_quiet (fail)
              (go_wp2_with fail; go_meet; exact ⟨rfl, belN hbx _⟩)
            · have hxB : decide ((x : Int) < 4294967295) = false := decide_eq_false (by omega)
              clear hx hxr
              go_quiet (fail)
              (go_wp2_with fail; go_meet; exact ⟨rfl, belN hbx _⟩)
          case rest => as_aux_lemma =>
            clear i2 i3 i4 i5 n0 n1 m0 f0 f1 hbx hby
            (obtain ⟨rfl, hbx⟩ := hcut; obtain ⟨w10, rfl⟩ : ∃ z, z = wc := ⟨_, rfl⟩; have hby := hb8.trans (hbx.mono hb8.size); obtain ⟨i2, i3, i4, i5⟩ := HI.out _ hbx; obtain ⟨n0, n1⟩ := HCN.out _ hby; obtain ⟨f0, f1⟩ := HCF.out _ hby; have m0 := HCM.out _ hby)
            clear f0 f1 n0 n1 hxr
            go_upto_region 24 with (fail)
            go_cut [204] from 74 to 235 (fun t wx => t = .bool false ∧ Below w8.heap.size w8 wx)
            case first => as_aux_lemma =>
              have HH := HH0
              cases sb with
              | true =>
                obtain ⟨rfl, rfl⟩ := K1.out rfl
                by_cases hcs : 1 < cardN st
                · (have hcI : (1 : Int) < cardN st := by omega)
                  obtain rfl := K2.out rfl hcs
                  clear hcs
                  (go_wp2_with fail; refine (HSz.out _).mono ?_; rintro e w' ⟨rfl, rfl⟩)
                  (go_wp2_with fail; refine (HH.out _).mono ?_; rintro e w' ⟨rfl, rfl⟩)
                  (go_wp2_with fail; refine (HH.out _).mono ?_; rintro e w' ⟨rfl, rfl⟩)
                  (go_wp2_with fail; go_meet; exact ⟨rfl, hbx⟩)
                · (have hcI : ¬ (1 : Int) < cardN st := by omega)
                  clear hcs
                  cases dr
                  · (go_wp2_with fail; refine (HSz.out _).mono ?_; rintro e w' ⟨rfl, rfl⟩)
                    (go_wp2_with fail; go_meet; exact ⟨rfl, hbx⟩)
                  · (go_wp2_with fail; refine (HSz.out _).mono ?_; rintro e w' ⟨rfl, rfl⟩)
                    (go_wp2_with fail; refine (HH.out _).mono ?_; rintro e w' ⟨rfl, rfl⟩)
                    (go_wp2_with fail; go_meet; exact ⟨rfl, hbx⟩)
              | false =>
                cases ha with
                | false =>
                  (by_cases hcs : 1 < cardN st; (focus ((have hcI : (1 : Int) < cardN st := by omega); clear hcs; (go_wp2_with fail; refine (HSz.out _).mono ?_; rintro e w' ⟨rfl, rfl⟩); (go_wp2_with fail; refine (HH.out _).mono ?_; rintro e w' ⟨rfl, rfl⟩); (go_wp2_with fail; go_meet; exact ⟨rfl, hbx⟩))); (focus ((have hcI : ¬ (1 : Int) < cardN st := by omega); clear hcs; (go_wp2_with fail; refine (HSz.out _).mono ?_; rintro e w' ⟨rfl, rfl⟩); (go_wp2_with fail; go_meet; exact ⟨rfl, hbx⟩))))
                | true =>
                  by_cases hho : ho = n
                  · obtain rfl := hho.symm
                    obtain rfl := K3.out rfl rfl rfl
                    (by_cases hcs : 1 < cardN st; (focus ((have hcI : (1 : Int) < cardN st := by omega); clear hcs; (go_wp2_with fail; refine (HSz.out _).mono ?_; rintro e w' ⟨rfl, rfl⟩); (go_wp2_with fail; refine (HH.out _).mono ?_; rintro e w' ⟨rfl, rfl⟩); (go_wp2_with fail; go_meet; exact ⟨rfl, hbx⟩))); (focus ((have hcI : ¬ (1 : Int) < cardN st := by omega); clear hcs; (go_wp2_with fail; refine (HSz.out _).mono ?_; rintro e w' ⟨rfl, rfl⟩); (go_wp2_with fail; go_meet; exact ⟨rfl, hbx⟩))))
                  · have hoI : ((ho : Int) == n) = false := by rw [beq_eq_false_iff_ne]; omega
                    clear hho
                    (by_cases hcs : 1 < cardN st; (focus ((have hcI : (1 : Int) < cardN st := by omega); clear hcs; (go_wp2_with fail; refine (HSz.out _).mono ?_; rintro e w' ⟨rfl, rfl⟩); (go_wp2_with fail; refine (HH.out _).mono ?_; rintro e w' ⟨rfl, rfl⟩); (go_wp2_with fail; go_meet; exact ⟨rfl, hbx⟩))); (focus ((have hcI : ¬ (1 : Int) < cardN st := by omega); clear hcs; (go_wp2_with fail; refine (HSz.out _).mono ?_; rintro e w' ⟨rfl, rfl⟩); (go_wp2_with fail; go_meet; exact ⟨rfl, hbx⟩))))
            case rest => as_aux_lemma =>
              clear i2 i3 i4 i5 m0 hbx hby
              (obtain ⟨rfl, hbx⟩ := hcut; obtain ⟨w11, rfl⟩ : ∃ z, z = wc := ⟨_, rfl⟩; have hby := hb8.trans (hbx.mono hb8.size); obtain ⟨i2, i3, i4, i5⟩ := HI.out _ hbx; obtain ⟨n0, n1⟩ := HCN.out _ hby; obtain ⟨f0, f1⟩ := HCF.out _ hby; have m0 := HCM.out _ hby)
              go_upto_region 26 with (fail)
              go_cut [216] from 74 to 235 (fun t wx => t = .bool false ∧ Below w8.heap.size w8 wx)
              case first => as_aux_lemma =>
                cases ha with
                | false =>
                  (go_wp2_with fail; go_meet; exact ⟨rfl, hbx⟩)
                | true =>
                  by_cases hho : ho = n
                  · obtain rfl := hho.symm
                    have e4I : ((st : Int) == 0) = false := by have := K4.out rfl rfl; rw [beq_eq_false_iff_ne]; omega
                    (go_wp2_with fail; go_meet; exact ⟨rfl, hbx⟩)
                  · have hoI : ((ho : Int) == n) = false := by rw [beq_eq_false_iff_ne]; omega
                    clear hho
                    (go_wp2_with fail; go_meet; exact ⟨rfl, hbx⟩)
              case rest => as_aux_lemma =>
                clear i2 i3 i4 i5 n0 n1 f0 f1 m0 hbx hby
                (obtain ⟨rfl, hbx⟩ := hcut; obtain ⟨w12, rfl⟩ : ∃ z, z = wc := ⟨_, rfl⟩; have hby := hb8.trans (hbx.mono hb8.size); obtain ⟨i2, i3, i4, i5⟩ := HI.out _ hbx; obtain ⟨n0, n1⟩ := HCN.out _ hby; obtain ⟨f0, f1⟩ := HCF.out _ hby; have m0 := HCM.out _ hby)
                clear i2 i3 i4 i5 n0 n1 f0 f1
                go_wp2_with fail
                refine (hOf.out _ hby).mono ?_
                rintro e w13 ⟨rfl, hb13⟩
                unfold nmV
                have hZ2 := BlkAt.new w13 30 #[.int .i64 0, .int .u32 0]
                have hbB := hby.trans (hb13.mono hby.size)
                clear m0
                go_wp2_with (first
                  | (refine wpList_blk_alloc rfl rfl Tryd.nmZ w13.heap.size rfl ?_)
                  | (refine wpList_blk_store rfl (.tmp 15) (.tmp 224) rfl rfl rfl hZ2 Tryd.nmI rfl (by simp [Value.oneCell']) ?_; intro w14 hX14 hK14 hsz14; have hbC : Below w7.heap.size w7 w14 := hbB.trans ((alloc_store hK14).mono hbB.size); have z0 := hX14.cell (i := 0) rfl; have z1 := hX14.cell (i := 1) rfl; obtain ⟨n0, n1⟩ := HCN.out _ hbC))
                go_quiet (fail)
                go_wp2
                go_roundw
                case rel => exact ⟨k + 1, by omega, by go_num, belN hbC _⟩
                case measure => simp [intOf]; omega
    · obtain rfl : k = cardN m := by omega
      go_wp2
      go_ret
      exact ⟨rfl, belS hbw7 hbr⟩
end Go.Proofs.YtcgfpolklfhppaaDoor
