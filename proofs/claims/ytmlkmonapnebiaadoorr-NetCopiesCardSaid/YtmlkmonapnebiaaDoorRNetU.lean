/- the net: the walk of NetCopies -/
import Derived.Test.YtmlkmonapnebiaaDoorRNetO
import Derived.Test.YtmlkmonapnebiaaDoorRNetQ
namespace Go.Proofs.YtmlkmonapnebiaaDoorR
open Go.RowKit Go.Sort

theorem at_yes {s : NS} {j : Nat} (hj : j < s.l.length) : s.at j = (s.l[j], true) := by
  have h : s.there j = true := by
    unfold NS.there
    rw [decide_eq_true_eq]
    omega
  unfold NS.at
  rw [if_pos h, Int.toNat_natCast, List.getD_eq_getElem?_getD, List.getElem?_eq_getElem hj]
  rfl
theorem NEn.copy {w0 : World} {b : Nat} {s : NS} {O : Nat → Prop} {W : World} (h : NEn w0 b s O W) :
    Calls Tryd.prog 20 #[.pointer (some ⟨b, 0, none⟩)] W fun e w' => ∃ b2 O2, e = .returned (.pointer (some ⟨b2, 0, none⟩)) ∧ NEn w0 b2 s O2 w' ∧ (∀ g, O2 g → W.heap.size ≤ g) ∧ Below W.heap.size W w' := by
  obtain ⟨v, h1⟩ := h.at_
  refine (ncopy_any h.ok h1).mono ?_
  rintro e w' ⟨b2, O2, v2, rfl, h2, h3, h4⟩
  exact ⟨b2, O2, rfl, ⟨⟨v2, h2⟩, belS h.bel h4, h.ok⟩, h3, h4⟩
theorem NEn.atj {w0 : World} {b : Nat} {s : NS} {O : Nat → Prop} {W : World} (h : NEn w0 b s O W) {j : Nat} (hj : j < s.l.length) :
    Calls Tryd.prog 21 #[.pointer (some ⟨b, 0, none⟩), .int .i64 j] W fun e w' => e = .returned (.tuple #[.agg #[.int .i64 (s.l[j]).src, .int .i64 (s.l[j]).dst, .string (s.l[j]).data, .bool (s.l[j]).torn], .bool true]) ∧ Below W.heap.size W w' := by
  obtain ⟨v, h1⟩ := h.at_
  have := at_any (j : Int) h1
  rw [at_yes hj] at this
  exact this
theorem NEn.frame {w0 : World} {b : Nat} {s : NS} {O O' : Nat → Prop} {W W' : World} (h : NEn w0 b s O W) (k : KpO O' W W') (hb : Below w0.heap.size w0 W') (hd : ∀ g, O g → ¬ O' g) : NEn w0 b s O W' := by
  obtain ⟨v, h1⟩ := h.at_
  exact ⟨⟨v, h1.frame k hd⟩, hb, h.ok⟩
/-- The copy, what was kept, and that neither lies where the net does. -/
structure CpS (w0 : World) (B : Nat) (O : Nat → Prop) (bc : Nat) (sc : NS) (Oc : Nat → Prop) (kv : Value) (W : World) : Prop where
  net : NEn w0 bc sc Oc W
  dis : ∀ g, Oc g → ¬ O g
  row : W.ownsRow B 35 4 kv sc.l.length (sc.l.flatMap dgF)
  kd : ∀ g, kv.ownBlock = some g → ¬ O g
theorem CpS.below {w0 : World} {B bc : Nat} {O Oc : Nat → Prop} {sc : NS} {kv : Value} {W W' : World} (h : CpS w0 B O bc sc Oc kv W) (k : Below W.heap.size W W') : CpS w0 B O bc sc Oc kv W' :=
  ⟨h.net.below k, h.dis, own_belowB h.row k, h.kd⟩
theorem CpS.step {w0 : World} {B b bc : Nat} {O O' Oc : Nat → Prop} {s sc : NS} {kv : Value} {W W' : World} (h : CpS w0 B O bc sc Oc kv W) (E : NEn w0 b s O' W') (k : KpO O W W') (hO : ∀ g, O' g → O g ∨ W.heap.size ≤ g) : CpS w0 B O' bc sc Oc kv W' := by
  refine ⟨h.net.frame k E.bel h.dis, fun g hg hg' => ?_, own_keep h.row fun g hg hl => k.block g hl (h.kd g hg), fun g hg hg' => ?_⟩
  · rcases hO g hg' with h1 | h1
    · exact h.dis g hg h1
    · have := h.net.hi g hg; omega
  · rcases hO g hg' with h1 | h1
    · exact h.kd g hg h1
    · have := (h.row.lt g hg).2; omega
set_option maxHeartbeats 12800000 in
set_option maxRecDepth 100000 in
theorem ncopies_any (n at_ : Int) (a : Option Addr) (cn c : Nat) (l : List NAc) (hl : ∀ y ∈ l, y.Ok) (w : World) (hr : RdN w a cn c l) (hT : Tab w) :
    Calls Tryd.prog 6 #[.int .i64 n, .slice a cn c, .int .i64 at_] w fun e w' => e = .returned (.bool true) ∧ Below w.heap.size w w' := by
  have hln := Lib.hid hr.len
  have hmx := Rd.le_max hr
  unfold maxLen at hmx
  have hAw := Lib.hid (awake_any w hT)
  go_enter Tryd.func6, Tryd.ntmps6
  go_wp2_with fail
  refine hAw.out.mono ?_
  rintro e w1 ⟨rfl, hb1⟩
  clear hAw
  have hF := few_any a cn c l hl w1 (Rd.below hr hb1 (Nat.le_refl _))
  cases hfw : fewGo 0 0 l with
  | false =>
    rw [hfw] at hF
    replace hF := Lib.hid hF
    go_wp2_with fail
    refine hF.out.mono ?_
    rintro e w' ⟨rfl, rfl⟩
    go_wp2
    go_ret
    exact ⟨rfl, hb1⟩
  | true =>
  rw [hfw] at hF
  replace hF := Lib.hid hF
  clear hfw
  go_wp2_with fail
  refine hF.out.mono ?_
  rintro e w' ⟨rfl, rfl⟩
  clear hF
  go_wp2_with fail
  refine (NEn.new n hT hb1).mono ?_
  rintro e w3 ⟨b, rfl, E0, _, _⟩
  have hz0 : (NS.nw n).Dz := fun d hd => by cases hd
  generalize NS.nw n = s0 at *
  clear hb1
  go_wp2
  go_loopw [8, 9, 10, 11] (fun cp kp lk i wr => ∃ (k : Nat) (s : NS) (O : Nat → Prop), k ≤ cn ∧ i = .int .i64 k ∧ NEn w b s O wr ∧ s.Dz ∧
    (cp = .pointer none ∧ kp = .slice none 0 0 ∧ lk = .bool false ∨ ∃ (bc : Nat) (sc : NS) (Oc : Nat → Prop) (lb : Bool), cp = .pointer (some ⟨bc, 0, none⟩) ∧ lk = .bool lb ∧ Hid (sc.linked 0 1 = lb) ∧ at_ < k ∧ CpS w w.heap.size O bc sc Oc kp wr)) (fun _ _ _ i _ => cn - (intOf i).toNat)
  case atStart => exact ⟨0, s0, _, Nat.zero_le _, rfl, E0, hz0, .inl ⟨rfl, rfl, rfl⟩⟩
  case round =>
    clear E0 hz0
    obtain ⟨k, s, O, hk, rfl, E, hz, hcp⟩ := hrel
    by_cases hlt : k < cn
    · have hkI : (k : Int) < cn := by omega
      have hkl : k < l.length := by rw [hln.out]; exact hlt
      obtain ⟨bl, off, rfl, hbl⟩ := Rd.addr hr (by omega)
      have HR := Lib.hid (fun W (h : Below w.heap.size w W) => RdN.at (show RdN W (some ⟨bl, off, none⟩) cn c l from Rd.below hr h (Nat.le_refl _)) k hkl)
      have hyo := hl _ (List.getElem_mem hkl)
      generalize l[k] = y at *
      have hac := Lib.hid (fun W (E : NEn w b s O W) => E.act hz hT y hyo)
      have HZ1 := Lib.hid (NS.act_dz hz hyo)
      by_cases hat : at_ = (k : Int)
      · subst hat
        rcases hcp with ⟨rfl, rfl, rfl⟩ | ⟨_, _, _, _, _, _, _, hlt', _⟩
        case inr => omega
        go_wp2_with fail
        refine (E.copy).mono ?_
        rintro e w4 ⟨bc, Oc, rfl, Ec, hOc, b4⟩
        have E4 := E.below b4
        have hOhi := E.hi
        have hOchi := Ec.hi
        clear E
        obtain ⟨lb, hlb⟩ : ∃ lb, Hid (s.linked 0 1 = lb) := ⟨_, rfl⟩
        go_wp2_with fail
        refine (E4.linked hlb).mono ?_
        rintro e w' ⟨rfl, rfl⟩
        obtain ⟨M, hM⟩ : ∃ M, Hid (s.l.length = M) := ⟨_, rfl⟩
        have hM4 : M ≤ 4096 := by have := E4.ok.len; rw [hM.out] at this; exact this
        have HL := Lib.hid (fun W (h : Below w4.heap.size w4 W) => (E4.below h).len hM)
        have HAt := Lib.hid (fun W (h : Below w4.heap.size w4 W) j (hj : j < s.l.length) => (E4.below h).atj hj)
        go_wp2
        go_loopw [9, 12] (fun kp j wx => ∃ (j' : Nat), j' ≤ M ∧ j = .int .i64 j' ∧ wx.ownsRow w4.heap.size 35 4 kp j' ((s.l.take j').flatMap dgF) ∧ Below w4.heap.size w4 wx) (fun _ j _ => M - (intOf j).toNat)
        case atStart => exact ⟨0, Nat.zero_le _, rfl, World.ownsRow_nil _ _ _ _, Below.refl _ _⟩
        case round =>
          obtain ⟨j, hj, rfl, hown, hbx⟩ := hrel
          by_cases hjM : j < M
          · as_aux_lemma =>
              have hjI : (j : Int) < M := by omega
              have hjl : j < s.l.length := by rw [hM.out]; exact hjM
              go_wp2_with fail
              refine (HL.out _ hbx).mono ?_
              rintro e w' ⟨rfl, rfl⟩
              have hA := Lib.hid (HAt.out _ hbx j hjl)
              have hT2 := Lib.hid (show (s.l.take (j + 1)).flatMap dgF = (s.l.take j).flatMap dgF ++ dgF s.l[j] from by rw [List.take_succ_eq_append_getElem hjl, List.flatMap_append]; simp)
              generalize s.l[j] = d at *
              go_wp2_with fail
              refine hA.out.mono ?_
              rintro e w5 ⟨rfl, b5⟩
              have hown5 := own_belowB hown b5
              have hb5 := belS hbx b5
              have hZ := BlkAt.new w5 35 #[.int .i64 0, .int .i64 0, .string ⟨#[]⟩, .bool false]
              have hd1 := dg_one d
              have hd2 := dgF_one d
              clear hA HL HAt hac HZ1 HR hown b5
              go_wp2_with (first
                | (refine wpList_blk_alloc rfl rfl Tryd.dgZ w5.heap.size rfl ?_)
                | (refine wpList_blk_store (cs := #[.int .i64 d.src, .int .i64 d.dst, .string d.data, .bool d.torn]) rfl (.tmp 13) (.tmp 48) rfl rfl rfl hZ Tryd.dgI rfl hd1 ?_; intro w6 hD6 hK6 hs6; have hb6 := alloc_store hK6; have hown6 := own_belowB hown5 hb6; replace hb5 := belS hb5 hb6; have own7 := hown6.alloc (.cells #[.int .i64 d.src, .int .i64 d.dst, .string d.data, .bool d.torn] 35); have b7 := hb5.alloc hb5.size (.cells #[.int .i64 d.src, .int .i64 d.dst, .string d.data, .bool d.torn] 35); have hlv := Rd.blk1 (w := w6) (e := 35) (cs := dgF d) rfl rfl; clear hZ hK6 hs6 hb6 hown6 hb5)
                | (refine wpList_blk_load rfl (.tmp 13) rfl Tryd.underlying35 rfl rfl hD6 Tryd.dgI ?_)
                | (refine wpList_append_rd Tryd.dgE rfl (.tmp 50) (.tmp 52) rfl own7 rfl hlv rfl hd2 (by unfold maxLen; omega) (by omega) b7.size ?_; intro v' x' hown' hg'; have b8 := belG b7 hg' b7.size (fun g hg => (own7.lt g hg).1); clear own7 hlv b7 hg'))
              go_roundw
              case rel => exact ⟨j + 1, by omega, by go_num, by rw [hT2.out]; exact hown', b8⟩
              case measure => simp [intOf]; omega
          · obtain rfl : j = M := by omega
            have ht : s.l.take j = s.l := List.take_of_length_le (by rw [hM.out]; exact Nat.le_refl _)
            rw [ht] at hown
            have E9 := E4.below hbx
            have hw4 : w.heap.size ≤ w4.heap.size := E4.bel.size
            have hlt9 := hown.lt
            have h48 := b4.size
            rw [← hM.out] at hown
            have CP : CpS w w.heap.size O bc s Oc _ wr := ⟨Ec.below hbx, fun g hg hg' => by have := hOc g hg; have := hOhi g hg'; omega, own_mono hown hw4, fun g hg hg' => by have := (hlt9 g hg).1; have := hOhi g hg'; omega⟩
            clear ht E4 Ec hown hlt9
            obtain ⟨r0, r1, r2, r3, r4, r5, r6, r7, r8⟩ := HR.out _ E9.bel
            go_wp2_with fail
            refine (HL.out _ hbx).mono ?_
            rintro e w' ⟨rfl, rfl⟩
            go_wp2_with fail
            refine (hac.out _ E9).mono ?_
            rintro e w6 ⟨rfl, O6, E6, k6, hO6⟩
            have CP6 := CP.step E6 k6 hO6
            clear r0 r1 r2 r3 r4 r5 r6 r7 r8 hac HR CP HL HAt
            go_wp2
            go_roundw
            case rel => exact ⟨k + 1, _, O6, by omega, by go_num, E6, HZ1.out, .inr ⟨bc, s, Oc, lb, rfl, rfl, hlb, by omega, CP6⟩⟩
            case measure => simp [intOf]; omega
      · replace hat : ¬ (k : Int) = at_ := fun h => hat h.symm
        rcases hcp with ⟨rfl, rfl, rfl⟩ | ⟨bc, sc, Oc, lb, rfl, rfl, hlb, hlt', CP⟩
        · obtain ⟨r0, r1, r2, r3, r4, r5, r6, r7, r8⟩ := HR.out _ E.bel
          go_wp2_with fail
          refine (hac.out _ E).mono ?_
          rintro e w6 ⟨rfl, O6, E6, k6, hO6⟩
          clear r0 r1 r2 r3 r4 r5 r6 r7 r8 hac E HR
          go_wp2
          go_roundw
          case rel => exact ⟨k + 1, _, O6, by omega, by go_num, E6, HZ1.out, .inl ⟨rfl, rfl, rfl⟩⟩
          case measure => simp [intOf]; omega
        · obtain ⟨r0, r1, r2, r3, r4, r5, r6, r7, r8⟩ := HR.out _ E.bel
          go_wp2_with fail
          refine (hac.out _ E).mono ?_
          rintro e w6 ⟨rfl, O6, E6, k6, hO6⟩
          have CP6 := CP.step E6 k6 hO6
          clear r0 r1 r2 r3 r4 r5 r6 r7 r8 hac E HR CP
          go_wp2
          go_roundw
          case rel => exact ⟨k + 1, _, O6, by omega, by go_num, E6, HZ1.out, .inr ⟨bc, sc, Oc, lb, rfl, rfl, hlb, by omega, CP6⟩⟩
          case measure => simp [intOf]; omega
    · obtain rfl : k = cn := by omega
      have hkI : ¬ (k : Int) < k := by omega
      have Eb := E.bel
      clear E hz
      rcases hcp with ⟨rfl, rfl, rfl⟩ | ⟨bc, sc, Oc, lb, rfl, rfl, hlb, hlt', CP⟩
      · go_wp2
        go_ret
        exact ⟨rfl, Eb⟩
      · obtain ⟨ka, kc, rfl, hkr⟩ := Rd.own CP.row
        obtain ⟨M, hM⟩ : ∃ M, Hid (sc.l.length = M) := ⟨_, rfl⟩
        have hM4 : M ≤ 4096 := by have := CP.net.ok.len; rw [hM.out] at this; exact this
        rw [hM.out] at hkr
        have Ec := CP.net
        clear CP
        have HL := Lib.hid (fun W (h : Below wr.heap.size wr W) => (Ec.below h).len hM)
        have HK := Lib.hid (fun W (h : Below wr.heap.size wr W) => (Ec.below h).linked hlb)
        have HAt := Lib.hid (fun W (h : Below wr.heap.size wr W) j (hj : j < sc.l.length) => (Ec.below h).atj hj)
        have HRD := Lib.hid (fun W (h : Below wr.heap.size wr W) => show RdD W ka M kc sc.l from Rd.below hkr h (Nat.le_refl _))
        clear Ec hkr
        have b0 : Below wr.heap.size wr wr := Below.refl _ _
        rw [hM.out]
        go_wp2_with fail
        refine (HL.out _ b0).mono ?_
        rintro e w' ⟨rfl, rfl⟩
        go_wp2_with fail
        refine (HK.out _ b0).mono ?_
        rintro e w' ⟨rfl, rfl⟩
        clear HL HK
        go_wp2
        go_loopw [15] (fun j wx => ∃ (j' : Nat), j' ≤ M ∧ j = .int .i64 j' ∧ Below wr.heap.size wr wx) (fun j _ => M - (intOf j).toNat)
        case atStart => exact ⟨0, Nat.zero_le _, rfl, b0⟩
        case round =>
          obtain ⟨j, hj, rfl, hbx⟩ := hrel
          by_cases hjM : j < M
          · as_aux_lemma =>
              have hjI : (j : Int) < M := by omega
              have hjl : j < sc.l.length := by rw [hM.out]; exact hjM
              have hA := Lib.hid (HAt.out _ hbx j hjl)
              obtain ⟨gk, ok, rfl, _⟩ := Rd.addr (HRD.out _ hbx) (by omega)
              have hR := Lib.hid (fun W (h : Below _ _ W) => RdD.at (HRD.out W h) j hjl)
              generalize sc.l[j] = d at *
              go_wp2_with fail
              refine hA.out.mono ?_
              rintro e w5 ⟨rfl, b5⟩
              have hb5 := belS hbx b5
              have hZ := BlkAt.new w5 35 #[.int .i64 0, .int .i64 0, .string ⟨#[]⟩, .bool false]
              have hd1 := dg_one d
              clear hA HAt b5
              go_wp2_with (first
                | (refine wpList_blk_alloc rfl rfl Tryd.dgZ w5.heap.size rfl ?_)
                | (refine wpList_blk_store (cs := #[.int .i64 d.src, .int .i64 d.dst, .string d.data, .bool d.torn]) rfl (.tmp 16) (.tmp 83) rfl rfl rfl hZ Tryd.dgI rfl hd1 ?_; intro w6 hD6 hK6 hs6; have hb6 := alloc_store hK6; replace hb5 := belS hb5 hb6; clear hZ hK6 hs6 hb6))
              obtain ⟨r0, r1, r2, r3⟩ := hR.out _ hb5
              have d0 := hD6.cell (i := 0) rfl
              have d1 := hD6.cell (i := 1) rfl
              have d2 := hD6.cell (i := 2) rfl
              have d3 := hD6.cell (i := 3) rfl
              clear hR HRD
              go_quiet (fail)
              go_wp2
              go_roundw
              case rel => exact ⟨j + 1, by omega, by go_num, belN hb5 _⟩
              case measure => simp [intOf]; omega
          · obtain rfl : j = M := by omega
            go_wp2
            go_ret
            exact ⟨rfl, belS Eb hbx⟩
theorem ncopies_law (n : Int) (a : Option Addr) (cn c : Nat) (at_ : Int) (w : World) (hT : Tab w) (hn : (Lit.int .i64 n).wf = true) (hl : ∃ l, RSl RNa 9 w a cn c l) (ha : (Lit.int .i64 at_).wf = true) :
    Calls Tryd.prog 6 #[.int .i64 n, .slice a cn c, .int .i64 at_] w fun e w' => e = .returned (.bool true) ∧ Below w.heap.size w w' := by
  obtain ⟨l, hl⟩ := hl
  obtain ⟨h1, h2⟩ := hl.nas
  exact ncopies_any n at_ a cn c _ h2 w h1 hT
end Go.Proofs.YtmlkmonapnebiaaDoorR
