/- the net: the walk of NetFull -/
import Derived.Test.YtmlkmonapnebiaaDoorRNetM
namespace Go.Proofs.YtmlkmonapnebiaaDoorR
open Go.RowKit Go.Sort

theorem act_full (s : NS) (a : NAc) (h : a.kind = 0 ∨ a.kind = 3) : (s.act a).l.length = s.l.length ∨ (s.act a).l.length = s.l.length + 1 := by
  unfold NS.act
  rcases h with h | h
  · rw [if_pos h]
    unfold NS.send
    split
    · split
      · split
        · exact .inl rfl
        · exact .inr (by show (s.l ++ [_]).length = _; rw [List.length_append]; rfl)
      · exact .inl rfl
    · exact .inl rfl
  · rw [if_neg (by omega), if_neg (by omega), if_neg (by omega), if_pos h]
    unfold NS.double
    split
    · exact .inr (by show (s.l ++ [_]).length = _; rw [List.length_append]; rfl)
    · exact .inl rfl
theorem act_less (s : NS) (a : NAc) (h : a.kind = 1 ∨ a.kind = 2) (ht : s.there a.i = true) : (s.act a).l.length + 1 = s.l.length := by
  obtain ⟨k, hk, hlt⟩ := there_t ht
  have e : (s.l.eraseIdx k).length + 1 = s.l.length := by rw [List.length_eraseIdx, if_pos hlt]; omega
  unfold NS.act
  rcases h with h | h
  · rw [if_neg (by omega), if_pos h]
    unfold NS.take
    rw [if_pos ht, hk, Int.toNat_natCast]
    exact e
  · rw [if_neg (by omega), if_neg (by omega), if_pos h]
    unfold NS.drop
    rw [if_pos ht, hk, Int.toNat_natCast]
    exact e
theorem act_none (s : NS) (a : NAc) (h : a.kind = 1 ∨ a.kind = 2) (ht : s.there a.i = false) : (s.act a).l.length = s.l.length := by
  unfold NS.act
  rcases h with h | h
  · rw [if_neg (by omega), if_pos h]
    unfold NS.take
    rw [if_neg (by rw [ht]; decide)]
  · rw [if_neg (by omega), if_neg (by omega), if_pos h]
    unfold NS.drop
    rw [if_neg (by rw [ht]; decide)]
theorem act_else (s : NS) (a : NAc) (h0 : a.kind ≠ 0) (h1 : a.kind ≠ 1) (h2 : a.kind ≠ 2) (h3 : a.kind ≠ 3) : (s.act a).l.length = s.l.length := by
  unfold NS.act
  rw [if_neg h0, if_neg h1, if_neg h2, if_neg h3]
  split
  · unfold NS.turnA
    split
    · show (s.l.set _ _).length = _
      rw [List.length_set]
    · rfl
  split
  · rfl
  split
  · rfl
  · rfl
set_option maxHeartbeats 6400000 in
set_option maxRecDepth 100000 in
theorem nfull_any (n : Int) (a : Option Addr) (cn c : Nat) (l : List NAc) (hl : ∀ y ∈ l, y.Ok) (M : Nat) (hM : M < 65536) (w : World) (hr : RdN w a cn c l) (hT : Tab w) :
    Calls Tryd.prog 5 #[.int .i64 n, .slice a cn c, .int .u16 M] w fun e w' => e = .returned (.bool true) ∧ Below w.heap.size w w' := by
  have hln := Lib.hid hr.len
  have hmx := Rd.le_max hr
  unfold maxLen at hmx
  have hAw := Lib.hid (awake_any w hT)
  have hMI : (M : Int) < 65536 := by omega
  go_enter Tryd.func5, Tryd.ntmps5
  go_wp2_with fail
  refine hAw.out.mono ?_
  rintro e w1 ⟨rfl, hb1⟩
  clear hAw
  have hF := few_any a cn c l hl w1 (Rd.below hr hb1 (Nat.le_refl _))
  cases hfw : fewGo 0 0 l with
  | false =>
    rw [hfw] at hF
    replace hF := Lib.hid hF
    go_wp2_with fail
    refine hF.out.mono ?_
    rintro e w' ⟨rfl, rfl⟩
    go_wp2
    go_ret
    exact ⟨rfl, hb1⟩
  | true =>
  rw [hfw] at hF
  replace hF := Lib.hid hF
  clear hfw
  go_wp2_with fail
  refine hF.out.mono ?_
  rintro e w' ⟨rfl, rfl⟩
  clear hF
  go_wp2_with fail
  refine (NEn.new n hT hb1).mono ?_
  rintro e w3 ⟨b, rfl, E0, _, _⟩
  have hz0 : (NS.nw n).Dz := fun d hd => by cases hd
  generalize NS.nw n = s0 at *
  clear hb1
  go_wp2
  go_loopw [8] (fun i wr => ∃ (k : Nat) (s : NS) (O : Nat → Prop), k ≤ M ∧ i = .int .i64 k ∧ NEn w b s O wr ∧ s.Dz) (fun i _ => M - (intOf i).toNat)
  case atStart => exact ⟨0, s0, _, Nat.zero_le _, rfl, E0, hz0⟩
  case round =>
    clear E0 hz0
    obtain ⟨k, s, O, hk, rfl, E, hz⟩ := hrel
    have hzs : (s.send .zero).1.Dz := by
      have e : s.act ⟨0, .zero, 0, 0, 0, 0⟩ = (s.send .zero).1 := if_pos rfl
      rw [← e]
      exact NS.act_dz hz ⟨Nat.zero_lt_succ _, Nat.zero_le _⟩
    by_cases hlt : k < M
    · have hkI : (k : Int) < M := by omega
      have hsd := Lib.hid (E.send .zero)
      go_wp2_with fail
      refine hsd.out.mono ?_
      rintro e w5 ⟨rfl, O5, E5, _, _⟩
      go_wp2
      go_roundw
      case rel => exact ⟨k + 1, _, O5, by omega, by go_num, E5, hzs⟩
      case measure => simp [intOf]; omega
    · obtain rfl : k = M := by omega
      clear hzs
      have E1 := E
      have hz1 := hz
      clear E hz
      go_wp2
      go_loopw [9] (fun i wr => ∃ (k : Nat) (s : NS) (O : Nat → Prop), k ≤ cn ∧ i = .int .i64 k ∧ NEn w b s O wr ∧ s.Dz) (fun i _ => cn - (intOf i).toNat)
      case atStart => exact ⟨0, s, O, Nat.zero_le _, rfl, E1, hz1⟩
      case round =>
        clear E1 hz1
        obtain ⟨k, s, O, hk, rfl, E, hz⟩ := hrel
        by_cases hlt : k < cn
        · have hkI : (k : Int) < cn := by omega
          as_aux_lemma =>
            clear hMI hM
            have hkl : k < l.length := by rw [hln.out]; exact hlt
            obtain ⟨bl, off, rfl, hbl⟩ := Rd.addr hr (by omega)
            have hyo := hl _ (List.getElem_mem hkl)
            have HR := Lib.hid (fun W (h : Below w.heap.size w W) => RdN.at (show RdN W (some ⟨bl, off, none⟩) cn c l from Rd.below hr h (Nat.le_refl _)) k hkl)
            generalize l[k] = y at *
            have hac := Lib.hid (fun W (E : NEn w b s O W) => E.act hz hT y hyo)
            have HZ1 := Lib.hid (NS.act_dz hz hyo)
            have h03 := act_full s y
            have h12 := act_less s y
            have h12n := act_none s y
            have hel := act_else s y
            have hthere : s.there y.i = decide (0 ≤ y.i ∧ y.i < s.l.length) := rfl
            have hm := E.ok.len
            generalize s.act y = s' at *
            obtain ⟨m0, HM0⟩ : ∃ m, Hid (s.l.length = m) := ⟨_, Lib.hid rfl⟩
            obtain ⟨m1, HM1⟩ : ∃ m, Hid (s'.l.length = m) := ⟨_, Lib.hid rfl⟩
            rw [HM0.out] at hm hthere
            rw [HM0.out, HM1.out] at h03 h12 h12n hel
            generalize s.there y.i = th at *
            have Hm := Lib.hid hm
            clear hm
            replace h03 := Lib.hid h03
            replace h12 := Lib.hid h12
            replace h12n := Lib.hid h12n
            replace hel := Lib.hid hel
            replace hthere := Lib.hid hthere
            (go_wp2_with fail; refine (E.len HM0).mono ?_; rintro e w' ⟨rfl, rfl⟩)
            obtain ⟨r0, r1, r2, r3, r4, r5, r6, r7, r8⟩ := HR.out _ E.bel
            go_wp2_with fail
            refine (hac.out _ E).mono ?_
            rintro e w5 ⟨rfl, O5, E5, _, _⟩
            clear E r0 r1 r2 r3 r4 r5 r6 r7 r8
            have hm1 : m1 ≤ 4096 := by rw [← HM1.out]; exact E5.ok.len
            have hm1B : decide ((4096 : Int) < m1) = false := decide_eq_false (by omega)
            have hgw : IntKind.i64.wrap ((m1 : Int) - m0) = (m1 : Int) - m0 := by rw [IntKind.wrap_i64]; have := Hm.out; omega
            clear hm1
            (go_wp2_with fail; refine (E5.len HM1).mono ?_; rintro e w' ⟨rfl, rfl⟩)
            obtain ⟨r0, _, _, _, _, r5, _, _, _⟩ := HR.out _ E5.bel
            by_cases k0 : y.kind = 0 ∨ y.kind = 3
            · have hg := h03.out k0
              have g1 : ¬ (m1 : Int) - m0 < 0 := by omega
              have g2 : ¬ (1 : Int) < (m1 : Int) - m0 := by omega
              rcases k0 with k0 | k0
              · rw [k0] at r0
                clear hg k0
                (go_wp2_with fail; refine (E5.len HM1).mono ?_; rintro e w' ⟨rfl, rfl⟩; go_wp2; go_roundw; (case rel => exact ⟨k + 1, s', O5, by omega, by go_num, E5, HZ1.out⟩); (case measure => (simp [intOf]; omega)))
              · rw [k0] at r0
                clear hg k0
                (go_wp2_with fail; refine (E5.len HM1).mono ?_; rintro e w' ⟨rfl, rfl⟩; go_wp2; go_roundw; (case rel => exact ⟨k + 1, s', O5, by omega, by go_num, E5, HZ1.out⟩); (case measure => (simp [intOf]; omega)))
            by_cases k1 : y.kind = 1 ∨ y.kind = 2
            · clear k0
              cases th with
              | true =>
                have hg := h12.out k1 rfl
                have g1 : ¬ (0 : Int) < (m1 : Int) - m0 := by omega
                have g2 : ¬ (m1 : Int) - m0 < -1 := by omega
                have g3 : ((m1 : Int) - m0 == 0) = false := by rw [beq_eq_false_iff_ne]; omega
                rcases k1 with k1 | k1
                · rw [k1] at r0
                  clear hg k1
                  (go_wp2_with fail; refine (E5.len HM1).mono ?_; rintro e w' ⟨rfl, rfl⟩; go_wp2; go_roundw; (case rel => exact ⟨k + 1, s', O5, by omega, by go_num, E5, HZ1.out⟩); (case measure => (simp [intOf]; omega)))
                · rw [k1] at r0
                  clear hg k1
                  (go_wp2_with fail; refine (E5.len HM1).mono ?_; rintro e w' ⟨rfl, rfl⟩; go_wp2; go_roundw; (case rel => exact ⟨k + 1, s', O5, by omega, by go_num, E5, HZ1.out⟩); (case measure => (simp [intOf]; omega)))
              | false =>
                obtain rfl := h12n.out k1 rfl
                have hni : ¬ (0 ≤ y.i ∧ y.i < m1) := of_decide_eq_false hthere.out.symm
                by_cases hi0 : 0 ≤ y.i
                · have hi1 : ¬ y.i < m1 := by omega
                  rcases k1 with k1 | k1
                  · rw [k1] at r0
                    clear hni k1
                    (go_wp2_with fail; refine (E5.len HM1).mono ?_; rintro e w' ⟨rfl, rfl⟩; go_wp2; go_roundw; (case rel => exact ⟨k + 1, s', O5, by omega, by go_num, E5, HZ1.out⟩); (case measure => (simp [intOf]; omega)))
                  · rw [k1] at r0
                    clear hni k1
                    (go_wp2_with fail; refine (E5.len HM1).mono ?_; rintro e w' ⟨rfl, rfl⟩; go_wp2; go_roundw; (case rel => exact ⟨k + 1, s', O5, by omega, by go_num, E5, HZ1.out⟩); (case measure => (simp [intOf]; omega)))
                · rcases k1 with k1 | k1
                  · rw [k1] at r0
                    clear hni k1
                    (go_wp2_with fail; refine (E5.len HM1).mono ?_; rintro e w' ⟨rfl, rfl⟩; go_wp2; go_roundw; (case rel => exact ⟨k + 1, s', O5, by omega, by go_num, E5, HZ1.out⟩); (case measure => (simp [intOf]; omega)))
                  · rw [k1] at r0
                    clear hni k1
                    (go_wp2_with fail; refine (E5.len HM1).mono ?_; rintro e w' ⟨rfl, rfl⟩; go_wp2; go_roundw; (case rel => exact ⟨k + 1, s', O5, by omega, by go_num, E5, HZ1.out⟩); (case measure => (simp [intOf]; omega)))
            · have e0 : (y.kind == 0) = false := by rw [beq_eq_false_iff_ne]; omega
              have e1 : (y.kind == 1) = false := by rw [beq_eq_false_iff_ne]; omega
              have e2 : (y.kind == 2) = false := by rw [beq_eq_false_iff_ne]; omega
              have e3 : (y.kind == 3) = false := by rw [beq_eq_false_iff_ne]; omega
              obtain rfl := hel.out (by omega) (by omega) (by omega) (by omega)
              clear k0 k1
              (go_wp2_with fail; refine (E5.len HM1).mono ?_; rintro e w' ⟨rfl, rfl⟩; go_wp2; go_roundw; (case rel => exact ⟨k + 1, s', O5, by omega, by go_num, E5, HZ1.out⟩); (case measure => (simp [intOf]; omega)))
        · obtain rfl : k = cn := by omega
          obtain ⟨m0, HM0⟩ : ∃ m, Hid (s.l.length = m) := ⟨_, Lib.hid rfl⟩
          have hm : m0 ≤ 4096 := by rw [← HM0.out]; exact E.ok.len
          have hmI : (m0 : Int) ≤ 4096 := by omega
          (go_wp2_with fail; refine (E.len HM0).mono ?_; rintro e w' ⟨rfl, rfl⟩)
          go_wp2
          go_ret
          exact ⟨rfl, E.bel⟩
theorem nfull_law (n : Int) (a : Option Addr) (cn c : Nat) (m : Int) (w : World) (hT : Tab w) (hn : (Lit.int .i64 n).wf = true) (hl : ∃ l, RSl RNa 9 w a cn c l) (hm : (Lit.int .u16 m).wf = true) :
    Calls Tryd.prog 5 #[.int .i64 n, .slice a cn c, .int .u16 m] w fun e w' => e = .returned (.bool true) ∧ Below w.heap.size w w' := by
  obtain ⟨l, hl⟩ := hl
  obtain ⟨h1, h2⟩ := hl.nas
  have gm : 0 ≤ m ∧ m < 65536 := by
    simp [Lit.wf, IntKind.min, IntKind.max, IntKind.bits, IntKind.signed] at hm
    omega
  obtain ⟨M, rfl⟩ : ∃ M : Nat, m = M := ⟨m.toNat, by omega⟩
  exact nfull_any n a cn c _ h2 M (by omega) w h1 hT
end Go.Proofs.YtmlkmonapnebiaaDoorR
