/- gather: the reference's member and Needs, ConfLess; the walk of GatherNeeds -/
import Derived.Test.YtlgabjffnjciaaaDoorGatG
import Derived.Test.YtlgabjffnjciaaaDoorGatM
namespace Go.Proofs.YtlgabjffnjciaaaDoor
set_option linter.unusedSimpArgs false
set_option linter.unusedVariables false
open Go.RowKit Go.Sort
theorem shr_bit (x k : Nat) (hx : x < 18446744073709551616) : bits BinOp.and IntKind.u64 ((x : Int) / 2 ^ k) 1 = (((x.testBit k).toNat : Nat) : Int) := by
  have hd : x / 2 ^ k < 18446744073709551616 := Nat.lt_of_le_of_lt (Nat.div_le_self _ _) hx
  have := u64_and_nat (x / 2 ^ k) 1 hd (by decide)
  rw [show ((2 : Int) ^ k) = ((2 ^ k : Nat) : Int) from by simp, show (x : Int) / ((2 ^ k : Nat) : Int) = ((x / 2 ^ k : Nat) : Int) from by simp]
  rw [show ((1 : Nat) : Int) = 1 from rfl] at this
  rw [this, Nat.and_one_is_mod, Nat.testBit_eq_decide_div_mod_eq]
  rcases Nat.mod_two_eq_zero_or_one (x / 2 ^ k) with e | e <;> rw [e] <;> rfl

set_option maxHeartbeats 800000 in
theorem member_any (x : Nat) (p : Int) (t : Bool) (ht : t = hasB x p) (hx : x < 18446744073709551616) (w : World) :
    Calls Tryd.prog 39 #[.int .u64 x, .int .i64 p] w fun e w' => e = .returned (.bool t) ∧ w = w' := by
  have ht2 := Lib.hid (show t = (decide (0 ≤ p ∧ p < 64) && x.testBit p.toNat) from by rw [ht, hasB_eq])
  clear ht
  by_cases h0 : p < 0
  · have hz := Lib.hid (ht2.out.trans (by rw [decide_eq_false (by omega), Bool.false_and]))
    clear ht2
    go_enter Tryd.func39, Tryd.ntmps39
    go_wp2
    go_ret
    exact ⟨by rw [hz.out]; rfl, rfl⟩
  by_cases h1 : 64 ≤ p
  · have hz := Lib.hid (ht2.out.trans (by rw [decide_eq_false (by omega), Bool.false_and]))
    clear ht2
    go_enter Tryd.func39, Tryd.ntmps39
    go_wp2
    go_ret
    exact ⟨by rw [hz.out]; rfl, rfl⟩
  obtain ⟨k, rfl⟩ : ∃ k : Nat, p = k := ⟨p.toNat, by omega⟩
  have hk : k < 64 := by omega
  have hkI : (k : Int) < 64 := by omega
  have hbit := shr_bit x k hx
  have hz := Lib.hid (show t = x.testBit k from ht2.out.trans (by rw [decide_eq_true (by omega), Int.toNat_natCast, Bool.true_and]))
  clear ht2 h0 h1
  cases hb : x.testBit k with
  | true =>
    rw [hb] at hbit hz
    have hbit2 : bits BinOp.and IntKind.u64 ((x : Int) / 2 ^ k) 1 = 1 := hbit
    clear hbit hb
    go_enter Tryd.func39, Tryd.ntmps39
    go_wp2
    go_ret
    exact ⟨by rw [hz.out]; rfl, rfl⟩
  | false =>
    rw [hb] at hbit hz
    have hbit2 : bits BinOp.and IntKind.u64 ((x : Int) / 2 ^ k) 1 = 0 := hbit
    clear hbit hb
    go_enter Tryd.func39, Tryd.ntmps39
    go_wp2
    go_ret
    exact ⟨by rw [hz.out]; rfl, rfl⟩
theorem hold_min' {x : Nat} (hx : x < 18446744073709551616) : (minI x = -1 ∧ x = 0) ∨ ∃ k : Nat, minI x = k ∧ k < 64 ∧ x.testBit k = true ∧ ∀ i, i < k → x.testBit i = false := by
  unfold minI
  by_cases h : x = 0
  · exact .inl ⟨if_pos h, h⟩
  · obtain ⟨h1, h2, h3, _⟩ := low_split hx h
    exact .inr ⟨_, if_neg h, h1, h2, h3⟩
theorem needs_no {mem reach strange : Nat} {me : Int} (hr : reach < 18446744073709551616) (h : hasB reach me = false) : needsB mem reach strange me = (decide (reach = 0) && decide (me = -1) && decide (mem ≠ 0)) := by
  unfold needsB
  rcases hold_min' hr with ⟨h1, h2⟩ | ⟨k, h1, h2, h3, _⟩
  · rw [h1, h2]
    by_cases hm : me = -1
    · subst hm
      simp only [Nat.and_zero]
      by_cases h0 : mem = 0
      · subst h0; rfl
      · rw [decide_eq_true (show (0 : Nat) ≠ mem from fun e => h0 e.symm), decide_eq_true h0]; rfl
    · rw [decide_eq_false (fun e => hm e.symm), decide_eq_false hm]; simp
  · have hne : ¬ minI reach = me := by
      intro e
      rw [← e, h1, hasB_nat h2, h3] at h
      cases h
    have h0 : ¬ reach = 0 := by intro e; subst e; simp at h3
    rw [decide_eq_false hne, decide_eq_false h0]
    rfl
theorem needs_low {mem reach strange : Nat} {k p : Nat} (hr : reach < 18446744073709551616) (hk : k < 64) (hp : p < k) (hb : reach.testBit p = true) : needsB mem reach strange k = false := by
  unfold needsB
  rcases hold_min' hr with ⟨h1, h2⟩ | ⟨j, h1, h2, h3, h4⟩
  · subst h2; simp at hb
  · have hne : ¬ minI reach = (k : Int) := by
      intro e
      rw [h1] at e
      have : j = k := by omega
      subst this
      rw [h4 p hp] at hb
      cases hb
    rw [decide_eq_false hne]
    rfl
theorem needs_yes {mem reach strange : Nat} {k : Nat} (hr : reach < 18446744073709551616) (hk : k < 64) (hb : reach.testBit k = true) (hl : ∀ p, p < k → reach.testBit p = false) : needsB mem reach strange k = (decide (reach ≠ mem) || decide (strange &&& reach ≠ 0)) := by
  unfold needsB
  rcases hold_min' hr with ⟨h1, h2⟩ | ⟨j, h1, h2, h3, h4⟩
  · subst h2; simp at hb
  · have : j = k := by
      rcases Nat.lt_trichotomy j k with h | h | h
      · rw [hl j h] at h3; cases h3
      · exact h
      · rw [h4 k h] at hb; cases hb
    subst this
    rw [h1, decide_eq_true rfl]
    rfl
set_option maxHeartbeats 1600000 in
theorem rneeds_any (mem reach strange : Nat) (me : Int) (t : Bool) (ht : t = needsB mem reach strange me) (hm : mem < 18446744073709551616) (hr : reach < 18446744073709551616) (hs : strange < 18446744073709551616) (w : World) :
    Calls Tryd.prog 10 #[.int .u64 mem, .int .u64 reach, .int .u64 strange, .int .i64 me] w fun e w' => e = .returned (.bool t) ∧ w = w' := by
  have HM := Lib.hid (fun p t ht W => member_any reach p t ht hr W)
  cases hh : hasB reach me with
  | false =>
    have hz := Lib.hid (ht.trans (needs_no hr hh))
    replace hh := Lib.hid hh
    clear ht
    by_cases h1 : reach = 0
    · have e1 : ((reach : Int) == 0) = true := by rw [beq_iff_eq]; omega
      have e2 : (reach == 0) = true := by rw [beq_iff_eq]; omega
      by_cases h2 : me = -1
      · have e3 : (me == -1) = true := by rw [beq_iff_eq]; omega
        by_cases h3 : mem = 0
        · have e5 : ((mem : Int) != 0) = false := by rw [bne_eq_false_iff_eq]; omega
          have e6 : (mem != 0) = false := by rw [bne_eq_false_iff_eq]; omega
          replace hz := Lib.hid (show t = false from by rw [hz.out, h3]; simp)
          replace h1 := Lib.hid h1
          replace h2 := Lib.hid h2
          replace h3 := Lib.hid h3
          go_enter Tryd.func10, Tryd.ntmps10
          go_wp2_with fail
          refine (HM.out me false hh.out.symm _).mono ?_
          rintro e w2 ⟨rfl, rfl⟩
          go_wp2
          go_ret
          exact ⟨by rw [hz.out]; rfl, rfl⟩
        · have e5 : ((mem : Int) != 0) = true := by rw [bne_iff_ne]; omega
          have e6 : (mem != 0) = true := by rw [bne_iff_ne]; omega
          replace hz := Lib.hid (show t = true from by rw [hz.out]; simp [h1, h2, h3])
          replace h1 := Lib.hid h1
          replace h2 := Lib.hid h2
          replace h3 := Lib.hid h3
          go_enter Tryd.func10, Tryd.ntmps10
          go_wp2_with fail
          refine (HM.out me false hh.out.symm _).mono ?_
          rintro e w2 ⟨rfl, rfl⟩
          go_wp2
          go_ret
          exact ⟨by rw [hz.out]; rfl, rfl⟩
      · have e3 : (me == -1) = false := by rw [beq_eq_false_iff_ne]; omega
        replace hz := Lib.hid (show t = false from by rw [hz.out]; simp [h2])
        replace h1 := Lib.hid h1
        replace h2 := Lib.hid h2
        go_enter Tryd.func10, Tryd.ntmps10
        go_wp2_with fail
        refine (HM.out me false hh.out.symm _).mono ?_
        rintro e w2 ⟨rfl, rfl⟩
        go_wp2
        go_ret
        exact ⟨by rw [hz.out]; rfl, rfl⟩
    · have e1 : ((reach : Int) == 0) = false := by rw [beq_eq_false_iff_ne]; omega
      have e2 : (reach == 0) = false := by rw [beq_eq_false_iff_ne]; omega
      replace hz := Lib.hid (show t = false from by rw [hz.out]; simp [h1])
      replace h1 := Lib.hid h1
      go_enter Tryd.func10, Tryd.ntmps10
      go_wp2_with fail
      refine (HM.out me false hh.out.symm _).mono ?_
      rintro e w2 ⟨rfl, rfl⟩
      go_wp2
      go_ret
      exact ⟨by rw [hz.out]; rfl, rfl⟩
  | true =>
    obtain ⟨⟨h0, h1⟩, h2⟩ := hasB_in.1 hh
    obtain ⟨k, rfl⟩ : ∃ k : Nat, me = k := ⟨me.toNat, by omega⟩
    have hk : k < 64 := by omega
    rw [Int.toNat_natCast] at h2
    have HL := Lib.hid (fun p (hp : p < k) (hb : reach.testBit p = true) => ht.trans (needs_low (mem := mem) (strange := strange) hr hk hp hb))
    have HY := Lib.hid (fun (hl : ∀ p, p < k → reach.testBit p = false) => ht.trans (needs_yes (mem := mem) (strange := strange) hr hk h2 hl))
    replace hh := Lib.hid hh
    replace h2 := Lib.hid h2
    clear ht h0 h1
    go_enter Tryd.func10, Tryd.ntmps10
    go_wp2_with fail
    refine (HM.out k true hh.out.symm _).mono ?_
    rintro e w2 ⟨rfl, rfl⟩
    go_wp2
    go_loop [9] (fun pv => ∃ p : Nat, p ≤ k ∧ pv = .int .i64 p ∧ Hid (∀ q, q < p → reach.testBit q = false)) (fun pv => k - (RowKit.intOf pv).toNat)
    case atStart => exact ⟨0, Nat.zero_le _, rfl, Lib.hid (fun q h => by omega)⟩
    case round =>
      obtain ⟨p, hp, rfl, hl⟩ := hrel
      by_cases hpk : p < k
      · have hpI : (p : Int) < k := by omega
        cases hb : reach.testBit p with
        | true =>
          have hz := Lib.hid (HL.out p hpk hb)
          have hb2 := Lib.hid (show true = hasB reach (p : Int) from by rw [hasB_nat (by omega), hb])
          clear hb
          go_wp2_with fail
          refine (HM.out p true hb2.out _).mono ?_
          rintro e w2 ⟨rfl, rfl⟩
          go_wp2
          go_ret
          exact ⟨by rw [hz.out]; rfl, rfl⟩
        | false =>
          have hb2 := Lib.hid (show false = hasB reach (p : Int) from by rw [hasB_nat (by omega), hb])
          have hl2 : Hid (∀ q, q < p + 1 → reach.testBit q = false) := Lib.hid (fun q hq => by
            by_cases e : q = p
            · subst e; exact hb
            · exact hl.out q (by omega))
          clear hb
          go_wp2_with fail
          refine (HM.out p false hb2.out _).mono ?_
          rintro e w2 ⟨rfl, rfl⟩
          go_wp2
          go_round
          case rel => exact ⟨p + 1, by omega, by go_num, hl2⟩
          case measure => simp [RowKit.intOf]; omega
      · obtain rfl : k = p := by omega
        have hpI : (k : Int) ≤ k := by omega
        have hz := Lib.hid (HY.out hl.out)
        have hsr := u64_and_nat strange reach hs hr
        have hsl : strange &&& reach < 18446744073709551616 := and_lt _ _ hs
        generalize strange &&& reach = sr at *
        by_cases h3 : reach = mem
        · have e1 : ((reach : Int) != (mem : Int)) = false := by rw [bne_eq_false_iff_eq]; omega
          have e2 : (reach != mem) = false := by rw [bne_eq_false_iff_eq]; omega
          by_cases h4 : sr = 0
          · have e3 : ((sr : Int) != 0) = false := by rw [bne_eq_false_iff_eq]; omega
            have e4 : (sr != 0) = false := by rw [bne_eq_false_iff_eq]; omega
            replace hz := Lib.hid (show t = false from by rw [hz.out]; simp [h3, h4])
            clear h3 h4
            go_wp2
            go_ret
            exact ⟨by rw [hz.out]; rfl, rfl⟩
          · have e3 : ((sr : Int) != 0) = true := by rw [bne_iff_ne]; omega
            have e4 : (sr != 0) = true := by rw [bne_iff_ne]; omega
            replace hz := Lib.hid (show t = true from by rw [hz.out]; simp [h4])
            clear h3 h4
            go_wp2
            go_ret
            exact ⟨by rw [hz.out]; rfl, rfl⟩
        · have e1 : ((reach : Int) != (mem : Int)) = true := by rw [bne_iff_ne]; omega
          have e2 : (reach != mem) = true := by rw [bne_iff_ne]; omega
          replace hz := Lib.hid (show t = true from by rw [hz.out]; simp [h3])
          clear h3
          go_wp2
          go_ret
          exact ⟨by rw [hz.out]; rfl, rfl⟩
end Go.Proofs.YtlgabjffnjciaaaDoor
