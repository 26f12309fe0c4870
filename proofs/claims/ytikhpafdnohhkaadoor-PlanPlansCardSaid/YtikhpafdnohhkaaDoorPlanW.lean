/- plan: the reference's Whole, Holder, Boundary -/
import Derived.Test.YtikhpafdnohhkaaDoorPlanV
import Derived.Test.YtikhpafdnohhkaaDoorPlanG
import Derived.Deep.Cut
namespace Go.Proofs.YtikhpafdnohhkaaDoor
set_option linter.unusedSimpArgs false
set_option linter.unusedVariables false
open Go.RowKit
set_option maxHeartbeats 3200000 in
set_option maxRecDepth 100000 in
theorem rwhole_any (a : Option Addr) (n c : Nat) (l : List Xc) (q : Int) (w : World) (hr : RdX w a n c l) :
    Calls Tryd.prog 17 #[.slice a n c, .int .i64 q] w fun e w' => e = .returned (.int .u32 (wholeV (vX l) q)) ∧ w = w' := by
  have hmx := hr.le_max
  have hl := Lib.hid hr.len
  by_cases hn0 : n = 0
  · have hz := Lib.hid (show wholeV (vX l) q = 0 from by
      have : l = [] := List.eq_nil_of_length_eq_zero (by rw [hl.out]; exact hn0)
      subst this
      unfold wholeV wholeF vX
      split <;> rfl)
    subst hn0
    go_enter Tryd.func17, Tryd.ntmps17
    go_wp2
    refine wp_loop_rounds 1 ?_
    rw [rounds_succ]
    go_wp2
    go_ret
    exact ⟨by rw [hz.out]; rfl, rfl⟩
  have hn0I : (0 : Int) < n := by omega
  by_cases hq0 : q < 0
  · have hz := Lib.hid (show wholeV (vX l) q = 0 from if_neg (by omega))
    go_enter Tryd.func17, Tryd.ntmps17
    go_wp2
    refine wp_loop_rounds 1 ?_
    rw [rounds_succ]
    go_wp2
    go_ret
    exact ⟨by rw [hz.out]; rfl, rfl⟩
  by_cases hq1 : 64 ≤ q
  · have hz := Lib.hid (show wholeV (vX l) q = 0 from if_neg (by omega))
    go_enter Tryd.func17, Tryd.ntmps17
    go_wp2
    refine wp_loop_rounds 1 ?_
    rw [rounds_succ]
    go_wp2
    go_ret
    exact ⟨by rw [hz.out]; rfl, rfl⟩
  have hz := Lib.hid (show wholeV (vX l) q = wholeF (vX l) q from if_pos (by omega))
  go_enter Tryd.func17, Tryd.ntmps17
  go_wp2
  go_loop [5, 6] (fun s i => ∃ (k m : Nat), k ≤ n ∧ i = .int .i64 k ∧ s = .int .u32 m ∧ Hid (m = wholeF (vX (l.take k)) q)) (fun _ i => n - (intOf i).toNat)
  case atStart => exact ⟨0, 0, Nat.zero_le _, rfl, rfl, rfl⟩
  case round =>
    obtain ⟨k, m, hk, rfl, rfl, hm⟩ := hrel
    by_cases hkn : k < n
    · have hkl : k < l.length := by rw [hl.out]; exact hkn
      obtain ⟨g, off, rfl, hg, ⟨c0, c1, c2, c3, c4, c5⟩, hin⟩ := hr.at hkl
      have hst := Lib.hid (wholeF_step l q hkl)
      rw [← hm.out] at hst
      generalize l[k] = x at *
      have hkI : (k : Int) < n := by omega
      generalize hy : atL x.v.cnt q = y at *
      replace hy := Lib.hid hy
      have HAt := Lib.hid (atR_any _ _ _ _ q w hin)
      rw [hy.out] at HAt
      by_cases hmy : m < y
      · have hmI : (m : Int) < y := by omega
        go_wp2_with fail
        refine HAt.out.mono ?_
        rintro e w5 ⟨rfl, rfl⟩
        go_wp2_with fail
        refine HAt.out.mono ?_
        rintro e w5 ⟨rfl, rfl⟩
        go_wp2
        go_round
        case rel => exact ⟨k + 1, y, by omega, by go_num, rfl, Lib.hid (by rw [hst.out]; omega)⟩
        case measure => simp [intOf]; omega
      · have hmI : (y : Int) ≤ m := by omega
        go_wp2_with fail
        refine HAt.out.mono ?_
        rintro e w5 ⟨rfl, rfl⟩
        go_wp2
        go_round
        case rel => exact ⟨k + 1, m, by omega, by go_num, rfl, Lib.hid (by rw [hst.out]; omega)⟩
        case measure => simp [intOf]; omega
    · obtain rfl : k = n := by omega
      go_wp2
      go_ret
      refine ⟨?_, rfl⟩
      rw [hz.out, hm.out, List.take_of_length_le (by rw [hl.out]; exact Nat.le_refl _)]
      rfl
theorem hold_min' {x : Nat} (hx : x < 18446744073709551616) : (minI x = -1 ∧ x = 0) ∨ ∃ k : Nat, minI x = k ∧ k < 64 ∧ x.testBit k = true ∧ ∀ i, i < k → x.testBit i = false := by
  unfold minI
  by_cases h : x = 0
  · exact .inl ⟨if_pos h, h⟩
  · obtain ⟨h1, h2, h3, _⟩ := low_split hx h
    exact .inr ⟨_, if_neg h, h1, h2, h3⟩
theorem minI_or {x : Nat} (hx : x < 18446744073709551616) {p : Int} (h0 : 0 ≤ p) (h1 : p < 64) : minI (withN x [p]) = if minI x < 0 ∨ p < minI x then p else minI x := by
  obtain ⟨q, rfl⟩ : ∃ q : Nat, p = q := ⟨p.toNat, by omega⟩
  have hy := withN_lt [(q : Int)] hx
  have hb : ∀ i, i < 64 → (withN x [(q : Int)]).testBit i = (x.testBit i || decide (q = i)) := fun i hi => by
    rw [withN_bit _ _ hi]
    congr 1
    by_cases e : q = i
    · subst e; simp
    · simp [e]; omega
  rcases hold_min' hy with ⟨_, e⟩ | ⟨j, ej, hj, hbj, hlo⟩
  · exfalso
    have := hb q (by omega)
    rw [e] at this; simp at this
  · rw [ej]
    rw [hb j hj] at hbj
    rcases hold_min' hx with ⟨e1, e2⟩ | ⟨k, ek, hk, hbk, hlo2⟩
    · rw [e1, if_pos (.inl (by omega))]
      subst e2
      simp at hbj
      omega
    · rw [ek]
      have hjk : j ≤ k := by
        by_cases h : j ≤ k
        · exact h
        · have := hlo k (by omega)
          rw [hb k hk, hbk] at this; simp at this
      have hjq : j ≤ q := by
        by_cases h : j ≤ q
        · exact h
        · have := hlo q (by omega)
          rw [hb q (by omega)] at this; simp at this
      by_cases hqk : q < k
      · rw [if_pos (.inr (by omega))]
        have : j = q := by
          by_cases e : q = j
          · exact e.symm
          · have : x.testBit j = true := by simpa [e] using hbj
            have h2 := hlo2 j (by omega)
            rw [h2] at this; cases this
        rw [this]
      · rw [if_neg (by omega)]
        have : j = k := by
          by_cases e : j = k
          · exact e
          · have h2 := hlo2 j (by omega)
            rw [h2] at hbj
            simp at hbj; omega
        rw [this]
end Go.Proofs.YtikhpafdnohhkaaDoor
