/- plan: the reference's Holder, Boundary -/
import Derived.Test.YtikhpafdnohhkaaDoorPlanW
namespace Go.Proofs.YtikhpafdnohhkaaDoor
set_option linter.unusedSimpArgs false
set_option linter.unusedVariables false
open Go.RowKit
set_option maxHeartbeats 3200000 in
set_option maxRecDepth 100000 in
theorem rhold_any (a : Option Addr) (n c : Nat) (l : List Xc) (hok : ∀ x ∈ vX l, 0 ≤ x.who ∧ x.who < 64) (q : Int) (w : World) (hr : RdX w a n c l) :
    Calls Tryd.prog 19 #[.slice a n c, .int .i64 q] w fun e w' => e = .returned (.int .i64 (holdV (vX l) q)) ∧ w = w' := by
  have HW := Lib.hid (rwhole_any a n c l q w hr)
  have hHV := Lib.hid (show holdV (vX l) q = minI (holdM (wholeV (vX l) q) q (vX l)) from rfl)
  generalize wholeV (vX l) q = wn at *
  generalize holdV (vX l) q = hv at *
  replace hok := Lib.hid hok
  have hmx := hr.le_max
  have hl := Lib.hid hr.len
  go_enter Tryd.func19, Tryd.ntmps19
  go_wp2_with fail
  refine HW.out.mono ?_
  rintro e w1 ⟨rfl, rfl⟩
  go_wp2
  go_loop [6, 7] (fun b i => ∃ (k : Nat) (bst : Int), k ≤ n ∧ i = .int .i64 k ∧ b = .int .i64 bst ∧ Hid (bst = minI (holdM wn q (vX (l.take k))))) (fun _ i => n - (intOf i).toNat)
  case atStart => exact ⟨0, -1, Nat.zero_le _, rfl, rfl, rfl⟩
  case round =>
    obtain ⟨k, bst, hk, rfl, rfl, hm⟩ := hrel
    by_cases hkn : k < n
    · have hkl : k < l.length := by rw [hl.out]; exact hkn
      obtain ⟨g, off, rfl, hg, ⟨c0, c1, c2, c3, c4, c5⟩, hin⟩ := hr.at hkl
      have hst := holdM_step wn q l hkl
      have hwo := hok.out l[k].v (List.mem_map.2 ⟨l[k], List.getElem_mem hkl, rfl⟩)
      have hor := minI_or (holdM_lt wn q (vX (l.take k))) hwo.1 hwo.2
      rw [← hm.out] at hor
      have HST := Lib.hid (show minI (holdM wn q (vX (l.take (k + 1)))) = if 0 < wn ∧ atL l[k].v.cnt q = wn then (if bst < 0 ∨ l[k].v.who < bst then l[k].v.who else bst) else bst from by
        rw [hst]
        by_cases h : 0 < wn ∧ atL l[k].v.cnt q = wn
        · rw [if_pos h, if_pos h, hor]
        · rw [if_neg h, if_neg h, hm.out])
      clear hst hwo hor
      generalize l[k] = x at *
      have hkI : (k : Int) < n := by omega
      by_cases h0 : wn = 0
      · have hz := Lib.hid (HST.out.trans (if_neg (by omega)))
        have h0I : (wn : Int) ≤ 0 := by omega
        clear HST h0
        go_wp2
        go_round
        case rel => exact ⟨k + 1, bst, by omega, by go_num, rfl, Lib.hid hz.out.symm⟩
        case measure => simp [intOf]; omega
      have h0I : (0 : Int) < wn := by omega
      generalize hy : atL x.v.cnt q = y at *
      replace hy := Lib.hid hy
      have HAt := Lib.hid (atR_any _ _ _ _ q w hin)
      rw [hy.out] at HAt
      go_wp2_with fail
      refine HAt.out.mono ?_
      rintro e w5 ⟨rfl, rfl⟩
      by_cases h1 : y = wn
      · have hz := Lib.hid (HST.out.trans (if_pos ⟨by omega, h1⟩))
        have e1 : ((y : Int) == wn) = true := by rw [h1]; exact beq_self_eq_true _
        clear HST h0 h1
        by_cases hb : bst < 0
        · have hz2 := Lib.hid (hz.out.trans (if_pos (.inl hb)))
          clear hz
          go_wp2
          go_round
          case rel => exact ⟨k + 1, x.v.who, by omega, by go_num, rfl, Lib.hid hz2.out.symm⟩
          case measure => simp [intOf]; omega
        · by_cases hlt : x.v.who < bst
          · have hz2 := Lib.hid (hz.out.trans (if_pos (.inr hlt)))
            clear hz
            go_wp2
            go_round
            case rel => exact ⟨k + 1, x.v.who, by omega, by go_num, rfl, Lib.hid hz2.out.symm⟩
            case measure => simp [intOf]; omega
          · have hz2 := Lib.hid (hz.out.trans (if_neg (by rintro (h | h); exact hb h; exact hlt h)))
            clear hz
            go_wp2
            go_round
            case rel => exact ⟨k + 1, bst, by omega, by go_num, rfl, Lib.hid hz2.out.symm⟩
            case measure => simp [intOf]; omega
      · have hz := Lib.hid (HST.out.trans (if_neg (fun h => h1 h.2)))
        have e1 : ((y : Int) == wn) = false := by simpa using fun h => h1 (by omega)
        clear HST h0 h1
        go_wp2
        go_round
        case rel => exact ⟨k + 1, bst, by omega, by go_num, rfl, Lib.hid hz.out.symm⟩
        case measure => simp [intOf]; omega
    · obtain rfl : k = n := by omega
      have hz := Lib.hid (show bst = hv from by rw [hHV.out, hm.out, List.take_of_length_le (by rw [hl.out]; exact Nat.le_refl _)])
      go_wp2
      go_ret
      exact ⟨by rw [← hz.out]; rfl, rfl⟩
end Go.Proofs.YtikhpafdnohhkaaDoor
