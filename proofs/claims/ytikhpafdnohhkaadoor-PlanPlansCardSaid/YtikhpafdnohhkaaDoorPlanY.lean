/- plan: the reference's Boundary -/
import Derived.Test.YtikhpafdnohhkaaDoorPlanV
import Derived.Test.YtikhpafdnohhkaaDoorPlanF
import Derived.Deep.Cut
import Derived.Deep.CutRange
namespace Go.Proofs.YtikhpafdnohhkaaDoor
set_option linter.unusedSimpArgs false
set_option linter.unusedVariables false
open Go.RowKit
set_option maxHeartbeats 6400000 in
set_option maxRecDepth 100000 in
theorem rbnd_any (a : Option Addr) (n c : Nat) (l : List Xc) (r1 r2 : Int) (hres : bndV (vX l) = (r1, r2)) (w : World) (hr : RdX w a n c l) :
    Calls Tryd.prog 21 #[.slice a n c] w fun e w' => e = .returned (.agg #[.int .u64 r1, .int .i64 r2]) ∧ Below w.heap.size w w' := by
  have hmx := hr.le_max
  have hl := Lib.hid hr.len
  replace hres := Lib.hid (show bndK (ksV (vX l)) = (r1, r2) from hres)
  have hA : BlkAt ((w.alloc (.cells #[.int .u64 0, .int .i64 0] 41)).alloc (.cells #[.int .u64 0, .int .i64 0] 41)) w.heap.size 41 #[.int .u64 0, .int .i64 0] := BlkAt.alloc (BlkAt.new w _ _) _
  have hB : BlkAt ((w.alloc (.cells #[.int .u64 0, .int .i64 0] 41)).alloc (.cells #[.int .u64 0, .int .i64 0] 41)) (w.heap.size + 1) 41 #[.int .u64 0, .int .i64 0] := by simpa using BlkAt.new (w.alloc (.cells #[.int .u64 0, .int .i64 0] 41)) 41 #[.int .u64 0, .int .i64 0]
  have hb1 : Below w.heap.size w ((w.alloc (.cells #[.int .u64 0, .int .i64 0] 41)).alloc (.cells #[.int .u64 0, .int .i64 0] 41)) := ((Below.refl _ _).alloc (Nat.le_refl _) _).alloc (by simp) _
  go_enter Tryd.func21, Tryd.ntmps21
  go_wp2_with (first
    | (refine wpList_blk_alloc rfl rfl Tryd.keyZ w.heap.size rfl ?_)
    | (refine wpList_blk_alloc rfl rfl Tryd.keyZ (w.heap.size + 1) (by simp) ?_; generalize (w.alloc _).alloc _ = w1 at *))
  go_loopw [4, 5] (fun i _ wr => ∃ (k : Nat) (bs bf : Int), k ≤ n ∧ i = .int .i64 k ∧ Hid (bndK (ksV (vX (l.take k))) = (bs, bf)) ∧ BlkAt wr (w.heap.size + 1) 41 #[.int .u64 bs, .int .i64 bf] ∧ BlkAt wr w.heap.size 41 #[.int .u64 0, .int .i64 0] ∧ Below w.heap.size w wr) (fun i _ _ => n - (intOf i).toNat)
  case atStart => exact ⟨0, 0, 0, Nat.zero_le _, rfl, rfl, hB, hA, hb1⟩
  case round =>
    clear hA hB hb1
    obtain ⟨k, bs, bf, hk, rfl, hv, hB, hA, hbr⟩ := hrel
    by_cases hkn : k < n
    · have hkl : k < l.length := by rw [hl.out]; exact hkn
      obtain ⟨g, off, rfl, hg, ⟨c0, c1, c2, c3, c4, c5⟩, hin⟩ := (hr.below hbr).at hkl
      have HS := Lib.hid (show bndK (ksV (vX (l.take (k + 1)))) = if k = 0 ∨ kLt (bs, bf) (l[k].v.ls, l[k].v.lf) = true then (l[k].v.ls, l[k].v.lf) else (bs, bf) from by
        rw [ksV_snoc l hkl, bndK_snoc, hv.out]
        rw [show (ksV (vX (l.take k))).length = k from by rw [ksV, List.length_map, vX_len, List.length_take]; omega])
      generalize l[k].v.ls = xs at *
      generalize l[k].v.lf = xf at *
      clear c0 c1 c2 c3 hin
      have hkI : (k : Int) < n := by omega
      obtain ⟨v0, v1⟩ := blk2 hB
      have hsz := hB.lt
      have HYES := Lib.hid (fun (h : k = 0 ∨ kLt (bs, bf) (xs, xf) = true) => HS.out.trans (if_pos h))
      have HNO := Lib.hid (fun (h : ¬ (k = 0 ∨ kLt (bs, bf) (xs, xf) = true)) => HS.out.trans (if_neg h))
      clear HS
      have hBa := BlkAt.alloc hB (.cells #[.int .u64 xs, .int .i64 xf] 41)
      have hAa := BlkAt.alloc hA (.cells #[.int .u64 xs, .int .i64 xf] 41)
      have hXa := BlkAt.new wr 41 #[.int .u64 xs, .int .i64 xf]
      have hba := hbr.alloc hbr.size (.cells #[.int .u64 xs, .int .i64 xf] 41)
      obtain ⟨va, vb⟩ := blk2 hBa
      obtain ⟨vc, vd⟩ := blk2 hXa
      clear v0 v1 hB hA hbr hXa
      obtain ⟨tb, htb⟩ : ∃ tb : Bool, tb = (decide (k = 0) || kLt (bs, bf) (xs, xf)) := ⟨_, rfl⟩
      have HYES2 := Lib.hid (fun (h : tb = true) => HYES.out (by rw [htb, Bool.or_eq_true, decide_eq_true_eq] at h; exact h))
      have HNO2 := Lib.hid (fun (h : tb = false) => HNO.out (by rw [htb, Bool.or_eq_false_iff, decide_eq_false_iff_not] at h; rintro (h2 | h2); exact h.1 h2; rw [h.2] at h2; cases h2))
      replace htb := Lib.hid htb
      clear HYES HNO
      go_upto_region 6 with (fail)
      generalize hwa : wr.alloc (.cells #[.int .u64 xs, .int .i64 xf] 41) = wa at *
      clear hwa
      go_cut [39] from 17 to 40 (fun t wx => t = .bool tb ∧ wx = wa)
      case first => as_aux_lemma =>
        clear HYES2 HNO2 hv hba hAa hBa hres hl hr hsz
        by_cases h0 : k = 0
        · have hz := Lib.hid (show tb = true from htb.out.trans (by simp [h0]))
          have h0B : ((k : Int) == 0) = true := by simpa using h0
          clear h0 htb
          go_wp2_with fail
          go_meet
          exact ⟨by rw [hz.out], rfl⟩
        have h0B : ((k : Int) == 0) = false := by simpa using h0
        by_cases h1 : bs < xs
        · have hz := Lib.hid (show tb = true from htb.out.trans (by simp [kLt, h1]))
          clear h0 htb
          go_wp2_with fail
          go_meet
          exact ⟨by rw [hz.out], rfl⟩
        by_cases h2 : bs = xs
        · have h2B := beqI_t h2
          by_cases h3 : bf < xf
          · have hz := Lib.hid (show tb = true from htb.out.trans (by simp [kLt, h2, h3]))
            clear h0 htb h2
            go_wp2_with fail
            go_meet
            exact ⟨by rw [hz.out], rfl⟩
          · have hz := Lib.hid (show tb = false from htb.out.trans (by simp [kLt, h0, h1, h3]))
            clear h0 htb h2
            go_wp2_with fail
            go_meet
            exact ⟨by rw [hz.out], rfl⟩
        · have h2B := beqI_f h2
          have hz := Lib.hid (show tb = false from htb.out.trans (by simp [kLt, h0, h1, h2]))
          clear h0 htb h2
          go_wp2_with fail
          go_meet
          exact ⟨by rw [hz.out], rfl⟩
      case rest => as_aux_lemma =>
        obtain ⟨rfl, rfl⟩ := hcut
        clear c4 c5
        cases tb with
        | true =>
          have HZ := Lib.hid (HYES2.out rfl)
          clear HYES2 HNO2 htb
          go_wp2_with (first
            | (refine wpList_blk_store (cs := #[.int .u64 xs, .int .i64 xf]) rfl (.tmp 3) (.tmp 40) rfl rfl rfl hBa (Tryd.keyI _ _) rfl (by simp [Value.oneCell']) ?_; intro w4 hB4 hK4 hsz4))
          have hA5 : BlkAt w4 w.heap.size 41 #[.int .u64 0, .int .i64 0] := hK4.blk hAa (by omega)
          have hb5 : Below w.heap.size w w4 := Kp.below hba hK4 (Nat.le_succ _) hba.size
          go_roundw
          case rel => first | exact ⟨k + 1, xs, xf, by omega, by go_num, HZ.out, hB4, hA5, hb5⟩ | ((repeat apply Exists.intro); exact ⟨⟨by omega, by go_num, HZ.out, hB4, hA5, hb5⟩, rfl⟩)
          case measure => simp [intOf]; omega
        | false =>
          have HZ := Lib.hid (HNO2.out rfl)
          clear HYES2 HNO2 htb
          go_wp2
          go_roundw
          case rel => first | exact ⟨k + 1, bs, bf, by omega, by go_num, HZ.out, hBa, hAa, hba⟩ | ((repeat apply Exists.intro); exact ⟨⟨by omega, by go_num, HZ.out, hBa, hAa, hba⟩, rfl⟩)
          case measure => simp [intOf]; omega
    · obtain rfl : k = n := by omega
      have hfin : (bs, bf) = (r1, r2) := by rw [← hv.out, List.take_of_length_le (by rw [hl.out]; exact Nat.le_refl _), hres.out]
      injection hfin with e1 e2
      subst e1 e2
      go_wp2_with (first
        | (refine wpList_blk_load rfl (.tmp 3) rfl Tryd.underlying41 rfl rfl hB (Tryd.keyI _ _) ?_)
        | (refine wpList_blk_store (cs := #[.int .u64 bs, .int .i64 bf]) rfl (.tmp 2) (.tmp 41) rfl rfl rfl hA (Tryd.keyI _ _) rfl (by simp [Value.oneCell']) ?_; intro w4 hA4 hK4 hsz4))
      refine bodyPost_ret (results_cell_row rfl _ _ w.heap.size 41 _ (0, 0) _ rfl hA4 Tryd.underlying41 rfl (Tryd.keyI _ _)) rfl ⟨rfl, ?_⟩
      exact Kp.below hbr hK4 (Nat.le_refl _) hbr.size
end Go.Proofs.YtikhpafdnohhkaaDoor
