/- the walk of the reference's May; of VoteVotes -/
import Derived.Test.YtnpinkcadkkeoaaVoteU
import Derived.Test.YtnpinkcadkkeoaaSetR5
import Derived.Test.YtnpinkcadkkeoaaVoteQ
import Derived.Deep.RegionHeld3
namespace Go.Proofs.Ytnpinkcadkkeoaa
open Go.RowKit Go.Sort

theorem all_take (l : List Vw) (p : Vw → Bool) (k : Nat) (hk : k < l.length) : (l.take (k + 1)).all p = ((l.take k).all p && p l[k]) := by
  rw [List.take_succ_eq_append_getElem hk, List.all_append]; simp
theorem not_any_not (l : List Vw) (p : Vw → Bool) : (!l.any fun v => !p v) = l.all p := by
  induction l with
  | nil => rfl
  | cons x l ih => rw [List.any_cons, List.all_cons, Bool.not_or, Bool.not_not, ih]
set_option maxHeartbeats 1600000 in
set_option maxRecDepth 100000 in
theorem rmay_any (x : Nat) (hx : x < 18446744073709551616) (a : Option Addr) (n c : Nat) (l : List Rc) (hwf : ∀ r ∈ l, r.Wf) (ht : tot l ≤ 1000000) (w : World) (hr : RdR w a n c l) :
    Calls Try.prog 17 #[.int .u64 x, .slice a n c] w fun e w' => e = .returned (.bool (mayB x l)) ∧ Below w.heap.size w w' := by
  have hmx := hr.le_max
  unfold maxLen at hmx
  have hln := hr.len
  have hlw := (lastL_wf hwf).2
  have HLA := Lib.hid (fun W (h : Below w.heap.size w W) => rlast_any a n c l W (hr.below h))
  have HPE := Lib.hid (fun W (h : Below w.heap.size w W) => rpending_any a n c l ht W (hr.below h))
  have HMO := Lib.hid (fun W => rmost_any x (lastL l).mem hx hlw W)
  have hpw := Lib.hid (pendL_wf hwf)
  have HM := Lib.hid (show mayB x l = (!l.isEmpty && (mostB x (lastL l).mem && (pendL l).all fun v => mostB x v.mem)) from by rw [mayB, not_any_not])
  have HE : l.isEmpty = (n == 0) := by subst hln; cases l <;> rfl
  rw [HE] at HM
  replace HM := Lib.hid HM.out
  unfold vwA at HLA
  generalize lastL l = la at *
  generalize pendL l = pl at *
  generalize mostB x la.mem = mb at *
  have hfl := fun W => run_field2 W (.int .u64 la.num) (.int .u64 la.ce) (.int .i64 la.cr) (.int .u64 la.mem)
  clear hln HE hr hwf ht
  obtain ⟨b0, hb0⟩ : ∃ b0, b0 = ((!(n == 0)) && mb) := ⟨_, rfl⟩
  replace HM := Lib.hid (show mayB x l = (b0 && pl.all fun v => mostB x v.mem) from by rw [HM.out, hb0, Bool.and_assoc])
  by_cases h0 : n = 0
  case' pos =>
    subst h0
    obtain rfl : b0 = false := by rw [hb0]; rfl
    clear hb0
    go_enter Try.func17, Try.ntmps17
    go_wp2_with fail
    have hb1 : Below w.heap.size w w := Below.refl _ _
    refine (HPE.out _ hb1).mono ?_
  case' neg =>
    obtain rfl : b0 = mb := by rw [hb0]; simp [h0]
    clear hb0
    have h0I : (0 : Int) < n := by omega
    have h0N : 0 < n := by omega
    go_enter Try.func17, Try.ntmps17
    go_wp2_with fail
    refine (HLA.out _ (Below.refl _ _)).mono ?_
    rintro e w1 ⟨rfl, hb1⟩
    go_wp2_with fail
    refine (HMO.out _).mono ?_
    rintro e w2 ⟨rfl, hb2⟩
    replace hb1 := belS hb1 hb2
    clear hb2
    go_wp2_with fail
    refine (HPE.out _ hb1).mono ?_
  all_goals
    rintro e w3 ⟨v, rfl, hown, hb3⟩
    obtain ⟨pa, pc, rfl, hrp⟩ := Rd.own hown
    have hrp : RdV w3 pa pl.length pc pl := hrp
    have hb := belS hb1 hb3
    have hpm := hrp.le_max
    unfold maxLen at hpm
    clear hown hb3 hb1 HPE HLA HMO hfl
    go_wp2
    go_loopw [5, 7] (fun o i wr => ∃ (k : Nat) (b : Bool), k ≤ pl.length ∧ i = .int .i64 k ∧ o = .bool b ∧ Hid (b = (_ && (pl.take k).all fun v => mostB x v.mem)) ∧ Below w3.heap.size w3 wr) (fun _ i _ => pl.length - (intOf i).toNat)
    case atStart => exact ⟨0, _, Nat.zero_le _, rfl, rfl, (Bool.and_true _).symm, Below.refl _ _⟩
    case round =>
      obtain ⟨k, b, hk, rfl, rfl, hbb, hbr⟩ := hrel
      by_cases hlt : k < pl.length
      · obtain ⟨bs, off, rfl, _⟩ := Rd.addr hrp (by omega)
        obtain ⟨c0, c1, c2, c3⟩ := (hrp.below hbr (Nat.le_refl _)).at k hlt
        have hkI : (k : Int) < pl.length := by omega
        have HS := Lib.hid (all_take pl (fun v => mostB x v.mem) k hlt)
        have hzw := (hpw.out _ (List.getElem_mem hlt)).2
        have HT := Lib.hid (fun W => rmost_any x pl[k].mem hx hzw W)
        generalize hms : mostB x pl[k].mem = ms at *
        replace hms := Lib.hid hms
        cases b with
        | false =>
          go_wp2
          go_roundw
          case rel => exact ⟨k + 1, false, by omega, by go_num, rfl, by rw [HS.out, ← Bool.and_assoc, ← hbb.out]; rfl, hbr⟩
          case measure => simp [intOf]; omega
        | true =>
          go_wp2_with fail
          refine (HT.out _).mono ?_
          rintro e w5 ⟨rfl, hb5⟩
          go_wp2
          go_roundw
          case rel => exact ⟨k + 1, ms, by omega, by go_num, rfl, by rw [HS.out, ← Bool.and_assoc, ← hbb.out]; rfl, belS hbr hb5⟩
          case measure => simp [intOf]; omega
      · obtain rfl : k = pl.length := by omega
        have hF := Lib.hid (hbb.out.trans (by rw [List.take_length, ← HM.out]))
        go_wp2
        go_ret
        exact ⟨ret_bool hF.out, belS hb hbr⟩
end Go.Proofs.Ytnpinkcadkkeoaa
