/- the walk of VoteMeets -/
import Derived.Test.YtnpinkcadkkeoaaVoteO
namespace Go.Proofs.Ytnpinkcadkkeoaa
open Go.RowKit Go.Sort

theorem run_field2 (W : World) (a b c d : Value) : (Instr.field 31 (.agg #[a, b, c, d]) 2).run Try.prog W = .ok d W := by simp [go_sem, Instr.field, part, isAgg, asAgg]
set_option maxHeartbeats 1600000 in
set_option maxRecDepth 100000 in
theorem meets_law0 (sa : Option Addr) (n c : Nat) (x y : Nat) (l : List Rc) (hx : x < 18446744073709551616) (hy : y < 18446744073709551616) (hwf : ∀ r ∈ l, r.Wf) (hz : ∀ r ∈ l, r.pend.length ≤ 4398046511104) (w : World) (hr : RdR w sa n c l) :
    Calls Try.prog 5 #[.slice sa n c, .int .u64 x, .int .u64 y] w fun e w' => e = .returned (.bool true) ∧ Below w.heap.size w w' := by
  go_enter Try.func5, Try.ntmps5
  go_wp2_with fail
  refine (awake_any _).mono ?_
  rintro e w1 ⟨rfl, E⟩
  replace hr := hr.below E
  go_wp2_with fail
  refine (few_any sa n c l hz _ hr).mono ?_
  rintro e w' ⟨rfl, rfl⟩
  cases hf : fewB l with
  | false =>
    go_wp2
    go_ret
    exact ⟨rfl, E⟩
  | true =>
    have ht : tot l ≤ 1000000 := by
      unfold fewB at hf
      have := of_decide_eq_true hf
      omega
    go_wp2_with fail
    refine (may_any x hx sa n c l hwf ht _ hr).mono ?_
    rintro e w2 ⟨rfl, hb⟩
    replace E := belS E hb
    replace hr := hr.below hb
    cases hmx : mayB x l with
    | false =>
      go_wp2
      go_ret
      exact ⟨rfl, E⟩
    | true =>
      go_wp2_with fail
      refine (anyS_any x y hx hy _).mono ?_
      rintro e w' ⟨rfl, rfl⟩
      go_wp2_with fail
      refine (may_any (x ||| y) (or_lt hx hy) sa n c l hwf ht _ hr).mono ?_
      rintro e w3 ⟨rfl, hb⟩
      rw [may_more hmx]
      replace E := belS E hb
      replace hr := hr.below hb
      go_wp2_with fail
      refine (may_any y hy sa n c l hwf ht _ hr).mono ?_
      rintro e w4 ⟨rfl, hb⟩
      replace E := belS E hb
      replace hr := hr.below hb
      cases hmy : mayB y l with
      | false =>
        go_wp2
        go_ret
        exact ⟨rfl, E⟩
      | true =>
        obtain ⟨hp, hq⟩ := may_meet hmx hmy
        have hpw := pendL_wf hwf
        have hlw := (lastL_wf hwf).2
        go_wp2_with fail
        refine (both_any x y hx hy _).mono ?_
        rintro e w' ⟨rfl, rfl⟩
        have hxy := and_lt x y hx
        generalize x &&& y = xy at *
        go_wp2_with fail
        refine (pending_any sa n c l ht _ hr).mono ?_
        rintro e w5 ⟨v, rfl, hown, hb⟩
        replace E := belS E hb
        replace hr := hr.below hb
        obtain ⟨pa, pc, rfl, hv⟩ := Rd.own hown
        have hv : RdV w5 pa (pendL l).length pc (pendL l) := hv
        have hL := Lib.hid (fun W (h : RdR W sa n c l) => last_any sa n c l W h)
        have hpm := hv.le_max
        unfold maxLen at hpm
        clear hown hb hmx hmy hf ht hwf hz
        generalize pendL l = pd at *
        generalize lastL l = la at *
        go_wp2
        go_loop [11] (fun i => ∃ k : Nat, k ≤ pd.length ∧ i = .int .i64 k) (fun i => pd.length - (intOf i).toNat)
        case atStart => exact ⟨0, Nat.zero_le _, rfl⟩
        case round =>
          obtain ⟨k, hk, rfl⟩ := hrel
          by_cases hlt : k < pd.length
          · obtain ⟨bs, off, rfl, _⟩ := Rd.addr hv (by omega)
            obtain ⟨c0, c1, c2, c3⟩ := hv.at k hlt
            have hne := hp _ (List.getElem_mem hlt)
            have hw := (hpw _ (List.getElem_mem hlt)).2
            generalize pd[k] = z at *
            go_wp2_with fail
            refine (both_any xy z.mem hxy hw _).mono ?_
            rintro e w' ⟨rfl, rfl⟩
            have hne' : ((xy &&& z.mem : Nat) : Int) ≠ 0 := by omega
            go_wp2
            go_round
            case rel => exact ⟨k + 1, by omega, by go_num⟩
            case measure => simp [intOf]; omega
          · obtain rfl : k = pd.length := by omega
            go_wp2_with fail
            refine (hL.out _ hr).mono ?_
            rintro e w6 ⟨rfl, hb⟩
            replace E := belS E hb
            unfold vwA
            have hfl := fun W => run_field2 W (.int .u64 la.num) (.int .u64 la.ce) (.int .i64 la.cr) (.int .u64 la.mem)
            go_wp2_with fail
            refine (both_any xy la.mem hxy hlw _).mono ?_
            rintro e w' ⟨rfl, rfl⟩
            have hne' : ((xy &&& la.mem : Nat) : Int) ≠ 0 := by omega
            go_wp2
            go_ret
            exact ⟨ret_bool (by simp [hq]), E⟩
theorem u64n {x : Int} (h : (Lit.int .u64 x).wf = true) : ∃ n : Nat, x = n ∧ n < 18446744073709551616 := by
  have := wf_u64_bounds h
  exact ⟨x.toNat, by omega, by omega⟩
theorem meets_law (a : Option Addr) (n c : Nat) (x y : Int) (w : World) (hl : ∃ l, RSl RRec 5 w a n c l) (hx : (Lit.int .u64 x).wf = true) (hy : (Lit.int .u64 y).wf = true) :
    Calls Try.prog 5 #[.slice a n c, .int .u64 x, .int .u64 y] w fun e w' => e = .returned (.bool true) ∧ Below w.heap.size w w' := by
  obtain ⟨l, hl⟩ := hl
  obtain ⟨h1, h2, h3⟩ := hl.recs
  obtain ⟨x, rfl, gx⟩ := u64n hx
  obtain ⟨y, rfl, gy⟩ := u64n hy
  exact meets_law0 a n c x y _ gx gy h2 h3 w h1
end Go.Proofs.Ytnpinkcadkkeoaa
