/- walks of the reference: Last, Next -/
import Derived.Test.YtnpinkcadkkeoaaVoteS
namespace Go.Proofs.Ytnpinkcadkkeoaa
open Go.RowKit Go.Sort

theorem lastF_spec (l : List Rc) : ∀ b : Vw, ((l.foldl (fun b r => if b.num < r.last.num then r.last else b) b) = b ∧ ∀ r ∈ l, r.last.num ≤ b.num) ∨ ∃ i, ∃ h : i < l.length, (l.foldl (fun b r => if b.num < r.last.num then r.last else b) b) = l[i].last ∧ b.num < l[i].last.num ∧ (∀ r ∈ l, r.last.num ≤ l[i].last.num) ∧ ∀ j (hj : j < i), l[j].last.num < l[i].last.num := by
  induction l with
  | nil => intro b; exact .inl ⟨rfl, fun r hr => by cases hr⟩
  | cons x l ih =>
    intro b
    rw [List.foldl_cons]
    by_cases h : b.num < x.last.num
    · rw [if_pos h]
      right
      rcases ih x.last with ⟨h1, h2⟩ | ⟨i, hi, h1, h2, h3, h4⟩
      · refine ⟨0, by simp, h1, h, fun r hr => ?_, fun j hj => by omega⟩
        rcases List.mem_cons.1 hr with rfl | hr
        · exact Nat.le_refl _
        · exact h2 r hr
      · refine ⟨i + 1, by simpa using hi, h1, Nat.lt_trans h h2, fun r hr => ?_, fun j hj => ?_⟩
        · rcases List.mem_cons.1 hr with rfl | hr
          · exact Nat.le_of_lt h2
          · exact h3 r hr
        · cases j with
          | zero => exact h2
          | succ j => exact h4 j (by omega)
    · rw [if_neg h]
      rcases ih b with ⟨h1, h2⟩ | ⟨i, hi, h1, h2, h3, h4⟩
      · refine .inl ⟨h1, fun r hr => ?_⟩
        rcases List.mem_cons.1 hr with rfl | hr
        · omega
        · exact h2 r hr
      · refine .inr ⟨i + 1, by simpa using hi, h1, h2, fun r hr => ?_, fun j hj => ?_⟩
        · rcases List.mem_cons.1 hr with rfl | hr
          · simp only [List.getElem_cons_succ]; omega
          · exact h3 r hr
        · cases j with
          | zero => simp only [List.getElem_cons_succ, List.getElem_cons_zero]; omega
          | succ j => exact h4 j (by omega)
theorem lastL_spec {l : List Rc} (h : l ≠ []) : ∃ i, ∃ h : i < l.length, lastL l = l[i].last ∧ (∀ r ∈ l, r.last.num ≤ l[i].last.num) ∧ ∀ j (hj : j < i), l[j].last.num < l[i].last.num := by
  cases l with
  | nil => exact absurd rfl h
  | cons x l =>
    rcases lastF_spec l x.last with ⟨h1, h2⟩ | ⟨i, hi, h1, h2, h3, h4⟩
    · refine ⟨0, by simp, h1, fun r hr => ?_, fun j hj => by omega⟩
      rcases List.mem_cons.1 hr with rfl | hr
      · exact Nat.le_refl _
      · exact h2 r hr
    · refine ⟨i + 1, by simpa using hi, h1, fun r hr => ?_, fun j hj => ?_⟩
      · rcases List.mem_cons.1 hr with rfl | hr
        · exact Nat.le_of_lt h2
        · exact h3 r hr
      · cases j with
        | zero => exact h2
        | succ j => exact h4 j (by omega)
theorem lastL_at {l : List Rc} {k : Nat} (hk : k < l.length) (hmax : ∀ r ∈ l, r.last.num ≤ l[k].last.num) (hfst : ∀ j (hj : j < k) (h : j < l.length), ∃ r ∈ l, l[j].last.num < r.last.num) : lastL l = l[k].last := by
  obtain ⟨i, hi, h1, h2, h3⟩ := lastL_spec (l := l) (fun e => by subst e; cases hk)
  rw [h1]
  rcases Nat.lt_trichotomy i k with h | h | h
  · obtain ⟨r, hr, hlt⟩ := hfst i h hi
    have := h2 r hr
    omega
  · subst h; rfl
  · have := h3 k h
    have := hmax _ (List.getElem_mem hi)
    omega
def topB (m : Nat) (l : List Rc) : Bool := l.all fun r => decide (r.last.num ≤ m)
theorem topB_snoc (m : Nat) (l : List Rc) (r : Rc) : topB m (l ++ [r]) = (topB m l && decide (r.last.num ≤ m)) := by simp [topB]
set_option maxHeartbeats 1600000 in
set_option maxRecDepth 100000 in
theorem rlast_any (a : Option Addr) (n c : Nat) (l : List Rc) (w : World) (hr : RdR w a n c l) :
    Calls Try.prog 12 #[.slice a n c] w fun e w' => e = .returned (.agg (vwA (lastL l))) ∧ Below w.heap.size w w' := by
  have hmx := hr.le_max
  unfold maxLen at hmx
  have hl := Lib.hid hr.len
  have hZ := BlkAt.new w 31 (vwA .zero)
  go_enter Try.func12, Try.ntmps12
  go_wp2_with (refine wpList_blk_alloc rfl rfl Try.viewZ w.heap.size rfl ?_)
  have hbz : Below w.heap.size w (w.alloc (.cells (vwA .zero) 31)) := (Below.refl _ _).alloc (Nat.le_refl _) _
  generalize w.alloc _ = w1 at *
  have hr1 := hr.below hbz
  go_loopw [3] (fun i wr => ∃ k : Nat, k ≤ n ∧ i = .int .i64 k ∧ Hid (∀ j (hj : j < k) (h : j < l.length), ∃ r ∈ l, l[j].last.num < r.last.num) ∧ Below w1.heap.size w1 wr) (fun i _ => n - (intOf i).toNat)
  case atStart => exact ⟨0, Nat.zero_le _, rfl, (fun j hj => by omega), Below.refl _ _⟩
  case round =>
    obtain ⟨k, hk, rfl, hno, hbr⟩ := hrel
    by_cases hlt : k < n
    · have hkl : k < l.length := by rw [hl.out]; exact hlt
      obtain ⟨bs, off, rfl, _, _⟩ := hr1.addr (by omega)
      have hkI : (k : Int) < n := by omega
      go_wp2
      go_loopw [4, 5] (fun o i wr2 => ∃ (j : Nat) (v : Bool), j ≤ n ∧ i = .int .i64 j ∧ o = .bool v ∧ Hid (v = topB l[k].last.num (l.take j)) ∧ Below w1.heap.size w1 wr2) (fun _ i _ => n - (intOf i).toNat)
      case atStart => exact ⟨0, true, Nat.zero_le _, rfl, rfl, rfl, hbr⟩
      case round =>
        clear hbr
        obtain ⟨j, v, hj, rfl, rfl, hv, hbr⟩ := hrel
        obtain ⟨_, _, he, _, hcs⟩ := (hr1.below hbr).addr (by omega)
        simp only [Option.some.injEq, Addr.mk.injEq, and_true] at he
        obtain ⟨rfl, rfl⟩ := he
        obtain ⟨pa, pn, pc, ⟨c0, c1, c2, c3, c4⟩, _⟩ := hcs k hkl
        by_cases hlt2 : j < n
        · have hjl : j < l.length := by rw [hl.out]; exact hlt2
          obtain ⟨qa, qn, qc, ⟨d0, d1, d2, d3, d4⟩, _⟩ := hcs j hjl
          have hjI : (j : Int) < n := by omega
          have HS := Lib.hid (show topB l[k].last.num (l.take (j + 1)) = (v && decide (l[j].last.num ≤ l[k].last.num)) from by rw [List.take_succ_eq_append_getElem hjl, topB_snoc, ← hv.out])
          clear hcs c1 c2 c3 c4 d1 d2 d3 d4
          generalize l[k].last.num = x at *
          generalize l[j].last.num = y at *
          cases v with
          | false =>
            go_wp2
            go_quiet (fail)
            go_wp2
            go_roundw
            case rel => exact ⟨j + 1, false, by omega, by go_num, rfl, HS.out.symm, belN hbr _⟩
            case measure => simp [intOf]; omega
          | true =>
            rcases Nat.lt_or_ge x y with hm | hm
            · rw [decide_eq_false (by omega)] at HS
              have hmI : (x : Int) < y := by omega
              go_wp2
              go_quiet (fail)
              go_wp2
              go_roundw
              case rel => exact ⟨j + 1, false, by omega, by go_num, by simp <;> omega, HS.out.symm, belN hbr _⟩
              case measure => simp [intOf]; omega
            · rw [decide_eq_true hm] at HS
              have hmI : (y : Int) ≤ x := by omega
              go_wp2
              go_quiet (fail)
              go_wp2
              go_roundw
              case rel => exact ⟨j + 1, true, by omega, by go_num, by simp <;> omega, HS.out.symm, belN hbr _⟩
              case measure => simp [intOf]; omega
        · obtain rfl : j = n := by omega
          have hv2 : Hid (v = topB l[k].last.num l) := by have := hv.out; rw [List.take_of_length_le (by have := hl.out; omega)] at this; exact this
          clear hv
          cases v with
          | true =>
            have HL := Lib.hid (lastL_at hkl (fun r hr' => by have := List.all_eq_true.1 hv2.out.symm r hr'; simpa using this) (fun i hi h => hno.out i hi h))
            generalize l[k].last = u at *
            have hZr := hZ.below hbr hZ.lt
            clear hcs
            go_wp2_with (refine wpList_blk_store rfl (.tmp 2) (.tmp 39) rfl rfl rfl hZr (Try.viewI .zero) rfl (by simp [Value.oneCell']) ?_; intro w4 hA4 hK4 hsz4)
            refine bodyPost_ret (results_cell_row rfl _ _ w.heap.size 31 _ (0, 0) _ rfl hA4 Try.underlying31 rfl (Try.viewI u)) rfl ⟨by rw [HL.out]; rfl, ?_⟩
            have hb' := hbz.trans (hbr.mono hbz.size)
            exact Kp.below hb' hK4 (Nat.le_refl _) hb'.size
          | false =>
            have hN : Hid (∀ j (hj : j < k + 1) (h : j < l.length), ∃ r ∈ l, l[j].last.num < r.last.num) := fun i hi h => by
              by_cases e : i = k
              · subst e
                have : ¬ ∀ r ∈ l, r.last.num ≤ l[i].last.num := fun hall => by
                  have ht : topB l[i].last.num l = true := List.all_eq_true.2 fun r hr' => by simpa using hall r hr'
                  rw [← hv2.out] at ht; cases ht
                simp only [Classical.not_forall, Nat.not_le] at this
                obtain ⟨r, hr', hlt'⟩ := this
                exact ⟨r, hr', hlt'⟩
              · exact hno.out i (by omega) h
            clear hcs c0 c1 c2 c3 c4
            go_wp2
            go_roundw
            case rel => exact ⟨k + 1, by omega, by go_num, hN, hbr⟩
            case measure => simp [intOf]; omega
    · obtain rfl : k = n := by omega
      have hnil : l = [] := by
        cases l with
        | nil => rfl
        | cons x l =>
          exfalso
          obtain ⟨i, hi, _, h2, _⟩ := lastL_spec (l := x :: l) (by simp)
          obtain ⟨r, hr', hlt'⟩ := hno.out i (by have := hl.out; omega) hi
          have := h2 r hr'
          omega
      have HL := Lib.hid (show lastL l = .zero from by rw [hnil]; rfl)
      have hZr := hZ.below hbr hZ.lt
      go_wp2_with (refine wpList_blk_store rfl (.tmp 2) (.tmp 40) rfl rfl rfl hZr (Try.viewI .zero) rfl (by simp [Value.oneCell']) ?_; intro w4 hA4 hK4 hsz4)
      refine bodyPost_ret (results_cell_row rfl _ _ w.heap.size 31 _ (0, 0) _ rfl hA4 Try.underlying31 rfl (Try.viewI .zero)) rfl ⟨by rw [HL.out]; rfl, ?_⟩
      have hb' := hbz.trans (hbr.mono hbz.size)
      exact Kp.below hb' hK4 (Nat.le_refl _) hb'.size
set_option maxHeartbeats 1600000 in
set_option maxRecDepth 100000 in
theorem rnext_any (a : Option Addr) (n c : Nat) (l : List Rc) (hwf : ∀ r ∈ l, r.Wf) (w : World) (hr : RdR w a n c l) :
    Calls Try.prog 19 #[.slice a n c] w fun e w' => e = .returned (.int .u64 (nextL l)) ∧ Below w.heap.size w w' := by
  have hmx := hr.le_max
  unfold maxLen at hmx
  have hl := Lib.hid hr.len
  have hlM := Lib.hid (maxR_lt (z := 0) (by decide) hwf)
  have HN := Lib.hid (show nextL l = sumN (maxR 0 l) 1 from rfl)
  go_enter Try.func19, Try.ntmps19
  go_wp2
  go_loop [3, 4] (fun z i => ∃ (k v : Nat), k ≤ n ∧ i = .int .i64 k ∧ z = .int .u64 v ∧ Hid (v = maxR 0 (l.take k))) (fun _ i => n - (intOf i).toNat)
  case atStart => exact ⟨0, 0, Nat.zero_le _, rfl, rfl, rfl⟩
  case round =>
    obtain ⟨k, v, hk, rfl, rfl, hv⟩ := hrel
    by_cases hlt : k < n
    · have hkl : k < l.length := by rw [hl.out]; exact hlt
      obtain ⟨bs, off, rfl, _, hcs⟩ := hr.addr (by omega)
      obtain ⟨pa, pn, pc, ⟨c0, c1, c2, c3, c4⟩, hp⟩ := hcs k hkl
      clear hcs c1 c2 c3
      have hkI : (k : Int) < n := by omega
      have HZ := Lib.hid (show maxR 0 (l.take (k + 1)) = maxV (max v l[k].last.num) l[k].pend from by rw [List.take_succ_eq_append_getElem hkl, maxR_snoc, ← hv.out])
      generalize l[k] = r at *
      obtain ⟨u, pd⟩ := r
      simp only at c0 hp HZ
      have hpm := Rd.le_max hp
      unfold maxLen at hpm
      have hpl := Lib.hid hp.len
      rcases Nat.lt_or_ge v u.num with hm | hm
      all_goals
        go_wp2
        go_loop [3, 5] (fun z i => ∃ (j y : Nat), j ≤ pn ∧ i = .int .i64 j ∧ z = .int .u64 y ∧ Hid (y = maxV (max v u.num) (pd.take j))) (fun _ i => pn - (intOf i).toNat)
        case atStart => exact ⟨0, max v u.num, Nat.zero_le _, rfl, by rw [show max v u.num = _ from by first | exact Nat.max_eq_right (Nat.le_of_lt hm) | exact Nat.max_eq_left hm], rfl⟩
        case round =>
          obtain ⟨j, y, hj, rfl, rfl, hy⟩ := hrel
          by_cases hlt2 : j < pn
          · have hjl : j < pd.length := by rw [hpl.out]; exact hlt2
            obtain ⟨b2, off2, rfl, _⟩ := Rd.addr hp (by omega)
            obtain ⟨d0, d1, d2, d3⟩ := hp.at j hjl
            clear d1 d2 d3
            have hjI : (j : Int) < pn := by omega
            have HY := Lib.hid (show maxV (max v u.num) (pd.take (j + 1)) = max y pd[j].num from by rw [List.take_succ_eq_append_getElem hjl, maxV_snoc, ← hy.out])
            generalize pd[j] = x at *
            rcases Nat.lt_or_ge y x.num with hm2 | hm2
            · rw [show max y x.num = x.num from by omega] at HY
              go_wp2
              go_round
              case rel => exact ⟨j + 1, x.num, by omega, by go_num, rfl, HY.out.symm⟩
              case measure => simp [intOf]; omega
            · rw [show max y x.num = y from by omega] at HY
              go_wp2
              go_round
              case rel => exact ⟨j + 1, y, by omega, by go_num, rfl, HY.out.symm⟩
              case measure => simp [intOf]; omega
          · obtain rfl : j = pn := by omega
            have HZ2 := Lib.hid (HZ.out.trans (show maxV (max v u.num) pd = y from by rw [hy.out, List.take_of_length_le (by have := hpl.out; omega)]))
            go_wp2
            go_round
            case rel => exact ⟨k + 1, y, by omega, by go_num, rfl, HZ2.out.symm⟩
            case measure => simp [intOf]; omega
    · obtain rfl : k = n := by omega
      have HV : v = maxR 0 l := by rw [hv.out, List.take_of_length_le (by have := hl.out; omega)]
      have hb : v < 18446744073709551616 := by rw [HV]; exact hlM.out
      replace HV := Lib.hid HV
      by_cases he : v = 18446744073709551615
      · subst he
        go_wp2
        go_ret
        exact ⟨ret_int (by rw [HN.out, ← HV.out]; rfl), Below.refl _ _⟩
      · have heI : (v : Int) ≠ 18446744073709551615 := by omega
        have hw : IntKind.u64.wrap ((v : Int) + 1) = ((v + 1 : Nat) : Int) := by rw [IntKind.wrap_u64]; omega
        go_wp2
        go_ret
        exact ⟨ret_int (by rw [HN.out, ← HV.out, sumN, if_neg (by omega)]; omega), Below.refl _ _⟩
end Go.Proofs.Ytnpinkcadkkeoaa
