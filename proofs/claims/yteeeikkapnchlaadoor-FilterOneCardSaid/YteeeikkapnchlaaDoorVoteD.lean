/- walks of Next, Pending, May -/
import Derived.Test.YteeeikkapnchlaaDoorVoteC
namespace Go.Proofs.YteeeikkapnchlaaDoor
set_option linter.unusedSimpArgs false
set_option linter.unusedVariables false
open Go.RowKit Go.Sort

def sumN (a b : Nat) : Nat := if 18446744073709551615 - a < b then 18446744073709551615 else a + b
set_option maxHeartbeats 400000 in
theorem sum1_any (a : Nat) (ha : a < 18446744073709551616) (w : World) : Calls Tryd.prog 23 #[.int .u64 a, .int .u64 1] w fun e w' => e = .returned (.int .u64 (sumN a 1)) ∧ w = w' := by
  by_cases h : (18446744073709551615 : Int) - a < 1
  · have HS := Lib.hid (show sumN a 1 = 18446744073709551615 from by unfold sumN; rw [if_pos (by omega)])
    go_enter Tryd.func23, Tryd.ntmps23
    go_wp2
    go_ret
    exact ⟨ret_int (by rw [HS.out]; rfl), rfl⟩
  · have HS := Lib.hid (show sumN a 1 = a + 1 from by unfold sumN; rw [if_neg (by omega)])
    go_enter Tryd.func23, Tryd.ntmps23
    go_wp2
    go_ret
    exact ⟨ret_int (by rw [HS.out]; omega), rfl⟩
def maxV (z : Nat) (l : List Vw) : Nat := l.foldl (fun n v => max n v.num) z
def maxR (z : Nat) (l : List Rc) : Nat := l.foldl (fun n r => maxV (max n r.last.num) r.pend) z
def nextL (l : List Rc) : Nat := sumN (maxR 0 l) 1
theorem maxV_snoc (z : Nat) (l : List Vw) (v : Vw) : maxV z (l ++ [v]) = max (maxV z l) v.num := by rw [maxV, List.foldl_append]; rfl
theorem maxR_snoc (z : Nat) (l : List Rc) (r : Rc) : maxR z (l ++ [r]) = maxV (max (maxR z l) r.last.num) r.pend := by rw [maxR, List.foldl_append]; rfl
theorem max_if (a b : Nat) : (if (a : Int) < (b : Int) then (b : Int) else (a : Int)) = ((max a b : Nat) : Int) := by split <;> omega
/-- All numbers are numbers of 64 bits. -/
def Vw.Wf (v : Vw) : Prop := v.num < 18446744073709551616 ∧ v.mem < 18446744073709551616
def Rc.Wf (r : Rc) : Prop := r.last.Wf ∧ ∀ v ∈ r.pend, v.Wf
theorem maxV_lt {l : List Vw} : ∀ {z : Nat}, z < 18446744073709551616 → (∀ v ∈ l, v.Wf) → maxV z l < 18446744073709551616 := by
  induction l with
  | nil => intro z h _; exact h
  | cons v l ih =>
    intro z h hv
    refine ih ?_ (fun u hu => hv u (List.mem_cons_of_mem _ hu))
    have := (hv v (List.mem_cons_self ..)).1
    show max z v.num < _
    omega
theorem maxR_lt {l : List Rc} : ∀ {z : Nat}, z < 18446744073709551616 → (∀ r ∈ l, r.Wf) → maxR z l < 18446744073709551616 := by
  induction l with
  | nil => intro z h _; exact h
  | cons r l ih =>
    intro z h hr
    refine ih (maxV_lt ?_ (hr r (List.mem_cons_self ..)).2) (fun u hu => hr u (List.mem_cons_of_mem _ hu))
    have := (hr r (List.mem_cons_self ..)).1.1
    omega
set_option maxHeartbeats 1600000 in
set_option maxRecDepth 100000 in
theorem next_any (a : Option Addr) (n c : Nat) (l : List Rc) (hwf : ∀ r ∈ l, r.Wf) (w : World) (hr : RdR w a n c l) :
    Calls Tryd.prog 7 #[.slice a n c] w fun e w' => e = .returned (.int .u64 (nextL l)) ∧ Below w.heap.size w w' := by
  have hmx := hr.le_max
  unfold maxLen at hmx
  have hl := Lib.hid hr.len
  have HS := Lib.hid (fun W => sum1_any (maxR 0 l) (maxR_lt (by decide) hwf) W)
  have HN := Lib.hid (show nextL l = sumN (maxR 0 l) 1 from rfl)
  go_enter Tryd.func7, Tryd.ntmps7
  go_wp2
  go_loopw [3, 5, 7, 10] (fun z _ _ i wr => ∃ (k v : Nat), k ≤ n ∧ i = .int .i64 k ∧ z = .int .u64 v ∧ Hid (v = maxR 0 (l.take k)) ∧ Below w.heap.size w wr) (fun _ _ _ i _ => n - (intOf i).toNat)
  case atStart => exact ⟨0, 0, Nat.zero_le _, rfl, rfl, rfl, Below.refl _ _⟩
  case round =>
    obtain ⟨k, v, hk, rfl, rfl, hv, hbr⟩ := hrel
    by_cases hlt : k < n
    · have hkl : k < l.length := by rw [hl.out]; exact hlt
      obtain ⟨bs, off, rfl, _, hcs⟩ := (hr.below hbr).addr (by omega)
      obtain ⟨pa, pn, pc, ⟨c0, c1, c2, c3, c4⟩, hp⟩ := hcs k hkl
      clear hcs
      have hkI : (k : Int) < n := by omega
      have HZ := Lib.hid (show maxR 0 (l.take (k + 1)) = maxV (max v l[k].last.num) l[k].pend from by rw [List.take_succ_eq_append_getElem hkl, maxR_snoc, ← hv.out])
      generalize l[k] = r at *
      obtain ⟨u, pd⟩ := r
      simp only at c0 c1 c2 c3 hp HZ
      rcases Nat.lt_or_ge v u.num with hm | hm
      · have HZ1 := HZ
        rw [show max v u.num = u.num from by omega] at HZ1
        clear HZ
        have hpm := Rd.le_max hp
        unfold maxLen at hpm
        have hpl := Lib.hid hp.len
        have hbb := hbr.alloc hbr.size (.cells #[.int .u64 u.num, .int .u64 u.ce, .int .i64 u.cr, .int .u64 u.mem, .slice pa pn pc] 38)
        have hp1 := hp.below ((Below.refl _ _).alloc (Nat.le_refl _) (.cells #[.int .u64 u.num, .int .u64 u.ce, .int .i64 u.cr, .int .u64 u.mem, .slice pa pn pc] 38)) (Nat.le_refl _)
        go_wp2
        clear c0 c1 c2 c3 c4 hbr hp
        generalize wr.alloc _ = w1 at *
        go_loopw [3, 7, 22] (fun z _ i wr => ∃ (j y : Nat), j ≤ pn ∧ i = .int .i64 j ∧ z = .int .u64 y ∧ Hid (y = maxV u.num (pd.take j)) ∧ Below w1.heap.size w1 wr) (fun _ _ i _ => pn - (intOf i).toNat)
        case atStart => exact ⟨0, u.num, Nat.zero_le _, rfl, rfl, rfl, Below.refl _ _⟩
        case round =>
          obtain ⟨j, y, hj, rfl, rfl, hy, hbr2⟩ := hrel
          by_cases hlt2 : j < pn
          · have hjl : j < pd.length := by rw [hpl.out]; exact hlt2
            obtain ⟨b2, off2, rfl, _⟩ := Rd.addr hp1 (by omega)
            obtain ⟨d0, d1, d2, d3⟩ := (hp1.below hbr2 (Nat.le_refl _)).at j hjl
            have hjI : (j : Int) < pn := by omega
            have HY := Lib.hid (show maxV u.num (pd.take (j + 1)) = max y pd[j].num from by rw [List.take_succ_eq_append_getElem hjl, maxV_snoc, ← hy.out])
            generalize pd[j] = x at *
            rcases Nat.lt_or_ge y x.num with hm | hm
            · rw [show max y x.num = x.num from by omega] at HY
              go_wp2
              go_roundw
              case rel => exact ⟨j + 1, x.num, by omega, by go_num, rfl, HY.out.symm, hbr2.alloc hbr2.size _⟩
              case measure => simp [intOf]; omega
            · rw [show max y x.num = y from by omega] at HY
              go_wp2
              go_roundw
              case rel => exact ⟨j + 1, y, by omega, by go_num, rfl, HY.out.symm, hbr2.alloc hbr2.size _⟩
              case measure => simp [intOf]; omega
          · obtain rfl : j = pn := by omega
            have HZ2 := Lib.hid (HZ1.out.trans (show maxV u.num pd = y from by rw [hy.out, List.take_of_length_le (by have := hpl.out; omega)]))
            go_wp2
            go_roundw
            case rel => exact ⟨k + 1, y, by omega, by go_num, rfl, HZ2.out.symm, hbb.trans (hbr2.mono hbb.size)⟩
            case measure => simp [intOf]; omega
      · have HZ1 := HZ
        rw [show max v u.num = v from by omega] at HZ1
        clear HZ
        have hpm := Rd.le_max hp
        unfold maxLen at hpm
        have hpl := Lib.hid hp.len
        have hbb := hbr.alloc hbr.size (.cells #[.int .u64 u.num, .int .u64 u.ce, .int .i64 u.cr, .int .u64 u.mem, .slice pa pn pc] 38)
        have hp1 := hp.below ((Below.refl _ _).alloc (Nat.le_refl _) (.cells #[.int .u64 u.num, .int .u64 u.ce, .int .i64 u.cr, .int .u64 u.mem, .slice pa pn pc] 38)) (Nat.le_refl _)
        go_wp2
        clear c0 c1 c2 c3 c4 hbr hp
        generalize wr.alloc _ = w1 at *
        go_loopw [3, 7, 22] (fun z _ i wr => ∃ (j y : Nat), j ≤ pn ∧ i = .int .i64 j ∧ z = .int .u64 y ∧ Hid (y = maxV v (pd.take j)) ∧ Below w1.heap.size w1 wr) (fun _ _ i _ => pn - (intOf i).toNat)
        case atStart => exact ⟨0, v, Nat.zero_le _, rfl, rfl, rfl, Below.refl _ _⟩
        case round =>
          obtain ⟨j, y, hj, rfl, rfl, hy, hbr2⟩ := hrel
          by_cases hlt2 : j < pn
          · have hjl : j < pd.length := by rw [hpl.out]; exact hlt2
            obtain ⟨b2, off2, rfl, _⟩ := Rd.addr hp1 (by omega)
            obtain ⟨d0, d1, d2, d3⟩ := (hp1.below hbr2 (Nat.le_refl _)).at j hjl
            have hjI : (j : Int) < pn := by omega
            have HY := Lib.hid (show maxV v (pd.take (j + 1)) = max y pd[j].num from by rw [List.take_succ_eq_append_getElem hjl, maxV_snoc, ← hy.out])
            generalize pd[j] = x at *
            rcases Nat.lt_or_ge y x.num with hm | hm
            · rw [show max y x.num = x.num from by omega] at HY
              go_wp2
              go_roundw
              case rel => exact ⟨j + 1, x.num, by omega, by go_num, rfl, HY.out.symm, hbr2.alloc hbr2.size _⟩
              case measure => simp [intOf]; omega
            · rw [show max y x.num = y from by omega] at HY
              go_wp2
              go_roundw
              case rel => exact ⟨j + 1, y, by omega, by go_num, rfl, HY.out.symm, hbr2.alloc hbr2.size _⟩
              case measure => simp [intOf]; omega
          · obtain rfl : j = pn := by omega
            have HZ2 := Lib.hid (HZ1.out.trans (show maxV v pd = y from by rw [hy.out, List.take_of_length_le (by have := hpl.out; omega)]))
            go_wp2
            go_roundw
            case rel => exact ⟨k + 1, y, by omega, by go_num, rfl, HZ2.out.symm, hbb.trans (hbr2.mono hbb.size)⟩
            case measure => simp [intOf]; omega
    · obtain rfl : k = n := by omega
      have HV : Hid (v = maxR 0 l) := by rw [hv.out, List.take_of_length_le (by have := hl.out; omega)]; exact rfl
      rw [← HV.out] at HS
      go_wp2_with fail
      refine (HS.out _).mono ?_
      rintro e w' ⟨rfl, rfl⟩
      go_wp2
      go_ret
      exact ⟨ret_int (by rw [HN.out, HV.out]), hbr⟩
end Go.Proofs.YteeeikkapnchlaaDoor
