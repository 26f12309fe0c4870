/- walks of May, First -/
import Derived.Test.YteeeikkapnchlaaDoorVoteE
namespace Go.Proofs.YteeeikkapnchlaaDoor
set_option linter.unusedSimpArgs false
set_option linter.unusedVariables false
open Go.RowKit Go.Sort

theorem lastF_wf {l : List Rc} (h : ∀ r ∈ l, r.Wf) : ∀ {b : Vw}, b.Wf → (l.foldl (fun b r => if b.num < r.last.num then r.last else b) b).Wf := by
  induction l with
  | nil => intro b hb; exact hb
  | cons r l ih =>
    intro b hb
    refine ih (fun u hu => h u (List.mem_cons_of_mem _ hu)) ?_
    dsimp only
    split
    · exact (h r (List.mem_cons_self ..)).1
    · exact hb
theorem lastL_wf {l : List Rc} (h : ∀ r ∈ l, r.Wf) : (lastL l).Wf := by
  cases l with
  | nil => exact ⟨by decide, by decide⟩
  | cons r l => exact lastF_wf (fun u hu => h u (List.mem_cons_of_mem _ hu)) (h r (List.mem_cons_self ..)).1
theorem pendV_wf {m : Nat} {pd : List Vw} (h : ∀ v ∈ pd, v.Wf) : ∀ {o : List Vw}, (∀ v ∈ o, v.Wf) → ∀ v ∈ pendV m o pd, v.Wf := by
  induction pd with
  | nil => intro o ho; exact ho
  | cons x pd ih =>
    intro o ho
    refine ih (fun u hu => h u (List.mem_cons_of_mem _ hu)) ?_
    dsimp only
    split
    · intro v hv
      rcases List.mem_append.1 hv with hv | hv
      · exact ho v hv
      · rw [List.mem_singleton.1 hv]; exact h x (List.mem_cons_self ..)
    · exact ho
theorem pendR_wf {m : Nat} {l : List Rc} (h : ∀ r ∈ l, r.Wf) : ∀ {o : List Vw}, (∀ v ∈ o, v.Wf) → ∀ v ∈ pendR m o l, v.Wf := by
  induction l with
  | nil => intro o ho; exact ho
  | cons r l ih =>
    intro o ho
    exact ih (fun u hu => h u (List.mem_cons_of_mem _ hu)) (pendV_wf (h r (List.mem_cons_self ..)).2 ho)
theorem pendL_wf {l : List Rc} (h : ∀ r ∈ l, r.Wf) : ∀ v ∈ pendL l, v.Wf := pendR_wf h (fun v hv => by cases hv)
/-- May a set be the next view? -/
def mayB (x : Nat) (l : List Rc) : Bool := !l.isEmpty && (mostB x (lastL l).mem && !(pendL l).any fun v => !mostB x v.mem)
set_option maxHeartbeats 1600000 in
set_option maxRecDepth 100000 in
theorem may_any (x : Nat) (hx : x < 18446744073709551616) (a : Option Addr) (n c : Nat) (l : List Rc) (hwf : ∀ r ∈ l, r.Wf) (ht : tot l ≤ 1000000) (w : World) (hr : RdR w a n c l) :
    Calls Tryd.prog 13 #[.int .u64 x, .slice a n c] w fun e w' => e = .returned (.bool (mayB x l)) ∧ Below w.heap.size w w' := by
  have hmx := hr.le_max
  unfold maxLen at hmx
  have hln := hr.len
  have hb1 : Below w.heap.size w (w.alloc (.cells #[.int .u64 x] 27)) := (Below.refl _ _).alloc (Nat.le_refl _) _
  have hB := BlkAt.new w 27 #[.int .u64 x]
  have hr1 := hr.below hb1
  have HM := Lib.hid (show mayB x l = (!l.isEmpty && (mostB x (lastL l).mem && !(pendL l).any fun v => !mostB x v.mem)) from rfl)
  by_cases h0 : n = 0
  · obtain rfl := List.eq_nil_of_length_eq_zero (hln.trans h0)
    subst h0
    go_enter Tryd.func13, Tryd.ntmps13
    go_wp2
    go_quiet (fail)
    go_wp2
    go_ret
    exact ⟨ret_bool (by rw [HM.out]; rfl), belN hb1 _⟩
  · have hne : l.isEmpty = false := by cases l with | nil => exact absurd hln.symm h0 | cons _ _ => rfl
    rw [hne] at HM
    have hnB : ((n : Int) == 0) = false := by simpa using h0
    have hlw := (lastL_wf hwf).2
    have HL := fun W (k : RdR W a n c l) => last_any a n c l W k
    have HMo := fun W => most_any x (lastL l).mem hx hlw W
    have HPe := Lib.hid (fun W (k : RdR W a n c l) => pending_any a n c l ht W k)
    have hpw := Lib.hid (pendL_wf hwf)
    have HC := Lib.hid (fun (a : Option Addr) (c : Nat) W (k : RdV W a (pendL l).length c (pendL l)) (k2 : BlkAt W w.heap.size 27 #[.int .u64 x]) => containsF_may x hx w.heap.size a (pendL l).length c (pendL l) (fun v hv => (hpw.out v hv).2) W k k2)
    clear hne hln hlw hb1
    generalize lastL l = la at *
    generalize pendL l = pl at *
    generalize hmo : mostB x la.mem = mo at *
    have HMO := Lib.hid hmo
    clear hmo
    have hbw : Below w.heap.size w (w.alloc (.cells #[.int .u64 x] 27)) := (Below.refl _ _).alloc (Nat.le_refl _) _
    unfold vwA at HL
    go_enter Tryd.func13, Tryd.ntmps13
    go_wp2
    generalize w.alloc _ = w1 at *
    have k0 := cell_regrown (hB.cell (i := 0) rfl)
    have kL := fun d os => Calls.regrown_of (HL _ (hr1.below (below_regrown w1 d os)))
    have kM := fun d os => Calls.regrown_of (w := w1) (d := d) (os := os) ((HMo (grow (redrawn w1 d) os)).mono fun _ _ ⟨he, hw⟩ => ⟨he, by subst hw; exact Below.refl _ _⟩)
    refine wp_region_quiet_below (by kernel_rfl) (by kernel_rfl) ?_
    iterate 7 go_big_quiet_step (first | (with_reducible exact kL _ _) | (with_reducible exact kM _ _))
    refine wpQuiet_run (by rfl) (.int .u64 la.mem) (fun W => by simp [execOp, go_sem, Instr.field, part, isAgg, asAgg]) ?_
    simp only [Act.put, List.setIfInBounds_toArray, List.set_cons_zero, List.set_cons_succ]
    iterate 3 go_big_quiet_step (first | (with_reducible exact kL _ _) | (with_reducible exact kM _ _))
    refine wpQuiet_nil ?_
    intro w4 hw'
    obtain ⟨⟨dq, osq⟩, hw''⟩ := hw'
    subst hw''
    have hbb := below_regrown w1 dq osq
    have hr4 := hr1.below hbb
    have hB4 := hB.below hbb hB.lt
    have hb4 := hbw.trans (hbb.mono hbw.size)
    clear kL kM k0 hbb hB hr1 HL HMo
    generalize grow (redrawn w1 dq) osq = w4 at *
    cases mo with
    | false =>
      go_wp2
      go_ret
      exact ⟨ret_bool (by rw [HM.out]; rfl), hb4⟩
    | true =>
      go_wp2_with fail
      refine (HPe.out _ hr4).mono ?_
      rintro e w5 ⟨v, rfl, hown, hb5⟩
      obtain ⟨pa, pc, rfl, hrp⟩ := Rd.own hown
      have hB5 := hB4.below hb5 hB4.lt
      go_wp2_with fail
      refine (HC.out pa pc _ hrp hB5).mono ?_
      rintro e w6 ⟨rfl, hb6⟩
      go_wp2
      go_ret
      exact ⟨ret_bool (by rw [HM.out]; rfl), belS (hb4.trans (hb5.mono hb4.size)) hb6⟩
end Go.Proofs.YteeeikkapnchlaaDoor
