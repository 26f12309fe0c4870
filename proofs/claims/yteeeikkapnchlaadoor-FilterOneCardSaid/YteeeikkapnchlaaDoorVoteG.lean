/- walks of slices.Clone at views, of slices.DeleteFunc with Form's function -/
import Derived.Test.YteeeikkapnchlaaDoorVoteF
import Derived.Lib.SliceRun
import Derived.Lib.LazyBuf
namespace Go.Proofs.YteeeikkapnchlaaDoor
set_option linter.unusedSimpArgs false
set_option linter.unusedVariables false
open Go.RowKit Go.Sort

set_option maxHeartbeats 1600000 in
set_option maxRecDepth 100000 in
theorem clone_any (a : Option Addr) (n c : Nat) (l : List Vw) (hn : n ≤ 1000000) (w : World) (hr : RdV w a n c l) :
    Calls Tryd.prog 41 #[.slice a n c] w fun e w' => ∃ v, e = .returned v ∧ w'.ownsRow w.heap.size 35 4 v n (l.flatMap vwF) ∧ Below w.heap.size w w' := by
  have he := fun W => Lib.run_eql_slice_nil (P := Tryd.prog) W 36 35 a n c 0 0 Tryd.underlying36
  cases a with
  | none =>
    obtain ⟨rfl, rfl⟩ := hr.1.2.2.2 rfl
    obtain rfl := List.eq_nil_of_length_eq_zero hr.len
    go_enter Tryd.func41, Tryd.ntmps41
    go_wp2
    go_ret
    exact ⟨_, rfl, World.ownsRow_nil _ _ _ _, Below.refl _ _⟩
  | some ad =>
    have ho := World.ownsRow_made (base := w.heap.size) (e := 35) (size := 4) w #[] 0 (Nat.le_refl _) (Nat.zero_le _) rfl
    have hb : Below w.heap.size w (w.alloc (.cells #[] 35)) := (Below.refl _ _).alloc (Nat.le_refl _) _
    have hr2 := hr.below hb (Nat.le_refl _)
    have h1 : ∀ u ∈ l.flatMap vwF, u.oneCell' = true := by
      intro u hu
      obtain ⟨v, _, hv⟩ := List.mem_flatMap.1 hu
      simp [vwF] at hv
      rcases hv with rfl | rfl | rfl | rfl <;> rfl
    go_enter Tryd.func41, Tryd.ntmps41
    go_wp2_with (at_builtin; refine wpList_append_rd Tryd.viewE rfl (.tmp 5) (.tmp 6) rfl ho rfl hr2 rfl h1 (by unfold maxLen; omega) (by omega) (by simp) ?_; intro v' w' hown' hg')
    go_ret
    exact ⟨_, rfl, by simpa using hown', hb.grown hg' (by simp) (fun g hg => (ho.lt g hg).1)⟩
set_option maxHeartbeats 800000 in
set_option maxRecDepth 100000 in
theorem indexF_form (u : Vw) (cb : Nat) (a : Option Addr) (n c : Nat) (l : List Vw) (w : World) (hr : RdV w a n c l) (hB : BlkAt w cb 35 #[.int .u64 u.num, .int .u64 u.ce, .int .i64 u.cr, .int .u64 u.mem]) :
    Calls Tryd.prog 48 #[.slice a n c, .func (Fn.func 45) #[] #[.pointer (some ⟨cb, 0, none⟩)]] w fun e w' => e = .returned (.int .i64 (idxQ l fun v => decide (v.num ≤ u.num))) ∧ Below w.heap.size w w' := by
  have hmx := Rd.le_max hr
  unfold maxLen at hmx
  have hl := Lib.hid hr.len
  go_enter Tryd.func48, Tryd.ntmps48
  go_wp2
  go_loopw [5, 8] (fun _ i wr => ∃ k : Nat, k ≤ n ∧ i = .int .i64 k ∧ Hid (∀ i (_ : i < k) (hi : i < l.length), decide (l[i].num ≤ u.num) = false) ∧ Below w.heap.size w wr) (fun _ i _ => n - (intOf i).toNat)
  case atStart => exact ⟨0, Nat.zero_le _, rfl, (fun i h => by omega), Below.refl _ _⟩
  case round =>
    obtain ⟨k, hk, rfl, hno, hbr⟩ := hrel
    by_cases hlt : k < n
    · have hkl : k < l.length := by rw [hl.out]; exact hlt
      obtain ⟨bs, off, rfl, _⟩ := Rd.addr hr (by omega)
      obtain ⟨c0, c1, c2, c3⟩ := (hr.below hbr (Nat.le_refl _)).at k hkl
      have hBr := hB.below hbr hB.lt
      have HD := Lib.hid (fun W h => form_del u l[k] cb W h)
      have hkI : (k : Int) < n := by omega
      cases he : decide (l[k].num ≤ u.num) with
      | true =>
        have HF := Lib.hid (show idxQ l (fun v => decide (v.num ≤ u.num)) = k from by unfold idxQ; rw [findIdx?_at hkl (fun i hi => hno.out i hi (by omega)) he])
        rw [he] at HD
        generalize l[k] = z at *
        clear he
        go_wp2_with fail
        refine (HD.out _ hBr).mono ?_
        rintro e w' ⟨rfl, hbb⟩
        go_wp2
        go_ret
        exact ⟨ret_int (by rw [HF.out]), belS hbr hbb⟩
      | false =>
        have HN : Hid (∀ i (_ : i < k + 1) (hi : i < l.length), decide (l[i].num ≤ u.num) = false) := fun i hi h => by
          by_cases e : i = k
          · subst e; exact he
          · exact hno.out i (by omega) h
        rw [he] at HD
        generalize l[k] = z at *
        clear he
        go_wp2_with fail
        refine (HD.out _ hBr).mono ?_
        rintro e w' ⟨rfl, hbb⟩
        go_wp2
        go_roundw
        case rel => exact ⟨k + 1, by omega, by go_num, HN, belS hbr hbb⟩
        case measure => simp [intOf]; omega
    · obtain rfl : k = n := by omega
      have HF := Lib.hid (show idxQ l (fun v => decide (v.num ≤ u.num)) = -1 from by unfold idxQ; rw [findIdx?_no (fun i hi => hno.out i (by have := hl.out; omega) hi)])
      go_wp2
      go_ret
      exact ⟨ret_int (by rw [HF.out]), hbr⟩
end Go.Proofs.YteeeikkapnchlaaDoor
