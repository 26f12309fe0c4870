/- walks of slices.ContainsFunc, IndexFunc with May's and Form's functions -/
import Derived.Test.YteeeikkapnchlaaDoorVoteA
namespace Go.Proofs.YteeeikkapnchlaaDoor
set_option linter.unusedSimpArgs false
set_option linter.unusedVariables false
open Go.RowKit Go.Sort

set_option maxHeartbeats 800000 in
set_option maxRecDepth 100000 in
theorem may_del (x : Nat) (hx : x < 18446744073709551616) (v : Vw) (hv : v.mem < 18446744073709551616) (cb : Nat) (w : World) (h : BlkAt w cb 27 #[.int .u64 x]) :
    Calls Tryd.prog 36 #[.agg #[.int .u64 v.num, .int .u64 v.ce, .int .i64 v.cr, .int .u64 v.mem], .pointer (some ⟨cb, 0, none⟩)] w fun e w' => e = .returned (.bool (!mostB x v.mem)) ∧ Below w.heap.size w w' := by
  have hb1 : Below w.heap.size w (w.alloc (.cells #[.int .u64 v.num, .int .u64 v.ce, .int .i64 v.cr, .int .u64 v.mem] 35)) := (Below.refl _ _).alloc (Nat.le_refl _) _
  have c0 : (w.alloc (.cells #[.int .u64 v.num, .int .u64 v.ce, .int .i64 v.cr, .int .u64 v.mem] 35)).cell? ⟨cb, 0, none⟩ = some (.int .u64 x) := (h.below hb1 h.lt).cell rfl
  have HM := Lib.hid (fun W => most_any x v.mem hx hv W)
  go_enter Tryd.func36, Tryd.ntmps36
  go_wp2_with fail
  refine (HM.out _).mono ?_
  rintro e w' ⟨rfl, rfl⟩
  go_wp2
  go_ret
  exact ⟨rfl, hb1⟩
set_option maxHeartbeats 800000 in
set_option maxRecDepth 100000 in
theorem form_del (u v : Vw) (cb : Nat) (w : World) (h : BlkAt w cb 35 #[.int .u64 u.num, .int .u64 u.ce, .int .i64 u.cr, .int .u64 u.mem]) :
    Calls Tryd.prog 45 #[.agg #[.int .u64 v.num, .int .u64 v.ce, .int .i64 v.cr, .int .u64 v.mem], .pointer (some ⟨cb, 0, none⟩)] w fun e w' => e = .returned (.bool (decide (v.num ≤ u.num))) ∧ Below w.heap.size w w' := by
  have hb1 : Below w.heap.size w (w.alloc (.cells #[.int .u64 v.num, .int .u64 v.ce, .int .i64 v.cr, .int .u64 v.mem] 35)) := (Below.refl _ _).alloc (Nat.le_refl _) _
  have c0 : (w.alloc (.cells #[.int .u64 v.num, .int .u64 v.ce, .int .i64 v.cr, .int .u64 v.mem] 35)).cell? ⟨cb, 0, none⟩ = some (.int .u64 u.num) := (h.below hb1 h.lt).cell rfl
  go_enter Tryd.func45, Tryd.ntmps45
  go_wp2
  go_ret
  exact ⟨ret_bool (by simp), hb1⟩
/-- The first that is so; -1. -/
def idxQ (l : List Vw) (q : Vw → Bool) : Int := match l.findIdx? q with | some i => i | none => -1
theorem idxQ_nonneg (l : List Vw) (q : Vw → Bool) : decide (0 ≤ idxQ l q) = l.any q := by
  unfold idxQ
  cases h : l.findIdx? q with
  | some i =>
    obtain ⟨hi, h1, _⟩ := List.findIdx?_eq_some_iff_getElem.1 h
    have : l.any q = true := List.any_eq_true.2 ⟨_, List.getElem_mem hi, h1⟩
    rw [this]; simp
  | none =>
    have := List.findIdx?_eq_none_iff.1 h
    have e : l.any q = false := by
      rw [Bool.eq_false_iff]; intro h2
      obtain ⟨x, hx, h3⟩ := List.any_eq_true.1 h2
      rw [this x hx] at h3; cases h3
    rw [e]; simp
set_option maxHeartbeats 800000 in
set_option maxRecDepth 100000 in
theorem indexF_may (x : Nat) (hx : x < 18446744073709551616) (cb : Nat) (a : Option Addr) (n c : Nat) (l : List Vw) (hm : ∀ v ∈ l, v.mem < 18446744073709551616) (w : World) (hr : RdV w a n c l) (hB : BlkAt w cb 27 #[.int .u64 x]) :
    Calls Tryd.prog 48 #[.slice a n c, .func (Fn.func 36) #[] #[.pointer (some ⟨cb, 0, none⟩)]] w fun e w' => e = .returned (.int .i64 (idxQ l fun v => !mostB x v.mem)) ∧ Below w.heap.size w w' := by
  have hmx := Rd.le_max hr
  unfold maxLen at hmx
  have hl := Lib.hid hr.len
  go_enter Tryd.func48, Tryd.ntmps48
  go_wp2
  go_loopw [5, 8] (fun _ i wr => ∃ k : Nat, k ≤ n ∧ i = .int .i64 k ∧ Hid (∀ i (_ : i < k) (hi : i < l.length), (!mostB x l[i].mem) = false) ∧ Below w.heap.size w wr) (fun _ i _ => n - (intOf i).toNat)
  case atStart => exact ⟨0, Nat.zero_le _, rfl, (fun i h => by omega), Below.refl _ _⟩
  case round =>
    obtain ⟨k, hk, rfl, hno, hbr⟩ := hrel
    by_cases hlt : k < n
    · have hkl : k < l.length := by rw [hl.out]; exact hlt
      obtain ⟨bs, off, rfl, _⟩ := Rd.addr hr (by omega)
      obtain ⟨c0, c1, c2, c3⟩ := (hr.below hbr (Nat.le_refl _)).at k hkl
      have hBr := hB.below hbr hB.lt
      have HD := Lib.hid (fun W h => may_del x hx l[k] (hm _ (List.getElem_mem hkl)) cb W h)
      have hkI : (k : Int) < n := by omega
      cases he : (!mostB x l[k].mem) with
      | true =>
        have HF := Lib.hid (show idxQ l (fun v => !mostB x v.mem) = k from by unfold idxQ; rw [findIdx?_at hkl (fun i hi => hno.out i hi (by omega)) he])
        rw [he] at HD
        generalize l[k] = u at *
        clear he
        go_wp2_with fail
        refine (HD.out _ hBr).mono ?_
        rintro e w' ⟨rfl, hbb⟩
        go_wp2
        go_ret
        exact ⟨ret_int (by rw [HF.out]), belS hbr hbb⟩
      | false =>
        have HN : Hid (∀ i (_ : i < k + 1) (hi : i < l.length), (!mostB x l[i].mem) = false) := fun i hi h => by
          by_cases e : i = k
          · subst e; exact he
          · exact hno.out i (by omega) h
        rw [he] at HD
        generalize l[k] = u at *
        clear he
        go_wp2_with fail
        refine (HD.out _ hBr).mono ?_
        rintro e w' ⟨rfl, hbb⟩
        go_wp2
        go_roundw
        case rel => exact ⟨k + 1, by omega, by go_num, HN, belS hbr hbb⟩
        case measure => simp [intOf]; omega
    · obtain rfl : k = n := by omega
      have HF := Lib.hid (show idxQ l (fun v => !mostB x v.mem) = -1 from by unfold idxQ; rw [findIdx?_no (fun i hi => hno.out i (by have := hl.out; omega) hi)])
      go_wp2
      go_ret
      exact ⟨ret_int (by rw [HF.out]), hbr⟩
set_option maxHeartbeats 800000 in
set_option maxRecDepth 100000 in
theorem containsF_may (x : Nat) (hx : x < 18446744073709551616) (cb : Nat) (a : Option Addr) (n c : Nat) (l : List Vw) (hm : ∀ v ∈ l, v.mem < 18446744073709551616) (w : World) (hr : RdV w a n c l) (hB : BlkAt w cb 27 #[.int .u64 x]) :
    Calls Tryd.prog 34 #[.slice a n c, .func (Fn.func 36) #[] #[.pointer (some ⟨cb, 0, none⟩)]] w fun e w' => e = .returned (.bool (l.any fun v => !mostB x v.mem)) ∧ Below w.heap.size w w' := by
  have HI := Lib.hid (indexF_may x hx cb a n c l hm w hr hB)
  have HN := Lib.hid (idxQ_nonneg l fun v => !mostB x v.mem)
  generalize idxQ l (fun v => !mostB x v.mem) = z at *
  go_enter Tryd.func34, Tryd.ntmps34
  go_wp2_with fail
  refine HI.out.mono ?_
  rintro e w' ⟨rfl, hb⟩
  go_wp2
  go_ret
  exact ⟨ret_bool HN.out, hb⟩
set_option maxHeartbeats 800000 in
set_option maxRecDepth 100000 in
theorem contains_any (a : Option Addr) (n c : Nat) (l : List Vw) (v : Vw) (w : World) (hr : RdV w a n c l) :
    Calls Tryd.prog 49 #[.slice a n c, .agg #[.int .u64 v.num, .int .u64 v.ce, .int .i64 v.cr, .int .u64 v.mem]] w fun e w' => e = .returned (.bool (l.any (veq v))) ∧ Below w.heap.size w w' := by
  have hb1 : Below w.heap.size w (w.alloc (.cells #[.int .u64 v.num, .int .u64 v.ce, .int .i64 v.cr, .int .u64 v.mem] 35)) := (Below.refl _ _).alloc (Nat.le_refl _) _
  have HI := Lib.hid (index_any a n c l v _ (hr.below hb1 (Nat.le_refl _)))
  have HN := Lib.hid (idxV_nonneg l v)
  generalize idxV l v = z at *
  go_enter Tryd.func49, Tryd.ntmps49
  go_wp2_with fail
  refine HI.out.mono ?_
  rintro e w' ⟨rfl, hb⟩
  go_wp2
  go_ret
  exact ⟨ret_bool HN.out, belS hb1 hb⟩
end Go.Proofs.YteeeikkapnchlaaDoor
