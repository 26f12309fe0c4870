/- filter: the reference's Same of any two records; plain laws of FilterLive -/
import Derived.Test.YteeeikkapnchlaaDoorFilM
namespace Go.Proofs.YteeeikkapnchlaaDoor
set_option linter.unusedSimpArgs false
set_option linter.unusedVariables false
open Go.RowKit Go.Sort
def vsB : List Vw → List Vw → Bool
  | [], [] => true
  | v :: l, u :: m => veq v u && vsB l m
  | _, _ => false
theorem vsB_self : ∀ l, vsB l l = true
  | [] => rfl
  | v :: l => by rw [vsB, veq_eq.2 rfl, vsB_self l]; rfl
theorem vsB_len : ∀ {l m : List Vw}, l.length ≠ m.length → vsB l m = false
  | [], [], h => absurd rfl h
  | [], _ :: _, _ => rfl
  | _ :: _, [], _ => rfl
  | v :: l, u :: m, h => by rw [vsB, vsB_len (fun e => h (by rw [List.length_cons, List.length_cons, e])), Bool.and_false]
set_option maxHeartbeats 1600000 in
set_option maxRecDepth 100000 in
theorem viewsB_any (a a' : Option Addr) (n n' c c' : Nat) (l m : List Vw) (t : Bool) (ht : t = vsB l m) (w : World) (hr : RdV w a n c l) (hr' : RdV w a' n' c' m) :
    Calls Tryd.prog 39 #[.slice a n c, .slice a' n' c'] w fun e w' => e = .returned (.bool t) ∧ Below w.heap.size w w' := by
  have hl := Lib.hid hr.len
  have hl' := Lib.hid hr'.len
  have hmx := Rd.le_max hr
  unfold maxLen at hmx
  have hmx' := Rd.le_max hr'
  unfold maxLen at hmx'
  replace ht := Lib.hid ht
  by_cases hn : n = n'
  · subst hn
    have hnn : ((n : Int) != (n : Int)) = false := by simp
    go_enter Tryd.func39, Tryd.ntmps39
    go_wp2
    go_loopw [5] (fun i wr => ∃ k : Nat, k ≤ n ∧ i = .int .i64 k ∧ Hid (t = vsB (l.drop k) (m.drop k)) ∧ Below w.heap.size w wr) (fun i _ => n - (intOf i).toNat)
    case atStart => exact ⟨0, Nat.zero_le _, rfl, Lib.hid ht.out, Below.refl _ _⟩
    case round =>
      obtain ⟨k, hk, rfl, hv, hbr⟩ := hrel
      by_cases hlt : k < n
      · have hkl : k < l.length := by rw [hl.out]; exact hlt
        have hkm : k < m.length := by rw [hl'.out]; exact hlt
        obtain ⟨b, off, rfl, _⟩ := Rd.addr hr (by omega)
        obtain ⟨b', off', rfl, _⟩ := Rd.addr hr' (by omega)
        obtain ⟨c0, c1, c2, c3⟩ := (hr.below hbr (Nat.le_refl _)).at k hkl
        obtain ⟨d0, d1, d2, d3⟩ := (hr'.below hbr (Nat.le_refl _)).at k hkm
        have hkI : (k : Int) < n := by omega
        have HE := fun W => run_neq_vw W l[k] m[k]
        have hst : Hid (t = (veq l[k] m[k] && vsB (l.drop (k + 1)) (m.drop (k + 1)))) := Lib.hid (by rw [hv.out, List.drop_eq_getElem_cons hkl, List.drop_eq_getElem_cons hkm]; rfl)
        cases he : veq l[k] m[k] with
        | true =>
          rw [he] at HE hst
          replace HE := Lib.hid HE
          generalize l[k] = p at *
          generalize m[k] = q at *
          clear he hv
          go_wp2
          refine wp_region_quiet_lit (by kernel_rfl) (by kernel_rfl) ?_
          iterate 8 go_big_quiet_step (fail)
          refine wpQuiet_agg (by rfl) Tryd.viewG (.tmp 20) (.tmp 24) _ rfl rfl rfl HE.out ?_
          refine wpQuiet_nil ?_
          rintro _ ⟨nq, rfl⟩
          go_wp2
          go_roundw
          case rel => exact ⟨k + 1, by omega, by go_num, Lib.hid (by rw [hst.out, Bool.true_and]), belN hbr _⟩
          case measure => simp [intOf]; omega
        | false =>
          rw [he] at HE hst
          replace HE := Lib.hid HE
          generalize l[k] = p at *
          generalize m[k] = q at *
          clear he hv
          go_wp2
          refine wp_region_quiet_lit (by kernel_rfl) (by kernel_rfl) ?_
          iterate 8 go_big_quiet_step (fail)
          refine wpQuiet_agg (by rfl) Tryd.viewG (.tmp 20) (.tmp 24) _ rfl rfl rfl HE.out ?_
          refine wpQuiet_nil ?_
          rintro _ ⟨nq, rfl⟩
          go_wp2
          go_ret
          exact ⟨by rw [hst.out, Bool.false_and]; rfl, belN hbr _⟩
      · have hki : ¬ (k : Int) < n := by omega
        have hz := Lib.hid (show t = true from by rw [hv.out, List.drop_of_length_le (by have := hl.out; omega), List.drop_of_length_le (by have := hl'.out; omega)]; rfl)
        go_wp2
        go_ret
        exact ⟨by rw [hz.out]; rfl, hbr⟩
  · have hnn : ((n : Int) != (n' : Int)) = true := by simp; omega
    have hz := Lib.hid (show t = false from by rw [ht.out]; exact vsB_len (by have := hl.out; have := hl'.out; omega))
    go_enter Tryd.func39, Tryd.ntmps39
    go_wp2
    go_ret
    exact ⟨by rw [hz.out]; rfl, Below.refl _ _⟩
/-- Two records. -/
def rcB (r q : Rc) : Bool := veq r.last q.last && vsB r.pend q.pend
theorem rcB_self (r : Rc) : rcB r r = true := by rw [rcB, veq_eq.2 rfl, vsB_self]; rfl
set_option maxHeartbeats 1600000 in
set_option maxRecDepth 100000 in
theorem sameB_any (r q : Rc) (a a' : Option Addr) (n n' c c' : Nat) (t : Bool) (ht : t = rcB r q) (w : World) (h1 : RdV w a n c r.pend) (h2 : RdV w a' n' c' q.pend) :
    Calls Tryd.prog 19 #[.agg #[.int .u64 r.last.num, .int .u64 r.last.ce, .int .i64 r.last.cr, .int .u64 r.last.mem, .slice a n c], .agg #[.int .u64 q.last.num, .int .u64 q.last.ce, .int .i64 q.last.cr, .int .u64 q.last.mem, .slice a' n' c']] w fun e w' => e = .returned (.bool t) ∧ Below w.heap.size w w' := by
  obtain ⟨wS, hwS⟩ : ∃ wS, wS = (w.alloc (.cells #[.int .u64 r.last.num, .int .u64 r.last.ce, .int .i64 r.last.cr, .int .u64 r.last.mem, .slice a n c] 60)).alloc (.cells #[.int .u64 q.last.num, .int .u64 q.last.ce, .int .i64 q.last.cr, .int .u64 q.last.mem, .slice a' n' c'] 60) := ⟨_, rfl⟩
  have E : Below w.heap.size w wS := by rw [hwS]; exact ((Below.refl _ _).alloc (Nat.le_refl _) _).alloc (by simp) _
  have BA : BlkAt wS w.heap.size 60 #[.int .u64 r.last.num, .int .u64 r.last.ce, .int .i64 r.last.cr, .int .u64 r.last.mem, .slice a n c] := by rw [hwS]; exact (BlkAt.new w _ _).alloc _
  have BB : BlkAt wS (w.heap.size + 1) 60 #[.int .u64 q.last.num, .int .u64 q.last.ce, .int .i64 q.last.cr, .int .u64 q.last.mem, .slice a' n' c'] := by
    rw [hwS]
    have := BlkAt.new (w.alloc (.cells #[.int .u64 r.last.num, .int .u64 r.last.ce, .int .i64 r.last.cr, .int .u64 r.last.mem, .slice a n c] 60)) 60 #[.int .u64 q.last.num, .int .u64 q.last.ce, .int .i64 q.last.cr, .int .u64 q.last.mem, .slice a' n' c']
    simpa using this
  obtain ⟨tv, htv⟩ : ∃ z, z = vsB r.pend q.pend := ⟨_, rfl⟩
  have HV := Lib.hid (fun W (h1 : RdV W a n c r.pend) (h2 : RdV W a' n' c' q.pend) => viewsB_any a a' n n' c c' r.pend q.pend tv htv W h1 h2)
  replace h1 := h1.below E (Nat.le_refl _)
  replace h2 := h2.below E (Nat.le_refl _)
  have c4 : wS.cell? ⟨w.heap.size, 4, none⟩ = some (.slice a n c) := BA.cell rfl
  have d4 : wS.cell? ⟨w.heap.size + 1, 4, none⟩ = some (.slice a' n' c') := BB.cell rfl
  have HE := fun W => run_eql_vw W r.last q.last
  have hst := Lib.hid (show t = (veq r.last q.last && tv) from by rw [ht, htv]; rfl)
  clear ht htv
  subst hwS
  cases he : veq r.last q.last with
  | true =>
    rw [he] at HE hst
    replace HE := Lib.hid HE
    clear he
    go_enter Tryd.func19, Tryd.ntmps19
    go_wp2_with (first
      | (refine wpList_blk_box rfl (.tmp 0) rfl rfl w.heap.size rfl ?_)
      | (refine wpList_blk_box rfl (.tmp 1) rfl rfl (w.heap.size + 1) (by simp) ?_)
      | (refine wpList_blk_get (cs := #[.int .u64 r.last.num, .int .u64 r.last.ce, .int .i64 r.last.cr, .int .u64 r.last.mem]) rfl (.tmp 5) rfl rfl BA Tryd.underlying35 rfl (Tryd.viewI r.last) (get4 rfl rfl rfl rfl) ?_)
      | (refine wpList_blk_get (cs := #[.int .u64 q.last.num, .int .u64 q.last.ce, .int .i64 q.last.cr, .int .u64 q.last.mem]) rfl (.tmp 7) rfl rfl BB Tryd.underlying35 rfl (Tryd.viewI q.last) (get4 rfl rfl rfl rfl) ?_)
      | (refine wpList_agg rfl Tryd.viewG (.tmp 6) (.tmp 8) _ rfl rfl rfl HE.out ?_))
    refine (HV.out _ h1 h2).mono ?_
    rintro e w' ⟨rfl, hb⟩
    replace E := belS E hb
    go_wp2
    go_ret
    exact ⟨by rw [hst.out, Bool.true_and]; rfl, E⟩
  | false =>
    rw [he] at HE hst
    replace HE := Lib.hid HE
    clear he
    go_enter Tryd.func19, Tryd.ntmps19
    go_wp2_with (first
      | (refine wpList_blk_box rfl (.tmp 0) rfl rfl w.heap.size rfl ?_)
      | (refine wpList_blk_box rfl (.tmp 1) rfl rfl (w.heap.size + 1) (by simp) ?_)
      | (refine wpList_blk_get (cs := #[.int .u64 r.last.num, .int .u64 r.last.ce, .int .i64 r.last.cr, .int .u64 r.last.mem]) rfl (.tmp 5) rfl rfl BA Tryd.underlying35 rfl (Tryd.viewI r.last) (get4 rfl rfl rfl rfl) ?_)
      | (refine wpList_blk_get (cs := #[.int .u64 q.last.num, .int .u64 q.last.ce, .int .i64 q.last.cr, .int .u64 q.last.mem]) rfl (.tmp 7) rfl rfl BB Tryd.underlying35 rfl (Tryd.viewI q.last) (get4 rfl rfl rfl rfl) ?_)
      | (refine wpList_agg rfl Tryd.viewG (.tmp 6) (.tmp 8) _ rfl rfl rfl HE.out ?_))
    go_ret
    exact ⟨by rw [hst.out, Bool.false_and]; rfl, E⟩
theorem try_parts (s : Fs) : (tryS s).1.live = s.live ∧ ((tryS s).2 = [] → (tryS s).1.rc = s.rc) := by
  unfold tryS
  split
  · exact ⟨rfl, fun h => by cases h⟩
  · exact ⟨rfl, fun _ => rfl⟩
theorem del_parts (s : Fs) (p : Int) (x : Itm) : (delS s p x).1.live = s.live ∧ ((delS s p x).2 = [] → (delS s p x).1.rc = s.rc) := by
  unfold delS
  split
  · exact ⟨rfl, fun _ => rfl⟩
  · split
    · split
      · exact try_parts (tellS s p x)
      · exact ⟨rfl, fun _ => rfl⟩
    · split
      · split
        · exact ⟨rfl, fun h => by cases h⟩
        · exact ⟨rfl, fun _ => rfl⟩
      · exact ⟨rfl, fun _ => rfl⟩
theorem del_still (s : Fs) (p : Int) (x : Itm) (h : (!s.live || s.formed) = true) : delS s p x = (s, []) := by
  unfold delS
  rw [if_pos]
  cases hl : s.live with
  | false => rfl
  | true =>
    rw [hl] at h
    rw [show s.formed = true from by simpa using h]
    rfl
end Go.Proofs.YteeeikkapnchlaaDoor
