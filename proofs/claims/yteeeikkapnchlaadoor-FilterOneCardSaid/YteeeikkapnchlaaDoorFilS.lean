/- filter: FilterOne, the plain law -/
import Derived.Test.YteeeikkapnchlaaDoorFilQ
namespace Go.Proofs.YteeeikkapnchlaaDoor
set_option linter.unusedSimpArgs false
set_option linter.unusedVariables false
open Go.RowKit Go.Sort
/-- What the statement keeps: the items that were cast, by whom, the views that were formed, the records that were written. -/
structure Sim where
  row : List Itm
  frm : List Nat
  fo : List Ov
  wr : Nat
def apO (i : Nat) (σ : Sim) (o : Ov) : Sim :=
  if o.kind = 2 then { σ with wr := σ.wr + 1 }
  else if o.kind = 1 then { σ with row := σ.row ++ [o.it], frm := σ.frm ++ [i] }
  else if o.kind = 3 then { σ with fo := σ.fo ++ [o] } else σ
def rcD (l : List Rc) (p : Nat) : Rc := l.getD p ⟨.zero, []⟩
def oneV (l : List Rc) : Vw := ⟨nextL l, 7, 0, allN l.length⟩
def oneX (l : List Rc) (p : Nat) : Itm := ⟨2, ⟨#[]⟩, p, 0, false, false, rcD l p, .zero, 0, 0, 0⟩
def oneT (l : List Rc) (q : Nat) : List (Int × Itm) := (List.range q).map fun (p : Nat) => ((p : Int), oneX l p)
def oneC (l : List Rc) : List Itm := (List.range l.length).map (oneX l)
def oneO (l : List Rc) : Ov := ⟨3, .zero, ⟨.zero, []⟩, oneV l, oneC l⟩
theorem oneT_succ (l : List Rc) (q : Nat) : oneT l (q + 1) = oneT l q ++ [((q : Int), oneX l q)] := by
  unfold oneT
  rw [List.range_succ, List.map_append]
  rfl
theorem oneT_len (l : List Rc) (q : Nat) : (oneT l q).length = q := by simp [oneT]
theorem tGet_one (l : List Rc) (j : Nat) : ∀ q, tGet (oneT l q) (j : Int) = if j < q then some (oneX l j) else none
  | 0 => rfl
  | q + 1 => by
    have ih := tGet_one l j q
    unfold tGet at ih ⊢
    rw [oneT_succ, List.find?_append]
    by_cases h : j < q
    · rw [if_pos h] at ih
      rw [if_pos (by omega)]
      cases e : (oneT l q).find? (fun p => p.1 == (j : Int)) with
      | none => rw [e] at ih; cases ih
      | some x => rw [e] at ih; exact ih
    · rw [if_neg h] at ih
      cases e : (oneT l q).find? (fun p => p.1 == (j : Int)) with
      | some x => rw [e] at ih; cases ih
      | none =>
        rw [Option.none_or]
        by_cases h2 : j = q
        · subst h2
          rw [if_pos (by omega), List.find?_cons_of_pos (by simp)]
          rfl
        · rw [if_neg (by omega), List.find?_cons_of_neg (by simp; omega)]
          rfl
theorem all5 {n : Nat} (hn : n ≤ 5) : cardN (allN n) = n ∧ memI (allN n) = (List.range n).map (fun p : Nat => (p : Int)) := by
  rcases n with _ | _ | _ | _ | _ | _ | n
  · exact ⟨by decide +kernel, by decide +kernel⟩
  · exact ⟨by decide +kernel, by decide +kernel⟩
  · exact ⟨by decide +kernel, by decide +kernel⟩
  · exact ⟨by decide +kernel, by decide +kernel⟩
  · exact ⟨by decide +kernel, by decide +kernel⟩
  · exact ⟨by decide +kernel, by decide +kernel⟩
  · omega
theorem all_has {n a : Nat} (ha : a < n) (hn : n ≤ 5) : hasB (allN n) (a : Int) = true := by
  rw [hasB_eq, Bool.and_eq_true, decide_eq_true_eq]
  refine ⟨by omega, ?_⟩
  rw [Int.toNat_natCast, allN_bit _ _ (by omega)]
  simpa using ha
theorem oneC_rc (l : List Rc) : (oneC l).map (·.rc) = l := by
  apply List.ext_getElem
  · simp [oneC]
  · intro i h1 h2
    simp [oneC, oneX, rcD, List.getD_eq_getElem?_getD, List.getElem?_eq_getElem h2]
theorem claims_one {l : List Rc} (hn : l.length ≤ 5) {s : Fs} (hm : s.mem = allN l.length) (ht : s.told = oneT l l.length) : claimsV s = oneC l := by
  unfold claimsV oneC
  rw [hm, (all5 hn).2, List.map_map, ht]
  refine List.map_congr_left (fun p hp => ?_)
  show (tGet (oneT l l.length) (p : Int)).getD _ = _
  rw [tGet_one, if_pos (List.mem_range.1 hp)]
  rfl
structure FOk (l : List Rc) (tr : List Nat) (p d : Nat) (s : Fs) : Prop where
  cf : s.ce = 7 ∧ s.cr = 0 ∧ s.mem = allN l.length
  q : ∃ q, q ≤ l.length ∧ s.told = oneT l q ∧ (s.live = true → q = min d l.length) ∧ (p ∈ tr → q = l.length)
  tri : s.tried = if p ∈ tr then some (oneV l) else none
  agr : s.agr < 18446744073709551616 ∧ ∀ j, j < 64 → s.agr.testBit j = true → j ∈ tr
  rc0 : p ∉ tr → s.rc = rcD l p ∧ s.formed = false
  rc1 : p ∈ tr → s.formed = false → s.rc = ⟨(rcD l p).last, (rcD l p).pend ++ [oneV l]⟩
  rc2 : s.formed = true → s.rc.last = oneV l
structure One (l : List Rc) (tr : List Nat) (k i : Nat) (fs : List Fs) (σ : Sim) : Prop where
  len : fs.length = l.length
  row : σ.row = oneC l ++ tr.map (fun _ => attI (oneV l))
  frm : σ.frm = List.range l.length ++ tr
  nd : tr.Nodup
  lt : ∀ p ∈ tr, p < l.length
  wr : σ.wr = tr.length
  may : tr ≠ [] → mayB (allN l.length) l = true
  at_ : ∀ (p : Nat) (s : Fs), fs[p]? = some s → FOk l tr p (if p < i then k + 1 else k) s
  fo : ∀ o ∈ σ.fo, o = oneO l
  full : σ.fo ≠ [] → ∀ p, p < l.length → p ∈ tr
section
variable {l : List Rc} {tr : List Nat} {k i p d : Nat} {fs : List Fs} {σ : Sim} {s : Fs}
theorem FOk.close (h : FOk l tr p d s) : FOk l tr p d { s with live := false } := by
  obtain ⟨q, h1, h2, h3, h4⟩ := h.q
  exact ⟨h.cf, ⟨q, h1, h2, (fun e => by cases e), h4⟩, h.tri, h.agr, h.rc0, h.rc1, h.rc2⟩
theorem FOk.grow {a : Nat} (h : FOk l tr p d s) (hp : p ≠ a) : FOk l (tr ++ [a]) p d s := by
  have hm : p ∈ tr ++ [a] ↔ p ∈ tr := by simp [hp]
  obtain ⟨q, h1, h2, h3, h4⟩ := h.q
  refine ⟨h.cf, ⟨q, h1, h2, h3, fun e => h4 (hm.1 e)⟩, ?_, ⟨h.agr.1, fun j hj e => List.mem_append_left _ (h.agr.2 j hj e)⟩, fun e => h.rc0 (fun e2 => e (hm.2 e2)), fun e => h.rc1 (hm.1 e), h.rc2⟩
  rw [h.tri]
  by_cases e : p ∈ tr
  · rw [if_pos e, if_pos (hm.2 e)]
  · rw [if_neg e, if_neg (fun e2 => e (hm.1 e2))]
theorem One.close (h : One l tr k i fs σ) (hs : fs[i]? = some s) : One l tr k i (fs.set i { s with live := false }) σ := by
  have hil : i < fs.length := (List.getElem?_eq_some_iff.1 hs).1
  refine ⟨by rw [List.length_set]; exact h.len, h.row, h.frm, h.nd, h.lt, h.wr, h.may, fun p t ht => ?_, h.fo, h.full⟩
  by_cases e : p = i
  · subst e
    rw [List.getElem?_set_self hil] at ht
    obtain rfl := Option.some.inj ht
    exact (h.at_ p s hs).close
  · rw [List.getElem?_set_ne (fun e2 => e e2.symm)] at ht
    exact h.at_ p t ht
theorem One.round (h : One l tr k l.length fs σ) : One l tr (k + 1) 0 fs σ :=
  ⟨h.len, h.row, h.frm, h.nd, h.lt, h.wr, h.may, fun p s hs => by
    have := h.at_ p s hs
    rw [if_pos (by have := (List.getElem?_eq_some_iff.1 hs).1; have := h.len; omega)] at this
    rw [if_neg (Nat.not_lt_zero _)]
    exact this, h.fo, h.full⟩
/-- One filter's turn that only it sees. -/
theorem One.mine {s' : Fs} (h : One l tr k i fs σ) (hs : fs[i]? = some s) (hF : FOk l tr i (k + 1) s') : One l tr k (i + 1) (fs.set i s') σ := by
  have hil : i < fs.length := (List.getElem?_eq_some_iff.1 hs).1
  refine ⟨by rw [List.length_set]; exact h.len, h.row, h.frm, h.nd, h.lt, h.wr, h.may, fun p t ht => ?_, h.fo, h.full⟩
  by_cases e : p = i
  · subst e
    rw [List.getElem?_set_self hil] at ht
    obtain rfl := Option.some.inj ht
    rw [if_pos (by omega)]
    exact hF
  · rw [List.getElem?_set_ne (fun e2 => e e2.symm)] at ht
    have := h.at_ p t ht
    by_cases e2 : p < i
    · rw [if_pos e2] at this; rw [if_pos (by omega)]; exact this
    · rw [if_neg e2] at this; rw [if_neg (by omega)]; exact this
theorem FOk.next (h : FOk l tr p d s) (hq : s.live = true → l.length ≤ d) : FOk l tr p (d + 1) s := by
  obtain ⟨q, h1, h2, h3, h4⟩ := h.q
  exact ⟨h.cf, ⟨q, h1, h2, fun e => by have := h3 e; have := hq e; omega, h4⟩, h.tri, h.agr, h.rc0, h.rc1, h.rc2⟩
end
theorem veq_self (v : Vw) : veq v v = true := veq_eq.2 rfl
/-- An item of a member comes to filter i. -/
theorem One.step {l : List Rc} {tr : List Nat} {k i : Nat} {fs : List Fs} {σ : Sim} {s : Fs} {x : Itm} {a : Nat} (hn : l.length ≤ 5) (h : One l tr k i fs σ) (hs : fs[i]? = some s) (hx : σ.row[k]? = some x) (ha : σ.frm[k]? = some a) :
    ∃ tr', One l tr' k (i + 1) (fs.set i (delS s a x).1) ((delS s a x).2.foldl (apO i) σ) := by
  have hF : FOk l tr i k s := by have := h.at_ i s hs; rwa [if_neg (Nat.lt_irrefl _)] at this
  obtain ⟨q, q1, q2, q3, q4⟩ := hF.q
  have hil : i < fs.length := (List.getElem?_eq_some_iff.1 hs).1
  have hcl : (oneC l).length = l.length := by simp [oneC]
  have hal : a < l.length := by
    rw [h.frm] at ha
    rcases Nat.lt_or_ge k l.length with hk | hk
    · rw [List.getElem?_append_left (by simpa using hk)] at ha
      rw [List.getElem?_range hk] at ha
      injection ha with ha
      omega
    · rw [List.getElem?_append_right (by simpa using hk)] at ha
      exact h.lt a (List.mem_of_getElem? ha)
  by_cases hlv : (s.live && !s.formed && hasB s.mem (a : Int)) = false
  · -- nothing is done
    have hd : delS s a x = (s, []) := if_pos hlv
    rw [hd]
    refine ⟨tr, h.mine hs (hF.next (fun e => ?_))⟩
    have hfm : s.formed = true := by
      rw [e, hF.cf.2.2, all_has hal hn] at hlv
      simpa using hlv
    have hi : i ∈ tr := by
      refine Classical.byContradiction (fun hc => ?_)
      have := (hF.rc0 hc).2
      rw [hfm] at this
      cases this
    have h1 := q3 e
    have h2 := q4 hi
    omega
  have hlf : s.live = true ∧ s.formed = false := by
    rw [Bool.not_eq_false, Bool.and_eq_true, Bool.and_eq_true, Bool.not_eq_true'] at hlv
    exact ⟨hlv.1.1, hlv.1.2⟩
  have hq := q3 hlf.1
  rcases Nat.lt_or_ge k l.length with hk | hk
  · -- a state
    have hxe : x = oneX l k := by
      rw [h.row, List.getElem?_append_left (by omega), oneC, List.getElem?_map, List.getElem?_range hk] at hx
      exact (Option.some.inj hx).symm
    have hae : a = k := by
      rw [h.frm, List.getElem?_append_left (by simpa using hk), List.getElem?_range hk] at ha
      exact (Option.some.inj ha).symm
    subst hxe hae
    have hqk : q = a := by omega
    subst hqk
    have hni : i ∉ tr := fun e => by have := q4 e; omega
    have htell : (tellS s (q : Int) (oneX l q)).told = oneT l (q + 1) := by
      show s.told ++ _ = _
      rw [q2, oneT_succ]
    have hd : delS s (q : Int) (oneX l q) = if (tellS s (q : Int) (oneX l q)).told.length = cardN s.mem then tryS (tellS s (q : Int) (oneX l q)) else (tellS s (q : Int) (oneX l q), []) := by
      unfold delS
      rw [if_neg hlv, if_pos]
      rw [q2, tGet_one, if_neg (Nat.lt_irrefl _)]
      rfl
    have hFt : FOk l tr i (q + 1) (tellS s (q : Int) (oneX l q)) :=
      ⟨hF.cf, ⟨q + 1, by omega, htell, fun _ => by omega, fun e => absurd e hni⟩, hF.tri, hF.agr, hF.rc0, hF.rc1, hF.rc2⟩
    rw [hd, htell, oneT_len, hF.cf.2.2, (all5 hn).1]
    by_cases hl : q + 1 = l.length
    · rw [if_pos hl]
      have hcv : claimsV (tellS s (q : Int) (oneX l q)) = oneC l := claims_one hn hF.cf.2.2 (by rw [htell, hl])
      have hV : tryV (tellS s (q : Int) (oneX l q)) = oneV l := by
        unfold tryV oneV
        rw [hcv, oneC_rc]
        show Vw.mk _ s.ce s.cr s.mem = _
        rw [hF.cf.1, hF.cf.2.1, hF.cf.2.2]
      have hok : tryOk (tellS s (q : Int) (oneX l q)) = (mayB (allN l.length) l && decide (s.rc.pend.length < 32)) := by
        unfold tryOk
        rw [hcv, oneC_rc]
        show (mayB s.mem l && decide (s.rc.pend.length < 32)) = _
        rw [hF.cf.2.2]
      unfold tryS
      by_cases ho : tryOk (tellS s (q : Int) (oneX l q)) = true
      · rw [if_pos ho]
        have hmay : mayB (allN l.length) l = true := by
          rw [hok, Bool.and_eq_true] at ho
          exact ho.1
        refine ⟨tr ++ [i], ?_⟩
        have hR : tryR (tellS s (q : Int) (oneX l q)) = ⟨(rcD l i).last, (rcD l i).pend ++ [oneV l]⟩ := by
          unfold tryR
          rw [hV]
          show Rc.mk s.rc.last (s.rc.pend ++ _) = _
          rw [(hF.rc0 hni).1]
        rw [hV, hR]
        show One l (tr ++ [i]) q (i + 1) _ { row := σ.row ++ [attI (oneV l)], frm := σ.frm ++ [i], fo := σ.fo, wr := σ.wr + 1 }
        refine ⟨by rw [List.length_set]; exact h.len, by rw [h.row, List.map_append, List.append_assoc]; rfl, by rw [h.frm, List.append_assoc], ?_, ?_, by rw [h.wr, List.length_append]; rfl, fun _ => hmay, fun p t ht => ?_, h.fo, fun e p hp => List.mem_append_left _ (h.full e p hp)⟩
        · rw [List.nodup_append]
          refine ⟨h.nd, by simp, fun x hx y hy e => ?_⟩
          obtain rfl := List.mem_singleton.1 hy
          exact hni (e ▸ hx)
        · intro p hp
          rcases List.mem_append.1 hp with hp | hp
          · exact h.lt p hp
          · obtain rfl := List.mem_singleton.1 hp
            have := h.len
            omega
        · by_cases e : p = i
          · subst e
            rw [List.getElem?_set_self hil] at ht
            obtain rfl := Option.some.inj ht
            rw [if_pos (by omega)]
            refine ⟨hF.cf, ⟨q + 1, by omega, htell, fun _ => by omega, fun _ => hl⟩, by rw [if_pos (by simp)], ⟨hF.agr.1, fun j hj e => List.mem_append_left _ (hF.agr.2 j hj e)⟩, fun e => absurd (by simp) e, fun _ _ => rfl, fun e => ?_⟩
            have : s.formed = true := e
            rw [hlf.2] at this
            cases this
          · rw [List.getElem?_set_ne (fun e2 => e e2.symm)] at ht
            have hold := (h.at_ p t ht).grow e
            by_cases e2 : p < i
            · rw [if_pos e2] at hold; rw [if_pos (by omega)]; exact hold
            · rw [if_neg e2] at hold; rw [if_neg (by omega)]; exact hold
      · rw [if_neg ho]
        exact ⟨tr, h.mine hs hFt⟩
    · rw [if_neg hl]
      exact ⟨tr, h.mine hs hFt⟩
  · -- an attempt
    have hxe : x = attI (oneV l) := by
      rw [h.row, List.getElem?_append_right (by omega), List.getElem?_map] at hx
      cases e : tr[k - (oneC l).length]? with
      | none => rw [e] at hx; cases hx
      | some y => rw [e] at hx; exact (Option.some.inj hx).symm
    have hat : a ∈ tr := by
      rw [h.frm, List.getElem?_append_right (by simpa using hk)] at ha
      exact List.mem_of_getElem? ha
    subst hxe
    have hNx : FOk l tr i (k + 1) s := hF.next (fun _ => hk)
    by_cases hi : i ∈ tr
    · have htri : triedB s (oneV l) = true := by
        unfold triedB
        rw [hF.tri, if_pos hi]
        exact veq_self _
      have hd : delS s (a : Int) (attI (oneV l)) = if (agrS s (a : Int)).agr = s.mem then formS (agrS s (a : Int)) (oneV l) else (agrS s (a : Int), []) := by
        unfold delS
        rw [if_neg hlv, if_neg (by show ¬ (decide ((3 : Int) = 2) && _) = true; simp), if_pos]
        · rfl
        show (decide ((3 : Int) = 3) && triedB s (oneV l)) = true
        rw [htri]
        rfl
      have hagr : (agrS s (a : Int)).agr < 18446744073709551616 ∧ ∀ j, j < 64 → (agrS s (a : Int)).agr.testBit j = true → j ∈ tr := by
        refine ⟨withN_lt _ hF.agr.1, fun j hj e => ?_⟩
        have : (withN s.agr [(a : Int)]).testBit j = true := e
        rw [withN_bit _ _ hj, Bool.or_eq_true] at this
        rcases this with e | e
        · exact hF.agr.2 j hj e
        · have : j = a := by
            have h9 : (j : Int) = a := by simpa using e
            omega
          exact this ▸ hat
      have hFa : FOk l tr i (k + 1) (agrS s (a : Int)) := ⟨hNx.cf, hNx.q, hNx.tri, hagr, hNx.rc0, hNx.rc1, hNx.rc2⟩
      rw [hd]
      by_cases hall : (agrS s (a : Int)).agr = s.mem
      · rw [if_pos hall]
        have hfull : ∀ p, p < l.length → p ∈ tr := fun p hp => hagr.2 p (by omega) (by rw [hall, hF.cf.2.2, allN_bit _ _ (by omega)]; simpa using hp)
        have hcv : claimsV (agrS s (a : Int)) = oneC l := claims_one hn hF.cf.2.2 (by
          show s.told = _
          rw [q2, q4 hi])
        refine ⟨tr, ?_⟩
        show One l tr k (i + 1) _ { σ with fo := σ.fo ++ [⟨3, .zero, ⟨.zero, []⟩, oneV l, claimsV (agrS s (a : Int))⟩] }
        rw [hcv]
        have hm := h.mine (s' := (formS (agrS s (a : Int)) (oneV l)).1) hs ⟨hFa.cf, hFa.q, hFa.tri, hFa.agr, fun e => absurd hi e, (fun _ e => by cases e), fun _ => rfl⟩
        exact ⟨hm.len, hm.row, hm.frm, hm.nd, hm.lt, hm.wr, hm.may, hm.at_, fun o ho => (List.mem_append.1 ho).elim (h.fo o) (fun ho => List.mem_singleton.1 ho), fun _ => hfull⟩
      · rw [if_neg hall]
        exact ⟨tr, h.mine hs hFa⟩
    · have htri : triedB s (oneV l) = false := by
        unfold triedB
        rw [hF.tri, if_neg hi]
      have hd : delS s (a : Int) (attI (oneV l)) = (s, []) := by
        unfold delS
        rw [if_neg hlv, if_neg (by show ¬ (decide ((3 : Int) = 2) && _) = true; simp), if_neg]
        show ¬ (decide ((3 : Int) = 3) && triedB s (oneV l)) = true
        rw [htri]
        simp
      rw [hd]
      exact ⟨tr, h.mine hs hNx⟩
theorem nodup_full {n : Nat} {tr : List Nat} (hd : tr.Nodup) (h1 : ∀ p ∈ tr, p < n) (h2 : ∀ p, p < n → p ∈ tr) : tr.length = n := by
  have hp : tr.Perm (List.range n) := (List.perm_ext_iff_of_nodup hd List.nodup_range).2 (fun p => ⟨fun h => List.mem_range.2 (h1 p h), fun h => h2 p (List.mem_range.1 h)⟩)
  simpa using hp.length_eq
theorem maxV_ge (l : List Vw) : ∀ z, z ≤ maxV z l := by
  induction l with
  | nil => intro z; exact Nat.le_refl _
  | cons v l ih => intro z; exact Nat.le_trans (Nat.le_max_left _ _) (ih _)
theorem maxR_ge : ∀ (l : List Rc) (z : Nat), z ≤ maxR z l ∧ ∀ r ∈ l, r.last.num ≤ maxR z l
  | [], z => ⟨Nat.le_refl _, fun r hr => by cases hr⟩
  | r :: l, z => by
    obtain ⟨h1, h2⟩ := maxR_ge l (maxV (max z r.last.num) r.pend)
    have h3 := maxV_ge r.pend (max z r.last.num)
    refine ⟨by show z ≤ maxR (maxV (max z r.last.num) r.pend) l; omega, fun q hq => ?_⟩
    rcases List.mem_cons.1 hq with rfl | hq
    · show q.last.num ≤ maxR (maxV (max z q.last.num) q.pend) l; omega
    · exact h2 q hq
theorem next_gt {l : List Rc} (h : nextL l ≠ 18446744073709551615) : ∀ r ∈ l, r.last.num < nextL l := by
  intro r hr
  have h1 := (maxR_ge l 0).2 r hr
  unfold nextL sumN at h ⊢
  split
  · rename_i hc
    rw [if_pos hc] at h
    exact absurd rfl h
  · omega
/-- What is asked at the end. -/
theorem One.last {l : List Rc} {tr : List Nat} {k : Nat} {fs : List Fs} {σ : Sim} (h1 : 1 ≤ l.length) (hnx : nextL l ≠ 18446744073709551615) (h : One l tr k 0 fs σ) (hfo : σ.fo ≠ []) :
    σ.wr = l.length ∧ mayB (allN l.length) l = true ∧ ∀ (p : Nat) (s : Fs), fs[p]? = some s → (veq s.rc.last (oneV l) = s.formed) ∧ (s.formed = true ∨ oneV l ∈ s.rc.pend) := by
  have hfull := h.full hfo
  refine ⟨by rw [h.wr]; exact nodup_full h.nd h.lt hfull, h.may (fun e => ?_), fun p s hs => ?_⟩
  · have := hfull 0 h1
    rw [e] at this
    cases this
  · have hpl : p < l.length := by rw [← h.len]; exact (List.getElem?_eq_some_iff.1 hs).1
    have hF := h.at_ p s hs
    have hp := hfull p hpl
    cases hfm : s.formed with
    | true => exact ⟨by rw [hF.rc2 hfm]; exact veq_self _, .inl rfl⟩
    | false =>
      have hr := hF.rc1 hp hfm
      refine ⟨?_, .inr (by rw [hr]; simp)⟩
      rw [hr, Bool.eq_false_iff]
      intro e
      have h1 := veq_eq.1 e
      have h2 := next_gt hnx (rcD l p) (by unfold rcD; rw [List.getD_eq_getElem?_getD, List.getElem?_eq_getElem hpl]; exact List.getElem_mem hpl)
      have h3 := congrArg Vw.num h1
      simp only [oneV] at h3
      omega
end Go.Proofs.YteeeikkapnchlaaDoor
