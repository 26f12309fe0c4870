/- filter: FilterOne: plain helpers of the walk -/
import Derived.Test.YteeeikkapnchlaaDoorFilT
namespace Go.Proofs.YteeeikkapnchlaaDoor
set_option linter.unusedSimpArgs false
set_option linter.unusedVariables false
open Go.RowKit Go.Sort
theorem fos_start {l : List Rc} (hn : l.length ≤ 5) {fs : List Fs} (h1 : fs.length = l.length) (h2 : ∀ (p : Nat) (s : Fs), fs[p]? = some s → s = regS ⟨rcD l p, 0, 0, 0, false, false, [], none, 0⟩ 7 0 (allN l.length)) : One l [] 0 0 fs ⟨oneC l, List.range l.length, [], 0⟩ := by
  refine ⟨h1, by simp, by simp, List.nodup_nil, (fun p hp => by cases hp), rfl, (fun h => absurd rfl h), fun p s hs => ?_, (fun o ho => by cases ho), (fun h => absurd rfl h)⟩
  rw [if_neg (Nat.not_lt_zero _)]
  obtain rfl := h2 p s hs
  exact ⟨⟨rfl, rfl, rfl⟩, ⟨0, Nat.zero_le _, rfl, (fun _ => by simp), (fun e => by cases e)⟩, by simp [regS], ⟨by simp [regS], (fun j _ e => by simp [regS] at e)⟩, (fun _ => ⟨rfl, rfl⟩), (fun e => by cases e), (fun e => by cases e)⟩
theorem RecAt.range {w : World} {b o : Nat} {r : Rc} (h : RecAt w b o r) : ∃ pa pn pc, w.rangeAt b o [.int .u64 r.last.num, .int .u64 r.last.ce, .int .i64 r.last.cr, .int .u64 r.last.mem, .slice pa pn pc] ∧ w.cell? ⟨b, o + 4, none⟩ = some (.slice pa pn pc) ∧ RdV w pa pn pc r.pend := by
  obtain ⟨pa, pn, pc, ⟨h0, h1, h2, h3, h4⟩, hr⟩ := h
  refine ⟨pa, pn, pc, fun j u hu => ?_, h4, hr⟩
  rcases j with _ | _ | _ | _ | _ | j
  · injection hu with hu; subst hu; exact h0
  · injection hu with hu; subst hu; exact h1
  · injection hu with hu; subst hu; exact h2
  · injection hu with hu; subst hu; exact h3
  · injection hu with hu; subst hu; exact h4
  · simp at hu
theorem Tryd.cofZ : (Tryd.prog.info? 30).map (·.zero) = some (some (.agg #[.int .u64 0, .int .i64 0])) := by kernel_rfl
theorem OS.start {w3 : World} (hT : Tab w3) : OS w3 w3 (fun _ => False) [] (.slice none 0 0) (.slice none 0 0) (.slice none 0 0) (.slice none 0 0) [] [] [] [] :=
  ⟨FL.start hT (Below.refl _ _), ⟨World.ownsRow_nil _ _ _ _, (fun g e => by cases e)⟩, ⟨World.ownsRow_nil _ _ _ _, (fun g e => by cases e)⟩, (fun x hx => by cases hx), ⟨World.ownsRow_nil _ _ _ _, (fun g e => by cases e)⟩, OwG.nil⟩
theorem RoG.rd {F : Nat → Prop} {B sz n n' c : Nat} {e : TypeId} {w : World} {a : Option Addr} {xs : List Value} (h : RoG F B e sz w (.slice a n' c) n xs) : n' = n ∧ Rd w sz a n c xs := by
  obtain ⟨a', c', e1, hr⟩ := Rd.own h.own
  injection e1 with e1 e2 e3
  subst e1 e2 e3
  exact ⟨rfl, hr⟩
theorem u32_small {i : Nat} (h : i < 5) : IntKind.u32.wrap (i : Int) = i := by
  rcases i with _ | _ | _ | _ | _ | i
  · decide
  · decide
  · decide
  · decide
  · decide
  · omega
def X0 (p : Nat) : Iw := ⟨⟨0, ⟨#[]⟩, p, 0, false, false, ⟨.zero, []⟩, .zero, 0, 0, 0⟩, none, 0, 0⟩
theorem Tryd.bldX0 (p : Nat) : Tryd.prog.built 45 [(2, .int .u32 p)] = some (iwA (X0 p)) := by kernel_rfl
theorem regO_one (l : List Rc) (p : Nat) {s : Fs} (hs : s.rc = rcD l p) : regO s (X0 p).v = ⟨1, oneX l p, ⟨.zero, []⟩, .zero, []⟩ := by
  unfold regO
  rw [hs]
  rfl
/-- What the first loop has made. -/
structure L1 (l : List Rc) (n i : Nat) (fl : List (Nat × Fw)) (ps : List Nat) (xs : List Iw) (fm : List Nat) : Prop where
  len : fl.length = i
  ps : ps = fl.map (·.1)
  xs : xs.map (·.v) = (List.range i).map (oneX l)
  fm : fm = List.range i
  pd : ∀ p, p < i → (rcD l p).pend.length ≤ 40
  at_ : ∀ (p : Nat) (q : Nat × Fw), fl[p]? = some q → q.2.s = regS ⟨rcD l p, 0, 0, 0, false, false, [], none, 0⟩ 7 0 (allN (n : Nat))
theorem L1.start (l : List Rc) (n : Nat) : L1 l n 0 [] [] [] [] := ⟨rfl, rfl, rfl, rfl, (fun p h => absurd h (Nat.not_lt_zero _)), fun p q h => by simp at h⟩
section
variable {l : List Rc} {n i : Nat} {fl : List (Nat × Fw)} {ps : List Nat} {xs : List Iw} {fm : List Nat}
theorem L1.psl (h : L1 l n i fl ps xs fm) : ps.length = i := by rw [h.ps, List.length_map, h.len]
theorem L1.xsl (h : L1 l n i fl ps xs fm) : xs.length = i := by
  have := congrArg List.length h.xs
  simpa using this
theorem L1.fml (h : L1 l n i fl ps xs fm) : fm.length = i := by rw [h.fm, List.length_range]
theorem L1.push (h : L1 l n i fl ps xs fm) (b : Nat) (s : Fw) (x : Iw) (hs : s.s = regS ⟨rcD l i, 0, 0, 0, false, false, [], none, 0⟩ 7 0 (allN (n : Nat))) (hx : x.v = oneX l i) (hp40 : (rcD l i).pend.length ≤ 40) : L1 l n (i + 1) (fl ++ [(b, s)]) (ps ++ [b]) (xs ++ [x]) (fm ++ [i]) := by
  refine ⟨by rw [List.length_append, h.len]; rfl, by rw [h.ps, List.map_append]; rfl, by rw [List.map_append, h.xs, List.range_succ, List.map_append]; show _ ++ [x.v] = _; rw [hx]; rfl, by rw [h.fm, List.range_succ], fun p hp => ?_, fun p q hp => ?_⟩
  · by_cases e : p = i
    · rw [e]; exact hp40
    · exact h.pd p (by omega)
  by_cases e : p < fl.length
  · rw [List.getElem?_append_left e] at hp
    exact h.at_ p q hp
  · rw [List.getElem?_append_right (by omega)] at hp
    by_cases e2 : p - fl.length = 0
    · rw [e2] at hp
      obtain rfl := (Option.some.inj hp)
      have e3 : p = i := by have := h.len; omega
      rw [e3]
      exact hs
    · rw [List.getElem?_eq_none (by simp; omega)] at hp
      cases hp
end
theorem nodup_le : ∀ (n : Nat) (tr : List Nat), tr.Nodup → (∀ p ∈ tr, p < n) → tr.length ≤ n
  | 0, [], _, _ => Nat.le_refl _
  | 0, x :: tr, _, h => absurd (h x (List.mem_cons_self ..)) (Nat.not_lt_zero _)
  | n + 1, tr, hd, h => by
    by_cases hn : n ∈ tr
    · have h1 := nodup_le n (tr.erase n) (hd.erase n) (fun p hp => by
        have h2 := hd.mem_erase_iff.1 hp
        have := h p h2.2
        have := h2.1
        omega)
      rw [List.length_erase_of_mem hn] at h1
      omega
    · refine Nat.le_succ_of_le (nodup_le n tr hd (fun p hp => ?_))
      have h1 := h p hp
      have h2 : p ≠ n := fun e => hn (e ▸ hp)
      omega
theorem set_fst {fl : List (Nat × Fw)} {i b : Nat} {s s' : Fw} (h : fl[i]? = some (b, s)) : (fl.set i (b, s')).map (·.1) = fl.map (·.1) := by
  rw [List.map_set]
  refine List.ext_getElem? (fun j => ?_)
  by_cases e : j = i
  · subst e
    have hl : j < fl.length := (List.getElem?_eq_some_iff.1 h).1
    rw [List.getElem?_set_self (by simpa using hl), List.getElem?_map, h]
    rfl
  · rw [List.getElem?_set_ne (fun e2 => e e2.symm)]
theorem set_snd {fl : List (Nat × Fw)} {i b : Nat} {s' : Fw} : (fl.set i (b, s')).map (·.2.s) = (fl.map (·.2.s)).set i s'.s := List.map_set
theorem set_same {fl : List (Nat × Fw)} {i : Nat} {q : Nat × Fw} (h : fl[i]? = some q) : fl.set i q = fl := by
  refine List.ext_getElem? (fun j => ?_)
  by_cases e : j = i
  · subst e
    have hl : j < fl.length := (List.getElem?_eq_some_iff.1 h).1
    rw [List.getElem?_set_self hl, h]
  · rw [List.getElem?_set_ne (fun e2 => e e2.symm)]
theorem iw_range2 {w : World} {b off n c : Nat} {xs : List Iw} (h : Rd w 18 (some ⟨b, off, none⟩) n c (xs.flatMap iwC)) {k : Nat} {x : Iw} (hx : xs[k]? = some x) : w.rangeAt b (off + k * 18) (iwC x) := by
  intro j v hj
  have hlt : j < 18 := (List.getElem?_eq_some_iff.1 hj).1
  rw [Nat.add_assoc]
  refine Rd.at h ((flatMap_get iwC_len xs k j hlt).trans ?_)
  rw [hx]
  exact hj
theorem sum_le {c : Nat} : ∀ l : List Nat, (∀ x ∈ l, x ≤ c) → l.sum ≤ c * l.length
  | [], _ => by simp
  | x :: l, h => by
    have h1 := sum_le l (fun y hy => h y (List.mem_cons_of_mem _ hy))
    have h2 := h x (List.mem_cons_self ..)
    rw [List.sum_cons, List.length_cons, Nat.mul_succ]
    omega
theorem tot40 {l : List Rc} (h : ∀ p, p < l.length → (rcD l p).pend.length ≤ 40) (hn : l.length ≤ 5) : tot l ≤ 1000000 := by
  have h1 := sum_le (c := 40) (l.map fun r => r.pend.length) (fun x hx => by
    obtain ⟨r, hr, rfl⟩ := List.mem_map.1 hx
    obtain ⟨p, hp, rfl⟩ := List.getElem_of_mem hr
    have h2 := h p hp
    unfold rcD at h2
    rw [List.getD_eq_getElem?_getD, List.getElem?_eq_getElem hp] at h2
    exact h2)
  rw [List.length_map] at h1
  unfold tot
  omega
/-- Between two turns. -/
structure TW (w3 wr : World) (F : Nat → Prop) (l : List Rc) (tr : List Nat) (k i : Nat) (fl : List (Nat × Fw)) (fv rv mv ov : Value) (ps : List Nat) (xs : List Iw) (fm : List Nat) (os : List Ow) (wn : Nat) : Prop where
  st : OS w3 wr F fl fv rv mv ov ps xs fm os
  ps : ps = fl.map (·.1)
  one : One l tr k i (fl.map (·.2.s)) ⟨xs.map (·.v), fm, os.map (·.v), wn⟩
  fo : os.length ≤ 10 * k + 2 * i
section
variable {w3 wr w' : World} {F : Nat → Prop} {l : List Rc} {tr : List Nat} {k i : Nat} {fl : List (Nat × Fw)} {fv rv mv ov v v' : Value} {ps : List Nat} {xs : List Iw} {fm : List Nat} {os : List Ow} {wn : Nat} {a : Option Addr} {n c : Nat} {po : List Ow}
theorem TW.trl (h : TW w3 wr F l tr k i fl fv rv mv ov ps xs fm os wn) : tr.length ≤ l.length := nodup_le _ _ h.one.nd h.one.lt
theorem TW.fll (h : TW w3 wr F l tr k i fl fv rv mv ov ps xs fm os wn) : fl.length = l.length := by
  have := h.one.len
  simpa using this
theorem TW.psl (h : TW w3 wr F l tr k i fl fv rv mv ov ps xs fm os wn) : ps.length = l.length := by rw [h.ps, List.length_map, h.fll]
theorem TW.xsl (h : TW w3 wr F l tr k i fl fv rv mv ov ps xs fm os wn) : xs.length = l.length + tr.length := by
  have := congrArg List.length h.one.row
  simpa [oneC] using this
theorem TW.fml (h : TW w3 wr F l tr k i fl fv rv mv ov ps xs fm os wn) : fm.length = l.length + tr.length := by
  have := congrArg List.length h.one.frm
  simpa using this
theorem TW.start {xs : List Iw} (h : L1 l l.length l.length fl ps xs fm) (hn : l.length ≤ 5) (hS : OS w3 wr F fl fv rv mv (.slice none 0 0) ps xs fm []) : TW w3 wr F l [] 0 0 fl fv rv mv (.slice none 0 0) ps xs fm [] 0 := by
  refine ⟨hS, h.ps, ?_, Nat.zero_le _⟩
  have h1 := fos_start hn (fs := fl.map (·.2.s)) (by rw [List.length_map, h.len]) (fun p s hs => by
    rw [List.getElem?_map] at hs
    cases e : fl[p]? with
    | none => rw [e] at hs; cases hs
    | some q => rw [e] at hs; obtain rfl := Option.some.inj hs; exact h.at_ p q e)
  rw [h.xs, h.fm]
  exact h1
theorem TW.round (h : TW w3 wr F l tr k i fl fv rv mv ov ps xs fm os wn) (hi : i = l.length) (hn : l.length ≤ 5) : TW w3 wr F l tr (k + 1) 0 fl fv rv mv ov ps xs fm os wn := by
  subst hi
  exact ⟨h.st, h.ps, h.one.round, by have := h.fo; omega⟩
theorem TW.close {b : Nat} {s : Fw} (h : TW w3 wr F l tr k i fl fv rv mv ov ps xs fm os wn) (hi : fl[i]? = some (b, s)) (hL : FL w3 w' F (fl.set i (b, { s with live := false }))) (hk : KpO (OwnF b s.mb) wr w') : TW w3 w' F l tr k i (fl.set i (b, { s with live := false })) fv rv mv ov ps xs fm os wn :=
  ⟨h.st.act hi (fun _ hg => hg) (fun _ hg => .inl hg) hL hk, by rw [set_fst hi]; exact h.ps, by rw [set_snd]; exact h.one.close (s := s.s) (by rw [List.getElem?_map, hi]; rfl), h.fo⟩
theorem RdO.grown (h : RdO F wr a n c po) (hv : ∀ g, v.ownBlock = some g → F g) (hg : wr.grownBy w' v.ownBlock) (hs : ∀ g, v'.ownBlock = some g → F g ∨ wr.heap.size ≤ g) : RdO (fun g => F g ∨ v'.ownBlock = some g) w' a n c po :=
  (h.more (fun g hx => hx.elim .inl (hs g))).kpO (KpO.ofGrown (O := fun g => v.ownBlock = some g) hg (fun k e => e)) (fun g e => .inl (hv g e))
theorem OS.pushItK (h : OS w3 wr F fl fv rv mv ov ps xs fm os) (hR : RdO F wr a n c po) (x : Iw) (hx : InF F wr x) (hxw : x.v.Wf) (ho : w'.ownsRow w3.heap.size 45 18 v' (xs.length + 1) (xs.flatMap iwC ++ iwC x)) (hg : wr.grownBy w' rv.ownBlock) (hv : v'.ownBlock = rv.ownBlock ∨ ∀ k, v'.ownBlock = some k → wr.heap.size ≤ k) : ∃ F', OS w3 w' F' fl fv v' mv ov ps (xs ++ [x]) fm os ∧ RdO F' w' a n c po :=
  ⟨_, h.pushIt x hx hxw ho hg hv, hR.grown h.it.inF hg (fun g e => (grow_sub h.it ho hv g e).2)⟩
theorem OS.pushFmK (h : OS w3 wr F fl fv rv mv ov ps xs fm os) (hR : RdO F wr a n c po) (q : Nat) (ho : w'.ownsRow w3.heap.size 3 1 v' (fm.length + 1) (fm.map intC ++ [intC q])) (hg : wr.grownBy w' mv.ownBlock) (hv : v'.ownBlock = mv.ownBlock ∨ ∀ k, v'.ownBlock = some k → wr.heap.size ≤ k) : ∃ F', OS w3 w' F' fl fv rv v' ov ps xs (fm ++ [q]) os ∧ RdO F' w' a n c po :=
  ⟨_, h.pushFm q ho hg hv, hR.grown h.fm.inF hg (fun g e => (grow_sub h.fm ho hv g e).2)⟩
theorem OS.pushFoK (h : OS w3 wr F fl fv rv mv ov ps xs fm os) (hR : RdO F wr a n c po) (o : Ow) (hx : OwF F wr o) (ho : w'.ownsRow w3.heap.size 47 29 v' (os.length + 1) (os.flatMap owC ++ owC o)) (hg : wr.grownBy w' ov.ownBlock) (hv : v'.ownBlock = ov.ownBlock ∨ ∀ k, v'.ownBlock = some k → wr.heap.size ≤ k) : ∃ F', OS w3 w' F' fl fv rv mv v' ps xs fm (os ++ [o]) ∧ RdO F' w' a n c po :=
  ⟨_, h.pushFo o hx ho hg hv, hR.grown h.fo.inF hg (fun g e => (grow_sub (e := 47) ⟨h.fo.own, h.fo.inF⟩ ho hv g e).2)⟩
end
end Go.Proofs.YteeeikkapnchlaaDoor
