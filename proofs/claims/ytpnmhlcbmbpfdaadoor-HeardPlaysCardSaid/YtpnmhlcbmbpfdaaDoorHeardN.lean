/- the plain law of HeardPlays: all that was heard, in order, comes to the ear's entries -/
import Derived.Test.YtpnmhlcbmbpfdaaDoorHeardM
namespace Go.Proofs.YtpnmhlcbmbpfdaaDoor
open Go.RowKit Go.Sort

/-- What was said: of whom, when, a beat, gone. -/
structure Sd where
  p : Int
  at_ : Nat
  beat : Bool
  gone : Bool
  b : Bt
def Sd.zero : Sd := ⟨0, 0, false, false, .zero⟩
def sdF (x : Sd) : List Value := [.int .i64 x.p, .int .i64 x.at_, .bool x.beat, .bool x.gone, .int .u64 x.b.ce, .int .i64 x.b.cr, .int .u64 x.b.pe, .int .i64 x.b.pr, .int .u64 x.b.ep]
def entF (x : En) (e : Sd) : En := if e.gone = true then x.gone else if e.beat = true then ⟨e.b, true, true, e.at_⟩ else { x with ever := true, at_ := e.at_ }
def entS (p : Int) (x : En) (e : Sd) : En := if e.p = p then entF x e else x
def ent (p : Int) (all : List Sd) : En := all.foldl (entS p) .zero
theorem ent_snoc (p : Int) (all : List Sd) (e : Sd) : ent p (all ++ [e]) = entS p (ent p all) e := by rw [ent, List.foldl_append]; rfl
def En.ofE (x : En) : Bt × Bool := if x.said = true then (x.b, true) else (.zero, false)
/-- Nothing decides of p. -/
theorem fold_said {p : Int} {l : List Sd} (h : ∀ e ∈ l, e.p = p → e.gone = false ∧ e.beat = false) : ∀ x : En, (l.foldl (entS p) x).said = x.said ∧ (l.foldl (entS p) x).b = x.b := by
  induction l with
  | nil => intro x; exact ⟨rfl, rfl⟩
  | cons e l ih =>
    intro x
    rw [List.foldl_cons]
    obtain ⟨h1, h2⟩ := ih (fun y hy => h y (List.mem_cons_of_mem _ hy)) (entS p x e)
    rw [h1, h2]
    unfold entS
    split
    · obtain ⟨h3, h4⟩ := h e (List.mem_cons_self ..) (by assumption)
      rw [entF, if_neg (by rw [h3]; decide), if_neg (by rw [h4]; decide)]
      exact ⟨rfl, rfl⟩
    · exact ⟨rfl, rfl⟩
theorem fold_ever {p : Int} {l : List Sd} (h : ∀ e ∈ l, e.p = p → e.gone = true) : ∀ x : En, (l.foldl (entS p) x).ever = x.ever ∧ (l.foldl (entS p) x).at_ = x.at_ := by
  induction l with
  | nil => intro x; exact ⟨rfl, rfl⟩
  | cons e l ih =>
    intro x
    rw [List.foldl_cons]
    obtain ⟨h1, h2⟩ := ih (fun y hy => h y (List.mem_cons_of_mem _ hy)) (entS p x e)
    rw [h1, h2]
    unfold entS
    split
    · rw [entF, if_pos (h e (List.mem_cons_self ..) (by assumption))]
      exact ⟨rfl, rfl⟩
    · exact ⟨rfl, rfl⟩
theorem ent_cut (p : Int) (all : List Sd) (k : Nat) (hk : k < all.length) : ent p all = (all.drop (k + 1)).foldl (entS p) (entS p (ent p (all.take k)) all[k]) := by
  have : all = all.take k ++ all[k] :: all.drop (k + 1) := by rw [← List.drop_eq_getElem_cons hk, List.take_append_drop]
  conv => lhs; rw [this, ent, List.foldl_append, List.foldl_cons]
  rfl
theorem ent_of_gone {p : Int} {all : List Sd} {k : Nat} (hk : k < all.length) (hp : all[k].p = p) (hg : all[k].gone = true) (h : ∀ e ∈ all.drop (k + 1), e.p = p → e.gone = false ∧ e.beat = false) : (ent p all).ofE = (.zero, false) := by
  rw [ent_cut p all k hk]
  obtain ⟨h1, h2⟩ := fold_said h (entS p (ent p (all.take k)) all[k])
  rw [En.ofE, h1, entS, if_pos hp, entF, if_pos hg]
  rfl
theorem ent_of_beat {p : Int} {all : List Sd} {k : Nat} (hk : k < all.length) (hp : all[k].p = p) (hg : all[k].gone = false) (hb : all[k].beat = true) (h : ∀ e ∈ all.drop (k + 1), e.p = p → e.gone = false ∧ e.beat = false) : (ent p all).ofE = (all[k].b, true) := by
  rw [ent_cut p all k hk]
  obtain ⟨h1, h2⟩ := fold_said h (entS p (ent p (all.take k)) all[k])
  have hS : entS p (ent p (all.take k)) all[k] = ⟨all[k].b, true, true, all[k].at_⟩ := by
    rw [entS, if_pos hp, entF, hg, hb]; rfl
  rw [En.ofE, h1, h2, hS]
  rfl
theorem ent_of_none {p : Int} {all : List Sd} (h : ∀ e ∈ all, e.p = p → e.gone = false ∧ e.beat = false) : (ent p all).ofE = (.zero, false) := by
  obtain ⟨h1, _⟩ := fold_said h .zero
  rw [En.ofE, ent, h1]
  rfl
theorem ent_ever {p : Int} {all : List Sd} {k : Nat} (hk : k < all.length) (hp : all[k].p = p) (hg : all[k].gone = false) (h : ∀ e ∈ all.drop (k + 1), e.p = p → e.gone = true) : (ent p all).ever = true ∧ (ent p all).at_ = all[k].at_ := by
  rw [ent_cut p all k hk]
  obtain ⟨h1, h2⟩ := fold_ever h (entS p (ent p (all.take k)) all[k])
  have hS : (entS p (ent p (all.take k)) all[k]).ever = true ∧ (entS p (ent p (all.take k)) all[k]).at_ = all[k].at_ := by
    rw [entS, if_pos hp, entF, hg]
    cases all[k].beat <;> exact ⟨rfl, rfl⟩
  rw [h1, h2]
  exact hS
theorem ent_never {p : Int} {all : List Sd} (h : ∀ e ∈ all, e.p = p → e.gone = true) : (ent p all).ever = false := (fold_ever h .zero).1
theorem ent_zero {p : Int} {all : List Sd} (h : ∀ e ∈ all, e.p ≠ p) : ent p all = .zero := by
  unfold ent
  suffices k : ∀ x : En, all.foldl (entS p) x = x from k _
  induction all with
  | nil => intro x; rfl
  | cons e l ih =>
    intro x
    rw [List.foldl_cons, entS, if_neg (h e (List.mem_cons_self ..))]
    exact ih (fun y hy => h y (List.mem_cons_of_mem _ hy)) x
structure Rel (s : ES) (n : Int) (all : List Sd) : Prop where
  oth : s.oth = butN (allN n) (bitN s.me)
  l : ∀ p : Nat, p < 64 → s.l p = ent (p : Int) all
  own : ∀ e ∈ all, hasB s.oth e.p = true
theorem Rel.of {s : ES} {n : Int} {all : List Sd} (h : Rel s n all) (p : Int) : s.of p = (ent p all).ofE := by
  unfold ES.of
  cases hh : hasB s.oth p with
  | false =>
    rw [if_neg (by simp), ent_zero (p := p) (fun e he hep => by rw [← hep, h.own e he] at hh; cases hh)]
    rfl
  | true =>
    obtain ⟨q, rfl, hq⟩ := hasB_nat hh
    rw [Int.toNat_natCast, h.l q hq, En.ofE]
    simp
def other (me n p : Int) : Bool := decide (0 ≤ p) && (decide (p < n) && (decide (p < 64) && !decide (p = me)))
theorem hasB_oth (me n p : Int) : hasB (butN (allN n) (bitN me)) p = other me n p := by
  rw [hasB_eq]
  unfold other
  by_cases h : 0 ≤ p ∧ p < 64
  · obtain ⟨q, rfl⟩ : ∃ q : Nat, p = q := ⟨p.toNat, by omega⟩
    rw [decide_eq_true h, Bool.true_and, Int.toNat_natCast, but_bit (bitN_lt _) q (by omega), allN_bit _ _ (by omega), bitN_bit, decide_eq_true h.1, decide_eq_true h.2]
    simp only [Bool.true_and]
    congr 2
    by_cases e : (q : Int) = me
    · subst e; simp [h]
    · rw [decide_eq_false e]
      simp; omega
  · rw [decide_eq_false h]
    symm
    by_cases h0 : 0 ≤ p
    · have : ¬ p < 64 := fun k => h ⟨h0, k⟩
      simp [this]
    · simp [h0]
/-- An event of another process is heard. -/
theorem Rel.add {s t : ES} {n : Int} {all : List Sd} (h : Rel s n all) (e : Sd) (hh : hasB s.oth e.p = true) (hs : s.Same t) (hl : ∀ p : Nat, p < 64 → t.l p = entS p (s.l p) e) : Rel t n (all ++ [e]) := by
  refine ⟨by rw [hs.oth, hs.me]; exact h.oth, fun p hp => by rw [hl p hp, h.l p hp, ent_snoc], fun x hx => ?_⟩
  rw [hs.oth]
  rcases List.mem_append.1 hx with hx | hx
  · exact h.own x hx
  · rw [List.mem_singleton.1 hx]; exact hh
theorem Rel.tick {s : ES} {n : Int} {all : List Sd} (h : Rel s n all) : Rel s.tick n all := ⟨h.oth, h.l, h.own⟩
theorem Rel.hear {s : ES} {n : Int} {all : List Sd} (h : Rel s n all) (p : Int) (hh : hasB s.oth p = true) : Rel (s.hear p) n (all ++ [⟨p, s.now, false, false, .zero⟩]) :=
  h.add _ hh (s.same_hear p) fun q _ => by
    rw [s.hear_at p q]
    unfold entS
    by_cases e : p = q
    · rw [if_pos ⟨hh, e⟩, if_pos e]; rfl
    · rw [if_neg (fun k => e k.2), if_neg e]
theorem Rel.beat {s : ES} {n : Int} {all : List Sd} (h : Rel s n all) (p : Int) (b : Bt) (hh : hasB s.oth p = true) : Rel (s.beat p b) n (all ++ [⟨p, s.now, true, false, b⟩]) :=
  h.add _ hh (s.same_beat p b) fun q _ => by
    rw [s.beat_at p b q]
    unfold entS
    by_cases e : p = q
    · rw [if_pos ⟨hh, e⟩, if_pos e]; rfl
    · rw [if_neg (fun k => e k.2), if_neg e]
theorem ES.hear_none {s : ES} {p : Int} (h : hasB s.oth p = false) : s.hear p = s := by rw [ES.hear, if_neg (by rw [h]; decide)]
theorem ES.beat_none {s : ES} {p : Int} {b : Bt} (h : hasB s.oth p = false) : s.beat p b = s := by rw [ES.beat, if_neg (by rw [h]; decide)]
/-- The first k of those that are forgotten. -/
structure FRel (s : ES) (x : Nat) (n : Int) (k : Nat) (all : List Sd) : Prop where
  oth : s.oth = butN (allN n) (bitN s.me)
  l : ∀ p : Nat, p < 64 → ent (p : Int) all = if p < k ∧ x.testBit p = true ∧ s.oth.testBit p = true then (s.l p).gone else s.l p
  own : ∀ e ∈ all, hasB s.oth e.p = true
theorem Rel.forget0 {s : ES} {n : Int} {all : List Sd} (h : Rel s n all) (x : Nat) : FRel s x n 0 all := ⟨h.oth, fun p hp => by rw [if_neg (fun k => Nat.not_lt_zero _ k.1), h.l p hp], h.own⟩
theorem FRel.no {s : ES} {n : Int} {all : List Sd} {x k : Nat} (h : FRel s x n k all) (hn : ¬ (x.testBit k = true ∧ s.oth.testBit k = true)) : FRel s x n (k + 1) all := by
  refine ⟨h.oth, fun p hp => ?_, h.own⟩
  rw [h.l p hp]
  by_cases e : p = k
  · subst e; rw [if_neg (fun y => hn y.2), if_neg (fun y => hn y.2)]
  · by_cases y : p < k ∧ x.testBit p = true ∧ s.oth.testBit p = true
    · rw [if_pos y, if_pos ⟨by omega, y.2⟩]
    · rw [if_neg y, if_neg (fun z => y ⟨by omega, z.2⟩)]
theorem FRel.yes {s : ES} {n : Int} {all : List Sd} {x k : Nat} (h : FRel s x n k all) (hk : k < 64) (hn : x.testBit k = true ∧ s.oth.testBit k = true) : FRel s x n (k + 1) (all ++ [⟨k, s.now, false, true, .zero⟩]) := by
  refine ⟨h.oth, fun p hp => ?_, fun e he => ?_⟩
  · rw [ent_snoc, h.l p hp, entS]
    by_cases e : p = k
    · subst e
      rw [if_pos rfl, if_neg (fun y => Nat.lt_irrefl _ y.1), if_pos ⟨Nat.lt_succ_self _, hn⟩]
      rfl
    · rw [if_neg (by show ¬ (k : Int) = p; omega)]
      by_cases y : p < k ∧ x.testBit p = true ∧ s.oth.testBit p = true
      · rw [if_pos y, if_pos ⟨by omega, y.2⟩]
      · rw [if_neg y, if_neg (fun z => y ⟨by omega, z.2⟩)]
  · rcases List.mem_append.1 he with he | he
    · exact h.own e he
    · rw [List.mem_singleton.1 he]
      show hasB s.oth (k : Int) = true
      rw [hasB_bit k hk]; exact hn.2
theorem FRel.done {s : ES} {n : Int} {all : List Sd} {x : Nat} (h : FRel s x n 64 all) : Rel (s.forget x) n all := by
  have hs := s.same_forget x
  refine ⟨by rw [hs.oth, hs.me]; exact h.oth, fun p hp => ?_, fun e he => by rw [hs.oth]; exact h.own e he⟩
  rw [s.forget_at x p hp, h.l p hp]
  by_cases y : x.testBit p = true ∧ s.oth.testBit p = true
  · rw [if_pos y, if_pos ⟨hp, y⟩]
  · rw [if_neg y, if_neg (fun z => y z.2)]
theorem ent_fair (p : Int) (all : List Sd) : (ent p all).said = false → (ent p all).b = .zero := by
  unfold ent
  suffices k : ∀ x : En, (x.said = false → x.b = .zero) → (all.foldl (entS p) x).said = false → (all.foldl (entS p) x).b = .zero from k _ (fun _ => rfl)
  induction all with
  | nil => intro x h; exact h
  | cons e l ih =>
    intro x h
    rw [List.foldl_cons]
    refine ih _ fun hs => ?_
    unfold entS at hs ⊢
    split
    · rename_i hp
      rw [if_pos hp] at hs
      unfold entF at hs ⊢
      split
      · rfl
      · rename_i hg
        rw [if_neg hg] at hs
        split
        · rename_i hb
          rw [if_pos hb] at hs; cases hs
        · rename_i hb
          rw [if_neg hb] at hs
          exact h hs
    · rename_i hp
      rw [if_neg hp] at hs
      exact h hs
def repochN (all : List Sd) (k : Nat) : Nat := (List.range k).foldl (fun (n : Nat) (i : Nat) => ((ent (i : Int) all).ofE.1).top n) 0
theorem repochN_succ (all : List Sd) (k : Nat) : repochN all (k + 1) = ((ent k all).ofE.1).top (repochN all k) := by rw [repochN, List.range_succ, List.foldl_append]; rfl
theorem ofE_b {x : En} (h : x.said = false → x.b = .zero) : x.ofE.1 = x.b := by
  unfold En.ofE
  cases hs : x.said with
  | true => rw [if_pos rfl]
  | false => rw [if_neg (by decide), h hs]
theorem ofE_said (x : En) : x.ofE.2 = x.said := by unfold En.ofE; cases x.said <;> rfl
theorem Rel.epoch {s : ES} {n : Int} {all : List Sd} (h : Rel s n all) : repochN all 64 = s.epoch := by
  have : ∀ k, k ≤ 64 → repochN all k = epL s k := by
    intro k
    induction k with
    | zero => intro _; rfl
    | succ k ih =>
      intro hk
      rw [repochN_succ, epL_succ, ih (by omega), h.l k (by omega), ofE_b (ent_fair k all)]
  exact this 64 (Nat.le_refl _)
def reachedB (timeout : Int) (now : Nat) (x : En) : Bool := x.ever && decide ((now : Int) - x.at_ ≤ timeout)
def reachQ (me n timeout : Int) (now : Nat) (all : List Sd) (i : Nat) : Bool := decide ((i : Int) = me) || (other me n i && reachedB timeout now (ent i all))
theorem Rel.reach {s : ES} {n : Int} {all : List Sd} (h : Rel s n all) {z : Nat} (hz : z < 18446744073709551616) (hb : ∀ i, i < 64 → z.testBit i = reachQ s.me n s.timeout s.now all i) : z = s.reach :=
  ext64 hz s.reach_lt fun i hi => by
    rw [hb i hi, s.reach_bit i hi, reachQ]
    have e1 : decide (s.me = (i : Int)) = decide ((i : Int) = s.me) := by rw [decide_eq_decide]; exact eq_comm
    rw [e1]
    congr 1
    rw [← hasB_oth, ← h.oth, hasB_bit i hi, reachedB, ← h.l i hi]
    rfl
def strQ (ce : Nat) (cr : Int) (x : Nat) (all : List Sd) (i : Nat) : Bool := (ent i all).ofE.2 && (x.testBit i && !decide ((ent i all).ofE.1.pe = ce ∧ (ent i all).ofE.1.pr = cr))
theorem Rel.strange {s : ES} {n : Int} {all : List Sd} (h : Rel s n all) (x ce : Nat) (cr : Int) {z : Nat} (hz : z < 18446744073709551616) (hb : ∀ i, i < 64 → z.testBit i = strQ ce cr x all i) : z = s.strange x ce cr := by
  refine ext64 hz (orF_lt (by decide)) fun i hi => ?_
  rw [hb i hi, ES.strange, strL, orF_bit (fun p hp => memN_lt _ p hp) i 0, Nat.zero_testBit, Bool.false_or, strQ, ofE_said, ofE_b (ent_fair i all), ← h.l i hi, ES.odd]
  have e : (memN (x &&& s.oth)).contains i = (x.testBit i && s.oth.testBit i) := by
    rw [Bool.eq_iff_iff]
    simp [memN_mem, hi, Nat.testBit_and]
  rw [e]
  cases hsd : (s.l i).said with
  | false => simp
  | true =>
    have ho : s.oth.testBit i = true := by
      cases ho : s.oth.testBit i with
      | true => rfl
      | false =>
        have hz : ent i all = .zero := ent_zero fun e he hep => by
          have := h.own e he
          rw [hep, hasB_bit i hi, ho] at this
          cases this
        rw [h.l i hi, hz] at hsd
        cases hsd
    rw [ho]
    cases x.testBit i <;> simp
end Go.Proofs.YtpnmhlcbmbpfdaaDoor
