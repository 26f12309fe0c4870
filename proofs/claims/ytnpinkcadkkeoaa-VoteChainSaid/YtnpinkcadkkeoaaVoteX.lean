/- the plain law of VoteChain -/
import Derived.Test.YtnpinkcadkkeoaaVoteT
import Derived.Test.YtnpinkcadkkeoaaVoteR
namespace Go.Proofs.Ytnpinkcadkkeoaa
open Go.RowKit Go.Sort

def addR (r : Rc) (v : Vw) : Rc := ⟨r.last, if r.pend.length < 32 then r.pend ++ [v] else r.pend⟩
def formR (r : Rc) (v : Vw) : Rc := ⟨v, r.pend.filter fun u => !decide (u.num ≤ v.num)⟩
def toldL (m : Nat) (R : Nat → Rc) (k : Nat) : List Rc := ((List.range k).filter fun p => m.testBit p).map R
theorem toldL_succ (m : Nat) (R : Nat → Rc) (k : Nat) : toldL m R (k + 1) = toldL m R k ++ (if m.testBit k = true then [R k] else []) := by
  unfold toldL
  rw [List.range_succ, List.filter_append, List.map_append]
  congr 1
  by_cases h : m.testBit k = true <;> simp [h]
theorem toldL_mem {m : Nat} {R : Nat → Rc} {k : Nat} {r : Rc} : r ∈ toldL m R k ↔ ∃ p, p < k ∧ m.testBit p = true ∧ r = R p := by
  unfold toldL
  simp only [List.mem_map, List.mem_filter, List.mem_range]
  constructor
  · rintro ⟨p, ⟨h1, h2⟩, rfl⟩; exact ⟨p, h1, h2, rfl⟩
  · rintro ⟨p, h1, h2, rfl⟩; exact ⟨p, ⟨h1, h2⟩, rfl⟩
/-- The state behind p < k of the first round: what is written down; of the second: what is formed. -/
def wroteR (m wr : Nat) (v : Vw) (R : Nat → Rc) (k : Nat) : Nat → Rc := fun p => if p < k ∧ m.testBit p = true ∧ wr.testBit p = true then addR (R p) v else R p
def allW (m wr : Nat) (R : Nat → Rc) (k : Nat) : Bool := (List.range k).all fun p => !m.testBit p || (wr.testBit p && decide ((R p).pend.length < 32))
def formdR (m fo : Nat) (v : Vw) (R : Nat → Rc) (k : Nat) : Nat → Rc := fun p => if p < k ∧ m.testBit p = true ∧ fo.testBit p = true then formR (R p) v else R p
def anyF (m fo : Nat) (k : Nat) : Bool := (List.range k).any fun p => m.testBit p && fo.testBit p
theorem allW_succ (m wr : Nat) (R : Nat → Rc) (k : Nat) : allW m wr R (k + 1) = (allW m wr R k && (!m.testBit k || (wr.testBit k && decide ((R k).pend.length < 32)))) := by simp [allW, List.range_succ]
theorem anyF_succ (m fo k : Nat) : anyF m fo (k + 1) = (anyF m fo k || (m.testBit k && fo.testBit k)) := by simp [anyF, List.range_succ]
def v00 : Vw := ⟨0, 0, 0, 31⟩
structure Chained (G : List Vw) : Prop where
  ne : G ≠ []
  step : ∀ j (h : j + 1 < G.length), mostP G[j + 1].mem G[j].mem ∧ G[j].num < G[j + 1].num
structure Good (i : Nat) (R : Nat → Rc) (G : List Vw) : Prop where
  ch : Chained G
  wf : ∀ p, p < 5 → (R p).Wf
  few : ∀ p, p < 5 → (R p).pend.length ≤ 32
  num : ∀ p, p < 5 → (R p).last.num ≤ i ∧ ∀ v ∈ (R p).pend, v.num ≤ i
  last : ∀ p, p < 5 → (R p).last ∈ G
  known : ∀ j (h : j < G.length) p, p < 5 → G[j].mem.testBit p = true → G[j].num ≤ (R p).last.num ∨ G[j] ∈ (R p).pend
  mems : ∀ g ∈ G, g.mem < 32
theorem Chained.lt {G : List Vw} (h : Chained G) : ∀ k j (hk : j + k + 1 < G.length), G[j].num < G[j + k + 1].num := by
  intro k
  induction k with
  | zero => intro j hk; exact (h.step j hk).2
  | succ k ih => intro j hk; exact Nat.lt_trans (ih j (by omega)) (h.step (j + k + 1) hk).2
theorem Chained.le {G : List Vw} (h : Chained G) (a b : Nat) (hab : a ≤ b) (hb : b < G.length) : G[a].num ≤ G[b].num := by
  rcases Nat.lt_or_ge a b with h1 | h1
  · obtain ⟨k, rfl⟩ : ∃ k, b = a + k + 1 := ⟨b - a - 1, by omega⟩
    exact Nat.le_of_lt (h.lt k a hb)
  · obtain rfl : a = b := by omega
    exact Nat.le_refl _
theorem mem32 {x p : Nat} (h : x < 32) (hp : x.testBit p = true) : p < 5 := by
  rcases Nat.lt_or_ge p 5 with h1 | h1
  · exact h1
  · rw [Nat.testBit_lt_two_pow (Nat.lt_of_lt_of_le h (Nat.pow_le_pow_right (n := 2) (by decide) h1))] at hp; cases hp
theorem meet_bit {x y z : Nat} (h1 : mostP x z) (h2 : mostP y z) : ∃ p, x.testBit p = true ∧ y.testBit p = true := by
  have h := meet_ne h1 h2
  obtain ⟨p, hp⟩ := Nat.exists_testBit_of_ne_zero h
  rw [Nat.testBit_and, Nat.testBit_and] at hp
  simp only [Bool.and_eq_true] at hp
  exact ⟨p, hp.1.1, hp.1.2⟩
theorem lastL_mem {l : List Rc} (h : l ≠ []) : ∃ r ∈ l, lastL l = r.last ∧ ∀ s ∈ l, s.last.num ≤ r.last.num := by
  obtain ⟨i, hi, h1, h2, _⟩ := lastL_spec h
  exact ⟨l[i], List.getElem_mem hi, h1, h2⟩
theorem pendR_sup {m : Nat} {l : List Rc} : ∀ {o : List Vw} (v : Vw), (v ∈ o ∨ ∃ r ∈ l, v ∈ r.pend ∧ m < v.num) → v ∈ pendR m o l := by
  induction l with
  | nil => intro o v h; rcases h with h | ⟨_, hr, _⟩; exact h; cases hr
  | cons x l ih =>
    intro o v h
    rw [pendR, List.foldl_cons]
    refine ih v ?_
    rcases h with h | ⟨r, hr, hv, hm⟩
    · exact .inl (pendV_sup v (.inl h))
    · rcases List.mem_cons.1 hr with rfl | hr
      · exact .inl (pendV_sup v (.inr ⟨hv, hm⟩))
      · exact .inr ⟨r, hr, hv, hm⟩
theorem may_top {i m : Nat} {R : Nat → Rc} {G : List Vw} (g : Good i R G) (h : mayB m (toldL m R 5) = true) :
    ∀ j (hj : j < G.length), (lastL (toldL m R 5)).num ≤ G[j].num → mostP m G[j].mem ∧ ∃ r ∈ toldL m R 5, G[j].num ≤ r.last.num ∨ G[j] ∈ r.pend := by
  obtain ⟨h0, h1, h2⟩ := mayB_t.1 h
  obtain ⟨r0, hr0, hl, hmax⟩ := lastL_mem h0
  obtain ⟨p0, hp0, _, rfl⟩ := toldL_mem.1 hr0
  obtain ⟨j0, hj0, he0⟩ := List.mem_iff_getElem.1 (g.last p0 hp0)
  have key : ∀ k (hk : j0 + k < G.length), mostP m G[j0 + k].mem ∧ ∃ r ∈ toldL m R 5, G[j0 + k].num ≤ r.last.num ∨ G[j0 + k] ∈ r.pend := by
    intro k
    induction k with
    | zero =>
      intro hk
      refine ⟨?_, R p0, hr0, .inl ?_⟩
      · simp only [Nat.add_zero, he0, ← hl]; exact h1
      · simp only [Nat.add_zero, he0]; exact Nat.le_refl _
    | succ k ih =>
      intro hk
      show mostP m (G[j0 + k + 1]'hk).mem ∧ ∃ r ∈ toldL m R 5, (G[j0 + k + 1]'hk).num ≤ r.last.num ∨ (G[j0 + k + 1]'hk) ∈ r.pend
      obtain ⟨k1, _⟩ := ih (by omega)
      obtain ⟨s1, s2⟩ := g.ch.step (j0 + k) hk
      obtain ⟨p, hpm, hpg⟩ := meet_bit k1 s1
      have hp5 := mem32 (g.mems _ (List.getElem_mem hk)) hpg
      have hr : R p ∈ toldL m R 5 := toldL_mem.2 ⟨p, hp5, hpm, rfl⟩
      have hlt : (R p0).last.num < G[j0 + k + 1].num := by
        have := g.ch.lt k j0 hk
        rw [he0] at this
        exact this
      rcases g.known (j0 + k + 1) hk p hp5 hpg with h3 | h3
      · have := hmax _ hr
        omega
      · have hin : G[j0 + k + 1] ∈ pendL (toldL m R 5) := pendR_sup _ (.inr ⟨R p, hr, h3, by rw [hl]; exact hlt⟩)
        exact ⟨h2 _ hin, R p, hr, .inr h3⟩
  intro j hj hle
  have hjj : j0 ≤ j := by
    rcases Nat.lt_or_ge j j0 with h3 | h3
    · obtain ⟨k, rfl⟩ : ∃ k, j0 = j + k + 1 := ⟨j0 - j - 1, by omega⟩
      have := g.ch.lt k j hj0
      rw [hl, ← he0] at hle
      omega
    · exact h3
  obtain ⟨k, rfl⟩ : ∃ k, j = j0 + k := ⟨j - j0, by omega⟩
  exact key k hj
theorem maxR_ge {l : List Rc} : ∀ {z : Nat}, z ≤ maxR z l ∧ ∀ r ∈ l, r.last.num ≤ maxR z l ∧ ∀ v ∈ r.pend, v.num ≤ maxR z l := by
  induction l with
  | nil => intro z; exact ⟨Nat.le_refl _, fun r hr => by cases hr⟩
  | cons x l ih =>
    intro z
    have h := @ih (maxV (max z x.last.num) x.pend)
    have k := @maxV_ge x.pend (max z x.last.num)
    rw [maxR, List.foldl_cons]
    refine ⟨Nat.le_trans (Nat.le_trans (Nat.le_max_left ..) k.1) h.1, fun r hr => ?_⟩
    rcases List.mem_cons.1 hr with rfl | hr
    · exact ⟨Nat.le_trans (Nat.le_trans (Nat.le_max_right ..) k.1) h.1, fun v hv => Nat.le_trans (k.2 v hv) h.1⟩
    · exact h.2 r hr
theorem maxV_le {pd : List Vw} {b : Nat} : ∀ {z : Nat}, z ≤ b → (∀ v ∈ pd, v.num ≤ b) → maxV z pd ≤ b := by
  induction pd with
  | nil => intro z h _; exact h
  | cons x pd ih => intro z h hv; exact ih (Nat.max_le.2 ⟨h, hv x (List.mem_cons_self ..)⟩) (fun v h => hv v (List.mem_cons_of_mem _ h))
theorem maxR_le {l : List Rc} {b : Nat} : ∀ {z : Nat}, z ≤ b → (∀ r ∈ l, r.last.num ≤ b ∧ ∀ v ∈ r.pend, v.num ≤ b) → maxR z l ≤ b := by
  induction l with
  | nil => intro z h _; exact h
  | cons x l ih =>
    intro z h hv
    have hx := hv x (List.mem_cons_self ..)
    exact ih (maxV_le (Nat.max_le.2 ⟨h, hx.1⟩) hx.2) (fun v h => hv v (List.mem_cons_of_mem _ h))
theorem next_facts {i m : Nat} {R : Nat → Rc} {G : List Vw} (g : Good i R G) (hi : i < 1000) : nextL (toldL m R 5) = maxR 0 (toldL m R 5) + 1 ∧ maxR 0 (toldL m R 5) ≤ i := by
  have h : maxR 0 (toldL m R 5) ≤ i := maxR_le (Nat.zero_le _) fun r hr => by
    obtain ⟨p, hp, _, rfl⟩ := toldL_mem.1 hr
    exact g.num p hp
  refine ⟨?_, h⟩
  rw [nextL, sumN, if_neg (by omega)]
theorem next_top {i m : Nat} {R : Nat → Rc} {G : List Vw} (g : Good i R G) (hi : i < 1000) (h : mayB m (toldL m R 5) = true) : ∀ u ∈ G, u.num < nextL (toldL m R 5) := by
  intro u hu
  obtain ⟨j, hj, rfl⟩ := List.mem_iff_getElem.1 hu
  rw [(next_facts g hi).1]
  have hmx := @maxR_ge (toldL m R 5) 0
  have h0 := (mayB_t.1 h).1
  obtain ⟨r0, hr0, hl, _⟩ := lastL_mem h0
  rcases Nat.lt_or_ge G[j].num (lastL (toldL m R 5)).num with h1 | h1
  · have := (hmx.2 r0 hr0).1
    rw [hl] at h1
    omega
  · obtain ⟨_, r, hr, hk⟩ := may_top g h j hj h1
    rcases hk with hk | hk
    · have := (hmx.2 r hr).1; omega
    · have := (hmx.2 r hr).2 _ hk; omega
theorem addR_pend {r : Rc} {v : Vw} : (∀ u ∈ r.pend, u ∈ (addR r v).pend) ∧ ∀ u ∈ (addR r v).pend, u ∈ r.pend ∨ u = v := by
  unfold addR
  split
  · exact ⟨fun u hu => List.mem_append_left _ hu, fun u hu => by
      rcases List.mem_append.1 hu with h | h
      · exact .inl h
      · exact .inr (List.mem_singleton.1 h)⟩
  · exact ⟨fun u hu => hu, fun u hu => .inl hu⟩
/-- What is written down spoils nothing. -/
theorem Good.wrote {i m wr : Nat} {R : Nat → Rc} {G : List Vw} (g : Good i R G) {v : Vw} (hv : v.Wf) (hn : v.num ≤ i + 1) (k : Nat) : Good (i + 1) (wroteR m wr v R k) G := by
  refine ⟨g.ch, fun p hp => ?_, fun p hp => ?_, fun p hp => ?_, fun p hp => ?_, fun j hj p hp hb => ?_, g.mems⟩
  all_goals
    unfold wroteR
    split
  · refine ⟨(g.wf p hp).1, fun u hu => ?_⟩
    rcases addR_pend.2 u hu with h | rfl
    · exact (g.wf p hp).2 u h
    · exact hv
  · exact g.wf p hp
  · unfold addR
    have := g.few p hp
    split
    · simp; omega
    · exact this
  · exact g.few p hp
  · obtain ⟨h1, h2⟩ := g.num p hp
    refine ⟨Nat.le_succ_of_le h1, fun u hu => ?_⟩
    rcases addR_pend.2 u hu with h | rfl
    · exact Nat.le_succ_of_le (h2 u h)
    · exact hn
  · obtain ⟨h1, h2⟩ := g.num p hp
    exact ⟨Nat.le_succ_of_le h1, fun u hu => Nat.le_succ_of_le (h2 u hu)⟩
  · exact g.last p hp
  · exact g.last p hp
  · rcases g.known j hj p hp hb with h | h
    · exact .inl h
    · exact .inr (addR_pend.1 _ h)
  · exact g.known j hj p hp hb
/-- All wrote: then the view may be formed. -/
theorem Good.formd {i m wr fo : Nat} {R : Nat → Rc} {G : List Vw} (g : Good i R G) (hi : i < 1000) {v : Vw} (hv : v.Wf) (hm : v.mem = m) (hm5 : m < 32) (hn : v.num = nextL (toldL m R 5)) (hmay : mayB m (toldL m R 5) = true) (hall : allW m wr R 5 = true) :
    Good (i + 1) (formdR m fo v (wroteR m wr v R 5) 5) (G ++ [v]) := by
  have hnf := next_facts (m := m) g hi
  have htop := next_top g hi hmay
  have g1 := Good.wrote (m := m) (wr := wr) g hv (by omega) 5
  have hne := g.ch.ne
  have hlen : 0 < G.length := by cases G with | nil => exact absurd rfl hne | cons _ _ => simp
  have hall' : ∀ p, p < 5 → m.testBit p = true → wr.testBit p = true ∧ (R p).pend.length < 32 := fun p hp hb => by
    have := List.all_eq_true.1 hall p (List.mem_range.2 hp)
    rw [hb] at this
    simpa using this
  have hlast : mostP m (G[G.length - 1]'(by omega)).mem := by
    refine (may_top g hmay (G.length - 1) (by omega) ?_).1
    obtain ⟨r0, hr0, hl, _⟩ := lastL_mem (mayB_t.1 hmay).1
    obtain ⟨p0, hp0, _, rfl⟩ := toldL_mem.1 hr0
    obtain ⟨j0, hj0, he0⟩ := List.mem_iff_getElem.1 (g.last p0 hp0)
    rw [hl, ← he0]
    exact g.ch.le _ _ (by omega) _
  refine ⟨⟨by simp, fun j hj => ?_⟩, fun p hp => ?_, fun p hp => ?_, fun p hp => ?_, fun p hp => ?_, fun j hj p hp hb => ?_, fun u hu => ?_⟩
  · rw [List.length_append, List.length_singleton] at hj
    rcases Nat.lt_or_ge (j + 1) G.length with h | h
    · rw [List.getElem_append_left h, List.getElem_append_left (by omega)]
      exact g.ch.step j h
    · obtain rfl : j = G.length - 1 := by omega
      have e1 : (G ++ [v])[G.length - 1 + 1]'(by simp; omega) = v := by
        rw [List.getElem_append_right (by omega)]; simp
      have e2 : (G ++ [v])[G.length - 1]'(by simp; omega) = G[G.length - 1]'(by omega) := List.getElem_append_left (by omega)
      rw [e1, e2, hm, hn]
      exact ⟨hlast, htop _ (List.getElem_mem _)⟩
  all_goals try (unfold formdR; split)
  · refine ⟨hv, fun u hu => (g1.wf p hp).2 u (List.mem_filter.1 hu).1⟩
  · exact g1.wf p hp
  · exact Nat.le_trans (List.length_filter_le ..) (g1.few p hp)
  · exact g1.few p hp
  · refine ⟨by show v.num ≤ _; omega, fun u hu => (g1.num p hp).2 u (List.mem_filter.1 hu).1⟩
  · exact g1.num p hp
  · exact List.mem_append_right _ (List.mem_singleton_self _)
  · exact List.mem_append_left _ (g1.last p hp)
  · left
    rw [List.length_append, List.length_singleton] at hj
    show _ ≤ v.num
    rcases Nat.lt_or_ge j G.length with h | h
    · rw [List.getElem_append_left h, hn]
      exact Nat.le_of_lt (htop _ (List.getElem_mem _))
    · obtain rfl : j = G.length := by omega
      rw [List.getElem_append_right (by omega)]; simp
  · rw [List.length_append, List.length_singleton] at hj
    rcases Nat.lt_or_ge j G.length with h | h
    · rw [List.getElem_append_left h] at hb ⊢
      exact g1.known j h p hp hb
    · obtain rfl : j = G.length := by omega
      rw [List.getElem_append_right (by omega)] at hb ⊢
      simp only [Nat.sub_self, List.getElem_singleton] at hb ⊢
      right
      rw [hm] at hb
      obtain ⟨h1, h2⟩ := hall' p hp hb
      unfold wroteR
      rw [if_pos ⟨hp, hb, h1⟩, addR, if_pos h2]
      exact List.mem_append_right _ (List.mem_singleton_self _)
  · rcases List.mem_append.1 hu with h | h
    · exact g.mems u h
    · rw [List.mem_singleton.1 h, hm]; exact hm5
theorem good0 : Good 0 (fun _ => ⟨v00, []⟩) [v00] := by
  refine ⟨⟨by simp, fun j hj => by simp at hj⟩, fun p _ => ⟨⟨by decide, by decide⟩, fun u hu => by cases hu⟩, fun p _ => Nat.zero_le _, fun p _ => ⟨Nat.le_refl _, fun u hu => by cases hu⟩, fun p _ => List.mem_singleton_self _, fun j hj p _ _ => ?_, fun u hu => by rw [List.mem_singleton.1 hu]; decide⟩
  left
  obtain rfl : j = 0 := by simp at hj; exact hj
  exact Nat.le_refl _
theorem Good.more {i : Nat} {R : Nat → Rc} {G : List Vw} (g : Good i R G) : Good (i + 1) R G :=
  ⟨g.ch, g.wf, g.few, fun p hp => ⟨Nat.le_succ_of_le (g.num p hp).1, fun v hv => Nat.le_succ_of_le ((g.num p hp).2 v hv)⟩, g.last, g.known, g.mems⟩
end Go.Proofs.Ytnpinkcadkkeoaa
