/- Add, Form on records in an array; the state of VoteChain's rounds -/
import Derived.Test.YtnpinkcadkkeoaaVoteY
namespace Go.Proofs.Ytnpinkcadkkeoaa
open Go.RowKit Go.Sort

theorem RaOk.below {w w' : World} {b : Nat} {x : RA} (h : RaOk w b x) (k : Below w.heap.size w w') : RaOk w' b x := ⟨h.1.below k (Nat.le_refl _), h.2⟩
theorem RaOk.lt {w : World} {b : Nat} {x : RA} (h : RaOk w b x) : x.n = 0 ∨ ∀ g off, x.a = some ⟨g, off, none⟩ → g < w.heap.size := by
  rcases h.1.2 with h0 | ⟨b', off, he, hlt, _⟩
  · exact .inl h0
  · refine .inr fun g off' e => ?_
    rw [he] at e
    simp only [Option.some.injEq, Addr.mk.injEq, and_true] at e
    rw [← e.1]; exact hlt
theorem RaOk.kp {w w' : World} {b tb : Nat} {x : RA} (h : RaOk w b x) (k : Kp tb w w') (hne : x.n = 0 ∨ ∀ g off, x.a = some ⟨g, off, none⟩ → g ≠ tb) : RaOk w' b x := by
  refine ⟨?_, h.2⟩
  rcases hne with h0 | hne
  · exact ⟨h.1.1, .inl h0⟩
  · exact k.rd h.1 hne
theorem add_ra (x : RA) (v : Vw) (rb : Nat) (w : World) (hx : RaOk w rb x) (hrb : rb < w.heap.size) :
    Calls Try.prog 21 #[.agg #[.int .u64 x.r.last.num, .int .u64 x.r.last.ce, .int .i64 x.r.last.cr, .int .u64 x.r.last.mem, .slice x.a x.n x.c], .agg #[.int .u64 v.num, .int .u64 v.ce, .int .i64 v.cr, .int .u64 v.mem]] w fun e w' => ∃ y : RA, e = .returned (.tuple #[.agg #[.int .u64 y.r.last.num, .int .u64 y.r.last.ce, .int .i64 y.r.last.cr, .int .u64 y.r.last.mem, .slice y.a y.n y.c], .bool (decide (x.r.pend.length < 32))]) ∧ Hid (y.r = addR x.r v) ∧ RaOk w' rb y ∧ Hid (y = x ∨ ∀ g off, y.a = some ⟨g, off, none⟩ → w.heap.size ≤ g) ∧ Below w.heap.size w w' := by
  obtain ⟨⟨la, pd⟩, a, n, c⟩ := x
  have hl : pd.length = n := hx.1.len
  have hm : n ≤ 9223372036854775807 := hx.1.le_max
  by_cases h : n < 32
  · refine (add_yes2 la v a n c pd h w hx.1).mono ?_
    rintro e w' ⟨a', c', rfl, h1, h2, h3⟩
    refine ⟨⟨⟨la, pd ++ [v]⟩, a', n + 1, c'⟩, ?_, ?_, ⟨h1, fun g off e => by have := h3 g off e; omega⟩, .inr h3, h2⟩
    · simp only [hl, decide_eq_true h]
    · show _ = addR _ _
      rw [addR, if_pos (by simp only; omega)]
  · refine (add_no la v a n c (by omega) hm w).mono ?_
    rintro e w' ⟨rfl, h2⟩
    refine ⟨⟨⟨la, pd⟩, a, n, c⟩, ?_, ?_, hx.below h2, .inl rfl, h2⟩
    · simp only [hl, decide_eq_false h]
    · show _ = addR _ _
      rw [addR, if_neg (by simp only; omega)]
theorem form_ra (x : RA) (v : Vw) (rb : Nat) (w : World) (hx : RaOk w rb x) (hrb : rb < w.heap.size) (hf : x.r.pend.length ≤ 32) :
    Calls Try.prog 22 #[.agg #[.int .u64 x.r.last.num, .int .u64 x.r.last.ce, .int .i64 x.r.last.cr, .int .u64 x.r.last.mem, .slice x.a x.n x.c], .agg #[.int .u64 v.num, .int .u64 v.ce, .int .i64 v.cr, .int .u64 v.mem]] w fun e w' => ∃ y : RA, e = .returned (.agg #[.int .u64 y.r.last.num, .int .u64 y.r.last.ce, .int .i64 y.r.last.cr, .int .u64 y.r.last.mem, .slice y.a y.n y.c]) ∧ Hid (y.r = formR x.r v) ∧ RaOk w' rb y ∧ Hid (∀ g off, y.a = some ⟨g, off, none⟩ → w.heap.size ≤ g) ∧ Below w.heap.size w w' := by
  obtain ⟨⟨la, pd⟩, a, n, c⟩ := x
  have hl : pd.length = n := hx.1.len
  refine (form_any2 la v a n c pd (by simp only at hf; omega) w hx.1).mono ?_
  rintro e w' ⟨a', c', rfl, h1, h2, h3⟩
  exact ⟨⟨⟨v, formL v pd⟩, a', (formL v pd).length, c'⟩, rfl, rfl, ⟨h1, fun g off e => by have := h3 g off e; omega⟩, h3, h2⟩
theorem own_kp {w w' : World} {base b : Nat} {e : TypeId} {size : Nat} {v : Value} {n : Nat} {xs : List Value} (h : w.ownsRow base e size v n xs) (k : Kp b w w') (hb : b < base) : w'.ownsRow base e size v n xs := by
  obtain ⟨h1, h2⟩ := h
  refine ⟨h1, ?_⟩
  rcases h2 with h2 | ⟨g, cap, cur, hv, hg, hblk, r⟩
  · exact .inl h2
  · exact .inr ⟨g, cap, cur, hv, hg, (k.block g (Array.getElem?_eq_some_iff.1 hblk).1 (by omega)).trans hblk, r⟩
/-- The lists of the records lie apart from what was formed. -/
def Apart (o : Value) (S : Nat → RA) : Prop := ∀ p, p < 5 → (S p).n ≠ 0 → ∀ g off, (S p).a = some ⟨g, off, none⟩ → o.ownBlock ≠ some g
theorem RecsAt.grown {w w' : World} {b : Nat} {S : Nat → RA} {row : Option Nat} (h : RecsAt w b S) (hg : w.grownBy w' row) (hb : row ≠ some b) (hap : ∀ p, p < 5 → (S p).n ≠ 0 → ∀ g off, (S p).a = some ⟨g, off, none⟩ → row ≠ some g) : RecsAt w' b S := by
  refine ⟨(hg.block b h.lt (fun e => hb e.symm)).trans h.row, fun p hp => ⟨?_, (h.ok p hp).2⟩⟩
  have h1 := (h.ok p hp).1
  rcases h1.2 with h0 | ⟨g, off, ha, hlt, hc⟩
  · exact ⟨h1.1, .inl h0⟩
  · by_cases hn : (S p).n = 0
    · exact ⟨h1.1, .inl hn⟩
    · exact ⟨h1.1, .inr ⟨g, off, ha, Nat.lt_of_lt_of_le hlt hg.size, fun j u hu => hg.cell (hc j u hu) (fun e => hap p hp hn g off ha e.symm)⟩⟩
/-- An append, and where the row lies then. -/
theorem wpList_append_apart {P : Program} {w : World} {ops : Array Oper} {rest : List Oper} {o : Oper} {a : Act} {Q : Exit → Act → World → Prop} {t e : TypeId} {z : Value} {size bytes : Nat} (E : Elt P t e z size bytes) (hgd : o.guard = none) (s x : Operand)
    (ho : o.op = .call { callee := .builtin .append, args := #[s, x], argTypes := #[t, t] })
    {base : Nat} {v : Value} {n : Nat} {xs : List Value} (hown : w.ownsRow base e size v n xs) (hs : a.eval s = v)
    {b off m c : Nat} {news : List Value} (hr : Rd w size (some ⟨b, off, none⟩) m c news) (hm : 0 < m) (hx : a.eval x = .slice (some ⟨b, off, none⟩) m c) (h1 : ∀ u ∈ news, u.oneCell' = true)
    (h63 : n + m ≤ maxLen) (hbytes : (n + m) * bytes ≤ 140737488355328) (hbase : base ≤ w.heap.size)
    (h : ∀ v' w', w'.ownsRow base e size v' (n + m) (xs ++ news) → w.grownBy w' v.ownBlock → (v'.ownBlock = v.ownBlock ∨ ∀ k, v'.ownBlock = some k → w.heap.size ≤ k) → wpList P ops Q rest (a.put o.dst v') w') : wpList P ops Q (o :: rest) a w := by
  obtain ⟨i, hi, hz0, hz1, hz2⟩ := info_parts E.info
  have hnews : ∀ j u, news[j]? = some u → w.cell? ((⟨b, off, none⟩ : Addr).add j) = some u := fun j u hu => by rw [add_zero_off]; exact hr.at hu
  have hown' := hown
  obtain ⟨hl, h2⟩ := hown
  rcases h2 with ⟨rfl, rfl⟩ | ⟨g, cap, cur, rfl, hb, hg, hle, hmx, hsz, htk⟩
  · obtain rfl : xs = [] := List.eq_nil_of_length_eq_zero (by simpa using hl)
    refine wpList_append_grows w hgd s x t ho e i z size bytes E.ty hi hz0 hz1 hz2 E.cells E.pos none 0 0 [] hs (fun _ => ⟨rfl, rfl⟩) (by simp) (fun b h => by cases h) ⟨b, off, none⟩ m c news hx hr.length_eq hnews h1 (by omega) h63 hbytes ?_
    intro v' w' r1 r2
    exact h v' w' (own_mono r1 hbase) r2 (.inr fun k hk => (r1.lt k hk).1)
  · by_cases hroom : n + m ≤ cap
    · refine wpList_plain hgd fun K hK' => ?_
      obtain ⟨v', w', hr', h2, h3, _⟩ := run_append_own (P := P) w base t o.type e i z size bytes E.ty hi hz0 hz1 hz2 E.cells E.pos _ n xs hown' ⟨b, off, none⟩ m c news hr.length_eq hnews h1 h63 hbytes hbase
      have hlen := hr.length_eq
      have hr2 := run_append_room_cells (P := P) w t o.type e i E.ty hi g 0 n cap ⟨b, off, none⟩ m c news (by rw [hz1]; exact hlen) hnews h1 hroom (fun j hj => by
          rw [hz1, cell_of_row w g _ _ _ _ hg, Array.getElem?_eq_getElem]
          · rfl
          · rw [hsz]
            have : (n + m) * size ≤ cap * size := Nat.mul_le_mul_right _ hroom
            rw [Nat.add_mul] at this
            omega) (fun j _ => frozen_of_row w g _ _ _ hg)
      rw [hr'] at hr2
      injection hr2 with e1 e2
      unfold Oper.wp
      simp [execOp, ho, resolve, invoke, builtin, hs, hx, hr', Result.andThen]
      exact hK' _ _ (h v' w' h2 h3 (.inl (by rw [e1]; rfl)))
    · refine wpList_append_grows w hgd s x t ho e i z size bytes E.ty hi hz0 hz1 hz2 E.cells E.pos (some ⟨g, 0, none⟩) n cap xs hs (fun h => by cases h) hl (fun b' hb' j u hu => ?_) ⟨b, off, none⟩ m c news hx hr.length_eq hnews h1 (by omega) h63 hbytes ?_
      · obtain ⟨a', c', he, hrd⟩ := Rd.own hown'
        injection he with e1 e2 e3
        subst e1
        injection hb' with hb'
        subst hb'
        rw [add_zero_off]
        exact hrd.at hu
      · intro v' w' r1 r2
        exact h v' w' (own_mono r1 hbase) ⟨r2.os, r2.tape, r2.output, r2.size, fun k hk _ => r2.block k hk (by simp)⟩ (.inr fun k hk => (r1.lt k hk).1)
/-- The state while a view is written down and formed. -/
structure CE (w1 : World) (rb vb : Nat) (v : Vw) (o : Value) (F : List Vw) (S : Nat → RA) (W : World) : Prop where
  recs : RecsAt W rb S
  blk : BlkAt W vb 31 #[.int .u64 v.num, .int .u64 v.ce, .int .i64 v.cr, .int .u64 v.mem]
  own : W.ownsRow (rb + 1) 31 4 o F.length (F.flatMap vwF)
  bel : Below rb w1 W
  ne : vb ≠ rb
  apart : Apart o S
section
variable {w1 W W' : World} {rb vb : Nat} {v : Vw} {o : Value} {F : List Vw} {S : Nat → RA}
theorem CE.below (h : CE w1 rb vb v o F S W) (k : Below W.heap.size W W') : CE w1 rb vb v o F S W' := ⟨h.recs.below k, h.blk.below k h.blk.lt, own_below h.own k, h.bel.trans (k.mono (Nat.le_of_lt h.recs.lt)), h.ne, h.apart⟩
theorem CE.store (h : CE w1 rb vb v o F S W) (p : Nat) (hp : p < 5) (x : RA) (hx : RaOk W rb x) (hxa : x.n ≠ 0 → ∀ g off, x.a = some ⟨g, off, none⟩ → o.ownBlock ≠ some g) :
    CE w1 rb vb v o F (setR S p x) (((((W.setCell ⟨rb, p * 5, none⟩ (.int .u64 x.r.last.num)).setCell ⟨rb, p * 5 + 1, none⟩ (.int .u64 x.r.last.ce)).setCell ⟨rb, p * 5 + 2, none⟩ (.int .i64 x.r.last.cr)).setCell ⟨rb, p * 5 + 3, none⟩ (.int .u64 x.r.last.mem)).setCell ⟨rb, p * 5 + 4, none⟩ (.slice x.a x.n x.c)) := by
  obtain ⟨h1, h2⟩ := h.recs.store p hp x hx
  exact ⟨h1, h2.blk h.blk h.ne, own_kp h.own h2 (Nat.lt_succ_self _), Kp.below h.bel h2 (Nat.le_refl _) (Nat.le_of_lt h.recs.lt), h.ne, fun q hq hn g off e => by
    unfold setR at hn e
    by_cases hqp : q = p
    · rw [if_pos hqp] at hn e; exact hxa hn g off e
    · rw [if_neg hqp] at hn e; exact h.apart q hq hn g off e⟩
theorem CE.v4 (h : CE w1 rb vb v o F S W) : W.cell? ⟨vb, 0, none⟩ = some (.int .u64 v.num) ∧ W.cell? ⟨vb, 1, none⟩ = some (.int .u64 v.ce) ∧ W.cell? ⟨vb, 2, none⟩ = some (.int .i64 v.cr) ∧ W.cell? ⟨vb, 3, none⟩ = some (.int .u64 v.mem) := vcells h.blk
end
theorem list5 {α : Type} (l : List α) (h : l.length = 5) : ∃ a0 a1 a2 a3 a4, l = [a0, a1, a2, a3, a4] := by
  match l, h with
  | [a0, a1, a2, a3, a4], _ => exact ⟨a0, a1, a2, a3, a4, rfl⟩
/-- A record is laid in a new block by its five cells. -/
theorem five_new {W : World} {tb : Nat} (x : RA) {t : TypeId} {cs : Array Value} (hs : cs.size = 5) (h : BlkAt W tb t cs) :
    BlkAt (((((W.setCell ⟨tb, 0, none⟩ (.int .u64 x.r.last.num)).setCell ⟨tb, 1, none⟩ (.int .u64 x.r.last.ce)).setCell ⟨tb, 2, none⟩ (.int .i64 x.r.last.cr)).setCell ⟨tb, 3, none⟩ (.int .u64 x.r.last.mem)).setCell ⟨tb, 4, none⟩ (.slice x.a x.n x.c)) tb t #[.int .u64 x.r.last.num, .int .u64 x.r.last.ce, .int .i64 x.r.last.cr, .int .u64 x.r.last.mem, .slice x.a x.n x.c] := by
  have h5 := ((((h.set 0 (.int .u64 x.r.last.num)).set 1 (.int .u64 x.r.last.ce)).set 2 (.int .i64 x.r.last.cr)).set 3 (.int .u64 x.r.last.mem)).set 4 (.slice x.a x.n x.c)
  have e : ((((cs.setIfInBounds 0 (.int .u64 x.r.last.num)).setIfInBounds 1 (.int .u64 x.r.last.ce)).setIfInBounds 2 (.int .i64 x.r.last.cr)).setIfInBounds 3 (.int .u64 x.r.last.mem)).setIfInBounds 4 (.slice x.a x.n x.c) = #[.int .u64 x.r.last.num, .int .u64 x.r.last.ce, .int .i64 x.r.last.cr, .int .u64 x.r.last.mem, .slice x.a x.n x.c] := by
    obtain ⟨l⟩ := cs
    obtain ⟨a0, a1, a2, a3, a4, rfl⟩ := list5 l (by simpa using hs)
    simp
  rw [e] at h5
  exact h5
theorem five_kp {W : World} {tb : Nat} (x : RA) : Kp tb W (((((W.setCell ⟨tb, 0, none⟩ (.int .u64 x.r.last.num)).setCell ⟨tb, 1, none⟩ (.int .u64 x.r.last.ce)).setCell ⟨tb, 2, none⟩ (.int .i64 x.r.last.cr)).setCell ⟨tb, 3, none⟩ (.int .u64 x.r.last.mem)).setCell ⟨tb, 4, none⟩ (.slice x.a x.n x.c)) :=
  (((((Kp.refl tb W).setCell _ rfl _).setCell _ rfl _).setCell _ rfl _).setCell _ rfl _).setCell _ rfl _
theorem five_below {W0 W : World} {tb : Nat} (x : RA) (h : Below W0.heap.size W0 W) (ht : W0.heap.size ≤ tb) :
    Below W0.heap.size W0 (((((W.setCell ⟨tb, 0, none⟩ (.int .u64 x.r.last.num)).setCell ⟨tb, 1, none⟩ (.int .u64 x.r.last.ce)).setCell ⟨tb, 2, none⟩ (.int .i64 x.r.last.cr)).setCell ⟨tb, 3, none⟩ (.int .u64 x.r.last.mem)).setCell ⟨tb, 4, none⟩ (.slice x.a x.n x.c)) :=
  ((((h.setCell ht _).setCell ht _).setCell ht _).setCell ht _).setCell ht _
theorem blk5 {W : World} {b t : Nat} {c0 c1 c2 c3 c4 : Value} (h : BlkAt W b t #[c0, c1, c2, c3, c4]) : (W.cell? ⟨b, 0, none⟩ = some c0 ∧ W.cell? ⟨b, 1, none⟩ = some c1 ∧ W.cell? ⟨b, 2, none⟩ = some c2 ∧ W.cell? ⟨b, 3, none⟩ = some c3 ∧ W.cell? ⟨b, 4, none⟩ = some c4) ∧ W.frozen? ⟨b, 0, none⟩ = false ∧ W.frozen? ⟨b, 1, none⟩ = false ∧ W.frozen? ⟨b, 2, none⟩ = false ∧ W.frozen? ⟨b, 3, none⟩ = false ∧ W.frozen? ⟨b, 4, none⟩ = false :=
  ⟨⟨h.cell rfl, h.cell rfl, h.cell rfl, h.cell rfl, h.cell rfl⟩, h.fz 0, h.fz 1, h.fz 2, h.fz 3, h.fz 4⟩
theorem wroteR_same {m wr : Nat} {v : Vw} {R : Nat → Rc} {q : Nat} (h : ¬ (m.testBit q = true ∧ wr.testBit q = true)) (p : Nat) : wroteR m wr v R (q + 1) p = wroteR m wr v R q p := by
  unfold wroteR
  by_cases e : p = q
  · subst e; rw [if_neg (fun k => h k.2), if_neg (fun k => h k.2)]
  · by_cases k : p < q ∧ m.testBit p = true ∧ wr.testBit p = true
    · rw [if_pos k, if_pos ⟨by omega, k.2⟩]
    · rw [if_neg k, if_neg (fun k' => k ⟨by omega, k'.2⟩)]
theorem wroteR_step {m wr : Nat} {v : Vw} {R : Nat → Rc} {q : Nat} (h : m.testBit q = true ∧ wr.testBit q = true) (p : Nat) : wroteR m wr v R (q + 1) p = if p = q then addR (R q) v else wroteR m wr v R q p := by
  unfold wroteR
  by_cases e : p = q
  · subst e; rw [if_pos rfl, if_pos ⟨Nat.lt_succ_self _, h⟩]
  · rw [if_neg e]
    by_cases k : p < q ∧ m.testBit p = true ∧ wr.testBit p = true
    · rw [if_pos k, if_pos ⟨by omega, k.2⟩]
    · rw [if_neg k, if_neg (fun k' => k ⟨by omega, k'.2⟩)]
theorem wroteR_at {m wr : Nat} {v : Vw} {R : Nat → Rc} {q : Nat} : wroteR m wr v R q q = R q := if_neg (fun h => Nat.lt_irrefl _ h.1)
theorem formdR_same {m fo : Nat} {v : Vw} {R : Nat → Rc} {q : Nat} (h : ¬ (m.testBit q = true ∧ fo.testBit q = true)) (p : Nat) : formdR m fo v R (q + 1) p = formdR m fo v R q p := by
  unfold formdR
  by_cases e : p = q
  · subst e; rw [if_neg (fun k => h k.2), if_neg (fun k => h k.2)]
  · by_cases k : p < q ∧ m.testBit p = true ∧ fo.testBit p = true
    · rw [if_pos k, if_pos ⟨by omega, k.2⟩]
    · rw [if_neg k, if_neg (fun k' => k ⟨by omega, k'.2⟩)]
theorem formdR_step {m fo : Nat} {v : Vw} {R : Nat → Rc} {q : Nat} (h : m.testBit q = true ∧ fo.testBit q = true) (p : Nat) : formdR m fo v R (q + 1) p = if p = q then formR (R q) v else formdR m fo v R q p := by
  unfold formdR
  by_cases e : p = q
  · subst e; rw [if_pos rfl, if_pos ⟨Nat.lt_succ_self _, h⟩]
  · rw [if_neg e]
    by_cases k : p < q ∧ m.testBit p = true ∧ fo.testBit p = true
    · rw [if_pos k, if_pos ⟨by omega, k.2⟩]
    · rw [if_neg k, if_neg (fun k' => k ⟨by omega, k'.2⟩)]
theorem formdR_at {m fo : Nat} {v : Vw} {R : Nat → Rc} {q : Nat} : formdR m fo v R q q = R q := if_neg (fun h => Nat.lt_irrefl _ h.1)
theorem formdR_none {m fo : Nat} {v : Vw} {R : Nat → Rc} (h : anyF m fo 5 = false) (p : Nat) : formdR m fo v R 5 p = R p := by
  unfold formdR
  refine if_neg fun k => ?_
  have : anyF m fo 5 = true := List.any_eq_true.2 ⟨p, List.mem_range.2 k.1, by rw [k.2.1, k.2.2]; rfl⟩
  rw [this] at h; cases h
theorem shr_bit (x k : Nat) (hx : x < 18446744073709551616) : bits BinOp.and IntKind.u64 ((x : Int) / 2 ^ k) 1 = (((x.testBit k).toNat : Nat) : Int) := by
  have hd : x / 2 ^ k < 18446744073709551616 := Nat.lt_of_le_of_lt (Nat.div_le_self _ _) hx
  have := u64_and_nat (x / 2 ^ k) 1 hd (by decide)
  rw [show ((2 : Int) ^ k) = ((2 ^ k : Nat) : Int) from by simp, show (x : Int) / ((2 ^ k : Nat) : Int) = ((x / 2 ^ k : Nat) : Int) from by simp]
  rw [show ((1 : Nat) : Int) = 1 from rfl] at this
  rw [this, Nat.and_one_is_mod, Nat.testBit_eq_decide_div_mod_eq]
  rcases Nat.mod_two_eq_zero_or_one (x / 2 ^ k) with e | e <;> rw [e] <;> rfl
end Go.Proofs.Ytnpinkcadkkeoaa
