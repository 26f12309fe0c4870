/- an append, and where the row lies then -/
import Derived.Test.YtpkknhhohbobaaaGreatDoorLib
import Derived.Deep.RegionLaw
namespace Go.Proofs.YtpkknhhohbobaaaGreatDoor
set_option linter.unusedSimpArgs false
set_option linter.unusedVariables false
open Go.RowKit

/-- An append, and where the row lies then. -/
theorem wpList_append_apart {P : Program} {w : World} {ops : Array Oper} {rest : List Oper} {o : Oper} {a : Act} {Q : Exit → Act → World → Prop} {t e : TypeId} {z : Value} {size bytes : Nat} (E : Elt P t e z size bytes) (hgd : o.guard = none) (s x : Operand)
    (ho : o.op = .call { callee := .builtin .append, args := #[s, x], argTypes := #[t, t] })
    {base : Nat} {v : Value} {n : Nat} {xs : List Value} (hown : w.ownsRow base e size v n xs) (hs : a.eval s = v)
    {b off m c : Nat} {news : List Value} (hr : Rd w size (some ⟨b, off, none⟩) m c news) (hm : 0 < m) (hx : a.eval x = .slice (some ⟨b, off, none⟩) m c) (h1 : ∀ u ∈ news, u.oneCell' = true)
    (h63 : n + m ≤ maxLen) (hbytes : (n + m) * bytes ≤ 140737488355328) (hbase : base ≤ w.heap.size)
    (h : ∀ v' w', w'.ownsRow base e size v' (n + m) (xs ++ news) → w.grownBy w' v.ownBlock → (v'.ownBlock = v.ownBlock ∨ ∀ k, v'.ownBlock = some k → w.heap.size ≤ k) → wpList P ops Q rest (a.put o.dst v') w') : wpList P ops Q (o :: rest) a w := by
  obtain ⟨i, hi, hz0, hz1, hz2⟩ := info_parts E.info
  have hnews : ∀ j u, news[j]? = some u → w.cell? ((⟨b, off, none⟩ : Addr).add j) = some u := fun j u hu => by rw [add_zero_off]; exact hr.at hu
  have hown' := hown
  obtain ⟨hl, h2⟩ := hown
  rcases h2 with ⟨rfl, rfl⟩ | ⟨g, cap, cur, rfl, hb, hg, hle, hmx, hsz, htk⟩
  · obtain rfl : xs = [] := List.eq_nil_of_length_eq_zero (by simpa using hl)
    refine wpList_append_grows w hgd s x t ho e i z size bytes E.ty hi hz0 hz1 hz2 E.cells E.pos none 0 0 [] hs (fun _ => ⟨rfl, rfl⟩) (by simp) (fun b h => by cases h) ⟨b, off, none⟩ m c news hx hr.length_eq hnews h1 (by omega) h63 hbytes ?_
    intro v' w' r1 r2
    exact h v' w' (own_mono r1 hbase) r2 (.inr fun k hk => (r1.lt k hk).1)
  · by_cases hroom : n + m ≤ cap
    · refine wpList_plain hgd fun K hK' => ?_
      obtain ⟨v', w', hr', h2, h3, _⟩ := run_append_own (P := P) w base t o.type e i z size bytes E.ty hi hz0 hz1 hz2 E.cells E.pos _ n xs hown' ⟨b, off, none⟩ m c news hr.length_eq hnews h1 h63 hbytes hbase
      have hlen := hr.length_eq
      have hr2 := run_append_room_cells (P := P) w t o.type e i E.ty hi g 0 n cap ⟨b, off, none⟩ m c news (by rw [hz1]; exact hlen) hnews h1 hroom (fun j hj => by
          rw [hz1, cell_of_row w g _ _ _ _ hg, Array.getElem?_eq_getElem]
          · rfl
          · rw [hsz]
            have : (n + m) * size ≤ cap * size := Nat.mul_le_mul_right _ hroom
            rw [Nat.add_mul] at this
            omega) (fun j _ => frozen_of_row w g _ _ _ hg)
      rw [hr'] at hr2
      injection hr2 with e1 e2
      unfold Oper.wp
      simp [execOp, ho, resolve, invoke, builtin, hs, hx, hr', Result.andThen]
      exact hK' _ _ (h v' w' h2 h3 (.inl (by rw [e1]; rfl)))
    · refine wpList_append_grows w hgd s x t ho e i z size bytes E.ty hi hz0 hz1 hz2 E.cells E.pos (some ⟨g, 0, none⟩) n cap xs hs (fun h => by cases h) hl (fun b' hb' j u hu => ?_) ⟨b, off, none⟩ m c news hx hr.length_eq hnews h1 (by omega) h63 hbytes ?_
      · obtain ⟨a', c', he, hrd⟩ := Rd.own hown'
        injection he with e1 e2 e3
        subst e1
        injection hb' with hb'
        subst hb'
        rw [add_zero_off]
        exact hrd.at hu
      · intro v' w' r1 r2
        exact h v' w' (own_mono r1 hbase) ⟨r2.os, r2.tape, r2.output, r2.size, fun k hk _ => r2.block k hk (by simp)⟩ (.inr fun k hk => (r1.lt k hk).1)
/-- The append's run, and where the row lies then. -/
theorem run_append_apart {P : Program} {w : World} {t ty e : TypeId} {z : Value} {size bytes : Nat} (E : Elt P t e z size bytes) {base : Nat} {v : Value} {n : Nat} {xs : List Value} (hown : w.ownsRow base e size v n xs)
    {b off m c : Nat} {news : List Value} (hr : Rd w size (some ⟨b, off, none⟩) m c news) (hm : 0 < m) (h1 : ∀ u ∈ news, u.oneCell' = true)
    (h63 : n + m ≤ maxLen) (hbytes : (n + m) * bytes ≤ 140737488355328) (hbase : base ≤ w.heap.size) :
    ∃ v' w', (Builtin.append_ #[t, t] ty #[v, .slice (some ⟨b, off, none⟩) m c]).run P w = .ok v' w' ∧ w'.ownsRow base e size v' (n + m) (xs ++ news) ∧ w.grownBy w' v.ownBlock ∧ (v'.ownBlock = v.ownBlock ∨ ∀ k, v'.ownBlock = some k → w.heap.size ≤ k) := by
  obtain ⟨i, hi, hz0, hz1, hz2⟩ := info_parts E.info
  have hnews : ∀ j u, news[j]? = some u → w.cell? ((⟨b, off, none⟩ : Addr).add j) = some u := fun j u hu => by rw [add_zero_off]; exact hr.at hu
  have hown' := hown
  obtain ⟨hl, h2⟩ := hown
  rcases h2 with ⟨rfl, rfl⟩ | ⟨g, cap, cur, rfl, hb, hg, hle, hmx, hsz, htk⟩
  · obtain rfl : xs = [] := List.eq_nil_of_length_eq_zero (by simpa using hl)
    obtain ⟨v', w', hrun, r1, r2, _⟩ := run_append_own (P := P) w w.heap.size t ty e i z size bytes E.ty hi hz0 hz1 hz2 E.cells E.pos (.slice none 0 0) 0 [] (World.ownsRow_nil w _ e size) ⟨b, off, none⟩ m c news hr.length_eq hnews h1 h63 hbytes (Nat.le_refl _)
    exact ⟨v', w', hrun, own_mono r1 hbase, r2, .inr fun k hk => (r1.lt k hk).1⟩
  · by_cases hroom : n + m ≤ cap
    · obtain ⟨v', w', hr', h2, h3, _⟩ := run_append_own (P := P) w base t ty e i z size bytes E.ty hi hz0 hz1 hz2 E.cells E.pos _ n xs hown' ⟨b, off, none⟩ m c news hr.length_eq hnews h1 h63 hbytes hbase
      have hlen := hr.length_eq
      have hr2 := run_append_room_cells (P := P) w t ty e i E.ty hi g 0 n cap ⟨b, off, none⟩ m c news (by rw [hz1]; exact hlen) hnews h1 hroom (fun j hj => by
          rw [hz1, cell_of_row w g _ _ _ _ hg, Array.getElem?_eq_getElem]
          · rfl
          · rw [hsz]
            have : (n + m) * size ≤ cap * size := Nat.mul_le_mul_right _ hroom
            rw [Nat.add_mul] at this
            omega) (fun j _ => frozen_of_row w g _ _ _ hg)
      have hr3 := hr'
      rw [hr3] at hr2
      injection hr2 with e1 e2
      exact ⟨v', w', hr', h2, h3, .inl (by rw [e1]; rfl)⟩
    · obtain ⟨v', w', hrun, r1, r2⟩ := run_append_arg_grows (P := P) w t ty e i z size bytes E.ty hi hz0 hz1 hz2 E.cells E.pos ⟨g, 0, none⟩ n cap xs hl (fun j u hu => by
        obtain ⟨a', c', he, hrd⟩ := Rd.own hown'
        injection he with e1 e2 e3
        subst e1
        rw [add_zero_off]
        exact hrd.at hu) ⟨b, off, none⟩ m c news hr.length_eq hnews (by omega) h63 hbytes
      exact ⟨v', w', hrun, own_mono r1 hbase, ⟨r2.os, r2.tape, r2.output, r2.size, fun k hk _ => r2.block k hk (by simp)⟩, .inr fun k hk => (r1.lt k hk).1⟩
theorem step_append_apart {P : Program} {w : World} {ops : Array Oper} {o : Oper} {a : Act} {K : Act → World → Prop} {Q : Exit → Act → World → Prop} {E' : Prop} {t e : TypeId} {z : Value} {size bytes : Nat} (E : Elt P t e z size bytes) (hgd : o.guard = none) (s x : Operand)
    (ho : o.op = .call { callee := .builtin .append, args := #[s, x], argTypes := #[t, t] })
    {base : Nat} {v : Value} {n : Nat} {xs : List Value} (hs : a.eval s = v) (hown : w.ownsRow base e size v n xs)
    {b off m c : Nat} {news : List Value} (hx : a.eval x = .slice (some ⟨b, off, none⟩) m c) (hr : Rd w size (some ⟨b, off, none⟩) m c news) (hm : 0 < m) (h1 : ∀ u ∈ news, u.oneCell' = true)
    (h63 : n + m ≤ maxLen) (hbytes : (n + m) * bytes ≤ 140737488355328) (hbase : base ≤ w.heap.size)
    (h : ∀ v' w', w'.ownsRow base e size v' (n + m) (xs ++ news) → w.grownBy w' v.ownBlock → (v'.ownBlock = v.ownBlock ∨ ∀ k, v'.ownBlock = some k → w.heap.size ≤ k) → K (a.put o.dst v') w') : if Region.wanted o (yielded ops a.tmps) = true then Oper.wp P o a w K Q else E' := by
  rw [if_pos (by simp [Region.wanted, hgd])]
  obtain ⟨v', w', hrun, h2, h3, h4⟩ := run_append_apart (ty := o.type) E hown hr hm h1 h63 hbytes hbase
  unfold Oper.wp execOp
  simp only [ho, resolve, invoke, builtin, Sem.run_bind, Sem.run_pure, Result.andThen_ok, List.map_toArray, List.map_cons, List.map_nil, hs, hx, hrun]
  exact h v' w' h2 h3 h4
/-- An append that has room stays where it is. -/
theorem run_append_in {P : Program} {w : World} {t ty e : TypeId} {z : Value} {size bytes : Nat} (E : Elt P t e z size bytes) {base g cap n : Nat} {xs : List Value} (hown : w.ownsRow base e size (.slice (some ⟨g, 0, none⟩) n cap) n xs)
    {ad : Addr} {m c : Nat} {news : List Value} (hl : news.length = m * size) (hnews : ∀ j u, news[j]? = some u → w.cell? (ad.add j) = some u) (h1 : ∀ u ∈ news, u.oneCell' = true)
    (hroom : n + m ≤ cap) (h63 : n + m ≤ maxLen) (hbytes : (n + m) * bytes ≤ 140737488355328) (hbase : base ≤ w.heap.size) :
    ∃ w', (Builtin.append_ #[t, t] ty #[.slice (some ⟨g, 0, none⟩) n cap, .slice (some ad) m c]).run P w = .ok (.slice (some ⟨g, 0, none⟩) (n + m) cap) w' ∧ w'.ownsRow base e size (.slice (some ⟨g, 0, none⟩) (n + m) cap) (n + m) (xs ++ news) ∧ w.grownBy w' (some g) := by
  obtain ⟨i, hi, hz0, hz1, hz2⟩ := info_parts E.info
  have hown' := hown
  obtain ⟨hl0, h2⟩ := hown
  rcases h2 with ⟨h2, _⟩ | ⟨g', cap', cur, hv, hb, hg, hle, hmx, hsz, htk⟩
  · cases h2
  · simp only [Value.slice.injEq, Option.some.injEq, Addr.mk.injEq, and_true, true_and] at hv
    obtain ⟨rfl, rfl⟩ := hv
    obtain ⟨v', w', hr', h2, h3, _⟩ := run_append_own (P := P) w base t ty e i z size bytes E.ty hi hz0 hz1 hz2 E.cells E.pos _ n xs hown' ad m c news hl hnews h1 h63 hbytes hbase
    have hr2 := run_append_room_cells (P := P) w t ty e i E.ty hi g 0 n cap ad m c news (by rw [hz1]; exact hl) hnews h1 hroom (fun j hj => by
        rw [hz1, cell_of_row w g _ _ _ _ hg, Array.getElem?_eq_getElem]
        · rfl
        · rw [hsz]
          have : (n + m) * size ≤ cap * size := Nat.mul_le_mul_right _ hroom
          rw [Nat.add_mul] at this
          omega) (fun j _ => frozen_of_row w g _ _ _ hg)
    have hr3 := hr'
    rw [hr3] at hr2
    injection hr2 with e1 e2
    subst e1
    exact ⟨w', hr', h2, h3⟩
theorem wpList_append_in {P : Program} {w : World} {ops : Array Oper} {rest : List Oper} {o : Oper} {a : Act} {Q : Exit → Act → World → Prop} {t e : TypeId} {z : Value} {size bytes : Nat} (E : Elt P t e z size bytes) (hgd : o.guard = none) (s x : Operand)
    (ho : o.op = .call { callee := .builtin .append, args := #[s, x], argTypes := #[t, t] })
    {base g cap n : Nat} {xs : List Value} (hs : a.eval s = .slice (some ⟨g, 0, none⟩) n cap) (hown : w.ownsRow base e size (.slice (some ⟨g, 0, none⟩) n cap) n xs)
    {ad : Addr} {m c : Nat} {news : List Value} (hx : a.eval x = .slice (some ad) m c) (hl : news.length = m * size) (hnews : ∀ j u, news[j]? = some u → w.cell? (ad.add j) = some u) (h1 : ∀ u ∈ news, u.oneCell' = true)
    (hroom : n + m ≤ cap) (h63 : n + m ≤ maxLen) (hbytes : (n + m) * bytes ≤ 140737488355328) (hbase : base ≤ w.heap.size)
    (h : ∀ w', w'.ownsRow base e size (.slice (some ⟨g, 0, none⟩) (n + m) cap) (n + m) (xs ++ news) → w.grownBy w' (some g) → wpList P ops Q rest (a.put o.dst (.slice (some ⟨g, 0, none⟩) (n + m) cap)) w') : wpList P ops Q (o :: rest) a w := by
  refine wpList_plain hgd fun K hK => ?_
  obtain ⟨w', hrun, h2, h3⟩ := run_append_in (ty := o.type) (c := c) E hown hl hnews h1 hroom h63 hbytes hbase
  unfold Oper.wp
  simp [execOp, ho, resolve, invoke, builtin, hs, hx, hrun, Result.andThen]
  exact hK _ _ (h w' h2 h3)
theorem step_append_in {P : Program} {w : World} {ops : Array Oper} {o : Oper} {a : Act} {K : Act → World → Prop} {Q : Exit → Act → World → Prop} {E' : Prop} {t e : TypeId} {z : Value} {size bytes : Nat} (E : Elt P t e z size bytes) (hgd : o.guard = none) (s x : Operand)
    (ho : o.op = .call { callee := .builtin .append, args := #[s, x], argTypes := #[t, t] })
    {base g cap n : Nat} {xs : List Value} (hs : a.eval s = .slice (some ⟨g, 0, none⟩) n cap) (hown : w.ownsRow base e size (.slice (some ⟨g, 0, none⟩) n cap) n xs)
    {ad : Addr} {m c : Nat} {news : List Value} (hx : a.eval x = .slice (some ad) m c) (hl : news.length = m * size) (hnews : ∀ j u, news[j]? = some u → w.cell? (ad.add j) = some u) (h1 : ∀ u ∈ news, u.oneCell' = true)
    (hroom : n + m ≤ cap) (h63 : n + m ≤ maxLen) (hbytes : (n + m) * bytes ≤ 140737488355328) (hbase : base ≤ w.heap.size)
    (h : ∀ w', w'.ownsRow base e size (.slice (some ⟨g, 0, none⟩) (n + m) cap) (n + m) (xs ++ news) → w.grownBy w' (some g) → K (a.put o.dst (.slice (some ⟨g, 0, none⟩) (n + m) cap)) w') : if Region.wanted o (yielded ops a.tmps) = true then Oper.wp P o a w K Q else E' := by
  rw [if_pos (by simp [Region.wanted, hgd])]
  obtain ⟨w', hrun, h2, h3⟩ := run_append_in (ty := o.type) (c := c) E hown hl hnews h1 hroom h63 hbytes hbase
  unfold Oper.wp
  simp [execOp, ho, resolve, invoke, builtin, hs, hx, hrun, Result.andThen]
  exact h w' h2 h3
end Go.Proofs.YtpkknhhohbobaaaGreatDoor
