/- an append, and where the row lies then -/
import Derived.Test.YtmhckkcppmfjpaaDoorLib
import Derived.Deep.RegionLaw
namespace Go.Proofs.YtmhckkcppmfjpaaDoor
open Go.RowKit

/-- An append, and where the row lies then. -/
theorem wpList_append_apart {P : Program} {w : World} {ops : Array Oper} {rest : List Oper} {o : Oper} {a : Act} {Q : Exit → Act → World → Prop} {t e : TypeId} {z : Value} {size bytes : Nat} (E : Elt P t e z size bytes) (hgd : o.guard = none) (s x : Operand)
    (ho : o.op = .call { callee := .builtin .append, args := #[s, x], argTypes := #[t, t] })
    {base : Nat} {v : Value} {n : Nat} {xs : List Value} (hown : w.ownsRow base e size v n xs) (hs : a.eval s = v)
    {b off m c : Nat} {news : List Value} (hr : Rd w size (some ⟨b, off, none⟩) m c news) (hm : 0 < m) (hx : a.eval x = .slice (some ⟨b, off, none⟩) m c) (h1 : ∀ u ∈ news, u.oneCell' = true)
    (h63 : n + m ≤ maxLen) (hbytes : (n + m) * bytes ≤ 140737488355328) (hbase : base ≤ w.heap.size)
    (h : ∀ v' w', w'.ownsRow base e size v' (n + m) (xs ++ news) → w.grownBy w' v.ownBlock → (v'.ownBlock = v.ownBlock ∨ ∀ k, v'.ownBlock = some k → w.heap.size ≤ k) → wpList P ops Q rest (a.put o.dst v') w') : wpList P ops Q (o :: rest) a w := by
  obtain ⟨i, hi, hz0, hz1, hz2⟩ := info_parts E.info
  have hnews : ∀ j u, news[j]? = some u → w.cell? ((⟨b, off, none⟩ : Addr).add j) = some u := fun j u hu => by rw [add_zero_off]; exact hr.at hu
  have hown' := hown
  obtain ⟨hl, h2⟩ := hown
  rcases h2 with ⟨rfl, rfl⟩ | ⟨g, cap, cur, rfl, hb, hg, hle, hmx, hsz, htk⟩
  · obtain rfl : xs = [] := List.eq_nil_of_length_eq_zero (by simpa using hl)
    refine wpList_append_grows w hgd s x t ho e i z size bytes E.ty hi hz0 hz1 hz2 E.cells E.pos none 0 0 [] hs (fun _ => ⟨rfl, rfl⟩) (by simp) (fun b h => by cases h) ⟨b, off, none⟩ m c news hx hr.length_eq hnews h1 (by omega) h63 hbytes ?_
    intro v' w' r1 r2
    exact h v' w' (own_mono r1 hbase) r2 (.inr fun k hk => (r1.lt k hk).1)
  · by_cases hroom : n + m ≤ cap
    · refine wpList_plain hgd fun K hK' => ?_
      obtain ⟨v', w', hr', h2, h3, _⟩ := run_append_own (P := P) w base t o.type e i z size bytes E.ty hi hz0 hz1 hz2 E.cells E.pos _ n xs hown' ⟨b, off, none⟩ m c news hr.length_eq hnews h1 h63 hbytes hbase
      have hlen := hr.length_eq
      have hr2 := run_append_room_cells (P := P) w t o.type e i E.ty hi g 0 n cap ⟨b, off, none⟩ m c news (by rw [hz1]; exact hlen) hnews h1 hroom (fun j hj => by
          rw [hz1, cell_of_row w g _ _ _ _ hg, Array.getElem?_eq_getElem]
          · rfl
          · rw [hsz]
            have : (n + m) * size ≤ cap * size := Nat.mul_le_mul_right _ hroom
            rw [Nat.add_mul] at this
            omega) (fun j _ => frozen_of_row w g _ _ _ hg)
      rw [hr'] at hr2
      injection hr2 with e1 e2
      unfold Oper.wp
      simp [execOp, ho, resolve, invoke, builtin, hs, hx, hr', Result.andThen]
      exact hK' _ _ (h v' w' h2 h3 (.inl (by rw [e1]; rfl)))
    · refine wpList_append_grows w hgd s x t ho e i z size bytes E.ty hi hz0 hz1 hz2 E.cells E.pos (some ⟨g, 0, none⟩) n cap xs hs (fun h => by cases h) hl (fun b' hb' j u hu => ?_) ⟨b, off, none⟩ m c news hx hr.length_eq hnews h1 (by omega) h63 hbytes ?_
      · obtain ⟨a', c', he, hrd⟩ := Rd.own hown'
        injection he with e1 e2 e3
        subst e1
        injection hb' with hb'
        subst hb'
        rw [add_zero_off]
        exact hrd.at hu
      · intro v' w' r1 r2
        exact h v' w' (own_mono r1 hbase) ⟨r2.os, r2.tape, r2.output, r2.size, fun k hk _ => r2.block k hk (by simp)⟩ (.inr fun k hk => (r1.lt k hk).1)
end Go.Proofs.YtmhckkcppmfjpaaDoor
