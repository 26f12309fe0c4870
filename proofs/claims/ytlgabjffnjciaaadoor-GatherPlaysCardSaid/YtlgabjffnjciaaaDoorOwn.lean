/- rows that are written in place; found places; folds -/
import Derived.Test.YtlgabjffnjciaaaDoorLib
import Derived.Laws.OwnMore
namespace Go.Proofs.YtlgabjffnjciaaaDoor
set_option linter.unusedSimpArgs false
set_option linter.unusedVariables false
open Go.RowKit

theorem findIdx?_at {α : Type} {q : α → Bool} {l : List α} {k : Nat} (hk : k < l.length) (h : ∀ i (hi : i < k), q (l[i]'(by omega)) = false) (h1 : q l[k] = true) : l.findIdx? q = some k :=
  List.findIdx?_eq_some_iff_getElem.2 ⟨hk, h1, fun j hj => by simpa using h j hj⟩
theorem findIdx?_no {α : Type} {q : α → Bool} {l : List α} (h : ∀ i (hi : i < l.length), q l[i] = false) : l.findIdx? q = none :=
  List.findIdx?_eq_none_iff.2 fun x hx => by obtain ⟨i, hi, rfl⟩ := List.mem_iff_getElem.1 hx; exact h i hi
theorem filter_take_s {α : Type} (q : α → Bool) (l : List α) (j : Nat) (hj : j < l.length) : (l.take (j + 1)).filter q = if q l[j] = true then (l.take j).filter q ++ [l[j]] else (l.take j).filter q := by
  rw [List.take_succ_eq_append_getElem hj, List.filter_append]
  cases h : q l[j] <;> simp [h]
theorem own_prefix {w : World} {base : Nat} {e : TypeId} {size g n cap : Nat} {xs : List Value} (h : w.ownsRow base e size (.slice (some ⟨g, 0, none⟩) n cap) n xs) (k : Nat) (hk : k ≤ n) : w.ownsRow base e size (.slice (some ⟨g, 0, none⟩) k cap) k (xs.take (k * size)) := by
  obtain ⟨h1, h2⟩ := h
  have hm : k * size ≤ n * size := Nat.mul_le_mul_right _ hk
  refine ⟨by rw [List.length_take]; omega, ?_⟩
  rcases h2 with ⟨h2, _⟩ | ⟨g', cap', cur, hv, hg, hblk, hnc, hcm, hcs, htk⟩
  · simp at h2
  · simp only [Value.slice.injEq, Option.some.injEq, Addr.mk.injEq, and_true, true_and] at hv
    obtain ⟨rfl, rfl⟩ := hv
    exact .inr ⟨g, cap, cur, rfl, hg, hblk, by omega, hcm, hcs, by rw [← htk, List.take_take]; congr 1; omega⟩
theorem own_setCells {base : Nat} {e : TypeId} {size g n cap : Nat} (k : Nat) : ∀ (vs : List Value) (o : Nat) (w : World) (xs : List Value), k ≤ o → w.ownsRow base e size (.slice (some ⟨g, 0, none⟩) n cap) n xs →
    ∃ ys, (w.setCells g o vs).ownsRow base e size (.slice (some ⟨g, 0, none⟩) n cap) n ys ∧ ys.take k = xs.take k ∧ w.grownBy (w.setCells g o vs) (some g) := by
  intro vs
  induction vs with
  | nil => intro o w xs _ h; exact ⟨xs, h, rfl, rfl, rfl, rfl, Nat.le_refl _, fun _ _ _ => rfl⟩
  | cons v vs ih =>
    intro o w xs hk h
    obtain ⟨h1, g1⟩ := h.stored o v
    obtain ⟨ys, h2, h3, g2⟩ := ih (o + 1) _ _ (by omega) h1
    refine ⟨ys, h2, ?_, ?_⟩
    · rw [h3, List.take_set_of_le (by omega)]
    · exact ⟨g2.os.trans g1.os, g2.tape.trans g1.tape, g2.output.trans g1.output, Nat.le_trans g1.size g2.size, fun j hj hne => (g2.block j (Nat.lt_of_lt_of_le hj g1.size) hne).trans (g1.block j hj hne)⟩
theorem zc_len (C : Array Value) (n : Nat) : (Builtin.zeroCells C n).toList.length = n * C.size := by simp [Builtin.zeroCells, Nat.mul_comm]
end Go.Proofs.YtlgabjffnjciaaaDoor
