/- plain laws for DeleteFunc: rows of views that are written in place -/
import Derived.Test.YteeeikkapnchlaaDoorVoteG
namespace Go.Proofs.YteeeikkapnchlaaDoor
set_option linter.unusedSimpArgs false
set_option linter.unusedVariables false
open Go.RowKit Go.Sort

theorem flat_set (x : Vw) : ∀ (m : List Vw) (i : Nat), i < m.length → ((((m.flatMap vwF).set (i * 4) (.int .u64 x.num)).set (i * 4 + 1) (.int .u64 x.ce)).set (i * 4 + 2) (.int .i64 x.cr)).set (i * 4 + 3) (.int .u64 x.mem) = (m.set i x).flatMap vwF := by
  intro m
  induction m with
  | nil => intro i h; simp at h
  | cons v m ih =>
    intro i h
    cases i with
    | zero => rfl
    | succ i =>
      have := ih i (by simpa using h)
      simp only [List.flatMap_cons, List.set_cons_succ]
      rw [← this]
      have e : ∀ (xs : List Value) (j : Nat) (u : Value), (vwF v ++ xs).set ((i + 1) * 4 + j) u = vwF v ++ xs.set (i * 4 + j) u := fun xs j u => by
        rw [List.set_append_right _ _ (by rw [vwF_len]; omega), vwF_len]
        congr 2
        omega
      have e0 : ∀ (xs : List Value) (u : Value), (vwF v ++ xs).set ((i + 1) * 4) u = vwF v ++ xs.set (i * 4) u := fun xs u => e xs 0 u
      rw [e0, e, e, e]
theorem own_prefix {w : World} {base : Nat} {e : TypeId} {size g n cap : Nat} {xs : List Value} (h : w.ownsRow base e size (.slice (some ⟨g, 0, none⟩) n cap) n xs) (k : Nat) (hk : k ≤ n) : w.ownsRow base e size (.slice (some ⟨g, 0, none⟩) k cap) k (xs.take (k * size)) := by
  obtain ⟨h1, h2⟩ := h
  have hm : k * size ≤ n * size := Nat.mul_le_mul_right _ hk
  refine ⟨by rw [List.length_take]; omega, ?_⟩
  rcases h2 with ⟨h2, _⟩ | ⟨g', cap', cur, hv, hg, hblk, hnc, hcm, hcs, htk⟩
  · simp at h2
  · simp only [Value.slice.injEq, Option.some.injEq, Addr.mk.injEq, and_true, true_and] at hv
    obtain ⟨rfl, rfl⟩ := hv
    exact .inr ⟨g, cap, cur, rfl, hg, hblk, by omega, hcm, hcs, by rw [← htk, List.take_take]; congr 1; omega⟩
theorem own_setCells {base : Nat} {e : TypeId} {size g n cap : Nat} (k : Nat) : ∀ (vs : List Value) (o : Nat) (w : World) (xs : List Value), k ≤ o → w.ownsRow base e size (.slice (some ⟨g, 0, none⟩) n cap) n xs →
    ∃ ys, (w.setCells g o vs).ownsRow base e size (.slice (some ⟨g, 0, none⟩) n cap) n ys ∧ ys.take k = xs.take k ∧ w.grownBy (w.setCells g o vs) (some g) := by
  intro vs
  induction vs with
  | nil => intro o w xs _ h; exact ⟨xs, h, rfl, rfl, rfl, rfl, Nat.le_refl _, fun _ _ _ => rfl⟩
  | cons v vs ih =>
    intro o w xs hk h
    obtain ⟨h1, g1⟩ := h.stored o v
    obtain ⟨ys, h2, h3, g2⟩ := ih (o + 1) _ _ (by omega) h1
    refine ⟨ys, h2, ?_, ?_⟩
    · rw [h3, List.take_set_of_le (by omega)]
    · exact ⟨g2.os.trans g1.os, g2.tape.trans g1.tape, g2.output.trans g1.output, Nat.le_trans g1.size g2.size, fun j hj hne => (g2.block j (Nat.lt_of_lt_of_le hj g1.size) hne).trans (g1.block j hj hne)⟩
theorem zc_len (C : Array Value) (n : Nat) : (Builtin.zeroCells C n).toList.length = n * C.size := by simp [Builtin.zeroCells, Nat.mul_comm]
theorem run_clear_view (w : World) (ty : TypeId) (g o n c : Nat) (hn : 0 < n) (hc : ∀ j, j < n * 4 → (w.cell? ⟨g, o + j, none⟩).isSome = true) (hf : ∀ j, w.frozen? ⟨g, j, none⟩ = false) :
    (Builtin.clear_ #[36] ty #[.slice (some ⟨g, o, none⟩) n c]).run Tryd.prog w = .ok (.tuple #[]) (w.setCells g o (Builtin.zeroCells (vwA .zero) n).toList) := by
  have hv : ∀ w, (zeroValue 35).run Tryd.prog w = .ok (.agg (vwA .zero)) w := fun w => by kernel_rfl
  have hst := run_storeCells_cells (P := Tryd.prog) g o (Builtin.zeroCells (vwA .zero) n).toList 0 w (by rw [zc_len]; show ∀ j, j < n * 4 → _; intro j hj; rw [Nat.add_zero]; exact hc j hj) (by intro j _; exact hf _) (by
    intro v hv'
    rw [Builtin.zeroCells, Array.toList_map, List.mem_map] at hv'
    obtain ⟨i, _, rfl⟩ := hv'
    have h4 : i % (vwA .zero).size = 0 ∨ i % (vwA .zero).size = 1 ∨ i % (vwA .zero).size = 2 ∨ i % (vwA .zero).size = 3 := by
      have : i % (vwA .zero).size < 4 := Nat.mod_lt _ (by decide)
      omega
    rcases h4 with h | h | h | h <;> rw [h] <;> rfl)
  simp only [Nat.add_zero] at hst
  obtain ⟨m, rfl⟩ : ∃ m, n = m + 1 := ⟨n - 1, by omega⟩
  simp [Builtin.clear_, run_underlying Tryd.underlying36, hv, Value.cells, hst]
end Go.Proofs.YteeeikkapnchlaaDoor
