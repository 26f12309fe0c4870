/- the net: walks of slices.Delete, Drop -/
import Derived.Test.YtmlkmonapnebiaaDoorRNetD
namespace Go.Proofs.YtmlkmonapnebiaaDoorR
open Go.RowKit Go.Sort

theorem run_clear_dg (w : World) (ty : TypeId) (g o n c : Nat) (hn : 0 < n) (hc : ∀ j, j < n * 4 → (w.cell? ⟨g, o + j, none⟩).isSome = true) (hf : ∀ j, w.frozen? ⟨g, j, none⟩ = false) :
    (Builtin.clear_ #[48] ty #[.slice (some ⟨g, o, none⟩) n c]).run Tryd.prog w = .ok (.tuple #[]) (w.setCells g o (Builtin.zeroCells #[.int .i64 0, .int .i64 0, .string ⟨#[]⟩, .bool false] n).toList) := by
  have hv : ∀ w, (zeroValue 35).run Tryd.prog w = .ok (.agg #[.int .i64 0, .int .i64 0, .string ⟨#[]⟩, .bool false]) w := fun w => by kernel_rfl
  have hst := run_storeCells_cells (P := Tryd.prog) g o (Builtin.zeroCells #[.int .i64 0, .int .i64 0, .string ⟨#[]⟩, .bool false] n).toList 0 w (by rw [zc_len]; show ∀ j, j < n * 4 → _; intro j hj; rw [Nat.add_zero]; exact hc j hj) (by intro j _; exact hf _) (by
    intro v hv'
    rw [Builtin.zeroCells, Array.toList_map, List.mem_map] at hv'
    obtain ⟨i, _, rfl⟩ := hv'
    have h4 : i % (#[.int .i64 0, .int .i64 0, .string ⟨#[]⟩, .bool false] : Array Value).size = 0 ∨ i % (#[.int .i64 0, .int .i64 0, .string ⟨#[]⟩, .bool false] : Array Value).size = 1 ∨ i % (#[.int .i64 0, .int .i64 0, .string ⟨#[]⟩, .bool false] : Array Value).size = 2 ∨ i % (#[.int .i64 0, .int .i64 0, .string ⟨#[]⟩, .bool false] : Array Value).size = 3 := by
      have : i % (#[.int .i64 0, .int .i64 0, .string ⟨#[]⟩, .bool false] : Array Value).size < 4 := Nat.mod_lt _ (by decide)
      omega
    rcases h4 with h | h | h | h <;> rw [h] <;> rfl)
  simp only [Nat.add_zero] at hst
  obtain ⟨m, rfl⟩ : ∃ m, n = m + 1 := ⟨n - 1, by omega⟩
  simp [Builtin.clear_, run_underlying Tryd.underlying48, hv, Value.cells, hst]
theorem RdD.ofOwn {w : World} {B g n cp : Nat} {e : TypeId} {m : List Dg} (h : w.ownsRow B e 4 (.slice (some ⟨g, 0, none⟩) n cp) n (m.flatMap dgF)) : RdD w (some ⟨g, 0, none⟩) n cp m := by
  obtain ⟨_, _, e, h⟩ := Rd.own h
  simp only [Value.slice.injEq, true_and] at e
  obtain ⟨rfl, rfl⟩ := e
  exact h
theorem own_isSome {w : World} {B g n cap : Nat} {e : TypeId} {xs : List Value} (h : w.ownsRow B e 4 (.slice (some ⟨g, 0, none⟩) n cap) n xs) (j : Nat) (hj : j < cap * 4) : (w.cell? ⟨g, j, none⟩).isSome = true := by
  obtain ⟨_, h2⟩ := h
  rcases h2 with ⟨h2, _⟩ | ⟨g', cap', cur, hv, hb, hg, hle, hmx, hsz, htk⟩
  · cases h2
  · simp only [Value.slice.injEq, Option.some.injEq, Addr.mk.injEq, and_true, true_and] at hv
    obtain ⟨rfl, rfl⟩ := hv
    rw [cell_of_row w g j _ _ _ hg, Array.getElem?_eq_getElem (by rw [hsz]; exact hj)]
    rfl
theorem flat_drop (l : List Dg) (k : Nat) : (l.flatMap dgF).drop (k * 4) = (l.drop k).flatMap dgF := by
  induction l generalizing k with
  | nil => simp
  | cons x l ih =>
    cases k with
    | zero => simp
    | succ k =>
      rw [List.drop_succ_cons, List.flatMap_cons, ← ih k, List.drop_append, List.drop_eq_nil_of_le (by rw [dgF_len]; omega), List.nil_append, dgF_len]
      congr 1; omega
theorem flat_take (l : List Dg) (k : Nat) : (l.flatMap dgF).take (k * 4) = (l.take k).flatMap dgF := by
  induction l generalizing k with
  | nil => simp
  | cons x l ih =>
    cases k with
    | zero => simp
    | succ k =>
      rw [List.take_succ_cons, List.flatMap_cons, List.flatMap_cons, ← ih k, List.take_append, List.take_of_length_le (by rw [dgF_len]; omega), dgF_len]
      congr 2; omega
theorem dg_ones (l : List Dg) : ∀ u ∈ l.flatMap dgF, u.oneCell' = true := by
  intro u hu
  obtain ⟨v, _, hv⟩ := List.mem_flatMap.1 hu
  exact dgF_one v u hv
set_option maxHeartbeats 3200000 in
set_option maxRecDepth 100000 in
theorem delete_any (B g n cap i : Nat) (l : List Dg) (w : World) (hi : i < n) (hn : n ≤ 1000000) (hB : B ≤ w.heap.size) (hown : w.ownsRow B 35 4 (.slice (some ⟨g, 0, none⟩) n cap) n (l.flatMap dgF)) :
    Calls Tryd.prog 36 #[.slice (some ⟨g, 0, none⟩) n cap, .int .i64 i, .int .i64 ((i : Int) + 1)] w fun e w' => e = .returned (.slice (some ⟨g, 0, none⟩) (n - 1) cap) ∧ w'.ownsRow B 35 4 (.slice (some ⟨g, 0, none⟩) (n - 1) cap) (n - 1) ((l.eraseIdx i).flatMap dgF) ∧ w.grownBy w' (some g) := by
  have hr := RdD.ofOwn hown
  have hln := hr.len
  have hcap : n ≤ cap := hr.1.2.1
  have hcm : cap ≤ maxLen := hr.1.2.2.1
  unfold maxLen at hcm
  have op := Lib.hid (own_prefix hown i (by omega))
  rw [flat_take] at op
  have hrd := Lib.hid (fun j u (hu : ((l.drop (i + 1)).flatMap dgF)[j]? = some u) => show w.cell? ⟨g, (i + 1) * 4 + j, none⟩ = some u from by
    rw [← flat_drop, List.getElem?_drop] at hu
    have := Rd.at hr hu
    rw [Nat.zero_add] at this
    exact this)
  have hlen2 : ((l.drop (i + 1)).flatMap dgF).length = (n - (i + 1)) * 4 := by rw [flatMap_len dgF_len, List.length_drop, hln]
  have hER := Lib.hid (show (l.take i).flatMap dgF ++ (l.drop (i + 1)).flatMap dgF = (l.eraseIdx i).flatMap dgF from by rw [← List.flatMap_append, List.eraseIdx_eq_take_drop_succ])
  have h1c := dg_ones (l.drop (i + 1))
  have hiI : (i : Int) < n := by omega
  have hne : ((i : Int) == (i : Int) + 1) = false := by rw [beq_eq_false_iff_ne]; omega
  clear hown hr hln
  have hic : i ≤ cap := by omega
  have hin : i + 1 ≤ n := by omega
  have hincI : (i : Int) + 1 ≤ n := by omega
  have hinc0 : 0 ≤ (i : Int) + 1 := by omega
  have hN1 := Lib.hid (show i + (n - (i + 1)) = n - 1 from by omega)
  by_cases hcc : cap = i + 1
  · have HCC := Lib.hid hcc
    have hccT : (cap = i + 1) ↔ True := ⟨fun _ => trivial, fun _ => hcc⟩
    have hle1 : cap ≤ i + 1 := by omega
    have hle2 : i + 1 ≤ cap := by omega
    clear hcc
    (have hnw := Lib.hid (show ∀ j u, ((l.drop (i + 1)).flatMap dgF)[j]? = some u → w.cell? ((⟨g, 0, none⟩ : Addr).add j) = some u from (by intro j u hu; have hz : n - (i + 1) = 0 := (by have := HCC.out; omega); have := List.eq_nil_of_length_eq_zero (hlen2.trans (by rw [hz, Nat.zero_mul])); rw [this] at hu; simp at hu)); go_enter Tryd.func36, Tryd.ntmps36; go_wp2; go_region_law (first | (refine step_append_in (base := B) (g := g) (cap := cap) (n := i) (xs := (l.take i).flatMap dgF) (ad := ⟨g, 0, none⟩) (m := n - (i + 1)) (c := cap - (i + 1)) (news := (l.drop (i + 1)).flatMap dgF) Tryd.dgE rfl (.tmp 22) (.tmp 25) rfl (by rfl) (World.ownsRow.drew op.out) (by simp [Act.eval, Act.put, HCC.out]) hlen2 hnw.out h1c (by omega) (by unfold maxLen; omega) (by omega) hB ?_; intro w4 hown4 hg4; rw [hER.out] at hown4; rw [hN1.out] at hown4 ⊢)); all_goals (focus (have hcl := (fun ty => run_clear_dg w4 ty g ((n - 1) * 4) (n - (n - 1)) (cap - (n - 1)) (by omega) (fun q hq => own_isSome hown4 _ (by omega)) (fun q => hown4.frozenAt q)); obtain ⟨ys, oy, hty, gy⟩ := own_setCells ((n - 1) * 4) (Builtin.zeroCells #[.int .i64 0, .int .i64 0, .string ⟨#[]⟩, .bool false] (n - (n - 1))).toList ((n - 1) * 4) w4 _ (Nat.le_refl _) hown4; have hys := Lib.hid (show ys = (l.eraseIdx i).flatMap dgF from (by rw [List.take_of_length_le (Nat.le_of_eq oy.1), List.take_of_length_le (Nat.le_of_eq hown4.1)] at hty; exact hty)); have hgg := Lib.hid (show w.grownBy (w4.setCells g ((n - 1) * 4) (Builtin.zeroCells #[.int .i64 0, .int .i64 0, .string ⟨#[]⟩, .bool false] (n - (n - 1))).toList) (some g) from ⟨gy.os.trans hg4.os, gy.tape.trans hg4.tape, gy.output.trans hg4.output, Nat.le_trans hg4.size gy.size, fun k hk hne => (gy.block k (Nat.lt_of_lt_of_le hk hg4.size) hne).trans (hg4.block k hk hne)⟩); have oy2 := Lib.hid oy; have b1 : n - 1 ≤ n := (by omega); have b2 : ¬ cap = n - 1 := (by omega); have b3 : (n - 1 : Nat) ≤ cap := (by omega); generalize w4.setCells g ((n - 1) * 4) (Builtin.zeroCells #[.int .i64 0, .int .i64 0, .string ⟨#[]⟩, .bool false] (n - (n - 1))).toList = w5 at *; clear hown4 hg4 oy hty gy; go_wp2; go_ret; exact ⟨rfl, by rw [← hys.out]; exact oy2.out, hgg.out⟩)))
  · (have hnw := Lib.hid (show ∀ j u, ((l.drop (i + 1)).flatMap dgF)[j]? = some u → w.cell? ((⟨g, (i + 1) * 4, none⟩ : Addr).add j) = some u from (by intro j u hu; rw [add_zero_off]; exact hrd.out j u hu)); go_enter Tryd.func36, Tryd.ntmps36; go_wp2; go_region_law (first | (refine step_append_in (base := B) (g := g) (cap := cap) (n := i) (xs := (l.take i).flatMap dgF) (ad := ⟨g, (i + 1) * 4, none⟩) (m := n - (i + 1)) (c := cap - (i + 1)) (news := (l.drop (i + 1)).flatMap dgF) Tryd.dgE rfl (.tmp 22) (.tmp 25) rfl (by rfl) (World.ownsRow.drew op.out) (by rfl) hlen2 hnw.out h1c (by omega) (by unfold maxLen; omega) (by omega) hB ?_; intro w4 hown4 hg4; rw [hER.out] at hown4; rw [hN1.out] at hown4 ⊢)); all_goals (focus (have hcl := (fun ty => run_clear_dg w4 ty g ((n - 1) * 4) (n - (n - 1)) (cap - (n - 1)) (by omega) (fun q hq => own_isSome hown4 _ (by omega)) (fun q => hown4.frozenAt q)); obtain ⟨ys, oy, hty, gy⟩ := own_setCells ((n - 1) * 4) (Builtin.zeroCells #[.int .i64 0, .int .i64 0, .string ⟨#[]⟩, .bool false] (n - (n - 1))).toList ((n - 1) * 4) w4 _ (Nat.le_refl _) hown4; have hys := Lib.hid (show ys = (l.eraseIdx i).flatMap dgF from (by rw [List.take_of_length_le (Nat.le_of_eq oy.1), List.take_of_length_le (Nat.le_of_eq hown4.1)] at hty; exact hty)); have hgg := Lib.hid (show w.grownBy (w4.setCells g ((n - 1) * 4) (Builtin.zeroCells #[.int .i64 0, .int .i64 0, .string ⟨#[]⟩, .bool false] (n - (n - 1))).toList) (some g) from ⟨gy.os.trans hg4.os, gy.tape.trans hg4.tape, gy.output.trans hg4.output, Nat.le_trans hg4.size gy.size, fun k hk hne => (gy.block k (Nat.lt_of_lt_of_le hk hg4.size) hne).trans (hg4.block k hk hne)⟩); have oy2 := Lib.hid oy; have b1 : n - 1 ≤ n := (by omega); have b2 : ¬ cap = n - 1 := (by omega); have b3 : (n - 1 : Nat) ≤ cap := (by omega); generalize w4.setCells g ((n - 1) * 4) (Builtin.zeroCells #[.int .i64 0, .int .i64 0, .string ⟨#[]⟩, .bool false] (n - (n - 1))).toList = w5 at *; clear hown4 hg4 oy hty gy; go_wp2; go_ret; exact ⟨rfl, by rw [← hys.out]; exact oy2.out, hgg.out⟩)))
end Go.Proofs.YtmlkmonapnebiaaDoorR
