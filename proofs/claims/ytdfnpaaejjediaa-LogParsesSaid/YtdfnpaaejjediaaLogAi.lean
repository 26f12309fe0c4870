/- log: the reference's ParseItem: plain laws -/
import Derived.Test.YtdfnpaaejjediaaLogAh
import Derived.Test.YtdfnpaaejjediaaLogO
import Derived.Test.YtdfnpaaejjediaaLogZi
namespace Go.Proofs.Ytdfnpaaejjediaa
open Go.RowKit Go.Sort

theorem Try.riB1 (k : Int) : Try.prog.built 48 [(0, .int .i64 k)] = some #[.int .i64 k, .string ⟨#[]⟩, .int .u32 0, .int .u64 0, .bool false, .bool false, .int .u64 0, .int .u64 0, .int .i64 0, .int .u64 0, .slice none 0 0, .int .u64 0, .int .u64 0, .int .i64 0, .int .u64 0, .int .u64 0, .int .i64 0, .int .i64 0] := by kernel_rfl
theorem Try.riB0 : Try.prog.built 48 [] = some zIT := by kernel_rfl
/-- The error behind the head, of an item of a known kind. -/
def q1 (s : ByteArray) : Int := bE 0 3 (decide ((1024 : Int) < s.size))
theorem q1_z {s : ByteArray} (h : ¬ 1024 < s.size) : q1 s = 0 := if_neg fun g => by have := g.1; rw [decide_eq_true_eq] at this; omega
theorem q1_o {s : ByteArray} (h : 1024 < s.size) : q1 s = 3 := if_pos ⟨by rw [decide_eq_true_eq]; omega, rfl⟩
theorem gN_nv {s : ByteArray} {p m : Nat} (h : p + m ≤ s.size) : ((gN s p m : Nat) : Int) = nv (bI s) p m := by rw [gN_ok h, nvN_cast (bI_mem s)]
theorem gN_nat {s : ByteArray} {p m : Nat} (h : p + m ≤ s.size) : gN s p m = (nv (bI s) p m).toNat := gN_ok h
theorem q_long {s : ByteArray} {k : Nat} (hk : gN s 0 1 = k) (h1 : 1 ≤ s.size) (h : 1 ≤ k ∧ k ≤ 4) (hl : 1024 < s.size) : itPE (bI s) = 3 := by
  have hb := bI_len s
  have hn := gN_nv (s := s) (p := 0) (m := 1) (by omega)
  exact pE_o (by omega) (by omega) (by omega)
/-- Kind 3. -/
def q3 (s : ByteArray) : Int := bE (tvE s 1 (q1 s)) 4 (decide ((26 : Int) < s.size))
theorem q3_eq {s : ByteArray} (h1 : 1 ≤ s.size) (hk : gN s 0 1 = 3) : q3 s = itPE (bI s) ∧ (itPE (bI s) = 0 → (⟨3, [], 0, 0, false, false, ⟨.zero, []⟩, tvw s 1, 0, 0, 0⟩ : It) = itPV (bI s)) := by
  have hb := bI_len s
  have hn := gN_nv (s := s) (p := 0) (m := 1) (by omega)
  unfold q3
  by_cases hl : 1024 < s.size
  · rw [q_long hk h1 (by omega) hl, q1_o hl, tvE_ne (by decide), bE_ne (by decide)]
    exact ⟨rfl, fun h => by cases h⟩
  · rw [q1_z hl, tvE_zero, pE_3 (by omega) (by omega) (by omega), pV_3 (by omega)]
    by_cases hv : vwE (bI s) 1 = 0
    · rw [hv, if_neg (by simp), tvw_eq hv]
      refine ⟨?_, fun _ => rfl⟩
      by_cases h26 : 26 < s.size
      · rw [bE, if_pos ⟨by rw [decide_eq_true_eq]; omega, rfl⟩, if_pos (by omega)]
      · rw [bE, if_neg (fun g => by have := g.1; rw [decide_eq_true_eq] at this; omega), if_neg (by omega)]
    · rw [bE_ne hv, if_pos hv]
      exact ⟨rfl, fun h => absurd h hv⟩
/-- Kinds 1 and 4: the error ahead of the end, which is the error. -/
theorem qd_eq {s : ByteArray} (h1 : 1 ≤ s.size) (hk : gN s 0 1 = 1) : q1 s = itPE (bI s) ∧ (itPE (bI s) = 0 → itPV (bI s) = ⟨1, (bI s).drop 1, 0, 0, false, false, ⟨.zero, []⟩, .zero, 0, 0, 0⟩) := by
  have hb := bI_len s
  have hn := gN_nv (s := s) (p := 0) (m := 1) (by omega)
  by_cases hl : 1024 < s.size
  · rw [q_long hk h1 (by omega) hl, q1_o hl]
    exact ⟨rfl, fun h => by cases h⟩
  · rw [q1_z hl, pE_1 (by omega) (by omega) (by omega), pV_1 (by omega)]
    exact ⟨rfl, fun _ => rfl⟩
def q4 (s : ByteArray) : Int := nE s 11 2 (nE s 9 2 (nE s 1 8 (q1 s)))
theorem q4_eq {s : ByteArray} (h1 : 1 ≤ s.size) (hk : gN s 0 1 = 4) : q4 s = itPE (bI s) ∧ (itPE (bI s) = 0 → itPV (bI s) = ⟨4, (bI s).drop 13, 0, 0, false, false, ⟨.zero, []⟩, .zero, gN s 1 8, gN s 9 2, gN s 11 2⟩ ∧ 13 ≤ s.size) := by
  have hb := bI_len s
  have hn := gN_nv (s := s) (p := 0) (m := 1) (by omega)
  unfold q4
  by_cases hl : 1024 < s.size
  · rw [q_long hk h1 (by omega) hl, q1_o hl, nE_ne (p := 1) (by decide), nE_ne (p := 9) (by decide), nE_ne (p := 11) (by decide)]
    exact ⟨rfl, fun h => by cases h⟩
  · rw [q1_z hl, pE_4 (by omega) (by omega) (by omega), pV_4 (by omega)]
    by_cases h13 : s.size < 13
    · rw [if_pos (by omega)]
      refine ⟨?_, fun h => by cases h⟩
      by_cases h9 : 9 ≤ s.size
      · rw [nE_ok (p := 1) (by omega)]
        by_cases h11 : 11 ≤ s.size
        · rw [nE_ok (p := 9) (by omega), nE_short (by omega)]
        · rw [nE_short (p := 9) (by omega), nE_ne (by decide)]
      · rw [nE_short (p := 1) (by omega), nE_ne (p := 9) (e := 2) (by decide), nE_ne (by decide)]
    · rw [if_neg (by omega), nE_ok (p := 1) (by omega), nE_ok (p := 9) (by omega), nE_ok (p := 11) (by omega)]
      refine ⟨rfl, fun _ => ⟨?_, by omega⟩⟩
      rw [gN_nat (p := 1) (by omega), gN_nv (p := 9) (by omega), gN_nv (p := 11) (by omega)]
/-- Kind 2. -/
def q2a (s : ByteArray) : Int := nE s 13 1 (nE s 5 8 (nE s 1 4 (q1 s)))
def q2b (s : ByteArray) : Int := bE (q2a s) 1 (decide ((3 : Int) < (gN s 13 1 : Nat)))
def q2 (s : ByteArray) (q : Nat) : Int := bE (trE s 14 (q2b s)) 4 (decide (q < s.size))
theorem q2_eq {s : ByteArray} {k : Nat} (h1 : 1 ≤ s.size) (hk : gN s 0 1 = 2) (hr : trE s 14 (q2b s) = 0 → (⟨tvw s 14, tvs s (14 + 26) k⟩ : Rc) = rcAt (bI s) 14 ∧ 14 + 26 + 25 * k = rcEnd (bI s) 14) :
    q2 s (14 + 26 + 25 * k) = itPE (bI s) ∧ (itPE (bI s) = 0 → (⟨2, [], gN s 1 4, gN s 5 8, decide ((gN s 13 1 : Int) % 2 = 1), decide ((gN s 13 1 : Int) / 2 = 1), ⟨tvw s 14, tvs s (14 + 26) k⟩, .zero, 0, 0, 0⟩ : It) = itPV (bI s)) := by
  have hb := bI_len s
  have hn := gN_nv (s := s) (p := 0) (m := 1) (by omega)
  unfold q2
  by_cases hl : 1024 < s.size
  · have e2 : q2b s = 3 := by
      unfold q2b q2a
      rw [q1_o hl, nE_ne (p := 1) (e := 3) (by decide), nE_ne (p := 5) (e := 3) (by decide), nE_ne (p := 13) (e := 3) (by decide), bE_ne (by decide)]
    rw [q_long hk h1 (by omega) hl, e2, trE, if_neg (by decide), bE_ne (by decide)]
    exact ⟨rfl, fun h => by cases h⟩
  · rw [pE_2 (by omega) (by omega) (by omega), pV_2 (by omega)]
    by_cases h14 : s.size < 14
    · have e2 : q2b s = 2 := by
        unfold q2b q2a
        rw [q1_z hl]
        by_cases h5 : 5 ≤ s.size
        · rw [nE_ok (p := 1) (by omega)]
          by_cases h13 : 13 ≤ s.size
          · rw [nE_ok (p := 5) (by omega), nE_short (by omega), bE_ne (by decide)]
          · rw [nE_short (p := 5) (by omega), nE_ne (p := 13) (e := 2) (by decide), bE_ne (by decide)]
        · rw [nE_short (p := 1) (by omega), nE_ne (p := 5) (e := 2) (by decide), nE_ne (p := 13) (e := 2) (by decide), bE_ne (by decide)]
      rw [e2, trE, if_neg (by decide), bE_ne (by decide), if_pos (by omega)]
      exact ⟨rfl, fun h => by cases h⟩
    · have ea : q2a s = 0 := by unfold q2a; rw [q1_z hl, nE_ok (p := 1) (by omega), nE_ok (p := 5) (by omega), nE_ok (p := 13) (by omega)]
      have hf := gN_nv (s := s) (p := 13) (m := 1) (by omega)
      rw [if_neg (by omega)]
      by_cases h3 : 3 < nv (bI s) 13 1
      · have e2 : q2b s = 1 := by unfold q2b; rw [ea, bE, if_pos ⟨by rw [decide_eq_true_eq]; omega, rfl⟩]
        rw [e2, trE, if_neg (by decide), bE_ne (by decide), if_pos h3]
        exact ⟨rfl, fun h => by cases h⟩
      · have e2 : q2b s = 0 := by unfold q2b; rw [ea, bE, if_neg (fun g => by have := g.1; rw [decide_eq_true_eq] at this; omega)]
        rw [e2] at hr ⊢
        unfold trE at hr ⊢
        rw [if_pos rfl] at hr ⊢
        rw [if_neg h3]
        by_cases hc : rcE (bI s) 14 = 0
        · obtain ⟨e3, e4⟩ := hr hc
          rw [hc, if_neg (by simp), e3, e4, gN_nat (p := 1) (by omega), gN_nat (p := 5) (by omega), hf]
          refine ⟨?_, fun _ => rfl⟩
          by_cases hq : rcEnd (bI s) 14 < s.size
          · rw [bE, if_pos ⟨by rw [decide_eq_true_eq]; omega, rfl⟩, if_pos (by omega)]
          · rw [bE, if_neg (fun g => by have := g.1; rw [decide_eq_true_eq] at this; omega), if_neg (by omega)]
        · rw [bE_ne hc, if_pos hc]
          exact ⟨rfl, fun h => absurd h hc⟩
/-- None of the kinds. -/
theorem q0_eq {s : ByteArray} (hk : ¬ s.size < 1 → gN s 0 1 < 1 ∨ 4 < gN s 0 1) : bE (nE s 0 1 0) 10 true = itPE (bI s) ∧ itPE (bI s) ≠ 0 := by
  have hb := bI_len s
  by_cases h1 : s.size < 1
  · rw [nE_short (by omega), bE_ne (by decide), pE_l (by omega)]
    exact ⟨rfl, by decide⟩
  · have hn := gN_nv (s := s) (p := 0) (m := 1) (by omega)
    have := hk h1
    rw [nE_ok (by omega), pE_k (by omega) (by omega)]
    exact ⟨rfl, by decide⟩
theorem PS.got {w W : World} {t : TypeId} {z : Array Value} {s : ByteArray} {q : Nat} {e : Int} (h : PS w W t z s q e) : W.cell? ⟨w.heap.size + 1, 1, none⟩ = some (.int .i64 q) ∧ W.frozen? ⟨w.heap.size + 1, 1, none⟩ = false ∧ W.cell? ⟨w.heap.size + 1, 2, none⟩ = some (.int .i64 e) := ⟨h.tk.blk.cell (i := 1) rfl, h.tk.blk.fz 1, h.tk.blk.cell (i := 2) rfl⟩
theorem PS.setAt {w W : World} {t : TypeId} {z : Array Value} {s : ByteArray} {q : Nat} {e : Int} (h : PS w W t z s q e) : PS w (W.setCell ⟨w.heap.size + 1, 1, none⟩ (.int .i64 (s.size : Nat))) t z s s.size e :=
  h.kp ((Kp.refl _ _).setCell ⟨w.heap.size + 1, 1, none⟩ rfl _) ⟨h.tk.blk.set 1 _⟩
end Go.Proofs.Ytdfnpaaejjediaa
