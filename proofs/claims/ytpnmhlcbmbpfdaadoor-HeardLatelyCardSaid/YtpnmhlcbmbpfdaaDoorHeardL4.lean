/- the law HeardLately -/
import Derived.Test.YtpnmhlcbmbpfdaaDoorHeardL3
namespace Go.Proofs.YtpnmhlcbmbpfdaaDoor
open Go.RowKit Go.Sort

theorem lately_out (timeout p q : Int) (sa : Option Addr) (n c : Nat) (w : World) (hT : Tab w) (h : timeout < 0 ∨ 1000 < timeout ∨ p < 1 ∨ 63 < p ∨ (p == q) = true ∨ 50 < n) (hn : n ≤ 9223372036854775807) :
    Calls Tryd.prog 4 #[.int .i64 timeout, .int .i64 p, .int .i64 q, .slice sa n c] w fun e w' => e = .returned (.bool true) ∧ Below w.heap.size w w' := by
  by_cases h1 : timeout < 0
  · clear h
    go_enter Tryd.func4, Tryd.ntmps4
    go_wp2_with fail
    refine (awake_any _ hT).mono ?_
    rintro e w1 ⟨rfl, hb1⟩
    go_wp2; go_ret; exact ⟨rfl, hb1⟩
  by_cases h2 : 1000 < timeout
  · clear h
    go_enter Tryd.func4, Tryd.ntmps4
    go_wp2_with fail
    refine (awake_any _ hT).mono ?_
    rintro e w1 ⟨rfl, hb1⟩
    go_wp2; go_ret; exact ⟨rfl, hb1⟩
  by_cases h3 : p < 1
  · clear h
    go_enter Tryd.func4, Tryd.ntmps4
    go_wp2_with fail
    refine (awake_any _ hT).mono ?_
    rintro e w1 ⟨rfl, hb1⟩
    go_wp2; go_ret; exact ⟨rfl, hb1⟩
  by_cases h4 : 63 < p
  · clear h
    go_enter Tryd.func4, Tryd.ntmps4
    go_wp2_with fail
    refine (awake_any _ hT).mono ?_
    rintro e w1 ⟨rfl, hb1⟩
    go_wp2; go_ret; exact ⟨rfl, hb1⟩
  cases h5 : (p == q) with
  | true =>
    clear h
    go_enter Tryd.func4, Tryd.ntmps4
    go_wp2_with fail
    refine (awake_any _ hT).mono ?_
    rintro e w1 ⟨rfl, hb1⟩
    go_wp2; go_ret; exact ⟨rfl, hb1⟩
  | false =>
    have h6 : 50 < n := by rw [h5] at h; simp at h; omega
    clear h
    go_enter Tryd.func4, Tryd.ntmps4
    go_wp2_with fail
    refine (awake_any _ hT).mono ?_
    rintro e w1 ⟨rfl, hb1⟩
    go_wp2; go_ret; exact ⟨rfl, hb1⟩
theorem lately_law (timeout p q : Int) (sa : Option Addr) (n c : Nat) (w : World) (hT : Tab w) (_ : (Lit.int .i64 timeout).wf = true) (_ : (Lit.int .i64 p).wf = true) (_ : (Lit.int .i64 q).wf = true) (h : ∃ l, RSl (RInt .u8) 1 w sa n c l) :
    Calls Tryd.prog 4 #[.int .i64 timeout, .int .i64 p, .int .i64 q, .slice sa n c] w fun e w' => e = .returned (.bool true) ∧ Below w.heap.size w w' := by
  obtain ⟨l, hl⟩ := h
  have hr := hl.ints
  have hmx := hr.le_max
  unfold maxLen at hmx
  by_cases ho : timeout < 0 ∨ 1000 < timeout ∨ p < 1 ∨ 63 < p ∨ (p == q) = true ∨ 50 < n
  · exact lately_out timeout p q sa n c w hT ho hmx
  · have hpq : (p == q) = false := by
      cases e : (p == q) with
      | true => exact absurd (.inr (.inr (.inr (.inr (.inl e))))) ho
      | false => rfl
    have ho' : ¬ (timeout < 0 ∨ 1000 < timeout ∨ p < 1 ∨ 63 < p ∨ 50 < n) := fun h => ho (by rcases h with h | h | h | h | h <;> simp [h])
    obtain ⟨t, rfl⟩ : ∃ t : Nat, timeout = t := ⟨timeout.toNat, by omega⟩
    obtain ⟨k, rfl⟩ : ∃ k : Nat, p = k := ⟨p.toNat, by omega⟩
    exact lately_main t k q sa n c l w hT (by omega) (by omega) (by omega) hpq hr hl.intsWf (by omega)
theorem opens_u8s {H : Type} {enc : TypeId × Value → H} {W : World} : Opens enc Tryd.prog W 53 (RSlc (RInt .u8) 1) :=
  opens_slice (sz := 1) Tryd.underlying53 (by kernel_rfl) (by decide) (opens_int Tryd.underlying5)
end Go.Proofs.YtpnmhlcbmbpfdaaDoor
