/- walks of the reference of sets: Truths, Set -/
import Derived.Test.YtcgfpolklfhppaaDoorSetB
import Derived.Test.YtcgfpolklfhppaaDoorArr
namespace Go.Proofs.YtcgfpolklfhppaaDoor
open Go.RowKit

theorem Tryd.arrE : BArr Tryd.prog 71 4 := ⟨by kernel_rfl, by kernel_rfl, by kernel_rfl, by kernel_rfl⟩

/-- The truths of x. -/
def tru (x : Nat) : Nat → Bool := fun i => x.testBit i

set_option maxHeartbeats 800000 in
set_option maxRecDepth 100000 in
theorem truths_any (x : Nat) (w : World) (hx : x < 18446744073709551616) :
    Calls Tryd.prog 36 #[.int .u64 x] w fun e w' => e = .returned (.agg (arrV (tru x))) ∧ Below w.heap.size w w' := by
  go_enter Tryd.func36, Tryd.ntmps36
  go_wp2_with (first | (refine wpList_arr_alloc Tryd.arrE rfl rfl w.heap.size rfl ?_) | (refine wpList_arr_alloc Tryd.arrE rfl rfl (w.heap.size + 1) (by simp) ?_))
  go_loopw [0, 4] (fun y i wr => ∃ k z : Nat, k ≤ 64 ∧ i = .int .i64 k ∧ y = .int .u64 z ∧ z < 18446744073709551616 ∧ Hid (z = x / 2 ^ k) ∧ ArrAt wr w.heap.size 71 (fun _ => false) ∧ ArrAt wr (w.heap.size + 1) 71 (fun j => decide (j < k) && x.testBit j) ∧ Below w.heap.size w wr) (fun _ i _ => 64 - (intOf i).toNat)
  case atStart =>
    exact ⟨0, x, Nat.zero_le _, rfl, rfl, hx, by simp [Hid], (ArrAt.new w _ _).alloc _, by simpa using (ArrAt.new (w.alloc (.cells (arrV fun _ => false) 71)) 71 (fun _ => false)), ((Below.refl _ _).alloc (Nat.le_refl _) _).alloc (by simp) _⟩
  case round =>
    obtain ⟨k, z, hk, rfl, rfl, hz, hzx, h1, h2, hbr⟩ := hrel
    by_cases hlt : k < 64
    · have hc := h2.cell k hlt
      have hf := h2.fz k
      have hset := fun b => Lib.hid (h2.set k b hlt)
      have hoth := fun b => Lib.hid (h1.other (a := ⟨w.heap.size + 1, k, none⟩) (by simp) (.bool b))
      have hbit : (((z : Int) % 2 == 1) : Bool) = x.testBit k := by
        rw [hzx.out, Nat.testBit_eq_decide_div_mod_eq, Bool.eq_iff_iff, beq_iff_eq, decide_eq_true_eq]
        omega
      have HB := Lib.hid hbit
      clear hbit
      go_wp2
      rw [HB.out]
      go_roundw
      case rel => exact ⟨k + 1, z / 2, by omega, by go_num, by go_num, by omega, by rw [hzx.out, Nat.div_div_eq_div_mul, ← Nat.pow_succ]; rfl, (hoth _).out, (hset _).out.congr (fun j hj => by
          by_cases e : j = k
          · subst e; simp
          · have : decide (j < k + 1) = decide (j < k) := by rw [decide_eq_decide]; omega
            rw [if_neg e, this]), hbr.setCell (by simp) _⟩
      case measure => simp [intOf]; omega
    · obtain rfl : k = 64 := by omega
      have h3 : ArrAt wr (w.heap.size + 1) 71 (tru x) := h2.congr fun j hj => by simp [tru, hj]
      clear h2
      go_wp2_with (first
        | (refine wpList_arr_load Tryd.arrE rfl (.tmp 3) rfl _ rfl _ h3 ?_)
        | (refine wpList_arr_store Tryd.arrE rfl (.tmp 2) (.tmp 16) rfl _ rfl _ _ rfl h1 ?_; intro w' ha hot hsz hos htp hout))
      refine bodyPost_ret (v := .agg (arrV (tru x))) (results_cell_row rfl _ _ w.heap.size 71 _ (0, 0) _ rfl ha Tryd.arrE.ty rfl (Tryd.arrE.size _)) rfl ⟨rfl, ?_⟩
      exact hbr.trans ⟨hos, htp, hout, by omega, fun k hk => hot k (by omega)⟩

/-- The number of some truths, from the highest on: the first k rounds. -/
def hiN (f : Nat → Bool) : Nat → Nat
  | 0 => 0
  | k + 1 => 2 * hiN f k + (f (63 - k)).toNat
def setN (f : Nat → Bool) : Nat := hiN f 64
theorem hiN_lt (f : Nat → Bool) : ∀ k, hiN f k < 2 ^ k := by
  intro k
  induction k with
  | zero => simp [hiN]
  | succ k ih => rw [hiN, Nat.pow_succ]; have := Bool.toNat_lt (f (63 - k)); omega
theorem hiN_bit (f : Nat → Bool) : ∀ k, k ≤ 64 → ∀ j, j < k → (hiN f k).testBit j = f (64 - k + j) := by
  intro k
  induction k with
  | zero => intro _ j h; omega
  | succ k ih =>
    intro hk j hj
    rw [hiN]
    cases j with
    | zero =>
      rw [Nat.testBit_zero, show 64 - (k + 1) + 0 = 63 - k from by omega]
      cases f (63 - k) with
      | true => rw [decide_eq_true_eq]; simp only [Bool.toNat_true]; omega
      | false => rw [decide_eq_false_iff_not]; simp only [Bool.toNat_false]; omega
    | succ j =>
      rw [Nat.testBit_succ]
      have := Bool.toNat_lt (f (63 - k))
      rw [show (2 * hiN f k + (f (63 - k)).toNat) / 2 = hiN f k from by omega, ih (by omega) j (by omega)]
      congr 1; omega
theorem setN_lt (f : Nat → Bool) : setN f < 18446744073709551616 := by have := hiN_lt f 64; rw [p64] at this; exact this
theorem setN_bit (f : Nat → Bool) (i : Nat) (h : i < 64) : (setN f).testBit i = f i := by
  rw [setN, hiN_bit f 64 (Nat.le_refl _) i h]; congr 1; omega
theorem setN_eq {f : Nat → Bool} {x : Nat} (hx : x < 18446744073709551616) (h : ∀ i, i < 64 → f i = x.testBit i) : setN f = x :=
  ext64 (setN_lt f) hx fun i hi => by rw [setN_bit f i hi, h i hi]

end Go.Proofs.YtcgfpolklfhppaaDoor
