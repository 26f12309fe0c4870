/- the reference's window: its cells and the walks of its functions -/
import Derived.Test.YthjlilgnnmnaeaaDoorLinkB
namespace Go.Proofs.YthjlilgnnmnaeaaDoor
open Go.RowKit

/-- The cells of the reference's window. -/
def refC (s : WS) : Array Value := #[.int .i64 s.me, .int .i64 s.size] ++ ((List.range 64).map fun i => Value.bool (s.oth.testBit i)).toArray ++ #[.int .u32 s.sent] ++ ((List.range 64).map fun i => Value.int .u32 (s.got i)).toArray
theorem refC_size (s : WS) : (refC s).size = 131 := by simp [refC]
theorem refC_0 (s : WS) : (refC s)[0]? = some (.int .i64 s.me) := by
  rw [refC, Array.getElem?_append_left (by simp), Array.getElem?_append_left (by simp), Array.getElem?_append_left (by simp)]; rfl
theorem refC_1 (s : WS) : (refC s)[1]? = some (.int .i64 s.size) := by
  rw [refC, Array.getElem?_append_left (by simp), Array.getElem?_append_left (by simp), Array.getElem?_append_left (by simp)]; rfl
theorem refC_2 (s : WS) (i : Nat) (h : i < 64) : (refC s)[2 + i]? = some (.bool (s.oth.testBit i)) := by
  rw [refC, Array.getElem?_append_left (by simp; omega), Array.getElem?_append_left (by simp; omega), Array.getElem?_append_right (by simp)]; simp [h]
theorem refC_66 (s : WS) : (refC s)[66]? = some (.int .u32 s.sent) := by
  rw [refC, Array.getElem?_append_left (by simp), Array.getElem?_append_right (by simp)]; simp
theorem refC_67 (s : WS) (i : Nat) (h : i < 64) : (refC s)[67 + i]? = some (.int .u32 (s.got i)) := by
  rw [refC, Array.getElem?_append_right (by simp)]; simp [h]
theorem refC_hi (s : WS) (i : Nat) (h : 64 ≤ i) : (refC s)[67 + i]? = none := by
  rw [Array.getElem?_eq_none_iff, refC_size]; omega
theorem refC_one (s : WS) : (refC s).all (·.oneCell') = true := by
  rw [refC, Array.all_append, Array.all_append, Array.all_append]
  simp [Value.oneCell']
/-- Two rows of such cells are one, where they hold the same. -/
theorem refC_ext {cs : Array Value} {s : WS} (hz : cs.size = 131) (h0 : cs[0]? = some (.int .i64 s.me)) (h1 : cs[1]? = some (.int .i64 s.size)) (h2 : ∀ i, i < 64 → cs[2 + i]? = some (.bool (s.oth.testBit i)))
    (h3 : cs[66]? = some (.int .u32 s.sent)) (h4 : ∀ i, i < 64 → cs[67 + i]? = some (.int .u32 (s.got i))) : cs = refC s := by
  apply Array.ext_getElem?
  intro i
  rcases (show i = 0 ∨ i = 1 ∨ (2 ≤ i ∧ i < 66) ∨ i = 66 ∨ 67 ≤ i from by omega) with rfl | rfl | ⟨ha, hb⟩ | rfl | hi
  · rw [h0, refC_0]
  · rw [h1, refC_1]
  · obtain ⟨j, rfl⟩ : ∃ j, i = 2 + j := ⟨i - 2, by omega⟩
    rw [h2 j (by omega), refC_2 s j (by omega)]
  · rw [h3, refC_66]
  · obtain ⟨j, rfl⟩ : ∃ j, i = 67 + j := ⟨i - 67, by omega⟩
    by_cases hj : j < 64
    · rw [h4 j hj, refC_67 s j hj]
    · rw [refC_hi s j (by omega), Array.getElem?_eq_none_iff, hz]; omega
theorem refC_next (s : WS) : (refC s).setIfInBounds 66 (.int .u32 ((s.sent : Int) + 1)) = refC s.next := by
  refine refC_ext (by rw [Array.size_setIfInBounds, refC_size]) ?_ ?_ (fun i hi => ?_) ?_ (fun i hi => ?_)
  · rw [Array.getElem?_setIfInBounds, if_neg (by omega), refC_0]; rfl
  · rw [Array.getElem?_setIfInBounds, if_neg (by omega), refC_1]; rfl
  · rw [Array.getElem?_setIfInBounds, if_neg (by omega), refC_2 s i hi]; rfl
  · rw [Array.getElem?_setIfInBounds, if_pos rfl, refC_size]; rfl
  · rw [Array.getElem?_setIfInBounds, if_neg (by omega), refC_67 s i hi]; rfl
theorem refC_set1 (s : WS) (z : Int) : (refC s).setIfInBounds 1 (.int .i64 z) = refC { s with size := z } := by
  refine refC_ext (by rw [Array.size_setIfInBounds, refC_size]) ?_ ?_ (fun i hi => ?_) ?_ (fun i hi => ?_)
  · rw [Array.getElem?_setIfInBounds, if_neg (by omega), refC_0]
  · rw [Array.getElem?_setIfInBounds, if_pos rfl, refC_size]; rfl
  · rw [Array.getElem?_setIfInBounds, if_neg (by omega), refC_2 s i hi]
  · rw [Array.getElem?_setIfInBounds, if_neg (by omega), refC_66]
  · rw [Array.getElem?_setIfInBounds, if_neg (by omega), refC_67 s i hi]
theorem refC_put (s : WS) (p n : Nat) (hp : p < 64) (h : hasB s.oth p = true) (v : Nat) (hv : v = max (s.got p) (min n s.sent)) : (refC s).setIfInBounds (67 + p) (.int .u32 v) = refC (s.put p n) := by
  subst hv
  rw [WS.put, if_pos h]
  refine refC_ext (by rw [Array.size_setIfInBounds, refC_size]) ?_ ?_ (fun i hi => ?_) ?_ (fun i hi => ?_)
  · rw [Array.getElem?_setIfInBounds, if_neg (by omega), refC_0]
  · rw [Array.getElem?_setIfInBounds, if_neg (by omega), refC_1]
  · rw [Array.getElem?_setIfInBounds, if_neg (by omega), refC_2 s i hi]
  · rw [Array.getElem?_setIfInBounds, if_neg (by omega), refC_66]
  · rw [Array.getElem?_setIfInBounds, refC_size]
    by_cases e : p = i
    · subst e; rw [if_pos rfl, if_pos (by omega)]; simp
    · rw [if_neg (by omega), refC_67 s i hi]; simp [Ne.symm e]
theorem refC_oth (s : WS) (k x : Nat) (hk : k < 64) (b : Bool) (hx : x.testBit k = b) (ho : ∀ i, i < 64 → i ≠ k → x.testBit i = s.oth.testBit i) : (refC s).setIfInBounds (2 + k) (.bool b) = refC { s with oth := x } := by
  refine refC_ext (by rw [Array.size_setIfInBounds, refC_size]) ?_ ?_ (fun i hi => ?_) ?_ (fun i hi => ?_)
  · rw [Array.getElem?_setIfInBounds, if_neg (by omega), refC_0]
  · rw [Array.getElem?_setIfInBounds, if_neg (by omega), refC_1]
  · rw [Array.getElem?_setIfInBounds, refC_size]
    by_cases e : k = i
    · subst e; rw [if_pos rfl, if_pos (by omega)]; simp [hx]
    · rw [if_neg (by omega), refC_2 s i hi]; simp [ho i hi (Ne.symm e)]
  · rw [Array.getElem?_setIfInBounds, if_neg (by omega), refC_66]
  · rw [Array.getElem?_setIfInBounds, if_neg (by omega), refC_67 s i hi]
/-- Block b holds the reference's window. -/
def RefAt (w : World) (b : Nat) (s : WS) : Prop := BlkAt w b 32 (refC s)
section
variable {w w' : World} {b : Nat} {s : WS}
theorem RefAt.lt (h : RefAt w b s) : b < w.heap.size := BlkAt.lt h
theorem RefAt.below {B : Nat} (h : RefAt w b s) (k : Below B w w') (hb : b < B) : RefAt w' b s := BlkAt.below h k hb
theorem RefAt.c0 (h : RefAt w b s) : w.cell? ⟨b, 0, none⟩ = some (.int .i64 s.me) := BlkAt.cell h (refC_0 s)
theorem RefAt.c1 (h : RefAt w b s) : w.cell? ⟨b, 1, none⟩ = some (.int .i64 s.size) := BlkAt.cell h (refC_1 s)
theorem RefAt.c2 (h : RefAt w b s) (i : Nat) (hi : i < 64) : w.cell? ⟨b, 2 + i, none⟩ = some (.bool (s.oth.testBit i)) := BlkAt.cell h (refC_2 s i hi)
theorem RefAt.c3 (h : RefAt w b s) : w.cell? ⟨b, 66, none⟩ = some (.int .u32 s.sent) := BlkAt.cell h (refC_66 s)
theorem RefAt.c4 (h : RefAt w b s) (i : Nat) (hi : i < 64) : w.cell? ⟨b, 67 + i, none⟩ = some (.int .u32 (s.got i)) := BlkAt.cell h (refC_67 s i hi)
theorem RefAt.fz (h : RefAt w b s) (i : Nat) : w.frozen? ⟨b, i, none⟩ = false := BlkAt.fz h i
theorem RefAt.drewN (h : RefAt w b s) (n : Nat) : RefAt (w.drewN n) b s := h
theorem RefAt.new (w : World) (s : WS) : RefAt (w.alloc (.cells (refC s) 32)) w.heap.size s := BlkAt.new _ _ _
end
theorem Tryd.refI (s : WS) : (Tryd.prog.info? 32).map (·.size) = some (refC s).size := by rw [refC_size]; kernel_rfl
theorem Tryd.refZ : (Tryd.prog.info? 32).map (·.zero) = some (some (.agg (refC WS.zero))) := by kernel_rfl
theorem Tryd.refB (me size : Int) : Tryd.prog.built 32 [(0, .int .i64 me), (1, .int .i64 size)] = some (refC ⟨me, size, 0, 0, fun _ => 0⟩) := by kernel_rfl

/-- The members below k. -/
def memK (x k : Nat) : List Nat := (List.range k).filter fun i => x.testBit i
theorem memK_64 (x : Nat) : memK x 64 = memN x := rfl
theorem memK_snoc (x k : Nat) : memK x (k + 1) = if x.testBit k = true then memK x k ++ [k] else memK x k := by
  rw [memK, List.range_succ, List.filter_append]
  by_cases h : x.testBit k = true
  · rw [if_pos h]; simp [memK, h]
  · rw [if_neg h]; simp [memK, h]

set_option maxHeartbeats 800000 in
set_option maxRecDepth 100000 in
theorem rlow_any (s : WS) (hs : s.Ok) (w : World) :
    Calls Tryd.prog 18 #[.agg (refC s)] w fun e w' => e = .returned (.int .u32 s.low) ∧ Below w.heap.size w w' := by
  have h := RefAt.new w s
  have hb : Below w.heap.size w (w.alloc (.cells (refC s) 32)) := (Below.refl _ _).alloc (Nat.le_refl _) _
  have hsent := hs.sent
  have hgot := hs.got
  go_enter Tryd.func18, Tryd.ntmps18
  have c3 := h.c3
  go_wp2_with (refine wpList_blk_box rfl (.tmp 0) rfl rfl w.heap.size rfl ?_; generalize w.alloc (.cells (refC s) 32) = w1 at *)
  go_loopw [3, 4] (fun lo i wr => ∃ k z : Nat, k ≤ 64 ∧ i = .int .i64 k ∧ lo = .int .u32 z ∧ Hid (z = lowL s.got s.sent (memK s.oth k)) ∧ z ≤ s.sent ∧ wr = w1) (fun _ i _ => 64 - (intOf i).toNat)
  case atStart => exact ⟨0, s.sent, Nat.zero_le _, rfl, rfl, rfl, Nat.le_refl _, rfl⟩
  case round =>
    obtain ⟨k, z, hk, rfl, rfl, hz, hzs, rfl⟩ := hrel
    by_cases hlt : k < 64
    · have hkI : (k : Int) < 64 := by omega
      have hc2 := h.c2 k hlt
      have hc4 := h.c4 k hlt
      have hg2 := hgot k
      have hsn := Lib.hid (memK_snoc s.oth k)
      cases hbit : s.oth.testBit k with
      | true =>
        rw [hbit] at hc2
        have HS := Lib.hid (show lowL s.got s.sent (memK s.oth (k + 1)) = if s.got k < z then s.got k else z by rw [hsn.out, if_pos hbit, lowL_snoc, ← hz.out])
        clear hbit hsn
        by_cases hlo : s.got k < z
        · have HZ := Lib.hid (HS.out.trans (if_pos hlo))
          have hlo' : (s.got k : Int) < z := by omega
          clear HS
          go_wp2
          go_roundw
          case rel => exact ⟨k + 1, s.got k, by omega, by go_num, rfl, HZ.out.symm, by omega, trivial⟩
          case measure => simp [intOf]; omega
        · have HZ := Lib.hid (HS.out.trans (if_neg hlo))
          have hlo' : ¬ (s.got k : Int) < z := by omega
          clear HS
          go_wp2
          go_roundw
          case rel => exact ⟨k + 1, z, by omega, by go_num, rfl, HZ.out.symm, by omega, trivial⟩
          case measure => simp [intOf]; omega
      | false =>
        rw [hbit] at hc2
        have HZ := Lib.hid (show lowL s.got s.sent (memK s.oth (k + 1)) = z by rw [hsn.out, if_neg (by rw [hbit]; decide), ← hz.out])
        clear hbit hsn
        go_wp2
        go_roundw
        case rel => exact ⟨k + 1, z, by omega, by go_num, rfl, HZ.out.symm, by omega, trivial⟩
        case measure => simp [intOf]; omega
    · obtain rfl : k = 64 := by omega
      go_wp2
      go_ret
      refine ⟨ret_int ?_, hb⟩
      rw [hz.out, memK_64]; rfl
end Go.Proofs.YthjlilgnnmnaeaaDoor
