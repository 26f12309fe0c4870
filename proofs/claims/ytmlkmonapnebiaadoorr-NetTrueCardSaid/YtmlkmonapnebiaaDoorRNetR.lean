/- the net: the walks of differ and NetTrue -/
import Derived.Test.YtmlkmonapnebiaaDoorRNetQ
namespace Go.Proofs.YtmlkmonapnebiaaDoorR
open Go.RowKit Go.Sort

theorem gap_ne {a b : ByteArray} (h : a.size ≠ b.size) : gap a b = -1 := if_neg h
theorem gap_eq {a b : ByteArray} (h : a.size = b.size) : gap a b = (gapN (bI a) (bI b) a.size : Nat) := if_pos h
theorem gapN_t {A B : List Int} {k : Nat} (h : A.getD k 0 = B.getD k 0) : gapN A B (k + 1) = gapN A B k := by rw [gapN, if_pos h]; rfl
theorem gapN_f {A B : List Int} {k : Nat} (h : A.getD k 0 ≠ B.getD k 0) : gapN A B (k + 1) = gapN A B k + 1 := by rw [gapN, if_neg h]
theorem bI_getD (s : ByteArray) (k : Nat) (h : k < s.size) : (bI s).getD k 0 = ((s[k]'h).toNat : Int) := by
  rw [List.getD_eq_getElem?_getD, bI_get s k h]; rfl
set_option maxHeartbeats 1600000 in
set_option maxRecDepth 100000 in
theorem differ_any (a b : ByteArray) (ha : a.size ≤ maxLen) (w : World) : Calls Tryd.prog 17 #[.string a, .string b] w fun e w' => e = .returned (.int .i64 (gap a b)) ∧ Below w.heap.size w w' := by
  unfold maxLen at ha
  by_cases hs : a.size = b.size
  · have hg := Lib.hid (gap_eq hs)
    have hG0 := Lib.hid (fun k h => gapN_t (A := bI a) (B := bI b) (k := k) h)
    have hG1 := Lib.hid (fun k h => gapN_f (A := bI a) (B := bI b) (k := k) h)
    have hle := Lib.hid (gapN_le (bI a) (bI b))
    have hba := Lib.hid (bI_getD a)
    have hbb := Lib.hid (bI_getD b)
    generalize bI a = A at *
    generalize bI b = B at *
    have hsB : (a.size : Int) = b.size := by omega
    have hsz := Lib.hid hs
    clear hs
    go_enter Tryd.func17, Tryd.ntmps17
    go_wp2
    go_loopw [5, 6] (fun n i wr => ∃ k : Nat, k ≤ a.size ∧ i = .int .i64 k ∧ n = .int .i64 (gapN A B k : Nat) ∧ Below w.heap.size w wr) (fun _ i _ => a.size - (intOf i).toNat)
    case atStart => exact ⟨0, Nat.zero_le _, rfl, rfl, Below.refl _ _⟩
    case round =>
      obtain ⟨k, hk, rfl, rfl, hbr⟩ := hrel
      by_cases hlt : k < a.size
      · have hkI : (k : Int) < a.size := by omega
        have hk1 : k < b.size := by rw [← hsz.out]; exact hlt
        have hk1I : (k : Int) < b.size := by omega
        have q1 := hba.out k hlt
        have q2 := hbb.out k hk1
        have q3 := hG0.out k
        have q4 := hG1.out k
        have q5 := hle.out k
        rw [q1, q2] at q3 q4
        go_wp2
        by_cases e : (a[k]'hlt).toNat = (b[k]'hk1).toNat
        · have eB : (((a[k]'hlt).toNat : Int) != ((b[k]'hk1).toNat : Int)) = false := by simp [e]
          have q6 := Lib.hid (q3 (by rw [e]))
          clear q1 q2 q3 q4 q5 e
          go_quiet (fail)
          go_wp2
          go_roundw
          case rel => exact ⟨k + 1, by omega, by go_num, by rw [q6.out], belN hbr _⟩
          case measure => simp [intOf]; omega
        · have eB : (((a[k]'hlt).toNat : Int) != ((b[k]'hk1).toNat : Int)) = true := by simp; omega
          have q6 := Lib.hid (q4 (by omega))
          generalize gapN A B k = g at *
          clear q1 q2 q3 q4 e
          go_quiet (fail)
          go_wp2
          go_roundw
          case rel => exact ⟨k + 1, by omega, by go_num, by rw [q6.out]; go_num, belN hbr _⟩
          case measure => simp [intOf]; omega
      · obtain rfl : k = a.size := by omega
        go_wp2
        go_ret
        exact ⟨by rw [hg.out]; rfl, hbr⟩
  · rw [gap_ne hs]
    have hsB : ((a.size : Int) != (b.size : Int)) = true := by simp; omega
    clear hs
    go_enter Tryd.func17, Tryd.ntmps17
    go_wp2
    go_ret
    exact ⟨rfl, Below.refl _ _⟩
end Go.Proofs.YtmlkmonapnebiaaDoorR
