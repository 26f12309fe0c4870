/- walks of the reference's window: Lag, Of, Got, New -/
import Derived.Test.YthjlilgnnmnaeaaDoorLinkR
namespace Go.Proofs.YthjlilgnnmnaeaaDoor
open Go.RowKit

set_option maxHeartbeats 800000 in
set_option maxRecDepth 100000 in
theorem rlag_any (s : WS) (hs : s.Ok) (w : World) :
    Calls Tryd.prog 20 #[.agg (refC s)] w fun e w' => e = .returned (.int .u64 s.lag) ∧ Below w.heap.size w w' := by
  have h := RefAt.new w s
  have hb : Below w.heap.size w (w.alloc (.cells (refC s) 32)) := (Below.refl _ _).alloc (Nat.le_refl _) _
  have hsent := hs.sent
  have hgot := hs.got
  have c3 := h.c3
  go_enter Tryd.func20, Tryd.ntmps20
  go_wp2_with (refine wpList_blk_box rfl (.tmp 0) rfl rfl w.heap.size rfl ?_; generalize w.alloc (.cells (refC s) 32) = w1 at *)
  go_loopw [3, 4] (fun la i wr => ∃ k z : Nat, k ≤ 64 ∧ i = .int .i64 k ∧ la = .int .u64 z ∧ z < 18446744073709551616 ∧ Hid (z = lagL s.got s.sent (memK s.oth k)) ∧ RefAt wr w.heap.size s ∧ Below w.heap.size w wr) (fun _ i _ => 64 - (intOf i).toNat)
  case atStart => exact ⟨0, 0, Nat.zero_le _, rfl, rfl, by decide, rfl, h, hb⟩
  case round =>
    obtain ⟨k, z, hk, rfl, rfl, hz1, hz, h2, hbr⟩ := hrel
    by_cases hlt : k < 64
    · have hkI : (k : Int) < 64 := by omega
      have hc2 := h2.c2 k hlt
      have hc4 := h2.c4 k hlt
      have hc3 := h2.c3
      have hg2 := hgot k
      have hsn := Lib.hid (memK_snoc s.oth k)
      have hshl : IntKind.u64.wrap ((2 : Int) ^ k) = ((bitN k : Nat) : Int) := by
        have hb := bitN_lt k
        have he : bitN k = 2 ^ k := by rw [bitN, if_pos (by omega), Int.toNat_natCast]
        rw [he] at hb ⊢
        rw [IntKind.wrap_u64, show ((2 : Int) ^ k) = ((2 ^ k : Nat) : Int) from by simp]
        omega
      have hor := u64_or_nat z (bitN k) hz1 (bitN_lt _)
      cases hbit : s.oth.testBit k with
      | true =>
        rw [hbit] at hc2
        have HS := Lib.hid (show lagL s.got s.sent (memK s.oth (k + 1)) = if s.got k < s.sent then z ||| bitN k else z by rw [hsn.out, if_pos hbit, lagL_snoc, ← hz.out])
        clear hbit hsn
        by_cases hlo : s.got k < s.sent
        · have HZ := Lib.hid (HS.out.trans (if_pos hlo))
          have hlo' : decide (s.got k < s.sent) = true := by simpa using hlo
          clear HS
          go_wp2
          go_quiet (fail)
          go_wp2
          go_roundw
          case rel => exact ⟨k + 1, z ||| bitN k, by omega, by go_num, rfl, or_lt hz1 (bitN_lt _), HZ.out.symm, h2.drewN _, belN hbr _⟩
          case measure => simp [intOf]; omega
        · have HZ := Lib.hid (HS.out.trans (if_neg hlo))
          have hlo' : decide (s.got k < s.sent) = false := by simpa using hlo
          clear HS
          go_wp2
          go_quiet (fail)
          go_wp2
          go_roundw
          case rel => exact ⟨k + 1, z, by omega, by go_num, rfl, hz1, HZ.out.symm, h2.drewN _, belN hbr _⟩
          case measure => simp [intOf]; omega
      | false =>
        rw [hbit] at hc2
        have HZ := Lib.hid (show lagL s.got s.sent (memK s.oth (k + 1)) = z by rw [hsn.out, if_neg (by rw [hbit]; decide), ← hz.out])
        clear hbit hsn
        go_wp2
        go_quiet (fail)
        go_wp2
        go_roundw
        case rel => exact ⟨k + 1, z, by omega, by go_num, rfl, hz1, HZ.out.symm, h2.drewN _, belN hbr _⟩
        case measure => simp [intOf]; omega
    · obtain rfl : k = 64 := by omega
      go_wp2
      go_ret
      refine ⟨ret_int ?_, hbr⟩
      rw [hz.out, memK_64]; rfl
/-- Its test of a number. -/
theorem hasB_of (x : Nat) (p : Int) : (0 ≤ p ∧ p < 64 ∧ hasB x p = x.testBit p.toNat) ∨ (p < 0 ∧ hasB x p = false) ∨ (64 ≤ p ∧ hasB x p = false) := by
  rw [hasB_eq]
  by_cases h0 : p < 0
  · exact .inr (.inl ⟨h0, by rw [decide_eq_false (by omega)]; rfl⟩)
  by_cases h1 : p < 64
  · exact .inl ⟨by omega, h1, by rw [decide_eq_true (by omega)]; rfl⟩
  · exact .inr (.inr ⟨by omega, by rw [decide_eq_false (by omega)]; rfl⟩)
set_option maxHeartbeats 800000 in
set_option maxRecDepth 100000 in
theorem rof_any (s : WS) (hs : s.Ok) (p : Int) (w : World) :
    Calls Tryd.prog 22 #[.agg (refC s), .int .i64 p] w fun e w' => e = .returned (.int .u32 (s.of p)) ∧ Below w.heap.size w w' := by
  have h := RefAt.new w s
  have hb : Below w.heap.size w (w.alloc (.cells (refC s) 32)) := (Below.refl _ _).alloc (Nat.le_refl _) _
  have c0 := h.c0
  have c3 := h.c3
  have HE := Lib.hid (show s.of p = if hasB s.oth p = true then s.got p.toNat else if p = s.me then s.sent else 0 from rfl)
  have hno : hasB s.oth p = false → Hid (s.of p = if (p == s.me) = true then s.sent else 0) := fun hh => by
    rw [hh, if_neg (by decide)] at HE
    simp only [beq_iff_eq]
    exact HE
  rcases hasB_of s.oth p with ⟨h0, h1, hh⟩ | ⟨h0, hh⟩ | ⟨h0, hh⟩
  · obtain ⟨k, rfl⟩ : ∃ k : Nat, p = k := ⟨p.toNat, by omega⟩
    have hlt : k < 64 := by omega
    have hc2 := h.c2 k hlt
    have hc4 := h.c4 k hlt
    have hp0 : decide ((0 : Int) ≤ k) = true := by simp
    have hp1 : decide ((k : Int) < 64) = true := by simp; omega
    rw [Int.toNat_natCast] at hh HE
    cases hbit : s.oth.testBit k with
    | true =>
      rw [hh, hbit, if_pos rfl] at HE
      rw [hbit] at hc2
      clear hh hno hbit
      go_enter Tryd.func22, Tryd.ntmps22
      go_wp2_with (refine wpList_blk_box rfl (.tmp 0) rfl rfl w.heap.size rfl ?_; generalize w.alloc (.cells (refC s) 32) = w1 at *)
      go_ret
      exact ⟨ret_int (by rw [HE.out]), hb⟩
    | false =>
      have hn := hno (hh.trans hbit)
      rw [hbit] at hc2
      clear hh hno hbit HE
      cases hm : ((k : Int) == s.me) with
      | true =>
        rw [hm, if_pos rfl] at hn
        go_enter Tryd.func22, Tryd.ntmps22
        go_wp2_with (refine wpList_blk_box rfl (.tmp 0) rfl rfl w.heap.size rfl ?_; generalize w.alloc (.cells (refC s) 32) = w1 at *)
        go_ret
        exact ⟨ret_int (by rw [hn.out]), hb⟩
      | false =>
        rw [hm, if_neg (by decide)] at hn
        go_enter Tryd.func22, Tryd.ntmps22
        go_wp2_with (refine wpList_blk_box rfl (.tmp 0) rfl rfl w.heap.size rfl ?_; generalize w.alloc (.cells (refC s) 32) = w1 at *)
        go_ret
        exact ⟨ret_int (by rw [hn.out]; rfl), hb⟩
  all_goals
    have hn := hno hh
    clear hh hno HE
    cases hm : (p == s.me) with
    | true =>
      rw [hm, if_pos rfl] at hn
      go_enter Tryd.func22, Tryd.ntmps22
      go_wp2_with (refine wpList_blk_box rfl (.tmp 0) rfl rfl w.heap.size rfl ?_; generalize w.alloc (.cells (refC s) 32) = w1 at *)
      go_ret
      exact ⟨ret_int (by rw [hn.out]), hb⟩
    | false =>
      rw [hm, if_neg (by decide)] at hn
      go_enter Tryd.func22, Tryd.ntmps22
      go_wp2_with (refine wpList_blk_box rfl (.tmp 0) rfl rfl w.heap.size rfl ?_; generalize w.alloc (.cells (refC s) 32) = w1 at *)
      go_ret
      exact ⟨ret_int (by rw [hn.out]; rfl), hb⟩
end Go.Proofs.YthjlilgnnmnaeaaDoor
