/- the window of package link: the walks of Got, Copy and New -/
import Derived.Test.YthjlilgnnmnaeaaDoorLinkA
namespace Go.Proofs.YthjlilgnnmnaeaaDoor
open Go.RowKit

def WS.zero : WS := ⟨0, 0, 0, 0, fun _ => 0⟩
theorem Tryd.winI (s : WS) : (Tryd.prog.info? 59).map (·.size) = some (winC s).size := by rw [winC_size]; kernel_rfl
theorem Tryd.winZ : (Tryd.prog.info? 59).map (·.zero) = some (some (.agg (winC WS.zero))) := by kernel_rfl
theorem Tryd.winB (me size : Int) (oth : Nat) : Tryd.prog.built 59 [(0, .int .i64 me), (1, .int .i64 size), (2, .int .u64 oth)] = some (winC ⟨me, size, oth, 0, fun _ => 0⟩) := by kernel_rfl

set_option maxHeartbeats 800000 in
set_option maxRecDepth 100000 in
theorem copy_any (s : WS) (b : Nat) (w : World) (h : WinAt w b s) :
    Calls Tryd.prog 26 #[.pointer (some ⟨b, 0, none⟩)] w fun e w' => e = .returned (.pointer (some ⟨w.heap.size, 0, none⟩)) ∧ WinAt w' w.heap.size s ∧ Below w.heap.size w w' := by
  go_enter Tryd.func26, Tryd.ntmps26
  go_wp2_with (first
    | (refine wpList_blk_load rfl (.tmp 5) rfl Tryd.underlying59 rfl rfl h (Tryd.winI s) ?_)
    | (refine wpList_blk_alloc rfl rfl Tryd.winZ w.heap.size rfl ?_)
    | (refine wpList_blk_store rfl (.tmp 3) (.tmp 6) rfl rfl rfl (BlkAt.new w _ _) (Tryd.winI s) (by rw [winC_size, winC_size]) (winC_one s) ?_; intro w2 hB hK hsz))
  go_ret
  exact ⟨rfl, hB, Kp.below ((Below.refl _ _).alloc (Nat.le_refl _) _) hK (Nat.le_refl _) (by simp)⟩
set_option maxHeartbeats 800000 in
set_option maxRecDepth 100000 in
theorem new_any (me : Int) (members : Nat) (size : Int) (w : World) (hm : members < 18446744073709551616) :
    Calls Tryd.prog 8 #[.int .i64 me, .int .u64 members, .int .i64 size] w fun e w' => ∃ b, e = .returned (.pointer (some ⟨b, 0, none⟩)) ∧ w.heap.size ≤ b ∧ WinAt w' b (WS.nw me members size) ∧ Below w.heap.size w w' := by
  have HL := fun w : World => less_any members 1 1 (some ⟨w.heap.size, 0, none⟩) [me] (w.alloc (.cells #[.int .i64 me] 3)) hm (by decide) (Rd.one rfl)
  rw [show withN 0 [me] = bitN me from by simp [withN]] at HL
  have key : ∀ sz : Int, WS.nw me members size = ⟨me, sz, butN members (bitN me), 0, fun _ => 0⟩ → ∀ w2, w2 = (w.alloc (.cells #[.int .i64 me] 3)).alloc (.cells (winC ⟨me, sz, butN members (bitN me), 0, fun _ => 0⟩) 59) →
      WinAt w2 (w.heap.size + 1) (WS.nw me members size) ∧ Below w.heap.size w w2 := by
    intro sz h w2 e
    subst e
    rw [h]
    exact ⟨by unfold WinAt; simpa using BlkAt.new (w.alloc (.cells #[.int .i64 me] 3)) 59 _, ((Below.refl _ _).alloc (Nat.le_refl _) _).alloc (by simp) _⟩
  by_cases h1 : size ≤ 1
  · have HW : WS.nw me members size = ⟨me, 1, butN members (bitN me), 0, fun _ => 0⟩ := by rw [WS.nw, show max 1 (min size 64) = 1 from by omega]
    have HK := Lib.hid (key _ HW)
    clear key HW
    go_enter Tryd.func8, Tryd.ntmps8
    go_wp2_with (first
      | (go_at_call 23; refine (HL _).mono ?_; rintro e w' ⟨rfl, rfl⟩)
      | (refine wpList_blk_build (cs := winC ⟨me, 1, butN members (bitN me), 0, fun _ => 0⟩) rfl #[(0, .tmp 7), (1, .tmp 10), (2, .tmp 14)] rfl (by rw [List.map_toArray]; exact Tryd.winB me 1 (butN members (bitN me))) ?_)
      | (refine wpList_blk_box rfl (.tmp 15) rfl rfl (w.heap.size + 1) (by simp) ?_))
    go_ret
    exact ⟨_, rfl, Nat.le_succ _, HK.out _ rfl⟩
  by_cases h2 : 64 < size
  · have HW : WS.nw me members size = ⟨me, 64, butN members (bitN me), 0, fun _ => 0⟩ := by rw [WS.nw, show max 1 (min size 64) = 64 from by omega]
    have HK := Lib.hid (key _ HW)
    clear key HW
    go_enter Tryd.func8, Tryd.ntmps8
    go_wp2_with (first
      | (go_at_call 23; refine (HL _).mono ?_; rintro e w' ⟨rfl, rfl⟩)
      | (refine wpList_blk_build (cs := winC ⟨me, 64, butN members (bitN me), 0, fun _ => 0⟩) rfl #[(0, .tmp 7), (1, .tmp 10), (2, .tmp 14)] rfl (by rw [List.map_toArray]; exact Tryd.winB me 64 (butN members (bitN me))) ?_)
      | (refine wpList_blk_box rfl (.tmp 15) rfl rfl (w.heap.size + 1) (by simp) ?_))
    go_ret
    exact ⟨_, rfl, Nat.le_succ _, HK.out _ rfl⟩
  · have HW : WS.nw me members size = ⟨me, size, butN members (bitN me), 0, fun _ => 0⟩ := by rw [WS.nw, show max 1 (min size 64) = size from by omega]
    have HK := Lib.hid (key _ HW)
    clear key HW
    go_enter Tryd.func8, Tryd.ntmps8
    go_wp2_with (first
      | (go_at_call 23; refine (HL _).mono ?_; rintro e w' ⟨rfl, rfl⟩)
      | (refine wpList_blk_build (cs := winC ⟨me, size, butN members (bitN me), 0, fun _ => 0⟩) rfl #[(0, .tmp 7), (1, .tmp 10), (2, .tmp 14)] rfl (by rw [List.map_toArray]; exact Tryd.winB me size (butN members (bitN me))) ?_)
      | (refine wpList_blk_box rfl (.tmp 15) rfl rfl (w.heap.size + 1) (by simp) ?_))
    go_ret
    exact ⟨_, rfl, Nat.le_succ _, HK.out _ rfl⟩
set_option maxHeartbeats 800000 in
set_option maxRecDepth 100000 in
theorem got_no (s : WS) (hs : s.Ok) (p : Int) (n : Nat) (b : Nat) (w : World) (h : WinAt w b s) (hh : hasB s.oth p = false) :
    Calls Tryd.prog 14 #[.pointer (some ⟨b, 0, none⟩), .int .i64 p, .int .u32 n] w fun e w' => e = .returned (.tuple #[]) ∧ w = w' := by
  have c2 := h.c2
  have hoth := hs.oth
  have HC := fun w => has_any s.oth p hoth w
  rw [hh] at HC
  have HC := Lib.hid HC
  go_enter Tryd.func14, Tryd.ntmps14
  go_wp2_with (first | (go_at_call 28; refine (HC.out _).mono ?_; rintro e w' ⟨rfl, rfl⟩))
  go_end0
  exact ⟨rfl, rfl⟩
set_option maxHeartbeats 800000 in
set_option maxRecDepth 100000 in
theorem got_yes1 (s : WS) (hs : s.Ok) (p : Nat) (n : Nat) (b : Nat) (w : World) (h : WinAt w b s) (hp : p < 64) (hh : hasB s.oth p = true) (h1 : (s.sent : Int) < n) (h2 : (s.got p : Int) < s.sent) (hv : s.sent = max (s.got p) (min n s.sent)) :
    Calls Tryd.prog 14 #[.pointer (some ⟨b, 0, none⟩), .int .i64 p, .int .u32 n] w fun e w' => e = .returned (.tuple #[]) ∧ WinAt w' b (s.put p n) ∧ Kp b w w' := by
  have c2 := h.c2
  have c3 := h.c3
  have c4 := h.c4 p hp
  have fz := h.fz (4 + p)
  have hoth := hs.oth
  have HC := fun w => has_any s.oth p hoth w
  rw [hh] at HC
  have HC := Lib.hid HC
  have hset := BlkAt.set h (4 + p) (.int .u32 (s.sent : Nat))
  rw [winC_put s p n hp hh _ (by omega)] at hset
  have HS := Lib.hid hset
  have HK := Lib.hid ((Kp.refl b w).setCell ⟨b, 4 + p, none⟩ rfl (.int .u32 (s.sent : Nat)))
  clear hset hv h hh
  have hpI : (p : Int) < 64 := by omega
  go_enter Tryd.func14, Tryd.ntmps14
  go_wp2_with (first | (go_at_call 28; refine (HC.out _).mono ?_; rintro e w' ⟨rfl, rfl⟩))
  go_still_tail 18, (by kernel_rfl)
  go_wp2
  go_end0
  exact ⟨rfl, HS.out, HK.out.drewN 1⟩
set_option maxHeartbeats 800000 in
set_option maxRecDepth 100000 in
theorem got_yes2 (s : WS) (hs : s.Ok) (p : Nat) (n : Nat) (b : Nat) (w : World) (h : WinAt w b s) (hp : p < 64) (hh : hasB s.oth p = true) (h1 : (s.sent : Int) < n) (h2 : ¬ (s.got p : Int) < s.sent) (hv : s.got p = max (s.got p) (min n s.sent)) :
    Calls Tryd.prog 14 #[.pointer (some ⟨b, 0, none⟩), .int .i64 p, .int .u32 n] w fun e w' => e = .returned (.tuple #[]) ∧ WinAt w' b (s.put p n) ∧ Kp b w w' := by
  have c2 := h.c2
  have c3 := h.c3
  have c4 := h.c4 p hp
  have fz := h.fz (4 + p)
  have hoth := hs.oth
  have HC := fun w => has_any s.oth p hoth w
  rw [hh] at HC
  have HC := Lib.hid HC
  have hset := BlkAt.set h (4 + p) (.int .u32 (s.got p : Nat))
  rw [winC_put s p n hp hh _ (by omega)] at hset
  have HS := Lib.hid hset
  have HK := Lib.hid ((Kp.refl b w).setCell ⟨b, 4 + p, none⟩ rfl (.int .u32 (s.got p : Nat)))
  clear hset hv h hh
  have hpI : (p : Int) < 64 := by omega
  go_enter Tryd.func14, Tryd.ntmps14
  go_wp2_with (first | (go_at_call 28; refine (HC.out _).mono ?_; rintro e w' ⟨rfl, rfl⟩))
  go_still_tail 18, (by kernel_rfl)
  go_wp2
  go_end0
  exact ⟨rfl, HS.out, HK.out.drewN 1⟩
set_option maxHeartbeats 800000 in
set_option maxRecDepth 100000 in
theorem got_yes3 (s : WS) (hs : s.Ok) (p : Nat) (n : Nat) (b : Nat) (w : World) (h : WinAt w b s) (hp : p < 64) (hh : hasB s.oth p = true) (h1 : ¬ (s.sent : Int) < n) (h2 : (s.got p : Int) < n) (hv : n = max (s.got p) (min n s.sent)) :
    Calls Tryd.prog 14 #[.pointer (some ⟨b, 0, none⟩), .int .i64 p, .int .u32 n] w fun e w' => e = .returned (.tuple #[]) ∧ WinAt w' b (s.put p n) ∧ Kp b w w' := by
  have c2 := h.c2
  have c3 := h.c3
  have c4 := h.c4 p hp
  have fz := h.fz (4 + p)
  have hoth := hs.oth
  have HC := fun w => has_any s.oth p hoth w
  rw [hh] at HC
  have HC := Lib.hid HC
  have hset := BlkAt.set h (4 + p) (.int .u32 (n : Nat))
  rw [winC_put s p n hp hh _ (by omega)] at hset
  have HS := Lib.hid hset
  have HK := Lib.hid ((Kp.refl b w).setCell ⟨b, 4 + p, none⟩ rfl (.int .u32 (n : Nat)))
  clear hset hv h hh
  have hpI : (p : Int) < 64 := by omega
  go_enter Tryd.func14, Tryd.ntmps14
  go_wp2_with (first | (go_at_call 28; refine (HC.out _).mono ?_; rintro e w' ⟨rfl, rfl⟩))
  go_still_tail 18, (by kernel_rfl)
  go_wp2
  go_end0
  exact ⟨rfl, HS.out, HK.out.drewN 1⟩
set_option maxHeartbeats 800000 in
set_option maxRecDepth 100000 in
theorem got_yes4 (s : WS) (hs : s.Ok) (p : Nat) (n : Nat) (b : Nat) (w : World) (h : WinAt w b s) (hp : p < 64) (hh : hasB s.oth p = true) (h1 : ¬ (s.sent : Int) < n) (h2 : ¬ (s.got p : Int) < n) (hv : s.got p = max (s.got p) (min n s.sent)) :
    Calls Tryd.prog 14 #[.pointer (some ⟨b, 0, none⟩), .int .i64 p, .int .u32 n] w fun e w' => e = .returned (.tuple #[]) ∧ WinAt w' b (s.put p n) ∧ Kp b w w' := by
  have c2 := h.c2
  have c3 := h.c3
  have c4 := h.c4 p hp
  have fz := h.fz (4 + p)
  have hoth := hs.oth
  have HC := fun w => has_any s.oth p hoth w
  rw [hh] at HC
  have HC := Lib.hid HC
  have hset := BlkAt.set h (4 + p) (.int .u32 (s.got p : Nat))
  rw [winC_put s p n hp hh _ (by omega)] at hset
  have HS := Lib.hid hset
  have HK := Lib.hid ((Kp.refl b w).setCell ⟨b, 4 + p, none⟩ rfl (.int .u32 (s.got p : Nat)))
  clear hset hv h hh
  have hpI : (p : Int) < 64 := by omega
  go_enter Tryd.func14, Tryd.ntmps14
  go_wp2_with (first | (go_at_call 28; refine (HC.out _).mono ?_; rintro e w' ⟨rfl, rfl⟩))
  go_still_tail 18, (by kernel_rfl)
  go_wp2
  go_end0
  exact ⟨rfl, HS.out, HK.out.drewN 1⟩
theorem got_any (s : WS) (hs : s.Ok) (p : Int) (n : Nat) (b : Nat) (w : World) (h : WinAt w b s) :
    Calls Tryd.prog 14 #[.pointer (some ⟨b, 0, none⟩), .int .i64 p, .int .u32 n] w fun e w' => e = .returned (.tuple #[]) ∧ WinAt w' b (s.put p n) ∧ Kp b w w' := by
  cases hh : hasB s.oth p with
  | false =>
    refine (got_no s hs p n b w h hh).mono ?_
    rintro e w' ⟨rfl, rfl⟩
    rw [WS.put, if_neg (by rw [hh]; decide)]
    exact ⟨rfl, h, Kp.refl _ _⟩
  | true =>
    have hh' := hh
    rw [hasB_eq] at hh'
    simp only [Bool.and_eq_true, decide_eq_true_eq] at hh'
    obtain ⟨⟨hp0, hp64⟩, _⟩ := hh'
    obtain ⟨k, rfl⟩ : ∃ k : Nat, p = k := ⟨p.toNat, by omega⟩
    by_cases h1 : (s.sent : Int) < n
    · by_cases h2 : (s.got k : Int) < s.sent
      · exact got_yes1 s hs k n b w h (by omega) hh h1 h2 (by omega)
      · exact got_yes2 s hs k n b w h (by omega) hh h1 h2 (by omega)
    · by_cases h2 : (s.got k : Int) < n
      · exact got_yes3 s hs k n b w h (by omega) hh h1 h2 (by omega)
      · exact got_yes4 s hs k n b w h (by omega) hh h1 h2 (by omega)
theorem next_any (s : WS) (hs : s.Ok) (r : Int) (b : Nat) (w : World) (h : WinAt w b s) (hT : Tab w) (hr1 : -9223372036854775808 ≤ r) (hr2 : r ≤ 9223372036854775807) :
    Calls Tryd.prog 12 #[.pointer (some ⟨b, 0, none⟩), .int .i64 r] w fun e w' => e = .returned (s.nextV r) ∧ WinAt w' b (s.nexts r) ∧ Kp b w w' := by
  cases hm : s.room r with
  | false =>
    refine (next_no s hs r b w h hT hr1 hr2 hm).mono ?_
    rintro e w' ⟨rfl, hb⟩
    rw [WS.nextV, WS.nexts, if_neg (by rw [hm]; decide), if_neg (by rw [hm]; decide)]
    exact ⟨rfl, h.below hb h.lt, Kp.ofBelow hb⟩
  | true =>
    refine (next_yes s hs r b w h hT hr1 hr2 hm).mono ?_
    rintro e w' ⟨rfl, hb⟩
    rw [WS.nextV, WS.nexts, if_pos hm, if_pos hm]
    exact ⟨rfl, hb⟩
theorem WS.put_ok {s : WS} (hs : s.Ok) (p : Int) (n : Nat) : (s.put p n).Ok := by
  rw [WS.put]
  split
  · refine ⟨hs.size1, hs.size2, hs.oth, hs.sent, fun i => ?_⟩
    have h1 := hs.got p.toNat
    have h2 := hs.got i
    dsimp only
    split <;> omega
  · exact hs
theorem WS.nexts_ok {s : WS} (hs : s.Ok) (r : Int) (h : s.sent < 4294967294) : (s.nexts r).Ok := by
  rw [WS.nexts]
  split
  · exact ⟨hs.size1, hs.size2, hs.oth, by show s.sent + 1 < _; omega, fun i => Nat.le_succ_of_le (hs.got i)⟩
  · exact hs
theorem WS.nw_ok (me : Int) (members : Nat) (size : Int) (hm : members < 18446744073709551616) : (WS.nw me members size).Ok :=
  ⟨by show 1 ≤ max 1 (min size 64); omega, by show max 1 (min size 64) ≤ 64; omega, but_lt _ _ hm, (show (0 : Nat) < 4294967295 by decide), fun _ => Nat.le_refl _⟩
theorem WS.put_sent (s : WS) (p : Int) (n : Nat) : (s.put p n).sent = s.sent := by rw [WS.put]; split <;> rfl
theorem WS.nexts_sent (s : WS) (r : Int) : (s.nexts r).sent ≤ s.sent + 1 := by rw [WS.nexts]; split; exact Nat.le_refl _; omega
end Go.Proofs.YthjlilgnnmnaeaaDoor
