/- the window of package link: its cells, its state as plain numbers, and the walks of its methods -/
import Derived.Test.YthjlilgnnmnaeaaDoorSetB
import Derived.Test.YthjlilgnnmnaeaaDoorBlk
import Derived.Deep.QuietTactic
import Derived.BigQuiet
import Derived.StillTailTactics
import Derived.Deep.RegionHeld3
namespace Go.Proofs.YthjlilgnnmnaeaaDoor
open Go.RowKit

/-- The state of a window. -/
structure WS where
  me : Int
  size : Int
  oth : Nat
  sent : Nat
  got : Nat → Nat
def lowL (got : Nat → Nat) (s : Nat) (l : List Nat) : Nat := l.foldl (fun a p => if got p < a then got p else a) s
theorem lowL_le (got : Nat → Nat) (l : List Nat) : ∀ s, lowL got s l ≤ s := by
  induction l with
  | nil => intro s; exact Nat.le_refl _
  | cons p l ih => intro s; refine Nat.le_trans (ih _) ?_; dsimp only; split <;> omega
theorem lowL_snoc (got : Nat → Nat) (s : Nat) (l : List Nat) (p : Nat) : lowL got s (l ++ [p]) = if got p < lowL got s l then got p else lowL got s l := by rw [lowL, List.foldl_append]; rfl
def lagL (got : Nat → Nat) (s : Nat) (l : List Nat) : Nat := l.foldl (fun a p => if got p < s then a ||| bitN p else a) 0
theorem lagL_snoc (got : Nat → Nat) (s : Nat) (l : List Nat) (p : Nat) : lagL got s (l ++ [p]) = if got p < s then lagL got s l ||| bitN p else lagL got s l := by rw [lagL, List.foldl_append]; rfl
theorem lagF_lt (got : Nat → Nat) (s : Nat) (l : List Nat) : ∀ a, a < 18446744073709551616 → l.foldl (fun a p => if got p < s then a ||| bitN p else a) a < 18446744073709551616 := by
  induction l with
  | nil => intro a h; exact h
  | cons p l ih => intro a h; refine ih _ ?_; dsimp only; split; exact or_lt h (bitN_lt _); exact h
theorem lagL_lt (got : Nat → Nat) (s : Nat) (l : List Nat) : lagL got s l < 18446744073709551616 := lagF_lt got s l 0 (by decide)
namespace WS
def low (s : WS) : Nat := lowL s.got s.sent (memN s.oth)
def lag (s : WS) : Nat := lagL s.got s.sent (memN s.oth)
def room (s : WS) (r : Int) : Bool := decide ((s.sent : Int) - s.low < s.size - (if r < 0 then 0 else r))
def of (s : WS) (p : Int) : Nat := if hasB s.oth p = true then s.got p.toNat else if p = s.me then s.sent else 0
def put (s : WS) (p : Int) (n : Nat) : WS := if hasB s.oth p = true then { s with got := fun i => if i = p.toNat then max (s.got p.toNat) (min n s.sent) else s.got i } else s
def next (s : WS) : WS := { s with sent := s.sent + 1 }
def nw (me : Int) (members : Nat) (size : Int) : WS := ⟨me, max 1 (min size 64), butN members (bitN me), 0, fun _ => 0⟩
structure Ok (s : WS) : Prop where
  size1 : 1 ≤ s.size
  size2 : s.size ≤ 64
  oth : s.oth < 18446744073709551616
  sent : s.sent < 4294967295
  got : ∀ i, s.got i ≤ s.sent
theorem low_le (s : WS) : s.low ≤ s.sent := lowL_le _ _ _
end WS
/-- Its cells. -/
def winC (s : WS) : Array Value := #[.int .i64 s.me, .int .i64 s.size, .int .u64 s.oth, .int .u32 s.sent] ++ ((List.range 64).map fun i => Value.int .u32 (s.got i)).toArray
theorem winC_size (s : WS) : (winC s).size = 68 := by simp [winC]
theorem winC_0 (s : WS) : (winC s)[0]? = some (.int .i64 s.me) := by rw [winC, Array.getElem?_append_left (by simp)]; rfl
theorem winC_1 (s : WS) : (winC s)[1]? = some (.int .i64 s.size) := by rw [winC, Array.getElem?_append_left (by simp)]; rfl
theorem winC_2 (s : WS) : (winC s)[2]? = some (.int .u64 s.oth) := by rw [winC, Array.getElem?_append_left (by simp)]; rfl
theorem winC_3 (s : WS) : (winC s)[3]? = some (.int .u32 s.sent) := by rw [winC, Array.getElem?_append_left (by simp)]; rfl
theorem winC_4 (s : WS) (i : Nat) (h : i < 64) : (winC s)[4 + i]? = some (.int .u32 (s.got i)) := by
  rw [winC, Array.getElem?_append_right (by simp)]; simp [h]
theorem winC_hi (s : WS) (i : Nat) (h : 64 ≤ i) : (winC s)[4 + i]? = none := by
  rw [Array.getElem?_eq_none_iff, winC_size]; omega
theorem winC_one (s : WS) : (winC s).all (·.oneCell') = true := by
  rw [winC, Array.all_append]
  simp [Value.oneCell']
theorem winC_next (s : WS) : (winC s).setIfInBounds 3 (.int .u32 ((s.sent : Int) + 1)) = winC s.next := by
  rw [winC, winC, Array.setIfInBounds_append_left (by simp)]
  simp [WS.next]
theorem winC_put (s : WS) (p n : Nat) (hp : p < 64) (h : hasB s.oth p = true) (v : Int) (hv : v = (max (s.got p) (min n s.sent) : Nat)) : (winC s).setIfInBounds (4 + p) (.int .u32 v) = winC (s.put p n) := by
  subst hv
  rw [WS.put, if_pos h]
  apply Array.ext_getElem?
  intro i
  rw [Array.getElem?_setIfInBounds, winC_size]
  rcases (show i = 0 ∨ i = 1 ∨ i = 2 ∨ i = 3 ∨ 4 ≤ i from by omega) with rfl | rfl | rfl | rfl | hi
  · rw [if_neg (by omega), winC_0, winC_0]
  · rw [if_neg (by omega), winC_1, winC_1]
  · rw [if_neg (by omega), winC_2, winC_2]
  · rw [if_neg (by omega), winC_3, winC_3]
  · obtain ⟨j, rfl⟩ : ∃ j, i = 4 + j := ⟨i - 4, by omega⟩
    by_cases hj : j < 64
    · rw [winC_4 _ j hj, winC_4 _ j hj]
      by_cases e : p = j
      · subst e; rw [if_pos rfl, if_pos (by omega)]; simp
      · rw [if_neg (by omega)]; simp [Ne.symm e]
    · rw [if_neg (by omega), winC_hi _ j (by omega), winC_hi _ j (by omega)]
/-- Block b holds the window. -/
def WinAt (w : World) (b : Nat) (s : WS) : Prop := BlkAt w b 59 (winC s)
section
variable {w w' : World} {b : Nat} {s : WS}
theorem WinAt.lt (h : WinAt w b s) : b < w.heap.size := BlkAt.lt h
theorem WinAt.below {B : Nat} (h : WinAt w b s) (k : Below B w w') (hb : b < B) : WinAt w' b s := BlkAt.below h k hb
theorem WinAt.c0 (h : WinAt w b s) : w.cell? ⟨b, 0, none⟩ = some (.int .i64 s.me) := BlkAt.cell h (winC_0 s)
theorem WinAt.c1 (h : WinAt w b s) : w.cell? ⟨b, 1, none⟩ = some (.int .i64 s.size) := BlkAt.cell h (winC_1 s)
theorem WinAt.c2 (h : WinAt w b s) : w.cell? ⟨b, 2, none⟩ = some (.int .u64 s.oth) := BlkAt.cell h (winC_2 s)
theorem WinAt.c3 (h : WinAt w b s) : w.cell? ⟨b, 3, none⟩ = some (.int .u32 s.sent) := BlkAt.cell h (winC_3 s)
theorem WinAt.c4 (h : WinAt w b s) (i : Nat) (hi : i < 64) : w.cell? ⟨b, 4 + i, none⟩ = some (.int .u32 (s.got i)) := BlkAt.cell h (winC_4 s i hi)
theorem WinAt.fz (h : WinAt w b s) (i : Nat) : w.frozen? ⟨b, i, none⟩ = false := BlkAt.fz h i
end
theorem memN_get {x k : Nat} (h : k < (memN x).length) : (memN x)[k] < 64 := memN_lt x _ (List.getElem_mem h)
theorem memI_get {x k : Nat} (h : k < (memI x).length) : (memI x)[k] = (((memN x)[k]'(by rw [memI, List.length_map] at h; exact h) : Nat) : Int) := by simp [memI]

set_option maxHeartbeats 800000 in
set_option maxRecDepth 100000 in
theorem low_any (s : WS) (hs : s.Ok) (b : Nat) (w : World) (h : WinAt w b s) (hT : Tab w) :
    Calls Tryd.prog 17 #[.pointer (some ⟨b, 0, none⟩)] w fun e w' => e = .returned (.int .u32 s.low) ∧ Below w.heap.size w w' := by
  have hpos := hT.1
  have c2 := h.c2
  have c3 := h.c3
  have hoth := hs.oth
  have hsent := hs.sent
  have hgot := hs.got
  have hbl := h.lt
  go_enter Tryd.func17, Tryd.ntmps17
  go_wp2_with fail
  refine (list_any s.oth _ hoth hT).mono ?_
  rintro e w1 ⟨v, rfl, hown, hb1⟩
  obtain ⟨a, c, rfl, hr⟩ := Rd.own hown
  have hln := hr.intLen
  have hc64 := cardN_le s.oth
  have h1 := h.below hb1 hbl
  clear hown
  go_wp2
  go_loopw [3, 5, 16] (fun lo _ i wr => ∃ k z : Nat, k ≤ cardN s.oth ∧ i = .int .i64 k ∧ lo = .int .u32 z ∧ Hid (z = lowL s.got s.sent ((memN s.oth).take k)) ∧ z ≤ s.sent ∧ wr = w1) (fun _ _ i _ => cardN s.oth - (intOf i).toNat)
  case atStart => exact ⟨0, s.sent, Nat.zero_le _, rfl, rfl, rfl, Nat.le_refl _, rfl⟩
  case round =>
    obtain ⟨k, z, hk, rfl, rfl, hz, hzs, rfl⟩ := hrel
    by_cases hlt : k < cardN s.oth
    · have hkl : k < (memI s.oth).length := by rw [hln]; exact hlt
      have hkn : k < (memN s.oth).length := by rw [memN_len]; exact hlt
      obtain ⟨bl, off, rfl, hbl2⟩ := hr.addr (by omega)
      have hc := hr.at (j := k) (u := .int .i64 ((memN s.oth)[k] : Nat)) (by rw [List.getElem?_map, List.getElem?_eq_getElem hkl, memI_get]; rfl)
      have hp := memN_get hkn
      have hsn := Lib.hid (lowL_snoc s.got s.sent ((memN s.oth).take k) (memN s.oth)[k])
      rw [← hz.out, List.take_append_getElem] at hsn
      generalize (memN s.oth)[k] = p at *
      have hg := h1.c4 p hp
      have hg2 := hgot p
      by_cases hlo : s.got p < z
      · have HZ := Lib.hid (hsn.out.trans (if_pos hlo))
        have hlo' : (s.got p : Int) < z := by omega
        clear hsn
        go_wp2
        go_roundw
        case rel => exact ⟨k + 1, s.got p, by omega, by go_num, rfl, HZ.out.symm, by omega, trivial⟩
        case measure => simp [intOf]; omega
      · have HZ := Lib.hid (hsn.out.trans (if_neg hlo))
        have hlo' : ¬ (s.got p : Int) < z := by omega
        clear hsn
        go_wp2
        go_roundw
        case rel => exact ⟨k + 1, z, by omega, by go_num, rfl, HZ.out.symm, by omega, trivial⟩
        case measure => simp [intOf]; omega
    · go_wp2
      go_ret
      refine ⟨ret_int ?_, hb1⟩
      rw [hz.out, WS.low, List.take_of_length_le (by rw [memN_len]; omega)]

set_option maxHeartbeats 800000 in
set_option maxRecDepth 100000 in
theorem lag_any (s : WS) (hs : s.Ok) (b : Nat) (w : World) (h : WinAt w b s) (hT : Tab w) :
    Calls Tryd.prog 19 #[.pointer (some ⟨b, 0, none⟩)] w fun e w' => e = .returned (.int .u64 s.lag) ∧ Below w.heap.size w w' := by
  have hpos := hT.1
  have c2 := h.c2
  have hoth := hs.oth
  have hsent := hs.sent
  have hgot := hs.got
  have hbl := h.lt
  go_enter Tryd.func19, Tryd.ntmps19
  go_wp2_with fail
  refine (list_any s.oth _ hoth hT).mono ?_
  rintro e w1 ⟨v, rfl, hown, hb1⟩
  obtain ⟨a, c, rfl, hr⟩ := Rd.own hown
  have hln := hr.intLen
  have hc64 := cardN_le s.oth
  have h1 := h.below hb1 hbl
  have hr1 := hr
  have hT1 := hT.below hb1 hpos
  clear hown c2
  go_wp2
  go_loopw [3, 5, 12] (fun la _ i wr => ∃ k z : Nat, k ≤ cardN s.oth ∧ i = .int .i64 k ∧ la = .int .u64 z ∧ z < 18446744073709551616 ∧ Hid (z = lagL s.got s.sent ((memN s.oth).take k)) ∧ Below w1.heap.size w1 wr) (fun _ _ i _ => cardN s.oth - (intOf i).toNat)
  case atStart => exact ⟨0, 0, Nat.zero_le _, rfl, rfl, by decide, rfl, Below.refl _ _⟩
  case round =>
    obtain ⟨k, z, hk, rfl, rfl, hz1, hz, hbr⟩ := hrel
    by_cases hlt : k < cardN s.oth
    · have hkl : k < (memI s.oth).length := by rw [hln]; exact hlt
      have hkn : k < (memN s.oth).length := by rw [memN_len]; exact hlt
      have hrr := hr.below hbr (Nat.le_refl _)
      have h2 := h1.below hbr h1.lt
      obtain ⟨bl, off, rfl, hbl2⟩ := hrr.addr (by omega)
      have hc := hrr.at (j := k) (u := .int .i64 ((memN s.oth)[k] : Nat)) (by rw [List.getElem?_map, List.getElem?_eq_getElem hkl, memI_get]; rfl)
      have hp := memN_get hkn
      have hsn := Lib.hid (lagL_snoc s.got s.sent ((memN s.oth).take k) (memN s.oth)[k])
      rw [← hz.out, List.take_append_getElem] at hsn
      generalize (memN s.oth)[k] = p at *
      have hg := h2.c4 p hp
      have c3 := h2.c3
      have hg2 := hgot p
      clear hr hr1 hrr
      by_cases hlo : s.got p < s.sent
      · have HZ := Lib.hid (hsn.out.trans (if_pos hlo))
        have hlo' : decide (s.got p < s.sent) = true := by simpa using hlo
        clear hsn
        go_wp2
        go_quiet (fail)
        go_wp2_with (first | (go_at_call 30; refine (with_any z 1 1 _ [(p : Int)] _ hz1 (by decide) (Rd.one rfl)).mono ?_; rintro e w' ⟨rfl, rfl⟩))
        go_roundw
        case rel => exact ⟨k + 1, z ||| bitN p, by omega, by go_num, rfl, or_lt hz1 (bitN_lt _), HZ.out.symm, (belN hbr _).alloc hbr.size _⟩
        case measure => simp [intOf]; omega
      · have HZ := Lib.hid (hsn.out.trans (if_neg hlo))
        have hlo' : decide (s.got p < s.sent) = false := by simpa using hlo
        clear hsn
        go_wp2
        go_quiet (fail)
        go_wp2
        go_roundw
        case rel => exact ⟨k + 1, z, by omega, by go_num, rfl, hz1, HZ.out.symm, belN hbr _⟩
        case measure => simp [intOf]; omega
    · go_wp2
      go_ret
      refine ⟨ret_int ?_, hb1.trans (hbr.mono hb1.size)⟩
      rw [hz.out, WS.lag, List.take_of_length_le (by rw [memN_len]; omega)]
set_option maxHeartbeats 800000 in
set_option maxRecDepth 100000 in
theorem room_any (s : WS) (hs : s.Ok) (r : Int) (b : Nat) (w : World) (h : WinAt w b s) (hT : Tab w) (hr1 : -9223372036854775808 ≤ r) (hr2 : r ≤ 9223372036854775807) :
    Calls Tryd.prog 10 #[.pointer (some ⟨b, 0, none⟩), .int .i64 r] w fun e w' => e = .returned (.bool (s.room r)) ∧ Below w.heap.size w w' := by
  have hpos := hT.1
  have HL := fun W (k : Below w.heap.size w W) => low_any s hs b W (h.below k h.lt) (hT.below k hpos)
  have hc1 := fun W (k : Below w.heap.size w W) => (h.below k h.lt).c1
  have hc3 := fun W (k : Below w.heap.size w W) => (h.below k h.lt).c3
  have hS0 := Below.refl w.heap.size w
  have hlow := s.low_le
  have hsent := hs.sent
  have hz1 := hs.size1
  have hz2 := hs.size2
  by_cases h0 : r < 0
  · go_enter Tryd.func10, Tryd.ntmps10
    go_wp2_with fail
    go_region_held3 (fun w' => Below w.heap.size w w') (first | assumption | exact Below.drew (by assumption) | (refine belS ?_ (by assumption); assumption))
      (first | (go_at_call 17; (with_reducible refine (HL _ (by assumption)).mono ?_); rintro e w4 ⟨rfl, hb⟩))
    all_goals
      go_wp2
      go_ret
      refine ⟨ret_bool ?_, by assumption⟩
      simp only [WS.room, decide_eq_decide, IntKind.wrap_i64, IntKind.wrap_u32]
      split <;> omega
  · go_enter Tryd.func10, Tryd.ntmps10
    go_wp2_with fail
    go_region_held3 (fun w' => Below w.heap.size w w') (first | assumption | exact Below.drew (by assumption) | (refine belS ?_ (by assumption); assumption))
      (first | (go_at_call 17; (with_reducible refine (HL _ (by assumption)).mono ?_); rintro e w4 ⟨rfl, hb⟩))
    all_goals
      go_wp2
      go_ret
      refine ⟨ret_bool ?_, by assumption⟩
      simp only [WS.room, decide_eq_decide, IntKind.wrap_i64, IntKind.wrap_u32]
      split <;> omega

theorem Nat.max_min_int (a n s : Nat) : ((max a (min n s) : Nat) : Int) = if a < min n s then ((min n s : Nat) : Int) else a := by split <;> omega
/-- Room is there: one more is sent. -/
def WS.nexts (s : WS) (r : Int) : WS := if s.room r = true then s.next else s
def WS.nextV (s : WS) (r : Int) : Value := if s.room r = true then .tuple #[.int .u32 ((s.sent : Int) + 1), .int .i64 0] else .tuple #[.int .u32 0, .int .i64 6]
set_option maxHeartbeats 800000 in
set_option maxRecDepth 100000 in
theorem next_no (s : WS) (hs : s.Ok) (r : Int) (b : Nat) (w : World) (h : WinAt w b s) (hT : Tab w) (hr1 : -9223372036854775808 ≤ r) (hr2 : r ≤ 9223372036854775807) (hm : s.room r = false) :
    Calls Tryd.prog 12 #[.pointer (some ⟨b, 0, none⟩), .int .i64 r] w fun e w' => e = .returned (.tuple #[.int .u32 0, .int .i64 6]) ∧ Below w.heap.size w w' := by
  have HR := room_any s hs r b w h hT hr1 hr2
  rw [hm] at HR
  go_enter Tryd.func12, Tryd.ntmps12
  go_wp2_with fail
  refine HR.mono ?_
  rintro e w1 ⟨rfl, hb⟩
  go_wp2
  go_ret2
  exact ⟨rfl, hb⟩
set_option maxHeartbeats 800000 in
set_option maxRecDepth 100000 in
theorem next_yes (s : WS) (hs : s.Ok) (r : Int) (b : Nat) (w : World) (h : WinAt w b s) (hT : Tab w) (hr1 : -9223372036854775808 ≤ r) (hr2 : r ≤ 9223372036854775807) (hm : s.room r = true) :
    Calls Tryd.prog 12 #[.pointer (some ⟨b, 0, none⟩), .int .i64 r] w fun e w' => e = .returned (.tuple #[.int .u32 ((s.sent : Int) + 1), .int .i64 0]) ∧ WinAt w' b s.next ∧ Kp b w w' := by
  have HR := room_any s hs r b w h hT hr1 hr2
  rw [hm] at HR
  have hsent := hs.sent
  go_enter Tryd.func12, Tryd.ntmps12
  go_wp2_with fail
  refine HR.mono ?_
  rintro e w1 ⟨rfl, hb⟩
  have h1 := h.below hb h.lt
  have c3 := h1.c3
  have fz := h1.fz 3
  have hset : WinAt (w1.setCell ⟨b, 3, none⟩ (.int .u32 ((s.sent : Int) + 1))) b s.next := by
    have := BlkAt.set h1 3 (.int .u32 ((s.sent : Int) + 1))
    rwa [winC_next] at this
  have hk : Kp b w (w1.setCell ⟨b, 3, none⟩ (.int .u32 ((s.sent : Int) + 1))) := (Kp.ofBelow hb).setCell ⟨b, 3, none⟩ rfl _
  have HS := Lib.hid hset
  have HK := Lib.hid hk
  clear hset hk h1
  go_wp2
  go_ret2
  exact ⟨rfl, HS.out, HK.out⟩
set_option maxHeartbeats 800000 in
set_option maxRecDepth 100000 in
theorem sent_any (s : WS) (b : Nat) (w : World) (h : WinAt w b s) :
    Calls Tryd.prog 16 #[.pointer (some ⟨b, 0, none⟩)] w fun e w' => e = .returned (.int .u32 s.sent) ∧ w = w' := by
  have c3 := h.c3
  go_enter Tryd.func16, Tryd.ntmps16
  go_wp2
  go_ret
  exact ⟨rfl, rfl⟩
set_option maxHeartbeats 800000 in
set_option maxRecDepth 100000 in
theorem of_win (s : WS) (hs : s.Ok) (p : Int) (b : Nat) (w : World) (h : WinAt w b s) :
    Calls Tryd.prog 21 #[.pointer (some ⟨b, 0, none⟩), .int .i64 p] w fun e w' => e = .returned (.int .u32 (s.of p)) ∧ w = w' := by
  have c0 := h.c0
  have c2 := h.c2
  have c3 := h.c3
  have hoth := hs.oth
  cases hh : hasB s.oth p with
  | true =>
    have hh' := hh
    rw [hasB_eq] at hh'
    simp only [Bool.and_eq_true, decide_eq_true_eq] at hh'
    obtain ⟨⟨hp0, hp64⟩, _⟩ := hh'
    obtain ⟨n, rfl⟩ : ∃ n : Nat, p = n := ⟨p.toNat, by omega⟩
    have hg := h.c4 n (by omega)
    have HC := fun w => has_any s.oth n hoth w
    rw [hh] at HC
    have HE := Lib.hid (show s.of n = s.got n by rw [WS.of, if_pos hh]; rfl)
    have HC := Lib.hid HC
    clear hh h
    go_enter Tryd.func21, Tryd.ntmps21
    go_wp2_with (first | (go_at_call 28; refine (HC.out _).mono ?_; rintro e w' ⟨rfl, rfl⟩))
    go_ret
    exact ⟨ret_int (by rw [HE.out]), rfl⟩
  | false =>
    have HC := fun w => has_any s.oth p hoth w
    rw [hh] at HC
    have HE := Lib.hid (show s.of p = if p = s.me then s.sent else 0 by rw [WS.of, if_neg (by rw [hh]; decide)])
    have HC := Lib.hid HC
    clear hh h
    cases hm : (p == s.me)
    all_goals
      have HM := Lib.hid (show (p = s.me) ↔ _ from by rw [← beq_iff_eq (a := p), hm])
      go_enter Tryd.func21, Tryd.ntmps21
      go_wp2_with (first | (go_at_call 28; refine (HC.out _).mono ?_; rintro e w' ⟨rfl, rfl⟩))
      go_ret
      exact ⟨ret_int (by rw [HE.out]; simp [HM.out]), rfl⟩
end Go.Proofs.YthjlilgnnmnaeaaDoor
