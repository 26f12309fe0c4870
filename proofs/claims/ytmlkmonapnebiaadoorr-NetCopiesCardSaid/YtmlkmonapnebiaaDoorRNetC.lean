/- the net: walks of New, At, Send -/
import Derived.Test.YtmlkmonapnebiaaDoorRNetB
import Derived.Test.YtmlkmonapnebiaaDoorRApt
import Derived.Deep.MidRow
namespace Go.Proofs.YtmlkmonapnebiaaDoorR
open Go.RowKit Go.Sort

def NS.zero (k : Nat) : NS := ⟨k, fun _ => 0, []⟩
def nN (n : Int) : Nat := (max 0 (min n 64)).toNat
def NS.nw (n : Int) : NS := (NS.zero (nN n)).heal
theorem Tryd.netB (k : Nat) : Tryd.prog.built 55 [(0, .int .i64 k)] = some (netC (NS.zero k) (.slice none 0 0)) := by kernel_rfl
theorem nN_le (n : Int) : nN n ≤ 64 := by unfold nN; omega
theorem NS.zero_ok {k : Nat} (h : k ≤ 64) : (NS.zero k).Ok := ⟨h, fun _ => Nat.zero_lt_succ _, Nat.zero_le _⟩
theorem NS.nw_ok (n : Int) : (NS.nw n).Ok := NS.heal_ok (NS.zero_ok (nN_le n))
/-- What a new net is. -/
def NewNet (w : World) (n : Int) (e : Ending) (w' : World) : Prop := ∃ b, e = .returned (.pointer (some ⟨b, 0, none⟩)) ∧ w.heap.size ≤ b ∧ NetAt w.heap.size w' (fun g => g = b) b (NS.nw n) (.slice none 0 0) ∧ Below w.heap.size w w'
set_option maxHeartbeats 1600000 in
set_option maxRecDepth 100000 in
theorem nnew_any (n : Int) (w : World) (hT : Tab w) : Calls Tryd.prog 8 #[.int .i64 n] w (NewNet w n) := by
  have hle := nN_le n
  have hok := NS.zero_ok hle
  have hB := Tryd.netB (nN n)
  have HN0 : NS.nw n = (NS.zero (nN n)).heal := rfl
  have hNA : NetAt w.heap.size (w.alloc (.cells (netC (NS.zero (nN n)) (.slice none 0 0)) 55)) (fun g => g = w.heap.size) w.heap.size (NS.zero (nN n)) (.slice none 0 0) :=
    ⟨BlkAt.new w _ _, World.ownsRow_nil _ _ _ _, (fun g hg => by cases hg), (fun hg => by cases hg), rfl, (fun g hg => by rw [hg]; exact Nat.le_refl _), (fun g hg => by rw [hg]; simp)⟩
  have hb1 : Below w.heap.size w (w.alloc (.cells (netC (NS.zero (nN n)) (.slice none 0 0)) 55)) := (Below.refl _ _).alloc (Nat.le_refl _) _
  have hT1 := hT.below hb1 hT.1
  have HH := Lib.hid (fun (W : World) (h : NetAt w.heap.size W (fun g => g = w.heap.size) w.heap.size (NS.zero (nN n)) (.slice none 0 0)) hT => heal_any hok h hT)
  by_cases h0 : n < 0
  · have e : nN n = 0 := by unfold nN; omega
    rw [e] at hB hNA hb1 hT1 HH HN0
    have HN := Lib.hid HN0
    have h1 : ¬ (64 : Int) < n := by omega
    have h2 : n < 64 := by omega
    clear e HN0 hok hle
    (go_enter Tryd.func8, Tryd.ntmps8; go_wp2_with (first | (refine wpList_blk_build (cs := netC (NS.zero 0) (.slice none 0 0)) rfl #[(0, .tmp 6)] rfl (by rw [List.map_toArray]; exact hB) ?_) | (refine wpList_blk_box rfl (.tmp 7) rfl rfl w.heap.size rfl ?_)); refine (HH.out _ hNA hT1).mono ?_; rintro e w2 ⟨rfl, h2, hk⟩; go_wp2; go_ret; exact ⟨_, rfl, Nat.le_refl _, by rw [HN.out]; exact h2, Kp.below hb1 hk (Nat.le_refl _) hb1.size⟩)
  by_cases h00 : n = 0
  · subst h00
    have e : nN 0 = 0 := by unfold nN; omega
    rw [e] at hB hNA hb1 hT1 HH HN0
    have HN := Lib.hid HN0
    clear e HN0 hok hle h0
    (go_enter Tryd.func8, Tryd.ntmps8; go_wp2_with (first | (refine wpList_blk_build (cs := netC (NS.zero 0) (.slice none 0 0)) rfl #[(0, .tmp 6)] rfl (by rw [List.map_toArray]; exact hB) ?_) | (refine wpList_blk_box rfl (.tmp 7) rfl rfl w.heap.size rfl ?_)); refine (HH.out _ hNA hT1).mono ?_; rintro e w2 ⟨rfl, h2, hk⟩; go_wp2; go_ret; exact ⟨_, rfl, Nat.le_refl _, by rw [HN.out]; exact h2, Kp.below hb1 hk (Nat.le_refl _) hb1.size⟩)
  by_cases h64 : 64 < n
  · have e : nN n = 64 := by unfold nN; omega
    rw [e] at hB hNA hb1 hT1 HH HN0
    have HN := Lib.hid HN0
    have h2 : ¬ n < 64 := by omega
    clear e HN0 hok hle
    (go_enter Tryd.func8, Tryd.ntmps8; go_wp2_with (first | (refine wpList_blk_build (cs := netC (NS.zero 64) (.slice none 0 0)) rfl #[(0, .tmp 6)] rfl (by rw [List.map_toArray]; exact hB) ?_) | (refine wpList_blk_box rfl (.tmp 7) rfl rfl w.heap.size rfl ?_)); refine (HH.out _ hNA hT1).mono ?_; rintro e w2 ⟨rfl, h2, hk⟩; go_wp2; go_ret; exact ⟨_, rfl, Nat.le_refl _, by rw [HN.out]; exact h2, Kp.below hb1 hk (Nat.le_refl _) hb1.size⟩)
  · obtain ⟨k, rfl⟩ : ∃ k : Nat, n = k := ⟨n.toNat, by omega⟩
    have e : nN k = k := by unfold nN; omega
    rw [e] at hB hNA hb1 hT1 HH HN0
    have HN := Lib.hid HN0
    clear e HN0 hok hle
    have hk0 : 0 < k := by omega
    by_cases h2 : (k : Int) < 64
    · (go_enter Tryd.func8, Tryd.ntmps8; go_wp2_with (first | (refine wpList_blk_build (cs := netC (NS.zero k) (.slice none 0 0)) rfl #[(0, .tmp 6)] rfl (by rw [List.map_toArray]; exact hB) ?_) | (refine wpList_blk_box rfl (.tmp 7) rfl rfl w.heap.size rfl ?_)); refine (HH.out _ hNA hT1).mono ?_; rintro e w2 ⟨rfl, h2, hk⟩; go_wp2; go_ret; exact ⟨_, rfl, Nat.le_refl _, by rw [HN.out]; exact h2, Kp.below hb1 hk (Nat.le_refl _) hb1.size⟩)
    · obtain rfl : k = 64 := by omega
      (go_enter Tryd.func8, Tryd.ntmps8; go_wp2_with (first | (refine wpList_blk_build (cs := netC (NS.zero 64) (.slice none 0 0)) rfl #[(0, .tmp 6)] rfl (by rw [List.map_toArray]; exact hB) ?_) | (refine wpList_blk_box rfl (.tmp 7) rfl rfl w.heap.size rfl ?_)); refine (HH.out _ hNA hT1).mono ?_; rintro e w2 ⟨rfl, h2, hk⟩; go_wp2; go_ret; exact ⟨_, rfl, Nat.le_refl _, by rw [HN.out]; exact h2, Kp.below hb1 hk (Nat.le_refl _) hb1.size⟩)
end Go.Proofs.YtmlkmonapnebiaaDoorR
