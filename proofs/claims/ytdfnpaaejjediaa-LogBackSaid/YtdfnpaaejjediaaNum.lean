/- walks of package num: size, Put -/
import Derived.Test.YtdfnpaaejjediaaRows
import Derived.Test.YtdfnpaaejjediaaLib
namespace Go.Proofs.Ytdfnpaaejjediaa
open Go.RowKit

def szB (n : Int) : Nat := (max 0 (min n 8)).toNat
theorem szB_le (n : Int) : szB n ≤ 8 := by unfold szB; omega
set_option maxHeartbeats 400000 in
theorem nsize_any (n : Int) (w : World) :
    Calls Try.prog 52 #[.int .i64 n] w fun e w' => e = .returned (.int .i64 (szB n)) ∧ w = w' := by
  go_enter Try.func52, Try.ntmps52
  go_wp2
  all_goals go_ret
  all_goals exact ⟨ret_int (by unfold szB; omega), rfl⟩

/-- The first k of the N bytes of v, the greatest first. -/
def beL (v : Int) (N k : Nat) : List Int := (List.range k).map fun i => v / 2 ^ (8 * (N - 1 - i)) % 256
theorem beL_succ (v : Int) (N k : Nat) : beL v N (k + 1) = beL v N k ++ [v / 2 ^ (8 * (N - 1 - k)) % 256] := by simp [beL, List.range_succ]

theorem Try.byteE : Elt Try.prog 68 5 (.int .u8 0) 1 1 := ⟨by kernel_rfl, by kernel_rfl, rfl, by decide⟩

set_option maxHeartbeats 800000 in
theorem put_any (xa : Option Addr) (m c : Nat) (xs : List Value) (v : Int) (n : Int) (w : World) (hr : Rd w 1 xa m c xs) (h1 : ∀ u ∈ xs, u.oneCell' = true) (hm : m ≤ 100000000)
   (hv0 : 0 ≤ v) (hv1 : v < 18446744073709551616) :
    Calls Try.prog 49 #[.slice xa m c, .int .u64 v, .int .i64 n] w fun e w' => ∃ v', e = .returned v' ∧ w'.ownsRow w.heap.size 5 1 v' (m + szB n) (xs ++ (beL v (szB n) (szB n)).map (Value.int .u8)) ∧ Below w.heap.size w w' := by
  have hsz := szB_le n
  go_enter Try.func49, Try.ntmps49
  go_wp2_with (first
    | (go_at_call 52; refine (nsize_any n _).mono ?_; rintro e w' ⟨rfl, rfl⟩)
    | (at_make; refine wpList_mk0 Try.byteE rfl _ _ rfl w.heap.size (m + szB n) rfl rfl (by omega) (by omega) (by unfold maxLen; omega) (Nat.le_refl _) ?_; intro w1 hown1 hg1)
    | (at_builtin; refine wpList_append_rd Try.byteE rfl (.tmp 15) (.tmp 16) rfl hown1 rfl (hr.below ((Below.refl w.heap.size w).grown hg1 (Nat.le_refl _) (fun k h => by cases h)) (Nat.le_refl _)) rfl h1 (by unfold maxLen; omega) (by omega) (by have := hg1.size; omega) ?_; intro v2 w2 hown2 hg2))
  have hb2 : Below w.heap.size w w2 := ((Below.refl w.heap.size w).grown hg1 (Nat.le_refl _) (fun k h => by cases h)).grown hg2 (by have := hg1.size; omega) (fun k hk => (hown1.lt k hk).1)
  clear hg1 hg2
  generalize hN : szB n = N at *
  have HN := Lib.hid hN; clear hN
  go_loopw [7, 8, 19] (fun o u i wr => ∃ k : Nat, k ≤ N ∧ i = .int .i64 k ∧ wr.ownsRow w.heap.size 5 1 o (m + k) (xs ++ (beL v N k).map (Value.int .u8)) ∧ Below w.heap.size w wr) (fun _ _ i _ => N - (intOf i).toNat)
  case atStart => exact ⟨0, Nat.zero_le _, rfl, by simpa [beL] using hown2, hb2⟩
  case round =>
    obtain ⟨k, hk, rfl, hown, hbr⟩ := hrel
    have hsize := hbr.size
    by_cases hlt : k < N
    · have hE := Try.byteE
      go_wp2_with (at_builtin; refine wpList_app1 Try.byteE rfl (.tmp 22) (.tmp 31) rfl hown rfl rfl rfl (by unfold maxLen; omega) (by omega) hsize ?_; intro v' w' hown' hg')
      go_roundw
      case rel => exact ⟨k + 1, by omega, by go_num, by rw [beL_succ, List.map_append, ← List.append_assoc]; exact hown', (hbr.alloc hsize _).grown hg' (by simp; omega) (fun j hj => (hown.lt j hj).1)⟩
      case measure => simp [intOf]; omega
    · obtain rfl : k = N := by omega
      go_wp2
      go_ret
      refine ⟨_, rfl, ?_, hbr⟩
      rw [HN.out]; exact hown
/-- Put over bytes that read as 'l': 'l' with the number's bytes behind, in new memory. -/
theorem put_ints (xa : Option Addr) (m c : Nat) (l : List Int) (v : Int) (n : Int) (w : World) (hr : Rd w 1 xa m c (l.map (Value.int .u8))) (hm : m ≤ 100000000)
   (hv0 : 0 ≤ v) (hv1 : v < 18446744073709551616) :
    Calls Try.prog 49 #[.slice xa m c, .int .u64 v, .int .i64 n] w fun e w' => ∃ a' c', e = .returned (.slice a' (m + szB n) c') ∧
      Rd w' 1 a' (m + szB n) c' ((l ++ beL v (szB n) (szB n)).map (Value.int .u8)) ∧ w'.ownsRow w.heap.size 5 1 (.slice a' (m + szB n) c') (m + szB n) ((l ++ beL v (szB n) (szB n)).map (Value.int .u8)) ∧ Below w.heap.size w w' := by
  refine (put_any xa m c _ v n w hr (oneCell_ints _ _) hm hv0 hv1).mono ?_
  rintro e w' ⟨v', rfl, hown, hb⟩
  obtain ⟨a', c', rfl, hr'⟩ := Rd.own hown
  rw [← List.map_append] at hown hr'
  exact ⟨a', c', rfl, hr', hown, hb⟩
end Go.Proofs.Ytdfnpaaejjediaa
