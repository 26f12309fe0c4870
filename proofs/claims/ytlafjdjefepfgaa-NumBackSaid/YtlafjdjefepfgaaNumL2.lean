/- the walk of NumBack -/
import Derived.Test.YtlafjdjefepfgaaNumL
namespace Go.Proofs.Ytlafjdjefepfgaa
open Go.RowKit

/-- What was put is got. -/
theorem valI_beL (v N : Nat) : ∀ k, k ≤ N → valI (beL v N k) = ((v / 256 ^ (N - k) % 256 ^ k : Nat) : Int) := by
  intro k
  induction k with
  | zero => intro _; simp [valI, beL, Nat.mod_one]
  | succ k ih =>
    intro hk
    rw [beL_succ, valI_snoc, ih (by omega), show N - 1 - k = N - (k + 1) from by omega, pow8]
    have e : 256 ^ (N - k) = 256 ^ (N - (k + 1)) * 256 := by rw [← Nat.pow_succ]; congr 1; omega
    rw [e, ← Nat.div_div_eq_div_mul, show ((v : Int) / 256 ^ (N - (k + 1)) % 256) = ((v / 256 ^ (N - (k + 1)) % 256 : Nat) : Int) from by simp]
    generalize v / 256 ^ (N - (k + 1)) = u
    have := @Nat.mod_mul 256 (256 ^ k) u
    rw [Nat.pow_succ, Nat.mul_comm (256 ^ k) 256, this]
    omega
theorem strOfNums_bI {l : List Int} (h : ∀ c ∈ l, 0 ≤ c ∧ c < 256) : bI (strOfNums l) = l := by
  rw [bI, bL_strOfNums, List.map_map]
  refine (List.map_congr_left (g := id) fun c hc => ?_).trans (List.map_id _)
  have := h c hc
  simp only [Function.comp, UInt8.toNat_ofNat']
  simp; omega
theorem beL_mem (v : Int) (N k : Nat) : ∀ c ∈ beL v N k, 0 ≤ c ∧ c < 256 := by
  intro c hc
  obtain ⟨i, _, rfl⟩ := List.mem_map.1 hc
  omega
theorem back_val (A B S : ByteArray) (v N : Nat) (hS : S = strOfNums (bI A ++ beL v N N)) : valI (bI ((S ++ B).extract A.size (A.size + N))) = ((v % 256 ^ N : Nat) : Int) := by
  have h1 : bI S = bI A ++ beL v N N := by
    rw [hS, strOfNums_bI]
    intro c hc
    rcases List.mem_append.1 hc with h | h
    · exact bI_mem A c h
    · exact beL_mem _ _ _ c h
  have hl : (beL (v : Int) N N).length = N := by simp [beL]
  rw [bI_extract, bI_append, h1, List.append_assoc, ← bI_len A, List.take_append, List.drop_append]
  rw [List.take_of_length_le (by omega), List.drop_of_length_le (Nat.le_refl _), List.nil_append, Nat.sub_self, List.drop_zero, Nat.add_sub_cancel_left, List.take_append_of_le_length (by omega), List.take_of_length_le (by omega)]
  rw [valI_beL v N N (Nat.le_refl _), Nat.sub_self]
  simp

set_option maxHeartbeats 1000000 in
set_option maxRecDepth 100000 in
theorem back_main (A B : ByteArray) (v n : Nat) (w : World) (hA : A.size ≤ 10000) (hB : B.size ≤ 10000) (hv : v < 18446744073709551616) (h1 : 1 ≤ n) (h8 : n ≤ 8) :
    Calls Try.prog 5 #[.string A, .string B, .int .u64 v, .int .i64 n] w fun e w' => e = .returned (.bool true) ∧ Below w.heap.size w w' := by
  have hsz : szB n = n := by unfold szB; omega
  have HS := Lib.hid hsz
  clear hsz
  have hi1 : (1 : Int) ≤ n := by omega
  have hi8 : (n : Int) ≤ 8 := by omega
  go_enter Try.func5, Try.ntmps5
  go_wp2_with fail
  refine (awake_any _).mono ?_
  rintro e w1 ⟨rfl, hb1⟩
  go_wp2_with (refine wpList_str_bytes (t := 22) (d := 9) (e := 5) Try.underlying22 Try.underlying5 Try.underlying9 rfl (.tmp 30) rfl rfl (by unfold maxLen; omega) ?_; intro c w2 hr hb hsz)
  have hb2 := belS hb1 hb
  clear hb
  refine (put_ints _ _ _ _ v n _ hr (by omega) (by omega) (by omega)).mono ?_
  rintro e w3 ⟨a', c', rfl, hd, hown, hb⟩
  rw [HS.out] at hd ⊢
  have hb3 := belS hb2 hb
  clear hb hown hr hb2
  go_wp2_with (refine wpList_bytes_str (t := 22) (d := 9) (e := 5) Try.underlying22 Try.underlying5 Try.underlying9 rfl (.tmp 34) rfl rfl hd ?_; intro S hS hS1 hS2)
  refine (get_yes _ A.size n _ (by omega) (by omega) (by omega) (by rw [ByteArray.size_append]; omega) (by rw [ByteArray.size_append]; omega)).mono ?_
  rintro e w4 ⟨rfl, hb⟩
  rw [show ((A.size : Int) + n).toNat = A.size + n from by omega, Int.toNat_natCast, back_val A B S v n hS.out]
  have hb4 := belS hb3 hb
  clear hb hb3
  by_cases h8' : (n : Int) < 8
  · obtain ⟨m, hm⟩ : ∃ m : Nat, m = 256 ^ n := ⟨_, rfl⟩
    have hm0 : 0 < m := by rw [hm]; exact Nat.pow_pos (by decide)
    have hm1 : m ≤ 72057594037927936 := by
      rw [hm]
      have : (256 : Nat) ^ n ≤ 256 ^ 7 := Nat.pow_le_pow_right (by decide) (by omega)
      simpa using this
    have hw : IntKind.u64.wrap (2 ^ (8 * n)) = (m : Int) := by
      rw [pow8, hm, u64_wrap_id]
      · simp
      · exact Int.le_of_lt (Int.pow_pos (by decide))
      · rw [hm] at hm1
        have : ((256 ^ n : Nat) : Int) ≤ 72057594037927936 := by omega
        simp at this; omega
    rw [← hm]
    have HM := Lib.hid hm
    clear hm
    have hz : ((m : Int) == 0) = false := by simp; omega
    have hpos : (0 : Int) < m := by omega
    go_wp2
    go_ret
    refine ⟨ret_bool ?_, hb4⟩
    simp; omega
  · obtain rfl : n = 8 := by omega
    rw [show v % 256 ^ 8 = v from Nat.mod_eq_of_lt (by omega)]
    go_wp2
    go_ret
    refine ⟨ret_bool ?_, hb4⟩
    simp; omega

set_option maxHeartbeats 400000 in
set_option maxRecDepth 100000 in
theorem back_out (A B : ByteArray) (v n : Int) (w : World) (h : 10000 < A.size ∨ 10000 < B.size ∨ n < 1 ∨ 8 < n) :
    Calls Try.prog 5 #[.string A, .string B, .int .u64 v, .int .i64 n] w fun e w' => e = .returned (.bool true) ∧ Below w.heap.size w w' := by
  go_enter Try.func5, Try.ntmps5
  go_wp2_with fail
  refine (awake_any _).mono ?_
  rintro e w1 ⟨rfl, hb1⟩
  by_cases h1 : 10000 < A.size
  · clear h; go_wp2; go_ret; exact ⟨rfl, hb1⟩
  by_cases h2 : 10000 < B.size
  · clear h; go_wp2; go_ret; exact ⟨rfl, hb1⟩
  by_cases h3 : n < 1
  · clear h; go_wp2; go_ret; exact ⟨rfl, hb1⟩
  · have h4 : 8 < n := by omega
    clear h; go_wp2; go_ret; exact ⟨rfl, hb1⟩
theorem back_law (A B : ByteArray) (v n : Int) (w : World) (_ : A.size ≤ maxLen) (_ : B.size ≤ maxLen) (hv : (Lit.int .u64 v).wf = true) (_ : (Lit.int .i64 n).wf = true) :
    Calls Try.prog 5 #[.string A, .string B, .int .u64 v, .int .i64 n] w fun e w' => e = .returned (.bool true) ∧ Below w.heap.size w w' := by
  by_cases h : 10000 < A.size ∨ 10000 < B.size ∨ n < 1 ∨ 8 < n
  · exact back_out A B v n w h
  · obtain ⟨h0, h1⟩ := wf_u64_bounds hv
    obtain ⟨u, rfl⟩ : ∃ u : Nat, v = u := ⟨v.toNat, by omega⟩
    obtain ⟨k, rfl⟩ : ∃ k : Nat, n = k := ⟨n.toNat, by omega⟩
    exact back_main A B u k w (by omega) (by omega) (by omega) (by omega) (by omega)
end Go.Proofs.Ytlafjdjefepfgaa
