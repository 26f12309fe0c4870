/- the walks of NumGets, NumSums, NumBack -/
import Derived.Test.YtlafjdjefepfgaaNumR
import Derived.Test.YtlafjdjefepfgaaNumC
namespace Go.Proofs.Ytlafjdjefepfgaa
open Go.RowKit

theorem sumI_bd (a b : Int) (ha : 0 ≤ a) (ha' : a < 18446744073709551616) (hb : 0 ≤ b) : 0 ≤ sumI a b ∧ sumI a b < 18446744073709551616 := by unfold sumI; split <;> omega

set_option maxHeartbeats 1000000 in
set_option maxRecDepth 100000 in
theorem sums_any (a b c : Int) (w : World) (ha : 0 ≤ a) (ha' : a < 18446744073709551616) (hb : 0 ≤ b) (hb' : b < 18446744073709551616) (hc : 0 ≤ c) (hc' : c < 18446744073709551616) :
    Calls Try.prog 7 #[.int .u64 a, .int .u64 b, .int .u64 c] w fun e w' => e = .returned (.bool true) ∧ Below w.heap.size w w' := by
  have e1 : (sumI (sumI a b) c == sumI a (sumI b c)) = true := by
    rw [beq_iff_eq]; unfold sumI; split <;> split <;> split <;> (try split) <;> omega
  have e2 : (sumI a b == sumI b a) = true := by
    rw [beq_iff_eq]; unfold sumI; split <;> split <;> omega
  have e3 : (sumI a 0 == a) = true := by
    rw [beq_iff_eq]; unfold sumI; split <;> omega
  have e4 : decide (a ≤ sumI a b) = true := by
    rw [decide_eq_true_eq]; unfold sumI; split <;> omega
  have e5 : decide (b ≤ sumI a b) = true := by
    rw [decide_eq_true_eq]; unfold sumI; split <;> omega
  obtain ⟨p1, p2⟩ := sumI_bd a b ha ha' hb
  obtain ⟨p3, p4⟩ := sumI_bd b c hb hb' hc
  go_enter Try.func7, Try.ntmps7
  go_wp2_with fail
  refine (awake_any _).mono ?_
  rintro e w1 ⟨rfl, hb1⟩
  go_wp2_with (go_at_call 13; refine (sum_any _ _ _ (by omega) (by omega) (by omega) (by omega)).mono ?_; rintro e w' ⟨rfl, rfl⟩)
  go_ret
  exact ⟨ret_bool (by simp [*]), hb1⟩

set_option maxHeartbeats 1000000 in
set_option maxRecDepth 100000 in
theorem gets_any (s : ByteArray) (at_ n a b : Int) (w : World) (hz : s.size ≤ 20000) (ha : 0 ≤ a) (ha' : a < 18446744073709551616) (hb : 0 ≤ b) (hb' : b < 18446744073709551616) :
    Calls Try.prog 4 #[.string s, .int .i64 at_, .int .i64 n, .int .u64 a, .int .u64 b] w fun e w' => e = .returned (.bool true) ∧ Below w.heap.size w w' := by
  by_cases h : n < 1 ∨ 8 < n ∨ at_ < 0 ∨ s.size < at_ + n
  · have H := Lib.hid h
    clear h
    go_enter Try.func4, Try.ntmps4
    go_wp2_with fail
    refine (awake_any _).mono ?_
    rintro e w1 ⟨rfl, hb1⟩
    go_wp2_with fail
    refine (get_no s at_ n _ H.out (by omega)).mono ?_
    rintro e w2 ⟨rfl, rfl⟩
    go_wp2_with fail
    refine (rget_no s at_ n _ H.out (by omega)).mono ?_
    rintro e w2 ⟨rfl, rfl⟩
    go_wp2_with fail
    refine (sum_any a b _ ha ha' hb hb').mono ?_
    rintro e w2 ⟨rfl, rfl⟩
    go_wp2_with fail
    refine (rsum_any a b _ ha ha' hb hb').mono ?_
    rintro e w2 ⟨rfl, rfl⟩
    go_wp2
    go_ret
    exact ⟨ret_bool (by simp), hb1⟩
  · obtain ⟨m, rfl⟩ : ∃ m : Nat, n = m := ⟨n.toNat, by omega⟩
    obtain ⟨p, rfl⟩ : ∃ p : Nat, at_ = p := ⟨at_.toNat, by omega⟩
    have hv : (p + m : Int).toNat = p + m := by omega
    have hg := fun w => get_yes s p m w (by omega) (by omega) (by omega) (by omega) (by omega)
    rw [hv, Int.toNat_natCast] at hg
    have h1 : 1 ≤ m := by omega
    have h2 : m ≤ 8 := by omega
    have h3 : p + m ≤ s.size := by omega
    clear h hv
    go_enter Try.func4, Try.ntmps4
    go_wp2_with fail
    refine (awake_any _).mono ?_
    rintro e w1 ⟨rfl, hb1⟩
    go_wp2_with fail
    refine (hg _).mono ?_
    rintro e w2 ⟨rfl, hb⟩
    have hb2 := belS hb1 hb
    clear hb hg
    go_wp2_with fail
    refine (rget_yes s p m _ h1 h2 h3 (by omega)).mono ?_
    rintro e w3 ⟨rfl, rfl⟩
    go_wp2_with fail
    refine (sum_any a b _ ha ha' hb hb').mono ?_
    rintro e w3 ⟨rfl, rfl⟩
    go_wp2_with fail
    refine (rsum_any a b _ ha ha' hb hb').mono ?_
    rintro e w3 ⟨rfl, rfl⟩
    go_wp2
    go_ret
    exact ⟨ret_bool (by simp), hb2⟩

set_option maxHeartbeats 400000 in
theorem gets_out (s : ByteArray) (at_ n a b : Int) (w : World) (hz : 20000 < s.size) :
    Calls Try.prog 4 #[.string s, .int .i64 at_, .int .i64 n, .int .u64 a, .int .u64 b] w fun e w' => e = .returned (.bool true) ∧ Below w.heap.size w w' := by
  go_enter Try.func4, Try.ntmps4
  go_wp2_with fail
  refine (awake_any _).mono ?_
  rintro e w1 ⟨rfl, hb1⟩
  go_wp2
  go_ret
  exact ⟨rfl, hb1⟩

theorem gets_law (s : ByteArray) (at_ n a b : Int) (w : World) (_ : s.size ≤ maxLen) (_ : (Lit.int .i64 at_).wf = true) (_ : (Lit.int .i64 n).wf = true) (ha : (Lit.int .u64 a).wf = true) (hb : (Lit.int .u64 b).wf = true) :
    Calls Try.prog 4 #[.string s, .int .i64 at_, .int .i64 n, .int .u64 a, .int .u64 b] w fun e w' => e = .returned (.bool true) ∧ Below w.heap.size w w' := by
  by_cases h : 20000 < s.size
  · exact gets_out s at_ n a b w h
  · exact gets_any s at_ n a b w (by omega) (wf_u64_bounds ha).1 (wf_u64_bounds ha).2 (wf_u64_bounds hb).1 (wf_u64_bounds hb).2
theorem sums_law (a b c : Int) (w : World) (ha : (Lit.int .u64 a).wf = true) (hb : (Lit.int .u64 b).wf = true) (hc : (Lit.int .u64 c).wf = true) :
    Calls Try.prog 7 #[.int .u64 a, .int .u64 b, .int .u64 c] w fun e w' => e = .returned (.bool true) ∧ Below w.heap.size w w' :=
  sums_any a b c w (wf_u64_bounds ha).1 (wf_u64_bounds ha).2 (wf_u64_bounds hb).1 (wf_u64_bounds hb).2 (wf_u64_bounds hc).1 (wf_u64_bounds hc).2
end Go.Proofs.Ytlafjdjefepfgaa
