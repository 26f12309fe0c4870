/- walks of package num: value, Get, Sum -/
import Derived.Test.YtdfnpaaejjediaaNum
import Derived.Lib.EndianBits
namespace Go.Proofs.Ytdfnpaaejjediaa
open Go.RowKit

/-- The number of some bytes. -/
def valI (l : List Int) : Int := l.foldl (fun v c => v * 256 + c) 0
theorem valI_snoc (l : List Int) (c : Int) : valI (l ++ [c]) = valI l * 256 + c := by simp [valI]
theorem valI_bd (l : List Int) (h : ∀ c ∈ l, 0 ≤ c ∧ c < 256) : ∀ k, k ≤ l.length → 0 ≤ valI (l.take k) ∧ valI (l.take k) < 256 ^ k := by
  intro k
  induction k with
  | zero => intro _; simp [valI]
  | succ k ih =>
    intro hk
    obtain ⟨h1, h2⟩ := ih (by omega)
    rw [List.take_succ_eq_append_getElem (by omega), valI_snoc]
    have := h _ (List.getElem_mem (show k < l.length by omega))
    rw [Int.pow_succ]
    omega
theorem bI_mem (s : ByteArray) : ∀ c ∈ bI s, 0 ≤ c ∧ c < 256 := by
  intro c hc
  obtain ⟨b, _, rfl⟩ := List.mem_map.1 hc
  have := b.toNat_lt
  omega
theorem pow7 {k : Nat} (h : k ≤ 7) : (256 : Int) ^ k ≤ 72057594037927936 := by
  have : ∀ k : Nat, k < 8 → (256 : Int) ^ k ≤ 72057594037927936 := by decide
  exact this k (by omega)
theorem getD_elem {l : List Int} {k : Nat} (h : k < l.length) : l[k]?.getD 0 = l[k] := by rw [List.getElem?_eq_getElem h]; rfl
theorem val_step (s : ByteArray) (k : Nat) (h : k < s.size) (h8 : s.size ≤ 8) : bits BinOp.or IntKind.u64 (IntKind.u64.wrap (valI ((bI s).take k) * 256)) (IntKind.u64.wrap ((bI s)[k]?.getD 0)) = valI ((bI s).take (k + 1)) := by
  have hl : k < (bI s).length := by rw [bI_len]; exact h
  obtain ⟨h1, h2⟩ := valI_bd (bI s) (bI_mem s) k (by omega)
  have h3 := pow7 (show k ≤ 7 by omega)
  have h4 := bI_mem s _ (List.getElem_mem hl)
  rw [List.take_succ_eq_append_getElem hl, valI_snoc, getD_elem hl, u64_wrap_id _ (by omega) (by omega), u64_wrap_id _ (by omega) (by omega)]
  exact bits_join .u64 64 (by decide) wraps_u64 8 _ _ (by omega) (by omega) (by omega) (by omega) (by omega) (by omega)

set_option maxHeartbeats 800000 in
set_option maxRecDepth 100000 in
theorem value_any (s : ByteArray) (w : World) (hs : s.size ≤ 8) :
    Calls Try.prog 51 #[.string s] w fun e w' => e = .returned (.int .u64 (valI (bI s))) ∧ Below w.heap.size w w' := by
  go_enter Try.func51, Try.ntmps51
  go_wp2_with (refine wpList_str_bytes (t := 68) (d := 9) (e := 5) Try.underlying68 Try.underlying5 Try.underlying9 rfl (.tmp 6) rfl rfl (by unfold maxLen; omega) ?_; intro c w1 hr hb hsz)
  go_loopw [3, 5, 9] (fun v _ i wr => ∃ k : Nat, k ≤ s.size ∧ i = .int .i64 k ∧ v = .int .u64 (valI ((bI s).take k)) ∧ w1 = wr) (fun _ _ i _ => s.size - (intOf i).toNat)
  case atStart => exact ⟨0, Nat.zero_le _, rfl, rfl, rfl⟩
  case round =>
    obtain ⟨k, hk, rfl, rfl, rfl⟩ := hrel
    by_cases hlt : k < s.size
    · have hc' : w1.cell? ⟨w.heap.size, k, none⟩ = some (.int .u8 ((bI s).getD k 0)) := by
        have := hr.at (j := k) (u := .int .u8 ((bI s).getD k 0)) (by rw [List.getElem?_map, List.getD_eq_getElem?_getD, List.getElem?_eq_getElem (by rw [bI_len]; exact hlt)]; rfl)
        rwa [Nat.zero_add] at this
      have hv := Lib.hid (val_step s k hlt hs)
      go_wp2
      go_roundw
      case rel => exact ⟨k + 1, by omega, by go_num, by rw [hv.out], trivial⟩
      case measure => simp [intOf]; omega
    · obtain rfl : k = s.size := by omega
      rw [List.take_of_length_le (by rw [bI_len]; exact Nat.le_refl _)]
      go_wp2
      go_ret
      exact ⟨rfl, hb⟩

def sumI (a b : Int) : Int := if 18446744073709551615 - a < b then 18446744073709551615 else a + b
theorem szB_eq (n : Int) : (szB n : Int) = if n < 0 then 0 else if 8 < n then 8 else n := by unfold szB; split <;> (try split) <;> omega
set_option maxHeartbeats 800000 in
set_option maxRecDepth 100000 in
theorem rsize_any (n : Int) (w : World) :
    Calls Try.prog 50 #[.int .i64 n] w fun e w' => e = .returned (.int .i64 (szB n)) ∧ w = w' := by
  go_enter Try.func50, Try.ntmps50
  go_wp2
  all_goals go_ret
  all_goals exact ⟨ret_int (by unfold szB; omega), rfl⟩
theorem u64w (n : Int) : IntKind.u64.wrap n = n % 18446744073709551616 := by simp [IntKind.wrap, IntKind.bits, IntKind.signed]
theorem rsum_lt (a b : Int) (ha : 0 ≤ a) (ha' : a < 18446744073709551616) (hb : 0 ≤ b) (hb' : b < 18446744073709551616) (h : IntKind.u64.wrap (a + b) < a) : 18446744073709551615 = sumI a b := by
  rw [u64w] at h
  rw [sumI, if_pos (by omega)]
theorem rsum_ge (a b : Int) (ha : 0 ≤ a) (ha' : a < 18446744073709551616) (hb : 0 ≤ b) (hb' : b < 18446744073709551616) (h : a ≤ IntKind.u64.wrap (a + b)) : IntKind.u64.wrap (a + b) = sumI a b := by
  rw [u64w] at h ⊢
  rw [sumI, if_neg (by omega)]; omega
theorem rval_step (s : ByteArray) (a n k : Nat) (h : k < n) (h8 : n ≤ 8) (ha : a + n ≤ s.size) :
    IntKind.u64.wrap (IntKind.u64.wrap (valI ((bI (s.extract a (a + n))).take k) * 256) + IntKind.u64.wrap ((s[a + k]'(by omega)).toNat : Int)) = valI ((bI (s.extract a (a + n))).take (k + 1)) := by
  have hz : (s.extract a (a + n)).size = n := by rw [ByteArray.size_extract]; omega
  have hl : k < (bI (s.extract a (a + n))).length := by rw [bI_len, hz]; exact h
  obtain ⟨h1, h2⟩ := valI_bd (bI (s.extract a (a + n))) (bI_mem _) k (by omega)
  have h3 := pow7 (show k ≤ 7 by omega)
  have h5 : (bI (s.extract a (a + n)))[k] = ((s[a + k]'(by omega)).toNat : Int) := by
    have := bI_get s (a + k) (by omega)
    have h6 : (bI (s.extract a (a + n)))[k]? = (bI s)[a + k]? := by rw [bI_extract, List.getElem?_drop, List.getElem?_take, if_pos (by omega)]
    rw [this, List.getElem?_eq_getElem hl] at h6
    exact Option.some.inj h6
  have h4 := bI_mem _ _ (List.getElem_mem hl)
  rw [List.take_succ_eq_append_getElem hl, valI_snoc, h5]
  rw [h5] at h4
  simp only [u64w]
  omega
set_option maxHeartbeats 800000 in
set_option maxRecDepth 100000 in
theorem rget_yes (s : ByteArray) (at_ n : Nat) (w : World) (h1 : 1 ≤ n) (h2 : n ≤ 8) (h4 : at_ + n ≤ s.size) (hz : s.size ≤ 9223372036854775807) :
    Calls Try.prog 53 #[.string s, .int .i64 at_, .int .i64 n] w fun e w' => e = .returned (.tuple #[.int .u64 (valI (bI (s.extract at_ (at_ + n)))), .bool true]) ∧ w = w' := by
  have hi1 : (1 : Int) ≤ n := by omega
  have hi2 : (n : Int) ≤ 8 := by omega
  have hi3 : (0 : Int) ≤ at_ := by omega
  have hi4 : decide (s.size < at_) = false := by simp; omega
  have hi5 : (n : Int) ≤ s.size - at_ := by omega
  go_enter Try.func53, Try.ntmps53
  go_wp2
  go_loop [8, 9] (fun v i => ∃ k : Nat, k ≤ n ∧ i = .int .i64 ((at_ + k : Nat) : Int) ∧ v = .int .u64 (valI ((bI (s.extract at_ (at_ + n))).take k))) (fun _ i => at_ + n - (intOf i).toNat)
  case atStart => exact ⟨0, Nat.zero_le _, rfl, rfl⟩
  case round =>
    obtain ⟨k, hk, rfl, rfl⟩ := hrel
    by_cases hlt : k < n
    · have hv := Lib.hid (rval_step s at_ n k hlt h2 h4)
      have hw : (at_ : Int) + k < s.size := by omega
      go_wp2
      go_round
      case rel => exact ⟨k + 1, by omega, by go_num, by rw [hv.out]⟩
      case measure => simp [intOf]; omega
    · obtain rfl : k = n := by omega
      rw [List.take_of_length_le (by rw [bI_len, ByteArray.size_extract]; omega)]
      go_wp2
      go_ret2
      exact ⟨rfl, rfl⟩
end Go.Proofs.Ytdfnpaaejjediaa
