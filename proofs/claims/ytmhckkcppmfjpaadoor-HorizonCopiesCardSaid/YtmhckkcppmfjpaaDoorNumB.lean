/- walks of package num: value, Get, Sum -/
import Derived.Test.YtmhckkcppmfjpaaDoorNum
import Derived.Lib.EndianBits
namespace Go.Proofs.YtmhckkcppmfjpaaDoor
open Go.RowKit

/-- The number of some bytes. -/
def valI (l : List Int) : Int := l.foldl (fun v c => v * 256 + c) 0
theorem valI_snoc (l : List Int) (c : Int) : valI (l ++ [c]) = valI l * 256 + c := by simp [valI]
theorem valI_bd (l : List Int) (h : ∀ c ∈ l, 0 ≤ c ∧ c < 256) : ∀ k, k ≤ l.length → 0 ≤ valI (l.take k) ∧ valI (l.take k) < 256 ^ k := by
  intro k
  induction k with
  | zero => intro _; simp [valI]
  | succ k ih =>
    intro hk
    obtain ⟨h1, h2⟩ := ih (by omega)
    rw [List.take_succ_eq_append_getElem (by omega), valI_snoc]
    have := h _ (List.getElem_mem (show k < l.length by omega))
    rw [Int.pow_succ]
    omega
theorem bI_mem (s : ByteArray) : ∀ c ∈ bI s, 0 ≤ c ∧ c < 256 := by
  intro c hc
  obtain ⟨b, _, rfl⟩ := List.mem_map.1 hc
  have := b.toNat_lt
  omega
theorem pow7 {k : Nat} (h : k ≤ 7) : (256 : Int) ^ k ≤ 72057594037927936 := by
  have : ∀ k : Nat, k < 8 → (256 : Int) ^ k ≤ 72057594037927936 := by decide
  exact this k (by omega)
theorem getD_elem {l : List Int} {k : Nat} (h : k < l.length) : l[k]?.getD 0 = l[k] := by rw [List.getElem?_eq_getElem h]; rfl
theorem val_step (s : ByteArray) (k : Nat) (h : k < s.size) (h8 : s.size ≤ 8) : bits BinOp.or IntKind.u64 (IntKind.u64.wrap (valI ((bI s).take k) * 256)) (IntKind.u64.wrap ((bI s)[k]?.getD 0)) = valI ((bI s).take (k + 1)) := by
  have hl : k < (bI s).length := by rw [bI_len]; exact h
  obtain ⟨h1, h2⟩ := valI_bd (bI s) (bI_mem s) k (by omega)
  have h3 := pow7 (show k ≤ 7 by omega)
  have h4 := bI_mem s _ (List.getElem_mem hl)
  rw [List.take_succ_eq_append_getElem hl, valI_snoc, getD_elem hl, u64_wrap_id _ (by omega) (by omega), u64_wrap_id _ (by omega) (by omega)]
  exact bits_join .u64 64 (by decide) wraps_u64 8 _ _ (by omega) (by omega) (by omega) (by omega) (by omega) (by omega)

def sumI (a b : Int) : Int := if 18446744073709551615 - a < b then 18446744073709551615 else a + b
set_option maxHeartbeats 800000 in
set_option maxRecDepth 100000 in
theorem sum_any (a b : Int) (w : World) (ha : 0 ≤ a) (ha' : a < 18446744073709551616) (hb : 0 ≤ b) (hb' : b < 18446744073709551616) :
    Calls Tryd.prog 28 #[.int .u64 a, .int .u64 b] w fun e w' => e = .returned (.int .u64 (sumI a b)) ∧ w = w' := by
  by_cases h : 18446744073709551615 - a < b
  · go_enter Tryd.func28, Tryd.ntmps28
    go_wp2
    go_ret
    exact ⟨ret_int (by rw [sumI, if_pos h]), rfl⟩
  · go_enter Tryd.func28, Tryd.ntmps28
    go_wp2
    go_ret
    exact ⟨ret_int (by rw [sumI, if_neg (by omega)]), rfl⟩

theorem szB_eq (n : Int) : (szB n : Int) = if n < 0 then 0 else if 8 < n then 8 else n := by unfold szB; split <;> (try split) <;> omega
theorem u64w (n : Int) : IntKind.u64.wrap n = n % 18446744073709551616 := by simp [IntKind.wrap, IntKind.bits, IntKind.signed]
theorem rsum_lt (a b : Int) (ha : 0 ≤ a) (ha' : a < 18446744073709551616) (hb : 0 ≤ b) (hb' : b < 18446744073709551616) (h : IntKind.u64.wrap (a + b) < a) : 18446744073709551615 = sumI a b := by
  rw [u64w] at h
  rw [sumI, if_pos (by omega)]
theorem rsum_ge (a b : Int) (ha : 0 ≤ a) (ha' : a < 18446744073709551616) (hb : 0 ≤ b) (hb' : b < 18446744073709551616) (h : a ≤ IntKind.u64.wrap (a + b)) : IntKind.u64.wrap (a + b) = sumI a b := by
  rw [u64w] at h ⊢
  rw [sumI, if_neg (by omega)]; omega
theorem rval_step (s : ByteArray) (a n k : Nat) (h : k < n) (h8 : n ≤ 8) (ha : a + n ≤ s.size) :
    IntKind.u64.wrap (IntKind.u64.wrap (valI ((bI (s.extract a (a + n))).take k) * 256) + IntKind.u64.wrap ((s[a + k]'(by omega)).toNat : Int)) = valI ((bI (s.extract a (a + n))).take (k + 1)) := by
  have hz : (s.extract a (a + n)).size = n := by rw [ByteArray.size_extract]; omega
  have hl : k < (bI (s.extract a (a + n))).length := by rw [bI_len, hz]; exact h
  obtain ⟨h1, h2⟩ := valI_bd (bI (s.extract a (a + n))) (bI_mem _) k (by omega)
  have h3 := pow7 (show k ≤ 7 by omega)
  have h5 : (bI (s.extract a (a + n)))[k] = ((s[a + k]'(by omega)).toNat : Int) := by
    have := bI_get s (a + k) (by omega)
    have h6 : (bI (s.extract a (a + n)))[k]? = (bI s)[a + k]? := by rw [bI_extract, List.getElem?_drop, List.getElem?_take, if_pos (by omega)]
    rw [this, List.getElem?_eq_getElem hl] at h6
    exact Option.some.inj h6
  have h4 := bI_mem _ _ (List.getElem_mem hl)
  rw [List.take_succ_eq_append_getElem hl, valI_snoc, h5]
  rw [h5] at h4
  simp only [u64w]
  omega
end Go.Proofs.YtmhckkcppmfjpaaDoor
