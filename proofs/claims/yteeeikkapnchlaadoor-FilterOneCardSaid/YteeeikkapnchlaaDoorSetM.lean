/- plain laws of sets of processes: numbers below 2^64, bit by bit -/
import Derived.WalkKit
import Derived.Lib.TrailingZeros
import Derived.Laws.BitsAllLaws
namespace Go.Proofs.YteeeikkapnchlaaDoor
set_option linter.unusedSimpArgs false
set_option linter.unusedVariables false
open Go.RowKit

/-- Less than 2^64. -/
def U64 : Nat := 18446744073709551616
/-- What x has and y hasn't. -/
def butN (x y : Nat) : Nat := x &&& (18446744073709551615 - y)
/-- How many of the first n bits. -/
def cntN (n x : Nat) : Nat := (List.range n).countP fun i => x.testBit i
def cardN (x : Nat) : Nat := cntN 64 x
/-- The members, rising. -/
def memN (x : Nat) : List Nat := (List.range 64).filter fun i => x.testBit i
theorem memN_len (x : Nat) : (memN x).length = cardN x := by rw [memN, cardN, cntN, List.countP_eq_length_filter]
/-- The set of one. -/
def bitN (p : Int) : Nat := if 0 ≤ p ∧ p < 64 then 2 ^ p.toNat else 0

theorem p64 : (2 : Nat) ^ 64 = 18446744073709551616 := by decide
theorem tb_hi {x i : Nat} (hx : x < 18446744073709551616) (hi : 64 ≤ i) : x.testBit i = false := by
  refine Nat.testBit_lt_two_pow (Nat.lt_of_lt_of_le hx ?_)
  rw [← p64]; exact Nat.pow_le_pow_right (by decide) hi
theorem ext64 {x y : Nat} (hx : x < 18446744073709551616) (hy : y < 18446744073709551616) (h : ∀ i, i < 64 → x.testBit i = y.testBit i) : x = y := by
  apply Nat.eq_of_testBit_eq
  intro i
  by_cases hi : i < 64
  · exact h i hi
  · rw [tb_hi hx (by omega), tb_hi hy (by omega)]
theorem and_lt (x y : Nat) (hx : x < 18446744073709551616) : x &&& y < 18446744073709551616 := Nat.lt_of_le_of_lt Nat.and_le_left hx
theorem or_lt {x y : Nat} (hx : x < 18446744073709551616) (hy : y < 18446744073709551616) : x ||| y < 18446744073709551616 := by
  rw [← p64] at *; exact Nat.or_lt_two_pow hx hy
theorem but_lt (x y : Nat) (hx : x < 18446744073709551616) : butN x y < 18446744073709551616 := and_lt _ _ hx
theorem but_bit {x y : Nat} (hy : y < 18446744073709551616) (i : Nat) (hi : i < 64) : (butN x y).testBit i = (x.testBit i && !y.testBit i) := by
  rw [butN, Nat.testBit_and, show 18446744073709551615 - y = 2 ^ 64 - (y + 1) from by rw [p64]; omega, Nat.testBit_two_pow_sub_succ (by rw [p64]; exact hy)]
  simp [hi]
theorem bitN_lt (p : Int) : bitN p < 18446744073709551616 := by
  unfold bitN
  split
  · rw [← p64]; exact Nat.pow_lt_pow_right (by decide) (by omega)
  · decide
theorem bitN_bit (p : Int) (i : Nat) : (bitN p).testBit i = (decide (0 ≤ p ∧ p < 64) && decide (p = i)) := by
  unfold bitN
  split
  · rename_i h
    rw [Nat.testBit_two_pow]
    simp [h]; omega
  · rename_i h
    simp [h]
theorem cnt_split (k n x : Nat) : cntN (k + n) x = cntN k (x % 2 ^ k) + cntN n (x / 2 ^ k) := by
  unfold cntN
  rw [List.range_add, List.countP_append, List.countP_map]
  congr 1
  · apply List.countP_congr
    intro i hi
    rw [List.mem_range] at hi
    simp [Nat.testBit_mod_two_pow, hi]
  · apply List.countP_congr
    intro i _
    simp [Nat.testBit_div_two_pow, Nat.add_comm]

/-! The three masks' steps, byte by byte. -/
def F1 (m x : Nat) : Nat := (x / 2 &&& m) + (x &&& m)
def F2 (m x : Nat) : Nat := (x / 4 &&& m) + (x &&& m)
def F3 (m x : Nat) : Nat := (x / 16 + x) &&& m
theorem and_byte (a b c d : Nat) (hb : b < 256) (hd : d < 256) : (256 * a + b) &&& (256 * c + d) = 256 * (a &&& c) + (b &&& d) := by
  apply Nat.eq_of_testBit_eq
  intro i
  have hbd : b &&& d < 256 := Nat.lt_of_le_of_lt Nat.and_le_left hb
  rw [Nat.testBit_and, show (256 : Nat) = 2 ^ 8 from rfl, Nat.testBit_two_pow_mul_add _ (by simpa using hb), Nat.testBit_two_pow_mul_add _ (by simpa using hd), Nat.testBit_two_pow_mul_add _ (by simpa using hbd)]
  split <;> simp
theorem F1_byte (q r m : Nat) (hr : r < 256) : F1 (256 * m + 85) (256 * q + r) = 256 * F1 m q + F1 85 r := by
  unfold F1
  have h0 : (256 * q + r) / 2 = 256 * (q / 2) + (128 * (q % 2) + r / 2) := by omega
  rw [h0, and_byte _ _ _ _ (by omega) (by decide), and_byte _ _ _ _ hr (by decide)]
  have h1 : ∀ q2 : Nat, q2 < 2 → ∀ r : Nat, r < 256 → (128 * q2 + r / 2) &&& 85 = r / 2 &&& 85 := by decide +kernel
  rw [h1 (q % 2) (by omega) r hr]
  omega
theorem F2_byte (q r m : Nat) (hr : r < 256) : F2 (256 * m + 51) (256 * q + r) = 256 * F2 m q + F2 51 r := by
  unfold F2
  have h0 : (256 * q + r) / 4 = 256 * (q / 4) + (64 * (q % 4) + r / 4) := by omega
  rw [h0, and_byte _ _ _ _ (by omega) (by decide), and_byte _ _ _ _ hr (by decide)]
  have h1 : ∀ q2 : Nat, q2 < 4 → ∀ r : Nat, r < 256 → (64 * q2 + r / 4) &&& 51 = r / 4 &&& 51 := by decide +kernel
  rw [h1 (q % 4) (by omega) r hr]
  omega
theorem F3_byte (q r m : Nat) (hr : r ≤ 68) (hq : q % 16 ≤ 4) : F3 (256 * m + 15) (256 * q + r) = 256 * F3 m q + F3 15 r := by
  unfold F3
  have h0 : (256 * q + r) / 16 + (256 * q + r) = 256 * (q / 16 + q) + (16 * (q % 16) + (r / 16 + r)) := by omega
  rw [h0, and_byte _ _ _ _ (by omega) (by decide)]
  have h1 : ∀ q2 : Nat, q2 < 5 → ∀ r : Nat, r < 69 → (16 * q2 + (r / 16 + r)) &&& 15 = (r / 16 + r) &&& 15 := by decide +kernel
  rw [h1 (q % 16) (by omega) r (by omega)]
/-- One byte through the three steps. -/
theorem byte_steps : ∀ r : Nat, r < 256 → F3 15 (F2 51 (F1 85 r)) = cntN 8 r ∧ F2 51 (F1 85 r) ≤ 68 ∧ F2 51 (F1 85 r) % 16 ≤ 4 ∧ F1 85 r < 256 ∧ cntN 8 r ≤ 8 := by decide +kernel
/-- The bytes of a number below 256^n, put together again behind the three steps. -/
def M1 : Nat → Nat | 0 => 0 | n + 1 => 256 * M1 n + 85
def M2 : Nat → Nat | 0 => 0 | n + 1 => 256 * M2 n + 51
def M3 : Nat → Nat | 0 => 0 | n + 1 => 256 * M3 n + 15
def pops : Nat → Nat → Nat | 0, _ => 0 | n + 1, x => 256 * pops n (x / 256) + cntN 8 (x % 256)
theorem steps_low (n : Nat) : ∀ x, x < 256 ^ n → F2 (M2 n) (F1 (M1 n) x) % 16 ≤ 4 := by
  cases n with
  | zero => intro x h; simp [F2, M2]
  | succ n =>
    intro x h
    have hb := byte_steps (x % 256) (Nat.mod_lt _ (by decide))
    have hx : x = 256 * (x / 256) + x % 256 := by omega
    rw [hx, M1, F1_byte _ _ _ (Nat.mod_lt _ (by decide)), M2, F2_byte _ _ _ hb.2.2.2.1]
    omega
theorem steps_all (n : Nat) : ∀ x, x < 256 ^ n → F3 (M3 n) (F2 (M2 n) (F1 (M1 n) x)) = pops n x := by
  induction n with
  | zero => intro x h; simp [F3, M3, pops]
  | succ n ih =>
    intro x h
    have hb := byte_steps (x % 256) (Nat.mod_lt _ (by decide))
    have hx : x = 256 * (x / 256) + x % 256 := by omega
    have hq : x / 256 < 256 ^ n := by rw [Nat.pow_succ] at h; omega
    conv => lhs; rw [hx, M1, F1_byte _ _ _ (Nat.mod_lt _ (by decide)), M2, F2_byte _ _ _ hb.2.2.2.1, M3, F3_byte _ _ _ hb.2.1 (steps_low n _ hq)]
    rw [ih _ hq, hb.1, pops]
theorem pops8 (x : Nat) (hx : x < 18446744073709551616) : F3 1085102592571150095 (F2 3689348814741910323 (F1 6148914691236517205 x)) = pops 8 x := by
  have := steps_all 8 x (by simpa using hx)
  exact this
theorem cnt_bytes (x : Nat) : cardN x = cntN 8 (x % 256) + cntN 8 (x / 256 % 256) + cntN 8 (x / 256 / 256 % 256) + cntN 8 (x / 256 / 256 / 256 % 256) + cntN 8 (x / 256 / 256 / 256 / 256 % 256) + cntN 8 (x / 256 / 256 / 256 / 256 / 256 % 256) + cntN 8 (x / 256 / 256 / 256 / 256 / 256 / 256 % 256) + cntN 8 (x / 256 / 256 / 256 / 256 / 256 / 256 / 256 % 256) := by
  have h8 : ∀ y, cntN 8 y = cntN 8 (y % 256) := fun y => by
    have := cnt_split 8 0 y
    simpa [cntN] using this
  show cntN (8 + (8 + (8 + (8 + (8 + (8 + (8 + 8))))))) x = _
  rw [cnt_split, cnt_split, cnt_split, cnt_split, cnt_split, cnt_split, cnt_split]
  simp only [show (2 : Nat) ^ 8 = 256 from rfl]
  rw [h8 (x / 256 / 256 / 256 / 256 / 256 / 256 / 256)]
  omega
/-- The last four steps. -/
theorem ones_last (x y y1 y2 y3 : Nat) (hy : y = pops 8 x) (h1 : y1 = y + y / 256) (h2 : y2 = y1 + y1 / 65536) (h3 : y3 = y2 + y2 / 4294967296) : y3 % 128 = cardN x ∧ y ≤ 578721382704613384 := by
  rw [cnt_bytes]
  simp only [pops] at hy
  have hb := fun r => (byte_steps (r % 256) (Nat.mod_lt _ (by decide))).2.2.2.2
  have b0 := hb x
  have b1 := hb (x / 256)
  have b2 := hb (x / 256 / 256)
  have b3 := hb (x / 256 / 256 / 256)
  have b4 := hb (x / 256 / 256 / 256 / 256)
  have b5 := hb (x / 256 / 256 / 256 / 256 / 256)
  have b6 := hb (x / 256 / 256 / 256 / 256 / 256 / 256)
  have b7 := hb (x / 256 / 256 / 256 / 256 / 256 / 256 / 256)
  clear hb
  generalize cntN 8 (x % 256) = p0 at *
  generalize cntN 8 (x / 256 % 256) = p1 at *
  generalize cntN 8 (x / 256 / 256 % 256) = p2 at *
  generalize cntN 8 (x / 256 / 256 / 256 % 256) = p3 at *
  generalize cntN 8 (x / 256 / 256 / 256 / 256 % 256) = p4 at *
  generalize cntN 8 (x / 256 / 256 / 256 / 256 / 256 % 256) = p5 at *
  generalize cntN 8 (x / 256 / 256 / 256 / 256 / 256 / 256 % 256) = p6 at *
  generalize cntN 8 (x / 256 / 256 / 256 / 256 / 256 / 256 / 256 % 256) = p7 at *
  have e0 : y = p0 + 256 * (p1 + 256 * (p2 + 256 * (p3 + 256 * (p4 + 256 * (p5 + 256 * (p6 + 256 * p7)))))) := by omega
  have e1 : y / 256 = p1 + 256 * (p2 + 256 * (p3 + 256 * (p4 + 256 * (p5 + 256 * (p6 + 256 * p7))))) := by omega
  have e2 : y1 = (p0 + p1) + 256 * ((p1 + p2) + 256 * ((p2 + p3) + 256 * ((p3 + p4) + 256 * ((p4 + p5) + 256 * ((p5 + p6) + 256 * ((p6 + p7) + 256 * p7)))))) := by omega
  have e3 : y1 / 65536 = (p2 + p3) + 256 * ((p3 + p4) + 256 * ((p4 + p5) + 256 * ((p5 + p6) + 256 * ((p6 + p7) + 256 * p7)))) := by omega
  have e4 : y2 = (p0 + p1 + p2 + p3) + 256 * ((p1 + p2 + p3 + p4) + 256 * ((p2 + p3 + p4 + p5) + 256 * ((p3 + p4 + p5 + p6) + 256 * ((p4 + p5 + p6 + p7) + 256 * ((p5 + p6 + p7) + 256 * ((p6 + p7) + 256 * p7)))))) := by omega
  have e5 : y2 / 4294967296 = (p4 + p5 + p6 + p7) + 256 * ((p5 + p6 + p7) + 256 * ((p6 + p7) + 256 * p7)) := by omega
  have e6 : y3 = (p0 + p1 + p2 + p3 + p4 + p5 + p6 + p7) + 256 * ((p1 + p2 + p3 + p4 + p5 + p6 + p7) + 256 * ((p2 + p3 + p4 + p5 + p6 + p7) + 256 * ((p3 + p4 + p5 + p6 + p7) + 256 * ((p4 + p5 + p6 + p7) + 256 * ((p5 + p6 + p7) + 256 * ((p6 + p7) + 256 * p7)))))) := by omega
  refine ⟨?_, by rw [e0]; omega⟩
  rw [e6]
  omega
theorem icb0 (n : Nat) : ((n : Int) == 0) = (n == 0) := by rw [Bool.eq_iff_iff]; simp
theorem icn0 (n : Nat) : ((n : Int) != 0) = !(n == 0) := by rw [bne, icb0]
theorem cardN_le (x : Nat) : cardN x ≤ 64 := by
  rw [cardN, cntN]; exact Nat.le_trans List.countP_le_length (by simp)
/-- Does x have p? -/
def hasB (x : Nat) (p : Int) : Bool := !(x &&& bitN p == 0)
theorem hasB_eq (x : Nat) (p : Int) : hasB x p = (decide (0 ≤ p ∧ p < 64) && x.testBit p.toNat) := by
  rw [hasB]
  by_cases h : 0 ≤ p ∧ p < 64
  · obtain ⟨n, rfl⟩ : ∃ n : Nat, p = n := ⟨p.toNat, by omega⟩
    have he : bitN n = 2 ^ n := by rw [bitN, if_pos (by omega), Int.toNat_natCast]
    rw [he, Int.toNat_natCast]
    cases hb : x.testBit n with
    | true =>
      have hne : x &&& 2 ^ n ≠ 0 := fun e => by
        have := congrArg (fun y => y.testBit n) e
        simp [hb] at this
      simp [h, hne]
    | false =>
      have he : x &&& 2 ^ n = 0 := by
        apply Nat.eq_of_testBit_eq
        intro i
        rw [Nat.testBit_and, Nat.testBit_two_pow, Nat.zero_testBit]
        by_cases hi : n = i
        · subst hi; simp [hb]
        · simp [hi]
      simp [he]
  · rw [bitN, if_neg h]; simp [h]
/-- x with the members of l. -/
def withN (x : Nat) (l : List Int) : Nat := l.foldl (fun s p => s ||| bitN p) x
theorem withN_lt (l : List Int) : ∀ {x : Nat}, x < 18446744073709551616 → withN x l < 18446744073709551616 := by
  induction l with
  | nil => intro x h; exact h
  | cons p l ih => intro x h; exact ih (or_lt h (bitN_lt p))
theorem withN_snoc (x : Nat) (l : List Int) (p : Int) : withN x (l ++ [p]) = withN x l ||| bitN p := by simp [withN]
theorem withN_bit (l : List Int) (i : Nat) (hi : i < 64) : ∀ x, (withN x l).testBit i = (x.testBit i || l.contains (i : Int)) := by
  induction l with
  | nil => intro x; simp [withN]
  | cons p l ih =>
    intro x
    show (withN (x ||| bitN p) l).testBit i = _
    rw [ih, Nat.testBit_or, bitN_bit, List.contains_cons, Bool.or_assoc]
    congr 2
    by_cases h : (i : Int) = p
    · subst h; simp; omega
    · have h1 : ((i : Int) == p) = false := by simpa using h
      rw [h1]
      have h2 : decide (p = (i : Int)) = false := by simp; omega
      rw [h2]; simp
def allN (n : Int) : Nat := 2 ^ (max 0 (min n 64)).toNat - 1
theorem allN_step (k : Nat) : (2 ^ k - 1) ||| 2 ^ k = 2 ^ (k + 1) - 1 := by
  apply Nat.eq_of_testBit_eq
  intro i
  rw [Nat.testBit_or, Nat.testBit_two_pow_sub_one, Nat.testBit_two_pow_sub_one, Nat.testBit_two_pow]
  by_cases h : i < k
  · simp [h]; omega
  · by_cases h' : k = i
    · subst h'; simp
    · simp [h, h']; omega
theorem allN_lt (n : Int) : allN n < 18446744073709551616 := by
  unfold allN
  have h : 2 ^ (max 0 (min n 64)).toNat ≤ 2 ^ 64 := Nat.pow_le_pow_right (by decide) (by omega)
  rw [p64] at h
  have : 0 < 2 ^ (max 0 (min n 64)).toNat := Nat.pow_pos (by decide)
  omega
theorem allN_bit (n : Int) (i : Nat) (hi : i < 64) : (allN n).testBit i = decide ((i : Int) < n) := by
  rw [allN, Nat.testBit_two_pow_sub_one, decide_eq_decide]; omega

/-- Without its least member. -/
theorem low_split {x : Nat} (hx : x < 18446744073709551616) (h0 : x ≠ 0) : Lib.ctz 64 x < 64 ∧ x.testBit (Lib.ctz 64 x) = true ∧ (∀ i, i < Lib.ctz 64 x → x.testBit i = false) ∧ ∀ i, (x &&& (x - 1)).testBit i = (x.testBit i && !(i == Lib.ctz 64 x)) := by
  obtain ⟨m, hm, hk⟩ := Lib.ctzFrom_spec 64 x (by omega) (by rw [p64]; exact hx)
  have hz : Lib.ctz 64 x = Lib.ctzFrom 64 x := by simp [Lib.ctz, h0]
  rw [hz]
  generalize hkk : Lib.ctzFrom 64 x = k at *
  have hp : 0 < 2 ^ k := Nat.pow_pos (by decide)
  have b1 : ∀ i, x.testBit i = if i < k then false else (2 * m + 1).testBit (i - k) := fun i => by
    have := Nat.testBit_two_pow_mul_add (a := 2 * m + 1) (b := 0) (i := k) (by omega) i
    rw [Nat.add_zero] at this
    rw [hm, this]; simp
  have b2 : ∀ i, (x - 1).testBit i = if i < k then (2 ^ k - 1).testBit i else (2 * m).testBit (i - k) := fun i => by
    have := Nat.testBit_two_pow_mul_add (a := 2 * m) (b := 2 ^ k - 1) (i := k) (by omega) i
    rw [← this]
    congr 1
    rw [hm, Nat.mul_add]; omega
  refine ⟨hk, by rw [b1]; simp, fun i hi => by rw [b1, if_pos hi], fun i => ?_⟩
  rw [Nat.testBit_and, b1, b2]
  by_cases hi : i < k
  · simp [hi]
  · rw [if_neg hi, if_neg hi]
    by_cases he : i = k
    · subst he; simp
    · obtain ⟨d, hd⟩ : ∃ d, i - k = d + 1 := ⟨i - k - 1, by omega⟩
      rw [hd, Nat.testBit_succ, Nat.testBit_succ, show (2 * m + 1) / 2 = m from by omega, show 2 * m / 2 = m from by omega]
      simp [he]
theorem memN_low {x : Nat} (hx : x < 18446744073709551616) (h0 : x ≠ 0) : memN x = Lib.ctz 64 x :: memN (x &&& (x - 1)) := by
  obtain ⟨hk, h1, h2, h3⟩ := low_split hx h0
  generalize Lib.ctz 64 x = k at *
  have hr : List.range 64 = List.range k ++ k :: (List.range (63 - k)).map (fun i => k + 1 + i) := by
    have e : (64 : Nat) = k + ((63 - k) + 1) := by omega
    rw [show List.range 64 = List.range (k + ((63 - k) + 1)) from by rw [← e], List.range_add, List.range_succ_eq_map, List.map_cons, List.map_map]
    congr 2
    apply List.map_congr_left
    intro i _
    simp; omega
  have f1 : (List.range k).filter (fun i => x.testBit i) = [] := List.filter_eq_nil_iff.2 fun i hi => by rw [h2 i (List.mem_range.1 hi)]; simp
  have f2 : (List.range k).filter (fun i => (x &&& (x - 1)).testBit i) = [] := List.filter_eq_nil_iff.2 fun i hi => by rw [h3, h2 i (List.mem_range.1 hi)]; simp
  rw [memN, memN, hr, List.filter_append, List.filter_append, f1, f2, List.nil_append, List.nil_append, List.filter_cons, List.filter_cons, if_pos h1, if_neg (by rw [h3]; simp)]
  congr 1
  apply List.filter_congr
  intro i hi
  obtain ⟨d, _, rfl⟩ := List.mem_map.1 hi
  rw [h3]
  have : (k + 1 + d == k) = false := by simp; omega
  rw [this]; simp
theorem memN_zero : memN 0 = [] := by rw [memN, List.filter_eq_nil_iff]; intro i _; simp
theorem memN_lt (x : Nat) : ∀ i ∈ memN x, i < 64 := fun i hi => List.mem_range.1 (List.mem_filter.1 hi).1
end Go.Proofs.YteeeikkapnchlaaDoor
