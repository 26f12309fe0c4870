/- text: numerals and pieces, in plain Lean -/
import Derived.Test.YtpkknhhohbobaaaGreatDoorLib
import Derived.Lib.ItoaNum
import Derived.Lib.ParseIntB
import Derived.Lib.Split
import Derived.Lib.Join
namespace Go.Proofs.YtpkknhhohbobaaaGreatDoor
set_option linter.unusedSimpArgs false
set_option linter.unusedVariables false
open Go.RowKit
/-- A word: its bytes. -/
abbrev W8 := List UInt8
theorem num_big {n : Nat} (h : ¬ n < 10) : Lib.decDigits n = Lib.decDigits (n / 10) ++ [UInt8.ofNat (48 + n % 10)] := by
  rw [Lib.decDigits, dif_neg h]
theorem ofNat_toNat {k : Nat} (h : k < 256) : (UInt8.ofNat k).toNat = k := by simp [UInt8.toNat_ofNat, Nat.mod_eq_of_lt h]
theorem num_digit (n : Nat) : ∀ b ∈ Lib.decDigits n, 48 ≤ b.toNat ∧ b.toNat ≤ 57 := by
  induction n using Nat.strongRecOn with
  | ind n ih =>
    intro b hb
    by_cases h : n < 10
    · rw [Lib.decDigits_one h] at hb
      obtain rfl := List.mem_singleton.1 hb
      rw [ofNat_toNat (by omega)]
      omega
    · rw [num_big h] at hb
      rcases List.mem_append.1 hb with hb | hb
      · exact ih (n / 10) (by omega) b hb
      · obtain rfl := List.mem_singleton.1 hb
        rw [ofNat_toNat (by omega)]
        omega
theorem num_ne (n : Nat) : Lib.decDigits n ≠ [] := by
  intro h
  have := Lib.decDigits_length n
  rw [h] at this
  have h2 := Lib.nDigits_pos n
  simp at this
  omega
def dV (a : Nat) (l : W8) : Nat := l.foldl (fun a b => a * 10 + (b.toNat - 48)) a
theorem dV_snoc (a : Nat) (l : W8) (b : UInt8) : dV a (l ++ [b]) = dV a l * 10 + (b.toNat - 48) := by simp [dV, List.foldl_append]
theorem dV_ge (l : W8) : ∀ a, a ≤ dV a l := by
  induction l with
  | nil => intro a; exact Nat.le_refl _
  | cons b l ih => intro a; exact Nat.le_trans (by omega) (ih (a * 10 + (b.toNat - 48)))
theorem dV_num (n : Nat) : dV 0 (Lib.decDigits n) = n := by
  induction n using Nat.strongRecOn with
  | ind n ih =>
    by_cases h : n < 10
    · rw [Lib.decDigits_one h]
      show 0 * 10 + ((UInt8.ofNat (48 + n)).toNat - 48) = n
      rw [ofNat_toNat (by omega)]
      omega
    · rw [num_big h, dV_snoc, ih (n / 10) (by omega), ofNat_toNat (by omega)]
      omega
theorem num_inj {a b : Nat} (h : Lib.decDigits a = Lib.decDigits b) : a = b := by rw [← dV_num a, h, dV_num]
theorem parse_dig : ∀ (l : W8) (a : Nat), (∀ b ∈ l, 48 ≤ b.toNat ∧ b.toNat ≤ 57) → dV a l ≤ 18446744073709551615 → Lib.parseUintM 18446744073709551615 a l = .ok (dV a l)
  | [], a, _, _ => rfl
  | c :: r, a, h, hv => by
    have hc := h c (List.mem_cons_self ..)
    have h1 : a * 10 + (c.toNat - 48) ≤ dV (a * 10 + (c.toNat - 48)) r := dV_ge r _
    have h2 : dV a (c :: r) = dV (a * 10 + (c.toNat - 48)) r := rfl
    rw [h2] at hv
    unfold Lib.parseUintM
    rw [if_pos hc, if_neg (by omega), if_neg (by omega), h2]
    exact parse_dig r _ (fun b hb => h b (List.mem_cons_of_mem _ hb)) hv
theorem parse_num {v : Nat} (h : v ≤ 18446744073709551615) : Lib.parseUintB 64 (Lib.decDigits v) = .ok v := by
  unfold Lib.parseUintB
  rw [if_neg (num_ne v)]
  have := parse_dig (Lib.decDigits v) 0 (num_digit v) (by rw [dV_num]; exact h)
  rw [dV_num] at this
  exact this
/-- The number that a word is the numeral of, up to a bound. -/
def valN (s : W8) (most : Nat) : Option Nat := if Lib.decDigits (dV 0 s) = s ∧ dV 0 s ≤ most then some (dV 0 s) else none
theorem valN_some {s : W8} {most v : Nat} : valN s most = some v ↔ Lib.decDigits v = s ∧ v ≤ most := by
  unfold valN
  constructor
  · intro h
    split at h
    · rename_i h1
      injection h with h
      subst h
      exact h1
    · cases h
  · rintro ⟨h1, h2⟩
    subst h1
    rw [dV_num, if_pos ⟨rfl, h2⟩]
theorem valN_ok {s : W8} {most v : Nat} (hm : most ≤ 18446744073709551615) (h : Lib.parseUintB 64 s = .ok v) : valN s most = if Lib.decDigits v = s ∧ v ≤ most then some v else none := by
  split
  · rename_i h1
    exact valN_some.2 h1
  · rename_i h1
    cases e : valN s most with
    | none => rfl
    | some u =>
      obtain ⟨h2, h3⟩ := valN_some.1 e
      have := parse_num (v := u) (by omega)
      rw [h2, h] at this
      injection this with this
      subst this
      exact absurd ⟨h2, h3⟩ h1
theorem valN_bad {s : W8} {most : Nat} (hm : most ≤ 18446744073709551615) (h : ∀ v, Lib.parseUintB 64 s ≠ .ok v) : valN s most = none := by
  cases e : valN s most with
  | none => rfl
  | some u =>
    obtain ⟨h2, h3⟩ := valN_some.1 e
    have := parse_num (v := u) (by omega)
    rw [h2] at this
    exact absurd this (h u)
theorem valN_num {v most : Nat} (h : v ≤ most) : valN (Lib.decDigits v) most = some v := valN_some.2 ⟨rfl, h⟩
theorem valN_nil (most : Nat) : valN [] most = none := by
  cases e : valN [] most with
  | none => rfl
  | some u => exact absurd (valN_some.1 e).1 (num_ne u)
/-- The reference's loop. -/
def goV : Nat → W8 → Option Nat
  | n, [] => some n
  | n, c :: r => if c.toNat < 48 ∨ 57 < c.toNat then none else if (18446744073709551615 - (c.toNat - 48)) / 10 < n then none else goV (n * 10 + (c.toNat - 48)) r
theorem goV_dig : ∀ (l : W8) (a : Nat), (∀ b ∈ l, 48 ≤ b.toNat ∧ b.toNat ≤ 57) → dV a l ≤ 18446744073709551615 → goV a l = some (dV a l)
  | [], a, _, _ => rfl
  | c :: r, a, h, hv => by
    have hc := h c (List.mem_cons_self ..)
    have h1 : a * 10 + (c.toNat - 48) ≤ dV (a * 10 + (c.toNat - 48)) r := dV_ge r _
    have h2 : dV a (c :: r) = dV (a * 10 + (c.toNat - 48)) r := rfl
    rw [h2] at hv
    unfold goV
    rw [if_neg (by omega), if_neg (by omega), h2]
    exact goV_dig r _ (fun b hb => h b (List.mem_cons_of_mem _ hb)) hv
theorem goV_num {v : Nat} (h : v ≤ 18446744073709551615) : goV 0 (Lib.decDigits v) = some v := by
  have := goV_dig (Lib.decDigits v) 0 (num_digit v) (by rw [dV_num]; exact h)
  rwa [dV_num] at this
theorem goV_lt : ∀ (l : W8) (a n : Nat), a ≤ 18446744073709551615 → goV a l = some n → n ≤ 18446744073709551615
  | [], a, n, h, e => by injection e with e; omega
  | c :: r, a, n, h, e => by
    unfold goV at e
    split at e
    · cases e
    · split at e
      · cases e
      · exact goV_lt r _ n (by omega) e
/-- What the reference's value answers. -/
def refV (s : W8) (most : Nat) : Nat × Bool := match goV 0 s with
  | none => (0, false)
  | some n => (n, decide (0 < s.length) && decide (n ≤ most) && decide (Lib.decDigits n = s))
theorem refV_some {s : W8} {most v : Nat} (hm : most ≤ 18446744073709551615) (h : valN s most = some v) : refV s most = (v, true) := by
  obtain ⟨h1, h2⟩ := valN_some.1 h
  subst h1
  unfold refV
  rw [goV_num (by omega)]
  have := num_ne v
  simp [h2, List.length_pos_iff, this]
theorem refV_none {s : W8} {most : Nat} (hm : most ≤ 18446744073709551615) (h : valN s most = none) : (refV s most).2 = false := by
  unfold refV
  cases e : goV 0 s with
  | none => rfl
  | some n =>
    show (decide (0 < s.length) && decide (n ≤ most) && decide (Lib.decDigits n = s)) = false
    rw [Bool.eq_false_iff]
    intro hc
    rw [Bool.and_eq_true, Bool.and_eq_true, decide_eq_true_eq, decide_eq_true_eq, decide_eq_true_eq] at hc
    rw [valN_some.2 ⟨hc.2, hc.1.2⟩] at h
    cases h
/-- The pieces between bytes of a kind. -/
def pcs (c : UInt8) : W8 → List W8
  | [] => [[]]
  | x :: l => if x = c then [] :: pcs c l else match pcs c l with
    | [] => [[x]]
    | p :: r => (x :: p) :: r
section
variable {c x : UInt8} {l r p : W8} {ws : List W8}
theorem pcs_ne (c : UInt8) (l : W8) : pcs c l ≠ [] := by
  cases l with
  | nil => intro h; cases h
  | cons x l =>
    unfold pcs
    split
    · intro h; cases h
    · split <;> (intro h; cases h)
theorem pcs_noc (h : c ∉ l) : pcs c l = [l] := by
  induction l with
  | nil => rfl
  | cons x l ih =>
    rw [List.mem_cons, not_or] at h
    unfold pcs
    rw [if_neg (fun e => h.1 e.symm), ih h.2]
theorem pcs_app (h : c ∉ l) : pcs c (l ++ c :: r) = l :: pcs c r := by
  induction l with
  | nil => show pcs c (c :: r) = _; rw [pcs, if_pos rfl]
  | cons x l ih =>
    rw [List.mem_cons, not_or] at h
    rw [List.cons_append, pcs, if_neg (fun e => h.1 e.symm), ih h.2]
theorem cut_at (h : c ∈ l) : ∃ a r, l = a ++ c :: r ∧ c ∉ a := by
  induction l with
  | nil => cases h
  | cons x l ih =>
    by_cases e : x = c
    · subst e; exact ⟨[], l, rfl, by simp⟩
    · obtain ⟨a, r, h1, h2⟩ := ih (by rcases List.mem_cons.1 h with h | h; exact absurd h.symm e; exact h)
      exact ⟨x :: a, r, by rw [h1]; rfl, by simp [h2]; exact fun h => e h.symm⟩
theorem pcs_mem : ∀ (n : Nat) (l : W8), l.length ≤ n → ∀ p ∈ pcs c l, c ∉ p
  | n, l, hn, p, hp => by
    by_cases h : c ∈ l
    · obtain ⟨a, r, rfl, ha⟩ := cut_at h
      rw [pcs_app ha] at hp
      rcases List.mem_cons.1 hp with rfl | hp
      · exact ha
      · cases n with
        | zero => simp at hn
        | succ n => exact pcs_mem n r (by simp at hn; omega) p hp
    · rw [pcs_noc h] at hp
      obtain rfl := List.mem_singleton.1 hp
      exact h
theorem join_cons2 (w : W8) (ws : List W8) (hw : ws ≠ []) (s : W8) : Lib.join (w :: ws) s = w ++ s ++ Lib.join ws s := by
  cases ws with
  | nil => exact absurd rfl hw
  | cons v ws => simp [Lib.join, List.intercalate, List.intersperse]
theorem pcs_join : ∀ (n : Nat) (l : W8), l.length ≤ n → Lib.join (pcs c l) [c] = l
  | n, l, hn => by
    by_cases h : c ∈ l
    · obtain ⟨a, r, rfl, ha⟩ := cut_at h
      cases n with
      | zero => simp at hn
      | succ n => rw [pcs_app ha, join_cons2 _ _ (pcs_ne _ _), pcs_join n r (by simp at hn; omega)]; simp
    · rw [pcs_noc h, Lib.join_one]
theorem pcs_of_join : ∀ (ws : List W8), ws ≠ [] → (∀ w ∈ ws, c ∉ w) → pcs c (Lib.join ws [c]) = ws
  | [], h, _ => absurd rfl h
  | [w], _, h => by rw [Lib.join_one, pcs_noc (h w (List.mem_singleton.2 rfl))]
  | w :: v :: ws, _, h => by
    rw [join_cons2 _ _ (by simp), List.append_assoc, List.singleton_append, pcs_app (h w (by simp)), pcs_of_join (v :: ws) (by simp) (fun u hu => h u (List.mem_cons_of_mem _ hu))]
theorem pcs_snoc : ∀ (l : W8) (x : UInt8), pcs c (l ++ [x]) = if x = c then pcs c l ++ [[]] else (pcs c l).dropLast ++ [(pcs c l).getLastD [] ++ [x]]
  | [], x => by
    show pcs c [x] = _
    by_cases h : x = c
    · rw [if_pos h]; simp [pcs, h]
    · rw [if_neg h]; simp [pcs, h]
  | y :: l, x => by
    have ih := pcs_snoc l x
    rw [List.cons_append, pcs, ih]
    by_cases h : x = c
    · rw [if_pos h, if_pos h]
      by_cases hy : y = c
      · rw [if_pos hy, pcs, if_pos hy]; rfl
      · rw [if_neg hy, pcs, if_neg hy]
        cases e : pcs c l with
        | nil => exact absurd e (pcs_ne _ _)
        | cons p r => rfl
    · rw [if_neg h, if_neg h]
      by_cases hy : y = c
      · rw [if_pos hy, pcs, if_pos hy]
        cases e : pcs c l with
        | nil => exact absurd e (pcs_ne _ _)
        | cons p r => simp
      · rw [if_neg hy, pcs, if_neg hy]
        cases e : pcs c l with
        | nil => exact absurd e (pcs_ne _ _)
        | cons p r => cases r <;> simp
theorem pre_one (c b : UInt8) (l : W8) : [c].isPrefixOf (b :: l) = (c == b) := by simp [List.isPrefixOf]
theorem index_none (h : c ∉ l) : Lib.index l [c] = -1 := by
  induction l with
  | nil => rfl
  | cons b l ih =>
    rw [List.mem_cons, not_or] at h
    unfold Lib.index
    rw [pre_one, if_neg (by simpa using h.1), ih h.2]
    rfl
theorem index_some (h : c ∉ l) : Lib.index (l ++ c :: r) [c] = l.length := by
  induction l with
  | nil => simp [Lib.index, List.isPrefixOf]
  | cons b l ih =>
    rw [List.mem_cons, not_or] at h
    rw [List.cons_append, Lib.index, pre_one, if_neg (by simpa using h.1), ih h.2, if_neg (by simp)]
    simp
theorem split_pcs_aux : ∀ (fuel : Nat) (l : W8), l.length < fuel → Lib.splitK [c] 0 (Lib.countFrom [c] fuel l) l = pcs c l
  | 0, l, h => absurd h (Nat.not_lt_zero _)
  | fuel + 1, l, h => by
    by_cases hc : c ∈ l
    · obtain ⟨a, r, rfl, ha⟩ := cut_at hc
      have hd : (a ++ c :: r).drop (a.length + 1) = r := by
        rw [show a ++ c :: r = (a ++ [c]) ++ r by simp, List.drop_left' (by simp)]
      have ht : (a ++ c :: r).take (a.length + 0) = a := by simp
      rw [Lib.countFrom, index_some ha, if_neg (by simp), Nat.add_comm 1, Lib.splitK, index_some ha, if_neg (by simp), pcs_app ha]
      simp only [Int.toNat_natCast, List.length_singleton, hd, ht]
      rw [split_pcs_aux fuel r (by simp at h; omega)]
    · rw [Lib.countFrom, index_none hc, if_pos (by decide), Lib.splitK, pcs_noc hc]
theorem split_pcs (c : UInt8) (l : W8) : Lib.split l [c] = pcs c l := split_pcs_aux _ l (Nat.lt_succ_self _)
theorem cut_none (h : c ∉ l) : Lib.cut l [c] = (l, [], false) := by unfold Lib.cut; rw [index_none h, if_neg (by decide)]
theorem cut_some (h : c ∉ l) : Lib.cut (l ++ c :: r) [c] = (l, r, true) := by
  unfold Lib.cut
  rw [index_some h, if_pos (by omega)]
  have hd : (l ++ c :: r).drop (l.length + 1) = r := by
    rw [show l ++ c :: r = (l ++ [c]) ++ r by simp, List.drop_left' (by simp)]
  simp only [Int.toNat_natCast, List.length_singleton, hd]
  simp
end
end Go.Proofs.YtpkknhhohbobaaaGreatDoor
