/- log, plain laws: views, records, stable records as bytes, and back -/
import Derived.Test.YtdfnpaaejjediaaNumC
namespace Go.Proofs.Ytdfnpaaejjediaa
open Go.RowKit

/-- A view. -/
structure Vw where
  num : Nat
  ce : Nat
  cr : Int
  mem : Nat
def Vw.zero : Vw := ⟨0, 0, 0, 0⟩
structure Rc where
  last : Vw
  pend : List Vw
def Vw.Wf (v : Vw) : Prop := v.num < 18446744073709551616 ∧ v.ce < 18446744073709551616 ∧ (-9223372036854775808 ≤ v.cr ∧ v.cr ≤ 9223372036854775807) ∧ v.mem < 18446744073709551616
def Rc.Wf (r : Rc) : Prop := r.last.Wf ∧ ∀ v ∈ r.pend, v.Wf

theorem beL_len (v : Int) (N k : Nat) : (beL v N k).length = k := by simp [beL]
theorem beL_mem (v : Int) (N k : Nat) : ∀ c ∈ beL v N k, 0 ≤ c ∧ c < 256 := by
  intro c hc
  obtain ⟨i, _, rfl⟩ := List.mem_map.1 hc
  omega
theorem valI_beL (v N : Nat) : ∀ k, k ≤ N → valI (beL v N k) = ((v / 256 ^ (N - k) % 256 ^ k : Nat) : Int) := by
  intro k
  induction k with
  | zero => intro _; simp [valI, beL, Nat.mod_one]
  | succ k ih =>
    intro hk
    rw [beL_succ, valI_snoc, ih (by omega), show N - 1 - k = N - (k + 1) from by omega, pow8]
    have e : 256 ^ (N - k) = 256 ^ (N - (k + 1)) * 256 := by rw [← Nat.pow_succ]; congr 1; omega
    rw [e, ← Nat.div_div_eq_div_mul, show ((v : Int) / 256 ^ (N - (k + 1)) % 256) = ((v / 256 ^ (N - (k + 1)) % 256 : Nat) : Int) from by simp]
    generalize v / 256 ^ (N - (k + 1)) = u
    have := @Nat.mod_mul 256 (256 ^ k) u
    rw [Nat.pow_succ, Nat.mul_comm (256 ^ k) 256, this]
    omega
theorem strOfNums_bI {l : List Int} (h : ∀ c ∈ l, 0 ≤ c ∧ c < 256) : bI (strOfNums l) = l := by
  rw [bI, bL_strOfNums, List.map_map]
  refine (List.map_congr_left (g := id) fun c hc => ?_).trans (List.map_id _)
  have := h c hc
  simp only [Function.comp, UInt8.toNat_ofNat']
  simp; omega
theorem valI_be (v n : Nat) (h : v < 256 ^ n) : valI (beL v n n) = v := by
  rw [valI_beL v n n (Nat.le_refl _), Nat.sub_self]
  simp [Nat.mod_eq_of_lt h]
theorem valI_foldl (l : List Int) : ∀ a, l.foldl (fun v c => v * 256 + c) a = a * 256 ^ l.length + valI l := by
  induction l with
  | nil => intro a; simp [valI]
  | cons c l ih =>
    intro a
    rw [List.foldl_cons, ih]
    have : valI (c :: l) = (0 * 256 + c) * 256 ^ l.length + valI l := by rw [valI, List.foldl_cons, ih]
    rw [this, List.length_cons, Int.pow_succ]
    have : (a * 256 + c) * 256 ^ l.length = a * (256 ^ l.length * 256) + c * 256 ^ l.length := by
      rw [Int.add_mul, Int.mul_assoc, Int.mul_comm 256 (256 ^ l.length)]
    rw [this, Int.zero_mul, Int.zero_add]
    omega
theorem valI_cons (c : Int) (l : List Int) : valI (c :: l) = c * 256 ^ l.length + valI l := by
  rw [valI, List.foldl_cons, valI_foldl]; simp
theorem valI_lt (l : List Int) (h : ∀ c ∈ l, 0 ≤ c ∧ c < 256) : 0 ≤ valI l ∧ valI l < 256 ^ l.length := by
  have := valI_bd l h l.length (Nat.le_refl _)
  rwa [List.take_of_length_le (Nat.le_refl _)] at this
theorem refL_add (a v : Int) (m : Nat) : ∀ k, k ≤ m → refL (a * 256 ^ m + v) k = refL v k := by
  intro k
  induction k with
  | zero => intro _; rfl
  | succ k ih =>
    intro hk
    rw [refL, refL, ih (by omega)]
    congr 1
    obtain ⟨d, rfl⟩ : ∃ d, m = k + 1 + d := ⟨m - (k + 1), by omega⟩
    have e : a * (256 : Int) ^ (k + 1 + d) + v = v + 256 ^ k * (256 * (a * 256 ^ d)) := by
      rw [Int.pow_add, Int.pow_succ]
      have : a * ((256 : Int) ^ k * 256 * 256 ^ d) = 256 ^ k * (256 * (a * 256 ^ d)) := by
        rw [← Int.mul_assoc (256 ^ k), Int.mul_left_comm]
      rw [this]; omega
    rw [e, Int.add_mul_ediv_left _ _ (Int.ne_of_gt (Int.pow_pos (by decide)))]
    omega
theorem be_valI (l : List Int) (h : ∀ c ∈ l, 0 ≤ c ∧ c < 256) : beL (valI l) l.length l.length = l := by
  rw [← refL_eq]
  induction l with
  | nil => rfl
  | cons c l ih =>
    have hc := h c (List.mem_cons_self ..)
    have hl := fun x hx => h x (List.mem_cons_of_mem c hx)
    obtain ⟨g1, g2⟩ := valI_lt l hl
    rw [List.length_cons, refL, valI_cons, refL_add _ _ _ _ (Nat.le_refl _), ih hl]
    congr 1
    rw [Int.add_comm, Int.add_mul_ediv_right _ _ (Int.ne_of_gt (Int.pow_pos (by decide))), Int.ediv_eq_zero_of_lt g1 g2]
    omega

/-- The number of n bytes at a place. -/
def nv (L : List Int) (p n : Nat) : Int := valI ((L.drop p).take n)
def ByL (L : List Int) : Prop := ∀ c ∈ L, 0 ≤ c ∧ c < 256
theorem ByL.piece {L : List Int} (h : ByL L) (p n : Nat) : ByL ((L.drop p).take n) := fun c hc => h c (List.mem_of_mem_drop (List.mem_of_mem_take hc))
theorem nv_nonneg {L : List Int} (h : ByL L) (p n : Nat) : 0 ≤ nv L p n := (valI_lt _ (h.piece p n)).1
theorem nv_lt {L : List Int} (h : ByL L) (p n : Nat) : nv L p n < 256 ^ n := by
  refine Int.lt_of_lt_of_le (valI_lt _ (h.piece p n)).2 ?_
  have hl : ((L.drop p).take n).length ≤ n := List.length_take_le _ _
  have : (256 : Nat) ^ ((L.drop p).take n).length ≤ 256 ^ n := Nat.pow_le_pow_right (by decide) hl
  have e : ∀ m : Nat, ((256 ^ m : Nat) : Int) = (256 : Int) ^ m := fun m => Int.natCast_pow 256 m
  rw [← e, ← e]
  exact Int.ofNat_le.2 this
theorem nv_extract (s : ByteArray) (p n : Nat) : valI (bI (s.extract p (p + n))) = nv (bI s) p n := by
  rw [bI_extract, nv, List.drop_take, Nat.add_sub_cancel_left]
theorem nv_app (A B : List Int) (p n : Nat) : nv (A ++ B) (A.length + p) n = nv B p n := by
  rw [nv, nv, List.drop_append, List.drop_of_length_le (by omega), List.nil_append, Nat.add_sub_cancel_left]
theorem nv_app' {A : List Int} (B : List Int) (p n k : Nat) (hp : p = A.length + k) : nv (A ++ B) p n = nv B k n := by subst hp; exact nv_app A B k n
theorem nv_be (v n : Nat) (h : v < 256 ^ n) (B : List Int) : nv (beL v n n ++ B) 0 n = v := by
  rw [nv, List.drop_zero, List.take_append_of_le_length (by rw [beL_len]; exact Nat.le_refl _), List.take_of_length_le (by rw [beL_len]; exact Nat.le_refl _), valI_be v n h]
theorem be_nv {L : List Int} (h : ByL L) (p n : Nat) (hp : p + n ≤ L.length) : beL (nv L p n) n n = (L.drop p).take n := by
  have hl : ((L.drop p).take n).length = n := by rw [List.length_take, List.length_drop]; omega
  have := be_valI _ (h.piece p n)
  rw [hl] at this
  exact this
theorem take_split (L : List Int) (p a b : Nat) : (L.drop p).take (a + b) = (L.drop p).take a ++ (L.drop (p + a)).take b := by
  rw [← List.drop_drop, List.take_add]
theorem take_split' (L : List Int) (p a b q m : Nat) (hq : q = p + a) (hm : m = a + b) : (L.drop p).take m = (L.drop p).take a ++ (L.drop q).take b := by
  subst hq; subst hm; exact take_split L p a b

/-- A view's bytes. -/
def vwB (v : Vw) : List Int := beL v.num 8 8 ++ (beL v.ce 8 8 ++ (beL v.cr 1 1 ++ beL v.mem 8 8))
theorem vwB_len (v : Vw) : (vwB v).length = 25 := by simp [vwB, beL_len]
def Vw.ok (v : Vw) : Bool := decide (0 ≤ v.cr ∧ v.cr < 64)
def recE (r : Rc) : Int := if r.last.ok = false then 1 else if 32 < r.pend.length then 3 else if r.pend.all Vw.ok then 0 else 1
def recB (r : Rc) : List Int := vwB r.last ++ (beL r.pend.length 1 1 ++ r.pend.flatMap vwB)
theorem flatB_len (l : List Vw) : (l.flatMap vwB).length = l.length * 25 := by
  induction l with
  | nil => rfl
  | cons v l ih => rw [List.flatMap_cons, List.length_append, ih, vwB_len, List.length_cons]; omega
theorem recB_len (r : Rc) : (recB r).length = 26 + 25 * r.pend.length := by
  rw [recB, List.length_append, List.length_append, vwB_len, beL_len, flatB_len]; omega
theorem ByL.append {A B : List Int} (h : ByL A) (k : ByL B) : ByL (A ++ B) := fun c hc => (List.mem_append.1 hc).elim (h c) (k c)
theorem vwB_by (v : Vw) : ByL (vwB v) := ByL.append (beL_mem _ _ _) (ByL.append (beL_mem _ _ _) (ByL.append (beL_mem _ _ _) (beL_mem _ _ _)))
theorem recB_by (r : Rc) : ByL (recB r) := ByL.append (vwB_by _) (ByL.append (beL_mem _ _ _) (fun c hc => by
  obtain ⟨v, _, hv⟩ := List.mem_flatMap.1 hc
  exact vwB_by v c hv))

/-- The view at a place of bytes; what is wrong there. -/
def vwAt (L : List Int) (p : Nat) : Vw := ⟨(nv L p 8).toNat, (nv L (p + 8) 8).toNat, nv L (p + 16) 1, (nv L (p + 17) 8).toNat⟩
def vwE (L : List Int) (p : Nat) : Int := if L.length < p + 17 then 2 else if 63 < nv L (p + 16) 1 then 1 else if L.length < p + 25 then 2 else 0
def vwsE (L : List Int) : Nat → Nat → Int
  | _, 0 => 0
  | p, n + 1 => if vwE L p = 0 then vwsE L (p + 25) n else vwE L p
def rcN (L : List Int) (p : Nat) : Nat := (nv L (p + 25) 1).toNat
def rcAt (L : List Int) (p : Nat) : Rc := ⟨vwAt L p, (List.range (rcN L p)).map fun i => vwAt L (p + 26 + 25 * i)⟩
def rcE (L : List Int) (p : Nat) : Int := if vwE L p = 0 then (if L.length < p + 26 then 2 else if 32 < rcN L p then 3 else vwsE L (p + 26) (rcN L p)) else vwE L p
def rcEnd (L : List Int) (p : Nat) : Nat := p + 26 + 25 * rcN L p
theorem vwE_zero {L : List Int} {p : Nat} : vwE L p = 0 ↔ p + 25 ≤ L.length ∧ nv L (p + 16) 1 ≤ 63 := by
  unfold vwE
  split
  · constructor
    · intro h; cases h
    · omega
  · split
    · constructor
      · intro h; cases h
      · omega
    · split
      · constructor
        · intro h; cases h
        · omega
      · constructor
        · intro _; omega
        · intro _; rfl
theorem vwsE_zero {L : List Int} : ∀ {n p : Nat}, vwsE L p n = 0 ↔ ∀ i, i < n → vwE L (p + 25 * i) = 0 := by
  intro n
  induction n with
  | zero => intro p; exact ⟨fun _ i hi => absurd hi (Nat.not_lt_zero _), fun _ => rfl⟩
  | succ n ih =>
    intro p
    rw [vwsE]
    by_cases h : vwE L p = 0
    · rw [if_pos h, ih]
      constructor
      · intro g i hi
        cases i with
        | zero => simpa using h
        | succ i => rw [show p + 25 * (i + 1) = p + 25 + 25 * i from by omega]; exact g i (by omega)
      · intro g i hi
        rw [show p + 25 + 25 * i = p + 25 * (i + 1) from by omega]; exact g (i + 1) (by omega)
    · rw [if_neg h]
      exact ⟨fun g => absurd g h, fun g => absurd (by simpa using g 0 (by omega)) h⟩
theorem rcE_zero {L : List Int} {p : Nat} : rcE L p = 0 ↔ vwE L p = 0 ∧ p + 26 ≤ L.length ∧ rcN L p ≤ 32 ∧ ∀ i, i < rcN L p → vwE L (p + 26 + 25 * i) = 0 := by
  unfold rcE
  by_cases h : vwE L p = 0
  · rw [if_pos h]
    by_cases h1 : L.length < p + 26
    · rw [if_pos h1]
      exact ⟨(fun h => by cases h), fun ⟨_, h, _⟩ => by omega⟩
    · rw [if_neg h1]
      by_cases h2 : 32 < rcN L p
      · rw [if_pos h2]
        exact ⟨(fun h => by cases h), fun ⟨_, _, h, _⟩ => by omega⟩
      · rw [if_neg h2, vwsE_zero]
        exact ⟨fun g => ⟨h, by omega, by omega, g⟩, fun g => g.2.2.2⟩
  · rw [if_neg h]
    exact ⟨fun g => absurd g h, fun g => absurd g.1 h⟩
theorem rcEnd_le {L : List Int} {p : Nat} (h : rcE L p = 0) : rcEnd L p ≤ L.length := by
  obtain ⟨_, h2, _, h4⟩ := rcE_zero.1 h
  unfold rcEnd
  by_cases h0 : rcN L p = 0
  · omega
  · have := (vwE_zero.1 (h4 (rcN L p - 1) (by omega))).1
    omega

/-! what was printed is parsed -/
theorem nvb (A : List Int) (v n : Nat) (B : List Int) (p : Nat) (hp : p = A.length) (hv : v < 256 ^ n) : nv (A ++ (beL v n n ++ B)) p n = v := by
  rw [nv_app' _ p n 0 (by omega), nv_be v n hv]
theorem vwAt_vwB (A : List Int) (v : Vw) (B : List Int) (hw : v.Wf) (ho : v.ok = true) (p : Nat) (hp : p = A.length) : vwAt (A ++ (vwB v ++ B)) p = v ∧ vwE (A ++ (vwB v ++ B)) p = 0 := by
  obtain ⟨num, ce, cr, mem⟩ := v
  obtain ⟨h1, h2, _, h4⟩ := hw
  simp only at h1 h2 h4
  have ho' : 0 ≤ cr ∧ cr < 64 := by simpa [Vw.ok] using ho
  obtain ⟨c, rfl⟩ : ∃ c : Nat, cr = c := ⟨cr.toNat, by omega⟩
  have e1 : nv (A ++ (vwB ⟨num, ce, c, mem⟩ ++ B)) p 8 = num := by
    simp only [vwB, List.append_assoc]
    exact nvb A num 8 _ p hp (by omega)
  have e2 : nv (A ++ (vwB ⟨num, ce, c, mem⟩ ++ B)) (p + 8) 8 = ce := by
    simp only [vwB, List.append_assoc]
    rw [← List.append_assoc]
    exact nvb _ ce 8 _ _ (by rw [List.length_append, beL_len]; omega) (by omega)
  have e3 : nv (A ++ (vwB ⟨num, ce, c, mem⟩ ++ B)) (p + 16) 1 = c := by
    simp only [vwB, List.append_assoc]
    rw [← List.append_assoc, ← List.append_assoc]
    exact nvb _ c 1 _ _ (by rw [List.length_append, List.length_append, beL_len, beL_len]; omega) (by omega)
  have e4 : nv (A ++ (vwB ⟨num, ce, c, mem⟩ ++ B)) (p + 17) 8 = mem := by
    simp only [vwB, List.append_assoc]
    rw [← List.append_assoc, ← List.append_assoc, ← List.append_assoc]
    exact nvb _ mem 8 _ _ (by rw [List.length_append, List.length_append, List.length_append, beL_len, beL_len, beL_len]; omega) (by omega)
  refine ⟨?_, vwE_zero.2 ⟨?_, ?_⟩⟩
  · rw [vwAt, e1, e2, e3, e4]; rfl
  · rw [List.length_append, List.length_append, vwB_len]; omega
  · rw [e3]; omega
theorem rcAt_recB (A : List Int) (r : Rc) (B : List Int) (hw : r.Wf) (he : recE r = 0) (p : Nat) (hp : p = A.length) :
    rcAt (A ++ (recB r ++ B)) p = r ∧ rcE (A ++ (recB r ++ B)) p = 0 ∧ rcEnd (A ++ (recB r ++ B)) p = p + (recB r).length := by
  obtain ⟨last, pend⟩ := r
  have h1 : last.ok = true ∧ pend.length ≤ 32 ∧ pend.all Vw.ok = true := by
    unfold recE at he
    dsimp only at he
    split at he
    · cases he
    · rename_i h
      split at he
      · cases he
      · rename_i h'
        split at he
        · rename_i h''; exact ⟨by simpa using h, by omega, h''⟩
        · cases he
  obtain ⟨o1, o2, o3⟩ := h1
  have hN : rcN (A ++ (recB ⟨last, pend⟩ ++ B)) p = pend.length := by
    rw [rcN]
    simp only [recB, List.append_assoc]
    rw [← List.append_assoc]
    rw [nvb _ pend.length 1 _ _ (by rw [List.length_append, vwB_len]; omega) (by omega)]
    simp
  have hV : ∀ i (hi : i < pend.length), vwAt (A ++ (recB ⟨last, pend⟩ ++ B)) (p + 26 + 25 * i) = pend[i] ∧ vwE (A ++ (recB ⟨last, pend⟩ ++ B)) (p + 26 + 25 * i) = 0 := by
    intro i hi
    have es : pend.flatMap vwB = (pend.take i).flatMap vwB ++ (vwB pend[i] ++ (pend.drop (i + 1)).flatMap vwB) := by
      conv => lhs; rw [← List.take_append_drop i pend, List.flatMap_append, List.drop_eq_getElem_cons hi, List.flatMap_cons]
    have ea : A ++ (recB ⟨last, pend⟩ ++ B) = (A ++ vwB last ++ beL pend.length 1 1 ++ (pend.take i).flatMap vwB) ++ (vwB pend[i] ++ ((pend.drop (i + 1)).flatMap vwB ++ B)) := by
      simp only [recB, es, List.append_assoc]
    rw [ea]
    refine vwAt_vwB _ _ _ (hw.2 _ (List.getElem_mem hi)) (List.all_eq_true.1 o3 _ (List.getElem_mem hi)) _ ?_
    simp only [List.length_append, vwB_len, beL_len, flatB_len, List.length_take]
    omega
  have hL : vwAt (A ++ (recB ⟨last, pend⟩ ++ B)) p = last ∧ vwE (A ++ (recB ⟨last, pend⟩ ++ B)) p = 0 := by
    have ea : A ++ (recB ⟨last, pend⟩ ++ B) = A ++ (vwB last ++ (beL pend.length 1 1 ++ pend.flatMap vwB ++ B)) := by
      simp only [recB, List.append_assoc]
    rw [ea]
    exact vwAt_vwB A last _ hw.1 o1 p hp
  refine ⟨?_, rcE_zero.2 ⟨hL.2, ?_, by rw [hN]; exact o2, fun i hi => (hV i (by rw [hN] at hi; exact hi)).2⟩, ?_⟩
  · rw [rcAt, hN, hL.1]
    congr 1
    apply List.ext_getElem
    · simp
    · intro i h1 h2
      rw [List.getElem_map, List.getElem_range]
      exact (hV i h2).1
  · rw [List.length_append, List.length_append, recB_len]; omega
  · rw [rcEnd, hN, recB_len]; dsimp only; omega

/-! what is parsed is printed -/
theorem vwB_vwAt {L : List Int} (hb : ByL L) {p : Nat} (h : vwE L p = 0) : vwB (vwAt L p) = (L.drop p).take 25 ∧ (vwAt L p).ok = true ∧ (vwAt L p).Wf := by
  obtain ⟨h1, h2⟩ := vwE_zero.1 h
  have g1 := nv_nonneg hb p 8
  have g2 := nv_nonneg hb (p + 8) 8
  have g3 := nv_nonneg hb (p + 16) 1
  have g4 := nv_nonneg hb (p + 17) 8
  have k1 := nv_lt hb p 8
  have k2 := nv_lt hb (p + 8) 8
  have k4 := nv_lt hb (p + 17) 8
  refine ⟨?_, ?_, ?_⟩
  · simp only [vwB, vwAt]
    rw [Int.toNat_of_nonneg g1, Int.toNat_of_nonneg g2, Int.toNat_of_nonneg g4, be_nv hb _ _ (by omega), be_nv hb _ _ (by omega), be_nv hb _ _ (by omega), be_nv hb _ _ (by omega)]
    rw [take_split' L p 8 17 (p + 8) 25 (by omega) (by omega), take_split' L (p + 8) 8 9 (p + 16) 17 (by omega) (by omega), take_split' L (p + 16) 1 8 (p + 17) 9 (by omega) (by omega)]
  · exact decide_eq_true (show 0 ≤ nv L (p + 16) 1 ∧ nv L (p + 16) 1 < 64 from ⟨g3, by omega⟩)
  · refine ⟨?_, ?_, ⟨?_, ?_⟩, ?_⟩
    · show (nv L p 8).toNat < 18446744073709551616; omega
    · show (nv L (p + 8) 8).toNat < 18446744073709551616; omega
    · show (-9223372036854775808 : Int) ≤ nv L (p + 16) 1; omega
    · show nv L (p + 16) 1 ≤ (9223372036854775807 : Int); omega
    · show (nv L (p + 17) 8).toNat < 18446744073709551616; omega
theorem recB_rcAt {L : List Int} (hb : ByL L) {p : Nat} (h : rcE L p = 0) : recB (rcAt L p) = (L.drop p).take (rcEnd L p - p) ∧ recE (rcAt L p) = 0 ∧ (rcAt L p).Wf := by
  have hend := rcEnd_le h
  obtain ⟨h1, h2, h3, h4⟩ := rcE_zero.1 h
  have gN := nv_nonneg hb (p + 25) 1
  have hflat : ∀ n, (∀ i, i < n → vwE L (p + 26 + 25 * i) = 0) → ((List.range n).map fun i => vwAt L (p + 26 + 25 * i)).flatMap vwB = (L.drop (p + 26)).take (25 * n) := by
    intro n
    induction n with
    | zero => intro _; simp
    | succ n ih =>
      intro hn
      rw [List.range_succ, List.map_append, List.flatMap_append, ih (fun i hi => hn i (by omega))]
      simp only [List.map_cons, List.map_nil, List.flatMap_cons, List.flatMap_nil, List.append_nil]
      rw [(vwB_vwAt hb (hn n (by omega))).1]
      exact (take_split' L (p + 26) (25 * n) 25 (p + 26 + 25 * n) _ rfl (by omega)).symm
  have hlen : (rcAt L p).pend.length = rcN L p := by simp [rcAt]
  refine ⟨?_, ?_, ?_⟩
  · rw [recB, hlen]
    simp only [rcAt]
    rw [(vwB_vwAt hb h1).1, hflat _ h4]
    have e1 : beL ((rcN L p : Nat) : Int) 1 1 = (L.drop (p + 25)).take 1 := by
      rw [rcN, Int.toNat_of_nonneg gN]; exact be_nv hb _ _ (by omega)
    rw [e1, ← take_split' L (p + 25) 1 (25 * rcN L p) (p + 26) (1 + 25 * rcN L p) (by omega) rfl, ← take_split' L p 25 (1 + 25 * rcN L p) (p + 25) _ rfl rfl]
    congr 1
    unfold rcEnd; omega
  · unfold recE
    rw [hlen, if_neg (by simp only [rcAt]; rw [(vwB_vwAt hb h1).2.1]; simp), if_neg (by omega), if_pos]
    simp only [rcAt, List.all_map, List.all_eq_true, List.mem_range, Function.comp]
    exact fun i hi => (vwB_vwAt hb (h4 i hi)).2.1
  · refine ⟨(vwB_vwAt hb h1).2.2, fun v hv => ?_⟩
    simp only [rcAt, List.mem_map, List.mem_range] at hv
    obtain ⟨i, hi, rfl⟩ := hv
    exact (vwB_vwAt hb (h4 i hi)).2.2
end Go.Proofs.Ytdfnpaaejjediaa
