/- the net, plain: what each datagram under way stems from -/
import Derived.Test.YtmlkmonapnebiaaDoorRNetM
import Derived.Laws.BitsAllLaws
namespace Go.Proofs.YtmlkmonapnebiaaDoorR
open Go.RowKit Go.Sort

theorem bI_mem (s : ByteArray) : ∀ c ∈ bI s, 0 ≤ c ∧ c < 256 := by
  intro c hc
  obtain ⟨b, _, rfl⟩ := List.mem_map.1 hc
  have := b.toNat_lt
  omega
/-- In how many of the first k places two rows differ. -/
def gapN (A B : List Int) : Nat → Nat
  | 0 => 0
  | k + 1 => gapN A B k + if A.getD k 0 = B.getD k 0 then 0 else 1
theorem gapN_le (A B : List Int) (k : Nat) : gapN A B k ≤ k := by
  induction k with
  | zero => exact Nat.le_refl _
  | succ k ih => rw [gapN]; split <;> omega
def gap (a b : ByteArray) : Int := if a.size = b.size then (gapN (bI a) (bI b) a.size : Nat) else -1
theorem gapN_self (A : List Int) (k : Nat) : gapN A A k = 0 := by
  induction k with
  | zero => rfl
  | succ k ih => rw [gapN, ih, if_pos rfl]
theorem gap_self (a : ByteArray) : gap a a = 0 := by rw [gap, if_pos rfl, gapN_self]; rfl
theorem gapN_zero {A B : List Int} : ∀ {k : Nat}, gapN A B k = 0 → ∀ j, j < k → A.getD j 0 = B.getD j 0 := by
  intro k
  induction k with
  | zero => intro _ j h; omega
  | succ k ih =>
    intro h j hj
    rw [gapN] at h
    by_cases e : A.getD k 0 = B.getD k 0
    · rw [if_pos e] at h
      by_cases hk : j = k
      · rw [hk]; exact e
      · exact ih (by omega) j (by omega)
    · rw [if_neg e] at h; omega
theorem bI_inj {a b : ByteArray} (h : bI a = bI b) : a = b := by
  apply bL_ext
  have hinj : ∀ l m : List UInt8, l.map (fun c => (c.toNat : Int)) = m.map (fun c => (c.toNat : Int)) → l = m := by
    intro l
    induction l with
    | nil => intro m h; cases m with
      | nil => rfl
      | cons _ _ => simp at h
    | cons x l ih => intro m h; cases m with
      | nil => simp at h
      | cons y m =>
        simp only [List.map_cons, List.cons.injEq] at h
        rw [ih m h.2]
        congr 1
        exact UInt8.toNat_inj.1 (by omega)
  exact hinj _ _ h
theorem gap_zero {a b : ByteArray} (h : gap a b = 0) : a = b := by
  unfold gap at h
  split at h
  · rename_i hs
    apply bI_inj
    have h0 := gapN_zero (A := bI a) (B := bI b) (k := a.size) (by omega)
    apply List.ext_getElem
    · rw [bI_len, bI_len, hs]
    · intro j h1 h2
      have := h0 j (by rw [bI_len] at h1; exact h1)
      rw [List.getD_eq_getElem?_getD, List.getD_eq_getElem?_getD, List.getElem?_eq_getElem h1, List.getElem?_eq_getElem h2] at this
      exact this
  · omega
theorem gapN_set (A : List Int) (j : Nat) (z : Int) (hj : j < A.length) (hz : z ≠ A.getD j 0) : ∀ k, gapN A (A.set j z) k = if j < k then 1 else 0 := by
  intro k
  induction k with
  | zero => rfl
  | succ k ih =>
    rw [gapN, ih]
    by_cases e : k = j
    · subst e
      have : (A.set k z).getD k 0 = z := by rw [List.getD_eq_getElem?_getD, List.getElem?_set_self hj]; rfl
      rw [this, if_neg (Nat.lt_irrefl _), if_neg (fun e => hz e.symm), if_pos (Nat.lt_succ_self _)]
    · have : (A.set j z).getD k 0 = A.getD k 0 := by rw [List.getD_eq_getElem?_getD, List.getD_eq_getElem?_getD, List.getElem?_set_ne (fun h => e h.symm)]
      rw [this, if_pos rfl]
      by_cases h : j < k
      · rw [if_pos h, if_pos (by omega)]
      · rw [if_neg h, if_neg (by omega)]
theorem xor_ne {y m : Int} (h0 : 0 ≤ y) (h1 : y < 256) (h2 : 0 ≤ m) (h3 : m < 256) (hm : m ≠ 0) : bits BinOp.xor IntKind.u8 y m ≠ y ∧ 0 ≤ bits BinOp.xor IntKind.u8 y m ∧ bits BinOp.xor IntKind.u8 y m < 256 := by
  rw [u8_xor y m h0 h1 h2 h3]
  have hlt : y.toNat ^^^ m.toNat < 2 ^ 8 := Nat.xor_lt_two_pow (by omega) (by omega)
  refine ⟨fun e => ?_, by omega, by omega⟩
  have e2 : y.toNat ^^^ m.toNat = y.toNat := by omega
  have e3 : m.toNat = 0 := by
    have : y.toNat ^^^ (y.toNat ^^^ m.toNat) = y.toNat ^^^ y.toNat := by rw [e2]
    rw [← Nat.xor_assoc, Nat.xor_self, Nat.zero_xor] at this
    exact this
  omega
theorem gap_turn (d : Dg) (at_ mask : Int) (hd : 0 < d.data.size) (hm0 : 0 ≤ mask) (hm1 : mask < 256) (hm : mask ≠ 0) : gap d.data (turnS d at_ mask) = 1 := by
  have hj := (turnJ_lt (d := d) at_ hd).2
  have hsz := turnS_size d at_ mask
  have hjl : turnJ d at_ < (bI d.data).length := by rw [bI_len]; exact hj
  have hmem := bI_mem d.data _ (List.getElem_mem hjl)
  have hgd : (bI d.data).getD (turnJ d at_) 0 = (bI d.data)[turnJ d at_] := by rw [List.getD_eq_getElem?_getD, List.getElem?_eq_getElem hjl]; rfl
  obtain ⟨x1, x2, x3⟩ := xor_ne hmem.1 hmem.2 hm0 hm1 hm
  rw [gap, if_pos hsz.symm]
  have hb : bI (turnS d at_ mask) = (bI d.data).set (turnJ d at_) (bits BinOp.xor IntKind.u8 ((bI d.data).getD (turnJ d at_) 0) mask) := by
    unfold turnS
    have hby : ∀ l : List Int, (∀ c ∈ l, 0 ≤ c ∧ c < 256) → bI (strOfNums l) = l := by
      intro l h
      rw [bI, bL_strOfNums, List.map_map]
      refine (List.map_congr_left (g := id) fun c hc => ?_).trans (List.map_id _)
      have := h c hc
      simp only [Function.comp, UInt8.toNat_ofNat']
      simp; omega
    refine hby _ fun c hc => ?_
    rcases List.mem_or_eq_of_mem_set hc with h | h
    · exact bI_mem _ c h
    · rw [h, hgd]; exact ⟨x2, x3⟩
  rw [hb, gapN_set _ _ _ hjl (by rw [hgd]; exact x1), if_pos hj]
  rfl

def matchB (y : NAc) (d : Dg) : Bool := decide (y.kind = 0) && (decide (y.d.src = d.src) && (decide (y.d.dst = d.dst) && (decide (gap y.d.data d.data = 0) && !d.torn || decide (gap y.d.data d.data = 1) && d.torn)))
def orgB (l : List NAc) (i : Nat) (d : Dg) : Bool := (l.take i).any fun y => matchB y d
theorem orgB_mono {l : List NAc} {i : Nat} {d : Dg} (h : orgB l i d = true) : orgB l (i + 1) d = true := by
  obtain ⟨y, hy, hm⟩ := List.any_eq_true.1 h
  exact List.any_eq_true.2 ⟨y, List.take_subset_take_left l (Nat.le_succ i) hy, hm⟩
def NAc.un (y : NAc) : NAc := { y with d := { y.d with torn := false } }
def NS.Inv (s : NS) (l : List NAc) (i : Nat) : Prop := ∀ d ∈ s.l, orgB l i d = true
theorem inv_getD {s : NS} {l : List NAc} {i : Nat} (h : s.Inv l i) {k : Int} (hk : s.there k = true) : orgB l i (s.l.getD k.toNat .zero) = true ∧ s.l.getD k.toNat .zero ∈ s.l := by
  obtain ⟨j, rfl, hj⟩ := there_t hk
  rw [Int.toNat_natCast, List.getD_eq_getElem?_getD, List.getElem?_eq_getElem hj]
  exact ⟨h _ (List.getElem_mem hj), List.getElem_mem hj⟩
theorem matchB_t {y : NAc} {d : Dg} : matchB y d = true ↔ y.kind = 0 ∧ y.d.src = d.src ∧ y.d.dst = d.dst ∧ (gap y.d.data d.data = 0 ∧ d.torn = false ∨ gap y.d.data d.data = 1 ∧ d.torn = true) := by
  unfold matchB
  simp only [Bool.and_eq_true, Bool.or_eq_true, decide_eq_true_eq, Bool.not_eq_true']
theorem NS.act_inv {s : NS} {l : List NAc} {i : Nat} (h : s.Inv l i) (hi : i < l.length) (hm0 : 0 ≤ l[i].mask) (hm1 : l[i].mask < 256) : (s.act l[i].un).Inv l (i + 1) := by
  have hm : s.Inv l (i + 1) := fun d hd => orgB_mono (h d hd)
  unfold NS.act
  split
  · rename_i hk
    unfold NS.send
    split
    · split
      · split
        · exact hm
        · intro d hd
          rcases List.mem_append.1 hd with hd | hd
          · exact hm d hd
          · rw [List.mem_singleton.1 hd]
            refine List.any_eq_true.2 ⟨l[i], ?_, matchB_t.2 ⟨hk, rfl, rfl, .inl ⟨gap_self _, rfl⟩⟩⟩
            rw [List.take_succ_eq_append_getElem hi]
            exact List.mem_append.2 (.inr (List.mem_singleton.2 rfl))
      · exact hm
    · exact hm
  split
  · unfold NS.take
    split
    · exact fun d hd => hm d (List.mem_of_mem_eraseIdx hd)
    · exact hm
  split
  · unfold NS.drop
    split
    · exact fun d hd => hm d (List.mem_of_mem_eraseIdx hd)
    · exact hm
  split
  · unfold NS.double
    split
    · rename_i hc
      intro d hd
      rcases List.mem_append.1 hd with hd | hd
      · exact hm d hd
      · rw [List.mem_singleton.1 hd]; exact orgB_mono (inv_getD h hc.1).1
    · exact hm
  split
  · unfold NS.turnA
    split
    · rename_i hc
      obtain ⟨c1, c2, c3, c4⟩ := hc
      intro d hd
      rcases List.mem_or_eq_of_mem_set hd with hd | hd
      · exact hm d hd
      · rw [hd]
        obtain ⟨g1, _⟩ := inv_getD h c1
        generalize s.l.getD _ _ = e at *
        obtain ⟨y, hy, hmt⟩ := List.any_eq_true.1 g1
        obtain ⟨m1, m2, m3, m4⟩ := matchB_t.1 hmt
        have m5 : y.d.data = e.data := by
          rcases m4 with m4 | m4
          · exact gap_zero m4.1
          · have := m4.2; rw [c2] at this; cases this
        refine orgB_mono (List.any_eq_true.2 ⟨y, hy, matchB_t.2 ⟨m1, m2, m3, .inr ⟨?_, rfl⟩⟩⟩)
        show gap y.d.data (turnS e _ _) = 1
        rw [m5]
        exact gap_turn e _ _ c3 hm0 hm1 c4
    · exact hm
  split
  · exact hm
  split
  · exact hm
  · exact hm
/-- What is taken was under way, and is linked. -/
theorem NS.take_true {s : NS} {l : List NAc} {i : Nat} (h : s.Inv l i) (k : Int) (ht : (s.take k).2.2 = true) : orgB l i (s.take k).2.1 = true ∧ (s.take k).1.linked (s.take k).2.1.src (s.take k).2.1.dst = true := by
  unfold NS.take at ht ⊢
  by_cases h1 : s.there k = true
  · rw [if_pos h1] at ht ⊢
    dsimp only at ht ⊢
    by_cases h2 : s.linked (s.l.getD k.toNat .zero).src (s.l.getD k.toNat .zero).dst = true
    · rw [if_pos h2]
      exact ⟨(inv_getD h h1).1, h2⟩
    · rw [if_neg h2] at ht; cases ht
  · rw [if_neg h1] at ht; cases ht
end Go.Proofs.YtmlkmonapnebiaaDoorR
