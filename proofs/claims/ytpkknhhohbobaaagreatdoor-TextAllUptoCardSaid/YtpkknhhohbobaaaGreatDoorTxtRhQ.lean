/- text: the reference's field, all letters; what its Parse keeps -/
import Derived.Test.YtpkknhhohbobaaaGreatDoorTxtRgQ
import Derived.Test.YtpkknhhohbobaaaGreatDoorTxtYQ
namespace Go.Proofs.YtpkknhhohbobaaaGreatDoor
set_option linter.unusedSimpArgs false
set_option linter.unusedVariables false
open Go.RowKit Go.Sort
theorem step_ldm {P : Program} {w : World} {ops : Array Oper} {o : Oper} {a : Act} {K : Act → World → Prop} {Q : Exit → Act → World → Prop} {E' : Prop} (hg : o.guard = none) (ty : TypeId) (x : Operand) (ho : o.op = .load ty x)
    (b off : Nat) (hx : a.eval x = .pointer (some ⟨b, off, none⟩)) (cs : List Value) (d : TypeDesc) (hc : w.rangeAt b off cs) (hu : P.underlying ty = some d) (hd : d.isRow = true) (hi : (P.info? ty).map (·.size) = some cs.length)
    (h : K (a.put o.dst (.agg cs.toArray)) w) : if Region.wanted o (yielded ops a.tmps) = true then Oper.wp P o a w K Q else E' := by
  rw [if_pos (by simp [Region.wanted, hg])]
  exact wp_load_mid ty x ho b off hx cs d hc hu hd hi h
theorem step_ldb {P : Program} {w : World} {ops : Array Oper} {o : Oper} {a : Act} {K : Act → World → Prop} {Q : Exit → Act → World → Prop} {E' : Prop} (hg : o.guard = none) (ty : TypeId) (x : Operand) (ho : o.op = .load ty x)
    (b : Nat) (hx : a.eval x = .pointer (some ⟨b, 0, none⟩)) {t' : TypeId} {cs : Array Value} (d : TypeDesc) (hb : BlkAt w b t' cs) (hu : P.underlying ty = some d) (hd : d.isRow = true) (hi : (P.info? ty).map (·.size) = some cs.size)
    (h : K (a.put o.dst (.agg cs)) w) : if Region.wanted o (yielded ops a.tmps) = true then Oper.wp P o a w K Q else E' :=
  step_ldm hg ty x ho b 0 hx cs.toList d (hb.range (fun j u hj => by rw [Nat.zero_add]; simpa using hj)) hu hd (by simpa using hi) (by rw [Array.toArray_toList]; exact h)
theorem step_stm {P : Program} {w : World} {ops : Array Oper} {o : Oper} {a : Act} {K : Act → World → Prop} {Q : Exit → Act → World → Prop} {E' : Prop} {t : TypeId} (hg : o.guard = none) (x y : Operand) (ho : o.op = .store t x y) {b p : Nat} (hx : a.eval x = .pointer (some ⟨b, p, none⟩)) {t' : TypeId} {old cs : Array Value} (hy : a.eval y = .agg cs) (hb : BlkAt w b t' old)
    (hi : (P.info? t).map (·.size) = some cs.size) (hs : p + cs.size ≤ old.size) (h1 : cs.all (·.oneCell') = true)
    (h : ∀ w', BlkAt w' b t' (setArr old p cs.toList) → Kp b w w' → w'.heap.size = w.heap.size → K (a.put o.dst undef) w') : if Region.wanted o (yielded ops a.tmps) = true then Oper.wp P o a w K Q else E' := by
  rw [if_pos (by simp [Region.wanted, hg])]
  exact wp_store_mid t x y ho b p cs hx hy (hb.there hs) hi h1 (h _ (hb.setCells _ _ _) (Kp.setCells _ _ _ (Kp.refl _ _)) (setCells_size _ _ _))
section
variable {b B : Nat} {w w' : World} {ws : List W8} {x : TEv} {da na : Option Addr} {dn dc nn nc : Nat}
theorem fd_any (f : Lt) (hF : FdR w B x da dn dc na nn nc) (hB : b ≤ B) (hB2 : B < w.heap.size) (h : TkT w b ws true) (hln : ws.length ≤ 4294967296) (hd : f = .m → da = none ∧ dn = 0 ∧ dc = 0) (hn : (f = .a ∨ f = .o) → na = none ∧ nn = 0 ∧ nc = 0) :
    Calls Tryz.prog 22 #[.pointer (some ⟨b, 0, none⟩), .int .u8 ((ltB f).toNat : Int), .agg (evC x da dn dc na nn nc)] w (PFe f x ws b B da dn dc na nn nc w) := by
  cases f
  · exact fd_c hF hB hB2 h
  · exact fd_n hF hB hB2 h
  · exact fd_s hF hB hB2 h
  · exact fd_m hF hB hB2 h (hd rfl)
  · exact fd_v hF hB hB2 h
  · exact fd_a hF hB hB2 h (hn (.inl rfl)) hln
  · exact fd_o hF hB hB2 h (hn (.inr rfl))
  · exact fd_b hF hB hB2 h
end
theorem if_le {p : Prop} [Decidable p] {x y : TEv} {a l l' : List W8} (h : (if p then some (x, a) else none) = some (y, l')) (ha : a.length ≤ l.length) : l'.length ≤ l.length := by
  split at h
  · injection h with h
    injection h with h1 h2
    subst h2
    exact ha
  · cases h
theorem tail_le (l : List W8) : l.tail.length ≤ l.length := by cases l <;> simp
theorem fieldT_le {f : Lt} {x y : TEv} {l l' : List W8} (h : fieldT f x l = some (y, l')) : l'.length ≤ l.length := by
  have t1 := tail_le l
  have t2 := tail_le l.tail
  have t3 := tail_le l.tail.tail
  cases f
  · rw [fieldT_c] at h; exact if_le h t1
  · rw [fieldT_n] at h; exact if_le h t1
  · rw [fieldT_s] at h; exact if_le h t1
  · by_cases hh : ∃ t, l.tail.tail.tail.tail.headD [] = 100 :: t
    · obtain ⟨t, ht⟩ := hh
      rw [fieldT_m ht] at h
      have t4 := tail_le l.tail.tail.tail
      have t5 := tail_le l.tail.tail.tail.tail
      have t6 := tail_le l.tail.tail.tail.tail.tail
      exact if_le h (by omega)
    · rw [fieldT_mno (fun t e => hh ⟨t, e⟩)] at h
      cases h
  · rw [fieldT_v] at h; exact if_le h (by omega)
  · rw [fieldT_a] at h; exact if_le h (Nat.zero_le _)
  · rw [fieldT_o] at h; exact if_le h t1
  · rw [fieldT_b] at h; exact if_le h t1
theorem parse_k0 {ws : List W8} (h : kindN (ws.tail.headD []) = 0) : parseW ws = none := by
  match ws with
  | [] => rfl
  | [_] => rfl
  | p :: k :: r =>
    cases e : takeN 63 (p :: k :: r) with
    | none => exact parseW_t1 e
    | some v =>
      obtain ⟨v, l⟩ := v
      obtain rfl : l = k :: r := by
        rw [takeN_cons] at e
        generalize valN p 63 = o at e
        cases o with
        | none => cases e
        | some z => cases e; rfl
      rw [parseW_some e]
      exact if_pos h
theorem parse_q {ws : List W8} (h : okN ws.tail (okR ws 63 true) = false) : parseW ws = none := by
  cases e : okR ws 63 true with
  | false => exact parseW_t1 (by rw [takeN_ref ws (by decide), e]; rfl)
  | true =>
    have h2 := takeN_ref ws (show (63 : Nat) ≤ 18446744073709551615 by decide)
    rw [e, if_pos rfl] at h2
    rw [e] at h
    cases ht : ws.tail with
    | nil => rw [ht] at h2; exact parseW_t2 h2
    | cons u r => rw [ht] at h; cases h
theorem parse_ok {ws : List W8} (h : okN ws.tail (okR ws 63 true) = true) (hk : kindN (ws.tail.headD []) ≠ 0) : parseW ws = fin (rowT (rowL (kindN (ws.tail.headD []))) (begE (kindN (ws.tail.headD []) : Nat) ((refV (ws.headD []) 63).1 : Nat)) ws.tail.tail) ∧ (refV (ws.headD []) 63).1 ≤ 63 := by
  have h1 : okR ws 63 true = true := by unfold okN at h; rw [Bool.and_eq_true] at h; exact h.1
  have h2 := takeN_ref ws (show (63 : Nat) ≤ 18446744073709551615 by decide)
  rw [h1, if_pos rfl] at h2
  rw [h1] at h
  refine ⟨?_, refV_le (by decide) (okR_ref h1).2.2⟩
  cases ht : ws.tail with
  | nil => rw [ht] at h; cases h
  | cons u r =>
    rw [ht] at h2 hk
    rw [parseW_some h2]
    exact if_neg hk
/-- Each row of letters fills a slice once. -/
def once : List Lt → Bool
  | [] => true
  | f :: r => (decide (f ≠ .m) || !r.contains .m) && ((decide (f ≠ .a) && decide (f ≠ .o)) || (!r.contains .a && !r.contains .o)) && once r
theorem row_once : ∀ k : Fin 13, once (rowL k.val) = true := by decide +kernel
/-- Slices that are still to be filled are empty. -/
structure Emp (L : List Lt) (da : Option Addr) (dn dc : Nat) (na : Option Addr) (nn nc : Nat) : Prop where
  o : once L = true
  d : L.contains .m = true → da = none ∧ dn = 0 ∧ dc = 0
  n : (L.contains .a = true ∨ L.contains .o = true) → na = none ∧ nn = 0 ∧ nc = 0
theorem Emp.next {f : Lt} {r : List Lt} {da na ea fa : Option Addr} {dn dc nn nc en ec fn fc : Nat} (h : Emp (f :: r) da dn dc na nn nc) (h1 : f ≠ .m → ea = da ∧ en = dn ∧ ec = dc) (h2 : f ≠ .a → f ≠ .o → fa = na ∧ fn = nn ∧ fc = nc) : Emp r ea en ec fa fn fc := by
  obtain ⟨ho, hd, hn⟩ := h
  unfold once at ho
  simp only [Bool.and_eq_true, Bool.or_eq_true, decide_eq_true_eq, Bool.not_eq_true'] at ho
  obtain ⟨⟨o1, o2⟩, o3⟩ := ho
  refine ⟨o3, fun hm => ?_, fun hm => ?_⟩
  · have hf : f ≠ .m := by
      rcases o1 with h | h
      · exact h
      · rw [h] at hm; cases hm
    obtain ⟨rfl, rfl, rfl⟩ := h1 hf
    exact hd (by rw [List.contains_cons, hm, Bool.or_true])
  · have hf : f ≠ .a ∧ f ≠ .o := by
      rcases o2 with h | h
      · exact h
      · rw [h.1, h.2] at hm; rcases hm with hm | hm <;> cases hm
    obtain ⟨rfl, rfl, rfl⟩ := h2 hf.1 hf.2
    exact hn (by
      rcases hm with hm | hm
      · exact .inl (by rw [List.contains_cons, hm, Bool.or_true])
      · exact .inr (by rw [List.contains_cons, hm, Bool.or_true]))
theorem Emp.at {f : Lt} {r : List Lt} {da na : Option Addr} {dn dc nn nc : Nat} (h : Emp (f :: r) da dn dc na nn nc) : (f = .m → da = none ∧ dn = 0 ∧ dc = 0) ∧ ((f = .a ∨ f = .o) → na = none ∧ nn = 0 ∧ nc = 0) :=
  ⟨fun e => h.d (by rw [e]; rfl), fun e => h.n (by
    rcases e with rfl | rfl
    · exact .inl rfl
    · exact .inr rfl)⟩
/-- What holds while the reference parses. -/
structure PSt (w W : World) (mb tb xb : Nat) (y : TEv) (da : Option Addr) (dn dc : Nat) (na : Option Addr) (nn nc : Nat) (ws : List W8) (q : Bool) : Prop where
  ord : w.heap.size = mb ∧ mb < tb ∧ tb < xb
  bk : BlkAt W xb 34 (evC y da dn dc na nn nc)
  m : BlkAt W mb 34 #[.int .i64 0, .int .i64 0, .int .u64 0, .int .i64 0, .int .u64 0, .int .i64 0, .int .u64 0, .int .i64 0, .int .u32 0, .int .u64 0, .int .i64 0, .slice none 0 0, .string ⟨#[]⟩, .int .u64 0, .int .u64 0, .int .i64 0, .int .u64 0, .slice none 0 0, .string ⟨#[]⟩]
  r : TkT W tb ws q
  k : Below w.heap.size w W
  f : FdR W xb y da dn dc na nn nc
section
variable {w W W' : World} {mb tb xb : Nat} {y y' : TEv} {da na : Option Addr} {dn dc nn nc : Nat} {ws ws' : List W8} {q q' : Bool} {cs : Array Value}
theorem PSt.kq (h : PSt w W mb tb xb y da dn dc na nn nc ws q) (k : Kp tb W W') (r : TkT W' tb ws' q') : PSt w W' mb tb xb y da dn dc na nn nc ws' q' := by
  obtain ⟨o1, o2, o3⟩ := h.ord
  exact ⟨h.ord, k.blk h.bk (by omega), k.blk h.m (by omega), r, Kp.below h.k k (by omega) h.k.size, h.f.kp k (fun h0 g off e => by have := h.f.db h0 g off e; omega) (fun h0 g off e => by have := h.f.nb h0 g off e; omega)⟩
theorem PSt.put {ea fa : Option Addr} {en ec fn fc : Nat} (h : PSt w W mb tb xb y da dn dc na nn nc ws q) (hX : BlkAt W' xb 34 cs) (K : Kp xb W W') (hs : W'.heap.size = W.heap.size) (hc : cs = evC y' ea en ec fa fn fc) (f : FdR W xb y' ea en ec fa fn fc) : PSt w W' mb tb xb y' ea en ec fa fn fc ws q := by
  obtain ⟨o1, o2, o3⟩ := h.ord
  subst hc
  exact ⟨h.ord, hX, K.blk h.m (by omega), TkT.off h.r K o3, Kp.below h.k K (by omega) h.k.size, f.kp K (fun h0 g off e => by have := f.db h0 g off e; omega) (fun h0 g off e => by have := f.nb h0 g off e; omega)⟩
/-- A field more. -/
theorem PSt.fld {ea fa : Option Addr} {en ec fn fc : Nat} (h : PSt w W mb tb xb y da dn dc na nn nc ws q) (k : Kp tb W W') (r : TkT W' tb ws' q') : ∃ z : Nat, z = xb ∧ BlkAt W' xb 34 (evC y da dn dc na nn nc) ∧ (∀ (W2 : World) (cs : Array Value), FdR W' xb y' ea en ec fa fn fc → BlkAt W2 xb 34 cs → Kp xb W' W2 → W2.heap.size = W'.heap.size → cs = evC y' ea en ec fa fn fc → PSt w W2 mb tb xb y' ea en ec fa fn fc ws' q') := by
  have h2 := h.kq k r
  exact ⟨xb, rfl, h2.bk, fun W2 cs f hX K hs hc => h2.put hX K hs hc f⟩
/-- The end that tells a fault. -/
theorem PSt.no (h : PSt w W mb tb xb y da dn dc na nn nc ws q) (K : Kp mb W W') : Below w.heap.size w W' := by
  obtain ⟨o1, o2, o3⟩ := h.ord
  exact Kp.below h.k K (by omega) h.k.size
/-- The end that tells an event. -/
theorem PSt.yes (h : PSt w W mb tb xb y da dn dc na nn nc ws q) (K : Kp mb W W') : EvF W' w.heap.size y da dc na nc ∧ dn = y.m.deps.length ∧ nn = y.names.length := by
  obtain ⟨o1, o2, o3⟩ := h.ord
  have hf := h.f.kp K (fun h0 g off e => by have := h.f.db h0 g off e; omega) (fun h0 g off e => by have := h.f.nb h0 g off e; omega)
  have h1 := hf.dr.length_eq
  unfold c32 at h1
  rw [List.length_map, Nat.mul_one] at h1
  have h2 := hf.nr.length_eq
  have h3 : ∀ l : List TNm, (l.flatMap nmC).length = l.length * 2 := by
    intro l
    induction l with
    | nil => rfl
    | cons u r ih => rw [List.flatMap_cons, List.length_append, ih, nmC_len, List.length_cons]; omega
  rw [h3] at h2
  obtain rfl : dn = y.m.deps.length := by omega
  obtain rfl : nn = y.names.length := by omega
  exact ⟨⟨hf.dr, hf.nr, fun h0 g off e => by have := hf.db h0 g off e; omega, fun h0 g off e => by have := hf.nb h0 g off e; omega⟩, rfl, rfl⟩
end
end Go.Proofs.YtpkknhhohbobaaaGreatDoor
