/- HeardPlays: what holds between the calls -/
import Derived.Test.YtpnmhlcbmbpfdaaDoorHeardQ
import Derived.Test.YtpnmhlcbmbpfdaaDoorHeardR
import Derived.Test.YtpnmhlcbmbpfdaaDoorHeardL1
namespace Go.Proofs.YtpnmhlcbmbpfdaaDoor
open Go.RowKit Go.Sort

structure PInv (me n tm : Int) (k : Nat) (s : ES) (all : List Sd) (nw : Nat) : Prop where
  ok : s.Ok
  rel : Rel s n all
  me : s.me = me
  tm : s.timeout = tm
  now : s.now = nw
  nk : nw ≤ k
  len : all.length ≤ 64 * k
  at_ : ∀ e ∈ all, e.at_ ≤ nw
def addS (me n : Int) (now : Nat) (all : List Sd) (x : Sd) : List Sd := if other me n x.p = true then all ++ [rAt x now] else all
theorem radd_any (me n tm : Int) (nw : Nat) (a : Option Addr) (c cp : Nat) (all : List Sd) (x : Sd) (hc : c ≤ 100000) (w : World) (hr : Rd w 9 a c cp (all.flatMap sdF)) :
    Calls Tryd.prog 11 #[.agg #[.int .i64 me, .int .i64 n, .int .i64 tm, .int .i64 nw, .slice a c cp], .agg #[.int .i64 x.p, .int .i64 x.at_, .bool x.beat, .bool x.gone, .int .u64 x.b.ce, .int .i64 x.b.cr, .int .u64 x.b.pe, .int .i64 x.b.pr, .int .u64 x.b.ep]] w fun e w' => ∃ a' c1 c', e = .returned (.agg #[.int .i64 me, .int .i64 n, .int .i64 tm, .int .i64 nw, .slice a' c1 c']) ∧ Rd w' 9 a' c1 c' ((addS me n nw all x).flatMap sdF) ∧ Hid (a' = a ∨ ∀ g off, a' = some ⟨g, off, none⟩ → w.heap.size ≤ g) ∧ Below w.heap.size w w' := by
  cases hh : other me n x.p with
  | true =>
    have e1 : addS me n nw all x = all ++ [rAt x nw] := if_pos hh
    rw [e1]
    refine (radd_yes me n tm nw a c cp all x hh hc w hr).mono ?_
    rintro e w' ⟨a', c', rfl, h1, h2, h3⟩
    exact ⟨a', c + 1, c', rfl, h1, .inr h2.out, h3⟩
  | false =>
    have e1 : addS me n nw all x = all := if_neg (by rw [hh]; decide)
    rw [e1]
    refine (radd_no me n tm nw a c cp x hh w).mono ?_
    rintro e w' ⟨rfl, h3⟩
    exact ⟨a, c, cp, rfl, Rd.below hr h3 (Nat.le_refl _), .inl rfl, h3⟩
section
variable {me n tm : Int} {k : Nat} {s : ES} {all : List Sd} {nw : Nat}
theorem PInv.more (h : PInv me n tm k s all nw) : PInv me n tm (k + 1) s all nw := ⟨h.ok, h.rel, h.me, h.tm, h.now, Nat.le_succ_of_le h.nk, by have := h.len; omega, h.at_⟩
theorem PInv.oth (h : PInv me n tm k s all nw) (p : Int) : hasB s.oth p = other me n p := by rw [h.rel.oth, hasB_oth, h.me]
theorem addS_len (x : Sd) : (addS me n nw all x).length ≤ all.length + 1 := by unfold addS; split <;> simp
theorem addS_at (x : Sd) (h : ∀ e ∈ all, e.at_ ≤ nw) : ∀ e ∈ addS me n nw all x, e.at_ ≤ nw := by
  unfold addS
  split
  · intro e he
    rcases List.mem_append.1 he with he | he
    · exact h e he
    · rw [List.mem_singleton.1 he]; exact Nat.le_refl _
  · exact h
theorem PInv.tick (h : PInv me n tm k s all nw) (hk : k ≤ 1000) : PInv me n tm (k + 1) s.tick all (nw + 1) :=
  ⟨ES.tick_ok h.ok (by have := h.now; have := h.nk; omega), h.rel.tick, h.me, h.tm, by show s.now + 1 = _; rw [h.now], by have := h.nk; omega, by have := h.len; omega, fun e he => Nat.le_succ_of_le (h.at_ e he)⟩
theorem PInv.hear (h : PInv me n tm k s all nw) (p : Int) : PInv me n tm (k + 1) (s.hear p) (addS me n nw all ⟨p, 0, false, false, .zero⟩) nw := by
  refine ⟨ES.hear_ok h.ok p, ?_, ((s.same_hear p).me).trans h.me, ((s.same_hear p).timeout).trans h.tm, (s.now_hear p).trans h.now, Nat.le_succ_of_le h.nk, ?_, addS_at _ h.at_⟩
  · have ho := h.oth p
    cases hh : other me n p with
    | true =>
      rw [hh] at ho
      have := h.rel.hear p ho
      rw [h.now] at this
      rw [addS, if_pos hh]
      exact this
    | false =>
      rw [hh] at ho
      rw [ES.hear_none ho, addS, if_neg (by show ¬ other me n p = true; rw [hh]; decide)]
      exact h.rel
  · have h1 := h.len
    have h2 := addS_len (me := me) (n := n) (nw := nw) (all := all) ⟨p, 0, false, false, .zero⟩
    omega
theorem PInv.beat (h : PInv me n tm k s all nw) (p : Int) (x : Bt) : PInv me n tm (k + 1) (s.beat p x) (addS me n nw all ⟨p, 0, true, false, x⟩) nw := by
  refine ⟨ES.beat_ok h.ok p x, ?_, ((s.same_beat p x).me).trans h.me, ((s.same_beat p x).timeout).trans h.tm, (s.now_beat p x).trans h.now, Nat.le_succ_of_le h.nk, ?_, addS_at _ h.at_⟩
  · have ho := h.oth p
    cases hh : other me n p with
    | true =>
      rw [hh] at ho
      have := h.rel.beat p x ho
      rw [h.now] at this
      rw [addS, if_pos hh]
      exact this
    | false =>
      rw [hh] at ho
      rw [ES.beat_none ho, addS, if_neg (by show ¬ other me n p = true; rw [hh]; decide)]
      exact h.rel
  · have h1 := h.len
    have h2 := addS_len (me := me) (n := n) (nw := nw) (all := all) ⟨p, 0, true, false, x⟩
    omega
/-- While some are forgotten. -/
structure PFor (me n tm : Int) (k : Nat) (s : ES) (x : Nat) (j : Nat) (all : List Sd) (nw : Nat) : Prop where
  ok : s.Ok
  rel : FRel s x n j all
  me : s.me = me
  tm : s.timeout = tm
  now : s.now = nw
  nk : nw ≤ k
  len : all.length ≤ 64 * k + j
  at_ : ∀ e ∈ all, e.at_ ≤ nw
theorem PInv.for0 (h : PInv me n tm k s all nw) (x : Nat) : PFor me n tm k s x 0 all nw := ⟨h.ok, h.rel.forget0 x, h.me, h.tm, h.now, h.nk, h.len, h.at_⟩
theorem PFor.no {x j : Nat} (h : PFor me n tm k s x j all nw) (hb : x.testBit j = false) : PFor me n tm k s x (j + 1) all nw :=
  ⟨h.ok, h.rel.no (by rw [hb]; simp), h.me, h.tm, h.now, h.nk, by have := h.len; omega, h.at_⟩
theorem PFor.yes {x j : Nat} (h : PFor me n tm k s x j all nw) (hj : j < 64) (hb : x.testBit j = true) : PFor me n tm k s x (j + 1) (addS me n nw all ⟨j, 0, false, true, .zero⟩) nw := by
  have ho : hasB s.oth (j : Int) = other me n j := by rw [h.rel.oth, hasB_oth, h.me]
  rw [hasB_bit j hj] at ho
  refine ⟨h.ok, ?_, h.me, h.tm, h.now, h.nk, ?_, addS_at _ h.at_⟩
  · cases hh : other me n j with
    | true =>
      rw [hh] at ho
      have := h.rel.yes hj ⟨hb, ho⟩
      rw [h.now] at this
      rw [addS, if_pos hh]
      exact this
    | false =>
      rw [hh] at ho
      rw [addS, if_neg (by show ¬ other me n j = true; rw [hh]; decide)]
      exact h.rel.no (by rw [ho]; simp)
  · have h1 := h.len
    have h2 := addS_len (me := me) (n := n) (nw := nw) (all := all) ⟨j, 0, false, true, .zero⟩
    omega
theorem PFor.done {x : Nat} (h : PFor me n tm k s x 64 all nw) : PInv me n tm (k + 1) (s.forget x) all nw :=
  ⟨ES.forget_ok h.ok x, h.rel.done, ((s.same_forget x).me).trans h.me, ((s.same_forget x).timeout).trans h.tm, (s.now_forget x).trans h.now, Nat.le_succ_of_le h.nk, by have := h.len; omega, h.at_⟩
variable {a : Option Addr} {c cp : Nat} {w : World}
theorem PInv.rreach (h : PInv me n tm k s all nw) (hk : k ≤ 1000) (hr : Rd w 9 a c cp (all.flatMap sdF)) :
    Calls Tryd.prog 17 #[.agg #[.int .i64 me, .int .i64 n, .int .i64 tm, .int .i64 nw, .slice a c cp]] w fun e w' => e = .returned (.int .u64 s.reach) ∧ Below w.heap.size w w' := by
  refine (rreach_any me n tm nw a c cp all (by have := h.nk; omega) (fun e he => by have := h.at_ e he; have := h.nk; omega) w hr).mono ?_
  rintro e w' ⟨z, rfl, hz, hb⟩
  have := h.rel.reach (z := z) hz.out.1 (by rw [h.me, h.tm, h.now]; exact hz.out.2)
  exact ⟨by rw [this], hb⟩
theorem PInv.repoch (h : PInv me n tm k s all nw) (hr : Rd w 9 a c cp (all.flatMap sdF)) :
    Calls Tryd.prog 19 #[.agg #[.int .i64 me, .int .i64 n, .int .i64 tm, .int .i64 nw, .slice a c cp]] w fun e w' => e = .returned (.int .u64 s.epoch) ∧ Below w.heap.size w w' := by
  rw [← h.rel.epoch]
  exact repoch_any me n tm nw a c cp all w hr
theorem PInv.rstrange (h : PInv me n tm k s all nw) (x ce : Nat) (cr : Int) (hx : x < 18446744073709551616) (hr : Rd w 9 a c cp (all.flatMap sdF)) :
    Calls Tryd.prog 21 #[.agg #[.int .i64 me, .int .i64 n, .int .i64 tm, .int .i64 nw, .slice a c cp], .int .u64 x, .agg #[.int .u64 ce, .int .i64 cr]] w fun e w' => e = .returned (.int .u64 (s.strange x ce cr)) ∧ Below w.heap.size w w' := by
  refine (rstrange_any me n tm nw a c cp all x ce cr hx w hr).mono ?_
  rintro e w' ⟨z, rfl, hz, hb⟩
  have := h.rel.strange x ce cr (z := z) hz.out.1 hz.out.2
  exact ⟨by rw [this], hb⟩
theorem PInv.rof (h : PInv me n tm k s all nw) (p : Int) (hr : Rd w 9 a c cp (all.flatMap sdF)) :
    Calls Tryd.prog 15 #[.agg #[.int .i64 me, .int .i64 n, .int .i64 tm, .int .i64 nw, .slice a c cp], .int .i64 p] w fun e w' => ∃ y : Sd, e = .returned (.tuple #[.agg #[.int .i64 y.p, .int .i64 y.at_, .bool y.beat, .bool y.gone, .int .u64 y.b.ce, .int .i64 y.b.cr, .int .u64 y.b.pe, .int .i64 y.b.pr, .int .u64 y.b.ep], .bool (s.of p).2]) ∧ Hid (y.b = (s.of p).1) ∧ Below w.heap.size w w' :=
  rof_any me n tm nw a c cp all p (s.of p).1 (s.of p).2 (by rw [h.rel.of p]) w hr
end
/-- The memory between the calls. -/
structure PEnv (w0 : World) (b mb cb : Nat) (me n tm : Int) (ce : Nat) (cr : Int) (s : ES) (a : Option Addr) (c cp : Nat) (all : List Sd) (nw : Nat) (W : World) : Prop where
  e : HEnv w0 b s W
  m : BlkAt W mb 31 #[.int .i64 me, .int .i64 n, .int .i64 tm, .int .i64 nw, .slice a c cp]
  cf : BlkAt W cb 25 #[.int .u64 ce, .int .i64 cr]
  all : Rd W 9 a c cp (all.flatMap sdF)
  nb : ∀ g off, a = some ⟨g, off, none⟩ → g ≠ b ∧ g ≠ mb
  om : w0.heap.size ≤ mb
  nmb : mb ≠ b
  ncb : cb ≠ b
  ncm : cb ≠ mb
section
variable {w0 : World} {b mb cb : Nat} {me n tm : Int} {ce : Nat} {cr : Int} {s t : ES} {a : Option Addr} {c cp : Nat} {all : List Sd} {nw : Nat} {W W' : World}
theorem PEnv.below (h : PEnv w0 b mb cb me n tm ce cr s a c cp all nw W) (k : Below W.heap.size W W') : PEnv w0 b mb cb me n tm ce cr s a c cp all nw W' :=
  ⟨h.e.below k, h.m.below k h.m.lt, h.cf.below k h.cf.lt, Rd.below h.all k (Nat.le_refl _), h.nb, h.om, h.nmb, h.ncb, h.ncm⟩
theorem PEnv.kp (h : PEnv w0 b mb cb me n tm ce cr s a c cp all nw W) (h0 : 0 < w0.heap.size) (k : Kp b W W') (hw : EarAt W' b t) : PEnv w0 b mb cb me n tm ce cr t a c cp all nw W' :=
  ⟨h.e.kp h0 k hw, k.blk h.m h.nmb, k.blk h.cf h.ncb, k.rd h.all (fun g off e => (h.nb g off e).1), h.nb, h.om, h.nmb, h.ncb, h.ncm⟩
theorem PEnv.kpm (h : PEnv w0 b mb cb me n tm ce cr s a c cp all nw W) (h0 : 0 < w0.heap.size) (k : Kp mb W W') {a2 : Option Addr} {c2 cp2 nw2 : Nat} {al2 : List Sd} (hm : BlkAt W' mb 31 #[.int .i64 me, .int .i64 n, .int .i64 tm, .int .i64 nw2, .slice a2 c2 cp2]) (hr : Rd W 9 a2 c2 cp2 (al2.flatMap sdF)) (hnb : ∀ g off, a2 = some ⟨g, off, none⟩ → g ≠ b ∧ g ≠ mb) : PEnv w0 b mb cb me n tm ce cr s a2 c2 cp2 al2 nw2 W' :=
  ⟨h.e.kpo h0 h.om h.nmb.symm k, hm, k.blk h.cf h.ncm, k.rd hr (fun g off e => (hnb g off e).2), hnb, h.om, h.nmb, h.ncb, h.ncm⟩
end
end Go.Proofs.YtpnmhlcbmbpfdaaDoor
