/- gather: an attempt whose counts keep off some blocks; the calls of GatherCopies -/
import Derived.Test.YtlgabjffnjciaaaDoorGatS
import Derived.Test.YtlgabjffnjciaaaDoorGatN
namespace Go.Proofs.YtlgabjffnjciaaaDoor
set_option linter.unusedSimpArgs false
set_option linter.unusedVariables false
open Go.RowKit Go.Sort
def stepV (v : AtV) (y : Ac) : AtV := if y.rdy = true then rdyV v y.p else addV v y.x.v
def Off (F : Nat → Prop) (xs : List Xc) : Prop := ∀ x ∈ xs, ∀ g off, x.pa = some ⟨g, off, none⟩ → x.pn ≠ 0 → ¬ F g
/-- An attempt, and what it says; its counts keep off the blocks of F. -/
def GatC (F : Nat → Prop) (w : World) (b mb : Nat) (v : AtV) : Prop := ∃ s, GatAt w b mb s ∧ s.val = v ∧ Off F s.xs
def NoB (_ : Nat) : Prop := False
/-- Exchanges whose cells and counts lie in blocks from B on. -/
structure RdB (B : Nat) (w : World) (a : Option Addr) (n c : Nat) (l : List Xc) : Prop where
  rd : RdX w a n c l
  fst : ∀ g off, a = some ⟨g, off, none⟩ → B ≤ g
  nw : ∀ x ∈ l, ∀ g off, x.pa = some ⟨g, off, none⟩ → B ≤ g
section
variable {F O : Nat → Prop} {w w' : World} {b mb : Nat} {v : AtV}
theorem RdB.kpO {B : Nat} {a : Option Addr} {n c : Nat} {l : List Xc} (h : RdB B w a n c l) (hk : KpO O w w') (hO : ∀ g, O g → g < B) : RdB B w' a n c l :=
  ⟨⟨hk.rd h.rd.row (fun g off e ho => by have := h.fst g off e; have := hO g ho; omega), fun x hx => RdU.kpO hk (h.rd.inn x hx) (fun g off e _ ho => by have := h.nw x hx g off e; have := hO g ho; omega)⟩, h.fst, h.nw⟩
theorem RdB.below {B : Nat} {a : Option Addr} {n c : Nat} {l : List Xc} (h : RdB B w a n c l) (hb : Below w.heap.size w w') : RdB B w' a n c l := ⟨h.rd.below hb, h.fst, h.nw⟩
theorem ExRow.rdB {B : Nat} {a : Option Addr} {n c : Nat} {xs : List Xc} (h : ExRow B w (.slice a n c) n xs) : RdB B w a n c xs := by
  refine ⟨h.rd, fun g off e => ?_, h.nw⟩
  obtain ⟨_, h2⟩ := h.own
  rcases h2 with ⟨h2, _⟩ | ⟨k, cap, cur, h3, hb, _⟩
  · subst e; injection h2 with h2; cases h2
  · subst e; injection h3 with h3; injection h3 with h3; injection h3 with h3; omega
theorem GatC.gat (h : GatC F w b mb v) : Gat w b mb v := by
  obtain ⟨s, h1, h2, _⟩ := h
  exact ⟨s, h1, h2⟩
theorem Gat.noB (h : Gat w b mb v) : GatC NoB w b mb v := by
  obtain ⟨s, h1, h2⟩ := h
  exact ⟨s, h1, h2, fun _ _ _ _ _ _ hf => hf⟩
theorem GatC.below (h : GatC F w b mb v) (hb : Below w.heap.size w w') : GatC F w' b mb v := by
  obtain ⟨s, h1, h2, h3⟩ := h
  exact ⟨s, h1.below hb, h2, h3⟩
theorem GatC.kpO (h : GatC F w b mb v) (hk : KpO F w w') (h1 : ¬ F b) (h2 : ¬ F mb) : GatC F w' b mb v := by
  obtain ⟨s, g1, g2, g3⟩ := h
  exact ⟨s, g1.kpO hk h1 h2 g3, g2, g3⟩
theorem rdyN_xs (s : AtS) (p : Int) : (rdyN s p).xs = s.xs := by
  unfold rdyN
  split <;> rfl
theorem c_ready (p : Int) (t : Bool) (ht : t = (rdyC v p && doneV (rdyV v p))) (h : GatC F w b mb v) : Calls Tryd.prog 18 #[.pointer (some ⟨b, 0, none⟩), .int .i64 p] w fun e w' => e = .returned (.bool t) ∧ GatC F w' b mb (rdyV v p) ∧ KpO (Own2 b mb) w w' := by
  obtain ⟨s, h1, rfl, hF⟩ := h
  refine (ready_any s b mb p t (by rw [ht, rdyS_val, doneB_val, rdyN_val]) w h1).mono fun e w' ⟨h2, h3, h4⟩ => ⟨h2, ⟨_, h3, rdyN_val s p, by rw [rdyN_xs]; exact hF⟩, h4⟩
theorem c_add (hlt : ∀ g, F g → g < w.heap.size) (x : Xc) (t : Bool) (ht : t = (addC v x.v.who && toldV (addV v x.v))) (h : GatC F w b mb v) (hx : RdU w x.pa x.pn x.pc x.v.cnt) (hn : x.pn * 4 ≤ 140737488355328) : Calls Tryd.prog 19 #[.pointer (some ⟨b, 0, none⟩), .agg (xcA x)] w fun e w' => e = .returned (.bool t) ∧ GatC F w' b mb (addV v x.v) ∧ KpO (Own2 b mb) w w' := by
  obtain ⟨s, h1, rfl, hF⟩ := h
  exact (add_any s b mb x t ht w h1 hx hn).mono fun e w' ⟨h2, ⟨s', h3, h4, hN⟩, h5⟩ => ⟨h2, ⟨s', h3, h4, fun y hy g off e hn hf => by
    rcases hN y hy with h | h
    · exact hF y h g off e hn hf
    · have := h g off e
      have := hlt g hf
      omega⟩, h5⟩
theorem c_copy (h : Gat w b mb v) : Calls Tryd.prog 35 #[.pointer (some ⟨b, 0, none⟩)] w fun e w' => ∃ cb cmb, e = .returned (.pointer (some ⟨cb, 0, none⟩)) ∧ GatC (Own2 cb cmb) w' b mb v ∧ GatC (Own2 b mb) w' cb cmb v ∧ w.heap.size ≤ cb ∧ w.heap.size ≤ cmb ∧ Below w.heap.size w w' := by
  obtain ⟨s, h1, rfl⟩ := h
  refine (copy_any s b mb w h1).mono fun e w' ⟨cb, cmb, he, hG, hb1, hb2, hbel⟩ => ⟨cb, cmb, he, ⟨s, h1.below hbel, rfl, fun x hx g off e hn hf => ?_⟩, ⟨s, hG, rfl, fun x hx g off e hn hf => ?_⟩, hb1, hb2, hbel⟩
  · have := hG.away x hx g off e hn
    rcases hf with h | h
    · exact this.1 h
    · exact this.2 h
  · have := h1.away x hx g off e hn
    rcases hf with h | h
    · exact this.1 h
    · exact this.2 h
set_option maxHeartbeats 1600000 in
theorem do_any (hlt : ∀ g, F g → g < w.heap.size) (y : Ac) (h : GatC F w b mb v) (hx : RdU w y.x.pa y.x.pn y.x.pc y.x.v.cnt) (hn : y.x.pn * 4 ≤ 140737488355328) :
    Calls Tryd.prog 34 #[.pointer (some ⟨b, 0, none⟩), .agg (acA y)] w fun e w' => e = .returned (.tuple #[]) ∧ GatC F w' b mb (stepV v y) ∧ KpO (Own2 b mb) w w' := by
  have hb2 := (Below.refl w.heap.size w).alloc (Nat.le_refl _) (.cells (acA y) 45)
  have hB2 := BlkAt.new w 45 (acA y)
  have h2 := Lib.hid (h.below hb2)
  have hx2 := Lib.hid (hx.below hb2)
  have hlt2 := Lib.hid (fun g hg => Nat.lt_of_lt_of_le (hlt g hg) hb2.size)
  have hkb := Lib.hid (KpO.ofBelow (O := Own2 b mb) hb2)
  obtain ⟨x0, x1, x2, xr⟩ := blk8 hB2
  obtain ⟨rd, hrd⟩ : ∃ z, z = y.rdy := ⟨_, rfl⟩
  have hst := Lib.hid (show stepV v y = if rd = true then rdyV v y.p else addV v y.x.v from by rw [hrd]; rfl)
  rw [← hrd] at x0
  clear hrd h hx hlt hb2
  cases rd with
  | true =>
    go_enter Tryd.func34, Tryd.ntmps34
    go_wp2_with (refine wpList_blk_box rfl (.tmp 1) rfl rfl w.heap.size rfl ?_)
    refine (c_ready y.p _ rfl h2.out).mono ?_
    rintro e w3 ⟨rfl, hG, hk⟩
    go_wp2
    go_end0
    exact ⟨rfl, by rw [hst.out]; exact hG, hkb.out.trans hk (fun g hg => .inl hg)⟩
  | false =>
    have hi := Tryd.exI y.x
    go_enter Tryd.func34, Tryd.ntmps34
    go_wp2_with (first
      | (refine wpList_blk_box rfl (.tmp 1) rfl rfl w.heap.size rfl ?_)
      | (refine wpList_load_mid rfl _ (.tmp 11) rfl w.heap.size 2 rfl (xcC y.x) _ xr Tryd.underlying43 rfl hi ?_))
    refine (c_add hlt2.out y.x _ rfl h2.out hx2.out hn).mono ?_
    rintro e w3 ⟨rfl, hG, hk⟩
    go_wp2
    go_end0
    exact ⟨rfl, by rw [hst.out]; exact hG, hkb.out.trans hk (fun g hg => .inl hg)⟩
end
def vAt (members : Nat) (l : List Ac) (i : Nat) : AtV := (l.take i).foldl stepV ⟨1, 0, members, 0, []⟩
theorem vAt_succ (members : Nat) (l : List Ac) {i : Nat} (hi : i < l.length) : vAt members l (i + 1) = stepV (vAt members l i) l[i] := by
  unfold vAt
  rw [List.take_succ_eq_append_getElem hi, List.foldl_append]
  rfl
end Go.Proofs.YtlgabjffnjciaaaDoor
