/- the net: its state, its cells; walks of process, Linked, Len, there -/
import Derived.Test.YtmlkmonapnebiaaDoorRSetB
import Derived.Test.YtmlkmonapnebiaaDoorRRowT
import Derived.Test.YtmlkmonapnebiaaDoorRQui
import Derived.Test.YtmlkmonapnebiaaDoorRKpo
import Derived.Test.YtmlkmonapnebiaaDoorROwn
import Derived.StillTailTactics
import Derived.RegionTactic
import Derived.BigRegion
namespace Go.Proofs.YtmlkmonapnebiaaDoorR
open Go.RowKit Go.Sort

/-- A datagram; a net. -/
structure Dg where
  src : Int
  dst : Int
  data : ByteArray
  torn : Bool
structure NS where
  n : Nat
  links : Nat → Nat
  l : List Dg
def Dg.zero : Dg := ⟨0, 0, ⟨#[]⟩, false⟩
def dgF (x : Dg) : List Value := [.int .i64 x.src, .int .i64 x.dst, .string x.data, .bool x.torn]
theorem dgF_len (x : Dg) : (dgF x).length = 4 := rfl
def netC (s : NS) (v : Value) : Array Value := rowT [.int .i64 s.n] (fun i => [.int .u64 (s.links i)]) 64 [v]
theorem netC_size (s : NS) (v : Value) : (netC s v).size = 66 := (rowT_size (sz := 1) (pre := [.int .i64 s.n]) (f := fun i => [.int .u64 (s.links i)]) (n := 64) (tl := [v]) (fun _ => rfl)).trans rfl
def NS.setL (s : NS) (p x : Nat) : NS := { s with links := fun i => if i = p then x else s.links i }
theorem netC_link (s : NS) (v : Value) (p x : Nat) (hp : p < 64) : (netC s v).setIfInBounds (1 + p) (.int .u64 x) = netC (s.setL p x) v := by
  have e := rowT_set_at (pre := [.int .i64 s.n]) (f := fun i => [.int .u64 (s.links i)]) (n := 64) (sz := 1) (tl := [v]) (fun _ => rfl) hp (j := 0) (by decide) (.int .u64 x)
  rw [Nat.mul_one, Nat.add_zero] at e
  refine e.trans ?_
  refine rowT_congr fun i _ => ?_
  show (if i = p then _ else _) = [Value.int .u64 ((if i = p then x else s.links i : Nat) : Int)]
  split <;> rfl
theorem netC_row (s : NS) (v u : Value) (l : List Dg) : (netC s v).setIfInBounds 65 u = netC { s with l := l } u :=
  (rowT_set_tl (pre := [.int .i64 s.n]) (f := fun i => [.int .u64 (s.links i)]) (n := 64) (sz := 1) (tl := [v]) (fun _ => rfl) 0 u).trans rfl
def RdD (w : World) (a : Option Addr) (n c : Nat) (l : List Dg) : Prop := Rd w 4 a n c (l.flatMap dgF)
theorem RdD.len {w : World} {a : Option Addr} {n c : Nat} {l : List Dg} (h : RdD w a n c l) : l.length = n := by
  have := Rd.length_eq h
  rw [flatMap_len dgF_len] at this
  omega
theorem RdD.at {w : World} {b off n c : Nat} {l : List Dg} (h : RdD w (some ⟨b, off, none⟩) n c l) (k : Nat) (hk : k < l.length) : w.cell? ⟨b, off + k * 4, none⟩ = some (.int .i64 l[k].src) ∧ w.cell? ⟨b, off + k * 4 + 1, none⟩ = some (.int .i64 l[k].dst) ∧ w.cell? ⟨b, off + k * 4 + 2, none⟩ = some (.string l[k].data) ∧ w.cell? ⟨b, off + k * 4 + 3, none⟩ = some (.bool l[k].torn) := by
  have e : ∀ j u, j < 4 → (dgF l[k])[j]? = some u → w.cell? ⟨b, off + (k * 4 + j), none⟩ = some u := fun j u hj hu =>
    Rd.at h (by rw [flatMap_get dgF_len _ _ _ hj, List.getElem?_eq_getElem hk]; exact hu)
  exact ⟨e 0 _ (by decide) rfl, e 1 _ (by decide) rfl, e 2 _ (by decide) rfl, e 3 _ (by decide) rfl⟩
/-- The net s lies in block b, its datagrams in a row of their own; both blocks are in O, and none below B. -/
structure NetAt (B : Nat) (w : World) (O : Nat → Prop) (b : Nat) (s : NS) (v : Value) : Prop where
  blk : BlkAt w b 55 (netC s v)
  row : w.ownsRow B 35 4 v s.l.length (s.l.flatMap dgF)
  own : ∀ g, v.ownBlock = some g → O g
  nb : v.ownBlock ≠ some b
  ob : O b
  lo : ∀ g, O g → B ≤ g
  hi : ∀ g, O g → g < w.heap.size
structure NS.Ok (s : NS) : Prop where
  n : s.n ≤ 64
  links : ∀ i, s.links i < 18446744073709551616
  len : s.l.length ≤ 4096
section
variable {B : Nat} {w w' : World} {O : Nat → Prop} {b : Nat} {s t : NS} {v : Value}
theorem NetAt.lt (h : NetAt B w O b s v) : b < w.heap.size := h.blk.lt
theorem NetAt.c0 (h : NetAt B w O b s v) : w.cell? ⟨b, 0, none⟩ = some (.int .i64 s.n) := h.blk.cell (rowT_pre (sz := 1) (fun _ => rfl) rfl)
theorem NetAt.cl (h : NetAt B w O b s v) (i : Nat) (hi : i < 64) : w.cell? ⟨b, 1 + i, none⟩ = some (.int .u64 (s.links i)) := by
  have e := rowT_at (pre := [.int .i64 s.n]) (f := fun i => [.int .u64 (s.links i)]) (n := 64) (sz := 1) (tl := [v]) (fun _ => rfl) hi (j := 0) (by decide)
  rw [Nat.mul_one, Nat.add_zero] at e
  exact h.blk.cell (e.trans rfl)
theorem NetAt.cv (h : NetAt B w O b s v) : w.cell? ⟨b, 65, none⟩ = some v :=
  h.blk.cell ((rowT_tl (pre := [.int .i64 s.n]) (f := fun i => [.int .u64 (s.links i)]) (n := 64) (sz := 1) (tl := [v]) (fun _ => rfl) 0).trans rfl)
theorem NetAt.fz (h : NetAt B w O b s v) (i : Nat) : w.frozen? ⟨b, i, none⟩ = false := h.blk.fz i
theorem NetAt.below (h : NetAt B w O b s v) (k : Below w.heap.size w w') : NetAt B w' O b s v :=
  ⟨h.blk.below k h.lt, own_belowB h.row k, h.own, h.nb, h.ob, h.lo, fun g hg => Nat.lt_of_lt_of_le (h.hi g hg) k.size⟩
theorem NetAt.frame {O' : Nat → Prop} (h : NetAt B w O b s v) (k : KpO O' w w') (hd : ∀ g, O g → ¬ O' g) : NetAt B w' O b s v :=
  ⟨k.blk h.blk (hd b h.ob), own_keep h.row fun g hg hlt => k.block g hlt (hd g (h.own g hg)), h.own, h.nb, h.ob, h.lo, fun g hg => Nat.lt_of_lt_of_le (h.hi g hg) k.size⟩
/-- Only cells of block b were written, and no datagram. -/
theorem NetAt.cells (h : NetAt B w O b s v) (k : Kp b w w') (hb : BlkAt w' b 55 (netC t v)) (hl : t.l = s.l) : NetAt B w' O b t v :=
  ⟨hb, by rw [hl]; exact own_keep h.row fun g hg hlt => k.block g hlt (fun e => h.nb (by rw [hg, e])), h.own, h.nb, h.ob, h.lo, fun g hg => Nat.lt_of_lt_of_le (h.hi g hg) k.size⟩
theorem NetAt.setL (h : NetAt B w O b s v) (p x : Nat) (hp : p < 64) : NetAt B (w.setCell ⟨b, 1 + p, none⟩ (.int .u64 x)) O b (s.setL p x) v ∧ Kp b w (w.setCell ⟨b, 1 + p, none⟩ (.int .u64 x)) := by
  have hk := (Kp.refl b w).setCell ⟨b, 1 + p, none⟩ rfl (.int .u64 x)
  have hb := h.blk.set (1 + p) (.int .u64 x)
  rw [netC_link s v p x hp] at hb
  exact ⟨h.cells hk hb rfl, hk⟩
def NS.inn (s : NS) (p : Int) : Bool := decide (0 ≤ p ∧ p < s.n)
def NS.linked (s : NS) (p q : Int) : Bool := s.inn p && hasB (s.links p.toNat) q
def NS.there (s : NS) (i : Int) : Bool := decide (0 ≤ i ∧ i < s.l.length)
theorem inn_t {p : Int} (h : s.inn p = true) (hs : s.Ok) : ∃ k : Nat, p = k ∧ k < s.n ∧ k < 64 := by
  unfold NS.inn at h
  have := of_decide_eq_true h
  have := hs.n
  exact ⟨p.toNat, by omega, by omega, by omega⟩
set_option maxHeartbeats 800000 in
set_option maxRecDepth 100000 in
theorem process_any (p : Int) (h : NetAt B w O b s v) :
    Calls Tryd.prog 29 #[.pointer (some ⟨b, 0, none⟩), .int .i64 p] w fun e w' => e = .returned (.bool (s.inn p)) ∧ w = w' := by
  have c0 := h.c0
  have HE := Lib.hid (show s.inn p = decide (0 ≤ p ∧ p < s.n) from rfl)
  by_cases h0 : 0 ≤ p
  · go_enter Tryd.func29, Tryd.ntmps29
    go_wp2
    go_ret
    exact ⟨ret_bool (by rw [HE.out, Bool.eq_iff_iff]; simp [h0]), rfl⟩
  · go_enter Tryd.func29, Tryd.ntmps29
    go_wp2
    go_ret
    exact ⟨ret_bool (by rw [HE.out]; exact (decide_eq_false (by omega)).symm), rfl⟩
set_option maxHeartbeats 800000 in
set_option maxRecDepth 100000 in
theorem linked_any (p q : Int) (hs : s.Ok) (h : NetAt B w O b s v) :
    Calls Tryd.prog 12 #[.pointer (some ⟨b, 0, none⟩), .int .i64 p, .int .i64 q] w fun e w' => e = .returned (.bool (s.linked p q)) ∧ w = w' := by
  have HP := process_any p h
  have HE := Lib.hid (show s.linked p q = (s.inn p && hasB (s.links p.toNat) q) from rfl)
  cases hi : s.inn p with
  | false =>
    rw [hi] at HP HE
    have HP := Lib.hid HP
    go_enter Tryd.func12, Tryd.ntmps12
    go_wp2_with fail
    refine HP.out.mono ?_
    rintro e w' ⟨rfl, rfl⟩
    go_wp2
    go_ret
    exact ⟨ret_bool (by rw [HE.out]; rfl), rfl⟩
  | true =>
    obtain ⟨k, rfl, hk, hk64⟩ := inn_t hi hs
    rw [hi] at HP HE
    have HP := Lib.hid HP
    have ck := h.cl k hk64
    have hkI : (k : Int) < 64 := by omega
    have HH := Lib.hid (fun W => has_any (s.links k) q (hs.links k) W)
    rw [Int.toNat_natCast] at HE
    generalize s.links k = x at *
    go_enter Tryd.func12, Tryd.ntmps12
    go_wp2_with fail
    refine HP.out.mono ?_
    rintro e w' ⟨rfl, rfl⟩
    go_wp2_with fail
    refine (HH.out _).mono ?_
    rintro e w' ⟨rfl, rfl⟩
    go_wp2
    go_ret
    exact ⟨ret_bool (by rw [HE.out, Bool.true_and]), rfl⟩
theorem NetAt.sl (h : NetAt B w O b s v) : ∃ a c, v = .slice a s.l.length c ∧ RdD w a s.l.length c s.l := by
  obtain ⟨a, c, e, hr⟩ := Rd.own h.row
  exact ⟨a, c, e, hr⟩
set_option maxHeartbeats 800000 in
set_option maxRecDepth 100000 in
theorem nlen_any (h : NetAt B w O b s v) :
    Calls Tryd.prog 19 #[.pointer (some ⟨b, 0, none⟩)] w fun e w' => e = .returned (.int .i64 s.l.length) ∧ w = w' := by
  have cv := h.cv
  obtain ⟨a, c, rfl, _⟩ := h.sl
  go_enter Tryd.func19, Tryd.ntmps19
  go_wp2
  go_ret
  exact ⟨rfl, rfl⟩
set_option maxHeartbeats 800000 in
set_option maxRecDepth 100000 in
theorem there_any (i : Int) (h : NetAt B w O b s v) :
    Calls Tryd.prog 33 #[.pointer (some ⟨b, 0, none⟩), .int .i64 i] w fun e w' => e = .returned (.bool (s.there i)) ∧ w = w' := by
  have cv := h.cv
  obtain ⟨a, c, rfl, _⟩ := h.sl
  have HE := Lib.hid (show s.there i = decide (0 ≤ i ∧ i < s.l.length) from rfl)
  by_cases h0 : 0 ≤ i
  · go_enter Tryd.func33, Tryd.ntmps33
    go_wp2
    go_ret
    exact ⟨ret_bool (by rw [HE.out, Bool.eq_iff_iff]; simp [h0]), rfl⟩
  · go_enter Tryd.func33, Tryd.ntmps33
    go_wp2
    go_ret
    exact ⟨ret_bool (by rw [HE.out]; exact (decide_eq_false (by omega)).symm), rfl⟩
end
end Go.Proofs.YtmlkmonapnebiaaDoorR
