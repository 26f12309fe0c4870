/- gather: what GatherPlays keeps -/
import Derived.Test.YtlgabjffnjciaaaDoorGatZc
namespace Go.Proofs.YtlgabjffnjciaaaDoor
set_option linter.unusedSimpArgs false
set_option linter.unusedVariables false
open Go.RowKit Go.Sort
theorem Tryd.bldR (ep rp m : Int) : Tryd.prog.built 53 [(0, .agg #[.int .u64 ep, .int .i64 rp]), (1, .int .u64 m)] = some #[.int .u64 ep, .int .i64 rp, .int .u64 m, .slice none 0 0, .int .u64 0] := by kernel_rfl
structure PlayE (w0 wr : World) (ib rb b mb : Nat) (ep rp : Int) (members : Nat) (v : AtV) (a : Option Addr) (n c : Nat) (xs : List Xc) : Prop where
  idb : BlkAt wr ib 24 #[.int .u64 ep, .int .i64 rp]
  rfb : BlkAt wr rb 53 (rfA v a n c)
  gat : GatC (fun g => g = rb) wr b mb v
  row : Rd wr 6 a n c (xs.flatMap xcC)
  away : ∀ g off, a = some ⟨g, off, none⟩ → g ≠ b ∧ g ≠ mb ∧ g ≠ rb
  cnt : ∀ x ∈ xs, RdU w0 x.pa x.pn x.pc x.v.cnt
  val : vX xs = v.xs
  inv : VInv v
  id : v.ep = ep ∧ v.rp = rp ∧ v.mem = members
  dis : (ib ≠ b ∧ ib ≠ mb ∧ ib ≠ rb) ∧ rb ≠ b ∧ rb ≠ mb
  new : w0.heap.size ≤ ib ∧ w0.heap.size ≤ rb ∧ w0.heap.size ≤ b ∧ w0.heap.size ≤ mb
  bel : Below w0.heap.size w0 wr
section
variable {w0 wr w' : World} {ib rb b mb members n c : Nat} {ep rp : Int} {v : AtV} {a : Option Addr} {xs : List Xc}
theorem PlayE.rf (h : PlayE w0 wr ib rb b mb ep rp members v a n c xs) : Rf wr v a n c xs := ⟨⟨h.row, fun x hx => (h.cnt x hx).below h.bel⟩, h.val, h.inv⟩
theorem PlayE.below (h : PlayE w0 wr ib rb b mb ep rp members v a n c xs) (hb : Below wr.heap.size wr w') : PlayE w0 w' ib rb b mb ep rp members v a n c xs :=
  ⟨h.idb.below hb h.idb.lt, h.rfb.below hb h.rfb.lt, h.gat.below hb, h.row.below hb (Nat.le_refl _), h.away, h.cnt, h.val, h.inv, h.id, h.dis, h.new, belS h.bel hb⟩
/-- While the attempt is ahead of the reference. -/
structure PlayH (w0 wr : World) (ib rb b mb : Nat) (ep rp : Int) (members : Nat) (v v2 : AtV) (a : Option Addr) (n c : Nat) (xs : List Xc) : Prop where
  idb : BlkAt wr ib 24 #[.int .u64 ep, .int .i64 rp]
  rfb : BlkAt wr rb 53 (rfA v a n c)
  gat : GatC (fun g => g = rb) wr b mb v2
  row : Rd wr 6 a n c (xs.flatMap xcC)
  away : ∀ g off, a = some ⟨g, off, none⟩ → g ≠ b ∧ g ≠ mb ∧ g ≠ rb
  cnt : ∀ x ∈ xs, RdU w0 x.pa x.pn x.pc x.v.cnt
  val : vX xs = v.xs
  inv : VInv v
  id : v.ep = ep ∧ v.rp = rp ∧ v.mem = members
  dis : (ib ≠ b ∧ ib ≠ mb ∧ ib ≠ rb) ∧ rb ≠ b ∧ rb ≠ mb
  new : w0.heap.size ≤ ib ∧ w0.heap.size ≤ rb ∧ w0.heap.size ≤ b ∧ w0.heap.size ≤ mb
  bel : Below w0.heap.size w0 wr
theorem PlayH.rf {v2 : AtV} (h : PlayH w0 wr ib rb b mb ep rp members v v2 a n c xs) : Rf wr v a n c xs := ⟨⟨h.row, fun x hx => (h.cnt x hx).below h.bel⟩, h.val, h.inv⟩
theorem PlayE.ahead (h : PlayE w0 wr ib rb b mb ep rp members v a n c xs) {v2 : AtV} (hG : GatC (fun g => g = rb) w' b mb v2) (hk : KpO (Own2 b mb) wr w') : PlayH w0 w' ib rb b mb ep rp members v v2 a n c xs := by
  obtain ⟨⟨d1, d2, d3⟩, d4, d5⟩ := h.dis
  obtain ⟨n1, n2, n3, n4⟩ := h.new
  refine ⟨hk.blk h.idb (fun e => by rcases e with e | e; exact d1 e; exact d2 e), hk.blk h.rfb (fun e => by rcases e with e | e; exact d4 e; exact d5 e), hG, hk.rd h.row (fun g off e ho => ?_), h.away, h.cnt, h.val, h.inv, h.id, h.dis, h.new, KpO.fresh h.bel hk n3 n4 h.bel.size⟩
  obtain ⟨a1, a2, _⟩ := h.away g off e
  rcases ho with ho | ho
  · exact a1 ho
  · exact a2 ho
/-- The reference comes after: its call laid new memory, and its block is written. -/
theorem PlayH.after {v2 : AtV} (h : PlayH w0 wr ib rb b mb ep rp members v v2 a n c xs) {w2 : World} {a' : Option Addr} {n' c' : Nat} {xs' : List Xc} (hb : Below wr.heap.size wr w2) (hR : Rf w2 v2 a' n' c' xs')
    (ha : ∀ g off, a' = some ⟨g, off, none⟩ → a = some ⟨g, off, none⟩ ∨ wr.heap.size ≤ g) (hx : ∀ y ∈ xs', RdU w0 y.pa y.pn y.pc y.v.cnt)
    (hid : v2.ep = v.ep ∧ v2.rp = v.rp ∧ v2.mem = v.mem) (hk : Kp rb w2 w') (hB : BlkAt w' rb 53 (rfA v2 a' n' c')) : PlayE w0 w' ib rb b mb ep rp members v2 a' n' c' xs' := by
  obtain ⟨⟨d1, d2, d3⟩, d4, d5⟩ := h.dis
  obtain ⟨n1, n2, n3, n4⟩ := h.new
  obtain ⟨i1, i2, i3⟩ := h.id
  obtain ⟨hlb, hlm⟩ := h.gat.gat.lt
  have hlr := h.rfb.lt
  have haw : ∀ g off, a' = some ⟨g, off, none⟩ → g ≠ b ∧ g ≠ mb ∧ g ≠ rb := fun g off e => by
    rcases ha g off e with e | e
    · exact h.away g off e
    · exact ⟨by omega, by omega, by omega⟩
  refine ⟨hk.blk (h.idb.below hb h.idb.lt) (fun e => d3 e), hB, ?_, Kp.rd hk hR.rd.row (fun g off e => (haw g off e).2.2), haw, hx, hR.val, hR.inv, ⟨hid.1.trans i1, hid.2.1.trans i2, hid.2.2.trans i3⟩, h.dis, h.new, Kp.below (belS h.bel hb) hk n2 (by have := h.bel.size; have := hb.size; omega)⟩
  exact (h.gat.below hb).kpO (KpO.ofKp (O := fun g => g = rb) hk rfl) (fun e => d4 e.symm) (fun e => d5 e.symm)
end
/-- A row of exchanges whose counts one may write: the row lies where it lay, each count is readable. -/
structure CntI (B : Nat) (w0 wr : World) (a : Option Addr) (n c : Nat) (xs : List Xc) : Prop where
  row : Rd wr 6 a n c (xs.flatMap xcC)
  len : xs.length = n
  fst : ∀ g off, a = some ⟨g, off, none⟩ → B ≤ g
  cnt : ∀ x ∈ xs, (x.pn = 0 ∨ ∃ g off, x.pa = some ⟨g, off, none⟩ ∧ B ≤ g ∧ g < wr.heap.size ∧ (∀ h o, a = some ⟨h, o, none⟩ → h ≠ g) ∧ ∀ j, j < x.pn → ∃ z : Int, wr.cell? ⟨g, off + j, none⟩ = some (.int .u32 z)) ∧ x.pn ≤ 9223372036854775807
  frz : ∀ g off, B ≤ g → wr.frozen? ⟨g, off, none⟩ = false ∨ True
  bel : Below B w0 wr
end Go.Proofs.YtlgabjffnjciaaaDoor
