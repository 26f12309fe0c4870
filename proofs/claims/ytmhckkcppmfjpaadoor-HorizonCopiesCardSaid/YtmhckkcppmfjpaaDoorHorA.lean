/- the horizon: its state, its cells, its rows of promises; what a call of it keeps -/
import Derived.Test.YtmhckkcppmfjpaaDoorSetB
import Derived.Test.YtmhckkcppmfjpaaDoorNumB
import Derived.Test.YtmhckkcppmfjpaaDoorRow
import Derived.Test.YtmhckkcppmfjpaaDoorQui
import Derived.Test.YtmhckkcppmfjpaaDoorApt
import Derived.StillTailTactics
import Derived.RegionTactic
import Derived.BigRegion
namespace Go.Proofs.YtmhckkcppmfjpaaDoor
open Go.RowKit Go.Sort

/-- All but the blocks of O is kept. -/
structure KpO (O : Nat → Prop) (w w' : World) : Prop where
  os : w'.os = w.os
  tape : w'.tape = w.tape
  output : w'.output = w.output
  size : w.heap.size ≤ w'.heap.size
  block : ∀ k, k < w.heap.size → ¬ O k → w'.heap[k]? = w.heap[k]?
section
variable {O O' : Nat → Prop} {x y z : World}
theorem KpO.refl (O : Nat → Prop) (w : World) : KpO O w w := ⟨rfl, rfl, rfl, Nat.le_refl _, fun _ _ _ => rfl⟩
theorem KpO.trans (h : KpO O x y) (k : KpO O' y z) (hO : ∀ g, O' g → O g ∨ x.heap.size ≤ g) : KpO O x z :=
  ⟨k.os.trans h.os, k.tape.trans h.tape, k.output.trans h.output, Nat.le_trans h.size k.size, fun i hi hb => (k.block i (Nat.lt_of_lt_of_le hi h.size) (fun hc => by rcases hO i hc with h | h; exact hb h; omega)).trans (h.block i hi hb)⟩
theorem KpO.ofBelow (h : Below x.heap.size x y) : KpO O x y := ⟨h.os, h.tape, h.output, h.size, fun i hi _ => h.block i hi⟩
theorem KpO.ofKp {b : Nat} (h : Kp b x y) (hb : O b) : KpO O x y := ⟨h.os, h.tape, h.output, h.size, fun i hi hn => h.block i hi (fun e => hn (e ▸ hb))⟩
theorem KpO.drewN (h : KpO O x y) (n : Nat) : KpO O x (y.drewN n) := ⟨h.os, h.tape, h.output, h.size, h.block⟩
theorem KpO.drew (h : KpO O x y) : KpO O x y.drew := ⟨h.os, h.tape, h.output, h.size, h.block⟩
theorem KpO.below {B : Nat} (h : Below B x y) (k : KpO O y z) (hb : ∀ g, O g → B ≤ g) (hB : B ≤ y.heap.size) : Below B x z :=
  h.trans ⟨k.os, k.tape, k.output, k.size, fun i hi => k.block i (by omega) (fun hc => by have := hb i hc; omega)⟩
theorem KpO.blk {c : Nat} {t : TypeId} {cs : Array Value} (k : KpO O x y) (h : BlkAt x c t cs) (hc : ¬ O c) : BlkAt y c t cs := (k.block c h.lt hc).trans h
theorem KpO.rd {size n c : Nat} {a : Option Addr} {xs : List Value} (k : KpO O x y) (h : Rd x size a n c xs) (hb : ∀ g off, a = some ⟨g, off, none⟩ → ¬ O g) : Rd y size a n c xs := by
  refine ⟨h.1, ?_⟩
  rcases h.2 with hn | ⟨g, off, rfl, hlt, hc⟩
  · exact .inl hn
  · exact .inr ⟨g, off, rfl, Nat.lt_of_lt_of_le hlt k.size, fun j u hu => by rw [World.cell?_of_block (w := x) (k.block g hlt (hb g off rfl))]; exact hc j u hu⟩
end
theorem own_keep {w w' : World} {B : Nat} {e : TypeId} {sz : Nat} {v : Value} {n : Nat} {xs : List Value} (h : w.ownsRow B e sz v n xs) (hk : ∀ g, v.ownBlock = some g → g < w.heap.size → w'.heap[g]? = w.heap[g]?) : w'.ownsRow B e sz v n xs := by
  have hlt := h.lt
  obtain ⟨h1, h2⟩ := h
  refine ⟨h1, ?_⟩
  rcases h2 with h2 | ⟨g, cap, cur, rfl, hb, hg, h3⟩
  · exact .inl h2
  · exact .inr ⟨g, cap, cur, rfl, hb, (hk g rfl (hlt g rfl).2).trans hg, h3⟩
theorem own_belowB {w w' : World} {B : Nat} {e : TypeId} {sz : Nat} {v : Value} {n : Nat} {xs : List Value} (h : w.ownsRow B e sz v n xs) (hb : Below w.heap.size w w') : w'.ownsRow B e sz v n xs :=
  own_keep h fun g _ hlt => hb.block g hlt

/-- A promise; a mark; a horizon. -/
structure Pm where
  st : Nat
  sent : Nat
structure Mk where
  heard : Nat
  reached : Nat
  came : Nat
  ws : List Pm
structure HS where
  clock : Nat
  oth : Nat
  l : Nat → Mk
def pmF (x : Pm) : List Value := [.int .u64 x.st, .int .u32 x.sent]
theorem pmF_len (x : Pm) : (pmF x).length = 2 := rfl
def mkC (x : Mk) (v : Value) : List Value := [.int .u64 x.heard, .int .u64 x.reached, .int .u32 x.came, v]
def HS.pre (s : HS) : List Value := [.int .u64 s.clock, .int .u64 s.oth]
def horC (s : HS) (vs : Nat → Value) : Array Value := rowC s.pre (fun i => mkC (s.l i) (vs i)) 64
theorem horC_size (s : HS) (vs : Nat → Value) : (horC s vs).size = 258 := (rowC_size (pre := s.pre) (f := fun i => mkC (s.l i) (vs i)) (n := 64) (sz := 4) (fun _ => rfl)).trans rfl
def HS.set (s : HS) (p : Nat) (x : Mk) : HS := { s with l := fun k => if k = p then x else s.l k }
def setV (vs : Nat → Value) (p : Nat) (v : Value) : Nat → Value := fun k => if k = p then v else vs k
def RdP (w : World) (a : Option Addr) (n c : Nat) (l : List Pm) : Prop := Rd w 2 a n c (l.flatMap pmF)
theorem RdP.len {w : World} {a : Option Addr} {n c : Nat} {l : List Pm} (h : RdP w a n c l) : l.length = n := by
  have := Rd.length_eq h
  rw [flatMap_len pmF_len] at this
  omega
theorem RdP.at {w : World} {b off n c : Nat} {l : List Pm} (h : RdP w (some ⟨b, off, none⟩) n c l) (k : Nat) (hk : k < l.length) : w.cell? ⟨b, off + k * 2, none⟩ = some (.int .u64 l[k].st) ∧ w.cell? ⟨b, off + k * 2 + 1, none⟩ = some (.int .u32 l[k].sent) := by
  have e : ∀ j u, j < 2 → (pmF l[k])[j]? = some u → w.cell? ⟨b, off + (k * 2 + j), none⟩ = some u := fun j u hj hu =>
    Rd.at h (by rw [flatMap_get pmF_len _ _ _ hj, List.getElem?_eq_getElem hk]; exact hu)
  exact ⟨e 0 _ (by decide) rfl, e 1 _ (by decide) rfl⟩

/-- The horizon s lies in block b, its rows of promises in blocks of their own; all of these blocks are in O, and none below B. -/
structure HorAt (B : Nat) (w : World) (O : Nat → Prop) (b : Nat) (s : HS) (vs : Nat → Value) : Prop where
  blk : BlkAt w b 49 (horC s vs)
  row : ∀ i, i < 64 → w.ownsRow B 56 2 (vs i) (s.l i).ws.length ((s.l i).ws.flatMap pmF)
  sep : ∀ i j, i < 64 → j < 64 → i ≠ j → ∀ g, (vs i).ownBlock = some g → (vs j).ownBlock ≠ some g
  own : ∀ i, i < 64 → ∀ g, (vs i).ownBlock = some g → O g
  nb : ∀ i, i < 64 → (vs i).ownBlock ≠ some b
  ob : O b
  lo : ∀ g, O g → B ≤ g
  hi : ∀ g, O g → g < w.heap.size
structure HS.Ok (s : HS) : Prop where
  clock : s.clock < 18446744073709551616
  oth : s.oth < 18446744073709551616
  heard : ∀ i, (s.l i).heard < 18446744073709551616
  reached : ∀ i, (s.l i).reached < 18446744073709551616
  came : ∀ i, (s.l i).came < 4294967296
  st : ∀ i, ∀ x ∈ (s.l i).ws, x.st < 18446744073709551616
  sent : ∀ i, ∀ x ∈ (s.l i).ws, x.sent < 4294967296
section
variable {B : Nat} {w w' : World} {O : Nat → Prop} {b : Nat} {s : HS} {vs : Nat → Value}
theorem HorAt.lt (h : HorAt B w O b s vs) : b < w.heap.size := h.blk.lt
theorem HorAt.c0 (h : HorAt B w O b s vs) : w.cell? ⟨b, 0, none⟩ = some (.int .u64 s.clock) := h.blk.cell (rowC_pre rfl)
theorem HorAt.c1 (h : HorAt B w O b s vs) : w.cell? ⟨b, 1, none⟩ = some (.int .u64 s.oth) := h.blk.cell (rowC_pre rfl)
theorem HorAt.cj (h : HorAt B w O b s vs) (i j : Nat) (hi : i < 64) (hj : j < 4) {v : Value} (hv : (mkC (s.l i) (vs i))[j]? = some v) : w.cell? ⟨b, 2 + i * 4 + j, none⟩ = some v :=
  h.blk.cell ((rowC_at (pre := s.pre) (f := fun i => mkC (s.l i) (vs i)) (fun _ => rfl) hi hj).trans hv)
theorem HorAt.mrk (h : HorAt B w O b s vs) (i : Nat) (hi : i < 64) : w.cell? ⟨b, 2 + i * 4, none⟩ = some (.int .u64 (s.l i).heard) ∧ w.cell? ⟨b, 2 + i * 4 + 1, none⟩ = some (.int .u64 (s.l i).reached) ∧ w.cell? ⟨b, 2 + i * 4 + 2, none⟩ = some (.int .u32 (s.l i).came) ∧ w.cell? ⟨b, 2 + i * 4 + 3, none⟩ = some (vs i) :=
  ⟨h.cj i 0 hi (by decide) rfl, h.cj i 1 hi (by decide) rfl, h.cj i 2 hi (by decide) rfl, h.cj i 3 hi (by decide) rfl⟩
theorem HorAt.fz (h : HorAt B w O b s vs) (i : Nat) : w.frozen? ⟨b, i, none⟩ = false := h.blk.fz i
theorem HorAt.below (h : HorAt B w O b s vs) (k : Below w.heap.size w w') : HorAt B w' O b s vs :=
  ⟨h.blk.below k h.lt, fun i hi => own_belowB (h.row i hi) k, h.sep, h.own, h.nb, h.ob, h.lo, fun g hg => Nat.lt_of_lt_of_le (h.hi g hg) k.size⟩
theorem HorAt.drewN (h : HorAt B w O b s vs) (n : Nat) : HorAt B (w.drewN n) O b s vs := h.below (belN (Below.refl _ _) n)
theorem HorAt.drew (h : HorAt B w O b s vs) : HorAt B w.drew O b s vs := h.drewN 1
/-- Another call's doing, whose blocks are none of these. -/
theorem HorAt.frame {O' : Nat → Prop} (h : HorAt B w O b s vs) (k : KpO O' w w') (hd : ∀ g, O g → ¬ O' g) : HorAt B w' O b s vs :=
  ⟨k.blk h.blk (hd b h.ob), fun i hi => own_keep (h.row i hi) fun g hg hlt => k.block g hlt (hd g (h.own i hi g hg)), h.sep, h.own, h.nb, h.ob, h.lo, fun g hg => Nat.lt_of_lt_of_le (h.hi g hg) k.size⟩
/-- Only cells of block b were written, and no promise. -/
theorem HorAt.cells {t : HS} (h : HorAt B w O b s vs) (k : Kp b w w') (hb : BlkAt w' b 49 (horC t vs)) (hw : ∀ i, (t.l i).ws = (s.l i).ws) : HorAt B w' O b t vs :=
  ⟨hb, fun i hi => by rw [hw i]; exact own_keep (h.row i hi) fun g hg hlt => k.block g hlt (fun e => h.nb i hi (by rw [hg, e])), h.sep, h.own, h.nb, h.ob, h.lo, fun g hg => Nat.lt_of_lt_of_le (h.hi g hg) k.size⟩
theorem ownB_setV {p : Nat} {v : Value} {i : Nat} (hi : i ≠ p) : setV vs p v i = vs i := if_neg hi
theorem setV_same {p : Nat} {v : Value} : setV vs p v p = v := if_pos rfl
/-- Member p's row is another one, in its old block or in a new one. -/
theorem HorAt.newRow {t : HS} {p : Nat} {v : Value} (h : HorAt B w O b s vs) (hp : p < 64) (k : KpO (fun g => g = b ∨ (vs p).ownBlock = some g) w w') (hb : BlkAt w' b 49 (horC t (setV vs p v)))
    (hw : ∀ i, i ≠ p → (t.l i).ws = (s.l i).ws) (hr : w'.ownsRow B 56 2 v (t.l p).ws.length ((t.l p).ws.flatMap pmF)) (hv : v.ownBlock = (vs p).ownBlock ∨ ∀ g, v.ownBlock = some g → w.heap.size ≤ g) :
    HorAt B w' (fun g => O g ∨ v.ownBlock = some g) b t (setV vs p v) where
  blk := hb
  row i hi := by
    by_cases e : i = p
    · subst e; rw [setV_same]; exact hr
    · rw [ownB_setV e, hw i e]
      exact own_keep (h.row i hi) fun g hg hlt => k.block g hlt (fun hc => by
        rcases hc with hc | hc
        · exact h.nb i hi (by rw [hg, hc])
        · exact h.sep i p hi hp e g hg hc)
  sep i j hi hj hij g hg := by
    by_cases e : i = p
    · subst e
      rw [setV_same] at hg
      rw [ownB_setV (fun e => hij e.symm)]
      intro hg'
      rcases hv with hv | hv
      · exact h.sep i j hi hj hij g (by rw [← hv, hg]) hg'
      · have := hv g hg
        have := (h.row j hj).lt g hg'
        omega
    · rw [ownB_setV e] at hg
      by_cases e' : j = p
      · subst e'
        rw [setV_same]
        intro hg'
        rcases hv with hv | hv
        · exact h.sep i j hi hj hij g hg (by rw [← hv, hg'])
        · have := hv g hg'
          have := (h.row i hi).lt g hg
          omega
      · rw [ownB_setV e']
        exact h.sep i j hi hj hij g hg
  own i hi g hg := by
    by_cases e : i = p
    · subst e; rw [setV_same] at hg; exact .inr hg
    · rw [ownB_setV e] at hg; exact .inl (h.own i hi g hg)
  nb i hi := by
    by_cases e : i = p
    · subst e
      rw [setV_same]
      intro hg
      rcases hv with hv | hv
      · exact h.nb i hi (by rw [← hv, hg])
      · have := hv b hg
        have := h.lt
        omega
    · rw [ownB_setV e]; exact h.nb i hi
  ob := .inl h.ob
  lo g hg := by
    rcases hg with hg | hg
    · exact h.lo g hg
    · exact (hr.lt g hg).1
  hi g hg := by
    rcases hg with hg | hg
    · exact Nat.lt_of_lt_of_le (h.hi g hg) k.size
    · exact (hr.lt g hg).2
end
theorem horC_clock (s : HS) (vs : Nat → Value) (c : Nat) : (horC s vs).setIfInBounds 0 (.int .u64 c) = horC { s with clock := c } vs := (rowC_set_pre (by simp [HS.pre]) _).trans rfl
theorem horC_set (s : HS) (vs : Nat → Value) (p j : Nat) (hp : p < 64) (hj : j < 4) (u : Value) (x : Mk) (v : Value) (hx : (mkC (s.l p) (vs p)).set j u = mkC x v) : (horC s vs).setIfInBounds (2 + p * 4 + j) u = horC (s.set p x) (setV vs p v) := by
  refine (rowC_set_at (pre := s.pre) (f := fun i => mkC (s.l i) (vs i)) (fun _ => rfl) hp hj u).trans ?_
  show rowC s.pre _ 64 = rowC s.pre _ 64
  refine rowC_congr fun i _ => ?_
  show (if i = p then _ else _) = mkC (if i = p then x else s.l i) (if i = p then v else vs i)
  split
  · exact hx
  · rfl
theorem setV_id (vs : Nat → Value) (p : Nat) : setV vs p (vs p) = vs := by
  funext k
  unfold setV
  split
  · rename_i e; rw [e]
  · rfl
theorem horC_cell (s : HS) (vs : Nat → Value) (p j : Nat) (hp : p < 64) (hj : j < 4) (u : Value) (x : Mk) (hx : (mkC (s.l p) (vs p)).set j u = mkC x (vs p)) : (horC s vs).setIfInBounds (2 + p * 4 + j) u = horC (s.set p x) vs := by
  rw [horC_set s vs p j hp hj u x (vs p) hx, setV_id]
theorem HS.set_set (s : HS) (p : Nat) (x y : Mk) : (s.set p x).set p y = s.set p y := by
  unfold HS.set
  congr 1
  funext k
  dsimp only; split <;> rfl
theorem HS.set_at (s : HS) (p : Nat) (x : Mk) : (s.set p x).l p = x := if_pos rfl
theorem HS.set_ne (s : HS) (p : Nat) (x : Mk) {i : Nat} (h : i ≠ p) : (s.set p x).l i = s.l i := if_neg h
end Go.Proofs.YtmhckkcppmfjpaaDoor
