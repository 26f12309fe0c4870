/- all but some blocks is kept -/
import Derived.Test.YtpkknhhohbobaaaGreatDoorBlk
namespace Go.Proofs.YtpkknhhohbobaaaGreatDoor
set_option linter.unusedSimpArgs false
set_option linter.unusedVariables false
open Go.RowKit

/-- All but the blocks of O is kept. -/
structure KpO (O : Nat → Prop) (w w' : World) : Prop where
  os : w'.os = w.os
  tape : w'.tape = w.tape
  output : w'.output = w.output
  size : w.heap.size ≤ w'.heap.size
  block : ∀ k, k < w.heap.size → ¬ O k → w'.heap[k]? = w.heap[k]?
section
variable {O O' : Nat → Prop} {x y z : World}
theorem KpO.refl (O : Nat → Prop) (w : World) : KpO O w w := ⟨rfl, rfl, rfl, Nat.le_refl _, fun _ _ _ => rfl⟩
theorem KpO.trans (h : KpO O x y) (k : KpO O' y z) (hO : ∀ g, O' g → O g ∨ x.heap.size ≤ g) : KpO O x z :=
  ⟨k.os.trans h.os, k.tape.trans h.tape, k.output.trans h.output, Nat.le_trans h.size k.size, fun i hi hb => (k.block i (Nat.lt_of_lt_of_le hi h.size) (fun hc => by rcases hO i hc with h | h; exact hb h; omega)).trans (h.block i hi hb)⟩
theorem KpO.ofBelow (h : Below x.heap.size x y) : KpO O x y := ⟨h.os, h.tape, h.output, h.size, fun i hi _ => h.block i hi⟩
theorem KpO.ofKp {b : Nat} (h : Kp b x y) (hb : O b) : KpO O x y := ⟨h.os, h.tape, h.output, h.size, fun i hi hn => h.block i hi (fun e => hn (e ▸ hb))⟩
theorem KpO.drewN (h : KpO O x y) (n : Nat) : KpO O x (y.drewN n) := ⟨h.os, h.tape, h.output, h.size, h.block⟩
theorem KpO.drew (h : KpO O x y) : KpO O x y.drew := ⟨h.os, h.tape, h.output, h.size, h.block⟩
theorem KpO.below {B : Nat} (h : Below B x y) (k : KpO O y z) (hb : ∀ g, O g → B ≤ g) (hB : B ≤ y.heap.size) : Below B x z :=
  h.trans ⟨k.os, k.tape, k.output, k.size, fun i hi => k.block i (by omega) (fun hc => by have := hb i hc; omega)⟩
theorem KpO.blk {c : Nat} {t : TypeId} {cs : Array Value} (k : KpO O x y) (h : BlkAt x c t cs) (hc : ¬ O c) : BlkAt y c t cs := (k.block c h.lt hc).trans h
theorem KpO.rd {size n c : Nat} {a : Option Addr} {xs : List Value} (k : KpO O x y) (h : Rd x size a n c xs) (hb : ∀ g off, a = some ⟨g, off, none⟩ → ¬ O g) : Rd y size a n c xs := by
  refine ⟨h.1, ?_⟩
  rcases h.2 with hn | ⟨g, off, rfl, hlt, hc⟩
  · exact .inl hn
  · exact .inr ⟨g, off, rfl, Nat.lt_of_lt_of_le hlt k.size, fun j u hu => by rw [World.cell?_of_block (w := x) (k.block g hlt (hb g off rfl))]; exact hc j u hu⟩
end
theorem own_keep {w w' : World} {B : Nat} {e : TypeId} {sz : Nat} {v : Value} {n : Nat} {xs : List Value} (h : w.ownsRow B e sz v n xs) (hk : ∀ g, v.ownBlock = some g → g < w.heap.size → w'.heap[g]? = w.heap[g]?) : w'.ownsRow B e sz v n xs := by
  have hlt := h.lt
  obtain ⟨h1, h2⟩ := h
  refine ⟨h1, ?_⟩
  rcases h2 with h2 | ⟨g, cap, cur, rfl, hb, hg, h3⟩
  · exact .inl h2
  · exact .inr ⟨g, cap, cur, rfl, hb, (hk g rfl (hlt g rfl).2).trans hg, h3⟩
theorem own_belowB {w w' : World} {B : Nat} {e : TypeId} {sz : Nat} {v : Value} {n : Nat} {xs : List Value} (h : w.ownsRow B e sz v n xs) (hb : Below w.heap.size w w') : w'.ownsRow B e sz v n xs :=
  own_keep h fun g _ hlt => hb.block g hlt

theorem KpO.setCell {O : Nat → Prop} {x y : World} (k : KpO O x y) (a : Addr) (ha : O a.block) (u : Value) : KpO O x (y.setCell a u) :=
  k.trans (KpO.ofKp ((Kp.refl a.block y).setCell a rfl u) ha) (fun g hg => .inl hg)
theorem KpO.ofGrown {O : Nat → Prop} {x y : World} {row : Option Nat} (g : x.grownBy y row) (hO : ∀ k, row = some k → O k) : KpO O x y :=
  ⟨g.os, g.tape, g.output, g.size, fun k hk hn => g.block k hk (fun e => hn (hO k e.symm))⟩
end Go.Proofs.YtpkknhhohbobaaaGreatDoor
