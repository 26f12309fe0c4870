/- plan: exchanges and messages as they lie; at, At -/
import Derived.Test.YtlgabjffnjciaaaDoorSetB
import Derived.Test.YtlgabjffnjciaaaDoorSetN
import Derived.Test.YtlgabjffnjciaaaDoorRow
import Derived.Test.YtlgabjffnjciaaaDoorQui
import Derived.Test.YtlgabjffnjciaaaDoorHeld
import Derived.Test.YtlgabjffnjciaaaDoorPut
import Derived.Test.YtlgabjffnjciaaaDoorOwn
import Derived.Test.YtlgabjffnjciaaaDoorKpo
import Derived.Test.YtlgabjffnjciaaaDoorPlanN
import Derived.StillTailTactics
import Derived.RegionTactic
import Derived.BigRegion
namespace Go.Proofs.YtlgabjffnjciaaaDoor
set_option linter.unusedSimpArgs false
set_option linter.unusedVariables false
open Go.RowKit

/-- An exchange. -/
structure Xv where
  who : Int
  oe : Int
  orp : Int
  cnt : List Nat
  ls : Int
  lf : Int
/-- An exchange, and where its counts lie. -/
structure Xc where
  v : Xv
  pa : Option Addr
  pn : Nat
  pc : Nat
def u32s (l : List Nat) : List Value := l.map fun (n : Nat) => Value.int .u32 n
def xcC (x : Xc) : List Value := [.int .i64 x.v.who, .int .u64 x.v.oe, .int .i64 x.v.orp, .slice x.pa x.pn x.pc, .int .u64 x.v.ls, .int .i64 x.v.lf]
def xcA (x : Xc) : Array Value := #[.int .i64 x.v.who, .int .u64 x.v.oe, .int .i64 x.v.orp, .slice x.pa x.pn x.pc, .int .u64 x.v.ls, .int .i64 x.v.lf]
theorem xcC_len (x : Xc) : (xcC x).length = 6 := rfl
def RdU (w : World) (a : Option Addr) (n c : Nat) (l : List Nat) : Prop := Rd w 1 a n c (u32s l)
structure RdX (w : World) (a : Option Addr) (n c : Nat) (l : List Xc) : Prop where
  row : Rd w 6 a n c (l.flatMap xcC)
  inn : ∀ x ∈ l, RdU w x.pa x.pn x.pc x.v.cnt
/-- A message, and where its Deps lie. -/
structure Mc where
  m : Ms
  pa : Option Addr
  pn : Nat
  pc : Nat
def mcC (x : Mc) : List Value := [.int .i64 x.m.src, .int .u32 x.m.seq, .int .u64 x.m.stamp, .int .i64 x.m.service, .slice x.pa x.pn x.pc, .string x.m.payload]
def mcA (x : Mc) : Array Value := #[.int .i64 x.m.src, .int .u32 x.m.seq, .int .u64 x.m.stamp, .int .i64 x.m.service, .slice x.pa x.pn x.pc, .string x.m.payload]
theorem mcC_len (x : Mc) : (mcC x).length = 6 := rfl
structure RdM (w : World) (a : Option Addr) (n c : Nat) (l : List Mc) : Prop where
  row : Rd w 6 a n c (l.flatMap mcC)
  inn : ∀ x ∈ l, RdU w x.pa x.pn x.pc x.m.deps

section
variable {w w' : World} {a : Option Addr} {n c : Nat}
theorem RdU.len {l : List Nat} (h : RdU w a n c l) : l.length = n := by
  have := Rd.length_eq h
  simpa [u32s] using this
theorem RdU.below {l : List Nat} (h : RdU w a n c l) (hb : Below w.heap.size w w') : RdU w' a n c l := Rd.below h hb (Nat.le_refl _)
theorem RdU.at {l : List Nat} {b off : Nat} (h : RdU w (some ⟨b, off, none⟩) n c l) {j : Nat} (hj : j < l.length) : w.cell? ⟨b, off + j, none⟩ = some (.int .u32 ((l[j] : Nat) : Int)) := by
  refine Rd.at h ?_
  rw [u32s, List.getElem?_map, List.getElem?_eq_getElem hj]; rfl
theorem RdU.addr {l : List Nat} (h : RdU w a n c l) (hn : 0 < n) : ∃ b off, a = some ⟨b, off, none⟩ ∧ b < w.heap.size := Rd.addr h hn
theorem RdU.le_max {l : List Nat} (h : RdU w a n c l) : n ≤ 9223372036854775807 := by have := Rd.le_max h; unfold maxLen at this; omega
theorem RdU.lt {l : List Nat} {b off : Nat} (h : RdU w (some ⟨b, off, none⟩) n c l) (hn : 0 < n) : b < w.heap.size := by obtain ⟨b', o', e, hlt⟩ := Rd.addr h hn; injection e with e; injection e with e1; rw [e1]; exact hlt
theorem RdX.len {l : List Xc} (h : RdX w a n c l) : l.length = n := by
  have := h.row.length_eq
  rw [flatMap_len xcC_len] at this
  omega
theorem RdX.le_max {l : List Xc} (h : RdX w a n c l) : n ≤ 9223372036854775807 := by have := h.row.le_max; unfold maxLen at this; omega
theorem RdX.below {l : List Xc} (h : RdX w a n c l) (hb : Below w.heap.size w w') : RdX w' a n c l := ⟨h.row.below hb (Nat.le_refl _), fun x hx => (h.inn x hx).below hb⟩
theorem RdX.nil (w : World) : RdX w none 0 0 [] := ⟨Rd.mk_nil w 6, fun x hx => by cases hx⟩
theorem row_cells {α : Type} {f : α → List Value} (hf : ∀ x, (f x).length = 6) {l : List α} {b off : Nat} (h : Rd w 6 (some ⟨b, off, none⟩) n c (l.flatMap f)) {k : Nat} (hk : k < l.length) {j : Nat} (hj : j < 6) {v : Value} (hv : (f l[k])[j]? = some v) : w.cell? ⟨b, off + k * 6 + j, none⟩ = some v := by
  rw [show off + k * 6 + j = off + (k * 6 + j) from by omega]
  refine Rd.at h ?_
  rw [flatMap_get hf _ _ _ hj, List.getElem?_eq_getElem hk]
  exact hv
theorem RdX.at {l : List Xc} (h : RdX w a n c l) {k : Nat} (hk : k < l.length) : ∃ b off, a = some ⟨b, off, none⟩ ∧ b < w.heap.size ∧ (w.cell? ⟨b, off + k * 6, none⟩ = some (.int .i64 l[k].v.who) ∧ w.cell? ⟨b, off + k * 6 + 1, none⟩ = some (.int .u64 l[k].v.oe) ∧ w.cell? ⟨b, off + k * 6 + 2, none⟩ = some (.int .i64 l[k].v.orp) ∧ w.cell? ⟨b, off + k * 6 + 3, none⟩ = some (.slice l[k].pa l[k].pn l[k].pc) ∧ w.cell? ⟨b, off + k * 6 + 4, none⟩ = some (.int .u64 l[k].v.ls) ∧ w.cell? ⟨b, off + k * 6 + 5, none⟩ = some (.int .i64 l[k].v.lf)) ∧ RdU w l[k].pa l[k].pn l[k].pc l[k].v.cnt := by
  have hl := h.len
  obtain ⟨b, off, rfl, hlt⟩ := Rd.addr h.row (by omega)
  have g := fun {j} (hj : j < 6) {v} (hv : (xcC l[k])[j]? = some v) => row_cells xcC_len h.row hk hj hv
  exact ⟨b, off, rfl, hlt, ⟨g (j := 0) (by decide) rfl, g (j := 1) (by decide) rfl, g (j := 2) (by decide) rfl, g (j := 3) (by decide) rfl, g (j := 4) (by decide) rfl, g (j := 5) (by decide) rfl⟩, h.inn _ (List.getElem_mem hk)⟩
theorem RdM.len {l : List Mc} (h : RdM w a n c l) : l.length = n := by
  have := h.row.length_eq
  rw [flatMap_len mcC_len] at this
  omega
theorem RdM.le_max {l : List Mc} (h : RdM w a n c l) : n ≤ 9223372036854775807 := by have := h.row.le_max; unfold maxLen at this; omega
theorem RdM.below {l : List Mc} (h : RdM w a n c l) (hb : Below w.heap.size w w') : RdM w' a n c l := ⟨h.row.below hb (Nat.le_refl _), fun x hx => (h.inn x hx).below hb⟩
theorem RdM.nil (w : World) : RdM w none 0 0 [] := ⟨Rd.mk_nil w 6, fun x hx => by cases hx⟩
theorem RdM.at {l : List Mc} (h : RdM w a n c l) {k : Nat} (hk : k < l.length) : ∃ b off, a = some ⟨b, off, none⟩ ∧ b < w.heap.size ∧ (w.cell? ⟨b, off + k * 6, none⟩ = some (.int .i64 l[k].m.src) ∧ w.cell? ⟨b, off + k * 6 + 1, none⟩ = some (.int .u32 l[k].m.seq) ∧ w.cell? ⟨b, off + k * 6 + 2, none⟩ = some (.int .u64 l[k].m.stamp) ∧ w.cell? ⟨b, off + k * 6 + 3, none⟩ = some (.int .i64 l[k].m.service) ∧ w.cell? ⟨b, off + k * 6 + 4, none⟩ = some (.slice l[k].pa l[k].pn l[k].pc) ∧ w.cell? ⟨b, off + k * 6 + 5, none⟩ = some (.string l[k].m.payload)) ∧ RdU w l[k].pa l[k].pn l[k].pc l[k].m.deps := by
  have hl := h.len
  obtain ⟨b, off, rfl, hlt⟩ := Rd.addr h.row (by omega)
  have g := fun {j} (hj : j < 6) {v} (hv : (mcC l[k])[j]? = some v) => row_cells mcC_len h.row hk hj hv
  exact ⟨b, off, rfl, hlt, ⟨g (j := 0) (by decide) rfl, g (j := 1) (by decide) rfl, g (j := 2) (by decide) rfl, g (j := 3) (by decide) rfl, g (j := 4) (by decide) rfl, g (j := 5) (by decide) rfl⟩, h.inn _ (List.getElem_mem hk)⟩
/-- Six cells of a block. -/
theorem blk6 {W : World} {b t : Nat} {c0 c1 c2 c3 c4 c5 : Value} (h : BlkAt W b t #[c0, c1, c2, c3, c4, c5]) : W.cell? ⟨b, 0, none⟩ = some c0 ∧ W.cell? ⟨b, 1, none⟩ = some c1 ∧ W.cell? ⟨b, 2, none⟩ = some c2 ∧ W.cell? ⟨b, 3, none⟩ = some c3 ∧ W.cell? ⟨b, 4, none⟩ = some c4 ∧ W.cell? ⟨b, 5, none⟩ = some c5 := ⟨h.cell rfl, h.cell rfl, h.cell rfl, h.cell rfl, h.cell rfl, h.cell rfl⟩
end
theorem Tryd.exI (x : Xc) : (Tryd.prog.info? 43).map (·.size) = some (xcA x).size := by show _ = some 6; kernel_rfl
theorem Tryd.exZ : (Tryd.prog.info? 43).map (·.zero) = some (some (.agg #[.int .i64 0, .int .u64 0, .int .i64 0, .slice none 0 0, .int .u64 0, .int .i64 0])) := by kernel_rfl
theorem Tryd.exE : Elt Tryd.prog 38 43 (.agg #[.int .i64 0, .int .u64 0, .int .i64 0, .slice none 0 0, .int .u64 0, .int .i64 0]) 6 64 := ⟨by kernel_rfl, by kernel_rfl, rfl, by decide⟩
theorem Tryd.u32E : Elt Tryd.prog 39 61 (.int .u32 0) 1 4 := ⟨by kernel_rfl, by kernel_rfl, rfl, by decide⟩
theorem xcA_one (x : Xc) : (xcA x).all (·.oneCell') = true := by simp [xcA, Value.oneCell']
theorem mcA_one (x : Mc) : (mcA x).all (·.oneCell') = true := by simp [mcA, Value.oneCell']
theorem xcC_one (l : List Xc) : ∀ u ∈ l.flatMap xcC, u.oneCell' = true := by
  intro u hu
  obtain ⟨x, _, hx⟩ := List.mem_flatMap.1 hu
  simp only [xcC, List.mem_cons, List.not_mem_nil, or_false] at hx
  rcases hx with rfl | rfl | rfl | rfl | rfl | rfl <;> rfl
theorem mcC_one (l : List Mc) : ∀ u ∈ l.flatMap mcC, u.oneCell' = true := by
  intro u hu
  obtain ⟨x, _, hx⟩ := List.mem_flatMap.1 hu
  simp only [mcC, List.mem_cons, List.not_mem_nil, or_false] at hx
  rcases hx with rfl | rfl | rfl | rfl | rfl | rfl <;> rfl
theorem Rd.blk1 {w : World} {e : TypeId} {cs : List Value} {sz b : Nat} (hb : b = w.heap.size) (hs : cs.length = sz) : Rd (w.alloc (.cells cs.toArray e)) sz (some ⟨b, 0, none⟩) 1 1 cs := by
  subst hb
  refine ⟨⟨by omega, Nat.le_refl _, by decide, fun h => by cases h⟩, .inr ⟨_, 0, rfl, by simp, fun j u' hu => ?_⟩⟩
  rw [World.cell?_alloc_at _ _ _ _ rfl]
  simpa using hu
theorem alloc_store {w w' : World} {o : Obj} (k : Kp w.heap.size (w.alloc o) w') : Below w.heap.size w w' := Kp.below ((Below.refl _ _).alloc (Nat.le_refl _) _) k (Nat.le_refl _) (by simp)
theorem alloc_below (w : World) (o : Obj) : Below w.heap.size w (w.alloc o) := (Below.refl _ _).alloc (Nat.le_refl _) _
theorem atL_at {l : List Nat} {k : Nat} (h : k < l.length) : atL l (k : Int) = l[k] := by
  rw [atL, if_neg (by omega), Int.toNat_natCast, List.getD_eq_getElem?_getD, List.getElem?_eq_getElem h]; rfl
theorem atL_no {l : List Nat} {p : Int} (h : p < 0 ∨ (l.length : Int) ≤ p) : atL l p = 0 := by
  unfold atL
  by_cases h0 : p < 0
  · rw [if_pos h0]
  · rw [if_neg h0, List.getD_eq_getElem?_getD, List.getElem?_eq_none (by omega)]; rfl
end Go.Proofs.YtlgabjffnjciaaaDoor
