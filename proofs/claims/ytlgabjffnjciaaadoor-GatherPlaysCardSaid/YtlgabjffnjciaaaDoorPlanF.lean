/- plan: key.greatest, key.Last, Boundary -/
import Derived.Test.YtlgabjffnjciaaaDoorPlanE
namespace Go.Proofs.YtlgabjffnjciaaaDoor
set_option linter.unusedSimpArgs false
set_option linter.unusedVariables false
open Go.RowKit
def kC (k : Int × Int) : List Value := [.int .u64 k.1, .int .i64 k.2]
def RdK (w : World) (a : Option Addr) (n c : Nat) (l : List (Int × Int)) : Prop := Rd w 2 a n c (l.flatMap kC)
section
variable {w w' : World} {a : Option Addr} {n c : Nat} {l : List (Int × Int)}
theorem RdK.len (h : RdK w a n c l) : l.length = n := by
  have := Rd.length_eq h
  rw [flatMap_len (sz := 2) (fun _ => rfl)] at this
  omega
theorem RdK.le_max (h : RdK w a n c l) : n ≤ 9223372036854775807 := by have := Rd.le_max h; unfold maxLen at this; omega
theorem RdK.below (h : RdK w a n c l) (hb : Below w.heap.size w w') : RdK w' a n c l := Rd.below h hb (Nat.le_refl _)
theorem RdK.at (h : RdK w a n c l) {k : Nat} (hk : k < l.length) : ∃ b off, a = some ⟨b, off, none⟩ ∧ b < w.heap.size ∧ w.cell? ⟨b, off + k * 2, none⟩ = some (.int .u64 l[k].1) ∧ w.cell? ⟨b, off + k * 2 + 1, none⟩ = some (.int .i64 l[k].2) := by
  have hl := h.len
  obtain ⟨b, off, rfl, hlt⟩ := Rd.addr h (by omega)
  have g : ∀ j (hj : j < 2) v, (kC l[k])[j]? = some v → w.cell? ⟨b, off + (k * 2 + j), none⟩ = some v := fun j hj v hv => by
    refine Rd.at h ?_
    rw [flatMap_get (sz := 2) (fun _ => rfl) _ _ _ hj, List.getElem?_eq_getElem hk]
    exact hv
  exact ⟨b, off, rfl, hlt, g 0 (by decide) _ rfl, g 1 (by decide) _ rfl⟩
end
theorem Tryd.keyI (a b : Int) : (Tryd.prog.info? 41).map (·.size) = some (#[Value.int .u64 a, .int .i64 b] : Array Value).size := by show _ = some 2; kernel_rfl
theorem Tryd.keyZ : (Tryd.prog.info? 41).map (·.zero) = some (some (.agg #[.int .u64 0, .int .i64 0])) := by kernel_rfl
theorem blk2 {W : World} {b t : Nat} {c0 c1 : Value} (h : BlkAt W b t #[c0, c1]) : W.cell? ⟨b, 0, none⟩ = some c0 ∧ W.cell? ⟨b, 1, none⟩ = some c1 := ⟨h.cell rfl, h.cell rfl⟩
def ksV (l : List Xv) : List (Int × Int) := l.map fun x => (x.ls, x.lf)
theorem ksV_snoc (l : List Xc) {k : Nat} (hk : k < l.length) : ksV (vX (l.take (k + 1))) = ksV (vX (l.take k)) ++ [(l[k].v.ls, l[k].v.lf)] := by
  rw [List.take_succ_eq_append_getElem hk, vX, vX, List.map_append, ksV, List.map_append]; rfl
end Go.Proofs.YtlgabjffnjciaaaDoor
