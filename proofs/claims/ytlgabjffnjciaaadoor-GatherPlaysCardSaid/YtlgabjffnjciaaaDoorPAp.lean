/- counts that lie apart from two rows -/
import Derived.Test.YtlgabjffnjciaaaDoorPlanA
import Derived.Test.YtlgabjffnjciaaaDoorApt
namespace Go.Proofs.YtlgabjffnjciaaaDoor
set_option linter.unusedSimpArgs false
set_option linter.unusedVariables false
open Go.RowKit
/-- Counts that lie apart from two rows. -/
def Ap (w : World) (lv rv : Value) (pa : Option Addr) (pn pc : Nat) (l : List Nat) : Prop := RdU w pa pn pc l ∧ ∀ g off, pa = some ⟨g, off, none⟩ → pn ≠ 0 → lv.ownBlock ≠ some g ∧ rv.ownBlock ≠ some g
theorem Ap.below {w w' : World} {lv rv : Value} {pa : Option Addr} {pn pc : Nat} {l : List Nat} (h : Ap w lv rv pa pn pc l) (hb : Below w.heap.size w w') : Ap w' lv rv pa pn pc l := ⟨h.1.below hb, h.2⟩
theorem Ap.swap {w : World} {lv rv : Value} {pa : Option Addr} {pn pc : Nat} {l : List Nat} (h : Ap w lv rv pa pn pc l) : Ap w rv lv pa pn pc l := ⟨h.1, fun g off e hn => ⟨(h.2 g off e hn).2, (h.2 g off e hn).1⟩⟩
theorem Ap.grown {w w' : World} {lv rv lv' : Value} {pa : Option Addr} {pn pc : Nat} {l : List Nat} (h : Ap w lv rv pa pn pc l) (hg : w.grownBy w' lv.ownBlock) (hv : lv'.ownBlock = lv.ownBlock ∨ ∀ k, lv'.ownBlock = some k → w.heap.size ≤ k) : Ap w' lv' rv pa pn pc l := by
  obtain ⟨hr, ha⟩ := h
  have hlt : ∀ g off, pa = some ⟨g, off, none⟩ → pn ≠ 0 → g < w.heap.size := fun g off e hn => by
    obtain ⟨b', o', e', hl⟩ := Rd.addr hr (by omega)
    rw [e] at e'; injection e' with e'; injection e' with e1; rw [e1]; exact hl
  refine ⟨⟨hr.1, ?_⟩, fun g off e hn => ⟨fun e2 => ?_, (ha g off e hn).2⟩⟩
  · rcases hr.2 with h0 | ⟨g, off, e, hl, hc⟩
    · exact .inl h0
    · by_cases hn : pn = 0
      · exact .inl hn
      · obtain ⟨n1, n2⟩ := ha g off e hn
        refine .inr ⟨g, off, e, Nat.lt_of_lt_of_le hl hg.size, fun j u hu => ?_⟩
        rw [World.cell?_of_block (w := w) (hg.block g hl (fun e3 => n1 e3.symm))]
        exact hc j u hu
  · rcases hv with e3 | e3
    · rw [e3] at e2; exact (ha g off e hn).1 e2
    · have := e3 g e2
      have := hlt g off e hn
      omega
theorem Ap.kp {w w' : World} {g : Nat} {lv rv : Value} {pa : Option Addr} {pn pc : Nat} {l : List Nat} (h : Ap w lv rv pa pn pc l) (hk : Kp g w w') (hg : ∀ off, pa = some ⟨g, off, none⟩ → pn = 0) : Ap w' lv rv pa pn pc l := by
  refine ⟨?_, h.2⟩
  by_cases hn : pn = 0
  · refine ⟨h.1.1, ?_⟩
    rcases h.1.2 with h2 | h2
    · exact .inl h2
    · exact .inl hn
  · exact Kp.rd hk h.1 (fun g' off e e2 => by subst e2; exact hn (hg off e))
end Go.Proofs.YtlgabjffnjciaaaDoor
