/- how the steps of an argument are read -/
import Derived.Test.YtfljhbaigdfkoaaFoldB
namespace Go.Proofs.Ytfljhbaigdfkoaa
open Go.RowKit

/-- A step's reading. -/
def RSt : World → List Value → Int × ByteArray → Prop := RPair (RInt .i64) RStr
theorem rst_cells {w : World} {a : Option Addr} {n c : Nat} {l : List (Int × ByteArray)} (h : RSl RSt 2 w a n c l) : Rd w 2 a n c (stC l) :=
  h.flat stF (fun _ => rfl) (by decide) (fun w cs x ⟨c1, c2, e, ⟨e1, _⟩, e2, _⟩ => by rw [e, e1, e2]; rfl)
theorem rst_facts {w : World} {a : Option Addr} {n c : Nat} {l : List (Int × ByteArray)} (h : RSl RSt 2 w a n c l) : ∀ x ∈ l, (-9223372036854775808 ≤ x.1 ∧ x.1 ≤ 9223372036854775807) ∧ x.2.size ≤ 9223372036854775807 :=
  h.all (Q := fun x => (-9223372036854775808 ≤ x.1 ∧ x.1 ≤ 9223372036854775807) ∧ x.2.size ≤ 9223372036854775807) (fun cs x ⟨c1, c2, e, ⟨_, e1⟩, _, e2⟩ => ⟨wf_i64_bounds e1, e2⟩)
theorem opens_steps {H : Type} {enc : TypeId × Value → H} {W : World} : Opens enc Try.prog W 22 (RSlc RSt 2) :=
  opens_slice Try.underlying22 (by kernel_rfl) (by decide) (opens_struct Try.underlying27 (by kernel_rfl) (OpensFs.cons (sz := 1) (total := 1) rfl (by kernel_rfl) (opens_int Try.underlying3) (OpensFs.one rfl (by kernel_rfl) (opens_str Try.underlying9))))

end Go.Proofs.Ytfljhbaigdfkoaa
