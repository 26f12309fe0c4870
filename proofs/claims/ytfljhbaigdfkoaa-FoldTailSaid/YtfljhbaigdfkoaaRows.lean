/-
  No cell of these rows narrows 'for every input' (looked for: loops, veiled, ifaces, maps, wideKeys, modest, calm, conditions, laid).
  DERIVED. THE GIVEN ROWS OF THIS SEAT. 3 by the template 'for every input the law returns true; each argument reads behind the call as it read before'; 0 by the template 'total and deterministic' (their statements: YtfljhbaigdfkoaaTotals.lean).
  GIVEN WITH THE SEED: the statements are not yours to turn. If you find one false, say at which input.
  Laid BY PROGRAM, IN A SANDBOX (cutbox-rows.mjs): the forced cells as the released guide's own fill.sh prints them over the translation 01dbdda24e95df70… (all of the seat's roots in one cut). By AI agents, Wed Nov 11 2026. No macro, syntax, notation, axiom, sorry.
-/
import Derived.Test.YtfljhbaigdfkoaaChecked
import GoSem.Claim
import GoSem.ClaimJoined
import GoSem.ClaimMapViews
import Derived.JoinedTies
import Derived.KernelRfl
namespace Go.Proofs.Ytfljhbaigdfkoaa
/- THE CELL 'sum', in the pinned program and in every row, IS THE sha256 OF THE DUMP (.gsa) THAT YtfljhbaigdfkoaaProg.lean LOADS. Nothing in Lean hashes anything: it is a label: what it is worth is what the hold of that sum in a sandbox is worth. -/
noncomputable def Try.pinned : Pinned := { name := "ytfljhbaigdfkoaa", sum := "01dbdda24e95df7076c3ac1a06d597977f829b7c445449b4a7c40ae9793cd143", checked := Try.checked }
namespace Rows
def none {H : Type} : Left H := { results := [], args := [] }

/-- 'consortlaw22.FoldApplies': WHATEVER THE INPUT: true; the input reads as it did. -/
def foldAppliesSpec : ChangeSpec := { name := "foldApplies", fn := fun _ => fun
  | [d1, d2, d3] => { results := [.lit (.bool true)], args := [d1, d2, d3] }
  | _ => none }
def foldAppliesRow : OpenClaim := { program := "ytfljhbaigdfkoaa", sum := "01dbdda24e95df7076c3ac1a06d597977f829b7c445449b4a7c40ae9793cd143", func := "consort/consortlaw22.FoldApplies", spec := "foldApplies", apart := false }
def FoldAppliesSaid : Prop := foldAppliesRow.holds Try.pinned (OpenSpec.ofChange foldAppliesSpec)

/-- ITS FALSE NEIGHBOUR: 'it returns false'. Refute it at one input. -/
def foldAppliesWrong : ChangeSpec := { name := "foldApplies", fn := fun _ => fun
  | [d1, d2, d3] => { results := [.lit (.bool false)], args := [d1, d2, d3] }
  | _ => none }
def FoldAppliesWrongFalsely : Prop := foldAppliesRow.holds Try.pinned (OpenSpec.ofChange foldAppliesWrong)

/-- 'consortlaw22.FoldLast': WHATEVER THE INPUT: true; the input reads as it did. -/
def foldLastSpec : ChangeSpec := { name := "foldLast", fn := fun _ => fun
  | [d1, d2] => { results := [.lit (.bool true)], args := [d1, d2] }
  | _ => none }
def foldLastRow : OpenClaim := { program := "ytfljhbaigdfkoaa", sum := "01dbdda24e95df7076c3ac1a06d597977f829b7c445449b4a7c40ae9793cd143", func := "consort/consortlaw22.FoldLast", spec := "foldLast", apart := false }
def FoldLastSaid : Prop := foldLastRow.holds Try.pinned (OpenSpec.ofChange foldLastSpec)

/-- ITS FALSE NEIGHBOUR: 'it returns false'. Refute it at one input. -/
def foldLastWrong : ChangeSpec := { name := "foldLast", fn := fun _ => fun
  | [d1, d2] => { results := [.lit (.bool false)], args := [d1, d2] }
  | _ => none }
def FoldLastWrongFalsely : Prop := foldLastRow.holds Try.pinned (OpenSpec.ofChange foldLastWrong)

/-- 'consortlaw22.FoldTail': WHATEVER THE INPUT: true; the input reads as it did. -/
def foldTailSpec : ChangeSpec := { name := "foldTail", fn := fun _ => fun
  | [d1, d2, d3] => { results := [.lit (.bool true)], args := [d1, d2, d3] }
  | _ => none }
def foldTailRow : OpenClaim := { program := "ytfljhbaigdfkoaa", sum := "01dbdda24e95df7076c3ac1a06d597977f829b7c445449b4a7c40ae9793cd143", func := "consort/consortlaw22.FoldTail", spec := "foldTail", apart := false }
def FoldTailSaid : Prop := foldTailRow.holds Try.pinned (OpenSpec.ofChange foldTailSpec)

/-- ITS FALSE NEIGHBOUR: 'it returns false'. Refute it at one input. -/
def foldTailWrong : ChangeSpec := { name := "foldTail", fn := fun _ => fun
  | [d1, d2, d3] => { results := [.lit (.bool false)], args := [d1, d2, d3] }
  | _ => none }
def FoldTailWrongFalsely : Prop := foldTailRow.holds Try.pinned (OpenSpec.ofChange foldTailWrong)

/- THE SECOND FORM. 'bulk': how many values and letters a reading holds, each counted each time it is reached (what is shared counts as often as it is met; a slice's spare places count too). A statement '..UptoSaid' is the law's where the arguments, and the package variables that the reading takes, are together of bulk at most 1048576: NARROWER than '..Said'. Prove '..Said' where nothing that the law and all that it calls make is longer than what came in: it says more and counts as full. Else prove '..UptoSaid'. A law counts once. -/
mutual
def uptoBulk {H : Type} : DataW H → Nat
  | .lit (.string bytes) => bytes.length + 1
  | .lit _ => 1
  | .nil => 1
  | .ptr d => uptoBulk d + 1
  | .slice elems spare => uptoBulkAll elems + uptoBulkAll spare + 1
  | .agg parts => uptoBulkAll parts + 1
  | .iface _ d => uptoBulk d + 1
  | .map entries => uptoBulkEntries entries + 1
  | .held _ => 1
def uptoBulkAll {H : Type} : List (DataW H) → Nat
  | [] => 0
  | d :: r => uptoBulk d + uptoBulkAll r
def uptoBulkEntries {H : Type} : List (Lit × DataW H) → Nat
  | [] => 0
  | x :: r => uptoBulkEntry x + uptoBulkEntries r
def uptoBulkEntry {H : Type} : Lit × DataW H → Nat
  | (.string bytes, d) => bytes.length + uptoBulk d + 1
  | (_, d) => uptoBulk d + 1
 end
def uptoSmall : (H : Type) → List (DataW H) → Bool := fun _ ds => decide (uptoBulkAll ds ≤ 1048576)
def OpenSpec.upto (s : _root_.Go.ChangeSpec) : _root_.Go.OpenSpec := { _root_.Go.OpenSpec.ofChange s with cond := some uptoSmall }

/-- 'consortlaw22.FoldApplies', WHERE WHAT IT READS IS OF BULK AT MOST 1048576: true; the input reads as it did. -/
def foldAppliesUptoRow : OpenClaim := { program := "ytfljhbaigdfkoaa", sum := "01dbdda24e95df7076c3ac1a06d597977f829b7c445449b4a7c40ae9793cd143", func := "consort/consortlaw22.FoldApplies", spec := "foldApplies", apart := false, narrowed := true }
def FoldAppliesUptoSaid : Prop := foldAppliesUptoRow.holds Try.pinned (OpenSpec.upto foldAppliesSpec)

/-- 'consortlaw22.FoldLast', WHERE WHAT IT READS IS OF BULK AT MOST 1048576: true; the input reads as it did. -/
def foldLastUptoRow : OpenClaim := { program := "ytfljhbaigdfkoaa", sum := "01dbdda24e95df7076c3ac1a06d597977f829b7c445449b4a7c40ae9793cd143", func := "consort/consortlaw22.FoldLast", spec := "foldLast", apart := false, narrowed := true }
def FoldLastUptoSaid : Prop := foldLastUptoRow.holds Try.pinned (OpenSpec.upto foldLastSpec)

/-- 'consortlaw22.FoldTail', WHERE WHAT IT READS IS OF BULK AT MOST 1048576: true; the input reads as it did. -/
def foldTailUptoRow : OpenClaim := { program := "ytfljhbaigdfkoaa", sum := "01dbdda24e95df7076c3ac1a06d597977f829b7c445449b4a7c40ae9793cd143", func := "consort/consortlaw22.FoldTail", spec := "foldTail", apart := false, narrowed := true }
def FoldTailUptoSaid : Prop := foldTailUptoRow.holds Try.pinned (OpenSpec.upto foldTailSpec)

end Rows
end Go.Proofs.Ytfljhbaigdfkoaa
