/-
  No cell of these rows narrows 'for every input' (looked for: loops, veiled, ifaces, maps, wideKeys, modest, calm, conditions, laid).
  DERIVED. THE GIVEN ROWS OF THIS SEAT. 4 by the template 'for every input the law returns true; each argument reads behind the call as it read before'; 0 by the template 'total and deterministic' (their statements: YtdfnpaaejjediaaTotals.lean).
  GIVEN WITH THE SEED: the statements are not yours to turn. If you find one false, say at which input.
  Laid BY PROGRAM, IN A SANDBOX (cutbox-rows.mjs): the forced cells as the released guide's own fill.sh prints them over the translation 2bc82c02d1a73a7b… (all of the seat's roots in one cut). By AI agents, Wed Nov 11 2026. No macro, syntax, notation, axiom, sorry.
-/
import Derived.Test.YtdfnpaaejjediaaChecked
import GoSem.Claim
import GoSem.ClaimJoined
import GoSem.ClaimMapViews
import Derived.JoinedTies
import Derived.KernelRfl
namespace Go.Proofs.Ytdfnpaaejjediaa
/- THE CELL 'sum', in the pinned program and in every row, IS THE sha256 OF THE DUMP (.gsa) THAT YtdfnpaaejjediaaProg.lean LOADS. Nothing in Lean hashes anything: it is a label: what it is worth is what the hold of that sum in a sandbox is worth. -/
noncomputable def Try.pinned : Pinned := { name := "ytdfnpaaejjediaa", sum := "2bc82c02d1a73a7bd33088791fd830bf11cdb3279c9c4b0aa1c09f8ea216eb2c", checked := Try.checked }
namespace Rows
def none {H : Type} : Left H := { results := [], args := [] }

/-- 'consortlaw19.LogPrints': WHATEVER THE INPUT: true; the input reads as it did. -/
def logPrintsSpec : ChangeSpec := { name := "logPrints", fn := fun _ => fun
  | [d1, d2] => { results := [.lit (.bool true)], args := [d1, d2] }
  | _ => none }
def logPrintsRow : OpenClaim := { program := "ytdfnpaaejjediaa", sum := "2bc82c02d1a73a7bd33088791fd830bf11cdb3279c9c4b0aa1c09f8ea216eb2c", func := "consort/consortlaw19.LogPrints", spec := "logPrints", unfollowed := true, recurses := true, apart := false }
def LogPrintsSaid : Prop := logPrintsRow.holds Try.pinned (OpenSpec.ofChange logPrintsSpec)

/-- ITS FALSE NEIGHBOUR: 'it returns false'. Refute it at one input. -/
def logPrintsWrong : ChangeSpec := { name := "logPrints", fn := fun _ => fun
  | [d1, d2] => { results := [.lit (.bool false)], args := [d1, d2] }
  | _ => none }
def LogPrintsWrongFalsely : Prop := logPrintsRow.holds Try.pinned (OpenSpec.ofChange logPrintsWrong)

/-- 'consortlaw19.LogParses': WHATEVER THE INPUT: true; the input reads as it did. -/
def logParsesSpec : ChangeSpec := { name := "logParses", fn := fun _ => fun
  | [d] => { results := [.lit (.bool true)], args := [d] }
  | _ => none }
def logParsesRow : OpenClaim := { program := "ytdfnpaaejjediaa", sum := "2bc82c02d1a73a7bd33088791fd830bf11cdb3279c9c4b0aa1c09f8ea216eb2c", func := "consort/consortlaw19.LogParses", spec := "logParses", unfollowed := true, recurses := true, apart := false }
def LogParsesSaid : Prop := logParsesRow.holds Try.pinned (OpenSpec.ofChange logParsesSpec)

/-- ITS FALSE NEIGHBOUR: 'it returns false'. Refute it at one input. -/
def logParsesWrong : ChangeSpec := { name := "logParses", fn := fun _ => fun
  | [d] => { results := [.lit (.bool false)], args := [d] }
  | _ => none }
def LogParsesWrongFalsely : Prop := logParsesRow.holds Try.pinned (OpenSpec.ofChange logParsesWrong)

/-- 'consortlaw19.LogBack': WHATEVER THE INPUT: true; the input reads as it did. -/
def logBackSpec : ChangeSpec := { name := "logBack", fn := fun _ => fun
  | [d1, d2, d3] => { results := [.lit (.bool true)], args := [d1, d2, d3] }
  | _ => none }
def logBackRow : OpenClaim := { program := "ytdfnpaaejjediaa", sum := "2bc82c02d1a73a7bd33088791fd830bf11cdb3279c9c4b0aa1c09f8ea216eb2c", func := "consort/consortlaw19.LogBack", spec := "logBack", unfollowed := true, recurses := true, apart := false }
def LogBackSaid : Prop := logBackRow.holds Try.pinned (OpenSpec.ofChange logBackSpec)

/-- ITS FALSE NEIGHBOUR: 'it returns false'. Refute it at one input. -/
def logBackWrong : ChangeSpec := { name := "logBack", fn := fun _ => fun
  | [d1, d2, d3] => { results := [.lit (.bool false)], args := [d1, d2, d3] }
  | _ => none }
def LogBackWrongFalsely : Prop := logBackRow.holds Try.pinned (OpenSpec.ofChange logBackWrong)

/-- 'consortlaw19.LogSizes': WHATEVER THE INPUT: true; the input reads as it did. -/
def logSizesSpec : ChangeSpec := { name := "logSizes", fn := fun _ => fun
  | [d1, d2] => { results := [.lit (.bool true)], args := [d1, d2] }
  | _ => none }
def logSizesRow : OpenClaim := { program := "ytdfnpaaejjediaa", sum := "2bc82c02d1a73a7bd33088791fd830bf11cdb3279c9c4b0aa1c09f8ea216eb2c", func := "consort/consortlaw19.LogSizes", spec := "logSizes", unfollowed := true, recurses := true, apart := false }
def LogSizesSaid : Prop := logSizesRow.holds Try.pinned (OpenSpec.ofChange logSizesSpec)

/-- ITS FALSE NEIGHBOUR: 'it returns false'. Refute it at one input. -/
def logSizesWrong : ChangeSpec := { name := "logSizes", fn := fun _ => fun
  | [d1, d2] => { results := [.lit (.bool false)], args := [d1, d2] }
  | _ => none }
def LogSizesWrongFalsely : Prop := logSizesRow.holds Try.pinned (OpenSpec.ofChange logSizesWrong)

/- THE SECOND FORM. 'bulk': how many values and letters a reading holds, each counted each time it is reached (what is shared counts as often as it is met; a slice's spare places count too). A statement '..UptoSaid' is the law's where the arguments, and the package variables that the reading takes, are together of bulk at most 1048576: NARROWER than '..Said'. Prove '..Said' where nothing that the law and all that it calls make is longer than what came in: it says more and counts as full. Else prove '..UptoSaid'. A law counts once. -/
mutual
def uptoBulk {H : Type} : DataW H → Nat
  | .lit (.string bytes) => bytes.length + 1
  | .lit _ => 1
  | .nil => 1
  | .ptr d => uptoBulk d + 1
  | .slice elems spare => uptoBulkAll elems + uptoBulkAll spare + 1
  | .agg parts => uptoBulkAll parts + 1
  | .iface _ d => uptoBulk d + 1
  | .map entries => uptoBulkEntries entries + 1
  | .held _ => 1
def uptoBulkAll {H : Type} : List (DataW H) → Nat
  | [] => 0
  | d :: r => uptoBulk d + uptoBulkAll r
def uptoBulkEntries {H : Type} : List (Lit × DataW H) → Nat
  | [] => 0
  | x :: r => uptoBulkEntry x + uptoBulkEntries r
def uptoBulkEntry {H : Type} : Lit × DataW H → Nat
  | (.string bytes, d) => bytes.length + uptoBulk d + 1
  | (_, d) => uptoBulk d + 1
 end
def uptoSmall : (H : Type) → List (DataW H) → Bool := fun _ ds => decide (uptoBulkAll ds ≤ 1048576)
def OpenSpec.upto (s : _root_.Go.ChangeSpec) : _root_.Go.OpenSpec := { _root_.Go.OpenSpec.ofChange s with cond := some uptoSmall }

/-- 'consortlaw19.LogPrints', WHERE WHAT IT READS IS OF BULK AT MOST 1048576: true; the input reads as it did. -/
def logPrintsUptoRow : OpenClaim := { program := "ytdfnpaaejjediaa", sum := "2bc82c02d1a73a7bd33088791fd830bf11cdb3279c9c4b0aa1c09f8ea216eb2c", func := "consort/consortlaw19.LogPrints", spec := "logPrints", unfollowed := true, recurses := true, apart := false, narrowed := true }
def LogPrintsUptoSaid : Prop := logPrintsUptoRow.holds Try.pinned (OpenSpec.upto logPrintsSpec)

/-- 'consortlaw19.LogParses', WHERE WHAT IT READS IS OF BULK AT MOST 1048576: true; the input reads as it did. -/
def logParsesUptoRow : OpenClaim := { program := "ytdfnpaaejjediaa", sum := "2bc82c02d1a73a7bd33088791fd830bf11cdb3279c9c4b0aa1c09f8ea216eb2c", func := "consort/consortlaw19.LogParses", spec := "logParses", unfollowed := true, recurses := true, apart := false, narrowed := true }
def LogParsesUptoSaid : Prop := logParsesUptoRow.holds Try.pinned (OpenSpec.upto logParsesSpec)

/-- 'consortlaw19.LogBack', WHERE WHAT IT READS IS OF BULK AT MOST 1048576: true; the input reads as it did. -/
def logBackUptoRow : OpenClaim := { program := "ytdfnpaaejjediaa", sum := "2bc82c02d1a73a7bd33088791fd830bf11cdb3279c9c4b0aa1c09f8ea216eb2c", func := "consort/consortlaw19.LogBack", spec := "logBack", unfollowed := true, recurses := true, apart := false, narrowed := true }
def LogBackUptoSaid : Prop := logBackUptoRow.holds Try.pinned (OpenSpec.upto logBackSpec)

/-- 'consortlaw19.LogSizes', WHERE WHAT IT READS IS OF BULK AT MOST 1048576: true; the input reads as it did. -/
def logSizesUptoRow : OpenClaim := { program := "ytdfnpaaejjediaa", sum := "2bc82c02d1a73a7bd33088791fd830bf11cdb3279c9c4b0aa1c09f8ea216eb2c", func := "consort/consortlaw19.LogSizes", spec := "logSizes", unfollowed := true, recurses := true, apart := false, narrowed := true }
def LogSizesUptoSaid : Prop := logSizesUptoRow.holds Try.pinned (OpenSpec.upto logSizesSpec)

end Rows
end Go.Proofs.Ytdfnpaaejjediaa
