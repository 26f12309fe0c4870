/-
  NARROWER THAN 'FOR EVERY INPUT', by the rows' own cells (each row's printed sentence says how): HorizonRises: laid · HorizonWaits: laid · HorizonMore: laid · HorizonCopies: laid.
  DERIVED. THE GIVEN ROWS OF THIS SEAT. 4 by the template 'for every input the law returns true; each argument reads behind the call as it read before'; 0 by the template 'total and deterministic' (their statements: YtmhckkcppmfjpaaDoorTotals.lean).
  GIVEN WITH THE SEED: the statements are not yours to turn. If you find one false, say at which input.
  Laid BY PROGRAM, IN A SANDBOX (cutbox-rows.mjs): the forced cells as the released guide's own fill.sh prints them over the translation d2421bdb6dce8d3d… (all of the seat's roots in one cut). By AI agents, Wed Nov 11 2026. No macro, syntax, notation, axiom, sorry.
-/
import Derived.Test.YtmhckkcppmfjpaaDoorChecked
import GoSem.Claim
import GoSem.ClaimJoined
import GoSem.ClaimMapViews
import Derived.JoinedTies
import Derived.KernelRfl
namespace Go.Proofs.YtmhckkcppmfjpaaDoor
/- THE CELL 'sum', in the pinned program and in every row, IS THE sha256 OF THE DUMP (.gsa) THAT YtmhckkcppmfjpaaDoorProg.lean LOADS. Nothing in Lean hashes anything: it is a label: what it is worth is what the hold of that sum in a sandbox is worth. -/
noncomputable def Tryd.pinned : Pinned := { name := "ytmhckkcppmfjpaadoor", sum := "d2421bdb6dce8d3df23698fab352b502a204f090e4d9b5623b7b63b56fb3290c", checked := Tryd.checked }
namespace Rows
def none {H : Type} : Left H := { results := [], args := [] }

/- WHAT THE LISTED PACKAGE-LEVEL VARIABLES READ AS WHEN THE CALL BEGINS. Each datum BY PROGRAM (the guide's laid-datum.mjs) off the statement by which the dump's own 'gosem.cut.vars' lays the variable. In a bare row this is a premise. The card (YtmhckkcppmfjpaaDoorCards.lean) ties it to the program's text. -/
def laid_math_bits_deBruijn64tab {H : Type} : DataW H := .agg [.lit (.int .u8 0), .lit (.int .u8 1), .lit (.int .u8 56), .lit (.int .u8 2), .lit (.int .u8 57), .lit (.int .u8 49), .lit (.int .u8 28), .lit (.int .u8 3), .lit (.int .u8 61), .lit (.int .u8 58), .lit (.int .u8 42), .lit (.int .u8 50), .lit (.int .u8 38), .lit (.int .u8 29), .lit (.int .u8 17), .lit (.int .u8 4), .lit (.int .u8 62), .lit (.int .u8 47), .lit (.int .u8 59), .lit (.int .u8 36), .lit (.int .u8 45), .lit (.int .u8 43), .lit (.int .u8 51), .lit (.int .u8 22), .lit (.int .u8 53), .lit (.int .u8 39), .lit (.int .u8 33), .lit (.int .u8 30), .lit (.int .u8 24), .lit (.int .u8 18), .lit (.int .u8 12), .lit (.int .u8 5), .lit (.int .u8 63), .lit (.int .u8 55), .lit (.int .u8 48), .lit (.int .u8 27), .lit (.int .u8 60), .lit (.int .u8 41), .lit (.int .u8 37), .lit (.int .u8 16), .lit (.int .u8 46), .lit (.int .u8 35), .lit (.int .u8 44), .lit (.int .u8 21), .lit (.int .u8 52), .lit (.int .u8 32), .lit (.int .u8 23), .lit (.int .u8 11), .lit (.int .u8 54), .lit (.int .u8 26), .lit (.int .u8 40), .lit (.int .u8 15), .lit (.int .u8 34), .lit (.int .u8 20), .lit (.int .u8 31), .lit (.int .u8 10), .lit (.int .u8 25), .lit (.int .u8 14), .lit (.int .u8 19), .lit (.int .u8 9), .lit (.int .u8 13), .lit (.int .u8 8), .lit (.int .u8 7), .lit (.int .u8 6)]

/-- 'consortlaw13.HorizonRises': WHATEVER THE INPUT: true; the input reads as it did. -/
def horizonRisesSpec : ChangeSpec := { name := "horizonRises", fn := fun _ => fun
  | [d1, d2, d3] => { results := [.lit (.bool true)], args := [d1, d2, d3] }
  | _ => none }
def horizonRisesRow : OpenClaim := { program := "ytmhckkcppmfjpaadoor", sum := "d2421bdb6dce8d3df23698fab352b502a204f090e4d9b5623b7b63b56fb3290c", func := "consort/consortlaw13.HorizonRises", spec := "horizonRises", unfollowed := true, recurses := true, named := ["math/bits.deBruijn64tab"], apart := false, laid := [("math/bits.deBruijn64tab", laid_math_bits_deBruijn64tab)] }
def HorizonRisesSaid : Prop := horizonRisesRow.holds Tryd.pinned (OpenSpec.ofChange horizonRisesSpec)

/-- ITS FALSE NEIGHBOUR: 'it returns false'. Refute it at one input. -/
def horizonRisesWrong : ChangeSpec := { name := "horizonRises", fn := fun _ => fun
  | [d1, d2, d3] => { results := [.lit (.bool false)], args := [d1, d2, d3] }
  | _ => none }
def HorizonRisesWrongFalsely : Prop := horizonRisesRow.holds Tryd.pinned (OpenSpec.ofChange horizonRisesWrong)

/-- 'consortlaw13.HorizonWaits': WHATEVER THE INPUT: true; the input reads as it did. -/
def horizonWaitsSpec : ChangeSpec := { name := "horizonWaits", fn := fun _ => fun
  | [d1, d2, d3] => { results := [.lit (.bool true)], args := [d1, d2, d3] }
  | _ => none }
def horizonWaitsRow : OpenClaim := { program := "ytmhckkcppmfjpaadoor", sum := "d2421bdb6dce8d3df23698fab352b502a204f090e4d9b5623b7b63b56fb3290c", func := "consort/consortlaw13.HorizonWaits", spec := "horizonWaits", unfollowed := true, recurses := true, named := ["math/bits.deBruijn64tab"], apart := false, laid := [("math/bits.deBruijn64tab", laid_math_bits_deBruijn64tab)] }
def HorizonWaitsSaid : Prop := horizonWaitsRow.holds Tryd.pinned (OpenSpec.ofChange horizonWaitsSpec)

/-- ITS FALSE NEIGHBOUR: 'it returns false'. Refute it at one input. -/
def horizonWaitsWrong : ChangeSpec := { name := "horizonWaits", fn := fun _ => fun
  | [d1, d2, d3] => { results := [.lit (.bool false)], args := [d1, d2, d3] }
  | _ => none }
def HorizonWaitsWrongFalsely : Prop := horizonWaitsRow.holds Tryd.pinned (OpenSpec.ofChange horizonWaitsWrong)

/-- 'consortlaw13.HorizonMore': WHATEVER THE INPUT: true; the input reads as it did. -/
def horizonMoreSpec : ChangeSpec := { name := "horizonMore", fn := fun _ => fun
  | [d1, d2, d3] => { results := [.lit (.bool true)], args := [d1, d2, d3] }
  | _ => none }
def horizonMoreRow : OpenClaim := { program := "ytmhckkcppmfjpaadoor", sum := "d2421bdb6dce8d3df23698fab352b502a204f090e4d9b5623b7b63b56fb3290c", func := "consort/consortlaw13.HorizonMore", spec := "horizonMore", unfollowed := true, recurses := true, named := ["math/bits.deBruijn64tab"], apart := false, laid := [("math/bits.deBruijn64tab", laid_math_bits_deBruijn64tab)] }
def HorizonMoreSaid : Prop := horizonMoreRow.holds Tryd.pinned (OpenSpec.ofChange horizonMoreSpec)

/-- ITS FALSE NEIGHBOUR: 'it returns false'. Refute it at one input. -/
def horizonMoreWrong : ChangeSpec := { name := "horizonMore", fn := fun _ => fun
  | [d1, d2, d3] => { results := [.lit (.bool false)], args := [d1, d2, d3] }
  | _ => none }
def HorizonMoreWrongFalsely : Prop := horizonMoreRow.holds Tryd.pinned (OpenSpec.ofChange horizonMoreWrong)

/-- 'consortlaw13.HorizonCopies': WHATEVER THE INPUT: true; the input reads as it did. -/
def horizonCopiesSpec : ChangeSpec := { name := "horizonCopies", fn := fun _ => fun
  | [d1, d2, d3] => { results := [.lit (.bool true)], args := [d1, d2, d3] }
  | _ => none }
def horizonCopiesRow : OpenClaim := { program := "ytmhckkcppmfjpaadoor", sum := "d2421bdb6dce8d3df23698fab352b502a204f090e4d9b5623b7b63b56fb3290c", func := "consort/consortlaw13.HorizonCopies", spec := "horizonCopies", unfollowed := true, recurses := true, named := ["math/bits.deBruijn64tab"], apart := false, laid := [("math/bits.deBruijn64tab", laid_math_bits_deBruijn64tab)] }
def HorizonCopiesSaid : Prop := horizonCopiesRow.holds Tryd.pinned (OpenSpec.ofChange horizonCopiesSpec)

/-- ITS FALSE NEIGHBOUR: 'it returns false'. Refute it at one input. -/
def horizonCopiesWrong : ChangeSpec := { name := "horizonCopies", fn := fun _ => fun
  | [d1, d2, d3] => { results := [.lit (.bool false)], args := [d1, d2, d3] }
  | _ => none }
def HorizonCopiesWrongFalsely : Prop := horizonCopiesRow.holds Tryd.pinned (OpenSpec.ofChange horizonCopiesWrong)

/- THE SECOND FORM. 'bulk': how many values and letters a reading holds, each counted each time it is reached (what is shared counts as often as it is met; a slice's spare places count too). A statement '..UptoSaid' is the law's where the arguments, and the package variables that the reading takes, are together of bulk at most 1048576: NARROWER than '..Said'. Prove '..Said' where nothing that the law and all that it calls make is longer than what came in: it says more and counts as full. Else prove '..UptoSaid'. A law counts once. -/
mutual
def uptoBulk {H : Type} : DataW H → Nat
  | .lit (.string bytes) => bytes.length + 1
  | .lit _ => 1
  | .nil => 1
  | .ptr d => uptoBulk d + 1
  | .slice elems spare => uptoBulkAll elems + uptoBulkAll spare + 1
  | .agg parts => uptoBulkAll parts + 1
  | .iface _ d => uptoBulk d + 1
  | .map entries => uptoBulkEntries entries + 1
  | .held _ => 1
def uptoBulkAll {H : Type} : List (DataW H) → Nat
  | [] => 0
  | d :: r => uptoBulk d + uptoBulkAll r
def uptoBulkEntries {H : Type} : List (Lit × DataW H) → Nat
  | [] => 0
  | x :: r => uptoBulkEntry x + uptoBulkEntries r
def uptoBulkEntry {H : Type} : Lit × DataW H → Nat
  | (.string bytes, d) => bytes.length + uptoBulk d + 1
  | (_, d) => uptoBulk d + 1
 end
def uptoSmall : (H : Type) → List (DataW H) → Bool := fun _ ds => decide (uptoBulkAll ds ≤ 1048576)
def OpenSpec.upto (s : _root_.Go.ChangeSpec) : _root_.Go.OpenSpec := { _root_.Go.OpenSpec.ofChange s with cond := some uptoSmall }

/-- 'consortlaw13.HorizonRises', WHERE WHAT IT READS IS OF BULK AT MOST 1048576: true; the input reads as it did. -/
def horizonRisesUptoRow : OpenClaim := { program := "ytmhckkcppmfjpaadoor", sum := "d2421bdb6dce8d3df23698fab352b502a204f090e4d9b5623b7b63b56fb3290c", func := "consort/consortlaw13.HorizonRises", spec := "horizonRises", unfollowed := true, recurses := true, named := ["math/bits.deBruijn64tab"], apart := false, laid := [("math/bits.deBruijn64tab", laid_math_bits_deBruijn64tab)], narrowed := true }
def HorizonRisesUptoSaid : Prop := horizonRisesUptoRow.holds Tryd.pinned (OpenSpec.upto horizonRisesSpec)

/-- 'consortlaw13.HorizonWaits', WHERE WHAT IT READS IS OF BULK AT MOST 1048576: true; the input reads as it did. -/
def horizonWaitsUptoRow : OpenClaim := { program := "ytmhckkcppmfjpaadoor", sum := "d2421bdb6dce8d3df23698fab352b502a204f090e4d9b5623b7b63b56fb3290c", func := "consort/consortlaw13.HorizonWaits", spec := "horizonWaits", unfollowed := true, recurses := true, named := ["math/bits.deBruijn64tab"], apart := false, laid := [("math/bits.deBruijn64tab", laid_math_bits_deBruijn64tab)], narrowed := true }
def HorizonWaitsUptoSaid : Prop := horizonWaitsUptoRow.holds Tryd.pinned (OpenSpec.upto horizonWaitsSpec)

/-- 'consortlaw13.HorizonMore', WHERE WHAT IT READS IS OF BULK AT MOST 1048576: true; the input reads as it did. -/
def horizonMoreUptoRow : OpenClaim := { program := "ytmhckkcppmfjpaadoor", sum := "d2421bdb6dce8d3df23698fab352b502a204f090e4d9b5623b7b63b56fb3290c", func := "consort/consortlaw13.HorizonMore", spec := "horizonMore", unfollowed := true, recurses := true, named := ["math/bits.deBruijn64tab"], apart := false, laid := [("math/bits.deBruijn64tab", laid_math_bits_deBruijn64tab)], narrowed := true }
def HorizonMoreUptoSaid : Prop := horizonMoreUptoRow.holds Tryd.pinned (OpenSpec.upto horizonMoreSpec)

/-- 'consortlaw13.HorizonCopies', WHERE WHAT IT READS IS OF BULK AT MOST 1048576: true; the input reads as it did. -/
def horizonCopiesUptoRow : OpenClaim := { program := "ytmhckkcppmfjpaadoor", sum := "d2421bdb6dce8d3df23698fab352b502a204f090e4d9b5623b7b63b56fb3290c", func := "consort/consortlaw13.HorizonCopies", spec := "horizonCopies", unfollowed := true, recurses := true, named := ["math/bits.deBruijn64tab"], apart := false, laid := [("math/bits.deBruijn64tab", laid_math_bits_deBruijn64tab)], narrowed := true }
def HorizonCopiesUptoSaid : Prop := horizonCopiesUptoRow.holds Tryd.pinned (OpenSpec.upto horizonCopiesSpec)

end Rows
end Go.Proofs.YtmhckkcppmfjpaaDoor
