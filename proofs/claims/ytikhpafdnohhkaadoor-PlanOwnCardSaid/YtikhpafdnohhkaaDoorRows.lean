/-
  NARROWER THAN 'FOR EVERY INPUT', by the rows' own cells (each row's printed sentence says how): PlanPlans: laid · PlanKeeps: laid · PlanOne: laid · PlanFits: laid · PlanOwn: laid · PlanMore: laid.
  DERIVED. THE GIVEN ROWS OF THIS SEAT. 6 by the template 'for every input the law returns true; each argument reads behind the call as it read before'; 0 by the template 'total and deterministic' (their statements: YtikhpafdnohhkaaDoorTotals.lean).
  GIVEN WITH THE SEED: the statements are not yours to turn. If you find one false, say at which input.
  Laid BY PROGRAM, IN A SANDBOX (cutbox-rows.mjs): the forced cells as the released guide's own fill.sh prints them over the translation 188ec7fbe6b73ccc… (all of the seat's roots in one cut). By AI agents, Wed Nov 11 2026. No macro, syntax, notation, axiom, sorry.
-/
import Derived.Test.YtikhpafdnohhkaaDoorChecked
import GoSem.Claim
import GoSem.ClaimJoined
import GoSem.ClaimMapViews
import Derived.JoinedTies
import Derived.KernelRfl
namespace Go.Proofs.YtikhpafdnohhkaaDoor
/- THE CELL 'sum', in the pinned program and in every row, IS THE sha256 OF THE DUMP (.gsa) THAT YtikhpafdnohhkaaDoorProg.lean LOADS. Nothing in Lean hashes anything: it is a label: what it is worth is what the hold of that sum in a sandbox is worth. -/
noncomputable def Tryd.pinned : Pinned := { name := "ytikhpafdnohhkaadoor", sum := "188ec7fbe6b73cccf7caa25c9c49f735b7f7178122f5bd3eb94173ac5d65f75f", checked := Tryd.checked }
namespace Rows
def none {H : Type} : Left H := { results := [], args := [] }

/- WHAT THE LISTED PACKAGE-LEVEL VARIABLES READ AS WHEN THE CALL BEGINS. Each datum BY PROGRAM (the guide's laid-datum.mjs) off the statement by which the dump's own 'gosem.cut.vars' lays the variable. In a bare row this is a premise. The card (YtikhpafdnohhkaaDoorCards.lean) ties it to the program's text. -/
def laid_math_bits_deBruijn64tab {H : Type} : DataW H := .agg [.lit (.int .u8 0), .lit (.int .u8 1), .lit (.int .u8 56), .lit (.int .u8 2), .lit (.int .u8 57), .lit (.int .u8 49), .lit (.int .u8 28), .lit (.int .u8 3), .lit (.int .u8 61), .lit (.int .u8 58), .lit (.int .u8 42), .lit (.int .u8 50), .lit (.int .u8 38), .lit (.int .u8 29), .lit (.int .u8 17), .lit (.int .u8 4), .lit (.int .u8 62), .lit (.int .u8 47), .lit (.int .u8 59), .lit (.int .u8 36), .lit (.int .u8 45), .lit (.int .u8 43), .lit (.int .u8 51), .lit (.int .u8 22), .lit (.int .u8 53), .lit (.int .u8 39), .lit (.int .u8 33), .lit (.int .u8 30), .lit (.int .u8 24), .lit (.int .u8 18), .lit (.int .u8 12), .lit (.int .u8 5), .lit (.int .u8 63), .lit (.int .u8 55), .lit (.int .u8 48), .lit (.int .u8 27), .lit (.int .u8 60), .lit (.int .u8 41), .lit (.int .u8 37), .lit (.int .u8 16), .lit (.int .u8 46), .lit (.int .u8 35), .lit (.int .u8 44), .lit (.int .u8 21), .lit (.int .u8 52), .lit (.int .u8 32), .lit (.int .u8 23), .lit (.int .u8 11), .lit (.int .u8 54), .lit (.int .u8 26), .lit (.int .u8 40), .lit (.int .u8 15), .lit (.int .u8 34), .lit (.int .u8 20), .lit (.int .u8 31), .lit (.int .u8 10), .lit (.int .u8 25), .lit (.int .u8 14), .lit (.int .u8 19), .lit (.int .u8 9), .lit (.int .u8 13), .lit (.int .u8 8), .lit (.int .u8 7), .lit (.int .u8 6)]

/-- 'consortlaw15.PlanPlans': WHATEVER THE INPUT: true; the input reads as it did. -/
def planPlansSpec : ChangeSpec := { name := "planPlans", fn := fun _ => fun
  | [d1, d2, d3, d4] => { results := [.lit (.bool true)], args := [d1, d2, d3, d4] }
  | _ => none }
def planPlansRow : OpenClaim := { program := "ytikhpafdnohhkaadoor", sum := "188ec7fbe6b73cccf7caa25c9c49f735b7f7178122f5bd3eb94173ac5d65f75f", func := "consort/consortlaw15.PlanPlans", spec := "planPlans", unfollowed := true, recurses := true, named := ["math/bits.deBruijn64tab"], apart := false, laid := [("math/bits.deBruijn64tab", laid_math_bits_deBruijn64tab)] }
def PlanPlansSaid : Prop := planPlansRow.holds Tryd.pinned (OpenSpec.ofChange planPlansSpec)

/-- ITS FALSE NEIGHBOUR: 'it returns false'. Refute it at one input. -/
def planPlansWrong : ChangeSpec := { name := "planPlans", fn := fun _ => fun
  | [d1, d2, d3, d4] => { results := [.lit (.bool false)], args := [d1, d2, d3, d4] }
  | _ => none }
def PlanPlansWrongFalsely : Prop := planPlansRow.holds Tryd.pinned (OpenSpec.ofChange planPlansWrong)

/-- 'consortlaw15.PlanKeeps': WHATEVER THE INPUT: true; the input reads as it did. -/
def planKeepsSpec : ChangeSpec := { name := "planKeeps", fn := fun _ => fun
  | [d1, d2, d3] => { results := [.lit (.bool true)], args := [d1, d2, d3] }
  | _ => none }
def planKeepsRow : OpenClaim := { program := "ytikhpafdnohhkaadoor", sum := "188ec7fbe6b73cccf7caa25c9c49f735b7f7178122f5bd3eb94173ac5d65f75f", func := "consort/consortlaw15.PlanKeeps", spec := "planKeeps", unfollowed := true, recurses := true, named := ["math/bits.deBruijn64tab"], apart := false, laid := [("math/bits.deBruijn64tab", laid_math_bits_deBruijn64tab)] }
def PlanKeepsSaid : Prop := planKeepsRow.holds Tryd.pinned (OpenSpec.ofChange planKeepsSpec)

/-- ITS FALSE NEIGHBOUR: 'it returns false'. Refute it at one input. -/
def planKeepsWrong : ChangeSpec := { name := "planKeeps", fn := fun _ => fun
  | [d1, d2, d3] => { results := [.lit (.bool false)], args := [d1, d2, d3] }
  | _ => none }
def PlanKeepsWrongFalsely : Prop := planKeepsRow.holds Tryd.pinned (OpenSpec.ofChange planKeepsWrong)

/-- 'consortlaw15.PlanOne': WHATEVER THE INPUT: true; the input reads as it did. -/
def planOneSpec : ChangeSpec := { name := "planOne", fn := fun _ => fun
  | [d1, d2, d3, d4] => { results := [.lit (.bool true)], args := [d1, d2, d3, d4] }
  | _ => none }
def planOneRow : OpenClaim := { program := "ytikhpafdnohhkaadoor", sum := "188ec7fbe6b73cccf7caa25c9c49f735b7f7178122f5bd3eb94173ac5d65f75f", func := "consort/consortlaw15.PlanOne", spec := "planOne", unfollowed := true, recurses := true, named := ["math/bits.deBruijn64tab"], apart := false, laid := [("math/bits.deBruijn64tab", laid_math_bits_deBruijn64tab)] }
def PlanOneSaid : Prop := planOneRow.holds Tryd.pinned (OpenSpec.ofChange planOneSpec)

/-- ITS FALSE NEIGHBOUR: 'it returns false'. Refute it at one input. -/
def planOneWrong : ChangeSpec := { name := "planOne", fn := fun _ => fun
  | [d1, d2, d3, d4] => { results := [.lit (.bool false)], args := [d1, d2, d3, d4] }
  | _ => none }
def PlanOneWrongFalsely : Prop := planOneRow.holds Tryd.pinned (OpenSpec.ofChange planOneWrong)

/-- 'consortlaw15.PlanFits': WHATEVER THE INPUT: true; the input reads as it did. -/
def planFitsSpec : ChangeSpec := { name := "planFits", fn := fun _ => fun
  | [d1, d2, d3] => { results := [.lit (.bool true)], args := [d1, d2, d3] }
  | _ => none }
def planFitsRow : OpenClaim := { program := "ytikhpafdnohhkaadoor", sum := "188ec7fbe6b73cccf7caa25c9c49f735b7f7178122f5bd3eb94173ac5d65f75f", func := "consort/consortlaw15.PlanFits", spec := "planFits", unfollowed := true, recurses := true, named := ["math/bits.deBruijn64tab"], apart := false, laid := [("math/bits.deBruijn64tab", laid_math_bits_deBruijn64tab)] }
def PlanFitsSaid : Prop := planFitsRow.holds Tryd.pinned (OpenSpec.ofChange planFitsSpec)

/-- ITS FALSE NEIGHBOUR: 'it returns false'. Refute it at one input. -/
def planFitsWrong : ChangeSpec := { name := "planFits", fn := fun _ => fun
  | [d1, d2, d3] => { results := [.lit (.bool false)], args := [d1, d2, d3] }
  | _ => none }
def PlanFitsWrongFalsely : Prop := planFitsRow.holds Tryd.pinned (OpenSpec.ofChange planFitsWrong)

/-- 'consortlaw15.PlanOwn': WHATEVER THE INPUT: true; the input reads as it did. -/
def planOwnSpec : ChangeSpec := { name := "planOwn", fn := fun _ => fun
  | [d1, d2, d3] => { results := [.lit (.bool true)], args := [d1, d2, d3] }
  | _ => none }
def planOwnRow : OpenClaim := { program := "ytikhpafdnohhkaadoor", sum := "188ec7fbe6b73cccf7caa25c9c49f735b7f7178122f5bd3eb94173ac5d65f75f", func := "consort/consortlaw15.PlanOwn", spec := "planOwn", unfollowed := true, recurses := true, named := ["math/bits.deBruijn64tab"], apart := false, laid := [("math/bits.deBruijn64tab", laid_math_bits_deBruijn64tab)] }
def PlanOwnSaid : Prop := planOwnRow.holds Tryd.pinned (OpenSpec.ofChange planOwnSpec)

/-- ITS FALSE NEIGHBOUR: 'it returns false'. Refute it at one input. -/
def planOwnWrong : ChangeSpec := { name := "planOwn", fn := fun _ => fun
  | [d1, d2, d3] => { results := [.lit (.bool false)], args := [d1, d2, d3] }
  | _ => none }
def PlanOwnWrongFalsely : Prop := planOwnRow.holds Tryd.pinned (OpenSpec.ofChange planOwnWrong)

/-- 'consortlaw15.PlanMore': WHATEVER THE INPUT: true; the input reads as it did. -/
def planMoreSpec : ChangeSpec := { name := "planMore", fn := fun _ => fun
  | [d1, d2, d3] => { results := [.lit (.bool true)], args := [d1, d2, d3] }
  | _ => none }
def planMoreRow : OpenClaim := { program := "ytikhpafdnohhkaadoor", sum := "188ec7fbe6b73cccf7caa25c9c49f735b7f7178122f5bd3eb94173ac5d65f75f", func := "consort/consortlaw15.PlanMore", spec := "planMore", unfollowed := true, recurses := true, named := ["math/bits.deBruijn64tab"], apart := false, laid := [("math/bits.deBruijn64tab", laid_math_bits_deBruijn64tab)] }
def PlanMoreSaid : Prop := planMoreRow.holds Tryd.pinned (OpenSpec.ofChange planMoreSpec)

/-- ITS FALSE NEIGHBOUR: 'it returns false'. Refute it at one input. -/
def planMoreWrong : ChangeSpec := { name := "planMore", fn := fun _ => fun
  | [d1, d2, d3] => { results := [.lit (.bool false)], args := [d1, d2, d3] }
  | _ => none }
def PlanMoreWrongFalsely : Prop := planMoreRow.holds Tryd.pinned (OpenSpec.ofChange planMoreWrong)

/- THE SECOND FORM. 'bulk': how many values and letters a reading holds, each counted each time it is reached (what is shared counts as often as it is met; a slice's spare places count too). A statement '..UptoSaid' is the law's where the arguments, and the package variables that the reading takes, are together of bulk at most 1048576: NARROWER than '..Said'. Prove '..Said' where nothing that the law and all that it calls make is longer than what came in: it says more and counts as full. Else prove '..UptoSaid'. A law counts once. -/
mutual
def uptoBulk {H : Type} : DataW H → Nat
  | .lit (.string bytes) => bytes.length + 1
  | .lit _ => 1
  | .nil => 1
  | .ptr d => uptoBulk d + 1
  | .slice elems spare => uptoBulkAll elems + uptoBulkAll spare + 1
  | .agg parts => uptoBulkAll parts + 1
  | .iface _ d => uptoBulk d + 1
  | .map entries => uptoBulkEntries entries + 1
  | .held _ => 1
def uptoBulkAll {H : Type} : List (DataW H) → Nat
  | [] => 0
  | d :: r => uptoBulk d + uptoBulkAll r
def uptoBulkEntries {H : Type} : List (Lit × DataW H) → Nat
  | [] => 0
  | x :: r => uptoBulkEntry x + uptoBulkEntries r
def uptoBulkEntry {H : Type} : Lit × DataW H → Nat
  | (.string bytes, d) => bytes.length + uptoBulk d + 1
  | (_, d) => uptoBulk d + 1
 end
def uptoSmall : (H : Type) → List (DataW H) → Bool := fun _ ds => decide (uptoBulkAll ds ≤ 1048576)
def OpenSpec.upto (s : _root_.Go.ChangeSpec) : _root_.Go.OpenSpec := { _root_.Go.OpenSpec.ofChange s with cond := some uptoSmall }

/-- 'consortlaw15.PlanPlans', WHERE WHAT IT READS IS OF BULK AT MOST 1048576: true; the input reads as it did. -/
def planPlansUptoRow : OpenClaim := { program := "ytikhpafdnohhkaadoor", sum := "188ec7fbe6b73cccf7caa25c9c49f735b7f7178122f5bd3eb94173ac5d65f75f", func := "consort/consortlaw15.PlanPlans", spec := "planPlans", unfollowed := true, recurses := true, named := ["math/bits.deBruijn64tab"], apart := false, laid := [("math/bits.deBruijn64tab", laid_math_bits_deBruijn64tab)], narrowed := true }
def PlanPlansUptoSaid : Prop := planPlansUptoRow.holds Tryd.pinned (OpenSpec.upto planPlansSpec)

/-- 'consortlaw15.PlanKeeps', WHERE WHAT IT READS IS OF BULK AT MOST 1048576: true; the input reads as it did. -/
def planKeepsUptoRow : OpenClaim := { program := "ytikhpafdnohhkaadoor", sum := "188ec7fbe6b73cccf7caa25c9c49f735b7f7178122f5bd3eb94173ac5d65f75f", func := "consort/consortlaw15.PlanKeeps", spec := "planKeeps", unfollowed := true, recurses := true, named := ["math/bits.deBruijn64tab"], apart := false, laid := [("math/bits.deBruijn64tab", laid_math_bits_deBruijn64tab)], narrowed := true }
def PlanKeepsUptoSaid : Prop := planKeepsUptoRow.holds Tryd.pinned (OpenSpec.upto planKeepsSpec)

/-- 'consortlaw15.PlanOne', WHERE WHAT IT READS IS OF BULK AT MOST 1048576: true; the input reads as it did. -/
def planOneUptoRow : OpenClaim := { program := "ytikhpafdnohhkaadoor", sum := "188ec7fbe6b73cccf7caa25c9c49f735b7f7178122f5bd3eb94173ac5d65f75f", func := "consort/consortlaw15.PlanOne", spec := "planOne", unfollowed := true, recurses := true, named := ["math/bits.deBruijn64tab"], apart := false, laid := [("math/bits.deBruijn64tab", laid_math_bits_deBruijn64tab)], narrowed := true }
def PlanOneUptoSaid : Prop := planOneUptoRow.holds Tryd.pinned (OpenSpec.upto planOneSpec)

/-- 'consortlaw15.PlanFits', WHERE WHAT IT READS IS OF BULK AT MOST 1048576: true; the input reads as it did. -/
def planFitsUptoRow : OpenClaim := { program := "ytikhpafdnohhkaadoor", sum := "188ec7fbe6b73cccf7caa25c9c49f735b7f7178122f5bd3eb94173ac5d65f75f", func := "consort/consortlaw15.PlanFits", spec := "planFits", unfollowed := true, recurses := true, named := ["math/bits.deBruijn64tab"], apart := false, laid := [("math/bits.deBruijn64tab", laid_math_bits_deBruijn64tab)], narrowed := true }
def PlanFitsUptoSaid : Prop := planFitsUptoRow.holds Tryd.pinned (OpenSpec.upto planFitsSpec)

/-- 'consortlaw15.PlanOwn', WHERE WHAT IT READS IS OF BULK AT MOST 1048576: true; the input reads as it did. -/
def planOwnUptoRow : OpenClaim := { program := "ytikhpafdnohhkaadoor", sum := "188ec7fbe6b73cccf7caa25c9c49f735b7f7178122f5bd3eb94173ac5d65f75f", func := "consort/consortlaw15.PlanOwn", spec := "planOwn", unfollowed := true, recurses := true, named := ["math/bits.deBruijn64tab"], apart := false, laid := [("math/bits.deBruijn64tab", laid_math_bits_deBruijn64tab)], narrowed := true }
def PlanOwnUptoSaid : Prop := planOwnUptoRow.holds Tryd.pinned (OpenSpec.upto planOwnSpec)

/-- 'consortlaw15.PlanMore', WHERE WHAT IT READS IS OF BULK AT MOST 1048576: true; the input reads as it did. -/
def planMoreUptoRow : OpenClaim := { program := "ytikhpafdnohhkaadoor", sum := "188ec7fbe6b73cccf7caa25c9c49f735b7f7178122f5bd3eb94173ac5d65f75f", func := "consort/consortlaw15.PlanMore", spec := "planMore", unfollowed := true, recurses := true, named := ["math/bits.deBruijn64tab"], apart := false, laid := [("math/bits.deBruijn64tab", laid_math_bits_deBruijn64tab)], narrowed := true }
def PlanMoreUptoSaid : Prop := planMoreUptoRow.holds Tryd.pinned (OpenSpec.upto planMoreSpec)

end Rows
end Go.Proofs.YtikhpafdnohhkaaDoor
