/-
  DERIVED. GIVEN WITH THE SEED: THE CARDS: each row of YtikhpafdnohhkaaDoorRows.lean that lists a variable, with what it lists TIED to the program's text (the seventh form; the later family's looks); each row that meets fmt, with fmt's text TOLD by the authors' own Lean function (tested against real Go, not proved from fmt's source: count such statements apart). THE CARD IS WHAT COUNTS. Prove the row's statement (the work); the ties are given (YtikhpafdnohhkaaDoorTie.lean); close each card by the builder's one call (the guide's Derived/Test/ToyasCard.lean, 'card_holds'). Laid BY PROGRAM, IN A SANDBOX (cutbox-door.mjs). By AI agents, Wed Nov 11 2026. No macro, syntax, notation, axiom, sorry.
-/
import Derived.Test.YtikhpafdnohhkaaDoorRows
import GoSem.ClaimSeven
namespace Go.Proofs.YtikhpafdnohhkaaDoor
namespace Rows

/-- THE TIED CARD OF 'consortlaw15.PlanPlans'. -/
def planPlansCard : Claim7 := { stood := { row := planPlansRow, standIns := [], harness := (true, "8acd7e2bd6c9c6673895464a85b5d49f4440cf6a695a1e7eee872c25bbfdac01"), looks := false }, kinds := [], alts := [], laidByText := true, laidKinds := [.data], laidTests := true, laidLooks := .later }
def PlanPlansCardSaid : Prop := Claim7.holds Tryd.pinned (.plain (OpenSpec.ofChange planPlansSpec)) planPlansCard

/-- THE TIED CARD OF 'consortlaw15.PlanKeeps'. -/
def planKeepsCard : Claim7 := { stood := { row := planKeepsRow, standIns := [], harness := (true, "8acd7e2bd6c9c6673895464a85b5d49f4440cf6a695a1e7eee872c25bbfdac01"), looks := false }, kinds := [], alts := [], laidByText := true, laidKinds := [.data], laidTests := true, laidLooks := .later }
def PlanKeepsCardSaid : Prop := Claim7.holds Tryd.pinned (.plain (OpenSpec.ofChange planKeepsSpec)) planKeepsCard

/-- THE TIED CARD OF 'consortlaw15.PlanOne'. -/
def planOneCard : Claim7 := { stood := { row := planOneRow, standIns := [], harness := (true, "8acd7e2bd6c9c6673895464a85b5d49f4440cf6a695a1e7eee872c25bbfdac01"), looks := false }, kinds := [], alts := [], laidByText := true, laidKinds := [.data], laidTests := true, laidLooks := .later }
def PlanOneCardSaid : Prop := Claim7.holds Tryd.pinned (.plain (OpenSpec.ofChange planOneSpec)) planOneCard

/-- THE TIED CARD OF 'consortlaw15.PlanFits'. -/
def planFitsCard : Claim7 := { stood := { row := planFitsRow, standIns := [], harness := (true, "8acd7e2bd6c9c6673895464a85b5d49f4440cf6a695a1e7eee872c25bbfdac01"), looks := false }, kinds := [], alts := [], laidByText := true, laidKinds := [.data], laidTests := true, laidLooks := .later }
def PlanFitsCardSaid : Prop := Claim7.holds Tryd.pinned (.plain (OpenSpec.ofChange planFitsSpec)) planFitsCard

/-- THE TIED CARD OF 'consortlaw15.PlanOwn'. -/
def planOwnCard : Claim7 := { stood := { row := planOwnRow, standIns := [], harness := (true, "8acd7e2bd6c9c6673895464a85b5d49f4440cf6a695a1e7eee872c25bbfdac01"), looks := false }, kinds := [], alts := [], laidByText := true, laidKinds := [.data], laidTests := true, laidLooks := .later }
def PlanOwnCardSaid : Prop := Claim7.holds Tryd.pinned (.plain (OpenSpec.ofChange planOwnSpec)) planOwnCard

/-- THE TIED CARD OF 'consortlaw15.PlanMore'. -/
def planMoreCard : Claim7 := { stood := { row := planMoreRow, standIns := [], harness := (true, "8acd7e2bd6c9c6673895464a85b5d49f4440cf6a695a1e7eee872c25bbfdac01"), looks := false }, kinds := [], alts := [], laidByText := true, laidKinds := [.data], laidTests := true, laidLooks := .later }
def PlanMoreCardSaid : Prop := Claim7.holds Tryd.pinned (.plain (OpenSpec.ofChange planMoreSpec)) planMoreCard

/-- THE SECOND FORM's CARD OF 'consortlaw15.PlanPlans'. -/
def planPlansUptoCard : Claim7 := { stood := { row := planPlansUptoRow, standIns := [], harness := (true, "8acd7e2bd6c9c6673895464a85b5d49f4440cf6a695a1e7eee872c25bbfdac01"), looks := false }, kinds := [], alts := [], laidByText := true, laidKinds := [.data], laidTests := true, laidLooks := .later }
def PlanPlansUptoCardSaid : Prop := Claim7.holds Tryd.pinned (.plain (OpenSpec.upto planPlansSpec)) planPlansUptoCard

/-- THE SECOND FORM's CARD OF 'consortlaw15.PlanKeeps'. -/
def planKeepsUptoCard : Claim7 := { stood := { row := planKeepsUptoRow, standIns := [], harness := (true, "8acd7e2bd6c9c6673895464a85b5d49f4440cf6a695a1e7eee872c25bbfdac01"), looks := false }, kinds := [], alts := [], laidByText := true, laidKinds := [.data], laidTests := true, laidLooks := .later }
def PlanKeepsUptoCardSaid : Prop := Claim7.holds Tryd.pinned (.plain (OpenSpec.upto planKeepsSpec)) planKeepsUptoCard

/-- THE SECOND FORM's CARD OF 'consortlaw15.PlanOne'. -/
def planOneUptoCard : Claim7 := { stood := { row := planOneUptoRow, standIns := [], harness := (true, "8acd7e2bd6c9c6673895464a85b5d49f4440cf6a695a1e7eee872c25bbfdac01"), looks := false }, kinds := [], alts := [], laidByText := true, laidKinds := [.data], laidTests := true, laidLooks := .later }
def PlanOneUptoCardSaid : Prop := Claim7.holds Tryd.pinned (.plain (OpenSpec.upto planOneSpec)) planOneUptoCard

/-- THE SECOND FORM's CARD OF 'consortlaw15.PlanFits'. -/
def planFitsUptoCard : Claim7 := { stood := { row := planFitsUptoRow, standIns := [], harness := (true, "8acd7e2bd6c9c6673895464a85b5d49f4440cf6a695a1e7eee872c25bbfdac01"), looks := false }, kinds := [], alts := [], laidByText := true, laidKinds := [.data], laidTests := true, laidLooks := .later }
def PlanFitsUptoCardSaid : Prop := Claim7.holds Tryd.pinned (.plain (OpenSpec.upto planFitsSpec)) planFitsUptoCard

/-- THE SECOND FORM's CARD OF 'consortlaw15.PlanOwn'. -/
def planOwnUptoCard : Claim7 := { stood := { row := planOwnUptoRow, standIns := [], harness := (true, "8acd7e2bd6c9c6673895464a85b5d49f4440cf6a695a1e7eee872c25bbfdac01"), looks := false }, kinds := [], alts := [], laidByText := true, laidKinds := [.data], laidTests := true, laidLooks := .later }
def PlanOwnUptoCardSaid : Prop := Claim7.holds Tryd.pinned (.plain (OpenSpec.upto planOwnSpec)) planOwnUptoCard

/-- THE SECOND FORM's CARD OF 'consortlaw15.PlanMore'. -/
def planMoreUptoCard : Claim7 := { stood := { row := planMoreUptoRow, standIns := [], harness := (true, "8acd7e2bd6c9c6673895464a85b5d49f4440cf6a695a1e7eee872c25bbfdac01"), looks := false }, kinds := [], alts := [], laidByText := true, laidKinds := [.data], laidTests := true, laidLooks := .later }
def PlanMoreUptoCardSaid : Prop := Claim7.holds Tryd.pinned (.plain (OpenSpec.upto planMoreSpec)) planMoreUptoCard
end Rows
end Go.Proofs.YtikhpafdnohhkaaDoor
