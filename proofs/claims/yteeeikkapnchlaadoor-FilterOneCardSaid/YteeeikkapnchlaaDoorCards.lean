/-
  DERIVED. GIVEN WITH THE SEED: THE CARDS: each row of YteeeikkapnchlaaDoorRows.lean that lists a variable, with what it lists TIED to the program's text (the seventh form; the later family's looks); each row that meets fmt, with fmt's text TOLD by the authors' own Lean function (tested against real Go, not proved from fmt's source: count such statements apart). THE CARD IS WHAT COUNTS. Prove the row's statement (the work); the ties are given (YteeeikkapnchlaaDoorTie.lean); close each card by the builder's one call (the guide's Derived/Test/ToyasCard.lean, 'card_holds'). Laid BY PROGRAM, IN A SANDBOX (cutbox-door.mjs). By AI agents, Wed Nov 11 2026. No macro, syntax, notation, axiom, sorry.
-/
import Derived.Test.YteeeikkapnchlaaDoorRows
import GoSem.ClaimSeven
namespace Go.Proofs.YteeeikkapnchlaaDoor
namespace Rows

/-- THE TIED CARD OF 'consortlaw20.FilterOne'. -/
def filterOneCard : Claim7 := { stood := { row := filterOneRow, standIns := [], harness := (true, "a17b264748e4ad5b8a01331e4807d956f3b0b864d3adde1165e8b1b402c9a499"), looks := true }, kinds := [], alts := [], laidByText := true, laidKinds := [.data], laidTests := true, laidLooks := .later }
def FilterOneCardSaid : Prop := Claim7.holds Tryd.pinned (.plain (OpenSpec.ofChange filterOneSpec)) filterOneCard

/-- THE TIED CARD OF 'consortlaw20.FilterLive'. -/
def filterLiveCard : Claim7 := { stood := { row := filterLiveRow, standIns := [], harness := (true, "a17b264748e4ad5b8a01331e4807d956f3b0b864d3adde1165e8b1b402c9a499"), looks := true }, kinds := [], alts := [], laidByText := true, laidKinds := [.data], laidTests := true, laidLooks := .later }
def FilterLiveCardSaid : Prop := Claim7.holds Tryd.pinned (.plain (OpenSpec.ofChange filterLiveSpec)) filterLiveCard

/-- THE TIED CARD OF 'consortlaw20.FilterCopies'. -/
def filterCopiesCard : Claim7 := { stood := { row := filterCopiesRow, standIns := [], harness := (true, "a17b264748e4ad5b8a01331e4807d956f3b0b864d3adde1165e8b1b402c9a499"), looks := true }, kinds := [], alts := [], laidByText := true, laidKinds := [.data], laidTests := true, laidLooks := .later }
def FilterCopiesCardSaid : Prop := Claim7.holds Tryd.pinned (.plain (OpenSpec.ofChange filterCopiesSpec)) filterCopiesCard

/-- THE SECOND FORM's CARD OF 'consortlaw20.FilterOne'. -/
def filterOneUptoCard : Claim7 := { stood := { row := filterOneUptoRow, standIns := [], harness := (true, "a17b264748e4ad5b8a01331e4807d956f3b0b864d3adde1165e8b1b402c9a499"), looks := true }, kinds := [], alts := [], laidByText := true, laidKinds := [.data], laidTests := true, laidLooks := .later }
def FilterOneUptoCardSaid : Prop := Claim7.holds Tryd.pinned (.plain (OpenSpec.upto filterOneSpec)) filterOneUptoCard

/-- THE SECOND FORM's CARD OF 'consortlaw20.FilterLive'. -/
def filterLiveUptoCard : Claim7 := { stood := { row := filterLiveUptoRow, standIns := [], harness := (true, "a17b264748e4ad5b8a01331e4807d956f3b0b864d3adde1165e8b1b402c9a499"), looks := true }, kinds := [], alts := [], laidByText := true, laidKinds := [.data], laidTests := true, laidLooks := .later }
def FilterLiveUptoCardSaid : Prop := Claim7.holds Tryd.pinned (.plain (OpenSpec.upto filterLiveSpec)) filterLiveUptoCard

/-- THE SECOND FORM's CARD OF 'consortlaw20.FilterCopies'. -/
def filterCopiesUptoCard : Claim7 := { stood := { row := filterCopiesUptoRow, standIns := [], harness := (true, "a17b264748e4ad5b8a01331e4807d956f3b0b864d3adde1165e8b1b402c9a499"), looks := true }, kinds := [], alts := [], laidByText := true, laidKinds := [.data], laidTests := true, laidLooks := .later }
def FilterCopiesUptoCardSaid : Prop := Claim7.holds Tryd.pinned (.plain (OpenSpec.upto filterCopiesSpec)) filterCopiesUptoCard
end Rows
end Go.Proofs.YteeeikkapnchlaaDoor
