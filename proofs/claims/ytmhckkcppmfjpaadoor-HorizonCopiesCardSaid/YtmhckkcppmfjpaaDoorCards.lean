/-
  DERIVED. GIVEN WITH THE SEED: THE CARDS: each row of YtmhckkcppmfjpaaDoorRows.lean that lists a variable, with what it lists TIED to the program's text (the seventh form; the later family's looks); each row that meets fmt, with fmt's text TOLD by the authors' own Lean function (tested against real Go, not proved from fmt's source: count such statements apart). THE CARD IS WHAT COUNTS. Prove the row's statement (the work); the ties are given (YtmhckkcppmfjpaaDoorTie.lean); close each card by the builder's one call (the guide's Derived/Test/ToyasCard.lean, 'card_holds'). Laid BY PROGRAM, IN A SANDBOX (cutbox-door.mjs). By AI agents, Wed Nov 11 2026. No macro, syntax, notation, axiom, sorry.
-/
import Derived.Test.YtmhckkcppmfjpaaDoorRows
import GoSem.ClaimSeven
namespace Go.Proofs.YtmhckkcppmfjpaaDoor
namespace Rows

/-- THE TIED CARD OF 'consortlaw13.HorizonRises'. -/
def horizonRisesCard : Claim7 := { stood := { row := horizonRisesRow, standIns := [], harness := (true, "7f0d34c9cbfcf81600419e92dac1a991ee397782f58b28180b5b4ef50a88be1a"), looks := false }, kinds := [], alts := [], laidByText := true, laidKinds := [.data], laidTests := true, laidLooks := .later }
def HorizonRisesCardSaid : Prop := Claim7.holds Tryd.pinned (.plain (OpenSpec.ofChange horizonRisesSpec)) horizonRisesCard

/-- THE TIED CARD OF 'consortlaw13.HorizonWaits'. -/
def horizonWaitsCard : Claim7 := { stood := { row := horizonWaitsRow, standIns := [], harness := (true, "7f0d34c9cbfcf81600419e92dac1a991ee397782f58b28180b5b4ef50a88be1a"), looks := false }, kinds := [], alts := [], laidByText := true, laidKinds := [.data], laidTests := true, laidLooks := .later }
def HorizonWaitsCardSaid : Prop := Claim7.holds Tryd.pinned (.plain (OpenSpec.ofChange horizonWaitsSpec)) horizonWaitsCard

/-- THE TIED CARD OF 'consortlaw13.HorizonMore'. -/
def horizonMoreCard : Claim7 := { stood := { row := horizonMoreRow, standIns := [], harness := (true, "7f0d34c9cbfcf81600419e92dac1a991ee397782f58b28180b5b4ef50a88be1a"), looks := false }, kinds := [], alts := [], laidByText := true, laidKinds := [.data], laidTests := true, laidLooks := .later }
def HorizonMoreCardSaid : Prop := Claim7.holds Tryd.pinned (.plain (OpenSpec.ofChange horizonMoreSpec)) horizonMoreCard

/-- THE TIED CARD OF 'consortlaw13.HorizonCopies'. -/
def horizonCopiesCard : Claim7 := { stood := { row := horizonCopiesRow, standIns := [], harness := (true, "7f0d34c9cbfcf81600419e92dac1a991ee397782f58b28180b5b4ef50a88be1a"), looks := false }, kinds := [], alts := [], laidByText := true, laidKinds := [.data], laidTests := true, laidLooks := .later }
def HorizonCopiesCardSaid : Prop := Claim7.holds Tryd.pinned (.plain (OpenSpec.ofChange horizonCopiesSpec)) horizonCopiesCard

/-- THE SECOND FORM's CARD OF 'consortlaw13.HorizonRises'. -/
def horizonRisesUptoCard : Claim7 := { stood := { row := horizonRisesUptoRow, standIns := [], harness := (true, "7f0d34c9cbfcf81600419e92dac1a991ee397782f58b28180b5b4ef50a88be1a"), looks := false }, kinds := [], alts := [], laidByText := true, laidKinds := [.data], laidTests := true, laidLooks := .later }
def HorizonRisesUptoCardSaid : Prop := Claim7.holds Tryd.pinned (.plain (OpenSpec.upto horizonRisesSpec)) horizonRisesUptoCard

/-- THE SECOND FORM's CARD OF 'consortlaw13.HorizonWaits'. -/
def horizonWaitsUptoCard : Claim7 := { stood := { row := horizonWaitsUptoRow, standIns := [], harness := (true, "7f0d34c9cbfcf81600419e92dac1a991ee397782f58b28180b5b4ef50a88be1a"), looks := false }, kinds := [], alts := [], laidByText := true, laidKinds := [.data], laidTests := true, laidLooks := .later }
def HorizonWaitsUptoCardSaid : Prop := Claim7.holds Tryd.pinned (.plain (OpenSpec.upto horizonWaitsSpec)) horizonWaitsUptoCard

/-- THE SECOND FORM's CARD OF 'consortlaw13.HorizonMore'. -/
def horizonMoreUptoCard : Claim7 := { stood := { row := horizonMoreUptoRow, standIns := [], harness := (true, "7f0d34c9cbfcf81600419e92dac1a991ee397782f58b28180b5b4ef50a88be1a"), looks := false }, kinds := [], alts := [], laidByText := true, laidKinds := [.data], laidTests := true, laidLooks := .later }
def HorizonMoreUptoCardSaid : Prop := Claim7.holds Tryd.pinned (.plain (OpenSpec.upto horizonMoreSpec)) horizonMoreUptoCard

/-- THE SECOND FORM's CARD OF 'consortlaw13.HorizonCopies'. -/
def horizonCopiesUptoCard : Claim7 := { stood := { row := horizonCopiesUptoRow, standIns := [], harness := (true, "7f0d34c9cbfcf81600419e92dac1a991ee397782f58b28180b5b4ef50a88be1a"), looks := false }, kinds := [], alts := [], laidByText := true, laidKinds := [.data], laidTests := true, laidLooks := .later }
def HorizonCopiesUptoCardSaid : Prop := Claim7.holds Tryd.pinned (.plain (OpenSpec.upto horizonCopiesSpec)) horizonCopiesUptoCard
end Rows
end Go.Proofs.YtmhckkcppmfjpaaDoor
