/-
  DERIVED. GIVEN WITH THE SEED: THE CARDS: each row of YtfmdfoopdbkgpaaDoorRows.lean that lists a variable, with what it lists TIED to the program's text (the seventh form; the later family's looks); each row that meets fmt, with fmt's text TOLD by the authors' own Lean function (tested against real Go, not proved from fmt's source: count such statements apart). THE CARD IS WHAT COUNTS. Prove the row's statement (the work); the ties are given (YtfmdfoopdbkgpaaDoorTie.lean); close each card by the builder's one call (the guide's Derived/Test/ToyasCard.lean, 'card_holds'). Laid BY PROGRAM, IN A SANDBOX (cutbox-door.mjs). By AI agents, Wed Nov 11 2026. No macro, syntax, notation, axiom, sorry.
-/
import Derived.Test.YtfmdfoopdbkgpaaDoorRows
import GoSem.ClaimSeven
namespace Go.Proofs.YtfmdfoopdbkgpaaDoor
namespace Rows

/-- THE TIED CARD OF 'consortlaw02.SetLists'. -/
def setListsCard : Claim7 := { stood := { row := setListsRow, standIns := [], harness := (true, "74a3273ac3937a2981f31f24efe38fb12d6de202c8714f9d1efa3277c7e239e9"), looks := false }, kinds := [], alts := [], laidByText := true, laidKinds := [.data], laidTests := true, laidLooks := .later }
def SetListsCardSaid : Prop := Claim7.holds Tryd.pinned (.plain (OpenSpec.ofChange setListsSpec)) setListsCard

/-- THE TIED CARD OF 'consortlaw02.SetMost'. -/
def setMostCard : Claim7 := { stood := { row := setMostRow, standIns := [], harness := (true, "74a3273ac3937a2981f31f24efe38fb12d6de202c8714f9d1efa3277c7e239e9"), looks := false }, kinds := [], alts := [], laidByText := true, laidKinds := [.data], laidTests := true, laidLooks := .later }
def SetMostCardSaid : Prop := Claim7.holds Tryd.pinned (.plain (OpenSpec.ofChange setMostSpec)) setMostCard

/-- THE TIED CARD OF 'consortlaw02.SetParts'. -/
def setPartsCard : Claim7 := { stood := { row := setPartsRow, standIns := [], harness := (true, "74a3273ac3937a2981f31f24efe38fb12d6de202c8714f9d1efa3277c7e239e9"), looks := false }, kinds := [], alts := [], laidByText := true, laidKinds := [.data], laidTests := true, laidLooks := .later }
def SetPartsCardSaid : Prop := Claim7.holds Tryd.pinned (.plain (OpenSpec.ofChange setPartsSpec)) setPartsCard

/-- THE TIED CARD OF 'consortlaw02.SetAll'. -/
def setAllCard : Claim7 := { stood := { row := setAllRow, standIns := [], harness := (true, "74a3273ac3937a2981f31f24efe38fb12d6de202c8714f9d1efa3277c7e239e9"), looks := false }, kinds := [], alts := [], laidByText := true, laidKinds := [.data], laidTests := true, laidLooks := .later }
def SetAllCardSaid : Prop := Claim7.holds Tryd.pinned (.plain (OpenSpec.ofChange setAllSpec)) setAllCard

/-- THE TIED CARD OF 'consortlaw02.SetBack'. -/
def setBackCard : Claim7 := { stood := { row := setBackRow, standIns := [], harness := (true, "74a3273ac3937a2981f31f24efe38fb12d6de202c8714f9d1efa3277c7e239e9"), looks := false }, kinds := [], alts := [], laidByText := true, laidKinds := [.data], laidTests := true, laidLooks := .later }
def SetBackCardSaid : Prop := Claim7.holds Tryd.pinned (.plain (OpenSpec.ofChange setBackSpec)) setBackCard

/-- THE TIED CARD OF 'consortlaw02.SetTells'. -/
def setTellsCard : Claim7 := { stood := { row := setTellsRow, standIns := [], harness := (true, "74a3273ac3937a2981f31f24efe38fb12d6de202c8714f9d1efa3277c7e239e9"), looks := false }, kinds := [], alts := [], laidByText := true, laidKinds := [.data], laidTests := true, laidLooks := .later }
def SetTellsCardSaid : Prop := Claim7.holds Tryd.pinned (.plain (OpenSpec.ofChange setTellsSpec)) setTellsCard

/-- THE SECOND FORM's CARD OF 'consortlaw02.SetLists'. -/
def setListsUptoCard : Claim7 := { stood := { row := setListsUptoRow, standIns := [], harness := (true, "74a3273ac3937a2981f31f24efe38fb12d6de202c8714f9d1efa3277c7e239e9"), looks := false }, kinds := [], alts := [], laidByText := true, laidKinds := [.data], laidTests := true, laidLooks := .later }
def SetListsUptoCardSaid : Prop := Claim7.holds Tryd.pinned (.plain (OpenSpec.upto setListsSpec)) setListsUptoCard

/-- THE SECOND FORM's CARD OF 'consortlaw02.SetMost'. -/
def setMostUptoCard : Claim7 := { stood := { row := setMostUptoRow, standIns := [], harness := (true, "74a3273ac3937a2981f31f24efe38fb12d6de202c8714f9d1efa3277c7e239e9"), looks := false }, kinds := [], alts := [], laidByText := true, laidKinds := [.data], laidTests := true, laidLooks := .later }
def SetMostUptoCardSaid : Prop := Claim7.holds Tryd.pinned (.plain (OpenSpec.upto setMostSpec)) setMostUptoCard

/-- THE SECOND FORM's CARD OF 'consortlaw02.SetParts'. -/
def setPartsUptoCard : Claim7 := { stood := { row := setPartsUptoRow, standIns := [], harness := (true, "74a3273ac3937a2981f31f24efe38fb12d6de202c8714f9d1efa3277c7e239e9"), looks := false }, kinds := [], alts := [], laidByText := true, laidKinds := [.data], laidTests := true, laidLooks := .later }
def SetPartsUptoCardSaid : Prop := Claim7.holds Tryd.pinned (.plain (OpenSpec.upto setPartsSpec)) setPartsUptoCard

/-- THE SECOND FORM's CARD OF 'consortlaw02.SetAll'. -/
def setAllUptoCard : Claim7 := { stood := { row := setAllUptoRow, standIns := [], harness := (true, "74a3273ac3937a2981f31f24efe38fb12d6de202c8714f9d1efa3277c7e239e9"), looks := false }, kinds := [], alts := [], laidByText := true, laidKinds := [.data], laidTests := true, laidLooks := .later }
def SetAllUptoCardSaid : Prop := Claim7.holds Tryd.pinned (.plain (OpenSpec.upto setAllSpec)) setAllUptoCard

/-- THE SECOND FORM's CARD OF 'consortlaw02.SetBack'. -/
def setBackUptoCard : Claim7 := { stood := { row := setBackUptoRow, standIns := [], harness := (true, "74a3273ac3937a2981f31f24efe38fb12d6de202c8714f9d1efa3277c7e239e9"), looks := false }, kinds := [], alts := [], laidByText := true, laidKinds := [.data], laidTests := true, laidLooks := .later }
def SetBackUptoCardSaid : Prop := Claim7.holds Tryd.pinned (.plain (OpenSpec.upto setBackSpec)) setBackUptoCard

/-- THE SECOND FORM's CARD OF 'consortlaw02.SetTells'. -/
def setTellsUptoCard : Claim7 := { stood := { row := setTellsUptoRow, standIns := [], harness := (true, "74a3273ac3937a2981f31f24efe38fb12d6de202c8714f9d1efa3277c7e239e9"), looks := false }, kinds := [], alts := [], laidByText := true, laidKinds := [.data], laidTests := true, laidLooks := .later }
def SetTellsUptoCardSaid : Prop := Claim7.holds Tryd.pinned (.plain (OpenSpec.upto setTellsSpec)) setTellsUptoCard
end Rows
end Go.Proofs.YtfmdfoopdbkgpaaDoor
