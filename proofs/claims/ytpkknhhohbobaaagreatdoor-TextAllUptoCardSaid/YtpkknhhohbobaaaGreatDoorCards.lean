/-
  DERIVED. GIVEN WITH THE SEED: THE CARDS: each row of YtpkknhhohbobaaaGreatDoorRows.lean that lists a variable, with what it lists TIED to the program's text (the seventh form; the later family's looks); each row that meets fmt, with fmt's text TOLD by the authors' own Lean function (tested against real Go, not proved from fmt's source: count such statements apart). THE CARD IS WHAT COUNTS. Prove the row's statement (the work); the ties are given (YtpkknhhohbobaaaGreatDoorTie.lean); close each card by the builder's one call (the guide's Derived/Test/ToyasCard.lean, 'card_holds'). Laid BY PROGRAM, IN A SANDBOX (cutbox-door.mjs). By AI agents, Wed Nov 11 2026. No macro, syntax, notation, axiom, sorry.
-/
import Derived.Test.YtpkknhhohbobaaaGreatDoorRows
import GoSem.ClaimSeven
namespace Go.Proofs.YtpkknhhohbobaaaGreatDoor
namespace Rows

/-- THE TIED CARD OF 'consortlaw28.TextParses'. -/
def textParsesCard : Claim7 := { stood := { row := textParsesRow, standIns := [], harness := (true, "840d480e0fecdd5eeedaf5187fbec8762a545ea5080cae6ce8aad72403be5de9"), looks := true }, kinds := [], alts := [], laidByText := true, laidKinds := [.data, .data, .data, .data, .sentinel, .sentinel, .pinned], laidTests := true, laidLooks := .later }
def TextParsesCardSaid : Prop := Claim7.holds Tryz.pinned (.plain (OpenSpec.ofChange textParsesSpec)) textParsesCard

/-- THE TIED CARD OF 'consortlaw28.TextAll'. -/
def textAllCard : Claim7 := { stood := { row := textAllRow, standIns := [], harness := (true, "840d480e0fecdd5eeedaf5187fbec8762a545ea5080cae6ce8aad72403be5de9"), looks := true }, kinds := [], alts := [], laidByText := true, laidKinds := [.data, .data, .data, .data, .sentinel, .sentinel, .pinned], laidTests := true, laidLooks := .later }
def TextAllCardSaid : Prop := Claim7.holds Tryz.pinned (.plain (OpenSpec.ofChange textAllSpec)) textAllCard

/-- THE SECOND FORM's CARD OF 'consortlaw28.TextParses'. -/
def textParsesUptoCard : Claim7 := { stood := { row := textParsesUptoRow, standIns := [], harness := (true, "840d480e0fecdd5eeedaf5187fbec8762a545ea5080cae6ce8aad72403be5de9"), looks := true }, kinds := [], alts := [], laidByText := true, laidKinds := [.data, .data, .data, .data, .sentinel, .sentinel, .pinned], laidTests := true, laidLooks := .later }
def TextParsesUptoCardSaid : Prop := Claim7.holds Tryz.pinned (.plain (OpenSpec.upto textParsesSpec)) textParsesUptoCard

/-- THE SECOND FORM's CARD OF 'consortlaw28.TextAll'. -/
def textAllUptoCard : Claim7 := { stood := { row := textAllUptoRow, standIns := [], harness := (true, "840d480e0fecdd5eeedaf5187fbec8762a545ea5080cae6ce8aad72403be5de9"), looks := true }, kinds := [], alts := [], laidByText := true, laidKinds := [.data, .data, .data, .data, .sentinel, .sentinel, .pinned], laidTests := true, laidLooks := .later }
def TextAllUptoCardSaid : Prop := Claim7.holds Tryz.pinned (.plain (OpenSpec.upto textAllSpec)) textAllUptoCard
end Rows
end Go.Proofs.YtpkknhhohbobaaaGreatDoor
