/-
  DERIVED. GIVEN WITH THE SEED: THE CARDS: each row of YtcgfpolklfhppaaDoorRows.lean that lists a variable, with what it lists TIED to the program's text (the seventh form; the later family's looks); each row that meets fmt, with fmt's text TOLD by the authors' own Lean function (tested against real Go, not proved from fmt's source: count such statements apart). THE CARD IS WHAT COUNTS. Prove the row's statement (the work); the ties are given (YtcgfpolklfhppaaDoorTie.lean); close each card by the builder's one call (the guide's Derived/Test/ToyasCard.lean, 'card_holds'). Laid BY PROGRAM, IN A SANDBOX (cutbox-door.mjs). By AI agents, Wed Nov 11 2026. No macro, syntax, notation, axiom, sorry.
-/
import Derived.Test.YtcgfpolklfhppaaDoorRows
import GoSem.ClaimSeven
namespace Go.Proofs.YtcgfpolklfhppaaDoor
namespace Rows

/-- THE TIED CARD OF 'consortlaw21.NamesTell'. -/
def namesTellCard : Claim7 := { stood := { row := namesTellRow, standIns := [], harness := (true, "5fefd578b7605e9747efd7813a1bf155be0fdd22528b0ff15be0f70343b60d45"), looks := false }, kinds := [], alts := [], laidByText := true, laidKinds := [.data], laidTests := true, laidLooks := .later }
def NamesTellCardSaid : Prop := Claim7.holds Tryd.pinned (.plain (OpenSpec.ofChange namesTellSpec)) namesTellCard

/-- THE TIED CARD OF 'consortlaw21.NamesOne'. -/
def namesOneCard : Claim7 := { stood := { row := namesOneRow, standIns := [], harness := (true, "5fefd578b7605e9747efd7813a1bf155be0fdd22528b0ff15be0f70343b60d45"), looks := false }, kinds := [], alts := [], laidByText := true, laidKinds := [.data], laidTests := true, laidLooks := .later }
def NamesOneCardSaid : Prop := Claim7.holds Tryd.pinned (.plain (OpenSpec.ofChange namesOneSpec)) namesOneCard

/-- THE TIED CARD OF 'consortlaw21.NamesKeep'. -/
def namesKeepCard : Claim7 := { stood := { row := namesKeepRow, standIns := [], harness := (true, "5fefd578b7605e9747efd7813a1bf155be0fdd22528b0ff15be0f70343b60d45"), looks := false }, kinds := [], alts := [], laidByText := true, laidKinds := [.data], laidTests := true, laidLooks := .later }
def NamesKeepCardSaid : Prop := Claim7.holds Tryd.pinned (.plain (OpenSpec.ofChange namesKeepSpec)) namesKeepCard

/-- THE SECOND FORM's CARD OF 'consortlaw21.NamesTell'. -/
def namesTellUptoCard : Claim7 := { stood := { row := namesTellUptoRow, standIns := [], harness := (true, "5fefd578b7605e9747efd7813a1bf155be0fdd22528b0ff15be0f70343b60d45"), looks := false }, kinds := [], alts := [], laidByText := true, laidKinds := [.data], laidTests := true, laidLooks := .later }
def NamesTellUptoCardSaid : Prop := Claim7.holds Tryd.pinned (.plain (OpenSpec.upto namesTellSpec)) namesTellUptoCard

/-- THE SECOND FORM's CARD OF 'consortlaw21.NamesOne'. -/
def namesOneUptoCard : Claim7 := { stood := { row := namesOneUptoRow, standIns := [], harness := (true, "5fefd578b7605e9747efd7813a1bf155be0fdd22528b0ff15be0f70343b60d45"), looks := false }, kinds := [], alts := [], laidByText := true, laidKinds := [.data], laidTests := true, laidLooks := .later }
def NamesOneUptoCardSaid : Prop := Claim7.holds Tryd.pinned (.plain (OpenSpec.upto namesOneSpec)) namesOneUptoCard

/-- THE SECOND FORM's CARD OF 'consortlaw21.NamesKeep'. -/
def namesKeepUptoCard : Claim7 := { stood := { row := namesKeepUptoRow, standIns := [], harness := (true, "5fefd578b7605e9747efd7813a1bf155be0fdd22528b0ff15be0f70343b60d45"), looks := false }, kinds := [], alts := [], laidByText := true, laidKinds := [.data], laidTests := true, laidLooks := .later }
def NamesKeepUptoCardSaid : Prop := Claim7.holds Tryd.pinned (.plain (OpenSpec.upto namesKeepSpec)) namesKeepUptoCard
end Rows
end Go.Proofs.YtcgfpolklfhppaaDoor
