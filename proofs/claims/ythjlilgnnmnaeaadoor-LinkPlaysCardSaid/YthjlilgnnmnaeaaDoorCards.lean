/-
  DERIVED. GIVEN WITH THE SEED: THE CARDS: each row of YthjlilgnnmnaeaaDoorRows.lean that lists a variable, with what it lists TIED to the program's text (the seventh form; the later family's looks); each row that meets fmt, with fmt's text TOLD by the authors' own Lean function (tested against real Go, not proved from fmt's source: count such statements apart). THE CARD IS WHAT COUNTS. Prove the row's statement (the work); the ties are given (YthjlilgnnmnaeaaDoorTie.lean); close each card by the builder's one call (the guide's Derived/Test/ToyasCard.lean, 'card_holds'). Laid BY PROGRAM, IN A SANDBOX (cutbox-door.mjs). By AI agents, Wed Nov 11 2026. No macro, syntax, notation, axiom, sorry.
-/
import Derived.Test.YthjlilgnnmnaeaaDoorRows
import GoSem.ClaimSeven
namespace Go.Proofs.YthjlilgnnmnaeaaDoor
namespace Rows

/-- THE TIED CARD OF 'consortlaw11.LinkPlays'. -/
def linkPlaysCard : Claim7 := { stood := { row := linkPlaysRow, standIns := [], harness := (true, "1956923b050161235a2cf1e0094d52df3cf79d49300e7bdc6ca3696ebc3707ee"), looks := false }, kinds := [], alts := [], laidByText := true, laidKinds := [.data], laidTests := true, laidLooks := .later }
def LinkPlaysCardSaid : Prop := Claim7.holds Tryd.pinned (.plain (OpenSpec.ofChange linkPlaysSpec)) linkPlaysCard

/-- THE TIED CARD OF 'consortlaw11.LinkBounds'. -/
def linkBoundsCard : Claim7 := { stood := { row := linkBoundsRow, standIns := [], harness := (true, "1956923b050161235a2cf1e0094d52df3cf79d49300e7bdc6ca3696ebc3707ee"), looks := false }, kinds := [], alts := [], laidByText := true, laidKinds := [.data], laidTests := true, laidLooks := .later }
def LinkBoundsCardSaid : Prop := Claim7.holds Tryd.pinned (.plain (OpenSpec.ofChange linkBoundsSpec)) linkBoundsCard

/-- THE TIED CARD OF 'consortlaw11.LinkAlone'. -/
def linkAloneCard : Claim7 := { stood := { row := linkAloneRow, standIns := [], harness := (true, "1956923b050161235a2cf1e0094d52df3cf79d49300e7bdc6ca3696ebc3707ee"), looks := false }, kinds := [], alts := [], laidByText := true, laidKinds := [.data], laidTests := true, laidLooks := .later }
def LinkAloneCardSaid : Prop := Claim7.holds Tryd.pinned (.plain (OpenSpec.ofChange linkAloneSpec)) linkAloneCard

/-- THE TIED CARD OF 'consortlaw11.LinkCopies'. -/
def linkCopiesCard : Claim7 := { stood := { row := linkCopiesRow, standIns := [], harness := (true, "1956923b050161235a2cf1e0094d52df3cf79d49300e7bdc6ca3696ebc3707ee"), looks := false }, kinds := [], alts := [], laidByText := true, laidKinds := [.data], laidTests := true, laidLooks := .later }
def LinkCopiesCardSaid : Prop := Claim7.holds Tryd.pinned (.plain (OpenSpec.ofChange linkCopiesSpec)) linkCopiesCard

/-- THE SECOND FORM's CARD OF 'consortlaw11.LinkPlays'. -/
def linkPlaysUptoCard : Claim7 := { stood := { row := linkPlaysUptoRow, standIns := [], harness := (true, "1956923b050161235a2cf1e0094d52df3cf79d49300e7bdc6ca3696ebc3707ee"), looks := false }, kinds := [], alts := [], laidByText := true, laidKinds := [.data], laidTests := true, laidLooks := .later }
def LinkPlaysUptoCardSaid : Prop := Claim7.holds Tryd.pinned (.plain (OpenSpec.upto linkPlaysSpec)) linkPlaysUptoCard

/-- THE SECOND FORM's CARD OF 'consortlaw11.LinkBounds'. -/
def linkBoundsUptoCard : Claim7 := { stood := { row := linkBoundsUptoRow, standIns := [], harness := (true, "1956923b050161235a2cf1e0094d52df3cf79d49300e7bdc6ca3696ebc3707ee"), looks := false }, kinds := [], alts := [], laidByText := true, laidKinds := [.data], laidTests := true, laidLooks := .later }
def LinkBoundsUptoCardSaid : Prop := Claim7.holds Tryd.pinned (.plain (OpenSpec.upto linkBoundsSpec)) linkBoundsUptoCard

/-- THE SECOND FORM's CARD OF 'consortlaw11.LinkAlone'. -/
def linkAloneUptoCard : Claim7 := { stood := { row := linkAloneUptoRow, standIns := [], harness := (true, "1956923b050161235a2cf1e0094d52df3cf79d49300e7bdc6ca3696ebc3707ee"), looks := false }, kinds := [], alts := [], laidByText := true, laidKinds := [.data], laidTests := true, laidLooks := .later }
def LinkAloneUptoCardSaid : Prop := Claim7.holds Tryd.pinned (.plain (OpenSpec.upto linkAloneSpec)) linkAloneUptoCard

/-- THE SECOND FORM's CARD OF 'consortlaw11.LinkCopies'. -/
def linkCopiesUptoCard : Claim7 := { stood := { row := linkCopiesUptoRow, standIns := [], harness := (true, "1956923b050161235a2cf1e0094d52df3cf79d49300e7bdc6ca3696ebc3707ee"), looks := false }, kinds := [], alts := [], laidByText := true, laidKinds := [.data], laidTests := true, laidLooks := .later }
def LinkCopiesUptoCardSaid : Prop := Claim7.holds Tryd.pinned (.plain (OpenSpec.upto linkCopiesSpec)) linkCopiesUptoCard
end Rows
end Go.Proofs.YthjlilgnnmnaeaaDoor
