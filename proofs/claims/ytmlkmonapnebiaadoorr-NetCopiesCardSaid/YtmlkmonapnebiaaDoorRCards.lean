/-
  DERIVED. GIVEN WITH THE SEED: THE CARDS: each row of YtmlkmonapnebiaaDoorRRows.lean that lists a variable, with what it lists TIED to the program's text (the seventh form; the later family's looks); each row that meets fmt, with fmt's text TOLD by the authors' own Lean function (tested against real Go, not proved from fmt's source: count such statements apart). THE CARD IS WHAT COUNTS. Prove the row's statement (the work); the ties are given (YtmlkmonapnebiaaDoorRTie.lean); close each card by the builder's one call (the guide's Derived/Test/ToyasCard.lean, 'card_holds'). Laid BY PROGRAM, IN A SANDBOX (cutbox-door.mjs). By AI agents, Wed Nov 11 2026. No macro, syntax, notation, axiom, sorry.
-/
import Derived.Test.YtmlkmonapnebiaaDoorRRows
import GoSem.ClaimSeven
namespace Go.Proofs.YtmlkmonapnebiaaDoorR
namespace Rows

/-- THE TIED CARD OF 'consortlaw07.NetLinks'. -/
def netLinksCard : Claim7 := { stood := { row := netLinksRow, standIns := [], harness := (true, "1795cb6b36df3edede61c14ea224b492d0c04d253911ba693fff9545c1bf2b27"), looks := false }, kinds := [], alts := [], laidByText := true, laidKinds := [.data], laidTests := true, laidLooks := .later }
def NetLinksCardSaid : Prop := Claim7.holds Tryd.pinned (.plain (OpenSpec.ofChange netLinksSpec)) netLinksCard

/-- THE TIED CARD OF 'consortlaw07.NetTrue'. -/
def netTrueCard : Claim7 := { stood := { row := netTrueRow, standIns := [], harness := (true, "1795cb6b36df3edede61c14ea224b492d0c04d253911ba693fff9545c1bf2b27"), looks := false }, kinds := [], alts := [], laidByText := true, laidKinds := [.data], laidTests := true, laidLooks := .later }
def NetTrueCardSaid : Prop := Claim7.holds Tryd.pinned (.plain (OpenSpec.ofChange netTrueSpec)) netTrueCard

/-- THE TIED CARD OF 'consortlaw07.NetFull'. -/
def netFullCard : Claim7 := { stood := { row := netFullRow, standIns := [], harness := (true, "1795cb6b36df3edede61c14ea224b492d0c04d253911ba693fff9545c1bf2b27"), looks := false }, kinds := [], alts := [], laidByText := true, laidKinds := [.data], laidTests := true, laidLooks := .later }
def NetFullCardSaid : Prop := Claim7.holds Tryd.pinned (.plain (OpenSpec.ofChange netFullSpec)) netFullCard

/-- THE TIED CARD OF 'consortlaw07.NetCopies'. -/
def netCopiesCard : Claim7 := { stood := { row := netCopiesRow, standIns := [], harness := (true, "1795cb6b36df3edede61c14ea224b492d0c04d253911ba693fff9545c1bf2b27"), looks := false }, kinds := [], alts := [], laidByText := true, laidKinds := [.data], laidTests := true, laidLooks := .later }
def NetCopiesCardSaid : Prop := Claim7.holds Tryd.pinned (.plain (OpenSpec.ofChange netCopiesSpec)) netCopiesCard

/-- THE SECOND FORM's CARD OF 'consortlaw07.NetLinks'. -/
def netLinksUptoCard : Claim7 := { stood := { row := netLinksUptoRow, standIns := [], harness := (true, "1795cb6b36df3edede61c14ea224b492d0c04d253911ba693fff9545c1bf2b27"), looks := false }, kinds := [], alts := [], laidByText := true, laidKinds := [.data], laidTests := true, laidLooks := .later }
def NetLinksUptoCardSaid : Prop := Claim7.holds Tryd.pinned (.plain (OpenSpec.upto netLinksSpec)) netLinksUptoCard

/-- THE SECOND FORM's CARD OF 'consortlaw07.NetTrue'. -/
def netTrueUptoCard : Claim7 := { stood := { row := netTrueUptoRow, standIns := [], harness := (true, "1795cb6b36df3edede61c14ea224b492d0c04d253911ba693fff9545c1bf2b27"), looks := false }, kinds := [], alts := [], laidByText := true, laidKinds := [.data], laidTests := true, laidLooks := .later }
def NetTrueUptoCardSaid : Prop := Claim7.holds Tryd.pinned (.plain (OpenSpec.upto netTrueSpec)) netTrueUptoCard

/-- THE SECOND FORM's CARD OF 'consortlaw07.NetFull'. -/
def netFullUptoCard : Claim7 := { stood := { row := netFullUptoRow, standIns := [], harness := (true, "1795cb6b36df3edede61c14ea224b492d0c04d253911ba693fff9545c1bf2b27"), looks := false }, kinds := [], alts := [], laidByText := true, laidKinds := [.data], laidTests := true, laidLooks := .later }
def NetFullUptoCardSaid : Prop := Claim7.holds Tryd.pinned (.plain (OpenSpec.upto netFullSpec)) netFullUptoCard

/-- THE SECOND FORM's CARD OF 'consortlaw07.NetCopies'. -/
def netCopiesUptoCard : Claim7 := { stood := { row := netCopiesUptoRow, standIns := [], harness := (true, "1795cb6b36df3edede61c14ea224b492d0c04d253911ba693fff9545c1bf2b27"), looks := false }, kinds := [], alts := [], laidByText := true, laidKinds := [.data], laidTests := true, laidLooks := .later }
def NetCopiesUptoCardSaid : Prop := Claim7.holds Tryd.pinned (.plain (OpenSpec.upto netCopiesSpec)) netCopiesUptoCard
end Rows
end Go.Proofs.YtmlkmonapnebiaaDoorR
