/-
  DERIVED. GIVEN WITH THE SEED: THE CARDS: each row of YtpnmhlcbmbpfdaaDoorRows.lean that lists a variable, with what it lists TIED to the program's text (the seventh form; the later family's looks); each row that meets fmt, with fmt's text TOLD by the authors' own Lean function (tested against real Go, not proved from fmt's source: count such statements apart). THE CARD IS WHAT COUNTS. Prove the row's statement (the work); the ties are given (YtpnmhlcbmbpfdaaDoorTie.lean); close each card by the builder's one call (the guide's Derived/Test/ToyasCard.lean, 'card_holds'). Laid BY PROGRAM, IN A SANDBOX (cutbox-door.mjs). By AI agents, Wed Nov 11 2026. No macro, syntax, notation, axiom, sorry.
-/
import Derived.Test.YtpnmhlcbmbpfdaaDoorRows
import GoSem.ClaimSeven
namespace Go.Proofs.YtpnmhlcbmbpfdaaDoor
namespace Rows

/-- THE TIED CARD OF 'consortlaw09.HeardPlays'. -/
def heardPlaysCard : Claim7 := { stood := { row := heardPlaysRow, standIns := [], harness := (true, "693f24d06c306a4f57dc80f972b361f9912c6903927fb9cc402110450234d4fc"), looks := false }, kinds := [], alts := [], laidByText := true, laidKinds := [.data], laidTests := true, laidLooks := .later }
def HeardPlaysCardSaid : Prop := Claim7.holds Tryd.pinned (.plain (OpenSpec.ofChange heardPlaysSpec)) heardPlaysCard

/-- THE TIED CARD OF 'consortlaw09.HeardLately'. -/
def heardLatelyCard : Claim7 := { stood := { row := heardLatelyRow, standIns := [], harness := (true, "693f24d06c306a4f57dc80f972b361f9912c6903927fb9cc402110450234d4fc"), looks := false }, kinds := [], alts := [], laidByText := true, laidKinds := [.data], laidTests := true, laidLooks := .later }
def HeardLatelyCardSaid : Prop := Claim7.holds Tryd.pinned (.plain (OpenSpec.ofChange heardLatelySpec)) heardLatelyCard

/-- THE TIED CARD OF 'consortlaw09.HeardEpoch'. -/
def heardEpochCard : Claim7 := { stood := { row := heardEpochRow, standIns := [], harness := (true, "693f24d06c306a4f57dc80f972b361f9912c6903927fb9cc402110450234d4fc"), looks := false }, kinds := [], alts := [], laidByText := true, laidKinds := [.data], laidTests := true, laidLooks := .later }
def HeardEpochCardSaid : Prop := Claim7.holds Tryd.pinned (.plain (OpenSpec.ofChange heardEpochSpec)) heardEpochCard

/-- THE TIED CARD OF 'consortlaw09.HeardApart'. -/
def heardApartCard : Claim7 := { stood := { row := heardApartRow, standIns := [], harness := (true, "693f24d06c306a4f57dc80f972b361f9912c6903927fb9cc402110450234d4fc"), looks := false }, kinds := [], alts := [], laidByText := true, laidKinds := [.data], laidTests := true, laidLooks := .later }
def HeardApartCardSaid : Prop := Claim7.holds Tryd.pinned (.plain (OpenSpec.ofChange heardApartSpec)) heardApartCard

/-- THE SECOND FORM's CARD OF 'consortlaw09.HeardPlays'. -/
def heardPlaysUptoCard : Claim7 := { stood := { row := heardPlaysUptoRow, standIns := [], harness := (true, "693f24d06c306a4f57dc80f972b361f9912c6903927fb9cc402110450234d4fc"), looks := false }, kinds := [], alts := [], laidByText := true, laidKinds := [.data], laidTests := true, laidLooks := .later }
def HeardPlaysUptoCardSaid : Prop := Claim7.holds Tryd.pinned (.plain (OpenSpec.upto heardPlaysSpec)) heardPlaysUptoCard

/-- THE SECOND FORM's CARD OF 'consortlaw09.HeardLately'. -/
def heardLatelyUptoCard : Claim7 := { stood := { row := heardLatelyUptoRow, standIns := [], harness := (true, "693f24d06c306a4f57dc80f972b361f9912c6903927fb9cc402110450234d4fc"), looks := false }, kinds := [], alts := [], laidByText := true, laidKinds := [.data], laidTests := true, laidLooks := .later }
def HeardLatelyUptoCardSaid : Prop := Claim7.holds Tryd.pinned (.plain (OpenSpec.upto heardLatelySpec)) heardLatelyUptoCard

/-- THE SECOND FORM's CARD OF 'consortlaw09.HeardEpoch'. -/
def heardEpochUptoCard : Claim7 := { stood := { row := heardEpochUptoRow, standIns := [], harness := (true, "693f24d06c306a4f57dc80f972b361f9912c6903927fb9cc402110450234d4fc"), looks := false }, kinds := [], alts := [], laidByText := true, laidKinds := [.data], laidTests := true, laidLooks := .later }
def HeardEpochUptoCardSaid : Prop := Claim7.holds Tryd.pinned (.plain (OpenSpec.upto heardEpochSpec)) heardEpochUptoCard

/-- THE SECOND FORM's CARD OF 'consortlaw09.HeardApart'. -/
def heardApartUptoCard : Claim7 := { stood := { row := heardApartUptoRow, standIns := [], harness := (true, "693f24d06c306a4f57dc80f972b361f9912c6903927fb9cc402110450234d4fc"), looks := false }, kinds := [], alts := [], laidByText := true, laidKinds := [.data], laidTests := true, laidLooks := .later }
def HeardApartUptoCardSaid : Prop := Claim7.holds Tryd.pinned (.plain (OpenSpec.upto heardApartSpec)) heardApartUptoCard
end Rows
end Go.Proofs.YtpnmhlcbmbpfdaaDoor
