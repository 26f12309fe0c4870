/-
  DERIVED. GIVEN WITH THE SEED: THE CARDS: each row of YtlgabjffnjciaaaDoorRows.lean that lists a variable, with what it lists TIED to the program's text (the seventh form; the later family's looks); each row that meets fmt, with fmt's text TOLD by the authors' own Lean function (tested against real Go, not proved from fmt's source: count such statements apart). THE CARD IS WHAT COUNTS. Prove the row's statement (the work); the ties are given (YtlgabjffnjciaaaDoorTie.lean); close each card by the builder's one call (the guide's Derived/Test/ToyasCard.lean, 'card_holds'). Laid BY PROGRAM, IN A SANDBOX (cutbox-door.mjs). By AI agents, Wed Nov 11 2026. No macro, syntax, notation, axiom, sorry.
-/
import Derived.Test.YtlgabjffnjciaaaDoorRows
import GoSem.ClaimSeven
namespace Go.Proofs.YtlgabjffnjciaaaDoor
namespace Rows

/-- THE TIED CARD OF 'consortlaw16.GatherNeeds'. -/
def gatherNeedsCard : Claim7 := { stood := { row := gatherNeedsRow, standIns := [], harness := (true, "c4dcbce4bd942ceb461b8543a0b8fdda277d08cad9021633fcafcef5bcb5aa71"), looks := true }, kinds := [], alts := [], laidByText := true, laidKinds := [.data], laidTests := true, laidLooks := .later }
def GatherNeedsCardSaid : Prop := Claim7.holds Tryd.pinned (.plain (OpenSpec.ofChange gatherNeedsSpec)) gatherNeedsCard

/-- THE TIED CARD OF 'consortlaw16.GatherOnce'. -/
def gatherOnceCard : Claim7 := { stood := { row := gatherOnceRow, standIns := [], harness := (true, "c4dcbce4bd942ceb461b8543a0b8fdda277d08cad9021633fcafcef5bcb5aa71"), looks := true }, kinds := [], alts := [], laidByText := true, laidKinds := [.data], laidTests := true, laidLooks := .later }
def GatherOnceCardSaid : Prop := Claim7.holds Tryd.pinned (.plain (OpenSpec.ofChange gatherOnceSpec)) gatherOnceCard

/-- THE TIED CARD OF 'consortlaw16.GatherPlays'. -/
def gatherPlaysCard : Claim7 := { stood := { row := gatherPlaysRow, standIns := [], harness := (true, "c4dcbce4bd942ceb461b8543a0b8fdda277d08cad9021633fcafcef5bcb5aa71"), looks := true }, kinds := [], alts := [], laidByText := true, laidKinds := [.data], laidTests := true, laidLooks := .later }
def GatherPlaysCardSaid : Prop := Claim7.holds Tryd.pinned (.plain (OpenSpec.ofChange gatherPlaysSpec)) gatherPlaysCard

/-- THE TIED CARD OF 'consortlaw16.GatherWaits'. -/
def gatherWaitsCard : Claim7 := { stood := { row := gatherWaitsRow, standIns := [], harness := (true, "c4dcbce4bd942ceb461b8543a0b8fdda277d08cad9021633fcafcef5bcb5aa71"), looks := true }, kinds := [], alts := [], laidByText := true, laidKinds := [.data], laidTests := true, laidLooks := .later }
def GatherWaitsCardSaid : Prop := Claim7.holds Tryd.pinned (.plain (OpenSpec.ofChange gatherWaitsSpec)) gatherWaitsCard

/-- THE TIED CARD OF 'consortlaw16.GatherCopies'. -/
def gatherCopiesCard : Claim7 := { stood := { row := gatherCopiesRow, standIns := [], harness := (true, "c4dcbce4bd942ceb461b8543a0b8fdda277d08cad9021633fcafcef5bcb5aa71"), looks := true }, kinds := [], alts := [], laidByText := true, laidKinds := [.data], laidTests := true, laidLooks := .later }
def GatherCopiesCardSaid : Prop := Claim7.holds Tryd.pinned (.plain (OpenSpec.ofChange gatherCopiesSpec)) gatherCopiesCard

/-- THE SECOND FORM's CARD OF 'consortlaw16.GatherNeeds'. -/
def gatherNeedsUptoCard : Claim7 := { stood := { row := gatherNeedsUptoRow, standIns := [], harness := (true, "c4dcbce4bd942ceb461b8543a0b8fdda277d08cad9021633fcafcef5bcb5aa71"), looks := true }, kinds := [], alts := [], laidByText := true, laidKinds := [.data], laidTests := true, laidLooks := .later }
def GatherNeedsUptoCardSaid : Prop := Claim7.holds Tryd.pinned (.plain (OpenSpec.upto gatherNeedsSpec)) gatherNeedsUptoCard

/-- THE SECOND FORM's CARD OF 'consortlaw16.GatherOnce'. -/
def gatherOnceUptoCard : Claim7 := { stood := { row := gatherOnceUptoRow, standIns := [], harness := (true, "c4dcbce4bd942ceb461b8543a0b8fdda277d08cad9021633fcafcef5bcb5aa71"), looks := true }, kinds := [], alts := [], laidByText := true, laidKinds := [.data], laidTests := true, laidLooks := .later }
def GatherOnceUptoCardSaid : Prop := Claim7.holds Tryd.pinned (.plain (OpenSpec.upto gatherOnceSpec)) gatherOnceUptoCard

/-- THE SECOND FORM's CARD OF 'consortlaw16.GatherPlays'. -/
def gatherPlaysUptoCard : Claim7 := { stood := { row := gatherPlaysUptoRow, standIns := [], harness := (true, "c4dcbce4bd942ceb461b8543a0b8fdda277d08cad9021633fcafcef5bcb5aa71"), looks := true }, kinds := [], alts := [], laidByText := true, laidKinds := [.data], laidTests := true, laidLooks := .later }
def GatherPlaysUptoCardSaid : Prop := Claim7.holds Tryd.pinned (.plain (OpenSpec.upto gatherPlaysSpec)) gatherPlaysUptoCard

/-- THE SECOND FORM's CARD OF 'consortlaw16.GatherWaits'. -/
def gatherWaitsUptoCard : Claim7 := { stood := { row := gatherWaitsUptoRow, standIns := [], harness := (true, "c4dcbce4bd942ceb461b8543a0b8fdda277d08cad9021633fcafcef5bcb5aa71"), looks := true }, kinds := [], alts := [], laidByText := true, laidKinds := [.data], laidTests := true, laidLooks := .later }
def GatherWaitsUptoCardSaid : Prop := Claim7.holds Tryd.pinned (.plain (OpenSpec.upto gatherWaitsSpec)) gatherWaitsUptoCard

/-- THE SECOND FORM's CARD OF 'consortlaw16.GatherCopies'. -/
def gatherCopiesUptoCard : Claim7 := { stood := { row := gatherCopiesUptoRow, standIns := [], harness := (true, "c4dcbce4bd942ceb461b8543a0b8fdda277d08cad9021633fcafcef5bcb5aa71"), looks := true }, kinds := [], alts := [], laidByText := true, laidKinds := [.data], laidTests := true, laidLooks := .later }
def GatherCopiesUptoCardSaid : Prop := Claim7.holds Tryd.pinned (.plain (OpenSpec.upto gatherCopiesSpec)) gatherCopiesUptoCard
end Rows
end Go.Proofs.YtlgabjffnjciaaaDoor
