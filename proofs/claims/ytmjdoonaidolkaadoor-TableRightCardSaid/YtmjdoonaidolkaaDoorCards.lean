/-
  DERIVED. GIVEN WITH THE SEED: THE CARDS: each row of YtmjdoonaidolkaaDoorRows.lean that lists a variable, with what it lists TIED to the program's text (the seventh form; the later family's looks); each row that meets fmt, with fmt's text TOLD by the authors' own Lean function (tested against real Go, not proved from fmt's source: count such statements apart). THE CARD IS WHAT COUNTS. Prove the row's statement (the work); the ties are given (YtmjdoonaidolkaaDoorTie.lean); close each card by the builder's one call (the guide's Derived/Test/ToyasCard.lean, 'card_holds'). Laid BY PROGRAM, IN A SANDBOX (cutbox-door.mjs). By AI agents, Wed Nov 11 2026. No macro, syntax, notation, axiom, sorry.
-/
import Derived.Test.YtmjdoonaidolkaaDoorRows
import GoSem.ClaimSeven
namespace Go.Proofs.YtmjdoonaidolkaaDoor
namespace Rows

/-- THE TIED CARD OF 'countinghouselaw05.TableRows'. -/
def tableRowsCard : Claim7 := { stood := { row := tableRowsRow, standIns := [], harness := (true, "94ca4166d2d72220976573b7c68a3f6ab28d18b3b1fa6cf70bc3f983af04c5e3"), looks := false }, kinds := [], alts := [], laidByText := true, laidKinds := [.data, .pinned], laidTests := true, laidLooks := .later }
def TableRowsCardSaid : Prop := Claim7.holds Tryd.pinned (.plain (OpenSpec.ofChange tableRowsSpec)) tableRowsCard

/-- THE TIED CARD OF 'countinghouselaw05.TableSame'. -/
def tableSameCard : Claim7 := { stood := { row := tableSameRow, standIns := [], harness := (true, "94ca4166d2d72220976573b7c68a3f6ab28d18b3b1fa6cf70bc3f983af04c5e3"), looks := false }, kinds := [], alts := [], laidByText := true, laidKinds := [.data, .pinned], laidTests := true, laidLooks := .later }
def TableSameCardSaid : Prop := Claim7.holds Tryd.pinned (.plain (OpenSpec.ofChange tableSameSpec)) tableSameCard

/-- THE TIED CARD OF 'countinghouselaw05.TableRight'. -/
def tableRightCard : Claim7 := { stood := { row := tableRightRow, standIns := [], harness := (true, "94ca4166d2d72220976573b7c68a3f6ab28d18b3b1fa6cf70bc3f983af04c5e3"), looks := false }, kinds := [], alts := [], laidByText := true, laidKinds := [.data, .pinned], laidTests := true, laidLooks := .later }
def TableRightCardSaid : Prop := Claim7.holds Tryd.pinned (.plain (OpenSpec.ofChange tableRightSpec)) tableRightCard

/-- THE TIED CARD OF 'countinghouselaw05.TableChecks'. -/
def tableChecksCard : Claim7 := { stood := { row := tableChecksRow, standIns := [], harness := (true, "94ca4166d2d72220976573b7c68a3f6ab28d18b3b1fa6cf70bc3f983af04c5e3"), looks := false }, kinds := [], alts := [], laidByText := true, laidKinds := [.data, .pinned], laidTests := true, laidLooks := .later }
def TableChecksCardSaid : Prop := Claim7.holds Tryd.pinned (.plain (OpenSpec.ofChange tableChecksSpec)) tableChecksCard

/-- THE TIED CARD OF 'countinghouselaw05.TablePacks'. -/
def tablePacksCard : Claim7 := { stood := { row := tablePacksRow, standIns := [], harness := (true, "94ca4166d2d72220976573b7c68a3f6ab28d18b3b1fa6cf70bc3f983af04c5e3"), looks := false }, kinds := [], alts := [], laidByText := true, laidKinds := [.data, .pinned], laidTests := true, laidLooks := .later }
def TablePacksCardSaid : Prop := Claim7.holds Tryd.pinned (.plain (OpenSpec.ofChange tablePacksSpec)) tablePacksCard

/-- THE TIED CARD OF 'countinghouselaw05.TableTurned'. -/
def tableTurnedCard : Claim7 := { stood := { row := tableTurnedRow, standIns := [], harness := (true, "94ca4166d2d72220976573b7c68a3f6ab28d18b3b1fa6cf70bc3f983af04c5e3"), looks := false }, kinds := [], alts := [], laidByText := true, laidKinds := [.data, .pinned], laidTests := true, laidLooks := .later }
def TableTurnedCardSaid : Prop := Claim7.holds Tryd.pinned (.plain (OpenSpec.ofChange tableTurnedSpec)) tableTurnedCard

/-- THE TIED CARD OF 'countinghouselaw05.TableKeys'. -/
def tableKeysCard : Claim7 := { stood := { row := tableKeysRow, standIns := [], harness := (true, "94ca4166d2d72220976573b7c68a3f6ab28d18b3b1fa6cf70bc3f983af04c5e3"), looks := false }, kinds := [], alts := [], laidByText := true, laidKinds := [.data, .pinned], laidTests := true, laidLooks := .later }
def TableKeysCardSaid : Prop := Claim7.holds Tryd.pinned (.plain (OpenSpec.ofChange tableKeysSpec)) tableKeysCard

/-- THE SECOND FORM's CARD OF 'countinghouselaw05.TableRows'. -/
def tableRowsUptoCard : Claim7 := { stood := { row := tableRowsUptoRow, standIns := [], harness := (true, "94ca4166d2d72220976573b7c68a3f6ab28d18b3b1fa6cf70bc3f983af04c5e3"), looks := false }, kinds := [], alts := [], laidByText := true, laidKinds := [.data, .pinned], laidTests := true, laidLooks := .later }
def TableRowsUptoCardSaid : Prop := Claim7.holds Tryd.pinned (.plain (OpenSpec.upto tableRowsSpec)) tableRowsUptoCard

/-- THE SECOND FORM's CARD OF 'countinghouselaw05.TableSame'. -/
def tableSameUptoCard : Claim7 := { stood := { row := tableSameUptoRow, standIns := [], harness := (true, "94ca4166d2d72220976573b7c68a3f6ab28d18b3b1fa6cf70bc3f983af04c5e3"), looks := false }, kinds := [], alts := [], laidByText := true, laidKinds := [.data, .pinned], laidTests := true, laidLooks := .later }
def TableSameUptoCardSaid : Prop := Claim7.holds Tryd.pinned (.plain (OpenSpec.upto tableSameSpec)) tableSameUptoCard

/-- THE SECOND FORM's CARD OF 'countinghouselaw05.TableRight'. -/
def tableRightUptoCard : Claim7 := { stood := { row := tableRightUptoRow, standIns := [], harness := (true, "94ca4166d2d72220976573b7c68a3f6ab28d18b3b1fa6cf70bc3f983af04c5e3"), looks := false }, kinds := [], alts := [], laidByText := true, laidKinds := [.data, .pinned], laidTests := true, laidLooks := .later }
def TableRightUptoCardSaid : Prop := Claim7.holds Tryd.pinned (.plain (OpenSpec.upto tableRightSpec)) tableRightUptoCard

/-- THE SECOND FORM's CARD OF 'countinghouselaw05.TableChecks'. -/
def tableChecksUptoCard : Claim7 := { stood := { row := tableChecksUptoRow, standIns := [], harness := (true, "94ca4166d2d72220976573b7c68a3f6ab28d18b3b1fa6cf70bc3f983af04c5e3"), looks := false }, kinds := [], alts := [], laidByText := true, laidKinds := [.data, .pinned], laidTests := true, laidLooks := .later }
def TableChecksUptoCardSaid : Prop := Claim7.holds Tryd.pinned (.plain (OpenSpec.upto tableChecksSpec)) tableChecksUptoCard

/-- THE SECOND FORM's CARD OF 'countinghouselaw05.TablePacks'. -/
def tablePacksUptoCard : Claim7 := { stood := { row := tablePacksUptoRow, standIns := [], harness := (true, "94ca4166d2d72220976573b7c68a3f6ab28d18b3b1fa6cf70bc3f983af04c5e3"), looks := false }, kinds := [], alts := [], laidByText := true, laidKinds := [.data, .pinned], laidTests := true, laidLooks := .later }
def TablePacksUptoCardSaid : Prop := Claim7.holds Tryd.pinned (.plain (OpenSpec.upto tablePacksSpec)) tablePacksUptoCard

/-- THE SECOND FORM's CARD OF 'countinghouselaw05.TableTurned'. -/
def tableTurnedUptoCard : Claim7 := { stood := { row := tableTurnedUptoRow, standIns := [], harness := (true, "94ca4166d2d72220976573b7c68a3f6ab28d18b3b1fa6cf70bc3f983af04c5e3"), looks := false }, kinds := [], alts := [], laidByText := true, laidKinds := [.data, .pinned], laidTests := true, laidLooks := .later }
def TableTurnedUptoCardSaid : Prop := Claim7.holds Tryd.pinned (.plain (OpenSpec.upto tableTurnedSpec)) tableTurnedUptoCard

/-- THE SECOND FORM's CARD OF 'countinghouselaw05.TableKeys'. -/
def tableKeysUptoCard : Claim7 := { stood := { row := tableKeysUptoRow, standIns := [], harness := (true, "94ca4166d2d72220976573b7c68a3f6ab28d18b3b1fa6cf70bc3f983af04c5e3"), looks := false }, kinds := [], alts := [], laidByText := true, laidKinds := [.data, .pinned], laidTests := true, laidLooks := .later }
def TableKeysUptoCardSaid : Prop := Claim7.holds Tryd.pinned (.plain (OpenSpec.upto tableKeysSpec)) tableKeysUptoCard
end Rows
end Go.Proofs.YtmjdoonaidolkaaDoor
