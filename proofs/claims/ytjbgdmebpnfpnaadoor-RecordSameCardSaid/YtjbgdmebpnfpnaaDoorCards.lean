/-
  DERIVED. GIVEN WITH THE SEED: THE CARDS: each row of YtjbgdmebpnfpnaaDoorRows.lean that lists a variable, with what it lists TIED to the program's text (the seventh form; the later family's looks); each row that meets fmt, with fmt's text TOLD by the authors' own Lean function (tested against real Go, not proved from fmt's source: count such statements apart). THE CARD IS WHAT COUNTS. Prove the row's statement (the work); the ties are given (YtjbgdmebpnfpnaaDoorTie.lean); close each card by the builder's one call (the guide's Derived/Test/ToyasCard.lean, 'card_holds'). Laid BY PROGRAM, IN A SANDBOX (cutbox-door.mjs). By AI agents, Wed Nov 11 2026. No macro, syntax, notation, axiom, sorry.
-/
import Derived.Test.YtjbgdmebpnfpnaaDoorRows
import GoSem.ClaimSeven
namespace Go.Proofs.YtjbgdmebpnfpnaaDoor
namespace Rows

/-- THE TIED CARD OF 'countinghouselaw06.RecordReads'. -/
def recordReadsCard : Claim7 := { stood := { row := recordReadsRow, standIns := [], harness := (true, "f36a0c6cf363801d103153c6e69d1f90fa1972ec92843e683f996dc657243d1c"), looks := true }, kinds := [], alts := [], laidByText := true, laidKinds := [.handle], laidTests := true, laidLooks := .later }
def RecordReadsCardSaid : Prop := Claim7.holds Tryd.pinned (.plain (OpenSpec.ofChange recordReadsSpec)) recordReadsCard

/-- THE TIED CARD OF 'countinghouselaw06.RecordTurned'. -/
def recordTurnedCard : Claim7 := { stood := { row := recordTurnedRow, standIns := [], harness := (true, "f36a0c6cf363801d103153c6e69d1f90fa1972ec92843e683f996dc657243d1c"), looks := true }, kinds := [], alts := [], laidByText := true, laidKinds := [.handle], laidTests := true, laidLooks := .later }
def RecordTurnedCardSaid : Prop := Claim7.holds Tryd.pinned (.plain (OpenSpec.ofChange recordTurnedSpec)) recordTurnedCard

/-- THE TIED CARD OF 'countinghouselaw06.RecordRight'. -/
def recordRightCard : Claim7 := { stood := { row := recordRightRow, standIns := [], harness := (true, "f36a0c6cf363801d103153c6e69d1f90fa1972ec92843e683f996dc657243d1c"), looks := true }, kinds := [], alts := [], laidByText := true, laidKinds := [.handle], laidTests := true, laidLooks := .later }
def RecordRightCardSaid : Prop := Claim7.holds Tryd.pinned (.plain (OpenSpec.ofChange recordRightSpec)) recordRightCard

/-- THE TIED CARD OF 'countinghouselaw06.RecordMany'. -/
def recordManyCard : Claim7 := { stood := { row := recordManyRow, standIns := [], harness := (true, "f36a0c6cf363801d103153c6e69d1f90fa1972ec92843e683f996dc657243d1c"), looks := true }, kinds := [], alts := [], laidByText := true, laidKinds := [.handle], laidTests := true, laidLooks := .later }
def RecordManyCardSaid : Prop := Claim7.holds Tryd.pinned (.plain (OpenSpec.ofChange recordManySpec)) recordManyCard

/-- THE TIED CARD OF 'countinghouselaw06.RecordSame'. -/
def recordSameCard : Claim7 := { stood := { row := recordSameRow, standIns := [], harness := (true, "f36a0c6cf363801d103153c6e69d1f90fa1972ec92843e683f996dc657243d1c"), looks := true }, kinds := [], alts := [], laidByText := true, laidKinds := [.handle], laidTests := true, laidLooks := .later }
def RecordSameCardSaid : Prop := Claim7.holds Tryd.pinned (.plain (OpenSpec.ofChange recordSameSpec)) recordSameCard

/-- THE TIED CARD OF 'countinghouselaw06.RecordBack'. -/
def recordBackCard : Claim7 := { stood := { row := recordBackRow, standIns := [], harness := (true, "f36a0c6cf363801d103153c6e69d1f90fa1972ec92843e683f996dc657243d1c"), looks := true }, kinds := [], alts := [], laidByText := true, laidKinds := [.handle], laidTests := true, laidLooks := .later }
def RecordBackCardSaid : Prop := Claim7.holds Tryd.pinned (.plain (OpenSpec.ofChange recordBackSpec)) recordBackCard

/-- THE SECOND FORM's CARD OF 'countinghouselaw06.RecordReads'. -/
def recordReadsUptoCard : Claim7 := { stood := { row := recordReadsUptoRow, standIns := [], harness := (true, "f36a0c6cf363801d103153c6e69d1f90fa1972ec92843e683f996dc657243d1c"), looks := true }, kinds := [], alts := [], laidByText := true, laidKinds := [.handle], laidTests := true, laidLooks := .later }
def RecordReadsUptoCardSaid : Prop := Claim7.holds Tryd.pinned (.plain (OpenSpec.upto recordReadsSpec)) recordReadsUptoCard

/-- THE SECOND FORM's CARD OF 'countinghouselaw06.RecordTurned'. -/
def recordTurnedUptoCard : Claim7 := { stood := { row := recordTurnedUptoRow, standIns := [], harness := (true, "f36a0c6cf363801d103153c6e69d1f90fa1972ec92843e683f996dc657243d1c"), looks := true }, kinds := [], alts := [], laidByText := true, laidKinds := [.handle], laidTests := true, laidLooks := .later }
def RecordTurnedUptoCardSaid : Prop := Claim7.holds Tryd.pinned (.plain (OpenSpec.upto recordTurnedSpec)) recordTurnedUptoCard

/-- THE SECOND FORM's CARD OF 'countinghouselaw06.RecordRight'. -/
def recordRightUptoCard : Claim7 := { stood := { row := recordRightUptoRow, standIns := [], harness := (true, "f36a0c6cf363801d103153c6e69d1f90fa1972ec92843e683f996dc657243d1c"), looks := true }, kinds := [], alts := [], laidByText := true, laidKinds := [.handle], laidTests := true, laidLooks := .later }
def RecordRightUptoCardSaid : Prop := Claim7.holds Tryd.pinned (.plain (OpenSpec.upto recordRightSpec)) recordRightUptoCard

/-- THE SECOND FORM's CARD OF 'countinghouselaw06.RecordMany'. -/
def recordManyUptoCard : Claim7 := { stood := { row := recordManyUptoRow, standIns := [], harness := (true, "f36a0c6cf363801d103153c6e69d1f90fa1972ec92843e683f996dc657243d1c"), looks := true }, kinds := [], alts := [], laidByText := true, laidKinds := [.handle], laidTests := true, laidLooks := .later }
def RecordManyUptoCardSaid : Prop := Claim7.holds Tryd.pinned (.plain (OpenSpec.upto recordManySpec)) recordManyUptoCard

/-- THE SECOND FORM's CARD OF 'countinghouselaw06.RecordSame'. -/
def recordSameUptoCard : Claim7 := { stood := { row := recordSameUptoRow, standIns := [], harness := (true, "f36a0c6cf363801d103153c6e69d1f90fa1972ec92843e683f996dc657243d1c"), looks := true }, kinds := [], alts := [], laidByText := true, laidKinds := [.handle], laidTests := true, laidLooks := .later }
def RecordSameUptoCardSaid : Prop := Claim7.holds Tryd.pinned (.plain (OpenSpec.upto recordSameSpec)) recordSameUptoCard

/-- THE SECOND FORM's CARD OF 'countinghouselaw06.RecordBack'. -/
def recordBackUptoCard : Claim7 := { stood := { row := recordBackUptoRow, standIns := [], harness := (true, "f36a0c6cf363801d103153c6e69d1f90fa1972ec92843e683f996dc657243d1c"), looks := true }, kinds := [], alts := [], laidByText := true, laidKinds := [.handle], laidTests := true, laidLooks := .later }
def RecordBackUptoCardSaid : Prop := Claim7.holds Tryd.pinned (.plain (OpenSpec.upto recordBackSpec)) recordBackUptoCard
end Rows
end Go.Proofs.YtjbgdmebpnfpnaaDoor
