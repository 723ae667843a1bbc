/-
  DERIVED. GIVEN WITH THE SEED: THE CARDS: each row of YtlhdbbkfibibfaaDoorRows.lean that lists a variable, with what it lists TIED to the program's text (the seventh form; the later family's looks); each row that meets fmt, with fmt's text TOLD by the authors' own Lean function (tested against real Go, not proved from fmt's source: count such statements apart). THE CARD IS WHAT COUNTS. Prove the row's statement (the work); the ties are given (YtlhdbbkfibibfaaDoorTie.lean); close each card by the builder's one call (the guide's Derived/Test/ToyasCard.lean, 'card_holds'). Laid BY PROGRAM, IN A SANDBOX (cutbox-door.mjs). By AI agents, Wed Nov 11 2026. No macro, syntax, notation, axiom, sorry.
-/
import Derived.Test.YtlhdbbkfibibfaaDoorRows
import GoSem.ClaimSeven
namespace Go.Proofs.YtlhdbbkfibibfaaDoor
namespace Rows

/-- THE TIED CARD OF 'countinghouselaw02.OrderKeeps'. -/
def orderKeepsCard : Claim7 := { stood := { row := orderKeepsRow, standIns := [], harness := (true, "cee0edcbb6f0b78e740db05e99ce077c0d7f31451793f8db2d5cadf57772a3dd"), looks := false }, kinds := [], alts := [], laidByText := true, laidKinds := [.data, .pinned], laidTests := true, laidLooks := .later }
def OrderKeepsCardSaid : Prop := Claim7.holds Tryd.pinned (.plain (OpenSpec.ofChange orderKeepsSpec)) orderKeepsCard

/-- THE TIED CARD OF 'countinghouselaw02.OrderJoins'. -/
def orderJoinsCard : Claim7 := { stood := { row := orderJoinsRow, standIns := [], harness := (true, "cee0edcbb6f0b78e740db05e99ce077c0d7f31451793f8db2d5cadf57772a3dd"), looks := false }, kinds := [], alts := [], laidByText := true, laidKinds := [.data, .pinned], laidTests := true, laidLooks := .later }
def OrderJoinsCardSaid : Prop := Claim7.holds Tryd.pinned (.plain (OpenSpec.ofChange orderJoinsSpec)) orderJoinsCard

/-- THE TIED CARD OF 'countinghouselaw02.OrderFirst'. -/
def orderFirstCard : Claim7 := { stood := { row := orderFirstRow, standIns := [], harness := (true, "cee0edcbb6f0b78e740db05e99ce077c0d7f31451793f8db2d5cadf57772a3dd"), looks := false }, kinds := [], alts := [], laidByText := true, laidKinds := [.data, .pinned], laidTests := true, laidLooks := .later }
def OrderFirstCardSaid : Prop := Claim7.holds Tryd.pinned (.plain (OpenSpec.ofChange orderFirstSpec)) orderFirstCard

/-- THE TIED CARD OF 'countinghouselaw02.OrderBack'. -/
def orderBackCard : Claim7 := { stood := { row := orderBackRow, standIns := [], harness := (true, "cee0edcbb6f0b78e740db05e99ce077c0d7f31451793f8db2d5cadf57772a3dd"), looks := false }, kinds := [], alts := [], laidByText := true, laidKinds := [.data, .pinned], laidTests := true, laidLooks := .later }
def OrderBackCardSaid : Prop := Claim7.holds Tryd.pinned (.plain (OpenSpec.ofChange orderBackSpec)) orderBackCard

/-- THE TIED CARD OF 'countinghouselaw02.OrderReads'. -/
def orderReadsCard : Claim7 := { stood := { row := orderReadsRow, standIns := [], harness := (true, "cee0edcbb6f0b78e740db05e99ce077c0d7f31451793f8db2d5cadf57772a3dd"), looks := false }, kinds := [], alts := [], laidByText := true, laidKinds := [.data, .pinned], laidTests := true, laidLooks := .later }
def OrderReadsCardSaid : Prop := Claim7.holds Tryd.pinned (.plain (OpenSpec.ofChange orderReadsSpec)) orderReadsCard

/-- THE TIED CARD OF 'countinghouselaw02.OrderTurned'. -/
def orderTurnedCard : Claim7 := { stood := { row := orderTurnedRow, standIns := [], harness := (true, "cee0edcbb6f0b78e740db05e99ce077c0d7f31451793f8db2d5cadf57772a3dd"), looks := false }, kinds := [], alts := [], laidByText := true, laidKinds := [.data, .pinned], laidTests := true, laidLooks := .later }
def OrderTurnedCardSaid : Prop := Claim7.holds Tryd.pinned (.plain (OpenSpec.ofChange orderTurnedSpec)) orderTurnedCard

/-- THE SECOND FORM's CARD OF 'countinghouselaw02.OrderKeeps'. -/
def orderKeepsUptoCard : Claim7 := { stood := { row := orderKeepsUptoRow, standIns := [], harness := (true, "cee0edcbb6f0b78e740db05e99ce077c0d7f31451793f8db2d5cadf57772a3dd"), looks := false }, kinds := [], alts := [], laidByText := true, laidKinds := [.data, .pinned], laidTests := true, laidLooks := .later }
def OrderKeepsUptoCardSaid : Prop := Claim7.holds Tryd.pinned (.plain (OpenSpec.upto orderKeepsSpec)) orderKeepsUptoCard

/-- THE SECOND FORM's CARD OF 'countinghouselaw02.OrderJoins'. -/
def orderJoinsUptoCard : Claim7 := { stood := { row := orderJoinsUptoRow, standIns := [], harness := (true, "cee0edcbb6f0b78e740db05e99ce077c0d7f31451793f8db2d5cadf57772a3dd"), looks := false }, kinds := [], alts := [], laidByText := true, laidKinds := [.data, .pinned], laidTests := true, laidLooks := .later }
def OrderJoinsUptoCardSaid : Prop := Claim7.holds Tryd.pinned (.plain (OpenSpec.upto orderJoinsSpec)) orderJoinsUptoCard

/-- THE SECOND FORM's CARD OF 'countinghouselaw02.OrderFirst'. -/
def orderFirstUptoCard : Claim7 := { stood := { row := orderFirstUptoRow, standIns := [], harness := (true, "cee0edcbb6f0b78e740db05e99ce077c0d7f31451793f8db2d5cadf57772a3dd"), looks := false }, kinds := [], alts := [], laidByText := true, laidKinds := [.data, .pinned], laidTests := true, laidLooks := .later }
def OrderFirstUptoCardSaid : Prop := Claim7.holds Tryd.pinned (.plain (OpenSpec.upto orderFirstSpec)) orderFirstUptoCard

/-- THE SECOND FORM's CARD OF 'countinghouselaw02.OrderBack'. -/
def orderBackUptoCard : Claim7 := { stood := { row := orderBackUptoRow, standIns := [], harness := (true, "cee0edcbb6f0b78e740db05e99ce077c0d7f31451793f8db2d5cadf57772a3dd"), looks := false }, kinds := [], alts := [], laidByText := true, laidKinds := [.data, .pinned], laidTests := true, laidLooks := .later }
def OrderBackUptoCardSaid : Prop := Claim7.holds Tryd.pinned (.plain (OpenSpec.upto orderBackSpec)) orderBackUptoCard

/-- THE SECOND FORM's CARD OF 'countinghouselaw02.OrderReads'. -/
def orderReadsUptoCard : Claim7 := { stood := { row := orderReadsUptoRow, standIns := [], harness := (true, "cee0edcbb6f0b78e740db05e99ce077c0d7f31451793f8db2d5cadf57772a3dd"), looks := false }, kinds := [], alts := [], laidByText := true, laidKinds := [.data, .pinned], laidTests := true, laidLooks := .later }
def OrderReadsUptoCardSaid : Prop := Claim7.holds Tryd.pinned (.plain (OpenSpec.upto orderReadsSpec)) orderReadsUptoCard

/-- THE SECOND FORM's CARD OF 'countinghouselaw02.OrderTurned'. -/
def orderTurnedUptoCard : Claim7 := { stood := { row := orderTurnedUptoRow, standIns := [], harness := (true, "cee0edcbb6f0b78e740db05e99ce077c0d7f31451793f8db2d5cadf57772a3dd"), looks := false }, kinds := [], alts := [], laidByText := true, laidKinds := [.data, .pinned], laidTests := true, laidLooks := .later }
def OrderTurnedUptoCardSaid : Prop := Claim7.holds Tryd.pinned (.plain (OpenSpec.upto orderTurnedSpec)) orderTurnedUptoCard
end Rows
end Go.Proofs.YtlhdbbkfibibfaaDoor
