/-
  NARROWER THAN 'FOR EVERY INPUT', by the rows' own cells (each row's printed sentence says how): OrderKeeps: laid · OrderJoins: laid · OrderFirst: laid · OrderBack: laid · OrderReads: laid · OrderTurned: laid.
  DERIVED. THE GIVEN ROWS OF THIS SEAT. 6 by the template 'for every input the law returns true; each argument reads behind the call as it read before'; 0 by the template 'total and deterministic' (their statements: YtlhdbbkfibibfaaDoorTotals.lean).
  GIVEN WITH THE SEED: the statements are not yours to turn. If you find one false, say at which input.
  Laid BY PROGRAM, IN A SANDBOX (cutbox-rows.mjs): the forced cells as the released guide's own fill.sh prints them over the translation aff0235003dcbd06… (all of the seat's roots in one cut). By AI agents, Wed Nov 11 2026. No macro, syntax, notation, axiom, sorry.
-/
import Derived.Test.YtlhdbbkfibibfaaDoorChecked
import GoSem.PinnedTables
import GoSem.Claim
import GoSem.ClaimJoined
import GoSem.ClaimMapViews
import Derived.JoinedTies
import Derived.KernelRfl
namespace Go.Proofs.YtlhdbbkfibibfaaDoor
/- THE CELL 'sum', in the pinned program and in every row, IS THE sha256 OF THE DUMP (.gsa) THAT YtlhdbbkfibibfaaDoorProg.lean LOADS. Nothing in Lean hashes anything: it is a label: what it is worth is what the hold of that sum in a sandbox is worth. -/
noncomputable def Tryd.pinned : Pinned := { name := "ytlhdbbkfibibfaadoor", sum := "aff0235003dcbd06c01a964976790c5c4c420755b7c619094f185655b21393c8", checked := Tryd.checked }
namespace Rows
def none {H : Type} : Left H := { results := [], args := [] }

/- WHAT THE LISTED PACKAGE-LEVEL VARIABLES READ AS WHEN THE CALL BEGINS. Each datum BY PROGRAM (the guide's laid-datum.mjs) off the statement by which the dump's own 'gosem.cut.vars' lays the variable. In a bare row this is a premise. The card (YtlhdbbkfibibfaaDoorCards.lean) ties it to the program's text. -/
def laid_unicode_utf8_acceptRanges {H : Type} : DataW H := .agg [.agg [.lit (.int .u8 128), .lit (.int .u8 191)], .agg [.lit (.int .u8 160), .lit (.int .u8 191)], .agg [.lit (.int .u8 128), .lit (.int .u8 159)], .agg [.lit (.int .u8 144), .lit (.int .u8 191)], .agg [.lit (.int .u8 128), .lit (.int .u8 143)], .agg [.lit (.int .u8 0), .lit (.int .u8 0)], .agg [.lit (.int .u8 0), .lit (.int .u8 0)], .agg [.lit (.int .u8 0), .lit (.int .u8 0)], .agg [.lit (.int .u8 0), .lit (.int .u8 0)], .agg [.lit (.int .u8 0), .lit (.int .u8 0)], .agg [.lit (.int .u8 0), .lit (.int .u8 0)], .agg [.lit (.int .u8 0), .lit (.int .u8 0)], .agg [.lit (.int .u8 0), .lit (.int .u8 0)], .agg [.lit (.int .u8 0), .lit (.int .u8 0)], .agg [.lit (.int .u8 0), .lit (.int .u8 0)], .agg [.lit (.int .u8 0), .lit (.int .u8 0)]]
/-- One of Go's own tables, pinned by name: the form's constant. -/
def laid_unicode_utf8_first : DataW Unit := Go.Pinned.utf8First

/-- 'countinghouselaw02.OrderKeeps': WHATEVER THE INPUT: true; the input reads as it did. -/
def orderKeepsSpec : ChangeSpec := { name := "orderKeeps", fn := fun _ => fun
  | [d1, d2] => { results := [.lit (.bool true)], args := [d1, d2] }
  | _ => none }
def orderKeepsRow : OpenClaim := { program := "ytlhdbbkfibibfaadoor", sum := "aff0235003dcbd06c01a964976790c5c4c420755b7c619094f185655b21393c8", func := "countinghouse/countinghouselaw02.OrderKeeps", spec := "orderKeeps", inPlace := ["internal/bytealg.Count", "internal/bytealg.IndexByte", "internal/bytealg.Index"], named := ["internal/bytealg.MaxLen", "unicode/utf8.first", "unicode/utf8.acceptRanges"], apart := false, laid := [("unicode/utf8.acceptRanges", laid_unicode_utf8_acceptRanges), ("unicode/utf8.first", laid_unicode_utf8_first)] }
def OrderKeepsSaid : Prop := orderKeepsRow.holds Tryd.pinned (OpenSpec.ofChange orderKeepsSpec)

/-- ITS FALSE NEIGHBOUR: 'it returns false'. Refute it at one input. -/
def orderKeepsWrong : ChangeSpec := { name := "orderKeeps", fn := fun _ => fun
  | [d1, d2] => { results := [.lit (.bool false)], args := [d1, d2] }
  | _ => none }
def OrderKeepsWrongFalsely : Prop := orderKeepsRow.holds Tryd.pinned (OpenSpec.ofChange orderKeepsWrong)

/-- 'countinghouselaw02.OrderJoins': WHATEVER THE INPUT: true; the input reads as it did. -/
def orderJoinsSpec : ChangeSpec := { name := "orderJoins", fn := fun _ => fun
  | [d1, d2] => { results := [.lit (.bool true)], args := [d1, d2] }
  | _ => none }
def orderJoinsRow : OpenClaim := { program := "ytlhdbbkfibibfaadoor", sum := "aff0235003dcbd06c01a964976790c5c4c420755b7c619094f185655b21393c8", func := "countinghouse/countinghouselaw02.OrderJoins", spec := "orderJoins", inPlace := ["internal/bytealg.Count", "internal/bytealg.IndexByte", "internal/bytealg.Index"], named := ["internal/bytealg.MaxLen", "unicode/utf8.first", "unicode/utf8.acceptRanges"], apart := false, laid := [("unicode/utf8.acceptRanges", laid_unicode_utf8_acceptRanges), ("unicode/utf8.first", laid_unicode_utf8_first)] }
def OrderJoinsSaid : Prop := orderJoinsRow.holds Tryd.pinned (OpenSpec.ofChange orderJoinsSpec)

/-- ITS FALSE NEIGHBOUR: 'it returns false'. Refute it at one input. -/
def orderJoinsWrong : ChangeSpec := { name := "orderJoins", fn := fun _ => fun
  | [d1, d2] => { results := [.lit (.bool false)], args := [d1, d2] }
  | _ => none }
def OrderJoinsWrongFalsely : Prop := orderJoinsRow.holds Tryd.pinned (OpenSpec.ofChange orderJoinsWrong)

/-- 'countinghouselaw02.OrderFirst': WHATEVER THE INPUT: true; the input reads as it did. -/
def orderFirstSpec : ChangeSpec := { name := "orderFirst", fn := fun _ => fun
  | [d1, d2, d3, d4] => { results := [.lit (.bool true)], args := [d1, d2, d3, d4] }
  | _ => none }
def orderFirstRow : OpenClaim := { program := "ytlhdbbkfibibfaadoor", sum := "aff0235003dcbd06c01a964976790c5c4c420755b7c619094f185655b21393c8", func := "countinghouse/countinghouselaw02.OrderFirst", spec := "orderFirst", inPlace := ["internal/bytealg.Count", "internal/bytealg.IndexByte", "internal/bytealg.Index"], named := ["internal/bytealg.MaxLen", "unicode/utf8.first", "unicode/utf8.acceptRanges"], apart := false, laid := [("unicode/utf8.acceptRanges", laid_unicode_utf8_acceptRanges), ("unicode/utf8.first", laid_unicode_utf8_first)] }
def OrderFirstSaid : Prop := orderFirstRow.holds Tryd.pinned (OpenSpec.ofChange orderFirstSpec)

/-- ITS FALSE NEIGHBOUR: 'it returns false'. Refute it at one input. -/
def orderFirstWrong : ChangeSpec := { name := "orderFirst", fn := fun _ => fun
  | [d1, d2, d3, d4] => { results := [.lit (.bool false)], args := [d1, d2, d3, d4] }
  | _ => none }
def OrderFirstWrongFalsely : Prop := orderFirstRow.holds Tryd.pinned (OpenSpec.ofChange orderFirstWrong)

/-- 'countinghouselaw02.OrderBack': WHATEVER THE INPUT: true; the input reads as it did. -/
def orderBackSpec : ChangeSpec := { name := "orderBack", fn := fun _ => fun
  | [d] => { results := [.lit (.bool true)], args := [d] }
  | _ => none }
def orderBackRow : OpenClaim := { program := "ytlhdbbkfibibfaadoor", sum := "aff0235003dcbd06c01a964976790c5c4c420755b7c619094f185655b21393c8", func := "countinghouse/countinghouselaw02.OrderBack", spec := "orderBack", inPlace := ["internal/bytealg.Count", "internal/bytealg.IndexByte", "internal/bytealg.Index"], named := ["internal/bytealg.MaxLen", "unicode/utf8.first", "unicode/utf8.acceptRanges"], apart := false, laid := [("unicode/utf8.acceptRanges", laid_unicode_utf8_acceptRanges), ("unicode/utf8.first", laid_unicode_utf8_first)] }
def OrderBackSaid : Prop := orderBackRow.holds Tryd.pinned (OpenSpec.ofChange orderBackSpec)

/-- ITS FALSE NEIGHBOUR: 'it returns false'. Refute it at one input. -/
def orderBackWrong : ChangeSpec := { name := "orderBack", fn := fun _ => fun
  | [d] => { results := [.lit (.bool false)], args := [d] }
  | _ => none }
def OrderBackWrongFalsely : Prop := orderBackRow.holds Tryd.pinned (OpenSpec.ofChange orderBackWrong)

/-- 'countinghouselaw02.OrderReads': WHATEVER THE INPUT: true; the input reads as it did. -/
def orderReadsSpec : ChangeSpec := { name := "orderReads", fn := fun _ => fun
  | [d] => { results := [.lit (.bool true)], args := [d] }
  | _ => none }
def orderReadsRow : OpenClaim := { program := "ytlhdbbkfibibfaadoor", sum := "aff0235003dcbd06c01a964976790c5c4c420755b7c619094f185655b21393c8", func := "countinghouse/countinghouselaw02.OrderReads", spec := "orderReads", inPlace := ["internal/bytealg.Count", "internal/bytealg.IndexByte", "internal/bytealg.Index"], named := ["internal/bytealg.MaxLen", "unicode/utf8.first", "unicode/utf8.acceptRanges"], apart := false, laid := [("unicode/utf8.acceptRanges", laid_unicode_utf8_acceptRanges), ("unicode/utf8.first", laid_unicode_utf8_first)] }
def OrderReadsSaid : Prop := orderReadsRow.holds Tryd.pinned (OpenSpec.ofChange orderReadsSpec)

/-- ITS FALSE NEIGHBOUR: 'it returns false'. Refute it at one input. -/
def orderReadsWrong : ChangeSpec := { name := "orderReads", fn := fun _ => fun
  | [d] => { results := [.lit (.bool false)], args := [d] }
  | _ => none }
def OrderReadsWrongFalsely : Prop := orderReadsRow.holds Tryd.pinned (OpenSpec.ofChange orderReadsWrong)

/-- 'countinghouselaw02.OrderTurned': WHATEVER THE INPUT: true; the input reads as it did. -/
def orderTurnedSpec : ChangeSpec := { name := "orderTurned", fn := fun _ => fun
  | [d1, d2, d3, d4, d5] => { results := [.lit (.bool true)], args := [d1, d2, d3, d4, d5] }
  | _ => none }
def orderTurnedRow : OpenClaim := { program := "ytlhdbbkfibibfaadoor", sum := "aff0235003dcbd06c01a964976790c5c4c420755b7c619094f185655b21393c8", func := "countinghouse/countinghouselaw02.OrderTurned", spec := "orderTurned", inPlace := ["internal/bytealg.Count", "internal/bytealg.IndexByte", "internal/bytealg.Index"], named := ["internal/bytealg.MaxLen", "unicode/utf8.first", "unicode/utf8.acceptRanges"], apart := false, laid := [("unicode/utf8.acceptRanges", laid_unicode_utf8_acceptRanges), ("unicode/utf8.first", laid_unicode_utf8_first)] }
def OrderTurnedSaid : Prop := orderTurnedRow.holds Tryd.pinned (OpenSpec.ofChange orderTurnedSpec)

/-- ITS FALSE NEIGHBOUR: 'it returns false'. Refute it at one input. -/
def orderTurnedWrong : ChangeSpec := { name := "orderTurned", fn := fun _ => fun
  | [d1, d2, d3, d4, d5] => { results := [.lit (.bool false)], args := [d1, d2, d3, d4, d5] }
  | _ => none }
def OrderTurnedWrongFalsely : Prop := orderTurnedRow.holds Tryd.pinned (OpenSpec.ofChange orderTurnedWrong)

/- THE SECOND FORM. 'bulk': how many values and letters a reading holds, each counted each time it is reached (what is shared counts as often as it is met; a slice's spare places count too). A statement '..UptoSaid' is the law's where the arguments, and the package variables that the reading takes, are together of bulk at most 1048576: NARROWER than '..Said'. Prove '..Said' where nothing that the law and all that it calls make is longer than what came in: it says more and counts as full. Else prove '..UptoSaid'. A law counts once. -/
mutual
def uptoBulk {H : Type} : DataW H → Nat
  | .lit (.string bytes) => bytes.length + 1
  | .lit _ => 1
  | .nil => 1
  | .ptr d => uptoBulk d + 1
  | .slice elems spare => uptoBulkAll elems + uptoBulkAll spare + 1
  | .agg parts => uptoBulkAll parts + 1
  | .iface _ d => uptoBulk d + 1
  | .map entries => uptoBulkEntries entries + 1
  | .held _ => 1
def uptoBulkAll {H : Type} : List (DataW H) → Nat
  | [] => 0
  | d :: r => uptoBulk d + uptoBulkAll r
def uptoBulkEntries {H : Type} : List (Lit × DataW H) → Nat
  | [] => 0
  | x :: r => uptoBulkEntry x + uptoBulkEntries r
def uptoBulkEntry {H : Type} : Lit × DataW H → Nat
  | (.string bytes, d) => bytes.length + uptoBulk d + 1
  | (_, d) => uptoBulk d + 1
 end
def uptoSmall : (H : Type) → List (DataW H) → Bool := fun _ ds => decide (uptoBulkAll ds ≤ 1048576)
def OpenSpec.upto (s : _root_.Go.ChangeSpec) : _root_.Go.OpenSpec := { _root_.Go.OpenSpec.ofChange s with cond := some uptoSmall }

/-- 'countinghouselaw02.OrderKeeps', WHERE WHAT IT READS IS OF BULK AT MOST 1048576: true; the input reads as it did. -/
def orderKeepsUptoRow : OpenClaim := { program := "ytlhdbbkfibibfaadoor", sum := "aff0235003dcbd06c01a964976790c5c4c420755b7c619094f185655b21393c8", func := "countinghouse/countinghouselaw02.OrderKeeps", spec := "orderKeeps", inPlace := ["internal/bytealg.Count", "internal/bytealg.IndexByte", "internal/bytealg.Index"], named := ["internal/bytealg.MaxLen", "unicode/utf8.first", "unicode/utf8.acceptRanges"], apart := false, laid := [("unicode/utf8.acceptRanges", laid_unicode_utf8_acceptRanges), ("unicode/utf8.first", laid_unicode_utf8_first)], narrowed := true }
def OrderKeepsUptoSaid : Prop := orderKeepsUptoRow.holds Tryd.pinned (OpenSpec.upto orderKeepsSpec)

/-- 'countinghouselaw02.OrderJoins', WHERE WHAT IT READS IS OF BULK AT MOST 1048576: true; the input reads as it did. -/
def orderJoinsUptoRow : OpenClaim := { program := "ytlhdbbkfibibfaadoor", sum := "aff0235003dcbd06c01a964976790c5c4c420755b7c619094f185655b21393c8", func := "countinghouse/countinghouselaw02.OrderJoins", spec := "orderJoins", inPlace := ["internal/bytealg.Count", "internal/bytealg.IndexByte", "internal/bytealg.Index"], named := ["internal/bytealg.MaxLen", "unicode/utf8.first", "unicode/utf8.acceptRanges"], apart := false, laid := [("unicode/utf8.acceptRanges", laid_unicode_utf8_acceptRanges), ("unicode/utf8.first", laid_unicode_utf8_first)], narrowed := true }
def OrderJoinsUptoSaid : Prop := orderJoinsUptoRow.holds Tryd.pinned (OpenSpec.upto orderJoinsSpec)

/-- 'countinghouselaw02.OrderFirst', WHERE WHAT IT READS IS OF BULK AT MOST 1048576: true; the input reads as it did. -/
def orderFirstUptoRow : OpenClaim := { program := "ytlhdbbkfibibfaadoor", sum := "aff0235003dcbd06c01a964976790c5c4c420755b7c619094f185655b21393c8", func := "countinghouse/countinghouselaw02.OrderFirst", spec := "orderFirst", inPlace := ["internal/bytealg.Count", "internal/bytealg.IndexByte", "internal/bytealg.Index"], named := ["internal/bytealg.MaxLen", "unicode/utf8.first", "unicode/utf8.acceptRanges"], apart := false, laid := [("unicode/utf8.acceptRanges", laid_unicode_utf8_acceptRanges), ("unicode/utf8.first", laid_unicode_utf8_first)], narrowed := true }
def OrderFirstUptoSaid : Prop := orderFirstUptoRow.holds Tryd.pinned (OpenSpec.upto orderFirstSpec)

/-- 'countinghouselaw02.OrderBack', WHERE WHAT IT READS IS OF BULK AT MOST 1048576: true; the input reads as it did. -/
def orderBackUptoRow : OpenClaim := { program := "ytlhdbbkfibibfaadoor", sum := "aff0235003dcbd06c01a964976790c5c4c420755b7c619094f185655b21393c8", func := "countinghouse/countinghouselaw02.OrderBack", spec := "orderBack", inPlace := ["internal/bytealg.Count", "internal/bytealg.IndexByte", "internal/bytealg.Index"], named := ["internal/bytealg.MaxLen", "unicode/utf8.first", "unicode/utf8.acceptRanges"], apart := false, laid := [("unicode/utf8.acceptRanges", laid_unicode_utf8_acceptRanges), ("unicode/utf8.first", laid_unicode_utf8_first)], narrowed := true }
def OrderBackUptoSaid : Prop := orderBackUptoRow.holds Tryd.pinned (OpenSpec.upto orderBackSpec)

/-- 'countinghouselaw02.OrderReads', WHERE WHAT IT READS IS OF BULK AT MOST 1048576: true; the input reads as it did. -/
def orderReadsUptoRow : OpenClaim := { program := "ytlhdbbkfibibfaadoor", sum := "aff0235003dcbd06c01a964976790c5c4c420755b7c619094f185655b21393c8", func := "countinghouse/countinghouselaw02.OrderReads", spec := "orderReads", inPlace := ["internal/bytealg.Count", "internal/bytealg.IndexByte", "internal/bytealg.Index"], named := ["internal/bytealg.MaxLen", "unicode/utf8.first", "unicode/utf8.acceptRanges"], apart := false, laid := [("unicode/utf8.acceptRanges", laid_unicode_utf8_acceptRanges), ("unicode/utf8.first", laid_unicode_utf8_first)], narrowed := true }
def OrderReadsUptoSaid : Prop := orderReadsUptoRow.holds Tryd.pinned (OpenSpec.upto orderReadsSpec)

/-- 'countinghouselaw02.OrderTurned', WHERE WHAT IT READS IS OF BULK AT MOST 1048576: true; the input reads as it did. -/
def orderTurnedUptoRow : OpenClaim := { program := "ytlhdbbkfibibfaadoor", sum := "aff0235003dcbd06c01a964976790c5c4c420755b7c619094f185655b21393c8", func := "countinghouse/countinghouselaw02.OrderTurned", spec := "orderTurned", inPlace := ["internal/bytealg.Count", "internal/bytealg.IndexByte", "internal/bytealg.Index"], named := ["internal/bytealg.MaxLen", "unicode/utf8.first", "unicode/utf8.acceptRanges"], apart := false, laid := [("unicode/utf8.acceptRanges", laid_unicode_utf8_acceptRanges), ("unicode/utf8.first", laid_unicode_utf8_first)], narrowed := true }
def OrderTurnedUptoSaid : Prop := orderTurnedUptoRow.holds Tryd.pinned (OpenSpec.upto orderTurnedSpec)

end Rows
end Go.Proofs.YtlhdbbkfibibfaaDoor
