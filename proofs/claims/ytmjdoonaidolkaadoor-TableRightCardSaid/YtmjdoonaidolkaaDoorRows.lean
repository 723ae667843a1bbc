/-
  NARROWER THAN 'FOR EVERY INPUT', by the rows' own cells (each row's printed sentence says how): TableRows: laid · TableSame: laid · TableRight: laid · TableChecks: laid · TablePacks: laid · TableTurned: laid · TableKeys: laid.
  DERIVED. THE GIVEN ROWS OF THIS SEAT. 7 by the template 'for every input the law returns true; each argument reads behind the call as it read before'; 0 by the template 'total and deterministic' (their statements: YtmjdoonaidolkaaDoorTotals.lean).
  GIVEN WITH THE SEED: the statements are not yours to turn. If you find one false, say at which input.
  Laid BY PROGRAM, IN A SANDBOX (cutbox-rows.mjs): the forced cells as the released guide's own fill.sh prints them over the translation 9f63c95e59066a70… (all of the seat's roots in one cut). By AI agents, Wed Nov 11 2026. No macro, syntax, notation, axiom, sorry.
-/
import Derived.Test.YtmjdoonaidolkaaDoorChecked
import GoSem.PinnedTables
import GoSem.Claim
import GoSem.ClaimJoined
import GoSem.ClaimMapViews
import Derived.JoinedTies
import Derived.KernelRfl
namespace Go.Proofs.YtmjdoonaidolkaaDoor
/- THE CELL 'sum', in the pinned program and in every row, IS THE sha256 OF THE DUMP (.gsa) THAT YtmjdoonaidolkaaDoorProg.lean LOADS. Nothing in Lean hashes anything: it is a label: what it is worth is what the hold of that sum in a sandbox is worth. -/
noncomputable def Tryd.pinned : Pinned := { name := "ytmjdoonaidolkaadoor", sum := "9f63c95e59066a70714f39a224c130c6c61fd4865461b157e78ef2e7af92c40c", checked := Tryd.checked }
namespace Rows
def none {H : Type} : Left H := { results := [], args := [] }

/- WHAT THE LISTED PACKAGE-LEVEL VARIABLES READ AS WHEN THE CALL BEGINS. Each datum BY PROGRAM (the guide's laid-datum.mjs) off the statement by which the dump's own 'gosem.cut.vars' lays the variable. In a bare row this is a premise. The card (YtmjdoonaidolkaaDoorCards.lean) ties it to the program's text. -/
def laid_unicode_utf8_acceptRanges {H : Type} : DataW H := .agg [.agg [.lit (.int .u8 128), .lit (.int .u8 191)], .agg [.lit (.int .u8 160), .lit (.int .u8 191)], .agg [.lit (.int .u8 128), .lit (.int .u8 159)], .agg [.lit (.int .u8 144), .lit (.int .u8 191)], .agg [.lit (.int .u8 128), .lit (.int .u8 143)], .agg [.lit (.int .u8 0), .lit (.int .u8 0)], .agg [.lit (.int .u8 0), .lit (.int .u8 0)], .agg [.lit (.int .u8 0), .lit (.int .u8 0)], .agg [.lit (.int .u8 0), .lit (.int .u8 0)], .agg [.lit (.int .u8 0), .lit (.int .u8 0)], .agg [.lit (.int .u8 0), .lit (.int .u8 0)], .agg [.lit (.int .u8 0), .lit (.int .u8 0)], .agg [.lit (.int .u8 0), .lit (.int .u8 0)], .agg [.lit (.int .u8 0), .lit (.int .u8 0)], .agg [.lit (.int .u8 0), .lit (.int .u8 0)], .agg [.lit (.int .u8 0), .lit (.int .u8 0)]]
/-- One of Go's own tables, pinned by name: the form's constant. -/
def laid_unicode_utf8_first : DataW Unit := Go.Pinned.utf8First

/-- 'countinghouselaw05.TableRows': WHATEVER THE INPUT: true; the input reads as it did. -/
def tableRowsSpec : ChangeSpec := { name := "tableRows", fn := fun _ => fun
  | [d1, d2, d3, d4] => { results := [.lit (.bool true)], args := [d1, d2, d3, d4] }
  | _ => none }
def tableRowsRow : OpenClaim := { program := "ytmjdoonaidolkaadoor", sum := "9f63c95e59066a70714f39a224c130c6c61fd4865461b157e78ef2e7af92c40c", func := "countinghouse/countinghouselaw05.TableRows", spec := "tableRows", inPlace := ["internal/bytealg.Count", "internal/bytealg.IndexByte", "internal/bytealg.Index"], named := ["internal/bytealg.MaxLen", "unicode/utf8.first", "unicode/utf8.acceptRanges"], apart := false, laid := [("unicode/utf8.acceptRanges", laid_unicode_utf8_acceptRanges), ("unicode/utf8.first", laid_unicode_utf8_first)] }
def TableRowsSaid : Prop := tableRowsRow.holds Tryd.pinned (OpenSpec.ofChange tableRowsSpec)

/-- ITS FALSE NEIGHBOUR: 'it returns false'. Refute it at one input. -/
def tableRowsWrong : ChangeSpec := { name := "tableRows", fn := fun _ => fun
  | [d1, d2, d3, d4] => { results := [.lit (.bool false)], args := [d1, d2, d3, d4] }
  | _ => none }
def TableRowsWrongFalsely : Prop := tableRowsRow.holds Tryd.pinned (OpenSpec.ofChange tableRowsWrong)

/-- 'countinghouselaw05.TableSame': WHATEVER THE INPUT: true; the input reads as it did. -/
def tableSameSpec : ChangeSpec := { name := "tableSame", fn := fun _ => fun
  | [d1, d2, d3] => { results := [.lit (.bool true)], args := [d1, d2, d3] }
  | _ => none }
def tableSameRow : OpenClaim := { program := "ytmjdoonaidolkaadoor", sum := "9f63c95e59066a70714f39a224c130c6c61fd4865461b157e78ef2e7af92c40c", func := "countinghouse/countinghouselaw05.TableSame", spec := "tableSame", inPlace := ["internal/bytealg.Count", "internal/bytealg.IndexByte", "internal/bytealg.Index"], unfollowed := true, recurses := true, named := ["internal/bytealg.MaxLen", "unicode/utf8.first", "unicode/utf8.acceptRanges"], apart := false, laid := [("unicode/utf8.acceptRanges", laid_unicode_utf8_acceptRanges), ("unicode/utf8.first", laid_unicode_utf8_first)] }
def TableSameSaid : Prop := tableSameRow.holds Tryd.pinned (OpenSpec.ofChange tableSameSpec)

/-- ITS FALSE NEIGHBOUR: 'it returns false'. Refute it at one input. -/
def tableSameWrong : ChangeSpec := { name := "tableSame", fn := fun _ => fun
  | [d1, d2, d3] => { results := [.lit (.bool false)], args := [d1, d2, d3] }
  | _ => none }
def TableSameWrongFalsely : Prop := tableSameRow.holds Tryd.pinned (OpenSpec.ofChange tableSameWrong)

/-- 'countinghouselaw05.TableRight': WHATEVER THE INPUT: true; the input reads as it did. -/
def tableRightSpec : ChangeSpec := { name := "tableRight", fn := fun _ => fun
  | [d1, d2, d3, d4] => { results := [.lit (.bool true)], args := [d1, d2, d3, d4] }
  | _ => none }
def tableRightRow : OpenClaim := { program := "ytmjdoonaidolkaadoor", sum := "9f63c95e59066a70714f39a224c130c6c61fd4865461b157e78ef2e7af92c40c", func := "countinghouse/countinghouselaw05.TableRight", spec := "tableRight", inPlace := ["internal/bytealg.Count", "internal/bytealg.IndexByte", "internal/bytealg.Index"], unfollowed := true, recurses := true, named := ["internal/bytealg.MaxLen", "unicode/utf8.first", "unicode/utf8.acceptRanges"], apart := false, laid := [("unicode/utf8.acceptRanges", laid_unicode_utf8_acceptRanges), ("unicode/utf8.first", laid_unicode_utf8_first)] }
def TableRightSaid : Prop := tableRightRow.holds Tryd.pinned (OpenSpec.ofChange tableRightSpec)

/-- ITS FALSE NEIGHBOUR: 'it returns false'. Refute it at one input. -/
def tableRightWrong : ChangeSpec := { name := "tableRight", fn := fun _ => fun
  | [d1, d2, d3, d4] => { results := [.lit (.bool false)], args := [d1, d2, d3, d4] }
  | _ => none }
def TableRightWrongFalsely : Prop := tableRightRow.holds Tryd.pinned (OpenSpec.ofChange tableRightWrong)

/-- 'countinghouselaw05.TableChecks': WHATEVER THE INPUT: true; the input reads as it did. -/
def tableChecksSpec : ChangeSpec := { name := "tableChecks", fn := fun _ => fun
  | [d1, d2, d3, d4, d5, d6, d7] => { results := [.lit (.bool true)], args := [d1, d2, d3, d4, d5, d6, d7] }
  | _ => none }
def tableChecksRow : OpenClaim := { program := "ytmjdoonaidolkaadoor", sum := "9f63c95e59066a70714f39a224c130c6c61fd4865461b157e78ef2e7af92c40c", func := "countinghouse/countinghouselaw05.TableChecks", spec := "tableChecks", inPlace := ["internal/bytealg.Count", "internal/bytealg.IndexByte", "internal/bytealg.Index"], named := ["internal/bytealg.MaxLen", "unicode/utf8.first", "unicode/utf8.acceptRanges"], apart := false, laid := [("unicode/utf8.acceptRanges", laid_unicode_utf8_acceptRanges), ("unicode/utf8.first", laid_unicode_utf8_first)] }
def TableChecksSaid : Prop := tableChecksRow.holds Tryd.pinned (OpenSpec.ofChange tableChecksSpec)

/-- ITS FALSE NEIGHBOUR: 'it returns false'. Refute it at one input. -/
def tableChecksWrong : ChangeSpec := { name := "tableChecks", fn := fun _ => fun
  | [d1, d2, d3, d4, d5, d6, d7] => { results := [.lit (.bool false)], args := [d1, d2, d3, d4, d5, d6, d7] }
  | _ => none }
def TableChecksWrongFalsely : Prop := tableChecksRow.holds Tryd.pinned (OpenSpec.ofChange tableChecksWrong)

/-- 'countinghouselaw05.TablePacks': WHATEVER THE INPUT: true; the input reads as it did. -/
def tablePacksSpec : ChangeSpec := { name := "tablePacks", fn := fun _ => fun
  | [d1, d2] => { results := [.lit (.bool true)], args := [d1, d2] }
  | _ => none }
def tablePacksRow : OpenClaim := { program := "ytmjdoonaidolkaadoor", sum := "9f63c95e59066a70714f39a224c130c6c61fd4865461b157e78ef2e7af92c40c", func := "countinghouse/countinghouselaw05.TablePacks", spec := "tablePacks", inPlace := ["internal/bytealg.Count", "internal/bytealg.IndexByte", "internal/bytealg.Index"], named := ["internal/bytealg.MaxLen", "unicode/utf8.first", "unicode/utf8.acceptRanges"], apart := false, laid := [("unicode/utf8.acceptRanges", laid_unicode_utf8_acceptRanges), ("unicode/utf8.first", laid_unicode_utf8_first)] }
def TablePacksSaid : Prop := tablePacksRow.holds Tryd.pinned (OpenSpec.ofChange tablePacksSpec)

/-- ITS FALSE NEIGHBOUR: 'it returns false'. Refute it at one input. -/
def tablePacksWrong : ChangeSpec := { name := "tablePacks", fn := fun _ => fun
  | [d1, d2] => { results := [.lit (.bool false)], args := [d1, d2] }
  | _ => none }
def TablePacksWrongFalsely : Prop := tablePacksRow.holds Tryd.pinned (OpenSpec.ofChange tablePacksWrong)

/-- 'countinghouselaw05.TableTurned': WHATEVER THE INPUT: true; the input reads as it did. -/
def tableTurnedSpec : ChangeSpec := { name := "tableTurned", fn := fun _ => fun
  | [d1, d2, d3, d4, d5] => { results := [.lit (.bool true)], args := [d1, d2, d3, d4, d5] }
  | _ => none }
def tableTurnedRow : OpenClaim := { program := "ytmjdoonaidolkaadoor", sum := "9f63c95e59066a70714f39a224c130c6c61fd4865461b157e78ef2e7af92c40c", func := "countinghouse/countinghouselaw05.TableTurned", spec := "tableTurned", inPlace := ["internal/bytealg.Count", "internal/bytealg.IndexByte", "internal/bytealg.Index"], named := ["internal/bytealg.MaxLen", "unicode/utf8.first", "unicode/utf8.acceptRanges"], apart := false, laid := [("unicode/utf8.acceptRanges", laid_unicode_utf8_acceptRanges), ("unicode/utf8.first", laid_unicode_utf8_first)] }
def TableTurnedSaid : Prop := tableTurnedRow.holds Tryd.pinned (OpenSpec.ofChange tableTurnedSpec)

/-- ITS FALSE NEIGHBOUR: 'it returns false'. Refute it at one input. -/
def tableTurnedWrong : ChangeSpec := { name := "tableTurned", fn := fun _ => fun
  | [d1, d2, d3, d4, d5] => { results := [.lit (.bool false)], args := [d1, d2, d3, d4, d5] }
  | _ => none }
def TableTurnedWrongFalsely : Prop := tableTurnedRow.holds Tryd.pinned (OpenSpec.ofChange tableTurnedWrong)

/-- 'countinghouselaw05.TableKeys': WHATEVER THE INPUT: true; the input reads as it did. -/
def tableKeysSpec : ChangeSpec := { name := "tableKeys", fn := fun _ => fun
  | [d1, d2, d3] => { results := [.lit (.bool true)], args := [d1, d2, d3] }
  | _ => none }
def tableKeysRow : OpenClaim := { program := "ytmjdoonaidolkaadoor", sum := "9f63c95e59066a70714f39a224c130c6c61fd4865461b157e78ef2e7af92c40c", func := "countinghouse/countinghouselaw05.TableKeys", spec := "tableKeys", inPlace := ["internal/bytealg.Count", "internal/bytealg.IndexByte", "internal/bytealg.Index"], unfollowed := true, recurses := true, named := ["internal/bytealg.MaxLen", "unicode/utf8.first", "unicode/utf8.acceptRanges"], apart := false, laid := [("unicode/utf8.acceptRanges", laid_unicode_utf8_acceptRanges), ("unicode/utf8.first", laid_unicode_utf8_first)] }
def TableKeysSaid : Prop := tableKeysRow.holds Tryd.pinned (OpenSpec.ofChange tableKeysSpec)

/-- ITS FALSE NEIGHBOUR: 'it returns false'. Refute it at one input. -/
def tableKeysWrong : ChangeSpec := { name := "tableKeys", fn := fun _ => fun
  | [d1, d2, d3] => { results := [.lit (.bool false)], args := [d1, d2, d3] }
  | _ => none }
def TableKeysWrongFalsely : Prop := tableKeysRow.holds Tryd.pinned (OpenSpec.ofChange tableKeysWrong)

/- THE SECOND FORM. 'bulk': how many values and letters a reading holds, each counted each time it is reached (what is shared counts as often as it is met; a slice's spare places count too). A statement '..UptoSaid' is the law's where the arguments, and the package variables that the reading takes, are together of bulk at most 1048576: NARROWER than '..Said'. Prove '..Said' where nothing that the law and all that it calls make is longer than what came in: it says more and counts as full. Else prove '..UptoSaid'. A law counts once. -/
mutual
def uptoBulk {H : Type} : DataW H → Nat
  | .lit (.string bytes) => bytes.length + 1
  | .lit _ => 1
  | .nil => 1
  | .ptr d => uptoBulk d + 1
  | .slice elems spare => uptoBulkAll elems + uptoBulkAll spare + 1
  | .agg parts => uptoBulkAll parts + 1
  | .iface _ d => uptoBulk d + 1
  | .map entries => uptoBulkEntries entries + 1
  | .held _ => 1
def uptoBulkAll {H : Type} : List (DataW H) → Nat
  | [] => 0
  | d :: r => uptoBulk d + uptoBulkAll r
def uptoBulkEntries {H : Type} : List (Lit × DataW H) → Nat
  | [] => 0
  | x :: r => uptoBulkEntry x + uptoBulkEntries r
def uptoBulkEntry {H : Type} : Lit × DataW H → Nat
  | (.string bytes, d) => bytes.length + uptoBulk d + 1
  | (_, d) => uptoBulk d + 1
 end
def uptoSmall : (H : Type) → List (DataW H) → Bool := fun _ ds => decide (uptoBulkAll ds ≤ 1048576)
def OpenSpec.upto (s : _root_.Go.ChangeSpec) : _root_.Go.OpenSpec := { _root_.Go.OpenSpec.ofChange s with cond := some uptoSmall }

/-- 'countinghouselaw05.TableRows', WHERE WHAT IT READS IS OF BULK AT MOST 1048576: true; the input reads as it did. -/
def tableRowsUptoRow : OpenClaim := { program := "ytmjdoonaidolkaadoor", sum := "9f63c95e59066a70714f39a224c130c6c61fd4865461b157e78ef2e7af92c40c", func := "countinghouse/countinghouselaw05.TableRows", spec := "tableRows", inPlace := ["internal/bytealg.Count", "internal/bytealg.IndexByte", "internal/bytealg.Index"], named := ["internal/bytealg.MaxLen", "unicode/utf8.first", "unicode/utf8.acceptRanges"], apart := false, laid := [("unicode/utf8.acceptRanges", laid_unicode_utf8_acceptRanges), ("unicode/utf8.first", laid_unicode_utf8_first)], narrowed := true }
def TableRowsUptoSaid : Prop := tableRowsUptoRow.holds Tryd.pinned (OpenSpec.upto tableRowsSpec)

/-- 'countinghouselaw05.TableSame', WHERE WHAT IT READS IS OF BULK AT MOST 1048576: true; the input reads as it did. -/
def tableSameUptoRow : OpenClaim := { program := "ytmjdoonaidolkaadoor", sum := "9f63c95e59066a70714f39a224c130c6c61fd4865461b157e78ef2e7af92c40c", func := "countinghouse/countinghouselaw05.TableSame", spec := "tableSame", inPlace := ["internal/bytealg.Count", "internal/bytealg.IndexByte", "internal/bytealg.Index"], unfollowed := true, recurses := true, named := ["internal/bytealg.MaxLen", "unicode/utf8.first", "unicode/utf8.acceptRanges"], apart := false, laid := [("unicode/utf8.acceptRanges", laid_unicode_utf8_acceptRanges), ("unicode/utf8.first", laid_unicode_utf8_first)], narrowed := true }
def TableSameUptoSaid : Prop := tableSameUptoRow.holds Tryd.pinned (OpenSpec.upto tableSameSpec)

/-- 'countinghouselaw05.TableRight', WHERE WHAT IT READS IS OF BULK AT MOST 1048576: true; the input reads as it did. -/
def tableRightUptoRow : OpenClaim := { program := "ytmjdoonaidolkaadoor", sum := "9f63c95e59066a70714f39a224c130c6c61fd4865461b157e78ef2e7af92c40c", func := "countinghouse/countinghouselaw05.TableRight", spec := "tableRight", inPlace := ["internal/bytealg.Count", "internal/bytealg.IndexByte", "internal/bytealg.Index"], unfollowed := true, recurses := true, named := ["internal/bytealg.MaxLen", "unicode/utf8.first", "unicode/utf8.acceptRanges"], apart := false, laid := [("unicode/utf8.acceptRanges", laid_unicode_utf8_acceptRanges), ("unicode/utf8.first", laid_unicode_utf8_first)], narrowed := true }
def TableRightUptoSaid : Prop := tableRightUptoRow.holds Tryd.pinned (OpenSpec.upto tableRightSpec)

/-- 'countinghouselaw05.TableChecks', WHERE WHAT IT READS IS OF BULK AT MOST 1048576: true; the input reads as it did. -/
def tableChecksUptoRow : OpenClaim := { program := "ytmjdoonaidolkaadoor", sum := "9f63c95e59066a70714f39a224c130c6c61fd4865461b157e78ef2e7af92c40c", func := "countinghouse/countinghouselaw05.TableChecks", spec := "tableChecks", inPlace := ["internal/bytealg.Count", "internal/bytealg.IndexByte", "internal/bytealg.Index"], named := ["internal/bytealg.MaxLen", "unicode/utf8.first", "unicode/utf8.acceptRanges"], apart := false, laid := [("unicode/utf8.acceptRanges", laid_unicode_utf8_acceptRanges), ("unicode/utf8.first", laid_unicode_utf8_first)], narrowed := true }
def TableChecksUptoSaid : Prop := tableChecksUptoRow.holds Tryd.pinned (OpenSpec.upto tableChecksSpec)

/-- 'countinghouselaw05.TablePacks', WHERE WHAT IT READS IS OF BULK AT MOST 1048576: true; the input reads as it did. -/
def tablePacksUptoRow : OpenClaim := { program := "ytmjdoonaidolkaadoor", sum := "9f63c95e59066a70714f39a224c130c6c61fd4865461b157e78ef2e7af92c40c", func := "countinghouse/countinghouselaw05.TablePacks", spec := "tablePacks", inPlace := ["internal/bytealg.Count", "internal/bytealg.IndexByte", "internal/bytealg.Index"], named := ["internal/bytealg.MaxLen", "unicode/utf8.first", "unicode/utf8.acceptRanges"], apart := false, laid := [("unicode/utf8.acceptRanges", laid_unicode_utf8_acceptRanges), ("unicode/utf8.first", laid_unicode_utf8_first)], narrowed := true }
def TablePacksUptoSaid : Prop := tablePacksUptoRow.holds Tryd.pinned (OpenSpec.upto tablePacksSpec)

/-- 'countinghouselaw05.TableTurned', WHERE WHAT IT READS IS OF BULK AT MOST 1048576: true; the input reads as it did. -/
def tableTurnedUptoRow : OpenClaim := { program := "ytmjdoonaidolkaadoor", sum := "9f63c95e59066a70714f39a224c130c6c61fd4865461b157e78ef2e7af92c40c", func := "countinghouse/countinghouselaw05.TableTurned", spec := "tableTurned", inPlace := ["internal/bytealg.Count", "internal/bytealg.IndexByte", "internal/bytealg.Index"], named := ["internal/bytealg.MaxLen", "unicode/utf8.first", "unicode/utf8.acceptRanges"], apart := false, laid := [("unicode/utf8.acceptRanges", laid_unicode_utf8_acceptRanges), ("unicode/utf8.first", laid_unicode_utf8_first)], narrowed := true }
def TableTurnedUptoSaid : Prop := tableTurnedUptoRow.holds Tryd.pinned (OpenSpec.upto tableTurnedSpec)

/-- 'countinghouselaw05.TableKeys', WHERE WHAT IT READS IS OF BULK AT MOST 1048576: true; the input reads as it did. -/
def tableKeysUptoRow : OpenClaim := { program := "ytmjdoonaidolkaadoor", sum := "9f63c95e59066a70714f39a224c130c6c61fd4865461b157e78ef2e7af92c40c", func := "countinghouse/countinghouselaw05.TableKeys", spec := "tableKeys", inPlace := ["internal/bytealg.Count", "internal/bytealg.IndexByte", "internal/bytealg.Index"], unfollowed := true, recurses := true, named := ["internal/bytealg.MaxLen", "unicode/utf8.first", "unicode/utf8.acceptRanges"], apart := false, laid := [("unicode/utf8.acceptRanges", laid_unicode_utf8_acceptRanges), ("unicode/utf8.first", laid_unicode_utf8_first)], narrowed := true }
def TableKeysUptoSaid : Prop := tableKeysUptoRow.holds Tryd.pinned (OpenSpec.upto tableKeysSpec)

end Rows
end Go.Proofs.YtmjdoonaidolkaaDoor
