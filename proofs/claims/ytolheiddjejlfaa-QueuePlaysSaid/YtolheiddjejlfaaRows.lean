/-
  No cell of these rows narrows 'for every input' (looked for: loops, veiled, ifaces, maps, wideKeys, modest, calm, conditions, laid).
  DERIVED. THE GIVEN ROWS OF THIS SEAT. 6 by the template 'for every input the law returns true; each argument reads behind the call as it read before'; 0 by the template 'total and deterministic' (their statements: YtolheiddjejlfaaTotals.lean).
  GIVEN WITH THE SEED: the statements are not yours to turn. If you find one false, say at which input.
  Laid BY PROGRAM, IN A SANDBOX (cutbox-rows.mjs): the forced cells as the released guide's own fill.sh prints them over the translation fddbebbe1f52b04a… (all of the seat's roots in one cut). By AI agents, Wed Nov 11 2026. No macro, syntax, notation, axiom, sorry.
-/
import Derived.Test.YtolheiddjejlfaaChecked
import GoSem.Claim
import GoSem.ClaimJoined
import GoSem.ClaimMapViews
import Derived.JoinedTies
import Derived.KernelRfl
namespace Go.Proofs.Ytolheiddjejlfaa
/- THE CELL 'sum', in the pinned program and in every row, IS THE sha256 OF THE DUMP (.gsa) THAT YtolheiddjejlfaaProg.lean LOADS. Nothing in Lean hashes anything: it is a label: what it is worth is what the hold of that sum in a sandbox is worth. -/
noncomputable def Try.pinned : Pinned := { name := "ytolheiddjejlfaa", sum := "fddbebbe1f52b04ae02bb112d3e9c1fa76ea12bebb7fe943798ea3667f60fd87", checked := Try.checked }
namespace Rows
def none {H : Type} : Left H := { results := [], args := [] }

/-- 'countinghouselaw16.QueueFifo': WHATEVER THE INPUT: true; the input reads as it did. -/
def queueFifoSpec : ChangeSpec := { name := "queueFifo", fn := fun _ => fun
  | [d] => { results := [.lit (.bool true)], args := [d] }
  | _ => none }
def queueFifoRow : OpenClaim := { program := "ytolheiddjejlfaa", sum := "fddbebbe1f52b04ae02bb112d3e9c1fa76ea12bebb7fe943798ea3667f60fd87", func := "countinghouse/countinghouselaw16.QueueFifo", spec := "queueFifo", apart := false }
def QueueFifoSaid : Prop := queueFifoRow.holds Try.pinned (OpenSpec.ofChange queueFifoSpec)

/-- ITS FALSE NEIGHBOUR: 'it returns false'. Refute it at one input. -/
def queueFifoWrong : ChangeSpec := { name := "queueFifo", fn := fun _ => fun
  | [d] => { results := [.lit (.bool false)], args := [d] }
  | _ => none }
def QueueFifoWrongFalsely : Prop := queueFifoRow.holds Try.pinned (OpenSpec.ofChange queueFifoWrong)

/-- 'countinghouselaw16.QueueNone': WHATEVER THE INPUT: true; the input reads as it did. -/
def queueNoneSpec : ChangeSpec := { name := "queueNone", fn := fun _ => fun
  | [d1, d2] => { results := [.lit (.bool true)], args := [d1, d2] }
  | _ => none }
def queueNoneRow : OpenClaim := { program := "ytolheiddjejlfaa", sum := "fddbebbe1f52b04ae02bb112d3e9c1fa76ea12bebb7fe943798ea3667f60fd87", func := "countinghouse/countinghouselaw16.QueueNone", spec := "queueNone", apart := false }
def QueueNoneSaid : Prop := queueNoneRow.holds Try.pinned (OpenSpec.ofChange queueNoneSpec)

/-- ITS FALSE NEIGHBOUR: 'it returns false'. Refute it at one input. -/
def queueNoneWrong : ChangeSpec := { name := "queueNone", fn := fun _ => fun
  | [d1, d2] => { results := [.lit (.bool false)], args := [d1, d2] }
  | _ => none }
def QueueNoneWrongFalsely : Prop := queueNoneRow.holds Try.pinned (OpenSpec.ofChange queueNoneWrong)

/-- 'countinghouselaw16.QueuePlays': WHATEVER THE INPUT: true; the input reads as it did. -/
def queuePlaysSpec : ChangeSpec := { name := "queuePlays", fn := fun _ => fun
  | [d1, d2] => { results := [.lit (.bool true)], args := [d1, d2] }
  | _ => none }
def queuePlaysRow : OpenClaim := { program := "ytolheiddjejlfaa", sum := "fddbebbe1f52b04ae02bb112d3e9c1fa76ea12bebb7fe943798ea3667f60fd87", func := "countinghouse/countinghouselaw16.QueuePlays", spec := "queuePlays", apart := false }
def QueuePlaysSaid : Prop := queuePlaysRow.holds Try.pinned (OpenSpec.ofChange queuePlaysSpec)

/-- ITS FALSE NEIGHBOUR: 'it returns false'. Refute it at one input. -/
def queuePlaysWrong : ChangeSpec := { name := "queuePlays", fn := fun _ => fun
  | [d1, d2] => { results := [.lit (.bool false)], args := [d1, d2] }
  | _ => none }
def QueuePlaysWrongFalsely : Prop := queuePlaysRow.holds Try.pinned (OpenSpec.ofChange queuePlaysWrong)

/-- 'countinghouselaw16.QueueRoom': WHATEVER THE INPUT: true; the input reads as it did. -/
def queueRoomSpec : ChangeSpec := { name := "queueRoom", fn := fun _ => fun
  | [d1, d2] => { results := [.lit (.bool true)], args := [d1, d2] }
  | _ => none }
def queueRoomRow : OpenClaim := { program := "ytolheiddjejlfaa", sum := "fddbebbe1f52b04ae02bb112d3e9c1fa76ea12bebb7fe943798ea3667f60fd87", func := "countinghouse/countinghouselaw16.QueueRoom", spec := "queueRoom", apart := false }
def QueueRoomSaid : Prop := queueRoomRow.holds Try.pinned (OpenSpec.ofChange queueRoomSpec)

/-- ITS FALSE NEIGHBOUR: 'it returns false'. Refute it at one input. -/
def queueRoomWrong : ChangeSpec := { name := "queueRoom", fn := fun _ => fun
  | [d1, d2] => { results := [.lit (.bool false)], args := [d1, d2] }
  | _ => none }
def QueueRoomWrongFalsely : Prop := queueRoomRow.holds Try.pinned (OpenSpec.ofChange queueRoomWrong)

/-- 'countinghouselaw16.QueueNil': WHATEVER THE INPUT: true; the input reads as it did. -/
def queueNilSpec : ChangeSpec := { name := "queueNil", fn := fun _ => fun
  | [d] => { results := [.lit (.bool true)], args := [d] }
  | _ => none }
def queueNilRow : OpenClaim := { program := "ytolheiddjejlfaa", sum := "fddbebbe1f52b04ae02bb112d3e9c1fa76ea12bebb7fe943798ea3667f60fd87", func := "countinghouse/countinghouselaw16.QueueNil", spec := "queueNil", apart := false }
def QueueNilSaid : Prop := queueNilRow.holds Try.pinned (OpenSpec.ofChange queueNilSpec)

/-- ITS FALSE NEIGHBOUR: 'it returns false'. Refute it at one input. -/
def queueNilWrong : ChangeSpec := { name := "queueNil", fn := fun _ => fun
  | [d] => { results := [.lit (.bool false)], args := [d] }
  | _ => none }
def QueueNilWrongFalsely : Prop := queueNilRow.holds Try.pinned (OpenSpec.ofChange queueNilWrong)

/-- 'countinghouselaw16.QueueHas': WHATEVER THE INPUT: true; the input reads as it did. -/
def queueHasSpec : ChangeSpec := { name := "queueHas", fn := fun _ => fun
  | [d] => { results := [.lit (.bool true)], args := [d] }
  | _ => none }
def queueHasRow : OpenClaim := { program := "ytolheiddjejlfaa", sum := "fddbebbe1f52b04ae02bb112d3e9c1fa76ea12bebb7fe943798ea3667f60fd87", func := "countinghouse/countinghouselaw16.QueueHas", spec := "queueHas", apart := false }
def QueueHasSaid : Prop := queueHasRow.holds Try.pinned (OpenSpec.ofChange queueHasSpec)

/-- ITS FALSE NEIGHBOUR: 'it returns false'. Refute it at one input. -/
def queueHasWrong : ChangeSpec := { name := "queueHas", fn := fun _ => fun
  | [d] => { results := [.lit (.bool false)], args := [d] }
  | _ => none }
def QueueHasWrongFalsely : Prop := queueHasRow.holds Try.pinned (OpenSpec.ofChange queueHasWrong)

/- THE SECOND FORM. 'bulk': how many values and letters a reading holds, each counted each time it is reached (what is shared counts as often as it is met; a slice's spare places count too). A statement '..UptoSaid' is the law's where the arguments, and the package variables that the reading takes, are together of bulk at most 1048576: NARROWER than '..Said'. Prove '..Said' where nothing that the law and all that it calls make is longer than what came in: it says more and counts as full. Else prove '..UptoSaid'. A law counts once. -/
mutual
def uptoBulk {H : Type} : DataW H → Nat
  | .lit (.string bytes) => bytes.length + 1
  | .lit _ => 1
  | .nil => 1
  | .ptr d => uptoBulk d + 1
  | .slice elems spare => uptoBulkAll elems + uptoBulkAll spare + 1
  | .agg parts => uptoBulkAll parts + 1
  | .iface _ d => uptoBulk d + 1
  | .map entries => uptoBulkEntries entries + 1
  | .held _ => 1
def uptoBulkAll {H : Type} : List (DataW H) → Nat
  | [] => 0
  | d :: r => uptoBulk d + uptoBulkAll r
def uptoBulkEntries {H : Type} : List (Lit × DataW H) → Nat
  | [] => 0
  | x :: r => uptoBulkEntry x + uptoBulkEntries r
def uptoBulkEntry {H : Type} : Lit × DataW H → Nat
  | (.string bytes, d) => bytes.length + uptoBulk d + 1
  | (_, d) => uptoBulk d + 1
 end
def uptoSmall : (H : Type) → List (DataW H) → Bool := fun _ ds => decide (uptoBulkAll ds ≤ 1048576)
def OpenSpec.upto (s : _root_.Go.ChangeSpec) : _root_.Go.OpenSpec := { _root_.Go.OpenSpec.ofChange s with cond := some uptoSmall }

/-- 'countinghouselaw16.QueueFifo', WHERE WHAT IT READS IS OF BULK AT MOST 1048576: true; the input reads as it did. -/
def queueFifoUptoRow : OpenClaim := { program := "ytolheiddjejlfaa", sum := "fddbebbe1f52b04ae02bb112d3e9c1fa76ea12bebb7fe943798ea3667f60fd87", func := "countinghouse/countinghouselaw16.QueueFifo", spec := "queueFifo", apart := false, narrowed := true }
def QueueFifoUptoSaid : Prop := queueFifoUptoRow.holds Try.pinned (OpenSpec.upto queueFifoSpec)

/-- 'countinghouselaw16.QueueNone', WHERE WHAT IT READS IS OF BULK AT MOST 1048576: true; the input reads as it did. -/
def queueNoneUptoRow : OpenClaim := { program := "ytolheiddjejlfaa", sum := "fddbebbe1f52b04ae02bb112d3e9c1fa76ea12bebb7fe943798ea3667f60fd87", func := "countinghouse/countinghouselaw16.QueueNone", spec := "queueNone", apart := false, narrowed := true }
def QueueNoneUptoSaid : Prop := queueNoneUptoRow.holds Try.pinned (OpenSpec.upto queueNoneSpec)

/-- 'countinghouselaw16.QueuePlays', WHERE WHAT IT READS IS OF BULK AT MOST 1048576: true; the input reads as it did. -/
def queuePlaysUptoRow : OpenClaim := { program := "ytolheiddjejlfaa", sum := "fddbebbe1f52b04ae02bb112d3e9c1fa76ea12bebb7fe943798ea3667f60fd87", func := "countinghouse/countinghouselaw16.QueuePlays", spec := "queuePlays", apart := false, narrowed := true }
def QueuePlaysUptoSaid : Prop := queuePlaysUptoRow.holds Try.pinned (OpenSpec.upto queuePlaysSpec)

/-- 'countinghouselaw16.QueueRoom', WHERE WHAT IT READS IS OF BULK AT MOST 1048576: true; the input reads as it did. -/
def queueRoomUptoRow : OpenClaim := { program := "ytolheiddjejlfaa", sum := "fddbebbe1f52b04ae02bb112d3e9c1fa76ea12bebb7fe943798ea3667f60fd87", func := "countinghouse/countinghouselaw16.QueueRoom", spec := "queueRoom", apart := false, narrowed := true }
def QueueRoomUptoSaid : Prop := queueRoomUptoRow.holds Try.pinned (OpenSpec.upto queueRoomSpec)

/-- 'countinghouselaw16.QueueNil', WHERE WHAT IT READS IS OF BULK AT MOST 1048576: true; the input reads as it did. -/
def queueNilUptoRow : OpenClaim := { program := "ytolheiddjejlfaa", sum := "fddbebbe1f52b04ae02bb112d3e9c1fa76ea12bebb7fe943798ea3667f60fd87", func := "countinghouse/countinghouselaw16.QueueNil", spec := "queueNil", apart := false, narrowed := true }
def QueueNilUptoSaid : Prop := queueNilUptoRow.holds Try.pinned (OpenSpec.upto queueNilSpec)

/-- 'countinghouselaw16.QueueHas', WHERE WHAT IT READS IS OF BULK AT MOST 1048576: true; the input reads as it did. -/
def queueHasUptoRow : OpenClaim := { program := "ytolheiddjejlfaa", sum := "fddbebbe1f52b04ae02bb112d3e9c1fa76ea12bebb7fe943798ea3667f60fd87", func := "countinghouse/countinghouselaw16.QueueHas", spec := "queueHas", apart := false, narrowed := true }
def QueueHasUptoSaid : Prop := queueHasUptoRow.holds Try.pinned (OpenSpec.upto queueHasSpec)

end Rows
end Go.Proofs.Ytolheiddjejlfaa
