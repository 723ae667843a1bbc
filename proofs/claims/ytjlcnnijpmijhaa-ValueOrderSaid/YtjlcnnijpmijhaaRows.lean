/-
  No cell of these rows narrows 'for every input' (looked for: loops, veiled, ifaces, maps, wideKeys, modest, calm, conditions, laid).
  DERIVED. THE GIVEN ROWS OF THIS SEAT. 6 by the template 'for every input the law returns true; each argument reads behind the call as it read before'; 0 by the template 'total and deterministic' (their statements: YtjlcnnijpmijhaaTotals.lean).
  GIVEN WITH THE SEED: the statements are not yours to turn. If you find one false, say at which input.
  Laid BY PROGRAM, IN A SANDBOX (cutbox-rows.mjs): the forced cells as the released guide's own fill.sh prints them over the translation e893ed80736d41bc… (all of the seat's roots in one cut). By AI agents, Wed Nov 11 2026. No macro, syntax, notation, axiom, sorry.
-/
import Derived.Test.YtjlcnnijpmijhaaChecked
import GoSem.Claim
import GoSem.ClaimJoined
import GoSem.ClaimMapViews
import Derived.JoinedTies
import Derived.KernelRfl
namespace Go.Proofs.Ytjlcnnijpmijhaa
/- THE CELL 'sum', in the pinned program and in every row, IS THE sha256 OF THE DUMP (.gsa) THAT YtjlcnnijpmijhaaProg.lean LOADS. Nothing in Lean hashes anything: it is a label: what it is worth is what the hold of that sum in a sandbox is worth. -/
noncomputable def Try.pinned : Pinned := { name := "ytjlcnnijpmijhaa", sum := "e893ed80736d41bc9ac109c87e5d7854d5e029c42155a4faecd4b0672b79d45f", checked := Try.checked }
namespace Rows
def none {H : Type} : Left H := { results := [], args := [] }

/-- 'countinghouselaw01.ValueBack': WHATEVER THE INPUT: true; the input reads as it did. -/
def valueBackSpec : ChangeSpec := { name := "valueBack", fn := fun _ => fun
  | [d1, d2] => { results := [.lit (.bool true)], args := [d1, d2] }
  | _ => none }
def valueBackRow : OpenClaim := { program := "ytjlcnnijpmijhaa", sum := "e893ed80736d41bc9ac109c87e5d7854d5e029c42155a4faecd4b0672b79d45f", func := "countinghouse/countinghouselaw01.ValueBack", spec := "valueBack", apart := false }
def ValueBackSaid : Prop := valueBackRow.holds Try.pinned (OpenSpec.ofChange valueBackSpec)

/-- ITS FALSE NEIGHBOUR: 'it returns false'. Refute it at one input. -/
def valueBackWrong : ChangeSpec := { name := "valueBack", fn := fun _ => fun
  | [d1, d2] => { results := [.lit (.bool false)], args := [d1, d2] }
  | _ => none }
def ValueBackWrongFalsely : Prop := valueBackRow.holds Try.pinned (OpenSpec.ofChange valueBackWrong)

/-- 'countinghouselaw01.ValueReads': WHATEVER THE INPUT: true; the input reads as it did. -/
def valueReadsSpec : ChangeSpec := { name := "valueReads", fn := fun _ => fun
  | [d] => { results := [.lit (.bool true)], args := [d] }
  | _ => none }
def valueReadsRow : OpenClaim := { program := "ytjlcnnijpmijhaa", sum := "e893ed80736d41bc9ac109c87e5d7854d5e029c42155a4faecd4b0672b79d45f", func := "countinghouse/countinghouselaw01.ValueReads", spec := "valueReads", apart := false }
def ValueReadsSaid : Prop := valueReadsRow.holds Try.pinned (OpenSpec.ofChange valueReadsSpec)

/-- ITS FALSE NEIGHBOUR: 'it returns false'. Refute it at one input. -/
def valueReadsWrong : ChangeSpec := { name := "valueReads", fn := fun _ => fun
  | [d] => { results := [.lit (.bool false)], args := [d] }
  | _ => none }
def ValueReadsWrongFalsely : Prop := valueReadsRow.holds Try.pinned (OpenSpec.ofChange valueReadsWrong)

/-- 'countinghouselaw01.ValueCut': WHATEVER THE INPUT: true; the input reads as it did. -/
def valueCutSpec : ChangeSpec := { name := "valueCut", fn := fun _ => fun
  | [d1, d2, d3] => { results := [.lit (.bool true)], args := [d1, d2, d3] }
  | _ => none }
def valueCutRow : OpenClaim := { program := "ytjlcnnijpmijhaa", sum := "e893ed80736d41bc9ac109c87e5d7854d5e029c42155a4faecd4b0672b79d45f", func := "countinghouse/countinghouselaw01.ValueCut", spec := "valueCut", apart := false }
def ValueCutSaid : Prop := valueCutRow.holds Try.pinned (OpenSpec.ofChange valueCutSpec)

/-- ITS FALSE NEIGHBOUR: 'it returns false'. Refute it at one input. -/
def valueCutWrong : ChangeSpec := { name := "valueCut", fn := fun _ => fun
  | [d1, d2, d3] => { results := [.lit (.bool false)], args := [d1, d2, d3] }
  | _ => none }
def ValueCutWrongFalsely : Prop := valueCutRow.holds Try.pinned (OpenSpec.ofChange valueCutWrong)

/-- 'countinghouselaw01.ValueMany': WHATEVER THE INPUT: true; the input reads as it did. -/
def valueManySpec : ChangeSpec := { name := "valueMany", fn := fun _ => fun
  | [d] => { results := [.lit (.bool true)], args := [d] }
  | _ => none }
def valueManyRow : OpenClaim := { program := "ytjlcnnijpmijhaa", sum := "e893ed80736d41bc9ac109c87e5d7854d5e029c42155a4faecd4b0672b79d45f", func := "countinghouse/countinghouselaw01.ValueMany", spec := "valueMany", apart := false }
def ValueManySaid : Prop := valueManyRow.holds Try.pinned (OpenSpec.ofChange valueManySpec)

/-- ITS FALSE NEIGHBOUR: 'it returns false'. Refute it at one input. -/
def valueManyWrong : ChangeSpec := { name := "valueMany", fn := fun _ => fun
  | [d] => { results := [.lit (.bool false)], args := [d] }
  | _ => none }
def ValueManyWrongFalsely : Prop := valueManyRow.holds Try.pinned (OpenSpec.ofChange valueManyWrong)

/-- 'countinghouselaw01.ValueRight': WHATEVER THE INPUT: true; the input reads as it did. -/
def valueRightSpec : ChangeSpec := { name := "valueRight", fn := fun _ => fun
  | [d1, d2, d3, d4] => { results := [.lit (.bool true)], args := [d1, d2, d3, d4] }
  | _ => none }
def valueRightRow : OpenClaim := { program := "ytjlcnnijpmijhaa", sum := "e893ed80736d41bc9ac109c87e5d7854d5e029c42155a4faecd4b0672b79d45f", func := "countinghouse/countinghouselaw01.ValueRight", spec := "valueRight", apart := false }
def ValueRightSaid : Prop := valueRightRow.holds Try.pinned (OpenSpec.ofChange valueRightSpec)

/-- ITS FALSE NEIGHBOUR: 'it returns false'. Refute it at one input. -/
def valueRightWrong : ChangeSpec := { name := "valueRight", fn := fun _ => fun
  | [d1, d2, d3, d4] => { results := [.lit (.bool false)], args := [d1, d2, d3, d4] }
  | _ => none }
def ValueRightWrongFalsely : Prop := valueRightRow.holds Try.pinned (OpenSpec.ofChange valueRightWrong)

/-- 'countinghouselaw01.ValueOrder': WHATEVER THE INPUT: true; the input reads as it did. -/
def valueOrderSpec : ChangeSpec := { name := "valueOrder", fn := fun _ => fun
  | [d1, d2, d3] => { results := [.lit (.bool true)], args := [d1, d2, d3] }
  | _ => none }
def valueOrderRow : OpenClaim := { program := "ytjlcnnijpmijhaa", sum := "e893ed80736d41bc9ac109c87e5d7854d5e029c42155a4faecd4b0672b79d45f", func := "countinghouse/countinghouselaw01.ValueOrder", spec := "valueOrder", inPlace := ["internal/bytealg.abigen_runtime_cmpstring"], apart := false }
def ValueOrderSaid : Prop := valueOrderRow.holds Try.pinned (OpenSpec.ofChange valueOrderSpec)

/-- ITS FALSE NEIGHBOUR: 'it returns false'. Refute it at one input. -/
def valueOrderWrong : ChangeSpec := { name := "valueOrder", fn := fun _ => fun
  | [d1, d2, d3] => { results := [.lit (.bool false)], args := [d1, d2, d3] }
  | _ => none }
def ValueOrderWrongFalsely : Prop := valueOrderRow.holds Try.pinned (OpenSpec.ofChange valueOrderWrong)

/- THE SECOND FORM. 'bulk': how many values and letters a reading holds, each counted each time it is reached (what is shared counts as often as it is met; a slice's spare places count too). A statement '..UptoSaid' is the law's where the arguments, and the package variables that the reading takes, are together of bulk at most 1048576: NARROWER than '..Said'. Prove '..Said' where nothing that the law and all that it calls make is longer than what came in: it says more and counts as full. Else prove '..UptoSaid'. A law counts once. -/
mutual
def uptoBulk {H : Type} : DataW H → Nat
  | .lit (.string bytes) => bytes.length + 1
  | .lit _ => 1
  | .nil => 1
  | .ptr d => uptoBulk d + 1
  | .slice elems spare => uptoBulkAll elems + uptoBulkAll spare + 1
  | .agg parts => uptoBulkAll parts + 1
  | .iface _ d => uptoBulk d + 1
  | .map entries => uptoBulkEntries entries + 1
  | .held _ => 1
def uptoBulkAll {H : Type} : List (DataW H) → Nat
  | [] => 0
  | d :: r => uptoBulk d + uptoBulkAll r
def uptoBulkEntries {H : Type} : List (Lit × DataW H) → Nat
  | [] => 0
  | x :: r => uptoBulkEntry x + uptoBulkEntries r
def uptoBulkEntry {H : Type} : Lit × DataW H → Nat
  | (.string bytes, d) => bytes.length + uptoBulk d + 1
  | (_, d) => uptoBulk d + 1
 end
def uptoSmall : (H : Type) → List (DataW H) → Bool := fun _ ds => decide (uptoBulkAll ds ≤ 1048576)
def OpenSpec.upto (s : _root_.Go.ChangeSpec) : _root_.Go.OpenSpec := { _root_.Go.OpenSpec.ofChange s with cond := some uptoSmall }

/-- 'countinghouselaw01.ValueBack', WHERE WHAT IT READS IS OF BULK AT MOST 1048576: true; the input reads as it did. -/
def valueBackUptoRow : OpenClaim := { program := "ytjlcnnijpmijhaa", sum := "e893ed80736d41bc9ac109c87e5d7854d5e029c42155a4faecd4b0672b79d45f", func := "countinghouse/countinghouselaw01.ValueBack", spec := "valueBack", apart := false, narrowed := true }
def ValueBackUptoSaid : Prop := valueBackUptoRow.holds Try.pinned (OpenSpec.upto valueBackSpec)

/-- 'countinghouselaw01.ValueReads', WHERE WHAT IT READS IS OF BULK AT MOST 1048576: true; the input reads as it did. -/
def valueReadsUptoRow : OpenClaim := { program := "ytjlcnnijpmijhaa", sum := "e893ed80736d41bc9ac109c87e5d7854d5e029c42155a4faecd4b0672b79d45f", func := "countinghouse/countinghouselaw01.ValueReads", spec := "valueReads", apart := false, narrowed := true }
def ValueReadsUptoSaid : Prop := valueReadsUptoRow.holds Try.pinned (OpenSpec.upto valueReadsSpec)

/-- 'countinghouselaw01.ValueCut', WHERE WHAT IT READS IS OF BULK AT MOST 1048576: true; the input reads as it did. -/
def valueCutUptoRow : OpenClaim := { program := "ytjlcnnijpmijhaa", sum := "e893ed80736d41bc9ac109c87e5d7854d5e029c42155a4faecd4b0672b79d45f", func := "countinghouse/countinghouselaw01.ValueCut", spec := "valueCut", apart := false, narrowed := true }
def ValueCutUptoSaid : Prop := valueCutUptoRow.holds Try.pinned (OpenSpec.upto valueCutSpec)

/-- 'countinghouselaw01.ValueMany', WHERE WHAT IT READS IS OF BULK AT MOST 1048576: true; the input reads as it did. -/
def valueManyUptoRow : OpenClaim := { program := "ytjlcnnijpmijhaa", sum := "e893ed80736d41bc9ac109c87e5d7854d5e029c42155a4faecd4b0672b79d45f", func := "countinghouse/countinghouselaw01.ValueMany", spec := "valueMany", apart := false, narrowed := true }
def ValueManyUptoSaid : Prop := valueManyUptoRow.holds Try.pinned (OpenSpec.upto valueManySpec)

/-- 'countinghouselaw01.ValueRight', WHERE WHAT IT READS IS OF BULK AT MOST 1048576: true; the input reads as it did. -/
def valueRightUptoRow : OpenClaim := { program := "ytjlcnnijpmijhaa", sum := "e893ed80736d41bc9ac109c87e5d7854d5e029c42155a4faecd4b0672b79d45f", func := "countinghouse/countinghouselaw01.ValueRight", spec := "valueRight", apart := false, narrowed := true }
def ValueRightUptoSaid : Prop := valueRightUptoRow.holds Try.pinned (OpenSpec.upto valueRightSpec)

/-- 'countinghouselaw01.ValueOrder', WHERE WHAT IT READS IS OF BULK AT MOST 1048576: true; the input reads as it did. -/
def valueOrderUptoRow : OpenClaim := { program := "ytjlcnnijpmijhaa", sum := "e893ed80736d41bc9ac109c87e5d7854d5e029c42155a4faecd4b0672b79d45f", func := "countinghouse/countinghouselaw01.ValueOrder", spec := "valueOrder", inPlace := ["internal/bytealg.abigen_runtime_cmpstring"], apart := false, narrowed := true }
def ValueOrderUptoSaid : Prop := valueOrderUptoRow.holds Try.pinned (OpenSpec.upto valueOrderSpec)

end Rows
end Go.Proofs.Ytjlcnnijpmijhaa
