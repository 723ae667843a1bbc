/-
  Bytes that end too soon are none, those of unlike values are unlike, and none begins another one: for all two words and each number the law ValueCut answers true, and what it was given reads as before.
-/
import Derived.Test.YtjlcnnijpmijhaaGa
import Derived.Test.YtjlcnnijpmijhaaGb

/- Bytes that end too soon are none, those of unlike values are unlike, and none begins another one: for all two words and each number the law ValueCut answers true, and what it was given reads as before. -/
namespace Go.Proofs.Ytjlcnnijpmijhaa
open Go.ChangeShapes Go.WideShapes Go.ChangeAt Go.RowKit V

set_option maxRecDepth 100000 in
theorem valueCut_lifted (os : Os) (started : os.Started) (H : Type) (enc : TypeId × Value → H) :
    ReturnsInHanded {} Try.checked os 5 .any (Rows.valueCutSpec.pre6 enc Try.prog Try.f5 Rows.valueCutRow.domain false) (Rows.valueCutSpec.post enc Try.prog Try.f5 false true false false) := by
  refine law_lifted (C := Try.checked) (s := Rows.valueCutSpec) (tb := 4) 8 H enc Try.own started (by kernel_rfl) Try.func5 Try.laidOut rfl (by kernel_rfl) (by kernel_rfl) (by kernel_rfl) ?_
    (ChangeSpec.witness6 (enc := enc) (C := Try.checked) false ⟨#[], #[.agg #[.int .u8 0, .int .i64 0, .string ⟨#[]⟩], .agg #[.int .u8 0, .int .i64 0, .string ⟨#[]⟩], .int .u8 0], []⟩ 8 (by kernel_rfl) (by kernel_rfl) (by kernel_rfl) (by kernel_rfl)) ?_
  · intro ds hl
    match ds, hl with
    | [d0, d1, d2], _ => exact ⟨rfl, rfl, rfl⟩
  · intro us has0
    have has : Pars Try.prog Try.f5.params.toList us := has0
    rw [Try.params5] at has
    obtain ⟨p0, r, rfl, q0, has⟩ := has.inv_cons
    obtain ⟨p1, r, rfl, q1, has⟩ := has.inv_cons
    obtain ⟨p2, r, rfl, q2, has⟩ := has.inv_cons
    have has := has.inv_nil
    subst has
    obtain ⟨a0, rfl, h0⟩ := word_inv Try.underlying23 rfl Try.underlying5 Try.underlying2 Try.underlying9 q0
    obtain ⟨a1, rfl, h1⟩ := word_inv Try.underlying23 rfl Try.underlying5 Try.underlying2 Try.underlying9 q1
    obtain ⟨a2, rfl⟩ := q2.inv_u8 Try.underlying5
    exact (valueCutN a0 a1 a2 h0 h1).2

theorem valueCut_holds : Rows.ValueCutSaid :=
  OpenClaim.holds_of_wide 5 Try.f5 rfl rfl rfl rfl rfl rfl rfl ⟨rfl, rfl, rfl, rfl, rfl⟩ rfl rfl rfl rfl rfl (by kernel_rfl) Try.func5 (by kernel_rfl)
    (of_decide_eq_true (by kernel_rfl)) (by unfold Func.isWrapper; first | (rw [if_pos (by decide +kernel)]; kernel_rfl) | (rw [if_neg (by decide +kernel)]; exact ⟨rfl, rfl⟩))
    (fun os started H enc _ => valueCut_lifted os started H enc)

end Go.Proofs.Ytjlcnnijpmijhaa
