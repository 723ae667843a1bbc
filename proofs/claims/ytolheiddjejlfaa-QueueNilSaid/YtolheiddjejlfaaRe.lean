/-
  Of no queue: for each number the law QueueNil answers true, and what it was given reads as before.
-/
import Derived.Test.YtolheiddjejlfaaGa

/- Of no queue: for each number the law QueueNil answers true, and what it was given reads as before. -/
namespace Go.Proofs.Ytolheiddjejlfaa
open Go.ChangeShapes Go.WideShapes Go.ChangeAt Go.RowKit V

set_option maxRecDepth 100000 in
theorem queueNil_lifted (os : Os) (started : os.Started) (H : Type) (enc : TypeId × Value → H) :
    ReturnsInHanded {} Try.checked os 7 .any (Rows.queueNilSpec.pre6 enc Try.prog Try.f7 Rows.queueNilRow.domain false) (Rows.queueNilSpec.post enc Try.prog Try.f7 false true false false) := by
  refine law_lifted (C := Try.checked) (s := Rows.queueNilSpec) (tb := 4) 8 H enc Try.own started (by kernel_rfl) Try.func7 Try.laidOut rfl (by kernel_rfl) (by kernel_rfl) (by kernel_rfl) ?_
    (ChangeSpec.witness6 (enc := enc) (C := Try.checked) false ⟨#[], #[.int .i64 0], []⟩ 8 (by kernel_rfl) (by kernel_rfl) (by kernel_rfl) (by kernel_rfl)) ?_
  · intro ds hl
    match ds, hl with
    | [d0], _ => exact ⟨rfl, rfl, rfl⟩
  · intro us has0
    have has : Pars Try.prog Try.f7.params.toList us := has0
    rw [Try.params7] at has
    obtain ⟨p0, r, rfl, q0, has⟩ := has.inv_cons
    have has := has.inv_nil
    subst has
    obtain ⟨a0, rfl, h0⟩ := q0.inv_i64 Try.underlying3
    exact (queueNilN a0).2

theorem queueNil_holds : Rows.QueueNilSaid :=
  OpenClaim.holds_of_wide 7 Try.f7 rfl rfl rfl rfl rfl rfl rfl ⟨rfl, rfl, rfl, rfl, rfl⟩ rfl rfl rfl rfl rfl (by kernel_rfl) Try.func7 (by kernel_rfl)
    (of_decide_eq_true (by kernel_rfl)) (by unfold Func.isWrapper; first | (rw [if_pos (by decide +kernel)]; kernel_rfl) | (rw [if_neg (by decide +kernel)]; exact ⟨rfl, rfl⟩))
    (fun os started H enc _ => queueNil_lifted os started H enc)

end Go.Proofs.Ytolheiddjejlfaa
