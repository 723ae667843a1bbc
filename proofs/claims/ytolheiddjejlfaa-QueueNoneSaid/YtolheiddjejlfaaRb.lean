/-
  How many go, below 0 none, more than wait all: for all two numbers the law QueueNone answers true, and what it was given reads as before.
-/
import Derived.Test.YtolheiddjejlfaaGa

/- How many go, below 0 none, more than wait all: for all two numbers the law QueueNone answers true, and what it was given reads as before. -/
namespace Go.Proofs.Ytolheiddjejlfaa
open Go.ChangeShapes Go.WideShapes Go.ChangeAt Go.RowKit V

set_option maxRecDepth 100000 in
theorem queueNone_lifted (os : Os) (started : os.Started) (H : Type) (enc : TypeId × Value → H) :
    ReturnsInHanded {} Try.checked os 4 .any (Rows.queueNoneSpec.pre6 enc Try.prog Try.f4 Rows.queueNoneRow.domain false) (Rows.queueNoneSpec.post enc Try.prog Try.f4 false true false false) := by
  refine law_lifted (C := Try.checked) (s := Rows.queueNoneSpec) (tb := 4) 8 H enc Try.own started (by kernel_rfl) Try.func4 Try.laidOut rfl (by kernel_rfl) (by kernel_rfl) (by kernel_rfl) ?_
    (ChangeSpec.witness6 (enc := enc) (C := Try.checked) false ⟨#[], #[.int .i64 0, .int .i64 0], []⟩ 8 (by kernel_rfl) (by kernel_rfl) (by kernel_rfl) (by kernel_rfl)) ?_
  · intro ds hl
    match ds, hl with
    | [d0, d1], _ => exact ⟨rfl, rfl, rfl⟩
  · intro us has0
    have has : Pars Try.prog Try.f4.params.toList us := has0
    rw [Try.params4] at has
    obtain ⟨p0, r, rfl, q0, has⟩ := has.inv_cons
    obtain ⟨p1, r, rfl, q1, has⟩ := has.inv_cons
    have has := has.inv_nil
    subst has
    obtain ⟨a0, rfl, h0⟩ := q0.inv_i64 Try.underlying3
    obtain ⟨a1, rfl, h1⟩ := q1.inv_i64 Try.underlying3
    exact (queueNoneN a0 a1 h1).2

theorem queueNone_holds : Rows.QueueNoneSaid :=
  OpenClaim.holds_of_wide 4 Try.f4 rfl rfl rfl rfl rfl rfl rfl ⟨rfl, rfl, rfl, rfl, rfl⟩ rfl rfl rfl rfl rfl (by kernel_rfl) Try.func4 (by kernel_rfl)
    (of_decide_eq_true (by kernel_rfl)) (by unfold Func.isWrapper; first | (rw [if_pos (by decide +kernel)]; kernel_rfl) | (rw [if_neg (by decide +kernel)]; exact ⟨rfl, rfl⟩))
    (fun os started H enc _ => queueNone_lifted os started H enc)

end Go.Proofs.Ytolheiddjejlfaa
