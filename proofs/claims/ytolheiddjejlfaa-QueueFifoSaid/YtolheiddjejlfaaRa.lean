/-
  First come, first gone, round and round: for all bytes the law QueueFifo answers true, and what it was given reads as before.
-/
import Derived.Test.YtolheiddjejlfaaGa

/- First come, first gone, round and round: for all bytes the law QueueFifo answers true, and what it was given reads as before. -/
namespace Go.Proofs.Ytolheiddjejlfaa
open Go.ChangeShapes Go.WideShapes Go.ChangeAt Go.RowKit V

set_option maxRecDepth 100000 in
theorem queueFifo_lifted (os : Os) (started : os.Started) (H : Type) (enc : TypeId × Value → H) :
    ReturnsInHanded {} Try.checked os 3 .any (Rows.queueFifoSpec.pre6 enc Try.prog Try.f3 Rows.queueFifoRow.domain false) (Rows.queueFifoSpec.post enc Try.prog Try.f3 false true false false) := by
  refine law_lifted (C := Try.checked) (s := Rows.queueFifoSpec) (tb := 4) 8 H enc Try.own started (by kernel_rfl) Try.func3 Try.laidOut rfl (by kernel_rfl) (by kernel_rfl) (by kernel_rfl) ?_
    (ChangeSpec.witness6 (enc := enc) (C := Try.checked) false ⟨#[], #[.slice none 0 0], []⟩ 8 (by kernel_rfl) (by kernel_rfl) (by kernel_rfl) (by kernel_rfl)) ?_
  · intro ds hl
    match ds, hl with
    | [d0], _ => exact ⟨rfl, rfl, rfl⟩
  · intro us has0
    have has : Pars Try.prog Try.f3.params.toList us := has0
    rw [Try.params3] at has
    obtain ⟨p0, r, rfl, q0, has⟩ := has.inv_cons
    have has := has.inv_nil
    subst has
    obtain ⟨n0, a0, rfl, l0, z0⟩ := q0.inv_bytes Try.underlying22 Try.underlying5 (by kernel_rfl)
    exact (queueFifoN _ _ a0).2

theorem queueFifo_holds : Rows.QueueFifoSaid :=
  OpenClaim.holds_of_wide 3 Try.f3 rfl rfl rfl rfl rfl rfl rfl ⟨rfl, rfl, rfl, rfl, rfl⟩ rfl rfl rfl rfl rfl (by kernel_rfl) Try.func3 (by kernel_rfl)
    (of_decide_eq_true (by kernel_rfl)) (by unfold Func.isWrapper; first | (rw [if_pos (by decide +kernel)]; kernel_rfl) | (rw [if_neg (by decide +kernel)]; exact ⟨rfl, rfl⟩))
    (fun os started H enc _ => queueFifo_lifted os started H enc)

end Go.Proofs.Ytolheiddjejlfaa
