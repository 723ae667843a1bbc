/-
  Values one behind the other are read one by one: for all lists of words the law ValueMany answers true, and what it was given reads as before.
-/
import Derived.Test.YtjlcnnijpmijhaaGa
import Derived.Test.YtjlcnnijpmijhaaGb

/- Values one behind the other are read one by one: for all lists of words the law ValueMany answers true, and what it was given reads as before. -/
namespace Go.Proofs.Ytjlcnnijpmijhaa
open Go.ChangeShapes Go.WideShapes Go.ChangeAt Go.RowKit V

set_option maxRecDepth 100000 in
theorem valueMany_lifted (os : Os) (started : os.Started) (H : Type) (enc : TypeId × Value → H) :
    ReturnsInHanded {} Try.checked os 6 .any (Rows.valueManySpec.pre6 enc Try.prog Try.f6 Rows.valueManyRow.domain false) (Rows.valueManySpec.post enc Try.prog Try.f6 false true false false) := by
  refine law_lifted (C := Try.checked) (s := Rows.valueManySpec) (tb := 4) 8 H enc Try.own started (by kernel_rfl) Try.func6 Try.laidOut rfl (by kernel_rfl) (by kernel_rfl) (by kernel_rfl) ?_
    (ChangeSpec.witness6 (enc := enc) (C := Try.checked) false ⟨#[], #[.slice none 0 0], []⟩ 8 (by kernel_rfl) (by kernel_rfl) (by kernel_rfl) (by kernel_rfl)) ?_
  · intro ds hl
    match ds, hl with
    | [d0], _ => exact ⟨rfl, rfl, rfl⟩
  · intro us has0
    have has : Pars Try.prog Try.f6.params.toList us := has0
    rw [Try.params6] at has
    obtain ⟨p0, r, rfl, q0, has⟩ := has.inv_cons
    have has := has.inv_nil
    subst has
    obtain ⟨n0, a0, rfl, h0, l0⟩ := words_inv Try.underlying40 (by kernel_rfl) Try.underlying23 rfl Try.underlying5 Try.underlying2 Try.underlying9 q0
    exact (valueManyN _ _ a0 h0).2

theorem valueMany_holds : Rows.ValueManySaid :=
  OpenClaim.holds_of_wide 6 Try.f6 rfl rfl rfl rfl rfl rfl rfl ⟨rfl, rfl, rfl, rfl, rfl⟩ rfl rfl rfl rfl rfl (by kernel_rfl) Try.func6 (by kernel_rfl)
    (of_decide_eq_true (by kernel_rfl)) (by unfold Func.isWrapper; first | (rw [if_pos (by decide +kernel)]; kernel_rfl) | (rw [if_neg (by decide +kernel)]; exact ⟨rfl, rfl⟩))
    (fun os started H enc _ => valueMany_lifted os started H enc)

end Go.Proofs.Ytjlcnnijpmijhaa
