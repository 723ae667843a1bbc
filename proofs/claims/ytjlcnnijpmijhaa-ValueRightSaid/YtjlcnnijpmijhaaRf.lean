/-
  Is it a value: of any kind, and any fields, the law ValueRight answers true, and what it was given reads as before.
-/
import Derived.Test.YtjlcnnijpmijhaaGa
import Derived.Test.YtjlcnnijpmijhaaGb

/- Is it a value: of any kind, and any fields, the law ValueRight answers true, and what it was given reads as before. -/
namespace Go.Proofs.Ytjlcnnijpmijhaa
open Go.ChangeShapes Go.WideShapes Go.ChangeAt Go.RowKit V

set_option maxRecDepth 100000 in
theorem valueRight_lifted (os : Os) (started : os.Started) (H : Type) (enc : TypeId × Value → H) :
    ReturnsInHanded {} Try.checked os 7 .any (Rows.valueRightSpec.pre6 enc Try.prog Try.f7 Rows.valueRightRow.domain false) (Rows.valueRightSpec.post enc Try.prog Try.f7 false true false false) := by
  refine law_lifted (C := Try.checked) (s := Rows.valueRightSpec) (tb := 4) 8 H enc Try.own started (by kernel_rfl) Try.func7 Try.laidOut rfl (by kernel_rfl) (by kernel_rfl) (by kernel_rfl) ?_
    (ChangeSpec.witness6 (enc := enc) (C := Try.checked) false ⟨#[], #[.int .u8 0, .int .i64 0, .string ⟨#[]⟩, .int .u16 0], []⟩ 8 (by kernel_rfl) (by kernel_rfl) (by kernel_rfl) (by kernel_rfl)) ?_
  · intro ds hl
    match ds, hl with
    | [d0, d1, d2, d3], _ => exact ⟨rfl, rfl, rfl⟩
  · intro us has0
    have has : Pars Try.prog Try.f7.params.toList us := has0
    rw [Try.params7] at has
    obtain ⟨p0, r, rfl, q0, has⟩ := has.inv_cons
    obtain ⟨p1, r, rfl, q1, has⟩ := has.inv_cons
    obtain ⟨p2, r, rfl, q2, has⟩ := has.inv_cons
    obtain ⟨p3, r, rfl, q3, has⟩ := has.inv_cons
    have has := has.inv_nil
    subst has
    obtain ⟨a0, rfl⟩ := q0.inv_u8 Try.underlying5
    obtain ⟨a1, rfl, h1⟩ := q1.inv_i64 Try.underlying2
    obtain ⟨a2, rfl, l2⟩ := q2.inv_str Try.underlying9
    obtain ⟨a3, rfl, h3⟩ := q3.inv_u16 Try.underlying42
    exact (valueRightN ⟨a0, a1, a2⟩ a3 h3).2

theorem valueRight_holds : Rows.ValueRightSaid :=
  OpenClaim.holds_of_wide 7 Try.f7 rfl rfl rfl rfl rfl rfl rfl ⟨rfl, rfl, rfl, rfl, rfl⟩ rfl rfl rfl rfl rfl (by kernel_rfl) Try.func7 (by kernel_rfl)
    (of_decide_eq_true (by kernel_rfl)) (by unfold Func.isWrapper; first | (rw [if_pos (by decide +kernel)]; kernel_rfl) | (rw [if_neg (by decide +kernel)]; exact ⟨rfl, rfl⟩))
    (fun os started H enc _ => valueRight_lifted os started H enc)

end Go.Proofs.Ytjlcnnijpmijhaa
