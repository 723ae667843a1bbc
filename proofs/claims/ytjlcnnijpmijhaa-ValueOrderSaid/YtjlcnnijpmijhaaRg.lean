/-
  Which one stands ahead, one of them does or they are alike, and so on from one to the next: for all three words the law ValueOrder answers true, and what it was given reads as before.
-/
import Derived.Test.YtjlcnnijpmijhaaGa
import Derived.Test.YtjlcnnijpmijhaaGb

/- Which one stands ahead, one of them does or they are alike, and so on from one to the next: for all three words the law ValueOrder answers true, and what it was given reads as before. -/
namespace Go.Proofs.Ytjlcnnijpmijhaa
open Go.ChangeShapes Go.WideShapes Go.ChangeAt Go.RowKit V

set_option maxRecDepth 100000 in
theorem valueOrder_lifted (os : Os) (started : os.Started) (H : Type) (enc : TypeId × Value → H) :
    ReturnsInHanded {} Try.checked os 8 .any (Rows.valueOrderSpec.pre6 enc Try.prog Try.f8 Rows.valueOrderRow.domain false) (Rows.valueOrderSpec.post enc Try.prog Try.f8 false true false false) := by
  refine law_lifted (C := Try.checked) (s := Rows.valueOrderSpec) (tb := 4) 8 H enc Try.own started (by kernel_rfl) Try.func8 Try.laidOut rfl (by kernel_rfl) (by kernel_rfl) (by kernel_rfl) ?_
    (ChangeSpec.witness6 (enc := enc) (C := Try.checked) false ⟨#[], #[.agg #[.int .u8 0, .int .i64 0, .string ⟨#[]⟩], .agg #[.int .u8 0, .int .i64 0, .string ⟨#[]⟩], .agg #[.int .u8 0, .int .i64 0, .string ⟨#[]⟩]], []⟩ 8 (by kernel_rfl) (by kernel_rfl) (by kernel_rfl) (by kernel_rfl)) (by kernel_rfl) ?_
  · intro ds hl
    match ds, hl with
    | [d0, d1, d2], _ => exact ⟨rfl, rfl, rfl⟩
  · intro us has0
    have has : Pars Try.prog Try.f8.params.toList us := has0
    rw [Try.params8] at has
    obtain ⟨p0, r, rfl, q0, has⟩ := has.inv_cons
    obtain ⟨p1, r, rfl, q1, has⟩ := has.inv_cons
    obtain ⟨p2, r, rfl, q2, has⟩ := has.inv_cons
    have has := has.inv_nil
    subst has
    obtain ⟨a0, rfl, h0⟩ := word_inv Try.underlying23 rfl Try.underlying5 Try.underlying2 Try.underlying9 q0
    obtain ⟨a1, rfl, h1⟩ := word_inv Try.underlying23 rfl Try.underlying5 Try.underlying2 Try.underlying9 q1
    obtain ⟨a2, rfl, h2⟩ := word_inv Try.underlying23 rfl Try.underlying5 Try.underlying2 Try.underlying9 q2
    exact (valueOrderN a0 a1 a2).2

theorem valueOrder_holds : Rows.ValueOrderSaid :=
  OpenClaim.holds_of_wide 8 Try.f8 rfl rfl rfl rfl rfl rfl rfl ⟨rfl, rfl, rfl, rfl, rfl⟩ rfl rfl rfl rfl rfl (by kernel_rfl) Try.func8 (by kernel_rfl)
    (of_decide_eq_true (by kernel_rfl)) (by unfold Func.isWrapper; first | (rw [if_pos (by decide +kernel)]; kernel_rfl) | (rw [if_neg (by decide +kernel)]; exact ⟨rfl, rfl⟩))
    (fun os started H enc _ => valueOrder_lifted os started H enc)

end Go.Proofs.Ytjlcnnijpmijhaa
