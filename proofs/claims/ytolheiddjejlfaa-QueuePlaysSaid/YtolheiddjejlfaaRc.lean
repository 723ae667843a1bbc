/-
  Whatever comes and goes, who waits, in which order: for each number and all lists of acts the law QueuePlays answers true, and what it was given reads as before.
-/
import Derived.Test.YtolheiddjejlfaaGa

/- Whatever comes and goes, who waits, in which order: for each number and all lists of acts the law QueuePlays answers true, and what it was given reads as before. -/
namespace Go.Proofs.Ytolheiddjejlfaa
open Go.ChangeShapes Go.WideShapes Go.ChangeAt Go.RowKit V

set_option maxRecDepth 100000 in
theorem queuePlays_lifted (os : Os) (started : os.Started) (H : Type) (enc : TypeId × Value → H) :
    ReturnsInHanded {} Try.checked os 5 .any (Rows.queuePlaysSpec.pre6 enc Try.prog Try.f5 Rows.queuePlaysRow.domain false) (Rows.queuePlaysSpec.post enc Try.prog Try.f5 false true false false) := by
  refine law_lifted (C := Try.checked) (s := Rows.queuePlaysSpec) (tb := 4) 8 H enc Try.own started (by kernel_rfl) Try.func5 Try.laidOut rfl (by kernel_rfl) (by kernel_rfl) (by kernel_rfl) ?_
    (ChangeSpec.witness6 (enc := enc) (C := Try.checked) false ⟨#[], #[.int .i64 0, .slice none 0 0], []⟩ 8 (by kernel_rfl) (by kernel_rfl) (by kernel_rfl) (by kernel_rfl)) (by kernel_rfl) ?_
  · intro ds hl
    match ds, hl with
    | [d0, d1], _ => exact ⟨rfl, rfl, rfl⟩
  · intro us has0
    have has : Pars Try.prog Try.f5.params.toList us := has0
    rw [Try.params5] at has
    obtain ⟨p0, r, rfl, q0, has⟩ := has.inv_cons
    obtain ⟨p1, r, rfl, q1, has⟩ := has.inv_cons
    have has := has.inv_nil
    subst has
    obtain ⟨a0, rfl, h0⟩ := q0.inv_i64 Try.underlying3
    obtain ⟨n1, a1, rfl, h1, l1, z1⟩ := q1.inv_sl Try.underlying32
    exact (show PCallN Try.prog 5 [.int .i64 a0, .sl (Try.prog.cellsOf 37) (some n1) false a1] (.bool true) from by
      obtain ⟨l, rfl, hw⟩ := acts_of Try.underlying37 rfl Try.underlying4 Try.underlying3 a1 h1
      rw [show Try.prog.cellsOf 37 = 2 by kernel_rfl]
      exact queuePlaysN _ _ a0 l hw).2

theorem queuePlays_holds : Rows.QueuePlaysSaid :=
  OpenClaim.holds_of_wide 5 Try.f5 rfl rfl rfl rfl rfl rfl rfl ⟨rfl, rfl, rfl, rfl, rfl⟩ rfl rfl rfl rfl rfl (by kernel_rfl) Try.func5 (by kernel_rfl)
    (of_decide_eq_true (by kernel_rfl)) (by unfold Func.isWrapper; first | (rw [if_pos (by decide +kernel)]; kernel_rfl) | (rw [if_neg (by decide +kernel)]; exact ⟨rfl, rfl⟩))
    (fun os started H enc _ => queuePlays_lifted os started H enc)

end Go.Proofs.Ytolheiddjejlfaa
