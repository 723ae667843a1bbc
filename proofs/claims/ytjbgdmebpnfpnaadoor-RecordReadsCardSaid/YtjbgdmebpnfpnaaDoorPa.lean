/-
  Any bytes, and such as begin as a batch does, are read alike by the program and by the reference: for all bytes the law RecordReads answers true; its tied card.
-/
import Derived.Test.YtjbgdmebpnfpnaaDoorFc
import Derived.Test.YtjbgdmebpnfpnaaDoorGb
import Derived.Test.YtjbgdmebpnfpnaaDoorRows
import Derived.LaidLaws
import Derived.LaidHandle
import Derived.RowKitTokens
import Derived.Test.YtjbgdmebpnfpnaaDoorGc
import Derived.Test.YtjbgdmebpnfpnaaDoorTie
import Derived.Test.YtjbgdmebpnfpnaaDoorCards
import Derived.SevenTiedAt

/- What the rows of this seat share: what is known of the program, what the variable errors.errorType holds, a world that holds it. -/
namespace Go.Proofs.YtjbgdmebpnfpnaaDoor
open Go.ChangeShapes Go.WideShapes Go.RowKit
set_option maxRecDepth 100000
theorem Tryd.own : ownKnob Tryd.prog.godebug = none := by kernel_rfl
theorem Tryd.laidOut : laidOutB Tryd.prog = true := by kernel_rfl
theorem Tryd.et : Tryd.prog.globalNamed "errors.errorType" = some 0 := by kernel_rfl
theorem Tryd.rt : (Tryd.prog.cutTypes.find? (·.1 == "internal/reflectlite.rtype")).map (·.2) = some 95 := by kernel_rfl
theorem Tryd.oneRow : ((List.range 140).filter fun t => Tryd.prog.rowNamed t [101, 114, 114, 111, 114]) = [58] := by kernel_rfl
theorem Tryd.size : Tryd.prog.types.size = 140 := by kernel_rfl

/-- What the rows list. -/
def lays {H : Type} : List (String × DataW H) := [("errors.errorType", Rows.laid_errors_errorType)]

theorem handle_of_laid {W : World} (h : laidMetH Tryd.prog lays W) : W.cell? ⟨0, 0, none⟩ = some V.gv := by
  have h' : laidMet Tryd.prog [] W ∧ handlesMet Tryd.prog lays W := h
  obtain ⟨name, u, ty, e1, e2, e3, e4, e5⟩ := h'.2 _ (List.mem_singleton.2 rfl)
  have en : name = [101, 114, 114, 111, 114] := (Option.some.inj e1).symm
  subst en
  obtain rfl := Option.some.inj (Tryd.rt.symm.trans e2)
  have hm : ty ∈ (List.range 140).filter fun t => Tryd.prog.rowNamed t [101, 114, 114, 111, 114] := List.mem_filter.2 ⟨List.mem_range.2 (by rw [← Tryd.size]; exact e3), e4⟩
  rw [Tryd.oneRow] at hm
  obtain rfl := List.mem_singleton.1 hm
  have hh : typeHandle Tryd.prog 58 = .pointer (some ⟨1, 58, none⟩) := by kernel_rfl
  rw [hh] at e5
  unfold V.gv
  simpa using World.var?_cell Tryd.et e5 0

theorem glob_of_laid {W : World} (h : laidMetH Tryd.prog lays W) (k : Nat) (v : Value) (hk : [V.gv][k]? = some v) : W.cell? ⟨0, k, none⟩ = some v ∧ v.oneCell' = true := by
  match k with
  | 0 =>
    have e : v = V.gv := by simpa using hk.symm
    rw [e]
    exact ⟨handle_of_laid h, rfl⟩
  | k + 1 => simp at hk

noncomputable def laidWorld (os : Os) : World :=
  let w0 := World.holding Tryd.prog os ⟨#[], #[], []⟩
  { w0 with heap := w0.heap.modify 0 fun
      | .cells _ t frozen => .cells #[V.gv] t frozen
      | o => o }
theorem laidWorld_met (os : Os) (args : Array Value) : laidMetH Tryd.prog lays ((laidWorld os).forCall (fun _ _ => 0) ⟨#[], args, []⟩).memory :=
  laidMetH_of_parts ⟨[], rfl, List.nodup_nil, fun _ _ h => by cases h⟩ (by kernel_rfl)

end Go.Proofs.YtjbgdmebpnfpnaaDoor

/- The law RecordReads. -/
namespace Go.Proofs.YtjbgdmebpnfpnaaDoor.V
open Go.IntWalk Go.Lib

def head12 : List UInt8 := [0, 0, 0, 0, 0, 0, 0, 9, 0, 2, 0, 1]

theorem recordReadsN (nl : Option Bool) (own : Bool) (p : List UInt8) : VCall Tryd.prog 3 [.sl 1 nl own (bs p)] [G0] (.bool true) [G0] := by
  refine VCall.ofS (tr []) f3 (Nat.le_of_ble_eq_true rfl) (Nat.le_refl _) (.bool _) hob_G0 ?_
  by_cases hp : p.length ≤ 200
  · refine cond_f (by rw [bs_len]; exact decide_eq_false (by omega)) ?_
    refine call_h shortN ?_
    repeat (first | refine guard_t rfl ?_ | refine guard_f (by decide) ?_)
    refine call_h (readsN _ _ p (by omega)) ?_
    repeat (first | refine guard_t rfl ?_ | refine guard_f (by decide) ?_)
    refine call_p (joinN (some false) _ true _ head12 p (by simp [head12]; omega)) ?_
    repeat (first | refine guard_t rfl ?_ | refine guard_f (by decide) ?_)
    refine call_h (readsN _ _ (head12 ++ p) (by simp [head12]; omega)) ?_
    repeat (first | refine guard_t rfl ?_ | refine guard_f (by decide) ?_)
    exact ⟨⟨_, rfl⟩, rfl⟩
  · refine cond_t (by rw [bs_len]; exact decide_eq_true (by omega)) ?_
    refine call_h shortN ?_
    exact ⟨⟨_, rfl⟩, rfl⟩

end Go.Proofs.YtjbgdmebpnfpnaaDoor.V

/- Any bytes, and such as begin as a batch does, are read alike by the program and by the reference: for all bytes the law RecordReads answers true; its tied card. -/
namespace Go.Proofs.YtjbgdmebpnfpnaaDoor
open Go.ChangeShapes Go.WideShapes Go.ChangeAt Go.RowKit V

set_option maxRecDepth 100000 in
theorem recordReads_lifted (os : Os) (started : os.Started) (H : Type) (enc : TypeId × Value → H) :
    ReturnsInHanded {} Tryd.checked os 3 .any (fun w args => (Rows.recordReadsSpec.pre enc Tryd.prog Tryd.f3 [] false w args ∧ laidMetH Tryd.prog Rows.recordReadsRow.laid w) ∧ sizedMet enc Tryd.prog Tryd.f3 (OpenSpec.ofChange Rows.recordReadsSpec) false w args)
      (Rows.recordReadsSpec.post enc Tryd.prog Tryd.f3 false true false false) := by
  refine law_liftedG (C := Tryd.checked) (s := Rows.recordReadsSpec) (tb := 4) (X := fun w _ => laidMetH Tryd.prog lays w) (fun _ _ _ hh h => h.of_heap hh) 8 H enc Tryd.own started (by kernel_rfl) Tryd.func3 Tryd.laidOut rfl (by kernel_rfl) (by kernel_rfl) (by kernel_rfl) ?_
    (ChangeSpec.witness_at (enc := enc) (C := Tryd.checked) (os := os) (X := fun w _ => laidMetH Tryd.prog lays w) false (laidWorld os) #[.slice none 0 0] 8 rfl (by kernel_rfl) (by kernel_rfl) (by kernel_rfl) (by kernel_rfl) (by kernel_rfl) (laidWorld_met os _))
    0 [gv] (fun w _ h => glob_of_laid h) (by kernel_rfl) ?_
  · intro ds hl
    match ds, hl with
    | [d0], _ => exact ⟨rfl, rfl, rfl⟩
  · intro us has0
    have has : Pars Tryd.prog Tryd.f3.params.toList us := has0
    rw [Tryd.params3] at has
    obtain ⟨p0, r, rfl, q0, has⟩ := has.inv_cons
    have has := has.inv_nil
    subst has
    obtain ⟨n0, a0, rfl, l0, z0⟩ := q0.inv_bytes Tryd.underlying22 Tryd.underlying5 (by kernel_rfl)
    exact (recordReadsN _ _ a0)

theorem recordReads_said : Rows.RecordReadsSaid :=
  OpenClaim.holds_of_wide 3 Tryd.f3 rfl rfl rfl rfl rfl rfl rfl ⟨rfl, rfl, rfl, rfl, rfl⟩ rfl rfl rfl rfl rfl (by kernel_rfl) Tryd.func3 (by kernel_rfl)
    (of_decide_eq_true (by kernel_rfl)) (by unfold Func.isWrapper; first | (rw [if_pos (by decide +kernel)]; kernel_rfl) | (rw [if_neg (by decide +kernel)]; exact ⟨rfl, rfl⟩))
    (fun os started H enc _ => recordReads_lifted os started H enc)

theorem recordReads_holds : Rows.RecordReadsCardSaid :=
  Claim7.holds_tied_plain_at .later [] [.handle] true (true, "f36a0c6cf363801d103153c6e69d1f90fa1972ec92843e683f996dc657243d1c") true
    recordReads_said (fun _ h => by cases h) (by kernel_rfl) (fun _ h => by cases h) recordReads_row_tie rfl ⟨rfl, rfl⟩ (by kernel_rfl) rfl
    (fun f fn hf hfn => by
      obtain rfl : f = 3 := Option.some.inj ((show Tryd.prog.funcNamed "countinghouse/countinghouselaw06.RecordReads" = some 3 by kernel_rfl).symm.trans hf) |>.symm
      obtain rfl : fn = Tryd.f3 := (Option.some.inj (Tryd.func3.symm.trans hfn)).symm
      exact ⟨by kernel_rfl, fun j t ht => by
        rw [Tryd.params3] at ht
        have hm : t ∈ [22] := by simpa using Array.mem_of_getElem? ht
        have hall : ([22].all fun u => !Tryd.prog.wantsStandIn u) = true := by kernel_rfl
        exact (show Tryd.prog.wantsStandIn t = false by simpa using List.all_eq_true.1 hall t hm)⟩)
    (by kernel_rfl)

end Go.Proofs.YtjbgdmebpnfpnaaDoor
