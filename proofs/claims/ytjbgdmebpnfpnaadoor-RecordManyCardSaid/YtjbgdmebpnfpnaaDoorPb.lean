/-
  As many writes as may be are read, and one more is not: for all numbers the law RecordMany answers true; its tied card.
-/
import Derived.Test.YtjbgdmebpnfpnaaDoorFc
import Derived.Test.YtjbgdmebpnfpnaaDoorGb
import Derived.Test.YtjbgdmebpnfpnaaDoorRows
import Derived.LaidLaws
import Derived.LaidHandle
import Derived.RowKitTokens
import Derived.Test.YtjbgdmebpnfpnaaDoorGd
import Derived.Test.YtjbgdmebpnfpnaaDoorTie
import Derived.Test.YtjbgdmebpnfpnaaDoorCards
import Derived.SevenTiedAt

/- What the rows of this seat share: what is known of the program, what the variable errors.errorType holds, a world that holds it. -/
namespace Go.Proofs.YtjbgdmebpnfpnaaDoor
open Go.ChangeShapes Go.WideShapes Go.RowKit
set_option maxRecDepth 100000
theorem Tryd.own : ownKnob Tryd.prog.godebug = none := by kernel_rfl
theorem Tryd.laidOut : laidOutB Tryd.prog = true := by kernel_rfl
theorem Tryd.et : Tryd.prog.globalNamed "errors.errorType" = some 0 := by kernel_rfl
theorem Tryd.rt : (Tryd.prog.cutTypes.find? (·.1 == "internal/reflectlite.rtype")).map (·.2) = some 95 := by kernel_rfl
theorem Tryd.oneRow : ((List.range 140).filter fun t => Tryd.prog.rowNamed t [101, 114, 114, 111, 114]) = [58] := by kernel_rfl
theorem Tryd.size : Tryd.prog.types.size = 140 := by kernel_rfl

/-- What the rows list. -/
def lays {H : Type} : List (String × DataW H) := [("errors.errorType", Rows.laid_errors_errorType)]

theorem handle_of_laid {W : World} (h : laidMetH Tryd.prog lays W) : W.cell? ⟨0, 0, none⟩ = some V.gv := by
  have h' : laidMet Tryd.prog [] W ∧ handlesMet Tryd.prog lays W := h
  obtain ⟨name, u, ty, e1, e2, e3, e4, e5⟩ := h'.2 _ (List.mem_singleton.2 rfl)
  have en : name = [101, 114, 114, 111, 114] := (Option.some.inj e1).symm
  subst en
  obtain rfl := Option.some.inj (Tryd.rt.symm.trans e2)
  have hm : ty ∈ (List.range 140).filter fun t => Tryd.prog.rowNamed t [101, 114, 114, 111, 114] := List.mem_filter.2 ⟨List.mem_range.2 (by rw [← Tryd.size]; exact e3), e4⟩
  rw [Tryd.oneRow] at hm
  obtain rfl := List.mem_singleton.1 hm
  have hh : typeHandle Tryd.prog 58 = .pointer (some ⟨1, 58, none⟩) := by kernel_rfl
  rw [hh] at e5
  unfold V.gv
  simpa using World.var?_cell Tryd.et e5 0

theorem glob_of_laid {W : World} (h : laidMetH Tryd.prog lays W) (k : Nat) (v : Value) (hk : [V.gv][k]? = some v) : W.cell? ⟨0, k, none⟩ = some v ∧ v.oneCell' = true := by
  match k with
  | 0 =>
    have e : v = V.gv := by simpa using hk.symm
    rw [e]
    exact ⟨handle_of_laid h, rfl⟩
  | k + 1 => simp at hk

noncomputable def laidWorld (os : Os) : World :=
  let w0 := World.holding Tryd.prog os ⟨#[], #[], []⟩
  { w0 with heap := w0.heap.modify 0 fun
      | .cells _ t frozen => .cells #[V.gv] t frozen
      | o => o }
theorem laidWorld_met (os : Os) (args : Array Value) : laidMetH Tryd.prog lays ((laidWorld os).forCall (fun _ _ => 0) ⟨#[], args, []⟩).memory :=
  laidMetH_of_parts ⟨[], rfl, List.nodup_nil, fun _ _ h => by cases h⟩ (by kernel_rfl)

end Go.Proofs.YtjbgdmebpnfpnaaDoor

/- The law RecordMany, as a contract. -/
namespace Go.Proofs.YtjbgdmebpnfpnaaDoor.V
open Go.IntWalk Go.Lib

theorem recordManyN (n : UInt8) (gone : Bool) : VCall Tryd.prog 6 [.int .u8 (n.toNat : Int), .bool gone] [G0] (.bool true) [G0] := by
  refine VCall.ofS (tr [1000022]) f6 (Nat.le_of_ble_eq_true rfl) (Nat.le_refl _) (.bool _) hob_G0 ?_
  refine And.intro (by decide) ?_
  have hn := n.toNat_lt
  obtain ⟨k, hk, ek⟩ : ∃ k : Nat, k < 70 ∧ IntKind.i64.wrap ((n.toNat : Int).tmod 70) = (k : Int) := by
    refine ⟨n.toNat % 70, Nat.mod_lt _ (by decide), ?_⟩
    rw [Int.tmod_eq_emod_of_nonneg (by omega), i64_in _ (by omega)]
    omega
  refine VloopS.exW (VloopS.shift (σ' := ⟨[], mnAt gone k 0, [G0, bx 1 (many gone 0)]⟩) (ShiftS.fz (fun _ => none) ⟨.wk _ _ (.refl _), .wk _ _ (.refl _), .wk _ _ (.eq (int_eq ek)), .wk _ _ (.refl _), trivial⟩ (.same 0 _ _ _ rfl (.cells 1 _ _ _ _ rfl (.cons _ _ _ _ (.wk _ _ (.refl _)) (.cons _ _ _ _ (.wk _ _ (.nil _ _ _ _ _ (by simp))) .nil)) (.nil 2))) (fun i sz xs h => by cases h)) (by show 1 ≤ 2; decide) (mnLoop gone k hk _ ?_ k 0 (by omega)))
  have hl : (many gone k).length ≤ 1000000 := by rw [many_len]; omega
  have he := many_enc gone k hk
  refine call_p (encN0 1 (many gone k) hl (by omega)) ?_
  have hd := decG none false (encB 1 (many gone k)) (by omega) [bx 1 (many gone k)]
  rw [decRet_eq] at hd
  have hr := rightN 1 (many gone k) hl
  rw [many_right gone k hk] at hr
  have hre := readsG none false (encB 1 (many gone k)) (by omega)
  have hE : (decE (gBatch (encB 1 (many gone k))) == 0) = (decide (1 ≤ k) && decide (k ≤ 64)) := by
    by_cases h : 1 ≤ k ∧ k ≤ 64
    · rw [gBatch_enc (by rw [many_right gone k hk, decide_eq_true h.1, decide_eq_true h.2]; rfl) (by decide), decide_eq_true h.1, decide_eq_true h.2]
      rfl
    · rw [gBatch_many (by decide) (by rw [many_len]; omega) (by rw [many_len]; omega)]
      show false = _
      symm
      rw [Bool.and_eq_false_iff, decide_eq_false_iff_not, decide_eq_false_iff_not]
      omega
  generalize decE (gBatch (encB 1 (many gone k))) = E at hd hE
  generalize decAt (gBatch (encB 1 (many gone k))) = A at hd
  generalize decB (gBatch (encB 1 (many gone k))) = B at hd
  obtain ⟨BN, Bl⟩ := B
  simp only at hd
  by_cases h1 : 1 ≤ k
  · have e1 : decide ((k : Int) ≥ 1) = true := decide_eq_true (by omega)
    by_cases h2 : k ≤ 64
    · have e2 : decide ((k : Int) ≤ 64) = true := decide_eq_true (by omega)
      rw [decide_eq_true h1, decide_eq_true h2, Bool.and_self] at hr hE
      refine call_h hd ?_
      refine call_h (shortG _) ?_
      repeat (first | refine guard_t rfl ?_ | refine guard_f (by decide) ?_)
      refine call_p hr ?_
      repeat (first | refine guard_t rfl ?_ | refine guard_f (by decide) ?_)
      refine guard_t e1 ?_
      repeat (first | refine guard_t rfl ?_ | refine guard_f (by decide) ?_)
      refine guard_t (by show (true == decide ((k : Int) ≤ 64)) = true; rw [e2]; rfl) ?_
      repeat (first | refine guard_t rfl ?_ | refine guard_f (by decide) ?_)
      refine guard_t e1 ?_
      repeat (first | refine guard_t rfl ?_ | refine guard_f (by decide) ?_)
      refine guard_t (by show ((E == 0) == decide ((k : Int) ≤ 64)) = true; rw [hE, e2]; rfl) ?_
      repeat (first | refine guard_t rfl ?_ | refine guard_f (by decide) ?_)
      refine call_h (hre _) ?_
      repeat (first | refine guard_t rfl ?_ | refine guard_f (by decide) ?_)
      exact ⟨⟨_, rfl⟩, rfl⟩
    · have e2 : decide ((k : Int) ≤ 64) = false := decide_eq_false (by omega)
      rw [decide_eq_false h2, Bool.and_false] at hr hE
      refine call_h hd ?_
      refine call_h (shortG _) ?_
      repeat (first | refine guard_t rfl ?_ | refine guard_f (by decide) ?_)
      refine call_p hr ?_
      repeat (first | refine guard_t rfl ?_ | refine guard_f (by decide) ?_)
      refine guard_t e1 ?_
      repeat (first | refine guard_t rfl ?_ | refine guard_f (by decide) ?_)
      refine guard_t (by show (false == decide ((k : Int) ≤ 64)) = true; rw [e2]; rfl) ?_
      repeat (first | refine guard_t rfl ?_ | refine guard_f (by decide) ?_)
      refine guard_t e1 ?_
      repeat (first | refine guard_t rfl ?_ | refine guard_f (by decide) ?_)
      refine guard_t (by show ((E == 0) == decide ((k : Int) ≤ 64)) = true; rw [hE, e2]; rfl) ?_
      repeat (first | refine guard_t rfl ?_ | refine guard_f (by decide) ?_)
      refine call_h (hre _) ?_
      repeat (first | refine guard_t rfl ?_ | refine guard_f (by decide) ?_)
      exact ⟨⟨_, rfl⟩, rfl⟩
  · have e1 : decide ((k : Int) ≥ 1) = false := decide_eq_false (by omega)
    rw [decide_eq_false h1, Bool.false_and] at hr hE
    refine call_h hd ?_
    refine call_h (shortG _) ?_
    repeat (first | refine guard_t rfl ?_ | refine guard_f (by decide) ?_)
    refine call_p hr ?_
    repeat (first | refine guard_t rfl ?_ | refine guard_f (by decide) ?_)
    refine guard_f (by rw [e1]; decide) ?_
    repeat (first | refine guard_t rfl ?_ | refine guard_f (by decide) ?_)
    try rw [e1]
    repeat (first | refine guard_t rfl ?_ | refine guard_f (by decide) ?_)
    try (refine guard_f (by rw [e1]; decide) ?_)
    repeat (first | refine guard_t rfl ?_ | refine guard_f (by decide) ?_)
    refine guard_t (by show ((E == 0) == _) = true; rw [hE]; first | rfl | (rw [e1]; rfl)) ?_
    repeat (first | refine guard_t rfl ?_ | refine guard_f (by decide) ?_)
    refine call_h (hre _) ?_
    repeat (first | refine guard_t rfl ?_ | refine guard_f (by decide) ?_)
    exact ⟨⟨_, rfl⟩, rfl⟩

end Go.Proofs.YtjbgdmebpnfpnaaDoor.V

/- As many writes as may be are read, and one more is not: for all numbers the law RecordMany answers true; its tied card. -/
namespace Go.Proofs.YtjbgdmebpnfpnaaDoor
open Go.ChangeShapes Go.WideShapes Go.ChangeAt Go.RowKit V

set_option maxRecDepth 100000 in
theorem recordMany_lifted (os : Os) (started : os.Started) (H : Type) (enc : TypeId × Value → H) :
    ReturnsInHanded {} Tryd.checked os 6 .any (fun w args => (Rows.recordManySpec.pre enc Tryd.prog Tryd.f6 [] false w args ∧ laidMetH Tryd.prog Rows.recordManyRow.laid w) ∧ sizedMet enc Tryd.prog Tryd.f6 (OpenSpec.ofChange Rows.recordManySpec) false w args)
      (Rows.recordManySpec.post enc Tryd.prog Tryd.f6 false true false false) := by
  refine law_liftedG (C := Tryd.checked) (s := Rows.recordManySpec) (tb := 4) (X := fun w _ => laidMetH Tryd.prog lays w) (fun _ _ _ hh h => h.of_heap hh) 8 H enc Tryd.own started (by kernel_rfl) Tryd.func6 Tryd.laidOut rfl (by kernel_rfl) (by kernel_rfl) (by kernel_rfl) ?_
    (ChangeSpec.witness_at (enc := enc) (C := Tryd.checked) (os := os) (X := fun w _ => laidMetH Tryd.prog lays w) false (laidWorld os) #[.int .u8 0, .bool false] 8 rfl (by kernel_rfl) (by kernel_rfl) (by kernel_rfl) (by kernel_rfl) (by kernel_rfl) (laidWorld_met os _))
    0 [gv] (fun w _ h => glob_of_laid h) (by kernel_rfl) ?_
  · intro ds hl
    match ds, hl with
    | [d0, d1], _ => exact ⟨rfl, rfl, rfl⟩
  · intro us has0
    have has : Pars Tryd.prog Tryd.f6.params.toList us := has0
    rw [Tryd.params6] at has
    obtain ⟨p0, r, rfl, q0, has⟩ := has.inv_cons
    obtain ⟨p1, r, rfl, q1, has⟩ := has.inv_cons
    have has := has.inv_nil
    subst has
    obtain ⟨a0, rfl⟩ := q0.inv_u8 Tryd.underlying5
    obtain ⟨a1, rfl⟩ := q1.inv_bool Tryd.underlying4
    exact (recordManyN a0 a1)

theorem recordMany_said : Rows.RecordManySaid :=
  OpenClaim.holds_of_wide 6 Tryd.f6 rfl rfl rfl rfl rfl rfl rfl ⟨rfl, rfl, rfl, rfl, rfl⟩ rfl rfl rfl rfl rfl (by kernel_rfl) Tryd.func6 (by kernel_rfl)
    (of_decide_eq_true (by kernel_rfl)) (by unfold Func.isWrapper; first | (rw [if_pos (by decide +kernel)]; kernel_rfl) | (rw [if_neg (by decide +kernel)]; exact ⟨rfl, rfl⟩))
    (fun os started H enc _ => recordMany_lifted os started H enc)

theorem recordMany_holds : Rows.RecordManyCardSaid :=
  Claim7.holds_tied_plain_at .later [] [.handle] true (true, "f36a0c6cf363801d103153c6e69d1f90fa1972ec92843e683f996dc657243d1c") true
    recordMany_said (fun _ h => by cases h) (by kernel_rfl) (fun _ h => by cases h) recordMany_row_tie rfl ⟨rfl, rfl⟩ (by kernel_rfl) rfl
    (fun f fn hf hfn => by
      obtain rfl : f = 6 := Option.some.inj ((show Tryd.prog.funcNamed "countinghouse/countinghouselaw06.RecordMany" = some 6 by kernel_rfl).symm.trans hf) |>.symm
      obtain rfl : fn = Tryd.f6 := (Option.some.inj (Tryd.func6.symm.trans hfn)).symm
      exact ⟨by kernel_rfl, fun j t ht => by
        rw [Tryd.params6] at ht
        have hm : t ∈ [5, 4] := by simpa using Array.mem_of_getElem? ht
        have hall : ([5, 4].all fun u => !Tryd.prog.wantsStandIn u) = true := by kernel_rfl
        exact (show Tryd.prog.wantsStandIn t = false by simpa using List.all_eq_true.1 hall t hm)⟩)
    (by kernel_rfl)

end Go.Proofs.YtjbgdmebpnfpnaaDoor
