/-
  Whether a batch may be is told alike by the program and by the reference: for all keys, rows and numbers the law RecordRight answers true; its tied card.
-/
import Derived.Test.YtjbgdmebpnfpnaaDoorFc
import Derived.Test.YtjbgdmebpnfpnaaDoorGb
import Derived.Test.YtjbgdmebpnfpnaaDoorRows
import Derived.LaidLaws
import Derived.LaidHandle
import Derived.RowKitTokens
import Derived.Test.YtjbgdmebpnfpnaaDoorGe
import Derived.Test.YtjbgdmebpnfpnaaDoorTie
import Derived.Test.YtjbgdmebpnfpnaaDoorCards
import Derived.SevenTiedAt

/- What the rows of this seat share: what is known of the program, what the variable errors.errorType holds, a world that holds it. -/
namespace Go.Proofs.YtjbgdmebpnfpnaaDoor
open Go.ChangeShapes Go.WideShapes Go.RowKit
set_option maxRecDepth 100000
theorem Tryd.own : ownKnob Tryd.prog.godebug = none := by kernel_rfl
theorem Tryd.laidOut : laidOutB Tryd.prog = true := by kernel_rfl
theorem Tryd.et : Tryd.prog.globalNamed "errors.errorType" = some 0 := by kernel_rfl
theorem Tryd.rt : (Tryd.prog.cutTypes.find? (·.1 == "internal/reflectlite.rtype")).map (·.2) = some 95 := by kernel_rfl
theorem Tryd.oneRow : ((List.range 140).filter fun t => Tryd.prog.rowNamed t [101, 114, 114, 111, 114]) = [58] := by kernel_rfl
theorem Tryd.size : Tryd.prog.types.size = 140 := by kernel_rfl

/-- What the rows list. -/
def lays {H : Type} : List (String × DataW H) := [("errors.errorType", Rows.laid_errors_errorType)]

theorem handle_of_laid {W : World} (h : laidMetH Tryd.prog lays W) : W.cell? ⟨0, 0, none⟩ = some V.gv := by
  have h' : laidMet Tryd.prog [] W ∧ handlesMet Tryd.prog lays W := h
  obtain ⟨name, u, ty, e1, e2, e3, e4, e5⟩ := h'.2 _ (List.mem_singleton.2 rfl)
  have en : name = [101, 114, 114, 111, 114] := (Option.some.inj e1).symm
  subst en
  obtain rfl := Option.some.inj (Tryd.rt.symm.trans e2)
  have hm : ty ∈ (List.range 140).filter fun t => Tryd.prog.rowNamed t [101, 114, 114, 111, 114] := List.mem_filter.2 ⟨List.mem_range.2 (by rw [← Tryd.size]; exact e3), e4⟩
  rw [Tryd.oneRow] at hm
  obtain rfl := List.mem_singleton.1 hm
  have hh : typeHandle Tryd.prog 58 = .pointer (some ⟨1, 58, none⟩) := by kernel_rfl
  rw [hh] at e5
  unfold V.gv
  simpa using World.var?_cell Tryd.et e5 0

theorem glob_of_laid {W : World} (h : laidMetH Tryd.prog lays W) (k : Nat) (v : Value) (hk : [V.gv][k]? = some v) : W.cell? ⟨0, k, none⟩ = some v ∧ v.oneCell' = true := by
  match k with
  | 0 =>
    have e : v = V.gv := by simpa using hk.symm
    rw [e]
    exact ⟨handle_of_laid h, rfl⟩
  | k + 1 => simp at hk

noncomputable def laidWorld (os : Os) : World :=
  let w0 := World.holding Tryd.prog os ⟨#[], #[], []⟩
  { w0 with heap := w0.heap.modify 0 fun
      | .cells _ t frozen => .cells #[V.gv] t frozen
      | o => o }
theorem laidWorld_met (os : Os) (args : Array Value) : laidMetH Tryd.prog lays ((laidWorld os).forCall (fun _ _ => 0) ⟨#[], args, []⟩).memory :=
  laidMetH_of_parts ⟨[], rfl, List.nodup_nil, fun _ _ h => by cases h⟩ (by kernel_rfl)

end Go.Proofs.YtjbgdmebpnfpnaaDoor

/- What texts, rows and bools are, among a row's arguments. -/
namespace Go.Proofs.YtjbgdmebpnfpnaaDoor
namespace V
section
variable {P : Program} {s t e : TypeId}

theorem strs_of (ht : P.underlying t = some .string) : ∀ xs : List (List AV), (∀ x, x ∈ xs → Shape P t x) → ∃ l : List (List UInt8), xs = strs l
  | [], _ => ⟨[], rfl⟩
  | x :: xs, h => by
    obtain ⟨l, rfl⟩ := strs_of ht xs fun y hy => h y (by simp [hy])
    obtain ⟨k, rfl, _⟩ := (h x (by simp)).inv_str ht
    exact ⟨k :: l, rfl⟩

theorem strs_inv (hsl : P.underlying s = some (.slice t)) (hc : P.cellsOf t = 1) (ht : P.underlying t = some .string) {a : AV} (h : Par P s a) : ∃ nl l, a = .sl 1 (some nl) false (strs l) ∧ l.length ≤ maxLen := by
  obtain ⟨nl, xs, rfl, hx, hl, _⟩ := h.inv_sl hsl
  obtain ⟨l, rfl⟩ := strs_of ht xs hx
  rw [hc]
  exact ⟨nl, l, rfl, by rw [strs_len] at hl; exact hl⟩

theorem bools_of (ht : P.underlying t = some .bool) : ∀ xs : List (List AV), (∀ x, x ∈ xs → Shape P t x) → ∃ l : List Bool, xs = bools l
  | [], _ => ⟨[], rfl⟩
  | x :: xs, h => by
    obtain ⟨l, rfl⟩ := bools_of ht xs fun y hy => h y (by simp [hy])
    obtain ⟨k, rfl⟩ := (h x (by simp)).inv_bool ht
    exact ⟨k :: l, rfl⟩

theorem bools_inv (hsl : P.underlying s = some (.slice t)) (hc : P.cellsOf t = 1) (ht : P.underlying t = some .bool) {a : AV} (h : Par P s a) : ∃ nl l, a = .sl 1 (some nl) false (bools l) ∧ l.length ≤ maxLen := by
  obtain ⟨nl, xs, rfl, hx, hl, _⟩ := h.inv_sl hsl
  obtain ⟨l, rfl⟩ := bools_of ht xs hx
  rw [hc]
  exact ⟨nl, l, rfl, by rw [bools_len] at hl; exact hl⟩

theorem rows_of (ht : P.underlying t = some (.slice e)) (hc : P.cellsOf e = 1) (he : P.underlying e = some (.int .u8)) : ∀ xs : List (List AV), (∀ x, x ∈ xs → Shape P t x) → ∃ l : List RowA, xs = l.map RowA.c
  | [], _ => ⟨[], rfl⟩
  | x :: xs, h => by
    obtain ⟨l, rfl⟩ := rows_of ht hc he xs fun y hy => h y (by simp [hy])
    obtain ⟨nl, ys, rfl, hy, _, _⟩ := (h x (by simp)).inv_sl ht
    obtain ⟨q, rfl⟩ := bytes_of ys he hy
    rw [hc]
    exact ⟨⟨nl, q⟩ :: l, rfl⟩

theorem rows_inv (hsl : P.underlying s = some (.slice t)) (hc2 : P.cellsOf t = 1) (ht : P.underlying t = some (.slice e)) (hc : P.cellsOf e = 1) (he : P.underlying e = some (.int .u8)) {a : AV} (h : Par P s a) : ∃ nl l, a = .sl 1 (some nl) false (List.map RowA.c l) ∧ l.length ≤ maxLen := by
  obtain ⟨nl, xs, rfl, hx, hl, _⟩ := h.inv_sl hsl
  obtain ⟨l, rfl⟩ := rows_of ht hc he xs hx
  rw [hc2]
  exact ⟨nl, l, rfl, by rw [List.length_map] at hl; exact hl⟩
end
end V
end Go.Proofs.YtjbgdmebpnfpnaaDoor

/- Whether a batch may be is told alike by the program and by the reference: for all keys, rows and numbers the law RecordRight answers true; its tied card. -/
namespace Go.Proofs.YtjbgdmebpnfpnaaDoor
open Go.ChangeShapes Go.WideShapes Go.ChangeAt Go.RowKit V

set_option maxRecDepth 100000 in
theorem recordRight_lifted (os : Os) (started : os.Started) (H : Type) (enc : TypeId × Value → H) :
    ReturnsInHanded {} Tryd.checked os 5 .any (fun w args => (Rows.recordRightSpec.pre enc Tryd.prog Tryd.f5 [] false w args ∧ laidMetH Tryd.prog Rows.recordRightRow.laid w) ∧ sizedMet enc Tryd.prog Tryd.f5 (OpenSpec.ofChange Rows.recordRightSpec) false w args)
      (Rows.recordRightSpec.post enc Tryd.prog Tryd.f5 false true false false) := by
  refine law_liftedG (C := Tryd.checked) (s := Rows.recordRightSpec) (tb := 4) (X := fun w _ => laidMetH Tryd.prog lays w) (fun _ _ _ hh h => h.of_heap hh) 8 H enc Tryd.own started (by kernel_rfl) Tryd.func5 Tryd.laidOut rfl (by kernel_rfl) (by kernel_rfl) (by kernel_rfl) ?_
    (ChangeSpec.witness_at (enc := enc) (C := Tryd.checked) (os := os) (X := fun w _ => laidMetH Tryd.prog lays w) false (laidWorld os) #[.int .i64 0, .slice none 0 0, .slice none 0 0, .slice none 0 0, .int .u16 0] 8 rfl (by kernel_rfl) (by kernel_rfl) (by kernel_rfl) (by kernel_rfl) (by kernel_rfl) (laidWorld_met os _))
    0 [gv] (fun w _ h => glob_of_laid h) (by kernel_rfl) ?_
  · intro ds hl
    match ds, hl with
    | [d0, d1, d2, d3, d4], _ => exact ⟨rfl, rfl, rfl⟩
  · intro us has0
    have has : Pars Tryd.prog Tryd.f5.params.toList us := has0
    rw [Tryd.params5] at has
    obtain ⟨p0, r, rfl, q0, has⟩ := has.inv_cons
    obtain ⟨p1, r, rfl, q1, has⟩ := has.inv_cons
    obtain ⟨p2, r, rfl, q2, has⟩ := has.inv_cons
    obtain ⟨p3, r, rfl, q3, has⟩ := has.inv_cons
    obtain ⟨p4, r, rfl, q4, has⟩ := has.inv_cons
    have has := has.inv_nil
    subst has
    obtain ⟨a0, rfl, h0⟩ := q0.inv_i64 Tryd.underlying2
    obtain ⟨n1, a1, rfl, l1⟩ := strs_inv Tryd.underlying37 (by kernel_rfl) Tryd.underlying9 q1
    obtain ⟨n2, a2, rfl, l2⟩ := rows_inv Tryd.underlying38 (by kernel_rfl) Tryd.underlying22 (by kernel_rfl) Tryd.underlying5 q2
    obtain ⟨n3, a3, rfl, l3⟩ := bools_inv Tryd.underlying39 (by kernel_rfl) Tryd.underlying4 q3
    obtain ⟨a4, rfl, h4⟩ := q4.inv_u16 Tryd.underlying27
    exact (recordRightN a0 a1 _ _ _ _ _ _ a2 a3 a4 h4 (Nat.le_trans l1 (by decide)) (Nat.le_trans l2 (by decide)))

theorem recordRight_said : Rows.RecordRightSaid :=
  OpenClaim.holds_of_wide 5 Tryd.f5 rfl rfl rfl rfl rfl rfl rfl ⟨rfl, rfl, rfl, rfl, rfl⟩ rfl rfl rfl rfl rfl (by kernel_rfl) Tryd.func5 (by kernel_rfl)
    (of_decide_eq_true (by kernel_rfl)) (by unfold Func.isWrapper; first | (rw [if_pos (by decide +kernel)]; kernel_rfl) | (rw [if_neg (by decide +kernel)]; exact ⟨rfl, rfl⟩))
    (fun os started H enc _ => recordRight_lifted os started H enc)

theorem recordRight_holds : Rows.RecordRightCardSaid :=
  Claim7.holds_tied_plain_at .later [] [.handle] true (true, "f36a0c6cf363801d103153c6e69d1f90fa1972ec92843e683f996dc657243d1c") true
    recordRight_said (fun _ h => by cases h) (by kernel_rfl) (fun _ h => by cases h) recordRight_row_tie rfl ⟨rfl, rfl⟩ (by kernel_rfl) rfl
    (fun f fn hf hfn => by
      obtain rfl : f = 5 := Option.some.inj ((show Tryd.prog.funcNamed "countinghouse/countinghouselaw06.RecordRight" = some 5 by kernel_rfl).symm.trans hf) |>.symm
      obtain rfl : fn = Tryd.f5 := (Option.some.inj (Tryd.func5.symm.trans hfn)).symm
      exact ⟨by kernel_rfl, fun j t ht => by
        rw [Tryd.params5] at ht
        have hm : t ∈ [2, 37, 38, 39, 27] := by simpa using Array.mem_of_getElem? ht
        have hall : ([2, 37, 38, 39, 27].all fun u => !Tryd.prog.wantsStandIn u) = true := by kernel_rfl
        exact (show Tryd.prog.wantsStandIn t = false by simpa using List.all_eq_true.1 hall t hm)⟩)
    (by kernel_rfl)

end Go.Proofs.YtjbgdmebpnfpnaaDoor
