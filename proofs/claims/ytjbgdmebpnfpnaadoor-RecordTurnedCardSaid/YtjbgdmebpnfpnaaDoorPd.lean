/-
  A batch of bytes in which one is another one, that is cut, or goes on, is read alike by the program and by the reference, and where it is cut reading ends too soon: for all acts, numbers and bytes the law RecordTurned answers true; its tied card.
-/
import Derived.Test.YtjbgdmebpnfpnaaDoorFc
import Derived.Test.YtjbgdmebpnfpnaaDoorGb
import Derived.Test.YtjbgdmebpnfpnaaDoorRows
import Derived.LaidLaws
import Derived.LaidHandle
import Derived.RowKitTokens
import Derived.Test.YtjbgdmebpnfpnaaDoorGd
import Derived.Test.YtjbgdmebpnfpnaaDoorGe
import Derived.Test.YtjbgdmebpnfpnaaDoorTie
import Derived.Test.YtjbgdmebpnfpnaaDoorCards
import Derived.SevenTiedAt

/- What the rows of this seat share: what is known of the program, what the variable errors.errorType holds, a world that holds it. -/
namespace Go.Proofs.YtjbgdmebpnfpnaaDoor
open Go.ChangeShapes Go.WideShapes Go.RowKit
set_option maxRecDepth 100000
theorem Tryd.own : ownKnob Tryd.prog.godebug = none := by kernel_rfl
theorem Tryd.laidOut : laidOutB Tryd.prog = true := by kernel_rfl
theorem Tryd.et : Tryd.prog.globalNamed "errors.errorType" = some 0 := by kernel_rfl
theorem Tryd.rt : (Tryd.prog.cutTypes.find? (·.1 == "internal/reflectlite.rtype")).map (·.2) = some 95 := by kernel_rfl
theorem Tryd.oneRow : ((List.range 140).filter fun t => Tryd.prog.rowNamed t [101, 114, 114, 111, 114]) = [58] := by kernel_rfl
theorem Tryd.size : Tryd.prog.types.size = 140 := by kernel_rfl

/-- What the rows list. -/
def lays {H : Type} : List (String × DataW H) := [("errors.errorType", Rows.laid_errors_errorType)]

theorem handle_of_laid {W : World} (h : laidMetH Tryd.prog lays W) : W.cell? ⟨0, 0, none⟩ = some V.gv := by
  have h' : laidMet Tryd.prog [] W ∧ handlesMet Tryd.prog lays W := h
  obtain ⟨name, u, ty, e1, e2, e3, e4, e5⟩ := h'.2 _ (List.mem_singleton.2 rfl)
  have en : name = [101, 114, 114, 111, 114] := (Option.some.inj e1).symm
  subst en
  obtain rfl := Option.some.inj (Tryd.rt.symm.trans e2)
  have hm : ty ∈ (List.range 140).filter fun t => Tryd.prog.rowNamed t [101, 114, 114, 111, 114] := List.mem_filter.2 ⟨List.mem_range.2 (by rw [← Tryd.size]; exact e3), e4⟩
  rw [Tryd.oneRow] at hm
  obtain rfl := List.mem_singleton.1 hm
  have hh : typeHandle Tryd.prog 58 = .pointer (some ⟨1, 58, none⟩) := by kernel_rfl
  rw [hh] at e5
  unfold V.gv
  simpa using World.var?_cell Tryd.et e5 0

theorem glob_of_laid {W : World} (h : laidMetH Tryd.prog lays W) (k : Nat) (v : Value) (hk : [V.gv][k]? = some v) : W.cell? ⟨0, k, none⟩ = some v ∧ v.oneCell' = true := by
  match k with
  | 0 =>
    have e : v = V.gv := by simpa using hk.symm
    rw [e]
    exact ⟨handle_of_laid h, rfl⟩
  | k + 1 => simp at hk

noncomputable def laidWorld (os : Os) : World :=
  let w0 := World.holding Tryd.prog os ⟨#[], #[], []⟩
  { w0 with heap := w0.heap.modify 0 fun
      | .cells _ t frozen => .cells #[V.gv] t frozen
      | o => o }
theorem laidWorld_met (os : Os) (args : Array Value) : laidMetH Tryd.prog lays ((laidWorld os).forCall (fun _ _ => 0) ⟨#[], args, []⟩).memory :=
  laidMetH_of_parts ⟨[], rfl, List.nodup_nil, fun _ _ h => by cases h⟩ (by kernel_rfl)

end Go.Proofs.YtjbgdmebpnfpnaaDoor

/- What acts are, among a row's arguments. -/
namespace Go.Proofs.YtjbgdmebpnfpnaaDoor
namespace V
section
variable {P : Program} {t t1 t2 t3 : TypeId} {fs : Array Field}
theorem act_cells (ht : P.underlying t = some (.struct fs)) (hfs : fs.toList.map (·.type) = [t1, t2, t3]) (h1 : P.underlying t1 = some (.int .u8)) (h2 : P.underlying t2 = some (.int .u8)) (h3 : P.underlying t3 = some .bool)
    {us : List AV} (h : Shape P t us) : ∃ f : Act, us = f.c := by
  have hs := h.inv_struct ht
  rw [hfs] at hs
  obtain ⟨a1, r1, rfl, k1, hs⟩ := hs.inv_cons
  obtain ⟨a2, r2, rfl, k2, hs⟩ := hs.inv_cons
  obtain ⟨a3, r3, rfl, k3, hs⟩ := hs.inv_cons
  have hs := hs.inv_nil
  subst hs
  obtain ⟨n1, rfl, w1⟩ := k1.inv_int h1
  obtain ⟨n2, rfl, w2⟩ := k2.inv_int h2
  obtain ⟨b, rfl⟩ := k3.inv_bool h3
  simp [Lit.wf, IntKind.min, IntKind.max, IntKind.signed, IntKind.bits] at w1 w2
  refine ⟨⟨UInt8.ofNat n1.toNat, UInt8.ofNat n2.toNat, b⟩, ?_⟩
  have e1 : ((UInt8.ofNat n1.toNat).toNat : Int) = n1 := by simp only [UInt8.toNat_ofNat']; omega
  have e2 : ((UInt8.ofNat n2.toNat).toNat : Int) = n2 := by simp only [UInt8.toNat_ofNat']; omega
  simp only [Act.c, e1, e2, List.cons_append, List.nil_append]

theorem acts_of (ht : P.underlying t = some (.struct fs)) (hfs : fs.toList.map (·.type) = [t1, t2, t3]) (h1 : P.underlying t1 = some (.int .u8)) (h2 : P.underlying t2 = some (.int .u8)) (h3 : P.underlying t3 = some .bool) :
    ∀ xs : List (List AV), (∀ x, x ∈ xs → Shape P t x) → ∃ l : List Act, xs = l.map Act.c
  | [], _ => ⟨[], rfl⟩
  | x :: xs, h => by
    obtain ⟨l, rfl⟩ := acts_of ht hfs h1 h2 h3 xs fun y hy => h y (by simp [hy])
    obtain ⟨f, rfl⟩ := act_cells ht hfs h1 h2 h3 (h x (by simp))
    exact ⟨f :: l, rfl⟩

theorem acts_inv {s : TypeId} (hsl : P.underlying s = some (.slice t)) (hc : P.cellsOf t = 3) (ht : P.underlying t = some (.struct fs)) (hfs : fs.toList.map (·.type) = [t1, t2, t3]) (h1 : P.underlying t1 = some (.int .u8)) (h2 : P.underlying t2 = some (.int .u8)) (h3 : P.underlying t3 = some .bool)
    {a : AV} (h : Par P s a) : ∃ nl l, a = .sl 3 (some nl) false (List.map Act.c l) ∧ l.length ≤ maxLen := by
  obtain ⟨nl, xs, rfl, hx, hl, _⟩ := h.inv_sl hsl
  obtain ⟨l, rfl⟩ := acts_of ht hfs h1 h2 h3 xs hx
  rw [hc]
  exact ⟨nl, l, rfl, by rw [List.length_map] at hl; exact hl⟩
end
end V
end Go.Proofs.YtjbgdmebpnfpnaaDoor

/- A batch of bytes in which one is another one, that is cut, or goes on, is read alike by the program and by the reference, and where it is cut reading ends too soon: for all acts, numbers and bytes the law RecordTurned answers true; its tied card. -/
namespace Go.Proofs.YtjbgdmebpnfpnaaDoor
open Go.ChangeShapes Go.WideShapes Go.ChangeAt Go.RowKit V

set_option maxRecDepth 100000 in
theorem recordTurned_lifted (os : Os) (started : os.Started) (H : Type) (enc : TypeId × Value → H) :
    ReturnsInHanded {} Tryd.checked os 4 .any (fun w args => (Rows.recordTurnedSpec.pre enc Tryd.prog Tryd.f4 [] false w args ∧ laidMetH Tryd.prog Rows.recordTurnedRow.laid w) ∧ sizedMet enc Tryd.prog Tryd.f4 (OpenSpec.ofChange Rows.recordTurnedSpec) false w args)
      (Rows.recordTurnedSpec.post enc Tryd.prog Tryd.f4 false true false false) := by
  refine law_liftedG (C := Tryd.checked) (s := Rows.recordTurnedSpec) (tb := 4) (X := fun w _ => laidMetH Tryd.prog lays w) (fun _ _ _ hh h => h.of_heap hh) 8 H enc Tryd.own started (by kernel_rfl) Tryd.func4 Tryd.laidOut rfl (by kernel_rfl) (by kernel_rfl) (by kernel_rfl) ?_
    (ChangeSpec.witness_at (enc := enc) (C := Tryd.checked) (os := os) (X := fun w _ => laidMetH Tryd.prog lays w) false (laidWorld os) #[.slice none 0 0, .int .u16 0, .int .u8 0, .bool false, .slice none 0 0] 8 rfl (by kernel_rfl) (by kernel_rfl) (by kernel_rfl) (by kernel_rfl) (by kernel_rfl) (laidWorld_met os _))
    0 [gv] (fun w _ h => glob_of_laid h) (by kernel_rfl) ?_
  · intro ds hl
    match ds, hl with
    | [d0, d1, d2, d3, d4], _ => exact ⟨rfl, rfl, rfl⟩
  · intro us has0
    have has : Pars Tryd.prog Tryd.f4.params.toList us := has0
    rw [Tryd.params4] at has
    obtain ⟨p0, r, rfl, q0, has⟩ := has.inv_cons
    obtain ⟨p1, r, rfl, q1, has⟩ := has.inv_cons
    obtain ⟨p2, r, rfl, q2, has⟩ := has.inv_cons
    obtain ⟨p3, r, rfl, q3, has⟩ := has.inv_cons
    obtain ⟨p4, r, rfl, q4, has⟩ := has.inv_cons
    have has := has.inv_nil
    subst has
    obtain ⟨n0, a0, rfl, l0⟩ := acts_inv Tryd.underlying26 (by kernel_rfl) Tryd.underlying52 rfl Tryd.underlying5 Tryd.underlying5 Tryd.underlying4 q0
    obtain ⟨a1, rfl, h1⟩ := q1.inv_u16 Tryd.underlying27
    obtain ⟨a2, rfl⟩ := q2.inv_u8 Tryd.underlying5
    obtain ⟨a3, rfl⟩ := q3.inv_bool Tryd.underlying4
    obtain ⟨n4, a4, rfl, l4, z4⟩ := q4.inv_bytes Tryd.underlying22 Tryd.underlying5 (by kernel_rfl)
    exact (recordTurnedN _ _ _ _ a0 (Nat.le_trans l0 (by decide)) a1 h1 a2 a3 a4 (Nat.le_trans l4 (by decide)))

theorem recordTurned_said : Rows.RecordTurnedSaid :=
  OpenClaim.holds_of_wide 4 Tryd.f4 rfl rfl rfl rfl rfl rfl rfl ⟨rfl, rfl, rfl, rfl, rfl⟩ rfl rfl rfl rfl rfl (by kernel_rfl) Tryd.func4 (by kernel_rfl)
    (of_decide_eq_true (by kernel_rfl)) (by unfold Func.isWrapper; first | (rw [if_pos (by decide +kernel)]; kernel_rfl) | (rw [if_neg (by decide +kernel)]; exact ⟨rfl, rfl⟩))
    (fun os started H enc _ => recordTurned_lifted os started H enc)

theorem recordTurned_holds : Rows.RecordTurnedCardSaid :=
  Claim7.holds_tied_plain_at .later [] [.handle] true (true, "f36a0c6cf363801d103153c6e69d1f90fa1972ec92843e683f996dc657243d1c") true
    recordTurned_said (fun _ h => by cases h) (by kernel_rfl) (fun _ h => by cases h) recordTurned_row_tie rfl ⟨rfl, rfl⟩ (by kernel_rfl) rfl
    (fun f fn hf hfn => by
      obtain rfl : f = 4 := Option.some.inj ((show Tryd.prog.funcNamed "countinghouse/countinghouselaw06.RecordTurned" = some 4 by kernel_rfl).symm.trans hf) |>.symm
      obtain rfl : fn = Tryd.f4 := (Option.some.inj (Tryd.func4.symm.trans hfn)).symm
      exact ⟨by kernel_rfl, fun j t ht => by
        rw [Tryd.params4] at ht
        have hm : t ∈ [26, 27, 5, 4, 22] := by simpa using Array.mem_of_getElem? ht
        have hall : ([26, 27, 5, 4, 22].all fun u => !Tryd.prog.wantsStandIn u) = true := by kernel_rfl
        exact (show Tryd.prog.wantsStandIn t = false by simpa using List.all_eq_true.1 hall t hm)⟩)
    (by kernel_rfl)

end Go.Proofs.YtjbgdmebpnfpnaaDoor
