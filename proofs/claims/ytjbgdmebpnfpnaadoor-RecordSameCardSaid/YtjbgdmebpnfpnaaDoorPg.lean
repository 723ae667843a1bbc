/-
  Two batches are the same if nothing of them is another thing: for all acts and numbers the law RecordSame answers true; its tied card.
-/
import Derived.Test.YtjbgdmebpnfpnaaDoorFc
import Derived.Test.YtjbgdmebpnfpnaaDoorGb
import Derived.Test.YtjbgdmebpnfpnaaDoorRows
import Derived.LaidLaws
import Derived.LaidHandle
import Derived.RowKitTokens
import Derived.Test.YtjbgdmebpnfpnaaDoorGd
import Derived.Test.YtjbgdmebpnfpnaaDoorGf
import Derived.Test.YtjbgdmebpnfpnaaDoorTie
import Derived.Test.YtjbgdmebpnfpnaaDoorCards
import Derived.SevenTiedAt

/- What the rows of this seat share: what is known of the program, what the variable errors.errorType holds, a world that holds it. -/
namespace Go.Proofs.YtjbgdmebpnfpnaaDoor
open Go.ChangeShapes Go.WideShapes Go.RowKit
set_option maxRecDepth 100000
theorem Tryd.own : ownKnob Tryd.prog.godebug = none := by kernel_rfl
theorem Tryd.laidOut : laidOutB Tryd.prog = true := by kernel_rfl
theorem Tryd.et : Tryd.prog.globalNamed "errors.errorType" = some 0 := by kernel_rfl
theorem Tryd.rt : (Tryd.prog.cutTypes.find? (·.1 == "internal/reflectlite.rtype")).map (·.2) = some 95 := by kernel_rfl
theorem Tryd.oneRow : ((List.range 140).filter fun t => Tryd.prog.rowNamed t [101, 114, 114, 111, 114]) = [58] := by kernel_rfl
theorem Tryd.size : Tryd.prog.types.size = 140 := by kernel_rfl

/-- What the rows list. -/
def lays {H : Type} : List (String × DataW H) := [("errors.errorType", Rows.laid_errors_errorType)]

theorem handle_of_laid {W : World} (h : laidMetH Tryd.prog lays W) : W.cell? ⟨0, 0, none⟩ = some V.gv := by
  have h' : laidMet Tryd.prog [] W ∧ handlesMet Tryd.prog lays W := h
  obtain ⟨name, u, ty, e1, e2, e3, e4, e5⟩ := h'.2 _ (List.mem_singleton.2 rfl)
  have en : name = [101, 114, 114, 111, 114] := (Option.some.inj e1).symm
  subst en
  obtain rfl := Option.some.inj (Tryd.rt.symm.trans e2)
  have hm : ty ∈ (List.range 140).filter fun t => Tryd.prog.rowNamed t [101, 114, 114, 111, 114] := List.mem_filter.2 ⟨List.mem_range.2 (by rw [← Tryd.size]; exact e3), e4⟩
  rw [Tryd.oneRow] at hm
  obtain rfl := List.mem_singleton.1 hm
  have hh : typeHandle Tryd.prog 58 = .pointer (some ⟨1, 58, none⟩) := by kernel_rfl
  rw [hh] at e5
  unfold V.gv
  simpa using World.var?_cell Tryd.et e5 0

theorem glob_of_laid {W : World} (h : laidMetH Tryd.prog lays W) (k : Nat) (v : Value) (hk : [V.gv][k]? = some v) : W.cell? ⟨0, k, none⟩ = some v ∧ v.oneCell' = true := by
  match k with
  | 0 =>
    have e : v = V.gv := by simpa using hk.symm
    rw [e]
    exact ⟨handle_of_laid h, rfl⟩
  | k + 1 => simp at hk

noncomputable def laidWorld (os : Os) : World :=
  let w0 := World.holding Tryd.prog os ⟨#[], #[], []⟩
  { w0 with heap := w0.heap.modify 0 fun
      | .cells _ t frozen => .cells #[V.gv] t frozen
      | o => o }
theorem laidWorld_met (os : Os) (args : Array Value) : laidMetH Tryd.prog lays ((laidWorld os).forCall (fun _ _ => 0) ⟨#[], args, []⟩).memory :=
  laidMetH_of_parts ⟨[], rfl, List.nodup_nil, fun _ _ h => by cases h⟩ (by kernel_rfl)

end Go.Proofs.YtjbgdmebpnfpnaaDoor

/- What acts are, among a row's arguments. -/
namespace Go.Proofs.YtjbgdmebpnfpnaaDoor
namespace V
section
variable {P : Program} {t t1 t2 t3 : TypeId} {fs : Array Field}
theorem act_cells (ht : P.underlying t = some (.struct fs)) (hfs : fs.toList.map (·.type) = [t1, t2, t3]) (h1 : P.underlying t1 = some (.int .u8)) (h2 : P.underlying t2 = some (.int .u8)) (h3 : P.underlying t3 = some .bool)
    {us : List AV} (h : Shape P t us) : ∃ f : Act, us = f.c := by
  have hs := h.inv_struct ht
  rw [hfs] at hs
  obtain ⟨a1, r1, rfl, k1, hs⟩ := hs.inv_cons
  obtain ⟨a2, r2, rfl, k2, hs⟩ := hs.inv_cons
  obtain ⟨a3, r3, rfl, k3, hs⟩ := hs.inv_cons
  have hs := hs.inv_nil
  subst hs
  obtain ⟨n1, rfl, w1⟩ := k1.inv_int h1
  obtain ⟨n2, rfl, w2⟩ := k2.inv_int h2
  obtain ⟨b, rfl⟩ := k3.inv_bool h3
  simp [Lit.wf, IntKind.min, IntKind.max, IntKind.signed, IntKind.bits] at w1 w2
  refine ⟨⟨UInt8.ofNat n1.toNat, UInt8.ofNat n2.toNat, b⟩, ?_⟩
  have e1 : ((UInt8.ofNat n1.toNat).toNat : Int) = n1 := by simp only [UInt8.toNat_ofNat']; omega
  have e2 : ((UInt8.ofNat n2.toNat).toNat : Int) = n2 := by simp only [UInt8.toNat_ofNat']; omega
  simp only [Act.c, e1, e2, List.cons_append, List.nil_append]

theorem acts_of (ht : P.underlying t = some (.struct fs)) (hfs : fs.toList.map (·.type) = [t1, t2, t3]) (h1 : P.underlying t1 = some (.int .u8)) (h2 : P.underlying t2 = some (.int .u8)) (h3 : P.underlying t3 = some .bool) :
    ∀ xs : List (List AV), (∀ x, x ∈ xs → Shape P t x) → ∃ l : List Act, xs = l.map Act.c
  | [], _ => ⟨[], rfl⟩
  | x :: xs, h => by
    obtain ⟨l, rfl⟩ := acts_of ht hfs h1 h2 h3 xs fun y hy => h y (by simp [hy])
    obtain ⟨f, rfl⟩ := act_cells ht hfs h1 h2 h3 (h x (by simp))
    exact ⟨f :: l, rfl⟩

theorem acts_inv {s : TypeId} (hsl : P.underlying s = some (.slice t)) (hc : P.cellsOf t = 3) (ht : P.underlying t = some (.struct fs)) (hfs : fs.toList.map (·.type) = [t1, t2, t3]) (h1 : P.underlying t1 = some (.int .u8)) (h2 : P.underlying t2 = some (.int .u8)) (h3 : P.underlying t3 = some .bool)
    {a : AV} (h : Par P s a) : ∃ nl l, a = .sl 3 (some nl) false (List.map Act.c l) ∧ l.length ≤ maxLen := by
  obtain ⟨nl, xs, rfl, hx, hl, _⟩ := h.inv_sl hsl
  obtain ⟨l, rfl⟩ := acts_of ht hfs h1 h2 h3 xs hx
  rw [hc]
  exact ⟨nl, l, rfl, by rw [List.length_map] at hl; exact hl⟩
end
end V
end Go.Proofs.YtjbgdmebpnfpnaaDoor

/- The law RecordSame, as a contract. -/
namespace Go.Proofs.YtjbgdmebpnfpnaaDoor.V
open Go.IntWalk Go.Lib

theorem recordSameN (na nb : Option Bool) (oa ob : Bool) (a b : List Act) (ha : a.length ≤ 9223372036854775807) (hb : b.length ≤ 9223372036854775807) (what : UInt8) :
    VCall Tryd.prog 7 [.sl 3 na oa (a.map Act.c), .sl 3 nb ob (b.map Act.c), .int .u8 what.toNat] [G0] (.bool true) [G0] := by
  by_cases h1 : a.length ≤ 30
  case neg =>
    refine VCall.ofS (tr []) f7 (Nat.le_of_ble_eq_true rfl) (Nat.le_refl _) (.bool _) hob_G0 ?_
    refine call_h shortN ?_
    repeat (first | refine guard_t rfl ?_ | refine guard_f (by decide) ?_)
    have e1 : decide ((((a.map Act.c).length : Nat) : Int) > 30) = true := decide_eq_true (by rw [List.length_map]; omega)
    refine guard_f (by rw [e1]; decide) ?_
    rw [e1]
    repeat (first | refine guard_t rfl ?_ | refine guard_f (by decide) ?_)
    refine cond_t rfl ?_
    refine call_h shortN ?_
    exact ⟨⟨_, rfl⟩, rfl⟩
  have e1 : decide ((((a.map Act.c).length : Nat) : Int) > 30) = false := decide_eq_false (by rw [List.length_map]; omega)
  by_cases h2 : b.length ≤ 30
  case neg =>
    refine VCall.ofS (tr []) f7 (Nat.le_of_ble_eq_true rfl) (Nat.le_refl _) (.bool _) hob_G0 ?_
    refine call_h shortN ?_
    repeat (first | refine guard_t rfl ?_ | refine guard_f (by decide) ?_)
    refine guard_t e1 ?_
    rw [e1]
    repeat (first | refine guard_t rfl ?_ | refine guard_f (by decide) ?_)
    have e2 : decide ((((b.map Act.c).length : Nat) : Int) > 30) = true := decide_eq_true (by rw [List.length_map]; omega)
    refine guard_f (by rw [e2]; decide) ?_
    rw [e2]
    repeat (first | refine guard_t rfl ?_ | refine guard_f (by decide) ?_)
    refine cond_t rfl ?_
    refine call_h shortN ?_
    exact ⟨⟨_, rfl⟩, rfl⟩
  have e2 : decide ((((b.map Act.c).length : Nat) : Int) > 30) = false := decide_eq_false (by rw [List.length_map]; omega)
  by_cases h3 : a = []
  · subst h3
    refine VCall.ofS (tr []) f7 (Nat.le_of_ble_eq_true rfl) (Nat.le_refl _) (.bool _) hob_G0 ?_
    refine call_h shortN ?_
    repeat (first | refine guard_t rfl ?_ | refine guard_f (by decide) ?_)
    refine guard_t e2 ?_
    rw [e2]
    repeat (first | refine guard_t rfl ?_ | refine guard_f (by decide) ?_)
    refine cond_t rfl ?_
    refine call_h shortN ?_
    exact ⟨⟨_, rfl⟩, rfl⟩
  have hpos : 0 < a.length := List.length_pos_iff.2 h3
  have e3 : ((((a.map Act.c).length : Nat) : Int) == 0) = false := by rw [List.length_map, beq_eq_false_iff_ne]; omega
  obtain ⟨wa, hba, hca⟩ := batchZ a (by omega)
  obtain ⟨wb, _, hcb⟩ := batchZ b (by omega)
  have hl1 : wa.length ≤ 1000000 := by have := hba.len; omega
  have hrow : ∀ w, w ∈ wa → w.row.length ≤ 1000000 := fun w hw => by have := (hba.small w hw).2; omega
  obtain ⟨k, hk, em⟩ : ∃ k : Nat, k < 4 ∧ (what.toNat : Int).tmod 4 = (k : Int) := by
    refine ⟨what.toNat % 4, Nat.mod_lt _ (by decide), ?_⟩
    rw [Int.tmod_eq_emod_of_nonneg (by omega)]
    omega
  have hwn := hba.ne h3
  cases hwa : wa with
  | nil => exact absurd hwa hwn
  | cons w0 wr =>
    have hp : (0 : Int) < ((wa.map cZ).length : Nat) := by rw [hwa]; simp only [List.length_map, List.length_cons]; omega
    have hp1 : (1 : Int) ≤ ((wa.map cZ).length : Nat) := by omega
    match k, hk with
    | 0, _ => exact rsame0 na nb oa ob a b what wa wb h3 hl1 hrow hca hcb e1 e2 e3 0 em rfl
    | 1, _ => exact rsame1 na nb oa ob a b what wa wb w0 wr hwa hp h3 hl1 hrow hca hcb e1 e2 e3 1 em rfl
    | 2, _ =>
      obtain ⟨k0, row, g0⟩ := w0
      cases row with
      | nil => exact rsame2n na nb oa ob a b what wa wb k0 g0 wr hwa hp h3 hl1 hrow hca hcb e1 e2 e3 2 em rfl
      | cons ra rr => exact rsame2c na nb oa ob a b what wa wb k0 ra rr g0 wr hwa hp h3 hl1 hrow hca hcb e1 e2 e3 2 em rfl
    | 3, _ => exact rsame3 na nb oa ob a b what wa wb w0 wr hwa hp1 h3 hl1 hrow hca hcb e1 e2 e3 3 em rfl

end Go.Proofs.YtjbgdmebpnfpnaaDoor.V

/- Two batches are the same if nothing of them is another thing: for all acts and numbers the law RecordSame answers true; its tied card. -/
namespace Go.Proofs.YtjbgdmebpnfpnaaDoor
open Go.ChangeShapes Go.WideShapes Go.ChangeAt Go.RowKit V

set_option maxRecDepth 100000 in
theorem recordSame_lifted (os : Os) (started : os.Started) (H : Type) (enc : TypeId × Value → H) :
    ReturnsInHanded {} Tryd.checked os 7 .any (fun w args => (Rows.recordSameSpec.pre enc Tryd.prog Tryd.f7 [] false w args ∧ laidMetH Tryd.prog Rows.recordSameRow.laid w) ∧ sizedMet enc Tryd.prog Tryd.f7 (OpenSpec.ofChange Rows.recordSameSpec) false w args)
      (Rows.recordSameSpec.post enc Tryd.prog Tryd.f7 false true false false) := by
  refine law_liftedG (C := Tryd.checked) (s := Rows.recordSameSpec) (tb := 4) (X := fun w _ => laidMetH Tryd.prog lays w) (fun _ _ _ hh h => h.of_heap hh) 8 H enc Tryd.own started (by kernel_rfl) Tryd.func7 Tryd.laidOut rfl (by kernel_rfl) (by kernel_rfl) (by kernel_rfl) ?_
    (ChangeSpec.witness_at (enc := enc) (C := Tryd.checked) (os := os) (X := fun w _ => laidMetH Tryd.prog lays w) false (laidWorld os) #[.slice none 0 0, .slice none 0 0, .int .u8 0] 8 rfl (by kernel_rfl) (by kernel_rfl) (by kernel_rfl) (by kernel_rfl) (by kernel_rfl) (laidWorld_met os _))
    0 [gv] (fun w _ h => glob_of_laid h) (by kernel_rfl) ?_
  · intro ds hl
    match ds, hl with
    | [d0, d1, d2], _ => exact ⟨rfl, rfl, rfl⟩
  · intro us has0
    have has : Pars Tryd.prog Tryd.f7.params.toList us := has0
    rw [Tryd.params7] at has
    obtain ⟨p0, r, rfl, q0, has⟩ := has.inv_cons
    obtain ⟨p1, r, rfl, q1, has⟩ := has.inv_cons
    obtain ⟨p2, r, rfl, q2, has⟩ := has.inv_cons
    have has := has.inv_nil
    subst has
    obtain ⟨n0, a0, rfl, l0⟩ := acts_inv Tryd.underlying26 (by kernel_rfl) Tryd.underlying52 rfl Tryd.underlying5 Tryd.underlying5 Tryd.underlying4 q0
    obtain ⟨n1, a1, rfl, l1⟩ := acts_inv Tryd.underlying26 (by kernel_rfl) Tryd.underlying52 rfl Tryd.underlying5 Tryd.underlying5 Tryd.underlying4 q1
    obtain ⟨a2, rfl⟩ := q2.inv_u8 Tryd.underlying5
    exact (recordSameN _ _ _ _ a0 a1 (Nat.le_trans l0 (by decide)) (Nat.le_trans l1 (by decide)) a2)

theorem recordSame_said : Rows.RecordSameSaid :=
  OpenClaim.holds_of_wide 7 Tryd.f7 rfl rfl rfl rfl rfl rfl rfl ⟨rfl, rfl, rfl, rfl, rfl⟩ rfl rfl rfl rfl rfl (by kernel_rfl) Tryd.func7 (by kernel_rfl)
    (of_decide_eq_true (by kernel_rfl)) (by unfold Func.isWrapper; first | (rw [if_pos (by decide +kernel)]; kernel_rfl) | (rw [if_neg (by decide +kernel)]; exact ⟨rfl, rfl⟩))
    (fun os started H enc _ => recordSame_lifted os started H enc)

theorem recordSame_holds : Rows.RecordSameCardSaid :=
  Claim7.holds_tied_plain_at .later [] [.handle] true (true, "f36a0c6cf363801d103153c6e69d1f90fa1972ec92843e683f996dc657243d1c") true
    recordSame_said (fun _ h => by cases h) (by kernel_rfl) (fun _ h => by cases h) recordSame_row_tie rfl ⟨rfl, rfl⟩ (by kernel_rfl) rfl
    (fun f fn hf hfn => by
      obtain rfl : f = 7 := Option.some.inj ((show Tryd.prog.funcNamed "countinghouse/countinghouselaw06.RecordSame" = some 7 by kernel_rfl).symm.trans hf) |>.symm
      obtain rfl : fn = Tryd.f7 := (Option.some.inj (Tryd.func7.symm.trans hfn)).symm
      exact ⟨by kernel_rfl, fun j t ht => by
        rw [Tryd.params7] at ht
        have hm : t ∈ [26, 26, 5] := by simpa using Array.mem_of_getElem? ht
        have hall : ([26, 26, 5].all fun u => !Tryd.prog.wantsStandIn u) = true := by kernel_rfl
        exact (show Tryd.prog.wantsStandIn t = false by simpa using List.all_eq_true.1 hall t hm)⟩)
    (by kernel_rfl)

end Go.Proofs.YtjbgdmebpnfpnaaDoor
