/-
  A key in which a byte is another one, that is cut or goes on, is read alike by program and reference: for all inputs the law OrderTurned answers true; its tied card.
-/
import Derived.Test.YtlhdbbkfibibfaaDoorFc
import Derived.Test.YtlhdbbkfibibfaaDoorGb
import Derived.Test.YtlhdbbkfibibfaaDoorRows
import Derived.Test.YtlhdbbkfibibfaaDoorGf
import Derived.Test.YtlhdbbkfibibfaaDoorTie
import Derived.Test.YtlhdbbkfibibfaaDoorCards
import Derived.SevenTiedAt

/- What the rows of this seat share: what is known of the program, and what words are. -/
namespace Go.Proofs.YtlhdbbkfibibfaaDoor
set_option maxRecDepth 100000
theorem Tryd.own : ownKnob Tryd.prog.godebug = none := by kernel_rfl
theorem Tryd.laidOut : laidOutB Tryd.prog = true := by kernel_rfl

namespace V
section
variable {P : Program} {t t1 t2 t3 : TypeId} {fs : Array Field}
theorem word_cells (ht : P.underlying t = some (.struct fs)) (hfs : fs.toList.map (·.type) = [t1, t2, t3]) (h1 : P.underlying t1 = some (.int .u8)) (h2 : P.underlying t2 = some (.int .i64)) (h3 : P.underlying t3 = some .string)
    {us : List AV} (h : Shape P t us) : ∃ w : Va, us = w.c ∧ w.ok := by
  have hs := h.inv_struct ht
  rw [hfs] at hs
  obtain ⟨a1, r1, rfl, k1, hs⟩ := hs.inv_cons
  obtain ⟨a2, r2, rfl, k2, hs⟩ := hs.inv_cons
  obtain ⟨a3, r3, rfl, k3, hs⟩ := hs.inv_cons
  have hs := hs.inv_nil
  subst hs
  obtain ⟨n1, rfl, w1⟩ := k1.inv_int h1
  obtain ⟨n2, rfl, w2⟩ := k2.inv_int h2
  obtain ⟨s, rfl, _⟩ := k3.inv_str h3
  simp [Lit.wf, IntKind.min, IntKind.max, IntKind.signed, IntKind.bits] at w1 w2
  refine ⟨⟨UInt8.ofNat n1.toNat, n2, s⟩, ?_, w2.1, w2.2⟩
  have e : ((UInt8.ofNat n1.toNat).toNat : Int) = n1 := by simp only [UInt8.toNat_ofNat']; omega
  simp only [Va.c, e, List.cons_append, List.nil_append]

theorem word_inv (ht : P.underlying t = some (.struct fs)) (hfs : fs.toList.map (·.type) = [t1, t2, t3]) (h1 : P.underlying t1 = some (.int .u8)) (h2 : P.underlying t2 = some (.int .i64)) (h3 : P.underlying t3 = some .string)
    {a : AV} (h : Par P t a) : ∃ w : Va, a = w.av ∧ w.ok := by
  cases h with
  | one _ hn _ => exact absurd ht (hn fs)
  | agg fs' us h' hs =>
    obtain ⟨w, rfl, hw⟩ := word_cells ht hfs h1 h2 h3 hs
    exact ⟨w, rfl, hw⟩

theorem words_of {e : TypeId} (ht : P.underlying e = some (.struct fs)) (hfs : fs.toList.map (·.type) = [t1, t2, t3]) (h1 : P.underlying t1 = some (.int .u8)) (h2 : P.underlying t2 = some (.int .i64)) (h3 : P.underlying t3 = some .string) :
    ∀ xs : List (List AV), (∀ x, x ∈ xs → Shape P e x) → ∃ ws : List Va, xs = ws.map Va.c ∧ ∀ w, w ∈ ws → w.ok
  | [], _ => ⟨[], rfl, by simp⟩
  | x :: xs, h => by
    obtain ⟨ws, rfl, hw⟩ := words_of ht hfs h1 h2 h3 xs fun y hy => h y (by simp [hy])
    obtain ⟨w, rfl, hw'⟩ := word_cells ht hfs h1 h2 h3 (h x (by simp))
    refine ⟨w :: ws, rfl, fun u hu => ?_⟩
    rcases List.mem_cons.1 hu with rfl | hu
    · exact hw'
    · exact hw u hu

theorem words_inv {e : TypeId} (hsl : P.underlying t = some (.slice e)) (hc : P.cellsOf e = 3) (ht : P.underlying e = some (.struct fs)) (hfs : fs.toList.map (·.type) = [t1, t2, t3]) (h1 : P.underlying t1 = some (.int .u8)) (h2 : P.underlying t2 = some (.int .i64)) (h3 : P.underlying t3 = some .string)
    {a : AV} (h : Par P t a) : ∃ nl ws, a = .sl 3 (some nl) false (List.map Va.c ws) ∧ (∀ w, w ∈ ws → w.ok) ∧ ws.length ≤ maxLen := by
  obtain ⟨nl, xs, rfl, hx, hl, _⟩ := h.inv_sl hsl
  obtain ⟨ws, rfl, hw⟩ := words_of ht hfs h1 h2 h3 xs hx
  rw [hc]
  exact ⟨nl, ws, rfl, hw, by rw [List.length_map] at hl; exact hl⟩
end
end V
end Go.Proofs.YtlhdbbkfibibfaaDoor

/- A key in which a byte is another one, that is cut or goes on, is read alike by program and reference: for all inputs the law OrderTurned answers true; its tied card. -/
namespace Go.Proofs.YtlhdbbkfibibfaaDoor
open Go.ChangeShapes Go.WideShapes Go.ChangeAt Go.RowKit V

set_option maxRecDepth 100000 in
theorem orderTurned_lifted (os : Os) (started : os.Started) (H : Type) (enc : TypeId × Value → H) :
    ReturnsInHanded {} Tryd.checked os 8 .any (fun w args => (Rows.orderTurnedSpec.pre enc Tryd.prog Tryd.f8 [] false w args ∧ laidMetH Tryd.prog Rows.orderTurnedRow.laid w) ∧ sizedMet enc Tryd.prog Tryd.f8 (OpenSpec.ofChange Rows.orderTurnedSpec) false w args)
      (Rows.orderTurnedSpec.post enc Tryd.prog Tryd.f8 false true false false) := by
  refine law_liftedL (C := Tryd.checked) (s := Rows.orderTurnedSpec) (tb := 4) (X := fun w _ => laidMetH Tryd.prog Rows.orderTurnedRow.laid w) (fun _ _ _ hh h => h.of_heap hh) 8 H enc Tryd.own started (by kernel_rfl) Tryd.func8 Tryd.laidOut rfl (by kernel_rfl) (by kernel_rfl) (by kernel_rfl) ?_
    (ChangeSpec.witness_shaped (enc := enc) (C := Tryd.checked) (os := os) (X := fun w _ => laidMetH Tryd.prog Rows.orderTurnedRow.laid w) false (World.laidAll Tryd.prog os Rows.orderTurnedRow.laid) #[.slice none 0 0, .int .u16 0, .int .u8 0, .bool false, .slice none 0 0] 8 (World.laidAll_os _ _ _) (World.shaped_of_ZipB (by kernel_rfl) (by kernel_rfl)) (by kernel_rfl) (by kernel_rfl) (by kernel_rfl)
      (by rw [MakeChecks.laidMetH_plain _ _ _ (by kernel_rfl)]; exact laidMet_laidAll _ (by kernel_rfl) (by kernel_rfl))) (by kernel_rfl) ?_
  · intro ds hl
    match ds, hl with
    | [d0, d1, d2, d3, d4], _ => exact ⟨rfl, rfl, rfl⟩
  · intro us has0
    have has : Pars Tryd.prog Tryd.f8.params.toList us := has0
    rw [Tryd.params8] at has
    obtain ⟨p0, r, rfl, q0, has⟩ := has.inv_cons
    obtain ⟨p1, r, rfl, q1, has⟩ := has.inv_cons
    obtain ⟨p2, r, rfl, q2, has⟩ := has.inv_cons
    obtain ⟨p3, r, rfl, q3, has⟩ := has.inv_cons
    obtain ⟨p4, r, rfl, q4, has⟩ := has.inv_cons
    have has := has.inv_nil
    subst has
    obtain ⟨n0, a0, rfl, h0, l0⟩ := words_inv Tryd.underlying22 (by kernel_rfl) Tryd.underlying44 rfl Tryd.underlying5 Tryd.underlying2 Tryd.underlying9 q0
    obtain ⟨a1, rfl, h1⟩ := q1.inv_u16 Tryd.underlying41
    obtain ⟨a2, rfl⟩ := q2.inv_u8 Tryd.underlying5
    obtain ⟨a3, rfl⟩ := q3.inv_bool Tryd.underlying4
    obtain ⟨n4, a4, rfl, l4, z4⟩ := q4.inv_bytes Tryd.underlying27 Tryd.underlying5 (by kernel_rfl)
    exact (orderTurnedN _ _ _ _ a0 a1 h1 a2 a3 a4).2

theorem orderTurned_said : Rows.OrderTurnedSaid :=
  OpenClaim.holds_of_wide 8 Tryd.f8 rfl rfl rfl rfl rfl rfl rfl ⟨rfl, rfl, rfl, rfl, rfl⟩ rfl rfl rfl rfl rfl (by kernel_rfl) Tryd.func8 (by kernel_rfl)
    (of_decide_eq_true (by kernel_rfl)) (by unfold Func.isWrapper; first | (rw [if_pos (by decide +kernel)]; kernel_rfl) | (rw [if_neg (by decide +kernel)]; exact ⟨rfl, rfl⟩))
    (fun os started H enc _ => orderTurned_lifted os started H enc)

theorem orderTurned_holds : Rows.OrderTurnedCardSaid :=
  Claim7.holds_tied_plain_at .later [] [.data, .pinned] true (true, "cee0edcbb6f0b78e740db05e99ce077c0d7f31451793f8db2d5cadf57772a3dd") false
    orderTurned_said (fun _ h => by cases h) (by kernel_rfl) (fun _ h => by cases h) orderTurned_row_tie rfl ⟨rfl, rfl⟩ (by kernel_rfl) rfl
    (fun f fn hf hfn => by
      obtain rfl : f = 8 := Option.some.inj ((show Tryd.prog.funcNamed "countinghouse/countinghouselaw02.OrderTurned" = some 8 by kernel_rfl).symm.trans hf) |>.symm
      obtain rfl : fn = Tryd.f8 := (Option.some.inj (Tryd.func8.symm.trans hfn)).symm
      exact ⟨by kernel_rfl, fun j t ht => by
        rw [Tryd.params8] at ht
        have hm : t ∈ [22, 41, 5, 4, 27] := by simpa using Array.mem_of_getElem? ht
        have hall : ([22, 41, 5, 4, 27].all fun u => !Tryd.prog.wantsStandIn u) = true := by kernel_rfl
        exact (show Tryd.prog.wantsStandIn t = false by simpa using List.all_eq_true.1 hall t hm)⟩)
    (by kernel_rfl)

end Go.Proofs.YtlhdbbkfibibfaaDoor
