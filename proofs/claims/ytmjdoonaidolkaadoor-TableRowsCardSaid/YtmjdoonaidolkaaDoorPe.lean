/-
  A row is found by the key of its first values, and rows stand in the order of their keys: for all forms, numbers and rows the law TableRows answers true; its tied card.
-/
import Derived.Test.YtmjdoonaidolkaaDoorFc
import Derived.Test.YtmjdoonaidolkaaDoorGb
import Derived.Test.YtmjdoonaidolkaaDoorRows
import Derived.Test.YtmjdoonaidolkaaDoorGc
import Derived.Test.YtmjdoonaidolkaaDoorTie
import Derived.Test.YtmjdoonaidolkaaDoorCards
import Derived.SevenTiedAt

/- What the rows of this seat share: what is known of the program, and what words are. -/
namespace Go.Proofs.YtmjdoonaidolkaaDoor
set_option maxRecDepth 100000
theorem Tryd.own : ownKnob Tryd.prog.godebug = none := by kernel_rfl
theorem Tryd.laidOut : laidOutB Tryd.prog = true := by kernel_rfl

namespace V
section
variable {P : Program} {t t1 t2 t3 : TypeId} {fs : Array Field}
theorem word_cells (ht : P.underlying t = some (.struct fs)) (hfs : fs.toList.map (·.type) = [t1, t2, t3]) (h1 : P.underlying t1 = some (.int .u8)) (h2 : P.underlying t2 = some (.int .i64)) (h3 : P.underlying t3 = some .string)
    {us : List AV} (h : Shape P t us) : ∃ w : Va, us = w.c ∧ w.ok := by
  have hs := h.inv_struct ht
  rw [hfs] at hs
  obtain ⟨a1, r1, rfl, k1, hs⟩ := hs.inv_cons
  obtain ⟨a2, r2, rfl, k2, hs⟩ := hs.inv_cons
  obtain ⟨a3, r3, rfl, k3, hs⟩ := hs.inv_cons
  have hs := hs.inv_nil
  subst hs
  obtain ⟨n1, rfl, w1⟩ := k1.inv_int h1
  obtain ⟨n2, rfl, w2⟩ := k2.inv_int h2
  obtain ⟨s, rfl, _⟩ := k3.inv_str h3
  simp [Lit.wf, IntKind.min, IntKind.max, IntKind.signed, IntKind.bits] at w1 w2
  refine ⟨⟨UInt8.ofNat n1.toNat, n2, s⟩, ?_, w2.1, w2.2⟩
  have e : ((UInt8.ofNat n1.toNat).toNat : Int) = n1 := by simp only [UInt8.toNat_ofNat']; omega
  simp only [Va.c, e, List.cons_append, List.nil_append]

theorem word_inv (ht : P.underlying t = some (.struct fs)) (hfs : fs.toList.map (·.type) = [t1, t2, t3]) (h1 : P.underlying t1 = some (.int .u8)) (h2 : P.underlying t2 = some (.int .i64)) (h3 : P.underlying t3 = some .string)
    {a : AV} (h : Par P t a) : ∃ w : Va, a = w.av ∧ w.ok := by
  cases h with
  | one _ hn _ => exact absurd ht (hn fs)
  | agg fs' us h' hs =>
    obtain ⟨w, rfl, hw⟩ := word_cells ht hfs h1 h2 h3 hs
    exact ⟨w, rfl, hw⟩

theorem words_of {e : TypeId} (ht : P.underlying e = some (.struct fs)) (hfs : fs.toList.map (·.type) = [t1, t2, t3]) (h1 : P.underlying t1 = some (.int .u8)) (h2 : P.underlying t2 = some (.int .i64)) (h3 : P.underlying t3 = some .string) :
    ∀ xs : List (List AV), (∀ x, x ∈ xs → Shape P e x) → ∃ ws : List Va, xs = ws.map Va.c ∧ ∀ w, w ∈ ws → w.ok
  | [], _ => ⟨[], rfl, by simp⟩
  | x :: xs, h => by
    obtain ⟨ws, rfl, hw⟩ := words_of ht hfs h1 h2 h3 xs fun y hy => h y (by simp [hy])
    obtain ⟨w, rfl, hw'⟩ := word_cells ht hfs h1 h2 h3 (h x (by simp))
    refine ⟨w :: ws, rfl, fun u hu => ?_⟩
    rcases List.mem_cons.1 hu with rfl | hu
    · exact hw'
    · exact hw u hu

theorem words_inv {e : TypeId} (hsl : P.underlying t = some (.slice e)) (hc : P.cellsOf e = 3) (ht : P.underlying e = some (.struct fs)) (hfs : fs.toList.map (·.type) = [t1, t2, t3]) (h1 : P.underlying t1 = some (.int .u8)) (h2 : P.underlying t2 = some (.int .i64)) (h3 : P.underlying t3 = some .string)
    {a : AV} (h : Par P t a) : ∃ nl ws, a = .sl 3 (some nl) false (List.map Va.c ws) ∧ (∀ w, w ∈ ws → w.ok) ∧ ws.length ≤ maxLen := by
  obtain ⟨nl, xs, rfl, hx, hl, _⟩ := h.inv_sl hsl
  obtain ⟨ws, rfl, hw⟩ := words_of ht hfs h1 h2 h3 xs hx
  rw [hc]
  exact ⟨nl, ws, rfl, hw, by rw [List.length_map] at hl; exact hl⟩
end
end V
end Go.Proofs.YtmjdoonaidolkaaDoor

/- What forms are, among a row's arguments. -/
namespace Go.Proofs.YtmjdoonaidolkaaDoor
namespace V
section
variable {P : Program} {t t1 t2 e : TypeId} {fs : Array Field}
theorem form_cells (ht : P.underlying t = some (.struct fs)) (hfs : fs.toList.map (·.type) = [t1, t2]) (h1 : P.underlying t1 = some (.slice e)) (hc : P.cellsOf e = 1) (he : P.underlying e = some (.int .u8)) (h2 : P.underlying t2 = some (.int .u8))
    {us : List AV} (h : Shape P t us) : ∃ f : Form, us = f.c := by
  have hs := h.inv_struct ht
  rw [hfs] at hs
  obtain ⟨a1, r1, rfl, k1, hs⟩ := hs.inv_cons
  obtain ⟨a2, r2, rfl, k2, hs⟩ := hs.inv_cons
  have hs := hs.inv_nil
  subst hs
  obtain ⟨nl, xs, rfl, hx, _, _⟩ := k1.inv_sl h1
  obtain ⟨l, rfl⟩ := bytes_of xs he hx
  obtain ⟨n2, rfl, w2⟩ := k2.inv_int h2
  simp [Lit.wf, IntKind.min, IntKind.max, IntKind.signed, IntKind.bits] at w2
  refine ⟨⟨nl, l, UInt8.ofNat n2.toNat⟩, ?_⟩
  have e2 : ((UInt8.ofNat n2.toNat).toNat : Int) = n2 := by simp only [UInt8.toNat_ofNat']; omega
  rw [hc]
  simp only [Form.c, e2, List.cons_append, List.nil_append]

theorem forms_of (ht : P.underlying t = some (.struct fs)) (hfs : fs.toList.map (·.type) = [t1, t2]) (h1 : P.underlying t1 = some (.slice e)) (hc : P.cellsOf e = 1) (he : P.underlying e = some (.int .u8)) (h2 : P.underlying t2 = some (.int .u8)) :
    ∀ xs : List (List AV), (∀ x, x ∈ xs → Shape P t x) → ∃ l : List Form, xs = l.map Form.c
  | [], _ => ⟨[], rfl⟩
  | x :: xs, h => by
    obtain ⟨l, rfl⟩ := forms_of ht hfs h1 hc he h2 xs fun y hy => h y (by simp [hy])
    obtain ⟨f, rfl⟩ := form_cells ht hfs h1 hc he h2 (h x (by simp))
    exact ⟨f :: l, rfl⟩

theorem forms_inv {s : TypeId} (hsl : P.underlying s = some (.slice t)) (hc2 : P.cellsOf t = 2) (ht : P.underlying t = some (.struct fs)) (hfs : fs.toList.map (·.type) = [t1, t2]) (h1 : P.underlying t1 = some (.slice e)) (hc : P.cellsOf e = 1) (he : P.underlying e = some (.int .u8)) (h2 : P.underlying t2 = some (.int .u8))
    {a : AV} (h : Par P s a) : ∃ nl l, a = .sl 2 (some nl) false (List.map Form.c l) ∧ l.length ≤ maxLen := by
  obtain ⟨nl, xs, rfl, hx, hl, _⟩ := h.inv_sl hsl
  obtain ⟨l, rfl⟩ := forms_of ht hfs h1 hc he h2 xs hx
  rw [hc2]
  exact ⟨nl, l, rfl, by rw [List.length_map] at hl; exact hl⟩
end
end V
end Go.Proofs.YtmjdoonaidolkaaDoor

/- A row is found by the key of its first values, and rows stand in the order of their keys: for all forms, numbers and rows the law TableRows answers true; its tied card. -/
namespace Go.Proofs.YtmjdoonaidolkaaDoor
open Go.ChangeShapes Go.WideShapes Go.ChangeAt Go.RowKit V

set_option maxRecDepth 100000 in
theorem tableRows_lifted (os : Os) (started : os.Started) (H : Type) (enc : TypeId × Value → H) :
    ReturnsInHanded {} Tryd.checked os 3 .any (fun w args => (Rows.tableRowsSpec.pre enc Tryd.prog Tryd.f3 [] false w args ∧ laidMetH Tryd.prog Rows.tableRowsRow.laid w) ∧ sizedMet enc Tryd.prog Tryd.f3 (OpenSpec.ofChange Rows.tableRowsSpec) false w args)
      (Rows.tableRowsSpec.post enc Tryd.prog Tryd.f3 false true false false) := by
  refine law_liftedL (C := Tryd.checked) (s := Rows.tableRowsSpec) (tb := 4) (X := fun w _ => laidMetH Tryd.prog Rows.tableRowsRow.laid w) (fun _ _ _ hh h => h.of_heap hh) 8 H enc Tryd.own started (by kernel_rfl) Tryd.func3 Tryd.laidOut rfl (by kernel_rfl) (by kernel_rfl) (by kernel_rfl) ?_
    (ChangeSpec.witness_shaped (enc := enc) (C := Tryd.checked) (os := os) (X := fun w _ => laidMetH Tryd.prog Rows.tableRowsRow.laid w) false (World.laidAll Tryd.prog os Rows.tableRowsRow.laid) #[.slice none 0 0, .int .u8 0, .slice none 0 0, .slice none 0 0] 8 (World.laidAll_os _ _ _) (World.shaped_of_ZipB (by kernel_rfl) (by kernel_rfl)) (by kernel_rfl) (by kernel_rfl) (by kernel_rfl)
      (by rw [MakeChecks.laidMetH_plain _ _ _ (by kernel_rfl)]; exact laidMet_laidAll _ (by kernel_rfl) (by kernel_rfl))) (by kernel_rfl) ?_
  · intro ds hl
    match ds, hl with
    | [d0, d1, d2, d3], _ => exact ⟨rfl, rfl, rfl⟩
  · intro us has0
    have has : Pars Tryd.prog Tryd.f3.params.toList us := has0
    rw [Tryd.params3] at has
    obtain ⟨p0, r, rfl, q0, has⟩ := has.inv_cons
    obtain ⟨p1, r, rfl, q1, has⟩ := has.inv_cons
    obtain ⟨p2, r, rfl, q2, has⟩ := has.inv_cons
    obtain ⟨p3, r, rfl, q3, has⟩ := has.inv_cons
    have has := has.inv_nil
    subst has
    obtain ⟨n0, a0, rfl, l0⟩ := forms_inv Tryd.underlying22 (by kernel_rfl) Tryd.underlying64 rfl Tryd.underlying23 (by kernel_rfl) Tryd.underlying5 Tryd.underlying5 q0
    obtain ⟨a1, rfl⟩ := q1.inv_u8 Tryd.underlying5
    obtain ⟨n2, a2, rfl, l2, z2⟩ := q2.inv_bytes Tryd.underlying23 Tryd.underlying5 (by kernel_rfl)
    obtain ⟨n3, a3, rfl, l3, z3⟩ := q3.inv_bytes Tryd.underlying23 Tryd.underlying5 (by kernel_rfl)
    exact (tableRowsN _ _ _ _ _ _ a0 (Nat.le_trans l0 (by decide)) a1 a2 a3).2

theorem tableRows_said : Rows.TableRowsSaid :=
  OpenClaim.holds_of_wide 3 Tryd.f3 rfl rfl rfl rfl rfl rfl rfl ⟨rfl, rfl, rfl, rfl, rfl⟩ rfl rfl rfl rfl rfl (by kernel_rfl) Tryd.func3 (by kernel_rfl)
    (of_decide_eq_true (by kernel_rfl)) (by unfold Func.isWrapper; first | (rw [if_pos (by decide +kernel)]; kernel_rfl) | (rw [if_neg (by decide +kernel)]; exact ⟨rfl, rfl⟩))
    (fun os started H enc _ => tableRows_lifted os started H enc)

theorem tableRows_holds : Rows.TableRowsCardSaid :=
  Claim7.holds_tied_plain_at .later [] [.data, .pinned] true (true, "94ca4166d2d72220976573b7c68a3f6ab28d18b3b1fa6cf70bc3f983af04c5e3") false
    tableRows_said (fun _ h => by cases h) (by kernel_rfl) (fun _ h => by cases h) tableRows_row_tie rfl ⟨rfl, rfl⟩ (by kernel_rfl) rfl
    (fun f fn hf hfn => by
      obtain rfl : f = 3 := Option.some.inj ((show Tryd.prog.funcNamed "countinghouse/countinghouselaw05.TableRows" = some 3 by kernel_rfl).symm.trans hf) |>.symm
      obtain rfl : fn = Tryd.f3 := (Option.some.inj (Tryd.func3.symm.trans hfn)).symm
      exact ⟨by kernel_rfl, fun j t ht => by
        rw [Tryd.params3] at ht
        have hm : t ∈ [22, 5, 23, 23] := by simpa using Array.mem_of_getElem? ht
        have hall : ([22, 5, 23, 23].all fun u => !Tryd.prog.wantsStandIn u) = true := by kernel_rfl
        exact (show Tryd.prog.wantsStandIn t = false by simpa using List.all_eq_true.1 hall t hm)⟩)
    (by kernel_rfl)

end Go.Proofs.YtmjdoonaidolkaaDoor
