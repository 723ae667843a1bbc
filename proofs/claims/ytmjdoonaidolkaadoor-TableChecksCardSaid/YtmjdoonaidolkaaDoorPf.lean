/-
  May a row be, or a key: for all forms, numbers, rows and values that are put in, the law TableChecks answers true; its tied card.
-/
import Derived.Test.YtmjdoonaidolkaaDoorFc
import Derived.Test.YtmjdoonaidolkaaDoorGb
import Derived.Test.YtmjdoonaidolkaaDoorRows
import Derived.Test.YtmjdoonaidolkaaDoorGc
import Derived.Test.YtmjdoonaidolkaaDoorGd
import Derived.Test.YtmjdoonaidolkaaDoorTie
import Derived.Test.YtmjdoonaidolkaaDoorCards
import Derived.SevenTiedAt

/- What the rows of this seat share: what is known of the program, and what words are. -/
namespace Go.Proofs.YtmjdoonaidolkaaDoor
set_option maxRecDepth 100000
theorem Tryd.own : ownKnob Tryd.prog.godebug = none := by kernel_rfl
theorem Tryd.laidOut : laidOutB Tryd.prog = true := by kernel_rfl

namespace V
section
variable {P : Program} {t t1 t2 t3 : TypeId} {fs : Array Field}
theorem word_cells (ht : P.underlying t = some (.struct fs)) (hfs : fs.toList.map (·.type) = [t1, t2, t3]) (h1 : P.underlying t1 = some (.int .u8)) (h2 : P.underlying t2 = some (.int .i64)) (h3 : P.underlying t3 = some .string)
    {us : List AV} (h : Shape P t us) : ∃ w : Va, us = w.c ∧ w.ok := by
  have hs := h.inv_struct ht
  rw [hfs] at hs
  obtain ⟨a1, r1, rfl, k1, hs⟩ := hs.inv_cons
  obtain ⟨a2, r2, rfl, k2, hs⟩ := hs.inv_cons
  obtain ⟨a3, r3, rfl, k3, hs⟩ := hs.inv_cons
  have hs := hs.inv_nil
  subst hs
  obtain ⟨n1, rfl, w1⟩ := k1.inv_int h1
  obtain ⟨n2, rfl, w2⟩ := k2.inv_int h2
  obtain ⟨s, rfl, _⟩ := k3.inv_str h3
  simp [Lit.wf, IntKind.min, IntKind.max, IntKind.signed, IntKind.bits] at w1 w2
  refine ⟨⟨UInt8.ofNat n1.toNat, n2, s⟩, ?_, w2.1, w2.2⟩
  have e : ((UInt8.ofNat n1.toNat).toNat : Int) = n1 := by simp only [UInt8.toNat_ofNat']; omega
  simp only [Va.c, e, List.cons_append, List.nil_append]

theorem word_inv (ht : P.underlying t = some (.struct fs)) (hfs : fs.toList.map (·.type) = [t1, t2, t3]) (h1 : P.underlying t1 = some (.int .u8)) (h2 : P.underlying t2 = some (.int .i64)) (h3 : P.underlying t3 = some .string)
    {a : AV} (h : Par P t a) : ∃ w : Va, a = w.av ∧ w.ok := by
  cases h with
  | one _ hn _ => exact absurd ht (hn fs)
  | agg fs' us h' hs =>
    obtain ⟨w, rfl, hw⟩ := word_cells ht hfs h1 h2 h3 hs
    exact ⟨w, rfl, hw⟩

theorem words_of {e : TypeId} (ht : P.underlying e = some (.struct fs)) (hfs : fs.toList.map (·.type) = [t1, t2, t3]) (h1 : P.underlying t1 = some (.int .u8)) (h2 : P.underlying t2 = some (.int .i64)) (h3 : P.underlying t3 = some .string) :
    ∀ xs : List (List AV), (∀ x, x ∈ xs → Shape P e x) → ∃ ws : List Va, xs = ws.map Va.c ∧ ∀ w, w ∈ ws → w.ok
  | [], _ => ⟨[], rfl, by simp⟩
  | x :: xs, h => by
    obtain ⟨ws, rfl, hw⟩ := words_of ht hfs h1 h2 h3 xs fun y hy => h y (by simp [hy])
    obtain ⟨w, rfl, hw'⟩ := word_cells ht hfs h1 h2 h3 (h x (by simp))
    refine ⟨w :: ws, rfl, fun u hu => ?_⟩
    rcases List.mem_cons.1 hu with rfl | hu
    · exact hw'
    · exact hw u hu

theorem words_inv {e : TypeId} (hsl : P.underlying t = some (.slice e)) (hc : P.cellsOf e = 3) (ht : P.underlying e = some (.struct fs)) (hfs : fs.toList.map (·.type) = [t1, t2, t3]) (h1 : P.underlying t1 = some (.int .u8)) (h2 : P.underlying t2 = some (.int .i64)) (h3 : P.underlying t3 = some .string)
    {a : AV} (h : Par P t a) : ∃ nl ws, a = .sl 3 (some nl) false (List.map Va.c ws) ∧ (∀ w, w ∈ ws → w.ok) ∧ ws.length ≤ maxLen := by
  obtain ⟨nl, xs, rfl, hx, hl, _⟩ := h.inv_sl hsl
  obtain ⟨ws, rfl, hw⟩ := words_of ht hfs h1 h2 h3 xs hx
  rw [hc]
  exact ⟨nl, ws, rfl, hw, by rw [List.length_map] at hl; exact hl⟩
end
end V
end Go.Proofs.YtmjdoonaidolkaaDoor

/- What forms are, among a row's arguments. -/
namespace Go.Proofs.YtmjdoonaidolkaaDoor
namespace V
section
variable {P : Program} {t t1 t2 e : TypeId} {fs : Array Field}
theorem form_cells (ht : P.underlying t = some (.struct fs)) (hfs : fs.toList.map (·.type) = [t1, t2]) (h1 : P.underlying t1 = some (.slice e)) (hc : P.cellsOf e = 1) (he : P.underlying e = some (.int .u8)) (h2 : P.underlying t2 = some (.int .u8))
    {us : List AV} (h : Shape P t us) : ∃ f : Form, us = f.c := by
  have hs := h.inv_struct ht
  rw [hfs] at hs
  obtain ⟨a1, r1, rfl, k1, hs⟩ := hs.inv_cons
  obtain ⟨a2, r2, rfl, k2, hs⟩ := hs.inv_cons
  have hs := hs.inv_nil
  subst hs
  obtain ⟨nl, xs, rfl, hx, _, _⟩ := k1.inv_sl h1
  obtain ⟨l, rfl⟩ := bytes_of xs he hx
  obtain ⟨n2, rfl, w2⟩ := k2.inv_int h2
  simp [Lit.wf, IntKind.min, IntKind.max, IntKind.signed, IntKind.bits] at w2
  refine ⟨⟨nl, l, UInt8.ofNat n2.toNat⟩, ?_⟩
  have e2 : ((UInt8.ofNat n2.toNat).toNat : Int) = n2 := by simp only [UInt8.toNat_ofNat']; omega
  rw [hc]
  simp only [Form.c, e2, List.cons_append, List.nil_append]

theorem forms_of (ht : P.underlying t = some (.struct fs)) (hfs : fs.toList.map (·.type) = [t1, t2]) (h1 : P.underlying t1 = some (.slice e)) (hc : P.cellsOf e = 1) (he : P.underlying e = some (.int .u8)) (h2 : P.underlying t2 = some (.int .u8)) :
    ∀ xs : List (List AV), (∀ x, x ∈ xs → Shape P t x) → ∃ l : List Form, xs = l.map Form.c
  | [], _ => ⟨[], rfl⟩
  | x :: xs, h => by
    obtain ⟨l, rfl⟩ := forms_of ht hfs h1 hc he h2 xs fun y hy => h y (by simp [hy])
    obtain ⟨f, rfl⟩ := form_cells ht hfs h1 hc he h2 (h x (by simp))
    exact ⟨f :: l, rfl⟩

theorem forms_inv {s : TypeId} (hsl : P.underlying s = some (.slice t)) (hc2 : P.cellsOf t = 2) (ht : P.underlying t = some (.struct fs)) (hfs : fs.toList.map (·.type) = [t1, t2]) (h1 : P.underlying t1 = some (.slice e)) (hc : P.cellsOf e = 1) (he : P.underlying e = some (.int .u8)) (h2 : P.underlying t2 = some (.int .u8))
    {a : AV} (h : Par P s a) : ∃ nl l, a = .sl 2 (some nl) false (List.map Form.c l) ∧ l.length ≤ maxLen := by
  obtain ⟨nl, xs, rfl, hx, hl, _⟩ := h.inv_sl hsl
  obtain ⟨l, rfl⟩ := forms_of ht hfs h1 hc he h2 xs hx
  rw [hc2]
  exact ⟨nl, l, rfl, by rw [List.length_map] at hl; exact hl⟩
end
end V
end Go.Proofs.YtmjdoonaidolkaaDoor

/- May a row be, or a key: for all forms, numbers, rows and values that are put in, the law TableChecks answers true; its tied card. -/
namespace Go.Proofs.YtmjdoonaidolkaaDoor
open Go.ChangeShapes Go.WideShapes Go.ChangeAt Go.RowKit V

set_option maxRecDepth 100000 in
theorem tableChecks_lifted (os : Os) (started : os.Started) (H : Type) (enc : TypeId × Value → H) :
    ReturnsInHanded {} Tryd.checked os 6 .any (fun w args => (Rows.tableChecksSpec.pre enc Tryd.prog Tryd.f6 [] false w args ∧ laidMetH Tryd.prog Rows.tableChecksRow.laid w) ∧ sizedMet enc Tryd.prog Tryd.f6 (OpenSpec.ofChange Rows.tableChecksSpec) false w args)
      (Rows.tableChecksSpec.post enc Tryd.prog Tryd.f6 false true false false) := by
  refine law_liftedL (C := Tryd.checked) (s := Rows.tableChecksSpec) (tb := 4) (X := fun w _ => laidMetH Tryd.prog Rows.tableChecksRow.laid w) (fun _ _ _ hh h => h.of_heap hh) 8 H enc Tryd.own started (by kernel_rfl) Tryd.func6 Tryd.laidOut rfl (by kernel_rfl) (by kernel_rfl) (by kernel_rfl) ?_
    (ChangeSpec.witness_shaped (enc := enc) (C := Tryd.checked) (os := os) (X := fun w _ => laidMetH Tryd.prog Rows.tableChecksRow.laid w) false (World.laidAll Tryd.prog os Rows.tableChecksRow.laid) #[.slice none 0 0, .int .i64 0, .slice none 0 0, .int .u8 0, .agg #[.int .u8 0, .int .i64 0, .string ⟨#[]⟩], .bool false, .int .u8 0] 8 (World.laidAll_os _ _ _) (World.shaped_of_ZipB (by kernel_rfl) (by kernel_rfl)) (by kernel_rfl) (by kernel_rfl) (by kernel_rfl)
      (by rw [MakeChecks.laidMetH_plain _ _ _ (by kernel_rfl)]; exact laidMet_laidAll _ (by kernel_rfl) (by kernel_rfl))) (by kernel_rfl) ?_
  · intro ds hl
    match ds, hl with
    | [d0, d1, d2, d3, d4, d5, d6], _ => exact ⟨rfl, rfl, rfl⟩
  · intro us has0
    have has : Pars Tryd.prog Tryd.f6.params.toList us := has0
    rw [Tryd.params6] at has
    obtain ⟨p0, r, rfl, q0, has⟩ := has.inv_cons
    obtain ⟨p1, r, rfl, q1, has⟩ := has.inv_cons
    obtain ⟨p2, r, rfl, q2, has⟩ := has.inv_cons
    obtain ⟨p3, r, rfl, q3, has⟩ := has.inv_cons
    obtain ⟨p4, r, rfl, q4, has⟩ := has.inv_cons
    obtain ⟨p5, r, rfl, q5, has⟩ := has.inv_cons
    obtain ⟨p6, r, rfl, q6, has⟩ := has.inv_cons
    have has := has.inv_nil
    subst has
    obtain ⟨n0, a0, rfl, l0⟩ := forms_inv Tryd.underlying22 (by kernel_rfl) Tryd.underlying64 rfl Tryd.underlying23 (by kernel_rfl) Tryd.underlying5 Tryd.underlying5 q0
    obtain ⟨a1, rfl, h1⟩ := q1.inv_i64 Tryd.underlying3
    obtain ⟨n2, a2, rfl, l2, z2⟩ := q2.inv_bytes Tryd.underlying23 Tryd.underlying5 (by kernel_rfl)
    obtain ⟨a3, rfl⟩ := q3.inv_u8 Tryd.underlying5
    obtain ⟨a4, rfl, h4⟩ := word_inv Tryd.underlying47 rfl Tryd.underlying5 Tryd.underlying2 Tryd.underlying9 q4
    obtain ⟨a5, rfl⟩ := q5.inv_bool Tryd.underlying4
    obtain ⟨a6, rfl⟩ := q6.inv_u8 Tryd.underlying5
    exact (tableChecksN _ _ _ _ a0 (Nat.le_trans l0 (by decide)) a1 a2 a3 a4 a5 a6).2

theorem tableChecks_said : Rows.TableChecksSaid :=
  OpenClaim.holds_of_wide 6 Tryd.f6 rfl rfl rfl rfl rfl rfl rfl ⟨rfl, rfl, rfl, rfl, rfl⟩ rfl rfl rfl rfl rfl (by kernel_rfl) Tryd.func6 (by kernel_rfl)
    (of_decide_eq_true (by kernel_rfl)) (by unfold Func.isWrapper; first | (rw [if_pos (by decide +kernel)]; kernel_rfl) | (rw [if_neg (by decide +kernel)]; exact ⟨rfl, rfl⟩))
    (fun os started H enc _ => tableChecks_lifted os started H enc)

theorem tableChecks_holds : Rows.TableChecksCardSaid :=
  Claim7.holds_tied_plain_at .later [] [.data, .pinned] true (true, "94ca4166d2d72220976573b7c68a3f6ab28d18b3b1fa6cf70bc3f983af04c5e3") false
    tableChecks_said (fun _ h => by cases h) (by kernel_rfl) (fun _ h => by cases h) tableChecks_row_tie rfl ⟨rfl, rfl⟩ (by kernel_rfl) rfl
    (fun f fn hf hfn => by
      obtain rfl : f = 6 := Option.some.inj ((show Tryd.prog.funcNamed "countinghouse/countinghouselaw05.TableChecks" = some 6 by kernel_rfl).symm.trans hf) |>.symm
      obtain rfl : fn = Tryd.f6 := (Option.some.inj (Tryd.func6.symm.trans hfn)).symm
      exact ⟨by kernel_rfl, fun j t ht => by
        rw [Tryd.params6] at ht
        have hm : t ∈ [22, 3, 23, 5, 47, 4, 5] := by simpa using Array.mem_of_getElem? ht
        have hall : ([22, 3, 23, 5, 47, 4, 5].all fun u => !Tryd.prog.wantsStandIn u) = true := by kernel_rfl
        exact (show Tryd.prog.wantsStandIn t = false by simpa using List.all_eq_true.1 hall t hm)⟩)
    (by kernel_rfl)

end Go.Proofs.YtmjdoonaidolkaaDoor
