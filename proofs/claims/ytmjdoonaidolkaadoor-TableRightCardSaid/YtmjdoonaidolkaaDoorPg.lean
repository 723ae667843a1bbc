/-
  Tables that are right, and such in which something is another thing: for all forms and numbers that are put in, the law TableRight answers true; its tied card.
-/
import Derived.Test.YtmjdoonaidolkaaDoorFc
import Derived.Test.YtmjdoonaidolkaaDoorGa
import Derived.Test.YtmjdoonaidolkaaDoorRows
import Derived.Test.YtmjdoonaidolkaaDoorGb
import Derived.Test.YtmjdoonaidolkaaDoorGe
import Derived.Test.YtmjdoonaidolkaaDoorTie
import Derived.Test.YtmjdoonaidolkaaDoorCards
import Derived.SevenTiedAt

/- What the rows of this seat share: what is known of the program, and what words are. -/
namespace Go.Proofs.YtmjdoonaidolkaaDoor
set_option maxRecDepth 100000
theorem Tryd.own : ownKnob Tryd.prog.godebug = none := by kernel_rfl
theorem Tryd.laidOut : laidOutB Tryd.prog = true := by kernel_rfl

namespace V
section
variable {P : Program} {t t1 t2 t3 : TypeId} {fs : Array Field}
theorem word_cells (ht : P.underlying t = some (.struct fs)) (hfs : fs.toList.map (·.type) = [t1, t2, t3]) (h1 : P.underlying t1 = some (.int .u8)) (h2 : P.underlying t2 = some (.int .i64)) (h3 : P.underlying t3 = some .string)
    {us : List AV} (h : Shape P t us) : ∃ w : Va, us = w.c ∧ w.ok := by
  have hs := h.inv_struct ht
  rw [hfs] at hs
  obtain ⟨a1, r1, rfl, k1, hs⟩ := hs.inv_cons
  obtain ⟨a2, r2, rfl, k2, hs⟩ := hs.inv_cons
  obtain ⟨a3, r3, rfl, k3, hs⟩ := hs.inv_cons
  have hs := hs.inv_nil
  subst hs
  obtain ⟨n1, rfl, w1⟩ := k1.inv_int h1
  obtain ⟨n2, rfl, w2⟩ := k2.inv_int h2
  obtain ⟨s, rfl, _⟩ := k3.inv_str h3
  simp [Lit.wf, IntKind.min, IntKind.max, IntKind.signed, IntKind.bits] at w1 w2
  refine ⟨⟨UInt8.ofNat n1.toNat, n2, s⟩, ?_, w2.1, w2.2⟩
  have e : ((UInt8.ofNat n1.toNat).toNat : Int) = n1 := by simp only [UInt8.toNat_ofNat']; omega
  simp only [Va.c, e, List.cons_append, List.nil_append]

theorem word_inv (ht : P.underlying t = some (.struct fs)) (hfs : fs.toList.map (·.type) = [t1, t2, t3]) (h1 : P.underlying t1 = some (.int .u8)) (h2 : P.underlying t2 = some (.int .i64)) (h3 : P.underlying t3 = some .string)
    {a : AV} (h : Par P t a) : ∃ w : Va, a = w.av ∧ w.ok := by
  cases h with
  | one _ hn _ => exact absurd ht (hn fs)
  | agg fs' us h' hs =>
    obtain ⟨w, rfl, hw⟩ := word_cells ht hfs h1 h2 h3 hs
    exact ⟨w, rfl, hw⟩

theorem words_of {e : TypeId} (ht : P.underlying e = some (.struct fs)) (hfs : fs.toList.map (·.type) = [t1, t2, t3]) (h1 : P.underlying t1 = some (.int .u8)) (h2 : P.underlying t2 = some (.int .i64)) (h3 : P.underlying t3 = some .string) :
    ∀ xs : List (List AV), (∀ x, x ∈ xs → Shape P e x) → ∃ ws : List Va, xs = ws.map Va.c ∧ ∀ w, w ∈ ws → w.ok
  | [], _ => ⟨[], rfl, by simp⟩
  | x :: xs, h => by
    obtain ⟨ws, rfl, hw⟩ := words_of ht hfs h1 h2 h3 xs fun y hy => h y (by simp [hy])
    obtain ⟨w, rfl, hw'⟩ := word_cells ht hfs h1 h2 h3 (h x (by simp))
    refine ⟨w :: ws, rfl, fun u hu => ?_⟩
    rcases List.mem_cons.1 hu with rfl | hu
    · exact hw'
    · exact hw u hu

theorem words_inv {e : TypeId} (hsl : P.underlying t = some (.slice e)) (hc : P.cellsOf e = 3) (ht : P.underlying e = some (.struct fs)) (hfs : fs.toList.map (·.type) = [t1, t2, t3]) (h1 : P.underlying t1 = some (.int .u8)) (h2 : P.underlying t2 = some (.int .i64)) (h3 : P.underlying t3 = some .string)
    {a : AV} (h : Par P t a) : ∃ nl ws, a = .sl 3 (some nl) false (List.map Va.c ws) ∧ (∀ w, w ∈ ws → w.ok) ∧ ws.length ≤ maxLen := by
  obtain ⟨nl, xs, rfl, hx, hl, _⟩ := h.inv_sl hsl
  obtain ⟨ws, rfl, hw⟩ := words_of ht hfs h1 h2 h3 xs hx
  rw [hc]
  exact ⟨nl, ws, rfl, hw, by rw [List.length_map] at hl; exact hl⟩
end
end V
end Go.Proofs.YtmjdoonaidolkaaDoor

/- What forms are, among a row's arguments. -/
namespace Go.Proofs.YtmjdoonaidolkaaDoor
namespace V
section
variable {P : Program} {t t1 t2 e : TypeId} {fs : Array Field}
theorem form_cells (ht : P.underlying t = some (.struct fs)) (hfs : fs.toList.map (·.type) = [t1, t2]) (h1 : P.underlying t1 = some (.slice e)) (hc : P.cellsOf e = 1) (he : P.underlying e = some (.int .u8)) (h2 : P.underlying t2 = some (.int .u8))
    {us : List AV} (h : Shape P t us) : ∃ f : Form, us = f.c := by
  have hs := h.inv_struct ht
  rw [hfs] at hs
  obtain ⟨a1, r1, rfl, k1, hs⟩ := hs.inv_cons
  obtain ⟨a2, r2, rfl, k2, hs⟩ := hs.inv_cons
  have hs := hs.inv_nil
  subst hs
  obtain ⟨nl, xs, rfl, hx, _, _⟩ := k1.inv_sl h1
  obtain ⟨l, rfl⟩ := bytes_of xs he hx
  obtain ⟨n2, rfl, w2⟩ := k2.inv_int h2
  simp [Lit.wf, IntKind.min, IntKind.max, IntKind.signed, IntKind.bits] at w2
  refine ⟨⟨nl, l, UInt8.ofNat n2.toNat⟩, ?_⟩
  have e2 : ((UInt8.ofNat n2.toNat).toNat : Int) = n2 := by simp only [UInt8.toNat_ofNat']; omega
  rw [hc]
  simp only [Form.c, e2, List.cons_append, List.nil_append]

theorem forms_of (ht : P.underlying t = some (.struct fs)) (hfs : fs.toList.map (·.type) = [t1, t2]) (h1 : P.underlying t1 = some (.slice e)) (hc : P.cellsOf e = 1) (he : P.underlying e = some (.int .u8)) (h2 : P.underlying t2 = some (.int .u8)) :
    ∀ xs : List (List AV), (∀ x, x ∈ xs → Shape P t x) → ∃ l : List Form, xs = l.map Form.c
  | [], _ => ⟨[], rfl⟩
  | x :: xs, h => by
    obtain ⟨l, rfl⟩ := forms_of ht hfs h1 hc he h2 xs fun y hy => h y (by simp [hy])
    obtain ⟨f, rfl⟩ := form_cells ht hfs h1 hc he h2 (h x (by simp))
    exact ⟨f :: l, rfl⟩

theorem forms_inv {s : TypeId} (hsl : P.underlying s = some (.slice t)) (hc2 : P.cellsOf t = 2) (ht : P.underlying t = some (.struct fs)) (hfs : fs.toList.map (·.type) = [t1, t2]) (h1 : P.underlying t1 = some (.slice e)) (hc : P.cellsOf e = 1) (he : P.underlying e = some (.int .u8)) (h2 : P.underlying t2 = some (.int .u8))
    {a : AV} (h : Par P s a) : ∃ nl l, a = .sl 2 (some nl) false (List.map Form.c l) ∧ l.length ≤ maxLen := by
  obtain ⟨nl, xs, rfl, hx, hl, _⟩ := h.inv_sl hsl
  obtain ⟨l, rfl⟩ := forms_of ht hfs h1 hc he h2 xs hx
  rw [hc2]
  exact ⟨nl, l, rfl, by rw [List.length_map] at hl; exact hl⟩
end
end V
end Go.Proofs.YtmjdoonaidolkaaDoor

/- The law TableRight: whatever is another thing in the tables, the program's Right and the reference's say alike. -/
namespace Go.Proofs.YtmjdoonaidolkaaDoor.V
open Go.IntWalk Go.Lib

theorem np_right {ok : Nat → Prop} {nl : Option Bool} {own : Bool} (l : List Form) (a b c : Int) : ∀ y, y ∈ [AV.sl 2 nl own (l.map Form.c), .int .u8 a, .int .u8 b, .int .u8 c] → NP ok y :=
  np_cons (np_forms _) (np_cons (.int _ _) (np_cons (.int _ _) (np_cons (.int _ _) np_nil)))

theorem rem_u8 (a : UInt8) (n : Nat) : ((a.toNat : Int).tmod (n : Int)) = ((a.toNat % n : Nat) : Int) := by
  rw [Int.tmod_eq_emod_of_nonneg (by omega)]; omega

theorem rem_i64 (a : UInt8) (n : Nat) : ((IntKind.i64.wrap (a.toNat : Int)).tmod (n : Int)) = ((a.toNat % n : Nat) : Int) := by
  have := a.toNat_lt
  rw [i64_in _ (by omega), rem_u8]

theorem set_get {α : Type} {l : List α} {k : Nat} (h : k < l.length) (c : α) : (l.set k c)[k]? = some c := by simp [h]

theorem tab_lens (x : List Tab) : ∀ y, y ∈ x.map Tab.c → y.length = 3 := fun y hy => by
  obtain ⟨t, _, rfl⟩ := List.mem_map.1 hy
  rfl
theorem set_lens {l : List (List AV)} {k : Nat} {c : List AV} (h : ∀ y, y ∈ l → y.length = 3) (hc : c.length = 3) : ∀ y, y ∈ l.set k c → y.length = 3 := fun y hy => by
  rcases List.mem_or_eq_of_mem_set hy with hy | rfl
  · exact h y hy
  · exact hc
theorem off3 (k f : Nat) : (0 + ((k : Nat) : Int).toNat) * 3 + f = k * 3 + f := by simp

theorem WkFL.app {B : Nat → Option (Nat × List (List AV))} : ∀ {xs ys zs us : List AV}, WkFL B xs ys → WkFL B zs us → WkFL B (xs ++ zs) (ys ++ us)
  | _, _, _, _, .nil, h => h
  | _, _, _, _, .cons _ _ _ _ h1 h2, h => .cons _ _ _ _ h1 (WkFL.app h2 h)

theorem wk_tabs {B : Nat → Option (Nat × List (List AV))} : ∀ (x : List Tab) (k : Nat) (c : List AV) (t : Tab), WkFL B c t.c → WkFL B ((x.map Tab.c).set k c).flatten ((x.set k t).map Tab.c).flatten
  | [], _, _, _, _ => .nil
  | a :: x, 0, c, t, h => by
    show WkFL B (c ++ (x.map Tab.c).flatten) (t.c ++ (x.map Tab.c).flatten)
    exact h.app (WkFL.of _)
  | a :: x, k + 1, c, t, h => by
    show WkFL B (a.c ++ ((x.map Tab.c).set k c).flatten) (a.c ++ ((x.set k t).map Tab.c).flatten)
    exact (WkFL.of a.c).app (wk_tabs x k c t h)
theorem tabs_lens : ∀ (x : List Tab) (k : Nat) (c : List AV) (t : Tab), c.length = 3 → ((x.map Tab.c).set k c).map List.length = ((x.set k t).map Tab.c).map List.length
  | [], _, _, _, _ => rfl
  | a :: x, 0, c, t, h => by
    show c.length :: (x.map Tab.c).map List.length = t.c.length :: _
    rw [h]; rfl
  | a :: x, k + 1, c, t, h => by
    show a.c.length :: ((x.map Tab.c).set k c).map List.length = a.c.length :: _
    rw [tabs_lens x k c t h]

/-- A slice of a whole box, told as tables. -/
theorem wk_tb {B : Nat → Option (Nat × List (List AV))} {id n : Nat} {xs : List (List AV)} {X : List Tab} (hB : B id = some (3, xs)) (hn : n = xs.length) (h1 : xs.map List.length = (X.map Tab.c).map List.length) (h2 : WkFL B xs.flatten (X.map Tab.c).flatten) : WkF B (.bsl 3 id 0 n) (.sl 3 none false (X.map Tab.c)) := by
  subst hn
  have e : (xs.drop 0).take xs.length = xs := List.take_of_length_le (Nat.le_refl _)
  exact .bsl _ _ _ _ _ _ _ hB (by simp) (by simp) (by rw [e]; exact h1) (by rw [e]; exact h2)
theorem wk_cb {B : Nat → Option (Nat × List (List AV))} {id n : Nat} {xs : List (List AV)} {C : List Col} (hB : B id = some (3, xs)) (hn : n = xs.length) (hx : xs = C.map Col.c) : WkF B (.bsl 3 id 0 n) (.sl 3 none false (C.map Col.c)) := by
  subst hx
  subst hn
  have e : ((C.map Col.c).drop 0).take (C.map Col.c).length = C.map Col.c := List.take_of_length_le (Nat.le_refl _)
  exact .bsl _ _ _ _ _ _ _ hB (by simp) (by simp) (by rw [e]) (by rw [e]; exact WkFL.of _)
theorem wk_snocT {B : Nat → Option (Nat × List (List AV))} {xs : List (List AV)} {c : List AV} {X : List Tab} {t : Tab} (h : WkFL B xs.flatten (X.map Tab.c).flatten) (hc : WkFL B c t.c) : WkFL B (xs ++ [c]).flatten ((X ++ [t]).map Tab.c).flatten := by
  rw [List.flatten_append, List.map_append, List.flatten_append]
  exact WkFL.app h (WkFL.app hc .nil)
theorem lens_snocT {xs : List (List AV)} {c : List AV} {X : List Tab} {t : Tab} (h : xs.map List.length = (X.map Tab.c).map List.length) (hc : c.length = 3) : (xs ++ [c]).map List.length = ((X ++ [t]).map Tab.c).map List.length := by
  rw [List.map_append, List.map_append, List.map_append, h, List.map_cons, List.map_cons, hc]
  rfl
theorem rep_bs (q : Nat) : List.replicate q [AV.int .u8 0] = bs (List.replicate q 0) := by
  rw [bs, List.map_replicate]
  rfl
theorem name_q (n : UInt8) : IntKind.i64.wrap (15 + IntKind.i64.wrap ((n.toNat : Int).tmod 10)) = ((15 + n.toNat % 10 : Nat) : Int) := by
  have e : (n.toNat : Int).tmod 10 = ((n.toNat % 10 : Nat) : Int) := rem_u8 n 10
  rw [e, i64_in ((n.toNat % 10 : Nat) : Int) (by omega), i64_in _ (by omega)]
  omega
theorem name_q0 (n : UInt8) : 0 ≤ IntKind.i64.wrap (15 + IntKind.i64.wrap ((n.toNat : Int).tmod 10)) ∧ IntKind.i64.wrap (15 + IntKind.i64.wrap ((n.toNat : Int).tmod 10)) * 1 ≤ 140737488355328 ∧ IntKind.i64.wrap (15 + IntKind.i64.wrap ((n.toNat : Int).tmod 10)) ≤ 140737488355328 := by
  rw [name_q]
  omega
theorem name_q1 (n : UInt8) : toBytes (List.replicate (IntKind.i64.wrap (15 + IntKind.i64.wrap ((n.toNat : Int).tmod 10))).toNat [AV.int .u8 0]) = some (List.replicate (15 + n.toNat % 10) 0) := by
  rw [name_q, Int.toNat_natCast, rep_bs, toBytes_bs]
theorem col_lens (C : List Col) : ∀ y, y ∈ C.map Col.c → y.length = 3 := fun y hy => by
  obtain ⟨t, _, rfl⟩ := List.mem_map.1 hy
  rfl

theorem set_cs {x : List Tab} {k : Nat} {t : Tab} (hc : ∀ y, y ∈ x → y.cs.length ≤ 8) (ht : t.cs.length ≤ 1000000) : ∀ y, y ∈ x.set k t → y.cs.length ≤ 1000000 := fun y hy => by
  rcases List.mem_or_eq_of_mem_set hy with hy | rfl
  · have := hc y hy
    omega
  · exact ht

theorem tables_cs (l : List Form) : ∀ y, y ∈ tables l → y.cs.length ≤ 8 := fun y hy => by
  obtain ⟨i, _, rfl⟩ := List.mem_map.1 hy
  exact (tabAt_ok l i).choose_spec.2.2.2

theorem fzOf_two {xs ys : List (List AV)} {h : List HObj} (h0 : h[0]? = some (.arr 3 xs)) (h1 : h[1]? = some (.arr 3 ys)) : ∀ i sz zs, fzOf [(0, 3, xs), (1, 3, ys)] i = some (sz, zs) → h[i]? = some (.arr sz zs) := by
  intro i sz zs hi
  unfold fzOf at hi
  split at hi
  · rename_i e
    cases hi
    rw [e, h0]
  · obtain ⟨rfl, rfl, rfl⟩ := fzOf_one hi
    exact h1

theorem tr0 (nl : Option Bool) (own : Bool) (l : List Form) (hl : l.length ≤ 9223372036854775807) (hfw : fewD l = true) (what at_ n : UInt8) (em : (what.toNat : Int).tmod 12 = 0) : PCallN Tryd.prog 5 [.sl 2 nl own (l.map Form.c), .int .u8 what.toNat, .int .u8 at_.toNat, .int .u8 n.toNat] (.bool true) := by
  refine PCallN.of (tr [1000037, 2000037, 1000045, 2000045, 3000210]) f5 (Nat.le_of_ble_eq_true rfl) (np_right _ _ _ _) (.bool _) ?_
  refine call_p noughtsN ?_
  repeat (first | refine guard_t rfl ?_ | refine guard_f (by decide) ?_)
  refine call_p (fewN _ _ l hl) ?_
  rw [hfw]
  repeat (first | refine guard_t rfl ?_ | refine guard_f (by decide) ?_)
  refine cond_f rfl ?_
  refine call_p (tablesN _ _ l) ?_
  have hx := tables_len l
  have hx4 := tabN_le l
  have hcs := tables_cs l
  have q1 := rightTN none false (tables l) (by omega) (fun t ht => Nat.le_trans (hcs t ht) (by decide))
  have q2 := rRightTN none false (tables l) (by omega) (fun t ht => Nat.le_trans (hcs t ht) (by decide))
  rw [rf_rg, rg_tables] at q2
  rw [rg_tables] at q1
  refine call_p q1 ?_
  repeat (first | refine guard_t rfl ?_ | refine guard_f (by decide) ?_)
  refine call_p q2 ?_
  repeat (first | refine guard_t rfl ?_ | refine guard_f (by decide) ?_)
  refine cond_f rfl ?_
  clear q1 q2
  refine And.intro (by rw [List.length_map]; omega) ?_
  rw [List.length_map, rem_i64]
  have hlt : at_.toNat % (tables l).length < (tables l).length := Nat.mod_lt _ (by omega)
  obtain ⟨m0, hm1, hm2, hm3, hm4⟩ := tabAt_ok l (at_.toNat % (tables l).length)
  rw [← tables_get l _ hlt] at hm1 hm3 hm4
  have hx0 : 0 < (tables l).length ∧ (tables l).length ≤ 4 := by omega
  clear hx hx4
  generalize at_.toNat % (tables l).length = k at hlt hm1 hm3 hm4 ⊢
  generalize tables l = x at hlt hm1 hm3 hm4 hcs hx0 ⊢
  clear hm1 hfw hl
  have hkm : (k : Int) < (((x.map Tab.c).length : Nat) : Int) := by rw [List.length_map]; omega
  have hkl : k < (x.map Tab.c).length := by rw [List.length_map]; omega
  refine And.intro rfl (And.intro (.inl rfl) (And.intro (by rw [List.length_map]; omega) (And.intro ⟨by rw [List.length_map]; omega, by rw [List.length_map]; omega⟩ ?_)))
  refine And.intro rfl (And.intro ⟨Int.natCast_nonneg _, hkm⟩ ?_)
  refine Exists.intro k (Exists.intro 1 (Exists.intro x[k].c (And.intro ⟨off3 k 1, rfl, tab_lens x⟩ (And.intro (map_get hlt) ?_))))
  refine And.intro rfl (And.intro (.inl rfl) (And.intro (by rw [List.length_map]; omega) (And.intro ⟨by rw [List.length_map]; omega, by rw [List.length_map]; omega⟩ ?_)))
  refine And.intro rfl (And.intro ⟨Int.natCast_nonneg _, hkm⟩ ?_)
  refine Exists.intro k (Exists.intro 1 (Exists.intro x[k].c (And.intro ⟨off3 k 1, by decide, by decide⟩ (And.intro (map_get hlt) ?_))))
  refine And.intro rfl (And.intro ⟨Int.natCast_nonneg _, hkm⟩ ?_)
  refine Exists.intro k (Exists.intro 1 (Exists.intro [.str (st x[k].n), .bsl 3 1 0 (x[k].cs.map Col.c).length, .int .i64 x[k].ks] (And.intro ⟨off3 k 1, rfl, set_lens (tab_lens x) rfl⟩ (And.intro (set_get hkl _) ?_))))
  refine And.intro (by rw [List.length_map]; omega) ?_
  rw [List.length_map, rem_i64]
  have hcl : n.toNat % x[k].cs.length < x[k].cs.length := Nat.mod_lt _ (by omega)
  refine And.intro (by decide) ?_
  refine cond_t (by rw [em]; rfl) ?_
  have hX1 : ([] : List Tab).length ≤ 1000000 := by decide
  have hX2 : ∀ y, y ∈ ([] : List Tab) → y.cs.length ≤ 1000000 := fun y hy => by cases hy
  refine Exists.intro ⟨[], [(11, .sl 3 none false (([] : List Tab).map Tab.c))], _⟩ (And.intro (ShiftS.wk _ ⟨.wk _ _ (.nil _ _ _ _ _ (by simp)), trivial⟩) ?_)
  have q1 := rightTN none false [] hX1 hX2
  have q2 := rRightTN none false [] hX1 hX2
  rw [rf_rg] at q2
  refine call_p q1 ?_
  refine call_p q2 ?_
  exact bool_eq (beq_self_eq_true _)

theorem tr1 (nl : Option Bool) (own : Bool) (l : List Form) (hl : l.length ≤ 9223372036854775807) (hfw : fewD l = true) (what at_ n : UInt8) (em : (what.toNat : Int).tmod 12 = 1) : PCallN Tryd.prog 5 [.sl 2 nl own (l.map Form.c), .int .u8 what.toNat, .int .u8 at_.toNat, .int .u8 n.toNat] (.bool true) := by
  refine PCallN.of (tr [1000037, 2000037, 1000045, 2000045, 3000210, 11, 1000088]) f5 (Nat.le_of_ble_eq_true rfl) (np_right _ _ _ _) (.bool _) ?_
  refine call_p noughtsN ?_
  repeat (first | refine guard_t rfl ?_ | refine guard_f (by decide) ?_)
  refine call_p (fewN _ _ l hl) ?_
  rw [hfw]
  repeat (first | refine guard_t rfl ?_ | refine guard_f (by decide) ?_)
  refine cond_f rfl ?_
  refine call_p (tablesN _ _ l) ?_
  have hx := tables_len l
  have hx4 := tabN_le l
  have hcs := tables_cs l
  have q1 := rightTN none false (tables l) (by omega) (fun t ht => Nat.le_trans (hcs t ht) (by decide))
  have q2 := rRightTN none false (tables l) (by omega) (fun t ht => Nat.le_trans (hcs t ht) (by decide))
  rw [rf_rg, rg_tables] at q2
  rw [rg_tables] at q1
  refine call_p q1 ?_
  repeat (first | refine guard_t rfl ?_ | refine guard_f (by decide) ?_)
  refine call_p q2 ?_
  repeat (first | refine guard_t rfl ?_ | refine guard_f (by decide) ?_)
  refine cond_f rfl ?_
  clear q1 q2
  refine And.intro (by rw [List.length_map]; omega) ?_
  rw [List.length_map, rem_i64]
  have hlt : at_.toNat % (tables l).length < (tables l).length := Nat.mod_lt _ (by omega)
  obtain ⟨m0, hm1, hm2, hm3, hm4⟩ := tabAt_ok l (at_.toNat % (tables l).length)
  rw [← tables_get l _ hlt] at hm1 hm3 hm4
  have hx0 : 0 < (tables l).length ∧ (tables l).length ≤ 4 := by omega
  clear hx hx4
  generalize at_.toNat % (tables l).length = k at hlt hm1 hm3 hm4 ⊢
  generalize tables l = x at hlt hm1 hm3 hm4 hcs hx0 ⊢
  clear hm1 hfw hl
  have hkm : (k : Int) < (((x.map Tab.c).length : Nat) : Int) := by rw [List.length_map]; omega
  have hkl : k < (x.map Tab.c).length := by rw [List.length_map]; omega
  refine And.intro rfl (And.intro (.inl rfl) (And.intro (by rw [List.length_map]; omega) (And.intro ⟨by rw [List.length_map]; omega, by rw [List.length_map]; omega⟩ ?_)))
  refine And.intro rfl (And.intro ⟨Int.natCast_nonneg _, hkm⟩ ?_)
  refine Exists.intro k (Exists.intro 1 (Exists.intro x[k].c (And.intro ⟨off3 k 1, rfl, tab_lens x⟩ (And.intro (map_get hlt) ?_))))
  refine And.intro rfl (And.intro (.inl rfl) (And.intro (by rw [List.length_map]; omega) (And.intro ⟨by rw [List.length_map]; omega, by rw [List.length_map]; omega⟩ ?_)))
  refine And.intro rfl (And.intro ⟨Int.natCast_nonneg _, hkm⟩ ?_)
  refine Exists.intro k (Exists.intro 1 (Exists.intro x[k].c (And.intro ⟨off3 k 1, by decide, by decide⟩ (And.intro (map_get hlt) ?_))))
  refine And.intro rfl (And.intro ⟨Int.natCast_nonneg _, hkm⟩ ?_)
  refine Exists.intro k (Exists.intro 1 (Exists.intro [.str (st x[k].n), .bsl 3 1 0 (x[k].cs.map Col.c).length, .int .i64 x[k].ks] (And.intro ⟨off3 k 1, rfl, set_lens (tab_lens x) rfl⟩ (And.intro (set_get hkl _) ?_))))
  refine And.intro (by rw [List.length_map]; omega) ?_
  rw [List.length_map, rem_i64]
  have hcl : n.toNat % x[k].cs.length < x[k].cs.length := Nat.mod_lt _ (by omega)
  refine And.intro (by decide) ?_
  refine cond_f (by rw [em]; rfl) ?_
  refine cond_t (by rw [em]; rfl) ?_
  refine And.intro rfl (And.intro ⟨Int.natCast_nonneg _, hkm⟩ ?_)
  refine Exists.intro k (Exists.intro 0 (Exists.intro [.str (st x[k].n), .bsl 3 1 0 x[k].cs.length, .int .i64 x[k].ks] (And.intro ⟨off3 k 0, rfl, set_lens (tab_lens x) rfl⟩ (And.intro (set_get hkl _) ?_))))
  refine And.intro ⟨rfl, rfl, rfl, by rw [List.length_set], by rw [List.length_map]; omega⟩ (And.intro (.inl rfl) (And.intro ⟨by rw [List.length_set, List.length_map]; simp only [List.length_cons, List.length_nil]; omega, by rw [List.length_set, List.length_map]; simp only [List.length_cons, List.length_nil]; omega⟩ ?_))
  have hX1 : ((x.set k (⟨x[k].n, x[k].cs, x[k].ks⟩ : Tab) ++ [(⟨x[k].n, x[k].cs, x[k].ks⟩ : Tab)])).length ≤ 1000000 := by rw [List.length_append, List.length_set]; simp only [List.length_cons, List.length_nil]; omega
  have hX2 : ∀ y, y ∈ (x.set k (⟨x[k].n, x[k].cs, x[k].ks⟩ : Tab) ++ [(⟨x[k].n, x[k].cs, x[k].ks⟩ : Tab)]) → y.cs.length ≤ 1000000 := fun y hy => by
    have h8 := hcs _ (List.getElem_mem hlt)
    rcases List.mem_append.1 hy with hy | hy
    · exact set_cs hcs (by show x[k].cs.length ≤ 1000000; omega) y hy
    · rw [List.mem_singleton.1 hy]
      show x[k].cs.length ≤ 1000000
      omega
  refine Exists.intro ⟨[], [(11, .sl 3 none false (((x.set k (⟨x[k].n, x[k].cs, x[k].ks⟩ : Tab) ++ [(⟨x[k].n, x[k].cs, x[k].ks⟩ : Tab)])).map Tab.c))], [.ro [], .ro []]⟩ (And.intro (ShiftS.fz (fzOf [(1, 3, x[k].cs.map Col.c)]) ⟨.xsl _ _ _ _ (by simp) (lens_snocT (tabs_lens x k _ _ rfl) rfl) (wk_snocT (wk_tabs x k _ _ (.cons _ _ _ _ (.wk _ _ (.refl _)) (.cons _ _ _ _ (wk_cb (n := x[k].cs.length) (xs := x[k].cs.map Col.c) (C := x[k].cs) rfl (by simp) rfl) (.cons _ _ _ _ (.wk _ _ (.refl _)) .nil)))) (.cons _ _ _ _ (.wk _ _ (.refl _)) (.cons _ _ _ _ (wk_cb (n := x[k].cs.length) (xs := x[k].cs.map Col.c) (C := x[k].cs) rfl (by simp) rfl) (.cons _ _ _ _ (.wk _ _ (.refl _)) .nil)))), trivial⟩ (HFL.same 0 _ _ _ rfl (HFL.fz 1 3 _ _ _ rfl (.nil 2))) (fun i sz xs h => by obtain ⟨rfl, rfl, rfl⟩ := fzOf_one h; rfl)) ?_)
  have q1 := rightTN none false (x.set k (⟨x[k].n, x[k].cs, x[k].ks⟩ : Tab) ++ [(⟨x[k].n, x[k].cs, x[k].ks⟩ : Tab)]) hX1 hX2
  have q2 := rRightTN none false (x.set k (⟨x[k].n, x[k].cs, x[k].ks⟩ : Tab) ++ [(⟨x[k].n, x[k].cs, x[k].ks⟩ : Tab)]) hX1 hX2
  rw [rf_rg] at q2
  refine call_p q1 ?_
  refine call_p q2 ?_
  exact bool_eq (beq_self_eq_true _)

theorem tr2 (nl : Option Bool) (own : Bool) (l : List Form) (hl : l.length ≤ 9223372036854775807) (hfw : fewD l = true) (what at_ n : UInt8) (em : (what.toNat : Int).tmod 12 = 2) : PCallN Tryd.prog 5 [.sl 2 nl own (l.map Form.c), .int .u8 what.toNat, .int .u8 at_.toNat, .int .u8 n.toNat] (.bool true) := by
  refine PCallN.of (tr [1000037, 2000037, 1000045, 2000045, 3000210]) f5 (Nat.le_of_ble_eq_true rfl) (np_right _ _ _ _) (.bool _) ?_
  refine call_p noughtsN ?_
  repeat (first | refine guard_t rfl ?_ | refine guard_f (by decide) ?_)
  refine call_p (fewN _ _ l hl) ?_
  rw [hfw]
  repeat (first | refine guard_t rfl ?_ | refine guard_f (by decide) ?_)
  refine cond_f rfl ?_
  refine call_p (tablesN _ _ l) ?_
  have hx := tables_len l
  have hx4 := tabN_le l
  have hcs := tables_cs l
  have q1 := rightTN none false (tables l) (by omega) (fun t ht => Nat.le_trans (hcs t ht) (by decide))
  have q2 := rRightTN none false (tables l) (by omega) (fun t ht => Nat.le_trans (hcs t ht) (by decide))
  rw [rf_rg, rg_tables] at q2
  rw [rg_tables] at q1
  refine call_p q1 ?_
  repeat (first | refine guard_t rfl ?_ | refine guard_f (by decide) ?_)
  refine call_p q2 ?_
  repeat (first | refine guard_t rfl ?_ | refine guard_f (by decide) ?_)
  refine cond_f rfl ?_
  clear q1 q2
  refine And.intro (by rw [List.length_map]; omega) ?_
  rw [List.length_map, rem_i64]
  have hlt : at_.toNat % (tables l).length < (tables l).length := Nat.mod_lt _ (by omega)
  obtain ⟨m0, hm1, hm2, hm3, hm4⟩ := tabAt_ok l (at_.toNat % (tables l).length)
  rw [← tables_get l _ hlt] at hm1 hm3 hm4
  have hx0 : 0 < (tables l).length ∧ (tables l).length ≤ 4 := by omega
  clear hx hx4
  generalize at_.toNat % (tables l).length = k at hlt hm1 hm3 hm4 ⊢
  generalize tables l = x at hlt hm1 hm3 hm4 hcs hx0 ⊢
  clear hm1 hfw hl
  have hkm : (k : Int) < (((x.map Tab.c).length : Nat) : Int) := by rw [List.length_map]; omega
  have hkl : k < (x.map Tab.c).length := by rw [List.length_map]; omega
  refine And.intro rfl (And.intro (.inl rfl) (And.intro (by rw [List.length_map]; omega) (And.intro ⟨by rw [List.length_map]; omega, by rw [List.length_map]; omega⟩ ?_)))
  refine And.intro rfl (And.intro ⟨Int.natCast_nonneg _, hkm⟩ ?_)
  refine Exists.intro k (Exists.intro 1 (Exists.intro x[k].c (And.intro ⟨off3 k 1, rfl, tab_lens x⟩ (And.intro (map_get hlt) ?_))))
  refine And.intro rfl (And.intro (.inl rfl) (And.intro (by rw [List.length_map]; omega) (And.intro ⟨by rw [List.length_map]; omega, by rw [List.length_map]; omega⟩ ?_)))
  refine And.intro rfl (And.intro ⟨Int.natCast_nonneg _, hkm⟩ ?_)
  refine Exists.intro k (Exists.intro 1 (Exists.intro x[k].c (And.intro ⟨off3 k 1, by decide, by decide⟩ (And.intro (map_get hlt) ?_))))
  refine And.intro rfl (And.intro ⟨Int.natCast_nonneg _, hkm⟩ ?_)
  refine Exists.intro k (Exists.intro 1 (Exists.intro [.str (st x[k].n), .bsl 3 1 0 (x[k].cs.map Col.c).length, .int .i64 x[k].ks] (And.intro ⟨off3 k 1, rfl, set_lens (tab_lens x) rfl⟩ (And.intro (set_get hkl _) ?_))))
  refine And.intro (by rw [List.length_map]; omega) ?_
  rw [List.length_map, rem_i64]
  have hcl : n.toNat % x[k].cs.length < x[k].cs.length := Nat.mod_lt _ (by omega)
  refine And.intro (by decide) ?_
  refine cond_f (by rw [em]; rfl) ?_
  refine cond_f (by rw [em]; rfl) ?_
  refine cond_t (by rw [em]; rfl) ?_
  refine And.intro rfl (And.intro ⟨Int.natCast_nonneg _, hkm⟩ ?_)
  refine Exists.intro k (Exists.intro 0 (Exists.intro [.str (st x[k].n), .bsl 3 1 0 x[k].cs.length, .int .i64 x[k].ks] (And.intro ⟨off3 k 0, by decide, by decide⟩ (And.intro (set_get hkl _) ?_))))
  have hX1 : ((x.set k ⟨[], x[k].cs, x[k].ks⟩)).length ≤ 1000000 := by rw [List.length_set]; omega
  have hX2 : ∀ y, y ∈ (x.set k ⟨[], x[k].cs, x[k].ks⟩) → y.cs.length ≤ 1000000 := set_cs hcs (by have := hcs _ (List.getElem_mem hlt); show x[k].cs.length ≤ 1000000; omega)
  refine Exists.intro ⟨[], [(11, .sl 3 none false (((x.set k ⟨[], x[k].cs, x[k].ks⟩)).map Tab.c))], [.ro [], .ro []]⟩ (And.intro (ShiftS.fz (fzOf [(0, 3, ((x.map Tab.c).set k [.str (st x[k].n), .bsl 3 1 0 x[k].cs.length, .int .i64 x[k].ks]).set k [.str ⟨#[]⟩, .bsl 3 1 0 x[k].cs.length, .int .i64 x[k].ks]), (1, 3, x[k].cs.map Col.c)]) ⟨wk_tb rfl (by simp) (by rw [List.set_set]; exact tabs_lens x k _ _ rfl) (by rw [List.set_set]; exact wk_tabs x k _ _ (.cons _ _ _ _ (.wk _ _ (.refl _)) (.cons _ _ _ _ (wk_cb rfl (by simp) (rfl)) (.cons _ _ _ _ (.wk _ _ (.refl _)) .nil)))), trivial⟩ (HFL.fz 0 3 _ _ _ rfl (HFL.fz 1 3 _ _ _ rfl (.nil 2))) (fzOf_two rfl rfl)) ?_)
  have q1 := rightTN none false (x.set k ⟨[], x[k].cs, x[k].ks⟩) hX1 hX2
  have q2 := rRightTN none false (x.set k ⟨[], x[k].cs, x[k].ks⟩) hX1 hX2
  rw [rf_rg] at q2
  refine call_p q1 ?_
  refine call_p q2 ?_
  exact bool_eq (beq_self_eq_true _)

theorem tr3 (nl : Option Bool) (own : Bool) (l : List Form) (hl : l.length ≤ 9223372036854775807) (hfw : fewD l = true) (what at_ n : UInt8) (em : (what.toNat : Int).tmod 12 = 3) : PCallN Tryd.prog 5 [.sl 2 nl own (l.map Form.c), .int .u8 what.toNat, .int .u8 at_.toNat, .int .u8 n.toNat] (.bool true) := by
  refine PCallN.of (tr [1000037, 2000037, 1000045, 2000045, 3000210]) f5 (Nat.le_of_ble_eq_true rfl) (np_right _ _ _ _) (.bool _) ?_
  refine call_p noughtsN ?_
  repeat (first | refine guard_t rfl ?_ | refine guard_f (by decide) ?_)
  refine call_p (fewN _ _ l hl) ?_
  rw [hfw]
  repeat (first | refine guard_t rfl ?_ | refine guard_f (by decide) ?_)
  refine cond_f rfl ?_
  refine call_p (tablesN _ _ l) ?_
  have hx := tables_len l
  have hx4 := tabN_le l
  have hcs := tables_cs l
  have q1 := rightTN none false (tables l) (by omega) (fun t ht => Nat.le_trans (hcs t ht) (by decide))
  have q2 := rRightTN none false (tables l) (by omega) (fun t ht => Nat.le_trans (hcs t ht) (by decide))
  rw [rf_rg, rg_tables] at q2
  rw [rg_tables] at q1
  refine call_p q1 ?_
  repeat (first | refine guard_t rfl ?_ | refine guard_f (by decide) ?_)
  refine call_p q2 ?_
  repeat (first | refine guard_t rfl ?_ | refine guard_f (by decide) ?_)
  refine cond_f rfl ?_
  clear q1 q2
  refine And.intro (by rw [List.length_map]; omega) ?_
  rw [List.length_map, rem_i64]
  have hlt : at_.toNat % (tables l).length < (tables l).length := Nat.mod_lt _ (by omega)
  obtain ⟨m0, hm1, hm2, hm3, hm4⟩ := tabAt_ok l (at_.toNat % (tables l).length)
  rw [← tables_get l _ hlt] at hm1 hm3 hm4
  have hx0 : 0 < (tables l).length ∧ (tables l).length ≤ 4 := by omega
  clear hx hx4
  generalize at_.toNat % (tables l).length = k at hlt hm1 hm3 hm4 ⊢
  generalize tables l = x at hlt hm1 hm3 hm4 hcs hx0 ⊢
  clear hm1 hfw hl
  have hkm : (k : Int) < (((x.map Tab.c).length : Nat) : Int) := by rw [List.length_map]; omega
  have hkl : k < (x.map Tab.c).length := by rw [List.length_map]; omega
  refine And.intro rfl (And.intro (.inl rfl) (And.intro (by rw [List.length_map]; omega) (And.intro ⟨by rw [List.length_map]; omega, by rw [List.length_map]; omega⟩ ?_)))
  refine And.intro rfl (And.intro ⟨Int.natCast_nonneg _, hkm⟩ ?_)
  refine Exists.intro k (Exists.intro 1 (Exists.intro x[k].c (And.intro ⟨off3 k 1, rfl, tab_lens x⟩ (And.intro (map_get hlt) ?_))))
  refine And.intro rfl (And.intro (.inl rfl) (And.intro (by rw [List.length_map]; omega) (And.intro ⟨by rw [List.length_map]; omega, by rw [List.length_map]; omega⟩ ?_)))
  refine And.intro rfl (And.intro ⟨Int.natCast_nonneg _, hkm⟩ ?_)
  refine Exists.intro k (Exists.intro 1 (Exists.intro x[k].c (And.intro ⟨off3 k 1, by decide, by decide⟩ (And.intro (map_get hlt) ?_))))
  refine And.intro rfl (And.intro ⟨Int.natCast_nonneg _, hkm⟩ ?_)
  refine Exists.intro k (Exists.intro 1 (Exists.intro [.str (st x[k].n), .bsl 3 1 0 (x[k].cs.map Col.c).length, .int .i64 x[k].ks] (And.intro ⟨off3 k 1, rfl, set_lens (tab_lens x) rfl⟩ (And.intro (set_get hkl _) ?_))))
  refine And.intro (by rw [List.length_map]; omega) ?_
  rw [List.length_map, rem_i64]
  have hcl : n.toNat % x[k].cs.length < x[k].cs.length := Nat.mod_lt _ (by omega)
  refine And.intro (by decide) ?_
  refine cond_f (by rw [em]; rfl) ?_
  refine cond_f (by rw [em]; rfl) ?_
  refine cond_f (by rw [em]; rfl) ?_
  refine cond_t (by rw [em]; rfl) ?_
  refine And.intro (by decide) ?_
  refine And.intro (name_q0 n) ?_
  refine Exists.intro (List.replicate (15 + n.toNat % 10) 0) (And.intro (name_q1 n) ?_)
  refine And.intro rfl (And.intro ⟨Int.natCast_nonneg _, hkm⟩ ?_)
  refine Exists.intro k (Exists.intro 0 (Exists.intro [.str (st x[k].n), .bsl 3 1 0 x[k].cs.length, .int .i64 x[k].ks] (And.intro ⟨off3 k 0, by decide, by decide⟩ (And.intro (set_get hkl _) ?_))))
  have hX1 : ((x.set k ⟨(List.replicate (15 + n.toNat % 10) 0), x[k].cs, x[k].ks⟩)).length ≤ 1000000 := by rw [List.length_set]; omega
  have hX2 : ∀ y, y ∈ (x.set k ⟨(List.replicate (15 + n.toNat % 10) 0), x[k].cs, x[k].ks⟩) → y.cs.length ≤ 1000000 := set_cs hcs (by have := hcs _ (List.getElem_mem hlt); show x[k].cs.length ≤ 1000000; omega)
  refine Exists.intro ⟨[], [(11, .sl 3 none false (((x.set k ⟨(List.replicate (15 + n.toNat % 10) 0), x[k].cs, x[k].ks⟩)).map Tab.c))], [.ro [], .ro []]⟩ (And.intro (ShiftS.fz (fzOf [(0, 3, ((x.map Tab.c).set k [.str (st x[k].n), .bsl 3 1 0 x[k].cs.length, .int .i64 x[k].ks]).set k [.str (st (List.replicate (15 + n.toNat % 10) 0)), .bsl 3 1 0 x[k].cs.length, .int .i64 x[k].ks]), (1, 3, x[k].cs.map Col.c)]) ⟨wk_tb rfl (by simp) (by rw [List.set_set]; exact tabs_lens x k _ _ rfl) (by rw [List.set_set]; exact wk_tabs x k _ _ (.cons _ _ _ _ (.wk _ _ (.refl _)) (.cons _ _ _ _ (wk_cb rfl (by simp) (rfl)) (.cons _ _ _ _ (.wk _ _ (.refl _)) .nil)))), trivial⟩ (HFL.fz 0 3 _ _ _ rfl (HFL.fz 1 3 _ _ _ rfl (.nil 2))) (fzOf_two rfl rfl)) ?_)
  have q1 := rightTN none false (x.set k ⟨(List.replicate (15 + n.toNat % 10) 0), x[k].cs, x[k].ks⟩) hX1 hX2
  have q2 := rRightTN none false (x.set k ⟨(List.replicate (15 + n.toNat % 10) 0), x[k].cs, x[k].ks⟩) hX1 hX2
  rw [rf_rg] at q2
  refine call_p q1 ?_
  refine call_p q2 ?_
  exact bool_eq (beq_self_eq_true _)

theorem tr4 (nl : Option Bool) (own : Bool) (l : List Form) (hl : l.length ≤ 9223372036854775807) (hfw : fewD l = true) (what at_ n : UInt8) (em : (what.toNat : Int).tmod 12 = 4) : PCallN Tryd.prog 5 [.sl 2 nl own (l.map Form.c), .int .u8 what.toNat, .int .u8 at_.toNat, .int .u8 n.toNat] (.bool true) := by
  refine PCallN.of (tr [1000037, 2000037, 1000045, 2000045, 3000210]) f5 (Nat.le_of_ble_eq_true rfl) (np_right _ _ _ _) (.bool _) ?_
  refine call_p noughtsN ?_
  repeat (first | refine guard_t rfl ?_ | refine guard_f (by decide) ?_)
  refine call_p (fewN _ _ l hl) ?_
  rw [hfw]
  repeat (first | refine guard_t rfl ?_ | refine guard_f (by decide) ?_)
  refine cond_f rfl ?_
  refine call_p (tablesN _ _ l) ?_
  have hx := tables_len l
  have hx4 := tabN_le l
  have hcs := tables_cs l
  have q1 := rightTN none false (tables l) (by omega) (fun t ht => Nat.le_trans (hcs t ht) (by decide))
  have q2 := rRightTN none false (tables l) (by omega) (fun t ht => Nat.le_trans (hcs t ht) (by decide))
  rw [rf_rg, rg_tables] at q2
  rw [rg_tables] at q1
  refine call_p q1 ?_
  repeat (first | refine guard_t rfl ?_ | refine guard_f (by decide) ?_)
  refine call_p q2 ?_
  repeat (first | refine guard_t rfl ?_ | refine guard_f (by decide) ?_)
  refine cond_f rfl ?_
  clear q1 q2
  refine And.intro (by rw [List.length_map]; omega) ?_
  rw [List.length_map, rem_i64]
  have hlt : at_.toNat % (tables l).length < (tables l).length := Nat.mod_lt _ (by omega)
  obtain ⟨m0, hm1, hm2, hm3, hm4⟩ := tabAt_ok l (at_.toNat % (tables l).length)
  rw [← tables_get l _ hlt] at hm1 hm3 hm4
  have hx0 : 0 < (tables l).length ∧ (tables l).length ≤ 4 := by omega
  clear hx hx4
  generalize at_.toNat % (tables l).length = k at hlt hm1 hm3 hm4 ⊢
  generalize tables l = x at hlt hm1 hm3 hm4 hcs hx0 ⊢
  clear hm1 hfw hl
  have hkm : (k : Int) < (((x.map Tab.c).length : Nat) : Int) := by rw [List.length_map]; omega
  have hkl : k < (x.map Tab.c).length := by rw [List.length_map]; omega
  refine And.intro rfl (And.intro (.inl rfl) (And.intro (by rw [List.length_map]; omega) (And.intro ⟨by rw [List.length_map]; omega, by rw [List.length_map]; omega⟩ ?_)))
  refine And.intro rfl (And.intro ⟨Int.natCast_nonneg _, hkm⟩ ?_)
  refine Exists.intro k (Exists.intro 1 (Exists.intro x[k].c (And.intro ⟨off3 k 1, rfl, tab_lens x⟩ (And.intro (map_get hlt) ?_))))
  refine And.intro rfl (And.intro (.inl rfl) (And.intro (by rw [List.length_map]; omega) (And.intro ⟨by rw [List.length_map]; omega, by rw [List.length_map]; omega⟩ ?_)))
  refine And.intro rfl (And.intro ⟨Int.natCast_nonneg _, hkm⟩ ?_)
  refine Exists.intro k (Exists.intro 1 (Exists.intro x[k].c (And.intro ⟨off3 k 1, by decide, by decide⟩ (And.intro (map_get hlt) ?_))))
  refine And.intro rfl (And.intro ⟨Int.natCast_nonneg _, hkm⟩ ?_)
  refine Exists.intro k (Exists.intro 1 (Exists.intro [.str (st x[k].n), .bsl 3 1 0 (x[k].cs.map Col.c).length, .int .i64 x[k].ks] (And.intro ⟨off3 k 1, rfl, set_lens (tab_lens x) rfl⟩ (And.intro (set_get hkl _) ?_))))
  refine And.intro (by rw [List.length_map]; omega) ?_
  rw [List.length_map, rem_i64]
  have hcl : n.toNat % x[k].cs.length < x[k].cs.length := Nat.mod_lt _ (by omega)
  refine And.intro (by decide) ?_
  refine cond_f (by rw [em]; rfl) ?_
  refine cond_f (by rw [em]; rfl) ?_
  refine cond_f (by rw [em]; rfl) ?_
  refine cond_f (by rw [em]; rfl) ?_
  refine cond_t (by rw [em]; rfl) ?_
  refine And.intro rfl (And.intro ⟨Int.natCast_nonneg _, hkm⟩ ?_)
  refine Exists.intro k (Exists.intro 1 (Exists.intro [.str (st x[k].n), .bsl 3 1 0 x[k].cs.length, .int .i64 x[k].ks] (And.intro ⟨off3 k 1, by decide, by decide⟩ (And.intro (set_get hkl _) ?_))))
  have hX1 : ((x.set k ⟨x[k].n, [], x[k].ks⟩)).length ≤ 1000000 := by rw [List.length_set]; omega
  have hX2 : ∀ y, y ∈ (x.set k ⟨x[k].n, [], x[k].ks⟩) → y.cs.length ≤ 1000000 := set_cs hcs (Nat.zero_le 1000000)
  refine Exists.intro ⟨[], [(11, .sl 3 none false (((x.set k ⟨x[k].n, [], x[k].ks⟩)).map Tab.c))], [.ro [], .ro []]⟩ (And.intro (ShiftS.fz (fzOf [(0, 3, ((x.map Tab.c).set k [.str (st x[k].n), .bsl 3 1 0 x[k].cs.length, .int .i64 x[k].ks]).set k [.str (st x[k].n), .sl 0 (some true) false [], .int .i64 x[k].ks]), (1, 3, x[k].cs.map Col.c)]) ⟨wk_tb rfl (by simp) (by rw [List.set_set]; exact tabs_lens x k _ _ rfl) (by rw [List.set_set]; exact wk_tabs x k _ _ (.cons _ _ _ _ (.wk _ _ (.refl _)) (.cons _ _ _ _ (.wk _ _ (.nil _ _ _ _ _ (by simp))) (.cons _ _ _ _ (.wk _ _ (.refl _)) .nil)))), trivial⟩ (HFL.fz 0 3 _ _ _ rfl (HFL.fz 1 3 _ _ _ rfl (.nil 2))) (fzOf_two rfl rfl)) ?_)
  have q1 := rightTN none false (x.set k ⟨x[k].n, [], x[k].ks⟩) hX1 hX2
  have q2 := rRightTN none false (x.set k ⟨x[k].n, [], x[k].ks⟩) hX1 hX2
  rw [rf_rg] at q2
  refine call_p q1 ?_
  refine call_p q2 ?_
  exact bool_eq (beq_self_eq_true _)

theorem tr5 (nl : Option Bool) (own : Bool) (l : List Form) (hl : l.length ≤ 9223372036854775807) (hfw : fewD l = true) (what at_ n : UInt8) (em : (what.toNat : Int).tmod 12 = 5) : PCallN Tryd.prog 5 [.sl 2 nl own (l.map Form.c), .int .u8 what.toNat, .int .u8 at_.toNat, .int .u8 n.toNat] (.bool true) := by
  refine PCallN.of (tr [1000037, 2000037, 1000045, 2000045, 3000210]) f5 (Nat.le_of_ble_eq_true rfl) (np_right _ _ _ _) (.bool _) ?_
  refine call_p noughtsN ?_
  repeat (first | refine guard_t rfl ?_ | refine guard_f (by decide) ?_)
  refine call_p (fewN _ _ l hl) ?_
  rw [hfw]
  repeat (first | refine guard_t rfl ?_ | refine guard_f (by decide) ?_)
  refine cond_f rfl ?_
  refine call_p (tablesN _ _ l) ?_
  have hx := tables_len l
  have hx4 := tabN_le l
  have hcs := tables_cs l
  have q1 := rightTN none false (tables l) (by omega) (fun t ht => Nat.le_trans (hcs t ht) (by decide))
  have q2 := rRightTN none false (tables l) (by omega) (fun t ht => Nat.le_trans (hcs t ht) (by decide))
  rw [rf_rg, rg_tables] at q2
  rw [rg_tables] at q1
  refine call_p q1 ?_
  repeat (first | refine guard_t rfl ?_ | refine guard_f (by decide) ?_)
  refine call_p q2 ?_
  repeat (first | refine guard_t rfl ?_ | refine guard_f (by decide) ?_)
  refine cond_f rfl ?_
  clear q1 q2
  refine And.intro (by rw [List.length_map]; omega) ?_
  rw [List.length_map, rem_i64]
  have hlt : at_.toNat % (tables l).length < (tables l).length := Nat.mod_lt _ (by omega)
  obtain ⟨m0, hm1, hm2, hm3, hm4⟩ := tabAt_ok l (at_.toNat % (tables l).length)
  rw [← tables_get l _ hlt] at hm1 hm3 hm4
  have hx0 : 0 < (tables l).length ∧ (tables l).length ≤ 4 := by omega
  clear hx hx4
  generalize at_.toNat % (tables l).length = k at hlt hm1 hm3 hm4 ⊢
  generalize tables l = x at hlt hm1 hm3 hm4 hcs hx0 ⊢
  clear hm1 hfw hl
  have hkm : (k : Int) < (((x.map Tab.c).length : Nat) : Int) := by rw [List.length_map]; omega
  have hkl : k < (x.map Tab.c).length := by rw [List.length_map]; omega
  refine And.intro rfl (And.intro (.inl rfl) (And.intro (by rw [List.length_map]; omega) (And.intro ⟨by rw [List.length_map]; omega, by rw [List.length_map]; omega⟩ ?_)))
  refine And.intro rfl (And.intro ⟨Int.natCast_nonneg _, hkm⟩ ?_)
  refine Exists.intro k (Exists.intro 1 (Exists.intro x[k].c (And.intro ⟨off3 k 1, rfl, tab_lens x⟩ (And.intro (map_get hlt) ?_))))
  refine And.intro rfl (And.intro (.inl rfl) (And.intro (by rw [List.length_map]; omega) (And.intro ⟨by rw [List.length_map]; omega, by rw [List.length_map]; omega⟩ ?_)))
  refine And.intro rfl (And.intro ⟨Int.natCast_nonneg _, hkm⟩ ?_)
  refine Exists.intro k (Exists.intro 1 (Exists.intro x[k].c (And.intro ⟨off3 k 1, by decide, by decide⟩ (And.intro (map_get hlt) ?_))))
  refine And.intro rfl (And.intro ⟨Int.natCast_nonneg _, hkm⟩ ?_)
  refine Exists.intro k (Exists.intro 1 (Exists.intro [.str (st x[k].n), .bsl 3 1 0 (x[k].cs.map Col.c).length, .int .i64 x[k].ks] (And.intro ⟨off3 k 1, rfl, set_lens (tab_lens x) rfl⟩ (And.intro (set_get hkl _) ?_))))
  refine And.intro (by rw [List.length_map]; omega) ?_
  rw [List.length_map, rem_i64]
  have hcl : n.toNat % x[k].cs.length < x[k].cs.length := Nat.mod_lt _ (by omega)
  refine And.intro (by decide) ?_
  refine cond_f (by rw [em]; rfl) ?_
  refine cond_f (by rw [em]; rfl) ?_
  refine cond_f (by rw [em]; rfl) ?_
  refine cond_f (by rw [em]; rfl) ?_
  refine cond_f (by rw [em]; rfl) ?_
  refine cond_t (by rw [em]; rfl) ?_
  refine And.intro rfl (And.intro ⟨Int.natCast_nonneg _, hkm⟩ ?_)
  refine Exists.intro k (Exists.intro 2 (Exists.intro [.str (st x[k].n), .bsl 3 1 0 x[k].cs.length, .int .i64 x[k].ks] (And.intro ⟨off3 k 2, by decide, by decide⟩ (And.intro (set_get hkl _) ?_))))
  have hX1 : ((x.set k ⟨x[k].n, x[k].cs, (IntKind.i64.wrap (IntKind.i64.wrap (n.toNat : Int) - 3))⟩)).length ≤ 1000000 := by rw [List.length_set]; omega
  have hX2 : ∀ y, y ∈ (x.set k ⟨x[k].n, x[k].cs, (IntKind.i64.wrap (IntKind.i64.wrap (n.toNat : Int) - 3))⟩) → y.cs.length ≤ 1000000 := set_cs hcs (by have := hcs _ (List.getElem_mem hlt); show x[k].cs.length ≤ 1000000; omega)
  refine Exists.intro ⟨[], [(11, .sl 3 none false (((x.set k ⟨x[k].n, x[k].cs, (IntKind.i64.wrap (IntKind.i64.wrap (n.toNat : Int) - 3))⟩)).map Tab.c))], [.ro [], .ro []]⟩ (And.intro (ShiftS.fz (fzOf [(0, 3, ((x.map Tab.c).set k [.str (st x[k].n), .bsl 3 1 0 x[k].cs.length, .int .i64 x[k].ks]).set k [.str (st x[k].n), .bsl 3 1 0 x[k].cs.length, .int .i64 (IntKind.i64.wrap (IntKind.i64.wrap (n.toNat : Int) - 3))]), (1, 3, x[k].cs.map Col.c)]) ⟨wk_tb rfl (by simp) (by rw [List.set_set]; exact tabs_lens x k _ _ rfl) (by rw [List.set_set]; exact wk_tabs x k _ _ (.cons _ _ _ _ (.wk _ _ (.refl _)) (.cons _ _ _ _ (wk_cb rfl (by simp) (rfl)) (.cons _ _ _ _ (.wk _ _ (.refl _)) .nil)))), trivial⟩ (HFL.fz 0 3 _ _ _ rfl (HFL.fz 1 3 _ _ _ rfl (.nil 2))) (fzOf_two rfl rfl)) ?_)
  have q1 := rightTN none false (x.set k ⟨x[k].n, x[k].cs, (IntKind.i64.wrap (IntKind.i64.wrap (n.toNat : Int) - 3))⟩) hX1 hX2
  have q2 := rRightTN none false (x.set k ⟨x[k].n, x[k].cs, (IntKind.i64.wrap (IntKind.i64.wrap (n.toNat : Int) - 3))⟩) hX1 hX2
  rw [rf_rg] at q2
  refine call_p q1 ?_
  refine call_p q2 ?_
  exact bool_eq (beq_self_eq_true _)

theorem tr6 (nl : Option Bool) (own : Bool) (l : List Form) (hl : l.length ≤ 9223372036854775807) (hfw : fewD l = true) (what at_ n : UInt8) (em : (what.toNat : Int).tmod 12 = 6) : PCallN Tryd.prog 5 [.sl 2 nl own (l.map Form.c), .int .u8 what.toNat, .int .u8 at_.toNat, .int .u8 n.toNat] (.bool true) := by
  refine PCallN.of (tr [1000037, 2000037, 1000045, 2000045, 3000210]) f5 (Nat.le_of_ble_eq_true rfl) (np_right _ _ _ _) (.bool _) ?_
  refine call_p noughtsN ?_
  repeat (first | refine guard_t rfl ?_ | refine guard_f (by decide) ?_)
  refine call_p (fewN _ _ l hl) ?_
  rw [hfw]
  repeat (first | refine guard_t rfl ?_ | refine guard_f (by decide) ?_)
  refine cond_f rfl ?_
  refine call_p (tablesN _ _ l) ?_
  have hx := tables_len l
  have hx4 := tabN_le l
  have hcs := tables_cs l
  have q1 := rightTN none false (tables l) (by omega) (fun t ht => Nat.le_trans (hcs t ht) (by decide))
  have q2 := rRightTN none false (tables l) (by omega) (fun t ht => Nat.le_trans (hcs t ht) (by decide))
  rw [rf_rg, rg_tables] at q2
  rw [rg_tables] at q1
  refine call_p q1 ?_
  repeat (first | refine guard_t rfl ?_ | refine guard_f (by decide) ?_)
  refine call_p q2 ?_
  repeat (first | refine guard_t rfl ?_ | refine guard_f (by decide) ?_)
  refine cond_f rfl ?_
  clear q1 q2
  refine And.intro (by rw [List.length_map]; omega) ?_
  rw [List.length_map, rem_i64]
  have hlt : at_.toNat % (tables l).length < (tables l).length := Nat.mod_lt _ (by omega)
  obtain ⟨m0, hm1, hm2, hm3, hm4⟩ := tabAt_ok l (at_.toNat % (tables l).length)
  rw [← tables_get l _ hlt] at hm1 hm3 hm4
  have hx0 : 0 < (tables l).length ∧ (tables l).length ≤ 4 := by omega
  clear hx hx4
  generalize at_.toNat % (tables l).length = k at hlt hm1 hm3 hm4 ⊢
  generalize tables l = x at hlt hm1 hm3 hm4 hcs hx0 ⊢
  clear hm1 hfw hl
  have hkm : (k : Int) < (((x.map Tab.c).length : Nat) : Int) := by rw [List.length_map]; omega
  have hkl : k < (x.map Tab.c).length := by rw [List.length_map]; omega
  refine And.intro rfl (And.intro (.inl rfl) (And.intro (by rw [List.length_map]; omega) (And.intro ⟨by rw [List.length_map]; omega, by rw [List.length_map]; omega⟩ ?_)))
  refine And.intro rfl (And.intro ⟨Int.natCast_nonneg _, hkm⟩ ?_)
  refine Exists.intro k (Exists.intro 1 (Exists.intro x[k].c (And.intro ⟨off3 k 1, rfl, tab_lens x⟩ (And.intro (map_get hlt) ?_))))
  refine And.intro rfl (And.intro (.inl rfl) (And.intro (by rw [List.length_map]; omega) (And.intro ⟨by rw [List.length_map]; omega, by rw [List.length_map]; omega⟩ ?_)))
  refine And.intro rfl (And.intro ⟨Int.natCast_nonneg _, hkm⟩ ?_)
  refine Exists.intro k (Exists.intro 1 (Exists.intro x[k].c (And.intro ⟨off3 k 1, by decide, by decide⟩ (And.intro (map_get hlt) ?_))))
  refine And.intro rfl (And.intro ⟨Int.natCast_nonneg _, hkm⟩ ?_)
  refine Exists.intro k (Exists.intro 1 (Exists.intro [.str (st x[k].n), .bsl 3 1 0 (x[k].cs.map Col.c).length, .int .i64 x[k].ks] (And.intro ⟨off3 k 1, rfl, set_lens (tab_lens x) rfl⟩ (And.intro (set_get hkl _) ?_))))
  refine And.intro (by rw [List.length_map]; omega) ?_
  rw [List.length_map, rem_i64]
  have hcl : n.toNat % x[k].cs.length < x[k].cs.length := Nat.mod_lt _ (by omega)
  refine And.intro (by decide) ?_
  refine cond_f (by rw [em]; rfl) ?_
  refine cond_f (by rw [em]; rfl) ?_
  refine cond_f (by rw [em]; rfl) ?_
  refine cond_f (by rw [em]; rfl) ?_
  refine cond_f (by rw [em]; rfl) ?_
  refine cond_f (by rw [em]; rfl) ?_
  refine cond_t (by rw [em]; rfl) ?_
  have hcm : ((n.toNat % x[k].cs.length : Nat) : Int) < ((x[k].cs.length : Nat) : Int) := by omega
  refine And.intro rfl (And.intro ⟨Int.natCast_nonneg _, hkm⟩ ?_)
  refine Exists.intro k (Exists.intro 1 (Exists.intro [.str (st x[k].n), .bsl 3 1 0 x[k].cs.length, .int .i64 x[k].ks] (And.intro ⟨off3 k 1, rfl, set_lens (tab_lens x) rfl⟩ (And.intro (set_get hkl _) ?_))))
  refine And.intro rfl (And.intro ⟨Int.natCast_nonneg _, hcm⟩ ?_)
  refine Exists.intro (n.toNat % x[k].cs.length) (Exists.intro 1 (Exists.intro (x[k].cs[n.toNat % x[k].cs.length]).c (And.intro ⟨off3 _ 1, by decide, by decide⟩ (And.intro (map_get hcl) ?_))))
  have hX1 : ((x.set k ⟨x[k].n, (x[k].cs.set (n.toNat % x[k].cs.length) ⟨x[k].cs[n.toNat % x[k].cs.length].n, n, x[k].cs[n.toNat % x[k].cs.length].b⟩), x[k].ks⟩)).length ≤ 1000000 := by rw [List.length_set]; omega
  have hX2 : ∀ y, y ∈ (x.set k ⟨x[k].n, (x[k].cs.set (n.toNat % x[k].cs.length) ⟨x[k].cs[n.toNat % x[k].cs.length].n, n, x[k].cs[n.toNat % x[k].cs.length].b⟩), x[k].ks⟩) → y.cs.length ≤ 1000000 := set_cs hcs (by have := hcs _ (List.getElem_mem hlt); simp only [List.length_set]; omega)
  refine Exists.intro ⟨[], [(11, .sl 3 none false (((x.set k ⟨x[k].n, (x[k].cs.set (n.toNat % x[k].cs.length) ⟨x[k].cs[n.toNat % x[k].cs.length].n, n, x[k].cs[n.toNat % x[k].cs.length].b⟩), x[k].ks⟩)).map Tab.c))], [.ro [], .ro []]⟩ (And.intro (ShiftS.fz (fzOf [(0, 3, (x.map Tab.c).set k [.str (st x[k].n), .bsl 3 1 0 x[k].cs.length, .int .i64 x[k].ks]), (1, 3, (x[k].cs.map Col.c).set (n.toNat % x[k].cs.length) (Col.c ⟨x[k].cs[n.toNat % x[k].cs.length].n, n, x[k].cs[n.toNat % x[k].cs.length].b⟩))]) ⟨wk_tb rfl (by simp) (tabs_lens x k _ _ rfl) (wk_tabs x k _ _ (.cons _ _ _ _ (.wk _ _ (.refl _)) (.cons _ _ _ _ (wk_cb rfl (by simp) (List.map_set.symm)) (.cons _ _ _ _ (.wk _ _ (.refl _)) .nil)))), trivial⟩ (HFL.fz 0 3 _ _ _ rfl (HFL.fz 1 3 _ _ _ rfl (.nil 2))) (fzOf_two rfl rfl)) ?_)
  have q1 := rightTN none false (x.set k ⟨x[k].n, (x[k].cs.set (n.toNat % x[k].cs.length) ⟨x[k].cs[n.toNat % x[k].cs.length].n, n, x[k].cs[n.toNat % x[k].cs.length].b⟩), x[k].ks⟩) hX1 hX2
  have q2 := rRightTN none false (x.set k ⟨x[k].n, (x[k].cs.set (n.toNat % x[k].cs.length) ⟨x[k].cs[n.toNat % x[k].cs.length].n, n, x[k].cs[n.toNat % x[k].cs.length].b⟩), x[k].ks⟩) hX1 hX2
  rw [rf_rg] at q2
  refine call_p q1 ?_
  refine call_p q2 ?_
  exact bool_eq (beq_self_eq_true _)

theorem tr7 (nl : Option Bool) (own : Bool) (l : List Form) (hl : l.length ≤ 9223372036854775807) (hfw : fewD l = true) (what at_ n : UInt8) (em : (what.toNat : Int).tmod 12 = 7) : PCallN Tryd.prog 5 [.sl 2 nl own (l.map Form.c), .int .u8 what.toNat, .int .u8 at_.toNat, .int .u8 n.toNat] (.bool true) := by
  refine PCallN.of (tr [1000037, 2000037, 1000045, 2000045, 3000210]) f5 (Nat.le_of_ble_eq_true rfl) (np_right _ _ _ _) (.bool _) ?_
  refine call_p noughtsN ?_
  repeat (first | refine guard_t rfl ?_ | refine guard_f (by decide) ?_)
  refine call_p (fewN _ _ l hl) ?_
  rw [hfw]
  repeat (first | refine guard_t rfl ?_ | refine guard_f (by decide) ?_)
  refine cond_f rfl ?_
  refine call_p (tablesN _ _ l) ?_
  have hx := tables_len l
  have hx4 := tabN_le l
  have hcs := tables_cs l
  have q1 := rightTN none false (tables l) (by omega) (fun t ht => Nat.le_trans (hcs t ht) (by decide))
  have q2 := rRightTN none false (tables l) (by omega) (fun t ht => Nat.le_trans (hcs t ht) (by decide))
  rw [rf_rg, rg_tables] at q2
  rw [rg_tables] at q1
  refine call_p q1 ?_
  repeat (first | refine guard_t rfl ?_ | refine guard_f (by decide) ?_)
  refine call_p q2 ?_
  repeat (first | refine guard_t rfl ?_ | refine guard_f (by decide) ?_)
  refine cond_f rfl ?_
  clear q1 q2
  refine And.intro (by rw [List.length_map]; omega) ?_
  rw [List.length_map, rem_i64]
  have hlt : at_.toNat % (tables l).length < (tables l).length := Nat.mod_lt _ (by omega)
  obtain ⟨m0, hm1, hm2, hm3, hm4⟩ := tabAt_ok l (at_.toNat % (tables l).length)
  rw [← tables_get l _ hlt] at hm1 hm3 hm4
  have hx0 : 0 < (tables l).length ∧ (tables l).length ≤ 4 := by omega
  clear hx hx4
  generalize at_.toNat % (tables l).length = k at hlt hm1 hm3 hm4 ⊢
  generalize tables l = x at hlt hm1 hm3 hm4 hcs hx0 ⊢
  clear hm1 hfw hl
  have hkm : (k : Int) < (((x.map Tab.c).length : Nat) : Int) := by rw [List.length_map]; omega
  have hkl : k < (x.map Tab.c).length := by rw [List.length_map]; omega
  refine And.intro rfl (And.intro (.inl rfl) (And.intro (by rw [List.length_map]; omega) (And.intro ⟨by rw [List.length_map]; omega, by rw [List.length_map]; omega⟩ ?_)))
  refine And.intro rfl (And.intro ⟨Int.natCast_nonneg _, hkm⟩ ?_)
  refine Exists.intro k (Exists.intro 1 (Exists.intro x[k].c (And.intro ⟨off3 k 1, rfl, tab_lens x⟩ (And.intro (map_get hlt) ?_))))
  refine And.intro rfl (And.intro (.inl rfl) (And.intro (by rw [List.length_map]; omega) (And.intro ⟨by rw [List.length_map]; omega, by rw [List.length_map]; omega⟩ ?_)))
  refine And.intro rfl (And.intro ⟨Int.natCast_nonneg _, hkm⟩ ?_)
  refine Exists.intro k (Exists.intro 1 (Exists.intro x[k].c (And.intro ⟨off3 k 1, by decide, by decide⟩ (And.intro (map_get hlt) ?_))))
  refine And.intro rfl (And.intro ⟨Int.natCast_nonneg _, hkm⟩ ?_)
  refine Exists.intro k (Exists.intro 1 (Exists.intro [.str (st x[k].n), .bsl 3 1 0 (x[k].cs.map Col.c).length, .int .i64 x[k].ks] (And.intro ⟨off3 k 1, rfl, set_lens (tab_lens x) rfl⟩ (And.intro (set_get hkl _) ?_))))
  refine And.intro (by rw [List.length_map]; omega) ?_
  rw [List.length_map, rem_i64]
  have hcl : n.toNat % x[k].cs.length < x[k].cs.length := Nat.mod_lt _ (by omega)
  refine And.intro (by decide) ?_
  refine cond_f (by rw [em]; rfl) ?_
  refine cond_f (by rw [em]; rfl) ?_
  refine cond_f (by rw [em]; rfl) ?_
  refine cond_f (by rw [em]; rfl) ?_
  refine cond_f (by rw [em]; rfl) ?_
  refine cond_f (by rw [em]; rfl) ?_
  refine cond_f (by rw [em]; rfl) ?_
  refine cond_t (by rw [em]; rfl) ?_
  have hcm : ((n.toNat % x[k].cs.length : Nat) : Int) < ((x[k].cs.length : Nat) : Int) := by omega
  refine And.intro rfl (And.intro ⟨Int.natCast_nonneg _, hkm⟩ ?_)
  refine Exists.intro k (Exists.intro 1 (Exists.intro [.str (st x[k].n), .bsl 3 1 0 x[k].cs.length, .int .i64 x[k].ks] (And.intro ⟨off3 k 1, rfl, set_lens (tab_lens x) rfl⟩ (And.intro (set_get hkl _) ?_))))
  refine And.intro rfl (And.intro ⟨Int.natCast_nonneg _, hcm⟩ ?_)
  refine Exists.intro (n.toNat % x[k].cs.length) (Exists.intro 2 (Exists.intro (x[k].cs[n.toNat % x[k].cs.length]).c (And.intro ⟨off3 _ 2, by decide, by decide⟩ (And.intro (map_get hcl) ?_))))
  have hX1 : ((x.set k ⟨x[k].n, (x[k].cs.set (n.toNat % x[k].cs.length) ⟨x[k].cs[n.toNat % x[k].cs.length].n, x[k].cs[n.toNat % x[k].cs.length].k, true⟩), x[k].ks⟩)).length ≤ 1000000 := by rw [List.length_set]; omega
  have hX2 : ∀ y, y ∈ (x.set k ⟨x[k].n, (x[k].cs.set (n.toNat % x[k].cs.length) ⟨x[k].cs[n.toNat % x[k].cs.length].n, x[k].cs[n.toNat % x[k].cs.length].k, true⟩), x[k].ks⟩) → y.cs.length ≤ 1000000 := set_cs hcs (by have := hcs _ (List.getElem_mem hlt); simp only [List.length_set]; omega)
  refine Exists.intro ⟨[], [(11, .sl 3 none false (((x.set k ⟨x[k].n, (x[k].cs.set (n.toNat % x[k].cs.length) ⟨x[k].cs[n.toNat % x[k].cs.length].n, x[k].cs[n.toNat % x[k].cs.length].k, true⟩), x[k].ks⟩)).map Tab.c))], [.ro [], .ro []]⟩ (And.intro (ShiftS.fz (fzOf [(0, 3, (x.map Tab.c).set k [.str (st x[k].n), .bsl 3 1 0 x[k].cs.length, .int .i64 x[k].ks]), (1, 3, (x[k].cs.map Col.c).set (n.toNat % x[k].cs.length) (Col.c ⟨x[k].cs[n.toNat % x[k].cs.length].n, x[k].cs[n.toNat % x[k].cs.length].k, true⟩))]) ⟨wk_tb rfl (by simp) (tabs_lens x k _ _ rfl) (wk_tabs x k _ _ (.cons _ _ _ _ (.wk _ _ (.refl _)) (.cons _ _ _ _ (wk_cb rfl (by simp) (List.map_set.symm)) (.cons _ _ _ _ (.wk _ _ (.refl _)) .nil)))), trivial⟩ (HFL.fz 0 3 _ _ _ rfl (HFL.fz 1 3 _ _ _ rfl (.nil 2))) (fzOf_two rfl rfl)) ?_)
  have q1 := rightTN none false (x.set k ⟨x[k].n, (x[k].cs.set (n.toNat % x[k].cs.length) ⟨x[k].cs[n.toNat % x[k].cs.length].n, x[k].cs[n.toNat % x[k].cs.length].k, true⟩), x[k].ks⟩) hX1 hX2
  have q2 := rRightTN none false (x.set k ⟨x[k].n, (x[k].cs.set (n.toNat % x[k].cs.length) ⟨x[k].cs[n.toNat % x[k].cs.length].n, x[k].cs[n.toNat % x[k].cs.length].k, true⟩), x[k].ks⟩) hX1 hX2
  rw [rf_rg] at q2
  refine call_p q1 ?_
  refine call_p q2 ?_
  exact bool_eq (beq_self_eq_true _)

theorem tr8 (nl : Option Bool) (own : Bool) (l : List Form) (hl : l.length ≤ 9223372036854775807) (hfw : fewD l = true) (what at_ n : UInt8) (em : (what.toNat : Int).tmod 12 = 8) : PCallN Tryd.prog 5 [.sl 2 nl own (l.map Form.c), .int .u8 what.toNat, .int .u8 at_.toNat, .int .u8 n.toNat] (.bool true) := by
  refine PCallN.of (tr [1000037, 2000037, 1000045, 2000045, 3000210]) f5 (Nat.le_of_ble_eq_true rfl) (np_right _ _ _ _) (.bool _) ?_
  refine call_p noughtsN ?_
  repeat (first | refine guard_t rfl ?_ | refine guard_f (by decide) ?_)
  refine call_p (fewN _ _ l hl) ?_
  rw [hfw]
  repeat (first | refine guard_t rfl ?_ | refine guard_f (by decide) ?_)
  refine cond_f rfl ?_
  refine call_p (tablesN _ _ l) ?_
  have hx := tables_len l
  have hx4 := tabN_le l
  have hcs := tables_cs l
  have q1 := rightTN none false (tables l) (by omega) (fun t ht => Nat.le_trans (hcs t ht) (by decide))
  have q2 := rRightTN none false (tables l) (by omega) (fun t ht => Nat.le_trans (hcs t ht) (by decide))
  rw [rf_rg, rg_tables] at q2
  rw [rg_tables] at q1
  refine call_p q1 ?_
  repeat (first | refine guard_t rfl ?_ | refine guard_f (by decide) ?_)
  refine call_p q2 ?_
  repeat (first | refine guard_t rfl ?_ | refine guard_f (by decide) ?_)
  refine cond_f rfl ?_
  clear q1 q2
  refine And.intro (by rw [List.length_map]; omega) ?_
  rw [List.length_map, rem_i64]
  have hlt : at_.toNat % (tables l).length < (tables l).length := Nat.mod_lt _ (by omega)
  obtain ⟨m0, hm1, hm2, hm3, hm4⟩ := tabAt_ok l (at_.toNat % (tables l).length)
  rw [← tables_get l _ hlt] at hm1 hm3 hm4
  have hx0 : 0 < (tables l).length ∧ (tables l).length ≤ 4 := by omega
  clear hx hx4
  generalize at_.toNat % (tables l).length = k at hlt hm1 hm3 hm4 ⊢
  generalize tables l = x at hlt hm1 hm3 hm4 hcs hx0 ⊢
  clear hm1 hfw hl
  have hkm : (k : Int) < (((x.map Tab.c).length : Nat) : Int) := by rw [List.length_map]; omega
  have hkl : k < (x.map Tab.c).length := by rw [List.length_map]; omega
  refine And.intro rfl (And.intro (.inl rfl) (And.intro (by rw [List.length_map]; omega) (And.intro ⟨by rw [List.length_map]; omega, by rw [List.length_map]; omega⟩ ?_)))
  refine And.intro rfl (And.intro ⟨Int.natCast_nonneg _, hkm⟩ ?_)
  refine Exists.intro k (Exists.intro 1 (Exists.intro x[k].c (And.intro ⟨off3 k 1, rfl, tab_lens x⟩ (And.intro (map_get hlt) ?_))))
  refine And.intro rfl (And.intro (.inl rfl) (And.intro (by rw [List.length_map]; omega) (And.intro ⟨by rw [List.length_map]; omega, by rw [List.length_map]; omega⟩ ?_)))
  refine And.intro rfl (And.intro ⟨Int.natCast_nonneg _, hkm⟩ ?_)
  refine Exists.intro k (Exists.intro 1 (Exists.intro x[k].c (And.intro ⟨off3 k 1, by decide, by decide⟩ (And.intro (map_get hlt) ?_))))
  refine And.intro rfl (And.intro ⟨Int.natCast_nonneg _, hkm⟩ ?_)
  refine Exists.intro k (Exists.intro 1 (Exists.intro [.str (st x[k].n), .bsl 3 1 0 (x[k].cs.map Col.c).length, .int .i64 x[k].ks] (And.intro ⟨off3 k 1, rfl, set_lens (tab_lens x) rfl⟩ (And.intro (set_get hkl _) ?_))))
  refine And.intro (by rw [List.length_map]; omega) ?_
  rw [List.length_map, rem_i64]
  have hcl : n.toNat % x[k].cs.length < x[k].cs.length := Nat.mod_lt _ (by omega)
  refine And.intro (by decide) ?_
  refine cond_f (by rw [em]; rfl) ?_
  refine cond_f (by rw [em]; rfl) ?_
  refine cond_f (by rw [em]; rfl) ?_
  refine cond_f (by rw [em]; rfl) ?_
  refine cond_f (by rw [em]; rfl) ?_
  refine cond_f (by rw [em]; rfl) ?_
  refine cond_f (by rw [em]; rfl) ?_
  refine cond_f (by rw [em]; rfl) ?_
  refine cond_t (by rw [em]; rfl) ?_
  have hcm : ((n.toNat % x[k].cs.length : Nat) : Int) < ((x[k].cs.length : Nat) : Int) := by omega
  refine And.intro rfl (And.intro ⟨Int.natCast_nonneg _, hkm⟩ ?_)
  refine Exists.intro k (Exists.intro 1 (Exists.intro [.str (st x[k].n), .bsl 3 1 0 x[k].cs.length, .int .i64 x[k].ks] (And.intro ⟨off3 k 1, rfl, set_lens (tab_lens x) rfl⟩ (And.intro (set_get hkl _) ?_))))
  refine And.intro rfl (And.intro ⟨Int.natCast_nonneg _, hkm⟩ ?_)
  refine Exists.intro k (Exists.intro 1 (Exists.intro [.str (st x[k].n), .bsl 3 1 0 x[k].cs.length, .int .i64 x[k].ks] (And.intro ⟨off3 k 1, rfl, set_lens (tab_lens x) rfl⟩ (And.intro (set_get hkl _) ?_))))
  refine And.intro rfl (And.intro ⟨Int.le_refl _, by omega⟩ ?_)
  refine Exists.intro 0 (Exists.intro 0 (Exists.intro (x[k].cs[0]'(by omega)).c (And.intro ⟨rfl, rfl, col_lens _⟩ (And.intro (map_get (by omega)) ?_))))
  refine And.intro rfl (And.intro ⟨Int.natCast_nonneg _, hcm⟩ ?_)
  refine Exists.intro (n.toNat % x[k].cs.length) (Exists.intro 0 (Exists.intro (x[k].cs[n.toNat % x[k].cs.length]).c (And.intro ⟨off3 _ 0, by decide, by decide⟩ (And.intro (map_get hcl) ?_))))
  refine And.intro (by kernel_rfl) ?_
  have hX1 : ((x.set k ⟨x[k].n, (x[k].cs.set (n.toNat % x[k].cs.length) ⟨(x[k].cs[0]'(by omega)).n, x[k].cs[n.toNat % x[k].cs.length].k, x[k].cs[n.toNat % x[k].cs.length].b⟩), x[k].ks⟩)).length ≤ 1000000 := by rw [List.length_set]; omega
  have hX2 : ∀ y, y ∈ (x.set k ⟨x[k].n, (x[k].cs.set (n.toNat % x[k].cs.length) ⟨(x[k].cs[0]'(by omega)).n, x[k].cs[n.toNat % x[k].cs.length].k, x[k].cs[n.toNat % x[k].cs.length].b⟩), x[k].ks⟩) → y.cs.length ≤ 1000000 := set_cs hcs (by have := hcs _ (List.getElem_mem hlt); simp only [List.length_set]; omega)
  refine Exists.intro ⟨[], [(11, .sl 3 none false (((x.set k ⟨x[k].n, (x[k].cs.set (n.toNat % x[k].cs.length) ⟨(x[k].cs[0]'(by omega)).n, x[k].cs[n.toNat % x[k].cs.length].k, x[k].cs[n.toNat % x[k].cs.length].b⟩), x[k].ks⟩)).map Tab.c))], [.ro [], .ro []]⟩ (And.intro (ShiftS.fz (fzOf [(0, 3, (x.map Tab.c).set k [.str (st x[k].n), .bsl 3 1 0 x[k].cs.length, .int .i64 x[k].ks]), (1, 3, (x[k].cs.map Col.c).set (n.toNat % x[k].cs.length) (Col.c ⟨(x[k].cs[0]'(by omega)).n, x[k].cs[n.toNat % x[k].cs.length].k, x[k].cs[n.toNat % x[k].cs.length].b⟩))]) ⟨wk_tb rfl (by simp) (tabs_lens x k _ _ rfl) (wk_tabs x k _ _ (.cons _ _ _ _ (.wk _ _ (.refl _)) (.cons _ _ _ _ (wk_cb rfl (by simp) (List.map_set.symm)) (.cons _ _ _ _ (.wk _ _ (.refl _)) .nil)))), trivial⟩ (HFL.fz 0 3 _ _ _ rfl (HFL.fz 1 3 _ _ _ rfl (.nil 2))) (fzOf_two rfl rfl)) ?_)
  have q1 := rightTN none false (x.set k ⟨x[k].n, (x[k].cs.set (n.toNat % x[k].cs.length) ⟨(x[k].cs[0]'(by omega)).n, x[k].cs[n.toNat % x[k].cs.length].k, x[k].cs[n.toNat % x[k].cs.length].b⟩), x[k].ks⟩) hX1 hX2
  have q2 := rRightTN none false (x.set k ⟨x[k].n, (x[k].cs.set (n.toNat % x[k].cs.length) ⟨(x[k].cs[0]'(by omega)).n, x[k].cs[n.toNat % x[k].cs.length].k, x[k].cs[n.toNat % x[k].cs.length].b⟩), x[k].ks⟩) hX1 hX2
  rw [rf_rg] at q2
  refine call_p q1 ?_
  refine call_p q2 ?_
  exact bool_eq (beq_self_eq_true _)

theorem tr9 (nl : Option Bool) (own : Bool) (l : List Form) (hl : l.length ≤ 9223372036854775807) (hfw : fewD l = true) (what at_ n : UInt8) (em : (what.toNat : Int).tmod 12 = 9) : PCallN Tryd.prog 5 [.sl 2 nl own (l.map Form.c), .int .u8 what.toNat, .int .u8 at_.toNat, .int .u8 n.toNat] (.bool true) := by
  refine PCallN.of (tr [1000037, 2000037, 1000045, 2000045, 3000210]) f5 (Nat.le_of_ble_eq_true rfl) (np_right _ _ _ _) (.bool _) ?_
  refine call_p noughtsN ?_
  repeat (first | refine guard_t rfl ?_ | refine guard_f (by decide) ?_)
  refine call_p (fewN _ _ l hl) ?_
  rw [hfw]
  repeat (first | refine guard_t rfl ?_ | refine guard_f (by decide) ?_)
  refine cond_f rfl ?_
  refine call_p (tablesN _ _ l) ?_
  have hx := tables_len l
  have hx4 := tabN_le l
  have hcs := tables_cs l
  have q1 := rightTN none false (tables l) (by omega) (fun t ht => Nat.le_trans (hcs t ht) (by decide))
  have q2 := rRightTN none false (tables l) (by omega) (fun t ht => Nat.le_trans (hcs t ht) (by decide))
  rw [rf_rg, rg_tables] at q2
  rw [rg_tables] at q1
  refine call_p q1 ?_
  repeat (first | refine guard_t rfl ?_ | refine guard_f (by decide) ?_)
  refine call_p q2 ?_
  repeat (first | refine guard_t rfl ?_ | refine guard_f (by decide) ?_)
  refine cond_f rfl ?_
  clear q1 q2
  refine And.intro (by rw [List.length_map]; omega) ?_
  rw [List.length_map, rem_i64]
  have hlt : at_.toNat % (tables l).length < (tables l).length := Nat.mod_lt _ (by omega)
  obtain ⟨m0, hm1, hm2, hm3, hm4⟩ := tabAt_ok l (at_.toNat % (tables l).length)
  rw [← tables_get l _ hlt] at hm1 hm3 hm4
  have hx0 : 0 < (tables l).length ∧ (tables l).length ≤ 4 := by omega
  clear hx hx4
  generalize at_.toNat % (tables l).length = k at hlt hm1 hm3 hm4 ⊢
  generalize tables l = x at hlt hm1 hm3 hm4 hcs hx0 ⊢
  clear hm1 hfw hl
  have hkm : (k : Int) < (((x.map Tab.c).length : Nat) : Int) := by rw [List.length_map]; omega
  have hkl : k < (x.map Tab.c).length := by rw [List.length_map]; omega
  refine And.intro rfl (And.intro (.inl rfl) (And.intro (by rw [List.length_map]; omega) (And.intro ⟨by rw [List.length_map]; omega, by rw [List.length_map]; omega⟩ ?_)))
  refine And.intro rfl (And.intro ⟨Int.natCast_nonneg _, hkm⟩ ?_)
  refine Exists.intro k (Exists.intro 1 (Exists.intro x[k].c (And.intro ⟨off3 k 1, rfl, tab_lens x⟩ (And.intro (map_get hlt) ?_))))
  refine And.intro rfl (And.intro (.inl rfl) (And.intro (by rw [List.length_map]; omega) (And.intro ⟨by rw [List.length_map]; omega, by rw [List.length_map]; omega⟩ ?_)))
  refine And.intro rfl (And.intro ⟨Int.natCast_nonneg _, hkm⟩ ?_)
  refine Exists.intro k (Exists.intro 1 (Exists.intro x[k].c (And.intro ⟨off3 k 1, by decide, by decide⟩ (And.intro (map_get hlt) ?_))))
  refine And.intro rfl (And.intro ⟨Int.natCast_nonneg _, hkm⟩ ?_)
  refine Exists.intro k (Exists.intro 1 (Exists.intro [.str (st x[k].n), .bsl 3 1 0 (x[k].cs.map Col.c).length, .int .i64 x[k].ks] (And.intro ⟨off3 k 1, rfl, set_lens (tab_lens x) rfl⟩ (And.intro (set_get hkl _) ?_))))
  refine And.intro (by rw [List.length_map]; omega) ?_
  rw [List.length_map, rem_i64]
  have hcl : n.toNat % x[k].cs.length < x[k].cs.length := Nat.mod_lt _ (by omega)
  refine And.intro (by decide) ?_
  refine cond_f (by rw [em]; rfl) ?_
  refine cond_f (by rw [em]; rfl) ?_
  refine cond_f (by rw [em]; rfl) ?_
  refine cond_f (by rw [em]; rfl) ?_
  refine cond_f (by rw [em]; rfl) ?_
  refine cond_f (by rw [em]; rfl) ?_
  refine cond_f (by rw [em]; rfl) ?_
  refine cond_f (by rw [em]; rfl) ?_
  refine cond_f (by rw [em]; rfl) ?_
  refine cond_t (by rw [em]; rfl) ?_
  have hcm : ((n.toNat % x[k].cs.length : Nat) : Int) < ((x[k].cs.length : Nat) : Int) := by omega
  refine And.intro rfl (And.intro ⟨Int.natCast_nonneg _, hkm⟩ ?_)
  refine Exists.intro k (Exists.intro 1 (Exists.intro [.str (st x[k].n), .bsl 3 1 0 x[k].cs.length, .int .i64 x[k].ks] (And.intro ⟨off3 k 1, rfl, set_lens (tab_lens x) rfl⟩ (And.intro (set_get hkl _) ?_))))
  refine And.intro (by decide) ?_
  refine And.intro (name_q0 n) ?_
  refine Exists.intro (List.replicate (15 + n.toNat % 10) 0) (And.intro (name_q1 n) ?_)
  refine And.intro rfl (And.intro ⟨Int.natCast_nonneg _, hcm⟩ ?_)
  refine Exists.intro (n.toNat % x[k].cs.length) (Exists.intro 0 (Exists.intro (x[k].cs[n.toNat % x[k].cs.length]).c (And.intro ⟨off3 _ 0, by decide, by decide⟩ (And.intro (map_get hcl) ?_))))
  refine And.intro (by kernel_rfl) ?_
  have hX1 : ((x.set k ⟨x[k].n, (x[k].cs.set (n.toNat % x[k].cs.length) ⟨(List.replicate (15 + n.toNat % 10) 0), x[k].cs[n.toNat % x[k].cs.length].k, x[k].cs[n.toNat % x[k].cs.length].b⟩), x[k].ks⟩)).length ≤ 1000000 := by rw [List.length_set]; omega
  have hX2 : ∀ y, y ∈ (x.set k ⟨x[k].n, (x[k].cs.set (n.toNat % x[k].cs.length) ⟨(List.replicate (15 + n.toNat % 10) 0), x[k].cs[n.toNat % x[k].cs.length].k, x[k].cs[n.toNat % x[k].cs.length].b⟩), x[k].ks⟩) → y.cs.length ≤ 1000000 := set_cs hcs (by have := hcs _ (List.getElem_mem hlt); simp only [List.length_set]; omega)
  refine Exists.intro ⟨[], [(11, .sl 3 none false (((x.set k ⟨x[k].n, (x[k].cs.set (n.toNat % x[k].cs.length) ⟨(List.replicate (15 + n.toNat % 10) 0), x[k].cs[n.toNat % x[k].cs.length].k, x[k].cs[n.toNat % x[k].cs.length].b⟩), x[k].ks⟩)).map Tab.c))], [.ro [], .ro []]⟩ (And.intro (ShiftS.fz (fzOf [(0, 3, (x.map Tab.c).set k [.str (st x[k].n), .bsl 3 1 0 x[k].cs.length, .int .i64 x[k].ks]), (1, 3, (x[k].cs.map Col.c).set (n.toNat % x[k].cs.length) (Col.c ⟨(List.replicate (15 + n.toNat % 10) 0), x[k].cs[n.toNat % x[k].cs.length].k, x[k].cs[n.toNat % x[k].cs.length].b⟩))]) ⟨wk_tb rfl (by simp) (tabs_lens x k _ _ rfl) (wk_tabs x k _ _ (.cons _ _ _ _ (.wk _ _ (.refl _)) (.cons _ _ _ _ (wk_cb rfl (by simp) (List.map_set.symm)) (.cons _ _ _ _ (.wk _ _ (.refl _)) .nil)))), trivial⟩ (HFL.fz 0 3 _ _ _ rfl (HFL.fz 1 3 _ _ _ rfl (.nil 2))) (fzOf_two rfl rfl)) ?_)
  have q1 := rightTN none false (x.set k ⟨x[k].n, (x[k].cs.set (n.toNat % x[k].cs.length) ⟨(List.replicate (15 + n.toNat % 10) 0), x[k].cs[n.toNat % x[k].cs.length].k, x[k].cs[n.toNat % x[k].cs.length].b⟩), x[k].ks⟩) hX1 hX2
  have q2 := rRightTN none false (x.set k ⟨x[k].n, (x[k].cs.set (n.toNat % x[k].cs.length) ⟨(List.replicate (15 + n.toNat % 10) 0), x[k].cs[n.toNat % x[k].cs.length].k, x[k].cs[n.toNat % x[k].cs.length].b⟩), x[k].ks⟩) hX1 hX2
  rw [rf_rg] at q2
  refine call_p q1 ?_
  refine call_p q2 ?_
  exact bool_eq (beq_self_eq_true _)

theorem fzOf_ab {a b : Nat} {xs ys : List (List AV)} {h : List HObj} (h0 : h[a]? = some (.arr 3 xs)) (h1 : h[b]? = some (.arr 3 ys)) : ∀ i sz zs, fzOf [(a, 3, xs), (b, 3, ys)] i = some (sz, zs) → h[i]? = some (.arr sz zs) := by
  intro i sz zs hi
  unfold fzOf at hi
  split at hi
  · rename_i e
    cases hi
    rw [e, h0]
  · obtain ⟨rfl, rfl, rfl⟩ := fzOf_one hi
    exact h1

theorem z_name (m : Nat) : toBytes [[AV.int .u8 122], [AV.int .u8 (IntKind.u8.wrap (m : Int))]] = some [122, u8of (m : Int)] := by
  rw [← u8of_toNat]
  exact toBytes_bs [122, u8of (m : Int)]

theorem tdb4 (n : UInt8) (C1 : List Col) (xs : List (List AV)) (X : List Tab) (s0 : ByteArray) (q0 : Int) (_h0 : xs[0]? = some [.str s0, .bsl 3 1 0 C1.length, .int .i64 q0])
    (h1 : xs.map List.length = (X.map Tab.c).map List.length) (h2 : ∀ B : Nat → Option (Nat × List (List AV)), B 1 = some (3, C1.map Col.c) → WkFL B xs.flatten (X.map Tab.c).flatten) (hj : 5 ≤ xs.length) (hM : xs.length ≤ 1004) (hX : ∀ y, y ∈ X → y.cs.length ≤ 1000000) (_hC : C1.length ≤ 1000000)
    (R : VE → Sy → Prop) (hR : ∀ X' : List Tab, X'.length ≤ 1000000 → (∀ y, y ∈ X' → y.cs.length ≤ 1000000) → ∀ hb, R (.exit 1) ⟨[], [(11, .sl 3 none false (X'.map Tab.c))], hb⟩) :
    VloopS Tryd.prog (tr [1000037, 2000037, 1000045, 2000045, 3000210, 11, 1000077, 2000011]) 215 0 c5b0 (exS R) ⟨[], [(3, .int .u8 n.toNat), (11, .bsl 3 5 0 xs.length)], [.ro [], .arr 3 (C1.map Col.c), .ro [], .ro [], .ro [], .arr 3 xs]⟩ := by
  have hl3 : ∀ y, y ∈ xs → y.length = 3 := lensF (by rw [h1]) (tab_lens X)
  have hXl : X.length = xs.length := by
    have := congrArg List.length h1
    simpa using this.symm
  refine VloopS.round ?_
  refine And.intro (by decide) ?_
  have hn6 : (n.toNat : Int).tmod 6 = ((n.toNat % 6 : Nat) : Int) := rem_u8 n 6
  have hc : ¬ (xs.length : Int) < IntKind.i64.wrap ((n.toNat : Int).tmod 6) := by
    rw [hn6, i64_in _ (by omega)]
    omega
  refine cond_f (decide_eq_false hc) ?_
  refine ex_s (σ' := ⟨[], [(11, .sl 3 none false (X.map Tab.c))], [.ro [], .ro [], .ro [], .ro [], .ro [], .ro []]⟩) (ShiftS.fz (fzOf [(5, 3, xs), (1, 3, C1.map Col.c)]) ⟨wk_tb rfl rfl h1 (h2 _ rfl), trivial⟩ (HFL.same 0 _ _ _ rfl (HFL.fz 1 3 _ _ _ rfl (HFL.same 2 _ _ _ rfl (HFL.same 3 _ _ _ rfl (HFL.same 4 _ _ _ rfl (HFL.fz 5 3 _ _ _ rfl (.nil 6))))))) (fzOf_ab rfl rfl)) (hR X (by omega) hX _)

theorem tdb3 (n : UInt8) (C1 : List Col) (xs : List (List AV)) (X : List Tab) (s0 : ByteArray) (q0 : Int) (h0 : xs[0]? = some [.str s0, .bsl 3 1 0 C1.length, .int .i64 q0])
    (h1 : xs.map List.length = (X.map Tab.c).map List.length) (h2 : ∀ B : Nat → Option (Nat × List (List AV)), B 1 = some (3, C1.map Col.c) → WkFL B xs.flatten (X.map Tab.c).flatten) (hj : 4 ≤ xs.length) (hM : xs.length ≤ 1003) (hX : ∀ y, y ∈ X → y.cs.length ≤ 1000000) (hC : C1.length ≤ 1000000)
    (R : VE → Sy → Prop) (hR : ∀ X' : List Tab, X'.length ≤ 1000000 → (∀ y, y ∈ X' → y.cs.length ≤ 1000000) → ∀ hb, R (.exit 1) ⟨[], [(11, .sl 3 none false (X'.map Tab.c))], hb⟩) :
    VloopS Tryd.prog (tr [1000037, 2000037, 1000045, 2000045, 3000210, 11, 1000077, 2000011]) 215 0 c5b0 (exS R) ⟨[], [(3, .int .u8 n.toNat), (11, .bsl 3 4 0 xs.length)], [.ro [], .arr 3 (C1.map Col.c), .ro [], .ro [], .arr 3 xs]⟩ := by
  have hl3 : ∀ y, y ∈ xs → y.length = 3 := lensF (by rw [h1]) (tab_lens X)
  have hXl : X.length = xs.length := by
    have := congrArg List.length h1
    simpa using this.symm
  refine VloopS.round ?_
  refine And.intro (by decide) ?_
  by_cases hc : (xs.length : Int) < IntKind.i64.wrap ((n.toNat : Int).tmod 6)
  · refine cond_t (decide_eq_true hc) ?_
    refine Exists.intro [122, u8of (xs.length : Int)] (And.intro (z_name xs.length) ?_)
    refine And.intro rfl (And.intro ⟨Int.le_refl _, by omega⟩ ?_)
    refine Exists.intro 0 (Exists.intro 1 (Exists.intro [.str s0, .bsl 3 1 0 C1.length, .int .i64 q0] (And.intro ⟨rfl, rfl, hl3⟩ (And.intro h0 ?_))))
    refine And.intro ⟨rfl, rfl, rfl, rfl, by omega⟩ (And.intro (.inl rfl) (And.intro ⟨by simp only [List.length_cons, List.length_nil]; omega, by simp only [List.length_cons, List.length_nil]; omega⟩ ?_))
    refine And.intro (by kernel_rfl) ?_
    have nx := tdb4 n C1 (xs ++ [[AV.str (st [122, u8of (xs.length : Int)]), .bsl 3 1 0 C1.length, .int .i64 1]]) (X ++ [(⟨[122, u8of (xs.length : Int)], C1, 1⟩ : Tab)]) s0 q0 (by rw [List.getElem?_append_left (by omega)]; exact h0) (lens_snocT h1 rfl)
      (fun B hB => wk_snocT (h2 B hB) (.cons _ _ _ _ (.wk _ _ (.refl _)) (.cons _ _ _ _ (wk_cb hB (by simp) rfl) (.cons _ _ _ _ (.wk _ _ (.refl _)) .nil)))) (by rw [List.length_append]; simp only [List.length_cons, List.length_nil]; omega) (by rw [List.length_append]; simp only [List.length_cons, List.length_nil]; omega)
      (fun y hy => by
        rcases List.mem_append.1 hy with hy | hy
        · exact hX y hy
        · rw [List.mem_singleton.1 hy]
          exact hC) hC R hR
    exact VloopS.weakE (l := [(3, .int .u8 n.toNat), (11, .bsl 3 5 0 (xs ++ [[AV.str (st [122, u8of (xs.length : Int)]), .bsl 3 1 0 C1.length, .int .i64 1]]).length)]) (h := [.ro [], .arr 3 (C1.map Col.c), .ro [], .ro [], .ro [], .arr 3 (xs ++ [[AV.str (st [122, u8of (xs.length : Int)]), .bsl 3 1 0 C1.length, .int .i64 1]])]) rfl ⟨.refl _, .refl _, trivial⟩ rfl (Nat.zero_le _) nx
  · refine cond_f (decide_eq_false hc) ?_
    refine ex_s (σ' := ⟨[], [(11, .sl 3 none false (X.map Tab.c))], [.ro [], .ro [], .ro [], .ro [], .ro []]⟩) (ShiftS.fz (fzOf [(4, 3, xs), (1, 3, C1.map Col.c)]) ⟨wk_tb rfl rfl h1 (h2 _ rfl), trivial⟩ (HFL.same 0 _ _ _ rfl (HFL.fz 1 3 _ _ _ rfl (HFL.same 2 _ _ _ rfl (HFL.same 3 _ _ _ rfl (HFL.fz 4 3 _ _ _ rfl (.nil 5)))))) (fzOf_ab rfl rfl)) (hR X (by omega) hX _)

theorem tdb2 (n : UInt8) (C1 : List Col) (xs : List (List AV)) (X : List Tab) (s0 : ByteArray) (q0 : Int) (h0 : xs[0]? = some [.str s0, .bsl 3 1 0 C1.length, .int .i64 q0])
    (h1 : xs.map List.length = (X.map Tab.c).map List.length) (h2 : ∀ B : Nat → Option (Nat × List (List AV)), B 1 = some (3, C1.map Col.c) → WkFL B xs.flatten (X.map Tab.c).flatten) (hj : 3 ≤ xs.length) (hM : xs.length ≤ 1002) (hX : ∀ y, y ∈ X → y.cs.length ≤ 1000000) (hC : C1.length ≤ 1000000)
    (R : VE → Sy → Prop) (hR : ∀ X' : List Tab, X'.length ≤ 1000000 → (∀ y, y ∈ X' → y.cs.length ≤ 1000000) → ∀ hb, R (.exit 1) ⟨[], [(11, .sl 3 none false (X'.map Tab.c))], hb⟩) :
    VloopS Tryd.prog (tr [1000037, 2000037, 1000045, 2000045, 3000210, 11, 1000077, 2000011]) 215 0 c5b0 (exS R) ⟨[], [(3, .int .u8 n.toNat), (11, .bsl 3 3 0 xs.length)], [.ro [], .arr 3 (C1.map Col.c), .ro [], .arr 3 xs]⟩ := by
  have hl3 : ∀ y, y ∈ xs → y.length = 3 := lensF (by rw [h1]) (tab_lens X)
  have hXl : X.length = xs.length := by
    have := congrArg List.length h1
    simpa using this.symm
  refine VloopS.round ?_
  refine And.intro (by decide) ?_
  by_cases hc : (xs.length : Int) < IntKind.i64.wrap ((n.toNat : Int).tmod 6)
  · refine cond_t (decide_eq_true hc) ?_
    refine Exists.intro [122, u8of (xs.length : Int)] (And.intro (z_name xs.length) ?_)
    refine And.intro rfl (And.intro ⟨Int.le_refl _, by omega⟩ ?_)
    refine Exists.intro 0 (Exists.intro 1 (Exists.intro [.str s0, .bsl 3 1 0 C1.length, .int .i64 q0] (And.intro ⟨rfl, rfl, hl3⟩ (And.intro h0 ?_))))
    refine And.intro ⟨rfl, rfl, rfl, rfl, by omega⟩ (And.intro (.inl rfl) (And.intro ⟨by simp only [List.length_cons, List.length_nil]; omega, by simp only [List.length_cons, List.length_nil]; omega⟩ ?_))
    refine And.intro (by kernel_rfl) ?_
    have nx := tdb3 n C1 (xs ++ [[AV.str (st [122, u8of (xs.length : Int)]), .bsl 3 1 0 C1.length, .int .i64 1]]) (X ++ [(⟨[122, u8of (xs.length : Int)], C1, 1⟩ : Tab)]) s0 q0 (by rw [List.getElem?_append_left (by omega)]; exact h0) (lens_snocT h1 rfl)
      (fun B hB => wk_snocT (h2 B hB) (.cons _ _ _ _ (.wk _ _ (.refl _)) (.cons _ _ _ _ (wk_cb hB (by simp) rfl) (.cons _ _ _ _ (.wk _ _ (.refl _)) .nil)))) (by rw [List.length_append]; simp only [List.length_cons, List.length_nil]; omega) (by rw [List.length_append]; simp only [List.length_cons, List.length_nil]; omega)
      (fun y hy => by
        rcases List.mem_append.1 hy with hy | hy
        · exact hX y hy
        · rw [List.mem_singleton.1 hy]
          exact hC) hC R hR
    exact VloopS.weakE (l := [(3, .int .u8 n.toNat), (11, .bsl 3 4 0 (xs ++ [[AV.str (st [122, u8of (xs.length : Int)]), .bsl 3 1 0 C1.length, .int .i64 1]]).length)]) (h := [.ro [], .arr 3 (C1.map Col.c), .ro [], .ro [], .arr 3 (xs ++ [[AV.str (st [122, u8of (xs.length : Int)]), .bsl 3 1 0 C1.length, .int .i64 1]])]) rfl ⟨.refl _, .refl _, trivial⟩ rfl (Nat.zero_le _) nx
  · refine cond_f (decide_eq_false hc) ?_
    refine ex_s (σ' := ⟨[], [(11, .sl 3 none false (X.map Tab.c))], [.ro [], .ro [], .ro [], .ro []]⟩) (ShiftS.fz (fzOf [(3, 3, xs), (1, 3, C1.map Col.c)]) ⟨wk_tb rfl rfl h1 (h2 _ rfl), trivial⟩ (HFL.same 0 _ _ _ rfl (HFL.fz 1 3 _ _ _ rfl (HFL.same 2 _ _ _ rfl (HFL.fz 3 3 _ _ _ rfl (.nil 4))))) (fzOf_ab rfl rfl)) (hR X (by omega) hX _)

theorem tdb1 (n : UInt8) (C1 : List Col) (xs : List (List AV)) (X : List Tab) (s0 : ByteArray) (q0 : Int) (h0 : xs[0]? = some [.str s0, .bsl 3 1 0 C1.length, .int .i64 q0])
    (h1 : xs.map List.length = (X.map Tab.c).map List.length) (h2 : ∀ B : Nat → Option (Nat × List (List AV)), B 1 = some (3, C1.map Col.c) → WkFL B xs.flatten (X.map Tab.c).flatten) (hj : 2 ≤ xs.length) (hM : xs.length ≤ 1001) (hX : ∀ y, y ∈ X → y.cs.length ≤ 1000000) (hC : C1.length ≤ 1000000)
    (R : VE → Sy → Prop) (hR : ∀ X' : List Tab, X'.length ≤ 1000000 → (∀ y, y ∈ X' → y.cs.length ≤ 1000000) → ∀ hb, R (.exit 1) ⟨[], [(11, .sl 3 none false (X'.map Tab.c))], hb⟩) :
    VloopS Tryd.prog (tr [1000037, 2000037, 1000045, 2000045, 3000210, 11, 1000077, 2000011]) 215 0 c5b0 (exS R) ⟨[], [(3, .int .u8 n.toNat), (11, .bsl 3 2 0 xs.length)], [.ro [], .arr 3 (C1.map Col.c), .arr 3 xs]⟩ := by
  have hl3 : ∀ y, y ∈ xs → y.length = 3 := lensF (by rw [h1]) (tab_lens X)
  have hXl : X.length = xs.length := by
    have := congrArg List.length h1
    simpa using this.symm
  refine VloopS.round ?_
  refine And.intro (by decide) ?_
  by_cases hc : (xs.length : Int) < IntKind.i64.wrap ((n.toNat : Int).tmod 6)
  · refine cond_t (decide_eq_true hc) ?_
    refine Exists.intro [122, u8of (xs.length : Int)] (And.intro (z_name xs.length) ?_)
    refine And.intro rfl (And.intro ⟨Int.le_refl _, by omega⟩ ?_)
    refine Exists.intro 0 (Exists.intro 1 (Exists.intro [.str s0, .bsl 3 1 0 C1.length, .int .i64 q0] (And.intro ⟨rfl, rfl, hl3⟩ (And.intro h0 ?_))))
    refine And.intro ⟨rfl, rfl, rfl, rfl, by omega⟩ (And.intro (.inl rfl) (And.intro ⟨by simp only [List.length_cons, List.length_nil]; omega, by simp only [List.length_cons, List.length_nil]; omega⟩ ?_))
    refine And.intro (by kernel_rfl) ?_
    have nx := tdb2 n C1 (xs ++ [[AV.str (st [122, u8of (xs.length : Int)]), .bsl 3 1 0 C1.length, .int .i64 1]]) (X ++ [(⟨[122, u8of (xs.length : Int)], C1, 1⟩ : Tab)]) s0 q0 (by rw [List.getElem?_append_left (by omega)]; exact h0) (lens_snocT h1 rfl)
      (fun B hB => wk_snocT (h2 B hB) (.cons _ _ _ _ (.wk _ _ (.refl _)) (.cons _ _ _ _ (wk_cb hB (by simp) rfl) (.cons _ _ _ _ (.wk _ _ (.refl _)) .nil)))) (by rw [List.length_append]; simp only [List.length_cons, List.length_nil]; omega) (by rw [List.length_append]; simp only [List.length_cons, List.length_nil]; omega)
      (fun y hy => by
        rcases List.mem_append.1 hy with hy | hy
        · exact hX y hy
        · rw [List.mem_singleton.1 hy]
          exact hC) hC R hR
    exact VloopS.weakE (l := [(3, .int .u8 n.toNat), (11, .bsl 3 3 0 (xs ++ [[AV.str (st [122, u8of (xs.length : Int)]), .bsl 3 1 0 C1.length, .int .i64 1]]).length)]) (h := [.ro [], .arr 3 (C1.map Col.c), .ro [], .arr 3 (xs ++ [[AV.str (st [122, u8of (xs.length : Int)]), .bsl 3 1 0 C1.length, .int .i64 1]])]) rfl ⟨.refl _, .refl _, trivial⟩ rfl (Nat.zero_le _) nx
  · refine cond_f (decide_eq_false hc) ?_
    refine ex_s (σ' := ⟨[], [(11, .sl 3 none false (X.map Tab.c))], [.ro [], .ro [], .ro []]⟩) (ShiftS.fz (fzOf [(2, 3, xs), (1, 3, C1.map Col.c)]) ⟨wk_tb rfl rfl h1 (h2 _ rfl), trivial⟩ (HFL.same 0 _ _ _ rfl (HFL.fz 1 3 _ _ _ rfl (HFL.fz 2 3 _ _ _ rfl (.nil 3)))) (fzOf_ab rfl rfl)) (hR X (by omega) hX _)

theorem tdb0 (n : UInt8) (C1 : List Col) (xs : List (List AV)) (X : List Tab) (s0 : ByteArray) (q0 : Int) (h0 : xs[0]? = some [.str s0, .bsl 3 1 0 C1.length, .int .i64 q0])
    (h1 : xs.map List.length = (X.map Tab.c).map List.length) (h2 : ∀ B : Nat → Option (Nat × List (List AV)), B 1 = some (3, C1.map Col.c) → WkFL B xs.flatten (X.map Tab.c).flatten) (hj : 1 ≤ xs.length) (hM : xs.length ≤ 1000) (hX : ∀ y, y ∈ X → y.cs.length ≤ 1000000) (hC : C1.length ≤ 1000000)
    (R : VE → Sy → Prop) (hR : ∀ X' : List Tab, X'.length ≤ 1000000 → (∀ y, y ∈ X' → y.cs.length ≤ 1000000) → ∀ hb, R (.exit 1) ⟨[], [(11, .sl 3 none false (X'.map Tab.c))], hb⟩) :
    VloopS Tryd.prog (tr [1000037, 2000037, 1000045, 2000045, 3000210, 11, 1000077, 2000011]) 215 0 c5b0 (exS R) ⟨[], [(3, .int .u8 n.toNat), (11, .bsl 3 0 0 xs.length)], [.arr 3 xs, .arr 3 (C1.map Col.c)]⟩ := by
  have hl3 : ∀ y, y ∈ xs → y.length = 3 := lensF (by rw [h1]) (tab_lens X)
  have hXl : X.length = xs.length := by
    have := congrArg List.length h1
    simpa using this.symm
  refine VloopS.round ?_
  refine And.intro (by decide) ?_
  by_cases hc : (xs.length : Int) < IntKind.i64.wrap ((n.toNat : Int).tmod 6)
  · refine cond_t (decide_eq_true hc) ?_
    refine Exists.intro [122, u8of (xs.length : Int)] (And.intro (z_name xs.length) ?_)
    refine And.intro rfl (And.intro ⟨Int.le_refl _, by omega⟩ ?_)
    refine Exists.intro 0 (Exists.intro 1 (Exists.intro [.str s0, .bsl 3 1 0 C1.length, .int .i64 q0] (And.intro ⟨rfl, rfl, hl3⟩ (And.intro h0 ?_))))
    refine And.intro ⟨rfl, rfl, rfl, rfl, by omega⟩ (And.intro (.inl rfl) (And.intro ⟨by simp only [List.length_cons, List.length_nil]; omega, by simp only [List.length_cons, List.length_nil]; omega⟩ ?_))
    refine And.intro (by kernel_rfl) ?_
    have nx := tdb1 n C1 (xs ++ [[AV.str (st [122, u8of (xs.length : Int)]), .bsl 3 1 0 C1.length, .int .i64 1]]) (X ++ [(⟨[122, u8of (xs.length : Int)], C1, 1⟩ : Tab)]) s0 q0 (by rw [List.getElem?_append_left (by omega)]; exact h0) (lens_snocT h1 rfl)
      (fun B hB => wk_snocT (h2 B hB) (.cons _ _ _ _ (.wk _ _ (.refl _)) (.cons _ _ _ _ (wk_cb hB (by simp) rfl) (.cons _ _ _ _ (.wk _ _ (.refl _)) .nil)))) (by rw [List.length_append]; simp only [List.length_cons, List.length_nil]; omega) (by rw [List.length_append]; simp only [List.length_cons, List.length_nil]; omega)
      (fun y hy => by
        rcases List.mem_append.1 hy with hy | hy
        · exact hX y hy
        · rw [List.mem_singleton.1 hy]
          exact hC) hC R hR
    exact VloopS.weakE (l := [(3, .int .u8 n.toNat), (11, .bsl 3 2 0 (xs ++ [[AV.str (st [122, u8of (xs.length : Int)]), .bsl 3 1 0 C1.length, .int .i64 1]]).length)]) (h := [.ro [], .arr 3 (C1.map Col.c), .arr 3 (xs ++ [[AV.str (st [122, u8of (xs.length : Int)]), .bsl 3 1 0 C1.length, .int .i64 1]])]) rfl ⟨.refl _, .refl _, trivial⟩ rfl (Nat.zero_le _) nx
  · refine cond_f (decide_eq_false hc) ?_
    refine ex_s (σ' := ⟨[], [(11, .sl 3 none false (X.map Tab.c))], [.ro [], .ro []]⟩) (ShiftS.fz (fzOf [(0, 3, xs), (1, 3, C1.map Col.c)]) ⟨wk_tb rfl rfl h1 (h2 _ rfl), trivial⟩ (HFL.fz 0 3 _ _ _ rfl (HFL.fz 1 3 _ _ _ rfl (.nil 2))) (fzOf_ab rfl rfl)) (hR X (by omega) hX _)

theorem tds4 (n : UInt8) (C1 : List Col) (C0 : List Col) (xs : List (List AV)) (X : List Tab) (s0 : ByteArray) (q0 : Int) (_h0 : xs[0]? = some [.str s0, .sl 3 none false (C0.map Col.c), .int .i64 q0])
    (h1 : xs.map List.length = (X.map Tab.c).map List.length) (h2 : ∀ B : Nat → Option (Nat × List (List AV)), B 1 = some (3, C1.map Col.c) → WkFL B xs.flatten (X.map Tab.c).flatten) (hj : 5 ≤ xs.length) (hM : xs.length ≤ 1004) (hX : ∀ y, y ∈ X → y.cs.length ≤ 1000000) (_hC : C0.length ≤ 1000000)
    (R : VE → Sy → Prop) (hR : ∀ X' : List Tab, X'.length ≤ 1000000 → (∀ y, y ∈ X' → y.cs.length ≤ 1000000) → ∀ hb, R (.exit 1) ⟨[], [(11, .sl 3 none false (X'.map Tab.c))], hb⟩) :
    VloopS Tryd.prog (tr [1000037, 2000037, 1000045, 2000045, 3000210, 11, 1000077, 2000011]) 215 0 c5b0 (exS R) ⟨[], [(3, .int .u8 n.toNat), (11, .bsl 3 5 0 xs.length)], [.ro [], .arr 3 (C1.map Col.c), .ro [], .ro [], .ro [], .arr 3 xs]⟩ := by
  have hl3 : ∀ y, y ∈ xs → y.length = 3 := lensF (by rw [h1]) (tab_lens X)
  have hXl : X.length = xs.length := by
    have := congrArg List.length h1
    simpa using this.symm
  refine VloopS.round ?_
  refine And.intro (by decide) ?_
  have hn6 : (n.toNat : Int).tmod 6 = ((n.toNat % 6 : Nat) : Int) := rem_u8 n 6
  have hc : ¬ (xs.length : Int) < IntKind.i64.wrap ((n.toNat : Int).tmod 6) := by
    rw [hn6, i64_in _ (by omega)]
    omega
  refine cond_f (decide_eq_false hc) ?_
  refine ex_s (σ' := ⟨[], [(11, .sl 3 none false (X.map Tab.c))], [.ro [], .ro [], .ro [], .ro [], .ro [], .ro []]⟩) (ShiftS.fz (fzOf [(5, 3, xs), (1, 3, C1.map Col.c)]) ⟨wk_tb rfl rfl h1 (h2 _ rfl), trivial⟩ (HFL.same 0 _ _ _ rfl (HFL.fz 1 3 _ _ _ rfl (HFL.same 2 _ _ _ rfl (HFL.same 3 _ _ _ rfl (HFL.same 4 _ _ _ rfl (HFL.fz 5 3 _ _ _ rfl (.nil 6))))))) (fzOf_ab rfl rfl)) (hR X (by omega) hX _)

theorem tds3 (n : UInt8) (C1 : List Col) (C0 : List Col) (xs : List (List AV)) (X : List Tab) (s0 : ByteArray) (q0 : Int) (h0 : xs[0]? = some [.str s0, .sl 3 none false (C0.map Col.c), .int .i64 q0])
    (h1 : xs.map List.length = (X.map Tab.c).map List.length) (h2 : ∀ B : Nat → Option (Nat × List (List AV)), B 1 = some (3, C1.map Col.c) → WkFL B xs.flatten (X.map Tab.c).flatten) (hj : 4 ≤ xs.length) (hM : xs.length ≤ 1003) (hX : ∀ y, y ∈ X → y.cs.length ≤ 1000000) (hC : C0.length ≤ 1000000)
    (R : VE → Sy → Prop) (hR : ∀ X' : List Tab, X'.length ≤ 1000000 → (∀ y, y ∈ X' → y.cs.length ≤ 1000000) → ∀ hb, R (.exit 1) ⟨[], [(11, .sl 3 none false (X'.map Tab.c))], hb⟩) :
    VloopS Tryd.prog (tr [1000037, 2000037, 1000045, 2000045, 3000210, 11, 1000077, 2000011]) 215 0 c5b0 (exS R) ⟨[], [(3, .int .u8 n.toNat), (11, .bsl 3 4 0 xs.length)], [.ro [], .arr 3 (C1.map Col.c), .ro [], .ro [], .arr 3 xs]⟩ := by
  have hl3 : ∀ y, y ∈ xs → y.length = 3 := lensF (by rw [h1]) (tab_lens X)
  have hXl : X.length = xs.length := by
    have := congrArg List.length h1
    simpa using this.symm
  refine VloopS.round ?_
  refine And.intro (by decide) ?_
  by_cases hc : (xs.length : Int) < IntKind.i64.wrap ((n.toNat : Int).tmod 6)
  · refine cond_t (decide_eq_true hc) ?_
    refine Exists.intro [122, u8of (xs.length : Int)] (And.intro (z_name xs.length) ?_)
    refine And.intro rfl (And.intro ⟨Int.le_refl _, by omega⟩ ?_)
    refine Exists.intro 0 (Exists.intro 1 (Exists.intro [.str s0, .sl 3 none false (C0.map Col.c), .int .i64 q0] (And.intro ⟨rfl, rfl, hl3⟩ (And.intro h0 ?_))))
    refine And.intro ⟨rfl, rfl, rfl, rfl, by omega⟩ (And.intro (.inl rfl) (And.intro ⟨by simp only [List.length_cons, List.length_nil]; omega, by simp only [List.length_cons, List.length_nil]; omega⟩ ?_))
    refine And.intro (by kernel_rfl) ?_
    have nx := tds4 n C1 C0 (xs ++ [[AV.str (st [122, u8of (xs.length : Int)]), .sl 3 none false (C0.map Col.c), .int .i64 1]]) (X ++ [(⟨[122, u8of (xs.length : Int)], C0, 1⟩ : Tab)]) s0 q0 (by rw [List.getElem?_append_left (by omega)]; exact h0) (lens_snocT h1 rfl)
      (fun B hB => wk_snocT (h2 B hB) (.cons _ _ _ _ (.wk _ _ (.refl _)) (.cons _ _ _ _ (.wk _ _ (.refl _)) (.cons _ _ _ _ (.wk _ _ (.refl _)) .nil)))) (by rw [List.length_append]; simp only [List.length_cons, List.length_nil]; omega) (by rw [List.length_append]; simp only [List.length_cons, List.length_nil]; omega)
      (fun y hy => by
        rcases List.mem_append.1 hy with hy | hy
        · exact hX y hy
        · rw [List.mem_singleton.1 hy]
          exact hC) hC R hR
    exact VloopS.weakE (l := [(3, .int .u8 n.toNat), (11, .bsl 3 5 0 (xs ++ [[AV.str (st [122, u8of (xs.length : Int)]), .sl 3 none false (C0.map Col.c), .int .i64 1]]).length)]) (h := [.ro [], .arr 3 (C1.map Col.c), .ro [], .ro [], .ro [], .arr 3 (xs ++ [[AV.str (st [122, u8of (xs.length : Int)]), .sl 3 none false (C0.map Col.c), .int .i64 1]])]) rfl ⟨.refl _, .refl _, trivial⟩ rfl (Nat.zero_le _) nx
  · refine cond_f (decide_eq_false hc) ?_
    refine ex_s (σ' := ⟨[], [(11, .sl 3 none false (X.map Tab.c))], [.ro [], .ro [], .ro [], .ro [], .ro []]⟩) (ShiftS.fz (fzOf [(4, 3, xs), (1, 3, C1.map Col.c)]) ⟨wk_tb rfl rfl h1 (h2 _ rfl), trivial⟩ (HFL.same 0 _ _ _ rfl (HFL.fz 1 3 _ _ _ rfl (HFL.same 2 _ _ _ rfl (HFL.same 3 _ _ _ rfl (HFL.fz 4 3 _ _ _ rfl (.nil 5)))))) (fzOf_ab rfl rfl)) (hR X (by omega) hX _)

theorem tds2 (n : UInt8) (C1 : List Col) (C0 : List Col) (xs : List (List AV)) (X : List Tab) (s0 : ByteArray) (q0 : Int) (h0 : xs[0]? = some [.str s0, .sl 3 none false (C0.map Col.c), .int .i64 q0])
    (h1 : xs.map List.length = (X.map Tab.c).map List.length) (h2 : ∀ B : Nat → Option (Nat × List (List AV)), B 1 = some (3, C1.map Col.c) → WkFL B xs.flatten (X.map Tab.c).flatten) (hj : 3 ≤ xs.length) (hM : xs.length ≤ 1002) (hX : ∀ y, y ∈ X → y.cs.length ≤ 1000000) (hC : C0.length ≤ 1000000)
    (R : VE → Sy → Prop) (hR : ∀ X' : List Tab, X'.length ≤ 1000000 → (∀ y, y ∈ X' → y.cs.length ≤ 1000000) → ∀ hb, R (.exit 1) ⟨[], [(11, .sl 3 none false (X'.map Tab.c))], hb⟩) :
    VloopS Tryd.prog (tr [1000037, 2000037, 1000045, 2000045, 3000210, 11, 1000077, 2000011]) 215 0 c5b0 (exS R) ⟨[], [(3, .int .u8 n.toNat), (11, .bsl 3 3 0 xs.length)], [.ro [], .arr 3 (C1.map Col.c), .ro [], .arr 3 xs]⟩ := by
  have hl3 : ∀ y, y ∈ xs → y.length = 3 := lensF (by rw [h1]) (tab_lens X)
  have hXl : X.length = xs.length := by
    have := congrArg List.length h1
    simpa using this.symm
  refine VloopS.round ?_
  refine And.intro (by decide) ?_
  by_cases hc : (xs.length : Int) < IntKind.i64.wrap ((n.toNat : Int).tmod 6)
  · refine cond_t (decide_eq_true hc) ?_
    refine Exists.intro [122, u8of (xs.length : Int)] (And.intro (z_name xs.length) ?_)
    refine And.intro rfl (And.intro ⟨Int.le_refl _, by omega⟩ ?_)
    refine Exists.intro 0 (Exists.intro 1 (Exists.intro [.str s0, .sl 3 none false (C0.map Col.c), .int .i64 q0] (And.intro ⟨rfl, rfl, hl3⟩ (And.intro h0 ?_))))
    refine And.intro ⟨rfl, rfl, rfl, rfl, by omega⟩ (And.intro (.inl rfl) (And.intro ⟨by simp only [List.length_cons, List.length_nil]; omega, by simp only [List.length_cons, List.length_nil]; omega⟩ ?_))
    refine And.intro (by kernel_rfl) ?_
    have nx := tds3 n C1 C0 (xs ++ [[AV.str (st [122, u8of (xs.length : Int)]), .sl 3 none false (C0.map Col.c), .int .i64 1]]) (X ++ [(⟨[122, u8of (xs.length : Int)], C0, 1⟩ : Tab)]) s0 q0 (by rw [List.getElem?_append_left (by omega)]; exact h0) (lens_snocT h1 rfl)
      (fun B hB => wk_snocT (h2 B hB) (.cons _ _ _ _ (.wk _ _ (.refl _)) (.cons _ _ _ _ (.wk _ _ (.refl _)) (.cons _ _ _ _ (.wk _ _ (.refl _)) .nil)))) (by rw [List.length_append]; simp only [List.length_cons, List.length_nil]; omega) (by rw [List.length_append]; simp only [List.length_cons, List.length_nil]; omega)
      (fun y hy => by
        rcases List.mem_append.1 hy with hy | hy
        · exact hX y hy
        · rw [List.mem_singleton.1 hy]
          exact hC) hC R hR
    exact VloopS.weakE (l := [(3, .int .u8 n.toNat), (11, .bsl 3 4 0 (xs ++ [[AV.str (st [122, u8of (xs.length : Int)]), .sl 3 none false (C0.map Col.c), .int .i64 1]]).length)]) (h := [.ro [], .arr 3 (C1.map Col.c), .ro [], .ro [], .arr 3 (xs ++ [[AV.str (st [122, u8of (xs.length : Int)]), .sl 3 none false (C0.map Col.c), .int .i64 1]])]) rfl ⟨.refl _, .refl _, trivial⟩ rfl (Nat.zero_le _) nx
  · refine cond_f (decide_eq_false hc) ?_
    refine ex_s (σ' := ⟨[], [(11, .sl 3 none false (X.map Tab.c))], [.ro [], .ro [], .ro [], .ro []]⟩) (ShiftS.fz (fzOf [(3, 3, xs), (1, 3, C1.map Col.c)]) ⟨wk_tb rfl rfl h1 (h2 _ rfl), trivial⟩ (HFL.same 0 _ _ _ rfl (HFL.fz 1 3 _ _ _ rfl (HFL.same 2 _ _ _ rfl (HFL.fz 3 3 _ _ _ rfl (.nil 4))))) (fzOf_ab rfl rfl)) (hR X (by omega) hX _)

theorem tds1 (n : UInt8) (C1 : List Col) (C0 : List Col) (xs : List (List AV)) (X : List Tab) (s0 : ByteArray) (q0 : Int) (h0 : xs[0]? = some [.str s0, .sl 3 none false (C0.map Col.c), .int .i64 q0])
    (h1 : xs.map List.length = (X.map Tab.c).map List.length) (h2 : ∀ B : Nat → Option (Nat × List (List AV)), B 1 = some (3, C1.map Col.c) → WkFL B xs.flatten (X.map Tab.c).flatten) (hj : 2 ≤ xs.length) (hM : xs.length ≤ 1001) (hX : ∀ y, y ∈ X → y.cs.length ≤ 1000000) (hC : C0.length ≤ 1000000)
    (R : VE → Sy → Prop) (hR : ∀ X' : List Tab, X'.length ≤ 1000000 → (∀ y, y ∈ X' → y.cs.length ≤ 1000000) → ∀ hb, R (.exit 1) ⟨[], [(11, .sl 3 none false (X'.map Tab.c))], hb⟩) :
    VloopS Tryd.prog (tr [1000037, 2000037, 1000045, 2000045, 3000210, 11, 1000077, 2000011]) 215 0 c5b0 (exS R) ⟨[], [(3, .int .u8 n.toNat), (11, .bsl 3 2 0 xs.length)], [.ro [], .arr 3 (C1.map Col.c), .arr 3 xs]⟩ := by
  have hl3 : ∀ y, y ∈ xs → y.length = 3 := lensF (by rw [h1]) (tab_lens X)
  have hXl : X.length = xs.length := by
    have := congrArg List.length h1
    simpa using this.symm
  refine VloopS.round ?_
  refine And.intro (by decide) ?_
  by_cases hc : (xs.length : Int) < IntKind.i64.wrap ((n.toNat : Int).tmod 6)
  · refine cond_t (decide_eq_true hc) ?_
    refine Exists.intro [122, u8of (xs.length : Int)] (And.intro (z_name xs.length) ?_)
    refine And.intro rfl (And.intro ⟨Int.le_refl _, by omega⟩ ?_)
    refine Exists.intro 0 (Exists.intro 1 (Exists.intro [.str s0, .sl 3 none false (C0.map Col.c), .int .i64 q0] (And.intro ⟨rfl, rfl, hl3⟩ (And.intro h0 ?_))))
    refine And.intro ⟨rfl, rfl, rfl, rfl, by omega⟩ (And.intro (.inl rfl) (And.intro ⟨by simp only [List.length_cons, List.length_nil]; omega, by simp only [List.length_cons, List.length_nil]; omega⟩ ?_))
    refine And.intro (by kernel_rfl) ?_
    have nx := tds2 n C1 C0 (xs ++ [[AV.str (st [122, u8of (xs.length : Int)]), .sl 3 none false (C0.map Col.c), .int .i64 1]]) (X ++ [(⟨[122, u8of (xs.length : Int)], C0, 1⟩ : Tab)]) s0 q0 (by rw [List.getElem?_append_left (by omega)]; exact h0) (lens_snocT h1 rfl)
      (fun B hB => wk_snocT (h2 B hB) (.cons _ _ _ _ (.wk _ _ (.refl _)) (.cons _ _ _ _ (.wk _ _ (.refl _)) (.cons _ _ _ _ (.wk _ _ (.refl _)) .nil)))) (by rw [List.length_append]; simp only [List.length_cons, List.length_nil]; omega) (by rw [List.length_append]; simp only [List.length_cons, List.length_nil]; omega)
      (fun y hy => by
        rcases List.mem_append.1 hy with hy | hy
        · exact hX y hy
        · rw [List.mem_singleton.1 hy]
          exact hC) hC R hR
    exact VloopS.weakE (l := [(3, .int .u8 n.toNat), (11, .bsl 3 3 0 (xs ++ [[AV.str (st [122, u8of (xs.length : Int)]), .sl 3 none false (C0.map Col.c), .int .i64 1]]).length)]) (h := [.ro [], .arr 3 (C1.map Col.c), .ro [], .arr 3 (xs ++ [[AV.str (st [122, u8of (xs.length : Int)]), .sl 3 none false (C0.map Col.c), .int .i64 1]])]) rfl ⟨.refl _, .refl _, trivial⟩ rfl (Nat.zero_le _) nx
  · refine cond_f (decide_eq_false hc) ?_
    refine ex_s (σ' := ⟨[], [(11, .sl 3 none false (X.map Tab.c))], [.ro [], .ro [], .ro []]⟩) (ShiftS.fz (fzOf [(2, 3, xs), (1, 3, C1.map Col.c)]) ⟨wk_tb rfl rfl h1 (h2 _ rfl), trivial⟩ (HFL.same 0 _ _ _ rfl (HFL.fz 1 3 _ _ _ rfl (HFL.fz 2 3 _ _ _ rfl (.nil 3)))) (fzOf_ab rfl rfl)) (hR X (by omega) hX _)

theorem tds0 (n : UInt8) (C1 : List Col) (C0 : List Col) (xs : List (List AV)) (X : List Tab) (s0 : ByteArray) (q0 : Int) (h0 : xs[0]? = some [.str s0, .sl 3 none false (C0.map Col.c), .int .i64 q0])
    (h1 : xs.map List.length = (X.map Tab.c).map List.length) (h2 : ∀ B : Nat → Option (Nat × List (List AV)), B 1 = some (3, C1.map Col.c) → WkFL B xs.flatten (X.map Tab.c).flatten) (hj : 1 ≤ xs.length) (hM : xs.length ≤ 1000) (hX : ∀ y, y ∈ X → y.cs.length ≤ 1000000) (hC : C0.length ≤ 1000000)
    (R : VE → Sy → Prop) (hR : ∀ X' : List Tab, X'.length ≤ 1000000 → (∀ y, y ∈ X' → y.cs.length ≤ 1000000) → ∀ hb, R (.exit 1) ⟨[], [(11, .sl 3 none false (X'.map Tab.c))], hb⟩) :
    VloopS Tryd.prog (tr [1000037, 2000037, 1000045, 2000045, 3000210, 11, 1000077, 2000011]) 215 0 c5b0 (exS R) ⟨[], [(3, .int .u8 n.toNat), (11, .bsl 3 0 0 xs.length)], [.arr 3 xs, .arr 3 (C1.map Col.c)]⟩ := by
  have hl3 : ∀ y, y ∈ xs → y.length = 3 := lensF (by rw [h1]) (tab_lens X)
  have hXl : X.length = xs.length := by
    have := congrArg List.length h1
    simpa using this.symm
  refine VloopS.round ?_
  refine And.intro (by decide) ?_
  by_cases hc : (xs.length : Int) < IntKind.i64.wrap ((n.toNat : Int).tmod 6)
  · refine cond_t (decide_eq_true hc) ?_
    refine Exists.intro [122, u8of (xs.length : Int)] (And.intro (z_name xs.length) ?_)
    refine And.intro rfl (And.intro ⟨Int.le_refl _, by omega⟩ ?_)
    refine Exists.intro 0 (Exists.intro 1 (Exists.intro [.str s0, .sl 3 none false (C0.map Col.c), .int .i64 q0] (And.intro ⟨rfl, rfl, hl3⟩ (And.intro h0 ?_))))
    refine And.intro ⟨rfl, rfl, rfl, rfl, by omega⟩ (And.intro (.inl rfl) (And.intro ⟨by simp only [List.length_cons, List.length_nil]; omega, by simp only [List.length_cons, List.length_nil]; omega⟩ ?_))
    refine And.intro (by kernel_rfl) ?_
    have nx := tds1 n C1 C0 (xs ++ [[AV.str (st [122, u8of (xs.length : Int)]), .sl 3 none false (C0.map Col.c), .int .i64 1]]) (X ++ [(⟨[122, u8of (xs.length : Int)], C0, 1⟩ : Tab)]) s0 q0 (by rw [List.getElem?_append_left (by omega)]; exact h0) (lens_snocT h1 rfl)
      (fun B hB => wk_snocT (h2 B hB) (.cons _ _ _ _ (.wk _ _ (.refl _)) (.cons _ _ _ _ (.wk _ _ (.refl _)) (.cons _ _ _ _ (.wk _ _ (.refl _)) .nil)))) (by rw [List.length_append]; simp only [List.length_cons, List.length_nil]; omega) (by rw [List.length_append]; simp only [List.length_cons, List.length_nil]; omega)
      (fun y hy => by
        rcases List.mem_append.1 hy with hy | hy
        · exact hX y hy
        · rw [List.mem_singleton.1 hy]
          exact hC) hC R hR
    exact VloopS.weakE (l := [(3, .int .u8 n.toNat), (11, .bsl 3 2 0 (xs ++ [[AV.str (st [122, u8of (xs.length : Int)]), .sl 3 none false (C0.map Col.c), .int .i64 1]]).length)]) (h := [.ro [], .arr 3 (C1.map Col.c), .arr 3 (xs ++ [[AV.str (st [122, u8of (xs.length : Int)]), .sl 3 none false (C0.map Col.c), .int .i64 1]])]) rfl ⟨.refl _, .refl _, trivial⟩ rfl (Nat.zero_le _) nx
  · refine cond_f (decide_eq_false hc) ?_
    refine ex_s (σ' := ⟨[], [(11, .sl 3 none false (X.map Tab.c))], [.ro [], .ro []]⟩) (ShiftS.fz (fzOf [(0, 3, xs), (1, 3, C1.map Col.c)]) ⟨wk_tb rfl rfl h1 (h2 _ rfl), trivial⟩ (HFL.fz 0 3 _ _ _ rfl (HFL.fz 1 3 _ _ _ rfl (.nil 2))) (fzOf_ab rfl rfl)) (hR X (by omega) hX _)

theorem tr11 (nl : Option Bool) (own : Bool) (l : List Form) (hl : l.length ≤ 9223372036854775807) (hfw : fewD l = true) (what at_ n : UInt8) (em : (what.toNat : Int).tmod 12 = 11) : PCallN Tryd.prog 5 [.sl 2 nl own (l.map Form.c), .int .u8 what.toNat, .int .u8 at_.toNat, .int .u8 n.toNat] (.bool true) := by
  refine PCallN.of (tr [1000037, 2000037, 1000045, 2000045, 3000210, 11, 1000077, 2000011]) f5 (Nat.le_of_ble_eq_true rfl) (np_right _ _ _ _) (.bool _) ?_
  refine call_p noughtsN ?_
  repeat (first | refine guard_t rfl ?_ | refine guard_f (by decide) ?_)
  refine call_p (fewN _ _ l hl) ?_
  rw [hfw]
  repeat (first | refine guard_t rfl ?_ | refine guard_f (by decide) ?_)
  refine cond_f rfl ?_
  refine call_p (tablesN _ _ l) ?_
  have hx := tables_len l
  have hx4 := tabN_le l
  have hcs := tables_cs l
  have q1 := rightTN none false (tables l) (by omega) (fun t ht => Nat.le_trans (hcs t ht) (by decide))
  have q2 := rRightTN none false (tables l) (by omega) (fun t ht => Nat.le_trans (hcs t ht) (by decide))
  rw [rf_rg, rg_tables] at q2
  rw [rg_tables] at q1
  refine call_p q1 ?_
  repeat (first | refine guard_t rfl ?_ | refine guard_f (by decide) ?_)
  refine call_p q2 ?_
  repeat (first | refine guard_t rfl ?_ | refine guard_f (by decide) ?_)
  refine cond_f rfl ?_
  clear q1 q2
  refine And.intro (by rw [List.length_map]; omega) ?_
  rw [List.length_map, rem_i64]
  have hlt : at_.toNat % (tables l).length < (tables l).length := Nat.mod_lt _ (by omega)
  obtain ⟨m0, hm1, hm2, hm3, hm4⟩ := tabAt_ok l (at_.toNat % (tables l).length)
  rw [← tables_get l _ hlt] at hm1 hm3 hm4
  have hx0 : 0 < (tables l).length ∧ (tables l).length ≤ 4 := by omega
  clear hx hx4
  generalize at_.toNat % (tables l).length = k at hlt hm1 hm3 hm4 ⊢
  generalize tables l = x at hlt hm1 hm3 hm4 hcs hx0 ⊢
  clear hm1 hfw hl
  have hkm : (k : Int) < (((x.map Tab.c).length : Nat) : Int) := by rw [List.length_map]; omega
  have hkl : k < (x.map Tab.c).length := by rw [List.length_map]; omega
  refine And.intro rfl (And.intro (.inl rfl) (And.intro (by rw [List.length_map]; omega) (And.intro ⟨by rw [List.length_map]; omega, by rw [List.length_map]; omega⟩ ?_)))
  refine And.intro rfl (And.intro ⟨Int.natCast_nonneg _, hkm⟩ ?_)
  refine Exists.intro k (Exists.intro 1 (Exists.intro x[k].c (And.intro ⟨off3 k 1, rfl, tab_lens x⟩ (And.intro (map_get hlt) ?_))))
  refine And.intro rfl (And.intro (.inl rfl) (And.intro (by rw [List.length_map]; omega) (And.intro ⟨by rw [List.length_map]; omega, by rw [List.length_map]; omega⟩ ?_)))
  refine And.intro rfl (And.intro ⟨Int.natCast_nonneg _, hkm⟩ ?_)
  refine Exists.intro k (Exists.intro 1 (Exists.intro x[k].c (And.intro ⟨off3 k 1, by decide, by decide⟩ (And.intro (map_get hlt) ?_))))
  refine And.intro rfl (And.intro ⟨Int.natCast_nonneg _, hkm⟩ ?_)
  refine Exists.intro k (Exists.intro 1 (Exists.intro [.str (st x[k].n), .bsl 3 1 0 (x[k].cs.map Col.c).length, .int .i64 x[k].ks] (And.intro ⟨off3 k 1, rfl, set_lens (tab_lens x) rfl⟩ (And.intro (set_get hkl _) ?_))))
  refine And.intro (by rw [List.length_map]; omega) ?_
  rw [List.length_map, rem_i64]
  have hcl : n.toNat % x[k].cs.length < x[k].cs.length := Nat.mod_lt _ (by omega)
  refine And.intro (by decide) ?_
  refine cond_f (by rw [em]; rfl) ?_
  refine cond_f (by rw [em]; rfl) ?_
  refine cond_f (by rw [em]; rfl) ?_
  refine cond_f (by rw [em]; rfl) ?_
  refine cond_f (by rw [em]; rfl) ?_
  refine cond_f (by rw [em]; rfl) ?_
  refine cond_f (by rw [em]; rfl) ?_
  refine cond_f (by rw [em]; rfl) ?_
  refine cond_f (by rw [em]; rfl) ?_
  refine cond_f (by rw [em]; rfl) ?_
  refine cond_f (by rw [em]; rfl) ?_
  rcases Nat.eq_zero_or_pos k with rfl | hk0
  · refine VloopS.exS (VloopS.weakE (l := [(3, .int .u8 n.toNat), (11, .bsl 3 0 0 ((x.map Tab.c).set 0 [AV.str (st x[0].n), .bsl 3 1 0 x[0].cs.length, .int .i64 x[0].ks]).length)]) (h := [.arr 3 ((x.map Tab.c).set 0 [AV.str (st x[0].n), .bsl 3 1 0 x[0].cs.length, .int .i64 x[0].ks]), .arr 3 (x[0].cs.map Col.c)]) rfl ⟨.refl _, .eq (by rw [List.length_set]; rfl), trivial⟩ rfl (Nat.zero_le _)
      (tdb0 n x[0].cs ((x.map Tab.c).set 0 [AV.str (st x[0].n), .bsl 3 1 0 x[0].cs.length, .int .i64 x[0].ks]) (x.set 0 (⟨x[0].n, x[0].cs, x[0].ks⟩ : Tab)) (st x[0].n) x[0].ks (set_get hkl _) (tabs_lens x 0 _ _ rfl) (fun B hB => wk_tabs x 0 _ _ (.cons _ _ _ _ (.wk _ _ (.refl _)) (.cons _ _ _ _ (wk_cb (n := x[0].cs.length) (xs := x[0].cs.map Col.c) (C := x[0].cs) hB (by simp) rfl) (.cons _ _ _ _ (.wk _ _ (.refl _)) .nil)))) (by rw [List.length_set, List.length_map]; omega) (by rw [List.length_set, List.length_map]; omega)
        (set_cs hcs (by have := hcs _ (List.getElem_mem hlt); show x[0].cs.length ≤ 1000000; omega)) (by have := hcs _ (List.getElem_mem hlt); omega) _ ?_))
    intro X' hX1 hX2 hb
    refine Exists.intro _ (And.intro (ShiftS.same _) ?_)
    have q1 := rightTN none false X' hX1 hX2
    have q2 := rRightTN none false X' hX1 hX2
    rw [rf_rg] at q2
    refine call_p q1 ?_
    refine call_p q2 ?_
    exact bool_eq (beq_self_eq_true _)
  · refine VloopS.exS (VloopS.weakE (l := [(3, .int .u8 n.toNat), (11, .bsl 3 0 0 ((x.map Tab.c).set k [AV.str (st x[k].n), .bsl 3 1 0 x[k].cs.length, .int .i64 x[k].ks]).length)]) (h := [.arr 3 ((x.map Tab.c).set k [AV.str (st x[k].n), .bsl 3 1 0 x[k].cs.length, .int .i64 x[k].ks]), .arr 3 (x[k].cs.map Col.c)]) rfl ⟨.refl _, .eq (by rw [List.length_set]; rfl), trivial⟩ rfl (Nat.zero_le _)
      (tds0 n x[k].cs (x[0]'hx0.1).cs ((x.map Tab.c).set k [AV.str (st x[k].n), .bsl 3 1 0 x[k].cs.length, .int .i64 x[k].ks]) (x.set k (⟨x[k].n, x[k].cs, x[k].ks⟩ : Tab)) (st (x[0]'hx0.1).n) (x[0]'hx0.1).ks (by rw [List.getElem?_set_ne (by omega)]; exact map_get hx0.1) (tabs_lens x k _ _ rfl) (fun B hB => wk_tabs x k _ _ (.cons _ _ _ _ (.wk _ _ (.refl _)) (.cons _ _ _ _ (wk_cb (n := x[k].cs.length) (xs := x[k].cs.map Col.c) (C := x[k].cs) hB (by simp) rfl) (.cons _ _ _ _ (.wk _ _ (.refl _)) .nil)))) (by rw [List.length_set, List.length_map]; omega) (by rw [List.length_set, List.length_map]; omega)
        (set_cs hcs (by have := hcs _ (List.getElem_mem hlt); show x[k].cs.length ≤ 1000000; omega)) (by have := hcs _ (List.getElem_mem hx0.1); omega) _ ?_))
    intro X' hX1 hX2 hb
    refine Exists.intro _ (And.intro (ShiftS.same _) ?_)
    have q1 := rightTN none false X' hX1 hX2
    have q2 := rRightTN none false X' hX1 hX2
    rw [rf_rg] at q2
    refine call_p q1 ?_
    refine call_p q2 ?_
    exact bool_eq (beq_self_eq_true _)

def c5b1A : VC := .seq (.reg [⟨some 179, .mov (.tmp 11), none, none, []⟩, ⟨some 180, .mov (.tmp 10), none, none, []⟩, ⟨some 181, .ixa 3 (.tmp 179) (.tmp 180), none, none, []⟩, ⟨some 182, .fld 1 (.tmp 181), none, none, []⟩, ⟨some 183, .load none (.tmp 182), none, none, []⟩, ⟨some 184, .lenl (.tmp 183), none, none, []⟩, ⟨some 185, .mov (.tmp 3), none, none, []⟩, ⟨some 186, .bin .rem (.tmp 185) (.cst (.int .u8 12)), none, none, []⟩, ⟨some 187, .cvi .i64 (.tmp 186), none, none, []⟩, ⟨some 188, .bin .lss (.tmp 184) (.tmp 187), none, none, []⟩]) (.cond (.tmp 188) .skip (.exit 3))
def c5b1d : List VOper := [⟨some 189, .mov (.tmp 11), none, none, []⟩, ⟨some 190, .mov (.tmp 10), none, none, []⟩, ⟨some 191, .mov (.tmp 11), none, none, []⟩, ⟨some 192, .mov (.tmp 10), none, none, []⟩, ⟨some 193, .ixa 3 (.tmp 191) (.tmp 192), none, none, [2, 3]⟩, ⟨some 194, .fld 1 (.tmp 193), none, none, [4]⟩, ⟨some 195, .load none (.tmp 194), none, none, [5]⟩, ⟨some 196, .mov (.tmp 11), none, none, []⟩, ⟨some 197, .mov (.tmp 10), none, none, []⟩, ⟨some 198, .ixa 3 (.tmp 196) (.tmp 197), none, none, [7, 8]⟩, ⟨some 199, .fld 1 (.tmp 198), none, none, [9]⟩, ⟨some 200, .load none (.tmp 199), none, none, [10]⟩, ⟨some 201, .lenl (.tmp 200), none, none, [11]⟩, ⟨some 202, .cvi .u8 (.tmp 201), none, none, [12]⟩, ⟨some 203, .bslice 1 2 [.int .u8 0] [(0, .cst (.int .u8 122)), (1, .tmp 202)], none, none, [13]⟩, ⟨some 204, .cvbs (.tmp 203), none, none, [14]⟩, ⟨some 205, .build [.str ⟨#[]⟩, .int .u8 0, .bool false] [(0, (1, .tmp 204)), (1, (1, .cst (.int .u8 1)))], none, none, [15]⟩, ⟨some 206, .bslice 3 1 [.str ⟨#[]⟩, .int .u8 0, .bool false] [(0, .tmp 205)], none, none, [16]⟩, ⟨some 207, .app 3 24 (.tmp 195) (.tmp 206), none, none, [6, 17]⟩]
def c5b1e : List VOper := [⟨some 208, .ixa 3 (.tmp 189) (.tmp 190), none, none, [0, 1, 0, 1, 2, 3, 4, 5, 6, 7, 8, 9, 10, 11, 12, 13, 14, 15, 16, 17, 18]⟩, ⟨some 209, .fld 1 (.tmp 208), none, none, [19, 0, 1, 2, 3, 4, 5, 6, 7, 8, 9, 10, 11, 12, 13, 14, 15, 16, 17, 18]⟩, ⟨none, .store 1 (.tmp 209) (.tmp 207), none, none, [20, 18, 18, 0, 1, 2, 3, 4, 5, 6, 7, 8, 9, 10, 11, 12, 13, 14, 15, 16, 17, 18]⟩]
theorem c5b1_eq : c5b1 = .seq c5b1A (.block 4 (.dreg (c5b1d ++ c5b1e))) := rfl

theorem cut_open {t : Nat} {K : Sy → Prop} {σ : Sy} (h : wpNext true (some t) K σ) : ∃ σ', ShiftS σ σ' ∧ K σ' := by
  obtain ⟨σ', h1, h2⟩ := wpNext_shift h
  exact ⟨σ', h2, h1⟩

theorem tk10 (n : UInt8) (x : List Tab) (hcs : ∀ y, y ∈ x → y.cs.length ≤ 8) (hx0 : 0 < x.length ∧ x.length ≤ 4) (k : Nat) (hlt : k < x.length) (s0 : List UInt8) (q0 : Int) (C : List Col) (hj : 11 ≤ C.length) (hM : C.length ≤ 18)
    (R : VE → Sy → Prop) (hR : ∀ X' : List Tab, X'.length ≤ 1000000 → (∀ y, y ∈ X' → y.cs.length ≤ 1000000) → ∀ hb, R (.exit 3) ⟨[], [(11, .sl 3 none false (X'.map Tab.c))], hb⟩) :
    VloopS Tryd.prog (tr [1000037, 2000037, 1000045, 2000045, 3000210, 1000207]) 215 0 c5b1 (exS R) ⟨[], [(3, .int .u8 n.toNat), (10, .int .i64 (k : Int)), (11, .bsl 3 0 0 (x.map Tab.c).length)], [.arr 3 ((x.map Tab.c).set k [.str (st s0), .bsl 3 11 0 (C.map Col.c).length, .int .i64 q0]), .ro [], .ro [], .ro [], .ro [], .ro [], .ro [], .ro [], .ro [], .ro [], .ro [], .arr 3 (C.map Col.c)]⟩ := by
  have hkm : (k : Int) < (((x.map Tab.c).length : Nat) : Int) := by rw [List.length_map]; omega
  have hkl : k < (x.map Tab.c).length := by rw [List.length_map]; omega
  have hCl : (C.map Col.c).length = C.length := List.length_map _
  rw [c5b1_eq]
  refine VloopS.roundCut ?_
  refine And.intro rfl (And.intro ⟨Int.natCast_nonneg _, hkm⟩ ?_)
  refine Exists.intro k (Exists.intro 1 (Exists.intro [.str (st s0), .bsl 3 11 0 (C.map Col.c).length, .int .i64 q0] (And.intro ⟨off3 k 1, rfl, set_lens (tab_lens x) rfl⟩ (And.intro (set_get hkl _) ?_))))
  refine And.intro (by decide) ?_
  have hn12 : (n.toNat : Int).tmod 12 = ((n.toNat % 12 : Nat) : Int) := rem_u8 n 12
  have hc : ¬ (((C.map Col.c).length : Nat) : Int) < IntKind.i64.wrap ((n.toNat : Int).tmod 12) := by
    rw [hn12, i64_in _ (by omega)]
    omega
  refine cond_f (decide_eq_false hc) ?_
  refine ex_s (σ' := ⟨[], [(11, .sl 3 none false ((x.set k (⟨s0, C, q0⟩ : Tab)).map Tab.c))], [.ro [], .ro [], .ro [], .ro [], .ro [], .ro [], .ro [], .ro [], .ro [], .ro [], .ro [], .ro []]⟩) (ShiftS.fz (fzOf [(0, 3, (x.map Tab.c).set k [.str (st s0), .bsl 3 11 0 (C.map Col.c).length, .int .i64 q0]), (11, 3, C.map Col.c)]) ⟨wk_tb rfl (by rw [List.length_set]) (tabs_lens x k _ _ rfl) (wk_tabs x k _ _ (.cons _ _ _ _ (.wk _ _ (.refl _)) (.cons _ _ _ _ (wk_cb rfl rfl rfl) (.cons _ _ _ _ (.wk _ _ (.refl _)) .nil)))), trivial⟩ (HFL.fz 0 3 _ _ _ rfl (HFL.same 1 _ _ _ rfl (HFL.same 2 _ _ _ rfl (HFL.same 3 _ _ _ rfl (HFL.same 4 _ _ _ rfl (HFL.same 5 _ _ _ rfl (HFL.same 6 _ _ _ rfl (HFL.same 7 _ _ _ rfl (HFL.same 8 _ _ _ rfl (HFL.same 9 _ _ _ rfl (HFL.same 10 _ _ _ rfl (HFL.fz 11 3 _ _ _ rfl (.nil 12))))))))))))) (fzOf_ab rfl rfl)) (hR _ (by rw [List.length_set]; omega) (set_cs hcs (by show C.length ≤ 1000000; omega)) _)

theorem tk9 (n : UInt8) (x : List Tab) (hcs : ∀ y, y ∈ x → y.cs.length ≤ 8) (hx0 : 0 < x.length ∧ x.length ≤ 4) (k : Nat) (hlt : k < x.length) (s0 : List UInt8) (q0 : Int) (C : List Col) (hj : 10 ≤ C.length) (hM : C.length ≤ 17)
    (R : VE → Sy → Prop) (hR : ∀ X' : List Tab, X'.length ≤ 1000000 → (∀ y, y ∈ X' → y.cs.length ≤ 1000000) → ∀ hb, R (.exit 3) ⟨[], [(11, .sl 3 none false (X'.map Tab.c))], hb⟩) :
    VloopS Tryd.prog (tr [1000037, 2000037, 1000045, 2000045, 3000210, 1000207]) 215 0 c5b1 (exS R) ⟨[], [(3, .int .u8 n.toNat), (10, .int .i64 (k : Int)), (11, .bsl 3 0 0 (x.map Tab.c).length)], [.arr 3 ((x.map Tab.c).set k [.str (st s0), .bsl 3 10 0 (C.map Col.c).length, .int .i64 q0]), .ro [], .ro [], .ro [], .ro [], .ro [], .ro [], .ro [], .ro [], .ro [], .arr 3 (C.map Col.c)]⟩ := by
  have hkm : (k : Int) < (((x.map Tab.c).length : Nat) : Int) := by rw [List.length_map]; omega
  have hkl : k < (x.map Tab.c).length := by rw [List.length_map]; omega
  have hCl : (C.map Col.c).length = C.length := List.length_map _
  rw [c5b1_eq]
  refine VloopS.roundCut ?_
  refine And.intro rfl (And.intro ⟨Int.natCast_nonneg _, hkm⟩ ?_)
  refine Exists.intro k (Exists.intro 1 (Exists.intro [.str (st s0), .bsl 3 10 0 (C.map Col.c).length, .int .i64 q0] (And.intro ⟨off3 k 1, rfl, set_lens (tab_lens x) rfl⟩ (And.intro (set_get hkl _) ?_))))
  refine And.intro (by decide) ?_
  by_cases hc : (((C.map Col.c).length : Nat) : Int) < IntKind.i64.wrap ((n.toNat : Int).tmod 12)
  · refine cond_t (decide_eq_true hc) ?_
    refine And.intro rfl (And.intro ⟨Int.natCast_nonneg _, hkm⟩ ?_)
    refine Exists.intro k (Exists.intro 1 (Exists.intro [.str (st s0), .bsl 3 10 0 (C.map Col.c).length, .int .i64 q0] (And.intro ⟨off3 k 1, rfl, set_lens (tab_lens x) rfl⟩ (And.intro (set_get hkl _) ?_))))
    refine And.intro rfl (And.intro ⟨Int.natCast_nonneg _, hkm⟩ ?_)
    refine Exists.intro k (Exists.intro 1 (Exists.intro [.str (st s0), .bsl 3 10 0 (C.map Col.c).length, .int .i64 q0] (And.intro ⟨off3 k 1, rfl, set_lens (tab_lens x) rfl⟩ (And.intro (set_get hkl _) ?_))))
    refine Exists.intro [122, u8of ((C.map Col.c).length : Int)] (And.intro (z_name (C.map Col.c).length) ?_)
    refine And.intro ⟨rfl, rfl, rfl, rfl, by omega⟩ (And.intro (.inl rfl) (And.intro ⟨by simp only [List.length_cons, List.length_nil]; omega, by simp only [List.length_cons, List.length_nil]; omega⟩ ?_))
    refine And.intro (by kernel_rfl) (And.intro (by kernel_rfl) (cut_open (t := 207) ?_))
    refine And.intro rfl (And.intro ⟨Int.natCast_nonneg _, hkm⟩ ?_)
    refine Exists.intro k (Exists.intro 1 (Exists.intro [.str (st s0), .bsl 3 10 0 (C.map Col.c).length, .int .i64 q0] (And.intro ⟨off3 k 1, by decide, by decide⟩ (And.intro (set_get hkl _) ?_))))
    have nx := tk10 n x hcs hx0 k hlt s0 q0 (C ++ [(⟨[122, u8of ((C.map Col.c).length : Int)], 1, false⟩ : Col)]) (by rw [List.length_append]; simp only [List.length_cons, List.length_nil]; omega) (by rw [List.length_append]; simp only [List.length_cons, List.length_nil]; omega) R hR
    rw [← c5b1_eq]
    have e : C.map Col.c ++ [[AV.str (st [122, u8of ((C.map Col.c).length : Int)]), .int .u8 1, .bool false]] = (C ++ [(⟨[122, u8of ((C.map Col.c).length : Int)], 1, false⟩ : Col)]).map Col.c := by rw [List.map_append]; rfl
    refine VloopS.weakE (l := [(3, .int .u8 n.toNat), (10, .int .i64 (k : Int)), (11, .bsl 3 0 0 (x.map Tab.c).length)]) (h := [.arr 3 ((x.map Tab.c).set k [.str (st s0), .bsl 3 11 0 ((C ++ [(⟨[122, u8of ((C.map Col.c).length : Int)], 1, false⟩ : Col)]).map Col.c).length, .int .i64 q0]), .ro [], .ro [], .ro [], .ro [], .ro [], .ro [], .ro [], .ro [], .ro [], .ro [], .arr 3 ((C ++ [(⟨[122, u8of ((C.map Col.c).length : Int)], 1, false⟩ : Col)]).map Col.c)]) rfl ⟨.refl _, .refl _, .refl _, trivial⟩ ?_ (Nat.zero_le _) nx
    show [HObj.arr 3 (((x.map Tab.c).set k [.str (st s0), .bsl 3 10 0 (C.map Col.c).length, .int .i64 q0]).set k [.str (st s0), .bsl 3 11 0 (C.map Col.c ++ [[AV.str (st [122, u8of ((C.map Col.c).length : Int)]), .int .u8 1, .bool false]]).length, .int .i64 q0]), .ro [], .ro [], .ro [], .ro [], .ro [], .ro [], .ro [], .ro [], .ro [], .ro [], .arr 3 (C.map Col.c ++ [[AV.str (st [122, u8of ((C.map Col.c).length : Int)]), .int .u8 1, .bool false]])] = _
    rw [List.set_set, e]
  · refine cond_f (decide_eq_false hc) ?_
    refine ex_s (σ' := ⟨[], [(11, .sl 3 none false ((x.set k (⟨s0, C, q0⟩ : Tab)).map Tab.c))], [.ro [], .ro [], .ro [], .ro [], .ro [], .ro [], .ro [], .ro [], .ro [], .ro [], .ro []]⟩) (ShiftS.fz (fzOf [(0, 3, (x.map Tab.c).set k [.str (st s0), .bsl 3 10 0 (C.map Col.c).length, .int .i64 q0]), (10, 3, C.map Col.c)]) ⟨wk_tb rfl (by rw [List.length_set]) (tabs_lens x k _ _ rfl) (wk_tabs x k _ _ (.cons _ _ _ _ (.wk _ _ (.refl _)) (.cons _ _ _ _ (wk_cb rfl rfl rfl) (.cons _ _ _ _ (.wk _ _ (.refl _)) .nil)))), trivial⟩ (HFL.fz 0 3 _ _ _ rfl (HFL.same 1 _ _ _ rfl (HFL.same 2 _ _ _ rfl (HFL.same 3 _ _ _ rfl (HFL.same 4 _ _ _ rfl (HFL.same 5 _ _ _ rfl (HFL.same 6 _ _ _ rfl (HFL.same 7 _ _ _ rfl (HFL.same 8 _ _ _ rfl (HFL.same 9 _ _ _ rfl (HFL.fz 10 3 _ _ _ rfl (.nil 11)))))))))))) (fzOf_ab rfl rfl)) (hR _ (by rw [List.length_set]; omega) (set_cs hcs (by show C.length ≤ 1000000; omega)) _)

theorem tk8 (n : UInt8) (x : List Tab) (hcs : ∀ y, y ∈ x → y.cs.length ≤ 8) (hx0 : 0 < x.length ∧ x.length ≤ 4) (k : Nat) (hlt : k < x.length) (s0 : List UInt8) (q0 : Int) (C : List Col) (hj : 9 ≤ C.length) (hM : C.length ≤ 16)
    (R : VE → Sy → Prop) (hR : ∀ X' : List Tab, X'.length ≤ 1000000 → (∀ y, y ∈ X' → y.cs.length ≤ 1000000) → ∀ hb, R (.exit 3) ⟨[], [(11, .sl 3 none false (X'.map Tab.c))], hb⟩) :
    VloopS Tryd.prog (tr [1000037, 2000037, 1000045, 2000045, 3000210, 1000207]) 215 0 c5b1 (exS R) ⟨[], [(3, .int .u8 n.toNat), (10, .int .i64 (k : Int)), (11, .bsl 3 0 0 (x.map Tab.c).length)], [.arr 3 ((x.map Tab.c).set k [.str (st s0), .bsl 3 9 0 (C.map Col.c).length, .int .i64 q0]), .ro [], .ro [], .ro [], .ro [], .ro [], .ro [], .ro [], .ro [], .arr 3 (C.map Col.c)]⟩ := by
  have hkm : (k : Int) < (((x.map Tab.c).length : Nat) : Int) := by rw [List.length_map]; omega
  have hkl : k < (x.map Tab.c).length := by rw [List.length_map]; omega
  have hCl : (C.map Col.c).length = C.length := List.length_map _
  rw [c5b1_eq]
  refine VloopS.roundCut ?_
  refine And.intro rfl (And.intro ⟨Int.natCast_nonneg _, hkm⟩ ?_)
  refine Exists.intro k (Exists.intro 1 (Exists.intro [.str (st s0), .bsl 3 9 0 (C.map Col.c).length, .int .i64 q0] (And.intro ⟨off3 k 1, rfl, set_lens (tab_lens x) rfl⟩ (And.intro (set_get hkl _) ?_))))
  refine And.intro (by decide) ?_
  by_cases hc : (((C.map Col.c).length : Nat) : Int) < IntKind.i64.wrap ((n.toNat : Int).tmod 12)
  · refine cond_t (decide_eq_true hc) ?_
    refine And.intro rfl (And.intro ⟨Int.natCast_nonneg _, hkm⟩ ?_)
    refine Exists.intro k (Exists.intro 1 (Exists.intro [.str (st s0), .bsl 3 9 0 (C.map Col.c).length, .int .i64 q0] (And.intro ⟨off3 k 1, rfl, set_lens (tab_lens x) rfl⟩ (And.intro (set_get hkl _) ?_))))
    refine And.intro rfl (And.intro ⟨Int.natCast_nonneg _, hkm⟩ ?_)
    refine Exists.intro k (Exists.intro 1 (Exists.intro [.str (st s0), .bsl 3 9 0 (C.map Col.c).length, .int .i64 q0] (And.intro ⟨off3 k 1, rfl, set_lens (tab_lens x) rfl⟩ (And.intro (set_get hkl _) ?_))))
    refine Exists.intro [122, u8of ((C.map Col.c).length : Int)] (And.intro (z_name (C.map Col.c).length) ?_)
    refine And.intro ⟨rfl, rfl, rfl, rfl, by omega⟩ (And.intro (.inl rfl) (And.intro ⟨by simp only [List.length_cons, List.length_nil]; omega, by simp only [List.length_cons, List.length_nil]; omega⟩ ?_))
    refine And.intro (by kernel_rfl) (And.intro (by kernel_rfl) (cut_open (t := 207) ?_))
    refine And.intro rfl (And.intro ⟨Int.natCast_nonneg _, hkm⟩ ?_)
    refine Exists.intro k (Exists.intro 1 (Exists.intro [.str (st s0), .bsl 3 9 0 (C.map Col.c).length, .int .i64 q0] (And.intro ⟨off3 k 1, by decide, by decide⟩ (And.intro (set_get hkl _) ?_))))
    have nx := tk9 n x hcs hx0 k hlt s0 q0 (C ++ [(⟨[122, u8of ((C.map Col.c).length : Int)], 1, false⟩ : Col)]) (by rw [List.length_append]; simp only [List.length_cons, List.length_nil]; omega) (by rw [List.length_append]; simp only [List.length_cons, List.length_nil]; omega) R hR
    rw [← c5b1_eq]
    have e : C.map Col.c ++ [[AV.str (st [122, u8of ((C.map Col.c).length : Int)]), .int .u8 1, .bool false]] = (C ++ [(⟨[122, u8of ((C.map Col.c).length : Int)], 1, false⟩ : Col)]).map Col.c := by rw [List.map_append]; rfl
    refine VloopS.weakE (l := [(3, .int .u8 n.toNat), (10, .int .i64 (k : Int)), (11, .bsl 3 0 0 (x.map Tab.c).length)]) (h := [.arr 3 ((x.map Tab.c).set k [.str (st s0), .bsl 3 10 0 ((C ++ [(⟨[122, u8of ((C.map Col.c).length : Int)], 1, false⟩ : Col)]).map Col.c).length, .int .i64 q0]), .ro [], .ro [], .ro [], .ro [], .ro [], .ro [], .ro [], .ro [], .ro [], .arr 3 ((C ++ [(⟨[122, u8of ((C.map Col.c).length : Int)], 1, false⟩ : Col)]).map Col.c)]) rfl ⟨.refl _, .refl _, .refl _, trivial⟩ ?_ (Nat.zero_le _) nx
    show [HObj.arr 3 (((x.map Tab.c).set k [.str (st s0), .bsl 3 9 0 (C.map Col.c).length, .int .i64 q0]).set k [.str (st s0), .bsl 3 10 0 (C.map Col.c ++ [[AV.str (st [122, u8of ((C.map Col.c).length : Int)]), .int .u8 1, .bool false]]).length, .int .i64 q0]), .ro [], .ro [], .ro [], .ro [], .ro [], .ro [], .ro [], .ro [], .ro [], .arr 3 (C.map Col.c ++ [[AV.str (st [122, u8of ((C.map Col.c).length : Int)]), .int .u8 1, .bool false]])] = _
    rw [List.set_set, e]
  · refine cond_f (decide_eq_false hc) ?_
    refine ex_s (σ' := ⟨[], [(11, .sl 3 none false ((x.set k (⟨s0, C, q0⟩ : Tab)).map Tab.c))], [.ro [], .ro [], .ro [], .ro [], .ro [], .ro [], .ro [], .ro [], .ro [], .ro []]⟩) (ShiftS.fz (fzOf [(0, 3, (x.map Tab.c).set k [.str (st s0), .bsl 3 9 0 (C.map Col.c).length, .int .i64 q0]), (9, 3, C.map Col.c)]) ⟨wk_tb rfl (by rw [List.length_set]) (tabs_lens x k _ _ rfl) (wk_tabs x k _ _ (.cons _ _ _ _ (.wk _ _ (.refl _)) (.cons _ _ _ _ (wk_cb rfl rfl rfl) (.cons _ _ _ _ (.wk _ _ (.refl _)) .nil)))), trivial⟩ (HFL.fz 0 3 _ _ _ rfl (HFL.same 1 _ _ _ rfl (HFL.same 2 _ _ _ rfl (HFL.same 3 _ _ _ rfl (HFL.same 4 _ _ _ rfl (HFL.same 5 _ _ _ rfl (HFL.same 6 _ _ _ rfl (HFL.same 7 _ _ _ rfl (HFL.same 8 _ _ _ rfl (HFL.fz 9 3 _ _ _ rfl (.nil 10))))))))))) (fzOf_ab rfl rfl)) (hR _ (by rw [List.length_set]; omega) (set_cs hcs (by show C.length ≤ 1000000; omega)) _)

theorem tk7 (n : UInt8) (x : List Tab) (hcs : ∀ y, y ∈ x → y.cs.length ≤ 8) (hx0 : 0 < x.length ∧ x.length ≤ 4) (k : Nat) (hlt : k < x.length) (s0 : List UInt8) (q0 : Int) (C : List Col) (hj : 8 ≤ C.length) (hM : C.length ≤ 15)
    (R : VE → Sy → Prop) (hR : ∀ X' : List Tab, X'.length ≤ 1000000 → (∀ y, y ∈ X' → y.cs.length ≤ 1000000) → ∀ hb, R (.exit 3) ⟨[], [(11, .sl 3 none false (X'.map Tab.c))], hb⟩) :
    VloopS Tryd.prog (tr [1000037, 2000037, 1000045, 2000045, 3000210, 1000207]) 215 0 c5b1 (exS R) ⟨[], [(3, .int .u8 n.toNat), (10, .int .i64 (k : Int)), (11, .bsl 3 0 0 (x.map Tab.c).length)], [.arr 3 ((x.map Tab.c).set k [.str (st s0), .bsl 3 8 0 (C.map Col.c).length, .int .i64 q0]), .ro [], .ro [], .ro [], .ro [], .ro [], .ro [], .ro [], .arr 3 (C.map Col.c)]⟩ := by
  have hkm : (k : Int) < (((x.map Tab.c).length : Nat) : Int) := by rw [List.length_map]; omega
  have hkl : k < (x.map Tab.c).length := by rw [List.length_map]; omega
  have hCl : (C.map Col.c).length = C.length := List.length_map _
  rw [c5b1_eq]
  refine VloopS.roundCut ?_
  refine And.intro rfl (And.intro ⟨Int.natCast_nonneg _, hkm⟩ ?_)
  refine Exists.intro k (Exists.intro 1 (Exists.intro [.str (st s0), .bsl 3 8 0 (C.map Col.c).length, .int .i64 q0] (And.intro ⟨off3 k 1, rfl, set_lens (tab_lens x) rfl⟩ (And.intro (set_get hkl _) ?_))))
  refine And.intro (by decide) ?_
  by_cases hc : (((C.map Col.c).length : Nat) : Int) < IntKind.i64.wrap ((n.toNat : Int).tmod 12)
  · refine cond_t (decide_eq_true hc) ?_
    refine And.intro rfl (And.intro ⟨Int.natCast_nonneg _, hkm⟩ ?_)
    refine Exists.intro k (Exists.intro 1 (Exists.intro [.str (st s0), .bsl 3 8 0 (C.map Col.c).length, .int .i64 q0] (And.intro ⟨off3 k 1, rfl, set_lens (tab_lens x) rfl⟩ (And.intro (set_get hkl _) ?_))))
    refine And.intro rfl (And.intro ⟨Int.natCast_nonneg _, hkm⟩ ?_)
    refine Exists.intro k (Exists.intro 1 (Exists.intro [.str (st s0), .bsl 3 8 0 (C.map Col.c).length, .int .i64 q0] (And.intro ⟨off3 k 1, rfl, set_lens (tab_lens x) rfl⟩ (And.intro (set_get hkl _) ?_))))
    refine Exists.intro [122, u8of ((C.map Col.c).length : Int)] (And.intro (z_name (C.map Col.c).length) ?_)
    refine And.intro ⟨rfl, rfl, rfl, rfl, by omega⟩ (And.intro (.inl rfl) (And.intro ⟨by simp only [List.length_cons, List.length_nil]; omega, by simp only [List.length_cons, List.length_nil]; omega⟩ ?_))
    refine And.intro (by kernel_rfl) (And.intro (by kernel_rfl) (cut_open (t := 207) ?_))
    refine And.intro rfl (And.intro ⟨Int.natCast_nonneg _, hkm⟩ ?_)
    refine Exists.intro k (Exists.intro 1 (Exists.intro [.str (st s0), .bsl 3 8 0 (C.map Col.c).length, .int .i64 q0] (And.intro ⟨off3 k 1, by decide, by decide⟩ (And.intro (set_get hkl _) ?_))))
    have nx := tk8 n x hcs hx0 k hlt s0 q0 (C ++ [(⟨[122, u8of ((C.map Col.c).length : Int)], 1, false⟩ : Col)]) (by rw [List.length_append]; simp only [List.length_cons, List.length_nil]; omega) (by rw [List.length_append]; simp only [List.length_cons, List.length_nil]; omega) R hR
    rw [← c5b1_eq]
    have e : C.map Col.c ++ [[AV.str (st [122, u8of ((C.map Col.c).length : Int)]), .int .u8 1, .bool false]] = (C ++ [(⟨[122, u8of ((C.map Col.c).length : Int)], 1, false⟩ : Col)]).map Col.c := by rw [List.map_append]; rfl
    refine VloopS.weakE (l := [(3, .int .u8 n.toNat), (10, .int .i64 (k : Int)), (11, .bsl 3 0 0 (x.map Tab.c).length)]) (h := [.arr 3 ((x.map Tab.c).set k [.str (st s0), .bsl 3 9 0 ((C ++ [(⟨[122, u8of ((C.map Col.c).length : Int)], 1, false⟩ : Col)]).map Col.c).length, .int .i64 q0]), .ro [], .ro [], .ro [], .ro [], .ro [], .ro [], .ro [], .ro [], .arr 3 ((C ++ [(⟨[122, u8of ((C.map Col.c).length : Int)], 1, false⟩ : Col)]).map Col.c)]) rfl ⟨.refl _, .refl _, .refl _, trivial⟩ ?_ (Nat.zero_le _) nx
    show [HObj.arr 3 (((x.map Tab.c).set k [.str (st s0), .bsl 3 8 0 (C.map Col.c).length, .int .i64 q0]).set k [.str (st s0), .bsl 3 9 0 (C.map Col.c ++ [[AV.str (st [122, u8of ((C.map Col.c).length : Int)]), .int .u8 1, .bool false]]).length, .int .i64 q0]), .ro [], .ro [], .ro [], .ro [], .ro [], .ro [], .ro [], .ro [], .arr 3 (C.map Col.c ++ [[AV.str (st [122, u8of ((C.map Col.c).length : Int)]), .int .u8 1, .bool false]])] = _
    rw [List.set_set, e]
  · refine cond_f (decide_eq_false hc) ?_
    refine ex_s (σ' := ⟨[], [(11, .sl 3 none false ((x.set k (⟨s0, C, q0⟩ : Tab)).map Tab.c))], [.ro [], .ro [], .ro [], .ro [], .ro [], .ro [], .ro [], .ro [], .ro []]⟩) (ShiftS.fz (fzOf [(0, 3, (x.map Tab.c).set k [.str (st s0), .bsl 3 8 0 (C.map Col.c).length, .int .i64 q0]), (8, 3, C.map Col.c)]) ⟨wk_tb rfl (by rw [List.length_set]) (tabs_lens x k _ _ rfl) (wk_tabs x k _ _ (.cons _ _ _ _ (.wk _ _ (.refl _)) (.cons _ _ _ _ (wk_cb rfl rfl rfl) (.cons _ _ _ _ (.wk _ _ (.refl _)) .nil)))), trivial⟩ (HFL.fz 0 3 _ _ _ rfl (HFL.same 1 _ _ _ rfl (HFL.same 2 _ _ _ rfl (HFL.same 3 _ _ _ rfl (HFL.same 4 _ _ _ rfl (HFL.same 5 _ _ _ rfl (HFL.same 6 _ _ _ rfl (HFL.same 7 _ _ _ rfl (HFL.fz 8 3 _ _ _ rfl (.nil 9)))))))))) (fzOf_ab rfl rfl)) (hR _ (by rw [List.length_set]; omega) (set_cs hcs (by show C.length ≤ 1000000; omega)) _)

theorem tk6 (n : UInt8) (x : List Tab) (hcs : ∀ y, y ∈ x → y.cs.length ≤ 8) (hx0 : 0 < x.length ∧ x.length ≤ 4) (k : Nat) (hlt : k < x.length) (s0 : List UInt8) (q0 : Int) (C : List Col) (hj : 7 ≤ C.length) (hM : C.length ≤ 14)
    (R : VE → Sy → Prop) (hR : ∀ X' : List Tab, X'.length ≤ 1000000 → (∀ y, y ∈ X' → y.cs.length ≤ 1000000) → ∀ hb, R (.exit 3) ⟨[], [(11, .sl 3 none false (X'.map Tab.c))], hb⟩) :
    VloopS Tryd.prog (tr [1000037, 2000037, 1000045, 2000045, 3000210, 1000207]) 215 0 c5b1 (exS R) ⟨[], [(3, .int .u8 n.toNat), (10, .int .i64 (k : Int)), (11, .bsl 3 0 0 (x.map Tab.c).length)], [.arr 3 ((x.map Tab.c).set k [.str (st s0), .bsl 3 7 0 (C.map Col.c).length, .int .i64 q0]), .ro [], .ro [], .ro [], .ro [], .ro [], .ro [], .arr 3 (C.map Col.c)]⟩ := by
  have hkm : (k : Int) < (((x.map Tab.c).length : Nat) : Int) := by rw [List.length_map]; omega
  have hkl : k < (x.map Tab.c).length := by rw [List.length_map]; omega
  have hCl : (C.map Col.c).length = C.length := List.length_map _
  rw [c5b1_eq]
  refine VloopS.roundCut ?_
  refine And.intro rfl (And.intro ⟨Int.natCast_nonneg _, hkm⟩ ?_)
  refine Exists.intro k (Exists.intro 1 (Exists.intro [.str (st s0), .bsl 3 7 0 (C.map Col.c).length, .int .i64 q0] (And.intro ⟨off3 k 1, rfl, set_lens (tab_lens x) rfl⟩ (And.intro (set_get hkl _) ?_))))
  refine And.intro (by decide) ?_
  by_cases hc : (((C.map Col.c).length : Nat) : Int) < IntKind.i64.wrap ((n.toNat : Int).tmod 12)
  · refine cond_t (decide_eq_true hc) ?_
    refine And.intro rfl (And.intro ⟨Int.natCast_nonneg _, hkm⟩ ?_)
    refine Exists.intro k (Exists.intro 1 (Exists.intro [.str (st s0), .bsl 3 7 0 (C.map Col.c).length, .int .i64 q0] (And.intro ⟨off3 k 1, rfl, set_lens (tab_lens x) rfl⟩ (And.intro (set_get hkl _) ?_))))
    refine And.intro rfl (And.intro ⟨Int.natCast_nonneg _, hkm⟩ ?_)
    refine Exists.intro k (Exists.intro 1 (Exists.intro [.str (st s0), .bsl 3 7 0 (C.map Col.c).length, .int .i64 q0] (And.intro ⟨off3 k 1, rfl, set_lens (tab_lens x) rfl⟩ (And.intro (set_get hkl _) ?_))))
    refine Exists.intro [122, u8of ((C.map Col.c).length : Int)] (And.intro (z_name (C.map Col.c).length) ?_)
    refine And.intro ⟨rfl, rfl, rfl, rfl, by omega⟩ (And.intro (.inl rfl) (And.intro ⟨by simp only [List.length_cons, List.length_nil]; omega, by simp only [List.length_cons, List.length_nil]; omega⟩ ?_))
    refine And.intro (by kernel_rfl) (And.intro (by kernel_rfl) (cut_open (t := 207) ?_))
    refine And.intro rfl (And.intro ⟨Int.natCast_nonneg _, hkm⟩ ?_)
    refine Exists.intro k (Exists.intro 1 (Exists.intro [.str (st s0), .bsl 3 7 0 (C.map Col.c).length, .int .i64 q0] (And.intro ⟨off3 k 1, by decide, by decide⟩ (And.intro (set_get hkl _) ?_))))
    have nx := tk7 n x hcs hx0 k hlt s0 q0 (C ++ [(⟨[122, u8of ((C.map Col.c).length : Int)], 1, false⟩ : Col)]) (by rw [List.length_append]; simp only [List.length_cons, List.length_nil]; omega) (by rw [List.length_append]; simp only [List.length_cons, List.length_nil]; omega) R hR
    rw [← c5b1_eq]
    have e : C.map Col.c ++ [[AV.str (st [122, u8of ((C.map Col.c).length : Int)]), .int .u8 1, .bool false]] = (C ++ [(⟨[122, u8of ((C.map Col.c).length : Int)], 1, false⟩ : Col)]).map Col.c := by rw [List.map_append]; rfl
    refine VloopS.weakE (l := [(3, .int .u8 n.toNat), (10, .int .i64 (k : Int)), (11, .bsl 3 0 0 (x.map Tab.c).length)]) (h := [.arr 3 ((x.map Tab.c).set k [.str (st s0), .bsl 3 8 0 ((C ++ [(⟨[122, u8of ((C.map Col.c).length : Int)], 1, false⟩ : Col)]).map Col.c).length, .int .i64 q0]), .ro [], .ro [], .ro [], .ro [], .ro [], .ro [], .ro [], .arr 3 ((C ++ [(⟨[122, u8of ((C.map Col.c).length : Int)], 1, false⟩ : Col)]).map Col.c)]) rfl ⟨.refl _, .refl _, .refl _, trivial⟩ ?_ (Nat.zero_le _) nx
    show [HObj.arr 3 (((x.map Tab.c).set k [.str (st s0), .bsl 3 7 0 (C.map Col.c).length, .int .i64 q0]).set k [.str (st s0), .bsl 3 8 0 (C.map Col.c ++ [[AV.str (st [122, u8of ((C.map Col.c).length : Int)]), .int .u8 1, .bool false]]).length, .int .i64 q0]), .ro [], .ro [], .ro [], .ro [], .ro [], .ro [], .ro [], .arr 3 (C.map Col.c ++ [[AV.str (st [122, u8of ((C.map Col.c).length : Int)]), .int .u8 1, .bool false]])] = _
    rw [List.set_set, e]
  · refine cond_f (decide_eq_false hc) ?_
    refine ex_s (σ' := ⟨[], [(11, .sl 3 none false ((x.set k (⟨s0, C, q0⟩ : Tab)).map Tab.c))], [.ro [], .ro [], .ro [], .ro [], .ro [], .ro [], .ro [], .ro []]⟩) (ShiftS.fz (fzOf [(0, 3, (x.map Tab.c).set k [.str (st s0), .bsl 3 7 0 (C.map Col.c).length, .int .i64 q0]), (7, 3, C.map Col.c)]) ⟨wk_tb rfl (by rw [List.length_set]) (tabs_lens x k _ _ rfl) (wk_tabs x k _ _ (.cons _ _ _ _ (.wk _ _ (.refl _)) (.cons _ _ _ _ (wk_cb rfl rfl rfl) (.cons _ _ _ _ (.wk _ _ (.refl _)) .nil)))), trivial⟩ (HFL.fz 0 3 _ _ _ rfl (HFL.same 1 _ _ _ rfl (HFL.same 2 _ _ _ rfl (HFL.same 3 _ _ _ rfl (HFL.same 4 _ _ _ rfl (HFL.same 5 _ _ _ rfl (HFL.same 6 _ _ _ rfl (HFL.fz 7 3 _ _ _ rfl (.nil 8))))))))) (fzOf_ab rfl rfl)) (hR _ (by rw [List.length_set]; omega) (set_cs hcs (by show C.length ≤ 1000000; omega)) _)

theorem tk5 (n : UInt8) (x : List Tab) (hcs : ∀ y, y ∈ x → y.cs.length ≤ 8) (hx0 : 0 < x.length ∧ x.length ≤ 4) (k : Nat) (hlt : k < x.length) (s0 : List UInt8) (q0 : Int) (C : List Col) (hj : 6 ≤ C.length) (hM : C.length ≤ 13)
    (R : VE → Sy → Prop) (hR : ∀ X' : List Tab, X'.length ≤ 1000000 → (∀ y, y ∈ X' → y.cs.length ≤ 1000000) → ∀ hb, R (.exit 3) ⟨[], [(11, .sl 3 none false (X'.map Tab.c))], hb⟩) :
    VloopS Tryd.prog (tr [1000037, 2000037, 1000045, 2000045, 3000210, 1000207]) 215 0 c5b1 (exS R) ⟨[], [(3, .int .u8 n.toNat), (10, .int .i64 (k : Int)), (11, .bsl 3 0 0 (x.map Tab.c).length)], [.arr 3 ((x.map Tab.c).set k [.str (st s0), .bsl 3 6 0 (C.map Col.c).length, .int .i64 q0]), .ro [], .ro [], .ro [], .ro [], .ro [], .arr 3 (C.map Col.c)]⟩ := by
  have hkm : (k : Int) < (((x.map Tab.c).length : Nat) : Int) := by rw [List.length_map]; omega
  have hkl : k < (x.map Tab.c).length := by rw [List.length_map]; omega
  have hCl : (C.map Col.c).length = C.length := List.length_map _
  rw [c5b1_eq]
  refine VloopS.roundCut ?_
  refine And.intro rfl (And.intro ⟨Int.natCast_nonneg _, hkm⟩ ?_)
  refine Exists.intro k (Exists.intro 1 (Exists.intro [.str (st s0), .bsl 3 6 0 (C.map Col.c).length, .int .i64 q0] (And.intro ⟨off3 k 1, rfl, set_lens (tab_lens x) rfl⟩ (And.intro (set_get hkl _) ?_))))
  refine And.intro (by decide) ?_
  by_cases hc : (((C.map Col.c).length : Nat) : Int) < IntKind.i64.wrap ((n.toNat : Int).tmod 12)
  · refine cond_t (decide_eq_true hc) ?_
    refine And.intro rfl (And.intro ⟨Int.natCast_nonneg _, hkm⟩ ?_)
    refine Exists.intro k (Exists.intro 1 (Exists.intro [.str (st s0), .bsl 3 6 0 (C.map Col.c).length, .int .i64 q0] (And.intro ⟨off3 k 1, rfl, set_lens (tab_lens x) rfl⟩ (And.intro (set_get hkl _) ?_))))
    refine And.intro rfl (And.intro ⟨Int.natCast_nonneg _, hkm⟩ ?_)
    refine Exists.intro k (Exists.intro 1 (Exists.intro [.str (st s0), .bsl 3 6 0 (C.map Col.c).length, .int .i64 q0] (And.intro ⟨off3 k 1, rfl, set_lens (tab_lens x) rfl⟩ (And.intro (set_get hkl _) ?_))))
    refine Exists.intro [122, u8of ((C.map Col.c).length : Int)] (And.intro (z_name (C.map Col.c).length) ?_)
    refine And.intro ⟨rfl, rfl, rfl, rfl, by omega⟩ (And.intro (.inl rfl) (And.intro ⟨by simp only [List.length_cons, List.length_nil]; omega, by simp only [List.length_cons, List.length_nil]; omega⟩ ?_))
    refine And.intro (by kernel_rfl) (And.intro (by kernel_rfl) (cut_open (t := 207) ?_))
    refine And.intro rfl (And.intro ⟨Int.natCast_nonneg _, hkm⟩ ?_)
    refine Exists.intro k (Exists.intro 1 (Exists.intro [.str (st s0), .bsl 3 6 0 (C.map Col.c).length, .int .i64 q0] (And.intro ⟨off3 k 1, by decide, by decide⟩ (And.intro (set_get hkl _) ?_))))
    have nx := tk6 n x hcs hx0 k hlt s0 q0 (C ++ [(⟨[122, u8of ((C.map Col.c).length : Int)], 1, false⟩ : Col)]) (by rw [List.length_append]; simp only [List.length_cons, List.length_nil]; omega) (by rw [List.length_append]; simp only [List.length_cons, List.length_nil]; omega) R hR
    rw [← c5b1_eq]
    have e : C.map Col.c ++ [[AV.str (st [122, u8of ((C.map Col.c).length : Int)]), .int .u8 1, .bool false]] = (C ++ [(⟨[122, u8of ((C.map Col.c).length : Int)], 1, false⟩ : Col)]).map Col.c := by rw [List.map_append]; rfl
    refine VloopS.weakE (l := [(3, .int .u8 n.toNat), (10, .int .i64 (k : Int)), (11, .bsl 3 0 0 (x.map Tab.c).length)]) (h := [.arr 3 ((x.map Tab.c).set k [.str (st s0), .bsl 3 7 0 ((C ++ [(⟨[122, u8of ((C.map Col.c).length : Int)], 1, false⟩ : Col)]).map Col.c).length, .int .i64 q0]), .ro [], .ro [], .ro [], .ro [], .ro [], .ro [], .arr 3 ((C ++ [(⟨[122, u8of ((C.map Col.c).length : Int)], 1, false⟩ : Col)]).map Col.c)]) rfl ⟨.refl _, .refl _, .refl _, trivial⟩ ?_ (Nat.zero_le _) nx
    show [HObj.arr 3 (((x.map Tab.c).set k [.str (st s0), .bsl 3 6 0 (C.map Col.c).length, .int .i64 q0]).set k [.str (st s0), .bsl 3 7 0 (C.map Col.c ++ [[AV.str (st [122, u8of ((C.map Col.c).length : Int)]), .int .u8 1, .bool false]]).length, .int .i64 q0]), .ro [], .ro [], .ro [], .ro [], .ro [], .ro [], .arr 3 (C.map Col.c ++ [[AV.str (st [122, u8of ((C.map Col.c).length : Int)]), .int .u8 1, .bool false]])] = _
    rw [List.set_set, e]
  · refine cond_f (decide_eq_false hc) ?_
    refine ex_s (σ' := ⟨[], [(11, .sl 3 none false ((x.set k (⟨s0, C, q0⟩ : Tab)).map Tab.c))], [.ro [], .ro [], .ro [], .ro [], .ro [], .ro [], .ro []]⟩) (ShiftS.fz (fzOf [(0, 3, (x.map Tab.c).set k [.str (st s0), .bsl 3 6 0 (C.map Col.c).length, .int .i64 q0]), (6, 3, C.map Col.c)]) ⟨wk_tb rfl (by rw [List.length_set]) (tabs_lens x k _ _ rfl) (wk_tabs x k _ _ (.cons _ _ _ _ (.wk _ _ (.refl _)) (.cons _ _ _ _ (wk_cb rfl rfl rfl) (.cons _ _ _ _ (.wk _ _ (.refl _)) .nil)))), trivial⟩ (HFL.fz 0 3 _ _ _ rfl (HFL.same 1 _ _ _ rfl (HFL.same 2 _ _ _ rfl (HFL.same 3 _ _ _ rfl (HFL.same 4 _ _ _ rfl (HFL.same 5 _ _ _ rfl (HFL.fz 6 3 _ _ _ rfl (.nil 7)))))))) (fzOf_ab rfl rfl)) (hR _ (by rw [List.length_set]; omega) (set_cs hcs (by show C.length ≤ 1000000; omega)) _)

theorem tk4 (n : UInt8) (x : List Tab) (hcs : ∀ y, y ∈ x → y.cs.length ≤ 8) (hx0 : 0 < x.length ∧ x.length ≤ 4) (k : Nat) (hlt : k < x.length) (s0 : List UInt8) (q0 : Int) (C : List Col) (hj : 5 ≤ C.length) (hM : C.length ≤ 12)
    (R : VE → Sy → Prop) (hR : ∀ X' : List Tab, X'.length ≤ 1000000 → (∀ y, y ∈ X' → y.cs.length ≤ 1000000) → ∀ hb, R (.exit 3) ⟨[], [(11, .sl 3 none false (X'.map Tab.c))], hb⟩) :
    VloopS Tryd.prog (tr [1000037, 2000037, 1000045, 2000045, 3000210, 1000207]) 215 0 c5b1 (exS R) ⟨[], [(3, .int .u8 n.toNat), (10, .int .i64 (k : Int)), (11, .bsl 3 0 0 (x.map Tab.c).length)], [.arr 3 ((x.map Tab.c).set k [.str (st s0), .bsl 3 5 0 (C.map Col.c).length, .int .i64 q0]), .ro [], .ro [], .ro [], .ro [], .arr 3 (C.map Col.c)]⟩ := by
  have hkm : (k : Int) < (((x.map Tab.c).length : Nat) : Int) := by rw [List.length_map]; omega
  have hkl : k < (x.map Tab.c).length := by rw [List.length_map]; omega
  have hCl : (C.map Col.c).length = C.length := List.length_map _
  rw [c5b1_eq]
  refine VloopS.roundCut ?_
  refine And.intro rfl (And.intro ⟨Int.natCast_nonneg _, hkm⟩ ?_)
  refine Exists.intro k (Exists.intro 1 (Exists.intro [.str (st s0), .bsl 3 5 0 (C.map Col.c).length, .int .i64 q0] (And.intro ⟨off3 k 1, rfl, set_lens (tab_lens x) rfl⟩ (And.intro (set_get hkl _) ?_))))
  refine And.intro (by decide) ?_
  by_cases hc : (((C.map Col.c).length : Nat) : Int) < IntKind.i64.wrap ((n.toNat : Int).tmod 12)
  · refine cond_t (decide_eq_true hc) ?_
    refine And.intro rfl (And.intro ⟨Int.natCast_nonneg _, hkm⟩ ?_)
    refine Exists.intro k (Exists.intro 1 (Exists.intro [.str (st s0), .bsl 3 5 0 (C.map Col.c).length, .int .i64 q0] (And.intro ⟨off3 k 1, rfl, set_lens (tab_lens x) rfl⟩ (And.intro (set_get hkl _) ?_))))
    refine And.intro rfl (And.intro ⟨Int.natCast_nonneg _, hkm⟩ ?_)
    refine Exists.intro k (Exists.intro 1 (Exists.intro [.str (st s0), .bsl 3 5 0 (C.map Col.c).length, .int .i64 q0] (And.intro ⟨off3 k 1, rfl, set_lens (tab_lens x) rfl⟩ (And.intro (set_get hkl _) ?_))))
    refine Exists.intro [122, u8of ((C.map Col.c).length : Int)] (And.intro (z_name (C.map Col.c).length) ?_)
    refine And.intro ⟨rfl, rfl, rfl, rfl, by omega⟩ (And.intro (.inl rfl) (And.intro ⟨by simp only [List.length_cons, List.length_nil]; omega, by simp only [List.length_cons, List.length_nil]; omega⟩ ?_))
    refine And.intro (by kernel_rfl) (And.intro (by kernel_rfl) (cut_open (t := 207) ?_))
    refine And.intro rfl (And.intro ⟨Int.natCast_nonneg _, hkm⟩ ?_)
    refine Exists.intro k (Exists.intro 1 (Exists.intro [.str (st s0), .bsl 3 5 0 (C.map Col.c).length, .int .i64 q0] (And.intro ⟨off3 k 1, by decide, by decide⟩ (And.intro (set_get hkl _) ?_))))
    have nx := tk5 n x hcs hx0 k hlt s0 q0 (C ++ [(⟨[122, u8of ((C.map Col.c).length : Int)], 1, false⟩ : Col)]) (by rw [List.length_append]; simp only [List.length_cons, List.length_nil]; omega) (by rw [List.length_append]; simp only [List.length_cons, List.length_nil]; omega) R hR
    rw [← c5b1_eq]
    have e : C.map Col.c ++ [[AV.str (st [122, u8of ((C.map Col.c).length : Int)]), .int .u8 1, .bool false]] = (C ++ [(⟨[122, u8of ((C.map Col.c).length : Int)], 1, false⟩ : Col)]).map Col.c := by rw [List.map_append]; rfl
    refine VloopS.weakE (l := [(3, .int .u8 n.toNat), (10, .int .i64 (k : Int)), (11, .bsl 3 0 0 (x.map Tab.c).length)]) (h := [.arr 3 ((x.map Tab.c).set k [.str (st s0), .bsl 3 6 0 ((C ++ [(⟨[122, u8of ((C.map Col.c).length : Int)], 1, false⟩ : Col)]).map Col.c).length, .int .i64 q0]), .ro [], .ro [], .ro [], .ro [], .ro [], .arr 3 ((C ++ [(⟨[122, u8of ((C.map Col.c).length : Int)], 1, false⟩ : Col)]).map Col.c)]) rfl ⟨.refl _, .refl _, .refl _, trivial⟩ ?_ (Nat.zero_le _) nx
    show [HObj.arr 3 (((x.map Tab.c).set k [.str (st s0), .bsl 3 5 0 (C.map Col.c).length, .int .i64 q0]).set k [.str (st s0), .bsl 3 6 0 (C.map Col.c ++ [[AV.str (st [122, u8of ((C.map Col.c).length : Int)]), .int .u8 1, .bool false]]).length, .int .i64 q0]), .ro [], .ro [], .ro [], .ro [], .ro [], .arr 3 (C.map Col.c ++ [[AV.str (st [122, u8of ((C.map Col.c).length : Int)]), .int .u8 1, .bool false]])] = _
    rw [List.set_set, e]
  · refine cond_f (decide_eq_false hc) ?_
    refine ex_s (σ' := ⟨[], [(11, .sl 3 none false ((x.set k (⟨s0, C, q0⟩ : Tab)).map Tab.c))], [.ro [], .ro [], .ro [], .ro [], .ro [], .ro []]⟩) (ShiftS.fz (fzOf [(0, 3, (x.map Tab.c).set k [.str (st s0), .bsl 3 5 0 (C.map Col.c).length, .int .i64 q0]), (5, 3, C.map Col.c)]) ⟨wk_tb rfl (by rw [List.length_set]) (tabs_lens x k _ _ rfl) (wk_tabs x k _ _ (.cons _ _ _ _ (.wk _ _ (.refl _)) (.cons _ _ _ _ (wk_cb rfl rfl rfl) (.cons _ _ _ _ (.wk _ _ (.refl _)) .nil)))), trivial⟩ (HFL.fz 0 3 _ _ _ rfl (HFL.same 1 _ _ _ rfl (HFL.same 2 _ _ _ rfl (HFL.same 3 _ _ _ rfl (HFL.same 4 _ _ _ rfl (HFL.fz 5 3 _ _ _ rfl (.nil 6))))))) (fzOf_ab rfl rfl)) (hR _ (by rw [List.length_set]; omega) (set_cs hcs (by show C.length ≤ 1000000; omega)) _)

theorem tk3 (n : UInt8) (x : List Tab) (hcs : ∀ y, y ∈ x → y.cs.length ≤ 8) (hx0 : 0 < x.length ∧ x.length ≤ 4) (k : Nat) (hlt : k < x.length) (s0 : List UInt8) (q0 : Int) (C : List Col) (hj : 4 ≤ C.length) (hM : C.length ≤ 11)
    (R : VE → Sy → Prop) (hR : ∀ X' : List Tab, X'.length ≤ 1000000 → (∀ y, y ∈ X' → y.cs.length ≤ 1000000) → ∀ hb, R (.exit 3) ⟨[], [(11, .sl 3 none false (X'.map Tab.c))], hb⟩) :
    VloopS Tryd.prog (tr [1000037, 2000037, 1000045, 2000045, 3000210, 1000207]) 215 0 c5b1 (exS R) ⟨[], [(3, .int .u8 n.toNat), (10, .int .i64 (k : Int)), (11, .bsl 3 0 0 (x.map Tab.c).length)], [.arr 3 ((x.map Tab.c).set k [.str (st s0), .bsl 3 4 0 (C.map Col.c).length, .int .i64 q0]), .ro [], .ro [], .ro [], .arr 3 (C.map Col.c)]⟩ := by
  have hkm : (k : Int) < (((x.map Tab.c).length : Nat) : Int) := by rw [List.length_map]; omega
  have hkl : k < (x.map Tab.c).length := by rw [List.length_map]; omega
  have hCl : (C.map Col.c).length = C.length := List.length_map _
  rw [c5b1_eq]
  refine VloopS.roundCut ?_
  refine And.intro rfl (And.intro ⟨Int.natCast_nonneg _, hkm⟩ ?_)
  refine Exists.intro k (Exists.intro 1 (Exists.intro [.str (st s0), .bsl 3 4 0 (C.map Col.c).length, .int .i64 q0] (And.intro ⟨off3 k 1, rfl, set_lens (tab_lens x) rfl⟩ (And.intro (set_get hkl _) ?_))))
  refine And.intro (by decide) ?_
  by_cases hc : (((C.map Col.c).length : Nat) : Int) < IntKind.i64.wrap ((n.toNat : Int).tmod 12)
  · refine cond_t (decide_eq_true hc) ?_
    refine And.intro rfl (And.intro ⟨Int.natCast_nonneg _, hkm⟩ ?_)
    refine Exists.intro k (Exists.intro 1 (Exists.intro [.str (st s0), .bsl 3 4 0 (C.map Col.c).length, .int .i64 q0] (And.intro ⟨off3 k 1, rfl, set_lens (tab_lens x) rfl⟩ (And.intro (set_get hkl _) ?_))))
    refine And.intro rfl (And.intro ⟨Int.natCast_nonneg _, hkm⟩ ?_)
    refine Exists.intro k (Exists.intro 1 (Exists.intro [.str (st s0), .bsl 3 4 0 (C.map Col.c).length, .int .i64 q0] (And.intro ⟨off3 k 1, rfl, set_lens (tab_lens x) rfl⟩ (And.intro (set_get hkl _) ?_))))
    refine Exists.intro [122, u8of ((C.map Col.c).length : Int)] (And.intro (z_name (C.map Col.c).length) ?_)
    refine And.intro ⟨rfl, rfl, rfl, rfl, by omega⟩ (And.intro (.inl rfl) (And.intro ⟨by simp only [List.length_cons, List.length_nil]; omega, by simp only [List.length_cons, List.length_nil]; omega⟩ ?_))
    refine And.intro (by kernel_rfl) (And.intro (by kernel_rfl) (cut_open (t := 207) ?_))
    refine And.intro rfl (And.intro ⟨Int.natCast_nonneg _, hkm⟩ ?_)
    refine Exists.intro k (Exists.intro 1 (Exists.intro [.str (st s0), .bsl 3 4 0 (C.map Col.c).length, .int .i64 q0] (And.intro ⟨off3 k 1, by decide, by decide⟩ (And.intro (set_get hkl _) ?_))))
    have nx := tk4 n x hcs hx0 k hlt s0 q0 (C ++ [(⟨[122, u8of ((C.map Col.c).length : Int)], 1, false⟩ : Col)]) (by rw [List.length_append]; simp only [List.length_cons, List.length_nil]; omega) (by rw [List.length_append]; simp only [List.length_cons, List.length_nil]; omega) R hR
    rw [← c5b1_eq]
    have e : C.map Col.c ++ [[AV.str (st [122, u8of ((C.map Col.c).length : Int)]), .int .u8 1, .bool false]] = (C ++ [(⟨[122, u8of ((C.map Col.c).length : Int)], 1, false⟩ : Col)]).map Col.c := by rw [List.map_append]; rfl
    refine VloopS.weakE (l := [(3, .int .u8 n.toNat), (10, .int .i64 (k : Int)), (11, .bsl 3 0 0 (x.map Tab.c).length)]) (h := [.arr 3 ((x.map Tab.c).set k [.str (st s0), .bsl 3 5 0 ((C ++ [(⟨[122, u8of ((C.map Col.c).length : Int)], 1, false⟩ : Col)]).map Col.c).length, .int .i64 q0]), .ro [], .ro [], .ro [], .ro [], .arr 3 ((C ++ [(⟨[122, u8of ((C.map Col.c).length : Int)], 1, false⟩ : Col)]).map Col.c)]) rfl ⟨.refl _, .refl _, .refl _, trivial⟩ ?_ (Nat.zero_le _) nx
    show [HObj.arr 3 (((x.map Tab.c).set k [.str (st s0), .bsl 3 4 0 (C.map Col.c).length, .int .i64 q0]).set k [.str (st s0), .bsl 3 5 0 (C.map Col.c ++ [[AV.str (st [122, u8of ((C.map Col.c).length : Int)]), .int .u8 1, .bool false]]).length, .int .i64 q0]), .ro [], .ro [], .ro [], .ro [], .arr 3 (C.map Col.c ++ [[AV.str (st [122, u8of ((C.map Col.c).length : Int)]), .int .u8 1, .bool false]])] = _
    rw [List.set_set, e]
  · refine cond_f (decide_eq_false hc) ?_
    refine ex_s (σ' := ⟨[], [(11, .sl 3 none false ((x.set k (⟨s0, C, q0⟩ : Tab)).map Tab.c))], [.ro [], .ro [], .ro [], .ro [], .ro []]⟩) (ShiftS.fz (fzOf [(0, 3, (x.map Tab.c).set k [.str (st s0), .bsl 3 4 0 (C.map Col.c).length, .int .i64 q0]), (4, 3, C.map Col.c)]) ⟨wk_tb rfl (by rw [List.length_set]) (tabs_lens x k _ _ rfl) (wk_tabs x k _ _ (.cons _ _ _ _ (.wk _ _ (.refl _)) (.cons _ _ _ _ (wk_cb rfl rfl rfl) (.cons _ _ _ _ (.wk _ _ (.refl _)) .nil)))), trivial⟩ (HFL.fz 0 3 _ _ _ rfl (HFL.same 1 _ _ _ rfl (HFL.same 2 _ _ _ rfl (HFL.same 3 _ _ _ rfl (HFL.fz 4 3 _ _ _ rfl (.nil 5)))))) (fzOf_ab rfl rfl)) (hR _ (by rw [List.length_set]; omega) (set_cs hcs (by show C.length ≤ 1000000; omega)) _)

theorem tk2 (n : UInt8) (x : List Tab) (hcs : ∀ y, y ∈ x → y.cs.length ≤ 8) (hx0 : 0 < x.length ∧ x.length ≤ 4) (k : Nat) (hlt : k < x.length) (s0 : List UInt8) (q0 : Int) (C : List Col) (hj : 3 ≤ C.length) (hM : C.length ≤ 10)
    (R : VE → Sy → Prop) (hR : ∀ X' : List Tab, X'.length ≤ 1000000 → (∀ y, y ∈ X' → y.cs.length ≤ 1000000) → ∀ hb, R (.exit 3) ⟨[], [(11, .sl 3 none false (X'.map Tab.c))], hb⟩) :
    VloopS Tryd.prog (tr [1000037, 2000037, 1000045, 2000045, 3000210, 1000207]) 215 0 c5b1 (exS R) ⟨[], [(3, .int .u8 n.toNat), (10, .int .i64 (k : Int)), (11, .bsl 3 0 0 (x.map Tab.c).length)], [.arr 3 ((x.map Tab.c).set k [.str (st s0), .bsl 3 3 0 (C.map Col.c).length, .int .i64 q0]), .ro [], .ro [], .arr 3 (C.map Col.c)]⟩ := by
  have hkm : (k : Int) < (((x.map Tab.c).length : Nat) : Int) := by rw [List.length_map]; omega
  have hkl : k < (x.map Tab.c).length := by rw [List.length_map]; omega
  have hCl : (C.map Col.c).length = C.length := List.length_map _
  rw [c5b1_eq]
  refine VloopS.roundCut ?_
  refine And.intro rfl (And.intro ⟨Int.natCast_nonneg _, hkm⟩ ?_)
  refine Exists.intro k (Exists.intro 1 (Exists.intro [.str (st s0), .bsl 3 3 0 (C.map Col.c).length, .int .i64 q0] (And.intro ⟨off3 k 1, rfl, set_lens (tab_lens x) rfl⟩ (And.intro (set_get hkl _) ?_))))
  refine And.intro (by decide) ?_
  by_cases hc : (((C.map Col.c).length : Nat) : Int) < IntKind.i64.wrap ((n.toNat : Int).tmod 12)
  · refine cond_t (decide_eq_true hc) ?_
    refine And.intro rfl (And.intro ⟨Int.natCast_nonneg _, hkm⟩ ?_)
    refine Exists.intro k (Exists.intro 1 (Exists.intro [.str (st s0), .bsl 3 3 0 (C.map Col.c).length, .int .i64 q0] (And.intro ⟨off3 k 1, rfl, set_lens (tab_lens x) rfl⟩ (And.intro (set_get hkl _) ?_))))
    refine And.intro rfl (And.intro ⟨Int.natCast_nonneg _, hkm⟩ ?_)
    refine Exists.intro k (Exists.intro 1 (Exists.intro [.str (st s0), .bsl 3 3 0 (C.map Col.c).length, .int .i64 q0] (And.intro ⟨off3 k 1, rfl, set_lens (tab_lens x) rfl⟩ (And.intro (set_get hkl _) ?_))))
    refine Exists.intro [122, u8of ((C.map Col.c).length : Int)] (And.intro (z_name (C.map Col.c).length) ?_)
    refine And.intro ⟨rfl, rfl, rfl, rfl, by omega⟩ (And.intro (.inl rfl) (And.intro ⟨by simp only [List.length_cons, List.length_nil]; omega, by simp only [List.length_cons, List.length_nil]; omega⟩ ?_))
    refine And.intro (by kernel_rfl) (And.intro (by kernel_rfl) (cut_open (t := 207) ?_))
    refine And.intro rfl (And.intro ⟨Int.natCast_nonneg _, hkm⟩ ?_)
    refine Exists.intro k (Exists.intro 1 (Exists.intro [.str (st s0), .bsl 3 3 0 (C.map Col.c).length, .int .i64 q0] (And.intro ⟨off3 k 1, by decide, by decide⟩ (And.intro (set_get hkl _) ?_))))
    have nx := tk3 n x hcs hx0 k hlt s0 q0 (C ++ [(⟨[122, u8of ((C.map Col.c).length : Int)], 1, false⟩ : Col)]) (by rw [List.length_append]; simp only [List.length_cons, List.length_nil]; omega) (by rw [List.length_append]; simp only [List.length_cons, List.length_nil]; omega) R hR
    rw [← c5b1_eq]
    have e : C.map Col.c ++ [[AV.str (st [122, u8of ((C.map Col.c).length : Int)]), .int .u8 1, .bool false]] = (C ++ [(⟨[122, u8of ((C.map Col.c).length : Int)], 1, false⟩ : Col)]).map Col.c := by rw [List.map_append]; rfl
    refine VloopS.weakE (l := [(3, .int .u8 n.toNat), (10, .int .i64 (k : Int)), (11, .bsl 3 0 0 (x.map Tab.c).length)]) (h := [.arr 3 ((x.map Tab.c).set k [.str (st s0), .bsl 3 4 0 ((C ++ [(⟨[122, u8of ((C.map Col.c).length : Int)], 1, false⟩ : Col)]).map Col.c).length, .int .i64 q0]), .ro [], .ro [], .ro [], .arr 3 ((C ++ [(⟨[122, u8of ((C.map Col.c).length : Int)], 1, false⟩ : Col)]).map Col.c)]) rfl ⟨.refl _, .refl _, .refl _, trivial⟩ ?_ (Nat.zero_le _) nx
    show [HObj.arr 3 (((x.map Tab.c).set k [.str (st s0), .bsl 3 3 0 (C.map Col.c).length, .int .i64 q0]).set k [.str (st s0), .bsl 3 4 0 (C.map Col.c ++ [[AV.str (st [122, u8of ((C.map Col.c).length : Int)]), .int .u8 1, .bool false]]).length, .int .i64 q0]), .ro [], .ro [], .ro [], .arr 3 (C.map Col.c ++ [[AV.str (st [122, u8of ((C.map Col.c).length : Int)]), .int .u8 1, .bool false]])] = _
    rw [List.set_set, e]
  · refine cond_f (decide_eq_false hc) ?_
    refine ex_s (σ' := ⟨[], [(11, .sl 3 none false ((x.set k (⟨s0, C, q0⟩ : Tab)).map Tab.c))], [.ro [], .ro [], .ro [], .ro []]⟩) (ShiftS.fz (fzOf [(0, 3, (x.map Tab.c).set k [.str (st s0), .bsl 3 3 0 (C.map Col.c).length, .int .i64 q0]), (3, 3, C.map Col.c)]) ⟨wk_tb rfl (by rw [List.length_set]) (tabs_lens x k _ _ rfl) (wk_tabs x k _ _ (.cons _ _ _ _ (.wk _ _ (.refl _)) (.cons _ _ _ _ (wk_cb rfl rfl rfl) (.cons _ _ _ _ (.wk _ _ (.refl _)) .nil)))), trivial⟩ (HFL.fz 0 3 _ _ _ rfl (HFL.same 1 _ _ _ rfl (HFL.same 2 _ _ _ rfl (HFL.fz 3 3 _ _ _ rfl (.nil 4))))) (fzOf_ab rfl rfl)) (hR _ (by rw [List.length_set]; omega) (set_cs hcs (by show C.length ≤ 1000000; omega)) _)

theorem tk1 (n : UInt8) (x : List Tab) (hcs : ∀ y, y ∈ x → y.cs.length ≤ 8) (hx0 : 0 < x.length ∧ x.length ≤ 4) (k : Nat) (hlt : k < x.length) (s0 : List UInt8) (q0 : Int) (C : List Col) (hj : 2 ≤ C.length) (hM : C.length ≤ 9)
    (R : VE → Sy → Prop) (hR : ∀ X' : List Tab, X'.length ≤ 1000000 → (∀ y, y ∈ X' → y.cs.length ≤ 1000000) → ∀ hb, R (.exit 3) ⟨[], [(11, .sl 3 none false (X'.map Tab.c))], hb⟩) :
    VloopS Tryd.prog (tr [1000037, 2000037, 1000045, 2000045, 3000210, 1000207]) 215 0 c5b1 (exS R) ⟨[], [(3, .int .u8 n.toNat), (10, .int .i64 (k : Int)), (11, .bsl 3 0 0 (x.map Tab.c).length)], [.arr 3 ((x.map Tab.c).set k [.str (st s0), .bsl 3 2 0 (C.map Col.c).length, .int .i64 q0]), .ro [], .arr 3 (C.map Col.c)]⟩ := by
  have hkm : (k : Int) < (((x.map Tab.c).length : Nat) : Int) := by rw [List.length_map]; omega
  have hkl : k < (x.map Tab.c).length := by rw [List.length_map]; omega
  have hCl : (C.map Col.c).length = C.length := List.length_map _
  rw [c5b1_eq]
  refine VloopS.roundCut ?_
  refine And.intro rfl (And.intro ⟨Int.natCast_nonneg _, hkm⟩ ?_)
  refine Exists.intro k (Exists.intro 1 (Exists.intro [.str (st s0), .bsl 3 2 0 (C.map Col.c).length, .int .i64 q0] (And.intro ⟨off3 k 1, rfl, set_lens (tab_lens x) rfl⟩ (And.intro (set_get hkl _) ?_))))
  refine And.intro (by decide) ?_
  by_cases hc : (((C.map Col.c).length : Nat) : Int) < IntKind.i64.wrap ((n.toNat : Int).tmod 12)
  · refine cond_t (decide_eq_true hc) ?_
    refine And.intro rfl (And.intro ⟨Int.natCast_nonneg _, hkm⟩ ?_)
    refine Exists.intro k (Exists.intro 1 (Exists.intro [.str (st s0), .bsl 3 2 0 (C.map Col.c).length, .int .i64 q0] (And.intro ⟨off3 k 1, rfl, set_lens (tab_lens x) rfl⟩ (And.intro (set_get hkl _) ?_))))
    refine And.intro rfl (And.intro ⟨Int.natCast_nonneg _, hkm⟩ ?_)
    refine Exists.intro k (Exists.intro 1 (Exists.intro [.str (st s0), .bsl 3 2 0 (C.map Col.c).length, .int .i64 q0] (And.intro ⟨off3 k 1, rfl, set_lens (tab_lens x) rfl⟩ (And.intro (set_get hkl _) ?_))))
    refine Exists.intro [122, u8of ((C.map Col.c).length : Int)] (And.intro (z_name (C.map Col.c).length) ?_)
    refine And.intro ⟨rfl, rfl, rfl, rfl, by omega⟩ (And.intro (.inl rfl) (And.intro ⟨by simp only [List.length_cons, List.length_nil]; omega, by simp only [List.length_cons, List.length_nil]; omega⟩ ?_))
    refine And.intro (by kernel_rfl) (And.intro (by kernel_rfl) (cut_open (t := 207) ?_))
    refine And.intro rfl (And.intro ⟨Int.natCast_nonneg _, hkm⟩ ?_)
    refine Exists.intro k (Exists.intro 1 (Exists.intro [.str (st s0), .bsl 3 2 0 (C.map Col.c).length, .int .i64 q0] (And.intro ⟨off3 k 1, by decide, by decide⟩ (And.intro (set_get hkl _) ?_))))
    have nx := tk2 n x hcs hx0 k hlt s0 q0 (C ++ [(⟨[122, u8of ((C.map Col.c).length : Int)], 1, false⟩ : Col)]) (by rw [List.length_append]; simp only [List.length_cons, List.length_nil]; omega) (by rw [List.length_append]; simp only [List.length_cons, List.length_nil]; omega) R hR
    rw [← c5b1_eq]
    have e : C.map Col.c ++ [[AV.str (st [122, u8of ((C.map Col.c).length : Int)]), .int .u8 1, .bool false]] = (C ++ [(⟨[122, u8of ((C.map Col.c).length : Int)], 1, false⟩ : Col)]).map Col.c := by rw [List.map_append]; rfl
    refine VloopS.weakE (l := [(3, .int .u8 n.toNat), (10, .int .i64 (k : Int)), (11, .bsl 3 0 0 (x.map Tab.c).length)]) (h := [.arr 3 ((x.map Tab.c).set k [.str (st s0), .bsl 3 3 0 ((C ++ [(⟨[122, u8of ((C.map Col.c).length : Int)], 1, false⟩ : Col)]).map Col.c).length, .int .i64 q0]), .ro [], .ro [], .arr 3 ((C ++ [(⟨[122, u8of ((C.map Col.c).length : Int)], 1, false⟩ : Col)]).map Col.c)]) rfl ⟨.refl _, .refl _, .refl _, trivial⟩ ?_ (Nat.zero_le _) nx
    show [HObj.arr 3 (((x.map Tab.c).set k [.str (st s0), .bsl 3 2 0 (C.map Col.c).length, .int .i64 q0]).set k [.str (st s0), .bsl 3 3 0 (C.map Col.c ++ [[AV.str (st [122, u8of ((C.map Col.c).length : Int)]), .int .u8 1, .bool false]]).length, .int .i64 q0]), .ro [], .ro [], .arr 3 (C.map Col.c ++ [[AV.str (st [122, u8of ((C.map Col.c).length : Int)]), .int .u8 1, .bool false]])] = _
    rw [List.set_set, e]
  · refine cond_f (decide_eq_false hc) ?_
    refine ex_s (σ' := ⟨[], [(11, .sl 3 none false ((x.set k (⟨s0, C, q0⟩ : Tab)).map Tab.c))], [.ro [], .ro [], .ro []]⟩) (ShiftS.fz (fzOf [(0, 3, (x.map Tab.c).set k [.str (st s0), .bsl 3 2 0 (C.map Col.c).length, .int .i64 q0]), (2, 3, C.map Col.c)]) ⟨wk_tb rfl (by rw [List.length_set]) (tabs_lens x k _ _ rfl) (wk_tabs x k _ _ (.cons _ _ _ _ (.wk _ _ (.refl _)) (.cons _ _ _ _ (wk_cb rfl rfl rfl) (.cons _ _ _ _ (.wk _ _ (.refl _)) .nil)))), trivial⟩ (HFL.fz 0 3 _ _ _ rfl (HFL.same 1 _ _ _ rfl (HFL.fz 2 3 _ _ _ rfl (.nil 3)))) (fzOf_ab rfl rfl)) (hR _ (by rw [List.length_set]; omega) (set_cs hcs (by show C.length ≤ 1000000; omega)) _)

theorem tk0 (n : UInt8) (x : List Tab) (hcs : ∀ y, y ∈ x → y.cs.length ≤ 8) (hx0 : 0 < x.length ∧ x.length ≤ 4) (k : Nat) (hlt : k < x.length) (s0 : List UInt8) (q0 : Int) (C : List Col) (hj : 1 ≤ C.length) (hM : C.length ≤ 8)
    (R : VE → Sy → Prop) (hR : ∀ X' : List Tab, X'.length ≤ 1000000 → (∀ y, y ∈ X' → y.cs.length ≤ 1000000) → ∀ hb, R (.exit 3) ⟨[], [(11, .sl 3 none false (X'.map Tab.c))], hb⟩) :
    VloopS Tryd.prog (tr [1000037, 2000037, 1000045, 2000045, 3000210, 1000207]) 215 0 c5b1 (exS R) ⟨[], [(3, .int .u8 n.toNat), (10, .int .i64 (k : Int)), (11, .bsl 3 0 0 (x.map Tab.c).length)], [.arr 3 ((x.map Tab.c).set k [.str (st s0), .bsl 3 1 0 (C.map Col.c).length, .int .i64 q0]), .arr 3 (C.map Col.c)]⟩ := by
  have hkm : (k : Int) < (((x.map Tab.c).length : Nat) : Int) := by rw [List.length_map]; omega
  have hkl : k < (x.map Tab.c).length := by rw [List.length_map]; omega
  have hCl : (C.map Col.c).length = C.length := List.length_map _
  rw [c5b1_eq]
  refine VloopS.roundCut ?_
  refine And.intro rfl (And.intro ⟨Int.natCast_nonneg _, hkm⟩ ?_)
  refine Exists.intro k (Exists.intro 1 (Exists.intro [.str (st s0), .bsl 3 1 0 (C.map Col.c).length, .int .i64 q0] (And.intro ⟨off3 k 1, rfl, set_lens (tab_lens x) rfl⟩ (And.intro (set_get hkl _) ?_))))
  refine And.intro (by decide) ?_
  by_cases hc : (((C.map Col.c).length : Nat) : Int) < IntKind.i64.wrap ((n.toNat : Int).tmod 12)
  · refine cond_t (decide_eq_true hc) ?_
    refine And.intro rfl (And.intro ⟨Int.natCast_nonneg _, hkm⟩ ?_)
    refine Exists.intro k (Exists.intro 1 (Exists.intro [.str (st s0), .bsl 3 1 0 (C.map Col.c).length, .int .i64 q0] (And.intro ⟨off3 k 1, rfl, set_lens (tab_lens x) rfl⟩ (And.intro (set_get hkl _) ?_))))
    refine And.intro rfl (And.intro ⟨Int.natCast_nonneg _, hkm⟩ ?_)
    refine Exists.intro k (Exists.intro 1 (Exists.intro [.str (st s0), .bsl 3 1 0 (C.map Col.c).length, .int .i64 q0] (And.intro ⟨off3 k 1, rfl, set_lens (tab_lens x) rfl⟩ (And.intro (set_get hkl _) ?_))))
    refine Exists.intro [122, u8of ((C.map Col.c).length : Int)] (And.intro (z_name (C.map Col.c).length) ?_)
    refine And.intro ⟨rfl, rfl, rfl, rfl, by omega⟩ (And.intro (.inl rfl) (And.intro ⟨by simp only [List.length_cons, List.length_nil]; omega, by simp only [List.length_cons, List.length_nil]; omega⟩ ?_))
    refine And.intro (by kernel_rfl) (And.intro (by kernel_rfl) (cut_open (t := 207) ?_))
    refine And.intro rfl (And.intro ⟨Int.natCast_nonneg _, hkm⟩ ?_)
    refine Exists.intro k (Exists.intro 1 (Exists.intro [.str (st s0), .bsl 3 1 0 (C.map Col.c).length, .int .i64 q0] (And.intro ⟨off3 k 1, by decide, by decide⟩ (And.intro (set_get hkl _) ?_))))
    have nx := tk1 n x hcs hx0 k hlt s0 q0 (C ++ [(⟨[122, u8of ((C.map Col.c).length : Int)], 1, false⟩ : Col)]) (by rw [List.length_append]; simp only [List.length_cons, List.length_nil]; omega) (by rw [List.length_append]; simp only [List.length_cons, List.length_nil]; omega) R hR
    rw [← c5b1_eq]
    have e : C.map Col.c ++ [[AV.str (st [122, u8of ((C.map Col.c).length : Int)]), .int .u8 1, .bool false]] = (C ++ [(⟨[122, u8of ((C.map Col.c).length : Int)], 1, false⟩ : Col)]).map Col.c := by rw [List.map_append]; rfl
    refine VloopS.weakE (l := [(3, .int .u8 n.toNat), (10, .int .i64 (k : Int)), (11, .bsl 3 0 0 (x.map Tab.c).length)]) (h := [.arr 3 ((x.map Tab.c).set k [.str (st s0), .bsl 3 2 0 ((C ++ [(⟨[122, u8of ((C.map Col.c).length : Int)], 1, false⟩ : Col)]).map Col.c).length, .int .i64 q0]), .ro [], .arr 3 ((C ++ [(⟨[122, u8of ((C.map Col.c).length : Int)], 1, false⟩ : Col)]).map Col.c)]) rfl ⟨.refl _, .refl _, .refl _, trivial⟩ ?_ (Nat.zero_le _) nx
    show [HObj.arr 3 (((x.map Tab.c).set k [.str (st s0), .bsl 3 1 0 (C.map Col.c).length, .int .i64 q0]).set k [.str (st s0), .bsl 3 2 0 (C.map Col.c ++ [[AV.str (st [122, u8of ((C.map Col.c).length : Int)]), .int .u8 1, .bool false]]).length, .int .i64 q0]), .ro [], .arr 3 (C.map Col.c ++ [[AV.str (st [122, u8of ((C.map Col.c).length : Int)]), .int .u8 1, .bool false]])] = _
    rw [List.set_set, e]
  · refine cond_f (decide_eq_false hc) ?_
    refine ex_s (σ' := ⟨[], [(11, .sl 3 none false ((x.set k (⟨s0, C, q0⟩ : Tab)).map Tab.c))], [.ro [], .ro []]⟩) (ShiftS.fz (fzOf [(0, 3, (x.map Tab.c).set k [.str (st s0), .bsl 3 1 0 (C.map Col.c).length, .int .i64 q0]), (1, 3, C.map Col.c)]) ⟨wk_tb rfl (by rw [List.length_set]) (tabs_lens x k _ _ rfl) (wk_tabs x k _ _ (.cons _ _ _ _ (.wk _ _ (.refl _)) (.cons _ _ _ _ (wk_cb rfl rfl rfl) (.cons _ _ _ _ (.wk _ _ (.refl _)) .nil)))), trivial⟩ (HFL.fz 0 3 _ _ _ rfl (HFL.fz 1 3 _ _ _ rfl (.nil 2))) (fzOf_ab rfl rfl)) (hR _ (by rw [List.length_set]; omega) (set_cs hcs (by show C.length ≤ 1000000; omega)) _)

theorem tr10 (nl : Option Bool) (own : Bool) (l : List Form) (hl : l.length ≤ 9223372036854775807) (hfw : fewD l = true) (what at_ n : UInt8) (em : (what.toNat : Int).tmod 12 = 10) : PCallN Tryd.prog 5 [.sl 2 nl own (l.map Form.c), .int .u8 what.toNat, .int .u8 at_.toNat, .int .u8 n.toNat] (.bool true) := by
  refine PCallN.of (tr [1000037, 2000037, 1000045, 2000045, 3000210, 1000207]) f5 (Nat.le_of_ble_eq_true rfl) (np_right _ _ _ _) (.bool _) ?_
  refine call_p noughtsN ?_
  repeat (first | refine guard_t rfl ?_ | refine guard_f (by decide) ?_)
  refine call_p (fewN _ _ l hl) ?_
  rw [hfw]
  repeat (first | refine guard_t rfl ?_ | refine guard_f (by decide) ?_)
  refine cond_f rfl ?_
  refine call_p (tablesN _ _ l) ?_
  have hx := tables_len l
  have hx4 := tabN_le l
  have hcs := tables_cs l
  have q1 := rightTN none false (tables l) (by omega) (fun t ht => Nat.le_trans (hcs t ht) (by decide))
  have q2 := rRightTN none false (tables l) (by omega) (fun t ht => Nat.le_trans (hcs t ht) (by decide))
  rw [rf_rg, rg_tables] at q2
  rw [rg_tables] at q1
  refine call_p q1 ?_
  repeat (first | refine guard_t rfl ?_ | refine guard_f (by decide) ?_)
  refine call_p q2 ?_
  repeat (first | refine guard_t rfl ?_ | refine guard_f (by decide) ?_)
  refine cond_f rfl ?_
  clear q1 q2
  refine And.intro (by rw [List.length_map]; omega) ?_
  rw [List.length_map, rem_i64]
  have hlt : at_.toNat % (tables l).length < (tables l).length := Nat.mod_lt _ (by omega)
  obtain ⟨m0, hm1, hm2, hm3, hm4⟩ := tabAt_ok l (at_.toNat % (tables l).length)
  rw [← tables_get l _ hlt] at hm1 hm3 hm4
  have hx0 : 0 < (tables l).length ∧ (tables l).length ≤ 4 := by omega
  clear hx hx4
  generalize at_.toNat % (tables l).length = k at hlt hm1 hm3 hm4 ⊢
  generalize tables l = x at hlt hm1 hm3 hm4 hcs hx0 ⊢
  clear hm1 hfw hl
  have hkm : (k : Int) < (((x.map Tab.c).length : Nat) : Int) := by rw [List.length_map]; omega
  have hkl : k < (x.map Tab.c).length := by rw [List.length_map]; omega
  refine And.intro rfl (And.intro (.inl rfl) (And.intro (by rw [List.length_map]; omega) (And.intro ⟨by rw [List.length_map]; omega, by rw [List.length_map]; omega⟩ ?_)))
  refine And.intro rfl (And.intro ⟨Int.natCast_nonneg _, hkm⟩ ?_)
  refine Exists.intro k (Exists.intro 1 (Exists.intro x[k].c (And.intro ⟨off3 k 1, rfl, tab_lens x⟩ (And.intro (map_get hlt) ?_))))
  refine And.intro rfl (And.intro (.inl rfl) (And.intro (by rw [List.length_map]; omega) (And.intro ⟨by rw [List.length_map]; omega, by rw [List.length_map]; omega⟩ ?_)))
  refine And.intro rfl (And.intro ⟨Int.natCast_nonneg _, hkm⟩ ?_)
  refine Exists.intro k (Exists.intro 1 (Exists.intro x[k].c (And.intro ⟨off3 k 1, by decide, by decide⟩ (And.intro (map_get hlt) ?_))))
  refine And.intro rfl (And.intro ⟨Int.natCast_nonneg _, hkm⟩ ?_)
  refine Exists.intro k (Exists.intro 1 (Exists.intro [.str (st x[k].n), .bsl 3 1 0 (x[k].cs.map Col.c).length, .int .i64 x[k].ks] (And.intro ⟨off3 k 1, rfl, set_lens (tab_lens x) rfl⟩ (And.intro (set_get hkl _) ?_))))
  refine And.intro (by rw [List.length_map]; omega) ?_
  rw [List.length_map, rem_i64]
  have hcl : n.toNat % x[k].cs.length < x[k].cs.length := Nat.mod_lt _ (by omega)
  refine And.intro (by decide) ?_
  refine cond_f (by rw [em]; rfl) ?_
  refine cond_f (by rw [em]; rfl) ?_
  refine cond_f (by rw [em]; rfl) ?_
  refine cond_f (by rw [em]; rfl) ?_
  refine cond_f (by rw [em]; rfl) ?_
  refine cond_f (by rw [em]; rfl) ?_
  refine cond_f (by rw [em]; rfl) ?_
  refine cond_f (by rw [em]; rfl) ?_
  refine cond_f (by rw [em]; rfl) ?_
  refine cond_f (by rw [em]; rfl) ?_
  refine cond_t (by rw [em]; rfl) ?_
  refine VloopS.exS (VloopS.weakE (l := [(3, .int .u8 n.toNat), (10, .int .i64 (k : Int)), (11, .bsl 3 0 0 (x.map Tab.c).length)]) (h := [.arr 3 ((x.map Tab.c).set k [.str (st x[k].n), .bsl 3 1 0 (x[k].cs.map Col.c).length, .int .i64 x[k].ks]), .arr 3 (x[k].cs.map Col.c)]) rfl ⟨.refl _, .refl _, .refl _, trivial⟩ (by rw [show (x[k].cs.map Col.c).length = x[k].cs.length from List.length_map _]; rfl) (Nat.zero_le _)
    (tk0 n x hcs hx0 k hlt x[k].n x[k].ks x[k].cs (by omega) (by omega) _ ?_))
  intro X' hX1 hX2 hb
  refine Exists.intro _ (And.intro (ShiftS.same _) ?_)
  have q1 := rightTN none false X' hX1 hX2
  have q2 := rRightTN none false X' hX1 hX2
  rw [rf_rg] at q2
  refine call_p q1 ?_
  refine call_p q2 ?_
  exact bool_eq (beq_self_eq_true _)

theorem tableRightN (nl : Option Bool) (own : Bool) (l : List Form) (hl : l.length ≤ 9223372036854775807) (what at_ n : UInt8) : PCallN Tryd.prog 5 [.sl 2 nl own (l.map Form.c), .int .u8 what.toNat, .int .u8 at_.toNat, .int .u8 n.toNat] (.bool true) := by
  cases hf : fewD l with
  | false =>
    refine PCallN.of (tr []) f5 (Nat.le_of_ble_eq_true rfl) (np_right _ _ _ _) (.bool _) ?_
    refine call_p noughtsN ?_
    repeat (first | refine guard_t rfl ?_ | refine guard_f (by decide) ?_)
    refine call_p (fewN _ _ l hl) ?_
    rw [hf]
    repeat (first | refine guard_t rfl ?_ | refine guard_f (by decide) ?_)
    refine cond_t rfl ?_
    refine call_p noughtsN ?_
    exact bool_eq rfl
  | true =>
    have h12 : (what.toNat : Int).tmod 12 = ((what.toNat % 12 : Nat) : Int) := rem_u8 what 12
    have hb : what.toNat % 12 = 0 ∨ what.toNat % 12 = 1 ∨ what.toNat % 12 = 2 ∨ what.toNat % 12 = 3 ∨ what.toNat % 12 = 4 ∨ what.toNat % 12 = 5 ∨ what.toNat % 12 = 6 ∨ what.toNat % 12 = 7 ∨ what.toNat % 12 = 8 ∨ what.toNat % 12 = 9 ∨ what.toNat % 12 = 10 ∨ what.toNat % 12 = 11 := by omega
    rcases hb with h | h | h | h | h | h | h | h | h | h | h | h
    · exact tr0 nl own l hl hf what at_ n (by rw [h12, h]; rfl)
    · exact tr1 nl own l hl hf what at_ n (by rw [h12, h]; rfl)
    · exact tr2 nl own l hl hf what at_ n (by rw [h12, h]; rfl)
    · exact tr3 nl own l hl hf what at_ n (by rw [h12, h]; rfl)
    · exact tr4 nl own l hl hf what at_ n (by rw [h12, h]; rfl)
    · exact tr5 nl own l hl hf what at_ n (by rw [h12, h]; rfl)
    · exact tr6 nl own l hl hf what at_ n (by rw [h12, h]; rfl)
    · exact tr7 nl own l hl hf what at_ n (by rw [h12, h]; rfl)
    · exact tr8 nl own l hl hf what at_ n (by rw [h12, h]; rfl)
    · exact tr9 nl own l hl hf what at_ n (by rw [h12, h]; rfl)
    · exact tr10 nl own l hl hf what at_ n (by rw [h12, h]; rfl)
    · exact tr11 nl own l hl hf what at_ n (by rw [h12, h]; rfl)

end Go.Proofs.YtmjdoonaidolkaaDoor.V

/- Tables that are right, and such in which something is another thing: for all forms and numbers that are put in, the law TableRight answers true; its tied card. -/
namespace Go.Proofs.YtmjdoonaidolkaaDoor
open Go.ChangeShapes Go.WideShapes Go.ChangeAt Go.RowKit V

set_option maxRecDepth 100000 in
theorem tableRight_lifted (os : Os) (started : os.Started) (H : Type) (enc : TypeId × Value → H) :
    ReturnsInHanded {} Tryd.checked os 5 .any (fun w args => (Rows.tableRightSpec.pre enc Tryd.prog Tryd.f5 [] false w args ∧ laidMetH Tryd.prog Rows.tableRightRow.laid w) ∧ sizedMet enc Tryd.prog Tryd.f5 (OpenSpec.ofChange Rows.tableRightSpec) false w args)
      (Rows.tableRightSpec.post enc Tryd.prog Tryd.f5 false true false false) := by
  refine law_liftedL (C := Tryd.checked) (s := Rows.tableRightSpec) (tb := 4) (X := fun w _ => laidMetH Tryd.prog Rows.tableRightRow.laid w) (fun _ _ _ hh h => h.of_heap hh) 8 H enc Tryd.own started (by kernel_rfl) Tryd.func5 Tryd.laidOut rfl (by kernel_rfl) (by kernel_rfl) (by kernel_rfl) ?_
    (ChangeSpec.witness_shaped (enc := enc) (C := Tryd.checked) (os := os) (X := fun w _ => laidMetH Tryd.prog Rows.tableRightRow.laid w) false (World.laidAll Tryd.prog os Rows.tableRightRow.laid) #[.slice none 0 0, .int .u8 0, .int .u8 0, .int .u8 0] 8 (World.laidAll_os _ _ _) (World.shaped_of_ZipB (by kernel_rfl) (by kernel_rfl)) (by kernel_rfl) (by kernel_rfl) (by kernel_rfl)
      (by rw [MakeChecks.laidMetH_plain _ _ _ (by kernel_rfl)]; exact laidMet_laidAll _ (by kernel_rfl) (by kernel_rfl))) (by kernel_rfl) ?_
  · intro ds hl
    match ds, hl with
    | [d0, d1, d2, d3], _ => exact ⟨rfl, rfl, rfl⟩
  · intro us has0
    have has : Pars Tryd.prog Tryd.f5.params.toList us := has0
    rw [Tryd.params5] at has
    obtain ⟨p0, r, rfl, q0, has⟩ := has.inv_cons
    obtain ⟨p1, r, rfl, q1, has⟩ := has.inv_cons
    obtain ⟨p2, r, rfl, q2, has⟩ := has.inv_cons
    obtain ⟨p3, r, rfl, q3, has⟩ := has.inv_cons
    have has := has.inv_nil
    subst has
    obtain ⟨n0, a0, rfl, l0⟩ := forms_inv Tryd.underlying22 (by kernel_rfl) Tryd.underlying64 rfl Tryd.underlying23 (by kernel_rfl) Tryd.underlying5 Tryd.underlying5 q0
    obtain ⟨a1, rfl⟩ := q1.inv_u8 Tryd.underlying5
    obtain ⟨a2, rfl⟩ := q2.inv_u8 Tryd.underlying5
    obtain ⟨a3, rfl⟩ := q3.inv_u8 Tryd.underlying5
    exact ((tableRightN _ _ a0 (Nat.le_trans l0 (by decide)) a1 a2 a3)).2

theorem tableRight_said : Rows.TableRightSaid :=
  OpenClaim.holds_of_wide 5 Tryd.f5 rfl rfl rfl rfl rfl rfl rfl ⟨rfl, rfl, rfl, rfl, rfl⟩ rfl rfl rfl rfl rfl (by kernel_rfl) Tryd.func5 (by kernel_rfl)
    (of_decide_eq_true (by kernel_rfl)) (by unfold Func.isWrapper; first | (rw [if_pos (by decide +kernel)]; kernel_rfl) | (rw [if_neg (by decide +kernel)]; exact ⟨rfl, rfl⟩))
    (fun os started H enc _ => tableRight_lifted os started H enc)

theorem tableRight_holds : Rows.TableRightCardSaid :=
  Claim7.holds_tied_plain_at .later [] [.data, .pinned] true (true, "94ca4166d2d72220976573b7c68a3f6ab28d18b3b1fa6cf70bc3f983af04c5e3") false
    tableRight_said (fun _ h => by cases h) (by kernel_rfl) (fun _ h => by cases h) tableRight_row_tie rfl ⟨rfl, rfl⟩ (by kernel_rfl) rfl
    (fun f fn hf hfn => by
      obtain rfl : f = 5 := Option.some.inj ((show Tryd.prog.funcNamed "countinghouse/countinghouselaw05.TableRight" = some 5 by kernel_rfl).symm.trans hf) |>.symm
      obtain rfl : fn = Tryd.f5 := (Option.some.inj (Tryd.func5.symm.trans hfn)).symm
      exact ⟨by kernel_rfl, fun j t ht => by
        rw [Tryd.params5] at ht
        have hm : t ∈ [22, 5, 5, 5] := by simpa using Array.mem_of_getElem? ht
        have hall : ([22, 5, 5, 5].all fun u => !Tryd.prog.wantsStandIn u) = true := by kernel_rfl
        exact (show Tryd.prog.wantsStandIn t = false by simpa using List.all_eq_true.1 hall t hm)⟩)
    (by kernel_rfl)

end Go.Proofs.YtmjdoonaidolkaaDoor
