/-
  Layer 5 (table): the set's tables are right.
-/
import Derived.Test.YtmjdoonaidolkaaDoorGb
import Derived.Test.YtmjdoonaidolkaaDoorFc

/- Names: named, unlike. -/
namespace Go.Proofs.YtmjdoonaidolkaaDoor.V
open Go.IntWalk Go.Lib

def namedB (s : List UInt8) : Bool := decide (((st s).size : Int) ≥ 1) && decide (((st s).size : Int) ≤ 20)

theorem namedN (s : List UInt8) : PCallN Tryd.prog 56 [.str (st s)] (.bool (namedB s)) := by
  refine PCallN.of (tr []) f56 (Nat.le_of_ble_eq_true rfl) (np_cons (.str _) np_nil) (.bool _) ?_
  unfold namedB
  by_cases h : 1 ≤ s.length
  · have e : decide (((st s).size : Int) ≥ 1) = true := decide_eq_true (by rw [st_size]; omega)
    refine guard_t e ?_
    rw [e]
    repeat (first | refine guard_t rfl ?_ | refine guard_f (by decide) ?_)
    exact bool_eq rfl
  · have e : decide (((st s).size : Int) ≥ 1) = false := decide_eq_false (by rw [st_size]; omega)
    refine guard_f (by rw [e]; decide) ?_
    rw [e]
    repeat (first | refine guard_t rfl ?_ | refine guard_f (by decide) ?_)
    exact bool_eq rfl

theorem rNamedN (s : List UInt8) : PCallN Tryd.prog 44 [.str (st s)] (.bool (namedB s)) := by
  refine PCallN.of (tr []) f44 (Nat.le_of_ble_eq_true rfl) (np_cons (.str _) np_nil) (.bool _) ?_
  unfold namedB
  by_cases h : 1 ≤ s.length
  · have e : decide (((st s).size : Int) > 0) = true := decide_eq_true (by rw [st_size]; omega)
    have e2 : decide (((st s).size : Int) ≥ 1) = true := decide_eq_true (by rw [st_size]; omega)
    refine guard_t e ?_
    rw [e, e2]
    repeat (first | refine guard_t rfl ?_ | refine guard_f (by decide) ?_)
    exact bool_eq rfl
  · have e : decide (((st s).size : Int) > 0) = false := decide_eq_false (by rw [st_size]; omega)
    have e2 : decide (((st s).size : Int) ≥ 1) = false := decide_eq_false (by rw [st_size]; omega)
    refine guard_f (by rw [e]; decide) ?_
    rw [e, e2]
    repeat (first | refine guard_t rfl ?_ | refine guard_f (by decide) ?_)
    exact bool_eq rfl

theorem nameTN (t : Tab) : PCallN Tryd.prog 42 [.agg t.c] (.str (st t.n)) := by
  refine PCallN.of (tr []) f42 (Nat.le_of_ble_eq_true rfl) (np_cons (.agg _ t.np) np_nil) (.str _) ?_
  exact rfl
theorem nameCN (c : Col) : PCallN Tryd.prog 58 [.agg c.c] (.str (st c.n)) := by
  refine PCallN.of (tr []) f58 (Nat.le_of_ble_eq_true rfl) (np_cons (.agg _ c.np) np_nil) (.str _) ?_
  exact rfl

/-! ### what was seen -/

def seenK (l : List (List UInt8)) : List AV := l.map fun s => .str (st s)
def seenV (l : List (List UInt8)) : List AV := l.map fun _ => .bool true

theorem st_eqb (a b : List UInt8) : (st a == st b) = decide (a = b) := by
  change (a.toArray == b.toArray) = _
  rw [Bool.eq_iff_iff, beq_iff_eq, decide_eq_true_eq]
  constructor
  · intro h
    simpa using congrArg Array.toList h
  · rintro rfl; rfl

theorem mfind_seen (s : List UInt8) : ∀ l : List (List UInt8), mfind (st s) (seenK l) (seenV l) = some (match l.contains s with | true => some true | false => none)
  | [] => rfl
  | a :: l => by
    have ih := mfind_seen s l
    show (if (st s == st a) = true then some (some true) else mfind (st s) (seenK l) (seenV l)) = _
    rw [ih, st_eqb, List.contains_cons]
    by_cases h : s = a
    · subst h
      rw [decide_eq_true rfl, if_pos rfl, beq_self_eq_true, Bool.true_or]
    · rw [decide_eq_false h, if_neg (by decide), beq_eq_false_iff_ne.2 h, Bool.false_or]

/-- Are names, behind those that were seen, names, and unlike? -/
def unl : List (List UInt8) → List (List UInt8) → Bool
  | _, [] => true
  | seen, s :: r => (namedB s && !seen.contains s) && unl (seen ++ [s]) r

def unAt (f : Nat) (cells : List (List AV)) (n i : Nat) : List (Nat × AV) := [(1, .func f []), (5, .mp 0), (10, .sl 3 none false cells), (11, .int .i64 n), (12, .int .i64 i)]
def seenBx (l : List (List UInt8)) : HObj := .map (seenK l) (seenV l)

theorem seen_np {ok : Nat → Prop} (l : List (List UInt8)) : NPo ok (seenBx l) := by
  refine ⟨fun a ha => ?_, fun a ha => ?_⟩
  · obtain ⟨s, _, rfl⟩ := List.mem_map.1 ha
    exact .str _
  · obtain ⟨s, _, rfl⟩ := List.mem_map.1 ha
    exact .bool _

theorem un_np {f : Nat} {cells : List (List AV)} {n i : Nat} (hc : ∀ x, x ∈ cells → ∀ a, a ∈ x → NP (fun i => i < 1) a) : ∀ q, q ∈ unAt f cells n i → NP (fun i => i < 1) q.2 := by
  intro q hq
  simp only [unAt, List.mem_cons, List.not_mem_nil, or_false] at hq
  rcases hq with rfl | rfl | rfl | rfl | rfl
  · exact .func _ _ (by simp)
  · exact .mp _ (by simp)
  · exact .sl _ _ _ _ hc
  · exact .int _ _
  · exact .int _ _

theorem tabs_np {ok : Nat → Prop} (l : List Tab) : ∀ x, x ∈ l.map Tab.c → ∀ a, a ∈ x → NP ok a := fun x hx a ha => by
  obtain ⟨w, _, rfl⟩ := List.mem_map.1 hx
  exact w.np a ha
theorem cols_np {ok : Nat → Prop} (l : List Col) : ∀ x, x ∈ l.map Col.c → ∀ a, a ∈ x → NP ok a := fun x hx a ha => by
  obtain ⟨w, _, rfl⟩ := List.mem_map.1 hx
  exact w.np a ha

theorem unLoopT (l : List Tab) (hl : l.length ≤ 1000000) (r0 : Bool) (R : VE → Sy → Prop) (hT : r0 = true → ∀ hb, R (.exit 0) ⟨[], [], hb⟩) (hF : r0 = false → ∀ hb, R .ret ⟨[], [(4, .bool false)], hb⟩) :
    ∀ (g i : Nat), i + g = l.length → r0 = unl ((l.take i).map Tab.n) ((l.drop i).map Tab.n) → VloopS Tryd.prog (tr []) 30 0 c41b0 (exW 30 R) ⟨[], unAt 42 (l.map Tab.c) l.length i, [seenBx ((l.take i).map Tab.n)]⟩
  | 0, i, hg, he => by
    rw [List.drop_eq_nil_of_le (by omega)] at he
    refine VloopS.round ?_
    refine cond_f (decide_eq_false (by omega)) ?_
    exact ex_w (hT he _) rfl trivial rfl
  | g + 1, i, hg, he => by
    have hlt : i < l.length := by omega
    have wi : IntKind.i64.wrap ((i : Int) + 1) = ((i + 1 : Nat) : Int) := by rw [i64_in _ (by omega)]; omega
    rw [List.drop_eq_getElem_cons hlt, List.map_cons, unl] at he
    have nx := fun h => unLoopT l hl r0 R hT hF g (i + 1) (by omega) h
    rw [take_snoc l i hlt, List.map_append, List.map_cons, List.map_nil] at nx
    refine VloopS.round ?_
    refine cond_t (decide_eq_true (by omega)) ?_
    refine And.intro rfl (And.intro (Int.natCast_nonneg i) (Exists.intro l[i].c (And.intro (map_get hlt) ?_)))
    generalize l[i] = t at he nx
    generalize (l.take i).map Tab.n = seen at he nx ⊢
    refine call_p (nameTN t) ?_
    refine call_p (namedN t.n) ?_
    have hm := mfind_seen t.n seen
    cases hn : namedB t.n with
    | false =>
      rw [hn, Bool.false_and, Bool.false_and] at he
      refine guard_f (by decide) ?_
      repeat (first | refine guard_t rfl ?_ | refine guard_f (by decide) ?_)
      refine cond_t rfl ?_
      exact ex_w (hF he _) rfl ⟨.refl _, trivial⟩ rfl
    | true =>
      rw [hn, Bool.true_and] at he
      refine guard_t rfl ?_
      repeat (first | refine guard_t rfl ?_ | refine guard_f (by decide) ?_)
      cases hc : seen.contains t.n with
      | true =>
        rw [hc] at hm he
        refine Exists.intro (some true) (And.intro hm ?_)
        repeat (first | refine guard_t rfl ?_ | refine guard_f (by decide) ?_)
        refine cond_t rfl ?_
        exact ex_w (hF (by rw [he]; rfl) _) rfl ⟨.refl _, trivial⟩ rfl
      | false =>
        rw [hc] at hm he
        refine Exists.intro none (And.intro hm ?_)
        repeat (first | refine guard_t rfl ?_ | refine guard_f (by decide) ?_)
        refine cond_f rfl ?_
        refine And.intro hm ?_
        refine VloopS.weakBox (l := unAt 42 (l.map Tab.c) l.length (i + 1)) (h := [seenBx (seen ++ [t.n])]) (ex := [.cells t.c]) rfl ⟨.refl _, .refl _, .refl _, .refl _, .eq (int_eq wi), trivial⟩ ?_ (Nat.zero_le _) (un_np (tabs_np l)) (fun o ho => by rw [List.mem_singleton.1 ho]; exact seen_np _) (nx (by rw [he]; rfl))
        show [HObj.map (seenK seen ++ [.str (st t.n)]) (seenV seen ++ [.bool true]), .cells t.c] = _
        simp [seenBx, seenK, seenV]

theorem unlikeTN (nl : Option Bool) (own : Bool) (l : List Tab) (hl : l.length ≤ 1000000) : PCallN Tryd.prog 41 [.sl 3 nl own (l.map Tab.c), .func 42 []] (.bool (unl [] (l.map Tab.n))) := by
  refine PCallN.of (tr []) f41 (Nat.le_of_ble_eq_true rfl) (np_cons (np_tabs _) (np_cons (.func _ _ (by simp)) np_nil)) (.bool _) ?_
  refine VloopS.weakE (l := unAt 42 (l.map Tab.c) l.length 0) (h := [seenBx []]) rfl ⟨.refl _, .refl _, .both _ _ _ _, .eq (int_eq (by rw [List.length_map])), .eq (int_eq rfl), trivial⟩ rfl (Nat.zero_le _) (VloopS.exW (unLoopT l hl (unl [] (l.map Tab.n)) _ ?_ ?_ l.length 0 (by omega) rfl))
  · intro e hb
    exact bool_eq e.symm
  · intro e hb
    exact bool_eq e.symm

end Go.Proofs.YtmjdoonaidolkaaDoor.V

/- table.columns, table.Right. -/
namespace Go.Proofs.YtmjdoonaidolkaaDoor.V
open Go.IntWalk Go.Lib

theorem unLoopC (l : List Col) (hl : l.length ≤ 1000000) (r0 : Bool) (R : VE → Sy → Prop) (hT : r0 = true → ∀ hb, R (.exit 0) ⟨[], [], hb⟩) (hF : r0 = false → ∀ hb, R .ret ⟨[], [(4, .bool false)], hb⟩) :
    ∀ (g i : Nat), i + g = l.length → r0 = unl ((l.take i).map Col.n) ((l.drop i).map Col.n) → VloopS Tryd.prog (tr []) 30 0 c57b0 (exW 30 R) ⟨[], unAt 58 (l.map Col.c) l.length i, [seenBx ((l.take i).map Col.n)]⟩
  | 0, i, hg, he => by
    rw [List.drop_eq_nil_of_le (by omega)] at he
    refine VloopS.round ?_
    refine cond_f (decide_eq_false (by omega)) ?_
    exact ex_w (hT he _) rfl trivial rfl
  | g + 1, i, hg, he => by
    have hlt : i < l.length := by omega
    have wi : IntKind.i64.wrap ((i : Int) + 1) = ((i + 1 : Nat) : Int) := by rw [i64_in _ (by omega)]; omega
    rw [List.drop_eq_getElem_cons hlt, List.map_cons, unl] at he
    have nx := fun h => unLoopC l hl r0 R hT hF g (i + 1) (by omega) h
    rw [take_snoc l i hlt, List.map_append, List.map_cons, List.map_nil] at nx
    refine VloopS.round ?_
    refine cond_t (decide_eq_true (by omega)) ?_
    refine And.intro rfl (And.intro (Int.natCast_nonneg i) (Exists.intro l[i].c (And.intro (map_get hlt) ?_)))
    generalize l[i] = t at he nx
    generalize (l.take i).map Col.n = seen at he nx ⊢
    refine call_p (nameCN t) ?_
    refine call_p (namedN t.n) ?_
    have hm := mfind_seen t.n seen
    cases hn : namedB t.n with
    | false =>
      rw [hn, Bool.false_and, Bool.false_and] at he
      refine guard_f (by decide) ?_
      repeat (first | refine guard_t rfl ?_ | refine guard_f (by decide) ?_)
      refine cond_t rfl ?_
      exact ex_w (hF he _) rfl ⟨.refl _, trivial⟩ rfl
    | true =>
      rw [hn, Bool.true_and] at he
      refine guard_t rfl ?_
      repeat (first | refine guard_t rfl ?_ | refine guard_f (by decide) ?_)
      cases hc : seen.contains t.n with
      | true =>
        rw [hc] at hm he
        refine Exists.intro (some true) (And.intro hm ?_)
        repeat (first | refine guard_t rfl ?_ | refine guard_f (by decide) ?_)
        refine cond_t rfl ?_
        exact ex_w (hF (by rw [he]; rfl) _) rfl ⟨.refl _, trivial⟩ rfl
      | false =>
        rw [hc] at hm he
        refine Exists.intro none (And.intro hm ?_)
        repeat (first | refine guard_t rfl ?_ | refine guard_f (by decide) ?_)
        refine cond_f rfl ?_
        refine And.intro hm ?_
        refine VloopS.weakBox (l := unAt 58 (l.map Col.c) l.length (i + 1)) (h := [seenBx (seen ++ [t.n])]) (ex := [.cells t.c]) rfl ⟨.refl _, .refl _, .refl _, .refl _, .eq (int_eq wi), trivial⟩ ?_ (Nat.zero_le _) (un_np (cols_np l)) (fun o ho => by rw [List.mem_singleton.1 ho]; exact seen_np _) (nx (by rw [he]; rfl))
        show [HObj.map (seenK seen ++ [.str (st t.n)]) (seenV seen ++ [.bool true]), .cells t.c] = _
        simp [seenBx, seenK, seenV]

theorem unlikeCN (nl : Option Bool) (own : Bool) (l : List Col) (hl : l.length ≤ 1000000) : PCallN Tryd.prog 57 [.sl 3 nl own (l.map Col.c), .func 58 []] (.bool (unl [] (l.map Col.n))) := by
  refine PCallN.of (tr []) f57 (Nat.le_of_ble_eq_true rfl) (np_cons (np_cols _) (np_cons (.func _ _ (by simp)) np_nil)) (.bool _) ?_
  refine VloopS.weakE (l := unAt 58 (l.map Col.c) l.length 0) (h := [seenBx []]) rfl ⟨.refl _, .refl _, .both _ _ _ _, .eq (int_eq (by rw [List.length_map])), .eq (int_eq rfl), trivial⟩ rfl (Nat.zero_le _) (VloopS.exW (unLoopC l hl (unl [] (l.map Col.n)) _ ?_ ?_ l.length 0 (by omega) rfl))
  · intro e hb
    exact bool_eq e.symm
  · intro e hb
    exact bool_eq e.symm

/-- A column that may not be. -/
def colBad (ks : Int) (c : Col) (i : Nat) : Bool := (decide (c.k ≠ 1) && decide (c.k ≠ 2)) || (c.b && decide ((i : Int) < ks))
def colsOk (ks : Int) : List Col → Nat → Bool
  | [], _ => true
  | c :: r, i => !colBad ks c i && colsOk ks r (i + 1)
def colB (t : Tab) : Bool := colsOk t.ks t.cs 0 && unl [] (t.cs.map Col.n)

theorem kne (k : UInt8) (c : UInt8) (n : Int) (h : (c.toNat : Int) = n) : ((k.toNat : Int) != n) = decide (k ≠ c) := by
  subst h
  rw [Bool.eq_iff_iff, bne_iff_ne, decide_eq_true_eq]
  constructor
  · intro h e
    exact h (by rw [e])
  · intro h e
    exact h (UInt8.toNat_inj.1 (by omega))

def cbx (t : Tab) : HObj := .cells t.c
def coAt (t : Tab) (i : Nat) : List (Nat × AV) := [(1, .ptr (some (0, 0))), (6, .sl 3 none false (t.cs.map Col.c)), (7, .int .i64 t.cs.length), (8, .int .i64 i)]

theorem coLoop (t : Tab) (hl : t.cs.length ≤ 1000000) (r0 : Bool) (R : VE → Sy → Prop) (hT : r0 = true → R (.exit 0) ⟨[], [(1, .ptr (some (0, 0)))], [cbx t]⟩) (hF : r0 = false → ∀ hb, R .ret ⟨[], [(2, .bool false)], hb⟩) :
    ∀ (g i : Nat), i + g = t.cs.length → r0 = colsOk t.ks (t.cs.drop i) i → VloopS Tryd.prog (tr []) 35 0 c43b0 (exW 35 R) ⟨[], coAt t i, [cbx t]⟩
  | 0, i, hg, he => by
    rw [List.drop_eq_nil_of_le (by omega)] at he
    refine VloopS.round ?_
    refine cond_f (decide_eq_false (by omega)) ?_
    exact ex_w (hT he) rfl ⟨.refl _, trivial⟩ rfl
  | g + 1, i, hg, he => by
    have hlt : i < t.cs.length := by omega
    have wi : IntKind.i64.wrap ((i : Int) + 1) = ((i + 1 : Nat) : Int) := by rw [i64_in _ (by omega)]; omega
    rw [List.drop_eq_getElem_cons hlt, colsOk] at he
    have nx0 := fun h => coLoop t hl r0 R hT hF g (i + 1) (by omega) h
    refine VloopS.round ?_
    refine cond_t (decide_eq_true (by omega)) ?_
    refine And.intro rfl (And.intro (Int.natCast_nonneg i) (Exists.intro t.cs[i].c (And.intro (map_get hlt) ?_)))
    generalize t.cs[i] = c at he
    have k1 := kne c.k 1 1 rfl
    have k2 := kne c.k 2 2 rfl
    have nx : colBad t.ks c i = false → ∀ {σ : Sy}, σ.get 1 = .ptr (some (0, 0)) → σ.get 6 = .sl 3 none false (t.cs.map Col.c) → σ.get 7 = .int .i64 t.cs.length → σ.get 8 = .int .i64 (IntKind.i64.wrap ((i : Int) + 1)) → σ.h = [cbx t] ++ [.cells c.c] → VloopS Tryd.prog (tr []) 35 0 c43b0 (exW 35 R) σ := by
      intro hb σ h1 h6 h7 h8 hh
      refine VloopS.weakBox (l := coAt t (i + 1)) (h := [cbx t]) (ex := [.cells c.c]) rfl ⟨.eq h1, .eq h6, .eq h7, .eq (h8.trans (int_eq wi)), trivial⟩ hh (Nat.zero_le _) (fun q hq => ?_) (fun o ho => by rw [List.mem_singleton.1 ho]; exact t.np) (nx0 (by rw [he, hb]; rfl))
      simp only [coAt, List.mem_cons, List.not_mem_nil, or_false] at hq
      rcases hq with rfl | rfl | rfl | rfl
      · exact .ptr _ _ (by simp)
      · exact np_cols _
      · exact .int _ _
      · exact .int _ _
    have out : colBad t.ks c i = true → ∀ hb, R .ret ⟨[], [(2, .bool false)], hb⟩ := fun h => hF (by rw [he, h]; rfl)
    clear he nx0
    unfold colBad at nx out
    obtain ⟨cn, ck, cb⟩ := c
    simp only at k1 k2 nx out
    -- behind the kinds
    cases d1 : decide (ck ≠ 1) with
    | false =>
      rw [d1] at k1
      simp only [d1, Bool.false_and, Bool.false_or] at nx out
      refine guard_f (by rw [k1]; decide) ?_
      rw [k1]
      repeat (first | refine guard_t rfl ?_ | refine guard_f (by decide) ?_)
      cases cb with
      | false =>
        refine guard_f (by show ¬ false = true; decide) ?_
        repeat (first | refine guard_t rfl ?_ | refine guard_f (by decide) ?_)
        refine cond_f rfl ?_
        exact nx rfl rfl rfl rfl rfl rfl
      | true =>
        refine guard_t rfl ?_
        repeat (first | refine guard_t rfl ?_ | refine guard_f (by decide) ?_)
        cases d3 : decide ((i : Int) < t.ks) with
        | true =>
          refine cond_t rfl ?_
          exact ex_w (out (by rw [d3]; rfl) _) rfl ⟨.refl _, trivial⟩ rfl
        | false =>
          refine cond_f rfl ?_
          exact nx (by rw [d3]; rfl) rfl rfl rfl rfl rfl
    | true =>
      rw [d1] at k1
      refine guard_t k1 ?_
      rw [k1]
      repeat (first | refine guard_t rfl ?_ | refine guard_f (by decide) ?_)
      cases d2 : decide (ck ≠ 2) with
      | true =>
        rw [d2] at k2
        refine guard_f (by rw [k2]; decide) ?_
        rw [k2]
        repeat (first | refine guard_t rfl ?_ | refine guard_f (by decide) ?_)
        refine cond_t rfl ?_
        exact ex_w (out (by rw [d1, d2]; rfl) _) rfl ⟨.refl _, trivial⟩ rfl
      | false =>
        rw [d2] at k2
        simp only [d1, d2, Bool.and_false, Bool.false_or] at nx out
        refine guard_t k2 ?_
        rw [k2]
        repeat (first | refine guard_t rfl ?_ | refine guard_f (by decide) ?_)
        cases cb with
        | false =>
          refine guard_f (by show ¬ false = true; decide) ?_
          repeat (first | refine guard_t rfl ?_ | refine guard_f (by decide) ?_)
          refine cond_f rfl ?_
          exact nx rfl rfl rfl rfl rfl rfl
        | true =>
          refine guard_t rfl ?_
          repeat (first | refine guard_t rfl ?_ | refine guard_f (by decide) ?_)
          cases d3 : decide ((i : Int) < t.ks) with
          | true =>
            refine cond_t rfl ?_
            exact ex_w (out (by rw [d3]; rfl) _) rfl ⟨.refl _, trivial⟩ rfl
          | false =>
            refine cond_f rfl ?_
            exact nx (by rw [d3]; rfl) rfl rfl rfl rfl rfl

theorem columnsN (t : Tab) (hl : t.cs.length ≤ 1000000) : PCallN Tryd.prog 43 [.agg t.c] (.bool (colB t)) := by
  refine PCallN.of (tr []) f43 (Nat.le_of_ble_eq_true rfl) (np_cons (.agg _ t.np) np_nil) (.bool _) ?_
  unfold colB
  refine VloopS.weakE (l := coAt t 0) (h := [cbx t]) rfl ⟨.refl _, .refl _, .eq (int_eq (by rw [List.length_map])), .eq (int_eq rfl), trivial⟩ rfl (Nat.zero_le _) (VloopS.exW (coLoop t hl (colsOk t.ks t.cs 0) _ ?_ ?_ t.cs.length 0 (by omega) rfl))
  · intro e
    rw [e, Bool.true_and]
    refine call_p (unlikeCN none false t.cs hl) ?_
    exact bool_eq rfl
  · intro e hb
    rw [e, Bool.false_and]
    exact bool_eq rfl

def sizeB (t : Tab) : Bool := !(decide (((t.cs.map Col.c).length : Int) < 1) || (decide (((t.cs.map Col.c).length : Int) > 8) || (decide (t.ks < 1) || decide (t.ks > ((t.cs.map Col.c).length : Nat)))))
def tabB (t : Tab) : Bool := sizeB t && colB t
def rgB (l : List Tab) : Bool := (decide (1 ≤ l.length) && decide (l.length ≤ 4)) && (unl [] (l.map Tab.n) && l.all tabB)

def trAt (l : List Tab) (i : Nat) : List (Nat × AV) := [(19, .sl 3 none false (l.map Tab.c)), (20, .int .i64 l.length), (21, .int .i64 i)]

theorem rgLoop (l : List Tab) (hl : l.length ≤ 1000000) (hc : ∀ t, t ∈ l → t.cs.length ≤ 1000000) (r0 : Bool) (R : VE → Sy → Prop) (hT : r0 = true → ∀ hb, R (.exit 0) ⟨[], [], hb⟩) (hF : r0 = false → ∀ hb, R .ret ⟨[], [(2, .bool false)], hb⟩) :
    ∀ (g i : Nat), i + g = l.length → r0 = (l.drop i).all tabB → VloopS Tryd.prog (tr []) 51 0 c21b0 (exW 51 R) ⟨[], trAt l i, []⟩
  | 0, i, hg, he => by
    rw [List.drop_eq_nil_of_le (by omega)] at he
    refine VloopS.round ?_
    refine cond_f (decide_eq_false (by omega)) ?_
    exact ex_w (hT he _) rfl trivial rfl
  | g + 1, i, hg, he => by
    have hlt : i < l.length := by omega
    have wi : IntKind.i64.wrap ((i : Int) + 1) = ((i + 1 : Nat) : Int) := by rw [i64_in _ (by omega)]; omega
    rw [List.drop_eq_getElem_cons hlt, List.all_cons] at he
    have nx := fun h => rgLoop l hl hc r0 R hT hF g (i + 1) (by omega) h
    have hct := hc l[i] (List.getElem_mem hlt)
    refine VloopS.round ?_
    refine cond_t (decide_eq_true (by omega)) ?_
    refine And.intro rfl (And.intro (Int.natCast_nonneg i) (Exists.intro l[i].c (And.intro (map_get hlt) ?_)))
    generalize l[i] = t at he hct
    have out : tabB t = false → ∀ hb, R .ret ⟨[], [(2, .bool false)], hb⟩ := fun h => hF (by rw [he, h]; rfl)
    have hcol := columnsN t hct
    have tb : tabB t = (sizeB t && colB t) := rfl
    unfold sizeB at tb
    cases d1 : decide ((((t.cs.map Col.c).length : Nat) : Int) < 1) with
    | true =>
      rw [d1] at tb
      refine guard_f (by rw [d1]; decide) ?_
      rw [d1]
      repeat (first | refine guard_t rfl ?_ | refine guard_f (by decide) ?_)
      refine cond_t rfl ?_
      exact ex_w (out tb _) rfl ⟨.refl _, trivial⟩ rfl
    | false =>
    rw [d1, Bool.false_or] at tb
    refine guard_t d1 ?_
    rw [d1]
    repeat (first | refine guard_t rfl ?_ | refine guard_f (by decide) ?_)
    cases d2 : decide ((((t.cs.map Col.c).length : Nat) : Int) > 8) with
    | true =>
      rw [d2] at tb
      refine guard_f (by rw [d2]; decide) ?_
      rw [d2]
      repeat (first | refine guard_t rfl ?_ | refine guard_f (by decide) ?_)
      refine cond_t rfl ?_
      exact ex_w (out tb _) rfl ⟨.refl _, trivial⟩ rfl
    | false =>
    rw [d2, Bool.false_or] at tb
    refine guard_t d2 ?_
    rw [d2]
    repeat (first | refine guard_t rfl ?_ | refine guard_f (by decide) ?_)
    cases d3 : decide (t.ks < 1) with
    | true =>
      rw [d3] at tb
      refine guard_f (by rw [d3]; decide) ?_
      rw [d3]
      repeat (first | refine guard_t rfl ?_ | refine guard_f (by decide) ?_)
      refine cond_t rfl ?_
      exact ex_w (out tb _) rfl ⟨.refl _, trivial⟩ rfl
    | false =>
    rw [d3, Bool.false_or] at tb
    refine guard_t d3 ?_
    rw [d3]
    repeat (first | refine guard_t rfl ?_ | refine guard_f (by decide) ?_)
    cases d4 : decide (t.ks > ((t.cs.map Col.c).length : Nat)) with
    | true =>
      rw [d4] at tb
      refine guard_f (by rw [d4]; decide) ?_
      rw [d4]
      repeat (first | refine guard_t rfl ?_ | refine guard_f (by decide) ?_)
      refine cond_t rfl ?_
      exact ex_w (out tb _) rfl ⟨.refl _, trivial⟩ rfl
    | false =>
    rw [d4] at tb
    refine guard_t d4 ?_
    rw [d4]
    repeat (first | refine guard_t rfl ?_ | refine guard_f (by decide) ?_)
    refine call_p hcol ?_
    repeat (first | refine guard_t rfl ?_ | refine guard_f (by decide) ?_)
    cases hcb : colB t with
    | false =>
      refine cond_t rfl ?_
      exact ex_w (out (by rw [tb, hcb]; rfl) _) rfl ⟨.refl _, trivial⟩ rfl
    | true =>
      refine cond_f rfl ?_
      refine VloopS.weakBox (l := trAt l (i + 1)) (h := []) (ex := [.cells t.c]) rfl ⟨.refl _, .refl _, .eq (int_eq wi), trivial⟩ rfl (Nat.zero_le _) (fun q hq => ?_) (by simp) (nx (by rw [he, tb, hcb]; rfl))
      simp only [trAt, List.mem_cons, List.not_mem_nil, or_false] at hq
      rcases hq with rfl | rfl | rfl
      · exact np_tabs _
      · exact .int _ _
      · exact .int _ _

theorem rightTN (nl : Option Bool) (own : Bool) (l : List Tab) (hl : l.length ≤ 1000000) (hc : ∀ t, t ∈ l → t.cs.length ≤ 1000000) : PCallN Tryd.prog 21 [.sl 3 nl own (l.map Tab.c)] (.bool (rgB l)) := by
  refine PCallN.weakArgs (.cons _ _ _ _ (.both _ _ _ _) .nil) (np_cons (np_tabs _) np_nil) ?_
  refine PCallN.of (tr []) f21 (Nat.le_of_ble_eq_true rfl) (np_cons (np_tabs _) np_nil) (.bool _) ?_
  unfold rgB
  by_cases h1 : 1 ≤ l.length
  case neg =>
    have e1 : decide ((((l.map Tab.c).length : Nat) : Int) < 1) = true := decide_eq_true (by rw [List.length_map]; omega)
    rw [decide_eq_false h1]
    refine guard_f (by rw [e1]; decide) ?_
    rw [e1]
    repeat (first | refine guard_t rfl ?_ | refine guard_f (by decide) ?_)
    refine cond_t rfl ?_
    exact bool_eq rfl
  have e1 : decide ((((l.map Tab.c).length : Nat) : Int) < 1) = false := decide_eq_false (by rw [List.length_map]; omega)
  rw [decide_eq_true h1, Bool.true_and]
  refine guard_t e1 ?_
  rw [e1]
  repeat (first | refine guard_t rfl ?_ | refine guard_f (by decide) ?_)
  by_cases h2 : l.length ≤ 4
  case neg =>
    have e2 : decide ((((l.map Tab.c).length : Nat) : Int) > 4) = true := decide_eq_true (by rw [List.length_map]; omega)
    rw [decide_eq_false h2]
    refine guard_f (by rw [e2]; decide) ?_
    rw [e2]
    repeat (first | refine guard_t rfl ?_ | refine guard_f (by decide) ?_)
    refine cond_t rfl ?_
    exact bool_eq rfl
  have e2 : decide ((((l.map Tab.c).length : Nat) : Int) > 4) = false := decide_eq_false (by rw [List.length_map]; omega)
  rw [decide_eq_true h2, Bool.true_and]
  refine guard_t e2 ?_
  rw [e2]
  repeat (first | refine guard_t rfl ?_ | refine guard_f (by decide) ?_)
  refine call_p (unlikeTN none false l hl) ?_
  repeat (first | refine guard_t rfl ?_ | refine guard_f (by decide) ?_)
  cases hu : unl [] (l.map Tab.n) with
  | false =>
    refine cond_t rfl ?_
    exact bool_eq rfl
  | true =>
    refine cond_f rfl ?_
    rw [Bool.true_and]
    refine VloopS.weakE (l := trAt l 0) (h := []) rfl ⟨.refl _, .eq (int_eq (by rw [List.length_map])), .eq (int_eq rfl), trivial⟩ rfl (Nat.zero_le _) (VloopS.exW (rgLoop l hl hc (l.all tabB) _ ?_ ?_ l.length 0 (by omega) rfl))
    · intro e hb
      exact bool_eq e.symm
    · intro e hb
      exact bool_eq e.symm

end Go.Proofs.YtmjdoonaidolkaaDoor.V

/- The reference's Right. -/
namespace Go.Proofs.YtmjdoonaidolkaaDoor.V
open Go.IntWalk Go.Lib

def colR (ks : Int) : List (List UInt8) → List Col → Nat → Bool
  | _, [], _ => true
  | prev, c :: r, i => namedB c.n && (!colBad ks c i && (!prev.contains c.n && colR ks (prev ++ [c.n]) r (i + 1)))
def refL : List (List UInt8) → List Tab → Bool
  | _, [] => true
  | prev, t :: r => !prev.contains t.n && (namedB t.n && (sizeB t && (colR t.ks [] t.cs 0 && refL (prev ++ [t.n]) r)))

theorem names_get {α : Type} {f : α → List UInt8} {l : List α} {i k : Nat} (hk : k < i) (hi : i ≤ l.length) : ((l.take i).map f).drop k = f (l[k]'(by omega)) :: ((l.take i).map f).drop (k + 1) := by
  have hlen : k < ((l.take i).map f).length := by rw [List.length_map, List.length_take]; omega
  rw [List.drop_eq_getElem_cons hlen]
  congr 1
  rw [List.getElem_map, List.getElem_take]

/-! ### the names ahead -/

def raAt (l : List Tab) (i k : Nat) : List (Nat × AV) := [(0, .sl 3 none false (l.map Tab.c)), (3, .int .i64 i), (4, .ptr (some (0, 0))), (5, .int .i64 k)]

theorem raLoop (l : List Tab) (hl : l.length ≤ 1000000) (i : Nat) (hi : i ≤ l.length) (t : Tab) (r0 : Bool) (R : VE → Sy → Prop)
    (hT : r0 = false → R (.exit 2) ⟨[], [(0, .sl 3 none false (l.map Tab.c)), (3, .int .i64 i), (4, .ptr (some (0, 0)))], [cbx t]⟩) (hF : r0 = true → ∀ hb, R .ret ⟨[], [(2, .bool false)], hb⟩) :
    ∀ (g k : Nat), k + g = i → r0 = (((l.take i).map Tab.n).drop k).contains t.n → VloopS Tryd.prog (tr []) 119 0 c22b2 (exW 119 R) ⟨[], raAt l i k, [cbx t]⟩
  | 0, k, hg, he => by
    rw [List.drop_eq_nil_of_le (by rw [List.length_map, List.length_take]; omega)] at he
    refine VloopS.round ?_
    refine cond_f (decide_eq_false (by omega)) ?_
    exact ex_w (hT he) rfl ⟨.refl _, .refl _, .refl _, trivial⟩ rfl
  | g + 1, k, hg, he => by
    have hlt : k < l.length := by omega
    rw [names_get (by omega) hi, List.contains_cons] at he
    have wk : IntKind.i64.wrap ((k : Int) + 1) = ((k + 1 : Nat) : Int) := by rw [i64_in _ (by omega)]; omega
    refine VloopS.round ?_
    refine cond_t (decide_eq_true (by omega)) ?_
    refine And.intro rfl (And.intro (Int.natCast_nonneg k) (Exists.intro l[k].c (And.intro (map_get hlt) ?_)))
    refine And.intro (by kernel_rfl) ?_
    have hb := st_beq l[k].n t.n
    by_cases h : l[k].n = t.n
    · rw [h, beq_self_eq_true, Bool.true_or] at he
      refine cond_t (by rw [hb]; exact decide_eq_true h) ?_
      exact ex_w (hF he _) rfl ⟨.refl _, trivial⟩ rfl
    · rw [beq_eq_false_iff_ne.2 (fun e => h e.symm), Bool.false_or] at he
      refine cond_f (by rw [hb]; exact decide_eq_false h) ?_
      exact VloopS.weakE (l := raAt l i (k + 1)) (h := [cbx t]) rfl ⟨.refl _, .refl _, .refl _, .eq (int_eq wk), trivial⟩ rfl (Nat.zero_le _) (raLoop l hl i hi t r0 R hT hF g (k + 1) (by omega) he)

/-! ### the columns' names ahead -/

def ccbx (c : Col) : HObj := .cells c.c
def rjAt (l : List Tab) (i k j : Nat) : List (Nat × AV) := [(0, .sl 3 none false (l.map Tab.c)), (3, .int .i64 i), (4, .ptr (some (0, 0))), (6, .int .i64 k), (7, .ptr (some (1, 0))), (8, .int .i64 j)]

theorem rjLoop (l : List Tab) (i : Nat) (t : Tab) (hl : t.cs.length ≤ 1000000) (k : Nat) (hk : k ≤ t.cs.length) (c : Col) (r0 : Bool) (R : VE → Sy → Prop)
    (hT : r0 = false → R (.exit 6) ⟨[], [(0, .sl 3 none false (l.map Tab.c)), (3, .int .i64 i), (4, .ptr (some (0, 0))), (6, .int .i64 k)], [cbx t, ccbx c]⟩) (hF : r0 = true → ∀ hb, R .ret ⟨[], [(2, .bool false)], hb⟩) :
    ∀ (g j : Nat), j + g = k → r0 = (((t.cs.take k).map Col.n).drop j).contains c.n → VloopS Tryd.prog (tr []) 119 0 c22b0 (exW 119 R) ⟨[], rjAt l i k j, [cbx t, ccbx c]⟩
  | 0, j, hg, he => by
    rw [List.drop_eq_nil_of_le (by rw [List.length_map, List.length_take]; omega)] at he
    refine VloopS.round ?_
    refine cond_f (decide_eq_false (by omega)) ?_
    exact ex_w (hT he) rfl ⟨.refl _, .refl _, .refl _, .refl _, trivial⟩ rfl
  | g + 1, j, hg, he => by
    have hlt : j < t.cs.length := by omega
    rw [names_get (by omega) hk, List.contains_cons] at he
    have wj : IntKind.i64.wrap ((j : Int) + 1) = ((j + 1 : Nat) : Int) := by rw [i64_in _ (by omega)]; omega
    refine VloopS.round ?_
    refine cond_t (decide_eq_true (by omega)) ?_
    refine And.intro rfl (And.intro (Int.natCast_nonneg j) (Exists.intro t.cs[j].c (And.intro (map_get hlt) ?_)))
    refine And.intro (by kernel_rfl) ?_
    have hb := st_beq t.cs[j].n c.n
    by_cases h : t.cs[j].n = c.n
    · rw [h, beq_self_eq_true, Bool.true_or] at he
      refine cond_t (by rw [hb]; exact decide_eq_true h) ?_
      exact ex_w (hF he _) rfl ⟨.refl _, trivial⟩ rfl
    · rw [beq_eq_false_iff_ne.2 (fun e => h e.symm), Bool.false_or] at he
      refine cond_f (by rw [hb]; exact decide_eq_false h) ?_
      exact VloopS.weakE (l := rjAt l i k (j + 1)) (h := [cbx t, ccbx c]) rfl ⟨.refl _, .refl _, .refl _, .refl _, .refl _, .eq (int_eq wj), trivial⟩ rfl (Nat.zero_le _) (rjLoop l i t hl k hk c r0 R hT hF g (j + 1) (by omega) he)

/-! ### the columns -/

def rcoAt (l : List Tab) (i k : Nat) : List (Nat × AV) := [(0, .sl 3 none false (l.map Tab.c)), (3, .int .i64 i), (4, .ptr (some (0, 0))), (6, .int .i64 k)]
theorem rco_np (l : List Tab) (i k : Nat) : ∀ q, q ∈ rcoAt l i k → NP (fun i => i < 1) q.2 := by
  intro q hq
  simp only [rcoAt, List.mem_cons, List.not_mem_nil, or_false] at hq
  rcases hq with rfl | rfl | rfl | rfl
  · exact np_tabs _
  · exact .int _ _
  · exact .ptr _ _ (by simp)
  · exact .int _ _

theorem rcoLoop (l : List Tab) (i : Nat) (t : Tab) (hl : t.cs.length ≤ 1000000) (r0 : Bool) (R : VE → Sy → Prop)
    (hT : r0 = true → R (.exit 4) ⟨[], [(0, .sl 3 none false (l.map Tab.c)), (3, .int .i64 i)], [cbx t]⟩) (hF : r0 = false → ∀ hb, R .ret ⟨[], [(2, .bool false)], hb⟩) :
    ∀ (g k : Nat), k + g = t.cs.length → r0 = colR t.ks ((t.cs.take k).map Col.n) (t.cs.drop k) k → VloopS Tryd.prog (tr []) 119 0 c22b1 (exW 119 R) ⟨[], rcoAt l i k, [cbx t]⟩
  | 0, k, hg, he => by
    rw [List.drop_eq_nil_of_le (by omega)] at he
    refine VloopS.round ?_
    refine cond_f (by rw [List.length_map]; exact decide_eq_false (by omega)) ?_
    exact ex_w (hT he) rfl ⟨.refl _, .refl _, trivial⟩ rfl
  | g + 1, k, hg, he => by
    have hlt : k < t.cs.length := by omega
    have wk : IntKind.i64.wrap ((k : Int) + 1) = ((k + 1 : Nat) : Int) := by rw [i64_in _ (by omega)]; omega
    rw [List.drop_eq_getElem_cons hlt, colR] at he
    have nx0 := fun h => rcoLoop l i t hl r0 R hT hF g (k + 1) (by omega) h
    rw [take_snoc t.cs k hlt, List.map_append, List.map_cons, List.map_nil] at nx0
    refine VloopS.round ?_
    refine cond_t (by rw [List.length_map]; exact decide_eq_true (by omega)) ?_
    refine And.intro rfl (And.intro (Int.natCast_nonneg k) (Exists.intro t.cs[k].c (And.intro (map_get hlt) ?_)))
    generalize t.cs[k] = c at he nx0
    refine call_p (rNamedN c.n) ?_
    have k1 := kne c.k 1 1 rfl
    have k2 := kne c.k 2 2 rfl
    -- behind the checks
    have inner : namedB c.n = true → colBad t.ks c k = false → ∀ {σ : Sy}, σ.get 0 = .sl 3 none false (l.map Tab.c) → σ.get 3 = .int .i64 i → σ.get 4 = .ptr (some (0, 0)) → σ.get 6 = .int .i64 k → σ.get 7 = .ptr (some (1, 0)) → σ.get 8 = .int .i64 ((0 : Nat) : Int) → σ.h = [cbx t, ccbx c] →
        ∀ Q : VE → Sy → Prop, ((∀ hb, R .ret ⟨[], [(2, .bool false)], hb⟩) → ∀ hb, Q .ret ⟨[], [(2, .bool false)], hb⟩) → ((!((t.cs.take k).map Col.n).contains c.n) = true → Q (.exit 6) ⟨[], [(0, .sl 3 none false (l.map Tab.c)), (3, .int .i64 i), (4, .ptr (some (0, 0))), (6, .int .i64 k)], [cbx t, ccbx c]⟩) → VloopS Tryd.prog (tr []) 119 0 c22b0 Q σ := by
      intro hn hb σ h0 h3 h4 h6 h7 h8 hh Q hQ1 hQ2
      refine VloopS.weakE (l := rjAt l i k 0) (h := [cbx t, ccbx c]) rfl ⟨.eq h0, .eq h3, .eq h4, .eq h6, .eq h7, .eq h8, trivial⟩ hh (Nat.zero_le _) (VloopS.exW (rjLoop l i t hl k (by omega) c (((t.cs.take k).map Col.n).contains c.n) _ ?_ ?_ k 0 (by omega) (by rw [List.drop_zero])))
      · intro e
        exact hQ2 (by rw [e]; rfl)
      · intro e hb'
        exact hQ1 (hF (by rw [he, hn, hb, e]; rfl)) hb'
    have fin : namedB c.n = true → colBad t.ks c k = false → (!((t.cs.take k).map Col.n).contains c.n) = true → ∀ {σ : Sy}, σ.get 0 = .sl 3 none false (l.map Tab.c) → σ.get 3 = .int .i64 i → σ.get 4 = .ptr (some (0, 0)) → σ.get 6 = .int .i64 (IntKind.i64.wrap ((k : Int) + 1)) → σ.h = [cbx t] ++ [ccbx c] → VloopS Tryd.prog (tr []) 119 0 c22b1 (exW 119 R) σ := by
      intro hn hb hc σ h0 h3 h4 h6 hh
      exact VloopS.weakBox (l := rcoAt l i (k + 1)) (h := [cbx t]) (ex := [ccbx c]) rfl ⟨.eq h0, .eq h3, .eq h4, .eq (h6.trans (int_eq wk)), trivial⟩ hh (Nat.zero_le _) (rco_np l i (k + 1)) (fun o ho => by rw [List.mem_singleton.1 ho]; exact t.np) (nx0 (by rw [he, hn, hb, hc]; rfl))
    have out : (namedB c.n = false ∨ colBad t.ks c k = true) → ∀ hb, R .ret ⟨[], [(2, .bool false)], hb⟩ := fun h => hF (by
      rw [he]
      rcases h with h | h
      · rw [h]; rfl
      · rw [h]; cases namedB c.n <;> rfl)
    clear nx0 he
    obtain ⟨cn, ck, cb⟩ := c
    unfold colBad at inner fin out
    simp only at k1 k2 inner fin out
    cases hn : namedB cn with
    | false =>
      refine guard_f (by decide) ?_
      repeat (first | refine guard_t rfl ?_ | refine guard_f (by decide) ?_)
      refine cond_t rfl ?_
      exact ex_w (out (.inl hn) _) rfl ⟨.refl _, trivial⟩ rfl
    | true =>
      replace inner := inner hn
      replace fin := fin hn
      refine guard_t rfl ?_
      repeat (first | refine guard_t rfl ?_ | refine guard_f (by decide) ?_)
      cases d1 : decide (ck ≠ 1) with
      | false =>
        rw [d1] at k1
        simp only [d1, Bool.false_and, Bool.false_or] at inner fin out
        refine guard_f (by rw [k1]; decide) ?_
        rw [k1]
        repeat (first | refine guard_t rfl ?_ | refine guard_f (by decide) ?_)
        cases cb with
        | false =>
          refine guard_f (by show ¬ false = true; decide) ?_
          repeat (first | refine guard_t rfl ?_ | refine guard_f (by decide) ?_)
          refine cond_f rfl ?_
          refine inner rfl rfl rfl rfl rfl rfl rfl rfl _ (fun h hb => ?_) (fun hcc => ?_)
          · exact ex_w (h _) rfl ⟨.refl _, trivial⟩ rfl
          · exact fin rfl hcc rfl rfl rfl rfl rfl
        | true =>
          refine guard_t rfl ?_
          repeat (first | refine guard_t rfl ?_ | refine guard_f (by decide) ?_)
          cases d3 : decide ((k : Int) < t.ks) with
          | true =>
            refine cond_t rfl ?_
            exact ex_w (out (.inr (by rw [d3]; rfl)) _) rfl ⟨.refl _, trivial⟩ rfl
          | false =>
            refine cond_f rfl ?_
            refine inner (by rw [d3]; rfl) rfl rfl rfl rfl rfl rfl rfl _ (fun h hb => ?_) (fun hcc => ?_)
            · exact ex_w (h _) rfl ⟨.refl _, trivial⟩ rfl
            · exact fin (by rw [d3]; rfl) hcc rfl rfl rfl rfl rfl
      | true =>
        rw [d1] at k1
        refine guard_t k1 ?_
        rw [k1]
        repeat (first | refine guard_t rfl ?_ | refine guard_f (by decide) ?_)
        cases d2 : decide (ck ≠ 2) with
        | true =>
          rw [d2] at k2
          refine guard_f (by rw [k2]; decide) ?_
          rw [k2]
          repeat (first | refine guard_t rfl ?_ | refine guard_f (by decide) ?_)
          refine cond_t rfl ?_
          exact ex_w (out (.inr (by rw [d1, d2]; rfl)) _) rfl ⟨.refl _, trivial⟩ rfl
        | false =>
          rw [d2] at k2
          simp only [d1, d2, Bool.and_false, Bool.false_or] at inner fin out
          refine guard_t k2 ?_
          rw [k2]
          repeat (first | refine guard_t rfl ?_ | refine guard_f (by decide) ?_)
          cases cb with
          | false =>
            refine guard_f (by show ¬ false = true; decide) ?_
            repeat (first | refine guard_t rfl ?_ | refine guard_f (by decide) ?_)
            refine cond_f rfl ?_
            refine inner rfl rfl rfl rfl rfl rfl rfl rfl _ (fun h hb => ?_) (fun hcc => ?_)
            · exact ex_w (h _) rfl ⟨.refl _, trivial⟩ rfl
            · exact fin rfl hcc rfl rfl rfl rfl rfl
          | true =>
            refine guard_t rfl ?_
            repeat (first | refine guard_t rfl ?_ | refine guard_f (by decide) ?_)
            cases d3 : decide ((k : Int) < t.ks) with
            | true =>
              refine cond_t rfl ?_
              exact ex_w (out (.inr (by rw [d3]; rfl)) _) rfl ⟨.refl _, trivial⟩ rfl
            | false =>
              refine cond_f rfl ?_
              refine inner (by rw [d3]; rfl) rfl rfl rfl rfl rfl rfl rfl _ (fun h hb => ?_) (fun hcc => ?_)
              · exact ex_w (h _) rfl ⟨.refl _, trivial⟩ rfl
              · exact fin (by rw [d3]; rfl) hcc rfl rfl rfl rfl rfl

theorem rOuter (l : List Tab) (hl : l.length ≤ 1000000) (hc : ∀ t, t ∈ l → t.cs.length ≤ 1000000) (r0 : Bool) (R : VE → Sy → Prop) (hT : r0 = true → ∀ hb, R (.exit 0) ⟨[], [], hb⟩) (hF : r0 = false → ∀ hb, R .ret ⟨[], [(2, .bool false)], hb⟩) :
    ∀ (g i : Nat), i + g = l.length → r0 = refL ((l.take i).map Tab.n) (l.drop i) → VloopS Tryd.prog (tr []) 119 0 c22b3 (exW 119 R) ⟨[], [(0, .sl 3 none false (l.map Tab.c)), (3, .int .i64 i)], []⟩
  | 0, i, hg, he => by
    rw [List.drop_eq_nil_of_le (by omega)] at he
    refine VloopS.round ?_
    refine cond_f (by rw [List.length_map]; exact decide_eq_false (by omega)) ?_
    exact ex_w (hT he _) rfl trivial rfl
  | g + 1, i, hg, he => by
    have hlt : i < l.length := by omega
    have wi : IntKind.i64.wrap ((i : Int) + 1) = ((i + 1 : Nat) : Int) := by rw [i64_in _ (by omega)]; omega
    rw [List.drop_eq_getElem_cons hlt, refL] at he
    have nx0 := fun h => rOuter l hl hc r0 R hT hF g (i + 1) (by omega) h
    rw [take_snoc l i hlt, List.map_append, List.map_cons, List.map_nil] at nx0
    have hct := hc l[i] (List.getElem_mem hlt)
    refine VloopS.round ?_
    refine cond_t (by rw [List.length_map]; exact decide_eq_true (by omega)) ?_
    refine And.intro rfl (And.intro (Int.natCast_nonneg i) (Exists.intro l[i].c (And.intro (map_get hlt) ?_)))
    generalize l[i] = t at he nx0 hct
    refine VloopS.weakE (l := raAt l i 0) (h := [cbx t]) rfl ⟨.refl _, .refl _, .refl _, .refl _, trivial⟩ rfl (Nat.zero_le _) (VloopS.exW (raLoop l hl i (by omega) t (((l.take i).map Tab.n).contains t.n) _ ?_ ?_ i 0 (by omega) (by rw [List.drop_zero])))
    case refine_2 =>
      intro e hb
      exact ex_w (hF (by rw [he, e]; rfl) _) rfl ⟨.refl _, trivial⟩ rfl
    intro e0
    rw [e0] at he
    have he : r0 = (namedB t.n && (sizeB t && (colR t.ks [] t.cs 0 && refL ((l.take i).map Tab.n ++ [t.n]) (l.drop (i + 1))))) := he
    refine call_p (rNamedN t.n) ?_
    have tb : sizeB t = !(decide (((t.cs.map Col.c).length : Int) < 1) || (decide (((t.cs.map Col.c).length : Int) > 8) || (decide (t.ks < 1) || decide (t.ks > ((t.cs.map Col.c).length : Nat))))) := rfl
    have out : (namedB t.n = false ∨ sizeB t = false) → ∀ hb, R .ret ⟨[], [(2, .bool false)], hb⟩ := fun h => hF (by
      rw [he]
      rcases h with h | h
      · rw [h]; rfl
      · rw [h]; cases namedB t.n <;> rfl)
    cases hn : namedB t.n with
    | false =>
      refine guard_f (by decide) ?_
      repeat (first | refine guard_t rfl ?_ | refine guard_f (by decide) ?_)
      refine cond_t rfl ?_
      exact ex_w (out (.inl hn) _) rfl ⟨.refl _, trivial⟩ rfl
    | true =>
    refine guard_t rfl ?_
    repeat (first | refine guard_t rfl ?_ | refine guard_f (by decide) ?_)
    cases d1 : decide ((((t.cs.map Col.c).length : Nat) : Int) < 1) with
    | true =>
      rw [d1] at tb
      refine guard_f (by rw [d1]; decide) ?_
      rw [d1]
      repeat (first | refine guard_t rfl ?_ | refine guard_f (by decide) ?_)
      refine cond_t rfl ?_
      exact ex_w (out (.inr tb) _) rfl ⟨.refl _, trivial⟩ rfl
    | false =>
    rw [d1, Bool.false_or] at tb
    refine guard_t d1 ?_
    rw [d1]
    repeat (first | refine guard_t rfl ?_ | refine guard_f (by decide) ?_)
    cases d2 : decide ((((t.cs.map Col.c).length : Nat) : Int) > 8) with
    | true =>
      rw [d2] at tb
      refine guard_f (by rw [d2]; decide) ?_
      rw [d2]
      repeat (first | refine guard_t rfl ?_ | refine guard_f (by decide) ?_)
      refine cond_t rfl ?_
      exact ex_w (out (.inr tb) _) rfl ⟨.refl _, trivial⟩ rfl
    | false =>
    rw [d2, Bool.false_or] at tb
    refine guard_t d2 ?_
    rw [d2]
    repeat (first | refine guard_t rfl ?_ | refine guard_f (by decide) ?_)
    cases d3 : decide (t.ks < 1) with
    | true =>
      rw [d3] at tb
      refine guard_f (by rw [d3]; decide) ?_
      rw [d3]
      repeat (first | refine guard_t rfl ?_ | refine guard_f (by decide) ?_)
      refine cond_t rfl ?_
      exact ex_w (out (.inr tb) _) rfl ⟨.refl _, trivial⟩ rfl
    | false =>
    rw [d3, Bool.false_or] at tb
    refine guard_t d3 ?_
    rw [d3]
    repeat (first | refine guard_t rfl ?_ | refine guard_f (by decide) ?_)
    cases d4 : decide (t.ks > ((t.cs.map Col.c).length : Nat)) with
    | true =>
      rw [d4] at tb
      refine cond_t d4 ?_
      exact ex_w (out (.inr tb) _) rfl ⟨.refl _, trivial⟩ rfl
    | false =>
    rw [d4] at tb
    refine cond_f d4 ?_
    have tb : sizeB t = true := tb
    rw [hn, tb] at he
    have he : r0 = (colR t.ks [] t.cs 0 && refL ((l.take i).map Tab.n ++ [t.n]) (l.drop (i + 1))) := he
    refine VloopS.weakE (l := rcoAt l i 0) (h := [cbx t]) rfl ⟨.refl _, .refl _, .refl _, .refl _, trivial⟩ rfl (Nat.zero_le _) (VloopS.exW (rcoLoop l i t hct (colR t.ks [] t.cs 0) _ ?_ ?_ t.cs.length 0 (by omega) rfl))
    · intro e
      refine VloopS.weakBox (l := [(0, .sl 3 none false (l.map Tab.c)), (3, .int .i64 ((i + 1 : Nat) : Int))]) (h := []) (ex := [cbx t]) rfl ⟨.refl _, .eq (int_eq wi), trivial⟩ rfl (Nat.zero_le _) (fun q hq => ?_) (by simp) (nx0 (by rw [he, e]; rfl))
      simp only [List.mem_cons, List.not_mem_nil, or_false] at hq
      rcases hq with rfl | rfl
      · exact np_tabs _
      · exact .int _ _
    · intro e hb
      exact ex_w (hF (by rw [he, e]; rfl) _) rfl ⟨.refl _, trivial⟩ rfl

def rfB (l : List Tab) : Bool := (decide (1 ≤ l.length) && decide (l.length ≤ 4)) && refL [] l

theorem rRightTN (nl : Option Bool) (own : Bool) (l : List Tab) (hl : l.length ≤ 1000000) (hc : ∀ t, t ∈ l → t.cs.length ≤ 1000000) : PCallN Tryd.prog 22 [.sl 3 nl own (l.map Tab.c)] (.bool (rfB l)) := by
  refine PCallN.weakArgs (.cons _ _ _ _ (.both _ _ _ _) .nil) (np_cons (np_tabs _) np_nil) ?_
  refine PCallN.of (tr []) f22 (Nat.le_of_ble_eq_true rfl) (np_cons (np_tabs _) np_nil) (.bool _) ?_
  unfold rfB
  by_cases h1 : 1 ≤ l.length
  case neg =>
    have e1 : decide ((((l.map Tab.c).length : Nat) : Int) < 1) = true := decide_eq_true (by rw [List.length_map]; omega)
    rw [decide_eq_false h1]
    refine guard_f (by rw [e1]; decide) ?_
    rw [e1]
    repeat (first | refine guard_t rfl ?_ | refine guard_f (by decide) ?_)
    refine cond_t rfl ?_
    exact bool_eq rfl
  have e1 : decide ((((l.map Tab.c).length : Nat) : Int) < 1) = false := decide_eq_false (by rw [List.length_map]; omega)
  rw [decide_eq_true h1, Bool.true_and]
  refine guard_t e1 ?_
  rw [e1]
  repeat (first | refine guard_t rfl ?_ | refine guard_f (by decide) ?_)
  by_cases h2 : l.length ≤ 4
  case neg =>
    rw [decide_eq_false h2]
    refine cond_t (decide_eq_true (by rw [List.length_map]; omega)) ?_
    exact bool_eq rfl
  rw [decide_eq_true h2, Bool.true_and]
  refine cond_f (decide_eq_false (by rw [List.length_map]; omega)) ?_
  refine VloopS.weakE (l := [(0, .sl 3 none false (l.map Tab.c)), (3, .int .i64 ((0 : Nat) : Int))]) (h := []) rfl ⟨.refl _, .refl _, trivial⟩ rfl (Nat.zero_le _) (VloopS.exW (rOuter l hl hc (refL [] l) _ ?_ ?_ l.length 0 (by omega) rfl))
  · intro e hb
    exact bool_eq e.symm
  · intro e hb
    exact bool_eq e.symm

/-! ### both are alike -/

theorem colR_eq (ks : Int) : ∀ (cs : List Col) (prev : List (List UInt8)) (i : Nat), colR ks prev cs i = (colsOk ks cs i && unl prev (cs.map Col.n))
  | [], _, _ => rfl
  | c :: r, prev, i => by
    rw [colR, colsOk, List.map_cons, unl, colR_eq ks r]
    cases namedB c.n <;> cases colBad ks c i <;> cases prev.contains c.n <;> cases colsOk ks r (i + 1) <;> simp

theorem refL_eq : ∀ (l : List Tab) (prev : List (List UInt8)), refL prev l = (unl prev (l.map Tab.n) && l.all tabB)
  | [], _ => rfl
  | t :: r, prev => by
    rw [refL, List.map_cons, unl, List.all_cons, refL_eq r, colR_eq]
    show _ = ((namedB t.n && !prev.contains t.n) && unl (prev ++ [t.n]) (r.map Tab.n) && ((sizeB t && (colsOk t.ks t.cs 0 && unl [] (t.cs.map Col.n))) && r.all tabB))
    cases namedB t.n <;> cases prev.contains t.n <;> cases sizeB t <;> cases colsOk t.ks t.cs 0 <;> cases unl [] (t.cs.map Col.n) <;> cases unl (prev ++ [t.n]) (r.map Tab.n) <;> simp

theorem rf_rg (l : List Tab) : rfB l = rgB l := by
  unfold rfB rgB
  rw [refL_eq]

end Go.Proofs.YtmjdoonaidolkaaDoor.V

/- Layer 5 (table): the set's tables are right. -/
namespace Go.Proofs.YtmjdoonaidolkaaDoor.V
open Go.IntWalk Go.Lib

theorem colsOk_of (ks : Int) : ∀ (l : List Col) (i : Nat), (∀ (j : Nat) (h : j < l.length), colBad ks l[j] (i + j) = false) → colsOk ks l i = true
  | [], _, _ => rfl
  | c :: r, i, h => by
    have h0 := h 0 (by simp)
    simp only [List.getElem_cons_zero, Nat.add_zero] at h0
    show (!colBad ks c i && colsOk ks r (i + 1)) = true
    rw [h0, colsOk_of ks r (i + 1) fun j hj => ?_]
    · rfl
    · have := h (j + 1) (by simpa using hj)
      simp only [List.getElem_cons_succ] at this
      rw [← this]
      congr 1
      omega

theorem unl_cols (n : Nat) (h : n ≤ 8) : unl [] ((List.range n).map fun (j : Nat) => [u8of (97 + (j : Int))]) = true := by
  have h9 : n = 0 ∨ n = 1 ∨ n = 2 ∨ n = 3 ∨ n = 4 ∨ n = 5 ∨ n = 6 ∨ n = 7 ∨ n = 8 := by omega
  rcases h9 with rfl | rfl | rfl | rfl | rfl | rfl | rfl | rfl | rfl <;> decide +kernel

theorem unl_tabs (n : Nat) (h : n ≤ 4) : unl [] ((List.range n).map nmOf) = true := by
  have h9 : n = 0 ∨ n = 1 ∨ n = 2 ∨ n = 3 ∨ n = 4 := by omega
  rcases h9 with rfl | rfl | rfl | rfl | rfl <;> decide +kernel

theorem tabOf_col (nm cs : List UInt8) (ks : UInt8) : colB (tabOf nm cs ks) = true := by
  have hk := tabOf_kinds nm cs ks
  unfold colB
  rw [colsOk_of _ _ 0 fun j hj => ?_, Bool.true_and]
  · unfold tabOf
    split
    · show unl [] [[97]] = true
      decide +kernel
    · have := unl_cols (colN cs) (by unfold colN; omega)
      show unl [] (((List.range (colN cs)).map (finC cs (keyNo cs ks))).map Col.n) = true
      rw [List.map_map]
      exact this
  · have hkj := hk _ (List.getElem_mem hj)
    have hb : ((tabOf nm cs ks).cs[j].b && decide ((j : Int) < (tabOf nm cs ks).ks)) = false := by
      revert hj
      unfold tabOf
      split
      · intro hj hkj
        have hj0 : j = 0 := by simp at hj; omega
        subst hj0
        rfl
      · intro hj hkj
        simp only [List.getElem_map, List.getElem_range, finC]
        by_cases h : keyNo cs ks ≤ j
        · have : ¬ (j : Int) < (keyNo cs ks : Int) := by omega
          rw [decide_eq_false this, Bool.and_false]
        · rw [decide_eq_false h]; rfl
    unfold colBad
    rw [Nat.zero_add, hb, Bool.or_false]
    rcases hkj with e | e
    · rw [e]; rfl
    · rw [e]; rfl

theorem tabAt_col (l : List Form) (i : Nat) : colB (tabAt l i) = true := by
  unfold tabAt
  split
  · exact tabOf_col _ _ _
  · exact tabOf_col _ _ _

theorem tabAt_name (l : List Form) (i : Nat) : (tabAt l i).n = nmOf i := by
  unfold tabAt
  split
  · unfold tabOf; split <;> rfl
  · unfold tabOf; split <;> rfl

theorem rg_tables (l : List Form) : rgB (tables l) = true := by
  have hn : tabN l = max 1 (min 4 l.length) := rfl
  have hlen : (tables l).length = tabN l := by simp [tables]
  unfold rgB
  rw [decide_eq_true (by omega), decide_eq_true (by omega)]
  have h1 : (tables l).map Tab.n = (List.range (tabN l)).map nmOf := by
    unfold tables
    rw [List.map_map]
    exact List.map_congr_left fun i _ => tabAt_name l i
  rw [h1, unl_tabs _ (by omega)]
  simp only [Bool.true_and]
  rw [List.all_eq_true]
  intro t ht
  obtain ⟨i, _, rfl⟩ := List.mem_map.1 ht
  obtain ⟨m, hm1, hm2, hm3, hm4⟩ := tabAt_ok l i
  unfold tabB
  rw [tabAt_col, Bool.and_true]
  unfold sizeB
  rw [List.length_map, hm1, decide_eq_false (by omega), decide_eq_false (by omega), decide_eq_false (by omega), decide_eq_false (by omega)]
  rfl

end Go.Proofs.YtmjdoonaidolkaaDoor.V
