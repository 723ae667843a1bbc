/-
  record.number, record.blob, record.Encode.
-/
import Derived.Test.YtjbgdmebpnfpnaaDoorGc

/- As many writes as may be, and one more: the law RecordMany. -/
namespace Go.Proofs.YtjbgdmebpnfpnaaDoor.V
open Go.IntWalk Go.Lib

theorem RnO.same {ρ : Nat → Nat} {o : HObj} (h : NPo (fun _ => False) o) : RnO ρ o o := by
  cases o with
  | cells cs => exact RnL.same h
  | map ks xs => exact ⟨RnL.same h.1, RnL.same h.2⟩
  | arr sz xs => exact ⟨rfl, rfl, h⟩
  | ro cs => exact RnL.same h
  | glob g vs => exact ⟨rfl, rfl⟩

/-- A call that looks at the variable alone, among more boxes. -/
theorem atG {f : Nat} {args : List AV} {ret : AV} (hc : VCall Tryd.prog f args [G0] ret [G0]) (ha : ∀ a, a ∈ args → NP (fun _ => False) a) (hr : NP (fun _ => False) ret) (ex : List HObj) : VCall Tryd.prog f args (G0 :: ex) ret (G0 :: ex) :=
  hc.at 0 (H := G0 :: ex) (RnL.same ha) (fun a h => (ha a h).mono (fun _ h => h.elim)) trivial trivial hr rfl (fun h => RnO.same h)

theorem shortG (ex : List HObj) : VCall Tryd.prog 9 [] (G0 :: ex) (.bool true) (G0 :: ex) := atG shortN (by simp) (.bool _) ex
theorem readsG (nl : Option Bool) (own : Bool) (p : List UInt8) (hp : p.length ≤ 100000) (ex : List HObj) : VCall Tryd.prog 10 [.sl 1 nl own (bs p)] (G0 :: ex) (.bool true) (G0 :: ex) := atG (readsN nl own p hp) (np_cons (np_bs _) np_nil) (.bool _) ex
theorem decG (nl : Option Bool) (own : Bool) (p : List UInt8) (hp : p.length ≤ 100000) (ex : List HObj) : VCall Tryd.prog 14 [.sl 1 nl own (bs p)] (G0 :: ex) (decRet (gBatch p)) (G0 :: ex) := atG (decN nl own p hp) (np_cons (np_bs _) np_nil) (decRet_np _) ex

def manyW (gone : Bool) (i : Nat) : Wr := ⟨[107, UInt8.ofNat (IntKind.u8.wrap (i : Int)).toNat], [], gone⟩
def many (gone : Bool) (k : Nat) : List Wr := (List.range k).map (manyW gone)

theorem many_succ (gone : Bool) (k : Nat) : many gone (k + 1) = many gone k ++ [manyW gone k] := by simp [many, List.range_succ]
theorem many_len (gone : Bool) (k : Nat) : (many gone k).length = k := by simp [many]

theorem many_right (gone : Bool) (k : Nat) (hk : k < 70) : rightB 1 (many gone k) = (decide (1 ≤ k) && decide (k ≤ 64)) := by
  have h : ∀ g : Bool, ((List.range 70).all fun k => rightB 1 (many g k) == (decide (1 ≤ k) && decide (k ≤ 64))) = true := fun g => by
    cases g
    · kernel_rfl
    · kernel_rfl
  have := List.all_eq_true.1 (h gone) k (List.mem_range.2 hk)
  exact beq_iff_eq.1 this

theorem flat_len (l : List Wr) (c : Nat) (h : ∀ w, w ∈ l → (encW w).length ≤ c) : (l.flatMap encW).length ≤ l.length * c := by
  induction l with
  | nil => simp
  | cons w l ih =>
    rw [List.flatMap_cons, List.length_append, List.length_cons, Nat.add_mul]
    have h1 := h w (by simp)
    have h2 := ih fun x hx => h x (by simp [hx])
    omega

theorem many_enc (gone : Bool) (k : Nat) (hk : k < 70) : (encB 1 (many gone k)).length ≤ 10000 := by
  rw [encB_len]
  have := flat_len (many gone k) 10 fun w hw => by
    obtain ⟨i, _, rfl⟩ := List.mem_map.1 hw
    rw [encW_len]
    cases gone <;> simp [manyW]
  rw [many_len] at this
  omega

def mnAt (gone : Bool) (k i : Nat) : List (Nat × AV) := [(1, .bool gone), (5, .ptr (some (1, 0))), (6, .int .i64 k), (7, .int .i64 i)]

theorem mn_np (gone : Bool) (k i : Nat) : ∀ q, q ∈ mnAt gone k i → NP (fun i => i < 2) q.2 := by
  intro q hq
  simp only [mnAt, List.mem_cons, List.not_mem_nil, or_false] at hq
  rcases hq with rfl | rfl | rfl | rfl
  · exact .bool _
  · exact .ptr _ _ (by simp)
  · exact .int _ _
  · exact .int _ _

theorem mnLoop (gone : Bool) (k : Nat) (hk : k < 70) (R : VE → Sy → Prop) (hR : R (.exit 0) ⟨[], [(5, .ptr (some (1, 0))), (6, .int .i64 k)], [G0, bx 1 (many gone k)]⟩) :
    ∀ (g i : Nat), i + g = k → VloopS Tryd.prog (tr [1000022]) 67 1 c6b0 (exW 67 R) ⟨[], mnAt gone k i, [G0, bx 1 (many gone i)]⟩
  | 0, i, hg => by
    have e : i = k := by omega
    subst e
    refine VloopS.round ?_
    refine cond_f (decide_eq_false (by omega)) ?_
    exact ex_w hR rfl ⟨.refl _, .refl _, trivial⟩ rfl
  | g + 1, i, hg => by
    refine VloopS.round ?_
    refine cond_t (decide_eq_true (by omega)) ?_
    refine Exists.intro [107, UInt8.ofNat (IntKind.u8.wrap (i : Int)).toNat] (And.intro rfl ?_)
    refine And.intro (.inl ⟨rfl, rfl⟩) (And.intro (.inl rfl) (And.intro (by simp only [List.length_map, many_len, List.length_cons, List.length_nil]; omega) ?_))
    refine VloopS.shift (σ' := ⟨[], mnAt gone k (i + 1), [G0, bx 1 (many gone (i + 1))]⟩) (ShiftS.fz (fun _ => none) ⟨.wk _ _ (.refl _), .wk _ _ (.refl _), .wk _ _ (.refl _), .wk _ _ (.eq (int_eq (by rw [i64_in _ (by omega)]; omega))), trivial⟩ (.same 0 _ _ _ rfl (.cells 1 _ _ _ _ rfl (.cons _ _ _ _ (.wk _ _ (.refl _)) (.cons _ _ _ _ ?_ .nil)) (.nil 2))) (fun i sz xs h => by cases h)) (by show 1 ≤ 2; decide) (mnLoop gone k hk R hR g (i + 1) (by omega))
    rw [many_succ]
    exact wk_app (many gone i) (manyW gone i) (.cons _ _ _ _ (.wk _ _ (.refl _)) (.cons _ _ _ _ (.wk _ _ (.nil _ _ _ _ _ (by simp))) (.cons _ _ _ _ (.wk _ _ (.refl _)) .nil)))

end Go.Proofs.YtjbgdmebpnfpnaaDoor.V

/- Texts, rising, each once. -/
namespace Go.Proofs.YtjbgdmebpnfpnaaDoor.V
open Go.IntWalk Go.Lib

/-- Texts, as the cells of a slice. -/
def strs (l : List (List UInt8)) : List (List AV) := l.map fun k => [.str (st k)]
theorem strs_len (l : List (List UInt8)) : (strs l).length = l.length := by simp [strs]
theorem strs_get {l : List (List UInt8)} {i : Nat} (h : i < l.length) : (strs l)[i]? = some [.str (st l[i])] := by simp [strs, h]
theorem strs_app (a b : List (List UInt8)) : strs a ++ strs b = strs (a ++ b) := by simp [strs]
theorem np_strs {ok : Nat → Prop} {sz : Nat} {nl : Option Bool} {own : Bool} (l : List (List UInt8)) : NP ok (.sl sz nl own (strs l)) := by
  refine .sl _ _ _ _ fun x hx a ha => ?_
  simp only [strs, List.mem_map] at hx
  obtain ⟨b, _, rfl⟩ := hx
  simp only [List.mem_singleton] at ha
  subst ha
  exact .str _

theorem st_less (a b : List UInt8) : Op.bytesLess (st a).toList (st b).toList = decide (compareBytes a b < 0) := by rw [st_list, st_list, cb_less]
theorem sle_cb (a b : List UInt8) : sle a b = decide (compareBytes a b ≤ 0) := by
  unfold sle
  rw [st_list, st_list, cb_less, Bool.eq_iff_iff, Bool.or_eq_true, decide_eq_true_eq, beq_iff_eq, decide_eq_true_eq]
  constructor
  · rintro (h | rfl)
    · omega
    · rw [cb_self]; omega
  · intro h
    rcases cb_val a b with h1 | h1 | h1
    · exact .inl (by omega)
    · exact .inr (cb_eq h1)
    · omega

theorem st_more (a b : List UInt8) : (!(Op.bytesLess (st a).toList (st b).toList || (st a).toList == (st b).toList)) = !sle a b := rfl

/-- Is this one above the last of those? -/
def abv (out : List (List UInt8)) (x : List UInt8) : Bool := match out.getLast? with
  | none => true
  | some y => !sle x y

/-- Is it the better one? -/
def ltB (ks : List (List UInt8)) (b : Int) (x : List UInt8) : Bool := match decide (b < 0) with
  | true => true
  | false => decide (compareBytes x (ks.getD b.toNat []) < 0)

def riStep (ks out : List (List UInt8)) (b : Int) (i : Nat) : Int := match abv out (ks.getD i []) with
  | false => b
  | true => match ltB ks b (ks.getD i []) with
    | true => i
    | false => b
def riBest (ks out : List (List UInt8)) : Nat → Int
  | 0 => -1
  | i + 1 => riStep ks out (riBest ks out i) i

/-- What the best one is. -/
theorem riBest_spec (ks out : List (List UInt8)) : ∀ i, i ≤ ks.length → (riBest ks out i = -1 ∧ ∀ j, j < i → abv out (ks.getD j []) = false) ∨ ∃ b : Nat, riBest ks out i = (b : Int) ∧ b < i ∧ abv out (ks.getD b []) = true
  | 0, _ => .inl ⟨rfl, fun j hj => absurd hj (Nat.not_lt_zero j)⟩
  | i + 1, h => by
    have ih := riBest_spec ks out i (by omega)
    show (riStep ks out (riBest ks out i) i = -1 ∧ _) ∨ ∃ b : Nat, riStep ks out (riBest ks out i) i = (b : Int) ∧ _
    unfold riStep
    cases h1 : abv out (ks.getD i []) with
    | false =>
      rcases ih with ⟨e, hj⟩ | ⟨b, e, hb, ha⟩
      · exact .inl ⟨e, fun j hj2 => by
          rcases Nat.lt_or_ge j i with h2 | h2
          · exact hj j h2
          · have : j = i := by omega
            subst this
            exact h1⟩
      · exact .inr ⟨b, e, by omega, ha⟩
    | true =>
      cases h2 : ltB ks (riBest ks out i) (ks.getD i []) with
      | true => exact .inr ⟨i, rfl, by omega, h1⟩
      | false =>
        rcases ih with ⟨e, hj⟩ | ⟨b, e, hb, ha⟩
        · rw [e] at h2
          simp [ltB] at h2
        · exact .inr ⟨b, e, by omega, ha⟩

def risAt (ks out : List (List UInt8)) (b : Int) (i : Nat) : List (Nat × AV) := [(0, .sl 1 none false (strs ks)), (3, .sl 1 none true (strs out)), (4, .int .i64 b), (5, .int .i64 i)]

theorem riInner (ks out : List (List UInt8)) (hks : ks.length ≤ 1000) (hout : out.length ≤ 1000) (R : VE → Sy → Prop) (hR : R (.exit 2) ⟨[], [(0, .sl 1 none false (strs ks)), (3, .sl 1 none true (strs out)), (4, .int .i64 (riBest ks out ks.length))], []⟩) :
    ∀ (g i : Nat), i + g = ks.length → VloopS Tryd.prog (tr [2, 3, 46, 47]) 54 0 c23b0 (exW 54 R) ⟨[], risAt ks out (riBest ks out i) i, []⟩
  | 0, i, hg => by
    have e : i = ks.length := by omega
    subst e
    refine VloopS.round ?_
    refine cond_f (by rw [strs_len]; exact decide_eq_false (by omega)) ?_
    exact ex_w hR rfl ⟨.refl _, .refl _, .refl _, trivial⟩ rfl
  | g + 1, i, hg => by
    have hlt : i < ks.length := by omega
    have hx : ks.getD i [] = ks[i] := by rw [List.getD_eq_getElem?_getD, List.getElem?_eq_getElem hlt]; rfl
    have wi : IntKind.i64.wrap ((i : Int) + 1) = ((i + 1 : Nat) : Int) := by rw [i64_in _ (by omega)]; omega
    have nx := riInner ks out hks hout R hR g (i + 1) (by omega)
    have hs := riBest_spec ks out i (by omega)
    have hb : riBest ks out (i + 1) = riStep ks out (riBest ks out i) i := rfl
    unfold riStep at hb
    generalize riBest ks out (i + 1) = b' at hb nx
    rw [hx] at hb
    generalize riBest ks out i = b at hb hs ⊢
    refine VloopS.round ?_
    refine cond_t (by rw [strs_len]; exact decide_eq_true (by omega)) ?_
    have next : ∀ {bb : Int}, bb = b' → ∀ {σ : Sy}, σ.get 0 = .sl 1 none false (strs ks) → σ.get 3 = .sl 1 none true (strs out) → σ.get 4 = .int .i64 bb → σ.get 5 = .int .i64 (IntKind.i64.wrap ((i : Int) + 1)) → σ.h = [] → VloopS Tryd.prog (tr [2, 3, 46, 47]) 54 0 c23b0 (exW 54 R) σ := by
      intro bb e σ h0 h3 h4 h5 hh
      refine VloopS.weakE (l := risAt ks out b' (i + 1)) (h := []) rfl ⟨.eq h0, .eq h3, .eq (h4.trans (int_eq e)), .eq (h5.trans (int_eq wi)), trivial⟩ hh (Nat.zero_le _) nx
    have hgi := strs_get hlt
    generalize ks[i] = x at hb hgi
    -- where this one is above the last one
    have tail : abv out x = true → (b < 0 ∧ b' = i) ∨ ∃ (m : Nat) (hm : m < ks.length), b = (m : Int) ∧ b' = (if compareBytes x ks[m] < 0 then (i : Int) else b) := by
      intro h1
      rw [h1] at hb
      rcases hs with ⟨e, _⟩ | ⟨m, e, hm, _⟩
      · refine .inl ⟨by omega, ?_⟩
        rw [hb, ltB, decide_eq_true (show b < 0 by omega)]
      · refine .inr ⟨m, by omega, e, ?_⟩
        rw [hb, ltB, decide_eq_false (show ¬ b < 0 by omega), e, Int.toNat_natCast, List.getD_eq_getElem?_getD, List.getElem?_eq_getElem (by omega)]
        simp only [Option.getD_some]
        by_cases hc : compareBytes x ks[m] < 0
        · rw [decide_eq_true hc, if_pos hc]
        · rw [decide_eq_false hc, if_neg hc]
    cases ho : out.getLast? with
    | none =>
      have hnil : out = [] := List.getLast?_eq_none_iff.1 ho
      subst hnil
      refine guard_f (by decide) ?_
      repeat (first | refine guard_t rfl ?_ | refine guard_f (by decide) ?_)
      rcases tail (by rfl) with ⟨hb0, hb1⟩ | ⟨m, hm, hb0, hb1⟩
      · refine guard_f (by show ¬ decide (b < 0) = false; rw [decide_eq_true hb0]; decide) ?_
        repeat (first | refine guard_t rfl ?_ | refine guard_f (by decide) ?_)
        refine And.intro (by kernel_rfl) ?_
        refine cond_t rfl ?_
        exact next hb1.symm rfl rfl rfl rfl rfl
      · subst hb0
        refine guard_t (by show decide (((m : Nat) : Int) < 0) = false; exact decide_eq_false (by omega)) ?_
        repeat (first | refine guard_t rfl ?_ | refine guard_f (by decide) ?_)
        refine And.intro rfl (And.intro (Int.natCast_nonneg i) (Exists.intro _ (And.intro hgi ?_)))
        repeat (first | refine guard_t rfl ?_ | refine guard_f (by decide) ?_)
        refine And.intro rfl (And.intro (Int.natCast_nonneg m) (Exists.intro _ (And.intro (strs_get hm) ?_)))
        repeat (first | refine guard_t rfl ?_ | refine guard_f (by decide) ?_)
        refine And.intro (by kernel_rfl) ?_
        have hlss := st_less x ks[m]
        by_cases hc : compareBytes x ks[m] < 0
        · rw [if_pos hc] at hb1
          refine cond_t (by show Op.bytesLess (st x).toList (st ks[m]).toList = true; rw [hlss]; exact decide_eq_true hc) ?_
          exact next hb1.symm rfl rfl rfl rfl rfl
        · rw [if_neg hc] at hb1
          refine cond_f (by show Op.bytesLess (st x).toList (st ks[m]).toList = false; rw [hlss]; exact decide_eq_false hc) ?_
          exact next hb1.symm rfl rfl rfl rfl rfl
    | some y =>
      have hne : out ≠ [] := fun e => by rw [e] at ho; cases ho
      have hpos : 0 < out.length := List.length_pos_iff.2 hne
      have e0 : (((strs out).length : Int) == 0) = false := by rw [strs_len, beq_eq_false_iff_ne]; omega
      have hl1 : IntKind.i64.wrap (((strs out).length : Int) - 1) = ((out.length - 1 : Nat) : Int) := by rw [strs_len, i64_in _ (by omega)]; omega
      have hgl : (strs out)[(IntKind.i64.wrap (((strs out).length : Int) - 1)).toNat]? = some [.str (st y)] := by
        rw [hl1, Int.toNat_natCast]
        have : out[out.length - 1]? = some y := by rw [← List.getLast?_eq_getElem?, ho]
        simp [strs, this]
      refine guard_t e0 ?_
      rw [e0]
      repeat (first | refine guard_t rfl ?_ | refine guard_f (by decide) ?_)
      refine And.intro rfl (And.intro (Int.natCast_nonneg i) (Exists.intro _ (And.intro hgi ?_)))
      repeat (first | refine guard_t rfl ?_ | refine guard_f (by decide) ?_)
      refine And.intro rfl (And.intro (by rw [hl1]; omega) (Exists.intro _ (And.intro hgl ?_)))
      repeat (first | refine guard_t rfl ?_ | refine guard_f (by decide) ?_)
      have hav : abv out x = !sle x y := by unfold abv; rw [ho]
      cases h1 : abv out x with
      | false =>
        rw [h1] at hb hav
        have e1 : (!(Op.bytesLess (st x).toList (st y).toList || (st x).toList == (st y).toList)) = false := hav.symm
        refine guard_f (by rw [e1]; decide) ?_
        repeat (first | refine guard_t rfl ?_ | refine guard_f (by decide) ?_)
        refine And.intro (by kernel_rfl) ?_
        refine cond_f rfl ?_
        exact next hb.symm rfl rfl rfl rfl rfl
      | true =>
        have e1 : (!(Op.bytesLess (st x).toList (st y).toList || (st x).toList == (st y).toList)) = true := by rw [h1] at hav; exact hav.symm
        refine guard_t e1 ?_
        rw [e1]
        repeat (first | refine guard_t rfl ?_ | refine guard_f (by decide) ?_)
        rcases tail h1 with ⟨hb0, hb1⟩ | ⟨m, hm, hb0, hb1⟩
        · refine guard_f (by show ¬ decide (b < 0) = false; rw [decide_eq_true hb0]; decide) ?_
          repeat (first | refine guard_t rfl ?_ | refine guard_f (by decide) ?_)
          refine And.intro (by kernel_rfl) ?_
          refine cond_t rfl ?_
          exact next hb1.symm rfl rfl rfl rfl rfl
        · subst hb0
          refine guard_t (by show decide (((m : Nat) : Int) < 0) = false; exact decide_eq_false (by omega)) ?_
          repeat (first | refine guard_t rfl ?_ | refine guard_f (by decide) ?_)
          refine And.intro rfl (And.intro (Int.natCast_nonneg i) (Exists.intro _ (And.intro hgi ?_)))
          repeat (first | refine guard_t rfl ?_ | refine guard_f (by decide) ?_)
          refine And.intro rfl (And.intro (Int.natCast_nonneg m) (Exists.intro _ (And.intro (strs_get hm) ?_)))
          repeat (first | refine guard_t rfl ?_ | refine guard_f (by decide) ?_)
          refine And.intro (by kernel_rfl) ?_
          have hlss := st_less x ks[m]
          by_cases hc : compareBytes x ks[m] < 0
          · rw [if_pos hc] at hb1
            refine cond_t (by show Op.bytesLess (st x).toList (st ks[m]).toList = true; rw [hlss]; exact decide_eq_true hc) ?_
            exact next hb1.symm rfl rfl rfl rfl rfl
          · rw [if_neg hc] at hb1
            refine cond_f (by show Op.bytesLess (st x).toList (st ks[m]).toList = false; rw [hlss]; exact decide_eq_false hc) ?_
            exact next hb1.symm rfl rfl rfl rfl rfl

end Go.Proofs.YtjbgdmebpnfpnaaDoor.V

/- Texts, rising, each once: as a contract. -/
namespace Go.Proofs.YtjbgdmebpnfpnaaDoor.V
open Go.IntWalk Go.Lib

/-- Texts rise strictly. -/
def ascL : List (List UInt8) → List UInt8 → Bool
  | [], _ => true
  | k :: r, last => !sle k last && ascL r k

theorem ascL_snoc (y : List UInt8) : ∀ (out : List (List UInt8)) (last : List UInt8), ascL (out ++ [y]) last = (ascL out last && !sle y (out.getLast?.getD last))
  | [], last => by simp [ascL]
  | [k], last => by simp [ascL]
  | k :: k2 :: r, last => by
    have ih := ascL_snoc y (k2 :: r) k
    have e : (k :: k2 :: r).getLast?.getD last = (k2 :: r).getLast?.getD k := by
      rw [List.getLast?_cons_cons]
      cases h : (k2 :: r).getLast? with
      | none => simp at h
      | some z => rfl
    rw [e, List.cons_append]
    show (!sle k last && ascL ((k2 :: r) ++ [y]) k) = ((!sle k last && ascL (k2 :: r) k) && _)
    rw [ih, Bool.and_assoc]

theorem sle_nil {y : List UInt8} (h : y ≠ []) : sle y [] = false := by
  cases y with
  | nil => exact absurd rfl h
  | cons a r =>
    rw [sle_cb, decide_eq_false_iff_not]
    have : compareBytes (a :: r) [] = 1 := rfl
    rw [this]
    decide

theorem sle_self (y : List UInt8) : sle y y = true := by rw [sle_cb, cb_self]; rfl

theorem sle_trans {a b c : List UInt8} (h1 : sle a b = false) (h2 : sle b c = false) : sle a c = false := by
  rw [sle_cb, decide_eq_false_iff_not] at h1 h2 ⊢
  have a1 := cb_anti a b
  have a2 := cb_anti b c
  have a3 := cb_anti a c
  have := cb_trans (a := c) (b := b) (c := a) (by omega) (by omega)
  omega

theorem abv_last {out : List (List UInt8)} {y : List UInt8} (hy : y ≠ []) (h : abv out y = true) : sle y (out.getLast?.getD []) = false := by
  unfold abv at h
  cases ho : out.getLast? with
  | none => exact sle_nil hy
  | some z => rw [ho] at h; simpa using h

theorem abv_snoc (out : List (List UInt8)) (y x : List UInt8) : abv (out ++ [y]) x = !sle x y := by
  unfold abv
  rw [List.getLast?_append]
  rfl

theorem filt_le {α : Type} (p q : α → Bool) (l : List α) (h : ∀ x, q x = true → p x = true) : (l.filter q).length ≤ (l.filter p).length := by
  induction l with
  | nil => simp
  | cons a l ih =>
    rw [List.filter_cons, List.filter_cons]
    by_cases hq : q a = true
    · rw [if_pos hq, if_pos (h a hq)]
      simpa using ih
    · rw [if_neg hq]
      split
      · exact Nat.le_succ_of_le ih
      · exact ih

theorem filt_lt {α : Type} (p q : α → Bool) (l : List α) (h : ∀ x, q x = true → p x = true) (y : α) (hy : y ∈ l) (h1 : p y = true) (h2 : ¬ q y = true) : (l.filter q).length < (l.filter p).length := by
  induction l with
  | nil => simp at hy
  | cons a l ih =>
    rw [List.filter_cons, List.filter_cons]
    rcases List.mem_cons.1 hy with rfl | hy
    · rw [if_neg h2, if_pos h1]
      exact Nat.lt_succ_of_le (filt_le p q l h)
    · have := ih hy
      by_cases hq : q a = true
      · rw [if_pos hq, if_pos (h a hq)]
        simpa using this
      · rw [if_neg hq]
        split
        · exact Nat.lt_succ_of_lt this
        · exact this

def abvN (ks out : List (List UInt8)) : Nat := (ks.filter (abv out)).length

theorem abvN_lt {ks out : List (List UInt8)} {y : List UInt8} (hy : y ∈ ks) (h : abv out y = true) : abvN ks (out ++ [y]) < abvN ks out := by
  refine filt_lt _ _ _ (fun x hx => ?_) y hy h (by rw [abv_snoc, sle_self]; decide)
  rw [abv_snoc] at hx
  unfold abv at h ⊢
  cases ho : out.getLast? with
  | none => rfl
  | some z =>
    rw [ho] at h
    simp only [Bool.not_eq_true'] at h hx ⊢
    exact sle_trans hx h

/-- What the risen texts are. -/
structure Risen (ks res : List (List UInt8)) : Prop where
  asc : ascL res [] = true
  mem : ∀ x, x ∈ res → x ∈ ks
  len : res.length ≤ ks.length
  ne : ks ≠ [] → res ≠ []

theorem riOuter (ks : List (List UInt8)) (hks : ks.length ≤ 1000) (hk : ∀ x, x ∈ ks → x ≠ []) : ∀ (g : Nat) (out : List (List UInt8)), abvN ks out ≤ g → ascL out [] = true → (∀ x, x ∈ out → x ∈ ks) → out.length + abvN ks out ≤ ks.length →
    ∃ res, Risen ks res ∧ ∀ R : VE → Sy → Prop, R .ret ⟨[], [(2, .sl 1 none true (strs res))], []⟩ → VloopS Tryd.prog (tr [2, 3, 46, 47]) 54 0 c23b1 (exW 54 R) ⟨[], [(0, .sl 1 none false (strs ks)), (3, .sl 1 none true (strs out))], []⟩ := by
  intro g
  induction g with
  | zero =>
    intro out hm ha hmem hlen
    have hsp := riBest_spec ks out ks.length (Nat.le_refl _)
    have hno : riBest ks out ks.length = -1 ∧ ∀ j, j < ks.length → abv out (ks.getD j []) = false := by
      rcases hsp with h | ⟨b, e, hb, hab⟩
      · exact h
      · exfalso
        have hin : ks.getD b [] ∈ ks.filter (abv out) := List.mem_filter.2 ⟨by rw [List.getD_eq_getElem?_getD, List.getElem?_eq_getElem hb]; exact List.getElem_mem hb, hab⟩
        have := List.length_pos_of_mem hin
        unfold abvN at hm
        omega
    refine ⟨out, ⟨ha, hmem, by omega, fun hne => ?_⟩, fun R hR => ?_⟩
    · intro e
      subst e
      have := hno.2 0 (List.length_pos_iff.2 hne)
      cases this
    · refine VloopS.round ?_
      refine VloopS.weakE (l := risAt ks out (riBest ks out 0) 0) (h := []) rfl ⟨.refl _, .refl _, .refl _, .eq (int_eq rfl), trivial⟩ rfl (Nat.zero_le _) (VloopS.exW (riInner ks out hks (by omega) _ ?_ ks.length 0 (by omega)))
      rw [hno.1]
      refine cond_t rfl ?_
      exact ex_w hR rfl ⟨.refl _, trivial⟩ rfl
  | succ g ih =>
    intro out hm ha hmem hlen
    have hsp := riBest_spec ks out ks.length (Nat.le_refl _)
    rcases hsp with hno | ⟨b, e, hb, hab⟩
    · refine ⟨out, ⟨ha, hmem, by omega, fun hne => ?_⟩, fun R hR => ?_⟩
      · intro e
        subst e
        have := hno.2 0 (List.length_pos_iff.2 hne)
        cases this
      · refine VloopS.round ?_
        refine VloopS.weakE (l := risAt ks out (riBest ks out 0) 0) (h := []) rfl ⟨.refl _, .refl _, .refl _, .eq (int_eq rfl), trivial⟩ rfl (Nat.zero_le _) (VloopS.exW (riInner ks out hks (by omega) _ ?_ ks.length 0 (by omega)))
        rw [hno.1]
        refine cond_t rfl ?_
        exact ex_w hR rfl ⟨.refl _, trivial⟩ rfl
    · have hbe : ks.getD b [] = ks[b] := by rw [List.getD_eq_getElem?_getD, List.getElem?_eq_getElem hb]; rfl
      rw [hbe] at hab
      have hin : ks[b] ∈ ks := List.getElem_mem hb
      have hlt := abvN_lt hin hab
      obtain ⟨res, hres, hw⟩ := ih (out ++ [ks[b]]) (by omega) (by rw [ascL_snoc, ha, abv_last (hk _ hin) hab]; rfl) (fun x hx => by
        rcases List.mem_append.1 hx with hx | hx
        · exact hmem x hx
        · rw [List.mem_singleton.1 hx]; exact hin) (by rw [List.length_append]; simp only [List.length_cons, List.length_nil]; omega)
      refine ⟨res, hres, fun R hR => ?_⟩
      refine VloopS.round ?_
      refine VloopS.weakE (l := risAt ks out (riBest ks out 0) 0) (h := []) rfl ⟨.refl _, .refl _, .refl _, .eq (int_eq rfl), trivial⟩ rfl (Nat.zero_le _) (VloopS.exW (riInner ks out hks (by omega) _ ?_ ks.length 0 (by omega)))
      rw [e]
      refine cond_f (decide_eq_false (by omega)) ?_
      refine And.intro rfl (And.intro (Int.natCast_nonneg b) (Exists.intro _ (And.intro (strs_get hb) ?_)))
      refine And.intro (.inl ⟨rfl, rfl⟩) (And.intro (.inl rfl) (And.intro (by rw [strs_len]; simp only [List.length_cons, List.length_nil]; omega) ?_))
      refine VloopS.weakE (l := [(0, .sl 1 none false (strs ks)), (3, .sl 1 none true (strs (out ++ [ks[b]])))]) (h := []) rfl ⟨.refl _, .eq (sl_eq (strs_app out [ks[b]])), trivial⟩ rfl (Nat.zero_le _) (hw R hR)

theorem riseN (ks : List (List UInt8)) (hks : ks.length ≤ 1000) (hk : ∀ x, x ∈ ks → x ≠ []) : ∃ res, Risen ks res ∧ ∀ (nl : Option Bool) (own : Bool), PCallN Tryd.prog 23 [.sl 1 nl own (strs ks)] (.sl 1 none true (strs res)) := by
  obtain ⟨res, hres, hw⟩ := riOuter ks hks hk (abvN ks []) [] (Nat.le_refl _) rfl (by simp) (by unfold abvN; rw [List.length_nil, Nat.zero_add]; exact List.length_filter_le _ _)
  refine ⟨res, hres, fun nl own => ?_⟩
  refine PCallN.weakArgs (.cons _ _ _ _ (.both _ _ _ _) .nil) (np_cons (np_strs _) np_nil) ?_
  refine PCallN.of (tr [2, 3, 46, 47]) f23 (Nat.le_of_ble_eq_true rfl) (np_cons (np_strs _) np_nil) (np_strs _) ?_
  refine VloopS.weakE (l := [(0, .sl 1 none false (strs ks)), (3, .sl 1 none true (strs []))]) (h := []) rfl ⟨.refl _, .nil _ _ _ _ _ (by simp), trivial⟩ rfl (Nat.zero_le _) (VloopS.exW (hw _ ?_))
  exact sl_eq rfl

end Go.Proofs.YtjbgdmebpnfpnaaDoor.V

/- The reference's Batch: of acts. -/
namespace Go.Proofs.YtjbgdmebpnfpnaaDoor.V
open Go.IntWalk Go.Lib

structure Act where
  key : UInt8
  row : UInt8
  gone : Bool

def Act.c (a : Act) : List AV := [.int .u8 (a.key.toNat : Int), .int .u8 (a.row.toNat : Int), .bool a.gone]
theorem Act.np {ok : Nat → Prop} (a : Act) : ∀ x, x ∈ a.c → NP ok x := np_cons (.int _ _) (np_cons (.int _ _) (np_cons (.bool _) np_nil))
theorem np_acts {ok : Nat → Prop} {nl : Option Bool} {own : Bool} (l : List Act) : NP ok (.sl 3 nl own (l.map Act.c)) := .sl _ _ _ _ fun x hx y hy => by
  obtain ⟨z, _, rfl⟩ := List.mem_map.1 hx
  exact z.np y hy
theorem acts_get {l : List Act} {i : Nat} (h : i < l.length) : (l.map Act.c)[i]? = some l[i].c := by simp [h]

def keyOf (a : Act) : List UInt8 := [107, UInt8.ofNat ((a.key.toNat : Int).tmod 12).toNat]
def actStep (k : List UInt8) (s : List UInt8 × Bool) (a : Act) : List UInt8 × Bool := if keyOf a = k then ([a.row], a.gone) else s
def actS (k : List UInt8) (l : List Act) : List UInt8 × Bool := l.foldl (actStep k) ([], false)
theorem actS_snoc (k : List UInt8) (l : List Act) (a : Act) : actS k (l ++ [a]) = actStep k (actS k l) a := by simp [actS]
def wOf (l : List Act) (k : List UInt8) : Wr := ⟨k, match (actS k l).2 with | true => [] | false => (actS k l).1, (actS k l).2⟩

theorem actS_len (k : List UInt8) (l : List Act) : (actS k l).1.length ≤ 1 := by
  have h : ∀ (l : List Act) (s : List UInt8 × Bool), s.1.length ≤ 1 → (l.foldl (actStep k) s).1.length ≤ 1 := by
    intro l
    induction l with
    | nil => exact fun s h => h
    | cons a l ih =>
      intro s hs
      refine ih _ ?_
      unfold actStep
      split
      · exact Nat.le_refl _
      · exact hs
  exact h l _ (Nat.zero_le _)

/-! ### the keys -/

def k2At (acts : List Act) (i : Nat) : List (Nat × AV) := [(1, .sl 3 none false (acts.map Act.c)), (4, .ptr (some (0, 0))), (5, .ptr (some (1, 0))), (6, .sl 1 none true (strs ((acts.take i).map keyOf))), (7, .int .i64 i)]

def bx0 (N : Int) : HObj := .cells [.int .i64 N, .sl 0 (some true) true []]

theorem k2Loop (N : Int) (acts : List Act) (hl : acts.length ≤ 1000) (R : VE → Sy → Prop) (hR : R (.exit 0) ⟨[], [(1, .sl 3 none false (acts.map Act.c)), (4, .ptr (some (0, 0))), (5, .ptr (some (1, 0))), (6, .sl 1 none false (strs (acts.map keyOf)))], [zb, bx0 N]⟩) :
    ∀ (g i : Nat), i + g = acts.length → VloopS Tryd.prog (tr [6, 20, 1000076]) 82 0 c13b2 (exW 82 R) ⟨[], k2At acts i, [zb, bx0 N]⟩
  | 0, i, hg => by
    refine VloopS.round ?_
    refine cond_f (by rw [List.length_map]; exact decide_eq_false (by omega)) ?_
    refine ex_w hR rfl ⟨.refl _, .refl _, .refl _, ?_, trivial⟩ rfl
    show Wk (.sl 1 none true (strs ((acts.take i).map keyOf))) _
    rw [List.take_of_length_le (by omega)]
    exact .both _ _ _ _
  | g + 1, i, hg => by
    have hlt : i < acts.length := by omega
    refine VloopS.round ?_
    refine cond_t (by rw [List.length_map]; exact decide_eq_true (by omega)) ?_
    refine And.intro rfl (And.intro (Int.natCast_nonneg i) (Exists.intro acts[i].c (And.intro (acts_get hlt) ?_)))
    refine And.intro (by decide) ?_
    refine Exists.intro (keyOf acts[i]) (And.intro rfl ?_)
    refine And.intro (.inl ⟨rfl, rfl⟩) (And.intro (.inl rfl) (And.intro (by rw [strs_len, List.length_map, List.length_take]; simp only [List.length_cons, List.length_nil]; omega) ?_))
    refine VloopS.weakE (l := k2At acts (i + 1)) (h := [zb, bx0 N]) rfl ⟨.refl _, .refl _, .refl _, .eq (sl_eq ?_), .eq (int_eq (by rw [i64_in _ (by omega)]; omega)), trivial⟩ rfl (Nat.zero_le _) (k2Loop N acts hl R hR g (i + 1) (by omega))
    rw [take_snoc acts i hlt, List.map_append, ← strs_app]
    rfl

/-! ### one write -/

def awAt (acts : List Act) (all : List (List UInt8)) (i k : Nat) : List (Nat × AV) := [(1, .sl 3 none false (acts.map Act.c)), (4, .ptr (some (0, 0))), (5, .ptr (some (1, 0))), (6, .sl 1 none false (strs (acts.map keyOf))), (8, .sl 1 none false (strs all)), (9, .int .i64 i), (10, .ptr (some (2, 0))), (11, .int .i64 k)]

def wbx (key : List UInt8) (s : List UInt8 × Bool) : HObj := .cells [.str (st key), .sl 1 none true (bs s.1), .bool s.2]

theorem awLoop (N : Int) (acts : List Act) (hl : acts.length ≤ 1000) (all : List (List UInt8)) (i : Nat) (hi : i < all.length) (acc : List Wr) (R : VE → Sy → Prop)
    (hR : R (.exit 4) ⟨[], [(1, .sl 3 none false (acts.map Act.c)), (4, .ptr (some (0, 0))), (5, .ptr (some (1, 0))), (6, .sl 1 none false (strs (acts.map keyOf))), (8, .sl 1 none false (strs all)), (9, .int .i64 i), (10, .ptr (some (2, 0)))], [zb, bx N acc, wbx all[i] (actS all[i] acts)]⟩) :
    ∀ (g k : Nat), k + g = acts.length → VloopS Tryd.prog (tr [6, 20, 1000076]) 82 0 c13b0 (exW 82 R) ⟨[], awAt acts all i k, [zb, bx N acc, wbx all[i] (actS all[i] (acts.take k))]⟩
  | 0, k, hg => by
    rw [List.take_of_length_le (by omega)]
    refine VloopS.round ?_
    refine cond_f (by rw [List.length_map]; exact decide_eq_false (by omega)) ?_
    exact ex_w hR rfl ⟨.refl _, .refl _, .refl _, .refl _, .refl _, .refl _, .refl _, trivial⟩ rfl
  | g + 1, k, hg => by
    have hlt : k < acts.length := by omega
    have nx := awLoop N acts hl all i hi acc R hR g (k + 1) (by omega)
    rw [take_snoc acts k hlt, actS_snoc] at nx
    have wk : IntKind.i64.wrap ((k : Int) + 1) = ((k + 1 : Nat) : Int) := by rw [i64_in _ (by omega)]; omega
    generalize actS all[i] (acts.take k) = s at nx ⊢
    have hgk : (strs (acts.map keyOf))[k]? = some [.str (st (keyOf acts[k]))] := by
      have := strs_get (l := acts.map keyOf) (i := k) (by rw [List.length_map]; exact hlt)
      simpa using this
    refine VloopS.round ?_
    refine cond_t (by rw [List.length_map]; exact decide_eq_true (by omega)) ?_
    refine And.intro rfl (And.intro (Int.natCast_nonneg k) (Exists.intro _ (And.intro hgk ?_)))
    refine And.intro rfl (And.intro (Int.natCast_nonneg i) (Exists.intro _ (And.intro (strs_get hi) ?_)))
    refine And.intro (by kernel_rfl) ?_
    by_cases he : keyOf acts[k] = all[i]
    · refine cond_t (by rw [st_beq]; exact decide_eq_true he) ?_
      refine And.intro rfl (And.intro (Int.natCast_nonneg k) (Exists.intro _ (And.intro (acts_get hlt) ?_)))
      refine And.intro rfl (And.intro (Int.natCast_nonneg k) (Exists.intro _ (And.intro (acts_get hlt) ?_)))
      refine And.intro (by kernel_rfl) ?_
      have es : actStep all[i] s acts[k] = ([acts[k].row], acts[k].gone) := by unfold actStep; rw [if_pos he]
      rw [es] at nx
      exact VloopS.shift (σ' := ⟨[], awAt acts all i (k + 1), [zb, bx N acc, wbx all[i] ([acts[k].row], acts[k].gone)]⟩) (ShiftS.fz (fun _ => none) ⟨.wk _ _ (.refl _), .wk _ _ (.refl _), .wk _ _ (.refl _), .wk _ _ (.refl _), .wk _ _ (.refl _), .wk _ _ (.refl _), .wk _ _ (.refl _), .wk _ _ (.eq (int_eq wk)), trivial⟩ (.same 0 _ _ _ rfl (.same 1 _ _ _ rfl (.cells 2 _ _ _ _ rfl (.cons _ _ _ _ (.wk _ _ (.refl _)) (.cons _ _ _ _ (.wk _ _ (.nl _ _ _ _)) (.cons _ _ _ _ (.wk _ _ (.refl _)) .nil))) (.nil 3)))) (fun i sz xs h => by cases h)) (Nat.zero_le _) nx
    · refine cond_f (by rw [st_beq]; exact decide_eq_false he) ?_
      have es : actStep all[i] s acts[k] = s := by unfold actStep; rw [if_neg he]
      rw [es] at nx
      exact VloopS.weakE (l := awAt acts all i (k + 1)) (h := [zb, bx N acc, wbx all[i] s]) rfl ⟨.refl _, .refl _, .refl _, .refl _, .refl _, .refl _, .refl _, .eq (int_eq wk), trivial⟩ rfl (Nat.zero_le _) nx

end Go.Proofs.YtjbgdmebpnfpnaaDoor.V

/- The reference's Batch: as a contract; its batches are right. -/
namespace Go.Proofs.YtjbgdmebpnfpnaaDoor.V
open Go.IntWalk Go.Lib

def btAt (acts : List Act) (all : List (List UInt8)) (i : Nat) : List (Nat × AV) := [(1, .sl 3 none false (acts.map Act.c)), (4, .ptr (some (0, 0))), (5, .ptr (some (1, 0))), (6, .sl 1 none false (strs (acts.map keyOf))), (8, .sl 1 none false (strs all)), (9, .int .i64 i)]

theorem bt_np (acts : List Act) (all : List (List UInt8)) (i : Nat) : ∀ q, q ∈ btAt acts all i → NP (fun i => i < 2) q.2 := by
  intro q hq
  simp only [btAt, List.mem_cons, List.not_mem_nil, or_false] at hq
  rcases hq with rfl | rfl | rfl | rfl | rfl | rfl
  · exact np_acts _
  · exact .ptr _ _ (by simp)
  · exact .ptr _ _ (by simp)
  · exact np_strs _
  · exact np_strs _
  · exact .int _ _

theorem btLoop (N : Int) (acts : List Act) (hl : acts.length ≤ 1000) (all : List (List UInt8)) (ha : all.length ≤ 1000) (R : VE → Sy → Prop)
    (hR : R (.exit 2) ⟨[], [(4, .ptr (some (0, 0))), (5, .ptr (some (1, 0)))], [zb, bx N (all.map (wOf acts))]⟩) :
    ∀ (g i : Nat), i + g = all.length → VloopS Tryd.prog (tr [6, 20, 1000076]) 82 0 c13b1 (exW 82 R) ⟨[], btAt acts all i, [zb, bx N ((all.take i).map (wOf acts))]⟩
  | 0, i, hg => by
    rw [List.take_of_length_le (by omega)]
    refine VloopS.round ?_
    refine cond_f (by rw [strs_len]; exact decide_eq_false (by omega)) ?_
    exact ex_w hR rfl ⟨.refl _, .refl _, trivial⟩ rfl
  | g + 1, i, hg => by
    have hlt : i < all.length := by omega
    have nx := btLoop N acts hl all ha R hR g (i + 1) (by omega)
    rw [take_snoc all i hlt, List.map_append, List.map_cons, List.map_nil] at nx
    have wi : IntKind.i64.wrap ((i : Int) + 1) = ((i + 1 : Nat) : Int) := by rw [i64_in _ (by omega)]; omega
    have hacc : ((all.take i).map (wOf acts)).length ≤ 1000 := by rw [List.length_map, List.length_take]; omega
    generalize (all.take i).map (wOf acts) = acc at nx hacc ⊢
    have hnp : ∀ o, o ∈ [zb, bx N (acc ++ [wOf acts all[i]])] → NPo (fun i => i < 2) o := fun o ho => by
      simp only [List.mem_cons, List.not_mem_nil, or_false] at ho
      rcases ho with rfl | rfl
      · exact zb_np
      · exact bx_np _ _
    have hw : wOf acts all[i] = ⟨all[i], match (actS all[i] acts).2 with | true => [] | false => (actS all[i] acts).1, (actS all[i] acts).2⟩ := rfl
    refine VloopS.round ?_
    refine cond_t (by rw [strs_len]; exact decide_eq_true (by omega)) ?_
    refine And.intro rfl (And.intro (Int.natCast_nonneg i) (Exists.intro _ (And.intro (strs_get hlt) ?_)))
    refine VloopS.shift (σ' := ⟨[], awAt acts all i 0, [zb, bx N acc, wbx all[i] (actS all[i] (acts.take 0))]⟩) (ShiftS.fz (fun _ => none) ⟨.wk _ _ (.refl _), .wk _ _ (.refl _), .wk _ _ (.refl _), .wk _ _ (.refl _), .wk _ _ (.refl _), .wk _ _ (.refl _), .wk _ _ (.refl _), .wk _ _ (.refl _), trivial⟩ (.same 0 _ _ _ rfl (.same 1 _ _ _ rfl (.cells 2 _ _ _ _ rfl (.cons _ _ _ _ (.wk _ _ (.refl _)) (.cons _ _ _ _ (.wk _ _ (.nil _ _ _ _ _ (by simp))) (.cons _ _ _ _ (.wk _ _ (.refl _)) .nil))) (.nil 3)))) (fun i sz xs h => by cases h)) (Nat.zero_le _) (VloopS.exW (awLoop N acts hl all i hlt acc _ ?_ acts.length 0 (by omega)))
    generalize actS all[i] acts = s at hw ⊢
    obtain ⟨row, gone⟩ := s
    generalize wOf acts all[i] = w at hw nx hnp
    cases gone with
    | true =>
      refine cond_t rfl ?_
      refine And.intro (.inl ⟨rfl, rfl⟩) (And.intro (.inl rfl) (And.intro (by simp only [List.length_map, List.length_cons, List.length_nil]; omega) ?_))
      refine VloopS.shift (σ' := ⟨[], btAt acts all (i + 1), [zb, bx N (acc ++ [w]), .cells [.str (st all[i]), .sl 0 (some true) true [], .bool true]]⟩) (ShiftS.fz (fun _ => none) ⟨.wk _ _ (.refl _), .wk _ _ (.refl _), .wk _ _ (.refl _), .wk _ _ (.refl _), .wk _ _ (.refl _), .wk _ _ (.eq (int_eq wi)), trivial⟩ (.same 0 _ _ _ rfl (.cells 1 _ _ _ _ rfl (.cons _ _ _ _ (.wk _ _ (.refl _)) (.cons _ _ _ _ ?_ .nil)) (.same 2 _ _ _ rfl (.nil 3)))) (fun i sz xs h => by cases h)) (Nat.zero_le _) ?_
      · refine wk_app acc w ?_
        rw [hw]
        exact .cons _ _ _ _ (.wk _ _ (.refl _)) (.cons _ _ _ _ (.wk _ _ (.nil _ _ _ _ _ (by simp))) (.cons _ _ _ _ (.wk _ _ (.refl _)) .nil))
      · exact VloopS.weakBox (l := btAt acts all (i + 1)) (h := [zb, bx N (acc ++ [w])]) (ex := [_]) rfl ⟨.refl _, .refl _, .refl _, .refl _, .refl _, .refl _, trivial⟩ rfl (Nat.zero_le _) (bt_np _ _ _) hnp nx
    | false =>
      refine cond_f rfl ?_
      refine And.intro (.inl ⟨rfl, rfl⟩) (And.intro (.inl rfl) (And.intro (by simp only [List.length_map, List.length_cons, List.length_nil]; omega) ?_))
      refine VloopS.shift (σ' := ⟨[], btAt acts all (i + 1), [zb, bx N (acc ++ [w]), .cells [.str (st all[i]), .sl 1 none true (bs row), .bool false]]⟩) (ShiftS.fz (fun _ => none) ⟨.wk _ _ (.refl _), .wk _ _ (.refl _), .wk _ _ (.refl _), .wk _ _ (.refl _), .wk _ _ (.refl _), .wk _ _ (.eq (int_eq wi)), trivial⟩ (.same 0 _ _ _ rfl (.cells 1 _ _ _ _ rfl (.cons _ _ _ _ (.wk _ _ (.refl _)) (.cons _ _ _ _ ?_ .nil)) (.same 2 _ _ _ rfl (.nil 3)))) (fun i sz xs h => by cases h)) (Nat.zero_le _) ?_
      · refine wk_app acc w ?_
        rw [hw]
        exact WkFL.of _
      · exact VloopS.weakBox (l := btAt acts all (i + 1)) (h := [zb, bx N (acc ++ [w])]) (ex := [_]) rfl ⟨.refl _, .refl _, .refl _, .refl _, .refl _, .refl _, trivial⟩ rfl (Nat.zero_le _) (bt_np _ _ _) hnp nx

/-- What a batch's writes are. -/
structure Bat (acts : List Act) (ws : List Wr) : Prop where
  right : ∀ N : Int, 1 ≤ N → acts ≠ [] → acts.length ≤ 64 → rightB N ws = true
  small : ∀ w, w ∈ ws → w.key.length = 2 ∧ w.row.length ≤ 1
  len : ws.length ≤ acts.length
  ne : acts ≠ [] → ws ≠ []

theorem fits_of (acts : List Act) : ∀ (all : List (List UInt8)) (last : List UInt8), (∀ x, x ∈ all → x.length = 2) → ascL all last = true → fitsL (all.map (wOf acts)) last = true
  | [], _, _, _ => rfl
  | k :: r, last, h2, ha => by
    rw [ascL, Bool.and_eq_true] at ha
    rw [List.map_cons, fitsL, Bool.and_eq_true]
    refine ⟨?_, fits_of acts r k (fun x hx => h2 x (by simp [hx])) ha.2⟩
    have hk := h2 k (by simp)
    have hl := actS_len k acts
    unfold fitsB wOf
    simp only [st_size, bs_len]
    rw [hk, ha.1]
    cases (actS k acts).2 with
    | true => rfl
    | false =>
      simp only
      rw [decide_eq_true (show (((actS k acts).1.length : Nat) : Int) ≤ 4000 by omega)]
      rfl

theorem batchN (acts : List Act) (hl : acts.length ≤ 1000) : ∃ ws, Bat acts ws ∧ ∀ (N : Int) (nl : Option Bool) (own : Bool), PCallN Tryd.prog 13 [.int .i64 N, .sl 3 nl own (acts.map Act.c)] (batAV none false N ws) := by
  have h2 : ∀ x, x ∈ acts.map keyOf → x.length = 2 := fun x hx => by
    obtain ⟨a, _, rfl⟩ := List.mem_map.1 hx
    rfl
  obtain ⟨all, hr, hc⟩ := riseN (acts.map keyOf) (by rw [List.length_map]; exact hl) (fun x hx e => by have := h2 x hx; rw [e] at this; cases this)
  have hal : all.length ≤ acts.length := by have := hr.len; rwa [List.length_map] at this
  refine ⟨all.map (wOf acts), ⟨fun N hN hne h64 => ?_, fun w hw => ?_, by rw [List.length_map]; exact hal, fun hne e => ?_⟩, fun N nl own => ?_⟩
  · have hf := fits_of acts all [] (fun x hx => h2 x (hr.mem x hx)) hr.asc
    have hp : 0 < all.length := List.length_pos_iff.2 (hr.ne (fun e => hne (List.map_eq_nil_iff.1 e)))
    unfold rightB
    rw [hf, decide_eq_true (show N ≥ 1 from hN)]
    simp only [List.length_map]
    rw [decide_eq_true (show ((all.length : Nat) : Int) ≥ 1 by omega), decide_eq_true (show ((all.length : Nat) : Int) ≤ 64 by omega)]
    rfl
  · obtain ⟨k, hk, rfl⟩ := List.mem_map.1 hw
    refine ⟨h2 k (hr.mem k hk), ?_⟩
    have hl := actS_len k acts
    unfold wOf
    cases (actS k acts).2 with
    | true => exact Nat.zero_le _
    | false => exact hl
  · exact hr.ne (fun e => hne (List.map_eq_nil_iff.1 e)) (List.map_eq_nil_iff.1 e)
  · refine PCallN.weakArgs (.cons _ _ _ _ (.refl _) (.cons _ _ _ _ (.both _ _ _ _) .nil)) (np_cons (.int _ _) (np_cons (np_acts _) np_nil)) ?_
    refine PCallN.of (tr [6, 20, 1000076]) f13 (Nat.le_of_ble_eq_true rfl) (np_cons (.int _ _) (np_cons (np_acts _) np_nil)) (np_batAV _ _ _ _) ?_
    refine VloopS.weakE (l := k2At acts 0) (h := [zb, bx0 N]) rfl ⟨.refl _, .refl _, .refl _, .nil _ _ _ _ _ (by simp), .refl _, trivial⟩ rfl (Nat.zero_le _) (VloopS.exW (k2Loop N acts hl _ ?_ acts.length 0 (by omega)))
    refine call_p (hc none false) ?_
    refine VloopS.exW (VloopS.shift (σ' := ⟨[], btAt acts all 0, [zb, bx N []]⟩) (ShiftS.fz (fun _ => none) ⟨.wk _ _ (.refl _), .wk _ _ (.refl _), .wk _ _ (.refl _), .wk _ _ (.refl _), .wk _ _ (.refl _), .wk _ _ (.refl _), trivial⟩ (.same 0 _ _ _ rfl (.cells 1 _ _ _ _ rfl (.cons _ _ _ _ (.wk _ _ (.refl _)) (.cons _ _ _ _ (.wk _ _ (.nil _ _ _ _ _ (by simp))) .nil)) (.nil 2))) (fun i sz xs h => by cases h)) (Nat.zero_le _) (btLoop N acts hl all (by omega) _ ?_ all.length 0 (by omega)))
    exact rfl

end Go.Proofs.YtjbgdmebpnfpnaaDoor.V

/- record.number, record.blob, record.Encode. -/
namespace Go.Proofs.YtjbgdmebpnfpnaaDoor.V
open Go.IntWalk Go.Lib

def rnAt (x : Int) (p : List UInt8) (m : Nat) : List (Nat × AV) := [(0, .sl 1 none true (bs p)), (1, .int .u64 x), (7, .int .i64 ((m : Int) - 1))]

theorem rnLoop (x : Int) (T : List UInt8) (hT : T.length ≤ 1000000) (R : VE → Sy → Prop) (hR : R (.exit 0) ⟨[], [(0, .sl 1 none true (bs T))], []⟩) :
    ∀ (m : Nat) (p : List UInt8), m ≤ 8 → p ++ be x m = T → VloopS Tryd.prog (tr [0, 6, 14, 22]) 23 0 c31b0 (exW 23 R) ⟨[], rnAt x p m, []⟩
  | 0, p, hm, hp => by
    have e : p = T := by simpa [be] using hp
    subst e
    refine VloopS.round ?_
    refine cond_f (decide_eq_false (by omega)) ?_
    exact ex_w hR rfl ⟨.refl _, trivial⟩ rfl
  | m + 1, p, hm, hp => by
    refine VloopS.round ?_
    have hl : p.length + (m + 1) = T.length := by
      have := congrArg List.length hp
      rw [List.length_append, be_len] at this
      exact this
    refine cond_t (decide_eq_true (by omega)) ?_
    have e0 : (((m + 1 : Nat) : Int) - 1) = (m : Int) := by omega
    rw [e0]
    refine And.intro (by rw [i64_in _ (by omega)]; omega) ?_
    refine And.intro (.inl ⟨rfl, rfl⟩) (And.intro (.inl rfl) (And.intro (by simp only [List.length_cons, List.length_nil, bs_len]; omega) ?_))
    refine VloopS.weakE (l := rnAt x (p ++ [byteAt x m]) m) (h := []) rfl ⟨.eq (sl_eq ?_), .refl _, .eq (int_eq ?_), trivial⟩ rfl (Nat.zero_le _) (rnLoop x T hT R hR m (p ++ [byteAt x m]) (by omega) (by rw [← hp]; simp [be]))
    · rw [← bs_app]
      refine congrArg (bs p ++ ·) ?_
      refine congrArg (fun x => [[AV.int .u8 x]]) ?_
      rw [e0]
      exact shr_byte x m (by omega)
    · rw [i64_in _ (by omega)]; omega

theorem recNumN (p : List UInt8) (x : Int) (size : Nat) (hs : size ≤ 8) (hp : p.length ≤ 900000) : PCallN Tryd.prog 31 [.sl 1 none true (bs p), .int .u64 x, .int .i64 size] (.sl 1 none true (bs (p ++ be x size))) := by
  refine PCallN.of (tr [0, 6, 14, 22]) f31 (Nat.le_of_ble_eq_true rfl) (np_cons (np_bs _) (np_cons (.int _ _) (np_cons (.int _ _) np_nil))) (np_bs _) ?_
  refine VloopS.weakE (l := rnAt x p size) (h := []) rfl ⟨.refl _, .refl _, .eq (int_eq (by rw [i64_in _ (by omega)])), trivial⟩ rfl (Nat.zero_le _) (VloopS.exW (rnLoop x (p ++ be x size) (by rw [List.length_append, be_len]; omega) _ ?_ size p hs rfl))
  exact sl_eq rfl

theorem recNumNil (x : Int) (size : Nat) (hs : size ≤ 8) : PCallN Tryd.prog 31 [.sl 0 (some true) true [], .int .u64 x, .int .i64 size] (.sl 1 none true (bs (be x size))) :=
  PCallN.weakArgs (.cons _ _ _ _ (.nil 0 1 true true none (by simp)) (.cons _ _ _ _ (.refl _) (.cons _ _ _ _ (.refl _) .nil))) (np_cons np_nilsl (np_cons (.int _ _) (np_cons (.int _ _) np_nil))) (recNumN [] x size hs (Nat.zero_le _))

theorem recBlobN (nl : Option Bool) (own : Bool) (p q : List UInt8) (hp : p.length + q.length ≤ 800000) : PCallN Tryd.prog 32 [.sl 1 none true (bs p), .sl 1 nl own (bs q)] (.sl 1 none true (bs (p ++ (be q.length 2 ++ q)))) := by
  refine PCallN.of (tr [4, 5]) f32 (Nat.le_of_ble_eq_true rfl) (np_cons (np_bs _) (np_cons (np_bs _) np_nil)) (np_bs _) ?_
  refine call_p (recNumN p _ 2 (by decide) (by omega)) ?_
  have e : be (IntKind.u64.wrap (((bs q).length : Nat) : Int)) 2 = be q.length 2 := by rw [bs_len, u64_len _ (by omega)]
  rw [e]
  refine And.intro (.inl ⟨rfl, rfl⟩) (And.intro (.inl rfl) (And.intro (by simp only [bs_len, List.length_append, be_len]; omega) ?_))
  exact sl_eq (by rw [bs_app, List.append_assoc])

def reAt (l : List Wr) (p : List UInt8) (i : Nat) : List (Nat × AV) := [(1, .ptr (some (0, 0))), (3, .sl 1 none true (bs p)), (16, .sl 3 none false (l.map Wr.c)), (17, .int .i64 l.length), (18, .int .i64 i)]

theorem re_np (l : List Wr) (p : List UInt8) (i : Nat) : ∀ q, q ∈ reAt l p i → NP (fun i => i < 1) q.2 := by
  intro q hq
  simp only [reAt, List.mem_cons, List.not_mem_nil, or_false] at hq
  rcases hq with rfl | rfl | rfl | rfl | rfl
  · exact .ptr _ _ (by simp)
  · exact np_bs _
  · exact np_ws _
  · exact .int _ _
  · exact .int _ _

theorem reLoop (N : Int) (l : List Wr) (T : List UInt8) (hT : T.length ≤ 700000) (R : VE → Sy → Prop) (hR : R (.exit 0) ⟨[], [(3, .sl 1 none true (bs T))], [bxS N l]⟩) :
    ∀ (g i : Nat) (p : List UInt8), i + g = l.length → l.length ≤ 1000000 → p ++ (l.drop i).flatMap encW = T → VloopS Tryd.prog (tr [2, 3, 22, 29, 32, 39]) 40 0 c19b0 (exW 40 R) ⟨[], reAt l p i, [bxS N l]⟩
  | 0, i, p, hg, hl, he => by
    rw [List.drop_eq_nil_of_le (by omega)] at he
    have he : p = T := by simpa using he
    subst he
    refine VloopS.round ?_
    refine cond_f (decide_eq_false (by omega)) ?_
    exact ex_w hR rfl ⟨.refl _, trivial⟩ rfl
  | g + 1, i, p, hg, hl, he => by
    have hlt : i < l.length := by omega
    rw [List.drop_eq_getElem_cons hlt, List.flatMap_cons, ← List.append_assoc] at he
    have hlen : p.length + (encW l[i]).length ≤ 700000 := by
      have := congrArg List.length he
      simp only [List.length_append] at this
      omega
    refine VloopS.round ?_
    refine cond_t (decide_eq_true (by omega)) ?_
    refine And.intro rfl (And.intro (Int.natCast_nonneg i) (Exists.intro l[i].c (And.intro (ws_get hlt) ?_)))
    generalize l[i] = w at he hlen
    have wi : IntKind.i64.wrap ((i : Int) + 1) = ((i + 1 : Nat) : Int) := by rw [i64_in _ (by omega)]; omega
    have hwl := encW_len w
    have nx := reLoop N l T hT R hR g (i + 1) (p ++ encW w) (by omega) hl he
    have fin : ∀ {x : AV} {e : HObj}, x = .sl 1 none true (bs (p ++ encW w)) → ∀ {σ : Sy}, σ.get 1 = .ptr (some (0, 0)) → σ.get 3 = x → σ.get 16 = .sl 3 none false (l.map Wr.c) → σ.get 17 = .int .i64 l.length → σ.get 18 = .int .i64 (IntKind.i64.wrap ((i : Int) + 1)) → σ.h = [bxS N l] ++ [e] → VloopS Tryd.prog (tr [2, 3, 22, 29, 32, 39]) 40 0 c19b0 (exW 40 R) σ := by
      intro x e hx σ h1 h3 h16 h17 h18 hh
      refine VloopS.weakBox (l := reAt l (p ++ encW w) (i + 1)) (h := [bxS N l]) (ex := [e]) rfl ⟨.eq h1, .eq (h3.trans hx), .eq h16, .eq h17, .eq (h18.trans (int_eq wi)), trivial⟩ hh (Nat.zero_le _) (re_np _ _ _) (fun o ho => by rw [List.mem_singleton.1 ho]; exact bxS_np _ _) nx
    refine call_p (by rw [bs_st]; exact recBlobN _ _ p w.key (by omega)) ?_
    cases hgo : w.gone with
    | true =>
      rw [hgo] at hwl
      simp only at hwl
      refine cond_t rfl ?_
      refine And.intro (.inl ⟨rfl, rfl⟩) (And.intro (.inl rfl) (And.intro (by simp only [List.length_append, bs_len, be_len, List.length_cons, List.length_nil]; omega) ?_))
      refine fin (sl_eq ?_) rfl rfl rfl rfl rfl rfl
      have e1 : [[AV.int .u8 1]] = bs [1] := rfl
      rw [e1, bs_app]
      unfold encW
      rw [hgo]
      simp only [List.append_assoc]
    | false =>
      rw [hgo] at hwl
      simp only at hwl
      refine cond_f rfl ?_
      refine And.intro (.inl ⟨rfl, rfl⟩) (And.intro (.inl rfl) (And.intro (by simp only [List.length_append, bs_len, be_len, List.length_cons, List.length_nil]; omega) ?_))
      have e1 : bs (p ++ (be w.key.length 2 ++ w.key)) ++ [[AV.int .u8 0]] = bs ((p ++ (be w.key.length 2 ++ w.key)) ++ [0]) := by
        rw [show [[AV.int .u8 0]] = bs [0] from rfl, bs_app]
      refine call_d (ret := .sl 1 none true (bs (((p ++ (be w.key.length 2 ++ w.key)) ++ [0]) ++ (be w.row.length 2 ++ w.row)))) (by
        have h1 := recBlobN none false ((p ++ (be w.key.length 2 ++ w.key)) ++ [0]) w.row (by simp only [List.length_append, be_len, List.length_cons, List.length_nil]; omega)
        rw [← e1] at h1
        exact h1) ?_
      refine And.intro (by kernel_rfl) ?_
      refine fin (sl_eq ?_) rfl rfl rfl rfl rfl rfl
      unfold encW
      rw [hgo]
      simp only [List.append_assoc, List.cons_append, List.nil_append]

theorem recEncN0 (N : Int) (l : List Wr) (hl : l.length ≤ 1000000) (hT : (encB N l).length ≤ 700000) : PCallN Tryd.prog 19 [batAV none false N l] (.sl 1 none true (bs (encB N l))) := by
  refine PCallN.of (tr [2, 3, 22, 29, 32, 39]) f19 (Nat.le_of_ble_eq_true rfl) (np_cons (np_batAV _ _ _ _) np_nil) (np_bs _) ?_
  refine call_d (recNumNil _ 8 (by decide)) ?_
  refine call_d (recNumN _ _ 2 (by decide) (by rw [be_len]; decide)) ?_
  refine And.intro (by kernel_rfl) ?_
  have h8 : be (IntKind.u64.wrap N) 8 = be N 8 := be_u64 N
  have h2 : be (IntKind.u64.wrap ((l.map Wr.c).length : Int)) 2 = be l.length 2 := by rw [List.length_map, u64_len _ hl]
  refine VloopS.weakE (l := reAt l (be N 8 ++ be l.length 2) 0) (h := [bxS N l]) rfl ⟨.refl _, .eq (sl_eq (by rw [h8, h2])), .refl _, .eq (int_eq (by rw [List.length_map])), .eq (int_eq rfl), trivial⟩ rfl (Nat.zero_le _) (VloopS.exW (reLoop N l (encB N l) hT _ ?_ l.length 0 _ (by omega) hl rfl))
  exact sl_eq rfl

theorem recEncN (nl : Option Bool) (own : Bool) (N : Int) (l : List Wr) (hl : l.length ≤ 1000000) (hT : (encB N l).length ≤ 700000) : PCallN Tryd.prog 19 [batAV nl own N l] (.sl 1 none true (bs (encB N l))) :=
  PCallN.weakArgs (.cons _ _ _ _ (wk_bat _ _ _ _) .nil) (np_cons (np_batAV _ _ _ _) np_nil) (recEncN0 N l hl hT)

end Go.Proofs.YtjbgdmebpnfpnaaDoor.V
