/-
  The law OrderBack: a key read back gives its values.
-/
import Derived.Test.YtlhdbbkfibibfaaDoorGc

/- Keys read back: a text's bytes. -/
namespace Go.Proofs.YtlhdbbkfibibfaaDoor.V
open Go.IntWalk Go.Lib

/-- A text's bytes, and what stands behind it. -/
def wordsD : List UInt8 → Option (List UInt8 × List UInt8)
  | [] => none
  | [_] => none
  | b :: m :: l => if b = 0 then (if m = 255 then (wordsD l).map fun x => (0 :: x.1, x.2) else if m = 1 then some ([], l) else none) else (wordsD (m :: l)).map fun x => (b :: x.1, x.2)

def wdTail (pre : List UInt8) : List UInt8 → Option (List UInt8 × List UInt8)
  | [] => none
  | m :: l => if m = 255 then (wordsD l).map fun x => (pre ++ 0 :: x.1, x.2) else if m = 1 then some (pre, l) else none

theorem ix_words : ∀ q : List UInt8, (indexByte q 0 = -1 ∧ wordsD q = none) ∨ ∃ k : Nat, indexByte q 0 = k ∧ k < q.length ∧ wordsD q = wdTail (q.take k) (q.drop (k + 1))
  | [] => .inl ⟨rfl, rfl⟩
  | [b] => by
    by_cases hb : b = 0
    · subst hb
      exact .inr ⟨0, rfl, by simp, rfl⟩
    · refine .inl ⟨?_, rfl⟩
      unfold indexByte
      rw [if_neg (by simpa using hb)]
      rfl
  | b :: m :: l => by
    by_cases hb : b = 0
    · subst hb
      refine .inr ⟨0, rfl, by simp, ?_⟩
      rw [wordsD, if_pos rfl]
      show _ = wdTail [] (m :: l)
      unfold wdTail
      rfl
    · have hw : wordsD (b :: m :: l) = (wordsD (m :: l)).map fun x => (b :: x.1, x.2) := by rw [wordsD, if_neg hb]
      rcases ix_words (m :: l) with ⟨h1, h2⟩ | ⟨k, h1, h2, h3⟩
      · refine .inl ⟨?_, by rw [hw, h2]; rfl⟩
        rw [indexByte, if_neg (by simpa using hb), h1]
        rfl
      · refine .inr ⟨k + 1, ?_, by simp at h2 ⊢; omega, ?_⟩
        · rw [indexByte, if_neg (by simpa using hb), h1, if_neg (by simp)]
          omega
        · rw [hw, h3]
          show _ = wdTail (b :: (m :: l).take k) ((m :: l).drop (k + 1))
          cases (m :: l).drop (k + 1) with
          | nil => rfl
          | cons y r =>
            simp only [wdTail]
            by_cases h5 : y = 255
            · rw [if_pos h5, if_pos h5, Option.map_map]; rfl
            · rw [if_neg h5, if_neg h5]
              by_cases h6 : y = 1
              · rw [if_pos h6, if_pos h6]; rfl
              · rw [if_neg h6, if_neg h6]; rfl

def wdRet : Option (List UInt8 × List UInt8) → List (Nat × AV)
  | some x => [(2, .str (st x.1)), (3, .sl 1 none false (bs x.2)), (4, .bool true)]
  | none => [(2, .str (st [])), (3, .sl 1 none false (bs [])), (4, .bool false)]

def wdAt (q acc : List UInt8) : List (Nat × AV) := [(0, .sl 1 none false (bs q)), (5, .sl 1 none true (bs acc))]

theorem wdLoop (p : List UInt8) (hp : p.length ≤ 100000) (R : VE → Sy → Prop) (hR : R .ret ⟨[], wdRet (wordsD p), []⟩) :
    ∀ (n : Nat) (q acc : List UInt8), q.length ≤ n → q.length + acc.length ≤ p.length → (wordsD q).map (fun x => (acc ++ x.1, x.2)) = wordsD p →
      VloopS Tryd.prog (tr [2, 3, 5, 19, 23, 36, 38]) 44 0 c27b0 (exW 44 R) ⟨[], wdAt q acc, []⟩
  | n, q, acc, hn, hl, hw => by
    refine VloopS.round ?_
    refine call_p (indexByteN _ _ q 0) ?_
    rcases ix_words q with ⟨h1, h2⟩ | ⟨k, h1, h2, h3⟩
    · rw [h1]
      repeat (first | refine guard_t rfl ?_ | refine guard_f (by decide) ?_)
      refine cond_t rfl ?_
      rw [← hw, h2] at hR
      exact ex_w hR rfl ⟨.refl _, .nil _ _ _ _ _ (by simp), .refl _, trivial⟩ rfl
    · rw [h1]
      have c1 : ¬ ((k : Nat) : Int) < 0 := by omega
      refine guard_t (decide_eq_false c1) ?_
      rw [decide_eq_false c1]
      repeat (first | refine guard_t rfl ?_ | refine guard_f (by decide) ?_)
      have w1 : IntKind.i64.wrap (((k : Nat) : Int) + 1) = ((k + 1 : Nat) : Int) := by rw [i64_in _ (by omega)]; omega
      have w2 : IntKind.i64.wrap (((k : Nat) : Int) + 2) = ((k + 2 : Nat) : Int) := by rw [i64_in _ (by omega)]; omega
      by_cases he : k + 1 = q.length
      · refine cond_t (beq_iff_eq.2 (by rw [w1, bs_len, he])) ?_
        rw [← hw, h3, he, List.drop_length] at hR
        exact ex_w hR rfl ⟨.refl _, .nil _ _ _ _ _ (by simp), .refl _, trivial⟩ rfl
      · refine cond_f (beq_eq_false_iff_ne.2 (by rw [w1, bs_len]; omega)) ?_
        have hlt : k + 1 < q.length := by omega
        refine And.intro (.inl rfl) (And.intro (by rw [bs_len]; omega) ?_)
        have e1 : ((bs q).drop (0 : Int).toNat).take (((k : Nat) : Int).toNat - (0 : Int).toNat) = bs (q.take k) := by
          show ((bs q).drop 0).take (k - 0) = _
          rw [List.drop_zero, Nat.sub_zero, bs_take]
        rw [e1]
        refine And.intro (.inl ⟨rfl, rfl⟩) (And.intro (.inl rfl) (And.intro ?_ ?_))
        · rw [bs_len, bs_len, List.length_take]; omega
        refine And.intro rfl (And.intro (by rw [w1]; omega) (Exists.intro [.int .u8 (q[k + 1].toNat : Int)] (And.intro (by rw [w1]; exact bs_get hlt) ?_)))
        refine And.intro (.inl rfl) (And.intro (by rw [bs_len, w2]; omega) ?_)
        have e2 : ((bs q).drop (IntKind.i64.wrap (((k : Nat) : Int) + 2)).toNat).take ((((bs q).length : Nat) : Int).toNat - (IntKind.i64.wrap (((k : Nat) : Int) + 2)).toNat) = bs (q.drop (k + 2)) := by
          rw [cut_bs w2 (congrArg Nat.cast (bs_len q)) (Nat.le_refl _), List.take_of_length_le (by simp)]
        rw [e2]
        rw [List.drop_eq_getElem_cons hlt] at h3
        simp only [wdTail] at h3
        by_cases h5 : q[k + 1] = 255
        · refine cond_t (by rw [h5]; rfl) ?_
          refine And.intro (.inl ⟨rfl, rfl⟩) (And.intro (.inl rfl) (And.intro ?_ ?_))
          · simp only [List.length_append, List.length_cons, List.length_nil, bs_len, List.length_take]; omega
          rw [if_pos h5] at h3
          match n, hn with
          | 0, hn => omega
          | n + 1, hn =>
            refine VloopS.weakE (l := wdAt (q.drop (k + 2)) (acc ++ q.take k ++ [0])) rfl ⟨.refl _, .eq (sl_eq ?_), trivial⟩ rfl (Nat.zero_le _) (wdLoop p hp R hR n (q.drop (k + 2)) (acc ++ q.take k ++ [0]) (by rw [List.length_drop]; omega) (by simp only [List.length_append, List.length_drop, List.length_take, List.length_cons, List.length_nil]; omega) ?_)
            · rw [← bs_app, ← bs_app]; rfl
            · rw [← hw, h3, Option.map_map]
              congr 1
              funext x
              simp
        · refine cond_f (beq_eq_false_iff_ne.2 fun e => h5 (UInt8.toNat_inj.1 (by have : (255 : UInt8).toNat = 255 := rfl; omega))) ?_
          by_cases h6 : q[k + 1] = 1
          · refine cond_t (by rw [h6]; rfl) ?_
            refine Exists.intro (acc ++ q.take k) (And.intro (by rw [bs_app]; exact toBytes_bs _) ?_)
            rw [if_neg h5, if_pos h6] at h3
            rw [← hw, h3] at hR
            exact ex_w hR rfl ⟨.refl _, .refl _, .refl _, trivial⟩ rfl
          · refine cond_f (beq_eq_false_iff_ne.2 fun e => h6 (UInt8.toNat_inj.1 (by have : (1 : UInt8).toNat = 1 := rfl; omega))) ?_
            rw [if_neg h5, if_neg h6] at h3
            rw [← hw, h3] at hR
            exact ex_w hR rfl ⟨.refl _, .nil _ _ _ _ _ (by simp), .refl _, trivial⟩ rfl

def wdAV : Option (List UInt8 × List UInt8) → AV
  | some x => .tup [.str (st x.1), .sl 1 none false (bs x.2), .bool true]
  | none => .tup [.str (st []), .sl 1 none false (bs []), .bool false]

theorem wdAV_np (o : Option (List UInt8 × List UInt8)) {ok : Nat → Prop} : NP ok (wdAV o) := by
  cases o <;> exact .tup _ (np_cons (.str _) (np_cons (np_bs _) (np_cons (.bool _) np_nil)))

theorem wordsN (nl : Option Bool) (own : Bool) (p : List UInt8) (hp : p.length ≤ 100000) : PCallN Tryd.prog 27 [.sl 1 nl own (bs p)] (wdAV (wordsD p)) := by
  refine PCallN.of (tr [2, 3, 5, 19, 23, 36, 38]) f27 (Nat.le_of_ble_eq_true rfl) (np_cons (np_bs _) np_nil) (wdAV_np _) ?_
  refine VloopS.weakE (l := wdAt p []) rfl ⟨.both _ _ _ _, .nil _ _ _ _ _ (by simp), trivial⟩ rfl (Nat.zero_le _) (VloopS.exW (wdLoop p hp _ ?_ p.length p [] (Nat.le_refl _) (by simp) (by simp)))
  cases wordsD p with
  | none => exact rfl
  | some x => exact rfl

end Go.Proofs.YtlhdbbkfibibfaaDoor.V

/- Keys read back: the first value. -/
namespace Go.Proofs.YtlhdbbkfibibfaaDoor.V
open Go.IntWalk Go.Lib

def unturn (u : Int) : Int := IntKind.i64.wrap (IntKind.u64.wrap (BitVec.ofInt 64 u ^^^ BitVec.ofInt 64 9223372036854775808).toNat)

def nextD (k : UInt8) (l : List UInt8) : Va × List UInt8 × Bool :=
  if k = 1 then (⟨0, 0, []⟩, l, true) else
  if k = 2 ∧ 8 ≤ l.length then (⟨1, unturn (num (l.take 8)).toNat, []⟩, l.drop 8, true) else
  if k = 3 then (match wordsD l with
    | some x => (⟨2, 0, x.1⟩, x.2, (⟨2, 0, x.1⟩ : Va).right)
    | none => (⟨2, 0, []⟩, [], false)) else (⟨0, 0, []⟩, [], false)

def nextAV (x : Va × List UInt8 × Bool) : AV := .tup [x.1.av, .sl 1 none false (bs x.2.1), .bool x.2.2]
theorem next_np {ok : Nat → Prop} (v : Va) (nl : Option Bool) (own : Bool) (sz : Nat) (l : List UInt8) (b : Bool) : NP ok (.tup [v.av, .sl sz nl own (bs l), .bool b]) := .tup _ (np_cons (Va.np _) (np_cons (np_bs _) (np_cons (.bool _) np_nil)))

theorem next_start {nl : Option Bool} {own : Bool} {p : List UInt8} {v : Va} {nl' : Option Bool} {own' : Bool} {sz : Nat} {l : List UInt8} {b : Bool}
    (h : wpV Tryd.prog (tr []) 69 0 c23 (retS [.cell 2 (some 3), .tmp 3, .tmp 4] (.tup [v.av, .sl sz nl' own' (bs l), .bool b])) ⟨[.sl 1 nl own (bs p)], [], []⟩) : PCallN Tryd.prog 23 [.sl 1 nl own (bs p)] (.tup [v.av, .sl sz nl' own' (bs l), .bool b]) :=
  PCallN.of (tr []) f23 (Nat.le_of_ble_eq_true rfl) (np_cons (np_bs _) np_nil) (next_np _ _ _ _ _ _) h

theorem next_bad {f : Nat} {args : List AV} {v : Va} (h : PCallN Tryd.prog f args (.tup [v.av, .sl 0 (some true) false (bs []), .bool false])) : PCallN Tryd.prog f args (nextAV (v, [], false)) :=
  h.weakRet (.tup _ _ (.cons _ _ _ _ (.refl _) (.cons _ _ _ _ (.nil _ _ _ _ _ (by simp)) (.cons _ _ _ _ (.refl _) .nil))))
theorem next_nl {f : Nat} {args : List AV} {v : Va} {nl : Option Bool} {own : Bool} {l : List UInt8} {b : Bool} (h : PCallN Tryd.prog f args (.tup [v.av, .sl 1 nl own (bs l), .bool b])) : PCallN Tryd.prog f args (nextAV (v, l, b)) :=
  h.weakRet (.tup _ _ (.cons _ _ _ _ (.refl _) (.cons _ _ _ _ (.both _ _ _ _) (.cons _ _ _ _ (.refl _) .nil))))

def nnAt (r l : List UInt8) (k : Nat) : List (Nat × AV) := [(0, .sl 1 none false (bs r)), (2, .ptr (some (0, 0))), (6, .int .u64 (num (l.take k)).toNat), (32, .sl 1 none false (bs l)), (33, .int .i64 l.length), (34, .int .i64 k)]

theorem nnLoop (r l : List UInt8) (hl : l.length ≤ 1000000) (c : List AV) (R : VE → Sy → Prop) (hR : R (.exit 1) ⟨[], [(0, .sl 1 none false (bs r)), (2, .ptr (some (0, 0))), (6, .int .u64 (num l).toNat)], [.cells c]⟩) :
    ∀ m k, k + m = l.length → VloopS Tryd.prog (tr []) 69 0 c23b0 (exW 69 R) ⟨[], nnAt r l k, [.cells c]⟩
  | 0, k, hk => by
    refine VloopS.round ?_
    refine cond_f (decide_eq_false (by omega)) ?_
    refine ex_w hR rfl ⟨.refl _, .refl _, .eq (int_eq ?_), trivial⟩ rfl
    rw [List.take_of_length_le (by omega)]
  | m + 1, k, hk => by
    have hlt : k < l.length := by omega
    refine VloopS.round ?_
    refine cond_t (decide_eq_true (by omega)) ?_
    refine And.intro rfl (And.intro (Int.natCast_nonneg k) (Exists.intro [.int .u8 (l[k].toNat : Int)] (And.intro (bs_get hlt) ?_)))
    refine And.intro (by decide) ?_
    refine VloopS.weakE (l := nnAt r l (k + 1)) rfl ?_ rfl (Nat.zero_le _) (nnLoop r l hl c R hR m (k + 1) (by omega))
    refine ⟨.refl _, .refl _, .eq ?_, .refl _, .refl _, .eq ?_, trivial⟩
    · refine congrArg (AV.int .u64) ((numStep (num (l.take k)) l[k]).trans ?_)
      rw [take_snoc l k hlt, num_snoc]
    · exact congrArg (AV.int .i64) (i64_in _ (by omega))

theorem nextN (nl : Option Bool) (own : Bool) (k : UInt8) (l : List UInt8) (hl : l.length ≤ 100000) : PCallN Tryd.prog 23 [.sl 1 nl own (bs (k :: l))] (nextAV (nextD k l)) := by
  have cut : ((bs (k :: l)).drop (1 : Int).toNat).take ((((bs (k :: l)).length : Nat) : Int).toNat - (1 : Int).toNat) = bs l := by
    show (bs l).take ((bs (k :: l)).length - 1) = bs l
    rw [List.take_of_length_le (by simp [bs])]
  by_cases h1 : k = 1
  · rw [show nextD k l = (⟨0, 0, []⟩, l, true) by rw [nextD, if_pos h1]]
    refine next_nl (nl := nl) (own := false) (next_start ?_)
    refine And.intro rfl (And.intro (by decide) (Exists.intro [.int .u8 (k.toNat : Int)] (And.intro rfl ?_)))
    refine And.intro (.inl rfl) (And.intro (by simp only [bs_len, List.length_cons]; omega) ?_)
    refine And.intro (by kernel_rfl) ?_
    refine cond_t (by rw [h1]; rfl) ?_
    exact tup3 (agg3 rfl rfl rfl) (sl_eq cut) rfl
  · by_cases h2 : k = 2 ∧ 8 ≤ l.length
    · rw [show nextD k l = (⟨1, unturn (num (l.take 8)).toNat, []⟩, l.drop 8, true) by rw [nextD, if_neg h1, if_pos h2]]
      obtain ⟨hk, h8⟩ := h2
      refine next_nl (nl := none) (own := false) (next_start ?_)
      refine And.intro rfl (And.intro (by decide) (Exists.intro [.int .u8 (k.toNat : Int)] (And.intro rfl ?_)))
      refine And.intro (.inl rfl) (And.intro (by simp only [bs_len, List.length_cons]; omega) ?_)
      refine And.intro (by kernel_rfl) ?_
      rw [cut, hk]
      refine cond_f rfl ?_
      repeat (first | refine guard_t rfl ?_ | refine guard_f (by decide) ?_)
      refine cond_t (decide_eq_true (by rw [bs_len]; omega)) ?_
      refine And.intro (.inl rfl) (And.intro (by rw [bs_len]; omega) ?_)
      have e8 : ((bs l).drop (0 : Int).toNat).take ((8 : Int).toNat - (0 : Int).toNat) = bs (l.take 8) := by
        show (bs l).take 8 = _
        rw [bs_take]
      rw [e8]
      have l8 : (l.take 8).length = 8 := by rw [List.length_take]; omega
      refine VloopS.weakE (l := nnAt l (l.take 8) 0) rfl ⟨.both _ _ _ _, .refl _, .eq (int_eq rfl), .both _ _ _ _, .eq (int_eq ?_), .eq (int_eq rfl), trivial⟩ rfl (Nat.zero_le _) (VloopS.exW (nnLoop l (l.take 8) (by omega) _ _ ?_ (l.take 8).length 0 (by omega)))
      · rw [bs_len]
      · refine And.intro (.inl rfl) (And.intro (by rw [bs_len]; omega) ?_)
        refine And.intro (by kernel_rfl) ?_
        refine tup3 (agg3 rfl rfl rfl) (sl_eq ?_) rfl
        show ((bs l).drop 8).take ((bs l).length - 8) = _
        rw [bs_drop, bs_len, bs_take, List.take_of_length_le (by simp)]
    · by_cases h3 : k = 3
      · have wN := wordsN none false l hl
        cases hw : wordsD l with
        | none =>
          rw [hw] at wN
          rw [show nextD k l = (⟨2, 0, []⟩, [], false) by rw [nextD, if_neg h1, if_neg h2, if_pos h3, hw]]
          refine PCallN.weakArgs (args' := [.sl 1 none false (bs (k :: l))]) (.cons _ _ _ _ (.both _ _ _ _) .nil) (np_cons (np_bs _) np_nil) ?_
          refine next_nl (nl := none) (own := false) (next_start ?_)
          refine And.intro rfl (And.intro (by decide) (Exists.intro [.int .u8 (k.toNat : Int)] (And.intro rfl ?_)))
          refine And.intro (.inl rfl) (And.intro (by simp only [bs_len, List.length_cons]; omega) ?_)
          refine And.intro (by kernel_rfl) ?_
          rw [cut, h3]
          refine cond_f rfl ?_
          repeat (first | refine guard_t rfl ?_ | refine guard_f (by decide) ?_)
          refine cond_f rfl ?_
          refine cond_t rfl ?_
          refine call_p wN ?_
          repeat (first | refine guard_t rfl ?_ | refine guard_f (by decide) ?_)
          refine And.intro (by kernel_rfl) ?_
          exact tup3 (agg3 rfl rfl rfl) (sl_eq rfl) rfl
        | some x =>
          rw [hw] at wN
          rw [show nextD k l = (⟨2, 0, x.1⟩, x.2, (⟨2, 0, x.1⟩ : Va).right) by rw [nextD, if_neg h1, if_neg h2, if_pos h3, hw]]
          refine PCallN.weakArgs (args' := [.sl 1 none false (bs (k :: l))]) (.cons _ _ _ _ (.both _ _ _ _) .nil) (np_cons (np_bs _) np_nil) ?_
          refine next_nl (nl := none) (own := false) (next_start ?_)
          refine And.intro rfl (And.intro (by decide) (Exists.intro [.int .u8 (k.toNat : Int)] (And.intro rfl ?_)))
          refine And.intro (.inl rfl) (And.intro (by simp only [bs_len, List.length_cons]; omega) ?_)
          refine And.intro (by kernel_rfl) ?_
          rw [cut, h3]
          refine cond_f rfl ?_
          repeat (first | refine guard_t rfl ?_ | refine guard_f (by decide) ?_)
          refine cond_f rfl ?_
          refine cond_t rfl ?_
          refine call_p wN ?_
          repeat (first | refine guard_t rfl ?_ | refine guard_f (by decide) ?_)
          refine call_d (rightN ⟨2, 0, x.1⟩) ?_
          refine And.intro (by kernel_rfl) ?_
          exact tup3 (agg3 rfl rfl rfl) (sl_eq rfl) rfl
      · rw [show nextD k l = (⟨0, 0, []⟩, [], false) by rw [nextD, if_neg h1, if_neg h2, if_neg h3]]
        refine next_bad (next_start ?_)
        refine And.intro rfl (And.intro (by decide) (Exists.intro [.int .u8 (k.toNat : Int)] (And.intro rfl ?_)))
        refine And.intro (.inl rfl) (And.intro (by simp only [bs_len, List.length_cons]; omega) ?_)
        refine And.intro (by kernel_rfl) ?_
        rw [cut]
        refine cond_f (u8_ne (u8_val h1)) ?_
        by_cases hk2 : k = 2
        · have h8 : ¬ (8 ≤ l.length) := fun h => h2 ⟨hk2, h⟩
          rw [hk2]
          repeat (first | refine guard_t rfl ?_ | refine guard_f (by decide) ?_)
          refine cond_f (decide_eq_false (by rw [bs_len]; omega)) ?_
          refine cond_f rfl ?_
          exact tup3 (agg3 rfl rfl rfl) (sl_eq rfl) rfl
        · have hb : ((k.toNat : Int) == 2) = false := u8_ne (u8_val hk2)
          refine guard_f (by rw [hb]; decide) ?_
          rw [hb]
          repeat (first | refine guard_t rfl ?_ | refine guard_f (by decide) ?_ | refine cond_t rfl ?_ | refine cond_f rfl ?_)
          refine cond_f (u8_ne (u8_val h3)) ?_
          exact tup3 (agg3 rfl rfl rfl) (sl_eq rfl) rfl

end Go.Proofs.YtlhdbbkfibibfaaDoor.V

/- Keys read back: all of them. -/
namespace Go.Proofs.YtlhdbbkfibibfaaDoor.V
open Go.IntWalk Go.Lib

theorem wordsD_len : ∀ (n : Nat) (q : List UInt8), q.length ≤ n → ∀ x, wordsD q = some x → x.2.length ≤ q.length
  | _, [], _, x, h => by cases h
  | _, [_], _, x, h => by cases h
  | 0, b :: m :: l, hn, x, h => by simp at hn
  | n + 1, b :: m :: l, hn, x, h => by
    simp only [List.length_cons] at hn ⊢
    rw [wordsD] at h
    by_cases hb : b = 0
    · rw [if_pos hb] at h
      by_cases h5 : m = 255
      · rw [if_pos h5] at h
        obtain ⟨y, hy, rfl⟩ := Option.map_eq_some_iff.1 h
        have := wordsD_len n l (by omega) y hy
        show y.2.length ≤ _
        omega
      · rw [if_neg h5] at h
        by_cases h6 : m = 1
        · rw [if_pos h6] at h
          cases h
          show l.length ≤ _
          omega
        · rw [if_neg h6] at h; cases h
    · rw [if_neg hb] at h
      obtain ⟨y, hy, rfl⟩ := Option.map_eq_some_iff.1 h
      have := wordsD_len n (m :: l) (by simp; omega) y hy
      simp only [List.length_cons] at this
      show y.2.length ≤ _
      omega

theorem nextD_len (k : UInt8) (l : List UInt8) : (nextD k l).2.1.length ≤ l.length := by
  unfold nextD
  split
  · exact Nat.le_refl _
  · split
    · simp
    · split
      · cases h : wordsD l with
        | none => simp
        | some x => exact wordsD_len l.length l (Nat.le_refl _) x h
      · simp

def backD : Nat → List UInt8 → Option (List Va)
  | _, [] => some []
  | 0, _ :: _ => none
  | n + 1, k :: l => if (nextD k l).2.2 then (backD n (nextD k l).2.1).map ((nextD k l).1 :: ·) else none

def bkAt (q : List UInt8) (acc : List Va) : List (Nat × AV) := [(0, .sl 1 none false (bs q)), (4, .sl 3 none true (acc.map Va.c))]

theorem bkLoop (o : Option (List Va)) (R : VE → Sy → Prop) (hN : o = none → ∀ hb, R .ret ⟨[], [(2, .sl 3 none false (([] : List Va).map Va.c)), (3, .int .i64 2)], hb⟩)
    (hS : ∀ vs, o = some vs → R (.exit 0) ⟨[], [(4, .sl 3 none true (vs.map Va.c))], []⟩) :
    ∀ (n : Nat) (q : List UInt8) (acc : List Va), q.length ≤ n → acc.length + q.length ≤ 100000 → (backD n q).map (acc ++ ·) = o →
      VloopS Tryd.prog (tr [2, 4, 19, 22, 24]) 25 0 c16b0 (exW 25 R) ⟨[], bkAt q acc, []⟩
  | n, [], acc, hn, hl, ho => by
    refine VloopS.round ?_
    refine cond_f rfl ?_
    refine ex_w (hS acc ?_) rfl ⟨.refl _, trivial⟩ rfl
    rw [← ho]
    cases n <;> simp [backD]
  | 0, k :: l, acc, hn, hl, ho => by simp at hn
  | n + 1, k :: l, acc, hn, hl, ho => by
    simp only [List.length_cons] at hn hl
    have hd := nextD_len k l
    refine VloopS.round ?_
    refine cond_t (decide_eq_true (by rw [bs_len, List.length_cons]; omega)) ?_
    have nN := nextN none false k l (by omega)
    rw [backD] at ho
    generalize nextD k l = y at hd nN ho
    obtain ⟨v, r, ok⟩ := y
    cases ok with
    | false =>
      refine call_p nN ?_
      refine cond_t rfl ?_
      refine ex_w (hN ?_ _) rfl ⟨.nil _ _ _ _ _ (by simp), .refl _, trivial⟩ rfl
      rw [← ho]; rfl
    | true =>
      refine call_p nN ?_
      refine cond_f rfl ?_
      refine And.intro (.inl ⟨rfl, rfl⟩) (And.intro (.inl rfl) (And.intro ?_ ?_))
      · simp only [List.length_map, List.length_cons, List.length_nil]; omega
      refine VloopS.weakBox (l := bkAt r (acc ++ [v])) (h := []) (ex := [.cells v.c]) rfl ⟨.refl _, .eq (sl_eq ?_), trivial⟩ rfl (Nat.zero_le _) ?_ (by simp) (bkLoop o R hN hS n r (acc ++ [v]) (by simp only at hd; omega) (by simp only [List.length_append, List.length_cons, List.length_nil]; simp only at hd; omega) ?_)
      · rw [List.map_append]; rfl
      · intro p hp
        simp only [bkAt, List.mem_cons, List.not_mem_nil, or_false] at hp
        rcases hp with rfl | rfl
        · exact np_bs _
        · exact np_words _
      · rw [← ho, if_pos rfl, Option.map_map]
        congr 1
        funext x
        simp

def bkAV : Option (List Va) → AV
  | some vs => .tup [.sl 3 none false (vs.map Va.c), .int .i64 0]
  | none => .tup [.sl 3 none false (([] : List Va).map Va.c), .int .i64 2]

theorem bk_np {ok : Nat → Prop} (vs : List Va) (n : Int) : NP ok (.tup [.sl 3 none false (vs.map Va.c), .int .i64 n]) := .tup _ (np_cons (np_words _) (np_cons (.int _ _) np_nil))

theorem backN (nl : Option Bool) (own : Bool) (q : List UInt8) (hq : q.length ≤ 100000) : PCallN Tryd.prog 16 [.sl 1 nl own (bs q)] (bkAV (backD q.length q)) := by
  cases ho : backD q.length q with
  | none =>
    refine PCallN.of (tr [2, 4, 19, 22, 24]) f16 (Nat.le_of_ble_eq_true rfl) (np_cons (np_bs _) np_nil) (bk_np [] 2) ?_
    refine VloopS.weakE (l := bkAt q []) rfl ⟨.both _ _ _ _, .nil _ _ _ _ _ (by simp), trivial⟩ rfl (Nat.zero_le _) (VloopS.exW (bkLoop none _ ?_ ?_ q.length q [] (Nat.le_refl _) (by simpa using hq) (by rw [ho]; rfl)))
    · intro _ hb; exact rfl
    · intro vs h; cases h
  | some vs =>
    have hty : bkAV (some vs) = .tup [.sl 3 none false (vs.map Va.c), .int .i64 0] := rfl
    rw [hty]
    refine PCallN.weakRet (ret := .tup [.sl 3 none true (vs.map Va.c), .int .i64 0]) (.tup _ _ (.cons _ _ _ _ (.strip _) (.cons _ _ _ _ (.refl _) .nil))) ?_
    refine PCallN.of (tr [2, 4, 19, 22, 24]) f16 (Nat.le_of_ble_eq_true rfl) (np_cons (np_bs _) np_nil) (.tup _ (np_cons (np_words _) (np_cons (.int _ _) np_nil))) ?_
    refine VloopS.weakE (l := bkAt q []) rfl ⟨.both _ _ _ _, .nil _ _ _ _ _ (by simp), trivial⟩ rfl (Nat.zero_le _) (VloopS.exW (bkLoop (some vs) _ ?_ ?_ q.length q [] (Nat.le_refl _) (by simpa using hq) (by rw [ho]; rfl)))
    · intro h; cases h
    · intro vs' h
      cases h
      exact rfl

end Go.Proofs.YtlhdbbkfibibfaaDoor.V

/- Lists that are the same; the document's own key. -/
namespace Go.Proofs.YtlhdbbkfibibfaaDoor.V
open Go.IntWalk Go.Lib

def smAt (a : List Va) (i : Nat) : List (Nat × AV) := [(0, .sl 3 none false (a.map Va.c)), (1, .sl 3 none false (a.map Va.c)), (5, .int .i64 i)]

theorem smLoop (a : List Va) (hl : a.length ≤ 1000000) (R : VE → Sy → Prop) (hR : R (.exit 0) ⟨[], [], []⟩) :
    ∀ (g i : Nat), i + g = a.length → VloopS Tryd.prog (tr []) 26 0 c18b0 (exW 26 R) ⟨[], smAt a i, []⟩
  | 0, i, hg => by
    refine VloopS.round ?_
    refine cond_f (decide_eq_false (by rw [List.length_map]; omega)) ?_
    exact ex_w hR rfl trivial rfl
  | g + 1, i, hg => by
    have hlt : i < a.length := by omega
    refine VloopS.round ?_
    refine cond_t (decide_eq_true (by rw [List.length_map]; omega)) ?_
    refine And.intro rfl (And.intro (Int.natCast_nonneg i) (Exists.intro a[i].c (And.intro (words_get hlt) ?_)))
    refine And.intro rfl (And.intro (Int.natCast_nonneg i) (Exists.intro a[i].c (And.intro (words_get hlt) ?_)))
    refine And.intro (by kernel_rfl) ?_
    refine cond_f (by simp) ?_
    refine VloopS.weakE (l := smAt a (i + 1)) rfl ⟨.refl _, .refl _, .eq (int_eq ?_), trivial⟩ rfl (Nat.zero_le _) (smLoop a hl R hR g (i + 1) (by omega))
    rw [i64_in _ (by omega)]; omega

theorem sameT (nl nl' : Option Bool) (own own' : Bool) (a : List Va) (hl : a.length ≤ 1000000) : PCallN Tryd.prog 18 [.sl 3 nl own (a.map Va.c), .sl 3 nl' own' (a.map Va.c)] (.bool true) := by
  refine PCallN.of (tr []) f18 (Nat.le_of_ble_eq_true rfl) (np_ww _ _) (.bool _) ?_
  refine cond_f (bne_self_eq_false _) ?_
  refine VloopS.weakE (l := smAt a 0) rfl ⟨.both _ _ _ _, .both _ _ _ _, .eq (int_eq rfl), trivial⟩ rfl (Nat.zero_le _) (VloopS.exW (smLoop a hl _ ?_ a.length 0 (by omega)))
  exact rfl

def kiAt (l : List Va) (i : Nat) (acc : List UInt8) (k : Nat) : List (Nat × AV) := [(0, .sl 3 none false (l.map Va.c)), (3, .sl 1 none true (bs acc)), (4, .int .i64 i), (5, .ptr (some (0, 0))), (6, .int .i64 k)]

theorem esc_app (c p q : UInt8) : ∀ a b : List UInt8, esc c p q (a ++ b) = esc c p q a ++ esc c p q b
  | [], _ => rfl
  | x :: a, b => by
    show esc c p q (x :: (a ++ b)) = _
    by_cases h : x = c
    · subst h
      rw [esc_cons_t, esc_cons_t, esc_app]; rfl
    · rw [esc_cons_f _ _ _ _ _ h, esc_cons_f _ _ _ _ _ h, esc_app]; rfl

abbrev krT : Nat → Bool := tr [2, 3, 19, 21, 29, 35, 41, 43, 44, 46, 49, 51, 54, 56, 57, 63, 64]

theorem kiLoop (l : List Va) (i : Nat) (v : Va) (acc : List UInt8) (hs : v.s.length ≤ 1000) (ha : acc.length ≤ 100000) (R : VE → Sy → Prop)
    (hR : R (.exit 3) ⟨[], [(0, .sl 3 none false (l.map Va.c)), (3, .sl 1 none true (bs (acc ++ esc 0 0 255 v.s))), (4, .int .i64 i), (5, .ptr (some (0, 0)))], [.cells v.c]⟩) :
    ∀ (g k : Nat), k + g = v.s.length → VloopS Tryd.prog (tr [2, 3, 19, 21, 29, 35, 41, 43, 44, 46, 49, 51, 54, 56, 57, 63, 64]) 65 0 c17b0 (exW 65 R) ⟨[], kiAt l i (acc ++ esc 0 0 255 (v.s.take k)) k, [.cells v.c]⟩
  | 0, k, hg => by
    refine VloopS.round ?_
    refine cond_f (decide_eq_false (by rw [st_size]; omega)) ?_
    refine ex_w hR rfl ⟨.refl _, .eq (sl_eq ?_), .refl _, .refl _, trivial⟩ rfl
    rw [List.take_of_length_le (by omega)]
  | g + 1, k, hg => by
    have hlt : k < v.s.length := by omega
    have hc := List.count_le_length (a := (0 : UInt8)) (l := v.s.take k)
    have he := esc_len 0 0 255 (v.s.take k)
    rw [List.length_take] at hc he
    have hget : (st v.s).data[((k : Nat) : Int).toNat]? = some v.s[k] := by simp [st, hlt]
    refine VloopS.round ?_
    refine cond_t (decide_eq_true (by rw [st_size]; omega)) ?_
    refine And.intro (Int.natCast_nonneg k) (Exists.intro v.s[k] (And.intro hget ?_))
    refine And.intro (.inl ⟨rfl, rfl⟩) (And.intro (.inl rfl) (And.intro ?_ ?_))
    · simp only [List.length_cons, List.length_nil, bs_len, List.length_append]; omega
    refine And.intro (Int.natCast_nonneg k) (Exists.intro v.s[k] (And.intro hget ?_))
    by_cases h0 : v.s[k] = 0
    · refine cond_t (by rw [h0]; rfl) ?_
      refine And.intro (.inl ⟨rfl, rfl⟩) (And.intro (.inl rfl) (And.intro ?_ ?_))
      · simp only [List.length_cons, List.length_nil, bs_len, List.length_append]; omega
      refine VloopS.weakE (l := kiAt l i (acc ++ esc 0 0 255 (v.s.take (k + 1))) (k + 1)) rfl ⟨.refl _, .eq (sl_eq ?_), .refl _, .refl _, .eq (int_eq ?_), trivial⟩ rfl (Nat.zero_le _) (kiLoop l i v acc hs ha R hR g (k + 1) (by omega))
      · rw [take_snoc v.s k hlt, esc_app, h0, ← List.append_assoc, ← bs_app (acc ++ _)]
        show (bs _ ++ [[AV.int .u8 ((0 : UInt8).toNat : Int)]]) ++ [[AV.int .u8 255]] = _
        rw [List.append_assoc]
        rfl
      · rw [i64_in _ (by omega)]; omega
    · refine cond_f (u8_ne (u8_val h0)) ?_
      refine VloopS.weakE (l := kiAt l i (acc ++ esc 0 0 255 (v.s.take (k + 1))) (k + 1)) rfl ⟨.refl _, .eq (sl_eq ?_), .refl _, .refl _, .eq (int_eq ?_), trivial⟩ rfl (Nat.zero_le _) (kiLoop l i v acc hs ha R hR g (k + 1) (by omega))
      · rw [take_snoc v.s k hlt, esc_app, esc_cons_f _ _ _ _ _ h0, ← List.append_assoc, ← bs_app (acc ++ _)]
        rfl
      · rw [i64_in _ (by omega)]; omega

end Go.Proofs.YtlhdbbkfibibfaaDoor.V

/- The document's own key is the key. -/
namespace Go.Proofs.YtlhdbbkfibibfaaDoor.V
open Go.IntWalk Go.Lib

theorem turn_be (n : Int) (h : -9223372036854775808 ≤ n ∧ n ≤ 9223372036854775807) : be (IntKind.u64.wrap (IntKind.u64.wrap n + 9223372036854775808)) 8 = be (turn n) 8 := by
  congr 1
  rw [turn_val n h.1 h.2, w_u64, w_u64]
  omega

def krAt (l : List Va) (i : Nat) (acc : List UInt8) : List (Nat × AV) := [(0, .sl 3 none false (l.map Va.c)), (3, .sl 1 none true (bs acc)), (4, .int .i64 i)]

theorem kr_np (l : List Va) (i : Nat) (acc : List UInt8) : ∀ p, p ∈ krAt l i acc → NP (fun i => i < ([] : List HObj).length) p.2 := by
  intro p hp
  simp only [krAt, List.mem_cons, List.not_mem_nil, or_false] at hp
  rcases hp with rfl | rfl | rfl
  · exact np_words _
  · exact np_bs _
  · exact .int _ _

theorem krLoop (l : List Va) (hl : l.length ≤ 40) (hs : ∀ v, v ∈ l → v.s.length ≤ 200) (hr : ∀ v, v ∈ l → v.right = true ∧ v.ok) (R : VE → Sy → Prop) (hR : R (.exit 0) ⟨[], [(3, .sl 1 none true (bs (keys l)))], []⟩) :
    ∀ (g i : Nat), i + g = l.length → VloopS Tryd.prog (tr [2, 3, 19, 21, 29, 35, 41, 43, 44, 46, 49, 51, 54, 56, 57, 63, 64]) 65 0 c17b1 (exW 65 R) ⟨[], krAt l i (keys (l.take i)), []⟩
  | 0, i, hg => by
    refine VloopS.round ?_
    refine cond_f (decide_eq_false (by rw [List.length_map]; omega)) ?_
    refine ex_w hR rfl ⟨.eq (sl_eq ?_), trivial⟩ rfl
    rw [List.take_of_length_le (by omega)]
  | g + 1, i, hg => by
    have hlt : i < l.length := by omega
    have hk := keys_len (l.take i) (fun v hv => hs v (List.mem_of_mem_take hv))
    rw [List.length_take] at hk
    have hv := hr _ (List.getElem_mem hlt)
    have hsv := hs _ (List.getElem_mem hlt)
    have hnext : keys (l.take (i + 1)) = keys (l.take i) ++ l[i].key := by
      rw [take_snoc l i hlt, keys_app]; simp [keys]
    have ih := krLoop l hl hs hr R hR g (i + 1) (by omega)
    rw [hnext] at ih
    have hget := words_get hlt
    generalize keys (l.take i) = acc at hk hnext ih ⊢
    generalize l[i] = v at hv hsv hnext ih hget
    refine VloopS.round ?_
    refine cond_t (decide_eq_true (by rw [List.length_map]; omega)) ?_
    refine And.intro rfl (And.intro (Int.natCast_nonneg i) (Exists.intro v.c (And.intro hget ?_)))
    have hi1 : IntKind.i64.wrap (((i : Nat) : Int) + 1) = ((i + 1 : Nat) : Int) := by rw [i64_in _ (by omega)]; omega
    rcases right_kinds hv.1 with ⟨k0, _, _⟩ | ⟨k0, _⟩ | ⟨k0, _⟩
    · refine cond_t (by rw [k0]; rfl) ?_
      refine And.intro (.inl ⟨rfl, rfl⟩) (And.intro (.inl rfl) (And.intro ?_ ?_))
      · simp only [List.length_cons, List.length_nil, bs_len]; omega
      refine VloopS.weakBox (l := krAt l (i + 1) (acc ++ v.key)) (h := []) (ex := [.cells v.c]) rfl ⟨.refl _, .eq (sl_eq ?_), .eq (int_eq hi1), trivial⟩ rfl (Nat.zero_le _) (kr_np _ _ _) (by simp) ih
      rw [show v.key = [1] by rw [Va.key, k0]; rfl, ← bs_app]
      rfl
    · refine cond_f (by rw [k0]; rfl) ?_
      refine cond_t (by rw [k0]; rfl) ?_
      refine And.intro (.inl ⟨rfl, rfl⟩) (And.intro (.inl rfl) (And.intro ?_ ?_))
      · simp only [List.length_cons, List.length_nil, bs_len]; omega
      refine call_p (numSN _ 8 (by decide)) ?_
      refine And.intro (.inl ⟨rfl, rfl⟩) (And.intro (.inl rfl) (And.intro ?_ ?_))
      · simp only [List.length_append, List.length_cons, List.length_nil, bs_len, be_len]; omega
      refine VloopS.weakBox (l := krAt l (i + 1) (acc ++ v.key)) (h := []) (ex := [.cells v.c]) rfl ⟨.refl _, .eq (sl_eq ?_), .eq (int_eq hi1), trivial⟩ rfl (Nat.zero_le _) (kr_np _ _ _) (by simp) ih
      rw [show v.key = [2] ++ be (turn v.n) 8 by rw [Va.key, if_pos k0]; rfl, ← turn_be v.n hv.2, ← bs_app, ← bs_app, ← List.append_assoc]
      rfl
    · refine cond_f (by rw [k0]; rfl) ?_
      refine cond_f (by rw [k0]; rfl) ?_
      refine And.intro (.inl ⟨rfl, rfl⟩) (And.intro (.inl rfl) (And.intro ?_ ?_))
      · simp only [List.length_cons, List.length_nil, bs_len]; omega
      have hc := List.count_le_length (a := (0 : UInt8)) (l := v.s)
      have he := esc_len 0 0 255 v.s
      refine VloopS.weakE (l := kiAt l i ((acc ++ [3]) ++ esc 0 0 255 (v.s.take 0)) 0) (h := [.cells v.c]) rfl ⟨.refl _, .eq (sl_eq ?_), .refl _, .refl _, .eq (int_eq rfl), trivial⟩ rfl (Nat.zero_le _)
        (VloopS.exW (kiLoop l i v (acc ++ [3]) (by omega) (by simp only [List.length_append, List.length_cons, List.length_nil]; omega) _ ?_ v.s.length 0 (by omega)))
      · show _ = bs ((acc ++ [3]) ++ [])
        rw [List.append_nil, ← bs_app]; rfl
      · refine And.intro (.inl ⟨rfl, rfl⟩) (And.intro (.inl rfl) (And.intro ?_ ?_))
        · simp only [List.length_append, List.length_cons, List.length_nil, bs_len]; omega
        refine VloopS.weakBox (l := krAt l (i + 1) (acc ++ v.key)) (h := []) (ex := [.cells v.c]) rfl ⟨.refl _, .eq (sl_eq ?_), .eq (int_eq hi1), trivial⟩ rfl (Nat.zero_le _) (kr_np _ _ _) (by simp) ih
        have hk3 : v.key = 3 :: (esc 0 0 255 v.s ++ [0, 1]) := by rw [Va.key, if_neg (by rw [k0]; decide), if_pos k0]
        have : acc ++ v.key = (acc ++ [3] ++ esc 0 0 255 v.s) ++ [0, 1] := by rw [hk3]; simp
        rw [this, ← bs_app (acc ++ [3] ++ esc 0 0 255 v.s)]
        rfl

theorem keyRefN (nl : Option Bool) (own : Bool) (l : List Va) (hl : l.length ≤ 40) (hs : ∀ v, v ∈ l → v.s.length ≤ 200) (hr : ∀ v, v ∈ l → v.right = true ∧ v.ok) : PCallN Tryd.prog 17 [.sl 3 nl own (l.map Va.c)] (.sl 1 none true (bs (keys l))) := by
  refine PCallN.of (tr [2, 3, 19, 21, 29, 35, 41, 43, 44, 46, 49, 51, 54, 56, 57, 63, 64]) f17 (Nat.le_of_ble_eq_true rfl) (np_cons (np_words _) np_nil) (np_bs _) ?_
  refine VloopS.weakE (l := krAt l 0 (keys (l.take 0))) rfl ⟨.both _ _ _ _, .nil _ _ _ _ _ (by simp), .eq (int_eq rfl), trivial⟩ rfl (Nat.zero_le _) (VloopS.exW (krLoop l hl hs hr _ ?_ l.length 0 (by omega)))
  exact sl_eq rfl

end Go.Proofs.YtlhdbbkfibibfaaDoor.V

/- The law OrderBack: a key read back gives its values. -/
namespace Go.Proofs.YtlhdbbkfibibfaaDoor.V
open Go.IntWalk Go.Lib

theorem wordsD_esc (r : List UInt8) : ∀ s : List UInt8, wordsD (esc 0 0 255 s ++ (0 :: 1 :: r)) = some (s, r)
  | [] => by
    show wordsD (0 :: 1 :: r) = _
    rw [wordsD, if_pos rfl, if_neg (by decide), if_pos rfl]
  | b :: s => by
    have ih := wordsD_esc r s
    by_cases h : b = 0
    · subst h
      rw [esc_cons_t]
      show wordsD (0 :: 255 :: (esc 0 0 255 s ++ (0 :: 1 :: r))) = _
      rw [wordsD, if_pos rfl, if_pos rfl, ih]
      rfl
    · rw [esc_cons_f _ _ _ _ _ h]
      show wordsD (b :: (esc 0 0 255 s ++ (0 :: 1 :: r))) = _
      cases hq : esc 0 0 255 s ++ (0 :: 1 :: r) with
      | nil => simp at hq
      | cons m t =>
        rw [hq] at ih
        rw [wordsD, if_neg h, ih]
        rfl

theorem unturn_val (n : Int) (h : -9223372036854775808 ≤ n ∧ n ≤ 9223372036854775807) : unturn (n + 9223372036854775808) = n := by
  unfold unturn
  rw [w_u64, BitVec.toNat_xor, BitVec.toNat_ofInt, BitVec.toNat_ofInt]
  have e2 : ((9223372036854775808 : Int) % ((2 ^ 64 : Nat) : Int)).toNat = 2 ^ 63 := by decide
  rw [e2]
  have p64 : ((2 ^ 64 : Nat) : Int) = 18446744073709551616 := by decide
  rw [p64]
  have p63 : (2 : Nat) ^ 63 = 9223372036854775808 := by decide
  by_cases hn : 0 ≤ n
  · have e : ((n + 9223372036854775808) % 18446744073709551616).toNat = 2 ^ 63 + n.toNat := by omega
    rw [e, ← xor_top _ (by omega), Nat.xor_comm, ← Nat.xor_assoc, Nat.xor_self, Nat.zero_xor, i64_in _ (by omega)]
    omega
  · have e : ((n + 9223372036854775808) % 18446744073709551616).toNat = (n + 9223372036854775808).toNat := by omega
    rw [e, Nat.xor_comm, xor_top _ (by omega)]
    have e3 : ((2 ^ 63 + (n + 9223372036854775808).toNat : Nat) : Int) % 18446744073709551616 = n % 18446744073709551616 := by omega
    rw [e3]
    exact w_i64 n h.1 h.2

theorem nextD_key (v : Va) (hr : v.right = true) (ho : v.ok) (r : List UInt8) : ∃ k l, v.key ++ r = k :: l ∧ nextD k l = (v, r, true) := by
  obtain ⟨k, n, s⟩ := v
  rcases right_kinds hr with ⟨h1, h2, h3⟩ | ⟨h1, h2⟩ | ⟨h1, h2⟩ <;> simp only at h1 h2 <;> subst h1 h2
  · simp only at h3
    subst h3
    exact ⟨1, r, rfl, rfl⟩
  · refine ⟨2, be (turn n) 8 ++ r, rfl, ?_⟩
    have hl : (be (turn n) 8).length = 8 := be_len _ _
    rw [nextD, if_neg (by decide), if_pos ⟨rfl, by rw [List.length_append]; omega⟩, List.take_left' hl, List.drop_left' hl]
    have e : ((num (be (turn n) 8)).toNat : Int) = n + 9223372036854775808 := by
      rw [num_be8, turn_val n ho.1 ho.2]
      have h1 : -9223372036854775808 ≤ n := ho.1
      have h2 : n ≤ 9223372036854775807 := ho.2
      omega
    rw [e, unturn_val n ho]
  · refine ⟨3, esc 0 0 255 s ++ (0 :: 1 :: r), ?_, ?_⟩
    · show (3 :: (esc 0 0 255 s ++ [0, 1])) ++ r = _
      simp
    · rw [nextD, if_neg (by decide), if_neg (fun h => by cases h.1), if_pos rfl, wordsD_esc]
      show (_, _, _) = _
      rw [hr]

theorem backD_keys : ∀ (vs : List Va), (∀ v, v ∈ vs → v.right = true ∧ v.ok) → ∀ n, (keys vs).length ≤ n → backD n (keys vs) = some vs
  | [], _, n, _ => by cases n <;> rfl
  | v :: vs, h, n, hn => by
    obtain ⟨hr, ho⟩ := h v (by simp)
    obtain ⟨k, l, e1, e2⟩ := nextD_key v hr ho (keys vs)
    have e : keys (v :: vs) = k :: l := e1
    have hl := nextD_len k l
    rw [e2] at hl
    rw [e] at hn ⊢
    match n, hn with
    | 0, hn => simp at hn
    | n + 1, hn =>
      simp only [List.length_cons] at hn
      rw [backD, e2]
      show (if true = true then _ else _) = _
      rw [if_pos rfl, backD_keys vs (fun w hw => h w (by simp [hw])) n (by simp only at hl; omega)]
      rfl

theorem orderBackN (nl : Option Bool) (own : Bool) (a : List Va) (oa : ∀ w, w ∈ a → w.ok) : PCallN Tryd.prog 6 [.sl 3 nl own (a.map Va.c)] (.bool true) := by
  refine PCallN.of (tr []) f6 (Nat.le_of_ble_eq_true rfl) (np_cons (np_words _) np_nil) (.bool _) ?_
  refine call_p noughtN ?_
  repeat (first | refine guard_t rfl ?_ | refine guard_f (by decide) ?_)
  by_cases ha : a.length ≤ 12
  · refine call_p (smallT _ _ a ha) ?_
    repeat (first | refine guard_t rfl ?_ | refine guard_f (by decide) ?_)
    refine cond_f rfl ?_
    refine call_p (valuesN _ _ a (by omega)) ?_
    have la : (a.map Va.of).length ≤ 12 := by rw [List.length_map]; exact ha
    have sa := of_small a
    have ra := vals_ok a oa
    generalize a.map Va.of = x at la sa ra ⊢
    have hk := keys_len x sa
    refine call_p (keyN _ _ x (by omega) sa) ?_
    have bN := backN none false (keys x) (by omega)
    rw [backD_keys x ra _ (Nat.le_refl _)] at bN
    refine call_p bN ?_
    refine call_p (keyRefN _ _ x (by omega) sa ra) ?_
    refine call_p (bytesN _ _ _ _ (keys x) (keys x) (by omega)) ?_
    refine guard_t (decide_eq_true rfl) ?_
    rw [decide_eq_true (rfl : keys x = keys x)]
    repeat (first | refine guard_t rfl ?_ | refine guard_f (by decide) ?_)
    refine call_p (sameT _ _ _ _ x (by omega)) ?_
    repeat (first | refine guard_t rfl ?_ | refine guard_f (by decide) ?_)
    exact bool_eq rfl
  · refine call_p (smallF _ _ a ha) ?_
    repeat (first | refine guard_t rfl ?_ | refine guard_f (by decide) ?_)
    refine cond_t rfl ?_
    refine call_p noughtN ?_
    exact bool_eq rfl

end Go.Proofs.YtlhdbbkfibibfaaDoor.V
