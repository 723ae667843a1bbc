/-
  Keys of lists joined: the law OrderJoins.
-/
import Derived.Test.YtlhdbbkfibibfaaDoorGa
import Derived.Test.YtlhdbbkfibibfaaDoorFc
import Derived.Lib.BytesEntry

/- The packages' own functions on bytes: where a byte stands, how often it stands there; a byte replaced. -/
namespace Go.Proofs.YtlhdbbkfibibfaaDoor.V
open Go.IntWalk

theorem bs_vals {w : World} {fr pi : Nat → Nat} : ∀ {l : List UInt8} {vs : List Value} {O : List Nat}, Reps w fr pi (bs l).flatten vs O → vs = l.map fun b => .int .u8 b.toNat
  | [], _, _, h => by cases h; rfl
  | b :: l, vs, O, h => by
    have h' : Reps w fr pi (.int .u8 b.toNat :: (bs l).flatten) vs O := h
    obtain ⟨v, vs', O1, O2, rfl, rfl, h1, h2⟩ := h'.cons_inv
    rw [h1.int_inv, bs_vals h2]
    rfl

theorem bytesOf_ints (l : List UInt8) : Lib.bytesOf (l.map fun b => (b.toNat : Int)) = l := by
  induction l with
  | nil => rfl
  | cons b l ih =>
    simp only [Lib.bytesOf, List.map_cons, List.map_map] at ih ⊢
    rw [ih]
    simp

/-- What the model's entries read off a slice of bytes. -/
theorem bytesOf_sl {P : Program} {w : World} {fr pi : Nat → Nat} {v : Value} {O : List Nat} {sz : Nat} {nl : Option Bool} {own : Bool} {l : List UInt8} (h : Rep w fr pi (.sl sz nl own (bs l)) v O) : (Extern.Bytes.bytesOf v).run P w = .ok (st l) w := by
  have nil : bs l = [] → l = [] := fun e => by simpa [bs] using e
  rcases h.sl_inv with ⟨rfl, hl, _⟩ | ⟨ad, cap, rfl, hl, _⟩ | ⟨b, o, cap, vs, rfl, _, _, hr, hc, _⟩
  · rw [nil hl]
    rfl
  · rw [nil hl]
    simp [Extern.Bytes.bytesOf, Extern.Bytes.loadBytes, st]
    rfl
  · have hv := bs_vals hr
    subst hv
    have hl := Lib.run_loadBytesX (P := P) w (l.map fun b => (b.toNat : Int)) ⟨b, o, none⟩ .empty (fun j x hj => by
      have := (hc j (.int .u8 x) (by
        simp only [List.getElem?_map, Option.map_eq_some_iff] at hj ⊢
        obtain ⟨c, h1, h2⟩ := hj
        exact ⟨c, h1, by rw [h2]⟩)).1
      rw [addr_add]
      exact this)
    rw [bytesOf_ints, List.length_map] at hl
    show (Extern.Bytes.loadBytes ⟨b, o, none⟩ (bs l).length .empty).run P w = _
    rw [bs_len, hl]
    congr 1
    apply ByteArray.ext
    simp [st]

theorem run_find {P : Program} (l : List UInt8) (c : UInt8) (w : World) : (Extern.BytealgIndexByte.indexByte #[.string (st l), .int .u8 c.toNat]).run P w = .ok (.int .i64 (Lib.indexByte l c)) w := by
  have := Lib.run_indexByteString (P := P) (st l) (c.toNat : Int) w
  rw [this]
  simp [st]

theorem ixbN (nl : Option Bool) (own : Bool) (sz : Nat) (l : List UInt8) (c : UInt8) : PCallN Tryd.prog 34 [.sl sz nl own (bs l), .int .u8 c.toNat] (.int .i64 (Lib.indexByte l c)) := by
  refine PCallN.ofExt Tryd.func34 (by kernel_rfl) (by kernel_rfl) (by kernel_rfl) (e := Extern.BytealgIndexByte.indexByte) (by kernel_rfl) (np_cons (np_bs _) (np_cons (.int _ _) np_nil)) (.int _ _) ?_
  intro w fr pi own vals hl hr
  obtain ⟨u, v, rfl, h1, h2⟩ := vals_two hl hr
  refine ⟨_, ?_, .int .i64 _⟩
  rw [h2.int_inv]
  have hs := run_find (P := Tryd.prog) l c w
  change Sem.run Tryd.prog (do
    let b ← Extern.Bytes.bytesOf u
    let c ← Extern.Bytes.asByte (.int .u8 c.toNat)
    match (List.range b.size).find? fun i => b[i]! == c with
    | some i => pure (goInt i)
    | none => pure (goInt (-1))) w = _
  change Sem.run Tryd.prog (do
    let b ← Extern.Bytes.bytesOf (.string (st l))
    let c ← Extern.Bytes.asByte (.int .u8 c.toNat)
    match (List.range b.size).find? fun i => b[i]! == c with
    | some i => pure (goInt i)
    | none => pure (goInt (-1))) w = _ at hs
  rw [Sem.run_bind, bytesOf_sl h1]
  rw [Sem.run_bind] at hs
  exact hs

theorem cntbN (nl : Option Bool) (own : Bool) (sz : Nat) (l : List UInt8) (c : UInt8) : PCallN Tryd.prog 36 [.sl sz nl own (bs l), .int .u8 c.toNat] (.int .i64 (l.count c : Nat)) := by
  refine PCallN.ofExt Tryd.func36 (by kernel_rfl) (by kernel_rfl) (by kernel_rfl) (e := Extern.BytealgCount.count) (by kernel_rfl) (np_cons (np_bs _) (np_cons (.int _ _) np_nil)) (.int _ _) ?_
  intro w fr pi own vals hl hr
  obtain ⟨u, v, rfl, h1, h2⟩ := vals_two hl hr
  refine ⟨_, ?_, .int .i64 _⟩
  rw [h2.int_inv]
  have hs := Lib.run_countString (P := Tryd.prog) (st l) (c.toNat : Int) w
  have e1 : (st l).data.toList = l := by simp [st]
  have e2 : (c.toNat : Int).toNat.toUInt8 = c := by simp
  rw [e1, e2] at hs
  change Sem.run Tryd.prog (do
    let b ← Extern.Bytes.bytesOf u
    let c' ← Extern.Bytes.asByte (.int .u8 c.toNat)
    pure (goInt (b.foldl (fun n x => if x == c' then n + 1 else n) (0 : Nat)))) w = _
  change Sem.run Tryd.prog (do
    let b ← Extern.Bytes.bytesOf (.string (st l))
    let c' ← Extern.Bytes.asByte (.int .u8 c.toNat)
    pure (goInt (b.foldl (fun n x => if x == c' then n + 1 else n) (0 : Nat)))) w = _ at hs
  rw [Sem.run_bind, bytesOf_sl h1]
  rw [Sem.run_bind] at hs
  exact hs

theorem indexByteN (nl : Option Bool) (own : Bool) (l : List UInt8) (c : UInt8) : PCallN Tryd.prog 30 [.sl 1 nl own (bs l), .int .u8 c.toNat] (.int .i64 (Lib.indexByte l c)) := by
  refine PCallN.of (tr []) f30 (Nat.le_of_ble_eq_true rfl) (np_cons (np_bs _) (np_cons (.int _ _) np_nil)) (.int _ _) ?_
  refine call_p (ixbN _ _ _ l c) ?_
  rfl

theorem countN (nl nl' : Option Bool) (own own' : Bool) (l : List UInt8) (c : UInt8) : PCallN Tryd.prog 31 [.sl 1 nl own (bs l), .sl 1 nl' own' (bs [c])] (.int .i64 (l.count c : Nat)) := by
  refine PCallN.of (tr []) f31 (Nat.le_of_ble_eq_true rfl) (np_cons (np_bs _) (np_cons (np_bs _) np_nil)) (.int _ _) ?_
  refine cond_f (by rfl) ?_
  refine cond_t (by rfl) ?_
  refine And.intro rfl (And.intro (by omega) (Exists.intro _ (And.intro rfl ?_)))
  refine call_p (cntbN _ _ _ l c) ?_
  rfl

theorem indexN (nl nl' : Option Bool) (own own' : Bool) (l : List UInt8) (c : UInt8) : PCallN Tryd.prog 32 [.sl 1 nl own (bs l), .sl 1 nl' own' (bs [c])] (.int .i64 (Lib.indexByte l c)) := by
  refine PCallN.of (tr []) f32 (Nat.le_of_ble_eq_true rfl) (np_cons (np_bs _) (np_cons (np_bs _) np_nil)) (.int _ _) ?_
  refine cond_f (by rfl) ?_
  refine cond_t (by rfl) ?_
  refine And.intro rfl (And.intro (by omega) (Exists.intro _ (And.intro rfl ?_)))
  refine call_p (indexByteN _ _ l c) ?_
  rfl

end Go.Proofs.YtlhdbbkfibibfaaDoor.V

/- A byte replaced by two: what bytes.Replace comes to. -/
namespace Go.Proofs.YtlhdbbkfibibfaaDoor.V
open Go.IntWalk

def esc (c p q : UInt8) : List UInt8 → List UInt8
  | [] => []
  | b :: l => if b = c then p :: q :: esc c p q l else b :: esc c p q l

theorem esc_len (c p q : UInt8) : ∀ l : List UInt8, (esc c p q l).length = l.length + l.count c
  | [] => rfl
  | b :: l => by
    unfold esc
    have ih := esc_len c p q l
    by_cases h : b = c
    · subst h
      rw [if_pos rfl, List.count_cons_self]
      simp only [List.length_cons, ih]; omega
    · rw [if_neg h, List.count_cons_of_ne h]
      simp only [List.length_cons, ih]; omega

theorem esc_none (c p q : UInt8) : ∀ l : List UInt8, l.count c = 0 → esc c p q l = l
  | [], _ => rfl
  | b :: l, h => by
    have hb : b ≠ c := fun e => by subst e; rw [List.count_cons_self] at h; omega
    rw [List.count_cons_of_ne hb] at h
    rw [esc, if_neg hb, esc_none c p q l h]

/-- Where it stands first. -/
theorem ix_split (c : UInt8) (p q : UInt8) : ∀ l : List UInt8, 1 ≤ l.count c → ∃ k : Nat, Lib.indexByte l c = k ∧ k < l.length ∧ (l.drop (k + 1)).count c + 1 = l.count c ∧ esc c p q l = l.take k ++ [p, q] ++ esc c p q (l.drop (k + 1))
  | [], h => by simp at h
  | b :: l, h => by
    by_cases hb : b = c
    · subst hb
      refine ⟨0, by simp [Lib.indexByte], by simp, by simp, ?_⟩
      rw [esc, if_pos rfl]
      simp
    · rw [List.count_cons_of_ne hb] at h
      obtain ⟨k, h1, h2, h3, h4⟩ := ix_split c p q l h
      refine ⟨k + 1, ?_, by simp; omega, ?_, ?_⟩
      · unfold Lib.indexByte
        rw [if_neg (by simpa using hb), h1, if_neg (by simp)]
        simp
      · rw [List.count_cons_of_ne hb, ← h3]
        simp
      · rw [esc, if_neg hb, h4]
        simp

def rpAt (s : List UInt8) (c p q : UInt8) (T W S m i : Nat) : List (Nat × AV) :=
  [(0, .sl 1 none false (bs s)), (1, .sl 1 none false (bs [c])), (2, .sl 1 none false (bs [p, q])), (10, .bsl 1 0 0 T), (11, .int .i64 W), (12, .int .i64 S), (48, .int .i64 m), (49, .int .i64 i)]

theorem bs_cpy (O z u : List UInt8) (a n k : Nat) (ha : a = O.length) (hk : k = u.length) (hn : k ≤ n) : (bs (O ++ z)).take a ++ ((bs u).take n ++ (bs (O ++ z)).drop (a + k)) = bs ((O ++ u) ++ z.drop k) := by
  subst ha hk
  rw [bs_take, bs_take, bs_drop, bs_app, bs_app, List.take_left, List.take_of_length_le hn, ← List.drop_drop, List.drop_left, List.append_assoc]

theorem bsl_eq {sz id off off' n n' : Nat} (h : off = off') (h' : n = n') : AV.bsl sz id off n = AV.bsl sz id off' n' := by rw [h, h']

theorem rpLoop (s : List UInt8) (c p q : UInt8) (R : VE → Sy → Prop) (m T : Nat) (hm : m ≤ 1000000) (hT : T ≤ 2000000) (hs : s.length ≤ 1000000) (hTe : T = s.length + s.count c)
    (hQ : ∀ O rest : List UInt8, O ++ rest = esc c p q s → ∀ z : List UInt8, O.length + z.length = T → ∀ S : Nat, S ≤ s.length → s.drop S = rest → R (.exit 0) ⟨[], [(0, .sl 1 none false (bs s)), (10, .bsl 1 0 0 T), (11, .int .i64 O.length), (12, .int .i64 S)], [.arr 1 (bs (O ++ z))]⟩) :
    ∀ (r i S : Nat) (O z : List UInt8), i + r = m → (s.drop S).count c = r → O ++ esc c p q (s.drop S) = esc c p q s → O.length + z.length = T → S ≤ s.length →
      VloopS Tryd.prog (tr [44, 131]) 132 0 c29b1 (exW 132 R) ⟨[], rpAt s c p q T O.length S m i, [.arr 1 (bs (O ++ z))]⟩
  | 0, i, S, O, z, hi, hr, hO, hz, hS => by
    refine VloopS.round ?_
    refine cond_f (decide_eq_false (by omega)) ?_
    refine ex_w (hQ O (s.drop S) (by rw [← hO, esc_none _ _ _ _ hr]) z hz S hS rfl) rfl ⟨.refl _, .refl _, .refl _, .refl _, trivial⟩ rfl
  | r + 1, i, S, O, z, hi, hr, hO, hz, hS => by
    obtain ⟨k, h1, h2, h3, h4⟩ := ix_split c p q (s.drop S) (by omega)
    have hlen : O.length + (esc c p q (s.drop S)).length = T := by
      rw [hTe, ← esc_len c p q s, ← hO, List.length_append]
    rw [esc_len, List.length_drop] at hlen
    rw [List.length_drop] at h2
    refine VloopS.round ?_
    refine cond_t (decide_eq_true (by omega)) ?_
    refine And.intro (.inl rfl) (And.intro (by rw [bs_len]; omega) ?_)
    refine call_p (ret := .int .i64 (k : Nat)) (by rw [cut_bs rfl (congrArg Nat.cast (bs_len s)) (Nat.le_refl _), List.take_of_length_le (by simp), ← h1]; exact indexN _ _ _ _ _ c) ?_
    refine And.intro rfl (And.intro (by omega) ?_)
    refine And.intro (.inl rfl) (And.intro (by rw [bs_len, i64_in _ (by omega)]; omega) ?_)
    refine And.intro ⟨rfl, rfl⟩ (And.intro (.inl rfl) (And.intro (by rw [bs_len, List.length_append]; omega) ?_))
    refine And.intro (by kernel_rfl) ?_
    have e1 : (IntKind.i64.wrap ((S : Int) + (k : Nat))) = ((S + k : Nat) : Int) := by rw [i64_in _ (by omega)]; omega
    have e2 : ((bs s).drop (S : Int).toNat).take ((IntKind.i64.wrap ((S : Int) + (k : Nat))).toNat - (S : Int).toNat) = bs ((s.drop S).take k) := by
      rw [cut_bs rfl e1 (by omega)]
      congr 2
      omega
    have e3 : min (((bs s).drop (S : Int).toNat).take ((IntKind.i64.wrap ((S : Int) + (k : Nat))).toNat - (S : Int).toNat)).length (((T : Nat) : Int).toNat - ((O.length : Nat) : Int).toNat) = k := by
      rw [e2, bs_len, List.length_take, List.length_drop]; omega
    have e4 : IntKind.i64.wrap (((O.length : Nat) : Int) + ((min (((bs s).drop (S : Int).toNat).take ((IntKind.i64.wrap ((S : Int) + (k : Nat))).toNat - (S : Int).toNat)).length (((T : Nat) : Int).toNat - ((O.length : Nat) : Int).toNat) : Nat) : Int)) = ((O.length + k : Nat) : Int) := by
      rw [e3, i64_in _ (by omega)]; omega
    refine And.intro rfl (And.intro (by rw [e4]; omega) ?_)
    refine And.intro ⟨rfl, rfl⟩ (And.intro (.inl rfl) (And.intro ?_ ?_))
    · rw [e4, e3, e2]
      simp only [List.length_append, List.length_take, List.length_drop, bs_len]
      omega
    have e5 : min (bs [p, q]).length (((T : Nat) : Int).toNat - ((O.length + k : Nat) : Int).toNat) = [p, q].length := by
      simp only [List.length_cons, List.length_nil, bs_len]; omega
    have hu : ((s.drop S).take k).length = k := by rw [List.length_take, List.length_drop]; omega
    refine VloopS.weakE (l := rpAt s c p q T (O ++ (s.drop S).take k ++ [p, q]).length (S + (k + 1)) m (i + 1)) (h := [.arr 1 (bs ((O ++ (s.drop S).take k ++ [p, q]) ++ (z.drop k).drop 2))]) rfl ⟨.refl _, .refl _, .refl _, .refl _, .eq (int_eq ?_), .eq (int_eq ?_), .refl _, .eq (int_eq ?_), trivial⟩ ?_ (Nat.zero_le _)
      (rpLoop s c p q R m T hm hT hs hTe hQ r (i + 1) (S + (k + 1)) (O ++ (s.drop S).take k ++ [p, q]) ((z.drop k).drop 2) (by omega) (by rw [List.drop_drop] at h3; omega) (by rw [← hO, h4, List.drop_drop]; simp) (by simp only [List.length_append, List.length_drop, List.length_cons, List.length_nil, hu]; omega) (by omega))
    · rw [e4, e5, i64_in _ (by simp only [List.length_cons, List.length_nil]; omega)]
      simp only [List.length_append, List.length_cons, List.length_nil, hu]
      omega
    · rw [e1, i64_in _ (by simp only [List.length_cons, List.length_nil, bs_len]; omega)]
      simp only [List.length_cons, List.length_nil, bs_len]
      omega
    · rw [i64_in _ (by omega)]
      omega
    · refine congrArg (fun x => [HObj.arr 1 x]) ?_
      rw [e4, e3, e2, bs_cpy O z ((s.drop S).take k) _ _ _ (by simp) hu.symm (by omega)]
      rw [bs_cpy (O ++ (s.drop S).take k) (z.drop k) [p, q] _ _ _ (by simp; omega) e5 (Nat.min_le_right _ _), e5]
      rfl

/-- ReplaceAll's and Replace's answer: each c goes over into p q. -/
theorem replace0N (nl nl' nl2 : Option Bool) (own own' own2 : Bool) (s : List UInt8) (c p q : UInt8) (hs : s.length ≤ 1000000) (h0 : s.count c = 0) :
    PCallN Tryd.prog 29 [.sl 1 nl own (bs s), .sl 1 nl' own' (bs [c]), .sl 1 nl2 own2 (bs [p, q]), .int .i64 (-1)] (.sl 1 none false (bs (esc c p q s))) := by
  refine PCallN.of (tr [44, 131]) f29 (Nat.le_of_ble_eq_true rfl) (np_cons (np_bs _) (np_cons (np_bs _) (np_cons (np_bs _) (np_cons (.int _ _) np_nil)))) (np_bs _) ?_
  refine cond_t (by rfl) ?_
  refine call_p (countN _ _ _ _ s c) ?_
  refine cond_t (by rw [h0]; rfl) ?_
  refine And.intro (.inr ⟨rfl, rfl⟩) (And.intro (.inl rfl) (And.intro ?_ ?_))
  · simp only [List.length_nil, bs_len]; omega
  rw [esc_none _ _ _ _ h0]
  exact sl_eq rfl

theorem zeros_bs (n : Nat) : List.replicate n [AV.int .u8 0] = bs (List.replicate n 0) := by
  simp [bs]

theorem replace1N (nl nl' nl2 : Option Bool) (own own' own2 : Bool) (s : List UInt8) (c p q : UInt8) (hs : s.length ≤ 1000000) (h0 : s.count c ≠ 0) :
    PCallN Tryd.prog 29 [.sl 1 nl own (bs s), .sl 1 nl' own' (bs [c]), .sl 1 nl2 own2 (bs [p, q]), .int .i64 (-1)] (.sl 1 none false (bs (esc c p q s))) := by
  refine PCallN.weakRet (ret := .sl 1 (some false) false (bs (esc c p q s))) (.nl _ _ _ _) ?_
  refine PCallN.of (tr [44, 131]) f29 (Nat.le_of_ble_eq_true rfl) (np_cons (np_bs _) (np_cons (np_bs _) (np_cons (np_bs _) (np_cons (.int _ _) np_nil)))) (np_bs _) ?_
  have hc := List.count_le_length (a := c) (l := s)
  refine cond_t (by rfl) ?_
  refine call_p (countN _ _ _ _ s c) ?_
  refine cond_f (by simp; omega) ?_
  repeat (first | refine guard_t rfl ?_ | refine guard_f (by decide) ?_)
  refine cond_t (by rfl) ?_
  have e1 : IntKind.i64.wrap (((bs s).length : Nat) + IntKind.i64.wrap (((s.count c : Nat) : Int) * IntKind.i64.wrap (((bs [p, q]).length : Nat) - ((bs [c]).length : Nat)))) = ((s.length + s.count c : Nat) : Int) := by
    have : IntKind.i64.wrap (((bs [p, q]).length : Nat) - ((bs [c]).length : Nat)) = 1 := by rfl
    have e : ((s.count c : Nat) : Int) * 1 = s.count c := Int.mul_one _
    have hi : IntKind.i64.wrap ((s.count c : Nat) : Int) = s.count c := i64_in _ (by omega)
    rw [this, e, hi, bs_len, i64_in _ (by omega)]; omega
  refine And.intro (by rw [e1]; omega) ?_
  refine cond_t (by rfl) ?_
  refine VloopS.weakE (l := rpAt s c p q (s.length + s.count c) ([] : List UInt8).length 0 (s.count c) 0) (h := [.arr 1 (bs ([] ++ List.replicate (s.length + s.count c) 0))]) rfl ⟨.both _ _ _ _, .both _ _ _ _, .both _ _ _ _, .eq (bsl_eq rfl ?_), .eq (int_eq rfl), .eq (int_eq rfl), .refl _, .eq (int_eq rfl), trivial⟩ ?_ (Nat.zero_le _)
    (VloopS.exW (rpLoop s c p q _ (s.count c) (s.length + s.count c) (by omega) (by omega) hs rfl ?_ (s.count c) 0 0 [] (List.replicate (s.length + s.count c) 0) (by omega) rfl rfl (by simp) (by omega)))
  · rw [e1]; rfl
  · refine congrArg (fun x => [HObj.arr 1 x]) ?_
    rw [e1, zeros_bs]; rfl
  · intro O rest hO z hz S hS hr
    have hlen : O.length + rest.length = s.length + s.count c := by rw [← esc_len c p q s, ← hO, List.length_append]
    have hrl : rest.length = s.length - S := by rw [← hr, List.length_drop]
    refine And.intro rfl (And.intro (by omega) ?_)
    refine And.intro (.inl rfl) (And.intro (by rw [bs_len]; omega) ?_)
    refine And.intro ⟨rfl, rfl⟩ (And.intro (.inl rfl) (And.intro (by rw [bs_len, List.length_append]; omega) ?_))
    refine And.intro (by kernel_rfl) ?_
    have e2 : ((bs s).drop (S : Int).toNat).take ((((bs s).length : Nat) : Int).toNat - (S : Int).toNat) = bs rest := by
      rw [cut_bs rfl (congrArg Nat.cast (bs_len s)) (Nat.le_refl _), List.take_of_length_le (by simp), hr]
    have e3 : min (((bs s).drop (S : Int).toNat).take ((((bs s).length : Nat) : Int).toNat - (S : Int).toNat)).length ((((s.length + s.count c : Nat) : Nat) : Int).toNat - ((O.length : Nat) : Int).toNat) = rest.length := by
      rw [e2, bs_len]; omega
    have e4 : IntKind.i64.wrap (((O.length : Nat) : Int) + ((min (((bs s).drop (S : Int).toNat).take ((((bs s).length : Nat) : Int).toNat - (S : Int).toNat)).length ((((s.length + s.count c : Nat) : Nat) : Int).toNat - ((O.length : Nat) : Int).toNat) : Nat) : Int)) = ((O.length + rest.length : Nat) : Int) := by
      rw [e3, i64_in _ (by omega)]; omega
    refine And.intro rfl (And.intro (by rw [e4]; omega) (And.intro ⟨rfl, ?_⟩ ?_))
    · rw [e3, e2, bs_cpy O z rest _ _ _ (by simp) rfl (by omega), bs_len]
      simp only [List.length_append, List.length_drop]; omega
    · refine sl_eq ?_
      rw [e4, e3, e2, bs_cpy O z rest _ _ _ (by simp) rfl (by omega), bs_drop, bs_take]
      refine congrArg bs ?_
      rw [hO]
      have : (esc c p q s).length = O.length + rest.length := by rw [← hO, List.length_append]
      simp [← this]

theorem replaceN (nl nl' nl2 : Option Bool) (own own' own2 : Bool) (s : List UInt8) (c p q : UInt8) (hs : s.length ≤ 1000000) :
    PCallN Tryd.prog 29 [.sl 1 nl own (bs s), .sl 1 nl' own' (bs [c]), .sl 1 nl2 own2 (bs [p, q]), .int .i64 (-1)] (.sl 1 none false (bs (esc c p q s))) := by
  by_cases h : s.count c = 0
  · exact replace0N nl nl' nl2 own own' own2 s c p q hs h
  · exact replace1N nl nl' nl2 own own' own2 s c p q hs h

theorem replaceAllN (nl nl' nl2 : Option Bool) (own own' own2 : Bool) (s : List UInt8) (c p q : UInt8) (hs : s.length ≤ 1000000) :
    PCallN Tryd.prog 26 [.sl 1 nl own (bs s), .sl 1 nl' own' (bs [c]), .sl 1 nl2 own2 (bs [p, q])] (.sl 1 none false (bs (esc c p q s))) := by
  refine PCallN.of (tr []) f26 (Nat.le_of_ble_eq_true rfl) (np_cons (np_bs _) (np_cons (np_bs _) (np_cons (np_bs _) np_nil))) (np_bs _) ?_
  refine call_p (replaceN _ _ _ _ _ _ s c p q hs) ?_
  exact sl_eq rfl

end Go.Proofs.YtlhdbbkfibibfaaDoor.V

/- What was shown of another layer, at this layer's numbers. -/
namespace Go.Proofs.YtlhdbbkfibibfaaDoor.V

open Go.IntWalk

/-- The number of bytes, the highest first. -/
def num (l : List UInt8) : UInt64 := l.foldl (fun n b => n <<< 8 ||| b.toUInt64) 0

theorem numStep (n : UInt64) (b : UInt8) : IntKind.u64.wrap ((BitVec.ofInt 64 (IntKind.u64.wrap ((n.toNat : Int) * 2 ^ 8))) ||| BitVec.ofInt 64 (IntKind.u64.wrap (b.toNat : Int))).toNat = ((n <<< 8 ||| b.toUInt64).toNat : Int) := by
  rw [w_u64, w_u64, w_u64]
  have h1 := n.toNat_lt
  have h2 := b.toNat_lt
  have e1 : BitVec.ofInt 64 ((n.toNat : Int) * 2 ^ 8 % 18446744073709551616) = n.toBitVec <<< 8 := by
    apply BitVec.eq_of_toNat_eq
    rw [BitVec.toNat_ofInt, BitVec.toNat_shiftLeft, Nat.shiftLeft_eq]
    simp only [UInt64.toNat_toBitVec]
    omega
  have e2 : BitVec.ofInt 64 ((b.toNat : Int) % 18446744073709551616) = b.toUInt64.toBitVec := by
    apply BitVec.eq_of_toNat_eq
    rw [BitVec.toNat_ofInt]
    simp only [UInt64.toNat_toBitVec, UInt8.toNat_toUInt64]
    omega
  rw [e1, e2]
  have e3 : (n <<< 8 ||| b.toUInt64).toBitVec = (n.toBitVec <<< 8 ||| b.toUInt64.toBitVec) := by
    simp [UInt64.toBitVec_or, UInt64.toBitVec_shiftLeft]
  rw [← e3]
  have := (n <<< 8 ||| b.toUInt64).toNat_lt
  simp only [UInt64.toNat_toBitVec]
  omega

theorem num_snoc (l : List UInt8) (b : UInt8) : num (l ++ [b]) = num l <<< 8 ||| b.toUInt64 := by simp [num]

def numAt (l : List UInt8) (k : Nat) : List (Nat × AV) := [(3, .int .u64 (num (l.take k)).toNat), (6, .sl 1 none false (bs l)), (7, .int .i64 l.length), (8, .int .i64 k)]

/-! Read -/

theorem readStep (n : UInt64) (b : UInt8) : IntKind.u64.wrap (IntKind.u64.wrap (256 * (n.toNat : Int)) + IntKind.u64.wrap (b.toNat : Int)) = ((n <<< 8 ||| b.toUInt64).toNat : Int) := by
  rw [← numStep, w_u64, w_u64, w_u64, w_u64, w_u64]
  have h1 := n.toNat_lt
  have h2 := b.toNat_lt
  have e1 : BitVec.ofInt 64 ((n.toNat : Int) * 2 ^ 8 % 18446744073709551616) = n.toBitVec <<< 8 := by
    apply BitVec.eq_of_toNat_eq
    rw [BitVec.toNat_ofInt, BitVec.toNat_shiftLeft, Nat.shiftLeft_eq]
    simp only [UInt64.toNat_toBitVec]
    omega
  have e2 : (BitVec.ofInt 64 ((b.toNat : Int) % 18446744073709551616)).toNat = b.toNat := by
    rw [BitVec.toNat_ofInt]
    omega
  rw [BitVec.toNat_or, e1, e2, BitVec.toNat_shiftLeft]
  simp only [UInt64.toNat_toBitVec, Nat.shiftLeft_eq]
  have e4 : n.toNat * 2 ^ 8 % 2 ^ 64 ||| b.toNat = n.toNat * 2 ^ 8 % 2 ^ 64 + b.toNat := by
    have e5 : n.toNat * 2 ^ 8 % 2 ^ 64 = (n.toNat % 2 ^ 56) <<< 8 := by rw [Nat.shiftLeft_eq]; omega
    rw [e5, Nat.shiftLeft_add_eq_or_of_lt (by omega)]
  rw [e4]
  omega

def readAt (l : List UInt8) (k : Nat) : List (Nat × AV) := [(0, .sl 1 none false (bs l)), (3, .int .u64 (num (l.take k)).toNat), (4, .int .i64 k)]

theorem readLoop (l : List UInt8) (Q : VE → Sy → Prop) (hl : l.length ≤ 1000000) (hQ : Q (.exit 0) ⟨[], (8, .bool (decide ((l.length : Int) < (bs l).length))) :: (7, .int .i64 (bs l).length) :: (6, .sl 1 none false (bs l)) :: (5, .int .i64 l.length) :: readAt l l.length, []⟩) :
    ∀ m k, k + m = l.length → VloopS Tryd.prog (tr []) 20 0 c25b0 Q ⟨[], readAt l k, []⟩
  | 0, k, hk => by
    have e : k = l.length := by omega
    subst e
    refine VloopS.round ?_
    refine cond_f (decide_eq_false (by rw [bs_len]; omega)) ?_
    exact hQ
  | m + 1, k, hk => by
    have hlt : k < l.length := by omega
    refine VloopS.round ?_
    refine cond_t (decide_eq_true (by rw [bs_len]; omega)) ?_
    refine And.intro rfl (And.intro (Int.natCast_nonneg k) (Exists.intro [.int .u8 (l[k].toNat : Int)] (And.intro (bs_get hlt) ?_)))
    refine VloopS.weak (l := readAt l (k + 1)) rfl ?_ (Nat.zero_le _) (readLoop l Q hl hQ m (k + 1) (by omega))
    refine ⟨.refl _, .eq ?_, .eq ?_, trivial⟩
    · refine congrArg (AV.int .u64) ((readStep (num (l.take k)) l[k]).trans ?_)
      rw [take_snoc l k hlt, num_snoc]
    · exact congrArg (AV.int .i64) (i64_in _ (by omega))

theorem readN (nl : Option Bool) (own : Bool) (l : List UInt8) (hl : l.length ≤ 1000000) : PCallN Tryd.prog 25 [.sl 1 nl own (bs l)] (.int .u64 (num l).toNat) := by
  refine PCallN.of (tr []) f25 (Nat.le_of_ble_eq_true rfl) (np_cons (np_bs _) np_nil) (.int _ _) ?_
  refine VloopS.weak (l := readAt l 0) rfl ⟨.both _ _ _ _, .refl _, .refl _, trivial⟩ (Nat.zero_le _) (readLoop l _ hl ?_ l.length 0 (by omega))
  exact int_eq (by rw [List.take_length])

/-! Join, Clone -/

theorem joinN (nl nl' : Option Bool) (own own' : Bool) (a b : List UInt8) (h : a.length + b.length ≤ 1000000) : PCallN Tryd.prog 15 [.sl 1 nl own (bs a), .sl 1 nl' own' (bs b)] (.sl 1 none true (bs (a ++ b))) := by
  refine PCallN.of (tr [4, 5, 9]) f15 (Nat.le_of_ble_eq_true rfl) (np_cons (np_bs _) (np_cons (np_bs _) np_nil)) (np_bs _) ?_
  refine And.intro (.inr ⟨rfl, rfl⟩) (And.intro (.inl rfl) (And.intro ?_ ?_))
  · simp only [List.length_nil, bs_len]; omega
  refine And.intro (.inl ⟨rfl, rfl⟩) (And.intro (.inl rfl) (And.intro ?_ ?_))
  · simp only [List.length_append, List.length_nil, bs_len]; omega
  exact sl_eq (bs_app a b)

/-! Bytes -/

def byAt (a b : List UInt8) (k : Nat) : List (Nat × AV) := [(0, .sl 1 none false (bs a)), (1, .sl 1 none false (bs b)), (5, .int .i64 k)]

theorem byLoop (a b : List UInt8) (Q : VE → Sy → Prop) (he : a.length = b.length) (hl : a.length ≤ 1000000)
    (hQ : a = b → Q (.exit 0) ⟨[], (14, .bool (decide ((a.length : Int) < (bs a).length))) :: (13, .int .i64 (bs a).length) :: (12, .sl 1 none false (bs a)) :: (11, .int .i64 a.length) :: byAt a b a.length, []⟩)
    (hr : ∀ σ : Sy, a ≠ b → σ.get 4 = .bool false → Q .ret σ) :
    ∀ m k, k + m = a.length → a.take k = b.take k → VloopS Tryd.prog (tr []) 26 0 c14b0 Q ⟨[], byAt a b k, []⟩
  | 0, k, hk, ht => by
    have e : k = a.length := by omega
    subst e
    refine VloopS.round ?_
    refine cond_f (decide_eq_false (by rw [bs_len]; omega)) ?_
    refine hQ ?_
    rw [List.take_length, he, List.take_length] at ht
    exact ht
  | m + 1, k, hk, ht => by
    have hlt : k < a.length := by omega
    have hlt' : k < b.length := by omega
    refine VloopS.round ?_
    refine cond_t (decide_eq_true (by rw [bs_len]; omega)) ?_
    refine And.intro rfl (And.intro (Int.natCast_nonneg k) (Exists.intro [.int .u8 (a[k].toNat : Int)] (And.intro (bs_get hlt) ?_)))
    refine And.intro rfl (And.intro (Int.natCast_nonneg k) (Exists.intro [.int .u8 (b[k].toNat : Int)] (And.intro (bs_get hlt') ?_)))
    refine And.intro (by kernel_rfl) ?_
    by_cases hab : a[k] = b[k]
    · refine cond_f (by rw [hab]; exact bne_self_eq_false _) ?_
      refine VloopS.weak (l := byAt a b (k + 1)) rfl ?_ (Nat.zero_le _) (byLoop a b Q he hl hQ hr m (k + 1) (by omega) (by rw [take_snoc a k hlt, take_snoc b k hlt', ht, hab]))
      exact ⟨.refl _, .refl _, .eq (congrArg (AV.int .i64) (i64_in _ (by omega))), trivial⟩
    · refine cond_t (bne_iff_ne.2 fun e => hab (UInt8.toNat_inj.1 (by omega))) ?_
      exact hr _ (fun e => hab (by subst e; rfl)) rfl

theorem bytesN (nl nl' : Option Bool) (own own' : Bool) (a b : List UInt8) (ha : a.length ≤ 1000000) : PCallN Tryd.prog 14 [.sl 1 nl own (bs a), .sl 1 nl' own' (bs b)] (.bool (decide (a = b))) := by
  refine PCallN.of (tr []) f14 (Nat.le_of_ble_eq_true rfl) (np_cons (np_bs _) (np_cons (np_bs _) np_nil)) (.bool _) ?_
  by_cases he : a.length = b.length
  · refine cond_f (by rw [bs_len, bs_len, he]; exact bne_self_eq_false _) ?_
    refine VloopS.weak (l := byAt a b 0) rfl ⟨.both _ _ _ _, .both _ _ _ _, .refl _, trivial⟩ (Nat.zero_le _) (byLoop a b _ he ha (fun e => ?_) (fun σ hne hσ => ?_) a.length 0 (by omega) rfl)
    · exact bool_eq (decide_eq_true e).symm
    · exact hσ.trans (bool_eq (decide_eq_false hne).symm)
  · refine cond_t (bne_iff_ne.2 (by rw [bs_len, bs_len]; omega)) ?_
    exact bool_eq (decide_eq_false fun e => he (by rw [e])).symm

open Go.IntWalk

structure Va where
  k : UInt8
  n : Int
  s : List UInt8
  deriving DecidableEq

def Va.c (v : Va) : List AV := [.int .u8 v.k.toNat, .int .i64 v.n, .str (st v.s)]
def Va.av (v : Va) : AV := .agg v.c

theorem Va.np {ok : Nat → Prop} (v : Va) : NP ok v.av := .agg _ (np_cons (.int _ _) (np_cons (.int _ _) (np_cons (.str _) np_nil)))

theorem w_u8 (n : Int) : IntKind.u8.wrap n = n % 256 := by simp [IntKind.wrap, IntKind.bits, IntKind.signed]

def byteAt (n : Int) (i : Nat) : UInt8 := UInt8.ofNat (n / 2 ^ (8 * i) % 256).toNat

theorem byteAt_toNat (n : Int) (i : Nat) : ((byteAt n i).toNat : Int) = n / 2 ^ (8 * i) % 256 := by
  unfold byteAt
  have h1 : 0 ≤ n / 2 ^ (8 * i) % 256 := Int.emod_nonneg _ (by decide)
  have h2 : n / 2 ^ (8 * i) % 256 < 256 := Int.emod_lt_of_pos _ (by decide)
  simp only [UInt8.toNat_ofNat']
  omega

/-- So many bytes of a number, the highest first. -/
def be (n : Int) : Nat → List UInt8
  | 0 => []
  | m + 1 => byteAt n m :: be n m

theorem be_len (n : Int) (m : Nat) : (be n m).length = m := by
  induction m with
  | zero => rfl
  | succ m ih => simp [be, ih]

def Va.enc (v : Va) : List UInt8 := v.k :: (if v.k = 1 then be v.n 8 else if v.k = 2 then be v.s.length 2 ++ v.s else [])

theorem shr_byte (n : Int) (m : Nat) (hm : m ≤ 7) : IntKind.u8.wrap (n.fdiv (2 ^ min (IntKind.i64.wrap (8 * (m : Int))).toNat 64)) = ((byteAt n m).toNat : Int) := by
  rw [byteAt_toNat, w_u8, i64_in _ (by omega)]
  have : min (8 * (m : Int)).toNat 64 = 8 * m := by omega
  rw [this, Int.fdiv_eq_ediv_of_nonneg _ (Int.pow_nonneg (by decide))]

def encAt (_v : Va) (p : List UInt8) (m : Nat) : List (Nat × AV) := [(1, .ptr (some (0, 0))), (3, .sl 1 none true (bs p)), (4, .int .i64 ((m : Int) - 1))]

theorem u8_eq {k : UInt8} {c : Int} (h : (k.toNat : Int) = c) : ((k.toNat : Int) == c) = true := beq_iff_eq.2 h
theorem u8_ne {k : UInt8} {c : Int} (h : (k.toNat : Int) ≠ c) : ((k.toNat : Int) == c) = false := beq_eq_false_iff_ne.2 h
theorem u8_val {k c : UInt8} (h : k ≠ c) : (k.toNat : Int) ≠ (c.toNat : Int) := fun e => h (UInt8.toNat_inj.1 (by omega))

theorem low_byte (n : Int) : IntKind.u8.wrap n = ((byteAt n 0).toNat : Int) := by
  rw [byteAt_toNat, w_u8]
  simp

open Go.IntWalk

def nmAt (x : Int) (size : Nat) (p : List UInt8) (m : Nat) : List (Nat × AV) := [(0, .int .u64 x), (1, .int .i64 size), (5, .sl 1 none true (bs p)), (6, .int .i64 ((size : Int) - m))]

theorem nmLoop (x : Int) (size : Nat) (hs : size ≤ 8) (Q : VE → Sy → Prop) (hQ : Q (.exit 0) ⟨[], (9, .bool (decide ((size : Int) - (0 : Nat) < size))) :: (8, .int .i64 size) :: (7, .int .i64 ((size : Int) - (0 : Nat))) :: nmAt x size (be x size) 0, []⟩) :
    ∀ m p, m ≤ size → p ++ be x m = be x size → VloopS Tryd.prog (tr [5, 12]) 24 0 c24b0 Q ⟨[], nmAt x size p m, []⟩
  | 0, p, hm, hp => by
    have e : p = be x size := by simpa [be] using hp
    subst e
    refine VloopS.round ?_
    refine cond_f (decide_eq_false (by omega)) ?_
    exact hQ
  | m + 1, p, hm, hp => by
    refine VloopS.round ?_
    have hl : p.length + (m + 1) = size := by
      have := congrArg List.length hp
      rw [List.length_append, be_len, be_len] at this
      exact this
    refine cond_t (decide_eq_true (by omega)) ?_
    have e0 : IntKind.i64.wrap (IntKind.i64.wrap ((size : Int) - 1) - ((size : Int) - ((m + 1 : Nat) : Int))) = (m : Int) := by
      rw [i64_in ((size : Int) - 1) (by omega), i64_in _ (by omega)]; omega
    refine And.intro ?_ ?_
    · rw [e0, i64_in _ (by omega)]; omega
    refine And.intro (.inl ⟨rfl, rfl⟩) (And.intro (.inl rfl) (And.intro ?_ ?_))
    · simp only [List.length_cons, List.length_nil, bs_len]; omega
    refine VloopS.weak (l := nmAt x size (p ++ [byteAt x m]) m) rfl ?_ (Nat.zero_le _) (nmLoop x size hs Q hQ m (p ++ [byteAt x m]) (by omega) (by rw [← hp]; simp [be]))
    refine ⟨.refl _, .refl _, .eq (sl_eq ?_), .eq (int_eq ?_), trivial⟩
    · rw [← bs_app]
      refine congrArg (bs p ++ ·) ?_
      refine congrArg (fun x => [[AV.int .u8 x]]) ?_
      rw [e0]
      exact shr_byte x m (by omega)
    · rw [i64_in _ (by omega)]; omega

theorem numSN (x : Int) (size : Nat) (hs : size ≤ 8) : PCallN Tryd.prog 24 [.int .u64 x, .int .i64 size] (.sl 1 none true (bs (be x size))) := by
  refine PCallN.of (tr [4, 5, 12, 23]) f24 (Nat.le_of_ble_eq_true rfl) (np_cons (.int _ _) (np_cons (.int _ _) np_nil)) (np_bs _) ?_
  refine VloopS.weak (l := nmAt x size [] size) rfl ⟨.refl _, .refl _, .nil _ _ _ _ _ (by simp), .eq (int_eq (by omega)), trivial⟩ (Nat.zero_le _) ?_
  refine nmLoop x size hs _ ?_ size [] (Nat.le_refl _) rfl
  exact sl_eq rfl

theorem be_u64 (n : Int) : be (IntKind.u64.wrap n) 8 = be n 8 := by
  rw [w_u64]
  have key : ∀ i, i ≤ 7 → byteAt (n % 18446744073709551616) i = byteAt n i := by
    intro i hi
    apply UInt8.toNat_inj.1
    have h1 := byteAt_toNat (n % 18446744073709551616) i
    have h2 := byteAt_toNat n i
    have h3 : n % 18446744073709551616 / 2 ^ (8 * i) % 256 = n / 2 ^ (8 * i) % 256 := by
      have : i = 0 ∨ i = 1 ∨ i = 2 ∨ i = 3 ∨ i = 4 ∨ i = 5 ∨ i = 6 ∨ i = 7 := by omega
      rcases this with rfl | rfl | rfl | rfl | rfl | rfl | rfl | rfl <;> omega
    omega
  simp only [be, key 7 (by decide), key 6 (by decide), key 5 (by decide), key 4 (by decide), key 3 (by decide), key 2 (by decide), key 1 (by decide), key 0 (by decide)]

open Go.IntWalk

theorem st_list (l : List UInt8) : (st l).toList = l := by rw [ByteArray.toList_eq]; rfl
theorem st_beq (a b : List UInt8) : ((st a).toList == (st b).toList) = decide (a = b) := by
  rw [st_list, st_list]
  exact Bool.eq_iff_iff.2 ⟨fun h => decide_eq_true (beq_iff_eq.1 h), fun h => beq_iff_eq.2 (of_decide_eq_true h)⟩

def Va.right (v : Va) : Bool := if v.k = 0 then v.n == 0 && decide (v.s = []) else if v.k = 1 then decide (v.s = []) else if v.k = 2 then v.n == 0 && decide ((v.s.length : Int) ≤ 200) else false

theorem rightN (v : Va) : PCallN Tryd.prog 28 [v.av] (.bool v.right) := by
  refine PCallN.of (tr []) f28 (Nat.le_of_ble_eq_true rfl) (np_cons v.np np_nil) (.bool _) ?_
  by_cases h0 : v.k = 0
  · refine cond_t (by rw [h0]; rfl) ?_
    rw [Va.right, if_pos h0]
    cases hn : v.n == 0
    · refine guard_f (by rw [hn]; decide) ?_
      rw [hn]
      refine guard_f (by decide) ?_
      refine guard_f (by decide) ?_
      exact bool_eq rfl
    · refine guard_t hn ?_
      rw [hn]
      refine guard_t rfl ?_
      refine guard_t rfl ?_
      exact bool_eq (st_beq v.s [])
  refine cond_f (u8_ne (u8_val h0)) ?_
  by_cases h1 : v.k = 1
  · refine cond_t (by rw [h1]; rfl) ?_
    rw [Va.right, if_neg h0, if_pos h1]
    exact bool_eq (st_beq v.s [])
  refine cond_f (u8_ne (u8_val h1)) ?_
  by_cases h2 : v.k = 2
  · refine cond_t (by rw [h2]; rfl) ?_
    rw [Va.right, if_neg h0, if_neg h1, if_pos h2]
    cases hn : v.n == 0
    · refine guard_f (by rw [hn]; decide) ?_
      rw [hn]
      refine guard_f (by decide) ?_
      refine guard_f (by decide) ?_
      refine guard_f (by decide) ?_
      exact bool_eq rfl
    · refine guard_t hn ?_
      rw [hn]
      refine guard_t rfl ?_
      refine guard_t rfl ?_
      refine guard_t rfl ?_
      exact bool_eq (by rw [st_size]; rfl)
  refine cond_f (u8_ne (u8_val h2)) ?_
  rw [Va.right, if_neg h0, if_neg h1, if_neg h2]
  exact bool_eq rfl

theorem len_beq (l : List UInt8) : (((st l).size : Int) == 0) = decide (l = []) := by
  rw [st_size]
  cases l with
  | nil => rfl
  | cons a l => rw [decide_eq_false (by simp)]; exact beq_eq_false_iff_ne.2 (by simp; omega)

def Va.of (w : Va) : Va := if w.k % 4 = 0 then ⟨0, 0, []⟩ else if w.k % 4 = 1 then ⟨1, w.n, []⟩ else ⟨2, 0, w.s.take 200⟩

theorem of_mod (k : UInt8) : ((k.toNat : Int).tmod 4) = ((k % 4).toNat : Int) := by
  rw [UInt8.toNat_mod, Int.tmod_eq_emod_of_nonneg (by omega)]
  rfl

theorem ofN (w : Va) : PCallN Tryd.prog 20 [w.av] w.of.av := by
  refine PCallN.of (tr []) f20 (Nat.le_of_ble_eq_true rfl) (np_cons w.np np_nil) (Va.np _) ?_
  refine And.intro (by decide) ?_
  rw [of_mod]
  by_cases h0 : w.k % 4 = 0
  · refine cond_t (by rw [h0]; rfl) ?_
    rw [Va.of, if_pos h0]
    exact agg3 rfl rfl rfl
  refine cond_f (u8_ne (u8_val h0)) ?_
  by_cases h1 : w.k % 4 = 1
  · refine cond_t (by rw [h1]; rfl) ?_
    rw [Va.of, if_neg h0, if_pos h1]
    exact agg3 rfl rfl rfl
  refine cond_f (u8_ne (u8_val h1)) ?_
  rw [Va.of, if_neg h0, if_neg h1]
  by_cases h2 : w.s.length ≤ 200
  · refine cond_f (decide_eq_false (by rw [st_size]; omega)) ?_
    refine agg3 (int_eq rfl) (int_eq rfl) (str_eq ?_)
    rw [List.take_of_length_le h2]
  · refine cond_t (decide_eq_true (by rw [st_size]; omega)) ?_
    refine And.intro (by rw [st_size]; omega) ?_
    refine agg3 (int_eq rfl) (int_eq rfl) (str_eq ?_)
    exact st_cut w.s 0 200

open Go.IntWalk

theorem num_snoc_val (l : List UInt8) (b : UInt8) : ((num (l ++ [b])).toNat : Int) = (256 * (num l).toNat + b.toNat) % 18446744073709551616 := by
  rw [num_snoc, ← readStep, w_u64, w_u64, w_u64]
  omega

theorem num_two (a b : UInt8) : (num [a, b]).toNat = 256 * a.toNat + b.toNat := by
  have h1 := num_snoc_val [a] b
  have h2 := num_snoc_val [] a
  have h3 : num [] = 0 := rfl
  have ha := a.toNat_lt
  have hb := b.toNat_lt
  rw [h3] at h2
  simp only [List.nil_append, List.singleton_append, UInt64.toNat_zero] at h1 h2
  omega

def zero : Va := ⟨0, 0, []⟩

def decT (r : List UInt8) : Va × List UInt8 × Int :=
  match r with
  | a :: b :: r => if 200 < 256 * a.toNat + b.toNat then (zero, [], 2) else if r.length < 256 * a.toNat + b.toNat then (zero, [], 3)
      else (⟨2, 0, r.take (256 * a.toNat + b.toNat)⟩, r.drop (256 * a.toNat + b.toNat), 0)
  | _ => (zero, [], 3)

/-- What any bytes begin with: the value, what stands behind it, the error. -/
def dec (p : List UInt8) : Va × List UInt8 × Int :=
  match p with
  | [] => (zero, [], 3)
  | k :: r =>
    if k = 0 then (zero, r, 0)
    else if k = 1 then (if r.length < 8 then (zero, [], 3) else (⟨1, IntKind.i64.wrap (num (r.take 8)).toNat, []⟩, r.drop 8, 0))
    else if k = 2 then decT r else (zero, [], 2)

def decAV (x : Va × List UInt8 × Int) : AV := .tup [x.1.av, .sl 1 none false (bs x.2.1), .int .i64 x.2.2]

theorem dec_bad {e : Int} {f : Nat} {args : List AV} (h : PCallN Tryd.prog f args (.tup [zero.av, .sl 0 (some true) false [], .int .i64 e])) : PCallN Tryd.prog f args (decAV (zero, [], e)) :=
  h.weakRet (.tup _ _ (.cons _ _ _ _ (.refl _) (.cons _ _ _ _ (.nil _ _ _ _ _ (by simp)) (.cons _ _ _ _ (.refl _) .nil))))

theorem dec_np {ok : Nat → Prop} (v : Va) (nl : Option Bool) (own : Bool) (sz : Nat) (l : List UInt8) (e : Int) : NP ok (.tup [v.av, .sl sz nl own (bs l), .int .i64 e]) := .tup _ (np_cons (Va.np _) (np_cons (np_bs _) (np_cons (.int _ _) np_nil)))

open Go.IntWalk

theorem byteAt_succ (n : Int) (m : Nat) : byteAt n (m + 1) = byteAt (n / 256) m := by
  unfold byteAt
  rw [Int.ediv_ediv_of_nonneg (by decide), show (2 : Int) ^ (8 * (m + 1)) = 256 * 2 ^ (8 * m) by rw [Nat.mul_add, Int.pow_add, Int.mul_comm]; rfl]

theorem be_snoc (n : Int) : ∀ m, be n (m + 1) = be (n / 256) m ++ [byteAt n 0]
  | 0 => rfl
  | m + 1 => by
    rw [be, be_snoc n m, be, byteAt_succ]
    rfl

theorem num_be_succ (n : Int) (m : Nat) : ((num (be n (m + 1))).toNat : Int) = (256 * (num (be (n / 256) m)).toNat + n % 256) % 18446744073709551616 := by
  rw [be_snoc, num_snoc_val, byteAt_toNat]
  simp

theorem num_be8 (n : Int) : ((num (be n 8)).toNat : Int) = n % 18446744073709551616 := by
  have h0 : ∀ n : Int, ((num (be n 0)).toNat : Int) = 0 := fun n => rfl
  have h1 : ∀ n : Int, ((num (be n 1)).toNat : Int) = n % 256 := fun n => by rw [num_be_succ, h0]; omega
  have h2 : ∀ n : Int, ((num (be n 2)).toNat : Int) = n % 65536 := fun n => by rw [num_be_succ, h1]; omega
  have h3 : ∀ n : Int, ((num (be n 3)).toNat : Int) = n % 16777216 := fun n => by rw [num_be_succ, h2]; omega
  have h4 : ∀ n : Int, ((num (be n 4)).toNat : Int) = n % 4294967296 := fun n => by rw [num_be_succ, h3]; omega
  have h5 : ∀ n : Int, ((num (be n 5)).toNat : Int) = n % 1099511627776 := fun n => by rw [num_be_succ, h4]; omega
  have h6 : ∀ n : Int, ((num (be n 6)).toNat : Int) = n % 281474976710656 := fun n => by rw [num_be_succ, h5]; omega
  have h7 : ∀ n : Int, ((num (be n 7)).toNat : Int) = n % 72057594037927936 := fun n => by rw [num_be_succ, h6]; omega
  rw [num_be_succ, h7]
  omega

theorem w_i64 (n : Int) (h0 : -9223372036854775808 ≤ n) (h1 : n ≤ 9223372036854775807) : IntKind.i64.wrap (n % 18446744073709551616) = n := by
  rw [IntKind.wrap_i64]
  omega

def Va.ok (v : Va) : Prop := -9223372036854775808 ≤ v.n ∧ v.n ≤ 9223372036854775807

theorem dec_enc (v : Va) (hr : v.right = true) (hn : v.ok) (more : List UInt8) : dec (v.enc ++ more) = (v, more, 0) := by
  obtain ⟨hn1, hn2⟩ := hn
  match v, hr, hn1, hn2 with
  | ⟨k, n, s⟩, hr, hn1, hn2 =>
    simp only at hn1 hn2
    by_cases h0 : k = 0
    · subst h0
      simp only [Va.right, ↓reduceIte, Bool.and_eq_true, beq_iff_eq, decide_eq_true_eq] at hr
      rw [hr.1, hr.2]
      rfl
    · by_cases h1 : k = 1
      · subst h1
        have hs : s = [] := by simpa [Va.right] using hr
        subst hs
        have : Va.enc ⟨1, n, []⟩ ++ more = 1 :: (be n 8 ++ more) := rfl
        rw [this, dec, if_neg (by decide), if_pos rfl, if_neg (by simp [be_len]), List.take_left' (be_len n 8), List.drop_left' (be_len n 8), num_be8, w_i64 n hn1 hn2]
      · by_cases h2 : k = 2
        · subst h2
          simp only [Va.right, show ((2 : UInt8) = 0) = False by decide, show ((2 : UInt8) = 1) = False by decide, ↓reduceIte, Bool.and_eq_true, beq_iff_eq, decide_eq_true_eq] at hr
          have hs : s.length ≤ 200 := by omega
          rw [hr.1]
          have : Va.enc ⟨2, 0, s⟩ ++ more = 2 :: byteAt s.length 1 :: byteAt s.length 0 :: (s ++ more) := by simp [Va.enc, be]
          have b1 := byteAt_toNat s.length 1
          have b0 := byteAt_toNat s.length 0
          have hlen : 256 * (byteAt s.length 1).toNat + (byteAt s.length 0).toNat = s.length := by
            simp only [Nat.reduceMul, Int.reducePow] at b1 b0
            omega
          rw [this, dec, if_neg (by decide), if_neg (by decide), if_pos rfl, decT, hlen, if_neg (by omega), if_neg (by simp), List.take_left' rfl, List.drop_left' rfl]
        · simp [Va.right, h0, h1, h2] at hr

theorem of_right (w : Va) : w.of.right = true := by
  unfold Va.of
  split
  · rfl
  · split
    · rfl
    · have : ((w.s.take 200).length : Int) ≤ 200 := by rw [List.length_take]; omega
      simp only [Va.right, show ((2 : UInt8) = 0) = False by decide, show ((2 : UInt8) = 1) = False by decide, ↓reduceIte, Bool.and_eq_true, beq_self_eq_true, true_and, decide_eq_true_eq]
      exact this

theorem of_ok (w : Va) (h : w.ok) : w.of.ok := by
  unfold Va.of
  split
  · exact ⟨by decide, by decide⟩
  · split
    · exact h
    · exact ⟨show (-9223372036854775808 : Int) ≤ 0 by decide, show (0 : Int) ≤ 9223372036854775807 by decide⟩

theorem of_len (w : Va) : w.of.s.length ≤ 200 := by
  unfold Va.of
  split
  · exact Nat.zero_le _
  · split
    · exact Nat.zero_le _
    · show (w.s.take 200).length ≤ 200
      rw [List.length_take]; omega

theorem enc_len (v : Va) (h : v.s.length ≤ 200) : v.enc.length ≤ 203 := by
  unfold Va.enc
  split
  · simp [be_len]
  · split
    · simp [be_len]; omega
    · simp

end Go.Proofs.YtlhdbbkfibibfaaDoor.V

/- Keys: what one value's key is. -/
namespace Go.Proofs.YtlhdbbkfibibfaaDoor.V
open Go.IntWalk

/-- A number, its sign turned. -/
def turn (n : Int) : Int := IntKind.u64.wrap (BitVec.ofInt 64 (IntKind.u64.wrap n) ^^^ BitVec.ofInt 64 9223372036854775808).toNat

def Va.key (v : Va) : List UInt8 := if v.k = 1 then 2 :: be (turn v.n) 8 else if v.k = 2 then 3 :: (esc 0 0 255 v.s ++ [0, 1]) else [1]

theorem shr_byte_u (n : Int) (m : Nat) (hm : m ≤ 7) : IntKind.u8.wrap (n.fdiv (2 ^ min (IntKind.i64.wrap (8 * (m : Int))).toNat 64)) = ((byteAt n m).toNat : Int) := shr_byte n m hm

def oneAt (n : Int) (p : List UInt8) (m : Nat) : List (Nat × AV) := [(3, .sl 1 none true (bs p)), (4, .int .u64 n), (5, .int .i64 ((m : Int) - 1))]

theorem oneLoop (c : List AV) (n : Int) (R : VE → Sy → Prop) (tot : List UInt8) (ht : tot.length ≤ 1000) (hR : R (.exit 1) ⟨[], [(3, .sl 1 none true (bs tot))], [.cells c]⟩) :
    ∀ m p, m ≤ 8 → p ++ be n m = tot → VloopS Tryd.prog (tr [2, 3, 6, 20, 28, 39]) 43 0 c21b0 (exW 43 R) ⟨[], oneAt n p m, [.cells c]⟩
  | 0, p, hm, hp => by
    have e : p = tot := by simpa [be] using hp
    subst e
    refine VloopS.round ?_
    refine cond_f (by decide) ?_
    exact ex_w hR rfl ⟨.refl _, trivial⟩ rfl
  | m + 1, p, hm, hp => by
    refine VloopS.round ?_
    have hl : p.length + (m + 1) = tot.length := by rw [← hp, List.length_append, be_len]
    refine cond_t (decide_eq_true (by omega)) ?_
    refine And.intro ?_ ?_
    · rw [i64_in _ (by omega)]; omega
    refine And.intro (.inl ⟨rfl, rfl⟩) (And.intro (.inl rfl) (And.intro ?_ ?_))
    · simp only [List.length_cons, List.length_nil, bs_len]; omega
    refine VloopS.weakE (l := oneAt n (p ++ [byteAt n m]) m) rfl ?_ rfl (Nat.zero_le _) (oneLoop c n R tot ht hR m (p ++ [byteAt n m]) (by omega) (by rw [← hp]; simp [be]))
    refine ⟨.eq (sl_eq ?_), .refl _, .eq (int_eq ?_), trivial⟩
    · rw [← bs_app]
      refine congrArg (bs p ++ ·) ?_
      refine congrArg (fun x => [[AV.int .u8 x]]) ?_
      have : (((m + 1 : Nat) : Int) - 1) = (m : Int) := by omega
      rw [this]
      exact shr_byte n m (by omega)
    · rw [i64_in _ (by omega)]; omega

theorem oneN (v : Va) (hs : v.s.length ≤ 1000) : PCallN Tryd.prog 21 [v.av] (.sl 1 none true (bs v.key)) := by
  by_cases h1 : v.k = 1
  · refine PCallN.of (tr [2, 3, 6, 20, 28, 39]) f21 (Nat.le_of_ble_eq_true rfl) (np_cons v.np np_nil) (np_bs _) ?_
    refine cond_t (by rw [h1]; rfl) ?_
    have he : v.key = 2 :: be (turn v.n) 8 := by rw [Va.key, if_pos h1]
    refine VloopS.weakE (l := oneAt (turn v.n) [2] 8) (h := [.cells v.c]) rfl ⟨.nl _ _ _ _, .refl _, .eq (int_eq rfl), trivial⟩ rfl (Nat.zero_le _) ?_
    refine VloopS.exW (oneLoop v.c (turn v.n) _ v.key (by rw [he, List.length_cons, be_len]; decide) ?_ 8 [2] (by decide) (by rw [he]; rfl))
    exact sl_eq rfl
  · by_cases h2 : v.k = 2
    · refine PCallN.weakRet (ret := .sl 1 (some false) true (bs v.key)) (.nl _ _ _ _) ?_
      refine PCallN.of (tr [2, 3, 6, 20, 28, 39]) f21 (Nat.le_of_ble_eq_true rfl) (np_cons v.np np_nil) (np_bs _) ?_
      refine cond_f (u8_ne (u8_val h1)) ?_
      refine cond_t (by rw [h2]; rfl) ?_
      have hc := List.count_le_length (a := (0 : UInt8)) (l := v.s)
      have he := esc_len 0 0 255 v.s
      refine call_p (ret := .sl 1 none false (bs (esc 0 0 255 v.s))) (by rw [bs_st]; exact replaceAllN _ _ _ _ _ _ v.s 0 0 255 (by omega)) ?_
      refine And.intro (.inl ⟨rfl, rfl⟩) (And.intro (.inl rfl) (And.intro ?_ ?_))
      · simp only [List.length_cons, List.length_nil, bs_len]; omega
      refine And.intro (.inl ⟨rfl, rfl⟩) (And.intro (.inl rfl) (And.intro ?_ ?_))
      · simp only [List.length_cons, List.length_nil, List.length_append, bs_len]; omega
      rw [Va.key, if_neg h1, if_pos h2]
      refine sl_eq ?_
      show [AV.int .u8 3] :: bs (esc 0 0 255 v.s) ++ _ = bs ([3] ++ (esc 0 0 255 v.s ++ [0, 1]))
      rw [← bs_app, ← bs_app]
      rfl
    · refine PCallN.weakRet (ret := .sl 1 (some false) true (bs v.key)) (.nl _ _ _ _) ?_
      refine PCallN.of (tr [2, 3, 6, 20, 28, 39]) f21 (Nat.le_of_ble_eq_true rfl) (np_cons v.np np_nil) (np_bs _) ?_
      refine cond_f (u8_ne (u8_val h1)) ?_
      refine cond_f (u8_ne (u8_val h2)) ?_
      rw [Va.key, if_neg h1, if_neg h2]
      exact sl_eq rfl

/-! ### keys of lists -/

def keys (l : List Va) : List UInt8 := (l.map Va.key).flatten
theorem keys_app (a b : List Va) : keys (a ++ b) = keys a ++ keys b := by simp [keys]

theorem key_len (v : Va) (h : v.s.length ≤ 200) : v.key.length ≤ 403 := by
  unfold Va.key
  split
  · simp [be_len]
  · split
    · have hc := List.count_le_length (a := (0 : UInt8)) (l := v.s)
      have he := esc_len 0 0 255 v.s
      simp only [List.length_cons, List.length_append, List.length_nil]; omega
    · simp

theorem keys_len : ∀ (l : List Va), (∀ v, v ∈ l → v.s.length ≤ 200) → (keys l).length ≤ 403 * l.length
  | [], _ => by simp [keys]
  | v :: l, h => by
    have h1 := key_len v (h v (by simp))
    have h2 := keys_len l (fun w hw => h w (by simp [hw]))
    have : keys (v :: l) = v.key ++ keys l := by simp [keys]
    rw [this, List.length_append, List.length_cons]
    omega

theorem np_words {ok : Nat → Prop} {sz : Nat} {nl : Option Bool} {own : Bool} (ws : List Va) : NP ok (.sl sz nl own (ws.map Va.c)) := by
  refine .sl _ _ _ _ fun x hx a ha => ?_
  obtain ⟨w, _, rfl⟩ := List.mem_map.1 hx
  have := w.np (ok := ok)
  exact this.agg_inv a ha

theorem words_get {ws : List Va} {i : Nat} (h : i < ws.length) : (ws.map Va.c)[i]? = some ws[i].c := by simp [h]

def keyAt (l : List Va) (acc : List UInt8) (i : Int) : List (Nat × AV) := [(3, .sl 1 none true (bs acc)), (6, .sl 3 none false (l.map Va.c)), (7, .int .i64 l.length), (8, .int .i64 i)]

theorem keyLoop (l : List Va) (hl : l.length ≤ 40) (hs : ∀ v, v ∈ l → v.s.length ≤ 200) (R : VE → Sy → Prop) (hR : R (.exit 0) ⟨[], [(3, .sl 1 none true (bs (keys l)))], []⟩) :
    ∀ (g i : Nat), i + g = l.length → VloopS Tryd.prog (tr [2, 3, 12, 15, 17]) 18 0 c12b0 (exW 18 R) ⟨[], keyAt l (keys (l.take i)) i, []⟩
  | 0, i, hg => by
    refine VloopS.round ?_
    refine cond_f (decide_eq_false (by omega)) ?_
    refine ex_w hR rfl ⟨.eq (sl_eq ?_), trivial⟩ rfl
    rw [List.take_of_length_le (by omega)]
  | g + 1, i, hg => by
    have hlt : i < l.length := by omega
    have hk := keys_len (l.take i) (fun v hv => hs v (List.mem_of_mem_take hv))
    rw [List.length_take] at hk
    have he := key_len l[i] (hs _ (List.getElem_mem hlt))
    refine VloopS.round ?_
    refine cond_t (decide_eq_true (by omega)) ?_
    refine And.intro rfl (And.intro (Int.natCast_nonneg i) (Exists.intro l[i].c (And.intro (words_get hlt) ?_)))
    refine call_p (oneN l[i] (by have := hs _ (List.getElem_mem hlt); omega)) ?_
    refine And.intro (.inl ⟨rfl, rfl⟩) (And.intro (.inl rfl) (And.intro ?_ ?_))
    · simp only [bs_len]; omega
    refine VloopS.weakBox (l := keyAt l (keys (l.take (i + 1))) ((i + 1 : Nat) : Int)) (h := []) (ex := [.cells l[i].c]) rfl ⟨.eq (sl_eq ?_), .refl _, .refl _, .eq (int_eq ?_), trivial⟩ rfl (Nat.zero_le _) ?_ (by simp) (keyLoop l hl hs R hR g (i + 1) (by omega))
    · rw [take_snoc l i hlt, keys_app, ← bs_app]
      simp [keys]
    · rw [i64_in _ (by omega)]; omega
    · intro p hp
      simp only [keyAt, List.mem_cons, List.not_mem_nil, or_false] at hp
      rcases hp with rfl | rfl | rfl | rfl
      · exact np_bs _
      · exact np_words _
      · exact .int _ _
      · exact .int _ _

theorem keyN (nl : Option Bool) (own : Bool) (l : List Va) (hl : l.length ≤ 40) (hs : ∀ v, v ∈ l → v.s.length ≤ 200) : PCallN Tryd.prog 12 [.sl 3 nl own (l.map Va.c)] (.sl 1 none true (bs (keys l))) := by
  refine PCallN.of (tr [2, 3, 12, 15, 17]) f12 (Nat.le_of_ble_eq_true rfl) (np_cons (np_words _) np_nil) (np_bs _) ?_
  refine VloopS.weakE (l := keyAt l (keys (l.take 0)) ((0 : Nat) : Int)) rfl ⟨.nil _ _ _ _ _ (by simp), .both _ _ _ _, .eq (int_eq ?_), .refl _, trivial⟩ rfl (Nat.zero_le _) (VloopS.exW (keyLoop l hl hs _ ?_ l.length 0 (by omega)))
  · rw [List.length_map]
  · exact sl_eq rfl

end Go.Proofs.YtlhdbbkfibibfaaDoor.V

/- Keys of lists joined: the law OrderJoins. -/
namespace Go.Proofs.YtlhdbbkfibibfaaDoor.V
open Go.IntWalk

def valAt (nl : Option Bool) (ws : List Va) (acc : List Va) (i : Int) : List (Nat × AV) := [(0, .sl 3 nl false (ws.map Va.c)), (3, .sl 3 none true (acc.map Va.c)), (4, .int .i64 i)]

theorem valLoop (nl : Option Bool) (ws : List Va) (hl : ws.length ≤ 1000) (R : VE → Sy → Prop) (hR : R (.exit 0) ⟨[], [(3, .sl 3 none true ((ws.map Va.of).map Va.c))], []⟩) :
    ∀ (g i : Nat), i + g = ws.length → VloopS Tryd.prog (tr [2, 3, 11, 18, 19]) 20 0 c11b0 (exW 20 R) ⟨[], valAt nl ws ((ws.take i).map Va.of) i, []⟩
  | 0, i, hg => by
    refine VloopS.round ?_
    refine cond_f (decide_eq_false (by rw [List.length_map]; omega)) ?_
    refine ex_w hR rfl ⟨.eq (sl_eq ?_), trivial⟩ rfl
    rw [List.take_of_length_le (by omega)]
  | g + 1, i, hg => by
    have hlt : i < ws.length := by omega
    refine VloopS.round ?_
    refine cond_t (decide_eq_true (by rw [List.length_map]; omega)) ?_
    refine And.intro rfl (And.intro (Int.natCast_nonneg i) (Exists.intro ws[i].c (And.intro (words_get hlt) ?_)))
    refine call_p (ofN ws[i]) ?_
    refine And.intro (.inl ⟨rfl, rfl⟩) (And.intro (.inl rfl) (And.intro ?_ ?_))
    · simp only [List.length_cons, List.length_nil, List.length_map, List.length_take]; omega
    refine VloopS.weakE (l := valAt nl ws ((ws.take (i + 1)).map Va.of) ((i + 1 : Nat) : Int)) rfl ⟨.refl _, .eq (sl_eq ?_), .eq (int_eq ?_), trivial⟩ rfl (Nat.zero_le _) (valLoop nl ws hl R hR g (i + 1) (by omega))
    · rw [take_snoc ws i hlt, List.map_append, List.map_append]
      rfl
    · rw [i64_in _ (by omega)]; omega

theorem valuesN (nl : Option Bool) (own : Bool) (ws : List Va) (hl : ws.length ≤ 1000) : PCallN Tryd.prog 11 [.sl 3 nl own (ws.map Va.c)] (.sl 3 none true ((ws.map Va.of).map Va.c)) := by
  refine PCallN.of (tr [2, 3, 11, 18, 19]) f11 (Nat.le_of_ble_eq_true rfl) (np_cons (np_words _) np_nil) (np_words _) ?_
  refine VloopS.weakE (l := valAt nl ws ((ws.take 0).map Va.of) ((0 : Nat) : Int)) rfl ⟨.strip _, .nil _ _ _ _ _ (by simp), .refl _, trivial⟩ rfl (Nat.zero_le _) (VloopS.exW (valLoop nl ws hl _ ?_ ws.length 0 (by omega)))
  exact sl_eq rfl

theorem smallN (nl : Option Bool) (own : Bool) (ws : List Va) : PCallN Tryd.prog 10 [.sl 3 nl own (ws.map Va.c)] (.bool (decide (ws.length ≤ 12))) := by
  refine PCallN.of (tr []) f10 (Nat.le_of_ble_eq_true rfl) (np_cons (np_words _) np_nil) (.bool _) ?_
  refine bool_eq ?_
  rw [List.length_map, decide_eq_decide]
  omega

theorem key_nought : keys [⟨1, 0, []⟩] = [2, 128, 0, 0, 0, 0, 0, 0, 0] := by decide +kernel
theorem key_text : keys [⟨2, 0, [0]⟩] = [3, 0, 255, 0, 1] := by decide +kernel

theorem noughtN : PCallN Tryd.prog 9 [] (.bool true) := by
  refine PCallN.of (tr []) f9 (Nat.le_of_ble_eq_true rfl) np_nil (.bool _) ?_
  refine call_p (keyN _ _ [⟨1, 0, []⟩] (by decide) (by decide)) ?_
  refine call_p (bytesN _ _ _ _ (keys [⟨1, 0, []⟩]) [2, 128, 0, 0, 0, 0, 0, 0, 0] (by rw [key_nought]; decide)) ?_
  refine guard_t (decide_eq_true key_nought) ?_
  repeat (first | refine guard_t rfl ?_ | refine guard_f (by decide) ?_)
  refine call_p (keyN _ _ [⟨2, 0, [0]⟩] (by decide) (by decide)) ?_
  repeat (first | refine guard_t rfl ?_ | refine guard_f (by decide) ?_)
  refine call_p (bytesN _ _ _ _ (keys [⟨2, 0, [0]⟩]) [3, 0, 255, 0, 1] (by rw [key_text]; decide)) ?_
  repeat (first | refine guard_t rfl ?_ | refine guard_f (by decide) ?_)
  rw [decide_eq_true key_nought, decide_eq_true key_text]
  rfl

theorem np_ww {ok : Nat → Prop} {sz sz' : Nat} {nl nl' : Option Bool} {own own' : Bool} (a b : List Va) : ∀ x, x ∈ [AV.sl sz nl own (a.map Va.c), AV.sl sz' nl' own' (b.map Va.c)] → NP ok x := np_cons (np_words _) (np_cons (np_words _) np_nil)

theorem of_small (ws : List Va) : ∀ v, v ∈ ws.map Va.of → v.s.length ≤ 200 := by
  intro v hv
  obtain ⟨w, _, rfl⟩ := List.mem_map.1 hv
  exact of_len w

theorem smallT (nl : Option Bool) (own : Bool) (ws : List Va) (h : ws.length ≤ 12) : PCallN Tryd.prog 10 [.sl 3 nl own (ws.map Va.c)] (.bool true) := by
  have := smallN nl own ws
  rwa [decide_eq_true h] at this
theorem smallF (nl : Option Bool) (own : Bool) (ws : List Va) (h : ¬ ws.length ≤ 12) : PCallN Tryd.prog 10 [.sl 3 nl own (ws.map Va.c)] (.bool false) := by
  have := smallN nl own ws
  rwa [decide_eq_false h] at this

theorem orderJoinsN (nl nl' : Option Bool) (own own' : Bool) (a b : List Va) : PCallN Tryd.prog 4 [.sl 3 nl own (a.map Va.c), .sl 3 nl' own' (b.map Va.c)] (.bool true) := by
  refine PCallN.of (tr [5, 6, 7, 22, 24, 25, 27, 28, 30]) f4 (Nat.le_of_ble_eq_true rfl) (np_ww _ _) (.bool _) ?_
  refine call_p noughtN ?_
  repeat (first | refine guard_t rfl ?_ | refine guard_f (by decide) ?_)
  by_cases ha : a.length ≤ 12
  · refine call_p (smallT _ _ a ha) ?_
    repeat (first | refine guard_t rfl ?_ | refine guard_f (by decide) ?_)
    by_cases hb : b.length ≤ 12
    · refine call_p (smallT _ _ b hb) ?_
      repeat (first | refine guard_t rfl ?_ | refine guard_f (by decide) ?_)
      refine cond_f rfl ?_
      refine call_p (valuesN _ _ a (by omega)) ?_
      refine call_p (valuesN _ _ b (by omega)) ?_
      have la : (a.map Va.of).length ≤ 12 := by rw [List.length_map]; exact ha
      have lb : (b.map Va.of).length ≤ 12 := by rw [List.length_map]; exact hb
      have sa := of_small a
      have sb := of_small b
      generalize a.map Va.of = x at la sa ⊢
      generalize b.map Va.of = y at lb sb ⊢
      refine And.intro (.inr ⟨rfl, rfl⟩) (And.intro (.inl rfl) (And.intro ?_ ?_))
      · simp only [List.length_nil, List.length_map]; omega
      refine And.intro (.inl ⟨rfl, rfl⟩) (And.intro (.inl rfl) (And.intro ?_ ?_))
      · simp only [List.length_append, List.length_nil, List.length_map]; omega
      refine call_p (ret := .sl 1 none true (bs (keys (x ++ y)))) (by
        have e : [] ++ x.map Va.c ++ y.map Va.c = (x ++ y).map Va.c := by simp
        rw [e]
        exact keyN _ _ (x ++ y) (by rw [List.length_append]; omega) (fun v hv => by rcases List.mem_append.1 hv with h | h; exact sa v h; exact sb v h)) ?_
      refine call_p (keyN _ _ x (by omega) sa) ?_
      refine call_p (keyN _ _ y (by omega) sb) ?_
      have hx := keys_len x sa
      have hy := keys_len y sb
      refine call_p (joinN _ _ _ _ (keys x) (keys y) (by omega)) ?_
      refine call_p (bytesN _ _ _ _ (keys (x ++ y)) (keys x ++ keys y) (by rw [keys_app, List.length_append]; omega)) ?_
      exact bool_eq (decide_eq_true (keys_app x y))
    · refine call_p (smallF _ _ b hb) ?_
      repeat (first | refine guard_t rfl ?_ | refine guard_f (by decide) ?_)
      refine cond_t rfl ?_
      refine call_p noughtN ?_
      exact bool_eq rfl
  · refine call_p (smallF _ _ a ha) ?_
    repeat (first | refine guard_t rfl ?_ | refine guard_f (by decide) ?_)
    refine cond_t rfl ?_
    refine call_p noughtN ?_
    exact bool_eq rfl

end Go.Proofs.YtlhdbbkfibibfaaDoor.V
