/-
  The law OrderKeeps: keys stand as the lists do.
-/
import Derived.Test.YtlhdbbkfibibfaaDoorGb

/- Keys stand as the values do. -/
namespace Go.Proofs.YtlhdbbkfibibfaaDoor.V
open Go.IntWalk Go.Lib

theorem cb_cons (a b : UInt8) (r s : List UInt8) : compareBytes (a :: r) (b :: s) = if a.toNat < b.toNat then -1 else if b.toNat < a.toNat then 1 else compareBytes r s := by
  conv => lhs; unfold compareBytes
  simp only [UInt8.lt_iff_toNat_lt]

theorem cb_same (a : UInt8) (r s : List UInt8) : compareBytes (a :: r) (a :: s) = compareBytes r s := by
  rw [cb_cons, if_neg (Nat.lt_irrefl _), if_neg (Nat.lt_irrefl _)]

theorem esc_cons_t (c p q : UInt8) (l : List UInt8) : esc c p q (c :: l) = p :: q :: esc c p q l := by rw [esc, if_pos rfl]
theorem esc_cons_f (c p q b : UInt8) (l : List UInt8) (h : b ≠ c) : esc c p q (b :: l) = b :: esc c p q l := by rw [esc, if_neg h]

theorem u8_pos {b : UInt8} (h : b ≠ 0) : (0 : UInt8).toNat < b.toNat := by
  show 0 < b.toNat
  rcases Nat.eq_zero_or_pos b.toNat with h0 | h0
  · exact absurd (UInt8.toNat_inj.1 h0) h
  · exact h0

/-- Texts' keys. -/
theorem esc_cmp (r r' : List UInt8) : ∀ s s' : List UInt8, compareBytes (esc 0 0 255 s ++ (0 :: 1 :: r)) (esc 0 0 255 s' ++ (0 :: 1 :: r')) = if compareBytes s s' ≠ 0 then compareBytes s s' else compareBytes r r'
  | [], [] => by
    rw [cb_self, if_neg (fun h => h rfl)]
    show compareBytes (0 :: 1 :: r) (0 :: 1 :: r') = _
    rw [cb_same, cb_same]
  | [], b :: t => by
    have h0 : compareBytes [] (b :: t) = -1 := rfl
    rw [h0, if_pos (by decide)]
    by_cases hb : b = 0
    · subst hb
      rw [esc_cons_t]
      show compareBytes (0 :: 1 :: r) (0 :: 255 :: _) = -1
      rw [cb_same, cb_cons, if_pos (by decide)]
    · rw [esc_cons_f _ _ _ _ _ hb]
      show compareBytes (0 :: 1 :: r) (b :: _) = -1
      rw [cb_cons, if_pos (u8_pos hb)]
  | a :: s, [] => by
    have h0 : compareBytes (a :: s) [] = 1 := rfl
    rw [h0, if_pos (by decide)]
    by_cases ha : a = 0
    · subst ha
      rw [esc_cons_t]
      show compareBytes (0 :: 255 :: _) (0 :: 1 :: r') = 1
      rw [cb_same, cb_cons, if_neg (by decide), if_pos (by decide)]
    · rw [esc_cons_f _ _ _ _ _ ha]
      show compareBytes (a :: _) (0 :: 1 :: r') = 1
      rw [cb_cons, if_neg (Nat.lt_asymm (u8_pos ha)), if_pos (u8_pos ha)]
  | a :: s, b :: t => by
    have ih := esc_cmp r r' s t
    by_cases hab : a = b
    · subst hab
      rw [cb_same]
      by_cases ha : a = 0
      · subst ha
        rw [esc_cons_t, esc_cons_t]
        show compareBytes (0 :: 255 :: _) (0 :: 255 :: _) = _
        rw [cb_same, cb_same]
        exact ih
      · rw [esc_cons_f _ _ _ _ _ ha, esc_cons_f _ _ _ _ _ ha]
        show compareBytes (a :: _) (a :: _) = _
        rw [cb_same]
        exact ih
    · have hn : a.toNat ≠ b.toNat := fun e => hab (UInt8.toNat_inj.1 e)
      have key : ∀ x y : List UInt8, compareBytes (a :: x) (b :: y) = if a.toNat < b.toNat then -1 else 1 := by
        intro x y
        rw [cb_cons]
        by_cases h : a.toNat < b.toNat
        · rw [if_pos h, if_pos h]
        · rw [if_neg h, if_neg h, if_pos (by omega)]
      rw [key, if_pos (by split <;> decide)]
      by_cases ha : a = 0
      · subst ha
        rw [esc_cons_t, esc_cons_f _ _ _ _ _ (fun e => hab e.symm)]
        exact key _ _
      · by_cases hb : b = 0
        · subst hb
          rw [esc_cons_t, esc_cons_f _ _ _ _ _ ha]
          exact key _ _
        · rw [esc_cons_f _ _ _ _ _ ha, esc_cons_f _ _ _ _ _ hb]
          exact key _ _

theorem sgn_zero {a b : Int} : sgn a b = 0 ↔ a = b := by
  unfold sgn
  split
  · simp; omega
  · split
    · simp; omega
    · simp; omega

/-- Numbers' bytes. -/
theorem be_cmp : ∀ (m : Nat) (a b : Int) (r s : List UInt8), 0 ≤ a → 0 ≤ b → a < 256 ^ m → b < 256 ^ m →
    compareBytes (be a m ++ r) (be b m ++ s) = if sgn a b ≠ 0 then sgn a b else compareBytes r s
  | 0, a, b, r, s, ha, hb, ha', hb' => by
    have e : a = b := by simp at ha' hb'; omega
    rw [if_neg (fun h => h (sgn_zero.2 e))]
    rfl
  | m + 1, a, b, r, s, ha, hb, ha', hb' => by
    have pw : (256 : Int) ^ (m + 1) = 256 ^ m * 256 := Int.pow_succ 256 m
    rw [be_snoc, be_snoc, List.append_assoc, List.append_assoc]
    have ih := be_cmp m (a / 256) (b / 256) ([byteAt a 0] ++ r) ([byteAt b 0] ++ s) (by omega) (by omega) (by rw [pw] at ha'; omega) (by rw [pw] at hb'; omega)
    rw [ih]
    have e1 := byteAt_toNat a 0
    have e2 := byteAt_toNat b 0
    simp only [Nat.mul_zero, Int.pow_zero, Int.ediv_one] at e1 e2
    by_cases hq : a / 256 = b / 256
    · rw [if_neg (fun h => h (sgn_zero.2 hq))]
      show compareBytes (byteAt a 0 :: r) (byteAt b 0 :: s) = _
      rw [cb_cons]
      unfold sgn
      by_cases h1 : a < b
      · rw [if_pos (by omega), if_pos h1, if_pos (by decide)]
      · rw [if_neg (by omega), if_neg h1]
        by_cases h2 : a > b
        · rw [if_pos (by omega), if_pos h2, if_pos (by decide)]
        · rw [if_neg (by omega), if_neg h2, if_neg (by simp)]
    · rw [if_pos (fun h => hq (sgn_zero.1 h))]
      have : sgn (a / 256) (b / 256) = sgn a b := by
        unfold sgn
        by_cases h1 : a < b
        · rw [if_pos (by omega), if_pos h1]
        · rw [if_neg (by omega), if_neg h1, if_pos (by omega), if_pos (by omega)]
      rw [this, if_pos (fun h => hq (by rw [sgn_zero.1 h]))]

theorem xor_top (u : Nat) (h : u < 2 ^ 63) : 2 ^ 63 ^^^ u = 2 ^ 63 + u := by
  apply Nat.eq_of_testBit_eq
  intro i
  rw [Nat.testBit_xor, Nat.testBit_two_pow]
  rcases Nat.lt_trichotomy i 63 with hi | hi | hi
  · rw [Nat.testBit_two_pow_add_gt hi, decide_eq_false (by omega), Bool.false_xor]
  · subst hi
    rw [Nat.testBit_two_pow_add_eq, decide_eq_true rfl, Bool.true_xor]
  · have h1 : u.testBit i = false := Nat.testBit_lt_two_pow (Nat.lt_of_lt_of_le h (Nat.pow_le_pow_right (by decide) (by omega)))
    have h2 : (2 ^ 63 + u).testBit i = false := Nat.testBit_lt_two_pow (Nat.lt_of_lt_of_le (show 2 ^ 63 + u < 2 ^ 64 by omega) (Nat.pow_le_pow_right (by decide) (by omega)))
    rw [h1, h2, decide_eq_false (by omega)]
    rfl

theorem turn_val (n : Int) (h0 : -9223372036854775808 ≤ n) (h1 : n ≤ 9223372036854775807) : turn n = n + 9223372036854775808 := by
  unfold turn
  rw [w_u64, w_u64, BitVec.toNat_xor, BitVec.toNat_ofInt, BitVec.toNat_ofInt]
  have e2 : ((9223372036854775808 : Int) % ((2 ^ 64 : Nat) : Int)).toNat = 2 ^ 63 := by decide
  rw [e2]
  have p64 : ((2 ^ 64 : Nat) : Int) = 18446744073709551616 := by decide
  rw [p64]
  have p63 : (2 : Nat) ^ 63 = 9223372036854775808 := by decide
  by_cases hn : 0 ≤ n
  · have e : (n % 18446744073709551616 % 18446744073709551616).toNat = n.toNat := by omega
    rw [e, Nat.xor_comm, xor_top _ (by omega)]
    omega
  · have e : (n % 18446744073709551616 % 18446744073709551616).toNat = 2 ^ 63 + (n + 9223372036854775808).toNat := by omega
    rw [e, ← xor_top _ (by omega), Nat.xor_comm, ← Nat.xor_assoc, Nat.xor_self, Nat.zero_xor]
    omega

def Va.cmp (x y : Va) : Int := if sgn x.k.toNat y.k.toNat ≠ 0 then sgn x.k.toNat y.k.toNat else if sgn x.n y.n ≠ 0 then sgn x.n y.n else compareBytes x.s y.s

theorem right_kinds {x : Va} (h : x.right = true) : (x.k = 0 ∧ x.n = 0 ∧ x.s = []) ∨ (x.k = 1 ∧ x.s = []) ∨ (x.k = 2 ∧ x.n = 0) := by
  unfold Va.right at h
  by_cases h0 : x.k = 0
  · rw [if_pos h0] at h
    simp only [Bool.and_eq_true, beq_iff_eq, decide_eq_true_eq] at h
    exact .inl ⟨h0, h.1, h.2⟩
  · rw [if_neg h0] at h
    by_cases h1 : x.k = 1
    · rw [if_pos h1] at h
      exact .inr (.inl ⟨h1, of_decide_eq_true h⟩)
    · rw [if_neg h1] at h
      by_cases h2 : x.k = 2
      · rw [if_pos h2] at h
        simp only [Bool.and_eq_true, beq_iff_eq, decide_eq_true_eq] at h
        exact .inr (.inr ⟨h2, h.1⟩)
      · rw [if_neg h2] at h; cases h

theorem key_cmp (x y : Va) (hx : x.right = true) (hy : y.right = true) (ox : x.ok) (oy : y.ok) (r s : List UInt8) :
    compareBytes (x.key ++ r) (y.key ++ s) = if x.cmp y ≠ 0 then x.cmp y else compareBytes r s := by
  obtain ⟨k, n, t⟩ := x
  obtain ⟨k', n', t'⟩ := y
  have e0 : ∀ n : Int, sgn n n = 0 := fun n => sgn_zero.2 rfl
  have k0 : ∀ n t, Va.key ⟨0, n, t⟩ = [1] := fun _ _ => rfl
  have k1 : ∀ n t, Va.key ⟨1, n, t⟩ = 2 :: be (turn n) 8 := fun _ _ => rfl
  have k2 : ∀ n t, Va.key ⟨2, n, t⟩ = 3 :: (esc 0 0 255 t ++ [0, 1]) := fun _ _ => rfl
  have p8 : (256 : Int) ^ 8 = 18446744073709551616 := by decide
  unfold Va.ok at ox oy
  rcases right_kinds hx with ⟨h1, h2, h3⟩ | ⟨h1, h2⟩ | ⟨h1, h2⟩ <;> rcases right_kinds hy with ⟨g1, g2, g3⟩ | ⟨g1, g2⟩ | ⟨g1, g2⟩ <;> simp only at h1 h2 g1 g2 ox oy <;> subst h1 h2 g1 g2
  · simp only at h3 g3
    subst h3 g3
    rw [k0]
    exact cb_same _ _ _
  · rw [k0, k1]; rfl
  · rw [k0, k2]; rfl
  · rw [k1, k0]; rfl
  · rw [k1, k1]
    show compareBytes (2 :: (be (turn n) 8 ++ r)) (2 :: (be (turn n') 8 ++ s)) = _
    rw [cb_same, be_cmp 8 _ _ _ _ (by rw [turn_val n ox.1 ox.2]; omega) (by rw [turn_val n' oy.1 oy.2]; omega) (by rw [turn_val n ox.1 ox.2, p8]; omega) (by rw [turn_val n' oy.1 oy.2, p8]; omega)]
    have : sgn (turn n) (turn n') = sgn n n' := by
      rw [turn_val n ox.1 ox.2, turn_val n' oy.1 oy.2]
      unfold sgn
      by_cases h1 : n < n'
      · rw [if_pos (by omega), if_pos h1]
      · rw [if_neg (by omega), if_neg h1]
        by_cases h2 : n > n'
        · rw [if_pos (by omega), if_pos h2]
        · rw [if_neg (by omega), if_neg h2]
    rw [this]
    unfold Va.cmp
    simp only [e0, cb_self, ne_eq, not_true_eq_false, ↓reduceIte]
    by_cases h : sgn n n' = 0
    · simp [h]
    · simp [h]
  · rw [k1, k2]; rfl
  · rw [k2, k0]; rfl
  · rw [k2, k1]; rfl
  · rw [k2, k2]
    have a1 : ∀ (u r : List UInt8), (3 :: (u ++ [0, 1])) ++ r = 3 :: (u ++ (0 :: 1 :: r)) := by intro u r; simp
    rw [a1, a1, cb_same, esc_cmp]
    unfold Va.cmp
    simp only [e0, ne_eq, not_true_eq_false, ↓reduceIte]

theorem key_ne (x : Va) : ∃ b l, x.key = b :: l := by
  unfold Va.key
  split
  · exact ⟨_, _, rfl⟩
  · split
    · exact ⟨_, _, rfl⟩
    · exact ⟨_, _, rfl⟩

/-- Lists' order. -/
def cmpL : List Va → List Va → Int
  | [], [] => 0
  | [], _ :: _ => -1
  | _ :: _, [] => 1
  | x :: xs, y :: ys => if x.cmp y ≠ 0 then x.cmp y else cmpL xs ys

theorem keys_cmp : ∀ (xs ys : List Va), (∀ v, v ∈ xs → v.right = true ∧ v.ok) → (∀ v, v ∈ ys → v.right = true ∧ v.ok) → compareBytes (keys xs) (keys ys) = cmpL xs ys
  | [], [], _, _ => rfl
  | [], y :: ys, _, _ => by
    obtain ⟨b, l, e⟩ := key_ne y
    show compareBytes [] (y.key ++ keys ys) = -1
    rw [e]; rfl
  | x :: xs, [], _, _ => by
    obtain ⟨b, l, e⟩ := key_ne x
    show compareBytes (x.key ++ keys xs) [] = 1
    rw [e]; rfl
  | x :: xs, y :: ys, hx, hy => by
    show compareBytes (x.key ++ keys xs) (y.key ++ keys ys) = _
    obtain ⟨a1, a2⟩ := hx x (by simp)
    obtain ⟨b1, b2⟩ := hy y (by simp)
    rw [key_cmp x y a1 b1 a2 b2, keys_cmp xs ys (fun v hv => hx v (by simp [hv])) (fun v hv => hy v (by simp [hv]))]
    rfl

end Go.Proofs.YtlhdbbkfibibfaaDoor.V

/- Values and lists of values held against each other; the law OrderKeeps. -/
namespace Go.Proofs.YtlhdbbkfibibfaaDoor.V
open Go.IntWalk Go.Lib

theorem right_same (x y : Va) (hx : x.right = true) (hy : y.right = true) (hk : x.k = y.k) : (x.n = 0 ∧ y.n = 0) ∨ (x.s = [] ∧ y.s = []) := by
  unfold Va.right at hx hy
  rw [← hk] at hy
  by_cases h0 : x.k = 0
  · rw [if_pos h0] at hx hy
    simp only [Bool.and_eq_true, beq_iff_eq, decide_eq_true_eq] at hx hy
    exact .inl ⟨hx.1, hy.1⟩
  · rw [if_neg h0] at hx hy
    by_cases h1 : x.k = 1
    · rw [if_pos h1] at hx hy
      exact .inr ⟨of_decide_eq_true hx, of_decide_eq_true hy⟩
    · rw [if_neg h1] at hx hy
      by_cases h2 : x.k = 2
      · rw [if_pos h2] at hx hy
        simp only [Bool.and_eq_true, beq_iff_eq, decide_eq_true_eq] at hx hy
        exact .inl ⟨hx.1, hy.1⟩
      · rw [if_neg h2] at hx; cases hx

theorem st_less (a b : List UInt8) : Op.bytesLess (st a).toList (st b).toList = decide (compareBytes a b < 0) := by rw [st_list, st_list, cb_less]
theorem st_more (a b : List UInt8) : (!(Op.bytesLess (st a).toList (st b).toList || (st a).toList == (st b).toList)) = decide (compareBytes a b > 0) := by
  rw [st_beq, st_less]
  by_cases e : a = b
  · subst e
    rw [cb_self, decide_eq_true rfl]; rfl
  · rw [decide_eq_false e, Bool.or_false]
    have h0 : compareBytes a b ≠ 0 := fun h => e (cb_eq h)
    by_cases h : compareBytes a b < 0
    · rw [decide_eq_true h, decide_eq_false (by omega)]; rfl
    · rw [decide_eq_false h, decide_eq_true (by omega)]; rfl

theorem rCompareN (x y : Va) (hx : x.right = true) (hy : y.right = true) : PCallN Tryd.prog 22 [x.av, y.av] (.int .i64 (x.cmp y)) := by
  refine PCallN.of (tr []) f22 (Nat.le_of_ble_eq_true rfl) (np_cons x.np (np_cons y.np np_nil)) (.int _ _) ?_
  by_cases hk : x.k = y.k
  · have hs := right_same x y hx hy hk
    obtain ⟨k, n, s⟩ := x
    obtain ⟨k', n', s'⟩ := y
    simp only at hk hs
    subst hk
    refine cond_f (bne_self_eq_false _) ?_
    have hc : ∀ n n' s s', Va.cmp ⟨k, n, s⟩ ⟨k, n', s'⟩ = if sgn n n' ≠ 0 then sgn n n' else compareBytes s s' := by
      intro n n' s s'
      unfold Va.cmp
      rw [show sgn (k.toNat : Int) k.toNat = 0 by unfold sgn; rw [if_neg (Int.lt_irrefl _), if_neg (Int.lt_irrefl _)], if_neg (fun h => h rfl)]
    rw [hc]
    have hv := cb_val s s'
    rcases hs with ⟨rfl, rfl⟩ | ⟨rfl, rfl⟩
    · rw [show sgn 0 0 = 0 from rfl, if_neg (fun h => h rfl)]
      repeat (first | refine guard_t rfl ?_ | refine guard_f (by decide) ?_)
      by_cases h1 : compareBytes s s' < 0
      · refine cond_t (by rw [st_less]; exact decide_eq_true h1) ?_
        exact int_eq (by omega)
      · refine cond_f (by rw [st_less]; exact decide_eq_false h1) ?_
        repeat (first | refine guard_t rfl ?_ | refine guard_f (by decide) ?_)
        by_cases h2 : compareBytes s s' > 0
        · refine cond_t (by rw [st_more]; exact decide_eq_true h2) ?_
          exact int_eq (by omega)
        · refine cond_f (by rw [st_more]; exact decide_eq_false h2) ?_
          exact int_eq (by omega)
    · unfold sgn
      by_cases h1 : n < n'
      · (refine guard_f (by rw [decide_eq_true h1]; decide) ?_; repeat (first | refine guard_t rfl ?_ | refine guard_f (by decide) ?_))
        refine cond_t rfl ?_
        exact int_eq (by rw [if_pos h1]; rfl)
      · (refine guard_t (decide_eq_false h1) ?_; repeat (first | refine guard_t rfl ?_ | refine guard_f (by decide) ?_))
        refine cond_f (by rw [st_less]; rfl) ?_
        by_cases h2 : n > n'
        · (refine guard_f (by rw [decide_eq_true h2]; decide) ?_; repeat (first | refine guard_t rfl ?_ | refine guard_f (by decide) ?_))
          refine cond_t rfl ?_
          exact int_eq (by rw [if_neg h1, if_pos h2]; rfl)
        · (refine guard_t (decide_eq_false h2) ?_; repeat (first | refine guard_t rfl ?_ | refine guard_f (by decide) ?_))
          refine cond_f (by rw [st_more]; rfl) ?_
          exact int_eq (by rw [if_neg h1, if_neg h2]; rfl)
  · refine cond_t (bne_iff_ne.2 fun e => hk (UInt8.toNat_inj.1 (by omega))) ?_
    unfold Va.cmp sgn
    by_cases h1 : (x.k.toNat : Int) < y.k.toNat
    · refine cond_t (decide_eq_true h1) ?_
      exact int_eq (by rw [if_pos h1]; rfl)
    · refine cond_f (decide_eq_false h1) ?_
      have h2 : (x.k.toNat : Int) > y.k.toNat := by
        have : x.k.toNat ≠ y.k.toNat := fun e => hk (UInt8.toNat_inj.1 e)
        omega
      exact int_eq (by rw [if_neg h1, if_pos h2]; rfl)

/-! the order, plainly -/

def cmAt (a b : List Va) (i : Nat) : List (Nat × AV) := [(0, .sl 3 none false (a.map Va.c)), (1, .sl 3 none false (b.map Va.c)), (5, .int .i64 i)]

theorem cmLoop (a b : List Va) (ha : ∀ v, v ∈ a → v.right = true) (hb : ∀ v, v ∈ b → v.right = true) (hl : a.length ≤ 1000000) (R : VE → Sy → Prop)
    (hr : R .ret ⟨[], [(4, .int .i64 (cmpL a b))], []⟩) (hR : cmpL a b = sgn a.length b.length → R (.exit 0) ⟨[], [(0, .sl 3 none false (a.map Va.c)), (1, .sl 3 none false (b.map Va.c))], []⟩) :
    ∀ (g i : Nat), i + g = a.length → i ≤ b.length → cmpL (a.drop i) (b.drop i) = cmpL a b → VloopS Tryd.prog (tr []) 41 0 c13b0 (exW 41 R) ⟨[], cmAt a b i, []⟩
  | 0, i, hg, hi, hc => by
    refine VloopS.round ?_
    have h1 : ¬ ((i : Int) < ((a.map Va.c).length : Nat)) := by rw [List.length_map]; omega
    refine guard_f (by rw [decide_eq_false h1]; decide) ?_
    rw [decide_eq_false h1]
    repeat (first | refine guard_t rfl ?_ | refine guard_f (by decide) ?_ | refine cond_t rfl ?_ | refine cond_f rfl ?_)
    refine ex_w (hR ?_) rfl ⟨.refl _, .refl _, trivial⟩ rfl
    rw [← hc, List.drop_eq_nil_of_le (by omega : a.length ≤ i)]
    unfold sgn
    cases hq : b.drop i with
    | nil =>
      have := List.drop_eq_nil_iff.1 hq
      rw [if_neg (by omega), if_neg (by omega)]; rfl
    | cons y ys =>
      have : i < b.length := by
        rcases Nat.lt_or_ge i b.length with h | h
        · exact h
        · rw [List.drop_eq_nil_of_le h] at hq; cases hq
      rw [if_pos (by omega)]; rfl
  | g + 1, i, hg, hi, hc => by
    have hlt : i < a.length := by omega
    refine VloopS.round ?_
    have h1 : ((i : Int) < ((a.map Va.c).length : Nat)) := by rw [List.length_map]; omega
    refine guard_t (decide_eq_true h1) ?_
    rw [decide_eq_true h1]
    repeat (first | refine guard_t rfl ?_ | refine guard_f (by decide) ?_)
    by_cases hb' : i < b.length
    · refine cond_t (decide_eq_true (by rw [List.length_map]; omega)) ?_
      refine And.intro rfl (And.intro (Int.natCast_nonneg i) (Exists.intro a[i].c (And.intro (words_get hlt) ?_)))
      refine And.intro rfl (And.intro (Int.natCast_nonneg i) (Exists.intro b[i].c (And.intro (words_get hb') ?_)))
      refine call_d (rCompareN a[i] b[i] (ha _ (List.getElem_mem hlt)) (hb _ (List.getElem_mem hb'))) ?_
      refine And.intro (by kernel_rfl) ?_
      have hd := hc
      rw [List.drop_eq_getElem_cons hlt, List.drop_eq_getElem_cons hb'] at hd
      by_cases hz : a[i].cmp b[i] = 0
      · refine cond_f (by rw [hz]; rfl) ?_
        refine VloopS.weakE (l := cmAt a b (i + 1)) rfl ⟨.refl _, .refl _, .eq (int_eq ?_), trivial⟩ rfl (Nat.zero_le _) (cmLoop a b ha hb hl R hr hR g (i + 1) (by omega) (by omega) ?_)
        · rw [i64_in _ (by omega)]; omega
        · rw [← hd]
          show _ = if _ then _ else _
          rw [if_neg (fun h => h hz)]
      · refine cond_t (bne_iff_ne.2 hz) ?_
        refine ex_w hr rfl ⟨.eq (int_eq ?_), trivial⟩ rfl
        rw [← hd]
        show _ = if _ then _ else _
        rw [if_pos hz]
    · refine cond_f (decide_eq_false (by rw [List.length_map]; omega)) ?_
      refine ex_w (hR ?_) rfl ⟨.refl _, .refl _, trivial⟩ rfl
      rw [← hc, List.drop_eq_getElem_cons hlt, List.drop_eq_nil_of_le (by omega : b.length ≤ i)]
      unfold sgn
      rw [if_neg (by omega), if_pos (by omega)]
      rfl

theorem compareLN (nl nl' : Option Bool) (own own' : Bool) (a b : List Va) (ha : ∀ v, v ∈ a → v.right = true) (hb : ∀ v, v ∈ b → v.right = true) (hl : a.length ≤ 1000000) :
    PCallN Tryd.prog 13 [.sl 3 nl own (a.map Va.c), .sl 3 nl' own' (b.map Va.c)] (.int .i64 (cmpL a b)) := by
  refine PCallN.of (tr []) f13 (Nat.le_of_ble_eq_true rfl) (np_ww _ _) (.int _ _) ?_
  refine VloopS.weakE (l := cmAt a b 0) rfl ⟨.both _ _ _ _, .both _ _ _ _, .eq (int_eq rfl), trivial⟩ rfl (Nat.zero_le _) (VloopS.exW (cmLoop a b ha hb hl _ ?_ ?_ a.length 0 (by omega) (by omega) rfl))
  · exact rfl
  · intro hs
    rw [hs]
    unfold sgn
    by_cases h1 : ((a.length : Nat) : Int) < b.length
    · refine cond_t (decide_eq_true (by rw [List.length_map, List.length_map]; exact h1)) ?_
      exact int_eq (by rw [if_pos h1])
    · refine cond_f (decide_eq_false (by rw [List.length_map, List.length_map]; exact h1)) ?_
      by_cases h2 : ((a.length : Nat) : Int) > b.length
      · refine cond_t (decide_eq_true (by rw [List.length_map, List.length_map]; exact h2)) ?_
        exact int_eq (by rw [if_neg h1, if_pos h2])
      · refine cond_f (decide_eq_false (by rw [List.length_map, List.length_map]; exact h2)) ?_
        exact int_eq (by rw [if_neg h1, if_neg h2])

end Go.Proofs.YtlhdbbkfibibfaaDoor.V

/- The law OrderKeeps: keys stand as the lists do. -/
namespace Go.Proofs.YtlhdbbkfibibfaaDoor.V
open Go.IntWalk Go.Lib

theorem vals_ok (ws : List Va) (h : ∀ w, w ∈ ws → w.ok) : ∀ v, v ∈ ws.map Va.of → v.right = true ∧ v.ok := by
  intro v hv
  obtain ⟨w, hw, rfl⟩ := List.mem_map.1 hv
  exact ⟨of_right w, of_ok w (h w hw)⟩

theorem orderKeepsN (nl nl' : Option Bool) (own own' : Bool) (a b : List Va) (oa : ∀ w, w ∈ a → w.ok) (ob : ∀ w, w ∈ b → w.ok) : PCallN Tryd.prog 3 [.sl 3 nl own (a.map Va.c), .sl 3 nl' own' (b.map Va.c)] (.bool true) := by
  refine PCallN.of (tr []) f3 (Nat.le_of_ble_eq_true rfl) (np_ww _ _) (.bool _) ?_
  refine call_p noughtN ?_
  repeat (first | refine guard_t rfl ?_ | refine guard_f (by decide) ?_)
  by_cases ha : a.length ≤ 12
  · refine call_p (smallT _ _ a ha) ?_
    repeat (first | refine guard_t rfl ?_ | refine guard_f (by decide) ?_)
    by_cases hb : b.length ≤ 12
    · refine call_p (smallT _ _ b hb) ?_
      repeat (first | refine guard_t rfl ?_ | refine guard_f (by decide) ?_)
      refine cond_f rfl ?_
      refine call_p (valuesN _ _ a (by omega)) ?_
      refine call_p (valuesN _ _ b (by omega)) ?_
      have la : (a.map Va.of).length ≤ 12 := by rw [List.length_map]; exact ha
      have lb : (b.map Va.of).length ≤ 12 := by rw [List.length_map]; exact hb
      have sa := of_small a
      have sb := of_small b
      have ra := vals_ok a oa
      have rb := vals_ok b ob
      generalize a.map Va.of = x at la sa ra ⊢
      generalize b.map Va.of = y at lb sb rb ⊢
      have hc := keys_cmp x y ra rb
      refine call_d (keyN _ _ x (by omega) sa) ?_
      refine Exists.intro (keys x) (And.intro (toBytes_bs _) ?_)
      refine call_d (keyN _ _ y (by omega) sb) ?_
      refine Exists.intro (keys y) (And.intro (toBytes_bs _) ?_)
      refine And.intro (by kernel_rfl) ?_
      refine call_p (compareLN _ _ _ _ x y (fun v hv => (ra v hv).1) (fun v hv => (rb v hv).1) (by omega)) ?_
      have hA : (Op.bytesLess (ByteArray.mk (keys x).toArray).toList (ByteArray.mk (keys y).toArray).toList == decide (cmpL x y < 0)) = true := by
        have := st_less (keys x) (keys y)
        rw [hc] at this
        exact beq_iff_eq.2 this
      have hB : (((ByteArray.mk (keys x).toArray).toList == (ByteArray.mk (keys y).toArray).toList) == (cmpL x y == 0)) = true := by
        have := st_beq (keys x) (keys y)
        refine beq_iff_eq.2 (Eq.trans this ?_)
        by_cases e : keys x = keys y
        · rw [decide_eq_true e, ← hc, e, cb_self]; rfl
        · rw [decide_eq_false e]
          exact (beq_eq_false_iff_ne.2 (fun h => e (cb_eq (hc.trans h)))).symm
      have hC : ((!(Op.bytesLess (ByteArray.mk (keys x).toArray).toList (ByteArray.mk (keys y).toArray).toList || (ByteArray.mk (keys x).toArray).toList == (ByteArray.mk (keys y).toArray).toList)) == decide (cmpL x y > 0)) = true := by
        have := st_more (keys x) (keys y)
        rw [hc] at this
        exact beq_iff_eq.2 this
      refine guard_t hA ?_
      rw [hA]
      repeat (first | refine guard_t rfl ?_ | refine guard_f (by decide) ?_)
      refine guard_t hB ?_
      rw [hB]
      repeat (first | refine guard_t rfl ?_ | refine guard_f (by decide) ?_)
      exact bool_eq hC
    · refine call_p (smallF _ _ b hb) ?_
      repeat (first | refine guard_t rfl ?_ | refine guard_f (by decide) ?_)
      refine cond_t rfl ?_
      refine call_p noughtN ?_
      exact bool_eq rfl
  · refine call_p (smallF _ _ a ha) ?_
    repeat (first | refine guard_t rfl ?_ | refine guard_f (by decide) ?_)
    refine cond_t rfl ?_
    refine call_p noughtN ?_
    exact bool_eq rfl

end Go.Proofs.YtlhdbbkfibibfaaDoor.V
