/-
  What was shown of another layer, at this layer's numbers.
-/
import Derived.Test.YtmjdoonaidolkaaDoorGa
import Derived.Test.YtmjdoonaidolkaaDoorFc
import Derived.Lib.BytesEntry

/- What was shown of another layer, at this layer's numbers. -/
namespace Go.Proofs.YtmjdoonaidolkaaDoor.V

open Go.IntWalk

/-- The number of bytes, the highest first. -/
def num (l : List UInt8) : UInt64 := l.foldl (fun n b => n <<< 8 ||| b.toUInt64) 0

theorem takeN (nl : Option Bool) (own : Bool) (l : List UInt8) (n : Nat) (h : n ≤ l.length) : PCallN Tryd.prog 61 [.sl 1 nl own (bs l), .int .i64 n] (.tup [.sl 1 nl false (bs (l.take n)), .sl 1 nl false (bs (l.drop n)), .bool true]) := by
  refine PCallN.of (tr []) f61 (Nat.le_of_ble_eq_true rfl) (np_cons (np_bs _) (np_cons (.int _ _) np_nil)) (.tup _ (np_cons (np_bs _) (np_cons (np_bs _) (np_cons (.bool _) np_nil)))) ?_
  refine cond_f (decide_eq_false (by rw [bs_len]; omega)) ?_
  refine And.intro (.inl rfl) (And.intro (by rw [bs_len]; omega) ?_)
  refine And.intro (.inl rfl) (And.intro (by rw [bs_len]; omega) ?_)
  refine And.intro (by kernel_rfl) ?_
  refine tup3 (sl_eq ?_) (sl_eq ?_) (bool_eq rfl)
  · exact cut_bs (a := 0) rfl rfl h
  · rw [cut_bs rfl (congrArg Nat.cast (bs_len l)) (Nat.le_refl _), List.take_of_length_le (by simp)]

theorem takeF (nl : Option Bool) (own : Bool) (l : List UInt8) (n : Int) (h : l.length < n) : PCallN Tryd.prog 61 [.sl 1 nl own (bs l), .int .i64 n] (.tup [.sl 0 (some true) false [], .sl 0 (some true) false [], .bool false]) := by
  refine PCallN.of (tr []) f61 (Nat.le_of_ble_eq_true rfl) (np_cons (np_bs _) (np_cons (.int _ _) np_nil)) (.tup _ (np_cons np_nilsl (np_cons np_nilsl (np_cons (.bool _) np_nil)))) ?_
  refine cond_t (decide_eq_true (by rw [bs_len]; omega)) ?_
  exact tup3 (sl_eq rfl) (sl_eq rfl) (bool_eq rfl)

theorem numStep (n : UInt64) (b : UInt8) : IntKind.u64.wrap ((BitVec.ofInt 64 (IntKind.u64.wrap ((n.toNat : Int) * 2 ^ 8))) ||| BitVec.ofInt 64 (IntKind.u64.wrap (b.toNat : Int))).toNat = ((n <<< 8 ||| b.toUInt64).toNat : Int) := by
  rw [w_u64, w_u64, w_u64]
  have h1 := n.toNat_lt
  have h2 := b.toNat_lt
  have e1 : BitVec.ofInt 64 ((n.toNat : Int) * 2 ^ 8 % 18446744073709551616) = n.toBitVec <<< 8 := by
    apply BitVec.eq_of_toNat_eq
    rw [BitVec.toNat_ofInt, BitVec.toNat_shiftLeft, Nat.shiftLeft_eq]
    simp only [UInt64.toNat_toBitVec]
    omega
  have e2 : BitVec.ofInt 64 ((b.toNat : Int) % 18446744073709551616) = b.toUInt64.toBitVec := by
    apply BitVec.eq_of_toNat_eq
    rw [BitVec.toNat_ofInt]
    simp only [UInt64.toNat_toBitVec, UInt8.toNat_toUInt64]
    omega
  rw [e1, e2]
  have e3 : (n <<< 8 ||| b.toUInt64).toBitVec = (n.toBitVec <<< 8 ||| b.toUInt64.toBitVec) := by
    simp [UInt64.toBitVec_or, UInt64.toBitVec_shiftLeft]
  rw [← e3]
  have := (n <<< 8 ||| b.toUInt64).toNat_lt
  simp only [UInt64.toNat_toBitVec]
  omega

theorem num_snoc (l : List UInt8) (b : UInt8) : num (l ++ [b]) = num l <<< 8 ||| b.toUInt64 := by simp [num]

def numAt (l : List UInt8) (k : Nat) : List (Nat × AV) := [(3, .int .u64 (num (l.take k)).toNat), (6, .sl 1 none false (bs l)), (7, .int .i64 l.length), (8, .int .i64 k)]

theorem numLoop (l : List UInt8) (Q : VE → Sy → Prop) (hl : l.length ≤ 1000000) (hQ : Q (.exit 0) ⟨[], (9, .bool (decide ((l.length : Int) < l.length))) :: numAt l l.length, []⟩) :
    ∀ m k, k + m = l.length → VloopS Tryd.prog (tr []) 19 0 c63b0 Q ⟨[], numAt l k, []⟩
  | 0, k, hk => by
    have e : k = l.length := by omega
    subst e
    refine VloopS.round ?_
    refine cond_f (decide_eq_false (by omega)) ?_
    exact hQ
  | m + 1, k, hk => by
    have hlt : k < l.length := by omega
    refine VloopS.round ?_
    refine cond_t (decide_eq_true (by omega)) ?_
    refine And.intro rfl (And.intro (Int.natCast_nonneg k) (Exists.intro [.int .u8 (l[k].toNat : Int)] (And.intro (bs_get hlt) ?_)))
    refine And.intro (by decide) ?_
    refine VloopS.weak (l := numAt l (k + 1)) rfl ?_ (Nat.zero_le _) (numLoop l Q hl hQ m (k + 1) (by omega))
    refine ⟨.eq ?_, .refl _, .refl _, .eq ?_, trivial⟩
    · refine congrArg (AV.int .u64) ((numStep (num (l.take k)) l[k]).trans ?_)
      rw [take_snoc l k hlt, num_snoc]
    · exact congrArg (AV.int .i64) (i64_in _ (by omega))

theorem numberN (nl : Option Bool) (own : Bool) (l : List UInt8) (hl : l.length ≤ 1000000) : PCallN Tryd.prog 63 [.sl 1 nl own (bs l)] (.int .u64 (num l).toNat) := by
  refine PCallN.of (tr []) f63 (Nat.le_of_ble_eq_true rfl) (np_cons (np_bs _) np_nil) (.int _ _) ?_
  refine VloopS.weak (l := numAt l 0) rfl ⟨.refl _, .both _ _ _ _, .eq (by rw [← bs_len]; rfl), .refl _, trivial⟩ (Nat.zero_le _) (numLoop l _ hl ?_ l.length 0 (by omega))
  exact int_eq (by rw [List.take_length])

/-! Read -/

theorem readStep (n : UInt64) (b : UInt8) : IntKind.u64.wrap (IntKind.u64.wrap (256 * (n.toNat : Int)) + IntKind.u64.wrap (b.toNat : Int)) = ((n <<< 8 ||| b.toUInt64).toNat : Int) := by
  rw [← numStep, w_u64, w_u64, w_u64, w_u64, w_u64]
  have h1 := n.toNat_lt
  have h2 := b.toNat_lt
  have e1 : BitVec.ofInt 64 ((n.toNat : Int) * 2 ^ 8 % 18446744073709551616) = n.toBitVec <<< 8 := by
    apply BitVec.eq_of_toNat_eq
    rw [BitVec.toNat_ofInt, BitVec.toNat_shiftLeft, Nat.shiftLeft_eq]
    simp only [UInt64.toNat_toBitVec]
    omega
  have e2 : (BitVec.ofInt 64 ((b.toNat : Int) % 18446744073709551616)).toNat = b.toNat := by
    rw [BitVec.toNat_ofInt]
    omega
  rw [BitVec.toNat_or, e1, e2, BitVec.toNat_shiftLeft]
  simp only [UInt64.toNat_toBitVec, Nat.shiftLeft_eq]
  have e4 : n.toNat * 2 ^ 8 % 2 ^ 64 ||| b.toNat = n.toNat * 2 ^ 8 % 2 ^ 64 + b.toNat := by
    have e5 : n.toNat * 2 ^ 8 % 2 ^ 64 = (n.toNat % 2 ^ 56) <<< 8 := by rw [Nat.shiftLeft_eq]; omega
    rw [e5, Nat.shiftLeft_add_eq_or_of_lt (by omega)]
  rw [e4]
  omega

def readAt (l : List UInt8) (k : Nat) : List (Nat × AV) := [(0, .sl 1 none false (bs l)), (3, .int .u64 (num (l.take k)).toNat), (4, .int .i64 k)]

theorem readLoop (l : List UInt8) (Q : VE → Sy → Prop) (hl : l.length ≤ 1000000) (hQ : Q (.exit 0) ⟨[], (8, .bool (decide ((l.length : Int) < (bs l).length))) :: (7, .int .i64 (bs l).length) :: (6, .sl 1 none false (bs l)) :: (5, .int .i64 l.length) :: readAt l l.length, []⟩) :
    ∀ m k, k + m = l.length → VloopS Tryd.prog (tr []) 20 0 c53b0 Q ⟨[], readAt l k, []⟩
  | 0, k, hk => by
    have e : k = l.length := by omega
    subst e
    refine VloopS.round ?_
    refine cond_f (decide_eq_false (by rw [bs_len]; omega)) ?_
    exact hQ
  | m + 1, k, hk => by
    have hlt : k < l.length := by omega
    refine VloopS.round ?_
    refine cond_t (decide_eq_true (by rw [bs_len]; omega)) ?_
    refine And.intro rfl (And.intro (Int.natCast_nonneg k) (Exists.intro [.int .u8 (l[k].toNat : Int)] (And.intro (bs_get hlt) ?_)))
    refine VloopS.weak (l := readAt l (k + 1)) rfl ?_ (Nat.zero_le _) (readLoop l Q hl hQ m (k + 1) (by omega))
    refine ⟨.refl _, .eq ?_, .eq ?_, trivial⟩
    · refine congrArg (AV.int .u64) ((readStep (num (l.take k)) l[k]).trans ?_)
      rw [take_snoc l k hlt, num_snoc]
    · exact congrArg (AV.int .i64) (i64_in _ (by omega))

theorem readN (nl : Option Bool) (own : Bool) (l : List UInt8) (hl : l.length ≤ 1000000) : PCallN Tryd.prog 53 [.sl 1 nl own (bs l)] (.int .u64 (num l).toNat) := by
  refine PCallN.of (tr []) f53 (Nat.le_of_ble_eq_true rfl) (np_cons (np_bs _) np_nil) (.int _ _) ?_
  refine VloopS.weak (l := readAt l 0) rfl ⟨.both _ _ _ _, .refl _, .refl _, trivial⟩ (Nat.zero_le _) (readLoop l _ hl ?_ l.length 0 (by omega))
  exact int_eq (by rw [List.take_length])

/-! Join, Clone -/

theorem joinN (nl nl' : Option Bool) (own own' : Bool) (a b : List UInt8) (h : a.length + b.length ≤ 1000000) : PCallN Tryd.prog 33 [.sl 1 nl own (bs a), .sl 1 nl' own' (bs b)] (.sl 1 none true (bs (a ++ b))) := by
  refine PCallN.of (tr [4, 5, 9]) f33 (Nat.le_of_ble_eq_true rfl) (np_cons (np_bs _) (np_cons (np_bs _) np_nil)) (np_bs _) ?_
  refine And.intro (.inr ⟨rfl, rfl⟩) (And.intro (.inl rfl) (And.intro ?_ ?_))
  · simp only [List.length_nil, bs_len]; omega
  refine And.intro (.inl ⟨rfl, rfl⟩) (And.intro (.inl rfl) (And.intro ?_ ?_))
  · simp only [List.length_append, List.length_nil, bs_len]; omega
  exact sl_eq (bs_app a b)

theorem cloneN (nl : Option Bool) (own : Bool) (l : List UInt8) (h : l.length ≤ 1000000) : PCallN Tryd.prog 64 [.sl 1 nl own (bs l)] (.sl 1 none false (bs l)) := by
  have hn : ∀ a, a ∈ [AV.sl 1 nl own (bs l)] → NP (fun _ => False) a := np_cons (np_bs _) np_nil
  refine PCallN.weakArgs (args' := [.sl 1 none own (bs l)]) (.cons _ _ _ _ (.nl _ _ _ _) .nil) hn ?_
  refine PCallN.splitNil 0 rfl (np_cons (np_bs _) np_nil) (fun e => ?_) ?_
  · have el : l = [] := by simpa [bs] using e
    subst el
    refine PCallN.weakRet (ret := .sl 0 (some true) false []) (.nil _ _ _ _ _ (by simp)) ?_
    refine PCallN.of (tr []) f64 (Nat.le_of_ble_eq_true rfl) (np_cons np_nilsl np_nil) np_nilsl ?_
    refine cond_t rfl ?_
    exact sl_eq rfl
  · refine PCallN.weakRet (ret := .sl 1 (some false) false (bs l)) (.nl _ _ _ _) ?_
    refine PCallN.of (tr []) f64 (Nat.le_of_ble_eq_true rfl) (np_cons (np_bs _) np_nil) (np_bs _) ?_
    refine cond_f rfl ?_
    refine And.intro (.inl ⟨rfl, rfl⟩) (And.intro (.inl rfl) (And.intro ?_ ?_))
    · simp only [List.length_nil, bs_len]; omega
    exact sl_eq rfl

/-! Bytes -/

def byAt (a b : List UInt8) (k : Nat) : List (Nat × AV) := [(0, .sl 1 none false (bs a)), (1, .sl 1 none false (bs b)), (5, .int .i64 k)]

theorem byLoop (a b : List UInt8) (Q : VE → Sy → Prop) (he : a.length = b.length) (hl : a.length ≤ 1000000)
    (hQ : a = b → Q (.exit 0) ⟨[], (14, .bool (decide ((a.length : Int) < (bs a).length))) :: (13, .int .i64 (bs a).length) :: (12, .sl 1 none false (bs a)) :: (11, .int .i64 a.length) :: byAt a b a.length, []⟩)
    (hr : ∀ σ : Sy, a ≠ b → σ.get 4 = .bool false → Q .ret σ) :
    ∀ m k, k + m = a.length → a.take k = b.take k → VloopS Tryd.prog (tr []) 26 0 c31b0 Q ⟨[], byAt a b k, []⟩
  | 0, k, hk, ht => by
    have e : k = a.length := by omega
    subst e
    refine VloopS.round ?_
    refine cond_f (decide_eq_false (by rw [bs_len]; omega)) ?_
    refine hQ ?_
    rw [List.take_length, he, List.take_length] at ht
    exact ht
  | m + 1, k, hk, ht => by
    have hlt : k < a.length := by omega
    have hlt' : k < b.length := by omega
    refine VloopS.round ?_
    refine cond_t (decide_eq_true (by rw [bs_len]; omega)) ?_
    refine And.intro rfl (And.intro (Int.natCast_nonneg k) (Exists.intro [.int .u8 (a[k].toNat : Int)] (And.intro (bs_get hlt) ?_)))
    refine And.intro rfl (And.intro (Int.natCast_nonneg k) (Exists.intro [.int .u8 (b[k].toNat : Int)] (And.intro (bs_get hlt') ?_)))
    refine And.intro (by kernel_rfl) ?_
    by_cases hab : a[k] = b[k]
    · refine cond_f (by rw [hab]; exact bne_self_eq_false _) ?_
      refine VloopS.weak (l := byAt a b (k + 1)) rfl ?_ (Nat.zero_le _) (byLoop a b Q he hl hQ hr m (k + 1) (by omega) (by rw [take_snoc a k hlt, take_snoc b k hlt', ht, hab]))
      exact ⟨.refl _, .refl _, .eq (congrArg (AV.int .i64) (i64_in _ (by omega))), trivial⟩
    · refine cond_t (bne_iff_ne.2 fun e => hab (UInt8.toNat_inj.1 (by omega))) ?_
      exact hr _ (fun e => hab (by subst e; rfl)) rfl

theorem bytesN (nl nl' : Option Bool) (own own' : Bool) (a b : List UInt8) (ha : a.length ≤ 1000000) : PCallN Tryd.prog 31 [.sl 1 nl own (bs a), .sl 1 nl' own' (bs b)] (.bool (decide (a = b))) := by
  refine PCallN.of (tr []) f31 (Nat.le_of_ble_eq_true rfl) (np_cons (np_bs _) (np_cons (np_bs _) np_nil)) (.bool _) ?_
  by_cases he : a.length = b.length
  · refine cond_f (by rw [bs_len, bs_len, he]; exact bne_self_eq_false _) ?_
    refine VloopS.weak (l := byAt a b 0) rfl ⟨.both _ _ _ _, .both _ _ _ _, .refl _, trivial⟩ (Nat.zero_le _) (byLoop a b _ he ha (fun e => ?_) (fun σ hne hσ => ?_) a.length 0 (by omega) rfl)
    · exact bool_eq (decide_eq_true e).symm
    · exact hσ.trans (bool_eq (decide_eq_false hne).symm)
  · refine cond_t (bne_iff_ne.2 (by rw [bs_len, bs_len]; omega)) ?_
    exact bool_eq (decide_eq_false fun e => he (by rw [e])).symm

open Go.IntWalk

structure Va where
  k : UInt8
  n : Int
  s : List UInt8
  deriving DecidableEq

def Va.c (v : Va) : List AV := [.int .u8 v.k.toNat, .int .i64 v.n, .str (st v.s)]
def Va.av (v : Va) : AV := .agg v.c

theorem Va.np {ok : Nat → Prop} (v : Va) : NP ok v.av := .agg _ (np_cons (.int _ _) (np_cons (.int _ _) (np_cons (.str _) np_nil)))

theorem w_u8 (n : Int) : IntKind.u8.wrap n = n % 256 := by simp [IntKind.wrap, IntKind.bits, IntKind.signed]

def byteAt (n : Int) (i : Nat) : UInt8 := UInt8.ofNat (n / 2 ^ (8 * i) % 256).toNat

theorem byteAt_toNat (n : Int) (i : Nat) : ((byteAt n i).toNat : Int) = n / 2 ^ (8 * i) % 256 := by
  unfold byteAt
  have h1 : 0 ≤ n / 2 ^ (8 * i) % 256 := Int.emod_nonneg _ (by decide)
  have h2 : n / 2 ^ (8 * i) % 256 < 256 := Int.emod_lt_of_pos _ (by decide)
  simp only [UInt8.toNat_ofNat']
  omega

/-- So many bytes of a number, the highest first. -/
def be (n : Int) : Nat → List UInt8
  | 0 => []
  | m + 1 => byteAt n m :: be n m

theorem be_len (n : Int) (m : Nat) : (be n m).length = m := by
  induction m with
  | zero => rfl
  | succ m ih => simp [be, ih]

def Va.enc (v : Va) : List UInt8 := v.k :: (if v.k = 1 then be v.n 8 else if v.k = 2 then be v.s.length 2 ++ v.s else [])

theorem shr_byte (n : Int) (m : Nat) (hm : m ≤ 7) : IntKind.u8.wrap (n.fdiv (2 ^ min (IntKind.i64.wrap (8 * (m : Int))).toNat 64)) = ((byteAt n m).toNat : Int) := by
  rw [byteAt_toNat, w_u8, i64_in _ (by omega)]
  have : min (8 * (m : Int)).toNat 64 = 8 * m := by omega
  rw [this, Int.fdiv_eq_ediv_of_nonneg _ (Int.pow_nonneg (by decide))]

def encAt (_v : Va) (p : List UInt8) (m : Nat) : List (Nat × AV) := [(1, .ptr (some (0, 0))), (3, .sl 1 none true (bs p)), (4, .int .i64 ((m : Int) - 1))]

theorem encLoop (v : Va) (Q : VE → Sy → Prop) (tot : List UInt8) (ht : tot.length ≤ 1000) (hQ : Q (.exit 1) ⟨[], (13, .bool (decide ((0 : Int) - 1 ≥ 0))) :: (12, .int .i64 ((0 : Int) - 1)) :: encAt v tot 0, [.cells v.c]⟩) :
    ∀ m p, m ≤ 8 → p ++ be v.n m = tot → VloopS Tryd.prog (tr [3, 16]) 44 0 c48b0 Q ⟨[], encAt v p m, [.cells v.c]⟩
  | 0, p, hm, hp => by
    have e : p = tot := by simpa [be] using hp
    subst e
    refine VloopS.round ?_
    refine cond_f (by decide) ?_
    exact hQ
  | m + 1, p, hm, hp => by
    refine VloopS.round ?_
    have hl : p.length + (m + 1) = tot.length := by rw [← hp, List.length_append, be_len]
    refine cond_t (decide_eq_true (by omega)) ?_
    refine And.intro ?_ ?_
    · rw [i64_in _ (by omega)]; omega
    refine And.intro (.inl ⟨rfl, rfl⟩) (And.intro (.inl rfl) (And.intro ?_ ?_))
    · simp only [List.length_cons, List.length_nil, bs_len]; omega
    refine VloopS.weak (l := encAt v (p ++ [byteAt v.n m]) m) rfl ?_ (Nat.zero_le _) (encLoop v Q tot ht hQ m (p ++ [byteAt v.n m]) (by omega) (by rw [← hp]; simp [be]))
    refine ⟨.refl _, .eq (sl_eq ?_), .eq (int_eq ?_), trivial⟩
    · rw [← bs_app]
      refine congrArg (bs p ++ ·) ?_
      refine congrArg (fun x => [[AV.int .u8 x]]) ?_
      have : (((m + 1 : Nat) : Int) - 1) = (m : Int) := by omega
      rw [this]
      exact shr_byte v.n m (by omega)
    · rw [i64_in _ (by omega)]; omega

theorem u8_eq {k : UInt8} {c : Int} (h : (k.toNat : Int) = c) : ((k.toNat : Int) == c) = true := beq_iff_eq.2 h
theorem u8_ne {k : UInt8} {c : Int} (h : (k.toNat : Int) ≠ c) : ((k.toNat : Int) == c) = false := beq_eq_false_iff_ne.2 h
theorem u8_val {k c : UInt8} (h : k ≠ c) : (k.toNat : Int) ≠ (c.toNat : Int) := fun e => h (UInt8.toNat_inj.1 (by omega))

theorem low_byte (n : Int) : IntKind.u8.wrap n = ((byteAt n 0).toNat : Int) := by
  rw [byteAt_toNat, w_u8]
  simp

theorem encodeN (v : Va) (hs : v.s.length ≤ 200) : PCallN Tryd.prog 48 [v.av] (.sl 1 none true (bs v.enc)) := by
  by_cases h1 : v.k = 1
  · refine PCallN.of (tr [2, 3, 16, 27, 39, 43]) f48 (Nat.le_of_ble_eq_true rfl) (np_cons v.np np_nil) (np_bs _) ?_
    refine cond_t (by rw [h1]; rfl) ?_
    have he : v.enc = v.k :: be v.n 8 := by rw [Va.enc, if_pos h1]
    refine VloopS.weak (l := encAt v [v.k] 8) rfl ⟨.refl _, .nl _ _ _ _, .eq (int_eq rfl), trivial⟩ (Nat.zero_le _) ?_
    refine encLoop v _ v.enc (by rw [he, List.length_cons, be_len]; decide) ?_ 8 [v.k] (by decide) (by rw [he]; rfl)
    exact sl_eq rfl
  · by_cases h2 : v.k = 2
    · refine PCallN.weakRet (ret := .sl 1 (some false) true (bs v.enc)) (.nl _ _ _ _) ?_
      refine PCallN.of (tr [2, 3, 16, 27, 39, 43]) f48 (Nat.le_of_ble_eq_true rfl) (np_cons v.np np_nil) (np_bs _) ?_
      refine cond_f (by rw [h2]; rfl) ?_
      refine cond_t (by rw [h2]; rfl) ?_
      refine And.intro (by decide) ?_
      refine And.intro (.inl ⟨rfl, rfl⟩) (And.intro (.inl rfl) (And.intro (And.intro (Nat.le_of_ble_eq_true rfl) (Nat.le_of_ble_eq_true rfl)) ?_))
      refine And.intro (.inl ⟨rfl, rfl⟩) (And.intro ?_ ?_)
      · simp only [List.length_append, List.length_cons, List.length_nil, st_size]; omega
      refine sl_eq ?_
      rw [Va.enc, if_neg h1, if_pos h2, bs_st, st_size]
      have e1 := shr_byte (v.s.length : Int) 1 (by decide)
      have e2 := low_byte (v.s.length : Int)
      have e3 : IntKind.u8.wrap ((v.s.length : Int).fdiv (2 ^ min (8 : Int).toNat IntKind.i64.bits)) = ((byteAt v.s.length 1).toNat : Int) := by
        rw [← e1, i64_in _ (by omega)]; rfl
      show [AV.int .u8 v.k.toNat] :: [AV.int .u8 _] :: [AV.int .u8 _] :: bs v.s = _
      rw [e3, e2]
      rfl
    · refine PCallN.weakRet (ret := .sl 1 (some false) true (bs v.enc)) (.nl _ _ _ _) ?_
      refine PCallN.of (tr [2, 3, 16, 27, 39, 43]) f48 (Nat.le_of_ble_eq_true rfl) (np_cons v.np np_nil) (np_bs _) ?_
      refine cond_f (u8_ne (u8_val h1)) ?_
      refine cond_f (u8_ne (u8_val h2)) ?_
      refine sl_eq ?_
      rw [Va.enc, if_neg h1, if_neg h2]
      rfl

open Go.IntWalk

def nmAt (x : Int) (size : Nat) (p : List UInt8) (m : Nat) : List (Nat × AV) := [(0, .int .u64 x), (1, .int .i64 size), (5, .sl 1 none true (bs p)), (6, .int .i64 ((size : Int) - m))]

theorem nmLoop (x : Int) (size : Nat) (hs : size ≤ 8) (Q : VE → Sy → Prop) (hQ : Q (.exit 0) ⟨[], (9, .bool (decide ((size : Int) - (0 : Nat) < size))) :: (8, .int .i64 size) :: (7, .int .i64 ((size : Int) - (0 : Nat))) :: nmAt x size (be x size) 0, []⟩) :
    ∀ m p, m ≤ size → p ++ be x m = be x size → VloopS Tryd.prog (tr [5, 12]) 24 0 c54b0 Q ⟨[], nmAt x size p m, []⟩
  | 0, p, hm, hp => by
    have e : p = be x size := by simpa [be] using hp
    subst e
    refine VloopS.round ?_
    refine cond_f (decide_eq_false (by omega)) ?_
    exact hQ
  | m + 1, p, hm, hp => by
    refine VloopS.round ?_
    have hl : p.length + (m + 1) = size := by
      have := congrArg List.length hp
      rw [List.length_append, be_len, be_len] at this
      exact this
    refine cond_t (decide_eq_true (by omega)) ?_
    have e0 : IntKind.i64.wrap (IntKind.i64.wrap ((size : Int) - 1) - ((size : Int) - ((m + 1 : Nat) : Int))) = (m : Int) := by
      rw [i64_in ((size : Int) - 1) (by omega), i64_in _ (by omega)]; omega
    refine And.intro ?_ ?_
    · rw [e0, i64_in _ (by omega)]; omega
    refine And.intro (.inl ⟨rfl, rfl⟩) (And.intro (.inl rfl) (And.intro ?_ ?_))
    · simp only [List.length_cons, List.length_nil, bs_len]; omega
    refine VloopS.weak (l := nmAt x size (p ++ [byteAt x m]) m) rfl ?_ (Nat.zero_le _) (nmLoop x size hs Q hQ m (p ++ [byteAt x m]) (by omega) (by rw [← hp]; simp [be]))
    refine ⟨.refl _, .refl _, .eq (sl_eq ?_), .eq (int_eq ?_), trivial⟩
    · rw [← bs_app]
      refine congrArg (bs p ++ ·) ?_
      refine congrArg (fun x => [[AV.int .u8 x]]) ?_
      rw [e0]
      exact shr_byte x m (by omega)
    · rw [i64_in _ (by omega)]; omega

theorem numSN (x : Int) (size : Nat) (hs : size ≤ 8) : PCallN Tryd.prog 54 [.int .u64 x, .int .i64 size] (.sl 1 none true (bs (be x size))) := by
  refine PCallN.of (tr [4, 5, 12, 23]) f54 (Nat.le_of_ble_eq_true rfl) (np_cons (.int _ _) (np_cons (.int _ _) np_nil)) (np_bs _) ?_
  refine VloopS.weak (l := nmAt x size [] size) rfl ⟨.refl _, .refl _, .nil _ _ _ _ _ (by simp), .eq (int_eq (by omega)), trivial⟩ (Nat.zero_le _) ?_
  refine nmLoop x size hs _ ?_ size [] (Nat.le_refl _) rfl
  exact sl_eq rfl

theorem be_u64 (n : Int) : be (IntKind.u64.wrap n) 8 = be n 8 := by
  rw [w_u64]
  have key : ∀ i, i ≤ 7 → byteAt (n % 18446744073709551616) i = byteAt n i := by
    intro i hi
    apply UInt8.toNat_inj.1
    have h1 := byteAt_toNat (n % 18446744073709551616) i
    have h2 := byteAt_toNat n i
    have h3 : n % 18446744073709551616 / 2 ^ (8 * i) % 256 = n / 2 ^ (8 * i) % 256 := by
      have : i = 0 ∨ i = 1 ∨ i = 2 ∨ i = 3 ∨ i = 4 ∨ i = 5 ∨ i = 6 ∨ i = 7 := by omega
      rcases this with rfl | rfl | rfl | rfl | rfl | rfl | rfl | rfl <;> omega
    omega
  simp only [be, key 7 (by decide), key 6 (by decide), key 5 (by decide), key 4 (by decide), key 3 (by decide), key 2 (by decide), key 1 (by decide), key 0 (by decide)]

theorem rEncodeN (v : Va) (hs : v.s.length ≤ 200) : PCallN Tryd.prog 51 [v.av] (.sl 1 none false (bs v.enc)) := by
  by_cases h1 : v.k = 1
  · have he : v.enc = v.k :: be v.n 8 := by rw [Va.enc, if_pos h1]
    refine PCallN.of (tr []) f51 (Nat.le_of_ble_eq_true rfl) (np_cons v.np np_nil) (np_bs _) ?_
    refine cond_t (by rw [h1]; rfl) ?_
    refine call_p (numSN _ 8 (by decide)) ?_
    refine call_p (joinN _ _ _ _ [v.k] _ (by rw [be_len]; exact Nat.le_of_ble_eq_true rfl)) ?_
    refine cond_f (by rw [h1]; rfl) ?_
    refine sl_eq ?_
    rw [be_u64, he]
    rfl
  · by_cases h2 : v.k = 2
    · refine PCallN.of (tr []) f51 (Nat.le_of_ble_eq_true rfl) (np_cons v.np np_nil) (np_bs _) ?_
      refine cond_f (by rw [h2]; rfl) ?_
      refine cond_t (by rw [h2]; rfl) ?_
      refine call_d (numSN _ 2 (by decide)) ?_
      refine call_d (joinN _ _ _ _ [v.k] _ (by rw [be_len]; exact Nat.le_of_ble_eq_true rfl)) ?_
      have e1 : IntKind.u64.wrap ((st v.s).size : Int) = (v.s.length : Int) := by rw [st_size, u64_in _ (by omega)]
      rw [e1]
      refine call_d (joinN _ _ _ _ _ v.s (by simp only [List.length_append, be_len, List.length_cons, List.length_nil]; omega)) ?_
      refine And.intro (by kernel_rfl) ?_
      refine sl_eq ?_
      rw [Va.enc, if_neg h1, if_pos h2, List.append_assoc]
      rfl
    · refine PCallN.weakRet (ret := .sl 1 (some false) false (bs v.enc)) (.nl _ _ _ _) ?_
      refine PCallN.of (tr []) f51 (Nat.le_of_ble_eq_true rfl) (np_cons v.np np_nil) (np_bs _) ?_
      refine cond_f (u8_ne (u8_val h1)) ?_
      refine cond_f (u8_ne (u8_val h2)) ?_
      refine sl_eq ?_
      rw [Va.enc, if_neg h1, if_neg h2]
      rfl

open Go.IntWalk

theorem st_list (l : List UInt8) : (st l).toList = l := by rw [ByteArray.toList_eq]; rfl
theorem st_beq (a b : List UInt8) : ((st a).toList == (st b).toList) = decide (a = b) := by
  rw [st_list, st_list]
  exact Bool.eq_iff_iff.2 ⟨fun h => decide_eq_true (beq_iff_eq.1 h), fun h => beq_iff_eq.2 (of_decide_eq_true h)⟩

def Va.right (v : Va) : Bool := if v.k = 0 then v.n == 0 && decide (v.s = []) else if v.k = 1 then decide (v.s = []) else if v.k = 2 then v.n == 0 && decide ((v.s.length : Int) ≤ 200) else false

theorem rightN (v : Va) : PCallN Tryd.prog 59 [v.av] (.bool v.right) := by
  refine PCallN.of (tr []) f59 (Nat.le_of_ble_eq_true rfl) (np_cons v.np np_nil) (.bool _) ?_
  by_cases h0 : v.k = 0
  · refine cond_t (by rw [h0]; rfl) ?_
    rw [Va.right, if_pos h0]
    cases hn : v.n == 0
    · refine guard_f (by rw [hn]; decide) ?_
      rw [hn]
      refine guard_f (by decide) ?_
      refine guard_f (by decide) ?_
      exact bool_eq rfl
    · refine guard_t hn ?_
      rw [hn]
      refine guard_t rfl ?_
      refine guard_t rfl ?_
      exact bool_eq (st_beq v.s [])
  refine cond_f (u8_ne (u8_val h0)) ?_
  by_cases h1 : v.k = 1
  · refine cond_t (by rw [h1]; rfl) ?_
    rw [Va.right, if_neg h0, if_pos h1]
    exact bool_eq (st_beq v.s [])
  refine cond_f (u8_ne (u8_val h1)) ?_
  by_cases h2 : v.k = 2
  · refine cond_t (by rw [h2]; rfl) ?_
    rw [Va.right, if_neg h0, if_neg h1, if_pos h2]
    cases hn : v.n == 0
    · refine guard_f (by rw [hn]; decide) ?_
      rw [hn]
      refine guard_f (by decide) ?_
      refine guard_f (by decide) ?_
      refine guard_f (by decide) ?_
      exact bool_eq rfl
    · refine guard_t hn ?_
      rw [hn]
      refine guard_t rfl ?_
      refine guard_t rfl ?_
      refine guard_t rfl ?_
      exact bool_eq (by rw [st_size]; rfl)
  refine cond_f (u8_ne (u8_val h2)) ?_
  rw [Va.right, if_neg h0, if_neg h1, if_neg h2]
  exact bool_eq rfl

theorem len_beq (l : List UInt8) : (((st l).size : Int) == 0) = decide (l = []) := by
  rw [st_size]
  cases l with
  | nil => rfl
  | cons a l => rw [decide_eq_false (by simp)]; exact beq_eq_false_iff_ne.2 (by simp; omega)

theorem rRightN (v : Va) : PCallN Tryd.prog 60 [v.av] (.bool v.right) := by
  refine PCallN.of (tr []) f60 (Nat.le_of_ble_eq_true rfl) (np_cons v.np np_nil) (.bool _) ?_
  by_cases h0 : v.k = 0
  · refine cond_t (by rw [h0]; rfl) ?_
    rw [Va.right, if_pos h0]
    cases hn : v.n == 0
    · refine guard_f (by rw [hn]; decide) ?_
      rw [hn]
      refine guard_f (by decide) ?_
      refine guard_f (by decide) ?_
      refine guard_f (by decide) ?_
      exact bool_eq rfl
    · refine guard_t hn ?_
      rw [hn]
      refine guard_t rfl ?_
      refine guard_t rfl ?_
      refine guard_t rfl ?_
      exact bool_eq (len_beq v.s)
  refine cond_f (u8_ne (u8_val h0)) ?_
  by_cases h1 : v.k = 1
  · refine cond_t (by rw [h1]; rfl) ?_
    rw [Va.right, if_neg h0, if_pos h1]
    exact bool_eq (len_beq v.s)
  refine cond_f (u8_ne (u8_val h1)) ?_
  rw [Va.right, if_neg h0, if_neg h1]
  by_cases h2 : v.k = 2
  · rw [if_pos h2]
    refine guard_t (by rw [h2]; rfl) ?_
    rw [h2]
    refine guard_t rfl ?_
    refine guard_t rfl ?_
    cases hn : v.n == 0
    · refine guard_f (by show ¬(v.n == 0) = true; rw [hn]; decide) ?_
      rw [hn]
      refine guard_f (by decide) ?_
      refine guard_f (by decide) ?_
      refine guard_f (by decide) ?_
      exact bool_eq rfl
    · refine guard_t hn ?_
      rw [hn]
      refine guard_t rfl ?_
      refine guard_t rfl ?_
      refine guard_t rfl ?_
      exact bool_eq (by rw [st_size]; rfl)
  · rw [if_neg h2]
    have hk : ((v.k.toNat : Int) == 2) = false := u8_ne (u8_val h2)
    refine guard_f (by show ¬((v.k.toNat : Int) == 2) = true; rw [hk]; decide) ?_
    rw [hk]
    refine guard_f (by decide) ?_
    refine guard_f (by decide) ?_
    refine guard_f (by decide) ?_
    refine guard_f (by decide) ?_
    refine guard_f (by decide) ?_
    refine guard_f (by decide) ?_
    exact bool_eq rfl

def Va.of (w : Va) : Va := if w.k % 4 = 0 then ⟨0, 0, []⟩ else if w.k % 4 = 1 then ⟨1, w.n, []⟩ else ⟨2, 0, w.s.take 200⟩

theorem of_mod (k : UInt8) : ((k.toNat : Int).tmod 4) = ((k % 4).toNat : Int) := by
  rw [UInt8.toNat_mod, Int.tmod_eq_emod_of_nonneg (by omega)]
  rfl

theorem ofN (w : Va) : PCallN Tryd.prog 25 [w.av] w.of.av := by
  refine PCallN.of (tr []) f25 (Nat.le_of_ble_eq_true rfl) (np_cons w.np np_nil) (Va.np _) ?_
  refine And.intro (by decide) ?_
  rw [of_mod]
  by_cases h0 : w.k % 4 = 0
  · refine cond_t (by rw [h0]; rfl) ?_
    rw [Va.of, if_pos h0]
    exact agg3 rfl rfl rfl
  refine cond_f (u8_ne (u8_val h0)) ?_
  by_cases h1 : w.k % 4 = 1
  · refine cond_t (by rw [h1]; rfl) ?_
    rw [Va.of, if_neg h0, if_pos h1]
    exact agg3 rfl rfl rfl
  refine cond_f (u8_ne (u8_val h1)) ?_
  rw [Va.of, if_neg h0, if_neg h1]
  by_cases h2 : w.s.length ≤ 200
  · refine cond_f (decide_eq_false (by rw [st_size]; omega)) ?_
    refine agg3 (int_eq rfl) (int_eq rfl) (str_eq ?_)
    rw [List.take_of_length_le h2]
  · refine cond_t (decide_eq_true (by rw [st_size]; omega)) ?_
    refine And.intro (by rw [st_size]; omega) ?_
    refine agg3 (int_eq rfl) (int_eq rfl) (str_eq ?_)
    exact st_cut w.s 0 200

open Go.IntWalk

theorem num_snoc_val (l : List UInt8) (b : UInt8) : ((num (l ++ [b])).toNat : Int) = (256 * (num l).toNat + b.toNat) % 18446744073709551616 := by
  rw [num_snoc, ← readStep, w_u64, w_u64, w_u64]
  omega

theorem num_two (a b : UInt8) : (num [a, b]).toNat = 256 * a.toNat + b.toNat := by
  have h1 := num_snoc_val [a] b
  have h2 := num_snoc_val [] a
  have h3 : num [] = 0 := rfl
  have ha := a.toNat_lt
  have hb := b.toNat_lt
  rw [h3] at h2
  simp only [List.nil_append, List.singleton_append, UInt64.toNat_zero] at h1 h2
  omega

def zero : Va := ⟨0, 0, []⟩

def decT (r : List UInt8) : Va × List UInt8 × Int :=
  match r with
  | a :: b :: r => if 200 < 256 * a.toNat + b.toNat then (zero, [], 2) else if r.length < 256 * a.toNat + b.toNat then (zero, [], 3)
      else (⟨2, 0, r.take (256 * a.toNat + b.toNat)⟩, r.drop (256 * a.toNat + b.toNat), 0)
  | _ => (zero, [], 3)

/-- What any bytes begin with: the value, what stands behind it, the error. -/
def dec (p : List UInt8) : Va × List UInt8 × Int :=
  match p with
  | [] => (zero, [], 3)
  | k :: r =>
    if k = 0 then (zero, r, 0)
    else if k = 1 then (if r.length < 8 then (zero, [], 3) else (⟨1, IntKind.i64.wrap (num (r.take 8)).toNat, []⟩, r.drop 8, 0))
    else if k = 2 then decT r else (zero, [], 2)

def decAV (x : Va × List UInt8 × Int) : AV := .tup [x.1.av, .sl 1 none false (bs x.2.1), .int .i64 x.2.2]

theorem shortN : PCallN Tryd.prog 62 [] (.tup [zero.av, .sl 0 (some true) false [], .int .i64 3]) := by
  refine PCallN.of (tr []) f62 (Nat.le_of_ble_eq_true rfl) np_nil (.tup _ (np_cons (Va.np _) (np_cons np_nilsl (np_cons (.int _ _) np_nil)))) ?_
  exact tup3 (agg3 rfl rfl rfl) (sl_eq rfl) (int_eq rfl)

theorem dec_bad {e : Int} {f : Nat} {args : List AV} (h : PCallN Tryd.prog f args (.tup [zero.av, .sl 0 (some true) false [], .int .i64 e])) : PCallN Tryd.prog f args (decAV (zero, [], e)) :=
  h.weakRet (.tup _ _ (.cons _ _ _ _ (.refl _) (.cons _ _ _ _ (.nil _ _ _ _ _ (by simp)) (.cons _ _ _ _ (.refl _) .nil))))

theorem dec_np {ok : Nat → Prop} (v : Va) (nl : Option Bool) (own : Bool) (sz : Nat) (l : List UInt8) (e : Int) : NP ok (.tup [v.av, .sl sz nl own (bs l), .int .i64 e]) := .tup _ (np_cons (Va.np _) (np_cons (np_bs _) (np_cons (.int _ _) np_nil)))

theorem dec_start {nl : Option Bool} {own : Bool} {p : List UInt8} {v : Va} {nl' : Option Bool} {own' : Bool} {sz : Nat} {l : List UInt8} {e : Int}
    (h : wpV Tryd.prog (tr []) 96 0 c49 (retS [.cell 2 (some 3), .tmp 3, .tmp 4] (.tup [v.av, .sl sz nl' own' (bs l), .int .i64 e])) ⟨[.sl 1 nl own (bs p)], [], []⟩) : PCallN Tryd.prog 49 [.sl 1 nl own (bs p)] (.tup [v.av, .sl sz nl' own' (bs l), .int .i64 e]) :=
  PCallN.of (tr []) f49 (Nat.le_of_ble_eq_true rfl) (np_cons (np_bs _) np_nil) (dec_np _ _ _ _ _ _) h

theorem decodeN (nl : Option Bool) (own : Bool) (p : List UInt8) (hp : p.length ≤ 100000) : PCallN Tryd.prog 49 [.sl 1 nl own (bs p)] (decAV (dec p)) := by
  cases p with
  | nil =>
    refine dec_bad (dec_start (l := []) ?_)
    refine call_p (takeF nl false [] 1 (by decide)) ?_
    refine cond_t rfl ?_
    refine call_p shortN ?_
    exact tup3 (agg3 rfl rfl rfl) (sl_eq rfl) (int_eq rfl)
  | cons k r =>
    have hr : r.length ≤ 100000 := by simp at hp; omega
    by_cases h0 : k = 0
    · rw [show dec (k :: r) = (zero, r, 0) by rw [dec, if_pos h0]]
      refine dec_start ?_
      refine call_p (takeN nl false (k :: r) 1 (by simp)) ?_
      refine cond_f rfl ?_
      refine And.intro rfl (And.intro (by decide) (Exists.intro [.int .u8 (k.toNat : Int)] (And.intro rfl ?_)))
      refine cond_t (by rw [h0]; rfl) ?_
      refine call_d (cloneN _ _ r (by omega)) ?_
      refine And.intro (by kernel_rfl) ?_
      exact tup3 (agg3 (int_eq (by rw [h0]; rfl)) rfl rfl) (sl_eq rfl) (int_eq rfl)
    by_cases h1 : k = 1
    · by_cases h8 : r.length < 8
      · rw [show dec (k :: r) = (zero, [], 3) by rw [dec, if_neg h0, if_pos h1, if_pos h8]]
        refine dec_bad (dec_start (l := []) ?_)
        refine call_p (takeN nl false (k :: r) 1 (by simp)) ?_
        refine cond_f rfl ?_
        refine And.intro rfl (And.intro (by decide) (Exists.intro [.int .u8 (k.toNat : Int)] (And.intro rfl ?_)))
        refine cond_f (u8_ne (u8_val h0)) ?_
        refine cond_t (by rw [h1]; rfl) ?_
        refine call_p (takeF nl false r 8 (by omega)) ?_
        refine cond_t rfl ?_
        refine call_p shortN ?_
        exact tup3 (agg3 rfl rfl rfl) (sl_eq rfl) (int_eq rfl)
      · rw [show dec (k :: r) = (⟨1, IntKind.i64.wrap (num (r.take 8)).toNat, []⟩, r.drop 8, 0) by rw [dec, if_neg h0, if_pos h1, if_neg h8]]
        refine dec_start ?_
        refine call_p (takeN nl false (k :: r) 1 (by simp)) ?_
        refine cond_f rfl ?_
        refine And.intro rfl (And.intro (by decide) (Exists.intro [.int .u8 (k.toNat : Int)] (And.intro rfl ?_)))
        refine cond_f (u8_ne (u8_val h0)) ?_
        refine cond_t (by rw [h1]; rfl) ?_
        refine call_p (takeN nl false r 8 (by omega)) ?_
        refine cond_f rfl ?_
        refine call_p (numberN nl false (r.take 8) (by simp; omega)) ?_
        refine call_d (cloneN _ _ (r.drop 8) (by simp; omega)) ?_
        refine And.intro (by kernel_rfl) ?_
        exact tup3 (agg3 (int_eq (by rw [h1])) (int_eq rfl) rfl) (sl_eq rfl) (int_eq rfl)
    by_cases h2 : k = 2
    · have hshort : r.length < 2 → PCallN Tryd.prog 49 [.sl 1 nl own (bs (k :: r))] (decAV (zero, [], 3)) := by
        intro h
        refine dec_bad (dec_start (l := []) ?_)
        refine call_p (takeN nl false (k :: r) 1 (by simp)) ?_
        refine cond_f rfl ?_
        refine And.intro rfl (And.intro (by decide) (Exists.intro [.int .u8 (k.toNat : Int)] (And.intro rfl ?_)))
        refine cond_f (u8_ne (u8_val h0)) ?_
        refine cond_f (u8_ne (u8_val h1)) ?_
        refine cond_t (by rw [h2]; rfl) ?_
        refine call_p (takeF nl false r 2 (by omega)) ?_
        refine cond_t rfl ?_
        refine call_p shortN ?_
        exact tup3 (agg3 rfl rfl rfl) (sl_eq rfl) (int_eq rfl)
      match r, hshort, hr with
      | [], hshort, _ =>
        rw [show dec [k] = (zero, [], 3) by rw [dec, if_neg h0, if_neg h1, if_pos h2]; rfl]
        exact hshort (Nat.lt_of_sub_pos (by simp))
      | [a], hshort, _ =>
        rw [show dec [k, a] = (zero, [], 3) by rw [dec, if_neg h0, if_neg h1, if_pos h2]; rfl]
        exact hshort (Nat.lt_of_sub_pos (by simp))
      | a :: b :: r, _, hr =>
        have ha := a.toNat_lt
        have hb := b.toNat_lt
        have hr' : r.length ≤ 100000 := by simp at hr; omega
        have hn : IntKind.i64.wrap ((num [a, b]).toNat : Int) = ((256 * a.toNat + b.toNat : Nat) : Int) := by
          rw [num_two, i64_in _ (by omega)]
        by_cases h200 : 200 < 256 * a.toNat + b.toNat
        · rw [show dec (k :: a :: b :: r) = (zero, [], 2) by rw [dec, if_neg h0, if_neg h1, if_pos h2, decT, if_pos h200]]
          refine dec_bad (dec_start (l := []) ?_)
          refine call_p (takeN nl false (k :: a :: b :: r) 1 (by simp)) ?_
          refine cond_f rfl ?_
          refine And.intro rfl (And.intro (by decide) (Exists.intro [.int .u8 (k.toNat : Int)] (And.intro rfl ?_)))
          refine cond_f (u8_ne (u8_val h0)) ?_
          refine cond_f (u8_ne (u8_val h1)) ?_
          refine cond_t (by rw [h2]; rfl) ?_
          refine call_p (takeN nl false (a :: b :: r) 2 (by simp)) ?_
          refine cond_f rfl ?_
          refine call_p (numberN nl false [a, b] (Nat.le_of_ble_eq_true rfl)) ?_
          refine cond_t (decide_eq_true (by rw [hn]; omega)) ?_
          exact tup3 (agg3 rfl rfl rfl) (sl_eq rfl) (int_eq rfl)
        · by_cases hl : r.length < 256 * a.toNat + b.toNat
          · rw [show dec (k :: a :: b :: r) = (zero, [], 3) by rw [dec, if_neg h0, if_neg h1, if_pos h2, decT, if_neg h200, if_pos hl]]
            refine dec_bad (dec_start (l := []) ?_)
            refine call_p (takeN nl false (k :: a :: b :: r) 1 (by simp)) ?_
            refine cond_f rfl ?_
            refine And.intro rfl (And.intro (by decide) (Exists.intro [.int .u8 (k.toNat : Int)] (And.intro rfl ?_)))
            refine cond_f (u8_ne (u8_val h0)) ?_
            refine cond_f (u8_ne (u8_val h1)) ?_
            refine cond_t (by rw [h2]; rfl) ?_
            refine call_p (takeN nl false (a :: b :: r) 2 (by simp)) ?_
            refine cond_f rfl ?_
            refine call_p (numberN nl false [a, b] (Nat.le_of_ble_eq_true rfl)) ?_
            refine cond_f (decide_eq_false (by rw [hn]; omega)) ?_
            rw [hn]
            refine call_p (takeF nl false r _ (by omega)) ?_
            refine cond_t rfl ?_
            refine call_p shortN ?_
            exact tup3 (agg3 rfl rfl rfl) (sl_eq rfl) (int_eq rfl)
          · rw [show dec (k :: a :: b :: r) = (⟨2, 0, r.take (256 * a.toNat + b.toNat)⟩, r.drop (256 * a.toNat + b.toNat), 0) by rw [dec, if_neg h0, if_neg h1, if_pos h2, decT, if_neg h200, if_neg hl]]
            refine dec_start ?_
            refine call_p (takeN nl false (k :: a :: b :: r) 1 (by simp)) ?_
            refine cond_f rfl ?_
            refine And.intro rfl (And.intro (by decide) (Exists.intro [.int .u8 (k.toNat : Int)] (And.intro rfl ?_)))
            refine cond_f (u8_ne (u8_val h0)) ?_
            refine cond_f (u8_ne (u8_val h1)) ?_
            refine cond_t (by rw [h2]; rfl) ?_
            refine call_p (takeN nl false (a :: b :: r) 2 (by simp)) ?_
            refine cond_f rfl ?_
            refine call_p (numberN nl false [a, b] (Nat.le_of_ble_eq_true rfl)) ?_
            refine cond_f (decide_eq_false (by rw [hn]; omega)) ?_
            rw [hn]
            refine call_p (takeN nl false r _ (by omega)) ?_
            refine cond_f rfl ?_
            refine Exists.intro _ (And.intro (toBytes_bs _) ?_)
            refine call_d (cloneN _ _ (r.drop _) (by simp; omega)) ?_
            refine And.intro (by kernel_rfl) ?_
            exact tup3 (agg3 (int_eq (by rw [h2])) (int_eq rfl) rfl) (sl_eq rfl) (int_eq rfl)
    · rw [show dec (k :: r) = (zero, [], 2) by rw [dec, if_neg h0, if_neg h1, if_neg h2]]
      refine dec_bad (dec_start (l := []) ?_)
      refine call_p (takeN nl false (k :: r) 1 (by simp)) ?_
      refine cond_f rfl ?_
      refine And.intro rfl (And.intro (by decide) (Exists.intro [.int .u8 (k.toNat : Int)] (And.intro rfl ?_)))
      refine cond_f (u8_ne (u8_val h0)) ?_
      refine cond_f (u8_ne (u8_val h1)) ?_
      refine cond_f (u8_ne (u8_val h2)) ?_
      exact tup3 (agg3 rfl rfl rfl) (sl_eq rfl) (int_eq rfl)

open Go.IntWalk

/-- How many bytes it has. -/
def decN (p : List UInt8) : Nat := if (dec p).2.2 = 0 then p.length - (dec p).2.1.length else 0

theorem decN_bad {p : List UInt8} {v : Va} {l : List UInt8} {e : Int} (h : dec p = (v, l, e)) (he : e ≠ 0) : decN p = 0 := by
  rw [decN, h, if_neg he]
theorem decN_ok {p : List UInt8} {v : Va} {l : List UInt8} (h : dec p = (v, l, 0)) : decN p = p.length - l.length := by
  rw [decN, h, if_pos rfl]

theorem rdec_start {nl : Option Bool} {own : Bool} {p : List UInt8} {v : Va} {n : Int} {e : Int}
    (h : wpV Tryd.prog (tr []) 56 0 c50 (retS [.cell 2 (some 3), .tmp 3, .tmp 4] (.tup [v.av, .int .i64 n, .int .i64 e])) ⟨[.sl 1 nl own (bs p)], [], []⟩) : PCallN Tryd.prog 50 [.sl 1 nl own (bs p)] (.tup [v.av, .int .i64 n, .int .i64 e]) :=
  PCallN.of (tr []) f50 (Nat.le_of_ble_eq_true rfl) (np_cons (np_bs _) np_nil) (.tup _ (np_cons (Va.np _) (np_cons (.int _ _) (np_cons (.int _ _) np_nil)))) h

theorem rDecodeN (nl : Option Bool) (own : Bool) (p : List UInt8) (hp : p.length ≤ 100000) : PCallN Tryd.prog 50 [.sl 1 nl own (bs p)] (.tup [(dec p).1.av, .int .i64 (decN p), .int .i64 (dec p).2.2]) := by
  cases p with
  | nil =>
    refine rdec_start ?_
    refine cond_t rfl ?_
    exact tup3 (agg3 rfl rfl rfl) (int_eq rfl) (int_eq rfl)
  | cons k r =>
    have hr : r.length ≤ 100000 := by simp at hp; omega
    have hlen : (bs (k :: r)).length = r.length + 1 := by rw [bs_len, List.length_cons]
    by_cases h0 : k = 0
    · have hd : dec (k :: r) = (zero, r, 0) := by rw [dec, if_pos h0]
      rw [decN_ok hd, hd]
      refine rdec_start ?_
      refine cond_f (decide_eq_false (by rw [hlen]; omega)) ?_
      refine And.intro rfl (And.intro (by decide) (Exists.intro [.int .u8 (k.toNat : Int)] (And.intro rfl ?_)))
      refine cond_t (by rw [h0]; rfl) ?_
      exact tup3 (agg3 rfl rfl rfl) (int_eq (by simp)) (int_eq rfl)
    by_cases h1 : k = 1
    · by_cases h8 : r.length < 8
      · have hd : dec (k :: r) = (zero, [], 3) := by rw [dec, if_neg h0, if_pos h1, if_pos h8]
        rw [decN_bad hd (by decide), hd]
        refine rdec_start ?_
        refine cond_f (decide_eq_false (by rw [hlen]; omega)) ?_
        refine And.intro rfl (And.intro (by decide) (Exists.intro [.int .u8 (k.toNat : Int)] (And.intro rfl ?_)))
        refine cond_f (u8_ne (u8_val h0)) ?_
        refine cond_t (by rw [h1]; rfl) ?_
        refine cond_t (decide_eq_true (by rw [hlen]; omega)) ?_
        exact tup3 (agg3 rfl rfl rfl) (int_eq rfl) (int_eq rfl)
      · have hd : dec (k :: r) = (⟨1, IntKind.i64.wrap (num (r.take 8)).toNat, []⟩, r.drop 8, 0) := by rw [dec, if_neg h0, if_pos h1, if_neg h8]
        rw [decN_ok hd, hd]
        refine rdec_start ?_
        refine cond_f (decide_eq_false (by rw [hlen]; omega)) ?_
        refine And.intro rfl (And.intro (by decide) (Exists.intro [.int .u8 (k.toNat : Int)] (And.intro rfl ?_)))
        refine cond_f (u8_ne (u8_val h0)) ?_
        refine cond_t (by rw [h1]; rfl) ?_
        refine cond_f (decide_eq_false (by rw [hlen]; omega)) ?_
        refine And.intro (.inl rfl) (And.intro (by rw [hlen]; omega) ?_)
        rw [cut_bs (l := k :: r) (i := 1) (j := 9) (a := 1) (b := 9) rfl rfl (by simp; omega)]
        refine call_p (readN nl false (r.take 8) (by simp; omega)) ?_
        exact tup3 (agg3 (int_eq rfl) (int_eq rfl) rfl) (int_eq (by simp; omega)) (int_eq rfl)
    by_cases h2 : k = 2
    · match r, hr, hlen with
      | [], _, _ =>
        have hd : dec [k] = (zero, [], 3) := by rw [dec, if_neg h0, if_neg h1, if_pos h2]; rfl
        rw [decN_bad hd (by decide), hd]
        refine rdec_start ?_
        refine cond_f rfl ?_
        refine And.intro rfl (And.intro (by decide) (Exists.intro [.int .u8 (k.toNat : Int)] (And.intro rfl ?_)))
        refine cond_f (u8_ne (u8_val h0)) ?_
        refine cond_f (u8_ne (u8_val h1)) ?_
        refine cond_t (by rw [h2]; rfl) ?_
        refine cond_t rfl ?_
        exact tup3 (agg3 rfl rfl rfl) (int_eq rfl) (int_eq rfl)
      | [a], _, _ =>
        have hd : dec [k, a] = (zero, [], 3) := by rw [dec, if_neg h0, if_neg h1, if_pos h2]; rfl
        rw [decN_bad hd (by decide), hd]
        refine rdec_start ?_
        refine cond_f rfl ?_
        refine And.intro rfl (And.intro (by decide) (Exists.intro [.int .u8 (k.toNat : Int)] (And.intro rfl ?_)))
        refine cond_f (u8_ne (u8_val h0)) ?_
        refine cond_f (u8_ne (u8_val h1)) ?_
        refine cond_t (by rw [h2]; rfl) ?_
        refine cond_t rfl ?_
        exact tup3 (agg3 rfl rfl rfl) (int_eq rfl) (int_eq rfl)
      | a :: b :: r, hr, hlen =>
        have ha := a.toNat_lt
        have hb := b.toNat_lt
        have hr' : r.length ≤ 100000 := by simp at hr; omega
        have hlen' : (bs (k :: a :: b :: r)).length = r.length + 3 := by rw [bs_len]; simp
        have hn : IntKind.i64.wrap ((num [a, b]).toNat : Int) = ((256 * a.toNat + b.toNat : Nat) : Int) := by
          rw [num_two, i64_in _ (by omega)]
        have h3 : IntKind.i64.wrap (3 + ((256 * a.toNat + b.toNat : Nat) : Int)) = ((3 + (256 * a.toNat + b.toNat) : Nat) : Int) := by
          rw [i64_in _ (by omega)]; omega
        by_cases h200 : 200 < 256 * a.toNat + b.toNat
        · have hd : dec (k :: a :: b :: r) = (zero, [], 2) := by rw [dec, if_neg h0, if_neg h1, if_pos h2, decT, if_pos h200]
          rw [decN_bad hd (by decide), hd]
          refine rdec_start ?_
          refine cond_f (decide_eq_false (by rw [hlen']; omega)) ?_
          refine And.intro rfl (And.intro (by decide) (Exists.intro [.int .u8 (k.toNat : Int)] (And.intro rfl ?_)))
          refine cond_f (u8_ne (u8_val h0)) ?_
          refine cond_f (u8_ne (u8_val h1)) ?_
          refine cond_t (by rw [h2]; rfl) ?_
          refine cond_f (decide_eq_false (by rw [hlen']; omega)) ?_
          refine And.intro (.inl rfl) (And.intro (by rw [hlen']; omega) ?_)
          refine call_p (readN nl false [a, b] (Nat.le_of_ble_eq_true rfl)) ?_
          refine cond_t (decide_eq_true (by rw [hn]; omega)) ?_
          exact tup3 (agg3 rfl rfl rfl) (int_eq rfl) (int_eq rfl)
        · by_cases hl : r.length < 256 * a.toNat + b.toNat
          · have hd : dec (k :: a :: b :: r) = (zero, [], 3) := by rw [dec, if_neg h0, if_neg h1, if_pos h2, decT, if_neg h200, if_pos hl]
            rw [decN_bad hd (by decide), hd]
            refine rdec_start ?_
            refine cond_f (decide_eq_false (by rw [hlen']; omega)) ?_
            refine And.intro rfl (And.intro (by decide) (Exists.intro [.int .u8 (k.toNat : Int)] (And.intro rfl ?_)))
            refine cond_f (u8_ne (u8_val h0)) ?_
            refine cond_f (u8_ne (u8_val h1)) ?_
            refine cond_t (by rw [h2]; rfl) ?_
            refine cond_f (decide_eq_false (by rw [hlen']; omega)) ?_
            refine And.intro (.inl rfl) (And.intro (by rw [hlen']; omega) ?_)
            refine call_p (readN nl false [a, b] (Nat.le_of_ble_eq_true rfl)) ?_
            refine cond_f (decide_eq_false (by rw [hn]; omega)) ?_
            rw [hn]
            refine cond_t (decide_eq_true (by rw [h3, hlen']; omega)) ?_
            exact tup3 (agg3 rfl rfl rfl) (int_eq rfl) (int_eq rfl)
          · have hd : dec (k :: a :: b :: r) = (⟨2, 0, r.take (256 * a.toNat + b.toNat)⟩, r.drop (256 * a.toNat + b.toNat), 0) := by rw [dec, if_neg h0, if_neg h1, if_pos h2, decT, if_neg h200, if_neg hl]
            rw [decN_ok hd, hd]
            refine rdec_start ?_
            refine cond_f (decide_eq_false (by rw [hlen']; omega)) ?_
            refine And.intro rfl (And.intro (by decide) (Exists.intro [.int .u8 (k.toNat : Int)] (And.intro rfl ?_)))
            refine cond_f (u8_ne (u8_val h0)) ?_
            refine cond_f (u8_ne (u8_val h1)) ?_
            refine cond_t (by rw [h2]; rfl) ?_
            refine cond_f (decide_eq_false (by rw [hlen']; omega)) ?_
            refine And.intro (.inl rfl) (And.intro (by rw [hlen']; omega) ?_)
            refine call_p (readN nl false [a, b] (Nat.le_of_ble_eq_true rfl)) ?_
            refine cond_f (decide_eq_false (by rw [hn]; omega)) ?_
            rw [hn]
            refine cond_f (decide_eq_false (by rw [h3, hlen']; omega)) ?_
            rw [h3]
            refine And.intro (.inl rfl) (And.intro (by rw [h3, hlen']; omega) ?_)
            rw [h3, cut_bs (l := k :: a :: b :: r) (i := 3) (a := 3) rfl rfl (by simp; omega)]
            refine Exists.intro _ (And.intro (toBytes_bs _) ?_)
            refine tup3 (agg3 (int_eq rfl) (int_eq rfl) (str_eq ?_)) (int_eq ?_) (int_eq rfl)
            · rw [show 3 + (256 * a.toNat + b.toNat) - 3 = 256 * a.toNat + b.toNat by omega]
              rfl
            · rw [h3]; simp; omega
    · have hd : dec (k :: r) = (zero, [], 2) := by rw [dec, if_neg h0, if_neg h1, if_neg h2]
      rw [decN_bad hd (by decide), hd]
      refine rdec_start ?_
      refine cond_f (decide_eq_false (by rw [hlen]; omega)) ?_
      refine And.intro rfl (And.intro (by decide) (Exists.intro [.int .u8 (k.toNat : Int)] (And.intro rfl ?_)))
      refine cond_f (u8_ne (u8_val h0)) ?_
      refine cond_f (u8_ne (u8_val h1)) ?_
      refine cond_f (u8_ne (u8_val h2)) ?_
      exact tup3 (agg3 rfl rfl rfl) (int_eq rfl) (int_eq rfl)

open Go.IntWalk

theorem va_beq (a b : Va) : (((a.k.toNat : Int) == b.k.toNat) && ((a.n == b.n) && (((st a.s).toList == (st b.s).toList) && true))) = decide (a = b) := by
  rw [st_beq]
  refine Bool.eq_iff_iff.2 ⟨fun h => ?_, fun h => ?_⟩
  · simp only [Bool.and_eq_true, beq_iff_eq, decide_eq_true_eq, and_true] at h ⊢
    obtain ⟨h1, h2, h3⟩ := h
    match a, b, h1, h2, h3 with
    | ⟨ak, an, al⟩, ⟨bk, bn, bl⟩, h1, h2, h3 =>
      simp only at h1 h2 h3
      have h4 : ak = bk := UInt8.toNat_inj.1 (by omega)
      rw [h4, h2, h3]
  · have e := of_decide_eq_true h
    subst e
    simp

theorem sameN (a b : Va) : PCallN Tryd.prog 40 [a.av, b.av] (.bool (decide (a = b))) := by
  refine PCallN.of (tr []) f40 (Nat.le_of_ble_eq_true rfl) (np_cons a.np (np_cons b.np np_nil)) (.bool _) ?_
  exact bool_eq (va_beq a b)

open Go.IntWalk

theorem byteAt_succ (n : Int) (m : Nat) : byteAt n (m + 1) = byteAt (n / 256) m := by
  unfold byteAt
  rw [Int.ediv_ediv_of_nonneg (by decide), show (2 : Int) ^ (8 * (m + 1)) = 256 * 2 ^ (8 * m) by rw [Nat.mul_add, Int.pow_add, Int.mul_comm]; rfl]

theorem be_snoc (n : Int) : ∀ m, be n (m + 1) = be (n / 256) m ++ [byteAt n 0]
  | 0 => rfl
  | m + 1 => by
    rw [be, be_snoc n m, be, byteAt_succ]
    rfl

theorem num_be_succ (n : Int) (m : Nat) : ((num (be n (m + 1))).toNat : Int) = (256 * (num (be (n / 256) m)).toNat + n % 256) % 18446744073709551616 := by
  rw [be_snoc, num_snoc_val, byteAt_toNat]
  simp

theorem num_be8 (n : Int) : ((num (be n 8)).toNat : Int) = n % 18446744073709551616 := by
  have h0 : ∀ n : Int, ((num (be n 0)).toNat : Int) = 0 := fun n => rfl
  have h1 : ∀ n : Int, ((num (be n 1)).toNat : Int) = n % 256 := fun n => by rw [num_be_succ, h0]; omega
  have h2 : ∀ n : Int, ((num (be n 2)).toNat : Int) = n % 65536 := fun n => by rw [num_be_succ, h1]; omega
  have h3 : ∀ n : Int, ((num (be n 3)).toNat : Int) = n % 16777216 := fun n => by rw [num_be_succ, h2]; omega
  have h4 : ∀ n : Int, ((num (be n 4)).toNat : Int) = n % 4294967296 := fun n => by rw [num_be_succ, h3]; omega
  have h5 : ∀ n : Int, ((num (be n 5)).toNat : Int) = n % 1099511627776 := fun n => by rw [num_be_succ, h4]; omega
  have h6 : ∀ n : Int, ((num (be n 6)).toNat : Int) = n % 281474976710656 := fun n => by rw [num_be_succ, h5]; omega
  have h7 : ∀ n : Int, ((num (be n 7)).toNat : Int) = n % 72057594037927936 := fun n => by rw [num_be_succ, h6]; omega
  rw [num_be_succ, h7]
  omega

theorem w_i64 (n : Int) (h0 : -9223372036854775808 ≤ n) (h1 : n ≤ 9223372036854775807) : IntKind.i64.wrap (n % 18446744073709551616) = n := by
  rw [IntKind.wrap_i64]
  omega

def Va.ok (v : Va) : Prop := -9223372036854775808 ≤ v.n ∧ v.n ≤ 9223372036854775807

theorem dec_enc (v : Va) (hr : v.right = true) (hn : v.ok) (more : List UInt8) : dec (v.enc ++ more) = (v, more, 0) := by
  obtain ⟨hn1, hn2⟩ := hn
  match v, hr, hn1, hn2 with
  | ⟨k, n, s⟩, hr, hn1, hn2 =>
    simp only at hn1 hn2
    by_cases h0 : k = 0
    · subst h0
      simp only [Va.right, ↓reduceIte, Bool.and_eq_true, beq_iff_eq, decide_eq_true_eq] at hr
      rw [hr.1, hr.2]
      rfl
    · by_cases h1 : k = 1
      · subst h1
        have hs : s = [] := by simpa [Va.right] using hr
        subst hs
        have : Va.enc ⟨1, n, []⟩ ++ more = 1 :: (be n 8 ++ more) := rfl
        rw [this, dec, if_neg (by decide), if_pos rfl, if_neg (by simp [be_len]), List.take_left' (be_len n 8), List.drop_left' (be_len n 8), num_be8, w_i64 n hn1 hn2]
      · by_cases h2 : k = 2
        · subst h2
          simp only [Va.right, show ((2 : UInt8) = 0) = False by decide, show ((2 : UInt8) = 1) = False by decide, ↓reduceIte, Bool.and_eq_true, beq_iff_eq, decide_eq_true_eq] at hr
          have hs : s.length ≤ 200 := by omega
          rw [hr.1]
          have : Va.enc ⟨2, 0, s⟩ ++ more = 2 :: byteAt s.length 1 :: byteAt s.length 0 :: (s ++ more) := by simp [Va.enc, be]
          have b1 := byteAt_toNat s.length 1
          have b0 := byteAt_toNat s.length 0
          have hlen : 256 * (byteAt s.length 1).toNat + (byteAt s.length 0).toNat = s.length := by
            simp only [Nat.reduceMul, Int.reducePow] at b1 b0
            omega
          rw [this, dec, if_neg (by decide), if_neg (by decide), if_pos rfl, decT, hlen, if_neg (by omega), if_neg (by simp), List.take_left' rfl, List.drop_left' rfl]
        · simp [Va.right, h0, h1, h2] at hr

theorem of_right (w : Va) : w.of.right = true := by
  unfold Va.of
  split
  · rfl
  · split
    · rfl
    · have : ((w.s.take 200).length : Int) ≤ 200 := by rw [List.length_take]; omega
      simp only [Va.right, show ((2 : UInt8) = 0) = False by decide, show ((2 : UInt8) = 1) = False by decide, ↓reduceIte, Bool.and_eq_true, beq_self_eq_true, true_and, decide_eq_true_eq]
      exact this

theorem of_ok (w : Va) (h : w.ok) : w.of.ok := by
  unfold Va.of
  split
  · exact ⟨by decide, by decide⟩
  · split
    · exact h
    · exact ⟨show (-9223372036854775808 : Int) ≤ 0 by decide, show (0 : Int) ≤ 9223372036854775807 by decide⟩

theorem of_len (w : Va) : w.of.s.length ≤ 200 := by
  unfold Va.of
  split
  · exact Nat.zero_le _
  · split
    · exact Nat.zero_le _
    · show (w.s.take 200).length ≤ 200
      rw [List.length_take]; omega

theorem enc_len (v : Va) (h : v.s.length ≤ 200) : v.enc.length ≤ 203 := by
  unfold Va.enc
  split
  · simp [be_len]
  · split
    · simp [be_len]; omega
    · simp

end Go.Proofs.YtmjdoonaidolkaaDoor.V

/- What was shown of another layer, at this layer's numbers. -/
namespace Go.Proofs.YtmjdoonaidolkaaDoor.V

open Go.IntWalk

theorem bs_vals {w : World} {fr pi : Nat → Nat} : ∀ {l : List UInt8} {vs : List Value} {O : List Nat}, Reps w fr pi (bs l).flatten vs O → vs = l.map fun b => .int .u8 b.toNat
  | [], _, _, h => by cases h; rfl
  | b :: l, vs, O, h => by
    have h' : Reps w fr pi (.int .u8 b.toNat :: (bs l).flatten) vs O := h
    obtain ⟨v, vs', O1, O2, rfl, rfl, h1, h2⟩ := h'.cons_inv
    rw [h1.int_inv, bs_vals h2]
    rfl

theorem bytesOf_ints (l : List UInt8) : Lib.bytesOf (l.map fun b => (b.toNat : Int)) = l := by
  induction l with
  | nil => rfl
  | cons b l ih =>
    simp only [Lib.bytesOf, List.map_cons, List.map_map] at ih ⊢
    rw [ih]
    simp

/-- What the model's entries read off a slice of bytes. -/
theorem bytesOf_sl {P : Program} {w : World} {fr pi : Nat → Nat} {v : Value} {O : List Nat} {sz : Nat} {nl : Option Bool} {own : Bool} {l : List UInt8} (h : Rep w fr pi (.sl sz nl own (bs l)) v O) : (Extern.Bytes.bytesOf v).run P w = .ok (st l) w := by
  have nil : bs l = [] → l = [] := fun e => by simpa [bs] using e
  rcases h.sl_inv with ⟨rfl, hl, _⟩ | ⟨ad, cap, rfl, hl, _⟩ | ⟨b, o, cap, vs, rfl, _, _, hr, hc, _⟩
  · rw [nil hl]
    rfl
  · rw [nil hl]
    simp [Extern.Bytes.bytesOf, Extern.Bytes.loadBytes, st]
    rfl
  · have hv := bs_vals hr
    subst hv
    have hl := Lib.run_loadBytesX (P := P) w (l.map fun b => (b.toNat : Int)) ⟨b, o, none⟩ .empty (fun j x hj => by
      have := (hc j (.int .u8 x) (by
        simp only [List.getElem?_map, Option.map_eq_some_iff] at hj ⊢
        obtain ⟨c, h1, h2⟩ := hj
        exact ⟨c, h1, by rw [h2]⟩)).1
      rw [addr_add]
      exact this)
    rw [bytesOf_ints, List.length_map] at hl
    show (Extern.Bytes.loadBytes ⟨b, o, none⟩ (bs l).length .empty).run P w = _
    rw [bs_len, hl]
    congr 1
    apply ByteArray.ext
    simp [st]

theorem run_find {P : Program} (l : List UInt8) (c : UInt8) (w : World) : (Extern.BytealgIndexByte.indexByte #[.string (st l), .int .u8 c.toNat]).run P w = .ok (.int .i64 (Lib.indexByte l c)) w := by
  have := Lib.run_indexByteString (P := P) (st l) (c.toNat : Int) w
  rw [this]
  simp [st]

theorem ixbN (nl : Option Bool) (own : Bool) (sz : Nat) (l : List UInt8) (c : UInt8) : PCallN Tryd.prog 73 [.sl sz nl own (bs l), .int .u8 c.toNat] (.int .i64 (Lib.indexByte l c)) := by
  refine PCallN.ofExt Tryd.func73 (by kernel_rfl) (by kernel_rfl) (by kernel_rfl) (e := Extern.BytealgIndexByte.indexByte) (by kernel_rfl) (np_cons (np_bs _) (np_cons (.int _ _) np_nil)) (.int _ _) ?_
  intro w fr pi own vals hl hr
  obtain ⟨u, v, rfl, h1, h2⟩ := vals_two hl hr
  refine ⟨_, ?_, .int .i64 _⟩
  rw [h2.int_inv]
  have hs := run_find (P := Tryd.prog) l c w
  change Sem.run Tryd.prog (do
    let b ← Extern.Bytes.bytesOf u
    let c ← Extern.Bytes.asByte (.int .u8 c.toNat)
    match (List.range b.size).find? fun i => b[i]! == c with
    | some i => pure (goInt i)
    | none => pure (goInt (-1))) w = _
  change Sem.run Tryd.prog (do
    let b ← Extern.Bytes.bytesOf (.string (st l))
    let c ← Extern.Bytes.asByte (.int .u8 c.toNat)
    match (List.range b.size).find? fun i => b[i]! == c with
    | some i => pure (goInt i)
    | none => pure (goInt (-1))) w = _ at hs
  rw [Sem.run_bind, bytesOf_sl h1]
  rw [Sem.run_bind] at hs
  exact hs

theorem cntbN (nl : Option Bool) (own : Bool) (sz : Nat) (l : List UInt8) (c : UInt8) : PCallN Tryd.prog 75 [.sl sz nl own (bs l), .int .u8 c.toNat] (.int .i64 (l.count c : Nat)) := by
  refine PCallN.ofExt Tryd.func75 (by kernel_rfl) (by kernel_rfl) (by kernel_rfl) (e := Extern.BytealgCount.count) (by kernel_rfl) (np_cons (np_bs _) (np_cons (.int _ _) np_nil)) (.int _ _) ?_
  intro w fr pi own vals hl hr
  obtain ⟨u, v, rfl, h1, h2⟩ := vals_two hl hr
  refine ⟨_, ?_, .int .i64 _⟩
  rw [h2.int_inv]
  have hs := Lib.run_countString (P := Tryd.prog) (st l) (c.toNat : Int) w
  have e1 : (st l).data.toList = l := by simp [st]
  have e2 : (c.toNat : Int).toNat.toUInt8 = c := by simp
  rw [e1, e2] at hs
  change Sem.run Tryd.prog (do
    let b ← Extern.Bytes.bytesOf u
    let c' ← Extern.Bytes.asByte (.int .u8 c.toNat)
    pure (goInt (b.foldl (fun n x => if x == c' then n + 1 else n) (0 : Nat)))) w = _
  change Sem.run Tryd.prog (do
    let b ← Extern.Bytes.bytesOf (.string (st l))
    let c' ← Extern.Bytes.asByte (.int .u8 c.toNat)
    pure (goInt (b.foldl (fun n x => if x == c' then n + 1 else n) (0 : Nat)))) w = _ at hs
  rw [Sem.run_bind, bytesOf_sl h1]
  rw [Sem.run_bind] at hs
  exact hs

theorem indexByteN (nl : Option Bool) (own : Bool) (l : List UInt8) (c : UInt8) : PCallN Tryd.prog 69 [.sl 1 nl own (bs l), .int .u8 c.toNat] (.int .i64 (Lib.indexByte l c)) := by
  refine PCallN.of (tr []) f69 (Nat.le_of_ble_eq_true rfl) (np_cons (np_bs _) (np_cons (.int _ _) np_nil)) (.int _ _) ?_
  refine call_p (ixbN _ _ _ l c) ?_
  rfl

theorem countN (nl nl' : Option Bool) (own own' : Bool) (l : List UInt8) (c : UInt8) : PCallN Tryd.prog 70 [.sl 1 nl own (bs l), .sl 1 nl' own' (bs [c])] (.int .i64 (l.count c : Nat)) := by
  refine PCallN.of (tr []) f70 (Nat.le_of_ble_eq_true rfl) (np_cons (np_bs _) (np_cons (np_bs _) np_nil)) (.int _ _) ?_
  refine cond_f (by rfl) ?_
  refine cond_t (by rfl) ?_
  refine And.intro rfl (And.intro (by omega) (Exists.intro _ (And.intro rfl ?_)))
  refine call_p (cntbN _ _ _ l c) ?_
  rfl

theorem indexN (nl nl' : Option Bool) (own own' : Bool) (l : List UInt8) (c : UInt8) : PCallN Tryd.prog 71 [.sl 1 nl own (bs l), .sl 1 nl' own' (bs [c])] (.int .i64 (Lib.indexByte l c)) := by
  refine PCallN.of (tr []) f71 (Nat.le_of_ble_eq_true rfl) (np_cons (np_bs _) (np_cons (np_bs _) np_nil)) (.int _ _) ?_
  refine cond_f (by rfl) ?_
  refine cond_t (by rfl) ?_
  refine And.intro rfl (And.intro (by omega) (Exists.intro _ (And.intro rfl ?_)))
  refine call_p (indexByteN _ _ l c) ?_
  rfl

open Go.IntWalk

def esc (c p q : UInt8) : List UInt8 → List UInt8
  | [] => []
  | b :: l => if b = c then p :: q :: esc c p q l else b :: esc c p q l

theorem esc_len (c p q : UInt8) : ∀ l : List UInt8, (esc c p q l).length = l.length + l.count c
  | [] => rfl
  | b :: l => by
    unfold esc
    have ih := esc_len c p q l
    by_cases h : b = c
    · subst h
      rw [if_pos rfl, List.count_cons_self]
      simp only [List.length_cons, ih]; omega
    · rw [if_neg h, List.count_cons_of_ne h]
      simp only [List.length_cons, ih]; omega

theorem esc_none (c p q : UInt8) : ∀ l : List UInt8, l.count c = 0 → esc c p q l = l
  | [], _ => rfl
  | b :: l, h => by
    have hb : b ≠ c := fun e => by subst e; rw [List.count_cons_self] at h; omega
    rw [List.count_cons_of_ne hb] at h
    rw [esc, if_neg hb, esc_none c p q l h]

/-- Where it stands first. -/
theorem ix_split (c : UInt8) (p q : UInt8) : ∀ l : List UInt8, 1 ≤ l.count c → ∃ k : Nat, Lib.indexByte l c = k ∧ k < l.length ∧ (l.drop (k + 1)).count c + 1 = l.count c ∧ esc c p q l = l.take k ++ [p, q] ++ esc c p q (l.drop (k + 1))
  | [], h => by simp at h
  | b :: l, h => by
    by_cases hb : b = c
    · subst hb
      refine ⟨0, by simp [Lib.indexByte], by simp, by simp, ?_⟩
      rw [esc, if_pos rfl]
      simp
    · rw [List.count_cons_of_ne hb] at h
      obtain ⟨k, h1, h2, h3, h4⟩ := ix_split c p q l h
      refine ⟨k + 1, ?_, by simp; omega, ?_, ?_⟩
      · unfold Lib.indexByte
        rw [if_neg (by simpa using hb), h1, if_neg (by simp)]
        simp
      · rw [List.count_cons_of_ne hb, ← h3]
        simp
      · rw [esc, if_neg hb, h4]
        simp

def rpAt (s : List UInt8) (c p q : UInt8) (T W S m i : Nat) : List (Nat × AV) :=
  [(0, .sl 1 none false (bs s)), (1, .sl 1 none false (bs [c])), (2, .sl 1 none false (bs [p, q])), (10, .bsl 1 0 0 T), (11, .int .i64 W), (12, .int .i64 S), (48, .int .i64 m), (49, .int .i64 i)]

theorem bs_cpy (O z u : List UInt8) (a n k : Nat) (ha : a = O.length) (hk : k = u.length) (hn : k ≤ n) : (bs (O ++ z)).take a ++ ((bs u).take n ++ (bs (O ++ z)).drop (a + k)) = bs ((O ++ u) ++ z.drop k) := by
  subst ha hk
  rw [bs_take, bs_take, bs_drop, bs_app, bs_app, List.take_left, List.take_of_length_le hn, ← List.drop_drop, List.drop_left, List.append_assoc]

theorem bsl_eq {sz id off off' n n' : Nat} (h : off = off') (h' : n = n') : AV.bsl sz id off n = AV.bsl sz id off' n' := by rw [h, h']

theorem rpLoop (s : List UInt8) (c p q : UInt8) (R : VE → Sy → Prop) (m T : Nat) (hm : m ≤ 1000000) (hT : T ≤ 2000000) (hs : s.length ≤ 1000000) (hTe : T = s.length + s.count c)
    (hQ : ∀ O rest : List UInt8, O ++ rest = esc c p q s → ∀ z : List UInt8, O.length + z.length = T → ∀ S : Nat, S ≤ s.length → s.drop S = rest → R (.exit 0) ⟨[], [(0, .sl 1 none false (bs s)), (10, .bsl 1 0 0 T), (11, .int .i64 O.length), (12, .int .i64 S)], [.arr 1 (bs (O ++ z))]⟩) :
    ∀ (r i S : Nat) (O z : List UInt8), i + r = m → (s.drop S).count c = r → O ++ esc c p q (s.drop S) = esc c p q s → O.length + z.length = T → S ≤ s.length →
      VloopS Tryd.prog (tr [44, 131]) 132 0 c68b1 (exW 132 R) ⟨[], rpAt s c p q T O.length S m i, [.arr 1 (bs (O ++ z))]⟩
  | 0, i, S, O, z, hi, hr, hO, hz, hS => by
    refine VloopS.round ?_
    refine cond_f (decide_eq_false (by omega)) ?_
    refine ex_w (hQ O (s.drop S) (by rw [← hO, esc_none _ _ _ _ hr]) z hz S hS rfl) rfl ⟨.refl _, .refl _, .refl _, .refl _, trivial⟩ rfl
  | r + 1, i, S, O, z, hi, hr, hO, hz, hS => by
    obtain ⟨k, h1, h2, h3, h4⟩ := ix_split c p q (s.drop S) (by omega)
    have hlen : O.length + (esc c p q (s.drop S)).length = T := by
      rw [hTe, ← esc_len c p q s, ← hO, List.length_append]
    rw [esc_len, List.length_drop] at hlen
    rw [List.length_drop] at h2
    refine VloopS.round ?_
    refine cond_t (decide_eq_true (by omega)) ?_
    refine And.intro (.inl rfl) (And.intro (by rw [bs_len]; omega) ?_)
    refine call_p (ret := .int .i64 (k : Nat)) (by rw [cut_bs rfl (congrArg Nat.cast (bs_len s)) (Nat.le_refl _), List.take_of_length_le (by simp), ← h1]; exact indexN _ _ _ _ _ c) ?_
    refine And.intro rfl (And.intro (by omega) ?_)
    refine And.intro (.inl rfl) (And.intro (by rw [bs_len, i64_in _ (by omega)]; omega) ?_)
    refine And.intro ⟨rfl, rfl⟩ (And.intro (.inl rfl) (And.intro (by rw [bs_len, List.length_append]; omega) ?_))
    refine And.intro (by kernel_rfl) ?_
    have e1 : (IntKind.i64.wrap ((S : Int) + (k : Nat))) = ((S + k : Nat) : Int) := by rw [i64_in _ (by omega)]; omega
    have e2 : ((bs s).drop (S : Int).toNat).take ((IntKind.i64.wrap ((S : Int) + (k : Nat))).toNat - (S : Int).toNat) = bs ((s.drop S).take k) := by
      rw [cut_bs rfl e1 (by omega)]
      congr 2
      omega
    have e3 : min (((bs s).drop (S : Int).toNat).take ((IntKind.i64.wrap ((S : Int) + (k : Nat))).toNat - (S : Int).toNat)).length (((T : Nat) : Int).toNat - ((O.length : Nat) : Int).toNat) = k := by
      rw [e2, bs_len, List.length_take, List.length_drop]; omega
    have e4 : IntKind.i64.wrap (((O.length : Nat) : Int) + ((min (((bs s).drop (S : Int).toNat).take ((IntKind.i64.wrap ((S : Int) + (k : Nat))).toNat - (S : Int).toNat)).length (((T : Nat) : Int).toNat - ((O.length : Nat) : Int).toNat) : Nat) : Int)) = ((O.length + k : Nat) : Int) := by
      rw [e3, i64_in _ (by omega)]; omega
    refine And.intro rfl (And.intro (by rw [e4]; omega) ?_)
    refine And.intro ⟨rfl, rfl⟩ (And.intro (.inl rfl) (And.intro ?_ ?_))
    · rw [e4, e3, e2]
      simp only [List.length_append, List.length_take, List.length_drop, bs_len]
      omega
    have e5 : min (bs [p, q]).length (((T : Nat) : Int).toNat - ((O.length + k : Nat) : Int).toNat) = [p, q].length := by
      simp only [List.length_cons, List.length_nil, bs_len]; omega
    have hu : ((s.drop S).take k).length = k := by rw [List.length_take, List.length_drop]; omega
    refine VloopS.weakE (l := rpAt s c p q T (O ++ (s.drop S).take k ++ [p, q]).length (S + (k + 1)) m (i + 1)) (h := [.arr 1 (bs ((O ++ (s.drop S).take k ++ [p, q]) ++ (z.drop k).drop 2))]) rfl ⟨.refl _, .refl _, .refl _, .refl _, .eq (int_eq ?_), .eq (int_eq ?_), .refl _, .eq (int_eq ?_), trivial⟩ ?_ (Nat.zero_le _)
      (rpLoop s c p q R m T hm hT hs hTe hQ r (i + 1) (S + (k + 1)) (O ++ (s.drop S).take k ++ [p, q]) ((z.drop k).drop 2) (by omega) (by rw [List.drop_drop] at h3; omega) (by rw [← hO, h4, List.drop_drop]; simp) (by simp only [List.length_append, List.length_drop, List.length_cons, List.length_nil, hu]; omega) (by omega))
    · rw [e4, e5, i64_in _ (by simp only [List.length_cons, List.length_nil]; omega)]
      simp only [List.length_append, List.length_cons, List.length_nil, hu]
      omega
    · rw [e1, i64_in _ (by simp only [List.length_cons, List.length_nil, bs_len]; omega)]
      simp only [List.length_cons, List.length_nil, bs_len]
      omega
    · rw [i64_in _ (by omega)]
      omega
    · refine congrArg (fun x => [HObj.arr 1 x]) ?_
      rw [e4, e3, e2, bs_cpy O z ((s.drop S).take k) _ _ _ (by simp) hu.symm (by omega)]
      rw [bs_cpy (O ++ (s.drop S).take k) (z.drop k) [p, q] _ _ _ (by simp; omega) e5 (Nat.min_le_right _ _), e5]
      rfl

/-- ReplaceAll's and Replace's answer: each c goes over into p q. -/
theorem replace0N (nl nl' nl2 : Option Bool) (own own' own2 : Bool) (s : List UInt8) (c p q : UInt8) (hs : s.length ≤ 1000000) (h0 : s.count c = 0) :
    PCallN Tryd.prog 68 [.sl 1 nl own (bs s), .sl 1 nl' own' (bs [c]), .sl 1 nl2 own2 (bs [p, q]), .int .i64 (-1)] (.sl 1 none false (bs (esc c p q s))) := by
  refine PCallN.of (tr [44, 131]) f68 (Nat.le_of_ble_eq_true rfl) (np_cons (np_bs _) (np_cons (np_bs _) (np_cons (np_bs _) (np_cons (.int _ _) np_nil)))) (np_bs _) ?_
  refine cond_t (by rfl) ?_
  refine call_p (countN _ _ _ _ s c) ?_
  refine cond_t (by rw [h0]; rfl) ?_
  refine And.intro (.inr ⟨rfl, rfl⟩) (And.intro (.inl rfl) (And.intro ?_ ?_))
  · simp only [List.length_nil, bs_len]; omega
  rw [esc_none _ _ _ _ h0]
  exact sl_eq rfl

theorem zeros_bs (n : Nat) : List.replicate n [AV.int .u8 0] = bs (List.replicate n 0) := by
  simp [bs]

theorem replace1N (nl nl' nl2 : Option Bool) (own own' own2 : Bool) (s : List UInt8) (c p q : UInt8) (hs : s.length ≤ 1000000) (h0 : s.count c ≠ 0) :
    PCallN Tryd.prog 68 [.sl 1 nl own (bs s), .sl 1 nl' own' (bs [c]), .sl 1 nl2 own2 (bs [p, q]), .int .i64 (-1)] (.sl 1 none false (bs (esc c p q s))) := by
  refine PCallN.weakRet (ret := .sl 1 (some false) false (bs (esc c p q s))) (.nl _ _ _ _) ?_
  refine PCallN.of (tr [44, 131]) f68 (Nat.le_of_ble_eq_true rfl) (np_cons (np_bs _) (np_cons (np_bs _) (np_cons (np_bs _) (np_cons (.int _ _) np_nil)))) (np_bs _) ?_
  have hc := List.count_le_length (a := c) (l := s)
  refine cond_t (by rfl) ?_
  refine call_p (countN _ _ _ _ s c) ?_
  refine cond_f (by simp; omega) ?_
  repeat (first | refine guard_t rfl ?_ | refine guard_f (by decide) ?_)
  refine cond_t (by rfl) ?_
  have e1 : IntKind.i64.wrap (((bs s).length : Nat) + IntKind.i64.wrap (((s.count c : Nat) : Int) * IntKind.i64.wrap (((bs [p, q]).length : Nat) - ((bs [c]).length : Nat)))) = ((s.length + s.count c : Nat) : Int) := by
    have : IntKind.i64.wrap (((bs [p, q]).length : Nat) - ((bs [c]).length : Nat)) = 1 := by rfl
    have e : ((s.count c : Nat) : Int) * 1 = s.count c := Int.mul_one _
    have hi : IntKind.i64.wrap ((s.count c : Nat) : Int) = s.count c := i64_in _ (by omega)
    rw [this, e, hi, bs_len, i64_in _ (by omega)]; omega
  refine And.intro (by rw [e1]; omega) ?_
  refine cond_t (by rfl) ?_
  refine VloopS.weakE (l := rpAt s c p q (s.length + s.count c) ([] : List UInt8).length 0 (s.count c) 0) (h := [.arr 1 (bs ([] ++ List.replicate (s.length + s.count c) 0))]) rfl ⟨.both _ _ _ _, .both _ _ _ _, .both _ _ _ _, .eq (bsl_eq rfl ?_), .eq (int_eq rfl), .eq (int_eq rfl), .refl _, .eq (int_eq rfl), trivial⟩ ?_ (Nat.zero_le _)
    (VloopS.exW (rpLoop s c p q _ (s.count c) (s.length + s.count c) (by omega) (by omega) hs rfl ?_ (s.count c) 0 0 [] (List.replicate (s.length + s.count c) 0) (by omega) rfl rfl (by simp) (by omega)))
  · rw [e1]; rfl
  · refine congrArg (fun x => [HObj.arr 1 x]) ?_
    rw [e1, zeros_bs]; rfl
  · intro O rest hO z hz S hS hr
    have hlen : O.length + rest.length = s.length + s.count c := by rw [← esc_len c p q s, ← hO, List.length_append]
    have hrl : rest.length = s.length - S := by rw [← hr, List.length_drop]
    refine And.intro rfl (And.intro (by omega) ?_)
    refine And.intro (.inl rfl) (And.intro (by rw [bs_len]; omega) ?_)
    refine And.intro ⟨rfl, rfl⟩ (And.intro (.inl rfl) (And.intro (by rw [bs_len, List.length_append]; omega) ?_))
    refine And.intro (by kernel_rfl) ?_
    have e2 : ((bs s).drop (S : Int).toNat).take ((((bs s).length : Nat) : Int).toNat - (S : Int).toNat) = bs rest := by
      rw [cut_bs rfl (congrArg Nat.cast (bs_len s)) (Nat.le_refl _), List.take_of_length_le (by simp), hr]
    have e3 : min (((bs s).drop (S : Int).toNat).take ((((bs s).length : Nat) : Int).toNat - (S : Int).toNat)).length ((((s.length + s.count c : Nat) : Nat) : Int).toNat - ((O.length : Nat) : Int).toNat) = rest.length := by
      rw [e2, bs_len]; omega
    have e4 : IntKind.i64.wrap (((O.length : Nat) : Int) + ((min (((bs s).drop (S : Int).toNat).take ((((bs s).length : Nat) : Int).toNat - (S : Int).toNat)).length ((((s.length + s.count c : Nat) : Nat) : Int).toNat - ((O.length : Nat) : Int).toNat) : Nat) : Int)) = ((O.length + rest.length : Nat) : Int) := by
      rw [e3, i64_in _ (by omega)]; omega
    refine And.intro rfl (And.intro (by rw [e4]; omega) (And.intro ⟨rfl, ?_⟩ ?_))
    · rw [e3, e2, bs_cpy O z rest _ _ _ (by simp) rfl (by omega), bs_len]
      simp only [List.length_append, List.length_drop]; omega
    · refine sl_eq ?_
      rw [e4, e3, e2, bs_cpy O z rest _ _ _ (by simp) rfl (by omega), bs_drop, bs_take]
      refine congrArg bs ?_
      rw [hO]
      have : (esc c p q s).length = O.length + rest.length := by rw [← hO, List.length_append]
      simp [← this]

theorem replaceN (nl nl' nl2 : Option Bool) (own own' own2 : Bool) (s : List UInt8) (c p q : UInt8) (hs : s.length ≤ 1000000) :
    PCallN Tryd.prog 68 [.sl 1 nl own (bs s), .sl 1 nl' own' (bs [c]), .sl 1 nl2 own2 (bs [p, q]), .int .i64 (-1)] (.sl 1 none false (bs (esc c p q s))) := by
  by_cases h : s.count c = 0
  · exact replace0N nl nl' nl2 own own' own2 s c p q hs h
  · exact replace1N nl nl' nl2 own own' own2 s c p q hs h

theorem replaceAllN (nl nl' nl2 : Option Bool) (own own' own2 : Bool) (s : List UInt8) (c p q : UInt8) (hs : s.length ≤ 1000000) :
    PCallN Tryd.prog 66 [.sl 1 nl own (bs s), .sl 1 nl' own' (bs [c]), .sl 1 nl2 own2 (bs [p, q])] (.sl 1 none false (bs (esc c p q s))) := by
  refine PCallN.of (tr []) f66 (Nat.le_of_ble_eq_true rfl) (np_cons (np_bs _) (np_cons (np_bs _) (np_cons (np_bs _) np_nil))) (np_bs _) ?_
  refine call_p (replaceN _ _ _ _ _ _ s c p q hs) ?_
  exact sl_eq rfl

open Go.IntWalk

/-- A number, its sign turned. -/
def turn (n : Int) : Int := IntKind.u64.wrap (BitVec.ofInt 64 (IntKind.u64.wrap n) ^^^ BitVec.ofInt 64 9223372036854775808).toNat

def Va.key (v : Va) : List UInt8 := if v.k = 1 then 2 :: be (turn v.n) 8 else if v.k = 2 then 3 :: (esc 0 0 255 v.s ++ [0, 1]) else [1]

theorem shr_byte_u (n : Int) (m : Nat) (hm : m ≤ 7) : IntKind.u8.wrap (n.fdiv (2 ^ min (IntKind.i64.wrap (8 * (m : Int))).toNat 64)) = ((byteAt n m).toNat : Int) := shr_byte n m hm

def oneAt (n : Int) (p : List UInt8) (m : Nat) : List (Nat × AV) := [(3, .sl 1 none true (bs p)), (4, .int .u64 n), (5, .int .i64 ((m : Int) - 1))]

theorem oneLoop (c : List AV) (n : Int) (R : VE → Sy → Prop) (tot : List UInt8) (ht : tot.length ≤ 1000) (hR : R (.exit 1) ⟨[], [(3, .sl 1 none true (bs tot))], [.cells c]⟩) :
    ∀ m p, m ≤ 8 → p ++ be n m = tot → VloopS Tryd.prog (tr [2, 3, 6, 20, 28, 39]) 43 0 c55b0 (exW 43 R) ⟨[], oneAt n p m, [.cells c]⟩
  | 0, p, hm, hp => by
    have e : p = tot := by simpa [be] using hp
    subst e
    refine VloopS.round ?_
    refine cond_f (by decide) ?_
    exact ex_w hR rfl ⟨.refl _, trivial⟩ rfl
  | m + 1, p, hm, hp => by
    refine VloopS.round ?_
    have hl : p.length + (m + 1) = tot.length := by rw [← hp, List.length_append, be_len]
    refine cond_t (decide_eq_true (by omega)) ?_
    refine And.intro ?_ ?_
    · rw [i64_in _ (by omega)]; omega
    refine And.intro (.inl ⟨rfl, rfl⟩) (And.intro (.inl rfl) (And.intro ?_ ?_))
    · simp only [List.length_cons, List.length_nil, bs_len]; omega
    refine VloopS.weakE (l := oneAt n (p ++ [byteAt n m]) m) rfl ?_ rfl (Nat.zero_le _) (oneLoop c n R tot ht hR m (p ++ [byteAt n m]) (by omega) (by rw [← hp]; simp [be]))
    refine ⟨.eq (sl_eq ?_), .refl _, .eq (int_eq ?_), trivial⟩
    · rw [← bs_app]
      refine congrArg (bs p ++ ·) ?_
      refine congrArg (fun x => [[AV.int .u8 x]]) ?_
      have : (((m + 1 : Nat) : Int) - 1) = (m : Int) := by omega
      rw [this]
      exact shr_byte n m (by omega)
    · rw [i64_in _ (by omega)]; omega

theorem oneN (v : Va) (hs : v.s.length ≤ 1000) : PCallN Tryd.prog 55 [v.av] (.sl 1 none true (bs v.key)) := by
  by_cases h1 : v.k = 1
  · refine PCallN.of (tr [2, 3, 6, 20, 28, 39]) f55 (Nat.le_of_ble_eq_true rfl) (np_cons v.np np_nil) (np_bs _) ?_
    refine cond_t (by rw [h1]; rfl) ?_
    have he : v.key = 2 :: be (turn v.n) 8 := by rw [Va.key, if_pos h1]
    refine VloopS.weakE (l := oneAt (turn v.n) [2] 8) (h := [.cells v.c]) rfl ⟨.nl _ _ _ _, .refl _, .eq (int_eq rfl), trivial⟩ rfl (Nat.zero_le _) ?_
    refine VloopS.exW (oneLoop v.c (turn v.n) _ v.key (by rw [he, List.length_cons, be_len]; decide) ?_ 8 [2] (by decide) (by rw [he]; rfl))
    exact sl_eq rfl
  · by_cases h2 : v.k = 2
    · refine PCallN.weakRet (ret := .sl 1 (some false) true (bs v.key)) (.nl _ _ _ _) ?_
      refine PCallN.of (tr [2, 3, 6, 20, 28, 39]) f55 (Nat.le_of_ble_eq_true rfl) (np_cons v.np np_nil) (np_bs _) ?_
      refine cond_f (u8_ne (u8_val h1)) ?_
      refine cond_t (by rw [h2]; rfl) ?_
      have hc := List.count_le_length (a := (0 : UInt8)) (l := v.s)
      have he := esc_len 0 0 255 v.s
      refine call_p (ret := .sl 1 none false (bs (esc 0 0 255 v.s))) (by rw [bs_st]; exact replaceAllN _ _ _ _ _ _ v.s 0 0 255 (by omega)) ?_
      refine And.intro (.inl ⟨rfl, rfl⟩) (And.intro (.inl rfl) (And.intro ?_ ?_))
      · simp only [List.length_cons, List.length_nil, bs_len]; omega
      refine And.intro (.inl ⟨rfl, rfl⟩) (And.intro (.inl rfl) (And.intro ?_ ?_))
      · simp only [List.length_cons, List.length_nil, List.length_append, bs_len]; omega
      rw [Va.key, if_neg h1, if_pos h2]
      refine sl_eq ?_
      show [AV.int .u8 3] :: bs (esc 0 0 255 v.s) ++ _ = bs ([3] ++ (esc 0 0 255 v.s ++ [0, 1]))
      rw [← bs_app, ← bs_app]
      rfl
    · refine PCallN.weakRet (ret := .sl 1 (some false) true (bs v.key)) (.nl _ _ _ _) ?_
      refine PCallN.of (tr [2, 3, 6, 20, 28, 39]) f55 (Nat.le_of_ble_eq_true rfl) (np_cons v.np np_nil) (np_bs _) ?_
      refine cond_f (u8_ne (u8_val h1)) ?_
      refine cond_f (u8_ne (u8_val h2)) ?_
      rw [Va.key, if_neg h1, if_neg h2]
      exact sl_eq rfl

/-! ### keys of lists -/

def keys (l : List Va) : List UInt8 := (l.map Va.key).flatten
theorem keys_app (a b : List Va) : keys (a ++ b) = keys a ++ keys b := by simp [keys]

theorem key_len (v : Va) (h : v.s.length ≤ 200) : v.key.length ≤ 403 := by
  unfold Va.key
  split
  · simp [be_len]
  · split
    · have hc := List.count_le_length (a := (0 : UInt8)) (l := v.s)
      have he := esc_len 0 0 255 v.s
      simp only [List.length_cons, List.length_append, List.length_nil]; omega
    · simp

theorem keys_len : ∀ (l : List Va), (∀ v, v ∈ l → v.s.length ≤ 200) → (keys l).length ≤ 403 * l.length
  | [], _ => by simp [keys]
  | v :: l, h => by
    have h1 := key_len v (h v (by simp))
    have h2 := keys_len l (fun w hw => h w (by simp [hw]))
    have : keys (v :: l) = v.key ++ keys l := by simp [keys]
    rw [this, List.length_append, List.length_cons]
    omega

theorem np_words {ok : Nat → Prop} {sz : Nat} {nl : Option Bool} {own : Bool} (ws : List Va) : NP ok (.sl sz nl own (ws.map Va.c)) := by
  refine .sl _ _ _ _ fun x hx a ha => ?_
  obtain ⟨w, _, rfl⟩ := List.mem_map.1 hx
  have := w.np (ok := ok)
  exact this.agg_inv a ha

theorem words_get {ws : List Va} {i : Nat} (h : i < ws.length) : (ws.map Va.c)[i]? = some ws[i].c := by simp [h]

def keyAt (l : List Va) (acc : List UInt8) (i : Int) : List (Nat × AV) := [(3, .sl 1 none true (bs acc)), (6, .sl 3 none false (l.map Va.c)), (7, .int .i64 l.length), (8, .int .i64 i)]

theorem keyLoop (l : List Va) (hl : l.length ≤ 40) (hs : ∀ v, v ∈ l → v.s.length ≤ 200) (R : VE → Sy → Prop) (hR : R (.exit 0) ⟨[], [(3, .sl 1 none true (bs (keys l)))], []⟩) :
    ∀ (g i : Nat), i + g = l.length → VloopS Tryd.prog (tr [2, 3, 12, 15, 17]) 18 0 c38b0 (exW 18 R) ⟨[], keyAt l (keys (l.take i)) i, []⟩
  | 0, i, hg => by
    refine VloopS.round ?_
    refine cond_f (decide_eq_false (by omega)) ?_
    refine ex_w hR rfl ⟨.eq (sl_eq ?_), trivial⟩ rfl
    rw [List.take_of_length_le (by omega)]
  | g + 1, i, hg => by
    have hlt : i < l.length := by omega
    have hk := keys_len (l.take i) (fun v hv => hs v (List.mem_of_mem_take hv))
    rw [List.length_take] at hk
    have he := key_len l[i] (hs _ (List.getElem_mem hlt))
    refine VloopS.round ?_
    refine cond_t (decide_eq_true (by omega)) ?_
    refine And.intro rfl (And.intro (Int.natCast_nonneg i) (Exists.intro l[i].c (And.intro (words_get hlt) ?_)))
    refine call_p (oneN l[i] (by have := hs _ (List.getElem_mem hlt); omega)) ?_
    refine And.intro (.inl ⟨rfl, rfl⟩) (And.intro (.inl rfl) (And.intro ?_ ?_))
    · simp only [bs_len]; omega
    refine VloopS.weakBox (l := keyAt l (keys (l.take (i + 1))) ((i + 1 : Nat) : Int)) (h := []) (ex := [.cells l[i].c]) rfl ⟨.eq (sl_eq ?_), .refl _, .refl _, .eq (int_eq ?_), trivial⟩ rfl (Nat.zero_le _) ?_ (by simp) (keyLoop l hl hs R hR g (i + 1) (by omega))
    · rw [take_snoc l i hlt, keys_app, ← bs_app]
      simp [keys]
    · rw [i64_in _ (by omega)]; omega
    · intro p hp
      simp only [keyAt, List.mem_cons, List.not_mem_nil, or_false] at hp
      rcases hp with rfl | rfl | rfl | rfl
      · exact np_bs _
      · exact np_words _
      · exact .int _ _
      · exact .int _ _

theorem keyN (nl : Option Bool) (own : Bool) (l : List Va) (hl : l.length ≤ 40) (hs : ∀ v, v ∈ l → v.s.length ≤ 200) : PCallN Tryd.prog 38 [.sl 3 nl own (l.map Va.c)] (.sl 1 none true (bs (keys l))) := by
  refine PCallN.of (tr [2, 3, 12, 15, 17]) f38 (Nat.le_of_ble_eq_true rfl) (np_cons (np_words _) np_nil) (np_bs _) ?_
  refine VloopS.weakE (l := keyAt l (keys (l.take 0)) ((0 : Nat) : Int)) rfl ⟨.nil _ _ _ _ _ (by simp), .both _ _ _ _, .eq (int_eq ?_), .refl _, trivial⟩ rfl (Nat.zero_le _) (VloopS.exW (keyLoop l hl hs _ ?_ l.length 0 (by omega)))
  · rw [List.length_map]
  · exact sl_eq rfl

open Go.IntWalk

def valAt (nl : Option Bool) (ws : List Va) (acc : List Va) (i : Int) : List (Nat × AV) := [(0, .sl 3 nl false (ws.map Va.c)), (3, .sl 3 none true (acc.map Va.c)), (4, .int .i64 i)]

theorem valLoop (nl : Option Bool) (ws : List Va) (hl : ws.length ≤ 1000) (R : VE → Sy → Prop) (hR : R (.exit 0) ⟨[], [(3, .sl 3 none true ((ws.map Va.of).map Va.c))], []⟩) :
    ∀ (g i : Nat), i + g = ws.length → VloopS Tryd.prog (tr [2, 3, 11, 18, 19]) 20 0 c18b0 (exW 20 R) ⟨[], valAt nl ws ((ws.take i).map Va.of) i, []⟩
  | 0, i, hg => by
    refine VloopS.round ?_
    refine cond_f (decide_eq_false (by rw [List.length_map]; omega)) ?_
    refine ex_w hR rfl ⟨.eq (sl_eq ?_), trivial⟩ rfl
    rw [List.take_of_length_le (by omega)]
  | g + 1, i, hg => by
    have hlt : i < ws.length := by omega
    refine VloopS.round ?_
    refine cond_t (decide_eq_true (by rw [List.length_map]; omega)) ?_
    refine And.intro rfl (And.intro (Int.natCast_nonneg i) (Exists.intro ws[i].c (And.intro (words_get hlt) ?_)))
    refine call_p (ofN ws[i]) ?_
    refine And.intro (.inl ⟨rfl, rfl⟩) (And.intro (.inl rfl) (And.intro ?_ ?_))
    · simp only [List.length_cons, List.length_nil, List.length_map, List.length_take]; omega
    refine VloopS.weakE (l := valAt nl ws ((ws.take (i + 1)).map Va.of) ((i + 1 : Nat) : Int)) rfl ⟨.refl _, .eq (sl_eq ?_), .eq (int_eq ?_), trivial⟩ rfl (Nat.zero_le _) (valLoop nl ws hl R hR g (i + 1) (by omega))
    · rw [take_snoc ws i hlt, List.map_append, List.map_append]
      rfl
    · rw [i64_in _ (by omega)]; omega

theorem valuesN (nl : Option Bool) (own : Bool) (ws : List Va) (hl : ws.length ≤ 1000) : PCallN Tryd.prog 18 [.sl 3 nl own (ws.map Va.c)] (.sl 3 none true ((ws.map Va.of).map Va.c)) := by
  refine PCallN.of (tr [2, 3, 11, 18, 19]) f18 (Nat.le_of_ble_eq_true rfl) (np_cons (np_words _) np_nil) (np_words _) ?_
  refine VloopS.weakE (l := valAt nl ws ((ws.take 0).map Va.of) ((0 : Nat) : Int)) rfl ⟨.strip _, .nil _ _ _ _ _ (by simp), .refl _, trivial⟩ rfl (Nat.zero_le _) (VloopS.exW (valLoop nl ws hl _ ?_ ws.length 0 (by omega)))
  exact sl_eq rfl

theorem key_nought : keys [⟨1, 0, []⟩] = [2, 128, 0, 0, 0, 0, 0, 0, 0] := by decide +kernel
theorem key_text : keys [⟨2, 0, [0]⟩] = [3, 0, 255, 0, 1] := by decide +kernel

theorem np_ww {ok : Nat → Prop} {sz sz' : Nat} {nl nl' : Option Bool} {own own' : Bool} (a b : List Va) : ∀ x, x ∈ [AV.sl sz nl own (a.map Va.c), AV.sl sz' nl' own' (b.map Va.c)] → NP ok x := np_cons (np_words _) (np_cons (np_words _) np_nil)

theorem of_small (ws : List Va) : ∀ v, v ∈ ws.map Va.of → v.s.length ≤ 200 := by
  intro v hv
  obtain ⟨w, _, rfl⟩ := List.mem_map.1 hv
  exact of_len w

open Go.IntWalk Go.Lib

theorem cb_cons (a b : UInt8) (r s : List UInt8) : compareBytes (a :: r) (b :: s) = if a.toNat < b.toNat then -1 else if b.toNat < a.toNat then 1 else compareBytes r s := by
  conv => lhs; unfold compareBytes
  simp only [UInt8.lt_iff_toNat_lt]

theorem cb_same (a : UInt8) (r s : List UInt8) : compareBytes (a :: r) (a :: s) = compareBytes r s := by
  rw [cb_cons, if_neg (Nat.lt_irrefl _), if_neg (Nat.lt_irrefl _)]

theorem esc_cons_t (c p q : UInt8) (l : List UInt8) : esc c p q (c :: l) = p :: q :: esc c p q l := by rw [esc, if_pos rfl]
theorem esc_cons_f (c p q b : UInt8) (l : List UInt8) (h : b ≠ c) : esc c p q (b :: l) = b :: esc c p q l := by rw [esc, if_neg h]

theorem u8_pos {b : UInt8} (h : b ≠ 0) : (0 : UInt8).toNat < b.toNat := by
  show 0 < b.toNat
  rcases Nat.eq_zero_or_pos b.toNat with h0 | h0
  · exact absurd (UInt8.toNat_inj.1 h0) h
  · exact h0

/-- Texts' keys. -/
theorem esc_cmp (r r' : List UInt8) : ∀ s s' : List UInt8, compareBytes (esc 0 0 255 s ++ (0 :: 1 :: r)) (esc 0 0 255 s' ++ (0 :: 1 :: r')) = if compareBytes s s' ≠ 0 then compareBytes s s' else compareBytes r r'
  | [], [] => by
    rw [cb_self, if_neg (fun h => h rfl)]
    show compareBytes (0 :: 1 :: r) (0 :: 1 :: r') = _
    rw [cb_same, cb_same]
  | [], b :: t => by
    have h0 : compareBytes [] (b :: t) = -1 := rfl
    rw [h0, if_pos (by decide)]
    by_cases hb : b = 0
    · subst hb
      rw [esc_cons_t]
      show compareBytes (0 :: 1 :: r) (0 :: 255 :: _) = -1
      rw [cb_same, cb_cons, if_pos (by decide)]
    · rw [esc_cons_f _ _ _ _ _ hb]
      show compareBytes (0 :: 1 :: r) (b :: _) = -1
      rw [cb_cons, if_pos (u8_pos hb)]
  | a :: s, [] => by
    have h0 : compareBytes (a :: s) [] = 1 := rfl
    rw [h0, if_pos (by decide)]
    by_cases ha : a = 0
    · subst ha
      rw [esc_cons_t]
      show compareBytes (0 :: 255 :: _) (0 :: 1 :: r') = 1
      rw [cb_same, cb_cons, if_neg (by decide), if_pos (by decide)]
    · rw [esc_cons_f _ _ _ _ _ ha]
      show compareBytes (a :: _) (0 :: 1 :: r') = 1
      rw [cb_cons, if_neg (Nat.lt_asymm (u8_pos ha)), if_pos (u8_pos ha)]
  | a :: s, b :: t => by
    have ih := esc_cmp r r' s t
    by_cases hab : a = b
    · subst hab
      rw [cb_same]
      by_cases ha : a = 0
      · subst ha
        rw [esc_cons_t, esc_cons_t]
        show compareBytes (0 :: 255 :: _) (0 :: 255 :: _) = _
        rw [cb_same, cb_same]
        exact ih
      · rw [esc_cons_f _ _ _ _ _ ha, esc_cons_f _ _ _ _ _ ha]
        show compareBytes (a :: _) (a :: _) = _
        rw [cb_same]
        exact ih
    · have hn : a.toNat ≠ b.toNat := fun e => hab (UInt8.toNat_inj.1 e)
      have key : ∀ x y : List UInt8, compareBytes (a :: x) (b :: y) = if a.toNat < b.toNat then -1 else 1 := by
        intro x y
        rw [cb_cons]
        by_cases h : a.toNat < b.toNat
        · rw [if_pos h, if_pos h]
        · rw [if_neg h, if_neg h, if_pos (by omega)]
      rw [key, if_pos (by split <;> decide)]
      by_cases ha : a = 0
      · subst ha
        rw [esc_cons_t, esc_cons_f _ _ _ _ _ (fun e => hab e.symm)]
        exact key _ _
      · by_cases hb : b = 0
        · subst hb
          rw [esc_cons_t, esc_cons_f _ _ _ _ _ ha]
          exact key _ _
        · rw [esc_cons_f _ _ _ _ _ ha, esc_cons_f _ _ _ _ _ hb]
          exact key _ _

theorem sgn_zero {a b : Int} : sgn a b = 0 ↔ a = b := by
  unfold sgn
  split
  · simp; omega
  · split
    · simp; omega
    · simp; omega

/-- Numbers' bytes. -/
theorem be_cmp : ∀ (m : Nat) (a b : Int) (r s : List UInt8), 0 ≤ a → 0 ≤ b → a < 256 ^ m → b < 256 ^ m →
    compareBytes (be a m ++ r) (be b m ++ s) = if sgn a b ≠ 0 then sgn a b else compareBytes r s
  | 0, a, b, r, s, ha, hb, ha', hb' => by
    have e : a = b := by simp at ha' hb'; omega
    rw [if_neg (fun h => h (sgn_zero.2 e))]
    rfl
  | m + 1, a, b, r, s, ha, hb, ha', hb' => by
    have pw : (256 : Int) ^ (m + 1) = 256 ^ m * 256 := Int.pow_succ 256 m
    rw [be_snoc, be_snoc, List.append_assoc, List.append_assoc]
    have ih := be_cmp m (a / 256) (b / 256) ([byteAt a 0] ++ r) ([byteAt b 0] ++ s) (by omega) (by omega) (by rw [pw] at ha'; omega) (by rw [pw] at hb'; omega)
    rw [ih]
    have e1 := byteAt_toNat a 0
    have e2 := byteAt_toNat b 0
    simp only [Nat.mul_zero, Int.pow_zero, Int.ediv_one] at e1 e2
    by_cases hq : a / 256 = b / 256
    · rw [if_neg (fun h => h (sgn_zero.2 hq))]
      show compareBytes (byteAt a 0 :: r) (byteAt b 0 :: s) = _
      rw [cb_cons]
      unfold sgn
      by_cases h1 : a < b
      · rw [if_pos (by omega), if_pos h1, if_pos (by decide)]
      · rw [if_neg (by omega), if_neg h1]
        by_cases h2 : a > b
        · rw [if_pos (by omega), if_pos h2, if_pos (by decide)]
        · rw [if_neg (by omega), if_neg h2, if_neg (by simp)]
    · rw [if_pos (fun h => hq (sgn_zero.1 h))]
      have : sgn (a / 256) (b / 256) = sgn a b := by
        unfold sgn
        by_cases h1 : a < b
        · rw [if_pos (by omega), if_pos h1]
        · rw [if_neg (by omega), if_neg h1, if_pos (by omega), if_pos (by omega)]
      rw [this, if_pos (fun h => hq (by rw [sgn_zero.1 h]))]

theorem xor_top (u : Nat) (h : u < 2 ^ 63) : 2 ^ 63 ^^^ u = 2 ^ 63 + u := by
  apply Nat.eq_of_testBit_eq
  intro i
  rw [Nat.testBit_xor, Nat.testBit_two_pow]
  rcases Nat.lt_trichotomy i 63 with hi | hi | hi
  · rw [Nat.testBit_two_pow_add_gt hi, decide_eq_false (by omega), Bool.false_xor]
  · subst hi
    rw [Nat.testBit_two_pow_add_eq, decide_eq_true rfl, Bool.true_xor]
  · have h1 : u.testBit i = false := Nat.testBit_lt_two_pow (Nat.lt_of_lt_of_le h (Nat.pow_le_pow_right (by decide) (by omega)))
    have h2 : (2 ^ 63 + u).testBit i = false := Nat.testBit_lt_two_pow (Nat.lt_of_lt_of_le (show 2 ^ 63 + u < 2 ^ 64 by omega) (Nat.pow_le_pow_right (by decide) (by omega)))
    rw [h1, h2, decide_eq_false (by omega)]
    rfl

theorem turn_val (n : Int) (h0 : -9223372036854775808 ≤ n) (h1 : n ≤ 9223372036854775807) : turn n = n + 9223372036854775808 := by
  unfold turn
  rw [w_u64, w_u64, BitVec.toNat_xor, BitVec.toNat_ofInt, BitVec.toNat_ofInt]
  have e2 : ((9223372036854775808 : Int) % ((2 ^ 64 : Nat) : Int)).toNat = 2 ^ 63 := by decide
  rw [e2]
  have p64 : ((2 ^ 64 : Nat) : Int) = 18446744073709551616 := by decide
  rw [p64]
  have p63 : (2 : Nat) ^ 63 = 9223372036854775808 := by decide
  by_cases hn : 0 ≤ n
  · have e : (n % 18446744073709551616 % 18446744073709551616).toNat = n.toNat := by omega
    rw [e, Nat.xor_comm, xor_top _ (by omega)]
    omega
  · have e : (n % 18446744073709551616 % 18446744073709551616).toNat = 2 ^ 63 + (n + 9223372036854775808).toNat := by omega
    rw [e, ← xor_top _ (by omega), Nat.xor_comm, ← Nat.xor_assoc, Nat.xor_self, Nat.zero_xor]
    omega

def Va.cmp (x y : Va) : Int := if sgn x.k.toNat y.k.toNat ≠ 0 then sgn x.k.toNat y.k.toNat else if sgn x.n y.n ≠ 0 then sgn x.n y.n else compareBytes x.s y.s

theorem right_kinds {x : Va} (h : x.right = true) : (x.k = 0 ∧ x.n = 0 ∧ x.s = []) ∨ (x.k = 1 ∧ x.s = []) ∨ (x.k = 2 ∧ x.n = 0) := by
  unfold Va.right at h
  by_cases h0 : x.k = 0
  · rw [if_pos h0] at h
    simp only [Bool.and_eq_true, beq_iff_eq, decide_eq_true_eq] at h
    exact .inl ⟨h0, h.1, h.2⟩
  · rw [if_neg h0] at h
    by_cases h1 : x.k = 1
    · rw [if_pos h1] at h
      exact .inr (.inl ⟨h1, of_decide_eq_true h⟩)
    · rw [if_neg h1] at h
      by_cases h2 : x.k = 2
      · rw [if_pos h2] at h
        simp only [Bool.and_eq_true, beq_iff_eq, decide_eq_true_eq] at h
        exact .inr (.inr ⟨h2, h.1⟩)
      · rw [if_neg h2] at h; cases h

theorem key_cmp (x y : Va) (hx : x.right = true) (hy : y.right = true) (ox : x.ok) (oy : y.ok) (r s : List UInt8) :
    compareBytes (x.key ++ r) (y.key ++ s) = if x.cmp y ≠ 0 then x.cmp y else compareBytes r s := by
  obtain ⟨k, n, t⟩ := x
  obtain ⟨k', n', t'⟩ := y
  have e0 : ∀ n : Int, sgn n n = 0 := fun n => sgn_zero.2 rfl
  have k0 : ∀ n t, Va.key ⟨0, n, t⟩ = [1] := fun _ _ => rfl
  have k1 : ∀ n t, Va.key ⟨1, n, t⟩ = 2 :: be (turn n) 8 := fun _ _ => rfl
  have k2 : ∀ n t, Va.key ⟨2, n, t⟩ = 3 :: (esc 0 0 255 t ++ [0, 1]) := fun _ _ => rfl
  have p8 : (256 : Int) ^ 8 = 18446744073709551616 := by decide
  unfold Va.ok at ox oy
  rcases right_kinds hx with ⟨h1, h2, h3⟩ | ⟨h1, h2⟩ | ⟨h1, h2⟩ <;> rcases right_kinds hy with ⟨g1, g2, g3⟩ | ⟨g1, g2⟩ | ⟨g1, g2⟩ <;> simp only at h1 h2 g1 g2 ox oy <;> subst h1 h2 g1 g2
  · simp only at h3 g3
    subst h3 g3
    rw [k0]
    exact cb_same _ _ _
  · rw [k0, k1]; rfl
  · rw [k0, k2]; rfl
  · rw [k1, k0]; rfl
  · rw [k1, k1]
    show compareBytes (2 :: (be (turn n) 8 ++ r)) (2 :: (be (turn n') 8 ++ s)) = _
    rw [cb_same, be_cmp 8 _ _ _ _ (by rw [turn_val n ox.1 ox.2]; omega) (by rw [turn_val n' oy.1 oy.2]; omega) (by rw [turn_val n ox.1 ox.2, p8]; omega) (by rw [turn_val n' oy.1 oy.2, p8]; omega)]
    have : sgn (turn n) (turn n') = sgn n n' := by
      rw [turn_val n ox.1 ox.2, turn_val n' oy.1 oy.2]
      unfold sgn
      by_cases h1 : n < n'
      · rw [if_pos (by omega), if_pos h1]
      · rw [if_neg (by omega), if_neg h1]
        by_cases h2 : n > n'
        · rw [if_pos (by omega), if_pos h2]
        · rw [if_neg (by omega), if_neg h2]
    rw [this]
    unfold Va.cmp
    simp only [e0, cb_self, ne_eq, not_true_eq_false, ↓reduceIte]
    by_cases h : sgn n n' = 0
    · simp [h]
    · simp [h]
  · rw [k1, k2]; rfl
  · rw [k2, k0]; rfl
  · rw [k2, k1]; rfl
  · rw [k2, k2]
    have a1 : ∀ (u r : List UInt8), (3 :: (u ++ [0, 1])) ++ r = 3 :: (u ++ (0 :: 1 :: r)) := by intro u r; simp
    rw [a1, a1, cb_same, esc_cmp]
    unfold Va.cmp
    simp only [e0, ne_eq, not_true_eq_false, ↓reduceIte]

theorem key_ne (x : Va) : ∃ b l, x.key = b :: l := by
  unfold Va.key
  split
  · exact ⟨_, _, rfl⟩
  · split
    · exact ⟨_, _, rfl⟩
    · exact ⟨_, _, rfl⟩

/-- Lists' order. -/
def cmpL : List Va → List Va → Int
  | [], [] => 0
  | [], _ :: _ => -1
  | _ :: _, [] => 1
  | x :: xs, y :: ys => if x.cmp y ≠ 0 then x.cmp y else cmpL xs ys

theorem keys_cmp : ∀ (xs ys : List Va), (∀ v, v ∈ xs → v.right = true ∧ v.ok) → (∀ v, v ∈ ys → v.right = true ∧ v.ok) → compareBytes (keys xs) (keys ys) = cmpL xs ys
  | [], [], _, _ => rfl
  | [], y :: ys, _, _ => by
    obtain ⟨b, l, e⟩ := key_ne y
    show compareBytes [] (y.key ++ keys ys) = -1
    rw [e]; rfl
  | x :: xs, [], _, _ => by
    obtain ⟨b, l, e⟩ := key_ne x
    show compareBytes (x.key ++ keys xs) [] = 1
    rw [e]; rfl
  | x :: xs, y :: ys, hx, hy => by
    show compareBytes (x.key ++ keys xs) (y.key ++ keys ys) = _
    obtain ⟨a1, a2⟩ := hx x (by simp)
    obtain ⟨b1, b2⟩ := hy y (by simp)
    rw [key_cmp x y a1 b1 a2 b2, keys_cmp xs ys (fun v hv => hx v (by simp [hv])) (fun v hv => hy v (by simp [hv]))]
    rfl

open Go.IntWalk Go.Lib

theorem right_same (x y : Va) (hx : x.right = true) (hy : y.right = true) (hk : x.k = y.k) : (x.n = 0 ∧ y.n = 0) ∨ (x.s = [] ∧ y.s = []) := by
  unfold Va.right at hx hy
  rw [← hk] at hy
  by_cases h0 : x.k = 0
  · rw [if_pos h0] at hx hy
    simp only [Bool.and_eq_true, beq_iff_eq, decide_eq_true_eq] at hx hy
    exact .inl ⟨hx.1, hy.1⟩
  · rw [if_neg h0] at hx hy
    by_cases h1 : x.k = 1
    · rw [if_pos h1] at hx hy
      exact .inr ⟨of_decide_eq_true hx, of_decide_eq_true hy⟩
    · rw [if_neg h1] at hx hy
      by_cases h2 : x.k = 2
      · rw [if_pos h2] at hx hy
        simp only [Bool.and_eq_true, beq_iff_eq, decide_eq_true_eq] at hx hy
        exact .inl ⟨hx.1, hy.1⟩
      · rw [if_neg h2] at hx; cases hx

theorem st_less (a b : List UInt8) : Op.bytesLess (st a).toList (st b).toList = decide (compareBytes a b < 0) := by rw [st_list, st_list, cb_less]
theorem st_more (a b : List UInt8) : (!(Op.bytesLess (st a).toList (st b).toList || (st a).toList == (st b).toList)) = decide (compareBytes a b > 0) := by
  rw [st_beq, st_less]
  by_cases e : a = b
  · subst e
    rw [cb_self, decide_eq_true rfl]; rfl
  · rw [decide_eq_false e, Bool.or_false]
    have h0 : compareBytes a b ≠ 0 := fun h => e (cb_eq h)
    by_cases h : compareBytes a b < 0
    · rw [decide_eq_true h, decide_eq_false (by omega)]; rfl
    · rw [decide_eq_false h, decide_eq_true (by omega)]; rfl

theorem rCompareN (x y : Va) (hx : x.right = true) (hy : y.right = true) : PCallN Tryd.prog 36 [x.av, y.av] (.int .i64 (x.cmp y)) := by
  refine PCallN.of (tr []) f36 (Nat.le_of_ble_eq_true rfl) (np_cons x.np (np_cons y.np np_nil)) (.int _ _) ?_
  by_cases hk : x.k = y.k
  · have hs := right_same x y hx hy hk
    obtain ⟨k, n, s⟩ := x
    obtain ⟨k', n', s'⟩ := y
    simp only at hk hs
    subst hk
    refine cond_f (bne_self_eq_false _) ?_
    have hc : ∀ n n' s s', Va.cmp ⟨k, n, s⟩ ⟨k, n', s'⟩ = if sgn n n' ≠ 0 then sgn n n' else compareBytes s s' := by
      intro n n' s s'
      unfold Va.cmp
      rw [show sgn (k.toNat : Int) k.toNat = 0 by unfold sgn; rw [if_neg (Int.lt_irrefl _), if_neg (Int.lt_irrefl _)], if_neg (fun h => h rfl)]
    rw [hc]
    have hv := cb_val s s'
    rcases hs with ⟨rfl, rfl⟩ | ⟨rfl, rfl⟩
    · rw [show sgn 0 0 = 0 from rfl, if_neg (fun h => h rfl)]
      repeat (first | refine guard_t rfl ?_ | refine guard_f (by decide) ?_)
      by_cases h1 : compareBytes s s' < 0
      · refine cond_t (by rw [st_less]; exact decide_eq_true h1) ?_
        exact int_eq (by omega)
      · refine cond_f (by rw [st_less]; exact decide_eq_false h1) ?_
        repeat (first | refine guard_t rfl ?_ | refine guard_f (by decide) ?_)
        by_cases h2 : compareBytes s s' > 0
        · refine cond_t (by rw [st_more]; exact decide_eq_true h2) ?_
          exact int_eq (by omega)
        · refine cond_f (by rw [st_more]; exact decide_eq_false h2) ?_
          exact int_eq (by omega)
    · unfold sgn
      by_cases h1 : n < n'
      · (refine guard_f (by rw [decide_eq_true h1]; decide) ?_; repeat (first | refine guard_t rfl ?_ | refine guard_f (by decide) ?_))
        refine cond_t rfl ?_
        exact int_eq (by rw [if_pos h1]; rfl)
      · (refine guard_t (decide_eq_false h1) ?_; repeat (first | refine guard_t rfl ?_ | refine guard_f (by decide) ?_))
        refine cond_f (by rw [st_less]; rfl) ?_
        by_cases h2 : n > n'
        · (refine guard_f (by rw [decide_eq_true h2]; decide) ?_; repeat (first | refine guard_t rfl ?_ | refine guard_f (by decide) ?_))
          refine cond_t rfl ?_
          exact int_eq (by rw [if_neg h1, if_pos h2]; rfl)
        · (refine guard_t (decide_eq_false h2) ?_; repeat (first | refine guard_t rfl ?_ | refine guard_f (by decide) ?_))
          refine cond_f (by rw [st_more]; rfl) ?_
          exact int_eq (by rw [if_neg h1, if_neg h2]; rfl)
  · refine cond_t (bne_iff_ne.2 fun e => hk (UInt8.toNat_inj.1 (by omega))) ?_
    unfold Va.cmp sgn
    by_cases h1 : (x.k.toNat : Int) < y.k.toNat
    · refine cond_t (decide_eq_true h1) ?_
      exact int_eq (by rw [if_pos h1]; rfl)
    · refine cond_f (decide_eq_false h1) ?_
      have h2 : (x.k.toNat : Int) > y.k.toNat := by
        have : x.k.toNat ≠ y.k.toNat := fun e => hk (UInt8.toNat_inj.1 e)
        omega
      exact int_eq (by rw [if_neg h1, if_pos h2]; rfl)

/-! the order, plainly -/

def cmAt (a b : List Va) (i : Nat) : List (Nat × AV) := [(0, .sl 3 none false (a.map Va.c)), (1, .sl 3 none false (b.map Va.c)), (5, .int .i64 i)]

theorem cmLoop (a b : List Va) (ha : ∀ v, v ∈ a → v.right = true) (hb : ∀ v, v ∈ b → v.right = true) (hl : a.length ≤ 1000000) (R : VE → Sy → Prop)
    (hr : R .ret ⟨[], [(4, .int .i64 (cmpL a b))], []⟩) (hR : cmpL a b = sgn a.length b.length → R (.exit 0) ⟨[], [(0, .sl 3 none false (a.map Va.c)), (1, .sl 3 none false (b.map Va.c))], []⟩) :
    ∀ (g i : Nat), i + g = a.length → i ≤ b.length → cmpL (a.drop i) (b.drop i) = cmpL a b → VloopS Tryd.prog (tr []) 41 0 c15b0 (exW 41 R) ⟨[], cmAt a b i, []⟩
  | 0, i, hg, hi, hc => by
    refine VloopS.round ?_
    have h1 : ¬ ((i : Int) < ((a.map Va.c).length : Nat)) := by rw [List.length_map]; omega
    refine guard_f (by rw [decide_eq_false h1]; decide) ?_
    rw [decide_eq_false h1]
    repeat (first | refine guard_t rfl ?_ | refine guard_f (by decide) ?_ | refine cond_t rfl ?_ | refine cond_f rfl ?_)
    refine ex_w (hR ?_) rfl ⟨.refl _, .refl _, trivial⟩ rfl
    rw [← hc, List.drop_eq_nil_of_le (by omega : a.length ≤ i)]
    unfold sgn
    cases hq : b.drop i with
    | nil =>
      have := List.drop_eq_nil_iff.1 hq
      rw [if_neg (by omega), if_neg (by omega)]; rfl
    | cons y ys =>
      have : i < b.length := by
        rcases Nat.lt_or_ge i b.length with h | h
        · exact h
        · rw [List.drop_eq_nil_of_le h] at hq; cases hq
      rw [if_pos (by omega)]; rfl
  | g + 1, i, hg, hi, hc => by
    have hlt : i < a.length := by omega
    refine VloopS.round ?_
    have h1 : ((i : Int) < ((a.map Va.c).length : Nat)) := by rw [List.length_map]; omega
    refine guard_t (decide_eq_true h1) ?_
    rw [decide_eq_true h1]
    repeat (first | refine guard_t rfl ?_ | refine guard_f (by decide) ?_)
    by_cases hb' : i < b.length
    · refine cond_t (decide_eq_true (by rw [List.length_map]; omega)) ?_
      refine And.intro rfl (And.intro (Int.natCast_nonneg i) (Exists.intro a[i].c (And.intro (words_get hlt) ?_)))
      refine And.intro rfl (And.intro (Int.natCast_nonneg i) (Exists.intro b[i].c (And.intro (words_get hb') ?_)))
      refine call_d (rCompareN a[i] b[i] (ha _ (List.getElem_mem hlt)) (hb _ (List.getElem_mem hb'))) ?_
      refine And.intro (by kernel_rfl) ?_
      have hd := hc
      rw [List.drop_eq_getElem_cons hlt, List.drop_eq_getElem_cons hb'] at hd
      by_cases hz : a[i].cmp b[i] = 0
      · refine cond_f (by rw [hz]; rfl) ?_
        refine VloopS.weakE (l := cmAt a b (i + 1)) rfl ⟨.refl _, .refl _, .eq (int_eq ?_), trivial⟩ rfl (Nat.zero_le _) (cmLoop a b ha hb hl R hr hR g (i + 1) (by omega) (by omega) ?_)
        · rw [i64_in _ (by omega)]; omega
        · rw [← hd]
          show _ = if _ then _ else _
          rw [if_neg (fun h => h hz)]
      · refine cond_t (bne_iff_ne.2 hz) ?_
        refine ex_w hr rfl ⟨.eq (int_eq ?_), trivial⟩ rfl
        rw [← hd]
        show _ = if _ then _ else _
        rw [if_pos hz]
    · refine cond_f (decide_eq_false (by rw [List.length_map]; omega)) ?_
      refine ex_w (hR ?_) rfl ⟨.refl _, .refl _, trivial⟩ rfl
      rw [← hc, List.drop_eq_getElem_cons hlt, List.drop_eq_nil_of_le (by omega : b.length ≤ i)]
      unfold sgn
      rw [if_neg (by omega), if_pos (by omega)]
      rfl

theorem compareLN (nl nl' : Option Bool) (own own' : Bool) (a b : List Va) (ha : ∀ v, v ∈ a → v.right = true) (hb : ∀ v, v ∈ b → v.right = true) (hl : a.length ≤ 1000000) :
    PCallN Tryd.prog 15 [.sl 3 nl own (a.map Va.c), .sl 3 nl' own' (b.map Va.c)] (.int .i64 (cmpL a b)) := by
  refine PCallN.of (tr []) f15 (Nat.le_of_ble_eq_true rfl) (np_ww _ _) (.int _ _) ?_
  refine VloopS.weakE (l := cmAt a b 0) rfl ⟨.both _ _ _ _, .both _ _ _ _, .eq (int_eq rfl), trivial⟩ rfl (Nat.zero_le _) (VloopS.exW (cmLoop a b ha hb hl _ ?_ ?_ a.length 0 (by omega) (by omega) rfl))
  · exact rfl
  · intro hs
    rw [hs]
    unfold sgn
    by_cases h1 : ((a.length : Nat) : Int) < b.length
    · refine cond_t (decide_eq_true (by rw [List.length_map, List.length_map]; exact h1)) ?_
      exact int_eq (by rw [if_pos h1])
    · refine cond_f (decide_eq_false (by rw [List.length_map, List.length_map]; exact h1)) ?_
      by_cases h2 : ((a.length : Nat) : Int) > b.length
      · refine cond_t (decide_eq_true (by rw [List.length_map, List.length_map]; exact h2)) ?_
        exact int_eq (by rw [if_neg h1, if_pos h2])
      · refine cond_f (decide_eq_false (by rw [List.length_map, List.length_map]; exact h2)) ?_
        exact int_eq (by rw [if_neg h1, if_neg h2])

open Go.IntWalk Go.Lib

/-- A text's bytes, and what stands behind it. -/
def wordsD : List UInt8 → Option (List UInt8 × List UInt8)
  | [] => none
  | [_] => none
  | b :: m :: l => if b = 0 then (if m = 255 then (wordsD l).map fun x => (0 :: x.1, x.2) else if m = 1 then some ([], l) else none) else (wordsD (m :: l)).map fun x => (b :: x.1, x.2)

def wdTail (pre : List UInt8) : List UInt8 → Option (List UInt8 × List UInt8)
  | [] => none
  | m :: l => if m = 255 then (wordsD l).map fun x => (pre ++ 0 :: x.1, x.2) else if m = 1 then some (pre, l) else none

theorem ix_words : ∀ q : List UInt8, (indexByte q 0 = -1 ∧ wordsD q = none) ∨ ∃ k : Nat, indexByte q 0 = k ∧ k < q.length ∧ wordsD q = wdTail (q.take k) (q.drop (k + 1))
  | [] => .inl ⟨rfl, rfl⟩
  | [b] => by
    by_cases hb : b = 0
    · subst hb
      exact .inr ⟨0, rfl, by simp, rfl⟩
    · refine .inl ⟨?_, rfl⟩
      unfold indexByte
      rw [if_neg (by simpa using hb)]
      rfl
  | b :: m :: l => by
    by_cases hb : b = 0
    · subst hb
      refine .inr ⟨0, rfl, by simp, ?_⟩
      rw [wordsD, if_pos rfl]
      show _ = wdTail [] (m :: l)
      unfold wdTail
      rfl
    · have hw : wordsD (b :: m :: l) = (wordsD (m :: l)).map fun x => (b :: x.1, x.2) := by rw [wordsD, if_neg hb]
      rcases ix_words (m :: l) with ⟨h1, h2⟩ | ⟨k, h1, h2, h3⟩
      · refine .inl ⟨?_, by rw [hw, h2]; rfl⟩
        rw [indexByte, if_neg (by simpa using hb), h1]
        rfl
      · refine .inr ⟨k + 1, ?_, by simp at h2 ⊢; omega, ?_⟩
        · rw [indexByte, if_neg (by simpa using hb), h1, if_neg (by simp)]
          omega
        · rw [hw, h3]
          show _ = wdTail (b :: (m :: l).take k) ((m :: l).drop (k + 1))
          cases (m :: l).drop (k + 1) with
          | nil => rfl
          | cons y r =>
            simp only [wdTail]
            by_cases h5 : y = 255
            · rw [if_pos h5, if_pos h5, Option.map_map]; rfl
            · rw [if_neg h5, if_neg h5]
              by_cases h6 : y = 1
              · rw [if_pos h6, if_pos h6]; rfl
              · rw [if_neg h6, if_neg h6]; rfl

def wdRet : Option (List UInt8 × List UInt8) → List (Nat × AV)
  | some x => [(2, .str (st x.1)), (3, .sl 1 none false (bs x.2)), (4, .bool true)]
  | none => [(2, .str (st [])), (3, .sl 1 none false (bs [])), (4, .bool false)]

def wdAt (q acc : List UInt8) : List (Nat × AV) := [(0, .sl 1 none false (bs q)), (5, .sl 1 none true (bs acc))]

theorem wdLoop (p : List UInt8) (hp : p.length ≤ 100000) (R : VE → Sy → Prop) (hR : R .ret ⟨[], wdRet (wordsD p), []⟩) :
    ∀ (n : Nat) (q acc : List UInt8), q.length ≤ n → q.length + acc.length ≤ p.length → (wordsD q).map (fun x => (acc ++ x.1, x.2)) = wordsD p →
      VloopS Tryd.prog (tr [2, 3, 5, 19, 23, 36, 38]) 44 0 c67b0 (exW 44 R) ⟨[], wdAt q acc, []⟩
  | n, q, acc, hn, hl, hw => by
    refine VloopS.round ?_
    refine call_p (indexByteN _ _ q 0) ?_
    rcases ix_words q with ⟨h1, h2⟩ | ⟨k, h1, h2, h3⟩
    · rw [h1]
      repeat (first | refine guard_t rfl ?_ | refine guard_f (by decide) ?_)
      refine cond_t rfl ?_
      rw [← hw, h2] at hR
      exact ex_w hR rfl ⟨.refl _, .nil _ _ _ _ _ (by simp), .refl _, trivial⟩ rfl
    · rw [h1]
      have c1 : ¬ ((k : Nat) : Int) < 0 := by omega
      refine guard_t (decide_eq_false c1) ?_
      rw [decide_eq_false c1]
      repeat (first | refine guard_t rfl ?_ | refine guard_f (by decide) ?_)
      have w1 : IntKind.i64.wrap (((k : Nat) : Int) + 1) = ((k + 1 : Nat) : Int) := by rw [i64_in _ (by omega)]; omega
      have w2 : IntKind.i64.wrap (((k : Nat) : Int) + 2) = ((k + 2 : Nat) : Int) := by rw [i64_in _ (by omega)]; omega
      by_cases he : k + 1 = q.length
      · refine cond_t (beq_iff_eq.2 (by rw [w1, bs_len, he])) ?_
        rw [← hw, h3, he, List.drop_length] at hR
        exact ex_w hR rfl ⟨.refl _, .nil _ _ _ _ _ (by simp), .refl _, trivial⟩ rfl
      · refine cond_f (beq_eq_false_iff_ne.2 (by rw [w1, bs_len]; omega)) ?_
        have hlt : k + 1 < q.length := by omega
        refine And.intro (.inl rfl) (And.intro (by rw [bs_len]; omega) ?_)
        have e1 : ((bs q).drop (0 : Int).toNat).take (((k : Nat) : Int).toNat - (0 : Int).toNat) = bs (q.take k) := by
          show ((bs q).drop 0).take (k - 0) = _
          rw [List.drop_zero, Nat.sub_zero, bs_take]
        rw [e1]
        refine And.intro (.inl ⟨rfl, rfl⟩) (And.intro (.inl rfl) (And.intro ?_ ?_))
        · rw [bs_len, bs_len, List.length_take]; omega
        refine And.intro rfl (And.intro (by rw [w1]; omega) (Exists.intro [.int .u8 (q[k + 1].toNat : Int)] (And.intro (by rw [w1]; exact bs_get hlt) ?_)))
        refine And.intro (.inl rfl) (And.intro (by rw [bs_len, w2]; omega) ?_)
        have e2 : ((bs q).drop (IntKind.i64.wrap (((k : Nat) : Int) + 2)).toNat).take ((((bs q).length : Nat) : Int).toNat - (IntKind.i64.wrap (((k : Nat) : Int) + 2)).toNat) = bs (q.drop (k + 2)) := by
          rw [cut_bs w2 (congrArg Nat.cast (bs_len q)) (Nat.le_refl _), List.take_of_length_le (by simp)]
        rw [e2]
        rw [List.drop_eq_getElem_cons hlt] at h3
        simp only [wdTail] at h3
        by_cases h5 : q[k + 1] = 255
        · refine cond_t (by rw [h5]; rfl) ?_
          refine And.intro (.inl ⟨rfl, rfl⟩) (And.intro (.inl rfl) (And.intro ?_ ?_))
          · simp only [List.length_append, List.length_cons, List.length_nil, bs_len, List.length_take]; omega
          rw [if_pos h5] at h3
          match n, hn with
          | 0, hn => omega
          | n + 1, hn =>
            refine VloopS.weakE (l := wdAt (q.drop (k + 2)) (acc ++ q.take k ++ [0])) rfl ⟨.refl _, .eq (sl_eq ?_), trivial⟩ rfl (Nat.zero_le _) (wdLoop p hp R hR n (q.drop (k + 2)) (acc ++ q.take k ++ [0]) (by rw [List.length_drop]; omega) (by simp only [List.length_append, List.length_drop, List.length_take, List.length_cons, List.length_nil]; omega) ?_)
            · rw [← bs_app, ← bs_app]; rfl
            · rw [← hw, h3, Option.map_map]
              congr 1
              funext x
              simp
        · refine cond_f (beq_eq_false_iff_ne.2 fun e => h5 (UInt8.toNat_inj.1 (by have : (255 : UInt8).toNat = 255 := rfl; omega))) ?_
          by_cases h6 : q[k + 1] = 1
          · refine cond_t (by rw [h6]; rfl) ?_
            refine Exists.intro (acc ++ q.take k) (And.intro (by rw [bs_app]; exact toBytes_bs _) ?_)
            rw [if_neg h5, if_pos h6] at h3
            rw [← hw, h3] at hR
            exact ex_w hR rfl ⟨.refl _, .refl _, .refl _, trivial⟩ rfl
          · refine cond_f (beq_eq_false_iff_ne.2 fun e => h6 (UInt8.toNat_inj.1 (by have : (1 : UInt8).toNat = 1 := rfl; omega))) ?_
            rw [if_neg h5, if_neg h6] at h3
            rw [← hw, h3] at hR
            exact ex_w hR rfl ⟨.refl _, .nil _ _ _ _ _ (by simp), .refl _, trivial⟩ rfl

def wdAV : Option (List UInt8 × List UInt8) → AV
  | some x => .tup [.str (st x.1), .sl 1 none false (bs x.2), .bool true]
  | none => .tup [.str (st []), .sl 1 none false (bs []), .bool false]

theorem wdAV_np (o : Option (List UInt8 × List UInt8)) {ok : Nat → Prop} : NP ok (wdAV o) := by
  cases o <;> exact .tup _ (np_cons (.str _) (np_cons (np_bs _) (np_cons (.bool _) np_nil)))

theorem wordsN (nl : Option Bool) (own : Bool) (p : List UInt8) (hp : p.length ≤ 100000) : PCallN Tryd.prog 67 [.sl 1 nl own (bs p)] (wdAV (wordsD p)) := by
  refine PCallN.of (tr [2, 3, 5, 19, 23, 36, 38]) f67 (Nat.le_of_ble_eq_true rfl) (np_cons (np_bs _) np_nil) (wdAV_np _) ?_
  refine VloopS.weakE (l := wdAt p []) rfl ⟨.both _ _ _ _, .nil _ _ _ _ _ (by simp), trivial⟩ rfl (Nat.zero_le _) (VloopS.exW (wdLoop p hp _ ?_ p.length p [] (Nat.le_refl _) (by simp) (by simp)))
  cases wordsD p with
  | none => exact rfl
  | some x => exact rfl

open Go.IntWalk Go.Lib

def unturn (u : Int) : Int := IntKind.i64.wrap (IntKind.u64.wrap (BitVec.ofInt 64 u ^^^ BitVec.ofInt 64 9223372036854775808).toNat)

def nextD (k : UInt8) (l : List UInt8) : Va × List UInt8 × Bool :=
  if k = 1 then (⟨0, 0, []⟩, l, true) else
  if k = 2 ∧ 8 ≤ l.length then (⟨1, unturn (num (l.take 8)).toNat, []⟩, l.drop 8, true) else
  if k = 3 then (match wordsD l with
    | some x => (⟨2, 0, x.1⟩, x.2, (⟨2, 0, x.1⟩ : Va).right)
    | none => (⟨2, 0, []⟩, [], false)) else (⟨0, 0, []⟩, [], false)

def nextAV (x : Va × List UInt8 × Bool) : AV := .tup [x.1.av, .sl 1 none false (bs x.2.1), .bool x.2.2]
theorem next_np {ok : Nat → Prop} (v : Va) (nl : Option Bool) (own : Bool) (sz : Nat) (l : List UInt8) (b : Bool) : NP ok (.tup [v.av, .sl sz nl own (bs l), .bool b]) := .tup _ (np_cons (Va.np _) (np_cons (np_bs _) (np_cons (.bool _) np_nil)))

theorem next_start {nl : Option Bool} {own : Bool} {p : List UInt8} {v : Va} {nl' : Option Bool} {own' : Bool} {sz : Nat} {l : List UInt8} {b : Bool}
    (h : wpV Tryd.prog (tr []) 69 0 c65 (retS [.cell 2 (some 3), .tmp 3, .tmp 4] (.tup [v.av, .sl sz nl' own' (bs l), .bool b])) ⟨[.sl 1 nl own (bs p)], [], []⟩) : PCallN Tryd.prog 65 [.sl 1 nl own (bs p)] (.tup [v.av, .sl sz nl' own' (bs l), .bool b]) :=
  PCallN.of (tr []) f65 (Nat.le_of_ble_eq_true rfl) (np_cons (np_bs _) np_nil) (next_np _ _ _ _ _ _) h

theorem next_bad {f : Nat} {args : List AV} {v : Va} (h : PCallN Tryd.prog f args (.tup [v.av, .sl 0 (some true) false (bs []), .bool false])) : PCallN Tryd.prog f args (nextAV (v, [], false)) :=
  h.weakRet (.tup _ _ (.cons _ _ _ _ (.refl _) (.cons _ _ _ _ (.nil _ _ _ _ _ (by simp)) (.cons _ _ _ _ (.refl _) .nil))))
theorem next_nl {f : Nat} {args : List AV} {v : Va} {nl : Option Bool} {own : Bool} {l : List UInt8} {b : Bool} (h : PCallN Tryd.prog f args (.tup [v.av, .sl 1 nl own (bs l), .bool b])) : PCallN Tryd.prog f args (nextAV (v, l, b)) :=
  h.weakRet (.tup _ _ (.cons _ _ _ _ (.refl _) (.cons _ _ _ _ (.both _ _ _ _) (.cons _ _ _ _ (.refl _) .nil))))

def nnAt (r l : List UInt8) (k : Nat) : List (Nat × AV) := [(0, .sl 1 none false (bs r)), (2, .ptr (some (0, 0))), (6, .int .u64 (num (l.take k)).toNat), (32, .sl 1 none false (bs l)), (33, .int .i64 l.length), (34, .int .i64 k)]

theorem nnLoop (r l : List UInt8) (hl : l.length ≤ 1000000) (c : List AV) (R : VE → Sy → Prop) (hR : R (.exit 1) ⟨[], [(0, .sl 1 none false (bs r)), (2, .ptr (some (0, 0))), (6, .int .u64 (num l).toNat)], [.cells c]⟩) :
    ∀ m k, k + m = l.length → VloopS Tryd.prog (tr []) 69 0 c65b0 (exW 69 R) ⟨[], nnAt r l k, [.cells c]⟩
  | 0, k, hk => by
    refine VloopS.round ?_
    refine cond_f (decide_eq_false (by omega)) ?_
    refine ex_w hR rfl ⟨.refl _, .refl _, .eq (int_eq ?_), trivial⟩ rfl
    rw [List.take_of_length_le (by omega)]
  | m + 1, k, hk => by
    have hlt : k < l.length := by omega
    refine VloopS.round ?_
    refine cond_t (decide_eq_true (by omega)) ?_
    refine And.intro rfl (And.intro (Int.natCast_nonneg k) (Exists.intro [.int .u8 (l[k].toNat : Int)] (And.intro (bs_get hlt) ?_)))
    refine And.intro (by decide) ?_
    refine VloopS.weakE (l := nnAt r l (k + 1)) rfl ?_ rfl (Nat.zero_le _) (nnLoop r l hl c R hR m (k + 1) (by omega))
    refine ⟨.refl _, .refl _, .eq ?_, .refl _, .refl _, .eq ?_, trivial⟩
    · refine congrArg (AV.int .u64) ((numStep (num (l.take k)) l[k]).trans ?_)
      rw [take_snoc l k hlt, num_snoc]
    · exact congrArg (AV.int .i64) (i64_in _ (by omega))

theorem nextN (nl : Option Bool) (own : Bool) (k : UInt8) (l : List UInt8) (hl : l.length ≤ 100000) : PCallN Tryd.prog 65 [.sl 1 nl own (bs (k :: l))] (nextAV (nextD k l)) := by
  have cut : ((bs (k :: l)).drop (1 : Int).toNat).take ((((bs (k :: l)).length : Nat) : Int).toNat - (1 : Int).toNat) = bs l := by
    show (bs l).take ((bs (k :: l)).length - 1) = bs l
    rw [List.take_of_length_le (by simp [bs])]
  by_cases h1 : k = 1
  · rw [show nextD k l = (⟨0, 0, []⟩, l, true) by rw [nextD, if_pos h1]]
    refine next_nl (nl := nl) (own := false) (next_start ?_)
    refine And.intro rfl (And.intro (by decide) (Exists.intro [.int .u8 (k.toNat : Int)] (And.intro rfl ?_)))
    refine And.intro (.inl rfl) (And.intro (by simp only [bs_len, List.length_cons]; omega) ?_)
    refine And.intro (by kernel_rfl) ?_
    refine cond_t (by rw [h1]; rfl) ?_
    exact tup3 (agg3 rfl rfl rfl) (sl_eq cut) rfl
  · by_cases h2 : k = 2 ∧ 8 ≤ l.length
    · rw [show nextD k l = (⟨1, unturn (num (l.take 8)).toNat, []⟩, l.drop 8, true) by rw [nextD, if_neg h1, if_pos h2]]
      obtain ⟨hk, h8⟩ := h2
      refine next_nl (nl := none) (own := false) (next_start ?_)
      refine And.intro rfl (And.intro (by decide) (Exists.intro [.int .u8 (k.toNat : Int)] (And.intro rfl ?_)))
      refine And.intro (.inl rfl) (And.intro (by simp only [bs_len, List.length_cons]; omega) ?_)
      refine And.intro (by kernel_rfl) ?_
      rw [cut, hk]
      refine cond_f rfl ?_
      repeat (first | refine guard_t rfl ?_ | refine guard_f (by decide) ?_)
      refine cond_t (decide_eq_true (by rw [bs_len]; omega)) ?_
      refine And.intro (.inl rfl) (And.intro (by rw [bs_len]; omega) ?_)
      have e8 : ((bs l).drop (0 : Int).toNat).take ((8 : Int).toNat - (0 : Int).toNat) = bs (l.take 8) := by
        show (bs l).take 8 = _
        rw [bs_take]
      rw [e8]
      have l8 : (l.take 8).length = 8 := by rw [List.length_take]; omega
      refine VloopS.weakE (l := nnAt l (l.take 8) 0) rfl ⟨.both _ _ _ _, .refl _, .eq (int_eq rfl), .both _ _ _ _, .eq (int_eq ?_), .eq (int_eq rfl), trivial⟩ rfl (Nat.zero_le _) (VloopS.exW (nnLoop l (l.take 8) (by omega) _ _ ?_ (l.take 8).length 0 (by omega)))
      · rw [bs_len]
      · refine And.intro (.inl rfl) (And.intro (by rw [bs_len]; omega) ?_)
        refine And.intro (by kernel_rfl) ?_
        refine tup3 (agg3 rfl rfl rfl) (sl_eq ?_) rfl
        show ((bs l).drop 8).take ((bs l).length - 8) = _
        rw [bs_drop, bs_len, bs_take, List.take_of_length_le (by simp)]
    · by_cases h3 : k = 3
      · have wN := wordsN none false l hl
        cases hw : wordsD l with
        | none =>
          rw [hw] at wN
          rw [show nextD k l = (⟨2, 0, []⟩, [], false) by rw [nextD, if_neg h1, if_neg h2, if_pos h3, hw]]
          refine PCallN.weakArgs (args' := [.sl 1 none false (bs (k :: l))]) (.cons _ _ _ _ (.both _ _ _ _) .nil) (np_cons (np_bs _) np_nil) ?_
          refine next_nl (nl := none) (own := false) (next_start ?_)
          refine And.intro rfl (And.intro (by decide) (Exists.intro [.int .u8 (k.toNat : Int)] (And.intro rfl ?_)))
          refine And.intro (.inl rfl) (And.intro (by simp only [bs_len, List.length_cons]; omega) ?_)
          refine And.intro (by kernel_rfl) ?_
          rw [cut, h3]
          refine cond_f rfl ?_
          repeat (first | refine guard_t rfl ?_ | refine guard_f (by decide) ?_)
          refine cond_f rfl ?_
          refine cond_t rfl ?_
          refine call_p wN ?_
          repeat (first | refine guard_t rfl ?_ | refine guard_f (by decide) ?_)
          refine And.intro (by kernel_rfl) ?_
          exact tup3 (agg3 rfl rfl rfl) (sl_eq rfl) rfl
        | some x =>
          rw [hw] at wN
          rw [show nextD k l = (⟨2, 0, x.1⟩, x.2, (⟨2, 0, x.1⟩ : Va).right) by rw [nextD, if_neg h1, if_neg h2, if_pos h3, hw]]
          refine PCallN.weakArgs (args' := [.sl 1 none false (bs (k :: l))]) (.cons _ _ _ _ (.both _ _ _ _) .nil) (np_cons (np_bs _) np_nil) ?_
          refine next_nl (nl := none) (own := false) (next_start ?_)
          refine And.intro rfl (And.intro (by decide) (Exists.intro [.int .u8 (k.toNat : Int)] (And.intro rfl ?_)))
          refine And.intro (.inl rfl) (And.intro (by simp only [bs_len, List.length_cons]; omega) ?_)
          refine And.intro (by kernel_rfl) ?_
          rw [cut, h3]
          refine cond_f rfl ?_
          repeat (first | refine guard_t rfl ?_ | refine guard_f (by decide) ?_)
          refine cond_f rfl ?_
          refine cond_t rfl ?_
          refine call_p wN ?_
          repeat (first | refine guard_t rfl ?_ | refine guard_f (by decide) ?_)
          refine call_d (rightN ⟨2, 0, x.1⟩) ?_
          refine And.intro (by kernel_rfl) ?_
          exact tup3 (agg3 rfl rfl rfl) (sl_eq rfl) rfl
      · rw [show nextD k l = (⟨0, 0, []⟩, [], false) by rw [nextD, if_neg h1, if_neg h2, if_neg h3]]
        refine next_bad (next_start ?_)
        refine And.intro rfl (And.intro (by decide) (Exists.intro [.int .u8 (k.toNat : Int)] (And.intro rfl ?_)))
        refine And.intro (.inl rfl) (And.intro (by simp only [bs_len, List.length_cons]; omega) ?_)
        refine And.intro (by kernel_rfl) ?_
        rw [cut]
        refine cond_f (u8_ne (u8_val h1)) ?_
        by_cases hk2 : k = 2
        · have h8 : ¬ (8 ≤ l.length) := fun h => h2 ⟨hk2, h⟩
          rw [hk2]
          repeat (first | refine guard_t rfl ?_ | refine guard_f (by decide) ?_)
          refine cond_f (decide_eq_false (by rw [bs_len]; omega)) ?_
          refine cond_f rfl ?_
          exact tup3 (agg3 rfl rfl rfl) (sl_eq rfl) rfl
        · have hb : ((k.toNat : Int) == 2) = false := u8_ne (u8_val hk2)
          refine guard_f (by rw [hb]; decide) ?_
          rw [hb]
          repeat (first | refine guard_t rfl ?_ | refine guard_f (by decide) ?_ | refine cond_t rfl ?_ | refine cond_f rfl ?_)
          refine cond_f (u8_ne (u8_val h3)) ?_
          exact tup3 (agg3 rfl rfl rfl) (sl_eq rfl) rfl

open Go.IntWalk Go.Lib

theorem wordsD_len : ∀ (n : Nat) (q : List UInt8), q.length ≤ n → ∀ x, wordsD q = some x → x.2.length ≤ q.length
  | _, [], _, x, h => by cases h
  | _, [_], _, x, h => by cases h
  | 0, b :: m :: l, hn, x, h => by simp at hn
  | n + 1, b :: m :: l, hn, x, h => by
    simp only [List.length_cons] at hn ⊢
    rw [wordsD] at h
    by_cases hb : b = 0
    · rw [if_pos hb] at h
      by_cases h5 : m = 255
      · rw [if_pos h5] at h
        obtain ⟨y, hy, rfl⟩ := Option.map_eq_some_iff.1 h
        have := wordsD_len n l (by omega) y hy
        show y.2.length ≤ _
        omega
      · rw [if_neg h5] at h
        by_cases h6 : m = 1
        · rw [if_pos h6] at h
          cases h
          show l.length ≤ _
          omega
        · rw [if_neg h6] at h; cases h
    · rw [if_neg hb] at h
      obtain ⟨y, hy, rfl⟩ := Option.map_eq_some_iff.1 h
      have := wordsD_len n (m :: l) (by simp; omega) y hy
      simp only [List.length_cons] at this
      show y.2.length ≤ _
      omega

theorem nextD_len (k : UInt8) (l : List UInt8) : (nextD k l).2.1.length ≤ l.length := by
  unfold nextD
  split
  · exact Nat.le_refl _
  · split
    · simp
    · split
      · cases h : wordsD l with
        | none => simp
        | some x => exact wordsD_len l.length l (Nat.le_refl _) x h
      · simp

def backD : Nat → List UInt8 → Option (List Va)
  | _, [] => some []
  | 0, _ :: _ => none
  | n + 1, k :: l => if (nextD k l).2.2 then (backD n (nextD k l).2.1).map ((nextD k l).1 :: ·) else none

def bkAt (q : List UInt8) (acc : List Va) : List (Nat × AV) := [(0, .sl 1 none false (bs q)), (4, .sl 3 none true (acc.map Va.c))]

theorem bkLoop (o : Option (List Va)) (R : VE → Sy → Prop) (hN : o = none → ∀ hb, R .ret ⟨[], [(2, .sl 3 none false (([] : List Va).map Va.c)), (3, .int .i64 2)], hb⟩)
    (hS : ∀ vs, o = some vs → R (.exit 0) ⟨[], [(4, .sl 3 none true (vs.map Va.c))], []⟩) :
    ∀ (n : Nat) (q : List UInt8) (acc : List Va), q.length ≤ n → acc.length + q.length ≤ 100000 → (backD n q).map (acc ++ ·) = o →
      VloopS Tryd.prog (tr [2, 4, 19, 22, 24]) 25 0 c52b0 (exW 25 R) ⟨[], bkAt q acc, []⟩
  | n, [], acc, hn, hl, ho => by
    refine VloopS.round ?_
    refine cond_f rfl ?_
    refine ex_w (hS acc ?_) rfl ⟨.refl _, trivial⟩ rfl
    rw [← ho]
    cases n <;> simp [backD]
  | 0, k :: l, acc, hn, hl, ho => by simp at hn
  | n + 1, k :: l, acc, hn, hl, ho => by
    simp only [List.length_cons] at hn hl
    have hd := nextD_len k l
    refine VloopS.round ?_
    refine cond_t (decide_eq_true (by rw [bs_len, List.length_cons]; omega)) ?_
    have nN := nextN none false k l (by omega)
    rw [backD] at ho
    generalize nextD k l = y at hd nN ho
    obtain ⟨v, r, ok⟩ := y
    cases ok with
    | false =>
      refine call_p nN ?_
      refine cond_t rfl ?_
      refine ex_w (hN ?_ _) rfl ⟨.nil _ _ _ _ _ (by simp), .refl _, trivial⟩ rfl
      rw [← ho]; rfl
    | true =>
      refine call_p nN ?_
      refine cond_f rfl ?_
      refine And.intro (.inl ⟨rfl, rfl⟩) (And.intro (.inl rfl) (And.intro ?_ ?_))
      · simp only [List.length_map, List.length_cons, List.length_nil]; omega
      refine VloopS.weakBox (l := bkAt r (acc ++ [v])) (h := []) (ex := [.cells v.c]) rfl ⟨.refl _, .eq (sl_eq ?_), trivial⟩ rfl (Nat.zero_le _) ?_ (by simp) (bkLoop o R hN hS n r (acc ++ [v]) (by simp only at hd; omega) (by simp only [List.length_append, List.length_cons, List.length_nil]; simp only at hd; omega) ?_)
      · rw [List.map_append]; rfl
      · intro p hp
        simp only [bkAt, List.mem_cons, List.not_mem_nil, or_false] at hp
        rcases hp with rfl | rfl
        · exact np_bs _
        · exact np_words _
      · rw [← ho, if_pos rfl, Option.map_map]
        congr 1
        funext x
        simp

def bkAV : Option (List Va) → AV
  | some vs => .tup [.sl 3 none false (vs.map Va.c), .int .i64 0]
  | none => .tup [.sl 3 none false (([] : List Va).map Va.c), .int .i64 2]

theorem bk_np {ok : Nat → Prop} (vs : List Va) (n : Int) : NP ok (.tup [.sl 3 none false (vs.map Va.c), .int .i64 n]) := .tup _ (np_cons (np_words _) (np_cons (.int _ _) np_nil))

theorem backN (nl : Option Bool) (own : Bool) (q : List UInt8) (hq : q.length ≤ 100000) : PCallN Tryd.prog 52 [.sl 1 nl own (bs q)] (bkAV (backD q.length q)) := by
  cases ho : backD q.length q with
  | none =>
    refine PCallN.of (tr [2, 4, 19, 22, 24]) f52 (Nat.le_of_ble_eq_true rfl) (np_cons (np_bs _) np_nil) (bk_np [] 2) ?_
    refine VloopS.weakE (l := bkAt q []) rfl ⟨.both _ _ _ _, .nil _ _ _ _ _ (by simp), trivial⟩ rfl (Nat.zero_le _) (VloopS.exW (bkLoop none _ ?_ ?_ q.length q [] (Nat.le_refl _) (by simpa using hq) (by rw [ho]; rfl)))
    · intro _ hb; exact rfl
    · intro vs h; cases h
  | some vs =>
    have hty : bkAV (some vs) = .tup [.sl 3 none false (vs.map Va.c), .int .i64 0] := rfl
    rw [hty]
    refine PCallN.weakRet (ret := .tup [.sl 3 none true (vs.map Va.c), .int .i64 0]) (.tup _ _ (.cons _ _ _ _ (.strip _) (.cons _ _ _ _ (.refl _) .nil))) ?_
    refine PCallN.of (tr [2, 4, 19, 22, 24]) f52 (Nat.le_of_ble_eq_true rfl) (np_cons (np_bs _) np_nil) (.tup _ (np_cons (np_words _) (np_cons (.int _ _) np_nil))) ?_
    refine VloopS.weakE (l := bkAt q []) rfl ⟨.both _ _ _ _, .nil _ _ _ _ _ (by simp), trivial⟩ rfl (Nat.zero_le _) (VloopS.exW (bkLoop (some vs) _ ?_ ?_ q.length q [] (Nat.le_refl _) (by simpa using hq) (by rw [ho]; rfl)))
    · intro h; cases h
    · intro vs' h
      cases h
      exact rfl

open Go.IntWalk Go.Lib

def smAt (a : List Va) (i : Nat) : List (Nat × AV) := [(0, .sl 3 none false (a.map Va.c)), (1, .sl 3 none false (a.map Va.c)), (5, .int .i64 i)]

theorem smLoop (a : List Va) (hl : a.length ≤ 1000000) (R : VE → Sy → Prop) (hR : R (.exit 0) ⟨[], [], []⟩) :
    ∀ (g i : Nat), i + g = a.length → VloopS Tryd.prog (tr []) 26 0 c20b0 (exW 26 R) ⟨[], smAt a i, []⟩
  | 0, i, hg => by
    refine VloopS.round ?_
    refine cond_f (decide_eq_false (by rw [List.length_map]; omega)) ?_
    exact ex_w hR rfl trivial rfl
  | g + 1, i, hg => by
    have hlt : i < a.length := by omega
    refine VloopS.round ?_
    refine cond_t (decide_eq_true (by rw [List.length_map]; omega)) ?_
    refine And.intro rfl (And.intro (Int.natCast_nonneg i) (Exists.intro a[i].c (And.intro (words_get hlt) ?_)))
    refine And.intro rfl (And.intro (Int.natCast_nonneg i) (Exists.intro a[i].c (And.intro (words_get hlt) ?_)))
    refine And.intro (by kernel_rfl) ?_
    refine cond_f (by simp) ?_
    refine VloopS.weakE (l := smAt a (i + 1)) rfl ⟨.refl _, .refl _, .eq (int_eq ?_), trivial⟩ rfl (Nat.zero_le _) (smLoop a hl R hR g (i + 1) (by omega))
    rw [i64_in _ (by omega)]; omega

theorem sameT (nl nl' : Option Bool) (own own' : Bool) (a : List Va) (hl : a.length ≤ 1000000) : PCallN Tryd.prog 20 [.sl 3 nl own (a.map Va.c), .sl 3 nl' own' (a.map Va.c)] (.bool true) := by
  refine PCallN.of (tr []) f20 (Nat.le_of_ble_eq_true rfl) (np_ww _ _) (.bool _) ?_
  refine cond_f (bne_self_eq_false _) ?_
  refine VloopS.weakE (l := smAt a 0) rfl ⟨.both _ _ _ _, .both _ _ _ _, .eq (int_eq rfl), trivial⟩ rfl (Nat.zero_le _) (VloopS.exW (smLoop a hl _ ?_ a.length 0 (by omega)))
  exact rfl

def kiAt (l : List Va) (i : Nat) (acc : List UInt8) (k : Nat) : List (Nat × AV) := [(0, .sl 3 none false (l.map Va.c)), (3, .sl 1 none true (bs acc)), (4, .int .i64 i), (5, .ptr (some (0, 0))), (6, .int .i64 k)]

theorem esc_app (c p q : UInt8) : ∀ a b : List UInt8, esc c p q (a ++ b) = esc c p q a ++ esc c p q b
  | [], _ => rfl
  | x :: a, b => by
    show esc c p q (x :: (a ++ b)) = _
    by_cases h : x = c
    · subst h
      rw [esc_cons_t, esc_cons_t, esc_app]; rfl
    · rw [esc_cons_f _ _ _ _ _ h, esc_cons_f _ _ _ _ _ h, esc_app]; rfl

abbrev krT : Nat → Bool := tr [2, 3, 19, 21, 29, 35, 41, 43, 44, 46, 49, 51, 54, 56, 57, 63, 64]

theorem kiLoop (l : List Va) (i : Nat) (v : Va) (acc : List UInt8) (hs : v.s.length ≤ 1000) (ha : acc.length ≤ 100000) (R : VE → Sy → Prop)
    (hR : R (.exit 3) ⟨[], [(0, .sl 3 none false (l.map Va.c)), (3, .sl 1 none true (bs (acc ++ esc 0 0 255 v.s))), (4, .int .i64 i), (5, .ptr (some (0, 0)))], [.cells v.c]⟩) :
    ∀ (g k : Nat), k + g = v.s.length → VloopS Tryd.prog (tr [2, 3, 19, 21, 29, 35, 41, 43, 44, 46, 49, 51, 54, 56, 57, 63, 64]) 65 0 c37b0 (exW 65 R) ⟨[], kiAt l i (acc ++ esc 0 0 255 (v.s.take k)) k, [.cells v.c]⟩
  | 0, k, hg => by
    refine VloopS.round ?_
    refine cond_f (decide_eq_false (by rw [st_size]; omega)) ?_
    refine ex_w hR rfl ⟨.refl _, .eq (sl_eq ?_), .refl _, .refl _, trivial⟩ rfl
    rw [List.take_of_length_le (by omega)]
  | g + 1, k, hg => by
    have hlt : k < v.s.length := by omega
    have hc := List.count_le_length (a := (0 : UInt8)) (l := v.s.take k)
    have he := esc_len 0 0 255 (v.s.take k)
    rw [List.length_take] at hc he
    have hget : (st v.s).data[((k : Nat) : Int).toNat]? = some v.s[k] := by simp [st, hlt]
    refine VloopS.round ?_
    refine cond_t (decide_eq_true (by rw [st_size]; omega)) ?_
    refine And.intro (Int.natCast_nonneg k) (Exists.intro v.s[k] (And.intro hget ?_))
    refine And.intro (.inl ⟨rfl, rfl⟩) (And.intro (.inl rfl) (And.intro ?_ ?_))
    · simp only [List.length_cons, List.length_nil, bs_len, List.length_append]; omega
    refine And.intro (Int.natCast_nonneg k) (Exists.intro v.s[k] (And.intro hget ?_))
    by_cases h0 : v.s[k] = 0
    · refine cond_t (by rw [h0]; rfl) ?_
      refine And.intro (.inl ⟨rfl, rfl⟩) (And.intro (.inl rfl) (And.intro ?_ ?_))
      · simp only [List.length_cons, List.length_nil, bs_len, List.length_append]; omega
      refine VloopS.weakE (l := kiAt l i (acc ++ esc 0 0 255 (v.s.take (k + 1))) (k + 1)) rfl ⟨.refl _, .eq (sl_eq ?_), .refl _, .refl _, .eq (int_eq ?_), trivial⟩ rfl (Nat.zero_le _) (kiLoop l i v acc hs ha R hR g (k + 1) (by omega))
      · rw [take_snoc v.s k hlt, esc_app, h0, ← List.append_assoc, ← bs_app (acc ++ _)]
        show (bs _ ++ [[AV.int .u8 ((0 : UInt8).toNat : Int)]]) ++ [[AV.int .u8 255]] = _
        rw [List.append_assoc]
        rfl
      · rw [i64_in _ (by omega)]; omega
    · refine cond_f (u8_ne (u8_val h0)) ?_
      refine VloopS.weakE (l := kiAt l i (acc ++ esc 0 0 255 (v.s.take (k + 1))) (k + 1)) rfl ⟨.refl _, .eq (sl_eq ?_), .refl _, .refl _, .eq (int_eq ?_), trivial⟩ rfl (Nat.zero_le _) (kiLoop l i v acc hs ha R hR g (k + 1) (by omega))
      · rw [take_snoc v.s k hlt, esc_app, esc_cons_f _ _ _ _ _ h0, ← List.append_assoc, ← bs_app (acc ++ _)]
        rfl
      · rw [i64_in _ (by omega)]; omega

open Go.IntWalk Go.Lib

theorem turn_be (n : Int) (h : -9223372036854775808 ≤ n ∧ n ≤ 9223372036854775807) : be (IntKind.u64.wrap (IntKind.u64.wrap n + 9223372036854775808)) 8 = be (turn n) 8 := by
  congr 1
  rw [turn_val n h.1 h.2, w_u64, w_u64]
  omega

def krAt (l : List Va) (i : Nat) (acc : List UInt8) : List (Nat × AV) := [(0, .sl 3 none false (l.map Va.c)), (3, .sl 1 none true (bs acc)), (4, .int .i64 i)]

theorem kr_np (l : List Va) (i : Nat) (acc : List UInt8) : ∀ p, p ∈ krAt l i acc → NP (fun i => i < ([] : List HObj).length) p.2 := by
  intro p hp
  simp only [krAt, List.mem_cons, List.not_mem_nil, or_false] at hp
  rcases hp with rfl | rfl | rfl
  · exact np_words _
  · exact np_bs _
  · exact .int _ _

theorem krLoop (l : List Va) (hl : l.length ≤ 40) (hs : ∀ v, v ∈ l → v.s.length ≤ 200) (hr : ∀ v, v ∈ l → v.right = true ∧ v.ok) (R : VE → Sy → Prop) (hR : R (.exit 0) ⟨[], [(3, .sl 1 none true (bs (keys l)))], []⟩) :
    ∀ (g i : Nat), i + g = l.length → VloopS Tryd.prog (tr [2, 3, 19, 21, 29, 35, 41, 43, 44, 46, 49, 51, 54, 56, 57, 63, 64]) 65 0 c37b1 (exW 65 R) ⟨[], krAt l i (keys (l.take i)), []⟩
  | 0, i, hg => by
    refine VloopS.round ?_
    refine cond_f (decide_eq_false (by rw [List.length_map]; omega)) ?_
    refine ex_w hR rfl ⟨.eq (sl_eq ?_), trivial⟩ rfl
    rw [List.take_of_length_le (by omega)]
  | g + 1, i, hg => by
    have hlt : i < l.length := by omega
    have hk := keys_len (l.take i) (fun v hv => hs v (List.mem_of_mem_take hv))
    rw [List.length_take] at hk
    have hv := hr _ (List.getElem_mem hlt)
    have hsv := hs _ (List.getElem_mem hlt)
    have hnext : keys (l.take (i + 1)) = keys (l.take i) ++ l[i].key := by
      rw [take_snoc l i hlt, keys_app]; simp [keys]
    have ih := krLoop l hl hs hr R hR g (i + 1) (by omega)
    rw [hnext] at ih
    have hget := words_get hlt
    generalize keys (l.take i) = acc at hk hnext ih ⊢
    generalize l[i] = v at hv hsv hnext ih hget
    refine VloopS.round ?_
    refine cond_t (decide_eq_true (by rw [List.length_map]; omega)) ?_
    refine And.intro rfl (And.intro (Int.natCast_nonneg i) (Exists.intro v.c (And.intro hget ?_)))
    have hi1 : IntKind.i64.wrap (((i : Nat) : Int) + 1) = ((i + 1 : Nat) : Int) := by rw [i64_in _ (by omega)]; omega
    rcases right_kinds hv.1 with ⟨k0, _, _⟩ | ⟨k0, _⟩ | ⟨k0, _⟩
    · refine cond_t (by rw [k0]; rfl) ?_
      refine And.intro (.inl ⟨rfl, rfl⟩) (And.intro (.inl rfl) (And.intro ?_ ?_))
      · simp only [List.length_cons, List.length_nil, bs_len]; omega
      refine VloopS.weakBox (l := krAt l (i + 1) (acc ++ v.key)) (h := []) (ex := [.cells v.c]) rfl ⟨.refl _, .eq (sl_eq ?_), .eq (int_eq hi1), trivial⟩ rfl (Nat.zero_le _) (kr_np _ _ _) (by simp) ih
      rw [show v.key = [1] by rw [Va.key, k0]; rfl, ← bs_app]
      rfl
    · refine cond_f (by rw [k0]; rfl) ?_
      refine cond_t (by rw [k0]; rfl) ?_
      refine And.intro (.inl ⟨rfl, rfl⟩) (And.intro (.inl rfl) (And.intro ?_ ?_))
      · simp only [List.length_cons, List.length_nil, bs_len]; omega
      refine call_p (numSN _ 8 (by decide)) ?_
      refine And.intro (.inl ⟨rfl, rfl⟩) (And.intro (.inl rfl) (And.intro ?_ ?_))
      · simp only [List.length_append, List.length_cons, List.length_nil, bs_len, be_len]; omega
      refine VloopS.weakBox (l := krAt l (i + 1) (acc ++ v.key)) (h := []) (ex := [.cells v.c]) rfl ⟨.refl _, .eq (sl_eq ?_), .eq (int_eq hi1), trivial⟩ rfl (Nat.zero_le _) (kr_np _ _ _) (by simp) ih
      rw [show v.key = [2] ++ be (turn v.n) 8 by rw [Va.key, if_pos k0]; rfl, ← turn_be v.n hv.2, ← bs_app, ← bs_app, ← List.append_assoc]
      rfl
    · refine cond_f (by rw [k0]; rfl) ?_
      refine cond_f (by rw [k0]; rfl) ?_
      refine And.intro (.inl ⟨rfl, rfl⟩) (And.intro (.inl rfl) (And.intro ?_ ?_))
      · simp only [List.length_cons, List.length_nil, bs_len]; omega
      have hc := List.count_le_length (a := (0 : UInt8)) (l := v.s)
      have he := esc_len 0 0 255 v.s
      refine VloopS.weakE (l := kiAt l i ((acc ++ [3]) ++ esc 0 0 255 (v.s.take 0)) 0) (h := [.cells v.c]) rfl ⟨.refl _, .eq (sl_eq ?_), .refl _, .refl _, .eq (int_eq rfl), trivial⟩ rfl (Nat.zero_le _)
        (VloopS.exW (kiLoop l i v (acc ++ [3]) (by omega) (by simp only [List.length_append, List.length_cons, List.length_nil]; omega) _ ?_ v.s.length 0 (by omega)))
      · show _ = bs ((acc ++ [3]) ++ [])
        rw [List.append_nil, ← bs_app]; rfl
      · refine And.intro (.inl ⟨rfl, rfl⟩) (And.intro (.inl rfl) (And.intro ?_ ?_))
        · simp only [List.length_append, List.length_cons, List.length_nil, bs_len]; omega
        refine VloopS.weakBox (l := krAt l (i + 1) (acc ++ v.key)) (h := []) (ex := [.cells v.c]) rfl ⟨.refl _, .eq (sl_eq ?_), .eq (int_eq hi1), trivial⟩ rfl (Nat.zero_le _) (kr_np _ _ _) (by simp) ih
        have hk3 : v.key = 3 :: (esc 0 0 255 v.s ++ [0, 1]) := by rw [Va.key, if_neg (by rw [k0]; decide), if_pos k0]
        have : acc ++ v.key = (acc ++ [3] ++ esc 0 0 255 v.s) ++ [0, 1] := by rw [hk3]; simp
        rw [this, ← bs_app (acc ++ [3] ++ esc 0 0 255 v.s)]
        rfl

theorem keyRefN (nl : Option Bool) (own : Bool) (l : List Va) (hl : l.length ≤ 40) (hs : ∀ v, v ∈ l → v.s.length ≤ 200) (hr : ∀ v, v ∈ l → v.right = true ∧ v.ok) : PCallN Tryd.prog 37 [.sl 3 nl own (l.map Va.c)] (.sl 1 none true (bs (keys l))) := by
  refine PCallN.of (tr [2, 3, 19, 21, 29, 35, 41, 43, 44, 46, 49, 51, 54, 56, 57, 63, 64]) f37 (Nat.le_of_ble_eq_true rfl) (np_cons (np_words _) np_nil) (np_bs _) ?_
  refine VloopS.weakE (l := krAt l 0 (keys (l.take 0))) rfl ⟨.both _ _ _ _, .nil _ _ _ _ _ (by simp), .eq (int_eq rfl), trivial⟩ rfl (Nat.zero_le _) (VloopS.exW (krLoop l hl hs hr _ ?_ l.length 0 (by omega)))
  exact sl_eq rfl

open Go.IntWalk Go.Lib

theorem wordsD_esc (r : List UInt8) : ∀ s : List UInt8, wordsD (esc 0 0 255 s ++ (0 :: 1 :: r)) = some (s, r)
  | [] => by
    show wordsD (0 :: 1 :: r) = _
    rw [wordsD, if_pos rfl, if_neg (by decide), if_pos rfl]
  | b :: s => by
    have ih := wordsD_esc r s
    by_cases h : b = 0
    · subst h
      rw [esc_cons_t]
      show wordsD (0 :: 255 :: (esc 0 0 255 s ++ (0 :: 1 :: r))) = _
      rw [wordsD, if_pos rfl, if_pos rfl, ih]
      rfl
    · rw [esc_cons_f _ _ _ _ _ h]
      show wordsD (b :: (esc 0 0 255 s ++ (0 :: 1 :: r))) = _
      cases hq : esc 0 0 255 s ++ (0 :: 1 :: r) with
      | nil => simp at hq
      | cons m t =>
        rw [hq] at ih
        rw [wordsD, if_neg h, ih]
        rfl

theorem unturn_val (n : Int) (h : -9223372036854775808 ≤ n ∧ n ≤ 9223372036854775807) : unturn (n + 9223372036854775808) = n := by
  unfold unturn
  rw [w_u64, BitVec.toNat_xor, BitVec.toNat_ofInt, BitVec.toNat_ofInt]
  have e2 : ((9223372036854775808 : Int) % ((2 ^ 64 : Nat) : Int)).toNat = 2 ^ 63 := by decide
  rw [e2]
  have p64 : ((2 ^ 64 : Nat) : Int) = 18446744073709551616 := by decide
  rw [p64]
  have p63 : (2 : Nat) ^ 63 = 9223372036854775808 := by decide
  by_cases hn : 0 ≤ n
  · have e : ((n + 9223372036854775808) % 18446744073709551616).toNat = 2 ^ 63 + n.toNat := by omega
    rw [e, ← xor_top _ (by omega), Nat.xor_comm, ← Nat.xor_assoc, Nat.xor_self, Nat.zero_xor, i64_in _ (by omega)]
    omega
  · have e : ((n + 9223372036854775808) % 18446744073709551616).toNat = (n + 9223372036854775808).toNat := by omega
    rw [e, Nat.xor_comm, xor_top _ (by omega)]
    have e3 : ((2 ^ 63 + (n + 9223372036854775808).toNat : Nat) : Int) % 18446744073709551616 = n % 18446744073709551616 := by omega
    rw [e3]
    exact w_i64 n h.1 h.2

theorem nextD_key (v : Va) (hr : v.right = true) (ho : v.ok) (r : List UInt8) : ∃ k l, v.key ++ r = k :: l ∧ nextD k l = (v, r, true) := by
  obtain ⟨k, n, s⟩ := v
  rcases right_kinds hr with ⟨h1, h2, h3⟩ | ⟨h1, h2⟩ | ⟨h1, h2⟩ <;> simp only at h1 h2 <;> subst h1 h2
  · simp only at h3
    subst h3
    exact ⟨1, r, rfl, rfl⟩
  · refine ⟨2, be (turn n) 8 ++ r, rfl, ?_⟩
    have hl : (be (turn n) 8).length = 8 := be_len _ _
    rw [nextD, if_neg (by decide), if_pos ⟨rfl, by rw [List.length_append]; omega⟩, List.take_left' hl, List.drop_left' hl]
    have e : ((num (be (turn n) 8)).toNat : Int) = n + 9223372036854775808 := by
      rw [num_be8, turn_val n ho.1 ho.2]
      have h1 : -9223372036854775808 ≤ n := ho.1
      have h2 : n ≤ 9223372036854775807 := ho.2
      omega
    rw [e, unturn_val n ho]
  · refine ⟨3, esc 0 0 255 s ++ (0 :: 1 :: r), ?_, ?_⟩
    · show (3 :: (esc 0 0 255 s ++ [0, 1])) ++ r = _
      simp
    · rw [nextD, if_neg (by decide), if_neg (fun h => by cases h.1), if_pos rfl, wordsD_esc]
      show (_, _, _) = _
      rw [hr]

theorem backD_keys : ∀ (vs : List Va), (∀ v, v ∈ vs → v.right = true ∧ v.ok) → ∀ n, (keys vs).length ≤ n → backD n (keys vs) = some vs
  | [], _, n, _ => by cases n <;> rfl
  | v :: vs, h, n, hn => by
    obtain ⟨hr, ho⟩ := h v (by simp)
    obtain ⟨k, l, e1, e2⟩ := nextD_key v hr ho (keys vs)
    have e : keys (v :: vs) = k :: l := e1
    have hl := nextD_len k l
    rw [e2] at hl
    rw [e] at hn ⊢
    match n, hn with
    | 0, hn => simp at hn
    | n + 1, hn =>
      simp only [List.length_cons] at hn
      rw [backD, e2]
      show (if true = true then _ else _) = _
      rw [if_pos rfl, backD_keys vs (fun w hw => h w (by simp [hw])) n (by simp only at hl; omega)]
      rfl

open Go.IntWalk Go.Lib

theorem wordsD_ne (b : UInt8) (l : List UInt8) (h : b ≠ 0) : wordsD (b :: l) = (wordsD l).map fun x => (b :: x.1, x.2) := by
  cases l with
  | nil => rfl
  | cons m l => rw [wordsD, if_neg h]

def rwAt (p : List UInt8) (acc : List Va) (k : Nat) (s : List UInt8) : List (Nat × AV) := [(0, .sl 1 none false (bs p)), (4, .sl 3 none true (acc.map Va.c)), (5, .int .i64 k), (7, .sl 1 none true (bs s))]

theorem rwLoop (p : List UInt8) (hp : p.length ≤ 1000) (acc : List Va) (o : Option (List UInt8 × List UInt8)) (R : VE → Sy → Prop)
    (hN : o = none → R .ret ⟨[], [(2, .sl 3 none false (([] : List Va).map Va.c)), (3, .int .i64 2)], []⟩)
    (hS : ∀ (t : List UInt8) (k : Nat), k ≤ p.length → t.length ≤ p.length → o = some (t, p.drop k) → R (.exit 3) ⟨[], rwAt p acc k t, []⟩) :
    ∀ (g k : Nat) (s : List UInt8), p.length - k ≤ g → k ≤ p.length → s.length ≤ k → (wordsD (p.drop k)).map (fun x => (s ++ x.1, x.2)) = o →
      VloopS Tryd.prog (tr [2, 4, 7, 22, 25, 33, 44, 61, 64, 91, 93, 97, 102, 103]) 104 0 c35b0 (exW 104 R) ⟨[], rwAt p acc k s, []⟩
  | g, k, s, hg, hk, hs, ho => by
    refine VloopS.round ?_
    by_cases he : k = p.length
    · refine cond_t (decide_eq_true (by rw [bs_len]; omega)) ?_
      refine ex_w (hN ?_) rfl ⟨.nil _ _ _ _ _ (by simp), .refl _, trivial⟩ rfl
      rw [← ho, he, List.drop_length]; rfl
    · have hlt : k < p.length := by omega
      refine cond_f (decide_eq_false (by rw [bs_len]; omega)) ?_
      refine And.intro rfl (And.intro (Int.natCast_nonneg k) (Exists.intro [.int .u8 (p[k].toNat : Int)] (And.intro (bs_get hlt) ?_)))
      have w1 : IntKind.i64.wrap (((k : Nat) : Int) + 1) = ((k + 1 : Nat) : Int) := by rw [i64_in _ (by omega)]; omega
      rw [List.drop_eq_getElem_cons hlt] at ho
      match g, hg with
      | 0, hg => omega
      | g + 1, hg =>
      by_cases h0 : p[k] = 0
      · refine cond_f (by rw [h0]; rfl) ?_
        rw [w1]
        by_cases he2 : k + 1 = p.length
        · have c1 : ((k + 1 : Nat) : Int) ≥ ((bs p).length : Nat) := by rw [bs_len]; omega
          refine guard_f (by rw [decide_eq_true c1]; decide) ?_
          rw [decide_eq_true c1]
          repeat (first | refine guard_t rfl ?_ | refine guard_f (by decide) ?_ | refine cond_t rfl ?_ | refine cond_f rfl ?_)
          refine ex_w (hN ?_) rfl ⟨.nil _ _ _ _ _ (by simp), .refl _, trivial⟩ rfl
          rw [← ho, he2, List.drop_length]; rfl
        · have hlt2 : k + 1 < p.length := by omega
          have c1 : ¬ ((k + 1 : Nat) : Int) ≥ ((bs p).length : Nat) := by rw [bs_len]; omega
          refine guard_t (decide_eq_false c1) ?_
          rw [decide_eq_false c1]
          repeat (first | refine guard_t rfl ?_ | refine guard_f (by decide) ?_)
          refine And.intro rfl (And.intro (Int.natCast_nonneg _) (Exists.intro [.int .u8 (p[k + 1].toNat : Int)] (And.intro (bs_get hlt2) ?_)))
          repeat (first | refine guard_t rfl ?_ | refine guard_f (by decide) ?_)
          have w2 : IntKind.i64.wrap (((k + 1 : Nat) : Int) + 1) = ((k + 2 : Nat) : Int) := by rw [i64_in _ (by omega)]; omega
          have w3 : IntKind.i64.wrap (((k + 2 : Nat) : Int) - 1) = ((k + 1 : Nat) : Int) := by rw [i64_in _ (by omega)]; omega
          rw [List.drop_eq_getElem_cons hlt2, h0, wordsD, if_pos rfl] at ho
          by_cases h5 : p[k + 1] = 255
          · rw [if_pos h5] at ho
            rw [h5]
            repeat (first | refine guard_t rfl ?_ | refine guard_f (by decide) ?_ | refine cond_t rfl ?_ | refine cond_f rfl ?_)
            refine And.intro rfl (And.intro (by rw [w2, w3]; omega) (Exists.intro [.int .u8 (p[k + 1].toNat : Int)] (And.intro (by rw [w2, w3]; exact bs_get hlt2) ?_)))
            rw [h5]
            refine cond_f rfl ?_
            refine And.intro (.inl ⟨rfl, rfl⟩) (And.intro (.inl rfl) (And.intro ?_ ?_))
            · simp only [List.length_cons, List.length_nil, bs_len]; omega
            refine VloopS.weakE (l := rwAt p acc (k + 2) (s ++ [0])) rfl ⟨.refl _, .refl _, .eq (int_eq w2), .eq (sl_eq ?_), trivial⟩ rfl (Nat.zero_le _) (rwLoop p hp acc o R hN hS g (k + 2) (s ++ [0]) (by omega) (by omega) (by simp only [List.length_append, List.length_cons, List.length_nil]; omega) ?_)
            · rw [← bs_app]; rfl
            · rw [← ho, Option.map_map]
              congr 1
              funext x
              simp
          · rw [if_neg h5] at ho
            have n5 : ((p[k + 1].toNat : Int) != 255) = true := bne_iff_ne.2 (u8_val h5)
            refine guard_t n5 ?_
            rw [n5]
            repeat (first | refine guard_t rfl ?_ | refine guard_f (by decide) ?_)
            refine And.intro rfl (And.intro (Int.natCast_nonneg _) (Exists.intro [.int .u8 (p[k + 1].toNat : Int)] (And.intro (bs_get hlt2) ?_)))
            repeat (first | refine guard_t rfl ?_ | refine guard_f (by decide) ?_)
            by_cases h6 : p[k + 1] = 1
            · rw [if_pos h6] at ho
              refine cond_f (by rw [h6]; rfl) ?_
              refine And.intro rfl (And.intro (by rw [w2, w3]; omega) (Exists.intro [.int .u8 (p[k + 1].toNat : Int)] (And.intro (by rw [w2, w3]; exact bs_get hlt2) ?_)))
              refine cond_t (by rw [h6]; rfl) ?_
              refine ex_w (hS s (k + 2) (by omega) (by omega) ?_) rfl ⟨.refl _, .refl _, .eq (int_eq w2), .refl _, trivial⟩ rfl
              rw [← ho]
              simp
            · rw [if_neg h6] at ho
              refine cond_t (bne_iff_ne.2 (u8_val h6)) ?_
              refine ex_w (hN ho.symm) rfl ⟨.nil _ _ _ _ _ (by simp), .refl _, trivial⟩ rfl
      · refine cond_t (bne_iff_ne.2 (u8_val h0)) ?_
        refine And.intro (.inl ⟨rfl, rfl⟩) (And.intro (.inl rfl) (And.intro ?_ ?_))
        · simp only [List.length_cons, List.length_nil, bs_len]; omega
        refine VloopS.weakE (l := rwAt p acc (k + 1) (s ++ [p[k]])) rfl ⟨.refl _, .refl _, .eq (int_eq w1), .eq (sl_eq ?_), trivial⟩ rfl (Nat.zero_le _) (rwLoop p hp acc o R hN hS g (k + 1) (s ++ [p[k]]) (by omega) (by omega) (by simp only [List.length_append, List.length_cons, List.length_nil]; omega) ?_)
        · rw [← bs_app]; rfl
        · rw [← ho, wordsD_ne _ _ h0, Option.map_map]
          congr 1
          funext x
          simp

open Go.IntWalk Go.Lib

theorem xor_any (v : Nat) (h : v < 18446744073709551616) : ((v ^^^ 2 ^ 63 : Nat) : Int) % 18446744073709551616 = ((v : Int) - 9223372036854775808) % 18446744073709551616 := by
  have p63 : (2 : Nat) ^ 63 = 9223372036854775808 := by decide
  by_cases hv : v < 2 ^ 63
  · rw [Nat.xor_comm, xor_top v hv]
    omega
  · have e : v = 2 ^ 63 + (v - 2 ^ 63) := by omega
    have h2 : v - 2 ^ 63 < 2 ^ 63 := by omega
    rw [e, ← xor_top _ h2, Nat.xor_comm, ← Nat.xor_assoc, Nat.xor_self, Nat.zero_xor, xor_top _ h2]
    omega

theorem unturn_sub (u : Nat) (h : u < 18446744073709551616) : unturn (u : Int) = IntKind.i64.wrap (IntKind.u64.wrap ((u : Int) - 9223372036854775808)) := by
  unfold unturn
  rw [w_u64, w_u64, BitVec.toNat_xor, BitVec.toNat_ofInt, BitVec.toNat_ofInt]
  have e2 : ((9223372036854775808 : Int) % ((2 ^ 64 : Nat) : Int)).toNat = 2 ^ 63 := by decide
  have e1 : ((u : Int) % ((2 ^ 64 : Nat) : Int)).toNat = u := by
    have p64 : ((2 ^ 64 : Nat) : Int) = 18446744073709551616 := by decide
    rw [p64]; omega
  rw [e1, e2, xor_any u h]

def rbAt (p : List UInt8) (acc : List Va) (k : Nat) : List (Nat × AV) := [(0, .sl 1 none false (bs p)), (4, .sl 3 none true (acc.map Va.c)), (5, .int .i64 k)]

theorem rbLoop (p : List UInt8) (hp : p.length ≤ 1000) (o : Option (List Va)) (R : VE → Sy → Prop) (hN : o = none → R .ret ⟨[], [(2, .sl 3 none false (([] : List Va).map Va.c)), (3, .int .i64 2)], []⟩)
    (hS : ∀ vs, o = some vs → R (.exit 0) ⟨[], [(4, .sl 3 none true (vs.map Va.c))], []⟩) :
    ∀ (g k : Nat) (acc : List Va), (p.drop k).length ≤ g → k ≤ p.length → acc.length ≤ k → (backD g (p.drop k)).map (acc ++ ·) = o →
      VloopS Tryd.prog (tr [2, 4, 7, 22, 25, 33, 44, 61, 64, 91, 93, 97, 102, 103]) 104 0 c35b1 (exW 104 R) ⟨[], rbAt p acc k, []⟩
  | g, k, acc, hg, hk, ha, ho => by
    refine VloopS.round ?_
    by_cases he : k = p.length
    · refine cond_f (decide_eq_false (by rw [bs_len]; omega)) ?_
      refine ex_w (hS acc ?_) rfl ⟨.refl _, trivial⟩ rfl
      rw [← ho, he, List.drop_length]
      cases g <;> simp [backD]
    · have hlt : k < p.length := by omega
      refine cond_t (decide_eq_true (by rw [bs_len]; omega)) ?_
      refine And.intro rfl (And.intro (Int.natCast_nonneg k) (Exists.intro [.int .u8 (p[k].toNat : Int)] (And.intro (bs_get hlt) ?_)))
      have w1 : IntKind.i64.wrap (((k : Nat) : Int) + 1) = ((k + 1 : Nat) : Int) := by rw [i64_in _ (by omega)]; omega
      rw [List.drop_eq_getElem_cons hlt] at ho hg
      simp only [List.length_cons] at hg
      match g, hg with
      | g + 1, hg =>
      rw [backD] at ho
      have hdl : (p.drop (k + 1)).length = p.length - (k + 1) := List.length_drop
      by_cases h1 : p[k] = 1
      · refine cond_t (by rw [h1]; rfl) ?_
        refine And.intro (.inl ⟨rfl, rfl⟩) (And.intro (.inl rfl) (And.intro ?_ ?_))
        · simp only [List.length_cons, List.length_nil, List.length_map]; omega
        rw [nextD, if_pos h1] at ho
        refine VloopS.weakE (l := rbAt p (acc ++ [⟨0, 0, []⟩]) (k + 1)) rfl ⟨.refl _, .eq (sl_eq ?_), .eq (int_eq w1), trivial⟩ rfl (Nat.zero_le _) (rbLoop p hp o R hN hS g (k + 1) (acc ++ [⟨0, 0, []⟩]) (by omega) (by omega) (by simp only [List.length_append, List.length_cons, List.length_nil]; omega) ?_)
        · rw [List.map_append]; rfl
        · rw [← ho, if_pos rfl, Option.map_map]
          congr 1
          funext x
          simp
      · refine cond_f (u8_ne (u8_val h1)) ?_
        by_cases h2 : p[k] = 2
        · refine cond_t (by rw [h2]; rfl) ?_
          have wl : IntKind.i64.wrap (((bs p).length : Nat) - IntKind.i64.wrap (((k : Nat) : Int) + 1)) = ((p.length - (k + 1) : Nat) : Int) := by rw [w1, bs_len, i64_in _ (by omega)]; omega
          by_cases h8 : 8 ≤ (p.drop (k + 1)).length
          · have e : nextD p[k] (p.drop (k + 1)) = (⟨1, unturn (num ((p.drop (k + 1)).take 8)).toNat, []⟩, (p.drop (k + 1)).drop 8, true) := by rw [nextD, if_neg h1, if_pos ⟨h2, h8⟩]
            rw [e] at ho
            refine cond_f (decide_eq_false (by rw [wl]; omega)) ?_
            have w9 : IntKind.i64.wrap (IntKind.i64.wrap (((k : Nat) : Int) + 1) + 8) = ((k + 9 : Nat) : Int) := by rw [w1, i64_in _ (by omega)]; omega
            refine And.intro (.inl rfl) (And.intro (by rw [w9, w1, bs_len]; omega) ?_)
            refine call_p (ret := .int .u64 (num ((p.drop (k + 1)).take 8)).toNat) (by
              rw [cut_bs w1 w9 (by omega), show k + 9 - (k + 1) = 8 by omega]
              exact readN _ _ _ (by rw [List.length_take]; omega)) ?_
            refine And.intro (.inl ⟨rfl, rfl⟩) (And.intro (.inl rfl) (And.intro ?_ ?_))
            · simp only [List.length_cons, List.length_nil, List.length_map]; omega
            rw [List.drop_drop] at ho
            refine VloopS.weakE (l := rbAt p (acc ++ [⟨1, unturn (num ((p.drop (k + 1)).take 8)).toNat, []⟩]) (k + 9)) rfl ⟨.refl _, .eq (sl_eq ?_), .eq (int_eq w9), trivial⟩ rfl (Nat.zero_le _) (rbLoop p hp o R hN hS g (k + 9) (acc ++ [⟨1, unturn (num ((p.drop (k + 1)).take 8)).toNat, []⟩]) (by rw [List.length_drop]; omega) (by omega) (by simp only [List.length_append, List.length_cons, List.length_nil]; omega) ?_)
            · rw [List.map_append, unturn_sub _ (UInt64.toNat_lt _)]; rfl
            · rw [← ho, if_pos rfl, Option.map_map]
              congr 1
              funext x
              simp
          · have e : nextD p[k] (p.drop (k + 1)) = (⟨0, 0, []⟩, [], false) := by rw [nextD, if_neg h1, if_neg (fun h => h8 h.2), if_neg (by rw [h2]; decide)]
            rw [e] at ho
            refine cond_t (decide_eq_true (by rw [wl]; omega)) ?_
            refine ex_w (hN ?_) rfl ⟨.nil _ _ _ _ _ (by simp), .refl _, trivial⟩ rfl
            rw [← ho]; rfl
        · refine cond_f (u8_ne (u8_val h2)) ?_
          by_cases h3 : p[k] = 3
          · refine cond_t (by rw [h3]; rfl) ?_
            have e : nextD p[k] (p.drop (k + 1)) = (match wordsD (p.drop (k + 1)) with
              | some x => (⟨2, 0, x.1⟩, x.2, (⟨2, 0, x.1⟩ : Va).right)
              | none => (⟨2, 0, []⟩, [], false)) := by
              rw [nextD, if_neg h1, if_neg (fun h => h2 h.1), if_pos h3]
              all_goals (cases wordsD (p.drop (k + 1)) <;> rfl)
            rw [e] at ho
            refine VloopS.weakE (l := rwAt p acc (k + 1) []) rfl ⟨.refl _, .refl _, .eq (int_eq w1), .nil _ _ _ _ _ (by simp), trivial⟩ rfl (Nat.zero_le _)
              (VloopS.exW (rwLoop p hp acc (wordsD (p.drop (k + 1))) _ ?_ ?_ (p.length - (k + 1)) (k + 1) [] (Nat.le_refl _) (by omega) (by simp) (by simp)))
            · intro hw
              rw [hw] at ho
              refine ex_w (hN ?_) rfl ⟨.refl _, .refl _, trivial⟩ rfl
              rw [← ho]; rfl
            · intro t k' hk' ht hw
              have hlw := wordsD_len _ (p.drop (k + 1)) (Nat.le_refl _) _ hw
              rw [hw] at ho
              simp only [List.length_drop] at hlw
              have hrt : (⟨2, 0, t⟩ : Va).right = decide ((t.length : Int) ≤ 200) := by
                show ((0 : Int) == 0 && decide ((t.length : Int) ≤ 200)) = _
                rw [beq_self_eq_true, Bool.true_and]
              simp only at ho
              rw [hrt] at ho
              by_cases h200 : t.length ≤ 200
              · rw [decide_eq_true (show (t.length : Int) ≤ 200 by omega), if_pos rfl] at ho
                refine cond_f (decide_eq_false (by rw [bs_len]; omega)) ?_
                refine Exists.intro t (And.intro (toBytes_bs _) ?_)
                refine And.intro (.inl ⟨rfl, rfl⟩) (And.intro (.inl rfl) (And.intro ?_ ?_))
                · simp only [List.length_cons, List.length_nil, List.length_map]; omega
                refine VloopS.weakE (l := rbAt p (acc ++ [⟨2, 0, t⟩]) k') rfl ⟨.refl _, .eq (sl_eq ?_), .refl _, trivial⟩ rfl (Nat.zero_le _) (rbLoop p hp o R hN hS g k' (acc ++ [⟨2, 0, t⟩]) (by rw [List.length_drop]; omega) (by omega) (by simp only [List.length_append, List.length_cons, List.length_nil]; omega) ?_)
                · rw [List.map_append]; rfl
                · rw [← ho, Option.map_map]
                  congr 1
                  funext x
                  simp
              · rw [decide_eq_false (show ¬ (t.length : Int) ≤ 200 by omega)] at ho
                refine cond_t (decide_eq_true (by rw [bs_len]; omega)) ?_
                refine ex_w (hN ?_) rfl ⟨.nil _ _ _ _ _ (by simp), .refl _, trivial⟩ rfl
                rw [← ho]; rfl
          · refine cond_f (u8_ne (u8_val h3)) ?_
            have e : nextD p[k] (p.drop (k + 1)) = (⟨0, 0, []⟩, [], false) := by rw [nextD, if_neg h1, if_neg (fun h => h2 h.1), if_neg h3]
            rw [e] at ho
            refine ex_w (hN ?_) rfl ⟨.nil _ _ _ _ _ (by simp), .refl _, trivial⟩ rfl
            rw [← ho]; rfl

theorem rBackN (nl : Option Bool) (own : Bool) (q : List UInt8) (hq : q.length ≤ 1000) : PCallN Tryd.prog 35 [.sl 1 nl own (bs q)] (bkAV (backD q.length q)) := by
  cases ho : backD q.length q with
  | none =>
    refine PCallN.of (tr [2, 4, 7, 22, 25, 33, 44, 61, 64, 91, 93, 97, 102, 103]) f35 (Nat.le_of_ble_eq_true rfl) (np_cons (np_bs _) np_nil) (bk_np [] 2) ?_
    refine VloopS.weakE (l := rbAt q [] 0) rfl ⟨.both _ _ _ _, .nil _ _ _ _ _ (by simp), .eq (int_eq rfl), trivial⟩ rfl (Nat.zero_le _) (VloopS.exW (rbLoop q hq none _ ?_ ?_ q.length 0 [] (Nat.le_refl _) (by omega) (by simp) (by rw [List.drop_zero, ho]; rfl)))
    · intro _; exact rfl
    · intro vs h; cases h
  | some vs =>
    have hty : bkAV (some vs) = .tup [.sl 3 none false (vs.map Va.c), .int .i64 0] := rfl
    rw [hty]
    refine PCallN.weakRet (ret := .tup [.sl 3 none true (vs.map Va.c), .int .i64 0]) (.tup _ _ (.cons _ _ _ _ (.strip _) (.cons _ _ _ _ (.refl _) .nil))) ?_
    refine PCallN.of (tr [2, 4, 7, 22, 25, 33, 44, 61, 64, 91, 93, 97, 102, 103]) f35 (Nat.le_of_ble_eq_true rfl) (np_cons (np_bs _) np_nil) (.tup _ (np_cons (np_words _) (np_cons (.int _ _) np_nil))) ?_
    refine VloopS.weakE (l := rbAt q [] 0) rfl ⟨.both _ _ _ _, .nil _ _ _ _ _ (by simp), .eq (int_eq rfl), trivial⟩ rfl (Nat.zero_le _) (VloopS.exW (rbLoop q hq (some vs) _ ?_ ?_ q.length 0 [] (Nat.le_refl _) (by omega) (by simp) (by rw [List.drop_zero, ho]; rfl)))
    · intro h; cases h
    · intro vs' h
      cases h
      exact rfl

open Go.IntWalk Go.Lib

theorem wordsD_inv : ∀ (n : Nat) (q : List UInt8), q.length ≤ n → ∀ t r, wordsD q = some (t, r) → esc 0 0 255 t ++ (0 :: 1 :: r) = q
  | _, [], _, t, r, h => by cases h
  | _, [_], _, t, r, h => by cases h
  | 0, b :: m :: l, hn, t, r, h => by simp at hn
  | n + 1, b :: m :: l, hn, t, r, h => by
    simp only [List.length_cons] at hn
    rw [wordsD] at h
    by_cases hb : b = 0
    · subst hb
      rw [if_pos rfl] at h
      by_cases h5 : m = 255
      · subst h5
        rw [if_pos rfl] at h
        obtain ⟨y, hy, e⟩ := Option.map_eq_some_iff.1 h
        cases e
        have := wordsD_inv n l (by omega) y.1 y.2 hy
        rw [esc_cons_t]
        show 0 :: 255 :: (esc 0 0 255 y.1 ++ _) = _
        rw [this]
      · rw [if_neg h5] at h
        by_cases h6 : m = 1
        · subst h6
          rw [if_pos rfl] at h
          cases h
          rfl
        · rw [if_neg h6] at h; cases h
    · rw [if_neg hb] at h
      obtain ⟨y, hy, e⟩ := Option.map_eq_some_iff.1 h
      cases e
      have := wordsD_inv n (m :: l) (by simp; omega) y.1 y.2 hy
      rw [esc_cons_f _ _ _ _ _ hb]
      show b :: (esc 0 0 255 y.1 ++ _) = _
      rw [this]

theorem num_rev : ∀ (m : Nat) (l : List UInt8), l.length = m → m ≤ 8 → (num l).toNat < 256 ^ m ∧ be (num l).toNat m = l
  | 0, l, hl, _ => by
    have : l = [] := List.eq_nil_of_length_eq_zero hl
    subst this
    exact ⟨by decide, rfl⟩
  | m + 1, l, hl, hm => by
    have hne : l ≠ [] := fun e => by subst e; simp at hl
    obtain ⟨l', b, rfl⟩ : ∃ l' b, l = l' ++ [b] := ⟨l.dropLast, l.getLast hne, (List.dropLast_concat_getLast hne).symm⟩
    have hl' : l'.length = m := by simp at hl; omega
    obtain ⟨h1, h2⟩ := num_rev m l' hl' (by omega)
    have hv := num_snoc_val l' b
    have hp : (256 : Nat) ^ m ≤ 256 ^ 7 := Nat.pow_le_pow_right (by decide) (by omega)
    have p7 : (256 : Nat) ^ 7 = 72057594037927936 := by decide
    have hb := b.toNat_lt
    have e : (num (l' ++ [b])).toNat = 256 * (num l').toNat + b.toNat := by omega
    refine ⟨by rw [e, Nat.pow_succ]; omega, ?_⟩
    rw [be_snoc, e]
    have e1 : ((256 * (num l').toNat + b.toNat : Nat) : Int) / 256 = ((num l').toNat : Int) := by omega
    rw [e1, h2]
    congr 2
    apply UInt8.toNat_inj.1
    have := byteAt_toNat ((256 * (num l').toNat + b.toNat : Nat) : Int) 0
    simp only [Nat.mul_zero, Int.pow_zero, Int.ediv_one] at this
    omega

theorem unturn_eq (u : Nat) (h : u < 18446744073709551616) : unturn (u : Int) = (u : Int) - 9223372036854775808 := by
  have := unturn_val ((u : Int) - 9223372036854775808) ⟨by omega, by omega⟩
  rw [show (u : Int) - 9223372036854775808 + 9223372036854775808 = u by omega] at this
  exact this

theorem nextD_inv (k : UInt8) (l : List UInt8) (h : (nextD k l).2.2 = true) : (nextD k l).1.key ++ (nextD k l).2.1 = k :: l ∧ (nextD k l).1.s.length ≤ 200 := by
  unfold nextD at h ⊢
  by_cases h1 : k = 1
  · subst h1
    exact ⟨rfl, by show ([] : List UInt8).length ≤ 200; decide⟩
  · rw [if_neg h1] at h ⊢
    by_cases h2 : k = 2 ∧ 8 ≤ l.length
    · rw [if_pos h2]
      obtain ⟨hk, h8⟩ := h2
      subst hk
      refine ⟨?_, by simp⟩
      show (2 :: be (turn (unturn (num (l.take 8)).toNat)) 8) ++ l.drop 8 = _
      have hu := UInt64.toNat_lt (num (l.take 8))
      rw [unturn_eq _ hu, turn_val _ (by omega) (by omega), show ((num (l.take 8)).toNat : Int) - 9223372036854775808 + 9223372036854775808 = (num (l.take 8)).toNat by omega,
        (num_rev 8 (l.take 8) (by rw [List.length_take]; omega) (Nat.le_refl _)).2]
      show 2 :: (l.take 8 ++ l.drop 8) = _
      rw [List.take_append_drop]
    · rw [if_neg h2] at h ⊢
      by_cases h3 : k = 3
      · subst h3
        rw [if_pos rfl] at h ⊢
        cases hw : wordsD l with
        | none => rw [hw] at h; cases h
        | some x =>
          rw [hw] at h
          have hr : (⟨2, 0, x.1⟩ : Va).right = true := h
          have hrt : (⟨2, 0, x.1⟩ : Va).right = decide ((x.1.length : Int) ≤ 200) := by
            show ((0 : Int) == 0 && decide ((x.1.length : Int) ≤ 200)) = _
            rw [beq_self_eq_true, Bool.true_and]
          rw [hrt] at hr
          have := of_decide_eq_true hr
          refine ⟨?_, by show x.1.length ≤ 200; omega⟩
          show (3 :: (esc 0 0 255 x.1 ++ [0, 1])) ++ x.2 = _
          have hi := wordsD_inv _ l (Nat.le_refl _) x.1 x.2 hw
          rw [← hi]
          simp
      · rw [if_neg h3] at h; cases h

theorem backD_inv : ∀ (n : Nat) (q : List UInt8) (vs : List Va), backD n q = some vs → keys vs = q ∧ (∀ v, v ∈ vs → v.s.length ≤ 200) ∧ vs.length ≤ q.length
  | _, [], vs, h => by
    have : vs = [] := by unfold backD at h; cases h; rfl
    subst this
    exact ⟨rfl, by simp, by simp⟩
  | 0, k :: l, vs, h => by cases h
  | n + 1, k :: l, vs, h => by
    rw [backD] at h
    by_cases hk : (nextD k l).2.2 = true
    · rw [if_pos hk] at h
      obtain ⟨ws, h1, rfl⟩ := Option.map_eq_some_iff.1 h
      obtain ⟨i1, i2, i3⟩ := backD_inv n _ ws h1
      obtain ⟨j1, j2⟩ := nextD_inv k l hk
      have hd := nextD_len k l
      refine ⟨?_, fun v hv => ?_, by simp only [List.length_cons]; omega⟩
      · show (nextD k l).1.key ++ keys ws = _
        rw [i1, j1]
      · rcases List.mem_cons.1 hv with rfl | hv
        · exact j2
        · exact i2 v hv
    · rw [if_neg hk] at h; cases h

theorem keyBigLoop (l : List Va) (hl : l.length ≤ 300) (hs : ∀ v, v ∈ l → v.s.length ≤ 200) (R : VE → Sy → Prop) (hR : R (.exit 0) ⟨[], [(3, .sl 1 none true (bs (keys l)))], []⟩) :
    ∀ (g i : Nat), i + g = l.length → VloopS Tryd.prog (tr [2, 3, 12, 15, 17]) 18 0 c38b0 (exW 18 R) ⟨[], keyAt l (keys (l.take i)) i, []⟩
  | 0, i, hg => by
    refine VloopS.round ?_
    refine cond_f (decide_eq_false (by omega)) ?_
    refine ex_w hR rfl ⟨.eq (sl_eq ?_), trivial⟩ rfl
    rw [List.take_of_length_le (by omega)]
  | g + 1, i, hg => by
    have hlt : i < l.length := by omega
    have hk := keys_len (l.take i) (fun v hv => hs v (List.mem_of_mem_take hv))
    rw [List.length_take] at hk
    have he := key_len l[i] (hs _ (List.getElem_mem hlt))
    refine VloopS.round ?_
    refine cond_t (decide_eq_true (by omega)) ?_
    refine And.intro rfl (And.intro (Int.natCast_nonneg i) (Exists.intro l[i].c (And.intro (words_get hlt) ?_)))
    refine call_p (oneN l[i] (by have := hs _ (List.getElem_mem hlt); omega)) ?_
    refine And.intro (.inl ⟨rfl, rfl⟩) (And.intro (.inl rfl) (And.intro ?_ ?_))
    · simp only [bs_len]; omega
    refine VloopS.weakBox (l := keyAt l (keys (l.take (i + 1))) ((i + 1 : Nat) : Int)) (h := []) (ex := [.cells l[i].c]) rfl ⟨.eq (sl_eq ?_), .refl _, .refl _, .eq (int_eq ?_), trivial⟩ rfl (Nat.zero_le _) ?_ (by simp) (keyBigLoop l hl hs R hR g (i + 1) (by omega))
    · rw [take_snoc l i hlt, keys_app, ← bs_app]
      simp [keys]
    · rw [i64_in _ (by omega)]; omega
    · intro p hp
      simp only [keyAt, List.mem_cons, List.not_mem_nil, or_false] at hp
      rcases hp with rfl | rfl | rfl | rfl
      · exact np_bs _
      · exact np_words _
      · exact .int _ _
      · exact .int _ _

theorem keyBigN (nl : Option Bool) (own : Bool) (l : List Va) (hl : l.length ≤ 300) (hs : ∀ v, v ∈ l → v.s.length ≤ 200) : PCallN Tryd.prog 38 [.sl 3 nl own (l.map Va.c)] (.sl 1 none true (bs (keys l))) := by
  refine PCallN.of (tr [2, 3, 12, 15, 17]) f38 (Nat.le_of_ble_eq_true rfl) (np_cons (np_words _) np_nil) (np_bs _) ?_
  refine VloopS.weakE (l := keyAt l (keys (l.take 0)) ((0 : Nat) : Int)) rfl ⟨.nil _ _ _ _ _ (by simp), .both _ _ _ _, .eq (int_eq ?_), .refl _, trivial⟩ rfl (Nat.zero_le _) (VloopS.exW (keyBigLoop l hl hs _ ?_ l.length 0 (by omega)))
  · rw [List.length_map]
  · exact sl_eq rfl

end Go.Proofs.YtmjdoonaidolkaaDoor.V
