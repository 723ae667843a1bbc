/-
  Values: which one stands ahead: one of them does, or they are alike; and so on from one to the next.
-/
import Derived.Test.YtjlcnnijpmijhaaGa
import Derived.Test.YtjlcnnijpmijhaaFb

/- Values: what any bytes begin with, the plain law; and of the program. -/
namespace Go.Proofs.Ytjlcnnijpmijhaa.V
open Go.IntWalk

theorem be_i64 (n : Int) : be (IntKind.i64.wrap n) 8 = be n 8 := by
  rw [IntKind.wrap_i64]
  have key : ∀ i, i ≤ 7 → byteAt ((n + 9223372036854775808) % 18446744073709551616 - 9223372036854775808) i = byteAt n i := by
    intro i hi
    apply UInt8.toNat_inj.1
    have h1 := byteAt_toNat ((n + 9223372036854775808) % 18446744073709551616 - 9223372036854775808) i
    have h2 := byteAt_toNat n i
    have h3 : ((n + 9223372036854775808) % 18446744073709551616 - 9223372036854775808) / 2 ^ (8 * i) % 256 = n / 2 ^ (8 * i) % 256 := by
      have : i = 0 ∨ i = 1 ∨ i = 2 ∨ i = 3 ∨ i = 4 ∨ i = 5 ∨ i = 6 ∨ i = 7 := by omega
      rcases this with rfl | rfl | rfl | rfl | rfl | rfl | rfl | rfl <;> omega
    omega
  simp only [be, key 7 (by decide), key 6 (by decide), key 5 (by decide), key 4 (by decide), key 3 (by decide), key 2 (by decide), key 1 (by decide), key 0 (by decide)]

theorem byteAt_low (x b : Nat) (hb : b < 256) : byteAt ((256 * x + b : Nat) : Int) 0 = UInt8.ofNat b := by
  apply UInt8.toNat_inj.1
  have h1 := byteAt_toNat ((256 * x + b : Nat) : Int) 0
  have h2 : (UInt8.ofNat b).toNat = b := by simp; omega
  rw [h2]
  simp only [Nat.mul_zero, Int.pow_zero, Int.ediv_one] at h1
  omega

theorem be_num : ∀ m, m ≤ 8 → ∀ l : List UInt8, l.length = m → (num l).toNat < 256 ^ m ∧ be (num l).toNat m = l
  | 0, _, l, hl => by
    have : l = [] := List.eq_nil_of_length_eq_zero hl
    subst this
    exact ⟨by decide, rfl⟩
  | m + 1, hm, l, hl => by
    have hne : l ≠ [] := by intro e; subst e; simp at hl
    obtain ⟨l', b, rfl⟩ : ∃ l' b, l = l' ++ [b] := ⟨l.dropLast, l.getLast hne, (List.dropLast_concat_getLast hne).symm⟩
    have hl' : l'.length = m := by simpa using hl
    obtain ⟨h1, h2⟩ := be_num m (by omega) l' hl'
    have hb := b.toNat_lt
    have h3 := num_snoc_val l' b
    have h4 : 256 ^ m ≤ 256 ^ 7 := Nat.pow_le_pow_right (by decide) (by omega)
    have h5 : (256 : Nat) ^ 7 = 72057594037927936 := by decide
    have h6 : (num (l' ++ [b])).toNat = 256 * (num l').toNat + b.toNat := by omega
    refine ⟨by rw [h6, Nat.pow_succ]; omega, ?_⟩
    rw [h6, be_snoc, byteAt_low _ _ hb]
    have h7 : ((256 * (num l').toNat + b.toNat : Nat) : Int) / 256 = ((num l').toNat : Int) := by omega
    rw [h7, h2, UInt8.ofNat_toNat]

theorem be_two (a b : UInt8) : be ((256 * a.toNat + b.toNat : Nat) : Int) 2 = [a, b] := by
  have h := (be_num 2 (by decide) [a, b] rfl).2
  rw [num_two] at h
  exact h

/-- What Decode makes of any bytes. -/
theorem dec_cases (p : List UInt8) : ((dec p).2.2 = 0 ∧ (dec p).1.right = true ∧ (dec p).1.s.length ≤ 200 ∧ (dec p).1.enc ++ (dec p).2.1 = p) ∨ (((dec p).2.2 = 2 ∨ (dec p).2.2 = 3) ∧ (dec p).2.1 = [] ∧ (dec p).1 = zero) := by
  cases p with
  | nil => exact .inr ⟨.inr rfl, rfl, rfl⟩
  | cons k r =>
    by_cases h0 : k = 0
    · rw [show dec (k :: r) = (zero, r, 0) by rw [dec, if_pos h0]]
      subst h0
      exact .inl ⟨rfl, rfl, Nat.zero_le _, rfl⟩
    by_cases h1 : k = 1
    · by_cases h8 : r.length < 8
      · rw [show dec (k :: r) = (zero, [], 3) by rw [dec, if_neg h0, if_pos h1, if_pos h8]]
        exact .inr ⟨.inr rfl, rfl, rfl⟩
      · rw [show dec (k :: r) = (⟨1, IntKind.i64.wrap (num (r.take 8)).toNat, []⟩, r.drop 8, 0) by rw [dec, if_neg h0, if_pos h1, if_neg h8]]
        subst h1
        refine .inl ⟨rfl, rfl, Nat.zero_le _, ?_⟩
        show (1 : UInt8) :: be (IntKind.i64.wrap (num (r.take 8)).toNat) 8 ++ r.drop 8 = 1 :: r
        rw [be_i64, (be_num 8 (by decide) (r.take 8) (by simp; omega)).2, List.cons_append, List.take_append_drop]
    by_cases h2 : k = 2
    · match r with
      | [] =>
        rw [show dec [k] = (zero, [], 3) by rw [dec, if_neg h0, if_neg h1, if_pos h2]; rfl]
        exact .inr ⟨.inr rfl, rfl, rfl⟩
      | [a] =>
        rw [show dec [k, a] = (zero, [], 3) by rw [dec, if_neg h0, if_neg h1, if_pos h2]; rfl]
        exact .inr ⟨.inr rfl, rfl, rfl⟩
      | a :: b :: r =>
        by_cases h200 : 200 < 256 * a.toNat + b.toNat
        · rw [show dec (k :: a :: b :: r) = (zero, [], 2) by rw [dec, if_neg h0, if_neg h1, if_pos h2, decT, if_pos h200]]
          exact .inr ⟨.inl rfl, rfl, rfl⟩
        · by_cases hl : r.length < 256 * a.toNat + b.toNat
          · rw [show dec (k :: a :: b :: r) = (zero, [], 3) by rw [dec, if_neg h0, if_neg h1, if_pos h2, decT, if_neg h200, if_pos hl]]
            exact .inr ⟨.inr rfl, rfl, rfl⟩
          · rw [show dec (k :: a :: b :: r) = (⟨2, 0, r.take (256 * a.toNat + b.toNat)⟩, r.drop (256 * a.toNat + b.toNat), 0) by rw [dec, if_neg h0, if_neg h1, if_pos h2, decT, if_neg h200, if_neg hl]]
            subst h2
            have hlen : (r.take (256 * a.toNat + b.toNat)).length = 256 * a.toNat + b.toNat := by rw [List.length_take]; omega
            refine .inl ⟨rfl, ?_, by show (r.take _).length ≤ 200; omega, ?_⟩
            · simp only [Va.right, show ((2 : UInt8) = 0) = False by decide, show ((2 : UInt8) = 1) = False by decide, ↓reduceIte, Bool.and_eq_true, beq_self_eq_true, true_and, decide_eq_true_eq]
              omega
            · show (2 : UInt8) :: (be ((r.take (256 * a.toNat + b.toNat)).length : Int) 2 ++ r.take (256 * a.toNat + b.toNat)) ++ r.drop (256 * a.toNat + b.toNat) = 2 :: a :: b :: r
              rw [hlen, be_two, List.cons_append, List.append_assoc, List.take_append_drop]
              rfl
    · rw [show dec (k :: r) = (zero, [], 2) by rw [dec, if_neg h0, if_neg h1, if_neg h2]]
      exact .inr ⟨.inl rfl, rfl, rfl⟩

end Go.Proofs.Ytjlcnnijpmijhaa.V

/- Values: what any bytes begin with, of the program. -/
namespace Go.Proofs.Ytjlcnnijpmijhaa.V
open Go.IntWalk

theorem valueReadsN (nl : Option Bool) (own : Bool) (p : List UInt8) : PCallN Try.prog 4 [.sl 1 nl own (bs p)] (.bool true) := by
  refine PCallN.of (tr []) f4 (Nat.le_of_ble_eq_true rfl) (np_cons (np_bs _) np_nil) (.bool _) ?_
  by_cases hp : 300 < p.length
  · refine cond_t (decide_eq_true (by rw [bs_len]; omega)) ?_
    refine call_p textN ?_
    exact bool_eq rfl
  have hd := decodeN nl false p (by omega)
  have hd' := rDecodeN nl false p (by omega)
  have hc := dec_cases p
  have hn : decN p = if (dec p).2.2 = 0 then p.length - (dec p).2.1.length else 0 := rfl
  generalize decN p = n at hn hd'
  generalize dec p = x at hn hd hd' hc
  obtain ⟨v, l, e⟩ := x
  simp only at hn hc
  replace hd : PCallN Try.prog 12 [.sl 1 nl false (bs p)] (.tup [v.av, .sl 1 none false (bs l), .int .i64 e]) := hd
  replace hd' : PCallN Try.prog 17 [.sl 1 nl false (bs p)] (.tup [v.av, .int .i64 n, .int .i64 e]) := hd'
  have hv := va_beq v v
  rw [decide_eq_true rfl] at hv
  refine cond_f (decide_eq_false (by rw [bs_len]; omega)) ?_
  refine call_p hd ?_
  refine call_p hd' ?_
  refine call_d textN ?_
  iterate 3 refine guard_t rfl ?_
  refine guard_t (beq_self_eq_true _) ?_
  iterate 2 refine guard_t rfl ?_
  refine guard_t hv ?_
  rcases hc with ⟨he, hr, hs, hl⟩ | ⟨he, hl, hz⟩
  · subst he
    rw [if_pos rfl] at hn
    have hlen : n = v.enc.length := by rw [hn, ← hl]; simp
    have hb1 := bytesN none nl false false l l (by rw [← hl] at hp; simp at hp; omega)
    rw [decide_eq_true rfl] at hb1
    have hb2 := bytesN none nl true false v.enc v.enc (by rw [← hl] at hp; simp at hp; omega)
    rw [decide_eq_true rfl] at hb2
    have hrt := rightN v
    rw [hr] at hrt
    iterate 2 refine guard_t rfl ?_
    iterate 3 refine guard_f (by decide) ?_
    iterate 2 refine guard_t rfl ?_
    iterate 3 refine guard_t rfl ?_
    iterate 4 refine guard_t rfl ?_
    have hnp : n ≤ p.length := by omega
    refine And.intro (.inl rfl) (And.intro (by rw [bs_len]; omega) ?_)
    refine guard_t rfl ?_
    rw [show ((bs p).drop (n : Int).toNat).take (((bs p).length : Int).toNat - (n : Int).toNat) = bs l by
      rw [cut_bs (a := n) (b := p.length) rfl (congrArg Nat.cast (bs_len p)) (Nat.le_refl _), List.take_of_length_le (by simp), hlen, ← hl, List.drop_left]]
    refine call_d hb1 ?_
    iterate 2 refine guard_t rfl ?_
    iterate 2 refine guard_t rfl ?_
    refine call_d hrt ?_
    iterate 2 refine guard_t rfl ?_
    iterate 2 refine guard_t rfl ?_
    refine call_d (encodeN v hs) ?_
    iterate 3 refine guard_t rfl ?_
    refine And.intro (.inl rfl) (And.intro (by rw [bs_len]; omega) ?_)
    refine guard_t rfl ?_
    rw [show ((bs p).drop (0 : Int).toNat).take ((n : Int).toNat - (0 : Int).toNat) = bs v.enc by
      rw [cut_bs (i := 0) (a := 0) (b := n) rfl rfl hnp, hlen, ← hl]; simp]
    refine call_d hb2 ?_
    iterate 2 refine guard_t rfl ?_
    refine And.intro (by kernel_rfl) ?_
    exact bool_eq rfl
  · have he0 : (e != 0) = true := by rcases he with rfl | rfl <;> rfl
    have he1 : (e == 0) = false := by rcases he with rfl | rfl <;> rfl
    subst hl
    iterate 2 refine guard_t rfl ?_
    refine guard_t he0 ?_
    iterate 4 refine guard_t rfl ?_
    iterate 3 refine guard_f (by decide) ?_
    iterate 5 refine guard_f (by decide) ?_
    refine guard_t rfl ?_
    refine And.intro (by kernel_rfl) ?_
    exact bool_eq rfl

end Go.Proofs.Ytjlcnnijpmijhaa.V

/- Values: bytes that end too soon are none; of unlike values none begins another one: the plain law; and of the program. -/
namespace Go.Proofs.Ytjlcnnijpmijhaa.V
open Go.IntWalk

/-- A value's bytes that are cut. -/
theorem dec_cut (v : Va) (hr : v.right = true) (k : Nat) (hk : k < v.enc.length) : dec (v.enc.take k) = (zero, [], 3) := by
  match v, hr, hk with
  | ⟨q, n, s⟩, hr, hk =>
    by_cases h0 : q = 0
    · subst h0
      have hk' : k < 1 := hk
      have : k = 0 := by omega
      subst this
      rfl
    by_cases h1 : q = 1
    · subst h1
      have he : Va.enc ⟨1, n, s⟩ = 1 :: be n 8 := rfl
      rw [he] at hk ⊢
      cases k with
      | zero => rfl
      | succ k =>
        simp only [List.length_cons, be_len] at hk
        rw [List.take_succ_cons, dec, if_neg (by decide), if_pos rfl, if_pos (by rw [List.length_take, be_len]; omega)]
    by_cases h2 : q = 2
    · subst h2
      simp only [Va.right, show ((2 : UInt8) = 0) = False by decide, show ((2 : UInt8) = 1) = False by decide, ↓reduceIte, Bool.and_eq_true, beq_iff_eq, decide_eq_true_eq] at hr
      have he : Va.enc ⟨2, n, s⟩ = 2 :: byteAt s.length 1 :: byteAt s.length 0 :: s := rfl
      rw [he] at hk ⊢
      match k with
      | 0 => rfl
      | 1 => rfl
      | 2 => rfl
      | k + 3 =>
        simp only [List.length_cons] at hk
        have b1 := byteAt_toNat s.length 1
        have b0 := byteAt_toNat s.length 0
        have hlen : 256 * (byteAt s.length 1).toNat + (byteAt s.length 0).toNat = s.length := by
          simp only [Nat.reduceMul, Int.reducePow] at b1 b0
          omega
        rw [List.take_succ_cons, List.take_succ_cons, List.take_succ_cons, dec, if_neg (by decide), if_neg (by decide), if_pos rfl, decT, hlen, if_neg (by omega), if_pos (by rw [List.length_take]; omega)]
    · simp [Va.right, h0, h1, h2] at hr

/-- None begins another one. -/
theorem enc_prefix (v u : Va) (hv : v.right = true) (hv' : v.ok) (hu : u.right = true) (hu' : u.ok) (h : u.enc.take v.enc.length = v.enc) : v = u := by
  have e : u.enc = v.enc ++ u.enc.drop v.enc.length := by
    have := List.take_append_drop v.enc.length u.enc
    rw [h] at this
    exact this.symm
  have h1 := dec_enc u hu hu' []
  rw [List.append_nil, e, dec_enc v hv hv'] at h1
  exact congrArg Prod.fst h1

theorem enc_pos (v : Va) : 0 < v.enc.length := by
  unfold Va.enc
  simp

theorem valueCutN (w u : Va) (n : UInt8) (hw : w.ok) (hu : u.ok) : PCallN Try.prog 5 [w.av, u.av, .int .u8 n.toNat] (.bool true) := by
  refine PCallN.of (tr []) f5 (Nat.le_of_ble_eq_true rfl) (np_cons w.np (np_cons u.np (np_cons (.int _ _) np_nil))) (.bool _) ?_
  refine call_d (ofN w) ?_
  refine call_d (ofN u) ?_
  have hx := of_right w
  have hy := of_right u
  have hx1 := of_ok w hw
  have hy1 := of_ok u hu
  have lx := of_len w
  have ly := of_len u
  generalize w.of = x at *
  generalize u.of = y at *
  have ex := enc_len x lx
  have ey := enc_len y ly
  have px := enc_pos x
  have hpre := enc_prefix x y hx hx1 hy hy1
  have hcut := dec_cut x hx (n.toNat % x.enc.length) (Nat.mod_lt _ px)
  have hE := encodeN x lx
  have hE' := encodeN y ly
  have hv := va_beq x y
  have hxy : x = y → y.enc = x.enc := fun e => by rw [e]
  generalize x.enc = p at *
  generalize y.enc = q at *
  have hd := decodeN none false (p.take (n.toNat % p.length)) (by rw [List.length_take]; omega)
  rw [hcut] at hd
  replace hd : PCallN Try.prog 12 [.sl 1 none false (bs (p.take (n.toNat % p.length)))] (.tup [zero.av, .sl 1 none false [], .int .i64 3]) := hd
  refine And.intro (by kernel_rfl) ?_
  refine call_d hE ?_
  refine call_d hE' ?_
  refine And.intro (by kernel_rfl) ?_
  refine call_p textN ?_
  repeat (first | refine guard_t rfl ?_ | refine guard_f (by decide) ?_)
  refine cond_f (beq_eq_false_iff_ne.2 (by rw [bs_len]; omega)) ?_
  refine And.intro (by rw [bs_len]; omega) ?_
  have hn := n.toNat_lt
  have e1 : (IntKind.i64.wrap (n.toNat : Int)).tmod ((bs p).length : Int) = ((n.toNat % p.length : Nat) : Int) := by
    rw [i64_in _ (by omega), bs_len, Int.tmod_eq_emod_of_nonneg (by omega)]
    rfl
  rw [e1]
  have hmod := Nat.mod_lt n.toNat px
  refine And.intro (.inl rfl) (And.intro (by rw [bs_len]; omega) ?_)
  rw [cut_bs (i := 0) (a := 0) (b := n.toNat % p.length) rfl rfl (by omega)]
  refine call_p hd ?_
  have hb := bytesN none none false false (q.take p.length) p (by rw [List.length_take]; omega)
  by_cases hle : p.length ≤ q.length
  · refine guard_t (decide_eq_true (by rw [bs_len, bs_len]; omega)) ?_
    repeat (first | refine guard_t rfl ?_ | refine guard_f (by decide) ?_)
    refine And.intro (.inl rfl) (And.intro (by rw [bs_len, bs_len]; omega) ?_)
    repeat (first | refine guard_t rfl ?_ | refine guard_f (by decide) ?_)
    rw [cut_bs (i := 0) (a := 0) (b := p.length) rfl (congrArg Nat.cast (bs_len p)) hle, Nat.sub_zero, List.drop_zero]
    refine call_p hb ?_
    repeat (first | refine guard_t rfl ?_ | refine guard_f (by decide) ?_)
    refine bool_eq (Eq.trans (congrArg (decide (q.take p.length = p) == ·) hv) ?_)
    by_cases e : q.take p.length = p
    · rw [decide_eq_true e, decide_eq_true (hpre e)]; rfl
    · rw [decide_eq_false e, decide_eq_false (fun h => e (by rw [hxy h, List.take_length]))]; rfl
  · refine guard_f (by rw [bs_len, bs_len, decide_eq_false (by omega)]; decide) ?_
    repeat (first | refine guard_t rfl ?_ | refine guard_f (by decide) ?_)
    refine bool_eq (Eq.trans (congrArg (false == ·) hv) ?_)
    rw [decide_eq_false (fun h => hle (by rw [hxy h]; exact Nat.le_refl _))]; rfl

end Go.Proofs.Ytjlcnnijpmijhaa.V

/- Values one behind the other are read one by one. -/
namespace Go.Proofs.Ytjlcnnijpmijhaa.V
open Go.IntWalk

def encs (ws : List Va) : List UInt8 := (ws.map fun w => w.of.enc).flatten

theorem encs_len (ws : List Va) : (encs ws).length ≤ ws.length * 203 := by
  induction ws with
  | nil => simp [encs]
  | cons w ws ih =>
    have := enc_len w.of (of_len w)
    simp only [encs, List.map_cons, List.flatten_cons, List.length_append, List.length_cons] at ih ⊢
    omega

theorem encs_app (a b : List Va) : encs (a ++ b) = encs a ++ encs b := by simp [encs]

theorem np_words {ok : Nat → Prop} {sz : Nat} {nl : Option Bool} {own : Bool} (ws : List Va) : NP ok (.sl sz nl own (ws.map Va.c)) := by
  refine .sl _ _ _ _ fun x hx a ha => ?_
  obtain ⟨w, _, rfl⟩ := List.mem_map.1 hx
  have := w.np (ok := ok)
  exact this.agg_inv a ha

theorem words_get {ws : List Va} {i : Nat} (h : i < ws.length) : (ws.map Va.c)[i]? = some ws[i].c := by simp [h]

def mkAt (nl : Option Bool) (ws : List Va) (acc : List UInt8) (i : Int) : List (Nat × AV) := [(0, .sl 3 nl false (ws.map Va.c)), (3, .sl 1 none false (bs acc)), (4, .int .i64 i)]

theorem mkLoop (nl : Option Bool) (ws : List Va) (h20 : ws.length ≤ 20) (R : VE → Sy → Prop) (hR : R (.exit 0) ⟨[], [(0, .sl 3 nl false (ws.map Va.c)), (3, .sl 1 none false (bs (encs ws)))], []⟩) :
    ∀ (g i : Nat), i + g = ws.length → VloopS Try.prog (tr []) 65 0 c6b1 (exW 65 R) ⟨[], mkAt nl ws (encs (ws.take i)) i, []⟩
  | 0, i, hg => by
    refine VloopS.round ?_
    refine cond_f (decide_eq_false (by rw [List.length_map]; omega)) ?_
    refine ex_w hR rfl ⟨.refl _, .eq (sl_eq ?_), trivial⟩ rfl
    rw [List.take_of_length_le (by omega)]
  | g + 1, i, hg => by
    have hlt : i < ws.length := by omega
    have hl := encs_len (ws.take i)
    have he := enc_len ws[i].of (of_len _)
    rw [List.length_take] at hl
    refine VloopS.round ?_
    refine cond_t (decide_eq_true (by rw [List.length_map]; omega)) ?_
    refine And.intro rfl (And.intro (Int.natCast_nonneg i) (Exists.intro ws[i].c (And.intro (words_get hlt) ?_)))
    refine call_p (ofN ws[i]) ?_
    refine call_p (encodeN ws[i].of (of_len _)) ?_
    refine call_p (joinN _ _ _ _ (encs (ws.take i)) ws[i].of.enc (by omega)) ?_
    refine VloopS.weakE (l := mkAt nl ws (encs (ws.take (i + 1))) ((i + 1 : Nat) : Int)) rfl ⟨.refl _, .eq (sl_eq ?_), .eq (int_eq ?_), trivial⟩ rfl (Nat.zero_le _) (mkLoop nl ws h20 R hR g (i + 1) (by omega))
    · rw [take_snoc ws i hlt, encs_app]
      simp [encs]
    · rw [i64_in _ (by omega)]; omega

def rdAt (nl : Option Bool) (ws : List Va) (p : List UInt8) (i : Int) : List (Nat × AV) := [(0, .sl 3 nl false (ws.map Va.c)), (3, .sl 1 none false (bs p)), (5, .int .i64 i)]

theorem rdLoop (nl : Option Bool) (ws : List Va) (hok : ∀ w, w ∈ ws → w.ok) (h20 : ws.length ≤ 20) (R : VE → Sy → Prop) (hR : R (.exit 2) ⟨[], [(3, .sl 1 none false (bs []))], []⟩) :
    ∀ (g i : Nat), i + g = ws.length → VloopS Try.prog (tr []) 65 0 c6b0 (exW 65 R) ⟨[], rdAt nl ws (encs (ws.drop i)) i, []⟩
  | 0, i, hg => by
    refine VloopS.round ?_
    refine cond_f (decide_eq_false (by rw [List.length_map]; omega)) ?_
    refine ex_w hR rfl ⟨.eq (sl_eq ?_), trivial⟩ rfl
    rw [List.drop_of_length_le (by omega)]
    rfl
  | g + 1, i, hg => by
    have hlt : i < ws.length := by omega
    have hl := encs_len (ws.drop i)
    have hl' := encs_len (ws.drop (i + 1))
    rw [List.length_drop] at hl hl'
    have he : encs (ws.drop i) = ws[i].of.enc ++ encs (ws.drop (i + 1)) := by
      rw [List.drop_eq_getElem_cons hlt]; rfl
    have hd := decodeN none false (encs (ws.drop i)) (by omega)
    rw [he, dec_enc _ (of_right _) (of_ok _ (hok _ (List.getElem_mem hlt)))] at hd
    replace hd : PCallN Try.prog 12 [.sl 1 none false (bs (ws[i].of.enc ++ encs (ws.drop (i + 1))))] (.tup [ws[i].of.av, .sl 1 none false (bs (encs (ws.drop (i + 1)))), .int .i64 0]) := hd
    have hv := va_beq ws[i].of ws[i].of
    rw [decide_eq_true rfl] at hv
    have hp := enc_pos ws[i].of
    rw [he]
    refine VloopS.round ?_
    refine cond_t (decide_eq_true (by rw [List.length_map]; omega)) ?_
    refine call_p hd ?_
    repeat (first | refine guard_t rfl ?_ | refine guard_f (by decide) ?_)
    refine And.intro rfl (And.intro (Int.natCast_nonneg i) (Exists.intro ws[i].c (And.intro (words_get hlt) ?_)))
    repeat (first | refine guard_t rfl ?_ | refine guard_f (by decide) ?_)
    refine call_d (ofN ws[i]) ?_
    repeat (first | refine guard_t rfl ?_ | refine guard_f (by decide) ?_)
    have hv' : (!(((ws[i].of.k.toNat : Int) == ws[i].of.k.toNat) && ((ws[i].of.n == ws[i].of.n) && (((st ws[i].of.s).toList == (st ws[i].of.s).toList) && true)))) = false := by rw [hv]; rfl
    refine guard_t hv' ?_
    repeat (first | refine guard_t rfl ?_ | refine guard_f (by decide) ?_)
    refine And.intro (by kernel_rfl) ?_
    refine cond_f (decide_eq_false (by rw [bs_len, bs_len, List.length_append]; omega)) ?_
    refine VloopS.weakBox (h := []) (l := rdAt nl ws (encs (ws.drop (i + 1))) ((i + 1 : Nat) : Int)) rfl ⟨.refl _, .refl _, .eq (int_eq ?_), trivial⟩ rfl (Nat.zero_le _) ?_ (by simp) (rdLoop nl ws hok h20 R hR g (i + 1) (by omega))
    · rw [i64_in _ (by omega)]; omega
    · intro p hp
      simp only [rdAt, List.mem_cons, List.not_mem_nil, or_false] at hp
      rcases hp with rfl | rfl | rfl
      · exact np_words _
      · exact np_bs _
      · exact .int _ _

theorem valueManyN (nl : Option Bool) (own : Bool) (ws : List Va) (hok : ∀ w, w ∈ ws → w.ok) : PCallN Try.prog 6 [.sl 3 nl own (ws.map Va.c)] (.bool true) := by
  refine PCallN.of (tr []) f6 (Nat.le_of_ble_eq_true rfl) (np_cons (np_words _) np_nil) (.bool _) ?_
  refine call_p textN ?_
  repeat (first | refine guard_t rfl ?_ | refine guard_f (by decide) ?_)
  by_cases h : 20 < ws.length
  · refine cond_t (decide_eq_true (by rw [List.length_map]; omega)) ?_
    refine call_p textN ?_
    exact bool_eq rfl
  · refine cond_f (decide_eq_false (by rw [List.length_map]; omega)) ?_
    refine VloopS.weakE (l := mkAt nl ws (encs (ws.take 0)) ((0 : Nat) : Int)) rfl ⟨.strip _, .nil _ _ _ _ _ (by simp), .refl _, trivial⟩ rfl (Nat.zero_le _) (VloopS.exW (mkLoop nl ws (by omega) _ ?_ ws.length 0 (by omega)))
    refine VloopS.weakE (l := rdAt nl ws (encs (ws.drop 0)) ((0 : Nat) : Int)) rfl ⟨.refl _, .refl _, .refl _, trivial⟩ rfl (Nat.zero_le _) (VloopS.exW (rdLoop nl ws hok (by omega) _ ?_ ws.length 0 (by omega)))
    exact bool_eq rfl

end Go.Proofs.Ytjlcnnijpmijhaa.V

/- Values: is it one? Of any kind, and any fields. -/
namespace Go.Proofs.Ytjlcnnijpmijhaa.V
open Go.IntWalk

theorem toBytes_rep (k : Nat) : toBytes (List.replicate k [AV.int .u8 0]) = some (List.replicate k 0) := by
  induction k with
  | zero => rfl
  | succ k ih =>
    rw [List.replicate_succ, List.replicate_succ, toBytes, ih]
    rfl

theorem valueRightN (v : Va) (long : Nat) (hl : long < 65536) : PCallN Try.prog 7 [.int .u8 v.k.toNat, .int .i64 v.n, .str (st v.s), .int .u16 long] (.bool true) := by
  have e1 : ((long : Int)).tmod 260 = ((long % 260 : Nat) : Int) := by rw [Int.tmod_eq_emod_of_nonneg (by omega)]; rfl
  have hm : long % 260 < 260 := Nat.mod_lt _ (by decide)
  have e2 : IntKind.i64.wrap (((long : Int)).tmod 260) = ((long % 260 : Nat) : Int) := by rw [e1, i64_in _ (by omega)]
  obtain ⟨w, hw⟩ : ∃ w : Va, w = ⟨2, 0, List.replicate (long % 260) 0⟩ := ⟨_, rfl⟩
  have hr := rightN v
  have hr' := rRightN v
  have hrw := rightN w
  have hwr : w.right = decide (((long : Int)).tmod 260 ≤ 200) := by
    rw [hw, e1]
    simp only [Va.right, show ((2 : UInt8) = 0) = False by decide, show ((2 : UInt8) = 1) = False by decide, ↓reduceIte, beq_self_eq_true, Bool.true_and, List.length_replicate]
  have hvv := sameN v v
  rw [decide_eq_true rfl] at hvv
  have hvw := sameN v w
  have hb := va_beq v w
  have hwav : w.av = .agg [.int .u8 2, .int .i64 0, .str (st (List.replicate (long % 260) 0))] := by rw [hw]; rfl
  have hwc : w.c = [.int .u8 2, .int .i64 0, .str (st (List.replicate (long % 260) 0))] := by rw [hw]; rfl
  refine PCallN.of (tr []) f7 (Nat.le_of_ble_eq_true rfl) (np_cons (.int _ _) (np_cons (.int _ _) (np_cons (.str _) (np_cons (.int _ _) np_nil)))) (.bool _) ?_
  refine And.intro (by decide) ?_
  refine And.intro (by rw [e2]; omega) ?_
  rw [e2]
  refine Exists.intro _ (And.intro (toBytes_rep _) ?_)
  (refine call_d (textN) ?_; repeat (first | refine guard_t rfl ?_ | refine guard_f (by decide) ?_ | refine cond_t rfl ?_ | refine cond_f rfl ?_))
  (refine call_d (hr) ?_; repeat (first | refine guard_t rfl ?_ | refine guard_f (by decide) ?_ | refine cond_t rfl ?_ | refine cond_f rfl ?_))
  (refine call_d (hr') ?_; repeat (first | refine guard_t rfl ?_ | refine guard_f (by decide) ?_ | refine cond_t rfl ?_ | refine cond_f rfl ?_))
  (refine guard_t (beq_self_eq_true _) ?_; repeat (first | refine guard_t rfl ?_ | refine guard_f (by decide) ?_))
  rw [hwav] at hrw hvw
  (refine call_d (hrw) ?_; repeat (first | refine guard_t rfl ?_ | refine guard_f (by decide) ?_ | refine cond_t rfl ?_ | refine cond_f rfl ?_))
  refine And.intro (by decide) ?_
  repeat (first | refine guard_t rfl ?_ | refine guard_f (by decide) ?_)
  (refine guard_t (by rw [hwr]; exact beq_self_eq_true _) ?_; repeat (first | refine guard_t rfl ?_ | refine guard_f (by decide) ?_))
  (refine call_d (hvv) ?_; repeat (first | refine guard_t rfl ?_ | refine guard_f (by decide) ?_ | refine cond_t rfl ?_ | refine cond_f rfl ?_))
  (refine call_d (hvw) ?_; repeat (first | refine guard_t rfl ?_ | refine guard_f (by decide) ?_ | refine cond_t rfl ?_ | refine cond_f rfl ?_))
  refine And.intro (by kernel_rfl) ?_
  subst hw
  exact bool_eq ((congrArg (decide (v = (⟨2, 0, List.replicate (long % 260) 0⟩ : Va)) == ·) hb).trans (beq_self_eq_true _))

end Go.Proofs.Ytjlcnnijpmijhaa.V

/- Values: which one stands ahead. -/
namespace Go.Proofs.Ytjlcnnijpmijhaa.V
open Go.IntWalk Go.Lib

theorem cmpstrN (a b : List UInt8) : PCallN Try.prog 35 [.str (st a), .str (st b)] (.int .i64 (compareBytes a b)) := by
  refine PCallN.ofExt Try.func35 (by kernel_rfl) (by kernel_rfl) (by kernel_rfl) (e := Extern.BytealgCompare.compare) (by kernel_rfl) (np_cons (.str _) (np_cons (.str _) np_nil)) (.int _ _) ?_
  intro w fr pi own vals hl hr
  obtain ⟨u, v, rfl, h1, h2⟩ := vals_two hl hr
  refine ⟨_, ?_, .int .i64 _⟩
  rw [h1.str_inv, h2.str_inv]
  exact run_compareString (st a) (st b) w

theorem cmpStrN (a b : List UInt8) : PCallN Try.prog 34 [.str (st a), .str (st b)] (.int .i64 (compareBytes a b)) := by
  refine PCallN.of (tr []) f34 (Nat.le_of_ble_eq_true rfl) (np_cons (.str _) (np_cons (.str _) np_nil)) (.int _ _) ?_
  refine call_p (cmpstrN a b) ?_
  rfl

theorem sCompareN (a b : List UInt8) : PCallN Try.prog 31 [.str (st a), .str (st b)] (.int .i64 (compareBytes a b)) := by
  refine PCallN.of (tr []) f31 (Nat.le_of_ble_eq_true rfl) (np_cons (.str _) (np_cons (.str _) np_nil)) (.int _ _) ?_
  refine call_p (cmpStrN a b) ?_
  rfl

theorem nan8N (n : Int) : PCallN Try.prog 32 [.int .u8 n] (.bool false) := by
  refine PCallN.of (tr []) f32 (Nat.le_of_ble_eq_true rfl) (np_cons (.int _ _) np_nil) (.bool _) ?_
  exact bool_eq (bne_self_eq_false n)
theorem nan64N (n : Int) : PCallN Try.prog 33 [.int .i64 n] (.bool false) := by
  refine PCallN.of (tr []) f33 (Nat.le_of_ble_eq_true rfl) (np_cons (.int _ _) np_nil) (.bool _) ?_
  exact bool_eq (bne_self_eq_false n)

theorem cmp8N (a b : Int) : PCallN Try.prog 29 [.int .u8 a, .int .u8 b] (.int .i64 (sgn a b)) := by
  refine PCallN.of (tr []) f29 (Nat.le_of_ble_eq_true rfl) (np_cons (.int _ _) (np_cons (.int _ _) np_nil)) (.int _ _) ?_
  (refine call_p (nan8N a) ?_; repeat (first | refine guard_t rfl ?_ | refine guard_f (by decide) ?_ | refine cond_t rfl ?_ | refine cond_f rfl ?_))
  (refine call_p (nan8N b) ?_; repeat (first | refine guard_t rfl ?_ | refine guard_f (by decide) ?_ | refine cond_t rfl ?_ | refine cond_f rfl ?_))
  unfold sgn
  by_cases h1 : a < b
  · refine cond_t (decide_eq_true h1) ?_
    exact int_eq (by rw [if_pos h1])
  · refine cond_f (decide_eq_false h1) ?_
    by_cases h2 : a > b
    · refine cond_t (decide_eq_true h2) ?_
      exact int_eq (by rw [if_neg h1, if_pos h2])
    · refine cond_f (decide_eq_false h2) ?_
      exact int_eq (by rw [if_neg h1, if_neg h2])
theorem cmp64N (a b : Int) : PCallN Try.prog 30 [.int .i64 a, .int .i64 b] (.int .i64 (sgn a b)) := by
  refine PCallN.of (tr []) f30 (Nat.le_of_ble_eq_true rfl) (np_cons (.int _ _) (np_cons (.int _ _) np_nil)) (.int _ _) ?_
  (refine call_p (nan64N a) ?_; repeat (first | refine guard_t rfl ?_ | refine guard_f (by decide) ?_ | refine cond_t rfl ?_ | refine cond_f rfl ?_))
  (refine call_p (nan64N b) ?_; repeat (first | refine guard_t rfl ?_ | refine guard_f (by decide) ?_ | refine cond_t rfl ?_ | refine cond_f rfl ?_))
  unfold sgn
  by_cases h1 : a < b
  · refine cond_t (decide_eq_true h1) ?_
    exact int_eq (by rw [if_pos h1])
  · refine cond_f (decide_eq_false h1) ?_
    by_cases h2 : a > b
    · refine cond_t (decide_eq_true h2) ?_
      exact int_eq (by rw [if_neg h1, if_pos h2])
    · refine cond_f (decide_eq_false h2) ?_
      exact int_eq (by rw [if_neg h1, if_neg h2])

/-- The first that is not nought. -/
def or3 (x y z : Int) : Int := if x ≠ 0 then x else if y ≠ 0 then y else z

theorem orN (x y z : Int) : PCallN Try.prog 28 [.sl 1 (some false) true [[.int .i64 x], [.int .i64 y], [.int .i64 z]]] (.int .i64 (or3 x y z)) := by
  have hn : NP (fun _ => False) (.sl 1 (some false) true [[.int .i64 x], [.int .i64 y], [.int .i64 z]]) := np_ints [x, y, z]
  refine PCallN.of (tr []) f28 (Nat.le_of_ble_eq_true rfl) (np_cons hn np_nil) (.int _ _) ?_
  unfold or3
  refine VloopS.round ?_
  refine cond_t rfl ?_
  refine And.intro rfl (And.intro (by decide) (Exists.intro [.int .i64 x] (And.intro rfl ?_)))
  by_cases hx : x = 0
  · refine cond_f (by rw [hx]; rfl) ?_
    rw [if_neg (fun h => h hx)]
    refine VloopS.round ?_
    refine cond_t rfl ?_
    refine And.intro rfl (And.intro (by decide) (Exists.intro [.int .i64 y] (And.intro rfl ?_)))
    by_cases hy : y = 0
    · refine cond_f (by rw [hy]; rfl) ?_
      rw [if_neg (fun h => h hy)]
      refine VloopS.round ?_
      refine cond_t rfl ?_
      refine And.intro rfl (And.intro (by decide) (Exists.intro [.int .i64 z] (And.intro rfl ?_)))
      by_cases hz : z = 0
      · refine cond_f (by rw [hz]; rfl) ?_
        refine VloopS.round ?_
        refine cond_f rfl ?_
        exact int_eq hz.symm
      · refine cond_t (bne_iff_ne.2 hz) ?_
        rfl
    · refine cond_t (bne_iff_ne.2 hy) ?_
      exact int_eq (by rw [if_pos hy])
  · refine cond_t (bne_iff_ne.2 hx) ?_
    exact int_eq (by rw [if_pos hx])

def Va.cmp (x y : Va) : Int := or3 (sgn x.k.toNat y.k.toNat) (sgn x.n y.n) (compareBytes x.s y.s)

theorem compareN (x y : Va) : PCallN Try.prog 20 [x.av, y.av] (.int .i64 (x.cmp y)) := by
  refine PCallN.of (tr []) f20 (Nat.le_of_ble_eq_true rfl) (np_cons x.np (np_cons y.np np_nil)) (.int _ _) ?_
  refine call_d (cmp8N _ _) ?_
  refine call_d (cmp64N _ _) ?_
  refine call_d (sCompareN x.s y.s) ?_
  refine call_d (orN _ _ _) ?_
  refine And.intro (by kernel_rfl) ?_
  rfl

theorem right_same (x y : Va) (hx : x.right = true) (hy : y.right = true) (hk : x.k = y.k) : (x.n = 0 ∧ y.n = 0) ∨ (x.s = [] ∧ y.s = []) := by
  unfold Va.right at hx hy
  rw [← hk] at hy
  by_cases h0 : x.k = 0
  · rw [if_pos h0] at hx hy
    simp only [Bool.and_eq_true, beq_iff_eq, decide_eq_true_eq] at hx hy
    exact .inl ⟨hx.1, hy.1⟩
  · rw [if_neg h0] at hx hy
    by_cases h1 : x.k = 1
    · rw [if_pos h1] at hx hy
      exact .inr ⟨of_decide_eq_true hx, of_decide_eq_true hy⟩
    · rw [if_neg h1] at hx hy
      by_cases h2 : x.k = 2
      · rw [if_pos h2] at hx hy
        simp only [Bool.and_eq_true, beq_iff_eq, decide_eq_true_eq] at hx hy
        exact .inl ⟨hx.1, hy.1⟩
      · rw [if_neg h2] at hx; cases hx

theorem st_less (a b : List UInt8) : Op.bytesLess (st a).toList (st b).toList = decide (compareBytes a b < 0) := by rw [st_list, st_list, cb_less]
theorem st_more (a b : List UInt8) : (!(Op.bytesLess (st a).toList (st b).toList || (st a).toList == (st b).toList)) = decide (compareBytes a b > 0) := by
  rw [st_beq, st_less]
  by_cases e : a = b
  · subst e
    rw [cb_self, decide_eq_true rfl]; rfl
  · rw [decide_eq_false e, Bool.or_false]
    have h0 : compareBytes a b ≠ 0 := fun h => e (cb_eq h)
    by_cases h : compareBytes a b < 0
    · rw [decide_eq_true h, decide_eq_false (by omega)]; rfl
    · rw [decide_eq_false h, decide_eq_true (by omega)]; rfl

theorem rCompareN (x y : Va) (hx : x.right = true) (hy : y.right = true) : PCallN Try.prog 21 [x.av, y.av] (.int .i64 (x.cmp y)) := by
  refine PCallN.of (tr []) f21 (Nat.le_of_ble_eq_true rfl) (np_cons x.np (np_cons y.np np_nil)) (.int _ _) ?_
  by_cases hk : x.k = y.k
  · have hs := right_same x y hx hy hk
    obtain ⟨k, n, s⟩ := x
    obtain ⟨k', n', s'⟩ := y
    simp only at hk hs
    subst hk
    refine cond_f (bne_self_eq_false _) ?_
    have hc : ∀ n n' s s', Va.cmp ⟨k, n, s⟩ ⟨k, n', s'⟩ = if sgn n n' ≠ 0 then sgn n n' else compareBytes s s' := by
      intro n n' s s'
      unfold Va.cmp or3
      rw [show sgn (k.toNat : Int) k.toNat = 0 by unfold sgn; rw [if_neg (Int.lt_irrefl _), if_neg (Int.lt_irrefl _)], if_neg (fun h => h rfl)]
    rw [hc]
    have hv := cb_val s s'
    rcases hs with ⟨rfl, rfl⟩ | ⟨rfl, rfl⟩
    · rw [show sgn 0 0 = 0 from rfl, if_neg (fun h => h rfl)]
      repeat (first | refine guard_t rfl ?_ | refine guard_f (by decide) ?_)
      by_cases h1 : compareBytes s s' < 0
      · refine cond_t (by rw [st_less]; exact decide_eq_true h1) ?_
        exact int_eq (by omega)
      · refine cond_f (by rw [st_less]; exact decide_eq_false h1) ?_
        repeat (first | refine guard_t rfl ?_ | refine guard_f (by decide) ?_)
        by_cases h2 : compareBytes s s' > 0
        · refine cond_t (by rw [st_more]; exact decide_eq_true h2) ?_
          exact int_eq (by omega)
        · refine cond_f (by rw [st_more]; exact decide_eq_false h2) ?_
          exact int_eq (by omega)
    · unfold sgn
      by_cases h1 : n < n'
      · (refine guard_f (by rw [decide_eq_true h1]; decide) ?_; repeat (first | refine guard_t rfl ?_ | refine guard_f (by decide) ?_))
        refine cond_t rfl ?_
        exact int_eq (by rw [if_pos h1]; rfl)
      · (refine guard_t (decide_eq_false h1) ?_; repeat (first | refine guard_t rfl ?_ | refine guard_f (by decide) ?_))
        refine cond_f (by rw [st_less]; rfl) ?_
        by_cases h2 : n > n'
        · (refine guard_f (by rw [decide_eq_true h2]; decide) ?_; repeat (first | refine guard_t rfl ?_ | refine guard_f (by decide) ?_))
          refine cond_t rfl ?_
          exact int_eq (by rw [if_neg h1, if_pos h2]; rfl)
        · (refine guard_t (decide_eq_false h2) ?_; repeat (first | refine guard_t rfl ?_ | refine guard_f (by decide) ?_))
          refine cond_f (by rw [st_more]; rfl) ?_
          exact int_eq (by rw [if_neg h1, if_neg h2]; rfl)
  · refine cond_t (bne_iff_ne.2 fun e => hk (UInt8.toNat_inj.1 (by omega))) ?_
    unfold Va.cmp or3 sgn
    by_cases h1 : (x.k.toNat : Int) < y.k.toNat
    · refine cond_t (decide_eq_true h1) ?_
      exact int_eq (by rw [if_pos h1]; rfl)
    · refine cond_f (decide_eq_false h1) ?_
      have h2 : (x.k.toNat : Int) > y.k.toNat := by
        have : x.k.toNat ≠ y.k.toNat := fun e => hk (UInt8.toNat_inj.1 e)
        omega
      exact int_eq (by rw [if_neg h1, if_pos h2]; rfl)

/-! the order, plainly -/

theorem cmp_self (x : Va) : x.cmp x = 0 := by
  unfold Va.cmp or3 sgn
  simp [cb_self]

theorem cmp_anti (x y : Va) : y.cmp x = - x.cmp y := by
  have h := cb_anti x.s y.s
  unfold Va.cmp or3 sgn
  split <;> split <;> (repeat' split) <;> first | omega | rfl

end Go.Proofs.Ytjlcnnijpmijhaa.V

/- Values: which one stands ahead: one of them does, or they are alike; and so on from one to the next. -/
namespace Go.Proofs.Ytjlcnnijpmijhaa.V
open Go.IntWalk Go.Lib

theorem sgn_val (a b : Int) : sgn a b = -1 ∨ sgn a b = 0 ∨ sgn a b = 1 := by
  unfold sgn
  split
  · exact .inl rfl
  · split
    · exact .inr (.inr rfl)
    · exact .inr (.inl rfl)

theorem cmp_val (x y : Va) : x.cmp y = -1 ∨ x.cmp y = 0 ∨ x.cmp y = 1 := by
  have h1 := sgn_val x.k.toNat y.k.toNat
  have h2 := sgn_val x.n y.n
  have h3 := cb_val x.s y.s
  unfold Va.cmp or3
  split
  · exact h1
  · split
    · exact h2
    · exact h3

theorem sgn_zero {a b : Int} (h : sgn a b = 0) : a = b := by
  unfold sgn at h
  by_cases h1 : a < b
  · rw [if_pos h1] at h; cases h
  · rw [if_neg h1] at h
    by_cases h2 : a > b
    · rw [if_pos h2] at h; cases h
    · omega

theorem cmp_zero {x y : Va} (h : x.cmp y = 0) : x = y := by
  unfold Va.cmp or3 at h
  by_cases h1 : sgn x.k.toNat y.k.toNat = 0
  · rw [if_neg (fun e => e h1)] at h
    by_cases h2 : sgn x.n y.n = 0
    · rw [if_neg (fun e => e h2)] at h
      obtain ⟨k, n, s⟩ := x
      obtain ⟨k', n', s'⟩ := y
      simp only at h1 h2 h
      have e1 : k = k' := UInt8.toNat_inj.1 (by have := sgn_zero h1; omega)
      rw [e1, sgn_zero h2, cb_eq h]
    · rw [if_pos h2] at h; exact absurd h h2
  · rw [if_pos h1] at h; exact absurd h h1

theorem sgn_neg {a b : Int} : sgn a b < 0 ↔ a < b := by
  unfold sgn
  by_cases h1 : a < b
  · rw [if_pos h1]; omega
  · rw [if_neg h1]
    by_cases h2 : a > b
    · rw [if_pos h2]; omega
    · rw [if_neg h2]; omega

theorem sgn_nil {a b : Int} : sgn a b = 0 ↔ a = b := ⟨sgn_zero, fun h => by subst h; unfold sgn; rw [if_neg (Int.lt_irrefl _), if_neg (Int.lt_irrefl _)]⟩

theorem cmp_neg (x y : Va) : x.cmp y < 0 ↔ (x.k.toNat : Int) < y.k.toNat ∨ ((x.k.toNat : Int) = y.k.toNat ∧ (x.n < y.n ∨ (x.n = y.n ∧ compareBytes x.s y.s < 0))) := by
  unfold Va.cmp or3
  by_cases h1 : sgn x.k.toNat y.k.toNat = 0
  · rw [if_neg (fun e => e h1)]
    have e1 := sgn_nil.1 h1
    by_cases h2 : sgn x.n y.n = 0
    · rw [if_neg (fun e => e h2)]
      have e2 := sgn_nil.1 h2
      constructor
      · exact fun h => .inr ⟨e1, .inr ⟨e2, h⟩⟩
      · rintro (h | ⟨_, h | ⟨_, h⟩⟩)
        · omega
        · omega
        · exact h
    · rw [if_pos h2, sgn_neg]
      have e2 : x.n ≠ y.n := fun e => h2 (sgn_nil.2 e)
      constructor
      · exact fun h => .inr ⟨e1, .inl h⟩
      · rintro (h | ⟨_, h | ⟨h, _⟩⟩)
        · omega
        · exact h
        · exact absurd h e2
  · rw [if_pos h1, sgn_neg]
    have e1 : (x.k.toNat : Int) ≠ y.k.toNat := fun e => h1 (sgn_nil.2 e)
    constructor
    · exact .inl
    · rintro (h | ⟨h, _⟩)
      · exact h
      · exact absurd h e1

theorem cmp_trans {x y z : Va} (h : x.cmp y < 0) (h' : y.cmp z < 0) : x.cmp z < 0 := by
  rw [cmp_neg] at h h' ⊢
  rcases h with h | ⟨h, h1 | ⟨h1, h2⟩⟩
  · rcases h' with h' | ⟨h', _⟩
    · exact .inl (by omega)
    · exact .inl (by omega)
  · rcases h' with h' | ⟨h', h3 | ⟨h3, _⟩⟩
    · exact .inl (by omega)
    · exact .inr ⟨by omega, .inl (by omega)⟩
    · exact .inr ⟨by omega, .inl (by omega)⟩
  · rcases h' with h' | ⟨h', h3 | ⟨h3, h4⟩⟩
    · exact .inl (by omega)
    · exact .inr ⟨by omega, .inl (by omega)⟩
    · exact .inr ⟨by omega, .inr ⟨by omega, cb_trans h2 h4⟩⟩

theorem valueOrderN (a b c : Va) : PCallN Try.prog 8 [a.av, b.av, c.av] (.bool true) := by
  refine PCallN.of (tr []) f8 (Nat.le_of_ble_eq_true rfl) (np_cons a.np (np_cons b.np (np_cons c.np np_nil))) (.bool _) ?_
  have ha := ofN a
  have hb := ofN b
  have hc := ofN c
  have rx := of_right a
  have ry := of_right b
  have rz := of_right c
  generalize a.of = x at *
  generalize b.of = y at *
  generalize c.of = z at *
  have hxy := compareN x y
  have hyx := compareN y x
  have hxx := compareN x x
  have hyz := compareN y z
  have hxz := compareN x z
  have rxy := rCompareN x y rx ry
  have hs := sameN x y
  have v1 := cmp_val x y
  have an := cmp_anti x y
  rw [cmp_self] at hxx
  have es : decide (x.cmp y = 0) = decide (x = y) := by
    by_cases e : x = y
    · rw [decide_eq_true e, e, cmp_self]; rfl
    · rw [decide_eq_false e, decide_eq_false fun h => e (cmp_zero h)]
  have tr3 : x.cmp y < 0 → y.cmp z < 0 → x.cmp z < 0 := cmp_trans
  rw [an] at hyx
  generalize x.cmp y = p at *
  generalize y.cmp z = q at *
  generalize x.cmp z = r at *
  refine call_d ha ?_
  refine call_d hb ?_
  refine call_d hc ?_
  refine And.intro (by kernel_rfl) ?_
  (refine call_d (textN) ?_; repeat (first | refine guard_t rfl ?_ | refine guard_f (by decide) ?_ | refine cond_t rfl ?_ | refine cond_f rfl ?_))
  (refine call_d (hxy) ?_; repeat (first | refine guard_t rfl ?_ | refine guard_f (by decide) ?_ | refine cond_t rfl ?_ | refine cond_f rfl ?_))
  (refine call_d (rxy) ?_; repeat (first | refine guard_t rfl ?_ | refine guard_f (by decide) ?_ | refine cond_t rfl ?_ | refine cond_f rfl ?_))
  (refine guard_t (bne_self_eq_false _) ?_; repeat (first | refine guard_t rfl ?_ | refine guard_f (by decide) ?_))
  (refine call_d (hxy) ?_; repeat (first | refine guard_t rfl ?_ | refine guard_f (by decide) ?_ | refine cond_t rfl ?_ | refine cond_f rfl ?_))
  (refine call_d (hyx) ?_; repeat (first | refine guard_t rfl ?_ | refine guard_f (by decide) ?_ | refine cond_t rfl ?_ | refine cond_f rfl ?_))
  (refine guard_t (by rw [i64_in _ (by omega)]; exact bne_eq_false_iff_eq.2 (by omega)) ?_; repeat (first | refine guard_t rfl ?_ | refine guard_f (by decide) ?_))
  (refine call_d (hxx) ?_; repeat (first | refine guard_t rfl ?_ | refine guard_f (by decide) ?_ | refine cond_t rfl ?_ | refine cond_f rfl ?_))
  refine And.intro (by kernel_rfl) ?_
  refine cond_f rfl ?_
  (refine call_d (hxy) ?_; repeat (first | refine guard_t rfl ?_ | refine guard_f (by decide) ?_ | refine cond_t rfl ?_ | refine cond_f rfl ?_))
  (refine call_d (hs) ?_; repeat (first | refine guard_t rfl ?_ | refine guard_f (by decide) ?_ | refine cond_t rfl ?_ | refine cond_f rfl ?_))
  have e1 : ((p == 0) == decide (x = y)) = true := by
    rw [← es]
    exact beq_iff_eq.2 (Bool.eq_iff_iff.2 ⟨fun h => decide_eq_true (beq_iff_eq.1 h), fun h => beq_iff_eq.2 (of_decide_eq_true h)⟩)
  (refine guard_t (e1) ?_; repeat (first | refine guard_t rfl ?_ | refine guard_f (by decide) ?_))
  (refine call_d (hxy) ?_; repeat (first | refine guard_t rfl ?_ | refine guard_f (by decide) ?_ | refine cond_t rfl ?_ | refine cond_f rfl ?_))
  by_cases h1 : p ≥ 0
  · (refine guard_f (by rw [decide_eq_true h1]; decide) ?_; repeat (first | refine guard_t rfl ?_ | refine guard_f (by decide) ?_))
    refine And.intro (by kernel_rfl) ?_
    exact bool_eq rfl
  · (refine guard_t (decide_eq_false h1) ?_; repeat (first | refine guard_t rfl ?_ | refine guard_f (by decide) ?_))
    (refine call_d (hyz) ?_; repeat (first | refine guard_t rfl ?_ | refine guard_f (by decide) ?_ | refine cond_t rfl ?_ | refine cond_f rfl ?_))
    by_cases h2 : q ≥ 0
    · (refine guard_f (by rw [decide_eq_true h2]; decide) ?_; repeat (first | refine guard_t rfl ?_ | refine guard_f (by decide) ?_))
      refine And.intro (by kernel_rfl) ?_
      exact bool_eq rfl
    · (refine guard_t (decide_eq_false h2) ?_; repeat (first | refine guard_t rfl ?_ | refine guard_f (by decide) ?_))
      (refine call_d (hxz) ?_; repeat (first | refine guard_t rfl ?_ | refine guard_f (by decide) ?_ | refine cond_t rfl ?_ | refine cond_f rfl ?_))
      refine And.intro (by kernel_rfl) ?_
      exact bool_eq (decide_eq_true (tr3 (by omega) (by omega)))

end Go.Proofs.Ytjlcnnijpmijhaa.V
