/-
  A key turned: the law OrderTurned.
-/
import Derived.Test.YtlhdbbkfibibfaaDoorGe
import Derived.Test.YtlhdbbkfibibfaaDoorFc

/- The document's own reading of keys: a text. -/
namespace Go.Proofs.YtlhdbbkfibibfaaDoor.V
open Go.IntWalk Go.Lib

theorem wordsD_ne (b : UInt8) (l : List UInt8) (h : b ≠ 0) : wordsD (b :: l) = (wordsD l).map fun x => (b :: x.1, x.2) := by
  cases l with
  | nil => rfl
  | cons m l => rw [wordsD, if_neg h]

def rwAt (p : List UInt8) (acc : List Va) (k : Nat) (s : List UInt8) : List (Nat × AV) := [(0, .sl 1 none false (bs p)), (4, .sl 3 none true (acc.map Va.c)), (5, .int .i64 k), (7, .sl 1 none true (bs s))]

theorem rwLoop (p : List UInt8) (hp : p.length ≤ 100000) (acc : List Va) (o : Option (List UInt8 × List UInt8)) (R : VE → Sy → Prop)
    (hN : o = none → R .ret ⟨[], [(2, .sl 3 none false (([] : List Va).map Va.c)), (3, .int .i64 2)], []⟩)
    (hS : ∀ (t : List UInt8) (k : Nat), k ≤ p.length → t.length ≤ p.length → o = some (t, p.drop k) → R (.exit 3) ⟨[], rwAt p acc k t, []⟩) :
    ∀ (g k : Nat) (s : List UInt8), p.length - k ≤ g → k ≤ p.length → s.length ≤ k → (wordsD (p.drop k)).map (fun x => (s ++ x.1, x.2)) = o →
      VloopS Tryd.prog (tr [2, 4, 7, 22, 25, 33, 44, 61, 64, 91, 93, 97, 102, 103]) 104 0 c19b0 (exW 104 R) ⟨[], rwAt p acc k s, []⟩
  | g, k, s, hg, hk, hs, ho => by
    refine VloopS.round ?_
    by_cases he : k = p.length
    · refine cond_t (decide_eq_true (by rw [bs_len]; omega)) ?_
      refine ex_w (hN ?_) rfl ⟨.nil _ _ _ _ _ (by simp), .refl _, trivial⟩ rfl
      rw [← ho, he, List.drop_length]; rfl
    · have hlt : k < p.length := by omega
      refine cond_f (decide_eq_false (by rw [bs_len]; omega)) ?_
      refine And.intro rfl (And.intro (Int.natCast_nonneg k) (Exists.intro [.int .u8 (p[k].toNat : Int)] (And.intro (bs_get hlt) ?_)))
      have w1 : IntKind.i64.wrap (((k : Nat) : Int) + 1) = ((k + 1 : Nat) : Int) := by rw [i64_in _ (by omega)]; omega
      rw [List.drop_eq_getElem_cons hlt] at ho
      match g, hg with
      | 0, hg => omega
      | g + 1, hg =>
      by_cases h0 : p[k] = 0
      · refine cond_f (by rw [h0]; rfl) ?_
        rw [w1]
        by_cases he2 : k + 1 = p.length
        · have c1 : ((k + 1 : Nat) : Int) ≥ ((bs p).length : Nat) := by rw [bs_len]; omega
          refine guard_f (by rw [decide_eq_true c1]; decide) ?_
          rw [decide_eq_true c1]
          repeat (first | refine guard_t rfl ?_ | refine guard_f (by decide) ?_ | refine cond_t rfl ?_ | refine cond_f rfl ?_)
          refine ex_w (hN ?_) rfl ⟨.nil _ _ _ _ _ (by simp), .refl _, trivial⟩ rfl
          rw [← ho, he2, List.drop_length]; rfl
        · have hlt2 : k + 1 < p.length := by omega
          have c1 : ¬ ((k + 1 : Nat) : Int) ≥ ((bs p).length : Nat) := by rw [bs_len]; omega
          refine guard_t (decide_eq_false c1) ?_
          rw [decide_eq_false c1]
          repeat (first | refine guard_t rfl ?_ | refine guard_f (by decide) ?_)
          refine And.intro rfl (And.intro (Int.natCast_nonneg _) (Exists.intro [.int .u8 (p[k + 1].toNat : Int)] (And.intro (bs_get hlt2) ?_)))
          repeat (first | refine guard_t rfl ?_ | refine guard_f (by decide) ?_)
          have w2 : IntKind.i64.wrap (((k + 1 : Nat) : Int) + 1) = ((k + 2 : Nat) : Int) := by rw [i64_in _ (by omega)]; omega
          have w3 : IntKind.i64.wrap (((k + 2 : Nat) : Int) - 1) = ((k + 1 : Nat) : Int) := by rw [i64_in _ (by omega)]; omega
          rw [List.drop_eq_getElem_cons hlt2, h0, wordsD, if_pos rfl] at ho
          by_cases h5 : p[k + 1] = 255
          · rw [if_pos h5] at ho
            rw [h5]
            repeat (first | refine guard_t rfl ?_ | refine guard_f (by decide) ?_ | refine cond_t rfl ?_ | refine cond_f rfl ?_)
            refine And.intro rfl (And.intro (by rw [w2, w3]; omega) (Exists.intro [.int .u8 (p[k + 1].toNat : Int)] (And.intro (by rw [w2, w3]; exact bs_get hlt2) ?_)))
            rw [h5]
            refine cond_f rfl ?_
            refine And.intro (.inl ⟨rfl, rfl⟩) (And.intro (.inl rfl) (And.intro ?_ ?_))
            · simp only [List.length_cons, List.length_nil, bs_len]; omega
            refine VloopS.weakE (l := rwAt p acc (k + 2) (s ++ [0])) rfl ⟨.refl _, .refl _, .eq (int_eq w2), .eq (sl_eq ?_), trivial⟩ rfl (Nat.zero_le _) (rwLoop p hp acc o R hN hS g (k + 2) (s ++ [0]) (by omega) (by omega) (by simp only [List.length_append, List.length_cons, List.length_nil]; omega) ?_)
            · rw [← bs_app]; rfl
            · rw [← ho, Option.map_map]
              congr 1
              funext x
              simp
          · rw [if_neg h5] at ho
            have n5 : ((p[k + 1].toNat : Int) != 255) = true := bne_iff_ne.2 (u8_val h5)
            refine guard_t n5 ?_
            rw [n5]
            repeat (first | refine guard_t rfl ?_ | refine guard_f (by decide) ?_)
            refine And.intro rfl (And.intro (Int.natCast_nonneg _) (Exists.intro [.int .u8 (p[k + 1].toNat : Int)] (And.intro (bs_get hlt2) ?_)))
            repeat (first | refine guard_t rfl ?_ | refine guard_f (by decide) ?_)
            by_cases h6 : p[k + 1] = 1
            · rw [if_pos h6] at ho
              refine cond_f (by rw [h6]; rfl) ?_
              refine And.intro rfl (And.intro (by rw [w2, w3]; omega) (Exists.intro [.int .u8 (p[k + 1].toNat : Int)] (And.intro (by rw [w2, w3]; exact bs_get hlt2) ?_)))
              refine cond_t (by rw [h6]; rfl) ?_
              refine ex_w (hS s (k + 2) (by omega) (by omega) ?_) rfl ⟨.refl _, .refl _, .eq (int_eq w2), .refl _, trivial⟩ rfl
              rw [← ho]
              simp
            · rw [if_neg h6] at ho
              refine cond_t (bne_iff_ne.2 (u8_val h6)) ?_
              refine ex_w (hN ho.symm) rfl ⟨.nil _ _ _ _ _ (by simp), .refl _, trivial⟩ rfl
      · refine cond_t (bne_iff_ne.2 (u8_val h0)) ?_
        refine And.intro (.inl ⟨rfl, rfl⟩) (And.intro (.inl rfl) (And.intro ?_ ?_))
        · simp only [List.length_cons, List.length_nil, bs_len]; omega
        refine VloopS.weakE (l := rwAt p acc (k + 1) (s ++ [p[k]])) rfl ⟨.refl _, .refl _, .eq (int_eq w1), .eq (sl_eq ?_), trivial⟩ rfl (Nat.zero_le _) (rwLoop p hp acc o R hN hS g (k + 1) (s ++ [p[k]]) (by omega) (by omega) (by simp only [List.length_append, List.length_cons, List.length_nil]; omega) ?_)
        · rw [← bs_app]; rfl
        · rw [← ho, wordsD_ne _ _ h0, Option.map_map]
          congr 1
          funext x
          simp

end Go.Proofs.YtlhdbbkfibibfaaDoor.V

/- The document's own reading of keys. -/
namespace Go.Proofs.YtlhdbbkfibibfaaDoor.V
open Go.IntWalk Go.Lib

theorem xor_any (v : Nat) (h : v < 18446744073709551616) : ((v ^^^ 2 ^ 63 : Nat) : Int) % 18446744073709551616 = ((v : Int) - 9223372036854775808) % 18446744073709551616 := by
  have p63 : (2 : Nat) ^ 63 = 9223372036854775808 := by decide
  by_cases hv : v < 2 ^ 63
  · rw [Nat.xor_comm, xor_top v hv]
    omega
  · have e : v = 2 ^ 63 + (v - 2 ^ 63) := by omega
    have h2 : v - 2 ^ 63 < 2 ^ 63 := by omega
    rw [e, ← xor_top _ h2, Nat.xor_comm, ← Nat.xor_assoc, Nat.xor_self, Nat.zero_xor, xor_top _ h2]
    omega

theorem unturn_sub (u : Nat) (h : u < 18446744073709551616) : unturn (u : Int) = IntKind.i64.wrap (IntKind.u64.wrap ((u : Int) - 9223372036854775808)) := by
  unfold unturn
  rw [w_u64, w_u64, BitVec.toNat_xor, BitVec.toNat_ofInt, BitVec.toNat_ofInt]
  have e2 : ((9223372036854775808 : Int) % ((2 ^ 64 : Nat) : Int)).toNat = 2 ^ 63 := by decide
  have e1 : ((u : Int) % ((2 ^ 64 : Nat) : Int)).toNat = u := by
    have p64 : ((2 ^ 64 : Nat) : Int) = 18446744073709551616 := by decide
    rw [p64]; omega
  rw [e1, e2, xor_any u h]

def rbAt (p : List UInt8) (acc : List Va) (k : Nat) : List (Nat × AV) := [(0, .sl 1 none false (bs p)), (4, .sl 3 none true (acc.map Va.c)), (5, .int .i64 k)]

theorem rbLoop (p : List UInt8) (hp : p.length ≤ 100000) (o : Option (List Va)) (R : VE → Sy → Prop) (hN : o = none → R .ret ⟨[], [(2, .sl 3 none false (([] : List Va).map Va.c)), (3, .int .i64 2)], []⟩)
    (hS : ∀ vs, o = some vs → R (.exit 0) ⟨[], [(4, .sl 3 none true (vs.map Va.c))], []⟩) :
    ∀ (g k : Nat) (acc : List Va), (p.drop k).length ≤ g → k ≤ p.length → acc.length ≤ k → (backD g (p.drop k)).map (acc ++ ·) = o →
      VloopS Tryd.prog (tr [2, 4, 7, 22, 25, 33, 44, 61, 64, 91, 93, 97, 102, 103]) 104 0 c19b1 (exW 104 R) ⟨[], rbAt p acc k, []⟩
  | g, k, acc, hg, hk, ha, ho => by
    refine VloopS.round ?_
    by_cases he : k = p.length
    · refine cond_f (decide_eq_false (by rw [bs_len]; omega)) ?_
      refine ex_w (hS acc ?_) rfl ⟨.refl _, trivial⟩ rfl
      rw [← ho, he, List.drop_length]
      cases g <;> simp [backD]
    · have hlt : k < p.length := by omega
      refine cond_t (decide_eq_true (by rw [bs_len]; omega)) ?_
      refine And.intro rfl (And.intro (Int.natCast_nonneg k) (Exists.intro [.int .u8 (p[k].toNat : Int)] (And.intro (bs_get hlt) ?_)))
      have w1 : IntKind.i64.wrap (((k : Nat) : Int) + 1) = ((k + 1 : Nat) : Int) := by rw [i64_in _ (by omega)]; omega
      rw [List.drop_eq_getElem_cons hlt] at ho hg
      simp only [List.length_cons] at hg
      match g, hg with
      | g + 1, hg =>
      rw [backD] at ho
      have hdl : (p.drop (k + 1)).length = p.length - (k + 1) := List.length_drop
      by_cases h1 : p[k] = 1
      · refine cond_t (by rw [h1]; rfl) ?_
        refine And.intro (.inl ⟨rfl, rfl⟩) (And.intro (.inl rfl) (And.intro ?_ ?_))
        · simp only [List.length_cons, List.length_nil, List.length_map]; omega
        rw [nextD, if_pos h1] at ho
        refine VloopS.weakE (l := rbAt p (acc ++ [⟨0, 0, []⟩]) (k + 1)) rfl ⟨.refl _, .eq (sl_eq ?_), .eq (int_eq w1), trivial⟩ rfl (Nat.zero_le _) (rbLoop p hp o R hN hS g (k + 1) (acc ++ [⟨0, 0, []⟩]) (by omega) (by omega) (by simp only [List.length_append, List.length_cons, List.length_nil]; omega) ?_)
        · rw [List.map_append]; rfl
        · rw [← ho, if_pos rfl, Option.map_map]
          congr 1
          funext x
          simp
      · refine cond_f (u8_ne (u8_val h1)) ?_
        by_cases h2 : p[k] = 2
        · refine cond_t (by rw [h2]; rfl) ?_
          have wl : IntKind.i64.wrap (((bs p).length : Nat) - IntKind.i64.wrap (((k : Nat) : Int) + 1)) = ((p.length - (k + 1) : Nat) : Int) := by rw [w1, bs_len, i64_in _ (by omega)]; omega
          by_cases h8 : 8 ≤ (p.drop (k + 1)).length
          · have e : nextD p[k] (p.drop (k + 1)) = (⟨1, unturn (num ((p.drop (k + 1)).take 8)).toNat, []⟩, (p.drop (k + 1)).drop 8, true) := by rw [nextD, if_neg h1, if_pos ⟨h2, h8⟩]
            rw [e] at ho
            refine cond_f (decide_eq_false (by rw [wl]; omega)) ?_
            have w9 : IntKind.i64.wrap (IntKind.i64.wrap (((k : Nat) : Int) + 1) + 8) = ((k + 9 : Nat) : Int) := by rw [w1, i64_in _ (by omega)]; omega
            refine And.intro (.inl rfl) (And.intro (by rw [w9, w1, bs_len]; omega) ?_)
            refine call_p (ret := .int .u64 (num ((p.drop (k + 1)).take 8)).toNat) (by
              rw [cut_bs w1 w9 (by omega), show k + 9 - (k + 1) = 8 by omega]
              exact readN _ _ _ (by rw [List.length_take]; omega)) ?_
            refine And.intro (.inl ⟨rfl, rfl⟩) (And.intro (.inl rfl) (And.intro ?_ ?_))
            · simp only [List.length_cons, List.length_nil, List.length_map]; omega
            rw [List.drop_drop] at ho
            refine VloopS.weakE (l := rbAt p (acc ++ [⟨1, unturn (num ((p.drop (k + 1)).take 8)).toNat, []⟩]) (k + 9)) rfl ⟨.refl _, .eq (sl_eq ?_), .eq (int_eq w9), trivial⟩ rfl (Nat.zero_le _) (rbLoop p hp o R hN hS g (k + 9) (acc ++ [⟨1, unturn (num ((p.drop (k + 1)).take 8)).toNat, []⟩]) (by rw [List.length_drop]; omega) (by omega) (by simp only [List.length_append, List.length_cons, List.length_nil]; omega) ?_)
            · rw [List.map_append, unturn_sub _ (UInt64.toNat_lt _)]; rfl
            · rw [← ho, if_pos rfl, Option.map_map]
              congr 1
              funext x
              simp
          · have e : nextD p[k] (p.drop (k + 1)) = (⟨0, 0, []⟩, [], false) := by rw [nextD, if_neg h1, if_neg (fun h => h8 h.2), if_neg (by rw [h2]; decide)]
            rw [e] at ho
            refine cond_t (decide_eq_true (by rw [wl]; omega)) ?_
            refine ex_w (hN ?_) rfl ⟨.nil _ _ _ _ _ (by simp), .refl _, trivial⟩ rfl
            rw [← ho]; rfl
        · refine cond_f (u8_ne (u8_val h2)) ?_
          by_cases h3 : p[k] = 3
          · refine cond_t (by rw [h3]; rfl) ?_
            have e : nextD p[k] (p.drop (k + 1)) = (match wordsD (p.drop (k + 1)) with
              | some x => (⟨2, 0, x.1⟩, x.2, (⟨2, 0, x.1⟩ : Va).right)
              | none => (⟨2, 0, []⟩, [], false)) := by
              rw [nextD, if_neg h1, if_neg (fun h => h2 h.1), if_pos h3]
              all_goals (cases wordsD (p.drop (k + 1)) <;> rfl)
            rw [e] at ho
            refine VloopS.weakE (l := rwAt p acc (k + 1) []) rfl ⟨.refl _, .refl _, .eq (int_eq w1), .nil _ _ _ _ _ (by simp), trivial⟩ rfl (Nat.zero_le _)
              (VloopS.exW (rwLoop p hp acc (wordsD (p.drop (k + 1))) _ ?_ ?_ (p.length - (k + 1)) (k + 1) [] (Nat.le_refl _) (by omega) (by simp) (by simp)))
            · intro hw
              rw [hw] at ho
              refine ex_w (hN ?_) rfl ⟨.refl _, .refl _, trivial⟩ rfl
              rw [← ho]; rfl
            · intro t k' hk' ht hw
              have hlw := wordsD_len _ (p.drop (k + 1)) (Nat.le_refl _) _ hw
              rw [hw] at ho
              simp only [List.length_drop] at hlw
              have hrt : (⟨2, 0, t⟩ : Va).right = decide ((t.length : Int) ≤ 200) := by
                show ((0 : Int) == 0 && decide ((t.length : Int) ≤ 200)) = _
                rw [beq_self_eq_true, Bool.true_and]
              simp only at ho
              rw [hrt] at ho
              by_cases h200 : t.length ≤ 200
              · rw [decide_eq_true (show (t.length : Int) ≤ 200 by omega), if_pos rfl] at ho
                refine cond_f (decide_eq_false (by rw [bs_len]; omega)) ?_
                refine Exists.intro t (And.intro (toBytes_bs _) ?_)
                refine And.intro (.inl ⟨rfl, rfl⟩) (And.intro (.inl rfl) (And.intro ?_ ?_))
                · simp only [List.length_cons, List.length_nil, List.length_map]; omega
                refine VloopS.weakE (l := rbAt p (acc ++ [⟨2, 0, t⟩]) k') rfl ⟨.refl _, .eq (sl_eq ?_), .refl _, trivial⟩ rfl (Nat.zero_le _) (rbLoop p hp o R hN hS g k' (acc ++ [⟨2, 0, t⟩]) (by rw [List.length_drop]; omega) (by omega) (by simp only [List.length_append, List.length_cons, List.length_nil]; omega) ?_)
                · rw [List.map_append]; rfl
                · rw [← ho, Option.map_map]
                  congr 1
                  funext x
                  simp
              · rw [decide_eq_false (show ¬ (t.length : Int) ≤ 200 by omega)] at ho
                refine cond_t (decide_eq_true (by rw [bs_len]; omega)) ?_
                refine ex_w (hN ?_) rfl ⟨.nil _ _ _ _ _ (by simp), .refl _, trivial⟩ rfl
                rw [← ho]; rfl
          · refine cond_f (u8_ne (u8_val h3)) ?_
            have e : nextD p[k] (p.drop (k + 1)) = (⟨0, 0, []⟩, [], false) := by rw [nextD, if_neg h1, if_neg (fun h => h2 h.1), if_neg h3]
            rw [e] at ho
            refine ex_w (hN ?_) rfl ⟨.nil _ _ _ _ _ (by simp), .refl _, trivial⟩ rfl
            rw [← ho]; rfl

theorem rBackN (nl : Option Bool) (own : Bool) (q : List UInt8) (hq : q.length ≤ 100000) : PCallN Tryd.prog 19 [.sl 1 nl own (bs q)] (bkAV (backD q.length q)) := by
  cases ho : backD q.length q with
  | none =>
    refine PCallN.of (tr [2, 4, 7, 22, 25, 33, 44, 61, 64, 91, 93, 97, 102, 103]) f19 (Nat.le_of_ble_eq_true rfl) (np_cons (np_bs _) np_nil) (bk_np [] 2) ?_
    refine VloopS.weakE (l := rbAt q [] 0) rfl ⟨.both _ _ _ _, .nil _ _ _ _ _ (by simp), .eq (int_eq rfl), trivial⟩ rfl (Nat.zero_le _) (VloopS.exW (rbLoop q hq none _ ?_ ?_ q.length 0 [] (Nat.le_refl _) (by omega) (by simp) (by rw [List.drop_zero, ho]; rfl)))
    · intro _; exact rfl
    · intro vs h; cases h
  | some vs =>
    have hty : bkAV (some vs) = .tup [.sl 3 none false (vs.map Va.c), .int .i64 0] := rfl
    rw [hty]
    refine PCallN.weakRet (ret := .tup [.sl 3 none true (vs.map Va.c), .int .i64 0]) (.tup _ _ (.cons _ _ _ _ (.strip _) (.cons _ _ _ _ (.refl _) .nil))) ?_
    refine PCallN.of (tr [2, 4, 7, 22, 25, 33, 44, 61, 64, 91, 93, 97, 102, 103]) f19 (Nat.le_of_ble_eq_true rfl) (np_cons (np_bs _) np_nil) (.tup _ (np_cons (np_words _) (np_cons (.int _ _) np_nil))) ?_
    refine VloopS.weakE (l := rbAt q [] 0) rfl ⟨.both _ _ _ _, .nil _ _ _ _ _ (by simp), .eq (int_eq rfl), trivial⟩ rfl (Nat.zero_le _) (VloopS.exW (rbLoop q hq (some vs) _ ?_ ?_ q.length 0 [] (Nat.le_refl _) (by omega) (by simp) (by rw [List.drop_zero, ho]; rfl)))
    · intro h; cases h
    · intro vs' h
      cases h
      exact rfl

end Go.Proofs.YtlhdbbkfibibfaaDoor.V

/- The law OrderReads: whatever the bytes, both readings agree. -/
namespace Go.Proofs.YtlhdbbkfibibfaaDoor.V
open Go.IntWalk Go.Lib

theorem wordsD_inv : ∀ (n : Nat) (q : List UInt8), q.length ≤ n → ∀ t r, wordsD q = some (t, r) → esc 0 0 255 t ++ (0 :: 1 :: r) = q
  | _, [], _, t, r, h => by cases h
  | _, [_], _, t, r, h => by cases h
  | 0, b :: m :: l, hn, t, r, h => by simp at hn
  | n + 1, b :: m :: l, hn, t, r, h => by
    simp only [List.length_cons] at hn
    rw [wordsD] at h
    by_cases hb : b = 0
    · subst hb
      rw [if_pos rfl] at h
      by_cases h5 : m = 255
      · subst h5
        rw [if_pos rfl] at h
        obtain ⟨y, hy, e⟩ := Option.map_eq_some_iff.1 h
        cases e
        have := wordsD_inv n l (by omega) y.1 y.2 hy
        rw [esc_cons_t]
        show 0 :: 255 :: (esc 0 0 255 y.1 ++ _) = _
        rw [this]
      · rw [if_neg h5] at h
        by_cases h6 : m = 1
        · subst h6
          rw [if_pos rfl] at h
          cases h
          rfl
        · rw [if_neg h6] at h; cases h
    · rw [if_neg hb] at h
      obtain ⟨y, hy, e⟩ := Option.map_eq_some_iff.1 h
      cases e
      have := wordsD_inv n (m :: l) (by simp; omega) y.1 y.2 hy
      rw [esc_cons_f _ _ _ _ _ hb]
      show b :: (esc 0 0 255 y.1 ++ _) = _
      rw [this]

theorem num_rev : ∀ (m : Nat) (l : List UInt8), l.length = m → m ≤ 8 → (num l).toNat < 256 ^ m ∧ be (num l).toNat m = l
  | 0, l, hl, _ => by
    have : l = [] := List.eq_nil_of_length_eq_zero hl
    subst this
    exact ⟨by decide, rfl⟩
  | m + 1, l, hl, hm => by
    have hne : l ≠ [] := fun e => by subst e; simp at hl
    obtain ⟨l', b, rfl⟩ : ∃ l' b, l = l' ++ [b] := ⟨l.dropLast, l.getLast hne, (List.dropLast_concat_getLast hne).symm⟩
    have hl' : l'.length = m := by simp at hl; omega
    obtain ⟨h1, h2⟩ := num_rev m l' hl' (by omega)
    have hv := num_snoc_val l' b
    have hp : (256 : Nat) ^ m ≤ 256 ^ 7 := Nat.pow_le_pow_right (by decide) (by omega)
    have p7 : (256 : Nat) ^ 7 = 72057594037927936 := by decide
    have hb := b.toNat_lt
    have e : (num (l' ++ [b])).toNat = 256 * (num l').toNat + b.toNat := by omega
    refine ⟨by rw [e, Nat.pow_succ]; omega, ?_⟩
    rw [be_snoc, e]
    have e1 : ((256 * (num l').toNat + b.toNat : Nat) : Int) / 256 = ((num l').toNat : Int) := by omega
    rw [e1, h2]
    congr 2
    apply UInt8.toNat_inj.1
    have := byteAt_toNat ((256 * (num l').toNat + b.toNat : Nat) : Int) 0
    simp only [Nat.mul_zero, Int.pow_zero, Int.ediv_one] at this
    omega

theorem unturn_eq (u : Nat) (h : u < 18446744073709551616) : unturn (u : Int) = (u : Int) - 9223372036854775808 := by
  have := unturn_val ((u : Int) - 9223372036854775808) ⟨by omega, by omega⟩
  rw [show (u : Int) - 9223372036854775808 + 9223372036854775808 = u by omega] at this
  exact this

theorem nextD_inv (k : UInt8) (l : List UInt8) (h : (nextD k l).2.2 = true) : (nextD k l).1.key ++ (nextD k l).2.1 = k :: l ∧ (nextD k l).1.s.length ≤ 200 := by
  unfold nextD at h ⊢
  by_cases h1 : k = 1
  · subst h1
    exact ⟨rfl, by show ([] : List UInt8).length ≤ 200; decide⟩
  · rw [if_neg h1] at h ⊢
    by_cases h2 : k = 2 ∧ 8 ≤ l.length
    · rw [if_pos h2]
      obtain ⟨hk, h8⟩ := h2
      subst hk
      refine ⟨?_, by simp⟩
      show (2 :: be (turn (unturn (num (l.take 8)).toNat)) 8) ++ l.drop 8 = _
      have hu := UInt64.toNat_lt (num (l.take 8))
      rw [unturn_eq _ hu, turn_val _ (by omega) (by omega), show ((num (l.take 8)).toNat : Int) - 9223372036854775808 + 9223372036854775808 = (num (l.take 8)).toNat by omega,
        (num_rev 8 (l.take 8) (by rw [List.length_take]; omega) (Nat.le_refl _)).2]
      show 2 :: (l.take 8 ++ l.drop 8) = _
      rw [List.take_append_drop]
    · rw [if_neg h2] at h ⊢
      by_cases h3 : k = 3
      · subst h3
        rw [if_pos rfl] at h ⊢
        cases hw : wordsD l with
        | none => rw [hw] at h; cases h
        | some x =>
          rw [hw] at h
          have hr : (⟨2, 0, x.1⟩ : Va).right = true := h
          have hrt : (⟨2, 0, x.1⟩ : Va).right = decide ((x.1.length : Int) ≤ 200) := by
            show ((0 : Int) == 0 && decide ((x.1.length : Int) ≤ 200)) = _
            rw [beq_self_eq_true, Bool.true_and]
          rw [hrt] at hr
          have := of_decide_eq_true hr
          refine ⟨?_, by show x.1.length ≤ 200; omega⟩
          show (3 :: (esc 0 0 255 x.1 ++ [0, 1])) ++ x.2 = _
          have hi := wordsD_inv _ l (Nat.le_refl _) x.1 x.2 hw
          rw [← hi]
          simp
      · rw [if_neg h3] at h; cases h

theorem backD_inv : ∀ (n : Nat) (q : List UInt8) (vs : List Va), backD n q = some vs → keys vs = q ∧ (∀ v, v ∈ vs → v.s.length ≤ 200) ∧ vs.length ≤ q.length
  | _, [], vs, h => by
    have : vs = [] := by unfold backD at h; cases h; rfl
    subst this
    exact ⟨rfl, by simp, by simp⟩
  | 0, k :: l, vs, h => by cases h
  | n + 1, k :: l, vs, h => by
    rw [backD] at h
    by_cases hk : (nextD k l).2.2 = true
    · rw [if_pos hk] at h
      obtain ⟨ws, h1, rfl⟩ := Option.map_eq_some_iff.1 h
      obtain ⟨i1, i2, i3⟩ := backD_inv n _ ws h1
      obtain ⟨j1, j2⟩ := nextD_inv k l hk
      have hd := nextD_len k l
      refine ⟨?_, fun v hv => ?_, by simp only [List.length_cons]; omega⟩
      · show (nextD k l).1.key ++ keys ws = _
        rw [i1, j1]
      · rcases List.mem_cons.1 hv with rfl | hv
        · exact j2
        · exact i2 v hv
    · rw [if_neg hk] at h; cases h

theorem keyBigLoop (l : List Va) (hl : l.length ≤ 300) (hs : ∀ v, v ∈ l → v.s.length ≤ 200) (R : VE → Sy → Prop) (hR : R (.exit 0) ⟨[], [(3, .sl 1 none true (bs (keys l)))], []⟩) :
    ∀ (g i : Nat), i + g = l.length → VloopS Tryd.prog (tr [2, 3, 12, 15, 17]) 18 0 c12b0 (exW 18 R) ⟨[], keyAt l (keys (l.take i)) i, []⟩
  | 0, i, hg => by
    refine VloopS.round ?_
    refine cond_f (decide_eq_false (by omega)) ?_
    refine ex_w hR rfl ⟨.eq (sl_eq ?_), trivial⟩ rfl
    rw [List.take_of_length_le (by omega)]
  | g + 1, i, hg => by
    have hlt : i < l.length := by omega
    have hk := keys_len (l.take i) (fun v hv => hs v (List.mem_of_mem_take hv))
    rw [List.length_take] at hk
    have he := key_len l[i] (hs _ (List.getElem_mem hlt))
    refine VloopS.round ?_
    refine cond_t (decide_eq_true (by omega)) ?_
    refine And.intro rfl (And.intro (Int.natCast_nonneg i) (Exists.intro l[i].c (And.intro (words_get hlt) ?_)))
    refine call_p (oneN l[i] (by have := hs _ (List.getElem_mem hlt); omega)) ?_
    refine And.intro (.inl ⟨rfl, rfl⟩) (And.intro (.inl rfl) (And.intro ?_ ?_))
    · simp only [bs_len]; omega
    refine VloopS.weakBox (l := keyAt l (keys (l.take (i + 1))) ((i + 1 : Nat) : Int)) (h := []) (ex := [.cells l[i].c]) rfl ⟨.eq (sl_eq ?_), .refl _, .refl _, .eq (int_eq ?_), trivial⟩ rfl (Nat.zero_le _) ?_ (by simp) (keyBigLoop l hl hs R hR g (i + 1) (by omega))
    · rw [take_snoc l i hlt, keys_app, ← bs_app]
      simp [keys]
    · rw [i64_in _ (by omega)]; omega
    · intro p hp
      simp only [keyAt, List.mem_cons, List.not_mem_nil, or_false] at hp
      rcases hp with rfl | rfl | rfl | rfl
      · exact np_bs _
      · exact np_words _
      · exact .int _ _
      · exact .int _ _

theorem keyBigN (nl : Option Bool) (own : Bool) (l : List Va) (hl : l.length ≤ 300) (hs : ∀ v, v ∈ l → v.s.length ≤ 200) : PCallN Tryd.prog 12 [.sl 3 nl own (l.map Va.c)] (.sl 1 none true (bs (keys l))) := by
  refine PCallN.of (tr [2, 3, 12, 15, 17]) f12 (Nat.le_of_ble_eq_true rfl) (np_cons (np_words _) np_nil) (np_bs _) ?_
  refine VloopS.weakE (l := keyAt l (keys (l.take 0)) ((0 : Nat) : Int)) rfl ⟨.nil _ _ _ _ _ (by simp), .both _ _ _ _, .eq (int_eq ?_), .refl _, trivial⟩ rfl (Nat.zero_le _) (VloopS.exW (keyBigLoop l hl hs _ ?_ l.length 0 (by omega)))
  · rw [List.length_map]
  · exact sl_eq rfl

theorem orderReadsN (nl : Option Bool) (own : Bool) (p : List UInt8) : PCallN Tryd.prog 7 [.sl 1 nl own (bs p)] (.bool true) := by
  refine PCallN.of (tr []) f7 (Nat.le_of_ble_eq_true rfl) (np_cons (np_bs _) np_nil) (.bool _) ?_
  by_cases hp : 260 < p.length
  · refine cond_t (decide_eq_true (by rw [bs_len]; omega)) ?_
    refine call_p noughtN ?_
    exact bool_eq rfl
  · refine cond_f (decide_eq_false (by rw [bs_len]; omega)) ?_
    have b1 := backN nl false p (by omega)
    have b2 := rBackN nl false p (by omega)
    cases ho : backD p.length p with
    | none =>
      rw [ho] at b1 b2
      refine call_p b1 ?_
      refine call_p b2 ?_
      refine call_p noughtN ?_
      repeat (first | refine guard_t rfl ?_ | refine guard_f (by decide) ?_)
      refine call_p (sameT _ _ _ _ [] (by decide)) ?_
      repeat (first | refine guard_t rfl ?_ | refine guard_f (by decide) ?_)
      exact bool_eq rfl
    | some vs =>
      obtain ⟨hk, hs, hl⟩ := backD_inv _ _ _ ho
      rw [ho] at b1 b2
      refine call_p b1 ?_
      refine call_p b2 ?_
      refine call_p noughtN ?_
      repeat (first | refine guard_t rfl ?_ | refine guard_f (by decide) ?_)
      refine call_p (sameT _ _ _ _ vs (by omega)) ?_
      repeat (first | refine guard_t rfl ?_ | refine guard_f (by decide) ?_)
      refine call_p (keyBigN _ _ vs (by omega) hs) ?_
      repeat (first | refine guard_t rfl ?_ | refine guard_f (by decide) ?_)
      refine call_p (bytesN _ _ _ _ (keys vs) p (by rw [hk]; omega)) ?_
      repeat (first | refine guard_t rfl ?_ | refine guard_f (by decide) ?_)
      exact bool_eq (decide_eq_true hk)

end Go.Proofs.YtlhdbbkfibibfaaDoor.V

/- A key turned: the law OrderTurned. -/
namespace Go.Proofs.YtlhdbbkfibibfaaDoor.V
open Go.IntWalk

theorem wkf_bsl {B : Nat → Option (Nat × List (List AV))} {sz id off len : Nat} {xs ys : List (List AV)} (hB : B id = some (sz, xs)) (hle : off + len ≤ xs.length) (h : (xs.drop off).take len = ys) : WkF B (.bsl sz id off len) (.sl sz none false ys) :=
  .bsl sz id off len xs ys none hB hle (by simp) (by rw [h]) (by rw [h]; exact WkFL.of _)

theorem bs_set (q : List UInt8) (k : Nat) (b : UInt8) : (bs q).set k [.int .u8 b.toNat] = bs (q.set k b) := by
  unfold bs
  rw [List.map_set]

theorem keys_nil (l : List Va) (h : keys l = []) : l = [] := by
  cases l with
  | nil => rfl
  | cons v r =>
    obtain ⟨b, t, e⟩ := key_ne v
    have : keys (v :: r) = v.key ++ keys r := by simp [keys]
    rw [this, e] at h
    simp at h

theorem orderTurnedN (nl nl' : Option Bool) (own own' : Bool) (ws : List Va) (at_ : Nat) (hat : at_ < 65536) (b : UInt8) (cut : Bool) (more : List UInt8) :
    PCallN Tryd.prog 8 [.sl 3 nl own (ws.map Va.c), .int .u16 at_, .int .u8 b.toNat, .bool cut, .sl 1 nl' own' (bs more)] (.bool true) := by
  refine PCallN.of (tr [2000047]) f8 (Nat.le_of_ble_eq_true rfl) (np_cons (np_words _) (np_cons (.int _ _) (np_cons (.int _ _) (np_cons (.bool _) (np_cons (np_bs _) np_nil))))) (.bool _) ?_
  refine call_p noughtN ?_
  repeat (first | refine guard_t rfl ?_ | refine guard_f (by decide) ?_)
  by_cases hw : ws.length ≤ 12
  · refine call_p (smallT _ _ ws hw) ?_
    repeat (first | refine guard_t rfl ?_ | refine guard_f (by decide) ?_)
    by_cases hp : more.length ≤ 20
    · refine cond_f (decide_eq_false (by rw [bs_len]; omega)) ?_
      refine call_p (valuesN _ _ ws (by omega)) ?_
      have lv : (ws.map Va.of).length ≤ 12 := by rw [List.length_map]; exact hw
      have le : (ws.map Va.of).length = ws.length := List.length_map ..
      have sv := of_small ws
      generalize ws.map Va.of = l at lv sv le ⊢
      refine call_p (keyN _ _ l (by omega) sv) ?_
      have hk := keys_len l sv
      have hpl : (keys l).length ≤ 10000 := by omega
      have hne : keys l = [] → ws.length = 0 := fun e => by rw [← le, keys_nil l e]; rfl
      generalize keys l = p at hpl hne ⊢
      by_cases hp0 : p = []
      · subst hp0
        refine cond_t rfl ?_
        refine bool_eq ?_
        rw [List.length_map, hne rfl]
        rfl
      have hp0 : 0 < p.length := by
        rcases Nat.eq_zero_or_pos p.length with h | h
        · exact absurd (List.eq_nil_of_length_eq_zero h) hp0
        · exact h
      refine cond_f (beq_eq_false_iff_ne.2 (by rw [bs_len]; omega)) ?_
      refine And.intro (by rw [bs_len]; omega) ?_
      have hw16 : IntKind.i64.wrap (at_ : Int) = at_ := i64_in _ (by omega)
      have hmod : (IntKind.i64.wrap (at_ : Int)).tmod (((bs p).length : Nat) : Int) = ((at_ % p.length : Nat) : Int) := by
        rw [hw16, bs_len, Int.tmod_eq_emod_of_nonneg (by omega)]
        omega
      have hlt : at_ % p.length < p.length := Nat.mod_lt _ hp0
      rw [hmod]
      generalize at_ % p.length = k at hlt ⊢
      refine call_p ((joinN none nl' false false p more (by omega)).thaw rfl (by rw [bs_len, List.length_append]; omega) (bs_flat _)) ?_
      cases cut with
      | true =>
        refine cond_t rfl ?_
        refine And.intro rfl (And.intro ⟨Int.le_refl _, Int.natCast_nonneg _, by rw [bs_len, List.length_append]; omega⟩ ?_)
        have hq : ((bs (p ++ more)).drop (0 + (0 : Int).toNat)).take ((k : Int).toNat - (0 : Int).toNat) = bs ((p ++ more).take k) := by
          simp [bs_take]
        refine call_s [(57, .sl 1 none false (bs ((p ++ more).take k))), (13, .sl 1 none false (bs ((p ++ more).take k)))] [.ro []] (ShiftS.fz0 _ rfl ⟨wkf_bsl rfl (by rw [bs_len, List.length_append]; simp; omega) hq, wkf_bsl rfl (by rw [bs_len, List.length_append]; simp; omega) hq, trivial⟩) trivial ?_
        generalize hqq : (p ++ more).take k = q
        have hql : q.length ≤ 20000 := by rw [← hqq, List.length_take, List.length_append]; omega
        have hu2 := backN none false q (by omega)
        have hu3 := rBackN none false q (by omega)
        have hvs := fun vs h => (backD_inv q.length q vs h).2.2
        generalize backD q.length q = o at hu2 hu3 hvs
        cases o with
        | none =>
          refine call_sp hu2 ?_
          refine call_p hu3 ?_
          repeat (first | refine guard_t rfl ?_ | refine guard_f (by decide) ?_)
          refine call_p (sameT _ _ _ _ [] (by simp)) ?_
          exact bool_eq rfl
        | some vs =>
          refine call_sp hu2 ?_
          refine call_p hu3 ?_
          repeat (first | refine guard_t rfl ?_ | refine guard_f (by decide) ?_)
          refine call_p (sameT _ _ _ _ vs (by have := hvs vs rfl; omega)) ?_
          exact bool_eq rfl
      | false =>
        refine cond_f rfl ?_
        refine And.intro rfl (And.intro ⟨Int.natCast_nonneg _, by rw [bs_len, List.length_append]; omega⟩ ?_)
        have hkl : k < (p ++ more).length := by rw [List.length_append]; omega
        refine Exists.intro (0 + (k : Int).toNat) (Exists.intro 0 (Exists.intro [.int .u8 (((p ++ more)[k]).toNat : Int)] (And.intro ⟨rfl, by decide, by decide⟩ (And.intro ?_ ?_))))
        · rw [Nat.zero_add, Int.toNat_natCast]; exact bs_get hkl
        have hq : ((((bs (p ++ more)).set (0 + (k : Int).toNat) (splice [AV.int .u8 (((p ++ more)[k]).toNat : Int)] 0 (AV.int .u8 (b.toNat : Int)).strip.cells)).drop 0).take (bs (p ++ more)).length) = bs ((p ++ more).set k b) := by
          rw [Nat.zero_add, Int.toNat_natCast]
          show (((bs (p ++ more)).set k [AV.int .u8 (b.toNat : Int)]).drop 0).take _ = _
          rw [bs_set, List.drop_zero, List.take_of_length_le (by rw [bs_len, bs_len, List.length_set]; exact Nat.le_refl _)]
        have hle : 0 + (bs (p ++ more)).length ≤ ((bs (p ++ more)).set (0 + (k : Int).toNat) (splice [AV.int .u8 (((p ++ more)[k]).toNat : Int)] 0 (AV.int .u8 (b.toNat : Int)).strip.cells)).length := by
          rw [List.length_set]; omega
        refine call_s [(57, .sl 1 none false (bs ((p ++ more).set k b))), (13, .sl 1 none false (bs ((p ++ more).set k b)))] [.ro []] (ShiftS.fz0 _ rfl ⟨wkf_bsl rfl hle hq, wkf_bsl rfl hle hq, trivial⟩) trivial ?_
        generalize hqq : (p ++ more).set k b = q
        have hql : q.length ≤ 20000 := by rw [← hqq, List.length_set, List.length_append]; omega
        have hu2 := backN none false q (by omega)
        have hu3 := rBackN none false q (by omega)
        have hvs := fun vs h => (backD_inv q.length q vs h).2.2
        generalize backD q.length q = o at hu2 hu3 hvs
        cases o with
        | none =>
          refine call_sp hu2 ?_
          refine call_p hu3 ?_
          repeat (first | refine guard_t rfl ?_ | refine guard_f (by decide) ?_)
          refine call_p (sameT _ _ _ _ [] (by simp)) ?_
          exact bool_eq rfl
        | some vs =>
          refine call_sp hu2 ?_
          refine call_p hu3 ?_
          repeat (first | refine guard_t rfl ?_ | refine guard_f (by decide) ?_)
          refine call_p (sameT _ _ _ _ vs (by have := hvs vs rfl; omega)) ?_
          exact bool_eq rfl
    · refine cond_t (decide_eq_true (by rw [bs_len]; omega)) ?_
      refine call_p noughtN ?_
      exact bool_eq rfl
  · refine call_p (smallF _ _ ws hw) ?_
    repeat (first | refine guard_t rfl ?_ | refine guard_f (by decide) ?_)
    refine cond_t rfl ?_
    refine call_p noughtN ?_
    exact bool_eq rfl

end Go.Proofs.YtlhdbbkfibibfaaDoor.V
