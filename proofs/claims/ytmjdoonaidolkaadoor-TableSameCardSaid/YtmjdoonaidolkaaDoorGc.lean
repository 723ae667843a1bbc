/-
  A packed row turned; rows that are alike: the laws TableTurned and TableSame.
-/
import Derived.Test.YtmjdoonaidolkaaDoorGb
import Derived.Test.YtmjdoonaidolkaaDoorFc

/- Tables' keys, and rows' bytes. -/
namespace Go.Proofs.YtmjdoonaidolkaaDoor.V
open Go.IntWalk Go.Lib

def u8of (n : Int) : UInt8 := UInt8.ofNat (n % 256).toNat
theorem u8of_toNat (n : Int) : ((u8of n).toNat : Int) = IntKind.u8.wrap n := by
  rw [w_u8]
  unfold u8of
  simp only [UInt8.toNat_ofNat']
  omega

theorem tKeyN (t : Int) (nl : Option Bool) (own : Bool) (l : List Va) (hl : l.length ≤ 40) (hs : ∀ v, v ∈ l → v.s.length ≤ 200) : PCallN Tryd.prog 17 [.int .i64 t, .sl 3 nl own (l.map Va.c)] (.str (st (u8of t :: keys l))) := by
  refine PCallN.of (tr []) f17 (Nat.le_of_ble_eq_true rfl) (np_cons (.int _ _) (np_cons (np_words _) np_nil)) (.str _) ?_
  have hk := keys_len l hs
  refine call_p (keyN _ _ l hl hs) ?_
  refine And.intro (.inl ⟨rfl, rfl⟩) (And.intro (.inl rfl) (And.intro ?_ ?_))
  · simp only [List.length_cons, List.length_nil, bs_len]; omega
  refine Exists.intro (u8of t :: keys l) (And.intro ?_ rfl)
  rw [← u8of_toNat]
  exact toBytes_bs (u8of t :: keys l)

def encsL (l : List Va) : List UInt8 := (l.map Va.enc).flatten
theorem encsL_app (a b : List Va) : encsL (a ++ b) = encsL a ++ encsL b := by simp [encsL]
def packs (l : List Va) : List UInt8 := u8of l.length :: encsL l

theorem encsL_len : ∀ (l : List Va), (∀ v, v ∈ l → v.s.length ≤ 200) → (encsL l).length ≤ 203 * l.length
  | [], _ => by simp [encsL]
  | v :: l, h => by
    have h1 := enc_len v (h v (by simp))
    have h2 := encsL_len l (fun w hw => h w (by simp [hw]))
    have : encsL (v :: l) = v.enc ++ encsL l := by simp [encsL]
    rw [this, List.length_append, List.length_cons]
    omega

def pkAt (l : List Va) (acc : List UInt8) (i : Int) : List (Nat × AV) := [(3, .sl 1 none true (bs acc)), (10, .sl 3 none false (l.map Va.c)), (11, .int .i64 l.length), (12, .int .i64 i)]

theorem pkLoop (l : List Va) (hl : l.length ≤ 200) (hs : ∀ v, v ∈ l → v.s.length ≤ 200) (R : VE → Sy → Prop) (hR : R (.exit 0) ⟨[], [(3, .sl 1 none true (bs (packs l)))], []⟩) :
    ∀ (g i : Nat), i + g = l.length → VloopS Tryd.prog (tr [2, 3, 16, 19, 21]) 22 0 c28b0 (exW 22 R) ⟨[], pkAt l (u8of l.length :: encsL (l.take i)) i, []⟩
  | 0, i, hg => by
    refine VloopS.round ?_
    refine cond_f (decide_eq_false (by omega)) ?_
    refine ex_w hR rfl ⟨.eq (sl_eq ?_), trivial⟩ rfl
    rw [List.take_of_length_le (by omega)]; rfl
  | g + 1, i, hg => by
    have hlt : i < l.length := by omega
    have hk := encsL_len (l.take i) (fun v hv => hs v (List.mem_of_mem_take hv))
    rw [List.length_take] at hk
    have he := enc_len l[i] (hs _ (List.getElem_mem hlt))
    refine VloopS.round ?_
    refine cond_t (decide_eq_true (by omega)) ?_
    refine And.intro rfl (And.intro (Int.natCast_nonneg i) (Exists.intro l[i].c (And.intro (words_get hlt) ?_)))
    refine call_p (encodeN l[i] (hs _ (List.getElem_mem hlt))) ?_
    refine And.intro (.inl ⟨rfl, rfl⟩) (And.intro (.inl rfl) (And.intro ?_ ?_))
    · simp only [bs_len, List.length_cons]; omega
    refine VloopS.weakBox (l := pkAt l (u8of l.length :: encsL (l.take (i + 1))) ((i + 1 : Nat) : Int)) (h := []) (ex := [.cells l[i].c]) rfl ⟨.eq (sl_eq ?_), .refl _, .refl _, .eq (int_eq ?_), trivial⟩ rfl (Nat.zero_le _) ?_ (by simp) (pkLoop l hl hs R hR g (i + 1) (by omega))
    · rw [take_snoc l i hlt, encsL_app, bs_app]
      simp [encsL]
    · rw [i64_in _ (by omega)]; omega
    · intro p hp
      simp only [pkAt, List.mem_cons, List.not_mem_nil, or_false] at hp
      rcases hp with rfl | rfl | rfl | rfl
      · exact np_bs _
      · exact np_words _
      · exact .int _ _
      · exact .int _ _

theorem packN (nl : Option Bool) (own : Bool) (l : List Va) (hl : l.length ≤ 200) (hs : ∀ v, v ∈ l → v.s.length ≤ 200) : PCallN Tryd.prog 28 [.sl 3 nl own (l.map Va.c)] (.sl 1 none true (bs (packs l))) := by
  refine PCallN.of (tr [2, 3, 16, 19, 21]) f28 (Nat.le_of_ble_eq_true rfl) (np_cons (np_words _) np_nil) (np_bs _) ?_
  refine VloopS.weakE (l := pkAt l (u8of l.length :: encsL (l.take 0)) ((0 : Nat) : Int)) (h := []) rfl ⟨?_, .both _ _ _ _, .eq (int_eq ?_), .refl _, trivial⟩ rfl (Nat.zero_le _) (VloopS.exW (pkLoop l hl hs _ ?_ l.length 0 (by omega)))
  · have e : AV.sl 1 (some false) true [[AV.int .u8 (IntKind.u8.wrap ((l.map Va.c).length : Nat))]] = .sl 1 (some false) true (bs (u8of l.length :: encsL (l.take 0))) := by
      refine sl_eq ?_
      rw [List.length_map, ← u8of_toNat]; rfl
    exact e ▸ Wk.nl _ _ _ _
  · rw [List.length_map]
  · exact sl_eq rfl

end Go.Proofs.YtmjdoonaidolkaaDoor.V

/- The document's examples; the reference's Pack. -/
namespace Go.Proofs.YtmjdoonaidolkaaDoor.V
open Go.IntWalk Go.Lib

def rpkAt (l : List Va) (acc : List UInt8) (i : Int) : List (Nat × AV) := [(0, .sl 3 none false (l.map Va.c)), (3, .sl 1 none false (bs acc)), (4, .int .i64 i)]

theorem rpkLoop (l : List Va) (hl : l.length ≤ 200) (hs : ∀ v, v ∈ l → v.s.length ≤ 200) (R : VE → Sy → Prop) (hR : R (.exit 0) ⟨[], [(3, .sl 1 none false (bs (packs l)))], []⟩) :
    ∀ (g i : Nat), i + g = l.length → VloopS Tryd.prog (tr []) 23 0 c32b0 (exW 23 R) ⟨[], rpkAt l (u8of l.length :: encsL (l.take i)) i, []⟩
  | 0, i, hg => by
    refine VloopS.round ?_
    refine cond_f (decide_eq_false (by rw [List.length_map]; omega)) ?_
    refine ex_w hR rfl ⟨.eq (sl_eq ?_), trivial⟩ rfl
    rw [List.take_of_length_le (by omega)]; rfl
  | g + 1, i, hg => by
    have hlt : i < l.length := by omega
    have hk := encsL_len (l.take i) (fun v hv => hs v (List.mem_of_mem_take hv))
    rw [List.length_take] at hk
    have he := enc_len l[i] (hs _ (List.getElem_mem hlt))
    refine VloopS.round ?_
    refine cond_t (decide_eq_true (by rw [List.length_map]; omega)) ?_
    refine And.intro rfl (And.intro (Int.natCast_nonneg i) (Exists.intro l[i].c (And.intro (words_get hlt) ?_)))
    refine call_p (rEncodeN l[i] (hs _ (List.getElem_mem hlt))) ?_
    refine call_p (joinN _ _ _ _ (u8of l.length :: encsL (l.take i)) l[i].enc (by simp only [List.length_cons]; omega)) ?_
    refine VloopS.weakE (l := rpkAt l (u8of l.length :: encsL (l.take (i + 1))) ((i + 1 : Nat) : Int)) (h := []) rfl ⟨.refl _, .eq (sl_eq ?_), .eq (int_eq ?_), trivial⟩ rfl (Nat.zero_le _) (rpkLoop l hl hs R hR g (i + 1) (by omega))
    · rw [take_snoc l i hlt, encsL_app]
      simp [encsL]
    · rw [i64_in _ (by omega)]; omega

theorem rpackN (nl : Option Bool) (own : Bool) (l : List Va) (hl : l.length ≤ 200) (hs : ∀ v, v ∈ l → v.s.length ≤ 200) : PCallN Tryd.prog 32 [.sl 3 nl own (l.map Va.c)] (.sl 1 none false (bs (packs l))) := by
  refine PCallN.of (tr []) f32 (Nat.le_of_ble_eq_true rfl) (np_cons (np_words _) np_nil) (np_bs _) ?_
  refine VloopS.weakE (l := rpkAt l (u8of l.length :: encsL (l.take 0)) ((0 : Nat) : Int)) (h := []) rfl ⟨.both _ _ _ _, ?_, .eq (int_eq rfl), trivial⟩ rfl (Nat.zero_le _) (VloopS.exW (rpkLoop l hl hs _ ?_ l.length 0 (by omega)))
  · have e : AV.sl 1 (some false) false [[AV.int .u8 (IntKind.u8.wrap ((l.map Va.c).length : Nat))]] = .sl 1 (some false) false (bs (u8of l.length :: encsL (l.take 0))) := by
      refine sl_eq ?_
      rw [List.length_map, ← u8of_toNat]; rfl
    exact e ▸ Wk.nl _ _ _ _
  · exact sl_eq rfl

theorem packNil : PCallN Tryd.prog 28 [.sl 0 (some true) true []] (.sl 1 none true (bs (packs []))) :=
  PCallN.weakArgs (.cons _ _ _ _ (.nil 0 3 true false none (by simp)) .nil) (np_cons np_nilsl np_nil) (packN none false [] (by decide) (by decide))

theorem noughtsN : PCallN Tryd.prog 10 [] (.bool true) := by
  refine PCallN.of (tr []) f10 (Nat.le_of_ble_eq_true rfl) np_nil (.bool _) ?_
  refine call_p (tKeyN 1 _ _ [⟨1, 0, []⟩] (by decide) (by decide)) ?_
  refine call_p packNil ?_
  refine call_p (bytesN _ _ _ _ (packs []) [0] (by decide +kernel)) ?_
  have h1 : packs [] = [0] := by decide +kernel
  refine guard_t (decide_eq_true h1) ?_
  rw [decide_eq_true h1]
  repeat (first | refine guard_t rfl ?_ | refine guard_f (by decide) ?_)
  refine And.intro (by decide +kernel) ?_
  repeat (first | refine guard_t rfl ?_ | refine guard_f (by decide) ?_)
  refine bool_eq ?_
  decide +kernel

end Go.Proofs.YtmjdoonaidolkaaDoor.V

/- Rows' bytes read back: the program's Unpack and the reference's; the law TablePacks. -/
namespace Go.Proofs.YtmjdoonaidolkaaDoor.V
open Go.IntWalk Go.Lib

/-- What so many values and no more are: the values, the error. -/
def unpD : Nat → List UInt8 → List Va × Int
  | 0, q => if q = [] then ([], 0) else ([], 2)
  | n + 1, q => if (dec q).2.2 = 0 then (if (unpD n (dec q).2.1).2 = 0 then ((dec q).1 :: (unpD n (dec q).2.1).1, 0) else ([], (unpD n (dec q).2.1).2)) else ([], (dec q).2.2)

def unp (p : List UInt8) : List Va × Int :=
  match p with
  | [] => ([], 3)
  | a :: q => unpD a.toNat q

def outD (n : Nat) (q : List UInt8) (acc : List Va) : List Va × Int := if (unpD n q).2 = 0 then (acc ++ (unpD n q).1, 0) else ([], (unpD n q).2)

theorem outD_nil (n : Nat) (q : List UInt8) : outD n q [] = unpD n q := by
  unfold outD
  split
  · rename_i h
    rw [List.nil_append, ← h]
  · rename_i h
    cases n with
    | zero =>
      rw [unpD] at h ⊢
      split at h
      · exact absurd rfl h
      · rename_i h0; rw [if_neg h0]
    | succ n =>
      rw [unpD] at h ⊢
      by_cases h1 : (dec q).2.2 = 0
      · rw [if_pos h1] at h ⊢
        by_cases h2 : (unpD n (dec q).2.1).2 = 0
        · rw [if_pos h2] at h; exact absurd rfl h
        · rw [if_neg h2]
      · rw [if_neg h1]

theorem outD_bad {n : Nat} {q : List UInt8} {acc : List Va} (h : (dec q).2.2 ≠ 0) : outD (n + 1) q acc = ([], (dec q).2.2) := by
  unfold outD
  rw [unpD, if_neg h, if_neg h]

theorem outD_ok {n : Nat} {q : List UInt8} {acc : List Va} (h : (dec q).2.2 = 0) : outD (n + 1) q acc = outD n (dec q).2.1 (acc ++ [(dec q).1]) := by
  unfold outD
  rw [unpD, if_pos h]
  by_cases h2 : (unpD n (dec q).2.1).2 = 0
  · rw [if_pos h2, if_pos rfl, if_pos h2]; simp
  · rw [if_neg h2, if_neg h2, if_neg h2]

theorem dec_suf (p : List UInt8) (h : (dec p).2.2 = 0) : (dec p).2.1 = p.drop (decN p) ∧ (dec p).2.1.length < p.length := by
  have key : ∃ k, 1 ≤ k ∧ k ≤ p.length ∧ (dec p).2.1 = p.drop k := by
    unfold dec at h ⊢
    cases p with
    | nil => simp at h
    | cons k r =>
      simp only at h ⊢
      split at h
      · rename_i h0
        exact ⟨1, by simp [h0]⟩
      · split at h
        · split at h
          · simp at h
          · rename_i hk _ hr
            refine ⟨9, by omega, by simp only [List.length_cons]; omega, ?_⟩
            simp [*]
        · split at h
          · rename_i h0 h1 h2
            unfold decT at h ⊢
            rw [if_neg h0, if_neg h1, if_pos h2]
            split at h
            · split at h
              · simp at h
              · split at h
                · simp at h
                · rename_i a b r' _ hr
                  refine ⟨3 + (256 * a.toNat + b.toNat), by omega, by simp only [List.length_cons]; omega, ?_⟩
                  simp only [*, if_false]
                  rw [show 3 + (256 * a.toNat + b.toNat) = (256 * a.toNat + b.toNat) + 2 + 1 by omega]
                  simp
            · simp at h
          · simp at h
  obtain ⟨k, h1, h2, h3⟩ := key
  have hd : decN p = k := by
    rw [decN, if_pos h, h3, List.length_drop]; omega
  rw [hd, h3]
  exact ⟨rfl, by rw [List.length_drop]; omega⟩

theorem wk_both {sz : Nat} {nl : Option Bool} {own : Bool} {xs ys : List (List AV)} (h : xs = ys) : Wk (.sl sz nl own xs) (.sl sz none false ys) := h ▸ .both _ _ _ _

def upAt (N k : Nat) (q : List UInt8) (acc : List Va) : List (Nat × AV) := [(5, .sl 1 none false (bs q)), (6, .sl 3 none true (acc.map Va.c)), (18, .int .u8 N), (19, .int .u8 k)]

theorem upLoop (o : List Va × Int) (R : VE → Sy → Prop) (hN : ∀ e, e ≠ 0 → o = ([], e) → ∀ hb, R .ret ⟨[], [(2, .sl 0 (some true) true []), (3, .int .i64 e)], hb⟩)
    (hS : ∀ q acc, outD 0 q acc = o → R (.exit 0) ⟨[], [(5, .sl 1 none false (bs q)), (6, .sl 3 none true (acc.map Va.c))], []⟩) (N : Nat) (hN5 : N ≤ 255) :
    ∀ (g k : Nat) (q : List UInt8) (acc : List Va), k + g = N → acc.length ≤ k → q.length ≤ 100000 → outD g q acc = o →
      VloopS Tryd.prog (tr [2, 6, 30, 33, 39]) 40 0 c29b0 (exW 40 R) ⟨[], upAt N k q acc, []⟩
  | 0, k, q, acc, hk, ha, hq, ho => by
    refine VloopS.round ?_
    refine cond_f (decide_eq_false (by omega)) ?_
    exact ex_w (hS q acc ho) rfl ⟨.refl _, .refl _, trivial⟩ rfl
  | g + 1, k, q, acc, hk, ha, hq, ho => by
    refine VloopS.round ?_
    refine cond_t (decide_eq_true (by omega)) ?_
    have nN := decodeN none false q hq
    by_cases he : (dec q).2.2 = 0
    · rw [outD_ok he] at ho
      have hl := (dec_suf q he).2
      generalize dec q = y at he nN ho hl
      obtain ⟨v, r, e⟩ := y
      simp only at he ho hl
      subst he
      refine call_p nN ?_
      refine cond_f rfl ?_
      refine And.intro (.inl ⟨rfl, rfl⟩) (And.intro (.inl rfl) (And.intro ?_ ?_))
      · simp only [List.length_map, List.length_cons, List.length_nil]; omega
      refine VloopS.weakBox (l := upAt N (k + 1) r (acc ++ [v])) (h := []) (ex := [.cells v.c]) rfl ⟨.refl _, .eq (sl_eq ?_), .refl _, .eq (int_eq ?_), trivial⟩ rfl (Nat.zero_le _) ?_ (by simp) (upLoop o R hN hS N hN5 g (k + 1) r (acc ++ [v]) (by omega) (by simp only [List.length_append, List.length_cons, List.length_nil]; omega) (by omega) ho)
      · rw [List.map_append]; rfl
      · rw [w_u8]; omega
      · intro p hp
        simp only [upAt, List.mem_cons, List.not_mem_nil, or_false] at hp
        rcases hp with rfl | rfl | rfl | rfl
        · exact np_bs _
        · exact np_words _
        · exact .int _ _
        · exact .int _ _
    · rw [outD_bad he] at ho
      generalize dec q = y at he nN ho
      obtain ⟨v, r, e⟩ := y
      refine call_p nN ?_
      refine cond_t (bne_iff_ne.2 he) ?_
      exact ex_w (hN e he ho.symm _) rfl ⟨.refl _, .refl _, trivial⟩ rfl

def upAV (o : List Va × Int) : AV := .tup [.sl 3 none false (o.1.map Va.c), .int .i64 o.2]

theorem up_np {ok : Nat → Prop} (own : Bool) (vs : List Va) (n : Int) : NP ok (.tup [.sl 3 none own (vs.map Va.c), .int .i64 n]) := .tup _ (np_cons (np_words _) (np_cons (.int _ _) np_nil))

theorem unpackN (nl : Option Bool) (own : Bool) (p : List UInt8) (hp : p.length ≤ 100000) : PCallN Tryd.prog 29 [.sl 1 nl own (bs p)] (upAV (unp p)) := by
  cases p with
  | nil =>
    refine PCallN.weakRet (ret := .tup [.sl 0 (some true) true [], .int .i64 3]) (.tup _ _ (.cons _ _ _ _ (.nil _ _ _ _ _ (by simp)) (.cons _ _ _ _ (.refl _) .nil))) ?_
    refine PCallN.of (tr [2, 6, 30, 33, 39]) f29 (Nat.le_of_ble_eq_true rfl) (np_cons (np_bs _) np_nil) (.tup _ (np_cons np_nilsl (np_cons (.int _ _) np_nil))) ?_
    refine cond_t rfl ?_
    exact tup2 (sl_eq rfl) (int_eq rfl)
  | cons a q =>
    simp only [List.length_cons] at hp
    have ha := a.toNat_lt
    have hty : unp (a :: q) = outD a.toNat q [] := (outD_nil _ _).symm
    rw [hty]
    generalize ho : outD a.toNat q [] = o
    obtain ⟨vs, e⟩ := o
    by_cases he : e = 0
    · subst he
      refine PCallN.weakRet (ret := .tup [.sl 3 none true (vs.map Va.c), .int .i64 0]) (.tup _ _ (.cons _ _ _ _ (.strip _) (.cons _ _ _ _ (.refl _) .nil))) ?_
      refine PCallN.of (tr [2, 6, 30, 33, 39]) f29 (Nat.le_of_ble_eq_true rfl) (np_cons (np_bs _) np_nil) (up_np _ _ _) ?_
      refine cond_f rfl ?_
      refine And.intro rfl (And.intro (by decide) (Exists.intro _ (And.intro (bs_get (l := a :: q) (i := 0) (by simp)) ?_)))
      refine And.intro (.inl rfl) (And.intro ?_ ?_)
      · simp only [bs_len, List.length_cons]; omega
      refine And.intro (by kernel_rfl) ?_
      refine VloopS.weakE (l := upAt a.toNat 0 q []) rfl ⟨wk_both (by simp [bs, List.take_of_length_le]), .nil _ _ _ _ _ (by simp), .eq (int_eq rfl), .eq (int_eq rfl), trivial⟩ rfl (Nat.zero_le _) (VloopS.exW (upLoop (vs, 0) _ ?_ ?_ a.toNat (by omega) a.toNat 0 q [] (by omega) (by simp) (by omega) ho))
      · intro e' he h hb
        cases h
        exact absurd rfl he
      · intro q' acc h
        unfold outD unpD at h
        by_cases hq : q' = []
        · subst hq
          rw [if_pos rfl, if_pos rfl, List.append_nil] at h
          cases h
          refine cond_f rfl ?_
          exact rfl
        · rw [if_neg hq, if_neg (by decide)] at h
          have hl : q'.length ≠ 0 := fun e => hq (List.eq_nil_of_length_eq_zero e)
          cases h
    · have hv : vs = [] := by
        have := congrArg Prod.fst ho
        have h2 := congrArg Prod.snd ho
        unfold outD at this h2
        split at this
        · rename_i h1; rw [if_pos h1] at h2; exact absurd h2.symm he
        · exact this.symm
      subst hv
      refine PCallN.weakRet (ret := .tup [.sl 0 (some true) true [], .int .i64 e]) (.tup _ _ (.cons _ _ _ _ (.nil _ _ _ _ _ (by simp)) (.cons _ _ _ _ (.refl _) .nil))) ?_
      refine PCallN.of (tr [2, 6, 30, 33, 39]) f29 (Nat.le_of_ble_eq_true rfl) (np_cons (np_bs _) np_nil) (.tup _ (np_cons np_nilsl (np_cons (.int _ _) np_nil))) ?_
      refine cond_f rfl ?_
      refine And.intro rfl (And.intro (by decide) (Exists.intro _ (And.intro (bs_get (l := a :: q) (i := 0) (by simp)) ?_)))
      refine And.intro (.inl rfl) (And.intro ?_ ?_)
      · simp only [bs_len, List.length_cons]; omega
      refine And.intro (by kernel_rfl) ?_
      refine VloopS.weakE (l := upAt a.toNat 0 q []) rfl ⟨wk_both (by simp [bs, List.take_of_length_le]), .nil _ _ _ _ _ (by simp), .eq (int_eq rfl), .eq (int_eq rfl), trivial⟩ rfl (Nat.zero_le _) (VloopS.exW (upLoop ([], e) _ ?_ ?_ a.toNat (by omega) a.toNat 0 q [] (by omega) (by simp) (by omega) ho))
      · intro e' he h hb
        cases h
        exact rfl
      · intro q' acc h
        unfold outD unpD at h
        by_cases hq : q' = []
        · subst hq
          rw [if_pos rfl, if_pos rfl, List.append_nil] at h
          cases h; exact absurd rfl he
        · rw [if_neg hq, if_neg (by decide)] at h
          have hl : q'.length ≠ 0 := fun e => hq (List.eq_nil_of_length_eq_zero e)
          cases h
          refine cond_t (decide_eq_true (by rw [bs_len]; omega)) ?_
          exact rfl

/-! ### the reference's -/

def rupAt (p : List UInt8) (at_ : Nat) (k : Nat) (acc : List Va) : List (Nat × AV) := [(0, .sl 1 none false (bs p)), (4, .sl 3 none true (acc.map Va.c)), (5, .int .i64 at_), (6, .int .i64 k)]

theorem rupLoop (a : UInt8) (p : List UInt8) (hp : p.length < 100000) (o : List Va × Int) (R : VE → Sy → Prop) (hN : ∀ e, e ≠ 0 → o = ([], e) → ∀ hb, R .ret ⟨[], [(2, .sl 0 (some true) true []), (3, .int .i64 e)], hb⟩)
    (hS : ∀ (m : Nat) acc, m ≤ p.length → outD 0 (p.drop m) acc = o → R (.exit 0) ⟨[], [(0, .sl 1 none false (bs (a :: p))), (4, .sl 3 none true (acc.map Va.c)), (5, .int .i64 ((m + 1 : Nat) : Int))], []⟩) :
    ∀ (g k m : Nat) (acc : List Va), k + g = a.toNat → acc.length ≤ k → m ≤ p.length → outD g (p.drop m) acc = o →
      VloopS Tryd.prog (tr [2, 4, 32, 35, 43]) 44 0 c30b0 (exW 44 R) ⟨[], rupAt (a :: p) (m + 1) k acc, []⟩
  | 0, k, m, acc, hk, ha, hm, ho => by
    refine VloopS.round ?_
    refine And.intro rfl (And.intro (by decide) (Exists.intro _ (And.intro (bs_get (l := a :: p) (i := 0) (by simp)) ?_)))
    have ha5 := a.toNat_lt
    refine cond_f (decide_eq_false (by show ¬ _ < IntKind.i64.wrap (a.toNat : Int); rw [i64_in _ (by omega)]; omega)) ?_
    exact ex_w (hS m acc hm ho) rfl ⟨.refl _, .refl _, .refl _, trivial⟩ rfl
  | g + 1, k, m, acc, hk, ha, hm, ho => by
    have ha5 := a.toNat_lt
    refine VloopS.round ?_
    refine And.intro rfl (And.intro (by decide) (Exists.intro _ (And.intro (bs_get (l := a :: p) (i := 0) (by simp)) ?_)))
    refine cond_t (decide_eq_true (by show _ < IntKind.i64.wrap (a.toNat : Int); rw [i64_in _ (by omega)]; omega)) ?_
    refine And.intro (.inl rfl) (And.intro ?_ ?_)
    · simp only [bs_len, List.length_cons]; omega
    have nN := rDecodeN none false (p.drop m) (by rw [List.length_drop]; omega)
    have hcut : ((bs (a :: p)).drop ((m + 1 : Nat) : Int).toNat).take ((((bs (a :: p)).length : Nat) : Int).toNat - ((m + 1 : Nat) : Int).toNat) = bs (p.drop m) := by
      rw [bs_drop, bs_take, bs_len]
      simp [List.take_of_length_le]
    by_cases he : (dec (p.drop m)).2.2 = 0
    · rw [outD_ok he] at ho
      obtain ⟨hs, hl⟩ := dec_suf _ he
      rw [hs] at ho
      rw [hs, List.length_drop, List.length_drop] at hl
      rw [List.drop_drop] at ho
      have hd : decN (p.drop m) ≤ p.length - m := by
        rw [decN, if_pos he, List.length_drop]; omega
      generalize decN (p.drop m) = d at nN ho hl hs hd
      generalize dec (p.drop m) = y at he nN ho hs
      obtain ⟨v, r, e⟩ := y
      simp only at he ho
      subst he
      refine call_p (by rw [hcut]; exact nN) ?_
      refine cond_f rfl ?_
      refine And.intro (.inl ⟨rfl, rfl⟩) (And.intro (.inl rfl) (And.intro ?_ ?_))
      · simp only [List.length_map, List.length_cons, List.length_nil]; omega
      refine VloopS.weakBox (l := rupAt (a :: p) (m + d + 1) (k + 1) (acc ++ [v])) (h := []) (ex := [.cells v.c]) rfl ⟨.refl _, .eq (sl_eq ?_), .eq (int_eq ?_), .eq (int_eq ?_), trivial⟩ rfl (Nat.zero_le _) ?_ (by simp) (rupLoop a p hp o R hN hS g (k + 1) (m + d) (acc ++ [v]) (by omega) (by simp only [List.length_append, List.length_cons, List.length_nil]; omega) (by omega) ho)
      · rw [List.map_append]; rfl
      · rw [i64_in _ (by omega)]; omega
      · rw [i64_in _ (by omega)]; omega
      · intro q hq
        simp only [rupAt, List.mem_cons, List.not_mem_nil, or_false] at hq
        rcases hq with rfl | rfl | rfl | rfl
        · exact np_bs _
        · exact np_words _
        · exact .int _ _
        · exact .int _ _
    · rw [outD_bad he] at ho
      generalize decN (p.drop m) = d at nN
      generalize dec (p.drop m) = y at he nN ho
      obtain ⟨v, r, e⟩ := y
      refine call_p (by rw [hcut]; exact nN) ?_
      refine cond_t (bne_iff_ne.2 he) ?_
      exact ex_w (hN e he ho.symm _) rfl ⟨.refl _, .refl _, trivial⟩ rfl

theorem rUnpackN (nl : Option Bool) (own : Bool) (p : List UInt8) (hp : p.length ≤ 100000) : PCallN Tryd.prog 30 [.sl 1 nl own (bs p)] (upAV (unp p)) := by
  cases p with
  | nil =>
    refine PCallN.weakRet (ret := .tup [.sl 0 (some true) true [], .int .i64 3]) (.tup _ _ (.cons _ _ _ _ (.nil _ _ _ _ _ (by simp)) (.cons _ _ _ _ (.refl _) .nil))) ?_
    refine PCallN.of (tr [2, 4, 32, 35, 43]) f30 (Nat.le_of_ble_eq_true rfl) (np_cons (np_bs _) np_nil) (.tup _ (np_cons np_nilsl (np_cons (.int _ _) np_nil))) ?_
    refine cond_t rfl ?_
    exact tup2 (sl_eq rfl) (int_eq rfl)
  | cons a q =>
    simp only [List.length_cons] at hp
    have ha := a.toNat_lt
    have hty : unp (a :: q) = outD a.toNat (q.drop 0) [] := (outD_nil _ _).symm
    rw [hty]
    generalize ho : outD a.toNat (q.drop 0) [] = o
    obtain ⟨vs, e⟩ := o
    by_cases he : e = 0
    · subst he
      refine PCallN.weakRet (ret := .tup [.sl 3 none true (vs.map Va.c), .int .i64 0]) (.tup _ _ (.cons _ _ _ _ (.strip _) (.cons _ _ _ _ (.refl _) .nil))) ?_
      refine PCallN.of (tr [2, 4, 32, 35, 43]) f30 (Nat.le_of_ble_eq_true rfl) (np_cons (np_bs _) np_nil) (up_np _ _ _) ?_
      refine cond_f (decide_eq_false (by rw [bs_len, List.length_cons]; omega)) ?_
      refine VloopS.weakE (l := rupAt (a :: q) (0 + 1) 0 []) rfl ⟨.both _ _ _ _, .nil _ _ _ _ _ (by simp), .eq (int_eq rfl), .eq (int_eq rfl), trivial⟩ rfl (Nat.zero_le _) (VloopS.exW (rupLoop a q (by omega) (vs, 0) _ ?_ ?_ a.toNat 0 0 [] (by omega) (by simp) (by omega) ho))
      · intro e' he h hb
        cases h
        exact absurd rfl he
      · intro m acc hm h
        unfold outD unpD at h
        by_cases hq : q.drop m = []
        · rw [hq, if_pos rfl, if_pos rfl, List.append_nil] at h
          have hl := congrArg List.length hq
          rw [List.length_drop, List.length_nil] at hl
          cases h
          refine cond_f (decide_eq_false (by rw [bs_len, List.length_cons]; omega)) ?_
          exact rfl
        · rw [if_neg hq, if_neg (by decide)] at h
          have hl : q.length - m ≠ 0 := fun e => hq (List.eq_nil_of_length_eq_zero (by rw [List.length_drop]; exact e))
          cases h
    · have hv : vs = [] := by
        have := congrArg Prod.fst ho
        have h2 := congrArg Prod.snd ho
        unfold outD at this h2
        split at this
        · rename_i h1; rw [if_pos h1] at h2; exact absurd h2.symm he
        · exact this.symm
      subst hv
      refine PCallN.weakRet (ret := .tup [.sl 0 (some true) true [], .int .i64 e]) (.tup _ _ (.cons _ _ _ _ (.nil _ _ _ _ _ (by simp)) (.cons _ _ _ _ (.refl _) .nil))) ?_
      refine PCallN.of (tr [2, 4, 32, 35, 43]) f30 (Nat.le_of_ble_eq_true rfl) (np_cons (np_bs _) np_nil) (.tup _ (np_cons np_nilsl (np_cons (.int _ _) np_nil))) ?_
      refine cond_f (decide_eq_false (by rw [bs_len, List.length_cons]; omega)) ?_
      refine VloopS.weakE (l := rupAt (a :: q) (0 + 1) 0 []) rfl ⟨.both _ _ _ _, .nil _ _ _ _ _ (by simp), .eq (int_eq rfl), .eq (int_eq rfl), trivial⟩ rfl (Nat.zero_le _) (VloopS.exW (rupLoop a q (by omega) ([], e) _ ?_ ?_ a.toNat 0 0 [] (by omega) (by simp) (by omega) ho))
      · intro e' he h hb
        cases h
        exact rfl
      · intro m acc hm h
        unfold outD unpD at h
        by_cases hq : q.drop m = []
        · rw [hq, if_pos rfl, if_pos rfl, List.append_nil] at h
          have hl := congrArg List.length hq
          rw [List.length_drop, List.length_nil] at hl
          cases h; exact absurd rfl he
        · rw [if_neg hq, if_neg (by decide)] at h
          have hl : q.length - m ≠ 0 := fun e => hq (List.eq_nil_of_length_eq_zero (by rw [List.length_drop]; exact e))
          cases h
          refine cond_t (decide_eq_true (by rw [bs_len, List.length_cons]; omega)) ?_
          exact rfl

theorem unpD_len : ∀ (n : Nat) (q : List UInt8), (unpD n q).1.length ≤ n
  | 0, q => by unfold unpD; split <;> simp
  | n + 1, q => by
    have ih := unpD_len n (dec q).2.1
    rw [unpD]
    split
    · split
      · simpa using ih
      · simp
    · simp

theorem unp_len (p : List UInt8) : (unp p).1.length ≤ 255 := by
  cases p with
  | nil => decide
  | cons a q =>
    have := unpD_len a.toNat q
    have h := a.toNat_lt
    show (unpD a.toNat q).1.length ≤ 255
    omega

theorem unpD_encs : ∀ l : List Va, (∀ v, v ∈ l → v.right = true ∧ v.ok) → unpD l.length (encsL l) = (l, 0)
  | [], _ => by simp [unpD, encsL]
  | v :: l, h => by
    have e : encsL (v :: l) = v.enc ++ encsL l := by simp [encsL]
    have hd := dec_enc v (h v (by simp)).1 (h v (by simp)).2 (encsL l)
    have ih := unpD_encs l (fun w hw => h w (by simp [hw]))
    rw [e, List.length_cons, unpD, hd]
    simp [ih]

theorem unp_packs (l : List Va) (hl : l.length ≤ 255) (h : ∀ v, v ∈ l → v.right = true ∧ v.ok) : unp (packs l) = (l, 0) := by
  unfold packs unp
  have e : (u8of l.length).toNat = l.length := by
    have := u8of_toNat (l.length : Int)
    rw [w_u8] at this
    omega
  show unpD (u8of l.length).toNat _ = _
  rw [e]
  exact unpD_encs l h

theorem of_vals (ws : List Va) (ok : ∀ w, w ∈ ws → w.ok) : ∀ v, v ∈ ws.map Va.of → v.right = true ∧ v.ok := by
  intro v hv
  obtain ⟨w, hw, rfl⟩ := List.mem_map.1 hv
  exact ⟨of_right w, of_ok w (ok w hw)⟩

theorem tablePacksN (nl nl' : Option Bool) (own own' : Bool) (ws : List Va) (ok : ∀ w, w ∈ ws → w.ok) (p : List UInt8) : PCallN Tryd.prog 7 [.sl 3 nl own (ws.map Va.c), .sl 1 nl' own' (bs p)] (.bool true) := by
  refine PCallN.of (tr []) f7 (Nat.le_of_ble_eq_true rfl) (np_cons (np_words _) (np_cons (np_bs _) np_nil)) (.bool _) ?_
  refine call_p noughtsN ?_
  repeat (first | refine guard_t rfl ?_ | refine guard_f (by decide) ?_)
  by_cases hw : ws.length ≤ 20
  · have h1 : decide ((((ws.map Va.c).length : Nat) : Int) > 20) = false := decide_eq_false (by rw [List.length_map]; omega)
    refine guard_t h1 ?_
    rw [h1]
    repeat (first | refine guard_t rfl ?_ | refine guard_f (by decide) ?_)
    by_cases hp : p.length ≤ 100
    · refine cond_f (decide_eq_false (by rw [bs_len]; omega)) ?_
      refine call_p (valuesN _ _ ws (by omega)) ?_
      have lv : (ws.map Va.of).length ≤ 20 := by rw [List.length_map]; exact hw
      have sv := of_small ws
      have rv := of_vals ws ok
      generalize ws.map Va.of = l at lv sv rv ⊢
      refine call_p (packN _ _ l (by omega) sv) ?_
      have hk := encsL_len l sv
      have hpl : (packs l).length ≤ 10000 := by rw [packs, List.length_cons]; omega
      have hu := unpackN none false (packs l) (by omega)
      rw [unp_packs l (by omega) rv] at hu
      refine call_p hu ?_
      have hu2 := unpackN nl' false p (by omega)
      have hu3 := rUnpackN nl' false p (by omega)
      have hvs : (unp p).1.length ≤ 1000000 := by have := unp_len p; omega
      generalize unp p = o at hu2 hu3 hvs
      obtain ⟨vs, e⟩ := o
      refine call_p hu2 ?_
      refine call_p hu3 ?_
      refine call_p (rpackN _ _ l (by omega) sv) ?_
      refine call_p (bytesN _ _ _ _ (packs l) (packs l) (by omega)) ?_
      rw [decide_eq_true rfl]
      repeat (first | refine guard_t rfl ?_ | refine guard_f (by decide) ?_)
      refine call_p (sameT _ _ _ _ l (by omega)) ?_
      repeat (first | refine guard_t rfl ?_ | refine guard_f (by decide) ?_)
      refine guard_t (beq_self_eq_true e) ?_
      repeat (first | refine guard_t rfl ?_ | refine guard_f (by decide) ?_)
      refine call_p (sameT _ _ _ _ vs hvs) ?_
      exact bool_eq rfl
    · refine cond_t (decide_eq_true (by rw [bs_len]; omega)) ?_
      refine call_p noughtsN ?_
      exact bool_eq rfl
  · have h1 : decide ((((ws.map Va.c).length : Nat) : Int) > 20) = true := decide_eq_true (by rw [List.length_map]; omega)
    refine guard_f (by rw [h1]; decide) ?_
    repeat (first | refine guard_t rfl ?_ | refine guard_f (by decide) ?_)
    refine cond_t rfl ?_
    refine call_p noughtsN ?_
    exact bool_eq rfl

end Go.Proofs.YtmjdoonaidolkaaDoor.V

/- Rows that are alike; keys split; the law TableKeys. -/
namespace Go.Proofs.YtmjdoonaidolkaaDoor.V
open Go.IntWalk Go.Lib

def eqAt (a b : List Va) (i : Nat) : List (Nat × AV) := [(1, .sl 3 none false (b.map Va.c)), (2, .func 40 []), (15, .sl 3 none false (a.map Va.c)), (16, .int .i64 a.length), (17, .int .i64 i)]

theorem eq_np (a b : List Va) (i : Nat) : ∀ p, p ∈ eqAt a b i → NP (fun i => i < ([] : List HObj).length) p.2 := by
  intro p hp
  simp only [eqAt, List.mem_cons, List.not_mem_nil, or_false] at hp
  rcases hp with rfl | rfl | rfl | rfl | rfl
  · exact np_words _
  · exact .func _ _ (by simp)
  · exact np_words _
  · exact .int _ _
  · exact .int _ _

theorem eqLoop (a b : List Va) (hab : a.length = b.length) (hl : a.length ≤ 1000000) (R : VE → Sy → Prop) (hT : a = b → R (.exit 0) ⟨[], [], []⟩) (hF : a ≠ b → ∀ hb, R .ret ⟨[], [(6, .bool false)], hb⟩) :
    ∀ (g i : Nat), i + g = a.length → a.take i = b.take i → VloopS Tryd.prog (tr []) 32 0 c39b0 (exW 32 R) ⟨[], eqAt a b i, []⟩
  | 0, i, hg, he => by
    have e : a = b := by
      rw [List.take_of_length_le (by omega), List.take_of_length_le (by omega)] at he
      exact he
    refine VloopS.round ?_
    refine cond_f (decide_eq_false (by omega)) ?_
    exact ex_w (hT e) rfl trivial rfl
  | g + 1, i, hg, he => by
    have hlt : i < a.length := by omega
    have hlb : i < b.length := by omega
    refine VloopS.round ?_
    refine cond_t (decide_eq_true (by omega)) ?_
    refine And.intro rfl (And.intro (Int.natCast_nonneg i) (Exists.intro a[i].c (And.intro (words_get hlt) ?_)))
    refine And.intro rfl (And.intro (Int.natCast_nonneg i) (Exists.intro b[i].c (And.intro (words_get hlb) ?_)))
    refine call_p (sameN a[i] b[i]) ?_
    by_cases h : a[i] = b[i]
    · refine cond_f (by rw [decide_eq_true h]; rfl) ?_
      refine VloopS.weakBox (l := eqAt a b (i + 1)) (h := []) (ex := [.cells a[i].c, .cells b[i].c]) rfl ⟨.refl _, .refl _, .refl _, .refl _, .eq (int_eq ?_), trivial⟩ rfl (Nat.zero_le _) (eq_np a b (i + 1)) (by simp)
        (eqLoop a b hab hl R hT hF g (i + 1) (by omega) (by rw [take_snoc a i hlt, take_snoc b i hlb, he, h]))
      rw [i64_in _ (by omega)]; omega
    · refine cond_t (by rw [decide_eq_false h]; rfl) ?_
      exact ex_w (hF (fun e => h (by subst e; rfl)) _) rfl ⟨.refl _, trivial⟩ rfl

theorem np_ww40 {ok : Nat → Prop} {sz sz' : Nat} {nl nl' : Option Bool} {own own' : Bool} (a b : List Va) (f : Nat) : ∀ x, x ∈ [AV.sl sz nl own (a.map Va.c), AV.sl sz' nl' own' (b.map Va.c), .func f []] → NP ok x := np_cons (np_words _) (np_cons (np_words _) (np_cons (.func _ _ (by simp)) np_nil))

theorem eqFuncN (nl nl' : Option Bool) (own own' : Bool) (a b : List Va) (hl : a.length ≤ 1000000) : PCallN Tryd.prog 39 [.sl 3 nl own (a.map Va.c), .sl 3 nl' own' (b.map Va.c), .func 40 []] (.bool (decide (a = b))) := by
  refine PCallN.of (tr []) f39 (Nat.le_of_ble_eq_true rfl) (np_ww40 _ _ _) (.bool _) ?_
  by_cases hab : a.length = b.length
  · refine cond_f (by rw [List.length_map, List.length_map, hab]; exact bne_self_eq_false _) ?_
    refine VloopS.weakE (l := eqAt a b 0) rfl ⟨.both _ _ _ _, .refl _, .both _ _ _ _, .eq (int_eq (by rw [List.length_map])), .eq (int_eq rfl), trivial⟩ rfl (Nat.zero_le _) (VloopS.exW (eqLoop a b hab hl _ ?_ ?_ a.length 0 (by omega) rfl))
    · intro e
      exact bool_eq (decide_eq_true e).symm
    · intro e hb
      exact bool_eq (decide_eq_false e).symm
  · have hne : a ≠ b := fun e => hab (by rw [e])
    refine cond_t (by rw [List.length_map, List.length_map]; exact bne_iff_ne.2 (by omega)) ?_
    exact bool_eq (decide_eq_false hne).symm

theorem tSameN (nl nl' : Option Bool) (own own' : Bool) (a b : List Va) (hl : a.length ≤ 1000000) : PCallN Tryd.prog 19 [.sl 3 nl own (a.map Va.c), .sl 3 nl' own' (b.map Va.c)] (.bool (decide (a = b))) := by
  refine PCallN.of (tr []) f19 (Nat.le_of_ble_eq_true rfl) (np_ww _ _) (.bool _) ?_
  refine call_p (eqFuncN _ _ _ _ a b hl) ?_
  exact bool_eq rfl

/-! ### keys split -/

def splD (l : List UInt8) : Int × List Va × Int :=
  match l with
  | [] => (0, [], 3)
  | b :: q => match backD q.length q with
    | none => (0, [], 2)
    | some vs => (b.toNat, vs, 0)

def splAV (x : Int × List Va × Int) : AV := .tup [.int .i64 x.1, .sl 3 none false (x.2.1.map Va.c), .int .i64 x.2.2]

theorem spl_np {ok : Nat → Prop} (n : Int) (nl : Option Bool) (own : Bool) (vs : List Va) (e : Int) : NP ok (.tup [.int .i64 n, .sl 3 nl own (vs.map Va.c), .int .i64 e]) := .tup _ (np_cons (.int _ _) (np_cons (np_words _) (np_cons (.int _ _) np_nil)))

theorem spl_bad {n e : Int} {f : Nat} {args : List AV} (h : PCallN Tryd.prog f args (.tup [.int .i64 n, .sl 0 (some true) false [], .int .i64 e])) : PCallN Tryd.prog f args (splAV (n, [], e)) :=
  h.weakRet (.tup _ _ (.cons _ _ _ _ (.refl _) (.cons _ _ _ _ (.nil _ _ _ _ _ (by simp)) (.cons _ _ _ _ (.refl _) .nil))))

theorem splitN (l : List UInt8) (hl : l.length ≤ 100000) : PCallN Tryd.prog 34 [.str (st l)] (splAV (splD l)) := by
  cases l with
  | nil =>
    refine spl_bad ?_
    refine PCallN.of (tr []) f34 (Nat.le_of_ble_eq_true rfl) (np_cons (.str _) np_nil) (.tup _ (np_cons (.int _ _) (np_cons np_nilsl (np_cons (.int _ _) np_nil)))) ?_
    refine cond_t (by decide +kernel) ?_
    exact tup3 (int_eq rfl) (sl_eq rfl) (int_eq rfl)
  | cons b q =>
    simp only [List.length_cons] at hl
    have hne : ((st (b :: q)).toList == (⟨#[]⟩ : ByteArray).toList) = false := by
      have := st_beq (b :: q) []
      rw [decide_eq_false (by simp)] at this
      exact this
    have hb := backN (some false) false q (by omega)
    have hcut : (st (b :: q)).extract (1 : Int).toNat (((st (b :: q)).size : Int)).toNat = st q := by
      rw [st_cut, st_size]
      simp
    unfold splD
    simp only
    generalize backD q.length q = o at hb
    cases o with
    | none =>
      refine spl_bad ?_
      refine PCallN.of (tr []) f34 (Nat.le_of_ble_eq_true rfl) (np_cons (.str _) np_nil) (.tup _ (np_cons (.int _ _) (np_cons np_nilsl (np_cons (.int _ _) np_nil)))) ?_
      refine cond_f hne ?_
      refine And.intro ⟨by decide, by rw [st_size, List.length_cons]; omega, Int.le_refl _⟩ ?_
      refine call_p (by rw [hcut, bs_st]; exact hb) ?_
      refine cond_t rfl ?_
      exact tup3 (int_eq rfl) (sl_eq rfl) (int_eq rfl)
    | some vs =>
      refine PCallN.of (tr []) f34 (Nat.le_of_ble_eq_true rfl) (np_cons (.str _) np_nil) (spl_np _ _ _ _ _) ?_
      refine cond_f hne ?_
      refine And.intro ⟨by decide, by rw [st_size, List.length_cons]; omega, Int.le_refl _⟩ ?_
      refine call_p (by rw [hcut, bs_st]; exact hb) ?_
      refine cond_f rfl ?_
      refine And.intro (by decide) (Exists.intro b (And.intro rfl ?_))
      have hb5 := b.toNat_lt
      exact tup3 (int_eq (i64_in _ (by omega))) (sl_eq rfl) (int_eq rfl)

theorem rtKeyN (t : Int) (nl : Option Bool) (own : Bool) (l : List Va) (hl : l.length ≤ 40) (hs : ∀ v, v ∈ l → v.s.length ≤ 200) (hr : ∀ v, v ∈ l → v.right = true ∧ v.ok) : PCallN Tryd.prog 16 [.int .i64 t, .sl 3 nl own (l.map Va.c)] (.str (st (u8of t :: keys l))) := by
  refine PCallN.of (tr []) f16 (Nat.le_of_ble_eq_true rfl) (np_cons (.int _ _) (np_cons (np_words _) np_nil)) (.str _) ?_
  have hk := keys_len l hs
  refine call_p (keyRefN _ _ l hl hs hr) ?_
  refine call_p (ret := .sl 1 none true (bs (u8of t :: keys l))) (by
    have := joinN (some false) none true true [u8of t] (keys l) (by simp only [List.length_cons, List.length_nil]; omega)
    have e : bs [u8of t] = [[AV.int .u8 (IntKind.u8.wrap t)]] := by rw [← u8of_toNat]; rfl
    rw [e] at this
    exact this) ?_
  exact Exists.intro (u8of t :: keys l) (And.intro (toBytes_bs _) rfl)

theorem backD_len : ∀ (n : Nat) (q : List UInt8) (vs : List Va), backD n q = some vs → vs.length ≤ q.length := fun n q vs h => (backD_inv n q vs h).2.2

theorem u8of_u8 (t : UInt8) : (u8of (IntKind.i64.wrap (t.toNat : Int))).toNat = t.toNat := by
  have h5 := t.toNat_lt
  have := u8of_toNat (IntKind.i64.wrap (t.toNat : Int))
  rw [i64_in _ (by omega), w_u8] at this
  rw [i64_in _ (by omega)]
  omega

theorem tableKeysN (t : UInt8) (nl nl' : Option Bool) (own own' : Bool) (ws : List Va) (ok : ∀ w, w ∈ ws → w.ok) (p : List UInt8) : PCallN Tryd.prog 9 [.int .u8 t.toNat, .sl 3 nl own (ws.map Va.c), .sl 1 nl' own' (bs p)] (.bool true) := by
  refine PCallN.of (tr []) f9 (Nat.le_of_ble_eq_true rfl) (np_cons (.int _ _) (np_cons (np_words _) (np_cons (np_bs _) np_nil))) (.bool _) ?_
  refine call_p noughtsN ?_
  repeat (first | refine guard_t rfl ?_ | refine guard_f (by decide) ?_)
  by_cases hw : ws.length ≤ 10
  · have h1 : decide ((((ws.map Va.c).length : Nat) : Int) > 10) = false := decide_eq_false (by rw [List.length_map]; omega)
    refine guard_t h1 ?_
    rw [h1]
    repeat (first | refine guard_t rfl ?_ | refine guard_f (by decide) ?_)
    by_cases hp : p.length ≤ 60
    · refine cond_f (decide_eq_false (by rw [bs_len]; omega)) ?_
      refine call_p (valuesN _ _ ws (by omega)) ?_
      have lv : (ws.map Va.of).length ≤ 10 := by rw [List.length_map]; exact hw
      have sv := of_small ws
      have rv := of_vals ws ok
      generalize ws.map Va.of = l at lv sv rv ⊢
      have hk := keys_len l sv
      refine call_p (tKeyN _ _ _ l (by omega) sv) ?_
      have hs := splitN (u8of (IntKind.i64.wrap (t.toNat : Int)) :: keys l) (by rw [List.length_cons]; omega)
      have hd : splD (u8of (IntKind.i64.wrap (t.toNat : Int)) :: keys l) = ((t.toNat : Int), l, 0) := by
        unfold splD
        simp only
        rw [backD_keys l rv _ (Nat.le_refl _)]
        simp only [u8of_u8]
      rw [hd] at hs
      refine call_p hs ?_
      have ht5 := t.toNat_lt
      have hti : ((t.toNat : Int) == IntKind.i64.wrap (t.toNat : Int)) = true := by rw [i64_in _ (by omega)]; exact beq_self_eq_true _
      refine Exists.intro p (And.intro (toBytes_bs p) ?_)
      cases p with
      | nil =>
        refine call_p (splitN [] (by simp)) ?_
        refine cond_t rfl ?_
        repeat (first | refine guard_t rfl ?_ | refine guard_f (by decide) ?_)
        refine call_p (rtKeyN _ _ _ l (by omega) sv rv) ?_
        repeat (first | refine guard_t rfl ?_ | refine guard_f (by decide) ?_)
        refine guard_t (beq_self_eq_true _) ?_
        repeat (first | refine guard_t rfl ?_ | refine guard_f (by decide) ?_)
        refine guard_t hti ?_
        repeat (first | refine guard_t rfl ?_ | refine guard_f (by decide) ?_)
        refine call_p (sameT _ _ _ _ l (by omega)) ?_
        exact bool_eq rfl
      | cons b q =>
        simp only [List.length_cons] at hp
        have hrb := rBackN nl' false q (by omega)
        have hsp := splitN (b :: q) (by simp only [List.length_cons]; omega)
        have hcut : ((bs (b :: q)).drop (1 : Int).toNat).take ((((bs (b :: q)).length : Nat) : Int).toNat - (1 : Int).toNat) = bs q := by
          rw [bs_len]
          simp [bs, List.take_of_length_le]
        have hb5 := b.toNat_lt
        have hbl := backD_len q.length q
        unfold splD at hsp
        simp only at hsp
        generalize backD q.length q = o at hbl hrb hsp
        cases o with
        | none =>
          change PCallN Tryd.prog 34 [.str (st (b :: q))] (splAV (0, [], 2)) at hsp
          refine call_p hsp ?_
          refine cond_f (beq_eq_false_iff_ne.2 (by rw [bs_len, List.length_cons]; omega)) ?_
          refine And.intro (.inl rfl) (And.intro ⟨by decide, by rw [bs_len, List.length_cons]; omega, Int.le_refl _⟩ ?_)
          refine call_p (by rw [hcut]; exact hrb) ?_
          refine call_p (rtKeyN _ _ _ l (by omega) sv rv) ?_
          refine guard_t (beq_self_eq_true _) ?_
          repeat (first | refine guard_t rfl ?_ | refine guard_f (by decide) ?_)
          refine guard_t hti ?_
          repeat (first | refine guard_t rfl ?_ | refine guard_f (by decide) ?_)
          refine call_p (sameT _ _ _ _ l (by omega)) ?_
          repeat (first | refine guard_t rfl ?_ | refine guard_f (by decide) ?_)
          refine call_p (tSameN _ _ _ _ l l (by omega)) ?_
          rw [decide_eq_true rfl]
          repeat (first | refine guard_t rfl ?_ | refine guard_f (by decide) ?_)
          refine call_p (sameT _ _ _ _ [] (by simp)) ?_
          repeat (first | refine guard_t rfl ?_ | refine guard_f (by decide) ?_)
          exact bool_eq rfl
        | some vs =>
          change PCallN Tryd.prog 34 [.str (st (b :: q))] (splAV ((b.toNat : Int), vs, 0)) at hsp
          refine call_p hsp ?_
          refine cond_f (beq_eq_false_iff_ne.2 (by rw [bs_len, List.length_cons]; omega)) ?_
          refine And.intro (.inl rfl) (And.intro ⟨by decide, by rw [bs_len, List.length_cons]; omega, Int.le_refl _⟩ ?_)
          refine call_p (by rw [hcut]; exact hrb) ?_
          refine call_p (rtKeyN _ _ _ l (by omega) sv rv) ?_
          refine guard_t (beq_self_eq_true _) ?_
          repeat (first | refine guard_t rfl ?_ | refine guard_f (by decide) ?_)
          refine guard_t hti ?_
          repeat (first | refine guard_t rfl ?_ | refine guard_f (by decide) ?_)
          refine call_p (sameT _ _ _ _ l (by omega)) ?_
          repeat (first | refine guard_t rfl ?_ | refine guard_f (by decide) ?_)
          refine call_p (tSameN _ _ _ _ l l (by omega)) ?_
          rw [decide_eq_true rfl]
          repeat (first | refine guard_t rfl ?_ | refine guard_f (by decide) ?_)
          refine call_p (sameT _ _ _ _ vs (by have := hbl vs rfl; omega)) ?_
          repeat (first | refine guard_t rfl ?_ | refine guard_f (by decide) ?_)
          refine And.intro rfl (And.intro (by decide) (Exists.intro _ (And.intro (bs_get (l := b :: q) (i := 0) (by simp)) ?_)))
          repeat (first | refine guard_t rfl ?_ | refine guard_f (by decide) ?_)
          refine bool_eq ?_
          show ((b.toNat : Int) == IntKind.i64.wrap (b.toNat : Int)) = true
          rw [i64_in _ (by omega)]
          exact beq_self_eq_true _
    · refine cond_t (decide_eq_true (by rw [bs_len]; omega)) ?_
      refine call_p noughtsN ?_
      exact bool_eq rfl
  · have h1 : decide ((((ws.map Va.c).length : Nat) : Int) > 10) = true := decide_eq_true (by rw [List.length_map]; omega)
    refine guard_f (by rw [h1]; decide) ?_
    repeat (first | refine guard_t rfl ?_ | refine guard_f (by decide) ?_)
    refine cond_t rfl ?_
    refine call_p noughtsN ?_
    exact bool_eq rfl

end Go.Proofs.YtmjdoonaidolkaaDoor.V

/- A packed row turned; rows that are alike: the laws TableTurned and TableSame. -/
namespace Go.Proofs.YtmjdoonaidolkaaDoor.V
open Go.IntWalk Go.Lib

theorem wkf_bsl {B : Nat → Option (Nat × List (List AV))} {sz id off len : Nat} {xs ys : List (List AV)} (hB : B id = some (sz, xs)) (hle : off + len ≤ xs.length) (h : (xs.drop off).take len = ys) : WkF B (.bsl sz id off len) (.sl sz none false ys) :=
  .bsl sz id off len xs ys none hB hle (by simp) (by rw [h]) (by rw [h]; exact WkFL.of _)

theorem bs_set (q : List UInt8) (k : Nat) (b : UInt8) : (bs q).set k [.int .u8 b.toNat] = bs (q.set k b) := by
  unfold bs
  rw [List.map_set]

theorem tableTurnedN (nl nl' : Option Bool) (own own' : Bool) (ws : List Va) (_ok : ∀ w, w ∈ ws → w.ok) (at_ : Nat) (hat : at_ < 65536) (b : UInt8) (cut : Bool) (more : List UInt8) :
    PCallN Tryd.prog 8 [.sl 3 nl own (ws.map Va.c), .int .u16 at_, .int .u8 b.toNat, .bool cut, .sl 1 nl' own' (bs more)] (.bool true) := by
  refine PCallN.of (tr [2000041]) f8 (Nat.le_of_ble_eq_true rfl) (np_cons (np_words _) (np_cons (.int _ _) (np_cons (.int _ _) (np_cons (.bool _) (np_cons (np_bs _) np_nil))))) (.bool _) ?_
  refine call_p noughtsN ?_
  repeat (first | refine guard_t rfl ?_ | refine guard_f (by decide) ?_)
  by_cases hw : ws.length ≤ 10
  · have h1 : decide ((((ws.map Va.c).length : Nat) : Int) > 10) = false := decide_eq_false (by rw [List.length_map]; omega)
    refine guard_t h1 ?_
    rw [h1]
    repeat (first | refine guard_t rfl ?_ | refine guard_f (by decide) ?_)
    by_cases hp : more.length ≤ 10
    · refine cond_f (decide_eq_false (by rw [bs_len]; omega)) ?_
      refine call_p (valuesN _ _ ws (by omega)) ?_
      have lv : (ws.map Va.of).length ≤ 10 := by rw [List.length_map]; exact hw
      have sv := of_small ws
      generalize ws.map Va.of = l at lv sv ⊢
      refine call_p (rpackN _ _ l (by omega) sv) ?_
      have hk := encsL_len l sv
      have hp0 : 0 < (packs l).length := by rw [packs, List.length_cons]; omega
      have hpl : (packs l).length ≤ 10000 := by rw [packs, List.length_cons]; omega
      generalize packs l = p at hp0 hpl ⊢
      refine And.intro (by rw [bs_len]; omega) ?_
      have hw16 : IntKind.i64.wrap (at_ : Int) = at_ := i64_in _ (by omega)
      have hmod : (IntKind.i64.wrap (at_ : Int)).tmod (((bs p).length : Nat) : Int) = ((at_ % p.length : Nat) : Int) := by
        rw [hw16, bs_len, Int.tmod_eq_emod_of_nonneg (by omega)]
        omega
      have hlt : at_ % p.length < p.length := Nat.mod_lt _ hp0
      rw [hmod]
      generalize at_ % p.length = k at hlt ⊢
      refine call_p ((joinN none nl' false false p more (by omega)).thaw rfl (by rw [bs_len, List.length_append]; omega) (bs_flat _)) ?_
      cases cut with
      | true =>
        refine cond_t rfl ?_
        refine And.intro rfl (And.intro ⟨Int.le_refl _, Int.natCast_nonneg _, by rw [bs_len, List.length_append]; omega⟩ ?_)
        have hq : ((bs (p ++ more)).drop (0 + (0 : Int).toNat)).take ((k : Int).toNat - (0 : Int).toNat) = bs ((p ++ more).take k) := by
          simp [bs_take]
        refine call_s [(51, .sl 1 none false (bs ((p ++ more).take k))), (13, .sl 1 none false (bs ((p ++ more).take k)))] [.ro []] (ShiftS.fz0 _ rfl ⟨wkf_bsl rfl (by rw [bs_len, List.length_append]; simp; omega) hq, wkf_bsl rfl (by rw [bs_len, List.length_append]; simp; omega) hq, trivial⟩) trivial ?_
        generalize hqq : (p ++ more).take k = q
        have hql : q.length ≤ 20000 := by rw [← hqq, List.length_take, List.length_append]; omega
        have hu2 := unpackN none false q (by omega)
        have hu3 := rUnpackN none false q (by omega)
        have hvs : (unp q).1.length ≤ 1000000 := by have := unp_len q; omega
        generalize unp q = o at hu2 hu3 hvs
        obtain ⟨vs, e⟩ := o
        refine call_sp hu2 ?_
        refine call_p hu3 ?_
        refine guard_t (beq_self_eq_true e) ?_
        repeat (first | refine guard_t rfl ?_ | refine guard_f (by decide) ?_)
        refine call_p (sameT _ _ _ _ vs hvs) ?_
        exact bool_eq rfl
      | false =>
        refine cond_f rfl ?_
        refine And.intro rfl (And.intro ⟨Int.natCast_nonneg _, by rw [bs_len, List.length_append]; omega⟩ ?_)
        have hkl : k < (p ++ more).length := by rw [List.length_append]; omega
        refine Exists.intro (0 + (k : Int).toNat) (Exists.intro 0 (Exists.intro [.int .u8 (((p ++ more)[k]).toNat : Int)] (And.intro ⟨rfl, by decide, by decide⟩ (And.intro ?_ ?_))))
        · rw [Nat.zero_add, Int.toNat_natCast]; exact bs_get hkl
        have hq : ((((bs (p ++ more)).set (0 + (k : Int).toNat) (splice [AV.int .u8 (((p ++ more)[k]).toNat : Int)] 0 (AV.int .u8 (b.toNat : Int)).strip.cells)).drop 0).take (bs (p ++ more)).length) = bs ((p ++ more).set k b) := by
          rw [Nat.zero_add, Int.toNat_natCast]
          show (((bs (p ++ more)).set k [AV.int .u8 (b.toNat : Int)]).drop 0).take _ = _
          rw [bs_set, List.drop_zero, List.take_of_length_le (by rw [bs_len, bs_len, List.length_set]; exact Nat.le_refl _)]
        have hle : 0 + (bs (p ++ more)).length ≤ ((bs (p ++ more)).set (0 + (k : Int).toNat) (splice [AV.int .u8 (((p ++ more)[k]).toNat : Int)] 0 (AV.int .u8 (b.toNat : Int)).strip.cells)).length := by
          rw [List.length_set]; omega
        refine call_s [(51, .sl 1 none false (bs ((p ++ more).set k b))), (13, .sl 1 none false (bs ((p ++ more).set k b)))] [.ro []] (ShiftS.fz0 _ rfl ⟨wkf_bsl rfl hle hq, wkf_bsl rfl hle hq, trivial⟩) trivial ?_
        generalize hqq : (p ++ more).set k b = q
        have hql : q.length ≤ 20000 := by rw [← hqq, List.length_set, List.length_append]; omega
        have hu2 := unpackN none false q (by omega)
        have hu3 := rUnpackN none false q (by omega)
        have hvs : (unp q).1.length ≤ 1000000 := by have := unp_len q; omega
        generalize unp q = o at hu2 hu3 hvs
        obtain ⟨vs, e⟩ := o
        refine call_sp hu2 ?_
        refine call_p hu3 ?_
        refine guard_t (beq_self_eq_true e) ?_
        repeat (first | refine guard_t rfl ?_ | refine guard_f (by decide) ?_)
        refine call_p (sameT _ _ _ _ vs hvs) ?_
        exact bool_eq rfl
    · refine cond_t (decide_eq_true (by rw [bs_len]; omega)) ?_
      refine call_p noughtsN ?_
      exact bool_eq rfl
  · have h1 : decide ((((ws.map Va.c).length : Nat) : Int) > 10) = true := decide_eq_true (by rw [List.length_map]; omega)
    refine guard_f (by rw [h1]; decide) ?_
    repeat (first | refine guard_t rfl ?_ | refine guard_f (by decide) ?_)
    refine cond_t rfl ?_
    refine call_p noughtsN ?_
    exact bool_eq rfl

/-! ### rows that are alike -/

def smlAt (a b : List Va) (i : Nat) : List (Nat × AV) := [(0, .sl 3 none false (a.map Va.c)), (1, .sl 3 none false (b.map Va.c)), (5, .int .i64 i)]

theorem smlLoop (a b : List Va) (hab : a.length = b.length) (hl : a.length ≤ 1000000) (R : VE → Sy → Prop) (hT : a = b → R (.exit 0) ⟨[], [], []⟩) (hF : a ≠ b → ∀ hb, R .ret ⟨[], [(4, .bool false)], hb⟩) :
    ∀ (g i : Nat), i + g = a.length → a.take i = b.take i → VloopS Tryd.prog (tr []) 26 0 c20b0 (exW 26 R) ⟨[], smlAt a b i, []⟩
  | 0, i, hg, he => by
    have e : a = b := by
      rw [List.take_of_length_le (by omega), List.take_of_length_le (by omega)] at he
      exact he
    refine VloopS.round ?_
    refine cond_f (decide_eq_false (by rw [List.length_map]; omega)) ?_
    exact ex_w (hT e) rfl trivial rfl
  | g + 1, i, hg, he => by
    have hlt : i < a.length := by omega
    have hlb : i < b.length := by omega
    refine VloopS.round ?_
    refine cond_t (decide_eq_true (by rw [List.length_map]; omega)) ?_
    refine And.intro rfl (And.intro (Int.natCast_nonneg i) (Exists.intro a[i].c (And.intro (words_get hlt) ?_)))
    refine And.intro rfl (And.intro (Int.natCast_nonneg i) (Exists.intro b[i].c (And.intro (words_get hlb) ?_)))
    refine And.intro (by kernel_rfl) ?_
    by_cases h : a[i] = b[i]
    · refine cond_f (by show (!(_ && (_ && (_ && true)))) = false; rw [va_beq, decide_eq_true h]; rfl) ?_
      refine VloopS.weakE (l := smlAt a b (i + 1)) (h := []) rfl ⟨.refl _, .refl _, .eq (int_eq ?_), trivial⟩ rfl (Nat.zero_le _) (smlLoop a b hab hl R hT hF g (i + 1) (by omega) (by rw [take_snoc a i hlt, take_snoc b i hlb, he, h]))
      rw [i64_in _ (by omega)]; omega
    · refine cond_t (by show (!(_ && (_ && (_ && true)))) = true; rw [va_beq, decide_eq_false h]; rfl) ?_
      exact ex_w (hF (fun e => h (by subst e; rfl)) _) rfl ⟨.refl _, trivial⟩ rfl

theorem sameLN (nl nl' : Option Bool) (own own' : Bool) (a b : List Va) (hl : a.length ≤ 1000000) : PCallN Tryd.prog 20 [.sl 3 nl own (a.map Va.c), .sl 3 nl' own' (b.map Va.c)] (.bool (decide (a = b))) := by
  refine PCallN.of (tr []) f20 (Nat.le_of_ble_eq_true rfl) (np_ww _ _) (.bool _) ?_
  by_cases hab : a.length = b.length
  · refine cond_f (by rw [List.length_map, List.length_map, hab]; exact bne_self_eq_false _) ?_
    refine VloopS.weakE (l := smlAt a b 0) rfl ⟨.both _ _ _ _, .both _ _ _ _, .eq (int_eq rfl), trivial⟩ rfl (Nat.zero_le _) (VloopS.exW (smlLoop a b hab hl _ ?_ ?_ a.length 0 (by omega) rfl))
    · intro e
      exact bool_eq (decide_eq_true e).symm
    · intro e hb
      exact bool_eq (decide_eq_false e).symm
  · have hne : a ≠ b := fun e => hab (by rw [e])
    refine cond_t (by rw [List.length_map, List.length_map]; exact bne_iff_ne.2 (by omega)) ?_
    exact bool_eq (decide_eq_false hne).symm

theorem wrap_ne (n : Int) : IntKind.i64.wrap (n + 1) ≠ n := by
  simp [IntKind.wrap, IntKind.bits, IntKind.signed]
  omega

theorem words_len3 (l : List Va) : ∀ x, x ∈ l.map Va.c → x.length = 3 := by
  intro x hx
  obtain ⟨v, _, rfl⟩ := List.mem_map.1 hx
  rfl

theorem words_set (l : List Va) (k : Nat) (v : Va) : (l.map Va.c).set k v.c = (l.set k v).map Va.c := by rw [List.map_set]

theorem tableSameN (nl nl' : Option Bool) (own own' : Bool) (a b : List Va) (at_ : UInt8) : PCallN Tryd.prog 4 [.sl 3 nl own (a.map Va.c), .sl 3 nl' own' (b.map Va.c), .int .u8 at_.toNat] (.bool true) := by
  have hnp : ∀ x, x ∈ [AV.sl 3 nl own (a.map Va.c), .sl 3 nl' own' (b.map Va.c), .int .u8 at_.toNat] → NP (fun _ => False) x := np_cons (np_words _) (np_cons (np_words _) (np_cons (.int _ _) np_nil))
  by_cases hw : a.length ≤ 10
  · have h1 : decide ((((a.map Va.c).length : Nat) : Int) > 10) = false := decide_eq_false (by rw [List.length_map]; omega)
    by_cases hb : b.length ≤ 10
    · have h2 : decide ((((b.map Va.c).length : Nat) : Int) > 10) = false := decide_eq_false (by rw [List.length_map]; omega)
      have lv : (a.map Va.of).length ≤ 10 := by rw [List.length_map]; exact hw
      have lb : (b.map Va.of).length ≤ 10 := by rw [List.length_map]; exact hb
      have va := valuesN nl false a (by omega)
      have vb := valuesN nl' false b (by omega)
      generalize a.map Va.of = x at lv va
      generalize b.map Va.of = y at lb vb
      cases x with
      | nil =>
        refine PCallN.of (tr []) f4 (Nat.le_of_ble_eq_true rfl) hnp (.bool _) ?_
        refine call_p noughtsN ?_
        repeat (first | refine guard_t rfl ?_ | refine guard_f (by decide) ?_)
        refine guard_t h1 ?_
        rw [h1]
        repeat (first | refine guard_t rfl ?_ | refine guard_f (by decide) ?_)
        refine cond_f h2 ?_
        refine call_p va ?_
        refine call_p vb ?_
        refine And.intro (.inr ⟨rfl, rfl⟩) (And.intro (.inl rfl) (And.intro (by simp) ?_))
        refine cond_t rfl ?_
        refine call_p (PCallN.weakArgs (.cons _ _ _ _ (.refl _) (.cons _ _ _ _ (.nil 0 3 true false none (by simp)) .nil)) (np_cons (np_words []) (np_cons np_nilsl np_nil)) (tSameN none none false false [] [] (by simp))) ?_
        repeat (first | refine guard_t rfl ?_ | refine guard_f (by decide) ?_)
        refine call_p (tSameN none none false false [] y (by simp)) ?_
        repeat (first | refine guard_t rfl ?_ | refine guard_f (by decide) ?_)
        refine bool_eq ?_
        cases y with
        | nil => rfl
        | cons v r =>
          rw [decide_eq_false (by simp)]
          rw [List.length_map]
          have : (((v :: r).length : Int) == 0) = false := beq_eq_false_iff_ne.2 (by rw [List.length_cons]; omega)
          rw [this]
          rfl
      | cons v0 r0 =>
        have hx0 : 0 < (v0 :: r0).length := by simp
        have hxd : (v0 :: r0) ≠ (v0 :: r0).drop 1 := fun e => by
          have := congrArg List.length e
          rw [List.length_drop] at this
          omega
        generalize v0 :: r0 = x at hx0 hxd lv va
        refine PCallN.of (tr [1000028, 2000028]) f4 (Nat.le_of_ble_eq_true rfl) hnp (.bool _) ?_
        refine call_p noughtsN ?_
        repeat (first | refine guard_t rfl ?_ | refine guard_f (by decide) ?_)
        refine guard_t h1 ?_
        rw [h1]
        repeat (first | refine guard_t rfl ?_ | refine guard_f (by decide) ?_)
        refine cond_f h2 ?_
        refine call_p va ?_
        refine call_p vb ?_
        refine And.intro rfl (And.intro (.inl rfl) (And.intro (by rw [List.length_map]; exact hx0) (And.intro (by rw [List.length_map]; omega) ?_)))
        refine cond_f (beq_eq_false_iff_ne.2 (by rw [List.length_map]; omega)) ?_
        refine And.intro (by rw [List.length_map]; omega) ?_
        have ha5 := at_.toNat_lt
        have hmod : (IntKind.i64.wrap (at_.toNat : Int)).tmod (((x.map Va.c).length : Nat) : Int) = ((at_.toNat % x.length : Nat) : Int) := by
          rw [i64_in _ (by omega), List.length_map, Int.tmod_eq_emod_of_nonneg (by omega)]
          omega
        have hlt : at_.toNat % x.length < x.length := Nat.mod_lt _ hx0
        rw [hmod]
        generalize at_.toNat % x.length = k at hlt ⊢
        refine And.intro rfl (And.intro ⟨Int.natCast_nonneg _, by rw [List.length_map]; omega⟩ ?_)
        refine Exists.intro (0 + (k : Int).toNat) (Exists.intro 1 (Exists.intro x[k].c (And.intro ⟨rfl, rfl, words_len3 x⟩ (And.intro ?_ ?_))))
        · rw [Nat.zero_add, Int.toNat_natCast]; exact words_get hlt
        refine And.intro rfl (And.intro ⟨Int.natCast_nonneg _, by rw [List.length_map]; omega⟩ ?_)
        refine Exists.intro (0 + (k : Int).toNat) (Exists.intro 1 (Exists.intro x[k].c (And.intro ⟨rfl, by decide, by decide⟩ (And.intro ?_ ?_))))
        · rw [Nat.zero_add, Int.toNat_natCast]; exact words_get hlt
        refine call_p (tSameN _ _ _ _ x x (by omega)) ?_
        rw [decide_eq_true rfl]
        repeat (first | refine guard_t rfl ?_ | refine guard_f (by decide) ?_)
        refine call_p (tSameN _ _ _ _ x y (by omega)) ?_
        repeat (first | refine guard_t rfl ?_ | refine guard_f (by decide) ?_)
        refine call_p (sameLN _ _ _ _ x y (by omega)) ?_
        repeat (first | refine guard_t rfl ?_ | refine guard_f (by decide) ?_)
        refine guard_t (beq_self_eq_true _) ?_
        repeat (first | refine guard_t rfl ?_ | refine guard_f (by decide) ?_)
        have hz : ((((x.map Va.c).set (0 + (k : Int).toNat) (splice x[k].c 1 (AV.int .i64 (IntKind.i64.wrap (x[k].n + 1))).strip.cells)).drop 0).take (x.map Va.c).length) = (x.set k ⟨x[k].k, IntKind.i64.wrap (x[k].n + 1), x[k].s⟩).map Va.c := by
          rw [Nat.zero_add, Int.toNat_natCast]
          show ((((x.map Va.c).set k (Va.c ⟨x[k].k, IntKind.i64.wrap (x[k].n + 1), x[k].s⟩)).drop 0).take (x.map Va.c).length) = _
          rw [words_set, List.drop_zero, List.take_of_length_le (by rw [List.length_map, List.length_map, List.length_set]; exact Nat.le_refl _)]
        have hle : 0 + (x.map Va.c).length ≤ ((x.map Va.c).set (0 + (k : Int).toNat) (splice x[k].c 1 (AV.int .i64 (IntKind.i64.wrap (x[k].n + 1))).strip.cells)).length := by
          rw [List.length_set]; omega
        refine call_s [(67, .bool true), (68, .sl 3 none false (x.map Va.c)), (69, .sl 3 none false ((x.set k ⟨x[k].k, IntKind.i64.wrap (x[k].n + 1), x[k].s⟩).map Va.c)), (7, .sl 3 none false (x.map Va.c))] [.ro []]
          (ShiftS.fz0 _ rfl ⟨.wk _ _ (.refl _), .wk _ _ (.refl _), wkf_bsl rfl hle hz, .wk _ _ (.refl _), trivial⟩) rfl ?_
        have hne : x ≠ x.set k ⟨x[k].k, IntKind.i64.wrap (x[k].n + 1), x[k].s⟩ := by
          intro e
          have h3 := congrArg (fun l => l[k]?) e
          simp only [List.getElem?_eq_getElem hlt, List.getElem?_set_self hlt, Option.some.injEq] at h3
          have h4 := congrArg Va.n h3
          exact wrap_ne _ h4.symm
        refine call_sp (tSameN none none false false x _ (by omega)) ?_
        rw [decide_eq_false hne]
        repeat (first | refine guard_t rfl ?_ | refine guard_f (by decide) ?_)
        refine And.intro (.inl rfl) (And.intro ⟨by decide, by rw [List.length_map]; omega, Int.le_refl _⟩ ?_)
        repeat (first | refine guard_t rfl ?_ | refine guard_f (by decide) ?_)
        have hcut : ((x.map Va.c).drop (1 : Int).toNat).take ((((x.map Va.c).length : Nat) : Int).toNat - (1 : Int).toNat) = (x.drop 1).map Va.c := by
          rw [List.map_drop, List.length_map]
          exact List.take_of_length_le (by simp)
        refine call_p (by rw [hcut]; exact tSameN none none false false x (x.drop 1) (by omega)) ?_
        rw [decide_eq_false hxd]
        repeat (first | refine guard_t rfl ?_ | refine guard_f (by decide) ?_)
        exact bool_eq rfl
    · refine PCallN.of (tr []) f4 (Nat.le_of_ble_eq_true rfl) hnp (.bool _) ?_
      refine call_p noughtsN ?_
      repeat (first | refine guard_t rfl ?_ | refine guard_f (by decide) ?_)
      refine guard_t h1 ?_
      rw [h1]
      repeat (first | refine guard_t rfl ?_ | refine guard_f (by decide) ?_)
      refine cond_t (decide_eq_true (by rw [List.length_map]; omega)) ?_
      refine call_p noughtsN ?_
      exact bool_eq rfl
  · have h1 : decide ((((a.map Va.c).length : Nat) : Int) > 10) = true := decide_eq_true (by rw [List.length_map]; omega)
    refine PCallN.of (tr []) f4 (Nat.le_of_ble_eq_true rfl) hnp (.bool _) ?_
    refine call_p noughtsN ?_
    repeat (first | refine guard_t rfl ?_ | refine guard_f (by decide) ?_)
    refine guard_f (by rw [h1]; decide) ?_
    repeat (first | refine guard_t rfl ?_ | refine guard_f (by decide) ?_)
    refine cond_t rfl ?_
    refine call_p noughtsN ?_
    exact bool_eq rfl

end Go.Proofs.YtmjdoonaidolkaaDoor.V
