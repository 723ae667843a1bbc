/-
  A row's key: the law TableRows.
-/
import Derived.Test.YtmjdoonaidolkaaDoorGb
import Derived.Test.YtmjdoonaidolkaaDoorFc

/- Tables' keys, and rows' bytes. -/
namespace Go.Proofs.YtmjdoonaidolkaaDoor.V
open Go.IntWalk Go.Lib

def u8of (n : Int) : UInt8 := UInt8.ofNat (n % 256).toNat
theorem u8of_toNat (n : Int) : ((u8of n).toNat : Int) = IntKind.u8.wrap n := by
  rw [w_u8]
  unfold u8of
  simp only [UInt8.toNat_ofNat']
  omega

theorem tKeyN (t : Int) (nl : Option Bool) (own : Bool) (l : List Va) (hl : l.length ≤ 40) (hs : ∀ v, v ∈ l → v.s.length ≤ 200) : PCallN Tryd.prog 17 [.int .i64 t, .sl 3 nl own (l.map Va.c)] (.str (st (u8of t :: keys l))) := by
  refine PCallN.of (tr []) f17 (Nat.le_of_ble_eq_true rfl) (np_cons (.int _ _) (np_cons (np_words _) np_nil)) (.str _) ?_
  have hk := keys_len l hs
  refine call_p (keyN _ _ l hl hs) ?_
  refine And.intro (.inl ⟨rfl, rfl⟩) (And.intro (.inl rfl) (And.intro ?_ ?_))
  · simp only [List.length_cons, List.length_nil, bs_len]; omega
  refine Exists.intro (u8of t :: keys l) (And.intro ?_ rfl)
  rw [← u8of_toNat]
  exact toBytes_bs (u8of t :: keys l)

def encsL (l : List Va) : List UInt8 := (l.map Va.enc).flatten
theorem encsL_app (a b : List Va) : encsL (a ++ b) = encsL a ++ encsL b := by simp [encsL]
def packs (l : List Va) : List UInt8 := u8of l.length :: encsL l

theorem encsL_len : ∀ (l : List Va), (∀ v, v ∈ l → v.s.length ≤ 200) → (encsL l).length ≤ 203 * l.length
  | [], _ => by simp [encsL]
  | v :: l, h => by
    have h1 := enc_len v (h v (by simp))
    have h2 := encsL_len l (fun w hw => h w (by simp [hw]))
    have : encsL (v :: l) = v.enc ++ encsL l := by simp [encsL]
    rw [this, List.length_append, List.length_cons]
    omega

def pkAt (l : List Va) (acc : List UInt8) (i : Int) : List (Nat × AV) := [(3, .sl 1 none true (bs acc)), (10, .sl 3 none false (l.map Va.c)), (11, .int .i64 l.length), (12, .int .i64 i)]

theorem pkLoop (l : List Va) (hl : l.length ≤ 200) (hs : ∀ v, v ∈ l → v.s.length ≤ 200) (R : VE → Sy → Prop) (hR : R (.exit 0) ⟨[], [(3, .sl 1 none true (bs (packs l)))], []⟩) :
    ∀ (g i : Nat), i + g = l.length → VloopS Tryd.prog (tr [2, 3, 16, 19, 21]) 22 0 c28b0 (exW 22 R) ⟨[], pkAt l (u8of l.length :: encsL (l.take i)) i, []⟩
  | 0, i, hg => by
    refine VloopS.round ?_
    refine cond_f (decide_eq_false (by omega)) ?_
    refine ex_w hR rfl ⟨.eq (sl_eq ?_), trivial⟩ rfl
    rw [List.take_of_length_le (by omega)]; rfl
  | g + 1, i, hg => by
    have hlt : i < l.length := by omega
    have hk := encsL_len (l.take i) (fun v hv => hs v (List.mem_of_mem_take hv))
    rw [List.length_take] at hk
    have he := enc_len l[i] (hs _ (List.getElem_mem hlt))
    refine VloopS.round ?_
    refine cond_t (decide_eq_true (by omega)) ?_
    refine And.intro rfl (And.intro (Int.natCast_nonneg i) (Exists.intro l[i].c (And.intro (words_get hlt) ?_)))
    refine call_p (encodeN l[i] (hs _ (List.getElem_mem hlt))) ?_
    refine And.intro (.inl ⟨rfl, rfl⟩) (And.intro (.inl rfl) (And.intro ?_ ?_))
    · simp only [bs_len, List.length_cons]; omega
    refine VloopS.weakBox (l := pkAt l (u8of l.length :: encsL (l.take (i + 1))) ((i + 1 : Nat) : Int)) (h := []) (ex := [.cells l[i].c]) rfl ⟨.eq (sl_eq ?_), .refl _, .refl _, .eq (int_eq ?_), trivial⟩ rfl (Nat.zero_le _) ?_ (by simp) (pkLoop l hl hs R hR g (i + 1) (by omega))
    · rw [take_snoc l i hlt, encsL_app, bs_app]
      simp [encsL]
    · rw [i64_in _ (by omega)]; omega
    · intro p hp
      simp only [pkAt, List.mem_cons, List.not_mem_nil, or_false] at hp
      rcases hp with rfl | rfl | rfl | rfl
      · exact np_bs _
      · exact np_words _
      · exact .int _ _
      · exact .int _ _

theorem packN (nl : Option Bool) (own : Bool) (l : List Va) (hl : l.length ≤ 200) (hs : ∀ v, v ∈ l → v.s.length ≤ 200) : PCallN Tryd.prog 28 [.sl 3 nl own (l.map Va.c)] (.sl 1 none true (bs (packs l))) := by
  refine PCallN.of (tr [2, 3, 16, 19, 21]) f28 (Nat.le_of_ble_eq_true rfl) (np_cons (np_words _) np_nil) (np_bs _) ?_
  refine VloopS.weakE (l := pkAt l (u8of l.length :: encsL (l.take 0)) ((0 : Nat) : Int)) (h := []) rfl ⟨?_, .both _ _ _ _, .eq (int_eq ?_), .refl _, trivial⟩ rfl (Nat.zero_le _) (VloopS.exW (pkLoop l hl hs _ ?_ l.length 0 (by omega)))
  · have e : AV.sl 1 (some false) true [[AV.int .u8 (IntKind.u8.wrap ((l.map Va.c).length : Nat))]] = .sl 1 (some false) true (bs (u8of l.length :: encsL (l.take 0))) := by
      refine sl_eq ?_
      rw [List.length_map, ← u8of_toNat]; rfl
    exact e ▸ Wk.nl _ _ _ _
  · rw [List.length_map]
  · exact sl_eq rfl

end Go.Proofs.YtmjdoonaidolkaaDoor.V

/- The document's examples; the reference's Pack. -/
namespace Go.Proofs.YtmjdoonaidolkaaDoor.V
open Go.IntWalk Go.Lib

def rpkAt (l : List Va) (acc : List UInt8) (i : Int) : List (Nat × AV) := [(0, .sl 3 none false (l.map Va.c)), (3, .sl 1 none false (bs acc)), (4, .int .i64 i)]

theorem rpkLoop (l : List Va) (hl : l.length ≤ 200) (hs : ∀ v, v ∈ l → v.s.length ≤ 200) (R : VE → Sy → Prop) (hR : R (.exit 0) ⟨[], [(3, .sl 1 none false (bs (packs l)))], []⟩) :
    ∀ (g i : Nat), i + g = l.length → VloopS Tryd.prog (tr []) 23 0 c32b0 (exW 23 R) ⟨[], rpkAt l (u8of l.length :: encsL (l.take i)) i, []⟩
  | 0, i, hg => by
    refine VloopS.round ?_
    refine cond_f (decide_eq_false (by rw [List.length_map]; omega)) ?_
    refine ex_w hR rfl ⟨.eq (sl_eq ?_), trivial⟩ rfl
    rw [List.take_of_length_le (by omega)]; rfl
  | g + 1, i, hg => by
    have hlt : i < l.length := by omega
    have hk := encsL_len (l.take i) (fun v hv => hs v (List.mem_of_mem_take hv))
    rw [List.length_take] at hk
    have he := enc_len l[i] (hs _ (List.getElem_mem hlt))
    refine VloopS.round ?_
    refine cond_t (decide_eq_true (by rw [List.length_map]; omega)) ?_
    refine And.intro rfl (And.intro (Int.natCast_nonneg i) (Exists.intro l[i].c (And.intro (words_get hlt) ?_)))
    refine call_p (rEncodeN l[i] (hs _ (List.getElem_mem hlt))) ?_
    refine call_p (joinN _ _ _ _ (u8of l.length :: encsL (l.take i)) l[i].enc (by simp only [List.length_cons]; omega)) ?_
    refine VloopS.weakE (l := rpkAt l (u8of l.length :: encsL (l.take (i + 1))) ((i + 1 : Nat) : Int)) (h := []) rfl ⟨.refl _, .eq (sl_eq ?_), .eq (int_eq ?_), trivial⟩ rfl (Nat.zero_le _) (rpkLoop l hl hs R hR g (i + 1) (by omega))
    · rw [take_snoc l i hlt, encsL_app]
      simp [encsL]
    · rw [i64_in _ (by omega)]; omega

theorem rpackN (nl : Option Bool) (own : Bool) (l : List Va) (hl : l.length ≤ 200) (hs : ∀ v, v ∈ l → v.s.length ≤ 200) : PCallN Tryd.prog 32 [.sl 3 nl own (l.map Va.c)] (.sl 1 none false (bs (packs l))) := by
  refine PCallN.of (tr []) f32 (Nat.le_of_ble_eq_true rfl) (np_cons (np_words _) np_nil) (np_bs _) ?_
  refine VloopS.weakE (l := rpkAt l (u8of l.length :: encsL (l.take 0)) ((0 : Nat) : Int)) (h := []) rfl ⟨.both _ _ _ _, ?_, .eq (int_eq rfl), trivial⟩ rfl (Nat.zero_le _) (VloopS.exW (rpkLoop l hl hs _ ?_ l.length 0 (by omega)))
  · have e : AV.sl 1 (some false) false [[AV.int .u8 (IntKind.u8.wrap ((l.map Va.c).length : Nat))]] = .sl 1 (some false) false (bs (u8of l.length :: encsL (l.take 0))) := by
      refine sl_eq ?_
      rw [List.length_map, ← u8of_toNat]; rfl
    exact e ▸ Wk.nl _ _ _ _
  · exact sl_eq rfl

theorem packNil : PCallN Tryd.prog 28 [.sl 0 (some true) true []] (.sl 1 none true (bs (packs []))) :=
  PCallN.weakArgs (.cons _ _ _ _ (.nil 0 3 true false none (by simp)) .nil) (np_cons np_nilsl np_nil) (packN none false [] (by decide) (by decide))

theorem noughtsN : PCallN Tryd.prog 10 [] (.bool true) := by
  refine PCallN.of (tr []) f10 (Nat.le_of_ble_eq_true rfl) np_nil (.bool _) ?_
  refine call_p (tKeyN 1 _ _ [⟨1, 0, []⟩] (by decide) (by decide)) ?_
  refine call_p packNil ?_
  refine call_p (bytesN _ _ _ _ (packs []) [0] (by decide +kernel)) ?_
  have h1 : packs [] = [0] := by decide +kernel
  refine guard_t (decide_eq_true h1) ?_
  rw [decide_eq_true h1]
  repeat (first | refine guard_t rfl ?_ | refine guard_f (by decide) ?_)
  refine And.intro (by decide +kernel) ?_
  repeat (first | refine guard_t rfl ?_ | refine guard_f (by decide) ?_)
  refine bool_eq ?_
  decide +kernel

end Go.Proofs.YtmjdoonaidolkaaDoor.V

/- Rows' bytes read back: the program's Unpack and the reference's; the law TablePacks. -/
namespace Go.Proofs.YtmjdoonaidolkaaDoor.V
open Go.IntWalk Go.Lib

/-- What so many values and no more are: the values, the error. -/
def unpD : Nat → List UInt8 → List Va × Int
  | 0, q => if q = [] then ([], 0) else ([], 2)
  | n + 1, q => if (dec q).2.2 = 0 then (if (unpD n (dec q).2.1).2 = 0 then ((dec q).1 :: (unpD n (dec q).2.1).1, 0) else ([], (unpD n (dec q).2.1).2)) else ([], (dec q).2.2)

def unp (p : List UInt8) : List Va × Int :=
  match p with
  | [] => ([], 3)
  | a :: q => unpD a.toNat q

def outD (n : Nat) (q : List UInt8) (acc : List Va) : List Va × Int := if (unpD n q).2 = 0 then (acc ++ (unpD n q).1, 0) else ([], (unpD n q).2)

theorem outD_nil (n : Nat) (q : List UInt8) : outD n q [] = unpD n q := by
  unfold outD
  split
  · rename_i h
    rw [List.nil_append, ← h]
  · rename_i h
    cases n with
    | zero =>
      rw [unpD] at h ⊢
      split at h
      · exact absurd rfl h
      · rename_i h0; rw [if_neg h0]
    | succ n =>
      rw [unpD] at h ⊢
      by_cases h1 : (dec q).2.2 = 0
      · rw [if_pos h1] at h ⊢
        by_cases h2 : (unpD n (dec q).2.1).2 = 0
        · rw [if_pos h2] at h; exact absurd rfl h
        · rw [if_neg h2]
      · rw [if_neg h1]

theorem outD_bad {n : Nat} {q : List UInt8} {acc : List Va} (h : (dec q).2.2 ≠ 0) : outD (n + 1) q acc = ([], (dec q).2.2) := by
  unfold outD
  rw [unpD, if_neg h, if_neg h]

theorem outD_ok {n : Nat} {q : List UInt8} {acc : List Va} (h : (dec q).2.2 = 0) : outD (n + 1) q acc = outD n (dec q).2.1 (acc ++ [(dec q).1]) := by
  unfold outD
  rw [unpD, if_pos h]
  by_cases h2 : (unpD n (dec q).2.1).2 = 0
  · rw [if_pos h2, if_pos rfl, if_pos h2]; simp
  · rw [if_neg h2, if_neg h2, if_neg h2]

theorem dec_suf (p : List UInt8) (h : (dec p).2.2 = 0) : (dec p).2.1 = p.drop (decN p) ∧ (dec p).2.1.length < p.length := by
  have key : ∃ k, 1 ≤ k ∧ k ≤ p.length ∧ (dec p).2.1 = p.drop k := by
    unfold dec at h ⊢
    cases p with
    | nil => simp at h
    | cons k r =>
      simp only at h ⊢
      split at h
      · rename_i h0
        exact ⟨1, by simp [h0]⟩
      · split at h
        · split at h
          · simp at h
          · rename_i hk _ hr
            refine ⟨9, by omega, by simp only [List.length_cons]; omega, ?_⟩
            simp [*]
        · split at h
          · rename_i h0 h1 h2
            unfold decT at h ⊢
            rw [if_neg h0, if_neg h1, if_pos h2]
            split at h
            · split at h
              · simp at h
              · split at h
                · simp at h
                · rename_i a b r' _ hr
                  refine ⟨3 + (256 * a.toNat + b.toNat), by omega, by simp only [List.length_cons]; omega, ?_⟩
                  simp only [*, if_false]
                  rw [show 3 + (256 * a.toNat + b.toNat) = (256 * a.toNat + b.toNat) + 2 + 1 by omega]
                  simp
            · simp at h
          · simp at h
  obtain ⟨k, h1, h2, h3⟩ := key
  have hd : decN p = k := by
    rw [decN, if_pos h, h3, List.length_drop]; omega
  rw [hd, h3]
  exact ⟨rfl, by rw [List.length_drop]; omega⟩

theorem wk_both {sz : Nat} {nl : Option Bool} {own : Bool} {xs ys : List (List AV)} (h : xs = ys) : Wk (.sl sz nl own xs) (.sl sz none false ys) := h ▸ .both _ _ _ _

def upAt (N k : Nat) (q : List UInt8) (acc : List Va) : List (Nat × AV) := [(5, .sl 1 none false (bs q)), (6, .sl 3 none true (acc.map Va.c)), (18, .int .u8 N), (19, .int .u8 k)]

theorem upLoop (o : List Va × Int) (R : VE → Sy → Prop) (hN : ∀ e, e ≠ 0 → o = ([], e) → ∀ hb, R .ret ⟨[], [(2, .sl 0 (some true) true []), (3, .int .i64 e)], hb⟩)
    (hS : ∀ q acc, outD 0 q acc = o → R (.exit 0) ⟨[], [(5, .sl 1 none false (bs q)), (6, .sl 3 none true (acc.map Va.c))], []⟩) (N : Nat) (hN5 : N ≤ 255) :
    ∀ (g k : Nat) (q : List UInt8) (acc : List Va), k + g = N → acc.length ≤ k → q.length ≤ 100000 → outD g q acc = o →
      VloopS Tryd.prog (tr [2, 6, 30, 33, 39]) 40 0 c29b0 (exW 40 R) ⟨[], upAt N k q acc, []⟩
  | 0, k, q, acc, hk, ha, hq, ho => by
    refine VloopS.round ?_
    refine cond_f (decide_eq_false (by omega)) ?_
    exact ex_w (hS q acc ho) rfl ⟨.refl _, .refl _, trivial⟩ rfl
  | g + 1, k, q, acc, hk, ha, hq, ho => by
    refine VloopS.round ?_
    refine cond_t (decide_eq_true (by omega)) ?_
    have nN := decodeN none false q hq
    by_cases he : (dec q).2.2 = 0
    · rw [outD_ok he] at ho
      have hl := (dec_suf q he).2
      generalize dec q = y at he nN ho hl
      obtain ⟨v, r, e⟩ := y
      simp only at he ho hl
      subst he
      refine call_p nN ?_
      refine cond_f rfl ?_
      refine And.intro (.inl ⟨rfl, rfl⟩) (And.intro (.inl rfl) (And.intro ?_ ?_))
      · simp only [List.length_map, List.length_cons, List.length_nil]; omega
      refine VloopS.weakBox (l := upAt N (k + 1) r (acc ++ [v])) (h := []) (ex := [.cells v.c]) rfl ⟨.refl _, .eq (sl_eq ?_), .refl _, .eq (int_eq ?_), trivial⟩ rfl (Nat.zero_le _) ?_ (by simp) (upLoop o R hN hS N hN5 g (k + 1) r (acc ++ [v]) (by omega) (by simp only [List.length_append, List.length_cons, List.length_nil]; omega) (by omega) ho)
      · rw [List.map_append]; rfl
      · rw [w_u8]; omega
      · intro p hp
        simp only [upAt, List.mem_cons, List.not_mem_nil, or_false] at hp
        rcases hp with rfl | rfl | rfl | rfl
        · exact np_bs _
        · exact np_words _
        · exact .int _ _
        · exact .int _ _
    · rw [outD_bad he] at ho
      generalize dec q = y at he nN ho
      obtain ⟨v, r, e⟩ := y
      refine call_p nN ?_
      refine cond_t (bne_iff_ne.2 he) ?_
      exact ex_w (hN e he ho.symm _) rfl ⟨.refl _, .refl _, trivial⟩ rfl

def upAV (o : List Va × Int) : AV := .tup [.sl 3 none false (o.1.map Va.c), .int .i64 o.2]

theorem up_np {ok : Nat → Prop} (own : Bool) (vs : List Va) (n : Int) : NP ok (.tup [.sl 3 none own (vs.map Va.c), .int .i64 n]) := .tup _ (np_cons (np_words _) (np_cons (.int _ _) np_nil))

theorem unpackN (nl : Option Bool) (own : Bool) (p : List UInt8) (hp : p.length ≤ 100000) : PCallN Tryd.prog 29 [.sl 1 nl own (bs p)] (upAV (unp p)) := by
  cases p with
  | nil =>
    refine PCallN.weakRet (ret := .tup [.sl 0 (some true) true [], .int .i64 3]) (.tup _ _ (.cons _ _ _ _ (.nil _ _ _ _ _ (by simp)) (.cons _ _ _ _ (.refl _) .nil))) ?_
    refine PCallN.of (tr [2, 6, 30, 33, 39]) f29 (Nat.le_of_ble_eq_true rfl) (np_cons (np_bs _) np_nil) (.tup _ (np_cons np_nilsl (np_cons (.int _ _) np_nil))) ?_
    refine cond_t rfl ?_
    exact tup2 (sl_eq rfl) (int_eq rfl)
  | cons a q =>
    simp only [List.length_cons] at hp
    have ha := a.toNat_lt
    have hty : unp (a :: q) = outD a.toNat q [] := (outD_nil _ _).symm
    rw [hty]
    generalize ho : outD a.toNat q [] = o
    obtain ⟨vs, e⟩ := o
    by_cases he : e = 0
    · subst he
      refine PCallN.weakRet (ret := .tup [.sl 3 none true (vs.map Va.c), .int .i64 0]) (.tup _ _ (.cons _ _ _ _ (.strip _) (.cons _ _ _ _ (.refl _) .nil))) ?_
      refine PCallN.of (tr [2, 6, 30, 33, 39]) f29 (Nat.le_of_ble_eq_true rfl) (np_cons (np_bs _) np_nil) (up_np _ _ _) ?_
      refine cond_f rfl ?_
      refine And.intro rfl (And.intro (by decide) (Exists.intro _ (And.intro (bs_get (l := a :: q) (i := 0) (by simp)) ?_)))
      refine And.intro (.inl rfl) (And.intro ?_ ?_)
      · simp only [bs_len, List.length_cons]; omega
      refine And.intro (by kernel_rfl) ?_
      refine VloopS.weakE (l := upAt a.toNat 0 q []) rfl ⟨wk_both (by simp [bs, List.take_of_length_le]), .nil _ _ _ _ _ (by simp), .eq (int_eq rfl), .eq (int_eq rfl), trivial⟩ rfl (Nat.zero_le _) (VloopS.exW (upLoop (vs, 0) _ ?_ ?_ a.toNat (by omega) a.toNat 0 q [] (by omega) (by simp) (by omega) ho))
      · intro e' he h hb
        cases h
        exact absurd rfl he
      · intro q' acc h
        unfold outD unpD at h
        by_cases hq : q' = []
        · subst hq
          rw [if_pos rfl, if_pos rfl, List.append_nil] at h
          cases h
          refine cond_f rfl ?_
          exact rfl
        · rw [if_neg hq, if_neg (by decide)] at h
          have hl : q'.length ≠ 0 := fun e => hq (List.eq_nil_of_length_eq_zero e)
          cases h
    · have hv : vs = [] := by
        have := congrArg Prod.fst ho
        have h2 := congrArg Prod.snd ho
        unfold outD at this h2
        split at this
        · rename_i h1; rw [if_pos h1] at h2; exact absurd h2.symm he
        · exact this.symm
      subst hv
      refine PCallN.weakRet (ret := .tup [.sl 0 (some true) true [], .int .i64 e]) (.tup _ _ (.cons _ _ _ _ (.nil _ _ _ _ _ (by simp)) (.cons _ _ _ _ (.refl _) .nil))) ?_
      refine PCallN.of (tr [2, 6, 30, 33, 39]) f29 (Nat.le_of_ble_eq_true rfl) (np_cons (np_bs _) np_nil) (.tup _ (np_cons np_nilsl (np_cons (.int _ _) np_nil))) ?_
      refine cond_f rfl ?_
      refine And.intro rfl (And.intro (by decide) (Exists.intro _ (And.intro (bs_get (l := a :: q) (i := 0) (by simp)) ?_)))
      refine And.intro (.inl rfl) (And.intro ?_ ?_)
      · simp only [bs_len, List.length_cons]; omega
      refine And.intro (by kernel_rfl) ?_
      refine VloopS.weakE (l := upAt a.toNat 0 q []) rfl ⟨wk_both (by simp [bs, List.take_of_length_le]), .nil _ _ _ _ _ (by simp), .eq (int_eq rfl), .eq (int_eq rfl), trivial⟩ rfl (Nat.zero_le _) (VloopS.exW (upLoop ([], e) _ ?_ ?_ a.toNat (by omega) a.toNat 0 q [] (by omega) (by simp) (by omega) ho))
      · intro e' he h hb
        cases h
        exact rfl
      · intro q' acc h
        unfold outD unpD at h
        by_cases hq : q' = []
        · subst hq
          rw [if_pos rfl, if_pos rfl, List.append_nil] at h
          cases h; exact absurd rfl he
        · rw [if_neg hq, if_neg (by decide)] at h
          have hl : q'.length ≠ 0 := fun e => hq (List.eq_nil_of_length_eq_zero e)
          cases h
          refine cond_t (decide_eq_true (by rw [bs_len]; omega)) ?_
          exact rfl

/-! ### the reference's -/

def rupAt (p : List UInt8) (at_ : Nat) (k : Nat) (acc : List Va) : List (Nat × AV) := [(0, .sl 1 none false (bs p)), (4, .sl 3 none true (acc.map Va.c)), (5, .int .i64 at_), (6, .int .i64 k)]

theorem rupLoop (a : UInt8) (p : List UInt8) (hp : p.length < 100000) (o : List Va × Int) (R : VE → Sy → Prop) (hN : ∀ e, e ≠ 0 → o = ([], e) → ∀ hb, R .ret ⟨[], [(2, .sl 0 (some true) true []), (3, .int .i64 e)], hb⟩)
    (hS : ∀ (m : Nat) acc, m ≤ p.length → outD 0 (p.drop m) acc = o → R (.exit 0) ⟨[], [(0, .sl 1 none false (bs (a :: p))), (4, .sl 3 none true (acc.map Va.c)), (5, .int .i64 ((m + 1 : Nat) : Int))], []⟩) :
    ∀ (g k m : Nat) (acc : List Va), k + g = a.toNat → acc.length ≤ k → m ≤ p.length → outD g (p.drop m) acc = o →
      VloopS Tryd.prog (tr [2, 4, 32, 35, 43]) 44 0 c30b0 (exW 44 R) ⟨[], rupAt (a :: p) (m + 1) k acc, []⟩
  | 0, k, m, acc, hk, ha, hm, ho => by
    refine VloopS.round ?_
    refine And.intro rfl (And.intro (by decide) (Exists.intro _ (And.intro (bs_get (l := a :: p) (i := 0) (by simp)) ?_)))
    have ha5 := a.toNat_lt
    refine cond_f (decide_eq_false (by show ¬ _ < IntKind.i64.wrap (a.toNat : Int); rw [i64_in _ (by omega)]; omega)) ?_
    exact ex_w (hS m acc hm ho) rfl ⟨.refl _, .refl _, .refl _, trivial⟩ rfl
  | g + 1, k, m, acc, hk, ha, hm, ho => by
    have ha5 := a.toNat_lt
    refine VloopS.round ?_
    refine And.intro rfl (And.intro (by decide) (Exists.intro _ (And.intro (bs_get (l := a :: p) (i := 0) (by simp)) ?_)))
    refine cond_t (decide_eq_true (by show _ < IntKind.i64.wrap (a.toNat : Int); rw [i64_in _ (by omega)]; omega)) ?_
    refine And.intro (.inl rfl) (And.intro ?_ ?_)
    · simp only [bs_len, List.length_cons]; omega
    have nN := rDecodeN none false (p.drop m) (by rw [List.length_drop]; omega)
    have hcut : ((bs (a :: p)).drop ((m + 1 : Nat) : Int).toNat).take ((((bs (a :: p)).length : Nat) : Int).toNat - ((m + 1 : Nat) : Int).toNat) = bs (p.drop m) := by
      rw [bs_drop, bs_take, bs_len]
      simp [List.take_of_length_le]
    by_cases he : (dec (p.drop m)).2.2 = 0
    · rw [outD_ok he] at ho
      obtain ⟨hs, hl⟩ := dec_suf _ he
      rw [hs] at ho
      rw [hs, List.length_drop, List.length_drop] at hl
      rw [List.drop_drop] at ho
      have hd : decN (p.drop m) ≤ p.length - m := by
        rw [decN, if_pos he, List.length_drop]; omega
      generalize decN (p.drop m) = d at nN ho hl hs hd
      generalize dec (p.drop m) = y at he nN ho hs
      obtain ⟨v, r, e⟩ := y
      simp only at he ho
      subst he
      refine call_p (by rw [hcut]; exact nN) ?_
      refine cond_f rfl ?_
      refine And.intro (.inl ⟨rfl, rfl⟩) (And.intro (.inl rfl) (And.intro ?_ ?_))
      · simp only [List.length_map, List.length_cons, List.length_nil]; omega
      refine VloopS.weakBox (l := rupAt (a :: p) (m + d + 1) (k + 1) (acc ++ [v])) (h := []) (ex := [.cells v.c]) rfl ⟨.refl _, .eq (sl_eq ?_), .eq (int_eq ?_), .eq (int_eq ?_), trivial⟩ rfl (Nat.zero_le _) ?_ (by simp) (rupLoop a p hp o R hN hS g (k + 1) (m + d) (acc ++ [v]) (by omega) (by simp only [List.length_append, List.length_cons, List.length_nil]; omega) (by omega) ho)
      · rw [List.map_append]; rfl
      · rw [i64_in _ (by omega)]; omega
      · rw [i64_in _ (by omega)]; omega
      · intro q hq
        simp only [rupAt, List.mem_cons, List.not_mem_nil, or_false] at hq
        rcases hq with rfl | rfl | rfl | rfl
        · exact np_bs _
        · exact np_words _
        · exact .int _ _
        · exact .int _ _
    · rw [outD_bad he] at ho
      generalize decN (p.drop m) = d at nN
      generalize dec (p.drop m) = y at he nN ho
      obtain ⟨v, r, e⟩ := y
      refine call_p (by rw [hcut]; exact nN) ?_
      refine cond_t (bne_iff_ne.2 he) ?_
      exact ex_w (hN e he ho.symm _) rfl ⟨.refl _, .refl _, trivial⟩ rfl

theorem rUnpackN (nl : Option Bool) (own : Bool) (p : List UInt8) (hp : p.length ≤ 100000) : PCallN Tryd.prog 30 [.sl 1 nl own (bs p)] (upAV (unp p)) := by
  cases p with
  | nil =>
    refine PCallN.weakRet (ret := .tup [.sl 0 (some true) true [], .int .i64 3]) (.tup _ _ (.cons _ _ _ _ (.nil _ _ _ _ _ (by simp)) (.cons _ _ _ _ (.refl _) .nil))) ?_
    refine PCallN.of (tr [2, 4, 32, 35, 43]) f30 (Nat.le_of_ble_eq_true rfl) (np_cons (np_bs _) np_nil) (.tup _ (np_cons np_nilsl (np_cons (.int _ _) np_nil))) ?_
    refine cond_t rfl ?_
    exact tup2 (sl_eq rfl) (int_eq rfl)
  | cons a q =>
    simp only [List.length_cons] at hp
    have ha := a.toNat_lt
    have hty : unp (a :: q) = outD a.toNat (q.drop 0) [] := (outD_nil _ _).symm
    rw [hty]
    generalize ho : outD a.toNat (q.drop 0) [] = o
    obtain ⟨vs, e⟩ := o
    by_cases he : e = 0
    · subst he
      refine PCallN.weakRet (ret := .tup [.sl 3 none true (vs.map Va.c), .int .i64 0]) (.tup _ _ (.cons _ _ _ _ (.strip _) (.cons _ _ _ _ (.refl _) .nil))) ?_
      refine PCallN.of (tr [2, 4, 32, 35, 43]) f30 (Nat.le_of_ble_eq_true rfl) (np_cons (np_bs _) np_nil) (up_np _ _ _) ?_
      refine cond_f (decide_eq_false (by rw [bs_len, List.length_cons]; omega)) ?_
      refine VloopS.weakE (l := rupAt (a :: q) (0 + 1) 0 []) rfl ⟨.both _ _ _ _, .nil _ _ _ _ _ (by simp), .eq (int_eq rfl), .eq (int_eq rfl), trivial⟩ rfl (Nat.zero_le _) (VloopS.exW (rupLoop a q (by omega) (vs, 0) _ ?_ ?_ a.toNat 0 0 [] (by omega) (by simp) (by omega) ho))
      · intro e' he h hb
        cases h
        exact absurd rfl he
      · intro m acc hm h
        unfold outD unpD at h
        by_cases hq : q.drop m = []
        · rw [hq, if_pos rfl, if_pos rfl, List.append_nil] at h
          have hl := congrArg List.length hq
          rw [List.length_drop, List.length_nil] at hl
          cases h
          refine cond_f (decide_eq_false (by rw [bs_len, List.length_cons]; omega)) ?_
          exact rfl
        · rw [if_neg hq, if_neg (by decide)] at h
          have hl : q.length - m ≠ 0 := fun e => hq (List.eq_nil_of_length_eq_zero (by rw [List.length_drop]; exact e))
          cases h
    · have hv : vs = [] := by
        have := congrArg Prod.fst ho
        have h2 := congrArg Prod.snd ho
        unfold outD at this h2
        split at this
        · rename_i h1; rw [if_pos h1] at h2; exact absurd h2.symm he
        · exact this.symm
      subst hv
      refine PCallN.weakRet (ret := .tup [.sl 0 (some true) true [], .int .i64 e]) (.tup _ _ (.cons _ _ _ _ (.nil _ _ _ _ _ (by simp)) (.cons _ _ _ _ (.refl _) .nil))) ?_
      refine PCallN.of (tr [2, 4, 32, 35, 43]) f30 (Nat.le_of_ble_eq_true rfl) (np_cons (np_bs _) np_nil) (.tup _ (np_cons np_nilsl (np_cons (.int _ _) np_nil))) ?_
      refine cond_f (decide_eq_false (by rw [bs_len, List.length_cons]; omega)) ?_
      refine VloopS.weakE (l := rupAt (a :: q) (0 + 1) 0 []) rfl ⟨.both _ _ _ _, .nil _ _ _ _ _ (by simp), .eq (int_eq rfl), .eq (int_eq rfl), trivial⟩ rfl (Nat.zero_le _) (VloopS.exW (rupLoop a q (by omega) ([], e) _ ?_ ?_ a.toNat 0 0 [] (by omega) (by simp) (by omega) ho))
      · intro e' he h hb
        cases h
        exact rfl
      · intro m acc hm h
        unfold outD unpD at h
        by_cases hq : q.drop m = []
        · rw [hq, if_pos rfl, if_pos rfl, List.append_nil] at h
          have hl := congrArg List.length hq
          rw [List.length_drop, List.length_nil] at hl
          cases h; exact absurd rfl he
        · rw [if_neg hq, if_neg (by decide)] at h
          have hl : q.length - m ≠ 0 := fun e => hq (List.eq_nil_of_length_eq_zero (by rw [List.length_drop]; exact e))
          cases h
          refine cond_t (decide_eq_true (by rw [bs_len, List.length_cons]; omega)) ?_
          exact rfl

theorem unpD_len : ∀ (n : Nat) (q : List UInt8), (unpD n q).1.length ≤ n
  | 0, q => by unfold unpD; split <;> simp
  | n + 1, q => by
    have ih := unpD_len n (dec q).2.1
    rw [unpD]
    split
    · split
      · simpa using ih
      · simp
    · simp

theorem unp_len (p : List UInt8) : (unp p).1.length ≤ 255 := by
  cases p with
  | nil => decide
  | cons a q =>
    have := unpD_len a.toNat q
    have h := a.toNat_lt
    show (unpD a.toNat q).1.length ≤ 255
    omega

theorem unpD_encs : ∀ l : List Va, (∀ v, v ∈ l → v.right = true ∧ v.ok) → unpD l.length (encsL l) = (l, 0)
  | [], _ => by simp [unpD, encsL]
  | v :: l, h => by
    have e : encsL (v :: l) = v.enc ++ encsL l := by simp [encsL]
    have hd := dec_enc v (h v (by simp)).1 (h v (by simp)).2 (encsL l)
    have ih := unpD_encs l (fun w hw => h w (by simp [hw]))
    rw [e, List.length_cons, unpD, hd]
    simp [ih]

theorem unp_packs (l : List Va) (hl : l.length ≤ 255) (h : ∀ v, v ∈ l → v.right = true ∧ v.ok) : unp (packs l) = (l, 0) := by
  unfold packs unp
  have e : (u8of l.length).toNat = l.length := by
    have := u8of_toNat (l.length : Int)
    rw [w_u8] at this
    omega
  show unpD (u8of l.length).toNat _ = _
  rw [e]
  exact unpD_encs l h

theorem of_vals (ws : List Va) (ok : ∀ w, w ∈ ws → w.ok) : ∀ v, v ∈ ws.map Va.of → v.right = true ∧ v.ok := by
  intro v hv
  obtain ⟨w, hw, rfl⟩ := List.mem_map.1 hv
  exact ⟨of_right w, of_ok w (ok w hw)⟩

theorem tablePacksN (nl nl' : Option Bool) (own own' : Bool) (ws : List Va) (ok : ∀ w, w ∈ ws → w.ok) (p : List UInt8) : PCallN Tryd.prog 7 [.sl 3 nl own (ws.map Va.c), .sl 1 nl' own' (bs p)] (.bool true) := by
  refine PCallN.of (tr []) f7 (Nat.le_of_ble_eq_true rfl) (np_cons (np_words _) (np_cons (np_bs _) np_nil)) (.bool _) ?_
  refine call_p noughtsN ?_
  repeat (first | refine guard_t rfl ?_ | refine guard_f (by decide) ?_)
  by_cases hw : ws.length ≤ 20
  · have h1 : decide ((((ws.map Va.c).length : Nat) : Int) > 20) = false := decide_eq_false (by rw [List.length_map]; omega)
    refine guard_t h1 ?_
    rw [h1]
    repeat (first | refine guard_t rfl ?_ | refine guard_f (by decide) ?_)
    by_cases hp : p.length ≤ 100
    · refine cond_f (decide_eq_false (by rw [bs_len]; omega)) ?_
      refine call_p (valuesN _ _ ws (by omega)) ?_
      have lv : (ws.map Va.of).length ≤ 20 := by rw [List.length_map]; exact hw
      have sv := of_small ws
      have rv := of_vals ws ok
      generalize ws.map Va.of = l at lv sv rv ⊢
      refine call_p (packN _ _ l (by omega) sv) ?_
      have hk := encsL_len l sv
      have hpl : (packs l).length ≤ 10000 := by rw [packs, List.length_cons]; omega
      have hu := unpackN none false (packs l) (by omega)
      rw [unp_packs l (by omega) rv] at hu
      refine call_p hu ?_
      have hu2 := unpackN nl' false p (by omega)
      have hu3 := rUnpackN nl' false p (by omega)
      have hvs : (unp p).1.length ≤ 1000000 := by have := unp_len p; omega
      generalize unp p = o at hu2 hu3 hvs
      obtain ⟨vs, e⟩ := o
      refine call_p hu2 ?_
      refine call_p hu3 ?_
      refine call_p (rpackN _ _ l (by omega) sv) ?_
      refine call_p (bytesN _ _ _ _ (packs l) (packs l) (by omega)) ?_
      rw [decide_eq_true rfl]
      repeat (first | refine guard_t rfl ?_ | refine guard_f (by decide) ?_)
      refine call_p (sameT _ _ _ _ l (by omega)) ?_
      repeat (first | refine guard_t rfl ?_ | refine guard_f (by decide) ?_)
      refine guard_t (beq_self_eq_true e) ?_
      repeat (first | refine guard_t rfl ?_ | refine guard_f (by decide) ?_)
      refine call_p (sameT _ _ _ _ vs hvs) ?_
      exact bool_eq rfl
    · refine cond_t (decide_eq_true (by rw [bs_len]; omega)) ?_
      refine call_p noughtsN ?_
      exact bool_eq rfl
  · have h1 : decide ((((ws.map Va.c).length : Nat) : Int) > 20) = true := decide_eq_true (by rw [List.length_map]; omega)
    refine guard_f (by rw [h1]; decide) ?_
    repeat (first | refine guard_t rfl ?_ | refine guard_f (by decide) ?_)
    refine cond_t rfl ?_
    refine call_p noughtsN ?_
    exact bool_eq rfl

end Go.Proofs.YtmjdoonaidolkaaDoor.V

/- Rows that are alike; keys split; the law TableKeys. -/
namespace Go.Proofs.YtmjdoonaidolkaaDoor.V
open Go.IntWalk Go.Lib

def eqAt (a b : List Va) (i : Nat) : List (Nat × AV) := [(1, .sl 3 none false (b.map Va.c)), (2, .func 40 []), (15, .sl 3 none false (a.map Va.c)), (16, .int .i64 a.length), (17, .int .i64 i)]

theorem eq_np (a b : List Va) (i : Nat) : ∀ p, p ∈ eqAt a b i → NP (fun i => i < ([] : List HObj).length) p.2 := by
  intro p hp
  simp only [eqAt, List.mem_cons, List.not_mem_nil, or_false] at hp
  rcases hp with rfl | rfl | rfl | rfl | rfl
  · exact np_words _
  · exact .func _ _ (by simp)
  · exact np_words _
  · exact .int _ _
  · exact .int _ _

theorem eqLoop (a b : List Va) (hab : a.length = b.length) (hl : a.length ≤ 1000000) (R : VE → Sy → Prop) (hT : a = b → R (.exit 0) ⟨[], [], []⟩) (hF : a ≠ b → ∀ hb, R .ret ⟨[], [(6, .bool false)], hb⟩) :
    ∀ (g i : Nat), i + g = a.length → a.take i = b.take i → VloopS Tryd.prog (tr []) 32 0 c39b0 (exW 32 R) ⟨[], eqAt a b i, []⟩
  | 0, i, hg, he => by
    have e : a = b := by
      rw [List.take_of_length_le (by omega), List.take_of_length_le (by omega)] at he
      exact he
    refine VloopS.round ?_
    refine cond_f (decide_eq_false (by omega)) ?_
    exact ex_w (hT e) rfl trivial rfl
  | g + 1, i, hg, he => by
    have hlt : i < a.length := by omega
    have hlb : i < b.length := by omega
    refine VloopS.round ?_
    refine cond_t (decide_eq_true (by omega)) ?_
    refine And.intro rfl (And.intro (Int.natCast_nonneg i) (Exists.intro a[i].c (And.intro (words_get hlt) ?_)))
    refine And.intro rfl (And.intro (Int.natCast_nonneg i) (Exists.intro b[i].c (And.intro (words_get hlb) ?_)))
    refine call_p (sameN a[i] b[i]) ?_
    by_cases h : a[i] = b[i]
    · refine cond_f (by rw [decide_eq_true h]; rfl) ?_
      refine VloopS.weakBox (l := eqAt a b (i + 1)) (h := []) (ex := [.cells a[i].c, .cells b[i].c]) rfl ⟨.refl _, .refl _, .refl _, .refl _, .eq (int_eq ?_), trivial⟩ rfl (Nat.zero_le _) (eq_np a b (i + 1)) (by simp)
        (eqLoop a b hab hl R hT hF g (i + 1) (by omega) (by rw [take_snoc a i hlt, take_snoc b i hlb, he, h]))
      rw [i64_in _ (by omega)]; omega
    · refine cond_t (by rw [decide_eq_false h]; rfl) ?_
      exact ex_w (hF (fun e => h (by subst e; rfl)) _) rfl ⟨.refl _, trivial⟩ rfl

theorem np_ww40 {ok : Nat → Prop} {sz sz' : Nat} {nl nl' : Option Bool} {own own' : Bool} (a b : List Va) (f : Nat) : ∀ x, x ∈ [AV.sl sz nl own (a.map Va.c), AV.sl sz' nl' own' (b.map Va.c), .func f []] → NP ok x := np_cons (np_words _) (np_cons (np_words _) (np_cons (.func _ _ (by simp)) np_nil))

theorem eqFuncN (nl nl' : Option Bool) (own own' : Bool) (a b : List Va) (hl : a.length ≤ 1000000) : PCallN Tryd.prog 39 [.sl 3 nl own (a.map Va.c), .sl 3 nl' own' (b.map Va.c), .func 40 []] (.bool (decide (a = b))) := by
  refine PCallN.of (tr []) f39 (Nat.le_of_ble_eq_true rfl) (np_ww40 _ _ _) (.bool _) ?_
  by_cases hab : a.length = b.length
  · refine cond_f (by rw [List.length_map, List.length_map, hab]; exact bne_self_eq_false _) ?_
    refine VloopS.weakE (l := eqAt a b 0) rfl ⟨.both _ _ _ _, .refl _, .both _ _ _ _, .eq (int_eq (by rw [List.length_map])), .eq (int_eq rfl), trivial⟩ rfl (Nat.zero_le _) (VloopS.exW (eqLoop a b hab hl _ ?_ ?_ a.length 0 (by omega) rfl))
    · intro e
      exact bool_eq (decide_eq_true e).symm
    · intro e hb
      exact bool_eq (decide_eq_false e).symm
  · have hne : a ≠ b := fun e => hab (by rw [e])
    refine cond_t (by rw [List.length_map, List.length_map]; exact bne_iff_ne.2 (by omega)) ?_
    exact bool_eq (decide_eq_false hne).symm

theorem tSameN (nl nl' : Option Bool) (own own' : Bool) (a b : List Va) (hl : a.length ≤ 1000000) : PCallN Tryd.prog 19 [.sl 3 nl own (a.map Va.c), .sl 3 nl' own' (b.map Va.c)] (.bool (decide (a = b))) := by
  refine PCallN.of (tr []) f19 (Nat.le_of_ble_eq_true rfl) (np_ww _ _) (.bool _) ?_
  refine call_p (eqFuncN _ _ _ _ a b hl) ?_
  exact bool_eq rfl

/-! ### keys split -/

def splD (l : List UInt8) : Int × List Va × Int :=
  match l with
  | [] => (0, [], 3)
  | b :: q => match backD q.length q with
    | none => (0, [], 2)
    | some vs => (b.toNat, vs, 0)

def splAV (x : Int × List Va × Int) : AV := .tup [.int .i64 x.1, .sl 3 none false (x.2.1.map Va.c), .int .i64 x.2.2]

theorem spl_np {ok : Nat → Prop} (n : Int) (nl : Option Bool) (own : Bool) (vs : List Va) (e : Int) : NP ok (.tup [.int .i64 n, .sl 3 nl own (vs.map Va.c), .int .i64 e]) := .tup _ (np_cons (.int _ _) (np_cons (np_words _) (np_cons (.int _ _) np_nil)))

theorem spl_bad {n e : Int} {f : Nat} {args : List AV} (h : PCallN Tryd.prog f args (.tup [.int .i64 n, .sl 0 (some true) false [], .int .i64 e])) : PCallN Tryd.prog f args (splAV (n, [], e)) :=
  h.weakRet (.tup _ _ (.cons _ _ _ _ (.refl _) (.cons _ _ _ _ (.nil _ _ _ _ _ (by simp)) (.cons _ _ _ _ (.refl _) .nil))))

theorem splitN (l : List UInt8) (hl : l.length ≤ 100000) : PCallN Tryd.prog 34 [.str (st l)] (splAV (splD l)) := by
  cases l with
  | nil =>
    refine spl_bad ?_
    refine PCallN.of (tr []) f34 (Nat.le_of_ble_eq_true rfl) (np_cons (.str _) np_nil) (.tup _ (np_cons (.int _ _) (np_cons np_nilsl (np_cons (.int _ _) np_nil)))) ?_
    refine cond_t (by decide +kernel) ?_
    exact tup3 (int_eq rfl) (sl_eq rfl) (int_eq rfl)
  | cons b q =>
    simp only [List.length_cons] at hl
    have hne : ((st (b :: q)).toList == (⟨#[]⟩ : ByteArray).toList) = false := by
      have := st_beq (b :: q) []
      rw [decide_eq_false (by simp)] at this
      exact this
    have hb := backN (some false) false q (by omega)
    have hcut : (st (b :: q)).extract (1 : Int).toNat (((st (b :: q)).size : Int)).toNat = st q := by
      rw [st_cut, st_size]
      simp
    unfold splD
    simp only
    generalize backD q.length q = o at hb
    cases o with
    | none =>
      refine spl_bad ?_
      refine PCallN.of (tr []) f34 (Nat.le_of_ble_eq_true rfl) (np_cons (.str _) np_nil) (.tup _ (np_cons (.int _ _) (np_cons np_nilsl (np_cons (.int _ _) np_nil)))) ?_
      refine cond_f hne ?_
      refine And.intro ⟨by decide, by rw [st_size, List.length_cons]; omega, Int.le_refl _⟩ ?_
      refine call_p (by rw [hcut, bs_st]; exact hb) ?_
      refine cond_t rfl ?_
      exact tup3 (int_eq rfl) (sl_eq rfl) (int_eq rfl)
    | some vs =>
      refine PCallN.of (tr []) f34 (Nat.le_of_ble_eq_true rfl) (np_cons (.str _) np_nil) (spl_np _ _ _ _ _) ?_
      refine cond_f hne ?_
      refine And.intro ⟨by decide, by rw [st_size, List.length_cons]; omega, Int.le_refl _⟩ ?_
      refine call_p (by rw [hcut, bs_st]; exact hb) ?_
      refine cond_f rfl ?_
      refine And.intro (by decide) (Exists.intro b (And.intro rfl ?_))
      have hb5 := b.toNat_lt
      exact tup3 (int_eq (i64_in _ (by omega))) (sl_eq rfl) (int_eq rfl)

theorem rtKeyN (t : Int) (nl : Option Bool) (own : Bool) (l : List Va) (hl : l.length ≤ 40) (hs : ∀ v, v ∈ l → v.s.length ≤ 200) (hr : ∀ v, v ∈ l → v.right = true ∧ v.ok) : PCallN Tryd.prog 16 [.int .i64 t, .sl 3 nl own (l.map Va.c)] (.str (st (u8of t :: keys l))) := by
  refine PCallN.of (tr []) f16 (Nat.le_of_ble_eq_true rfl) (np_cons (.int _ _) (np_cons (np_words _) np_nil)) (.str _) ?_
  have hk := keys_len l hs
  refine call_p (keyRefN _ _ l hl hs hr) ?_
  refine call_p (ret := .sl 1 none true (bs (u8of t :: keys l))) (by
    have := joinN (some false) none true true [u8of t] (keys l) (by simp only [List.length_cons, List.length_nil]; omega)
    have e : bs [u8of t] = [[AV.int .u8 (IntKind.u8.wrap t)]] := by rw [← u8of_toNat]; rfl
    rw [e] at this
    exact this) ?_
  exact Exists.intro (u8of t :: keys l) (And.intro (toBytes_bs _) rfl)

theorem backD_len : ∀ (n : Nat) (q : List UInt8) (vs : List Va), backD n q = some vs → vs.length ≤ q.length := fun n q vs h => (backD_inv n q vs h).2.2

theorem u8of_u8 (t : UInt8) : (u8of (IntKind.i64.wrap (t.toNat : Int))).toNat = t.toNat := by
  have h5 := t.toNat_lt
  have := u8of_toNat (IntKind.i64.wrap (t.toNat : Int))
  rw [i64_in _ (by omega), w_u8] at this
  rw [i64_in _ (by omega)]
  omega

theorem tableKeysN (t : UInt8) (nl nl' : Option Bool) (own own' : Bool) (ws : List Va) (ok : ∀ w, w ∈ ws → w.ok) (p : List UInt8) : PCallN Tryd.prog 9 [.int .u8 t.toNat, .sl 3 nl own (ws.map Va.c), .sl 1 nl' own' (bs p)] (.bool true) := by
  refine PCallN.of (tr []) f9 (Nat.le_of_ble_eq_true rfl) (np_cons (.int _ _) (np_cons (np_words _) (np_cons (np_bs _) np_nil))) (.bool _) ?_
  refine call_p noughtsN ?_
  repeat (first | refine guard_t rfl ?_ | refine guard_f (by decide) ?_)
  by_cases hw : ws.length ≤ 10
  · have h1 : decide ((((ws.map Va.c).length : Nat) : Int) > 10) = false := decide_eq_false (by rw [List.length_map]; omega)
    refine guard_t h1 ?_
    rw [h1]
    repeat (first | refine guard_t rfl ?_ | refine guard_f (by decide) ?_)
    by_cases hp : p.length ≤ 60
    · refine cond_f (decide_eq_false (by rw [bs_len]; omega)) ?_
      refine call_p (valuesN _ _ ws (by omega)) ?_
      have lv : (ws.map Va.of).length ≤ 10 := by rw [List.length_map]; exact hw
      have sv := of_small ws
      have rv := of_vals ws ok
      generalize ws.map Va.of = l at lv sv rv ⊢
      have hk := keys_len l sv
      refine call_p (tKeyN _ _ _ l (by omega) sv) ?_
      have hs := splitN (u8of (IntKind.i64.wrap (t.toNat : Int)) :: keys l) (by rw [List.length_cons]; omega)
      have hd : splD (u8of (IntKind.i64.wrap (t.toNat : Int)) :: keys l) = ((t.toNat : Int), l, 0) := by
        unfold splD
        simp only
        rw [backD_keys l rv _ (Nat.le_refl _)]
        simp only [u8of_u8]
      rw [hd] at hs
      refine call_p hs ?_
      have ht5 := t.toNat_lt
      have hti : ((t.toNat : Int) == IntKind.i64.wrap (t.toNat : Int)) = true := by rw [i64_in _ (by omega)]; exact beq_self_eq_true _
      refine Exists.intro p (And.intro (toBytes_bs p) ?_)
      cases p with
      | nil =>
        refine call_p (splitN [] (by simp)) ?_
        refine cond_t rfl ?_
        repeat (first | refine guard_t rfl ?_ | refine guard_f (by decide) ?_)
        refine call_p (rtKeyN _ _ _ l (by omega) sv rv) ?_
        repeat (first | refine guard_t rfl ?_ | refine guard_f (by decide) ?_)
        refine guard_t (beq_self_eq_true _) ?_
        repeat (first | refine guard_t rfl ?_ | refine guard_f (by decide) ?_)
        refine guard_t hti ?_
        repeat (first | refine guard_t rfl ?_ | refine guard_f (by decide) ?_)
        refine call_p (sameT _ _ _ _ l (by omega)) ?_
        exact bool_eq rfl
      | cons b q =>
        simp only [List.length_cons] at hp
        have hrb := rBackN nl' false q (by omega)
        have hsp := splitN (b :: q) (by simp only [List.length_cons]; omega)
        have hcut : ((bs (b :: q)).drop (1 : Int).toNat).take ((((bs (b :: q)).length : Nat) : Int).toNat - (1 : Int).toNat) = bs q := by
          rw [bs_len]
          simp [bs, List.take_of_length_le]
        have hb5 := b.toNat_lt
        have hbl := backD_len q.length q
        unfold splD at hsp
        simp only at hsp
        generalize backD q.length q = o at hbl hrb hsp
        cases o with
        | none =>
          change PCallN Tryd.prog 34 [.str (st (b :: q))] (splAV (0, [], 2)) at hsp
          refine call_p hsp ?_
          refine cond_f (beq_eq_false_iff_ne.2 (by rw [bs_len, List.length_cons]; omega)) ?_
          refine And.intro (.inl rfl) (And.intro ⟨by decide, by rw [bs_len, List.length_cons]; omega, Int.le_refl _⟩ ?_)
          refine call_p (by rw [hcut]; exact hrb) ?_
          refine call_p (rtKeyN _ _ _ l (by omega) sv rv) ?_
          refine guard_t (beq_self_eq_true _) ?_
          repeat (first | refine guard_t rfl ?_ | refine guard_f (by decide) ?_)
          refine guard_t hti ?_
          repeat (first | refine guard_t rfl ?_ | refine guard_f (by decide) ?_)
          refine call_p (sameT _ _ _ _ l (by omega)) ?_
          repeat (first | refine guard_t rfl ?_ | refine guard_f (by decide) ?_)
          refine call_p (tSameN _ _ _ _ l l (by omega)) ?_
          rw [decide_eq_true rfl]
          repeat (first | refine guard_t rfl ?_ | refine guard_f (by decide) ?_)
          refine call_p (sameT _ _ _ _ [] (by simp)) ?_
          repeat (first | refine guard_t rfl ?_ | refine guard_f (by decide) ?_)
          exact bool_eq rfl
        | some vs =>
          change PCallN Tryd.prog 34 [.str (st (b :: q))] (splAV ((b.toNat : Int), vs, 0)) at hsp
          refine call_p hsp ?_
          refine cond_f (beq_eq_false_iff_ne.2 (by rw [bs_len, List.length_cons]; omega)) ?_
          refine And.intro (.inl rfl) (And.intro ⟨by decide, by rw [bs_len, List.length_cons]; omega, Int.le_refl _⟩ ?_)
          refine call_p (by rw [hcut]; exact hrb) ?_
          refine call_p (rtKeyN _ _ _ l (by omega) sv rv) ?_
          refine guard_t (beq_self_eq_true _) ?_
          repeat (first | refine guard_t rfl ?_ | refine guard_f (by decide) ?_)
          refine guard_t hti ?_
          repeat (first | refine guard_t rfl ?_ | refine guard_f (by decide) ?_)
          refine call_p (sameT _ _ _ _ l (by omega)) ?_
          repeat (first | refine guard_t rfl ?_ | refine guard_f (by decide) ?_)
          refine call_p (tSameN _ _ _ _ l l (by omega)) ?_
          rw [decide_eq_true rfl]
          repeat (first | refine guard_t rfl ?_ | refine guard_f (by decide) ?_)
          refine call_p (sameT _ _ _ _ vs (by have := hbl vs rfl; omega)) ?_
          repeat (first | refine guard_t rfl ?_ | refine guard_f (by decide) ?_)
          refine And.intro rfl (And.intro (by decide) (Exists.intro _ (And.intro (bs_get (l := b :: q) (i := 0) (by simp)) ?_)))
          repeat (first | refine guard_t rfl ?_ | refine guard_f (by decide) ?_)
          refine bool_eq ?_
          show ((b.toNat : Int) == IntKind.i64.wrap (b.toNat : Int)) = true
          rw [i64_in _ (by omega)]
          exact beq_self_eq_true _
    · refine cond_t (decide_eq_true (by rw [bs_len]; omega)) ?_
      refine call_p noughtsN ?_
      exact bool_eq rfl
  · have h1 : decide ((((ws.map Va.c).length : Nat) : Int) > 10) = true := decide_eq_true (by rw [List.length_map]; omega)
    refine guard_f (by rw [h1]; decide) ?_
    repeat (first | refine guard_t rfl ?_ | refine guard_f (by decide) ?_)
    refine cond_t rfl ?_
    refine call_p noughtsN ?_
    exact bool_eq rfl

end Go.Proofs.YtmjdoonaidolkaaDoor.V

/- A packed row turned; rows that are alike: the laws TableTurned and TableSame. -/
namespace Go.Proofs.YtmjdoonaidolkaaDoor.V
open Go.IntWalk Go.Lib

theorem wkf_bsl {B : Nat → Option (Nat × List (List AV))} {sz id off len : Nat} {xs ys : List (List AV)} (hB : B id = some (sz, xs)) (hle : off + len ≤ xs.length) (h : (xs.drop off).take len = ys) : WkF B (.bsl sz id off len) (.sl sz none false ys) :=
  .bsl sz id off len xs ys none hB hle (by simp) (by rw [h]) (by rw [h]; exact WkFL.of _)

theorem bs_set (q : List UInt8) (k : Nat) (b : UInt8) : (bs q).set k [.int .u8 b.toNat] = bs (q.set k b) := by
  unfold bs
  rw [List.map_set]

theorem tableTurnedN (nl nl' : Option Bool) (own own' : Bool) (ws : List Va) (_ok : ∀ w, w ∈ ws → w.ok) (at_ : Nat) (hat : at_ < 65536) (b : UInt8) (cut : Bool) (more : List UInt8) :
    PCallN Tryd.prog 8 [.sl 3 nl own (ws.map Va.c), .int .u16 at_, .int .u8 b.toNat, .bool cut, .sl 1 nl' own' (bs more)] (.bool true) := by
  refine PCallN.of (tr [2000041]) f8 (Nat.le_of_ble_eq_true rfl) (np_cons (np_words _) (np_cons (.int _ _) (np_cons (.int _ _) (np_cons (.bool _) (np_cons (np_bs _) np_nil))))) (.bool _) ?_
  refine call_p noughtsN ?_
  repeat (first | refine guard_t rfl ?_ | refine guard_f (by decide) ?_)
  by_cases hw : ws.length ≤ 10
  · have h1 : decide ((((ws.map Va.c).length : Nat) : Int) > 10) = false := decide_eq_false (by rw [List.length_map]; omega)
    refine guard_t h1 ?_
    rw [h1]
    repeat (first | refine guard_t rfl ?_ | refine guard_f (by decide) ?_)
    by_cases hp : more.length ≤ 10
    · refine cond_f (decide_eq_false (by rw [bs_len]; omega)) ?_
      refine call_p (valuesN _ _ ws (by omega)) ?_
      have lv : (ws.map Va.of).length ≤ 10 := by rw [List.length_map]; exact hw
      have sv := of_small ws
      generalize ws.map Va.of = l at lv sv ⊢
      refine call_p (rpackN _ _ l (by omega) sv) ?_
      have hk := encsL_len l sv
      have hp0 : 0 < (packs l).length := by rw [packs, List.length_cons]; omega
      have hpl : (packs l).length ≤ 10000 := by rw [packs, List.length_cons]; omega
      generalize packs l = p at hp0 hpl ⊢
      refine And.intro (by rw [bs_len]; omega) ?_
      have hw16 : IntKind.i64.wrap (at_ : Int) = at_ := i64_in _ (by omega)
      have hmod : (IntKind.i64.wrap (at_ : Int)).tmod (((bs p).length : Nat) : Int) = ((at_ % p.length : Nat) : Int) := by
        rw [hw16, bs_len, Int.tmod_eq_emod_of_nonneg (by omega)]
        omega
      have hlt : at_ % p.length < p.length := Nat.mod_lt _ hp0
      rw [hmod]
      generalize at_ % p.length = k at hlt ⊢
      refine call_p ((joinN none nl' false false p more (by omega)).thaw rfl (by rw [bs_len, List.length_append]; omega) (bs_flat _)) ?_
      cases cut with
      | true =>
        refine cond_t rfl ?_
        refine And.intro rfl (And.intro ⟨Int.le_refl _, Int.natCast_nonneg _, by rw [bs_len, List.length_append]; omega⟩ ?_)
        have hq : ((bs (p ++ more)).drop (0 + (0 : Int).toNat)).take ((k : Int).toNat - (0 : Int).toNat) = bs ((p ++ more).take k) := by
          simp [bs_take]
        refine call_s [(51, .sl 1 none false (bs ((p ++ more).take k))), (13, .sl 1 none false (bs ((p ++ more).take k)))] [.ro []] (ShiftS.fz0 _ rfl ⟨wkf_bsl rfl (by rw [bs_len, List.length_append]; simp; omega) hq, wkf_bsl rfl (by rw [bs_len, List.length_append]; simp; omega) hq, trivial⟩) trivial ?_
        generalize hqq : (p ++ more).take k = q
        have hql : q.length ≤ 20000 := by rw [← hqq, List.length_take, List.length_append]; omega
        have hu2 := unpackN none false q (by omega)
        have hu3 := rUnpackN none false q (by omega)
        have hvs : (unp q).1.length ≤ 1000000 := by have := unp_len q; omega
        generalize unp q = o at hu2 hu3 hvs
        obtain ⟨vs, e⟩ := o
        refine call_sp hu2 ?_
        refine call_p hu3 ?_
        refine guard_t (beq_self_eq_true e) ?_
        repeat (first | refine guard_t rfl ?_ | refine guard_f (by decide) ?_)
        refine call_p (sameT _ _ _ _ vs hvs) ?_
        exact bool_eq rfl
      | false =>
        refine cond_f rfl ?_
        refine And.intro rfl (And.intro ⟨Int.natCast_nonneg _, by rw [bs_len, List.length_append]; omega⟩ ?_)
        have hkl : k < (p ++ more).length := by rw [List.length_append]; omega
        refine Exists.intro (0 + (k : Int).toNat) (Exists.intro 0 (Exists.intro [.int .u8 (((p ++ more)[k]).toNat : Int)] (And.intro ⟨rfl, by decide, by decide⟩ (And.intro ?_ ?_))))
        · rw [Nat.zero_add, Int.toNat_natCast]; exact bs_get hkl
        have hq : ((((bs (p ++ more)).set (0 + (k : Int).toNat) (splice [AV.int .u8 (((p ++ more)[k]).toNat : Int)] 0 (AV.int .u8 (b.toNat : Int)).strip.cells)).drop 0).take (bs (p ++ more)).length) = bs ((p ++ more).set k b) := by
          rw [Nat.zero_add, Int.toNat_natCast]
          show (((bs (p ++ more)).set k [AV.int .u8 (b.toNat : Int)]).drop 0).take _ = _
          rw [bs_set, List.drop_zero, List.take_of_length_le (by rw [bs_len, bs_len, List.length_set]; exact Nat.le_refl _)]
        have hle : 0 + (bs (p ++ more)).length ≤ ((bs (p ++ more)).set (0 + (k : Int).toNat) (splice [AV.int .u8 (((p ++ more)[k]).toNat : Int)] 0 (AV.int .u8 (b.toNat : Int)).strip.cells)).length := by
          rw [List.length_set]; omega
        refine call_s [(51, .sl 1 none false (bs ((p ++ more).set k b))), (13, .sl 1 none false (bs ((p ++ more).set k b)))] [.ro []] (ShiftS.fz0 _ rfl ⟨wkf_bsl rfl hle hq, wkf_bsl rfl hle hq, trivial⟩) trivial ?_
        generalize hqq : (p ++ more).set k b = q
        have hql : q.length ≤ 20000 := by rw [← hqq, List.length_set, List.length_append]; omega
        have hu2 := unpackN none false q (by omega)
        have hu3 := rUnpackN none false q (by omega)
        have hvs : (unp q).1.length ≤ 1000000 := by have := unp_len q; omega
        generalize unp q = o at hu2 hu3 hvs
        obtain ⟨vs, e⟩ := o
        refine call_sp hu2 ?_
        refine call_p hu3 ?_
        refine guard_t (beq_self_eq_true e) ?_
        repeat (first | refine guard_t rfl ?_ | refine guard_f (by decide) ?_)
        refine call_p (sameT _ _ _ _ vs hvs) ?_
        exact bool_eq rfl
    · refine cond_t (decide_eq_true (by rw [bs_len]; omega)) ?_
      refine call_p noughtsN ?_
      exact bool_eq rfl
  · have h1 : decide ((((ws.map Va.c).length : Nat) : Int) > 10) = true := decide_eq_true (by rw [List.length_map]; omega)
    refine guard_f (by rw [h1]; decide) ?_
    repeat (first | refine guard_t rfl ?_ | refine guard_f (by decide) ?_)
    refine cond_t rfl ?_
    refine call_p noughtsN ?_
    exact bool_eq rfl

/-! ### rows that are alike -/

def smlAt (a b : List Va) (i : Nat) : List (Nat × AV) := [(0, .sl 3 none false (a.map Va.c)), (1, .sl 3 none false (b.map Va.c)), (5, .int .i64 i)]

theorem smlLoop (a b : List Va) (hab : a.length = b.length) (hl : a.length ≤ 1000000) (R : VE → Sy → Prop) (hT : a = b → R (.exit 0) ⟨[], [], []⟩) (hF : a ≠ b → ∀ hb, R .ret ⟨[], [(4, .bool false)], hb⟩) :
    ∀ (g i : Nat), i + g = a.length → a.take i = b.take i → VloopS Tryd.prog (tr []) 26 0 c20b0 (exW 26 R) ⟨[], smlAt a b i, []⟩
  | 0, i, hg, he => by
    have e : a = b := by
      rw [List.take_of_length_le (by omega), List.take_of_length_le (by omega)] at he
      exact he
    refine VloopS.round ?_
    refine cond_f (decide_eq_false (by rw [List.length_map]; omega)) ?_
    exact ex_w (hT e) rfl trivial rfl
  | g + 1, i, hg, he => by
    have hlt : i < a.length := by omega
    have hlb : i < b.length := by omega
    refine VloopS.round ?_
    refine cond_t (decide_eq_true (by rw [List.length_map]; omega)) ?_
    refine And.intro rfl (And.intro (Int.natCast_nonneg i) (Exists.intro a[i].c (And.intro (words_get hlt) ?_)))
    refine And.intro rfl (And.intro (Int.natCast_nonneg i) (Exists.intro b[i].c (And.intro (words_get hlb) ?_)))
    refine And.intro (by kernel_rfl) ?_
    by_cases h : a[i] = b[i]
    · refine cond_f (by show (!(_ && (_ && (_ && true)))) = false; rw [va_beq, decide_eq_true h]; rfl) ?_
      refine VloopS.weakE (l := smlAt a b (i + 1)) (h := []) rfl ⟨.refl _, .refl _, .eq (int_eq ?_), trivial⟩ rfl (Nat.zero_le _) (smlLoop a b hab hl R hT hF g (i + 1) (by omega) (by rw [take_snoc a i hlt, take_snoc b i hlb, he, h]))
      rw [i64_in _ (by omega)]; omega
    · refine cond_t (by show (!(_ && (_ && (_ && true)))) = true; rw [va_beq, decide_eq_false h]; rfl) ?_
      exact ex_w (hF (fun e => h (by subst e; rfl)) _) rfl ⟨.refl _, trivial⟩ rfl

theorem sameLN (nl nl' : Option Bool) (own own' : Bool) (a b : List Va) (hl : a.length ≤ 1000000) : PCallN Tryd.prog 20 [.sl 3 nl own (a.map Va.c), .sl 3 nl' own' (b.map Va.c)] (.bool (decide (a = b))) := by
  refine PCallN.of (tr []) f20 (Nat.le_of_ble_eq_true rfl) (np_ww _ _) (.bool _) ?_
  by_cases hab : a.length = b.length
  · refine cond_f (by rw [List.length_map, List.length_map, hab]; exact bne_self_eq_false _) ?_
    refine VloopS.weakE (l := smlAt a b 0) rfl ⟨.both _ _ _ _, .both _ _ _ _, .eq (int_eq rfl), trivial⟩ rfl (Nat.zero_le _) (VloopS.exW (smlLoop a b hab hl _ ?_ ?_ a.length 0 (by omega) rfl))
    · intro e
      exact bool_eq (decide_eq_true e).symm
    · intro e hb
      exact bool_eq (decide_eq_false e).symm
  · have hne : a ≠ b := fun e => hab (by rw [e])
    refine cond_t (by rw [List.length_map, List.length_map]; exact bne_iff_ne.2 (by omega)) ?_
    exact bool_eq (decide_eq_false hne).symm

theorem wrap_ne (n : Int) : IntKind.i64.wrap (n + 1) ≠ n := by
  simp [IntKind.wrap, IntKind.bits, IntKind.signed]
  omega

theorem words_len3 (l : List Va) : ∀ x, x ∈ l.map Va.c → x.length = 3 := by
  intro x hx
  obtain ⟨v, _, rfl⟩ := List.mem_map.1 hx
  rfl

theorem words_set (l : List Va) (k : Nat) (v : Va) : (l.map Va.c).set k v.c = (l.set k v).map Va.c := by rw [List.map_set]

theorem tableSameN (nl nl' : Option Bool) (own own' : Bool) (a b : List Va) (at_ : UInt8) : PCallN Tryd.prog 4 [.sl 3 nl own (a.map Va.c), .sl 3 nl' own' (b.map Va.c), .int .u8 at_.toNat] (.bool true) := by
  have hnp : ∀ x, x ∈ [AV.sl 3 nl own (a.map Va.c), .sl 3 nl' own' (b.map Va.c), .int .u8 at_.toNat] → NP (fun _ => False) x := np_cons (np_words _) (np_cons (np_words _) (np_cons (.int _ _) np_nil))
  by_cases hw : a.length ≤ 10
  · have h1 : decide ((((a.map Va.c).length : Nat) : Int) > 10) = false := decide_eq_false (by rw [List.length_map]; omega)
    by_cases hb : b.length ≤ 10
    · have h2 : decide ((((b.map Va.c).length : Nat) : Int) > 10) = false := decide_eq_false (by rw [List.length_map]; omega)
      have lv : (a.map Va.of).length ≤ 10 := by rw [List.length_map]; exact hw
      have lb : (b.map Va.of).length ≤ 10 := by rw [List.length_map]; exact hb
      have va := valuesN nl false a (by omega)
      have vb := valuesN nl' false b (by omega)
      generalize a.map Va.of = x at lv va
      generalize b.map Va.of = y at lb vb
      cases x with
      | nil =>
        refine PCallN.of (tr []) f4 (Nat.le_of_ble_eq_true rfl) hnp (.bool _) ?_
        refine call_p noughtsN ?_
        repeat (first | refine guard_t rfl ?_ | refine guard_f (by decide) ?_)
        refine guard_t h1 ?_
        rw [h1]
        repeat (first | refine guard_t rfl ?_ | refine guard_f (by decide) ?_)
        refine cond_f h2 ?_
        refine call_p va ?_
        refine call_p vb ?_
        refine And.intro (.inr ⟨rfl, rfl⟩) (And.intro (.inl rfl) (And.intro (by simp) ?_))
        refine cond_t rfl ?_
        refine call_p (PCallN.weakArgs (.cons _ _ _ _ (.refl _) (.cons _ _ _ _ (.nil 0 3 true false none (by simp)) .nil)) (np_cons (np_words []) (np_cons np_nilsl np_nil)) (tSameN none none false false [] [] (by simp))) ?_
        repeat (first | refine guard_t rfl ?_ | refine guard_f (by decide) ?_)
        refine call_p (tSameN none none false false [] y (by simp)) ?_
        repeat (first | refine guard_t rfl ?_ | refine guard_f (by decide) ?_)
        refine bool_eq ?_
        cases y with
        | nil => rfl
        | cons v r =>
          rw [decide_eq_false (by simp)]
          rw [List.length_map]
          have : (((v :: r).length : Int) == 0) = false := beq_eq_false_iff_ne.2 (by rw [List.length_cons]; omega)
          rw [this]
          rfl
      | cons v0 r0 =>
        have hx0 : 0 < (v0 :: r0).length := by simp
        have hxd : (v0 :: r0) ≠ (v0 :: r0).drop 1 := fun e => by
          have := congrArg List.length e
          rw [List.length_drop] at this
          omega
        generalize v0 :: r0 = x at hx0 hxd lv va
        refine PCallN.of (tr [1000028, 2000028]) f4 (Nat.le_of_ble_eq_true rfl) hnp (.bool _) ?_
        refine call_p noughtsN ?_
        repeat (first | refine guard_t rfl ?_ | refine guard_f (by decide) ?_)
        refine guard_t h1 ?_
        rw [h1]
        repeat (first | refine guard_t rfl ?_ | refine guard_f (by decide) ?_)
        refine cond_f h2 ?_
        refine call_p va ?_
        refine call_p vb ?_
        refine And.intro rfl (And.intro (.inl rfl) (And.intro (by rw [List.length_map]; exact hx0) (And.intro (by rw [List.length_map]; omega) ?_)))
        refine cond_f (beq_eq_false_iff_ne.2 (by rw [List.length_map]; omega)) ?_
        refine And.intro (by rw [List.length_map]; omega) ?_
        have ha5 := at_.toNat_lt
        have hmod : (IntKind.i64.wrap (at_.toNat : Int)).tmod (((x.map Va.c).length : Nat) : Int) = ((at_.toNat % x.length : Nat) : Int) := by
          rw [i64_in _ (by omega), List.length_map, Int.tmod_eq_emod_of_nonneg (by omega)]
          omega
        have hlt : at_.toNat % x.length < x.length := Nat.mod_lt _ hx0
        rw [hmod]
        generalize at_.toNat % x.length = k at hlt ⊢
        refine And.intro rfl (And.intro ⟨Int.natCast_nonneg _, by rw [List.length_map]; omega⟩ ?_)
        refine Exists.intro (0 + (k : Int).toNat) (Exists.intro 1 (Exists.intro x[k].c (And.intro ⟨rfl, rfl, words_len3 x⟩ (And.intro ?_ ?_))))
        · rw [Nat.zero_add, Int.toNat_natCast]; exact words_get hlt
        refine And.intro rfl (And.intro ⟨Int.natCast_nonneg _, by rw [List.length_map]; omega⟩ ?_)
        refine Exists.intro (0 + (k : Int).toNat) (Exists.intro 1 (Exists.intro x[k].c (And.intro ⟨rfl, by decide, by decide⟩ (And.intro ?_ ?_))))
        · rw [Nat.zero_add, Int.toNat_natCast]; exact words_get hlt
        refine call_p (tSameN _ _ _ _ x x (by omega)) ?_
        rw [decide_eq_true rfl]
        repeat (first | refine guard_t rfl ?_ | refine guard_f (by decide) ?_)
        refine call_p (tSameN _ _ _ _ x y (by omega)) ?_
        repeat (first | refine guard_t rfl ?_ | refine guard_f (by decide) ?_)
        refine call_p (sameLN _ _ _ _ x y (by omega)) ?_
        repeat (first | refine guard_t rfl ?_ | refine guard_f (by decide) ?_)
        refine guard_t (beq_self_eq_true _) ?_
        repeat (first | refine guard_t rfl ?_ | refine guard_f (by decide) ?_)
        have hz : ((((x.map Va.c).set (0 + (k : Int).toNat) (splice x[k].c 1 (AV.int .i64 (IntKind.i64.wrap (x[k].n + 1))).strip.cells)).drop 0).take (x.map Va.c).length) = (x.set k ⟨x[k].k, IntKind.i64.wrap (x[k].n + 1), x[k].s⟩).map Va.c := by
          rw [Nat.zero_add, Int.toNat_natCast]
          show ((((x.map Va.c).set k (Va.c ⟨x[k].k, IntKind.i64.wrap (x[k].n + 1), x[k].s⟩)).drop 0).take (x.map Va.c).length) = _
          rw [words_set, List.drop_zero, List.take_of_length_le (by rw [List.length_map, List.length_map, List.length_set]; exact Nat.le_refl _)]
        have hle : 0 + (x.map Va.c).length ≤ ((x.map Va.c).set (0 + (k : Int).toNat) (splice x[k].c 1 (AV.int .i64 (IntKind.i64.wrap (x[k].n + 1))).strip.cells)).length := by
          rw [List.length_set]; omega
        refine call_s [(67, .bool true), (68, .sl 3 none false (x.map Va.c)), (69, .sl 3 none false ((x.set k ⟨x[k].k, IntKind.i64.wrap (x[k].n + 1), x[k].s⟩).map Va.c)), (7, .sl 3 none false (x.map Va.c))] [.ro []]
          (ShiftS.fz0 _ rfl ⟨.wk _ _ (.refl _), .wk _ _ (.refl _), wkf_bsl rfl hle hz, .wk _ _ (.refl _), trivial⟩) rfl ?_
        have hne : x ≠ x.set k ⟨x[k].k, IntKind.i64.wrap (x[k].n + 1), x[k].s⟩ := by
          intro e
          have h3 := congrArg (fun l => l[k]?) e
          simp only [List.getElem?_eq_getElem hlt, List.getElem?_set_self hlt, Option.some.injEq] at h3
          have h4 := congrArg Va.n h3
          exact wrap_ne _ h4.symm
        refine call_sp (tSameN none none false false x _ (by omega)) ?_
        rw [decide_eq_false hne]
        repeat (first | refine guard_t rfl ?_ | refine guard_f (by decide) ?_)
        refine And.intro (.inl rfl) (And.intro ⟨by decide, by rw [List.length_map]; omega, Int.le_refl _⟩ ?_)
        repeat (first | refine guard_t rfl ?_ | refine guard_f (by decide) ?_)
        have hcut : ((x.map Va.c).drop (1 : Int).toNat).take ((((x.map Va.c).length : Nat) : Int).toNat - (1 : Int).toNat) = (x.drop 1).map Va.c := by
          rw [List.map_drop, List.length_map]
          exact List.take_of_length_le (by simp)
        refine call_p (by rw [hcut]; exact tSameN none none false false x (x.drop 1) (by omega)) ?_
        rw [decide_eq_false hxd]
        repeat (first | refine guard_t rfl ?_ | refine guard_f (by decide) ?_)
        exact bool_eq rfl
    · refine PCallN.of (tr []) f4 (Nat.le_of_ble_eq_true rfl) hnp (.bool _) ?_
      refine call_p noughtsN ?_
      repeat (first | refine guard_t rfl ?_ | refine guard_f (by decide) ?_)
      refine guard_t h1 ?_
      rw [h1]
      repeat (first | refine guard_t rfl ?_ | refine guard_f (by decide) ?_)
      refine cond_t (decide_eq_true (by rw [List.length_map]; omega)) ?_
      refine call_p noughtsN ?_
      exact bool_eq rfl
  · have h1 : decide ((((a.map Va.c).length : Nat) : Int) > 10) = true := decide_eq_true (by rw [List.length_map]; omega)
    refine PCallN.of (tr []) f4 (Nat.le_of_ble_eq_true rfl) hnp (.bool _) ?_
    refine call_p noughtsN ?_
    repeat (first | refine guard_t rfl ?_ | refine guard_f (by decide) ?_)
    refine guard_f (by rw [h1]; decide) ?_
    repeat (first | refine guard_t rfl ?_ | refine guard_f (by decide) ?_)
    refine cond_t rfl ?_
    refine call_p noughtsN ?_
    exact bool_eq rfl

end Go.Proofs.YtmjdoonaidolkaaDoor.V

/- Tables: what the reference makes of forms. -/
namespace Go.Proofs.YtmjdoonaidolkaaDoor.V
open Go.IntWalk Go.Lib

structure Col where
  n : List UInt8
  k : UInt8
  b : Bool
  deriving DecidableEq, Inhabited
def Col.c (x : Col) : List AV := [.str (st x.n), .int .u8 x.k.toNat, .bool x.b]

structure Tab where
  n : List UInt8
  cs : List Col
  ks : Int
  deriving DecidableEq, Inhabited
def Tab.c (t : Tab) : List AV := [.str (st t.n), .sl 3 none false (t.cs.map Col.c), .int .i64 t.ks]

structure Form where
  nl : Bool
  cs : List UInt8
  ks : UInt8
  deriving Inhabited
def Form.c (f : Form) : List AV := [.sl 1 (some f.nl) false (bs f.cs), .int .u8 f.ks.toNat]

theorem Col.np {ok : Nat → Prop} (x : Col) : ∀ a, a ∈ x.c → NP ok a := np_cons (.str _) (np_cons (.int _ _) (np_cons (.bool _) np_nil))
theorem np_cols {ok : Nat → Prop} {sz : Nat} {nl : Option Bool} {own : Bool} (l : List Col) : NP ok (.sl sz nl own (l.map Col.c)) := by
  refine .sl _ _ _ _ fun x hx a ha => ?_
  obtain ⟨w, _, rfl⟩ := List.mem_map.1 hx
  exact w.np a ha
theorem Tab.np {ok : Nat → Prop} (t : Tab) : ∀ a, a ∈ t.c → NP ok a := np_cons (.str _) (np_cons (np_cols _) (np_cons (.int _ _) np_nil))
theorem np_tabs {ok : Nat → Prop} {sz : Nat} {nl : Option Bool} {own : Bool} (l : List Tab) : NP ok (.sl sz nl own (l.map Tab.c)) := by
  refine .sl _ _ _ _ fun x hx a ha => ?_
  obtain ⟨w, _, rfl⟩ := List.mem_map.1 hx
  exact w.np a ha
theorem Form.np {ok : Nat → Prop} (f : Form) : ∀ a, a ∈ f.c → NP ok a := np_cons (np_bs _) (np_cons (.int _ _) np_nil)
theorem np_forms {ok : Nat → Prop} {sz : Nat} {nl : Option Bool} {own : Bool} (l : List Form) : NP ok (.sl sz nl own (l.map Form.c)) := by
  refine .sl _ _ _ _ fun x hx a ha => ?_
  obtain ⟨w, _, rfl⟩ := List.mem_map.1 hx
  exact w.np a ha

theorem map_get {α : Type} {f : α → List AV} {l : List α} {i : Nat} (h : i < l.length) : (l.map f)[i]? = some (f l[i]) := by simp [h]

/-! ### few -/

def fewD (l : List Form) : Bool := (l.all fun f => decide (f.cs.length ≤ 10)) && decide (l.length ≤ 6)

def fwAt (l : List Form) (i : Nat) : List (Nat × AV) := [(0, .sl 2 none false (l.map Form.c)), (3, .int .i64 i)]

/-! ### columns -/

def nmOf (i : Nat) : List UInt8 := [116, u8of (48 + i)]
def preC (cs : List UInt8) (j : Nat) : Col := ⟨[u8of (97 + j)], 1 + (cs.getD j 0) % 2, false⟩
def finC (cs : List UInt8) (ks : Nat) (j : Nat) : Col := ⟨[u8of (97 + j)], 1 + (cs.getD j 0) % 2, decide (ks ≤ j) && decide (2 ≤ (cs.getD j 0) % 4)⟩

def colN (cs : List UInt8) : Nat := min 8 cs.length
def keyNo (cs : List UInt8) (ks : UInt8) : Nat := 1 + ks.toNat % (if cs = [] then 1 else colN cs)
def tabOf (nm : List UInt8) (cs : List UInt8) (ks : UInt8) : Tab :=
  if cs = [] then ⟨nm, [⟨[97], 1, false⟩], 1⟩ else ⟨nm, (List.range (colN cs)).map (finC cs (keyNo cs ks)), keyNo cs ks⟩

def bx0 (cs : List UInt8) (ks : UInt8) : HObj := .cells [.sl 1 none false (bs cs), .int .u8 ks.toNat]
def preL (cs : List UInt8) (k : Nat) : List (List AV) := ((List.range k).map (preC cs)).map Col.c
def nulL (cs : List UInt8) (ks n k : Nat) : List (List AV) := ((List.range n).map fun j => if j < k then finC cs ks j else preC cs j).map Col.c

def tbAt (l : List Form) (acc : List Tab) (i k : Nat) : List (Nat × AV) := [(0, .sl 2 none false (l.map Form.c)), (3, .sl 3 none true (acc.map Tab.c)), (4, .int .i64 i), (5, .ptr (some (0, 0))), (6, .ptr (some (1, 0))), (7, .int .i64 k)]

def tbO (l : List Form) (acc : List Tab) (i : Nat) : List (Nat × AV) := [(0, .sl 2 none false (l.map Form.c)), (3, .sl 3 none true (acc.map Tab.c)), (4, .int .i64 i), (5, .ptr (some (0, 0))), (6, .ptr (some (1, 0)))]

def trT : Nat → Bool := tr [2, 3, 108, 111, 112, 1000054, 1000069]

theorem kind_val (c : UInt8) : IntKind.u8.wrap (1 + ((c.toNat : Int).tmod 2)) = ((1 + c % 2 : UInt8).toNat : Int) := by
  rw [w_u8, Int.tmod_eq_emod_of_nonneg (by omega)]
  have h5 := c.toNat_lt
  simp only [UInt8.toNat_add, UInt8.toNat_mod]
  have e1 : (1 : UInt8).toNat = 1 := rfl
  have e2 : (2 : UInt8).toNat = 2 := rfl
  rw [e1, e2]
  omega

theorem name_val (k : Nat) (h : k < 100) : IntKind.u8.wrap (IntKind.i64.wrap (97 + (k : Int))) = ((u8of (97 + (k : Int))).toNat : Int) := by
  rw [i64_in _ (by omega), u8of_toNat]

theorem name_val48 (k : Nat) (h : k < 100) : IntKind.u8.wrap (IntKind.i64.wrap (48 + (k : Int))) = ((u8of (48 + (k : Int))).toNat : Int) := by
  rw [i64_in _ (by omega), u8of_toNat]

theorem tb1 (l : List Form) (acc : List Tab) (i : Nat) (nm : List UInt8) (cs : List UInt8) (ks : UInt8) (R : VE → Sy → Prop)
    (hR : R (.exit 2) ⟨[], tbO l acc i, [bx0 cs ks, .cells [.str (st nm), .bsl 3 2 0 (preL cs (colN cs)).length, .int .i64 1], .arr 3 (preL cs (colN cs))]⟩) :
    ∀ (g k : Nat), k + g = colN cs → 1 ≤ k → VloopS Tryd.prog trT 113 0 c12b1 (exS R) ⟨[], tbAt l acc i k, [bx0 cs ks, .cells [.str (st nm), .xsl 3 (preL cs k), .int .i64 1]]⟩
  | 0, k, hg, h1 => by
    have hn : colN cs = min 8 cs.length := rfl
    have hk : k = colN cs := by omega
    have hq := hR
    rw [← hk] at hq
    refine VloopS.round ?_
    by_cases hc : cs.length ≤ 8
    · have hlt : decide ((k : Int) < (bs cs).length) = false := decide_eq_false (by rw [bs_len]; omega)
      refine guard_f (by rw [hlt]; decide) ?_
      repeat (first | refine guard_t rfl ?_ | refine guard_f (by decide) ?_)
      refine cond_f rfl ?_
      exact ex_s ((ShiftS.openCell (i := 1) (c1 := [.str (st nm)]) (c3 := [.int .i64 1]) rfl).trans (ShiftS.wk (tbO l acc i) ⟨.wk _ _ (.refl _), .wk _ _ (.refl _), .wk _ _ (.refl _), .wk _ _ (.refl _), .wk _ _ (.refl _), trivial⟩)) hq
    · have hlt : decide ((k : Int) < (bs cs).length) = true := decide_eq_true (by rw [bs_len]; omega)
      refine guard_t hlt ?_
      repeat (first | refine guard_t rfl ?_ | refine guard_f (by decide) ?_)
      refine cond_f (decide_eq_false (by omega)) ?_
      exact ex_s ((ShiftS.openCell (i := 1) (c1 := [.str (st nm)]) (c3 := [.int .i64 1]) rfl).trans (ShiftS.wk (tbO l acc i) ⟨.wk _ _ (.refl _), .wk _ _ (.refl _), .wk _ _ (.refl _), .wk _ _ (.refl _), .wk _ _ (.refl _), trivial⟩)) hq
  | g + 1, k, hg, h1 => by
    have hn : colN cs = min 8 cs.length := rfl
    have hkl : k < cs.length := by omega
    refine VloopS.round ?_
    have hlt : decide ((k : Int) < (bs cs).length) = true := decide_eq_true (by rw [bs_len]; omega)
    refine guard_t hlt ?_
    repeat (first | refine guard_t rfl ?_ | refine guard_f (by decide) ?_)
    refine cond_t (decide_eq_true (by omega)) ?_
    refine cond_f (beq_eq_false_iff_ne.2 (by omega)) ?_
    refine Exists.intro [u8of (97 + k)] (And.intro ?_ ?_)
    · rw [name_val k (by omega)]; exact toBytes_bs [u8of (97 + k)]
    refine And.intro rfl (And.intro (Int.natCast_nonneg k) (Exists.intro _ (And.intro (bs_get hkl) ?_)))
    refine And.intro (by decide) ?_
    have hpl : (preL cs k).length = k := by simp [preL]
    refine And.intro rfl (And.intro (.inl rfl) (And.intro ?_ ?_))
    · rw [hpl, List.length_singleton]; omega
    refine And.intro (by kernel_rfl) ?_
    have hs : preL cs k ++ [[AV.str (st [u8of (97 + (k : Int))]), .int .u8 (IntKind.u8.wrap (1 + ((cs[k].toNat : Int).tmod 2))), .bool false]] = preL cs (k + 1) := by
      have hgd : cs.getD k 0 = cs[k] := by rw [List.getD_eq_getElem?_getD, List.getElem?_eq_getElem hkl]; rfl
      have : preL cs (k + 1) = preL cs k ++ [(preC cs k).c] := by simp [preL, List.range_succ]
      rw [this]
      congr 2
      simp only [Col.c, preC, hgd, kind_val]
    refine VloopS.shift (σ' := ⟨[], tbAt l acc i (k + 1), [bx0 cs ks, .cells [.str (st nm), .xsl 3 (preL cs (k + 1)), .int .i64 1]]⟩) ?_ (Nat.zero_le _) (tb1 l acc i nm cs ks R hR g (k + 1) (by omega) (by omega))
    rw [← hs]
    exact ShiftS.fz (fun _ => none) ⟨.wk _ _ (.refl _), .wk _ _ (.refl _), .wk _ _ (.refl _), .wk _ _ (.refl _), .wk _ _ (.refl _), .wk _ _ (.eq (int_eq (by rw [i64_in _ (by omega)]; omega))), trivial⟩ (.same _ _ _ _ rfl (.same _ _ _ _ rfl (.nil _))) (fun _ _ _ h => by cases h)

def colA : Col := ⟨[97], 1, false⟩

theorem tb1all (l : List Form) (acc : List Tab) (i : Nat) (nm : List UInt8) (cs : List UInt8) (ks : UInt8) (R : VE → Sy → Prop)
    (hE : cs = [] → R (.exit 2) ⟨[], tbO l acc i, [bx0 cs ks, .cells [.str (st nm), .sl 3 none false [colA.c], .int .i64 1]]⟩)
    (hN : cs ≠ [] → R (.exit 2) ⟨[], tbO l acc i, [bx0 cs ks, .cells [.str (st nm), .bsl 3 2 0 (preL cs (colN cs)).length, .int .i64 1], .arr 3 (preL cs (colN cs))]⟩) :
    VloopS Tryd.prog trT 113 0 c12b1 (exS R) ⟨[], tbAt l acc i 0, [bx0 cs ks, .cells [.str (st nm), .sl 3 none false [colA.c], .int .i64 1]]⟩ := by
  have hn : colN cs = min 8 cs.length := rfl
  by_cases hcs : cs = []
  · refine VloopS.round ?_
    have h3 : decide (((0 : Nat) : Int) < ((bs cs).length : Nat)) = false := decide_eq_false (by rw [bs_len, hcs]; decide)
    refine guard_f (by rw [h3]; decide) ?_
    repeat (first | refine guard_t rfl ?_ | refine guard_f (by decide) ?_)
    refine cond_f rfl ?_
    exact ex_s (ShiftS.wk (tbO l acc i) ⟨.wk _ _ (.refl _), .wk _ _ (.refl _), .wk _ _ (.refl _), .wk _ _ (.refl _), .wk _ _ (.refl _), trivial⟩) (hE hcs)
  · have hkl : 0 < cs.length := by
      rcases Nat.eq_zero_or_pos cs.length with h | h
      · exact absurd (List.eq_nil_of_length_eq_zero h) hcs
      · exact h
    refine VloopS.round ?_
    have hlt : decide (((0 : Nat) : Int) < (bs cs).length) = true := decide_eq_true (by rw [bs_len]; omega)
    refine guard_t hlt ?_
    repeat (first | refine guard_t rfl ?_ | refine guard_f (by decide) ?_)
    refine cond_t rfl ?_
    refine cond_t rfl ?_
    refine Exists.intro [u8of (97 + (0 : Nat))] (And.intro ?_ ?_)
    · exact toBytes_bs [u8of (97 + (0 : Nat))]
    refine And.intro rfl (And.intro (Int.natCast_nonneg 0) (Exists.intro _ (And.intro (bs_get hkl) ?_)))
    refine And.intro (by decide) ?_
    refine And.intro rfl (And.intro (.inl rfl) (And.intro (by simp) (And.intro (by simp) ?_)))
    refine And.intro (by kernel_rfl) ?_
    have hs : [[AV.str (st [u8of (97 + ((0 : Nat) : Int))]), AV.int .u8 (IntKind.u8.wrap ((1 : Int) + ((cs[0].toNat : Int).tmod 2))), AV.bool false]] = preL cs (0 + 1) := by
      have hgd : cs.getD 0 0 = cs[0] := by rw [List.getD_eq_getElem?_getD, List.getElem?_eq_getElem hkl]; rfl
      rw [kind_val]
      simp only [preL, List.range_succ, List.range_zero, List.nil_append, List.map_cons, List.map_nil, Col.c, preC, hgd]
    refine VloopS.shift (σ' := ⟨[], tbAt l acc i (0 + 1), [bx0 cs ks, .cells [.str (st nm), .xsl 3 (preL cs (0 + 1)), .int .i64 1]]⟩) ?_ (Nat.zero_le _) (tb1 l acc i nm cs ks R (hN hcs) (colN cs - 1) (0 + 1) (by omega) (by omega))
    rw [← hs]
    exact ShiftS.fz (fun _ => none) ⟨.wk _ _ (.refl _), .wk _ _ (.refl _), .wk _ _ (.refl _), .wk _ _ (.refl _), .wk _ _ (.refl _), .wk _ _ (.refl _), trivial⟩ (.same _ _ _ _ rfl (.same _ _ _ _ rfl (.nil _))) (fun _ _ _ h => by cases h)

def tb0At (l : List Form) (acc : List Tab) (i k : Nat) : List (Nat × AV) := [(0, .sl 2 none false (l.map Form.c)), (3, .sl 3 none true (acc.map Tab.c)), (4, .int .i64 i), (5, .ptr (some (0, 0))), (6, .ptr (some (1, 0))), (8, .int .i64 k)]

def tbOut (l : List Form) (acc : List Tab) (i : Nat) : List (Nat × AV) := [(0, .sl 2 none false (l.map Form.c)), (3, .sl 3 none true (acc.map Tab.c)), (4, .int .i64 i), (6, .ptr (some (1, 0)))]

theorem nulL_len (cs : List UInt8) (ks n k : Nat) : (nulL cs ks n k).length = n := by simp [nulL]

theorem cols_len3 (l : List Col) : ∀ x, x ∈ l.map Col.c → x.length = 3 := by
  intro x hx
  obtain ⟨v, _, rfl⟩ := List.mem_map.1 hx
  rfl

theorem nulL_get {cs : List UInt8} {ks n k : Nat} (h : k < n) : (nulL cs ks n k)[k]? = some (preC cs k).c := by
  simp [nulL, h]

theorem nulL_set {cs : List UInt8} {ks n k : Nat} (h : k < n) : (nulL cs ks n k).set k (finC cs ks k).c = nulL cs ks n (k + 1) := by
  unfold nulL
  rw [← List.map_set]
  congr 1
  refine List.ext_getElem? fun j => ?_
  rw [List.getElem?_set]
  by_cases e : k = j
  · subst e
    simp [h]
  · rw [if_neg e]
    simp only [List.getElem?_map]
    by_cases hj : j < n
    · rw [List.getElem?_range hj]
      simp only [Option.map_some, Option.some.injEq]
      by_cases h2 : j < k
      · rw [if_pos h2, if_pos (by omega)]
      · rw [if_neg h2, if_neg (by omega)]
    · rw [List.getElem?_eq_none (by simpa using hj)]; rfl

theorem nul_first (cs : List UInt8) (ks n : Nat) : nulL cs ks n ks = preL cs n := by
  unfold nulL preL
  congr 1
  refine List.map_congr_left fun j _ => ?_
  split
  · rename_i h
    simp only [finC, preC, Col.mk.injEq, true_and]
    rw [decide_eq_false (by omega)]
    rfl
  · rfl

theorem nul_last (cs : List UInt8) (ks n : Nat) : nulL cs ks n n = ((List.range n).map (finC cs ks)).map Col.c := by
  unfold nulL
  congr 1
  refine List.map_congr_left fun j hj => ?_
  rw [if_pos (by simpa using hj)]

theorem null_val (c : UInt8) : decide (((c.toNat : Int).tmod 4) ≥ 2) = decide (2 ≤ c % 4) := by
  rw [Int.tmod_eq_emod_of_nonneg (by omega), decide_eq_decide]
  have h5 := c.toNat_lt
  rw [UInt8.le_iff_toNat_le, UInt8.toNat_mod]
  have e1 : (4 : UInt8).toNat = 4 := rfl
  have e2 : (2 : UInt8).toNat = 2 := rfl
  rw [e1, e2]
  omega

theorem tb0 (l : List Form) (acc : List Tab) (i : Nat) (nm : List UInt8) (cs : List UInt8) (ks : UInt8) (kn : Nat) (R : VE → Sy → Prop)
    (hR : R (.exit 4) ⟨[], tbOut l acc i, [bx0 cs ks, .cells [.str (st nm), .sl 3 none false (nulL cs kn (colN cs) (colN cs)), .int .i64 kn], .ro []]⟩) :
    ∀ (g k : Nat), k + g = colN cs → kn ≤ k → VloopS Tryd.prog trT 113 0 c12b0 (exS R) ⟨[], tb0At l acc i k, [bx0 cs ks, .cells [.str (st nm), .bsl 3 2 0 (colN cs), .int .i64 kn], .arr 3 (nulL cs kn (colN cs) k)]⟩
  | 0, k, hg, h1 => by
    have hn : colN cs = min 8 cs.length := rfl
    have hk : k = colN cs := by omega
    have hq := hR
    refine VloopS.round ?_
    have hlt : decide ((k : Int) < (colN cs : Nat)) = false := decide_eq_false (by omega)
    refine guard_f (by rw [hlt]; decide) ?_
    repeat (first | refine guard_t rfl ?_ | refine guard_f (by decide) ?_)
    refine cond_f rfl ?_
    refine ex_s (ShiftS.fz (fzOf [(2, 3, nulL cs kn (colN cs) (colN cs))]) (l := tbOut l acc i) ⟨.wk _ _ (.refl _), .wk _ _ (.refl _), .wk _ _ (.refl _), .wk _ _ (.refl _), trivial⟩
      (.same _ _ _ _ rfl (.cells _ _ _ _ _ rfl (.cons _ _ _ _ (.wk _ _ (.refl _)) (.cons _ _ _ _ (wkf_bsl rfl (by rw [nulL_len]; omega) ?_) (WkFL.of _))) (.fz _ _ _ _ _ (by rw [hk]; rfl) (.nil _)))) ?_) hq
    · rw [List.drop_zero, List.take_of_length_le (by rw [nulL_len]; exact Nat.le_refl _)]
    · intro j sz xs h
      obtain ⟨rfl, rfl, rfl⟩ := fzOf_one h
      rw [hk]; rfl
  | g + 1, k, hg, h1 => by
    have hn : colN cs = min 8 cs.length := rfl
    have hkl : k < cs.length := by omega
    refine VloopS.round ?_
    have hlt : decide ((k : Int) < (colN cs : Nat)) = true := decide_eq_true (by omega)
    refine guard_t hlt ?_
    rw [hlt]
    repeat (first | refine guard_t rfl ?_ | refine guard_f (by decide) ?_)
    refine cond_t (decide_eq_true (by rw [bs_len]; omega)) ?_
    refine And.intro rfl (And.intro (Int.natCast_nonneg k) (Exists.intro _ (And.intro (bs_get hkl) ?_)))
    refine And.intro (by decide) ?_
    refine And.intro rfl (And.intro ⟨Int.natCast_nonneg _, by omega⟩ ?_)
    refine Exists.intro (0 + (k : Int).toNat) (Exists.intro 2 (Exists.intro (preC cs k).c (And.intro ⟨rfl, by decide, by decide⟩ (And.intro ?_ ?_))))
    · rw [Nat.zero_add, Int.toNat_natCast]; exact nulL_get (by omega)
    refine And.intro (by kernel_rfl) ?_
    have hset : (nulL cs kn (colN cs) k).set (0 + (k : Int).toNat) (splice (preC cs k).c 2 [.bool (decide (((cs[k].toNat : Int).tmod 4) ≥ 2))]) = nulL cs kn (colN cs) (k + 1) := by
      have hgd : cs.getD k 0 = cs[k] := by rw [List.getD_eq_getElem?_getD, List.getElem?_eq_getElem hkl]; rfl
      rw [Nat.zero_add, Int.toNat_natCast, ← nulL_set (by omega)]
      congr 1
      show [_, _, _] = _
      simp only [finC, preC, Col.c, hgd, null_val]
      rw [decide_eq_true h1, Bool.true_and]
    refine VloopS.shift (σ' := ⟨[], tb0At l acc i (k + 1), [bx0 cs ks, .cells [.str (st nm), .bsl 3 2 0 (colN cs), .int .i64 kn], .arr 3 (nulL cs kn (colN cs) (k + 1))]⟩) ?_ (Nat.zero_le _) (tb0 l acc i nm cs ks kn R hR g (k + 1) (by omega) (by omega))
    rw [← hset]
    exact ShiftS.fz (fun _ => none) ⟨.wk _ _ (.refl _), .wk _ _ (.refl _), .wk _ _ (.refl _), .wk _ _ (.refl _), .wk _ _ (.refl _), .wk _ _ (.eq (int_eq (by rw [i64_in _ (by omega)]; omega))), trivial⟩ (.same _ _ _ _ rfl (.same _ _ _ _ rfl (.same _ _ _ _ rfl (.nil _)))) (fun _ _ _ h => by cases h)

def tabAt (l : List Form) (i : Nat) : Tab := match l[i]? with
  | some f => tabOf (nmOf i) f.cs f.ks
  | none => tabOf (nmOf i) [] 0

def tabN (l : List Form) : Nat := max 1 (min 4 l.length)
def tables (l : List Form) : List Tab := (List.range (tabN l)).map (tabAt l)

def tbLo (l : List Form) (acc : List Tab) (i : Nat) : List (Nat × AV) := [(0, .sl 2 none false (l.map Form.c)), (3, .sl 3 none true (acc.map Tab.c)), (4, .int .i64 i)]

theorem tbLo_np (l : List Form) (acc : List Tab) (i : Nat) : ∀ p, p ∈ tbLo l acc i → NP (fun i => i < ([] : List HObj).length) p.2 := by
  intro p hp
  simp only [tbLo, List.mem_cons, List.not_mem_nil, or_false] at hp
  rcases hp with rfl | rfl | rfl
  · exact np_forms _
  · exact np_tabs _
  · exact .int _ _

theorem key_mod (a n : Nat) (ha : a < 256) : IntKind.i64.wrap (1 + (IntKind.i64.wrap (a : Int)).tmod (n : Int)) = ((1 + a % n : Nat) : Int) := by
  rw [i64_in (a : Int) (by omega), Int.tmod_eq_emod_of_nonneg (by omega)]
  have := Nat.mod_le a n
  rw [i64_in _ (by omega)]
  omega

theorem tbLoop (l : List Form) (R : VE → Sy → Prop) (hR : R (.exit 0) ⟨[], [(3, .sl 3 none true ((tables l).map Tab.c))], []⟩) :
    ∀ (g i : Nat), i + g = tabN l → VloopS Tryd.prog trT 113 0 c12b2 (exW 113 R) ⟨[], tbLo l ((List.range i).map (tabAt l)) i, []⟩
  | 0, i, hg => by
    have hn : tabN l = max 1 (min 4 l.length) := rfl
    have hi : i = tabN l := by omega
    refine VloopS.round ?_
    by_cases h4 : i < 4
    · have h1 : decide ((i : Int) < 4) = true := decide_eq_true (by omega)
      refine guard_t h1 ?_
      repeat (first | refine guard_t rfl ?_ | refine guard_f (by decide) ?_)
      have h2 : decide ((i : Int) < (l.map Form.c).length) = false := decide_eq_false (by rw [List.length_map]; omega)
      refine guard_t h2 ?_
      rw [h2]
      repeat (first | refine guard_t rfl ?_ | refine guard_f (by decide) ?_)
      refine cond_f (beq_eq_false_iff_ne.2 (by omega)) ?_
      refine ex_w hR rfl ⟨.eq (sl_eq ?_), trivial⟩ rfl
      rw [hi]; rfl
    · have h1 : decide ((i : Int) < 4) = false := decide_eq_false (by omega)
      refine guard_f (by rw [h1]; decide) ?_
      repeat (first | refine guard_t rfl ?_ | refine guard_f (by decide) ?_)
      refine cond_f rfl ?_
      refine ex_w hR rfl ⟨.eq (sl_eq ?_), trivial⟩ rfl
      rw [hi]; rfl
  | g + 1, i, hg => by
    have hn : tabN l = max 1 (min 4 l.length) := rfl
    refine VloopS.round ?_
    have h1 : decide ((i : Int) < 4) = true := decide_eq_true (by omega)
    refine guard_t h1 ?_
    repeat (first | refine guard_t rfl ?_ | refine guard_f (by decide) ?_)
    by_cases hl : i < l.length
    · have h2 : decide ((i : Int) < (l.map Form.c).length) = true := decide_eq_true (by rw [List.length_map]; omega)
      refine guard_f (by rw [h2]; decide) ?_
      repeat (first | refine guard_t rfl ?_ | refine guard_f (by decide) ?_)
      refine cond_t rfl ?_
      refine cond_t h2 ?_
      refine And.intro rfl (And.intro (Int.natCast_nonneg i) (Exists.intro _ (And.intro (map_get hl) ?_)))
      have htab : tabAt l i = tabOf (nmOf i) l[i].cs l[i].ks := by unfold tabAt; rw [List.getElem?_eq_getElem hl]
      refine Exists.intro (nmOf i) (And.intro ?_ ?_)
      · have e := name_val48 i (by omega)
        show toBytes [[AV.int .u8 116], [AV.int .u8 (IntKind.u8.wrap (IntKind.i64.wrap (48 + (i : Int))))]] = _
        rw [e]
        exact toBytes_bs (nmOf i)
      refine VloopS.shift (σ' := ⟨[], tbAt l ((List.range i).map (tabAt l)) i 0, [bx0 l[i].cs l[i].ks, .cells [.str (st (nmOf i)), .sl 3 none false [colA.c], .int .i64 1]]⟩)
        (ShiftS.fz (fun _ => none) ⟨.wk _ _ (.refl _), .wk _ _ (.refl _), .wk _ _ (.refl _), .wk _ _ (.refl _), .wk _ _ (.refl _), .wk _ _ (.refl _), trivial⟩ (.cells _ _ _ _ _ rfl (.cons _ _ _ _ (.wk _ _ (.nl _ _ _ _)) (WkFL.of _)) (.cells _ _ _ _ _ rfl (.cons _ _ _ _ (.wk _ _ (.refl _)) (.cons _ _ _ _ (.wk _ _ (.nl _ _ _ _)) (WkFL.of _))) (.nil _))) (fun _ _ _ h => by cases h)) (Nat.zero_le _) ?_
      refine VloopS.exS (tb1all l _ i (nmOf i) l[i].cs l[i].ks _ ?_ ?_)
      · intro hcs
        refine And.intro (by decide) ?_
        have hkey : IntKind.i64.wrap (1 + (IntKind.i64.wrap (l[i].ks.toNat : Int)).tmod ((1 : Nat) : Int)) = 1 := by
          have := key_mod l[i].ks.toNat 1 l[i].ks.toNat_lt
          rw [this, Nat.mod_one]; rfl
        refine VloopS.round ?_
        have h5 : decide (IntKind.i64.wrap (1 + (IntKind.i64.wrap (l[i].ks.toNat : Int)).tmod ((1 : Nat) : Int)) < ((1 : Nat) : Int)) = false := by rw [hkey]; decide
        refine guard_f (fun e => Bool.noConfusion (h5.symm.trans e)) ?_
        repeat (first | refine guard_t rfl ?_ | refine guard_f (by decide) ?_)
        refine cond_f rfl ?_
        have ht : tabAt l i = ⟨nmOf i, [colA], 1⟩ := by rw [htab]; unfold tabOf; rw [if_pos hcs]; rfl
        refine And.intro (.inl ⟨rfl, rfl⟩) (And.intro (.inl rfl) (And.intro (by simp only [List.length_map, List.length_range, List.length_cons, List.length_nil]; omega) ?_))
        refine VloopS.weakBox (l := tbLo l ((List.range (i + 1)).map (tabAt l)) (i + 1)) (h := []) (ex := _) rfl ⟨.refl _, .eq (sl_eq ?_), .eq (int_eq (by rw [i64_in _ (by omega)]; omega)), trivial⟩ rfl (Nat.zero_le _) (tbLo_np l _ (i + 1)) (by simp) (tbLoop l R hR g (i + 1) (by omega))
        rw [List.range_succ, List.map_append, List.map_append, List.map_cons, List.map_nil, ht]
        show _ ++ [[AV.str _, _, AV.int .i64 (IntKind.i64.wrap (1 + (IntKind.i64.wrap (l[i].ks.toNat : Int)).tmod ((1 : Nat) : Int)))]] = _
        rw [hkey]
        rfl
      · intro hcs
        have hkl : 0 < (l[i].cs).length := by
          rcases Nat.eq_zero_or_pos (l[i].cs).length with h | h
          · exact absurd (List.eq_nil_of_length_eq_zero h) hcs
          · exact h
        have hcn : colN (l[i].cs) = min 8 (l[i].cs).length := rfl
        have hpl : (preL (l[i].cs) (colN (l[i].cs))).length = colN (l[i].cs) := by simp [preL]
        refine And.intro (by rw [hpl]; omega) ?_
        have hkn : keyNo (l[i].cs) (l[i].ks) = 1 + (l[i].ks).toNat % colN (l[i].cs) := by unfold keyNo; rw [if_neg hcs]
        have hkey : IntKind.i64.wrap (1 + (IntKind.i64.wrap ((l[i].ks).toNat : Int)).tmod (((preL (l[i].cs) (colN (l[i].cs))).length : Nat) : Int)) = (keyNo (l[i].cs) (l[i].ks) : Nat) := by
          rw [hpl, key_mod (l[i].ks).toNat _ (l[i].ks).toNat_lt, hkn]
        have hlk := Nat.mod_lt (l[i].ks).toNat (show 0 < colN (l[i].cs) by omega)
        refine VloopS.shift (σ' := ⟨[], tb0At l ((List.range i).map (tabAt l)) i (keyNo (l[i].cs) (l[i].ks)), [bx0 (l[i].cs) (l[i].ks), .cells [.str (st (nmOf i)), .bsl 3 2 0 (colN (l[i].cs)), .int .i64 (keyNo (l[i].cs) (l[i].ks) : Nat)], .arr 3 (nulL (l[i].cs) (keyNo (l[i].cs) (l[i].ks)) (colN (l[i].cs)) (keyNo (l[i].cs) (l[i].ks)))]⟩) ?_ (Nat.zero_le _) ?_
        · have h2 : HObj.arr 3 (preL (l[i].cs) (colN (l[i].cs))) = HObj.arr 3 (nulL (l[i].cs) (keyNo (l[i].cs) (l[i].ks)) (colN (l[i].cs)) (keyNo (l[i].cs) (l[i].ks))) := by rw [nul_first]
          rw [← h2]
          exact ShiftS.fz (fun _ => none) ⟨.wk _ _ (.refl _), .wk _ _ (.refl _), .wk _ _ (.refl _), .wk _ _ (.refl _), .wk _ _ (.refl _), .wk _ _ (.eq (int_eq hkey)), trivial⟩ (.same _ _ _ _ rfl (.cells _ _ _ _ _ rfl (.cons _ _ _ _ (.wk _ _ (.refl _)) (.cons _ _ _ _ (.wk _ _ (.eq (by rw [hpl]))) (.cons _ _ _ _ (.wk _ _ (.eq (int_eq hkey))) .nil))) (.same _ _ _ _ rfl (.nil _)))) (fun _ _ _ h => by cases h)
        · refine VloopS.exS (tb0 l _ i (nmOf i) (l[i].cs) (l[i].ks) (keyNo (l[i].cs) (l[i].ks)) _ ?_ (colN (l[i].cs) - keyNo (l[i].cs) (l[i].ks)) (keyNo (l[i].cs) (l[i].ks)) (by omega) (Nat.le_refl _))
          have ht : tabAt l i = ⟨nmOf i, (List.range (colN (l[i].cs))).map (finC (l[i].cs) (keyNo (l[i].cs) (l[i].ks))), keyNo (l[i].cs) (l[i].ks)⟩ := by rw [htab]; unfold tabOf; rw [if_neg hcs]
          refine And.intro (.inl ⟨rfl, rfl⟩) (And.intro (.inl rfl) (And.intro (by simp only [List.length_map, List.length_range, List.length_cons, List.length_nil]; omega) ?_))
          refine VloopS.weakBox (l := tbLo l ((List.range (i + 1)).map (tabAt l)) (i + 1)) (h := []) (ex := _) rfl ⟨.refl _, .eq (sl_eq ?_), .eq (int_eq (by rw [i64_in _ (by omega)]; omega)), trivial⟩ rfl (Nat.zero_le _) (tbLo_np l _ (i + 1)) (by simp) (tbLoop l R hR g (i + 1) (by omega))
          rw [List.range_succ, List.map_append, List.map_append, List.map_cons, List.map_nil, ht]
          show _ ++ [[AV.str _, AV.sl 3 none false (nulL (l[i].cs) (keyNo (l[i].cs) (l[i].ks)) (colN (l[i].cs)) (colN (l[i].cs))), _]] = _
          rw [nul_last]
          rfl
    · have h2 : decide ((i : Int) < (l.map Form.c).length) = false := decide_eq_false (by rw [List.length_map]; omega)
      have hi0 : i = 0 := by omega
      refine guard_t h2 ?_
      rw [h2]
      repeat (first | refine guard_t rfl ?_ | refine guard_f (by decide) ?_)
      refine cond_t (by rw [hi0]; rfl) ?_
      refine cond_f h2 ?_
      have htab : tabAt l i = tabOf (nmOf i) [] 0 := by unfold tabAt; rw [List.getElem?_eq_none (by omega)]
      refine Exists.intro (nmOf i) (And.intro ?_ ?_)
      · have e := name_val48 i (by omega)
        show toBytes [[AV.int .u8 116], [AV.int .u8 (IntKind.u8.wrap (IntKind.i64.wrap (48 + (i : Int))))]] = _
        rw [e]
        exact toBytes_bs (nmOf i)
      refine VloopS.shift (σ' := ⟨[], tbAt l ((List.range i).map (tabAt l)) i 0, [bx0 ([] : List UInt8) (0 : UInt8), .cells [.str (st (nmOf i)), .sl 3 none false [colA.c], .int .i64 1]]⟩)
        (ShiftS.fz (fun _ => none) ⟨.wk _ _ (.refl _), .wk _ _ (.refl _), .wk _ _ (.refl _), .wk _ _ (.refl _), .wk _ _ (.refl _), .wk _ _ (.refl _), trivial⟩ (.cells _ _ _ _ _ rfl (.cons _ _ _ _ (.wk _ _ (.nil _ _ _ _ _ (by simp))) (WkFL.of _)) (.cells _ _ _ _ _ rfl (.cons _ _ _ _ (.wk _ _ (.refl _)) (.cons _ _ _ _ (.wk _ _ (.nl _ _ _ _)) (WkFL.of _))) (.nil _))) (fun _ _ _ h => by cases h)) (Nat.zero_le _) ?_
      refine VloopS.exS (tb1all l _ i (nmOf i) ([] : List UInt8) (0 : UInt8) _ ?_ ?_)
      · intro hcs
        refine And.intro (by decide) ?_
        have hkey : IntKind.i64.wrap (1 + (IntKind.i64.wrap ((0 : UInt8).toNat : Int)).tmod ((1 : Nat) : Int)) = 1 := by
          have := key_mod (0 : UInt8).toNat 1 (0 : UInt8).toNat_lt
          rw [this, Nat.mod_one]; rfl
        refine VloopS.round ?_
        have h5 : decide (IntKind.i64.wrap (1 + (IntKind.i64.wrap ((0 : UInt8).toNat : Int)).tmod ((1 : Nat) : Int)) < ((1 : Nat) : Int)) = false := by rw [hkey]; decide
        refine guard_f (fun e => Bool.noConfusion (h5.symm.trans e)) ?_
        repeat (first | refine guard_t rfl ?_ | refine guard_f (by decide) ?_)
        refine cond_f rfl ?_
        have ht : tabAt l i = ⟨nmOf i, [colA], 1⟩ := by rw [htab]; unfold tabOf; rw [if_pos hcs]; rfl
        refine And.intro (.inl ⟨rfl, rfl⟩) (And.intro (.inl rfl) (And.intro (by simp only [List.length_map, List.length_range, List.length_cons, List.length_nil]; omega) ?_))
        refine VloopS.weakBox (l := tbLo l ((List.range (i + 1)).map (tabAt l)) (i + 1)) (h := []) (ex := _) rfl ⟨.refl _, .eq (sl_eq ?_), .eq (int_eq (by rw [i64_in _ (by omega)]; omega)), trivial⟩ rfl (Nat.zero_le _) (tbLo_np l _ (i + 1)) (by simp) (tbLoop l R hR g (i + 1) (by omega))
        rw [List.range_succ, List.map_append, List.map_append, List.map_cons, List.map_nil, ht]
        show _ ++ [[AV.str _, _, AV.int .i64 (IntKind.i64.wrap (1 + (IntKind.i64.wrap ((0 : UInt8).toNat : Int)).tmod ((1 : Nat) : Int)))]] = _
        rw [hkey]
        rfl
      · intro hcs
        have hkl : 0 < (([] : List UInt8)).length := by
          rcases Nat.eq_zero_or_pos (([] : List UInt8)).length with h | h
          · exact absurd (List.eq_nil_of_length_eq_zero h) hcs
          · exact h
        have hcn : colN (([] : List UInt8)) = min 8 (([] : List UInt8)).length := rfl
        have hpl : (preL (([] : List UInt8)) (colN (([] : List UInt8)))).length = colN (([] : List UInt8)) := by simp [preL]
        refine And.intro (by rw [hpl]; omega) ?_
        have hkn : keyNo (([] : List UInt8)) ((0 : UInt8)) = 1 + ((0 : UInt8)).toNat % colN (([] : List UInt8)) := by unfold keyNo; rw [if_neg hcs]
        have hkey : IntKind.i64.wrap (1 + (IntKind.i64.wrap (((0 : UInt8)).toNat : Int)).tmod (((preL (([] : List UInt8)) (colN (([] : List UInt8)))).length : Nat) : Int)) = (keyNo (([] : List UInt8)) ((0 : UInt8)) : Nat) := by
          rw [hpl, key_mod ((0 : UInt8)).toNat _ ((0 : UInt8)).toNat_lt, hkn]
        have hlk := Nat.mod_lt ((0 : UInt8)).toNat (show 0 < colN (([] : List UInt8)) by omega)
        refine VloopS.shift (σ' := ⟨[], tb0At l ((List.range i).map (tabAt l)) i (keyNo (([] : List UInt8)) ((0 : UInt8))), [bx0 (([] : List UInt8)) ((0 : UInt8)), .cells [.str (st (nmOf i)), .bsl 3 2 0 (colN (([] : List UInt8))), .int .i64 (keyNo (([] : List UInt8)) ((0 : UInt8)) : Nat)], .arr 3 (nulL (([] : List UInt8)) (keyNo (([] : List UInt8)) ((0 : UInt8))) (colN (([] : List UInt8))) (keyNo (([] : List UInt8)) ((0 : UInt8))))]⟩) ?_ (Nat.zero_le _) ?_
        · have h2 : HObj.arr 3 (preL (([] : List UInt8)) (colN (([] : List UInt8)))) = HObj.arr 3 (nulL (([] : List UInt8)) (keyNo (([] : List UInt8)) ((0 : UInt8))) (colN (([] : List UInt8))) (keyNo (([] : List UInt8)) ((0 : UInt8)))) := by rw [nul_first]
          rw [← h2]
          exact ShiftS.fz (fun _ => none) ⟨.wk _ _ (.refl _), .wk _ _ (.refl _), .wk _ _ (.refl _), .wk _ _ (.refl _), .wk _ _ (.refl _), .wk _ _ (.eq (int_eq hkey)), trivial⟩ (.same _ _ _ _ rfl (.cells _ _ _ _ _ rfl (.cons _ _ _ _ (.wk _ _ (.refl _)) (.cons _ _ _ _ (.wk _ _ (.eq (by rw [hpl]))) (.cons _ _ _ _ (.wk _ _ (.eq (int_eq hkey))) .nil))) (.same _ _ _ _ rfl (.nil _)))) (fun _ _ _ h => by cases h)
        · refine VloopS.exS (tb0 l _ i (nmOf i) (([] : List UInt8)) ((0 : UInt8)) (keyNo (([] : List UInt8)) ((0 : UInt8))) _ ?_ (colN (([] : List UInt8)) - keyNo (([] : List UInt8)) ((0 : UInt8))) (keyNo (([] : List UInt8)) ((0 : UInt8))) (by omega) (Nat.le_refl _))
          have ht : tabAt l i = ⟨nmOf i, (List.range (colN (([] : List UInt8)))).map (finC (([] : List UInt8)) (keyNo (([] : List UInt8)) ((0 : UInt8)))), keyNo (([] : List UInt8)) ((0 : UInt8))⟩ := by rw [htab]; unfold tabOf; rw [if_neg hcs]
          refine And.intro (.inl ⟨rfl, rfl⟩) (And.intro (.inl rfl) (And.intro (by simp only [List.length_map, List.length_range, List.length_cons, List.length_nil]; omega) ?_))
          refine VloopS.weakBox (l := tbLo l ((List.range (i + 1)).map (tabAt l)) (i + 1)) (h := []) (ex := _) rfl ⟨.refl _, .eq (sl_eq ?_), .eq (int_eq (by rw [i64_in _ (by omega)]; omega)), trivial⟩ rfl (Nat.zero_le _) (tbLo_np l _ (i + 1)) (by simp) (tbLoop l R hR g (i + 1) (by omega))
          rw [List.range_succ, List.map_append, List.map_append, List.map_cons, List.map_nil, ht]
          show _ ++ [[AV.str _, AV.sl 3 none false (nulL (([] : List UInt8)) (keyNo (([] : List UInt8)) ((0 : UInt8))) (colN (([] : List UInt8))) (colN (([] : List UInt8)))), _]] = _
          rw [nul_last]
          rfl

end Go.Proofs.YtmjdoonaidolkaaDoor.V

/- Few forms; the tables made of them; rows that fit; a row's key. -/
namespace Go.Proofs.YtmjdoonaidolkaaDoor.V
open Go.IntWalk Go.Lib

theorem fwLoop (l : List Form) (hl : l.length ≤ 9223372036854775807) (R : VE → Sy → Prop) (hT : (l.all fun f => decide (f.cs.length ≤ 10)) = true → R (.exit 0) ⟨[], [(0, .sl 2 none false (l.map Form.c))], []⟩) (hF : (l.all fun f => decide (f.cs.length ≤ 10)) = false → R .ret ⟨[], [(2, .bool false)], []⟩) :
    ∀ (g i : Nat), i + g = l.length → ((l.take i).all fun f => decide (f.cs.length ≤ 10)) = true → VloopS Tryd.prog (tr []) 20 0 c11b0 (exW 20 R) ⟨[], fwAt l i, []⟩
  | 0, i, hg, he => by
    refine VloopS.round ?_
    refine cond_f (decide_eq_false (by rw [List.length_map]; omega)) ?_
    rw [List.take_of_length_le (by omega)] at he
    exact ex_w (hT he) rfl ⟨.refl _, trivial⟩ rfl
  | g + 1, i, hg, he => by
    have hlt : i < l.length := by omega
    refine VloopS.round ?_
    refine cond_t (decide_eq_true (by rw [List.length_map]; omega)) ?_
    refine And.intro rfl (And.intro (Int.natCast_nonneg i) (Exists.intro _ (And.intro (map_get hlt) ?_)))
    by_cases h : l[i].cs.length ≤ 10
    · refine cond_f (decide_eq_false (by rw [bs_len]; omega)) ?_
      refine VloopS.weakE (l := fwAt l (i + 1)) (h := []) rfl ⟨.refl _, .eq (int_eq ?_), trivial⟩ rfl (Nat.zero_le _) (fwLoop l hl R hT hF g (i + 1) (by omega) ?_)
      · rw [i64_in _ (by omega)]; omega
      · rw [take_snoc l i hlt, List.all_append, he]
        simp [h]
    · refine cond_t (decide_eq_true (by rw [bs_len]; omega)) ?_
      refine ex_w (hF ?_) rfl ⟨.refl _, trivial⟩ rfl
      rw [List.all_eq_false]
      exact ⟨l[i], List.getElem_mem hlt, by simpa using h⟩

theorem fewN (nl : Option Bool) (own : Bool) (l : List Form) (hl : l.length ≤ 9223372036854775807) : PCallN Tryd.prog 11 [.sl 2 nl own (l.map Form.c)] (.bool (fewD l)) := by
  refine PCallN.of (tr []) f11 (Nat.le_of_ble_eq_true rfl) (np_cons (np_forms _) np_nil) (.bool _) ?_
  refine VloopS.weakE (l := fwAt l 0) rfl ⟨.both _ _ _ _, .eq (int_eq rfl), trivial⟩ rfl (Nat.zero_le _) (VloopS.exW (fwLoop l hl _ ?_ ?_ l.length 0 (by omega) rfl))
  · intro h
    refine bool_eq ?_
    rw [fewD, h, Bool.true_and, decide_eq_decide, List.length_map]
    omega
  · intro h
    refine bool_eq ?_
    rw [fewD, h, Bool.false_and]

theorem tablesN (nl : Option Bool) (own : Bool) (l : List Form) : PCallN Tryd.prog 12 [.sl 2 nl own (l.map Form.c)] (.sl 3 none true ((tables l).map Tab.c)) := by
  refine PCallN.of trT f12 (Nat.le_of_ble_eq_true rfl) (np_cons (np_forms _) np_nil) (np_tabs _) ?_
  refine VloopS.weakE (l := tbLo l ((List.range 0).map (tabAt l)) 0) rfl ⟨.both _ _ _ _, .nil _ _ _ _ _ (by simp), .eq (int_eq rfl), trivial⟩ rfl (Nat.zero_le _) (VloopS.exW (tbLoop l _ ?_ (tabN l) 0 (by omega)))
  exact sl_eq rfl

/-! ### rows that fit -/

def fitV (c : Col) (b : UInt8) : Va := if c.b = true ∧ b % 4 = 3 then ⟨0, 0, []⟩ else if c.k = 1 then ⟨1, ((b.toNat % 8 : Nat) : Int) - 2, []⟩ else ⟨2, 0, ([0, 97, 98, 255] : List UInt8).take (b.toNat % 4)⟩
def fitC (cs : List Col) (row : List UInt8) (i : Nat) : Va := fitV (cs.getD i default) (row.getD i 0)
def fitL (cs : List Col) (n : Nat) (row : List UInt8) : List Va := (List.range (min n cs.length)).map (fitC cs row)

theorem fitV_right (c : Col) (b : UInt8) : (fitV c b).right = true ∧ (fitV c b).ok ∧ (fitV c b).s.length ≤ 200 := by
  have h5 := b.toNat_lt
  unfold fitV
  split
  · exact ⟨rfl, ⟨by decide, by decide⟩, by decide⟩
  · split
    · refine ⟨rfl, ⟨?_, ?_⟩, by simp⟩
      · show _ ≤ ((b.toNat % 8 : Nat) : Int) - 2
        omega
      · show ((b.toNat % 8 : Nat) : Int) - 2 ≤ _
        omega
    · have hl : (([0, 97, 98, 255] : List UInt8).take (b.toNat % 4)).length ≤ 4 := by rw [List.length_take]; simp; omega
      refine ⟨?_, ⟨by show _ ≤ (0 : Int); decide, by show (0 : Int) ≤ _; decide⟩, by simp only; omega⟩
      show (if (2 : UInt8) = 0 then _ else if (2 : UInt8) = 1 then _ else if (2 : UInt8) = 2 then ((0 : Int) == 0) && decide (((([0, 97, 98, 255] : List UInt8).take (b.toNat % 4)).length : Int) ≤ 200) else false) = true
      rw [if_neg (by decide), if_neg (by decide), if_pos rfl, decide_eq_true (by omega)]
      rfl

theorem fitL_len (cs : List Col) (n : Nat) (row : List UInt8) : (fitL cs n row).length = min n cs.length := by simp [fitL]
theorem fitL_all (cs : List Col) (n : Nat) (row : List UInt8) : ∀ v, v ∈ fitL cs n row → (v.right = true ∧ v.ok) ∧ v.s.length ≤ 200 := by
  intro v hv
  obtain ⟨i, _, rfl⟩ := List.mem_map.1 hv
  have := fitV_right (cs.getD i default) (row.getD i 0)
  exact ⟨⟨this.1, this.2.1⟩, this.2.2⟩

def ftAt (t : Tab) (n : Nat) (row : List UInt8) (i : Nat) : List (Nat × AV) := [(1, .int .i64 n), (2, .sl 1 none false (bs row)), (3, .ptr (some (0, 0))), (7, .sl 3 none true (((List.range i).map (fitC t.cs row)).map Va.c)), (8, .int .i64 i)]

theorem ft_np (t : Tab) (n : Nat) (row : List UInt8) (i : Nat) : ∀ p, p ∈ ftAt t n row i → NP (fun i => i < [HObj.cells t.c].length) p.2 := by
  intro p hp
  simp only [ftAt, List.mem_cons, List.not_mem_nil, or_false] at hp
  rcases hp with rfl | rfl | rfl | rfl | rfl
  · exact .int _ _
  · exact np_bs _
  · exact .ptr _ _ (by simp)
  · exact np_words _
  · exact .int _ _

theorem null3 (b : UInt8) : (((b.toNat : Int).tmod 4) == 3) = decide (b % 4 = 3) := by
  rw [Int.tmod_eq_emod_of_nonneg (by omega)]
  have h5 := b.toNat_lt
  rw [Bool.eq_iff_iff, beq_iff_eq, decide_eq_true_eq, ← UInt8.toNat_inj, UInt8.toNat_mod]
  have e1 : (4 : UInt8).toNat = 4 := rfl
  have e2 : (3 : UInt8).toNat = 3 := rfl
  rw [e1, e2]
  omega

theorem num8 (b : UInt8) : IntKind.i64.wrap (IntKind.i64.wrap ((b.toNat : Int).tmod 8) - 2) = ((b.toNat % 8 : Nat) : Int) - 2 := by
  rw [Int.tmod_eq_emod_of_nonneg (by omega)]
  have h5 := b.toNat_lt
  rw [i64_in ((b.toNat : Int) % 8) (by omega), i64_in _ (by omega)]
  omega

theorem kind1 (k : UInt8) : ((k.toNat : Int) == 1) = decide (k = 1) := by
  rw [Bool.eq_iff_iff, beq_iff_eq, decide_eq_true_eq, ← UInt8.toNat_inj]
  have e2 : (1 : UInt8).toNat = 1 := rfl
  rw [e2]
  omega

theorem fitLoop (t : Tab) (n : Nat) (row : List UInt8) (hc : t.cs.length ≤ 1000) (R : VE → Sy → Prop) (hR : R (.exit 0) ⟨[], [(7, .sl 3 none true ((fitL t.cs n row).map Va.c))], [.cells t.c]⟩) :
    ∀ (g i : Nat), i + g = min n t.cs.length → VloopS Tryd.prog (tr [6, 7, 36, 44, 53, 56, 61, 68, 69]) 70 0 c13b0 (exW 70 R) ⟨[], ftAt t n row i, [.cells t.c]⟩
  | 0, i, hg => by
    have hi : i = min n t.cs.length := by omega
    refine VloopS.round ?_
    by_cases h1 : i < n
    · refine guard_t (decide_eq_true (by omega)) ?_
      repeat (first | refine guard_t rfl ?_ | refine guard_f (by decide) ?_)
      refine cond_f (decide_eq_false (by rw [List.length_map]; omega)) ?_
      refine ex_w hR rfl ⟨.eq (sl_eq ?_), trivial⟩ rfl
      rw [hi]; rfl
    · have h2 : decide ((i : Int) < n) = false := decide_eq_false (by omega)
      refine guard_f (by rw [h2]; decide) ?_
      repeat (first | refine guard_t rfl ?_ | refine guard_f (by decide) ?_)
      refine cond_f rfl ?_
      refine ex_w hR rfl ⟨.eq (sl_eq ?_), trivial⟩ rfl
      rw [hi]; rfl
  | g + 1, i, hg => by
    have hlt : i < t.cs.length := by omega
    have hci : fitC t.cs row i = fitV t.cs[i] (row.getD i 0) := by
      unfold fitC
      rw [List.getD_eq_getElem?_getD, List.getElem?_eq_getElem hlt]; rfl
    have hnext : ((List.range (i + 1)).map (fitC t.cs row)).map Va.c = ((List.range i).map (fitC t.cs row)).map Va.c ++ [(fitV t.cs[i] (row.getD i 0)).c] := by
      rw [List.range_succ, List.map_append, List.map_append, List.map_cons, List.map_nil, hci]; rfl
    refine VloopS.round ?_
    refine guard_t (decide_eq_true (by omega)) ?_
    repeat (first | refine guard_t rfl ?_ | refine guard_f (by decide) ?_)
    refine cond_t (decide_eq_true (by rw [List.length_map]; omega)) ?_
    by_cases hr : i < row.length
    · refine cond_t (decide_eq_true (by rw [bs_len]; omega)) ?_
      refine And.intro rfl (And.intro (Int.natCast_nonneg i) (Exists.intro _ (And.intro (bs_get hr) ?_)))
      have hb : row.getD i 0 = row[i] := by rw [List.getD_eq_getElem?_getD, List.getElem?_eq_getElem hr]; rfl
      rw [hb] at hnext
      refine And.intro rfl (And.intro (Int.natCast_nonneg i) (Exists.intro _ (And.intro (map_get hlt) ?_)))
      have fin : ∀ v : Va, v = fitV t.cs[i] row[i] → ((List.range (i + 1)).map (fitC t.cs row)).map Va.c = ((List.range i).map (fitC t.cs row)).map Va.c ++ [v.c] := fun v e => by rw [e]; exact hnext
      have hlen : (((List.range i).map (fitC t.cs row)).map Va.c).length = i := by simp
      have nxt := fitLoop t n row hc R hR g (i + 1) (by omega)
      by_cases hnull : t.cs[i].b = true ∧ row[i] % 4 = 3
      · refine guard_t hnull.1 ?_
        repeat (first | refine guard_t rfl ?_ | refine guard_f (by decide) ?_)
        refine And.intro (by decide) ?_
        repeat (first | refine guard_t rfl ?_ | refine guard_f (by decide) ?_)
        refine cond_t (by show ((((row[i]).toNat : Int).tmod 4) == 3) = true; rw [null3, decide_eq_true hnull.2]) ?_
        refine And.intro (.inl ⟨rfl, rfl⟩) (And.intro (.inl rfl) (And.intro (by rw [hlen]; simp only [List.length_cons, List.length_nil]; omega) ?_))
        refine VloopS.weakBox (l := ftAt t n row (i + 1)) (h := [.cells t.c]) (ex := [.cells t.cs[i].c]) rfl ⟨.refl _, .refl _, .refl _, .eq (sl_eq ?_), .eq (int_eq (by rw [i64_in _ (by omega)]; omega)), trivial⟩ rfl (Nat.zero_le _) (ft_np t n row (i + 1)) (by intro o ho; rw [List.mem_singleton.1 ho]; exact t.np) nxt
        rw [fin ⟨0, 0, []⟩ (by unfold fitV; rw [if_pos hnull])]
        rfl
      · by_cases hk : t.cs[i].k = 1
        · by_cases hcb : t.cs[i].b = true
          · refine guard_t hcb ?_
            repeat (first | refine guard_t rfl ?_ | refine guard_f (by decide) ?_)
            refine And.intro (by decide) ?_
            repeat (first | refine guard_t rfl ?_ | refine guard_f (by decide) ?_)
            refine cond_f (by show ((((row[i]).toNat : Int).tmod 4) == 3) = false; rw [null3, decide_eq_false (fun e => hnull ⟨hcb, e⟩)]) ?_
            refine cond_t (by rw [kind1, decide_eq_true hk]) ?_
            refine And.intro (by decide) ?_
            refine And.intro (.inl ⟨rfl, rfl⟩) (And.intro (.inl rfl) (And.intro (by rw [hlen]; simp only [List.length_cons, List.length_nil]; omega) ?_))
            refine VloopS.weakBox (l := ftAt t n row (i + 1)) (h := [.cells t.c]) (ex := [.cells t.cs[i].c]) rfl ⟨.refl _, .refl _, .refl _, .eq (sl_eq ?_), .eq (int_eq (by rw [i64_in _ (by omega)]; omega)), trivial⟩ rfl (Nat.zero_le _) (ft_np t n row (i + 1)) (by intro o ho; rw [List.mem_singleton.1 ho]; exact t.np) nxt
            rw [fin ⟨1, (((row[i]).toNat % 8 : Nat) : Int) - 2, []⟩ (by unfold fitV; rw [if_neg hnull, if_pos hk])]
            show _ ++ [[AV.int .u8 1, AV.int .i64 (IntKind.i64.wrap (IntKind.i64.wrap (((row[i]).toNat : Int).tmod 8) - 2)), _]] = _
            rw [num8]
            rfl
          · refine guard_f hcb ?_
            repeat (first | refine guard_t rfl ?_ | refine guard_f (by decide) ?_)
            refine cond_f (by simp) ?_
            refine cond_t (by rw [kind1, decide_eq_true hk]) ?_
            refine And.intro (by decide) ?_
            refine And.intro (.inl ⟨rfl, rfl⟩) (And.intro (.inl rfl) (And.intro (by rw [hlen]; simp only [List.length_cons, List.length_nil]; omega) ?_))
            refine VloopS.weakBox (l := ftAt t n row (i + 1)) (h := [.cells t.c]) (ex := [.cells t.cs[i].c]) rfl ⟨.refl _, .refl _, .refl _, .eq (sl_eq ?_), .eq (int_eq (by rw [i64_in _ (by omega)]; omega)), trivial⟩ rfl (Nat.zero_le _) (ft_np t n row (i + 1)) (by intro o ho; rw [List.mem_singleton.1 ho]; exact t.np) nxt
            rw [fin ⟨1, (((row[i]).toNat % 8 : Nat) : Int) - 2, []⟩ (by unfold fitV; rw [if_neg hnull, if_pos hk])]
            show _ ++ [[AV.int .u8 1, AV.int .i64 (IntKind.i64.wrap (IntKind.i64.wrap (((row[i]).toNat : Int).tmod 8) - 2)), _]] = _
            rw [num8]
            rfl
        · by_cases hcb : t.cs[i].b = true
          · refine guard_t hcb ?_
            repeat (first | refine guard_t rfl ?_ | refine guard_f (by decide) ?_)
            refine And.intro (by decide) ?_
            repeat (first | refine guard_t rfl ?_ | refine guard_f (by decide) ?_)
            refine cond_f (by show ((((row[i]).toNat : Int).tmod 4) == 3) = false; rw [null3, decide_eq_false (fun e => hnull ⟨hcb, e⟩)]) ?_
            refine cond_f (by rw [kind1, decide_eq_false hk]) ?_
            refine And.intro (by decide) ?_
            have hm4 : ((row[i]).toNat : Int).tmod 4 = (((row[i]).toNat % 4 : Nat) : Int) := by rw [Int.tmod_eq_emod_of_nonneg (by omega)]; omega
            refine And.intro (.inl rfl) (And.intro ⟨Int.le_refl _, by rw [hm4]; omega, by rw [hm4]; simp only [List.length_cons, List.length_nil]; omega⟩ ?_)
            refine Exists.intro (([0, 97, 98, 255] : List UInt8).take ((row[i]).toNat % 4)) (And.intro ?_ ?_)
            · show toBytes (((bs [0, 97, 98, 255]).drop (0 : Int).toNat).take ((((row[i]).toNat : Int).tmod 4).toNat - (0 : Int).toNat)) = _
              rw [hm4]
              have : ((bs [0, 97, 98, 255]).drop (0 : Int).toNat).take ((((row[i]).toNat % 4 : Nat) : Int).toNat - (0 : Int).toNat) = bs (([0, 97, 98, 255] : List UInt8).take ((row[i]).toNat % 4)) := by
                rw [bs_drop, bs_take, Int.toNat_natCast]; rfl
              rw [this]
              exact toBytes_bs _
            refine And.intro (.inl ⟨rfl, rfl⟩) (And.intro (.inl rfl) (And.intro (by rw [hlen]; simp only [List.length_cons, List.length_nil]; omega) ?_))
            refine VloopS.weakBox (l := ftAt t n row (i + 1)) (h := [.cells t.c]) (ex := [.cells t.cs[i].c]) rfl ⟨.refl _, .refl _, .refl _, .eq (sl_eq ?_), .eq (int_eq (by rw [i64_in _ (by omega)]; omega)), trivial⟩ rfl (Nat.zero_le _) (ft_np t n row (i + 1)) (by intro o ho; rw [List.mem_singleton.1 ho]; exact t.np) nxt
            rw [fin ⟨2, 0, ([0, 97, 98, 255] : List UInt8).take ((row[i]).toNat % 4)⟩ (by unfold fitV; rw [if_neg hnull, if_neg hk])]
            rfl
          · refine guard_f hcb ?_
            repeat (first | refine guard_t rfl ?_ | refine guard_f (by decide) ?_)
            refine cond_f (by simp) ?_
            refine cond_f (by rw [kind1, decide_eq_false hk]) ?_
            refine And.intro (by decide) ?_
            have hm4 : ((row[i]).toNat : Int).tmod 4 = (((row[i]).toNat % 4 : Nat) : Int) := by rw [Int.tmod_eq_emod_of_nonneg (by omega)]; omega
            refine And.intro (.inl rfl) (And.intro ⟨Int.le_refl _, by rw [hm4]; omega, by rw [hm4]; simp only [List.length_cons, List.length_nil]; omega⟩ ?_)
            refine Exists.intro (([0, 97, 98, 255] : List UInt8).take ((row[i]).toNat % 4)) (And.intro ?_ ?_)
            · show toBytes (((bs [0, 97, 98, 255]).drop (0 : Int).toNat).take ((((row[i]).toNat : Int).tmod 4).toNat - (0 : Int).toNat)) = _
              rw [hm4]
              have : ((bs [0, 97, 98, 255]).drop (0 : Int).toNat).take ((((row[i]).toNat % 4 : Nat) : Int).toNat - (0 : Int).toNat) = bs (([0, 97, 98, 255] : List UInt8).take ((row[i]).toNat % 4)) := by
                rw [bs_drop, bs_take, Int.toNat_natCast]; rfl
              rw [this]
              exact toBytes_bs _
            refine And.intro (.inl ⟨rfl, rfl⟩) (And.intro (.inl rfl) (And.intro (by rw [hlen]; simp only [List.length_cons, List.length_nil]; omega) ?_))
            refine VloopS.weakBox (l := ftAt t n row (i + 1)) (h := [.cells t.c]) (ex := [.cells t.cs[i].c]) rfl ⟨.refl _, .refl _, .refl _, .eq (sl_eq ?_), .eq (int_eq (by rw [i64_in _ (by omega)]; omega)), trivial⟩ rfl (Nat.zero_le _) (ft_np t n row (i + 1)) (by intro o ho; rw [List.mem_singleton.1 ho]; exact t.np) nxt
            rw [fin ⟨2, 0, ([0, 97, 98, 255] : List UInt8).take ((row[i]).toNat % 4)⟩ (by unfold fitV; rw [if_neg hnull, if_neg hk])]
            rfl
    · refine cond_f (decide_eq_false (by rw [bs_len]; omega)) ?_
      have hb : row.getD i 0 = 0 := by rw [List.getD_eq_getElem?_getD, List.getElem?_eq_none (by omega)]; rfl
      rw [hb] at hnext
      refine And.intro rfl (And.intro (Int.natCast_nonneg i) (Exists.intro _ (And.intro (map_get hlt) ?_)))
      have fin : ∀ v : Va, v = fitV t.cs[i] (0 : UInt8) → ((List.range (i + 1)).map (fitC t.cs row)).map Va.c = ((List.range i).map (fitC t.cs row)).map Va.c ++ [v.c] := fun v e => by rw [e]; exact hnext
      have hlen : (((List.range i).map (fitC t.cs row)).map Va.c).length = i := by simp
      have nxt := fitLoop t n row hc R hR g (i + 1) (by omega)
      by_cases hnull : t.cs[i].b = true ∧ (0 : UInt8) % 4 = 3
      · refine guard_t hnull.1 ?_
        repeat (first | refine guard_t rfl ?_ | refine guard_f (by decide) ?_)
        refine And.intro (by decide) ?_
        repeat (first | refine guard_t rfl ?_ | refine guard_f (by decide) ?_)
        refine cond_t (by show (((((0 : UInt8)).toNat : Int).tmod 4) == 3) = true; rw [null3, decide_eq_true hnull.2]) ?_
        refine And.intro (.inl ⟨rfl, rfl⟩) (And.intro (.inl rfl) (And.intro (by rw [hlen]; simp only [List.length_cons, List.length_nil]; omega) ?_))
        refine VloopS.weakBox (l := ftAt t n row (i + 1)) (h := [.cells t.c]) (ex := [.cells t.cs[i].c]) rfl ⟨.refl _, .refl _, .refl _, .eq (sl_eq ?_), .eq (int_eq (by rw [i64_in _ (by omega)]; omega)), trivial⟩ rfl (Nat.zero_le _) (ft_np t n row (i + 1)) (by intro o ho; rw [List.mem_singleton.1 ho]; exact t.np) nxt
        rw [fin ⟨0, 0, []⟩ (by unfold fitV; rw [if_pos hnull])]
        rfl
      · by_cases hk : t.cs[i].k = 1
        · by_cases hcb : t.cs[i].b = true
          · refine guard_t hcb ?_
            repeat (first | refine guard_t rfl ?_ | refine guard_f (by decide) ?_)
            refine And.intro (by decide) ?_
            repeat (first | refine guard_t rfl ?_ | refine guard_f (by decide) ?_)
            refine cond_f (by show (((((0 : UInt8)).toNat : Int).tmod 4) == 3) = false; rw [null3, decide_eq_false (fun e => hnull ⟨hcb, e⟩)]) ?_
            refine cond_t (by rw [kind1, decide_eq_true hk]) ?_
            refine And.intro (by decide) ?_
            refine And.intro (.inl ⟨rfl, rfl⟩) (And.intro (.inl rfl) (And.intro (by rw [hlen]; simp only [List.length_cons, List.length_nil]; omega) ?_))
            refine VloopS.weakBox (l := ftAt t n row (i + 1)) (h := [.cells t.c]) (ex := [.cells t.cs[i].c]) rfl ⟨.refl _, .refl _, .refl _, .eq (sl_eq ?_), .eq (int_eq (by rw [i64_in _ (by omega)]; omega)), trivial⟩ rfl (Nat.zero_le _) (ft_np t n row (i + 1)) (by intro o ho; rw [List.mem_singleton.1 ho]; exact t.np) nxt
            rw [fin ⟨1, ((((0 : UInt8)).toNat % 8 : Nat) : Int) - 2, []⟩ (by unfold fitV; rw [if_neg hnull, if_pos hk])]
            show _ ++ [[AV.int .u8 1, AV.int .i64 (IntKind.i64.wrap (IntKind.i64.wrap ((((0 : UInt8)).toNat : Int).tmod 8) - 2)), _]] = _
            rw [num8]
            rfl
          · refine guard_f hcb ?_
            repeat (first | refine guard_t rfl ?_ | refine guard_f (by decide) ?_)
            refine cond_f (by simp) ?_
            refine cond_t (by rw [kind1, decide_eq_true hk]) ?_
            refine And.intro (by decide) ?_
            refine And.intro (.inl ⟨rfl, rfl⟩) (And.intro (.inl rfl) (And.intro (by rw [hlen]; simp only [List.length_cons, List.length_nil]; omega) ?_))
            refine VloopS.weakBox (l := ftAt t n row (i + 1)) (h := [.cells t.c]) (ex := [.cells t.cs[i].c]) rfl ⟨.refl _, .refl _, .refl _, .eq (sl_eq ?_), .eq (int_eq (by rw [i64_in _ (by omega)]; omega)), trivial⟩ rfl (Nat.zero_le _) (ft_np t n row (i + 1)) (by intro o ho; rw [List.mem_singleton.1 ho]; exact t.np) nxt
            rw [fin ⟨1, ((((0 : UInt8)).toNat % 8 : Nat) : Int) - 2, []⟩ (by unfold fitV; rw [if_neg hnull, if_pos hk])]
            show _ ++ [[AV.int .u8 1, AV.int .i64 (IntKind.i64.wrap (IntKind.i64.wrap ((((0 : UInt8)).toNat : Int).tmod 8) - 2)), _]] = _
            rw [num8]
            rfl
        · by_cases hcb : t.cs[i].b = true
          · refine guard_t hcb ?_
            repeat (first | refine guard_t rfl ?_ | refine guard_f (by decide) ?_)
            refine And.intro (by decide) ?_
            repeat (first | refine guard_t rfl ?_ | refine guard_f (by decide) ?_)
            refine cond_f (by show (((((0 : UInt8)).toNat : Int).tmod 4) == 3) = false; rw [null3, decide_eq_false (fun e => hnull ⟨hcb, e⟩)]) ?_
            refine cond_f (by rw [kind1, decide_eq_false hk]) ?_
            refine And.intro (by decide) ?_
            have hm4 : (((0 : UInt8)).toNat : Int).tmod 4 = ((((0 : UInt8)).toNat % 4 : Nat) : Int) := by rw [Int.tmod_eq_emod_of_nonneg (by omega)]; omega
            refine And.intro (.inl rfl) (And.intro ⟨Int.le_refl _, by decide, by decide⟩ ?_)
            refine Exists.intro (([0, 97, 98, 255] : List UInt8).take (((0 : UInt8)).toNat % 4)) (And.intro ?_ ?_)
            · show toBytes (((bs [0, 97, 98, 255]).drop (0 : Int).toNat).take (((((0 : UInt8)).toNat : Int).tmod 4).toNat - (0 : Int).toNat)) = _
              rw [hm4]
              have : ((bs [0, 97, 98, 255]).drop (0 : Int).toNat).take (((((0 : UInt8)).toNat % 4 : Nat) : Int).toNat - (0 : Int).toNat) = bs (([0, 97, 98, 255] : List UInt8).take (((0 : UInt8)).toNat % 4)) := by
                rw [bs_drop, bs_take, Int.toNat_natCast]; rfl
              rw [this]
              exact toBytes_bs _
            refine And.intro (.inl ⟨rfl, rfl⟩) (And.intro (.inl rfl) (And.intro (by rw [hlen]; simp only [List.length_cons, List.length_nil]; omega) ?_))
            refine VloopS.weakBox (l := ftAt t n row (i + 1)) (h := [.cells t.c]) (ex := [.cells t.cs[i].c]) rfl ⟨.refl _, .refl _, .refl _, .eq (sl_eq ?_), .eq (int_eq (by rw [i64_in _ (by omega)]; omega)), trivial⟩ rfl (Nat.zero_le _) (ft_np t n row (i + 1)) (by intro o ho; rw [List.mem_singleton.1 ho]; exact t.np) nxt
            rw [fin ⟨2, 0, ([0, 97, 98, 255] : List UInt8).take (((0 : UInt8)).toNat % 4)⟩ (by unfold fitV; rw [if_neg hnull, if_neg hk])]
            rfl
          · refine guard_f hcb ?_
            repeat (first | refine guard_t rfl ?_ | refine guard_f (by decide) ?_)
            refine cond_f (by simp) ?_
            refine cond_f (by rw [kind1, decide_eq_false hk]) ?_
            refine And.intro (by decide) ?_
            have hm4 : (((0 : UInt8)).toNat : Int).tmod 4 = ((((0 : UInt8)).toNat % 4 : Nat) : Int) := by rw [Int.tmod_eq_emod_of_nonneg (by omega)]; omega
            refine And.intro (.inl rfl) (And.intro ⟨Int.le_refl _, by decide, by decide⟩ ?_)
            refine Exists.intro (([0, 97, 98, 255] : List UInt8).take (((0 : UInt8)).toNat % 4)) (And.intro ?_ ?_)
            · show toBytes (((bs [0, 97, 98, 255]).drop (0 : Int).toNat).take (((((0 : UInt8)).toNat : Int).tmod 4).toNat - (0 : Int).toNat)) = _
              rw [hm4]
              have : ((bs [0, 97, 98, 255]).drop (0 : Int).toNat).take (((((0 : UInt8)).toNat % 4 : Nat) : Int).toNat - (0 : Int).toNat) = bs (([0, 97, 98, 255] : List UInt8).take (((0 : UInt8)).toNat % 4)) := by
                rw [bs_drop, bs_take, Int.toNat_natCast]; rfl
              rw [this]
              exact toBytes_bs _
            refine And.intro (.inl ⟨rfl, rfl⟩) (And.intro (.inl rfl) (And.intro (by rw [hlen]; simp only [List.length_cons, List.length_nil]; omega) ?_))
            refine VloopS.weakBox (l := ftAt t n row (i + 1)) (h := [.cells t.c]) (ex := [.cells t.cs[i].c]) rfl ⟨.refl _, .refl _, .refl _, .eq (sl_eq ?_), .eq (int_eq (by rw [i64_in _ (by omega)]; omega)), trivial⟩ rfl (Nat.zero_le _) (ft_np t n row (i + 1)) (by intro o ho; rw [List.mem_singleton.1 ho]; exact t.np) nxt
            rw [fin ⟨2, 0, ([0, 97, 98, 255] : List UInt8).take (((0 : UInt8)).toNat % 4)⟩ (by unfold fitV; rw [if_neg hnull, if_neg hk])]
            rfl

theorem fitN (t : Tab) (n : Nat) (nl : Option Bool) (own : Bool) (row : List UInt8) (hc : t.cs.length ≤ 1000) : PCallN Tryd.prog 13 [.agg t.c, .int .i64 n, .sl 1 nl own (bs row)] (.sl 3 none true ((fitL t.cs n row).map Va.c)) := by
  refine PCallN.of (tr [6, 7, 36, 44, 53, 56, 61, 68, 69]) f13 (Nat.le_of_ble_eq_true rfl) (np_cons (.agg _ t.np) (np_cons (.int _ _) (np_cons (np_bs _) np_nil))) (np_words _) ?_
  refine VloopS.weakE (l := ftAt t n row 0) (h := [.cells t.c]) rfl ⟨.refl _, .both _ _ _ _, .refl _, .nil _ _ _ _ _ (by simp), .eq (int_eq rfl), trivial⟩ rfl (Nat.zero_le _) (VloopS.exW (fitLoop t n row hc _ ?_ (min n t.cs.length) 0 (by omega)))
  exact sl_eq rfl

theorem keyOfN (nl nl' : Option Bool) (own own' : Bool) (ts : List Tab) (k m : Nat) (hk : k < ts.length) (_hk2 : k ≤ 1000) (hm : (ts[k]'hk).ks = (m : Nat)) (row : List Va) (hr : m ≤ row.length) (hm40 : m ≤ 40) (hs : ∀ v, v ∈ row → v.s.length ≤ 200) :
    PCallN Tryd.prog 14 [.sl 3 nl own (ts.map Tab.c), .int .i64 k, .sl 3 nl' own' (row.map Va.c)] (.str (st (u8of k :: keys (row.take m)))) := by
  refine PCallN.of (tr []) f14 (Nat.le_of_ble_eq_true rfl) (np_cons (np_tabs _) (np_cons (.int _ _) (np_cons (np_words _) np_nil))) (.str _) ?_
  refine And.intro rfl (And.intro (Int.natCast_nonneg k) (Exists.intro _ (And.intro (map_get hk) ?_)))
  refine And.intro (.inl rfl) (And.intro ⟨Int.le_refl _, by rw [hm]; omega, by rw [hm, List.length_map]; omega⟩ ?_)
  have hcut : ((row.map Va.c).drop (0 : Int).toNat).take ((ts[k].ks).toNat - (0 : Int).toNat) = (row.take m).map Va.c := by
    rw [hm]
    simp [List.map_take]
  refine call_p (by rw [hcut]; exact tKeyN k _ _ (row.take m) (by rw [List.length_take]; omega) (fun v hv => hs v (List.mem_of_mem_take hv))) ?_
  rfl

end Go.Proofs.YtmjdoonaidolkaaDoor.V

/- A row's key: the law TableRows. -/
namespace Go.Proofs.YtmjdoonaidolkaaDoor.V
open Go.IntWalk Go.Lib

theorem tabOf_ok (nm cs : List UInt8) (ks : UInt8) : ∃ m : Nat, (tabOf nm cs ks).ks = (m : Nat) ∧ 1 ≤ m ∧ m ≤ (tabOf nm cs ks).cs.length ∧ (tabOf nm cs ks).cs.length ≤ 8 := by
  unfold tabOf
  by_cases h : cs = []
  · rw [if_pos h]
    exact ⟨1, rfl, by decide, by simp, by simp⟩
  · rw [if_neg h]
    have h0 : cs.length ≠ 0 := fun e => h (List.eq_nil_of_length_eq_zero e)
    have hn : colN cs = min 8 cs.length := rfl
    have hk : keyNo cs ks = 1 + ks.toNat % colN cs := by unfold keyNo; rw [if_neg h]
    have hlt := Nat.mod_lt ks.toNat (show 0 < colN cs by omega)
    refine ⟨keyNo cs ks, rfl, by omega, ?_, ?_⟩
    · simp only [List.length_map, List.length_range]; omega
    · simp only [List.length_map, List.length_range]; omega

theorem tabAt_ok (l : List Form) (i : Nat) : ∃ m : Nat, (tabAt l i).ks = (m : Nat) ∧ 1 ≤ m ∧ m ≤ (tabAt l i).cs.length ∧ (tabAt l i).cs.length ≤ 8 := by
  unfold tabAt
  split
  · exact tabOf_ok _ _ _
  · exact tabOf_ok _ _ _

theorem tables_len (l : List Form) : (tables l).length = tabN l := by simp [tables]
theorem tabN_le (l : List Form) : 1 ≤ tabN l ∧ tabN l ≤ 4 := by unfold tabN; omega
theorem tables_get (l : List Form) (k : Nat) (h : k < (tables l).length) : (tables l)[k] = tabAt l k := by simp [tables]

theorem keys_nil (l : List Va) (h : keys l = []) : l = [] := by
  cases l with
  | nil => rfl
  | cons v r =>
    obtain ⟨b, t, e⟩ := key_ne v
    have : keys (v :: r) = v.key ++ keys r := by simp [keys]
    rw [this, e] at h
    simp at h

theorem cmp_nil {a : List UInt8} (h : a ≠ []) : compareBytes a [] = 1 := by
  cases a with
  | nil => exact absurd rfl h
  | cons b r => rfl

theorem u8of_next (k : Nat) (h : k < 100) : (u8of (k : Int)).toNat < (u8of (IntKind.i64.wrap ((k : Int) + 1))).toNat := by
  have h1 := u8of_toNat (k : Int)
  have h2 := u8of_toNat (IntKind.i64.wrap ((k : Int) + 1))
  rw [w_u8] at h1 h2
  rw [i64_in _ (by omega)] at h2
  rw [i64_in _ (by omega)]
  omega

theorem tKeyNil (t : Int) : PCallN Tryd.prog 17 [.int .i64 t, .sl 0 (some true) true []] (.str (st (u8of t :: keys []))) :=
  PCallN.weakArgs (.cons _ _ _ _ (.refl _) (.cons _ _ _ _ (.nil 0 3 true false none (by simp)) .nil)) (np_cons (.int _ _) (np_cons np_nilsl np_nil)) (tKeyN t none false [] (by decide) (by decide))

theorem tableRowsN (nl n1 n2 : Option Bool) (own o1 o2 : Bool) (l : List Form) (hl : l.length ≤ 9223372036854775807) (t : UInt8) (a b : List UInt8) : PCallN Tryd.prog 3 [.sl 2 nl own (l.map Form.c), .int .u8 t.toNat, .sl 1 n1 o1 (bs a), .sl 1 n2 o2 (bs b)] (.bool true) := by
  refine PCallN.of (tr []) f3 (Nat.le_of_ble_eq_true rfl) (np_cons (np_forms _) (np_cons (.int _ _) (np_cons (np_bs _) (np_cons (np_bs _) np_nil)))) (.bool _) ?_
  refine call_p noughtsN ?_
  repeat (first | refine guard_t rfl ?_ | refine guard_f (by decide) ?_)
  refine call_p (fewN _ _ l hl) ?_
  repeat (first | refine guard_t rfl ?_ | refine guard_f (by decide) ?_)
  cases hf : fewD l with
  | false =>
    repeat (first | refine guard_t rfl ?_ | refine guard_f (by decide) ?_)
    refine cond_t rfl ?_
    refine call_p noughtsN ?_
    exact bool_eq rfl
  | true =>
    repeat (first | refine guard_t rfl ?_ | refine guard_f (by decide) ?_)
    by_cases ha : a.length ≤ 12
    · have h1 : decide ((((bs a).length : Nat) : Int) > 12) = false := decide_eq_false (by rw [bs_len]; omega)
      refine guard_t h1 ?_
      rw [h1]
      repeat (first | refine guard_t rfl ?_ | refine guard_f (by decide) ?_)
      by_cases hb : b.length ≤ 12
      · refine cond_f (decide_eq_false (by rw [bs_len]; omega)) ?_
        refine call_p (tablesN _ _ l) ?_
        have hx := tables_len l
        have hx4 := tabN_le l
        refine And.intro (by rw [List.length_map]; omega) ?_
        have ht5 := t.toNat_lt
        have hmod : (IntKind.i64.wrap (t.toNat : Int)).tmod ((((tables l).map Tab.c).length : Nat) : Int) = ((t.toNat % (tables l).length : Nat) : Int) := by
          rw [i64_in _ (by omega), List.length_map, Int.tmod_eq_emod_of_nonneg (by omega)]
          omega
        have hlt : t.toNat % (tables l).length < (tables l).length := Nat.mod_lt _ (by omega)
        rw [hmod]
        generalize t.toNat % (tables l).length = k at hlt ⊢
        obtain ⟨m, hm1, hm2, hm3, hm4⟩ := tabAt_ok l k
        rw [← tables_get l k hlt] at hm1 hm3 hm4
        have hk4 : k < 4 := by omega
        generalize tables l = x at hlt hm1 hm3 hm4 ⊢
        have ix : ∀ {K : List AV → Prop}, K x[k].c → (3 = 3 ∧ 0 ≤ (k : Int) ∧ ∃ c, (x.map Tab.c)[((k : Nat) : Int).toNat]? = some c ∧ K c) := fun h => ⟨rfl, Int.natCast_nonneg k, _, map_get hlt, h⟩
        refine ix ?_
        refine ix ?_
        refine call_d (fitN x[k] (x[k].cs.map Col.c).length _ _ a (by omega)) ?_
        refine ix ?_
        refine ix ?_
        refine call_d (fitN x[k] (x[k].cs.map Col.c).length _ _ b (by omega)) ?_
        refine And.intro (by kernel_rfl) ?_
        have lp : (fitL x[k].cs (x[k].cs.map Col.c).length a).length = x[k].cs.length := by rw [fitL_len, List.length_map]; omega
        have lq : (fitL x[k].cs (x[k].cs.map Col.c).length b).length = x[k].cs.length := by rw [fitL_len, List.length_map]; omega
        have ap := fitL_all x[k].cs (x[k].cs.map Col.c).length a
        have aq := fitL_all x[k].cs (x[k].cs.map Col.c).length b
        generalize fitL x[k].cs (x[k].cs.map Col.c).length a = p at lp ap ⊢
        generalize fitL x[k].cs (x[k].cs.map Col.c).length b = q at lq aq ⊢
        refine call_p (keyOfN _ _ _ _ x k m hlt (by omega) hm1 p (by omega) (by omega) (fun v hv => (ap v hv).2)) ?_
        refine call_p (keyOfN _ _ _ _ x k m hlt (by omega) hm1 q (by omega) (by omega) (fun v hv => (aq v hv).2)) ?_
        have ixk : ∀ {K : List AV → Prop}, K x[k].c → (3 = 3 ∧ 0 ≤ (k : Int) ∧ ∃ c, (x.map Tab.c)[((k : Nat) : Int).toNat]? = some c ∧ K c) := ix
        have cut : ∀ r : List Va, ((r.map Va.c).drop (0 : Int).toNat).take ((x[k].ks).toNat - (0 : Int).toNat) = (r.take m).map Va.c := fun r => by
          rw [hm1]; simp [List.map_take]
        have bnd : ∀ r : List Va, r.length = x[k].cs.length → (0 ≤ (0 : Int) ∧ 0 ≤ x[k].ks ∧ x[k].ks ≤ ((r.map Va.c).length : Nat)) := fun r e => by
          rw [hm1, List.length_map]
          exact ⟨Int.le_refl _, by omega, by omega⟩
        refine ixk ?_
        refine And.intro (.inl rfl) (And.intro (bnd p lp) ?_)
        refine ixk ?_
        refine And.intro (.inl rfl) (And.intro (bnd q lq) ?_)
        have ap' : ∀ v, v ∈ p.take m → (v.right = true ∧ v.ok) ∧ v.s.length ≤ 200 := fun v hv => ap v (List.mem_of_mem_take hv)
        have aq' : ∀ v, v ∈ q.take m → (v.right = true ∧ v.ok) ∧ v.s.length ≤ 200 := fun v hv => aq v (List.mem_of_mem_take hv)
        have lp' : (p.take m).length = m := by rw [List.length_take]; omega
        have cp := cut p
        have cq := cut q
        have c15 := compareLN none none false false (p.take m) (q.take m) (fun v hv => (ap' v hv).1.1) (fun v hv => (aq' v hv).1.1) (by omega)
        refine call_d (by rw [cp, cq]; exact c15) ?_
        refine And.intro (by kernel_rfl) ?_
        refine ixk ?_
        refine And.intro (.inl rfl) (And.intro (bnd p lp) ?_)
        have c16 := rtKeyN (k : Int) none false (p.take m) (by omega) (fun v hv => (ap' v hv).2) (fun v hv => (ap' v hv).1)
        refine call_p (by rw [cp]; exact c16) ?_
        refine guard_t (beq_self_eq_true _) ?_
        repeat (first | refine guard_t rfl ?_ | refine guard_f (by decide) ?_)
        have hcmp := keys_cmp (p.take m) (q.take m) (fun v hv => (ap' v hv).1) (fun v hv => (aq' v hv).1)
        refine guard_t ?_ ?_
        · show (Op.bytesLess _ _ == _) = true
          rw [st_less, cb_same, hcmp]
          exact beq_self_eq_true _
        repeat (first | refine guard_t rfl ?_ | refine guard_f (by decide) ?_)
        refine guard_t ?_ ?_
        · show (((st _).toList == (st _).toList) == _) = true
          rw [st_beq]
          have : decide (u8of (k : Int) :: keys (p.take m) = u8of (k : Int) :: keys (q.take m)) = (cmpL (p.take m) (q.take m) == 0) := by
            rw [← hcmp]
            by_cases e : keys (p.take m) = keys (q.take m)
            · rw [e, cb_self, decide_eq_true rfl]; rfl
            · rw [decide_eq_false (fun h => e (List.cons.inj h).2)]
              exact (beq_eq_false_iff_ne.2 (fun h => e (cb_eq h))).symm
          rw [this]
          exact beq_self_eq_true _
        repeat (first | refine guard_t rfl ?_ | refine guard_f (by decide) ?_)
        refine call_p (tKeyNil _) ?_
        repeat (first | refine guard_t rfl ?_ | refine guard_f (by decide) ?_)
        refine guard_t ?_ ?_
        · show Op.bytesLess _ _ = true
          rw [st_less, cb_cons, if_pos (u8of_next k (by omega))]
          rfl
        repeat (first | refine guard_t rfl ?_ | refine guard_f (by decide) ?_)
        refine call_p (tKeyNil _) ?_
        repeat (first | refine guard_t rfl ?_ | refine guard_f (by decide) ?_)
        refine bool_eq ?_
        show (!(Op.bytesLess _ _ || _)) = true
        have hne : keys (p.take m) ≠ [] := fun e => by
          have h0 := congrArg List.length (keys_nil _ e)
          rw [lp', List.length_nil] at h0
          omega
        rw [st_more, cb_same, show keys [] = [] from rfl, cmp_nil hne]
        rfl
      · refine cond_t (decide_eq_true (by rw [bs_len]; omega)) ?_
        refine call_p noughtsN ?_
        exact bool_eq rfl
    · have h1 : decide ((((bs a).length : Nat) : Int) > 12) = true := decide_eq_true (by rw [bs_len]; omega)
      refine guard_f (by rw [h1]; decide) ?_
      repeat (first | refine guard_t rfl ?_ | refine guard_f (by decide) ?_)
      refine cond_t rfl ?_
      refine call_p noughtsN ?_
      exact bool_eq rfl

end Go.Proofs.YtmjdoonaidolkaaDoor.V
