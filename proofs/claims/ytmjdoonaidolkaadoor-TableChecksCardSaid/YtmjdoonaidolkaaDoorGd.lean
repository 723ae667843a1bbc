/-
  The law TableChecks: written by wip/l05/tc.py.
-/
import Derived.Test.YtmjdoonaidolkaaDoorGc
import Derived.Test.YtmjdoonaidolkaaDoorFc

/- May a row be, or a key: both answers. -/
namespace Go.Proofs.YtmjdoonaidolkaaDoor.V
open Go.IntWalk Go.Lib

def chkL : List Col → List Va → Int
  | c :: cs, v :: vs => if v.right = false then 2 else if v.k = c.k ∨ (v.k = 0 ∧ c.b = true) then chkL cs vs else 4
  | _, _ => 0
def chk (cs : List Col) (row : List Va) : Int := if row.length = cs.length then chkL cs row else 1

theorem chkL_step {cs : List Col} {row : List Va} {i : Nat} (h1 : i < cs.length) (h2 : i < row.length) :
    chkL (cs.drop i) (row.drop i) = if row[i].right = false then 2 else if row[i].k = cs[i].k ∨ (row[i].k = 0 ∧ cs[i].b = true) then chkL (cs.drop (i + 1)) (row.drop (i + 1)) else 4 := by
  rw [List.drop_eq_getElem_cons h1, List.drop_eq_getElem_cons h2, chkL]

theorem kindE (a b : UInt8) : ((a.toNat : Int) == (b.toNat : Int)) = decide (a = b) := by
  by_cases h : a = b
  · subst h; simp
  · rw [decide_eq_false h]
    refine beq_eq_false_iff_ne.2 fun e => h (UInt8.toNat_inj.1 (by omega))
theorem kind0 (a : UInt8) : ((a.toNat : Int) == 0) = decide (a = 0) := kindE a 0

def ckAt (cs : List Col) (row : List Va) (i : Nat) : List (Nat × AV) := [(0, .sl 3 none false (cs.map Col.c)), (13, .sl 3 none false (row.map Va.c)), (14, .int .i64 row.length), (15, .int .i64 i)]

theorem ck_np (cs : List Col) (row : List Va) (i : Nat) : ∀ p, p ∈ ckAt cs row i → NP (fun i => i < ([] : List HObj).length) p.2 := by
  intro p hp
  simp only [ckAt, List.mem_cons, List.not_mem_nil, or_false] at hp
  rcases hp with rfl | rfl | rfl | rfl
  · exact np_cols _
  · exact np_words _
  · exact .int _ _
  · exact .int _ _

theorem ckLoop (cs : List Col) (row : List Va) (hcr : row.length = cs.length) (hl : row.length ≤ 1000000) (R : VE → Sy → Prop) (hT : chkL cs row = 0 → R (.exit 0) ⟨[], [], []⟩) (hF : ∀ e, chkL cs row = e → ∀ hb, R .ret ⟨[], [(4, .int .i64 e)], hb⟩) :
    ∀ (g i : Nat), i + g = row.length → chkL cs row = chkL (cs.drop i) (row.drop i) → VloopS Tryd.prog (tr []) 43 0 c46b0 (exW 43 R) ⟨[], ckAt cs row i, []⟩
  | 0, i, hg, he => by
    rw [List.drop_eq_nil_of_le (by omega), List.drop_eq_nil_of_le (by omega)] at he
    refine VloopS.round ?_
    refine cond_f (decide_eq_false (by omega)) ?_
    exact ex_w (hT he) rfl trivial rfl
  | g + 1, i, hg, he => by
    have hlt : i < row.length := by omega
    have hlc : i < cs.length := by omega
    rw [chkL_step hlc hlt] at he
    refine VloopS.round ?_
    refine cond_t (decide_eq_true (by omega)) ?_
    refine And.intro rfl (And.intro (Int.natCast_nonneg i) (Exists.intro row[i].c (And.intro (words_get hlt) ?_)))
    refine And.intro rfl (And.intro (Int.natCast_nonneg i) (Exists.intro cs[i].c (And.intro (map_get hlc) ?_)))
    refine call_p (rightN row[i]) ?_
    by_cases h1 : row[i].right = true
    · rw [h1] at he
      refine cond_f (by rw [h1]; rfl) ?_
      have next : chkL cs row = chkL (cs.drop (i + 1)) (row.drop (i + 1)) → VloopS Tryd.prog (tr []) 43 0 c46b0 (exW 43 R) ⟨[], ckAt cs row (i + 1), []⟩ := ckLoop cs row hcr hl R hT hF g (i + 1) (by omega)
      have wk := i64_in ((i : Int) + 1) (by omega)
      by_cases h0 : row[i].k = 0
      · refine guard_t (by rw [kind0]; exact decide_eq_true h0) ?_
        repeat (first | refine guard_t rfl ?_ | refine guard_f (by decide) ?_)
        by_cases hb : cs[i].b = true
        · rw [if_neg (by decide), if_pos (.inr ⟨h0, hb⟩)] at he
          refine cond_t hb ?_
          refine VloopS.weakBox (l := ckAt cs row (i + 1)) (h := []) (ex := [.cells row[i].c, .cells cs[i].c]) rfl ⟨.refl _, .refl _, .refl _, .eq (int_eq (by rw [wk]; omega)), trivial⟩ rfl (Nat.zero_le _) (ck_np cs row (i + 1)) (by simp) (next he)
        · refine cond_f (by simpa using hb) ?_
          by_cases hk : row[i].k = cs[i].k
          · rw [if_neg (by decide), if_pos (.inl hk)] at he
            refine cond_f (by show (!((row[i].k.toNat : Int) == (cs[i].k.toNat : Int))) = false; rw [kindE, decide_eq_true hk]; rfl) ?_
            refine VloopS.weakBox (l := ckAt cs row (i + 1)) (h := []) (ex := [.cells row[i].c, .cells cs[i].c]) rfl ⟨.refl _, .refl _, .refl _, .eq (int_eq (by rw [wk]; omega)), trivial⟩ rfl (Nat.zero_le _) (ck_np cs row (i + 1)) (by simp) (next he)
          · rw [if_neg (by decide), if_neg (fun e => e.elim hk (fun e => hb e.2))] at he
            refine cond_t (by show (!((row[i].k.toNat : Int) == (cs[i].k.toNat : Int))) = true; rw [kindE, decide_eq_false hk]; rfl) ?_
            exact ex_w (hF _ he _) rfl ⟨.refl _, trivial⟩ rfl
      · refine guard_f (by rw [kind0, decide_eq_false h0]; decide) ?_
        repeat (first | refine guard_t rfl ?_ | refine guard_f (by decide) ?_)
        refine cond_f (by first | rfl | (rw [kind0]; exact decide_eq_false h0)) ?_
        by_cases hk : row[i].k = cs[i].k
        · rw [if_neg (by decide), if_pos (.inl hk)] at he
          refine cond_f (by show (!((row[i].k.toNat : Int) == (cs[i].k.toNat : Int))) = false; rw [kindE, decide_eq_true hk]; rfl) ?_
          refine VloopS.weakBox (l := ckAt cs row (i + 1)) (h := []) (ex := [.cells row[i].c, .cells cs[i].c]) rfl ⟨.refl _, .refl _, .refl _, .eq (int_eq (by rw [wk]; omega)), trivial⟩ rfl (Nat.zero_le _) (ck_np cs row (i + 1)) (by simp) (next he)
        · rw [if_neg (by decide), if_neg (fun e => e.elim hk (fun e => h0 e.1))] at he
          refine cond_t (by show (!((row[i].k.toNat : Int) == (cs[i].k.toNat : Int))) = true; rw [kindE, decide_eq_false hk]; rfl) ?_
          exact ex_w (hF _ he _) rfl ⟨.refl _, trivial⟩ rfl
    · have h1 : row[i].right = false := by simpa using h1
      rw [if_pos h1] at he
      refine cond_t (by rw [h1]; rfl) ?_
      exact ex_w (hF _ he _) rfl ⟨.refl _, trivial⟩ rfl

theorem checkN (nl nl' : Option Bool) (own own' : Bool) (cs : List Col) (row : List Va) (hl : row.length ≤ 1000000) : PCallN Tryd.prog 46 [.sl 3 nl own (cs.map Col.c), .sl 3 nl' own' (row.map Va.c)] (.int .i64 (chk cs row)) := by
  refine PCallN.of (tr []) f46 (Nat.le_of_ble_eq_true rfl) (np_cons (np_cols _) (np_cons (np_words _) np_nil)) (.int _ _) ?_
  unfold chk
  by_cases hcr : row.length = cs.length
  · rw [if_pos hcr]
    refine cond_f (by rw [List.length_map, List.length_map, hcr]; exact bne_self_eq_false _) ?_
    refine VloopS.weakE (l := ckAt cs row 0) rfl ⟨.both _ _ _ _, .both _ _ _ _, .eq (int_eq (by rw [List.length_map])), .eq (int_eq rfl), trivial⟩ rfl (Nat.zero_le _) (VloopS.exW (ckLoop cs row hcr hl _ ?_ ?_ row.length 0 (by omega) rfl))
    · intro e
      exact int_eq e.symm
    · intro e he hb
      exact int_eq he.symm
  · rw [if_neg hcr]
    refine cond_t (by rw [List.length_map, List.length_map]; exact bne_iff_ne.2 (by omega)) ?_
    exact int_eq rfl

def isIn (ts : List Tab) (t : Int) : Bool := decide (0 ≤ t) && decide (t < (ts.length : Nat))

theorem hasN (nl : Option Bool) (own : Bool) (ts : List Tab) (t : Int) : PCallN Tryd.prog 45 [.sl 3 nl own (ts.map Tab.c), .int .i64 t] (.bool (isIn ts t)) := by
  refine PCallN.of (tr []) f45 (Nat.le_of_ble_eq_true rfl) (np_cons (np_tabs _) (np_cons (.int _ _) np_nil)) (.bool _) ?_
  unfold isIn
  by_cases h : 0 ≤ t
  · refine guard_t (decide_eq_true h) ?_
    rw [decide_eq_true h]
    repeat (first | refine guard_t rfl ?_ | refine guard_f (by decide) ?_)
    exact bool_eq (by rw [List.length_map]; rfl)
  · refine guard_f (by simpa using h) ?_
    rw [decide_eq_false h]
    repeat (first | refine guard_t rfl ?_ | refine guard_f (by decide) ?_)
    exact bool_eq rfl

def chkT (ts : List Tab) (t : Int) (row : List Va) : Int := if h : 0 ≤ t ∧ t.toNat < ts.length then chk (ts[t.toNat]'h.2).cs row else 5
def chkK (ts : List Tab) (t : Int) (row : List Va) : Int := if h : 0 ≤ t ∧ t.toNat < ts.length then chk ((ts[t.toNat]'h.2).cs.take (ts[t.toNat]'h.2).ks.toNat) row else 5

theorem np_chk {ok : Nat → Prop} {sz sz' : Nat} {nl nl' : Option Bool} {own own' : Bool} (ts : List Tab) (t : Int) (row : List Va) : ∀ x, x ∈ [AV.sl sz nl own (ts.map Tab.c), .int .i64 t, .sl sz' nl' own' (row.map Va.c)] → NP ok x := np_cons (np_tabs _) (np_cons (.int _ _) (np_cons (np_words _) np_nil))

theorem isIn_t {ts : List Tab} {t : Int} (h : 0 ≤ t ∧ t.toNat < ts.length) : isIn ts t = true := by
  unfold isIn
  rw [decide_eq_true h.1, decide_eq_true (by omega)]
  rfl
theorem isIn_f {ts : List Tab} {t : Int} (h : ¬ (0 ≤ t ∧ t.toNat < ts.length)) : isIn ts t = false := by
  unfold isIn
  by_cases h0 : 0 ≤ t
  · rw [decide_eq_true h0, decide_eq_false (by omega)]; rfl
  · rw [decide_eq_false h0]; rfl

theorem tCheckN (nl nl' : Option Bool) (own own' : Bool) (ts : List Tab) (t : Int) (row : List Va) (hl : row.length ≤ 1000000) : PCallN Tryd.prog 23 [.sl 3 nl own (ts.map Tab.c), .int .i64 t, .sl 3 nl' own' (row.map Va.c)] (.int .i64 (chkT ts t row)) := by
  refine PCallN.of (tr []) f23 (Nat.le_of_ble_eq_true rfl) (np_chk _ _ _) (.int _ _) ?_
  unfold chkT
  refine call_p (hasN _ _ ts t) ?_
  by_cases h : 0 ≤ t ∧ t.toNat < ts.length
  · rw [dif_pos h]
    refine cond_f (by rw [isIn_t h]; rfl) ?_
    refine And.intro rfl (And.intro h.1 (Exists.intro _ (And.intro (map_get h.2) ?_)))
    refine call_p (checkN _ _ _ _ _ row hl) ?_
    exact int_eq rfl
  · rw [dif_neg h]
    refine cond_t (by rw [isIn_f h]; rfl) ?_
    exact int_eq rfl

theorem tCheckKeyN (nl nl' : Option Bool) (own own' : Bool) (ts : List Tab) (hts : ∀ x, x ∈ ts → 0 ≤ x.ks ∧ x.ks.toNat ≤ x.cs.length) (t : Int) (row : List Va) (hl : row.length ≤ 1000000) : PCallN Tryd.prog 24 [.sl 3 nl own (ts.map Tab.c), .int .i64 t, .sl 3 nl' own' (row.map Va.c)] (.int .i64 (chkK ts t row)) := by
  refine PCallN.of (tr []) f24 (Nat.le_of_ble_eq_true rfl) (np_chk _ _ _) (.int _ _) ?_
  unfold chkK
  refine call_p (hasN _ _ ts t) ?_
  by_cases h : 0 ≤ t ∧ t.toNat < ts.length
  · rw [dif_pos h]
    refine cond_f (by rw [isIn_t h]; rfl) ?_
    obtain ⟨q1, q2⟩ := hts ts[t.toNat] (List.getElem_mem h.2)
    have ix : ∀ {K : List AV → Prop}, K (ts[t.toNat]'h.2).c → (3 = 3 ∧ 0 ≤ t ∧ ∃ c, (ts.map Tab.c)[t.toNat]? = some c ∧ K c) := fun k => ⟨rfl, h.1, _, map_get h.2, k⟩
    refine ix ?_
    refine ix ?_
    refine And.intro (.inl rfl) (And.intro ⟨Int.le_refl _, q1, by rw [List.length_map]; omega⟩ ?_)
    have hcut : (((ts[t.toNat]'h.2).cs.map Col.c).drop (0 : Int).toNat).take ((ts[t.toNat]'h.2).ks.toNat - (0 : Int).toNat) = ((ts[t.toNat]'h.2).cs.take (ts[t.toNat]'h.2).ks.toNat).map Col.c := by simp [List.map_take]
    refine call_d (by rw [hcut]; exact checkN _ _ _ _ _ row hl) ?_
    refine And.intro (by kernel_rfl) ?_
    exact int_eq rfl
  · rw [dif_neg h]
    refine cond_t (by rw [isIn_f h]; rfl) ?_
    exact int_eq rfl

end Go.Proofs.YtmjdoonaidolkaaDoor.V

/- May a row be, or a key: the reference's answers. -/
namespace Go.Proofs.YtmjdoonaidolkaaDoor.V
open Go.IntWalk Go.Lib

def rcAt (n : Nat) (row : List Va) (i : Nat) : List (Nat × AV) := [(1, .int .i64 n), (2, .sl 3 none false (row.map Va.c)), (3, .ptr (some (0, 0))), (7, .int .i64 i)]

theorem rc_np (t : Tab) (n : Nat) (row : List Va) (i : Nat) : ∀ p, p ∈ rcAt n row i → NP (fun i => i < [HObj.cells t.c].length) p.2 := by
  intro p hp
  simp only [rcAt, List.mem_cons, List.not_mem_nil, or_false] at hp
  rcases hp with rfl | rfl | rfl | rfl
  · exact .int _ _
  · exact np_words _
  · exact .ptr _ _ (by simp)
  · exact .int _ _

theorem rcLoop (t : Tab) (n : Nat) (row : List Va) (hn : n ≤ t.cs.length) (hcr : row.length = n) (hl : row.length ≤ 1000000) (R : VE → Sy → Prop) (hT : chkL (t.cs.take n) row = 0 → ∀ hb, R (.exit 0) ⟨[], [], hb⟩) (hF : ∀ e, chkL (t.cs.take n) row = e → ∀ hb, R .ret ⟨[], [(6, .int .i64 e)], hb⟩) :
    ∀ (g i : Nat), i + g = n → chkL (t.cs.take n) row = chkL ((t.cs.take n).drop i) (row.drop i) → VloopS Tryd.prog (tr []) 52 0 c47b0 (exW 52 R) ⟨[], rcAt n row i, [.cells t.c]⟩
  | 0, i, hg, he => by
    rw [List.drop_eq_nil_of_le (by rw [List.length_take]; omega), List.drop_eq_nil_of_le (by omega)] at he
    refine VloopS.round ?_
    refine cond_f (decide_eq_false (by omega)) ?_
    exact ex_w (hT he _) rfl trivial rfl
  | g + 1, i, hg, he => by
    have hlt : i < row.length := by omega
    have hlc : i < (t.cs.take n).length := by rw [List.length_take]; omega
    have hlc' : i < t.cs.length := by omega
    rw [chkL_step hlc hlt, List.getElem_take] at he
    have ixr : ∀ {K : List AV → Prop}, K row[i].c → (3 = 3 ∧ 0 ≤ (i : Int) ∧ ∃ c, (row.map Va.c)[((i : Nat) : Int).toNat]? = some c ∧ K c) := fun h => ⟨rfl, Int.natCast_nonneg i, _, words_get hlt, h⟩
    have ixc : ∀ {K : List AV → Prop}, K t.cs[i].c → (3 = 3 ∧ 0 ≤ (i : Int) ∧ ∃ c, (t.cs.map Col.c)[((i : Nat) : Int).toNat]? = some c ∧ K c) := fun h => ⟨rfl, Int.natCast_nonneg i, _, map_get hlc', h⟩
    have wk := i64_in ((i : Int) + 1) (by omega)
    have next : chkL (t.cs.take n) row = chkL ((t.cs.take n).drop (i + 1)) (row.drop (i + 1)) → VloopS Tryd.prog (tr []) 52 0 c47b0 (exW 52 R) ⟨[], rcAt n row (i + 1), [.cells t.c]⟩ := rcLoop t n row hn hcr hl R hT hF g (i + 1) (by omega)
    refine VloopS.round ?_
    refine cond_t (decide_eq_true (by omega)) ?_
    refine ixr ?_
    refine call_p (rRightN row[i]) ?_
    by_cases h1 : row[i].right = true
    · rw [h1] at he
      refine cond_f (by rw [h1]; rfl) ?_
      refine ixr ?_
      refine ixc ?_
      by_cases hk : row[i].k = t.cs[i].k
      · rw [if_neg (by decide), if_pos (.inl hk)] at he
        have e1 : (!((row[i].k.toNat : Int) == (t.cs[i].k.toNat : Int))) = false := by rw [kindE, decide_eq_true hk]; rfl
        refine guard_f (by show ¬ (!((row[i].k.toNat : Int) == (t.cs[i].k.toNat : Int))) = true; rw [e1]; decide) ?_
        repeat (first | refine guard_t rfl ?_ | refine guard_f (by decide) ?_)
        refine And.intro (by kernel_rfl) ?_
        refine cond_f (by first | rfl | exact e1) ?_
        refine VloopS.weakBox (l := rcAt n row (i + 1)) (h := [.cells t.c]) (ex := []) rfl ⟨.refl _, .refl _, .refl _, .eq (int_eq (by rw [wk]; omega)), trivial⟩ rfl (Nat.zero_le _) (rc_np t n row (i + 1)) (by intro o ho; rw [List.mem_singleton.1 ho]; exact t.np) (next he)
      · have e1 : (!((row[i].k.toNat : Int) == (t.cs[i].k.toNat : Int))) = true := by rw [kindE, decide_eq_false hk]; rfl
        refine guard_t e1 ?_
        repeat (first | refine guard_t rfl ?_ | refine guard_f (by decide) ?_)
        refine ixr ?_
        repeat (first | refine guard_t rfl ?_ | refine guard_f (by decide) ?_)
        by_cases h0 : row[i].k = 0
        · refine guard_t (by rw [kind0]; exact decide_eq_true h0) ?_
          repeat (first | refine guard_t rfl ?_ | refine guard_f (by decide) ?_)
          refine ixc ?_
          repeat (first | refine guard_t rfl ?_ | refine guard_f (by decide) ?_)
          refine And.intro (by kernel_rfl) ?_
          by_cases hb : t.cs[i].b = true
          · rw [if_neg (by decide), if_pos (.inr ⟨h0, hb⟩)] at he
            refine cond_f (by rw [hb]; rfl) ?_
            refine VloopS.weakBox (l := rcAt n row (i + 1)) (h := [.cells t.c]) (ex := []) rfl ⟨.refl _, .refl _, .refl _, .eq (int_eq (by rw [wk]; omega)), trivial⟩ rfl (Nat.zero_le _) (rc_np t n row (i + 1)) (by intro o ho; rw [List.mem_singleton.1 ho]; exact t.np) (next he)
          · rw [if_neg (by decide), if_neg (fun e => e.elim hk (fun e => hb e.2))] at he
            have hb : t.cs[i].b = false := by simpa using hb
            refine cond_t (by rw [hb]; rfl) ?_
            exact ex_w (hF _ he _) rfl ⟨.refl _, trivial⟩ rfl
        · refine guard_f (by rw [kind0, decide_eq_false h0]; decide) ?_
          repeat (first | refine guard_t rfl ?_ | refine guard_f (by decide) ?_)
          refine And.intro (by kernel_rfl) ?_
          rw [if_neg (by decide), if_neg (fun e => e.elim hk (fun e => h0 e.1))] at he
          refine cond_t (by rfl) ?_
          exact ex_w (hF _ he _) rfl ⟨.refl _, trivial⟩ rfl
    · have h1 : row[i].right = false := by simpa using h1
      rw [if_pos h1] at he
      refine cond_t (by rw [h1]; rfl) ?_
      exact ex_w (hF _ he _) rfl ⟨.refl _, trivial⟩ rfl

theorem rcheckN (nl : Option Bool) (own : Bool) (t : Tab) (n : Nat) (hn : n ≤ t.cs.length) (row : List Va) (hl : row.length ≤ 1000000) : PCallN Tryd.prog 47 [.agg t.c, .int .i64 n, .sl 3 nl own (row.map Va.c)] (.int .i64 (chk (t.cs.take n) row)) := by
  refine PCallN.of (tr []) f47 (Nat.le_of_ble_eq_true rfl) (np_cons (.agg _ t.np) (np_cons (.int _ _) (np_cons (np_words _) np_nil))) (.int _ _) ?_
  unfold chk
  have hlen : (t.cs.take n).length = n := by rw [List.length_take]; omega
  by_cases hcr : row.length = n
  · rw [if_pos (by rw [hlen]; exact hcr)]
    refine cond_f (by rw [List.length_map, hcr]; exact bne_self_eq_false _) ?_
    refine VloopS.weakE (l := rcAt n row 0) (h := [.cells t.c]) rfl ⟨.refl _, .both _ _ _ _, .refl _, .eq (int_eq rfl), trivial⟩ rfl (Nat.zero_le _) (VloopS.exW (rcLoop t n row hn hcr hl _ ?_ ?_ n 0 (by omega) rfl))
    · intro e hb
      exact int_eq e.symm
    · intro e he hb
      exact int_eq he.symm
  · rw [if_neg (by rw [hlen]; exact hcr)]
    refine cond_t (by rw [List.length_map]; exact bne_iff_ne.2 (by omega)) ?_
    exact int_eq rfl

theorem rCheckTN (nl nl' : Option Bool) (own own' : Bool) (ts : List Tab) (t : Int) (row : List Va) (hl : row.length ≤ 1000000) : PCallN Tryd.prog 26 [.sl 3 nl own (ts.map Tab.c), .int .i64 t, .sl 3 nl' own' (row.map Va.c)] (.int .i64 (chkT ts t row)) := by
  refine PCallN.of (tr []) f26 (Nat.le_of_ble_eq_true rfl) (np_chk _ _ _) (.int _ _) ?_
  unfold chkT
  by_cases h0 : t < 0
  · rw [dif_neg (by omega)]
    refine guard_f (by rw [decide_eq_true h0]; decide) ?_
    rw [decide_eq_true h0]
    repeat (first | refine guard_t rfl ?_ | refine guard_f (by decide) ?_)
    refine cond_t rfl ?_
    exact int_eq rfl
  · refine guard_t (decide_eq_false h0) ?_
    rw [decide_eq_false h0]
    repeat (first | refine guard_t rfl ?_ | refine guard_f (by decide) ?_)
    by_cases h : t.toNat < ts.length
    · have hh : 0 ≤ t ∧ t.toNat < ts.length := ⟨by omega, h⟩
      rw [dif_pos hh]
      refine cond_f (by rw [List.length_map]; exact decide_eq_false (by omega)) ?_
      have ix : ∀ {K : List AV → Prop}, K (ts[t.toNat]'h).c → (3 = 3 ∧ 0 ≤ t ∧ ∃ c, (ts.map Tab.c)[t.toNat]? = some c ∧ K c) := fun k => ⟨rfl, hh.1, _, map_get h, k⟩
      refine ix ?_
      refine ix ?_
      have hc := rcheckN nl' false ts[t.toNat] ((ts[t.toNat]'h).cs.map Col.c).length (by rw [List.length_map]; exact Nat.le_refl _) row hl
      rw [show (ts[t.toNat]'h).cs.take ((ts[t.toNat]'h).cs.map Col.c).length = (ts[t.toNat]'h).cs from List.take_of_length_le (by rw [List.length_map]; exact Nat.le_refl _)] at hc
      refine call_d hc ?_
      refine And.intro (by kernel_rfl) ?_
      exact int_eq rfl
    · rw [dif_neg (by omega)]
      refine cond_t (by rw [List.length_map]; exact decide_eq_true (by omega)) ?_
      exact int_eq rfl

theorem rCheckKeyN (nl nl' : Option Bool) (own own' : Bool) (ts : List Tab) (hts : ∀ x, x ∈ ts → 0 ≤ x.ks ∧ x.ks.toNat ≤ x.cs.length) (t : Int) (row : List Va) (hl : row.length ≤ 1000000) : PCallN Tryd.prog 27 [.sl 3 nl own (ts.map Tab.c), .int .i64 t, .sl 3 nl' own' (row.map Va.c)] (.int .i64 (chkK ts t row)) := by
  refine PCallN.of (tr []) f27 (Nat.le_of_ble_eq_true rfl) (np_chk _ _ _) (.int _ _) ?_
  unfold chkK
  by_cases h0 : t < 0
  · rw [dif_neg (by omega)]
    refine guard_f (by rw [decide_eq_true h0]; decide) ?_
    rw [decide_eq_true h0]
    repeat (first | refine guard_t rfl ?_ | refine guard_f (by decide) ?_)
    refine cond_t rfl ?_
    exact int_eq rfl
  · refine guard_t (decide_eq_false h0) ?_
    rw [decide_eq_false h0]
    repeat (first | refine guard_t rfl ?_ | refine guard_f (by decide) ?_)
    by_cases h : t.toNat < ts.length
    · have hh : 0 ≤ t ∧ t.toNat < ts.length := ⟨by omega, h⟩
      rw [dif_pos hh]
      refine cond_f (by rw [List.length_map]; exact decide_eq_false (by omega)) ?_
      have ix : ∀ {K : List AV → Prop}, K (ts[t.toNat]'h).c → (3 = 3 ∧ 0 ≤ t ∧ ∃ c, (ts.map Tab.c)[t.toNat]? = some c ∧ K c) := fun k => ⟨rfl, hh.1, _, map_get h, k⟩
      refine ix ?_
      refine ix ?_
      obtain ⟨q1, q2⟩ := hts ts[t.toNat] (List.getElem_mem h)
      have hc := rcheckN nl' false ts[t.toNat] (ts[t.toNat]'h).ks.toNat q2 row hl
      rw [show (((ts[t.toNat]'h).ks.toNat : Nat) : Int) = (ts[t.toNat]'h).ks from Int.toNat_of_nonneg q1] at hc
      refine call_d hc ?_
      refine And.intro (by kernel_rfl) ?_
      exact int_eq rfl
    · rw [dif_neg (by omega)]
      refine cond_t (by rw [List.length_map]; exact decide_eq_true (by omega)) ?_
      exact int_eq rfl

end Go.Proofs.YtmjdoonaidolkaaDoor.V

/- Rows that are written and asked about: the boxes are lent; rows that fit are right. -/
namespace Go.Proofs.YtmjdoonaidolkaaDoor.V
open Go.IntWalk Go.Lib

/-! ### a row that stands in a box is lent -/

theorem HFL.sameAll {id sz : Nat} {xs : List (List AV)} : ∀ (l : List HObj) (i : Nat), id < i → HFL (fzOf [(id, sz, xs)]) i l l
  | [], i, _ => .nil i
  | o :: r, i, h => .same i o r r (by simp [fzOf]; omega) (HFL.sameAll r (i + 1) (by omega))

theorem HFL.one {id sz : Nat} {xs : List (List AV)} : ∀ (l : List HObj) (i j : Nat), l[j]? = some (.arr sz xs) → id = i + j → ∃ l', HFL (fzOf [(id, sz, xs)]) i l l'
  | [], _, _, h, _ => by simp at h
  | o :: r, i, 0, h, e => by
    simp at h
    subst h
    exact ⟨_, .fz i sz xs r r (by simp [fzOf, e]) (HFL.sameAll r (i + 1) (by omega))⟩
  | o :: r, i, j + 1, h, e => by
    obtain ⟨l', h'⟩ := HFL.one (id := id) r (i + 1) j (by simpa using h) (by omega)
    exact ⟨_, .same i o r l' (by simp [fzOf]; omega) h'⟩

theorem row_cut (R : List Va) (o n : Nat) : ((R.map Va.c).drop o).take n = ((R.drop o).take n).map Va.c := by rw [List.map_take, List.map_drop]

theorem lendRow {f : Nat} {tabs : List (List AV)} {t : Int} {h : List HObj} {id o n : Nat} {xs : List (List AV)} {ret : AV} (R : List Va) (hp : PCallN Tryd.prog f [.sl 3 none false tabs, .int .i64 t, .sl 3 none false (((R.drop o).take n).map Va.c)] ret)
    (hf : ret.flat = true) (hb : h[id]? = some (.arr 3 xs)) (hx : xs = R.map Va.c) (hle : o + n ≤ R.length) : VCall Tryd.prog f [.sl 3 none false tabs, .int .i64 t, .bsl 3 id o n] h ret h := by
  obtain ⟨h', hh⟩ := HFL.one (id := id) h 0 id hb (by omega)
  refine PCallN.lend (l := [(0, .sl 3 none false tabs), (1, .int .i64 t), (2, .sl 3 none false (((R.drop o).take n).map Va.c))]) (h' := h') hp rfl hf (ShiftS.fz (fzOf [(id, 3, xs)]) ⟨.wk _ _ (.refl _), .wk _ _ (.refl _), wkf_bsl (xs := xs) (show fzOf [(id, 3, xs)] id = some (3, xs) by simp [fzOf]) (by rw [hx, List.length_map]; exact hle) (by rw [hx]; exact row_cut R o n), trivial⟩ hh ?_) ⟨rfl, fun i => ?_⟩
  · intro i sz xs' hi
    obtain ⟨rfl, rfl, rfl⟩ := fzOf_one hi
    exact hb
  · match i with
    | 0 => rfl
    | 1 => rfl
    | 2 => rfl
    | n + 3 => rfl

theorem cut_len (R : List Va) (o n : Nat) (h : R.length ≤ 1000) : ((R.drop o).take n).length ≤ 1000000 := by
  rw [List.length_take, List.length_drop]; omega

section
variable (x : List Tab) (t : Int) (R : List Va) {h : List HObj} {id o n : Nat} {xs : List (List AV)} (hR : R.length ≤ 1000) (hb : h[id]? = some (.arr 3 xs)) (hx : xs = R.map Va.c) (hle : o + n ≤ R.length)
include hR hb hx hle
theorem l23 : VCall Tryd.prog 23 [.sl 3 none false (x.map Tab.c), .int .i64 t, .bsl 3 id o n] h (.int .i64 (chkT x t ((R.drop o).take n))) h := by
  exact lendRow R (tCheckN none none false false x t _ (cut_len R o n hR)) rfl hb hx hle
theorem l26 : VCall Tryd.prog 26 [.sl 3 none false (x.map Tab.c), .int .i64 t, .bsl 3 id o n] h (.int .i64 (chkT x t ((R.drop o).take n))) h := by
  exact lendRow R (rCheckTN none none false false x t _ (cut_len R o n hR)) rfl hb hx hle
theorem l24 (hts : ∀ y, y ∈ x → 0 ≤ y.ks ∧ y.ks.toNat ≤ y.cs.length) : VCall Tryd.prog 24 [.sl 3 none false (x.map Tab.c), .int .i64 t, .bsl 3 id o n] h (.int .i64 (chkK x t ((R.drop o).take n))) h := by
  exact lendRow R (tCheckKeyN none none false false x hts t _ (cut_len R o n hR)) rfl hb hx hle
theorem l27 (hts : ∀ y, y ∈ x → 0 ≤ y.ks ∧ y.ks.toNat ≤ y.cs.length) : VCall Tryd.prog 27 [.sl 3 none false (x.map Tab.c), .int .i64 t, .bsl 3 id o n] h (.int .i64 (chkK x t ((R.drop o).take n))) h := by
  exact lendRow R (rCheckKeyN none none false false x hts t _ (cut_len R o n hR)) rfl hb hx hle
end

/-! ### rows that fit -/

theorem chkL_ok : ∀ (cs : List Col) (vs : List Va), (∀ (i : Nat) (h1 : i < cs.length) (h2 : i < vs.length), vs[i].right = true ∧ (vs[i].k = cs[i].k ∨ (vs[i].k = 0 ∧ cs[i].b = true))) → chkL cs vs = 0
  | [], _, _ => by unfold chkL; rfl
  | _ :: _, [], _ => by unfold chkL; rfl
  | c :: cs, v :: vs, h => by
    obtain ⟨h1, h2⟩ := h 0 (by simp) (by simp)
    simp only [List.getElem_cons_zero] at h1 h2
    rw [chkL, if_neg (by rw [h1]; decide), if_pos h2]
    refine chkL_ok cs vs fun i k1 k2 => ?_
    have := h (i + 1) (by simpa using k1) (by simpa using k2)
    simpa using this

theorem fitV_kind (c : Col) (b : UInt8) (hc : c.k = 1 ∨ c.k = 2) : (fitV c b).k = c.k ∨ ((fitV c b).k = 0 ∧ c.b = true) := by
  unfold fitV
  split
  · rename_i h; exact .inr ⟨rfl, h.1⟩
  · split
    · rename_i h; exact .inl h.symm
    · rename_i h
      rcases hc with hc | hc
      · exact absurd hc h
      · exact .inl hc.symm

theorem fit_chk (cs : List Col) (hc : ∀ c, c ∈ cs → c.k = 1 ∨ c.k = 2) (n : Nat) (hn : n ≤ cs.length) (row : List UInt8) : chk (cs.take n) (fitL cs n row) = 0 := by
  unfold chk
  rw [if_pos (by rw [fitL_len, List.length_take])]
  refine chkL_ok _ _ fun i h1 h2 => ?_
  have hi : i < cs.length := by rw [List.length_take] at h1; omega
  have e1 : (fitL cs n row)[i] = fitV cs[i] (row.getD i 0) := by
    simp only [fitL, fitC, List.getElem_map, List.getElem_range]
    rw [List.getD_eq_getElem?_getD, List.getElem?_eq_getElem hi]
    rfl
  rw [e1, List.getElem_take]
  exact ⟨(fitV_right _ _).1, fitV_kind _ _ (hc _ (List.getElem_mem hi))⟩

theorem k12 (b : UInt8) : 1 + b % 2 = 1 ∨ 1 + b % 2 = 2 := by
  have h2 : b.toNat % 2 = 0 ∨ b.toNat % 2 = 1 := by omega
  rcases h2 with h | h
  · refine .inl (UInt8.toNat_inj.1 ?_)
    rw [UInt8.toNat_add, UInt8.toNat_mod, show (2 : UInt8).toNat = 2 from rfl, h]; rfl
  · refine .inr (UInt8.toNat_inj.1 ?_)
    rw [UInt8.toNat_add, UInt8.toNat_mod, show (2 : UInt8).toNat = 2 from rfl, h]; rfl

theorem tabOf_kinds (nm cs : List UInt8) (ks : UInt8) : ∀ c, c ∈ (tabOf nm cs ks).cs → c.k = 1 ∨ c.k = 2 := by
  intro c hc
  unfold tabOf at hc
  split at hc
  · simp only [List.mem_singleton] at hc
    subst hc
    exact .inl rfl
  · obtain ⟨j, _, rfl⟩ := List.mem_map.1 hc
    exact k12 _

theorem tabAt_kinds (l : List Form) (i : Nat) : ∀ c, c ∈ (tabAt l i).cs → c.k = 1 ∨ c.k = 2 := by
  unfold tabAt
  split
  · exact tabOf_kinds _ _ _
  · exact tabOf_kinds _ _ _

theorem tables_ks (l : List Form) : ∀ x, x ∈ tables l → 0 ≤ x.ks ∧ x.ks.toNat ≤ x.cs.length := by
  intro x hx
  obtain ⟨i, _, rfl⟩ := List.mem_map.1 hx
  obtain ⟨m, h1, _, h3, _⟩ := tabAt_ok l i
  rw [h1]
  exact ⟨Int.natCast_nonneg m, by rw [Int.toNat_natCast]; exact h3⟩

theorem va_flat (l : List Va) : ∀ x, x ∈ l.map Va.c → ∀ a, a ∈ x → a.flat = true := by
  intro x hx a ha
  obtain ⟨v, _, rfl⟩ := List.mem_map.1 hx
  simp only [Va.c, List.mem_cons, List.not_mem_nil, or_false] at ha
  rcases ha with rfl | rfl | rfl <;> rfl

theorem rem4 (b : UInt8) : ((b.toNat : Int).tmod 4) = ((b.toNat % 4 : Nat) : Int) := by rw [Int.tmod_eq_emod_of_nonneg (by omega)]; omega

theorem chkT_at (x : List Tab) (k : Nat) (h : k < x.length) (row : List Va) : chkT x (k : Int) row = chk x[k].cs row := by
  unfold chkT
  rw [dif_pos ⟨Int.natCast_nonneg k, by rw [Int.toNat_natCast]; exact h⟩]
  simp only [Int.toNat_natCast]
theorem chkK_at (x : List Tab) (k : Nat) (h : k < x.length) (row : List Va) : chkK x (k : Int) row = chk (x[k].cs.take x[k].ks.toNat) row := by
  unfold chkK
  rw [dif_pos ⟨Int.natCast_nonneg k, by rw [Int.toNat_natCast]; exact h⟩]
  simp only [Int.toNat_natCast]

theorem cut_all (R : List Va) : (R.drop 0).take (R.map Va.c).length = R := by
  rw [List.drop_zero, List.length_map, List.take_length]

end Go.Proofs.YtmjdoonaidolkaaDoor.V

/- The law TableChecks: written by wip/l05/tc.py. -/
namespace Go.Proofs.YtmjdoonaidolkaaDoor.V
open Go.IntWalk Go.Lib

theorem np_checks {ok : Nat → Prop} {sz sz' : Nat} {nl nl' : Option Bool} {own own' : Bool} (l : List Form) (t : Int) (row : List UInt8) (a : Int) (w : Va) (b : Bool) (m : Int) : ∀ y, y ∈ [AV.sl sz nl own (l.map Form.c), .int .i64 t, .sl sz' nl' own' (bs row), .int .u8 a, w.av, .bool b, .int .u8 m] → NP ok y :=
  np_cons (np_forms _) (np_cons (.int _ _) (np_cons (np_bs _) (np_cons (.int _ _) (np_cons w.np (np_cons (.bool _) (np_cons (.int _ _) np_nil))))))
theorem tcPA0 (nl n1 : Option Bool) (own o1 : Bool) (l : List Form) (hl : l.length ≤ 9223372036854775807) (hfw : fewD l = true) (t : Int) (ht : ¬ t.tmod ((tables l).length : Nat) < 0) (row : List UInt8) (ha : row.length ≤ 12) (at_ : UInt8) (w : Va) (more : UInt8) (h1 : more.toNat % 4 ≠ 1) (h2 : more.toNat % 4 ≠ 2) : PCallN Tryd.prog 6 [.sl 2 nl own (l.map Form.c), .int .i64 t, .sl 1 n1 o1 (bs row), .int .u8 at_.toNat, w.av, .bool false, .int .u8 more.toNat] (.bool true) := by
  refine PCallN.of (tr [17, 18, 2000017, 2000018, 1000092, 1000096]) f6 (Nat.le_of_ble_eq_true rfl) (np_checks _ _ _ _ _ _ _) (.bool _) ?_
  refine call_p noughtsN ?_
  repeat (first | refine guard_t rfl ?_ | refine guard_f (by decide) ?_)
  refine call_p (fewN _ _ l hl) ?_
  rw [hfw]
  repeat (first | refine guard_t rfl ?_ | refine guard_f (by decide) ?_)
  refine cond_f (decide_eq_false (by rw [bs_len]; omega)) ?_
  refine call_p (tablesN _ _ l) ?_
  have hx := tables_len l
  have hx4 := tabN_le l
  refine And.intro (by rw [List.length_map]; omega) ?_
  have ha5 := at_.toNat_lt
  have hm5 := more.toNat_lt
  rw [List.length_map]
  refine cond_f (decide_eq_false ht) ?_
  have hlt : (t.tmod ((tables l).length : Nat)).natAbs < (tables l).length := by
    rw [Int.natAbs_tmod, Int.natAbs_natCast]
    exact Nat.mod_lt _ (by omega)
  have hk : t.tmod ((tables l).length : Nat) = ((t.tmod ((tables l).length : Nat)).natAbs : Int) := by omega
  generalize (t.tmod ((tables l).length : Nat)).natAbs = k at hk hlt
  rw [hk]
  obtain ⟨m, hm1, hm2, hm3, hm4⟩ := tabAt_ok l k
  have hkd := tabAt_kinds l k
  rw [← tables_get l k hlt] at hm1 hm3 hm4 hkd
  have hk4 : k < 4 := by omega
  have hts := tables_ks l
  clear hk ht
  generalize tables l = x at hlt hm1 hm3 hm4 hkd hts ⊢
  have ix : ∀ {K : List AV → Prop}, K x[k].c → (3 = 3 ∧ 0 ≤ (k : Int) ∧ ∃ c, (x.map Tab.c)[((k : Nat) : Int).toNat]? = some c ∧ K c) := fun h => ⟨rfl, Int.natCast_nonneg k, _, map_get hlt, h⟩
  have lF : (fitL x[k].cs (x[k].cs.map Col.c).length row).length = x[k].cs.length := by rw [fitL_len, List.length_map]; omega
  have lK : (fitL x[k].cs m row).length = m := by rw [fitL_len]; omega
  have cF : chkT x (k : Int) (fitL x[k].cs (x[k].cs.map Col.c).length row) = 0 := by
    have := fit_chk x[k].cs hkd (x[k].cs.map Col.c).length (by rw [List.length_map]; exact Nat.le_refl _) row
    rw [List.take_of_length_le (by rw [List.length_map]; exact Nat.le_refl _)] at this
    rw [chkT_at x k hlt, this]
  have cK : chkK x (k : Int) (fitL x[k].cs m row) = 0 := by
    rw [chkK_at x k hlt, hm1, Int.toNat_natCast]
    exact fit_chk x[k].cs hkd m hm3 row
  have tF := (fitN x[k] (x[k].cs.map Col.c).length n1 false row (by omega)).thaw rfl (by rw [List.length_map]; omega) (va_flat _)
  have tK := (fitN x[k] m n1 false row (by omega)).thaw rfl (by rw [List.length_map]; omega) (va_flat _)
  generalize fitL x[k].cs (x[k].cs.map Col.c).length row = F at lF cF tF
  generalize fitL x[k].cs m row = K at lK cK tK
  refine ix ?_
  refine ix ?_
  refine call_d tF ?_
  refine And.intro (by kernel_rfl) ?_
  refine ix ?_
  refine ix ?_
  rw [← hm1] at tK
  refine call_d tK ?_
  refine And.intro (by kernel_rfl) ?_
  have hRF : F.length ≤ 1000 := by omega
  have hRK : K.length ≤ 1000 := by omega
  have hlF : 0 + (F.map Va.c).length ≤ F.length := by rw [List.length_map]; omega
  have hlK : 0 + (K.map Va.c).length ≤ K.length := by rw [List.length_map]; omega
  have hxF : F.map Va.c = F.map Va.c := rfl
  have hxK : K.map Va.c = K.map Va.c := rfl
  have q1 := l23 x (k : Int) F (h := [.cells w.c, .arr 3 (F.map Va.c), .arr 3 (K.map Va.c)]) (id := 1) hRF rfl hxF hlF
  rw [cut_all, cF] at q1
  refine call_h q1 ?_
  repeat (first | refine guard_t rfl ?_ | refine guard_f (by decide) ?_)
  have q2 := l24 x (k : Int) K (h := [.cells w.c, .arr 3 (F.map Va.c), .arr 3 (K.map Va.c)]) (id := 2) hRK rfl hxK hlK hts
  rw [cut_all, cK] at q2
  refine call_h q2 ?_
  repeat (first | refine guard_t rfl ?_ | refine guard_f (by decide) ?_)
  refine cond_f rfl ?_
  clear q1 q2 hxF hxK cF cK tF tK
  refine And.intro (by decide) ?_
  refine cond_f (by show ((more.toNat : Int).tmod 4 == 1) = false; rw [rem4]; exact beq_eq_false_iff_ne.2 (by omega)) ?_
  refine And.intro (by decide) ?_
  refine cond_f (by show ((more.toNat : Int).tmod 4 == 2) = false; rw [rem4]; exact beq_eq_false_iff_ne.2 (by omega)) ?_
  repeat (first | refine guard_t rfl ?_ | refine guard_f (by decide) ?_)
  refine cond_f rfl ?_
  have hxF : F.map Va.c = F.map Va.c := rfl
  have hxK : K.map Va.c = K.map Va.c := rfl
  refine call_h (l23 x (k : Int) F (id := 1) hRF rfl hxF hlF) ?_
  repeat (first | refine guard_t rfl ?_ | refine guard_f (by decide) ?_)
  refine call_h (l26 x (k : Int) F (id := 1) hRF rfl hxF hlF) ?_
  repeat (first | refine guard_t rfl ?_ | refine guard_f (by decide) ?_)
  refine guard_t (beq_self_eq_true _) ?_
  repeat (first | refine guard_t rfl ?_ | refine guard_f (by decide) ?_)
  refine call_h (l24 x (k : Int) K (id := 2) hRK rfl hxK hlK hts) ?_
  repeat (first | refine guard_t rfl ?_ | refine guard_f (by decide) ?_)
  refine call_h (l27 x (k : Int) K (id := 2) hRK rfl hxK hlK hts) ?_
  repeat (first | refine guard_t rfl ?_ | refine guard_f (by decide) ?_)
  refine guard_t (beq_self_eq_true _) ?_
  repeat (first | refine guard_t rfl ?_ | refine guard_f (by decide) ?_)
  refine call_h (l23 x t F (id := 1) hRF rfl hxF hlF) ?_
  repeat (first | refine guard_t rfl ?_ | refine guard_f (by decide) ?_)
  refine call_h (l26 x t F (id := 1) hRF rfl hxF hlF) ?_
  repeat (first | refine guard_t rfl ?_ | refine guard_f (by decide) ?_)
  refine guard_t (beq_self_eq_true _) ?_
  repeat (first | refine guard_t rfl ?_ | refine guard_f (by decide) ?_)
  refine call_h (l24 x t F (id := 1) hRF rfl hxF hlF hts) ?_
  repeat (first | refine guard_t rfl ?_ | refine guard_f (by decide) ?_)
  refine call_h (l27 x t F (id := 1) hRF rfl hxF hlF hts) ?_
  repeat (first | refine guard_t rfl ?_ | refine guard_f (by decide) ?_)
  exact bool_eq (beq_self_eq_true _)

theorem tcPA1 (nl n1 : Option Bool) (own o1 : Bool) (l : List Form) (hl : l.length ≤ 9223372036854775807) (hfw : fewD l = true) (t : Int) (ht : ¬ t.tmod ((tables l).length : Nat) < 0) (row : List UInt8) (ha : row.length ≤ 12) (at_ : UInt8) (w : Va) (more : UInt8) (h1 : more.toNat % 4 ≠ 1) (h2 : more.toNat % 4 ≠ 2) (h3 : more.toNat % 4 ≠ 3) : PCallN Tryd.prog 6 [.sl 2 nl own (l.map Form.c), .int .i64 t, .sl 1 n1 o1 (bs row), .int .u8 at_.toNat, w.av, .bool true, .int .u8 more.toNat] (.bool true) := by
  refine PCallN.of (tr [17, 18, 2000017, 2000018, 1000092, 1000096]) f6 (Nat.le_of_ble_eq_true rfl) (np_checks _ _ _ _ _ _ _) (.bool _) ?_
  refine call_p noughtsN ?_
  repeat (first | refine guard_t rfl ?_ | refine guard_f (by decide) ?_)
  refine call_p (fewN _ _ l hl) ?_
  rw [hfw]
  repeat (first | refine guard_t rfl ?_ | refine guard_f (by decide) ?_)
  refine cond_f (decide_eq_false (by rw [bs_len]; omega)) ?_
  refine call_p (tablesN _ _ l) ?_
  have hx := tables_len l
  have hx4 := tabN_le l
  refine And.intro (by rw [List.length_map]; omega) ?_
  have ha5 := at_.toNat_lt
  have hm5 := more.toNat_lt
  rw [List.length_map]
  refine cond_f (decide_eq_false ht) ?_
  have hlt : (t.tmod ((tables l).length : Nat)).natAbs < (tables l).length := by
    rw [Int.natAbs_tmod, Int.natAbs_natCast]
    exact Nat.mod_lt _ (by omega)
  have hk : t.tmod ((tables l).length : Nat) = ((t.tmod ((tables l).length : Nat)).natAbs : Int) := by omega
  generalize (t.tmod ((tables l).length : Nat)).natAbs = k at hk hlt
  rw [hk]
  obtain ⟨m, hm1, hm2, hm3, hm4⟩ := tabAt_ok l k
  have hkd := tabAt_kinds l k
  rw [← tables_get l k hlt] at hm1 hm3 hm4 hkd
  have hk4 : k < 4 := by omega
  have hts := tables_ks l
  clear hk ht
  generalize tables l = x at hlt hm1 hm3 hm4 hkd hts ⊢
  have ix : ∀ {K : List AV → Prop}, K x[k].c → (3 = 3 ∧ 0 ≤ (k : Int) ∧ ∃ c, (x.map Tab.c)[((k : Nat) : Int).toNat]? = some c ∧ K c) := fun h => ⟨rfl, Int.natCast_nonneg k, _, map_get hlt, h⟩
  have lF : (fitL x[k].cs (x[k].cs.map Col.c).length row).length = x[k].cs.length := by rw [fitL_len, List.length_map]; omega
  have lK : (fitL x[k].cs m row).length = m := by rw [fitL_len]; omega
  have cF : chkT x (k : Int) (fitL x[k].cs (x[k].cs.map Col.c).length row) = 0 := by
    have := fit_chk x[k].cs hkd (x[k].cs.map Col.c).length (by rw [List.length_map]; exact Nat.le_refl _) row
    rw [List.take_of_length_le (by rw [List.length_map]; exact Nat.le_refl _)] at this
    rw [chkT_at x k hlt, this]
  have cK : chkK x (k : Int) (fitL x[k].cs m row) = 0 := by
    rw [chkK_at x k hlt, hm1, Int.toNat_natCast]
    exact fit_chk x[k].cs hkd m hm3 row
  have tF := (fitN x[k] (x[k].cs.map Col.c).length n1 false row (by omega)).thaw rfl (by rw [List.length_map]; omega) (va_flat _)
  have tK := (fitN x[k] m n1 false row (by omega)).thaw rfl (by rw [List.length_map]; omega) (va_flat _)
  generalize fitL x[k].cs (x[k].cs.map Col.c).length row = F at lF cF tF
  generalize fitL x[k].cs m row = K at lK cK tK
  refine ix ?_
  refine ix ?_
  refine call_d tF ?_
  refine And.intro (by kernel_rfl) ?_
  refine ix ?_
  refine ix ?_
  rw [← hm1] at tK
  refine call_d tK ?_
  refine And.intro (by kernel_rfl) ?_
  have hRF : F.length ≤ 1000 := by omega
  have hRK : K.length ≤ 1000 := by omega
  have hlF : 0 + (F.map Va.c).length ≤ F.length := by rw [List.length_map]; omega
  have hlK : 0 + (K.map Va.c).length ≤ K.length := by rw [List.length_map]; omega
  have hxF : F.map Va.c = F.map Va.c := rfl
  have hxK : K.map Va.c = K.map Va.c := rfl
  have q1 := l23 x (k : Int) F (h := [.cells w.c, .arr 3 (F.map Va.c), .arr 3 (K.map Va.c)]) (id := 1) hRF rfl hxF hlF
  rw [cut_all, cF] at q1
  refine call_h q1 ?_
  repeat (first | refine guard_t rfl ?_ | refine guard_f (by decide) ?_)
  have q2 := l24 x (k : Int) K (h := [.cells w.c, .arr 3 (F.map Va.c), .arr 3 (K.map Va.c)]) (id := 2) hRK rfl hxK hlK hts
  rw [cut_all, cK] at q2
  refine call_h q2 ?_
  repeat (first | refine guard_t rfl ?_ | refine guard_f (by decide) ?_)
  refine cond_f rfl ?_
  clear q1 q2 hxF hxK cF cK tF tK
  refine And.intro (by decide) ?_
  refine cond_f (by show ((more.toNat : Int).tmod 4 == 1) = false; rw [rem4]; exact beq_eq_false_iff_ne.2 (by omega)) ?_
  refine And.intro (by decide) ?_
  refine cond_f (by show ((more.toNat : Int).tmod 4 == 2) = false; rw [rem4]; exact beq_eq_false_iff_ne.2 (by omega)) ?_
  repeat (first | refine guard_t rfl ?_ | refine guard_f (by decide) ?_)
  refine guard_t (decide_eq_true (by rw [List.length_map]; omega)) ?_
  rw [decide_eq_true (by rw [List.length_map]; omega)]
  repeat (first | refine guard_t rfl ?_ | refine guard_f (by decide) ?_)
  refine cond_t (decide_eq_true (by rw [List.length_map]; omega)) ?_
  refine call_p (ofN w) ?_
  generalize w.of = v
  refine And.intro (by decide) ?_
  refine cond_f (by show ((more.toNat : Int).tmod 4 == 3) = false; rw [rem4]; exact beq_eq_false_iff_ne.2 (by omega)) ?_
  have hzF : (((F.map Va.c).length : Nat) : Int) ≠ 0 := by rw [List.length_map]; omega
  have hzK : (((K.map Va.c).length : Nat) : Int) ≠ 0 := by rw [List.length_map]; omega
  have hmodF : (IntKind.i64.wrap (at_.toNat : Int)).tmod (((F.map Va.c).length : Nat) : Int) = ((at_.toNat % F.length : Nat) : Int) := by
    rw [i64_in _ (by omega), List.length_map, Int.tmod_eq_emod_of_nonneg (by omega)]
    omega
  have hmodK : (IntKind.i64.wrap (at_.toNat : Int)).tmod (((K.map Va.c).length : Nat) : Int) = ((at_.toNat % K.length : Nat) : Int) := by
    rw [i64_in _ (by omega), List.length_map, Int.tmod_eq_emod_of_nonneg (by omega)]
    omega
  have hiF0 : at_.toNat % F.length < F.length := Nat.mod_lt _ (by omega)
  have hiK : at_.toNat % K.length < K.length := Nat.mod_lt _ (by omega)
  generalize at_.toNat % F.length = iF at hmodF hiF0
  generalize at_.toNat % K.length = iK at hmodK hiK
  have hiF : iF < F.length := by omega
  have hbF : (iF : Int) < (((F.map Va.c).length : Nat) : Int) := by rw [List.length_map]; omega
  have hbK : (iK : Int) < (((K.map Va.c).length : Nat) : Int) := by rw [List.length_map]; omega
  refine And.intro hzF ?_
  rw [hmodF]
  refine And.intro rfl (And.intro ⟨Int.natCast_nonneg _, hbF⟩ ?_)
  refine Exists.intro (0 + (iF : Int).toNat) (Exists.intro 0 (Exists.intro (F[iF]'hiF).c (And.intro ⟨rfl, by decide, by decide⟩ (And.intro ?_ ?_))))
  · rw [show 0 + (iF : Int).toNat = iF by simp]; exact words_get hiF
  refine And.intro (by kernel_rfl) ?_
  refine And.intro hzK ?_
  rw [hmodK]
  refine And.intro rfl (And.intro ⟨Int.natCast_nonneg _, hbK⟩ ?_)
  refine Exists.intro (0 + (iK : Int).toNat) (Exists.intro 0 (Exists.intro (K[iK]'hiK).c (And.intro ⟨rfl, by decide, by decide⟩ (And.intro ?_ ?_))))
  · rw [show 0 + (iK : Int).toNat = iK by simp]; exact words_get hiK
  refine And.intro (by kernel_rfl) ?_
  have hxF : (F.map Va.c).set (0 + (iF : Int).toNat) (Va.c v) = (F.set iF v).map Va.c := by rw [show 0 + (iF : Int).toNat = iF by simp, words_set]
  have hxK : (K.map Va.c).set (0 + (iK : Int).toNat) (Va.c v) = (K.set iK v).map Va.c := by rw [show 0 + (iK : Int).toNat = iK by simp, words_set]
  have hRF : (F.set iF v).length ≤ 1000 := by rw [List.length_set]; omega
  have hRK : (K.set iK v).length ≤ 1000 := by rw [List.length_set]; omega
  have hlF : 0 + (F.map Va.c).length ≤ (F.set iF v).length := by rw [List.length_set]; exact hlF
  have hlK : 0 + (K.map Va.c).length ≤ (K.set iK v).length := by rw [List.length_set]; exact hlK
  refine call_h (l23 x (k : Int) (F.set iF v) (id := 1) hRF rfl hxF hlF) ?_
  repeat (first | refine guard_t rfl ?_ | refine guard_f (by decide) ?_)
  refine call_h (l26 x (k : Int) (F.set iF v) (id := 1) hRF rfl hxF hlF) ?_
  repeat (first | refine guard_t rfl ?_ | refine guard_f (by decide) ?_)
  refine guard_t (beq_self_eq_true _) ?_
  repeat (first | refine guard_t rfl ?_ | refine guard_f (by decide) ?_)
  refine call_h (l24 x (k : Int) (K.set iK v) (id := 2) hRK rfl hxK hlK hts) ?_
  repeat (first | refine guard_t rfl ?_ | refine guard_f (by decide) ?_)
  refine call_h (l27 x (k : Int) (K.set iK v) (id := 2) hRK rfl hxK hlK hts) ?_
  repeat (first | refine guard_t rfl ?_ | refine guard_f (by decide) ?_)
  refine guard_t (beq_self_eq_true _) ?_
  repeat (first | refine guard_t rfl ?_ | refine guard_f (by decide) ?_)
  refine call_h (l23 x t (F.set iF v) (id := 1) hRF rfl hxF hlF) ?_
  repeat (first | refine guard_t rfl ?_ | refine guard_f (by decide) ?_)
  refine call_h (l26 x t (F.set iF v) (id := 1) hRF rfl hxF hlF) ?_
  repeat (first | refine guard_t rfl ?_ | refine guard_f (by decide) ?_)
  refine guard_t (beq_self_eq_true _) ?_
  repeat (first | refine guard_t rfl ?_ | refine guard_f (by decide) ?_)
  refine call_h (l24 x t (F.set iF v) (id := 1) hRF rfl hxF hlF hts) ?_
  repeat (first | refine guard_t rfl ?_ | refine guard_f (by decide) ?_)
  refine call_h (l27 x t (F.set iF v) (id := 1) hRF rfl hxF hlF hts) ?_
  repeat (first | refine guard_t rfl ?_ | refine guard_f (by decide) ?_)
  exact bool_eq (beq_self_eq_true _)

theorem tcPA1k (nl n1 : Option Bool) (own o1 : Bool) (l : List Form) (hl : l.length ≤ 9223372036854775807) (hfw : fewD l = true) (t : Int) (ht : ¬ t.tmod ((tables l).length : Nat) < 0) (row : List UInt8) (ha : row.length ≤ 12) (at_ : UInt8) (w : Va) (more : UInt8)  (h3 : more.toNat % 4 = 3) : PCallN Tryd.prog 6 [.sl 2 nl own (l.map Form.c), .int .i64 t, .sl 1 n1 o1 (bs row), .int .u8 at_.toNat, w.av, .bool true, .int .u8 more.toNat] (.bool true) := by
  refine PCallN.of (tr [17, 18, 2000017, 2000018, 1000092, 1000096]) f6 (Nat.le_of_ble_eq_true rfl) (np_checks _ _ _ _ _ _ _) (.bool _) ?_
  refine call_p noughtsN ?_
  repeat (first | refine guard_t rfl ?_ | refine guard_f (by decide) ?_)
  refine call_p (fewN _ _ l hl) ?_
  rw [hfw]
  repeat (first | refine guard_t rfl ?_ | refine guard_f (by decide) ?_)
  refine cond_f (decide_eq_false (by rw [bs_len]; omega)) ?_
  refine call_p (tablesN _ _ l) ?_
  have hx := tables_len l
  have hx4 := tabN_le l
  refine And.intro (by rw [List.length_map]; omega) ?_
  have ha5 := at_.toNat_lt
  have hm5 := more.toNat_lt
  rw [List.length_map]
  refine cond_f (decide_eq_false ht) ?_
  have hlt : (t.tmod ((tables l).length : Nat)).natAbs < (tables l).length := by
    rw [Int.natAbs_tmod, Int.natAbs_natCast]
    exact Nat.mod_lt _ (by omega)
  have hk : t.tmod ((tables l).length : Nat) = ((t.tmod ((tables l).length : Nat)).natAbs : Int) := by omega
  generalize (t.tmod ((tables l).length : Nat)).natAbs = k at hk hlt
  rw [hk]
  obtain ⟨m, hm1, hm2, hm3, hm4⟩ := tabAt_ok l k
  have hkd := tabAt_kinds l k
  rw [← tables_get l k hlt] at hm1 hm3 hm4 hkd
  have hk4 : k < 4 := by omega
  have hts := tables_ks l
  clear hk ht
  generalize tables l = x at hlt hm1 hm3 hm4 hkd hts ⊢
  have ix : ∀ {K : List AV → Prop}, K x[k].c → (3 = 3 ∧ 0 ≤ (k : Int) ∧ ∃ c, (x.map Tab.c)[((k : Nat) : Int).toNat]? = some c ∧ K c) := fun h => ⟨rfl, Int.natCast_nonneg k, _, map_get hlt, h⟩
  have lF : (fitL x[k].cs (x[k].cs.map Col.c).length row).length = x[k].cs.length := by rw [fitL_len, List.length_map]; omega
  have lK : (fitL x[k].cs m row).length = m := by rw [fitL_len]; omega
  have cF : chkT x (k : Int) (fitL x[k].cs (x[k].cs.map Col.c).length row) = 0 := by
    have := fit_chk x[k].cs hkd (x[k].cs.map Col.c).length (by rw [List.length_map]; exact Nat.le_refl _) row
    rw [List.take_of_length_le (by rw [List.length_map]; exact Nat.le_refl _)] at this
    rw [chkT_at x k hlt, this]
  have cK : chkK x (k : Int) (fitL x[k].cs m row) = 0 := by
    rw [chkK_at x k hlt, hm1, Int.toNat_natCast]
    exact fit_chk x[k].cs hkd m hm3 row
  have tF := (fitN x[k] (x[k].cs.map Col.c).length n1 false row (by omega)).thaw rfl (by rw [List.length_map]; omega) (va_flat _)
  have tK := (fitN x[k] m n1 false row (by omega)).thaw rfl (by rw [List.length_map]; omega) (va_flat _)
  generalize fitL x[k].cs (x[k].cs.map Col.c).length row = F at lF cF tF
  generalize fitL x[k].cs m row = K at lK cK tK
  refine ix ?_
  refine ix ?_
  refine call_d tF ?_
  refine And.intro (by kernel_rfl) ?_
  refine ix ?_
  refine ix ?_
  rw [← hm1] at tK
  refine call_d tK ?_
  refine And.intro (by kernel_rfl) ?_
  have hRF : F.length ≤ 1000 := by omega
  have hRK : K.length ≤ 1000 := by omega
  have hlF : 0 + (F.map Va.c).length ≤ F.length := by rw [List.length_map]; omega
  have hlK : 0 + (K.map Va.c).length ≤ K.length := by rw [List.length_map]; omega
  have hxF : F.map Va.c = F.map Va.c := rfl
  have hxK : K.map Va.c = K.map Va.c := rfl
  have q1 := l23 x (k : Int) F (h := [.cells w.c, .arr 3 (F.map Va.c), .arr 3 (K.map Va.c)]) (id := 1) hRF rfl hxF hlF
  rw [cut_all, cF] at q1
  refine call_h q1 ?_
  repeat (first | refine guard_t rfl ?_ | refine guard_f (by decide) ?_)
  have q2 := l24 x (k : Int) K (h := [.cells w.c, .arr 3 (F.map Va.c), .arr 3 (K.map Va.c)]) (id := 2) hRK rfl hxK hlK hts
  rw [cut_all, cK] at q2
  refine call_h q2 ?_
  repeat (first | refine guard_t rfl ?_ | refine guard_f (by decide) ?_)
  refine cond_f rfl ?_
  clear q1 q2 hxF hxK cF cK tF tK
  refine And.intro (by decide) ?_
  refine cond_f (by show ((more.toNat : Int).tmod 4 == 1) = false; rw [rem4]; exact beq_eq_false_iff_ne.2 (by omega)) ?_
  refine And.intro (by decide) ?_
  refine cond_f (by show ((more.toNat : Int).tmod 4 == 2) = false; rw [rem4]; exact beq_eq_false_iff_ne.2 (by omega)) ?_
  repeat (first | refine guard_t rfl ?_ | refine guard_f (by decide) ?_)
  refine guard_t (decide_eq_true (by rw [List.length_map]; omega)) ?_
  rw [decide_eq_true (by rw [List.length_map]; omega)]
  repeat (first | refine guard_t rfl ?_ | refine guard_f (by decide) ?_)
  refine cond_t (decide_eq_true (by rw [List.length_map]; omega)) ?_
  refine call_p (ofN w) ?_
  generalize w.of = v
  refine And.intro (by decide) ?_
  refine cond_t (by show ((more.toNat : Int).tmod 4 == 3) = true; rw [rem4, h3]; rfl) ?_
  have hzF : (((F.map Va.c).length : Nat) : Int) ≠ 0 := by rw [List.length_map]; omega
  have hzK : (((K.map Va.c).length : Nat) : Int) ≠ 0 := by rw [List.length_map]; omega
  have hmodF : (IntKind.i64.wrap (at_.toNat : Int)).tmod (((F.map Va.c).length : Nat) : Int) = ((at_.toNat % F.length : Nat) : Int) := by
    rw [i64_in _ (by omega), List.length_map, Int.tmod_eq_emod_of_nonneg (by omega)]
    omega
  have hmodK : (IntKind.i64.wrap (at_.toNat : Int)).tmod (((K.map Va.c).length : Nat) : Int) = ((at_.toNat % K.length : Nat) : Int) := by
    rw [i64_in _ (by omega), List.length_map, Int.tmod_eq_emod_of_nonneg (by omega)]
    omega
  have hiF0 : at_.toNat % F.length < F.length := Nat.mod_lt _ (by omega)
  have hiK : at_.toNat % K.length < K.length := Nat.mod_lt _ (by omega)
  generalize at_.toNat % F.length = iF at hmodF hiF0
  generalize at_.toNat % K.length = iK at hmodK hiK
  have hiF : iF < F.length := by omega
  have hbF : (iF : Int) < (((F.map Va.c).length : Nat) : Int) := by rw [List.length_map]; omega
  have hbK : (iK : Int) < (((K.map Va.c).length : Nat) : Int) := by rw [List.length_map]; omega
  refine And.intro hzF ?_
  rw [hmodF]
  refine And.intro rfl (And.intro ⟨Int.natCast_nonneg _, hbF⟩ ?_)
  refine Exists.intro (0 + (iF : Int).toNat) (Exists.intro 0 (Exists.intro (F[iF]'hiF).c (And.intro ⟨rfl, by decide, by decide⟩ (And.intro ?_ ?_))))
  · rw [show 0 + (iF : Int).toNat = iF by simp]; exact words_get hiF
  refine And.intro (by kernel_rfl) ?_
  refine And.intro hzK ?_
  rw [hmodK]
  refine And.intro rfl (And.intro ⟨Int.natCast_nonneg _, hbK⟩ ?_)
  refine Exists.intro (0 + (iK : Int).toNat) (Exists.intro 0 (Exists.intro (K[iK]'hiK).c (And.intro ⟨rfl, by decide, by decide⟩ (And.intro ?_ ?_))))
  · rw [show 0 + (iK : Int).toNat = iK by simp]; exact words_get hiK
  refine And.intro (by kernel_rfl) ?_
  have hxF : (F.map Va.c).set (0 + (iF : Int).toNat) (Va.c ⟨at_, v.n, v.s⟩) = (F.set iF ⟨at_, v.n, v.s⟩).map Va.c := by rw [show 0 + (iF : Int).toNat = iF by simp, words_set]
  have hxK : (K.map Va.c).set (0 + (iK : Int).toNat) (Va.c ⟨at_, v.n, v.s⟩) = (K.set iK ⟨at_, v.n, v.s⟩).map Va.c := by rw [show 0 + (iK : Int).toNat = iK by simp, words_set]
  have hRF : (F.set iF ⟨at_, v.n, v.s⟩).length ≤ 1000 := by rw [List.length_set]; omega
  have hRK : (K.set iK ⟨at_, v.n, v.s⟩).length ≤ 1000 := by rw [List.length_set]; omega
  have hlF : 0 + (F.map Va.c).length ≤ (F.set iF ⟨at_, v.n, v.s⟩).length := by rw [List.length_set]; exact hlF
  have hlK : 0 + (K.map Va.c).length ≤ (K.set iK ⟨at_, v.n, v.s⟩).length := by rw [List.length_set]; exact hlK
  refine call_h (l23 x (k : Int) (F.set iF ⟨at_, v.n, v.s⟩) (id := 1) hRF rfl hxF hlF) ?_
  repeat (first | refine guard_t rfl ?_ | refine guard_f (by decide) ?_)
  refine call_h (l26 x (k : Int) (F.set iF ⟨at_, v.n, v.s⟩) (id := 1) hRF rfl hxF hlF) ?_
  repeat (first | refine guard_t rfl ?_ | refine guard_f (by decide) ?_)
  refine guard_t (beq_self_eq_true _) ?_
  repeat (first | refine guard_t rfl ?_ | refine guard_f (by decide) ?_)
  refine call_h (l24 x (k : Int) (K.set iK ⟨at_, v.n, v.s⟩) (id := 2) hRK rfl hxK hlK hts) ?_
  repeat (first | refine guard_t rfl ?_ | refine guard_f (by decide) ?_)
  refine call_h (l27 x (k : Int) (K.set iK ⟨at_, v.n, v.s⟩) (id := 2) hRK rfl hxK hlK hts) ?_
  repeat (first | refine guard_t rfl ?_ | refine guard_f (by decide) ?_)
  refine guard_t (beq_self_eq_true _) ?_
  repeat (first | refine guard_t rfl ?_ | refine guard_f (by decide) ?_)
  refine call_h (l23 x t (F.set iF ⟨at_, v.n, v.s⟩) (id := 1) hRF rfl hxF hlF) ?_
  repeat (first | refine guard_t rfl ?_ | refine guard_f (by decide) ?_)
  refine call_h (l26 x t (F.set iF ⟨at_, v.n, v.s⟩) (id := 1) hRF rfl hxF hlF) ?_
  repeat (first | refine guard_t rfl ?_ | refine guard_f (by decide) ?_)
  refine guard_t (beq_self_eq_true _) ?_
  repeat (first | refine guard_t rfl ?_ | refine guard_f (by decide) ?_)
  refine call_h (l24 x t (F.set iF ⟨at_, v.n, v.s⟩) (id := 1) hRF rfl hxF hlF hts) ?_
  repeat (first | refine guard_t rfl ?_ | refine guard_f (by decide) ?_)
  refine call_h (l27 x t (F.set iF ⟨at_, v.n, v.s⟩) (id := 1) hRF rfl hxF hlF hts) ?_
  repeat (first | refine guard_t rfl ?_ | refine guard_f (by decide) ?_)
  exact bool_eq (beq_self_eq_true _)

theorem tcPB0 (nl n1 : Option Bool) (own o1 : Bool) (l : List Form) (hl : l.length ≤ 9223372036854775807) (hfw : fewD l = true) (t : Int) (ht : ¬ t.tmod ((tables l).length : Nat) < 0) (row : List UInt8) (ha : row.length ≤ 12) (at_ : UInt8) (w : Va) (more : UInt8) (h1 : more.toNat % 4 = 1) : PCallN Tryd.prog 6 [.sl 2 nl own (l.map Form.c), .int .i64 t, .sl 1 n1 o1 (bs row), .int .u8 at_.toNat, w.av, .bool false, .int .u8 more.toNat] (.bool true) := by
  refine PCallN.of (tr [17, 18, 2000017, 2000018, 1000092, 1000096]) f6 (Nat.le_of_ble_eq_true rfl) (np_checks _ _ _ _ _ _ _) (.bool _) ?_
  refine call_p noughtsN ?_
  repeat (first | refine guard_t rfl ?_ | refine guard_f (by decide) ?_)
  refine call_p (fewN _ _ l hl) ?_
  rw [hfw]
  repeat (first | refine guard_t rfl ?_ | refine guard_f (by decide) ?_)
  refine cond_f (decide_eq_false (by rw [bs_len]; omega)) ?_
  refine call_p (tablesN _ _ l) ?_
  have hx := tables_len l
  have hx4 := tabN_le l
  refine And.intro (by rw [List.length_map]; omega) ?_
  have ha5 := at_.toNat_lt
  have hm5 := more.toNat_lt
  rw [List.length_map]
  refine cond_f (decide_eq_false ht) ?_
  have hlt : (t.tmod ((tables l).length : Nat)).natAbs < (tables l).length := by
    rw [Int.natAbs_tmod, Int.natAbs_natCast]
    exact Nat.mod_lt _ (by omega)
  have hk : t.tmod ((tables l).length : Nat) = ((t.tmod ((tables l).length : Nat)).natAbs : Int) := by omega
  generalize (t.tmod ((tables l).length : Nat)).natAbs = k at hk hlt
  rw [hk]
  obtain ⟨m, hm1, hm2, hm3, hm4⟩ := tabAt_ok l k
  have hkd := tabAt_kinds l k
  rw [← tables_get l k hlt] at hm1 hm3 hm4 hkd
  have hk4 : k < 4 := by omega
  have hts := tables_ks l
  clear hk ht
  generalize tables l = x at hlt hm1 hm3 hm4 hkd hts ⊢
  have ix : ∀ {K : List AV → Prop}, K x[k].c → (3 = 3 ∧ 0 ≤ (k : Int) ∧ ∃ c, (x.map Tab.c)[((k : Nat) : Int).toNat]? = some c ∧ K c) := fun h => ⟨rfl, Int.natCast_nonneg k, _, map_get hlt, h⟩
  have lF : (fitL x[k].cs (x[k].cs.map Col.c).length row).length = x[k].cs.length := by rw [fitL_len, List.length_map]; omega
  have lK : (fitL x[k].cs m row).length = m := by rw [fitL_len]; omega
  have cF : chkT x (k : Int) (fitL x[k].cs (x[k].cs.map Col.c).length row) = 0 := by
    have := fit_chk x[k].cs hkd (x[k].cs.map Col.c).length (by rw [List.length_map]; exact Nat.le_refl _) row
    rw [List.take_of_length_le (by rw [List.length_map]; exact Nat.le_refl _)] at this
    rw [chkT_at x k hlt, this]
  have cK : chkK x (k : Int) (fitL x[k].cs m row) = 0 := by
    rw [chkK_at x k hlt, hm1, Int.toNat_natCast]
    exact fit_chk x[k].cs hkd m hm3 row
  have tF := (fitN x[k] (x[k].cs.map Col.c).length n1 false row (by omega)).thaw rfl (by rw [List.length_map]; omega) (va_flat _)
  have tK := (fitN x[k] m n1 false row (by omega)).thaw rfl (by rw [List.length_map]; omega) (va_flat _)
  generalize fitL x[k].cs (x[k].cs.map Col.c).length row = F at lF cF tF
  generalize fitL x[k].cs m row = K at lK cK tK
  refine ix ?_
  refine ix ?_
  refine call_d tF ?_
  refine And.intro (by kernel_rfl) ?_
  refine ix ?_
  refine ix ?_
  rw [← hm1] at tK
  refine call_d tK ?_
  refine And.intro (by kernel_rfl) ?_
  have hRF : F.length ≤ 1000 := by omega
  have hRK : K.length ≤ 1000 := by omega
  have hlF : 0 + (F.map Va.c).length ≤ F.length := by rw [List.length_map]; omega
  have hlK : 0 + (K.map Va.c).length ≤ K.length := by rw [List.length_map]; omega
  have hxF : F.map Va.c = F.map Va.c := rfl
  have hxK : K.map Va.c = K.map Va.c := rfl
  have q1 := l23 x (k : Int) F (h := [.cells w.c, .arr 3 (F.map Va.c), .arr 3 (K.map Va.c)]) (id := 1) hRF rfl hxF hlF
  rw [cut_all, cF] at q1
  refine call_h q1 ?_
  repeat (first | refine guard_t rfl ?_ | refine guard_f (by decide) ?_)
  have q2 := l24 x (k : Int) K (h := [.cells w.c, .arr 3 (F.map Va.c), .arr 3 (K.map Va.c)]) (id := 2) hRK rfl hxK hlK hts
  rw [cut_all, cK] at q2
  refine call_h q2 ?_
  repeat (first | refine guard_t rfl ?_ | refine guard_f (by decide) ?_)
  refine cond_f rfl ?_
  clear q1 q2 hxF hxK cF cK tF tK
  refine And.intro (by decide) ?_
  refine cond_t (by show ((more.toNat : Int).tmod 4 == 1) = true; rw [rem4, h1]; rfl) ?_
  refine And.intro rfl (And.intro ⟨Int.le_refl _, by rw [i64_in _ (by rw [List.length_map]; omega), List.length_map]; omega, by rw [i64_in _ (by rw [List.length_map]; omega), List.length_map]; omega⟩ ?_)
  have hu : (IntKind.i64.wrap (((F.map Va.c).length : Nat) - 1)).toNat - (0 : Int).toNat = F.length - 1 := by
    rw [i64_in _ (by rw [List.length_map]; omega), List.length_map]; omega
  rw [hu]
  have hnB : F.length - 1 + 1 = F.length := by omega
  generalize F.length - 1 = nB at hnB ⊢
  have hlF : 0 + (0 : Int).toNat + nB ≤ F.length := by simp; omega
  refine And.intro (by decide) ?_
  refine cond_f (by show ((more.toNat : Int).tmod 4 == 2) = false; rw [rem4]; exact beq_eq_false_iff_ne.2 (by omega)) ?_
  repeat (first | refine guard_t rfl ?_ | refine guard_f (by decide) ?_)
  refine cond_f rfl ?_
  have hxF : F.map Va.c = F.map Va.c := rfl
  have hxK : K.map Va.c = K.map Va.c := rfl
  refine call_h (l23 x (k : Int) F (id := 1) hRF rfl hxF hlF) ?_
  repeat (first | refine guard_t rfl ?_ | refine guard_f (by decide) ?_)
  refine call_h (l26 x (k : Int) F (id := 1) hRF rfl hxF hlF) ?_
  repeat (first | refine guard_t rfl ?_ | refine guard_f (by decide) ?_)
  refine guard_t (beq_self_eq_true _) ?_
  repeat (first | refine guard_t rfl ?_ | refine guard_f (by decide) ?_)
  refine call_h (l24 x (k : Int) K (id := 2) hRK rfl hxK hlK hts) ?_
  repeat (first | refine guard_t rfl ?_ | refine guard_f (by decide) ?_)
  refine call_h (l27 x (k : Int) K (id := 2) hRK rfl hxK hlK hts) ?_
  repeat (first | refine guard_t rfl ?_ | refine guard_f (by decide) ?_)
  refine guard_t (beq_self_eq_true _) ?_
  repeat (first | refine guard_t rfl ?_ | refine guard_f (by decide) ?_)
  refine call_h (l23 x t F (id := 1) hRF rfl hxF hlF) ?_
  repeat (first | refine guard_t rfl ?_ | refine guard_f (by decide) ?_)
  refine call_h (l26 x t F (id := 1) hRF rfl hxF hlF) ?_
  repeat (first | refine guard_t rfl ?_ | refine guard_f (by decide) ?_)
  refine guard_t (beq_self_eq_true _) ?_
  repeat (first | refine guard_t rfl ?_ | refine guard_f (by decide) ?_)
  refine call_h (l24 x t F (id := 1) hRF rfl hxF hlF hts) ?_
  repeat (first | refine guard_t rfl ?_ | refine guard_f (by decide) ?_)
  refine call_h (l27 x t F (id := 1) hRF rfl hxF hlF hts) ?_
  repeat (first | refine guard_t rfl ?_ | refine guard_f (by decide) ?_)
  exact bool_eq (beq_self_eq_true _)

theorem tcPB1 (nl n1 : Option Bool) (own o1 : Bool) (l : List Form) (hl : l.length ≤ 9223372036854775807) (hfw : fewD l = true) (t : Int) (ht : ¬ t.tmod ((tables l).length : Nat) < 0) (row : List UInt8) (ha : row.length ≤ 12) (at_ : UInt8) (w : Va) (more : UInt8) (h1 : more.toNat % 4 = 1) (hc : (tabAt l (t.tmod ((tables l).length : Nat)).natAbs).cs.length ≠ 1) : PCallN Tryd.prog 6 [.sl 2 nl own (l.map Form.c), .int .i64 t, .sl 1 n1 o1 (bs row), .int .u8 at_.toNat, w.av, .bool true, .int .u8 more.toNat] (.bool true) := by
  refine PCallN.of (tr [17, 18, 2000017, 2000018, 1000092, 1000096]) f6 (Nat.le_of_ble_eq_true rfl) (np_checks _ _ _ _ _ _ _) (.bool _) ?_
  refine call_p noughtsN ?_
  repeat (first | refine guard_t rfl ?_ | refine guard_f (by decide) ?_)
  refine call_p (fewN _ _ l hl) ?_
  rw [hfw]
  repeat (first | refine guard_t rfl ?_ | refine guard_f (by decide) ?_)
  refine cond_f (decide_eq_false (by rw [bs_len]; omega)) ?_
  refine call_p (tablesN _ _ l) ?_
  have hx := tables_len l
  have hx4 := tabN_le l
  refine And.intro (by rw [List.length_map]; omega) ?_
  have ha5 := at_.toNat_lt
  have hm5 := more.toNat_lt
  rw [List.length_map]
  refine cond_f (decide_eq_false ht) ?_
  have hlt : (t.tmod ((tables l).length : Nat)).natAbs < (tables l).length := by
    rw [Int.natAbs_tmod, Int.natAbs_natCast]
    exact Nat.mod_lt _ (by omega)
  have hk : t.tmod ((tables l).length : Nat) = ((t.tmod ((tables l).length : Nat)).natAbs : Int) := by omega
  generalize (t.tmod ((tables l).length : Nat)).natAbs = k at hk hlt hc
  rw [hk]
  obtain ⟨m, hm1, hm2, hm3, hm4⟩ := tabAt_ok l k
  have hkd := tabAt_kinds l k
  rw [← tables_get l k hlt] at hm1 hm3 hm4 hkd hc
  have hk4 : k < 4 := by omega
  have hts := tables_ks l
  clear hk ht
  generalize tables l = x at hlt hm1 hm3 hm4 hkd hts ⊢
  have ix : ∀ {K : List AV → Prop}, K x[k].c → (3 = 3 ∧ 0 ≤ (k : Int) ∧ ∃ c, (x.map Tab.c)[((k : Nat) : Int).toNat]? = some c ∧ K c) := fun h => ⟨rfl, Int.natCast_nonneg k, _, map_get hlt, h⟩
  have lF : (fitL x[k].cs (x[k].cs.map Col.c).length row).length = x[k].cs.length := by rw [fitL_len, List.length_map]; omega
  have lK : (fitL x[k].cs m row).length = m := by rw [fitL_len]; omega
  have cF : chkT x (k : Int) (fitL x[k].cs (x[k].cs.map Col.c).length row) = 0 := by
    have := fit_chk x[k].cs hkd (x[k].cs.map Col.c).length (by rw [List.length_map]; exact Nat.le_refl _) row
    rw [List.take_of_length_le (by rw [List.length_map]; exact Nat.le_refl _)] at this
    rw [chkT_at x k hlt, this]
  have cK : chkK x (k : Int) (fitL x[k].cs m row) = 0 := by
    rw [chkK_at x k hlt, hm1, Int.toNat_natCast]
    exact fit_chk x[k].cs hkd m hm3 row
  have tF := (fitN x[k] (x[k].cs.map Col.c).length n1 false row (by omega)).thaw rfl (by rw [List.length_map]; omega) (va_flat _)
  have tK := (fitN x[k] m n1 false row (by omega)).thaw rfl (by rw [List.length_map]; omega) (va_flat _)
  generalize fitL x[k].cs (x[k].cs.map Col.c).length row = F at lF cF tF
  generalize fitL x[k].cs m row = K at lK cK tK
  refine ix ?_
  refine ix ?_
  refine call_d tF ?_
  refine And.intro (by kernel_rfl) ?_
  refine ix ?_
  refine ix ?_
  rw [← hm1] at tK
  refine call_d tK ?_
  refine And.intro (by kernel_rfl) ?_
  have hRF : F.length ≤ 1000 := by omega
  have hRK : K.length ≤ 1000 := by omega
  have hlF : 0 + (F.map Va.c).length ≤ F.length := by rw [List.length_map]; omega
  have hlK : 0 + (K.map Va.c).length ≤ K.length := by rw [List.length_map]; omega
  have hxF : F.map Va.c = F.map Va.c := rfl
  have hxK : K.map Va.c = K.map Va.c := rfl
  have q1 := l23 x (k : Int) F (h := [.cells w.c, .arr 3 (F.map Va.c), .arr 3 (K.map Va.c)]) (id := 1) hRF rfl hxF hlF
  rw [cut_all, cF] at q1
  refine call_h q1 ?_
  repeat (first | refine guard_t rfl ?_ | refine guard_f (by decide) ?_)
  have q2 := l24 x (k : Int) K (h := [.cells w.c, .arr 3 (F.map Va.c), .arr 3 (K.map Va.c)]) (id := 2) hRK rfl hxK hlK hts
  rw [cut_all, cK] at q2
  refine call_h q2 ?_
  repeat (first | refine guard_t rfl ?_ | refine guard_f (by decide) ?_)
  refine cond_f rfl ?_
  clear q1 q2 hxF hxK cF cK tF tK
  refine And.intro (by decide) ?_
  refine cond_t (by show ((more.toNat : Int).tmod 4 == 1) = true; rw [rem4, h1]; rfl) ?_
  refine And.intro rfl (And.intro ⟨Int.le_refl _, by rw [i64_in _ (by rw [List.length_map]; omega), List.length_map]; omega, by rw [i64_in _ (by rw [List.length_map]; omega), List.length_map]; omega⟩ ?_)
  have hu : (IntKind.i64.wrap (((F.map Va.c).length : Nat) - 1)).toNat - (0 : Int).toNat = F.length - 1 := by
    rw [i64_in _ (by rw [List.length_map]; omega), List.length_map]; omega
  rw [hu]
  have hnB : F.length - 1 + 1 = F.length := by omega
  generalize F.length - 1 = nB at hnB ⊢
  have hlF : 0 + (0 : Int).toNat + nB ≤ F.length := by simp; omega
  refine And.intro (by decide) ?_
  refine cond_f (by show ((more.toNat : Int).tmod 4 == 2) = false; rw [rem4]; exact beq_eq_false_iff_ne.2 (by omega)) ?_
  repeat (first | refine guard_t rfl ?_ | refine guard_f (by decide) ?_)
  have hn0 : 0 < nB := by omega
  refine guard_t (decide_eq_true (by omega)) ?_
  rw [decide_eq_true (by omega)]
  repeat (first | refine guard_t rfl ?_ | refine guard_f (by decide) ?_)
  refine cond_t (decide_eq_true (by rw [List.length_map]; omega)) ?_
  refine call_p (ofN w) ?_
  generalize w.of = v
  refine And.intro (by decide) ?_
  refine cond_f (by show ((more.toNat : Int).tmod 4 == 3) = false; rw [rem4]; exact beq_eq_false_iff_ne.2 (by omega)) ?_
  have hzF : ((nB : Nat) : Int) ≠ 0 := by omega
  have hzK : (((K.map Va.c).length : Nat) : Int) ≠ 0 := by rw [List.length_map]; omega
  have hmodF : (IntKind.i64.wrap (at_.toNat : Int)).tmod ((nB : Nat) : Int) = ((at_.toNat % nB : Nat) : Int) := by
    rw [i64_in _ (by omega), Int.tmod_eq_emod_of_nonneg (by omega)]
    omega
  have hmodK : (IntKind.i64.wrap (at_.toNat : Int)).tmod (((K.map Va.c).length : Nat) : Int) = ((at_.toNat % K.length : Nat) : Int) := by
    rw [i64_in _ (by omega), List.length_map, Int.tmod_eq_emod_of_nonneg (by omega)]
    omega
  have hiF0 : at_.toNat % nB < nB := Nat.mod_lt _ (by omega)
  have hiK : at_.toNat % K.length < K.length := Nat.mod_lt _ (by omega)
  generalize at_.toNat % nB = iF at hmodF hiF0
  generalize at_.toNat % K.length = iK at hmodK hiK
  have hiF : iF < F.length := by omega
  have hbF : (iF : Int) < ((nB : Nat) : Int) := by omega
  have hbK : (iK : Int) < (((K.map Va.c).length : Nat) : Int) := by rw [List.length_map]; omega
  refine And.intro hzF ?_
  rw [hmodF]
  refine And.intro rfl (And.intro ⟨Int.natCast_nonneg _, hbF⟩ ?_)
  refine Exists.intro ((0 + (0 : Int).toNat) + (iF : Int).toNat) (Exists.intro 0 (Exists.intro (F[iF]'hiF).c (And.intro ⟨rfl, by decide, by decide⟩ (And.intro ?_ ?_))))
  · rw [show (0 + (0 : Int).toNat) + (iF : Int).toNat = iF by simp]; exact words_get hiF
  refine And.intro (by kernel_rfl) ?_
  refine And.intro hzK ?_
  rw [hmodK]
  refine And.intro rfl (And.intro ⟨Int.natCast_nonneg _, hbK⟩ ?_)
  refine Exists.intro (0 + (iK : Int).toNat) (Exists.intro 0 (Exists.intro (K[iK]'hiK).c (And.intro ⟨rfl, by decide, by decide⟩ (And.intro ?_ ?_))))
  · rw [show 0 + (iK : Int).toNat = iK by simp]; exact words_get hiK
  refine And.intro (by kernel_rfl) ?_
  have hxF : (F.map Va.c).set ((0 + (0 : Int).toNat) + (iF : Int).toNat) (Va.c v) = (F.set iF v).map Va.c := by rw [show (0 + (0 : Int).toNat) + (iF : Int).toNat = iF by simp, words_set]
  have hxK : (K.map Va.c).set (0 + (iK : Int).toNat) (Va.c v) = (K.set iK v).map Va.c := by rw [show 0 + (iK : Int).toNat = iK by simp, words_set]
  have hRF : (F.set iF v).length ≤ 1000 := by rw [List.length_set]; omega
  have hRK : (K.set iK v).length ≤ 1000 := by rw [List.length_set]; omega
  have hlF : (0 + (0 : Int).toNat) + nB ≤ (F.set iF v).length := by rw [List.length_set]; exact hlF
  have hlK : 0 + (K.map Va.c).length ≤ (K.set iK v).length := by rw [List.length_set]; exact hlK
  refine call_h (l23 x (k : Int) (F.set iF v) (id := 1) hRF rfl hxF hlF) ?_
  repeat (first | refine guard_t rfl ?_ | refine guard_f (by decide) ?_)
  refine call_h (l26 x (k : Int) (F.set iF v) (id := 1) hRF rfl hxF hlF) ?_
  repeat (first | refine guard_t rfl ?_ | refine guard_f (by decide) ?_)
  refine guard_t (beq_self_eq_true _) ?_
  repeat (first | refine guard_t rfl ?_ | refine guard_f (by decide) ?_)
  refine call_h (l24 x (k : Int) (K.set iK v) (id := 2) hRK rfl hxK hlK hts) ?_
  repeat (first | refine guard_t rfl ?_ | refine guard_f (by decide) ?_)
  refine call_h (l27 x (k : Int) (K.set iK v) (id := 2) hRK rfl hxK hlK hts) ?_
  repeat (first | refine guard_t rfl ?_ | refine guard_f (by decide) ?_)
  refine guard_t (beq_self_eq_true _) ?_
  repeat (first | refine guard_t rfl ?_ | refine guard_f (by decide) ?_)
  refine call_h (l23 x t (F.set iF v) (id := 1) hRF rfl hxF hlF) ?_
  repeat (first | refine guard_t rfl ?_ | refine guard_f (by decide) ?_)
  refine call_h (l26 x t (F.set iF v) (id := 1) hRF rfl hxF hlF) ?_
  repeat (first | refine guard_t rfl ?_ | refine guard_f (by decide) ?_)
  refine guard_t (beq_self_eq_true _) ?_
  repeat (first | refine guard_t rfl ?_ | refine guard_f (by decide) ?_)
  refine call_h (l24 x t (F.set iF v) (id := 1) hRF rfl hxF hlF hts) ?_
  repeat (first | refine guard_t rfl ?_ | refine guard_f (by decide) ?_)
  refine call_h (l27 x t (F.set iF v) (id := 1) hRF rfl hxF hlF hts) ?_
  repeat (first | refine guard_t rfl ?_ | refine guard_f (by decide) ?_)
  exact bool_eq (beq_self_eq_true _)

theorem tcPB1k (nl n1 : Option Bool) (own o1 : Bool) (l : List Form) (hl : l.length ≤ 9223372036854775807) (hfw : fewD l = true) (t : Int) (ht : ¬ t.tmod ((tables l).length : Nat) < 0) (row : List UInt8) (ha : row.length ≤ 12) (at_ : UInt8) (w : Va) (more : UInt8) (h1 : more.toNat % 4 = 1) (hc : (tabAt l (t.tmod ((tables l).length : Nat)).natAbs).cs.length = 1) : PCallN Tryd.prog 6 [.sl 2 nl own (l.map Form.c), .int .i64 t, .sl 1 n1 o1 (bs row), .int .u8 at_.toNat, w.av, .bool true, .int .u8 more.toNat] (.bool true) := by
  refine PCallN.of (tr [17, 18, 2000017, 2000018, 1000092, 1000096]) f6 (Nat.le_of_ble_eq_true rfl) (np_checks _ _ _ _ _ _ _) (.bool _) ?_
  refine call_p noughtsN ?_
  repeat (first | refine guard_t rfl ?_ | refine guard_f (by decide) ?_)
  refine call_p (fewN _ _ l hl) ?_
  rw [hfw]
  repeat (first | refine guard_t rfl ?_ | refine guard_f (by decide) ?_)
  refine cond_f (decide_eq_false (by rw [bs_len]; omega)) ?_
  refine call_p (tablesN _ _ l) ?_
  have hx := tables_len l
  have hx4 := tabN_le l
  refine And.intro (by rw [List.length_map]; omega) ?_
  have ha5 := at_.toNat_lt
  have hm5 := more.toNat_lt
  rw [List.length_map]
  refine cond_f (decide_eq_false ht) ?_
  have hlt : (t.tmod ((tables l).length : Nat)).natAbs < (tables l).length := by
    rw [Int.natAbs_tmod, Int.natAbs_natCast]
    exact Nat.mod_lt _ (by omega)
  have hk : t.tmod ((tables l).length : Nat) = ((t.tmod ((tables l).length : Nat)).natAbs : Int) := by omega
  generalize (t.tmod ((tables l).length : Nat)).natAbs = k at hk hlt hc
  rw [hk]
  obtain ⟨m, hm1, hm2, hm3, hm4⟩ := tabAt_ok l k
  have hkd := tabAt_kinds l k
  rw [← tables_get l k hlt] at hm1 hm3 hm4 hkd hc
  have hk4 : k < 4 := by omega
  have hts := tables_ks l
  clear hk ht
  generalize tables l = x at hlt hm1 hm3 hm4 hkd hts ⊢
  have ix : ∀ {K : List AV → Prop}, K x[k].c → (3 = 3 ∧ 0 ≤ (k : Int) ∧ ∃ c, (x.map Tab.c)[((k : Nat) : Int).toNat]? = some c ∧ K c) := fun h => ⟨rfl, Int.natCast_nonneg k, _, map_get hlt, h⟩
  have lF : (fitL x[k].cs (x[k].cs.map Col.c).length row).length = x[k].cs.length := by rw [fitL_len, List.length_map]; omega
  have lK : (fitL x[k].cs m row).length = m := by rw [fitL_len]; omega
  have cF : chkT x (k : Int) (fitL x[k].cs (x[k].cs.map Col.c).length row) = 0 := by
    have := fit_chk x[k].cs hkd (x[k].cs.map Col.c).length (by rw [List.length_map]; exact Nat.le_refl _) row
    rw [List.take_of_length_le (by rw [List.length_map]; exact Nat.le_refl _)] at this
    rw [chkT_at x k hlt, this]
  have cK : chkK x (k : Int) (fitL x[k].cs m row) = 0 := by
    rw [chkK_at x k hlt, hm1, Int.toNat_natCast]
    exact fit_chk x[k].cs hkd m hm3 row
  have tF := (fitN x[k] (x[k].cs.map Col.c).length n1 false row (by omega)).thaw rfl (by rw [List.length_map]; omega) (va_flat _)
  have tK := (fitN x[k] m n1 false row (by omega)).thaw rfl (by rw [List.length_map]; omega) (va_flat _)
  generalize fitL x[k].cs (x[k].cs.map Col.c).length row = F at lF cF tF
  generalize fitL x[k].cs m row = K at lK cK tK
  refine ix ?_
  refine ix ?_
  refine call_d tF ?_
  refine And.intro (by kernel_rfl) ?_
  refine ix ?_
  refine ix ?_
  rw [← hm1] at tK
  refine call_d tK ?_
  refine And.intro (by kernel_rfl) ?_
  have hRF : F.length ≤ 1000 := by omega
  have hRK : K.length ≤ 1000 := by omega
  have hlF : 0 + (F.map Va.c).length ≤ F.length := by rw [List.length_map]; omega
  have hlK : 0 + (K.map Va.c).length ≤ K.length := by rw [List.length_map]; omega
  have hxF : F.map Va.c = F.map Va.c := rfl
  have hxK : K.map Va.c = K.map Va.c := rfl
  have q1 := l23 x (k : Int) F (h := [.cells w.c, .arr 3 (F.map Va.c), .arr 3 (K.map Va.c)]) (id := 1) hRF rfl hxF hlF
  rw [cut_all, cF] at q1
  refine call_h q1 ?_
  repeat (first | refine guard_t rfl ?_ | refine guard_f (by decide) ?_)
  have q2 := l24 x (k : Int) K (h := [.cells w.c, .arr 3 (F.map Va.c), .arr 3 (K.map Va.c)]) (id := 2) hRK rfl hxK hlK hts
  rw [cut_all, cK] at q2
  refine call_h q2 ?_
  repeat (first | refine guard_t rfl ?_ | refine guard_f (by decide) ?_)
  refine cond_f rfl ?_
  clear q1 q2 hxF hxK cF cK tF tK
  refine And.intro (by decide) ?_
  refine cond_t (by show ((more.toNat : Int).tmod 4 == 1) = true; rw [rem4, h1]; rfl) ?_
  refine And.intro rfl (And.intro ⟨Int.le_refl _, by rw [i64_in _ (by rw [List.length_map]; omega), List.length_map]; omega, by rw [i64_in _ (by rw [List.length_map]; omega), List.length_map]; omega⟩ ?_)
  have hu : (IntKind.i64.wrap (((F.map Va.c).length : Nat) - 1)).toNat - (0 : Int).toNat = F.length - 1 := by
    rw [i64_in _ (by rw [List.length_map]; omega), List.length_map]; omega
  rw [hu]
  have hnB : F.length - 1 + 1 = F.length := by omega
  generalize F.length - 1 = nB at hnB ⊢
  have hlF : 0 + (0 : Int).toNat + nB ≤ F.length := by simp; omega
  refine And.intro (by decide) ?_
  refine cond_f (by show ((more.toNat : Int).tmod 4 == 2) = false; rw [rem4]; exact beq_eq_false_iff_ne.2 (by omega)) ?_
  repeat (first | refine guard_t rfl ?_ | refine guard_f (by decide) ?_)
  refine guard_f (by simp; omega) ?_
  repeat (first | refine guard_t rfl ?_ | refine guard_f (by decide) ?_)
  refine cond_f (by first | rfl | exact decide_eq_false (by omega)) ?_
  have hxF : F.map Va.c = F.map Va.c := rfl
  have hxK : K.map Va.c = K.map Va.c := rfl
  refine call_h (l23 x (k : Int) F (id := 1) hRF rfl hxF hlF) ?_
  repeat (first | refine guard_t rfl ?_ | refine guard_f (by decide) ?_)
  refine call_h (l26 x (k : Int) F (id := 1) hRF rfl hxF hlF) ?_
  repeat (first | refine guard_t rfl ?_ | refine guard_f (by decide) ?_)
  refine guard_t (beq_self_eq_true _) ?_
  repeat (first | refine guard_t rfl ?_ | refine guard_f (by decide) ?_)
  refine call_h (l24 x (k : Int) K (id := 2) hRK rfl hxK hlK hts) ?_
  repeat (first | refine guard_t rfl ?_ | refine guard_f (by decide) ?_)
  refine call_h (l27 x (k : Int) K (id := 2) hRK rfl hxK hlK hts) ?_
  repeat (first | refine guard_t rfl ?_ | refine guard_f (by decide) ?_)
  refine guard_t (beq_self_eq_true _) ?_
  repeat (first | refine guard_t rfl ?_ | refine guard_f (by decide) ?_)
  refine call_h (l23 x t F (id := 1) hRF rfl hxF hlF) ?_
  repeat (first | refine guard_t rfl ?_ | refine guard_f (by decide) ?_)
  refine call_h (l26 x t F (id := 1) hRF rfl hxF hlF) ?_
  repeat (first | refine guard_t rfl ?_ | refine guard_f (by decide) ?_)
  refine guard_t (beq_self_eq_true _) ?_
  repeat (first | refine guard_t rfl ?_ | refine guard_f (by decide) ?_)
  refine call_h (l24 x t F (id := 1) hRF rfl hxF hlF hts) ?_
  repeat (first | refine guard_t rfl ?_ | refine guard_f (by decide) ?_)
  refine call_h (l27 x t F (id := 1) hRF rfl hxF hlF hts) ?_
  repeat (first | refine guard_t rfl ?_ | refine guard_f (by decide) ?_)
  exact bool_eq (beq_self_eq_true _)

theorem tcPC0 (nl n1 : Option Bool) (own o1 : Bool) (l : List Form) (hl : l.length ≤ 9223372036854775807) (hfw : fewD l = true) (t : Int) (ht : ¬ t.tmod ((tables l).length : Nat) < 0) (row : List UInt8) (ha : row.length ≤ 12) (at_ : UInt8) (w : Va) (more : UInt8) (h2 : more.toNat % 4 = 2) : PCallN Tryd.prog 6 [.sl 2 nl own (l.map Form.c), .int .i64 t, .sl 1 n1 o1 (bs row), .int .u8 at_.toNat, w.av, .bool false, .int .u8 more.toNat] (.bool true) := by
  refine PCallN.of (tr [17, 18, 2000017, 2000018, 1000092, 1000096]) f6 (Nat.le_of_ble_eq_true rfl) (np_checks _ _ _ _ _ _ _) (.bool _) ?_
  refine call_p noughtsN ?_
  repeat (first | refine guard_t rfl ?_ | refine guard_f (by decide) ?_)
  refine call_p (fewN _ _ l hl) ?_
  rw [hfw]
  repeat (first | refine guard_t rfl ?_ | refine guard_f (by decide) ?_)
  refine cond_f (decide_eq_false (by rw [bs_len]; omega)) ?_
  refine call_p (tablesN _ _ l) ?_
  have hx := tables_len l
  have hx4 := tabN_le l
  refine And.intro (by rw [List.length_map]; omega) ?_
  have ha5 := at_.toNat_lt
  have hm5 := more.toNat_lt
  rw [List.length_map]
  refine cond_f (decide_eq_false ht) ?_
  have hlt : (t.tmod ((tables l).length : Nat)).natAbs < (tables l).length := by
    rw [Int.natAbs_tmod, Int.natAbs_natCast]
    exact Nat.mod_lt _ (by omega)
  have hk : t.tmod ((tables l).length : Nat) = ((t.tmod ((tables l).length : Nat)).natAbs : Int) := by omega
  generalize (t.tmod ((tables l).length : Nat)).natAbs = k at hk hlt
  rw [hk]
  obtain ⟨m, hm1, hm2, hm3, hm4⟩ := tabAt_ok l k
  have hkd := tabAt_kinds l k
  rw [← tables_get l k hlt] at hm1 hm3 hm4 hkd
  have hk4 : k < 4 := by omega
  have hts := tables_ks l
  clear hk ht
  generalize tables l = x at hlt hm1 hm3 hm4 hkd hts ⊢
  have ix : ∀ {K : List AV → Prop}, K x[k].c → (3 = 3 ∧ 0 ≤ (k : Int) ∧ ∃ c, (x.map Tab.c)[((k : Nat) : Int).toNat]? = some c ∧ K c) := fun h => ⟨rfl, Int.natCast_nonneg k, _, map_get hlt, h⟩
  have lF : (fitL x[k].cs (x[k].cs.map Col.c).length row).length = x[k].cs.length := by rw [fitL_len, List.length_map]; omega
  have lK : (fitL x[k].cs m row).length = m := by rw [fitL_len]; omega
  have cF : chkT x (k : Int) (fitL x[k].cs (x[k].cs.map Col.c).length row) = 0 := by
    have := fit_chk x[k].cs hkd (x[k].cs.map Col.c).length (by rw [List.length_map]; exact Nat.le_refl _) row
    rw [List.take_of_length_le (by rw [List.length_map]; exact Nat.le_refl _)] at this
    rw [chkT_at x k hlt, this]
  have cK : chkK x (k : Int) (fitL x[k].cs m row) = 0 := by
    rw [chkK_at x k hlt, hm1, Int.toNat_natCast]
    exact fit_chk x[k].cs hkd m hm3 row
  have tF := (fitN x[k] (x[k].cs.map Col.c).length n1 false row (by omega)).thaw rfl (by rw [List.length_map]; omega) (va_flat _)
  have tK := (fitN x[k] m n1 false row (by omega)).thaw rfl (by rw [List.length_map]; omega) (va_flat _)
  generalize fitL x[k].cs (x[k].cs.map Col.c).length row = F at lF cF tF
  generalize fitL x[k].cs m row = K at lK cK tK
  refine ix ?_
  refine ix ?_
  refine call_d tF ?_
  refine And.intro (by kernel_rfl) ?_
  refine ix ?_
  refine ix ?_
  rw [← hm1] at tK
  refine call_d tK ?_
  refine And.intro (by kernel_rfl) ?_
  have hRF : F.length ≤ 1000 := by omega
  have hRK : K.length ≤ 1000 := by omega
  have hlF : 0 + (F.map Va.c).length ≤ F.length := by rw [List.length_map]; omega
  have hlK : 0 + (K.map Va.c).length ≤ K.length := by rw [List.length_map]; omega
  have hxF : F.map Va.c = F.map Va.c := rfl
  have hxK : K.map Va.c = K.map Va.c := rfl
  have q1 := l23 x (k : Int) F (h := [.cells w.c, .arr 3 (F.map Va.c), .arr 3 (K.map Va.c)]) (id := 1) hRF rfl hxF hlF
  rw [cut_all, cF] at q1
  refine call_h q1 ?_
  repeat (first | refine guard_t rfl ?_ | refine guard_f (by decide) ?_)
  have q2 := l24 x (k : Int) K (h := [.cells w.c, .arr 3 (F.map Va.c), .arr 3 (K.map Va.c)]) (id := 2) hRK rfl hxK hlK hts
  rw [cut_all, cK] at q2
  refine call_h q2 ?_
  repeat (first | refine guard_t rfl ?_ | refine guard_f (by decide) ?_)
  refine cond_f rfl ?_
  clear q1 q2 hxF hxK cF cK tF tK
  refine And.intro (by decide) ?_
  refine cond_f (by show ((more.toNat : Int).tmod 4 == 1) = false; rw [rem4]; exact beq_eq_false_iff_ne.2 (by omega)) ?_
  refine And.intro (by decide) ?_
  refine cond_t (by show ((more.toNat : Int).tmod 4 == 2) = true; rw [rem4, h2]; rfl) ?_
  refine And.intro ⟨rfl, rfl, rfl, rfl, by rw [List.length_map]; omega⟩ (And.intro (.inl rfl) (And.intro ⟨by simp; omega, by simp; omega⟩ ?_))
  refine And.intro ⟨rfl, rfl, rfl, rfl, by rw [List.length_map]; omega⟩ (And.intro (.inl rfl) (And.intro ⟨by simp; omega, by simp; omega⟩ ?_))
  have eF : F.map Va.c ++ [[.int .u8 0, .int .i64 0, .str ⟨#[]⟩]] = (F ++ [(⟨0, 0, []⟩ : Va)]).map Va.c := by rw [List.map_append]; rfl
  have eK : K.map Va.c ++ [[.int .u8 0, .int .i64 0, .str ⟨#[]⟩]] = (K ++ [(⟨0, 0, []⟩ : Va)]).map Va.c := by rw [List.map_append]; rfl
  rw [eF, eK]
  have lF2 : (F ++ [(⟨0, 0, []⟩ : Va)]).length = F.length + 1 := by simp
  have lK2 : (K ++ [(⟨0, 0, []⟩ : Va)]).length = K.length + 1 := by simp
  generalize F ++ [(⟨0, 0, []⟩ : Va)] = F2 at lF2 ⊢
  generalize K ++ [(⟨0, 0, []⟩ : Va)] = K2 at lK2 ⊢
  have hRF : F2.length ≤ 1000 := by omega
  have hRK : K2.length ≤ 1000 := by omega
  have hlF : 0 + (F2.map Va.c).length ≤ F2.length := by rw [List.length_map]; omega
  have hlK : 0 + (K2.map Va.c).length ≤ K2.length := by rw [List.length_map]; omega
  repeat (first | refine guard_t rfl ?_ | refine guard_f (by decide) ?_)
  refine cond_f rfl ?_
  have hxF : F2.map Va.c = F2.map Va.c := rfl
  have hxK : K2.map Va.c = K2.map Va.c := rfl
  refine call_h (l23 x (k : Int) F2 (id := 3) hRF rfl hxF hlF) ?_
  repeat (first | refine guard_t rfl ?_ | refine guard_f (by decide) ?_)
  refine call_h (l26 x (k : Int) F2 (id := 3) hRF rfl hxF hlF) ?_
  repeat (first | refine guard_t rfl ?_ | refine guard_f (by decide) ?_)
  refine guard_t (beq_self_eq_true _) ?_
  repeat (first | refine guard_t rfl ?_ | refine guard_f (by decide) ?_)
  refine call_h (l24 x (k : Int) K2 (id := 4) hRK rfl hxK hlK hts) ?_
  repeat (first | refine guard_t rfl ?_ | refine guard_f (by decide) ?_)
  refine call_h (l27 x (k : Int) K2 (id := 4) hRK rfl hxK hlK hts) ?_
  repeat (first | refine guard_t rfl ?_ | refine guard_f (by decide) ?_)
  refine guard_t (beq_self_eq_true _) ?_
  repeat (first | refine guard_t rfl ?_ | refine guard_f (by decide) ?_)
  refine call_h (l23 x t F2 (id := 3) hRF rfl hxF hlF) ?_
  repeat (first | refine guard_t rfl ?_ | refine guard_f (by decide) ?_)
  refine call_h (l26 x t F2 (id := 3) hRF rfl hxF hlF) ?_
  repeat (first | refine guard_t rfl ?_ | refine guard_f (by decide) ?_)
  refine guard_t (beq_self_eq_true _) ?_
  repeat (first | refine guard_t rfl ?_ | refine guard_f (by decide) ?_)
  refine call_h (l24 x t F2 (id := 3) hRF rfl hxF hlF hts) ?_
  repeat (first | refine guard_t rfl ?_ | refine guard_f (by decide) ?_)
  refine call_h (l27 x t F2 (id := 3) hRF rfl hxF hlF hts) ?_
  repeat (first | refine guard_t rfl ?_ | refine guard_f (by decide) ?_)
  exact bool_eq (beq_self_eq_true _)

theorem tcPC1 (nl n1 : Option Bool) (own o1 : Bool) (l : List Form) (hl : l.length ≤ 9223372036854775807) (hfw : fewD l = true) (t : Int) (ht : ¬ t.tmod ((tables l).length : Nat) < 0) (row : List UInt8) (ha : row.length ≤ 12) (at_ : UInt8) (w : Va) (more : UInt8) (h2 : more.toNat % 4 = 2) : PCallN Tryd.prog 6 [.sl 2 nl own (l.map Form.c), .int .i64 t, .sl 1 n1 o1 (bs row), .int .u8 at_.toNat, w.av, .bool true, .int .u8 more.toNat] (.bool true) := by
  refine PCallN.of (tr [17, 18, 2000017, 2000018, 1000092, 1000096]) f6 (Nat.le_of_ble_eq_true rfl) (np_checks _ _ _ _ _ _ _) (.bool _) ?_
  refine call_p noughtsN ?_
  repeat (first | refine guard_t rfl ?_ | refine guard_f (by decide) ?_)
  refine call_p (fewN _ _ l hl) ?_
  rw [hfw]
  repeat (first | refine guard_t rfl ?_ | refine guard_f (by decide) ?_)
  refine cond_f (decide_eq_false (by rw [bs_len]; omega)) ?_
  refine call_p (tablesN _ _ l) ?_
  have hx := tables_len l
  have hx4 := tabN_le l
  refine And.intro (by rw [List.length_map]; omega) ?_
  have ha5 := at_.toNat_lt
  have hm5 := more.toNat_lt
  rw [List.length_map]
  refine cond_f (decide_eq_false ht) ?_
  have hlt : (t.tmod ((tables l).length : Nat)).natAbs < (tables l).length := by
    rw [Int.natAbs_tmod, Int.natAbs_natCast]
    exact Nat.mod_lt _ (by omega)
  have hk : t.tmod ((tables l).length : Nat) = ((t.tmod ((tables l).length : Nat)).natAbs : Int) := by omega
  generalize (t.tmod ((tables l).length : Nat)).natAbs = k at hk hlt
  rw [hk]
  obtain ⟨m, hm1, hm2, hm3, hm4⟩ := tabAt_ok l k
  have hkd := tabAt_kinds l k
  rw [← tables_get l k hlt] at hm1 hm3 hm4 hkd
  have hk4 : k < 4 := by omega
  have hts := tables_ks l
  clear hk ht
  generalize tables l = x at hlt hm1 hm3 hm4 hkd hts ⊢
  have ix : ∀ {K : List AV → Prop}, K x[k].c → (3 = 3 ∧ 0 ≤ (k : Int) ∧ ∃ c, (x.map Tab.c)[((k : Nat) : Int).toNat]? = some c ∧ K c) := fun h => ⟨rfl, Int.natCast_nonneg k, _, map_get hlt, h⟩
  have lF : (fitL x[k].cs (x[k].cs.map Col.c).length row).length = x[k].cs.length := by rw [fitL_len, List.length_map]; omega
  have lK : (fitL x[k].cs m row).length = m := by rw [fitL_len]; omega
  have cF : chkT x (k : Int) (fitL x[k].cs (x[k].cs.map Col.c).length row) = 0 := by
    have := fit_chk x[k].cs hkd (x[k].cs.map Col.c).length (by rw [List.length_map]; exact Nat.le_refl _) row
    rw [List.take_of_length_le (by rw [List.length_map]; exact Nat.le_refl _)] at this
    rw [chkT_at x k hlt, this]
  have cK : chkK x (k : Int) (fitL x[k].cs m row) = 0 := by
    rw [chkK_at x k hlt, hm1, Int.toNat_natCast]
    exact fit_chk x[k].cs hkd m hm3 row
  have tF := (fitN x[k] (x[k].cs.map Col.c).length n1 false row (by omega)).thaw rfl (by rw [List.length_map]; omega) (va_flat _)
  have tK := (fitN x[k] m n1 false row (by omega)).thaw rfl (by rw [List.length_map]; omega) (va_flat _)
  generalize fitL x[k].cs (x[k].cs.map Col.c).length row = F at lF cF tF
  generalize fitL x[k].cs m row = K at lK cK tK
  refine ix ?_
  refine ix ?_
  refine call_d tF ?_
  refine And.intro (by kernel_rfl) ?_
  refine ix ?_
  refine ix ?_
  rw [← hm1] at tK
  refine call_d tK ?_
  refine And.intro (by kernel_rfl) ?_
  have hRF : F.length ≤ 1000 := by omega
  have hRK : K.length ≤ 1000 := by omega
  have hlF : 0 + (F.map Va.c).length ≤ F.length := by rw [List.length_map]; omega
  have hlK : 0 + (K.map Va.c).length ≤ K.length := by rw [List.length_map]; omega
  have hxF : F.map Va.c = F.map Va.c := rfl
  have hxK : K.map Va.c = K.map Va.c := rfl
  have q1 := l23 x (k : Int) F (h := [.cells w.c, .arr 3 (F.map Va.c), .arr 3 (K.map Va.c)]) (id := 1) hRF rfl hxF hlF
  rw [cut_all, cF] at q1
  refine call_h q1 ?_
  repeat (first | refine guard_t rfl ?_ | refine guard_f (by decide) ?_)
  have q2 := l24 x (k : Int) K (h := [.cells w.c, .arr 3 (F.map Va.c), .arr 3 (K.map Va.c)]) (id := 2) hRK rfl hxK hlK hts
  rw [cut_all, cK] at q2
  refine call_h q2 ?_
  repeat (first | refine guard_t rfl ?_ | refine guard_f (by decide) ?_)
  refine cond_f rfl ?_
  clear q1 q2 hxF hxK cF cK tF tK
  refine And.intro (by decide) ?_
  refine cond_f (by show ((more.toNat : Int).tmod 4 == 1) = false; rw [rem4]; exact beq_eq_false_iff_ne.2 (by omega)) ?_
  refine And.intro (by decide) ?_
  refine cond_t (by show ((more.toNat : Int).tmod 4 == 2) = true; rw [rem4, h2]; rfl) ?_
  refine And.intro ⟨rfl, rfl, rfl, rfl, by rw [List.length_map]; omega⟩ (And.intro (.inl rfl) (And.intro ⟨by simp; omega, by simp; omega⟩ ?_))
  refine And.intro ⟨rfl, rfl, rfl, rfl, by rw [List.length_map]; omega⟩ (And.intro (.inl rfl) (And.intro ⟨by simp; omega, by simp; omega⟩ ?_))
  have eF : F.map Va.c ++ [[.int .u8 0, .int .i64 0, .str ⟨#[]⟩]] = (F ++ [(⟨0, 0, []⟩ : Va)]).map Va.c := by rw [List.map_append]; rfl
  have eK : K.map Va.c ++ [[.int .u8 0, .int .i64 0, .str ⟨#[]⟩]] = (K ++ [(⟨0, 0, []⟩ : Va)]).map Va.c := by rw [List.map_append]; rfl
  rw [eF, eK]
  have lF2 : (F ++ [(⟨0, 0, []⟩ : Va)]).length = F.length + 1 := by simp
  have lK2 : (K ++ [(⟨0, 0, []⟩ : Va)]).length = K.length + 1 := by simp
  generalize F ++ [(⟨0, 0, []⟩ : Va)] = F2 at lF2 ⊢
  generalize K ++ [(⟨0, 0, []⟩ : Va)] = K2 at lK2 ⊢
  have hRF : F2.length ≤ 1000 := by omega
  have hRK : K2.length ≤ 1000 := by omega
  have hlF : 0 + (F2.map Va.c).length ≤ F2.length := by rw [List.length_map]; omega
  have hlK : 0 + (K2.map Va.c).length ≤ K2.length := by rw [List.length_map]; omega
  repeat (first | refine guard_t rfl ?_ | refine guard_f (by decide) ?_)
  refine guard_t (decide_eq_true (by rw [List.length_map]; omega)) ?_
  rw [decide_eq_true (by rw [List.length_map]; omega)]
  repeat (first | refine guard_t rfl ?_ | refine guard_f (by decide) ?_)
  refine cond_t (decide_eq_true (by rw [List.length_map]; omega)) ?_
  refine call_p (ofN w) ?_
  generalize w.of = v
  refine And.intro (by decide) ?_
  refine cond_f (by show ((more.toNat : Int).tmod 4 == 3) = false; rw [rem4]; exact beq_eq_false_iff_ne.2 (by omega)) ?_
  have hzF : (((F2.map Va.c).length : Nat) : Int) ≠ 0 := by rw [List.length_map]; omega
  have hzK : (((K2.map Va.c).length : Nat) : Int) ≠ 0 := by rw [List.length_map]; omega
  have hmodF : (IntKind.i64.wrap (at_.toNat : Int)).tmod (((F2.map Va.c).length : Nat) : Int) = ((at_.toNat % F2.length : Nat) : Int) := by
    rw [i64_in _ (by omega), List.length_map, Int.tmod_eq_emod_of_nonneg (by omega)]
    omega
  have hmodK : (IntKind.i64.wrap (at_.toNat : Int)).tmod (((K2.map Va.c).length : Nat) : Int) = ((at_.toNat % K2.length : Nat) : Int) := by
    rw [i64_in _ (by omega), List.length_map, Int.tmod_eq_emod_of_nonneg (by omega)]
    omega
  have hiF0 : at_.toNat % F2.length < F2.length := Nat.mod_lt _ (by omega)
  have hiK : at_.toNat % K2.length < K2.length := Nat.mod_lt _ (by omega)
  generalize at_.toNat % F2.length = iF at hmodF hiF0
  generalize at_.toNat % K2.length = iK at hmodK hiK
  have hiF : iF < F2.length := by omega
  have hbF : (iF : Int) < (((F2.map Va.c).length : Nat) : Int) := by rw [List.length_map]; omega
  have hbK : (iK : Int) < (((K2.map Va.c).length : Nat) : Int) := by rw [List.length_map]; omega
  refine And.intro hzF ?_
  rw [hmodF]
  refine And.intro rfl (And.intro ⟨Int.natCast_nonneg _, hbF⟩ ?_)
  refine Exists.intro (0 + (iF : Int).toNat) (Exists.intro 0 (Exists.intro (F2[iF]'hiF).c (And.intro ⟨rfl, by decide, by decide⟩ (And.intro ?_ ?_))))
  · rw [show 0 + (iF : Int).toNat = iF by simp]; exact words_get hiF
  refine And.intro (by kernel_rfl) ?_
  refine And.intro hzK ?_
  rw [hmodK]
  refine And.intro rfl (And.intro ⟨Int.natCast_nonneg _, hbK⟩ ?_)
  refine Exists.intro (0 + (iK : Int).toNat) (Exists.intro 0 (Exists.intro (K2[iK]'hiK).c (And.intro ⟨rfl, by decide, by decide⟩ (And.intro ?_ ?_))))
  · rw [show 0 + (iK : Int).toNat = iK by simp]; exact words_get hiK
  refine And.intro (by kernel_rfl) ?_
  have hxF : (F2.map Va.c).set (0 + (iF : Int).toNat) (Va.c v) = (F2.set iF v).map Va.c := by rw [show 0 + (iF : Int).toNat = iF by simp, words_set]
  have hxK : (K2.map Va.c).set (0 + (iK : Int).toNat) (Va.c v) = (K2.set iK v).map Va.c := by rw [show 0 + (iK : Int).toNat = iK by simp, words_set]
  have hRF : (F2.set iF v).length ≤ 1000 := by rw [List.length_set]; omega
  have hRK : (K2.set iK v).length ≤ 1000 := by rw [List.length_set]; omega
  have hlF : 0 + (F2.map Va.c).length ≤ (F2.set iF v).length := by rw [List.length_set]; exact hlF
  have hlK : 0 + (K2.map Va.c).length ≤ (K2.set iK v).length := by rw [List.length_set]; exact hlK
  refine call_h (l23 x (k : Int) (F2.set iF v) (id := 3) hRF rfl hxF hlF) ?_
  repeat (first | refine guard_t rfl ?_ | refine guard_f (by decide) ?_)
  refine call_h (l26 x (k : Int) (F2.set iF v) (id := 3) hRF rfl hxF hlF) ?_
  repeat (first | refine guard_t rfl ?_ | refine guard_f (by decide) ?_)
  refine guard_t (beq_self_eq_true _) ?_
  repeat (first | refine guard_t rfl ?_ | refine guard_f (by decide) ?_)
  refine call_h (l24 x (k : Int) (K2.set iK v) (id := 4) hRK rfl hxK hlK hts) ?_
  repeat (first | refine guard_t rfl ?_ | refine guard_f (by decide) ?_)
  refine call_h (l27 x (k : Int) (K2.set iK v) (id := 4) hRK rfl hxK hlK hts) ?_
  repeat (first | refine guard_t rfl ?_ | refine guard_f (by decide) ?_)
  refine guard_t (beq_self_eq_true _) ?_
  repeat (first | refine guard_t rfl ?_ | refine guard_f (by decide) ?_)
  refine call_h (l23 x t (F2.set iF v) (id := 3) hRF rfl hxF hlF) ?_
  repeat (first | refine guard_t rfl ?_ | refine guard_f (by decide) ?_)
  refine call_h (l26 x t (F2.set iF v) (id := 3) hRF rfl hxF hlF) ?_
  repeat (first | refine guard_t rfl ?_ | refine guard_f (by decide) ?_)
  refine guard_t (beq_self_eq_true _) ?_
  repeat (first | refine guard_t rfl ?_ | refine guard_f (by decide) ?_)
  refine call_h (l24 x t (F2.set iF v) (id := 3) hRF rfl hxF hlF hts) ?_
  repeat (first | refine guard_t rfl ?_ | refine guard_f (by decide) ?_)
  refine call_h (l27 x t (F2.set iF v) (id := 3) hRF rfl hxF hlF hts) ?_
  repeat (first | refine guard_t rfl ?_ | refine guard_f (by decide) ?_)
  exact bool_eq (beq_self_eq_true _)


end Go.Proofs.YtmjdoonaidolkaaDoor.V

/- The law TableChecks: written by wip/l05/tc.py. -/
namespace Go.Proofs.YtmjdoonaidolkaaDoor.V
open Go.IntWalk Go.Lib

theorem tcNA0 (nl n1 : Option Bool) (own o1 : Bool) (l : List Form) (hl : l.length ≤ 9223372036854775807) (hfw : fewD l = true) (t : Int) (ht : t.tmod ((tables l).length : Nat) < 0) (row : List UInt8) (ha : row.length ≤ 12) (at_ : UInt8) (w : Va) (more : UInt8) (h1 : more.toNat % 4 ≠ 1) (h2 : more.toNat % 4 ≠ 2) : PCallN Tryd.prog 6 [.sl 2 nl own (l.map Form.c), .int .i64 t, .sl 1 n1 o1 (bs row), .int .u8 at_.toNat, w.av, .bool false, .int .u8 more.toNat] (.bool true) := by
  refine PCallN.of (tr [17, 18, 2000017, 2000018, 1000092, 1000096]) f6 (Nat.le_of_ble_eq_true rfl) (np_checks _ _ _ _ _ _ _) (.bool _) ?_
  refine call_p noughtsN ?_
  repeat (first | refine guard_t rfl ?_ | refine guard_f (by decide) ?_)
  refine call_p (fewN _ _ l hl) ?_
  rw [hfw]
  repeat (first | refine guard_t rfl ?_ | refine guard_f (by decide) ?_)
  refine cond_f (decide_eq_false (by rw [bs_len]; omega)) ?_
  refine call_p (tablesN _ _ l) ?_
  have hx := tables_len l
  have hx4 := tabN_le l
  refine And.intro (by rw [List.length_map]; omega) ?_
  have ha5 := at_.toNat_lt
  have hm5 := more.toNat_lt
  rw [List.length_map]
  refine cond_t (decide_eq_true ht) ?_
  have hlt : (t.tmod ((tables l).length : Nat)).natAbs < (tables l).length := by
    rw [Int.natAbs_tmod, Int.natAbs_natCast]
    exact Nat.mod_lt _ (by omega)
  have hk : IntKind.i64.wrap (0 - t.tmod ((tables l).length : Nat)) = ((t.tmod ((tables l).length : Nat)).natAbs : Int) := by
    rw [i64_in _ (by omega)]
    omega
  generalize (t.tmod ((tables l).length : Nat)).natAbs = k at hk hlt
  obtain ⟨m, hm1, hm2, hm3, hm4⟩ := tabAt_ok l k
  have hkd := tabAt_kinds l k
  rw [← tables_get l k hlt] at hm1 hm3 hm4 hkd
  have hk4 : k < 4 := by omega
  have hts := tables_ks l
  clear ht
  generalize tables l = x at hlt hm1 hm3 hm4 hkd hts hk ⊢
  have ix : ∀ {K : List AV → Prop}, K x[k].c → (3 = 3 ∧ 0 ≤ (k : Int) ∧ ∃ c, (x.map Tab.c)[((k : Nat) : Int).toNat]? = some c ∧ K c) := fun h => ⟨rfl, Int.natCast_nonneg k, _, map_get hlt, h⟩
  have lF : (fitL x[k].cs (x[k].cs.map Col.c).length row).length = x[k].cs.length := by rw [fitL_len, List.length_map]; omega
  have lK : (fitL x[k].cs m row).length = m := by rw [fitL_len]; omega
  have cF : chkT x (k : Int) (fitL x[k].cs (x[k].cs.map Col.c).length row) = 0 := by
    have := fit_chk x[k].cs hkd (x[k].cs.map Col.c).length (by rw [List.length_map]; exact Nat.le_refl _) row
    rw [List.take_of_length_le (by rw [List.length_map]; exact Nat.le_refl _)] at this
    rw [chkT_at x k hlt, this]
  have cK : chkK x (k : Int) (fitL x[k].cs m row) = 0 := by
    rw [chkK_at x k hlt, hm1, Int.toNat_natCast]
    exact fit_chk x[k].cs hkd m hm3 row
  have tF := (fitN x[k] (x[k].cs.map Col.c).length n1 false row (by omega)).thaw rfl (by rw [List.length_map]; omega) (va_flat _)
  have tK := (fitN x[k] m n1 false row (by omega)).thaw rfl (by rw [List.length_map]; omega) (va_flat _)
  generalize fitL x[k].cs (x[k].cs.map Col.c).length row = F at lF cF tF
  generalize fitL x[k].cs m row = K at lK cK tK
  have ix0 : ∀ {K : List AV → Prop}, K x[k].c → (3 = 3 ∧ 0 ≤ IntKind.i64.wrap (0 - t.tmod (x.length : Nat)) ∧ ∃ c, (x.map Tab.c)[(IntKind.i64.wrap (0 - t.tmod (x.length : Nat))).toNat]? = some c ∧ K c) := fun h => by rw [hk]; exact ix h
  refine ix0 ?_
  rw [hk]
  clear ix0
  refine ix ?_
  refine call_d tF ?_
  refine And.intro (by kernel_rfl) ?_
  refine ix ?_
  refine ix ?_
  rw [← hm1] at tK
  refine call_d tK ?_
  refine And.intro (by kernel_rfl) ?_
  have hRF : F.length ≤ 1000 := by omega
  have hRK : K.length ≤ 1000 := by omega
  have hlF : 0 + (F.map Va.c).length ≤ F.length := by rw [List.length_map]; omega
  have hlK : 0 + (K.map Va.c).length ≤ K.length := by rw [List.length_map]; omega
  have hxF : F.map Va.c = F.map Va.c := rfl
  have hxK : K.map Va.c = K.map Va.c := rfl
  have q1 := l23 x (k : Int) F (h := [.cells w.c, .arr 3 (F.map Va.c), .arr 3 (K.map Va.c)]) (id := 1) hRF rfl hxF hlF
  rw [cut_all, cF] at q1
  refine call_h q1 ?_
  repeat (first | refine guard_t rfl ?_ | refine guard_f (by decide) ?_)
  have q2 := l24 x (k : Int) K (h := [.cells w.c, .arr 3 (F.map Va.c), .arr 3 (K.map Va.c)]) (id := 2) hRK rfl hxK hlK hts
  rw [cut_all, cK] at q2
  refine call_h q2 ?_
  repeat (first | refine guard_t rfl ?_ | refine guard_f (by decide) ?_)
  refine cond_f rfl ?_
  clear q1 q2 hxF hxK cF cK tF tK
  refine And.intro (by decide) ?_
  refine cond_f (by show ((more.toNat : Int).tmod 4 == 1) = false; rw [rem4]; exact beq_eq_false_iff_ne.2 (by omega)) ?_
  refine And.intro (by decide) ?_
  refine cond_f (by show ((more.toNat : Int).tmod 4 == 2) = false; rw [rem4]; exact beq_eq_false_iff_ne.2 (by omega)) ?_
  repeat (first | refine guard_t rfl ?_ | refine guard_f (by decide) ?_)
  refine cond_f rfl ?_
  have hxF : F.map Va.c = F.map Va.c := rfl
  have hxK : K.map Va.c = K.map Va.c := rfl
  refine call_h (l23 x (k : Int) F (id := 1) hRF rfl hxF hlF) ?_
  repeat (first | refine guard_t rfl ?_ | refine guard_f (by decide) ?_)
  refine call_h (l26 x (k : Int) F (id := 1) hRF rfl hxF hlF) ?_
  repeat (first | refine guard_t rfl ?_ | refine guard_f (by decide) ?_)
  refine guard_t (beq_self_eq_true _) ?_
  repeat (first | refine guard_t rfl ?_ | refine guard_f (by decide) ?_)
  refine call_h (l24 x (k : Int) K (id := 2) hRK rfl hxK hlK hts) ?_
  repeat (first | refine guard_t rfl ?_ | refine guard_f (by decide) ?_)
  refine call_h (l27 x (k : Int) K (id := 2) hRK rfl hxK hlK hts) ?_
  repeat (first | refine guard_t rfl ?_ | refine guard_f (by decide) ?_)
  refine guard_t (beq_self_eq_true _) ?_
  repeat (first | refine guard_t rfl ?_ | refine guard_f (by decide) ?_)
  refine call_h (l23 x t F (id := 1) hRF rfl hxF hlF) ?_
  repeat (first | refine guard_t rfl ?_ | refine guard_f (by decide) ?_)
  refine call_h (l26 x t F (id := 1) hRF rfl hxF hlF) ?_
  repeat (first | refine guard_t rfl ?_ | refine guard_f (by decide) ?_)
  refine guard_t (beq_self_eq_true _) ?_
  repeat (first | refine guard_t rfl ?_ | refine guard_f (by decide) ?_)
  refine call_h (l24 x t F (id := 1) hRF rfl hxF hlF hts) ?_
  repeat (first | refine guard_t rfl ?_ | refine guard_f (by decide) ?_)
  refine call_h (l27 x t F (id := 1) hRF rfl hxF hlF hts) ?_
  repeat (first | refine guard_t rfl ?_ | refine guard_f (by decide) ?_)
  exact bool_eq (beq_self_eq_true _)

theorem tcNA1 (nl n1 : Option Bool) (own o1 : Bool) (l : List Form) (hl : l.length ≤ 9223372036854775807) (hfw : fewD l = true) (t : Int) (ht : t.tmod ((tables l).length : Nat) < 0) (row : List UInt8) (ha : row.length ≤ 12) (at_ : UInt8) (w : Va) (more : UInt8) (h1 : more.toNat % 4 ≠ 1) (h2 : more.toNat % 4 ≠ 2) (h3 : more.toNat % 4 ≠ 3) : PCallN Tryd.prog 6 [.sl 2 nl own (l.map Form.c), .int .i64 t, .sl 1 n1 o1 (bs row), .int .u8 at_.toNat, w.av, .bool true, .int .u8 more.toNat] (.bool true) := by
  refine PCallN.of (tr [17, 18, 2000017, 2000018, 1000092, 1000096]) f6 (Nat.le_of_ble_eq_true rfl) (np_checks _ _ _ _ _ _ _) (.bool _) ?_
  refine call_p noughtsN ?_
  repeat (first | refine guard_t rfl ?_ | refine guard_f (by decide) ?_)
  refine call_p (fewN _ _ l hl) ?_
  rw [hfw]
  repeat (first | refine guard_t rfl ?_ | refine guard_f (by decide) ?_)
  refine cond_f (decide_eq_false (by rw [bs_len]; omega)) ?_
  refine call_p (tablesN _ _ l) ?_
  have hx := tables_len l
  have hx4 := tabN_le l
  refine And.intro (by rw [List.length_map]; omega) ?_
  have ha5 := at_.toNat_lt
  have hm5 := more.toNat_lt
  rw [List.length_map]
  refine cond_t (decide_eq_true ht) ?_
  have hlt : (t.tmod ((tables l).length : Nat)).natAbs < (tables l).length := by
    rw [Int.natAbs_tmod, Int.natAbs_natCast]
    exact Nat.mod_lt _ (by omega)
  have hk : IntKind.i64.wrap (0 - t.tmod ((tables l).length : Nat)) = ((t.tmod ((tables l).length : Nat)).natAbs : Int) := by
    rw [i64_in _ (by omega)]
    omega
  generalize (t.tmod ((tables l).length : Nat)).natAbs = k at hk hlt
  obtain ⟨m, hm1, hm2, hm3, hm4⟩ := tabAt_ok l k
  have hkd := tabAt_kinds l k
  rw [← tables_get l k hlt] at hm1 hm3 hm4 hkd
  have hk4 : k < 4 := by omega
  have hts := tables_ks l
  clear ht
  generalize tables l = x at hlt hm1 hm3 hm4 hkd hts hk ⊢
  have ix : ∀ {K : List AV → Prop}, K x[k].c → (3 = 3 ∧ 0 ≤ (k : Int) ∧ ∃ c, (x.map Tab.c)[((k : Nat) : Int).toNat]? = some c ∧ K c) := fun h => ⟨rfl, Int.natCast_nonneg k, _, map_get hlt, h⟩
  have lF : (fitL x[k].cs (x[k].cs.map Col.c).length row).length = x[k].cs.length := by rw [fitL_len, List.length_map]; omega
  have lK : (fitL x[k].cs m row).length = m := by rw [fitL_len]; omega
  have cF : chkT x (k : Int) (fitL x[k].cs (x[k].cs.map Col.c).length row) = 0 := by
    have := fit_chk x[k].cs hkd (x[k].cs.map Col.c).length (by rw [List.length_map]; exact Nat.le_refl _) row
    rw [List.take_of_length_le (by rw [List.length_map]; exact Nat.le_refl _)] at this
    rw [chkT_at x k hlt, this]
  have cK : chkK x (k : Int) (fitL x[k].cs m row) = 0 := by
    rw [chkK_at x k hlt, hm1, Int.toNat_natCast]
    exact fit_chk x[k].cs hkd m hm3 row
  have tF := (fitN x[k] (x[k].cs.map Col.c).length n1 false row (by omega)).thaw rfl (by rw [List.length_map]; omega) (va_flat _)
  have tK := (fitN x[k] m n1 false row (by omega)).thaw rfl (by rw [List.length_map]; omega) (va_flat _)
  generalize fitL x[k].cs (x[k].cs.map Col.c).length row = F at lF cF tF
  generalize fitL x[k].cs m row = K at lK cK tK
  have ix0 : ∀ {K : List AV → Prop}, K x[k].c → (3 = 3 ∧ 0 ≤ IntKind.i64.wrap (0 - t.tmod (x.length : Nat)) ∧ ∃ c, (x.map Tab.c)[(IntKind.i64.wrap (0 - t.tmod (x.length : Nat))).toNat]? = some c ∧ K c) := fun h => by rw [hk]; exact ix h
  refine ix0 ?_
  rw [hk]
  clear ix0
  refine ix ?_
  refine call_d tF ?_
  refine And.intro (by kernel_rfl) ?_
  refine ix ?_
  refine ix ?_
  rw [← hm1] at tK
  refine call_d tK ?_
  refine And.intro (by kernel_rfl) ?_
  have hRF : F.length ≤ 1000 := by omega
  have hRK : K.length ≤ 1000 := by omega
  have hlF : 0 + (F.map Va.c).length ≤ F.length := by rw [List.length_map]; omega
  have hlK : 0 + (K.map Va.c).length ≤ K.length := by rw [List.length_map]; omega
  have hxF : F.map Va.c = F.map Va.c := rfl
  have hxK : K.map Va.c = K.map Va.c := rfl
  have q1 := l23 x (k : Int) F (h := [.cells w.c, .arr 3 (F.map Va.c), .arr 3 (K.map Va.c)]) (id := 1) hRF rfl hxF hlF
  rw [cut_all, cF] at q1
  refine call_h q1 ?_
  repeat (first | refine guard_t rfl ?_ | refine guard_f (by decide) ?_)
  have q2 := l24 x (k : Int) K (h := [.cells w.c, .arr 3 (F.map Va.c), .arr 3 (K.map Va.c)]) (id := 2) hRK rfl hxK hlK hts
  rw [cut_all, cK] at q2
  refine call_h q2 ?_
  repeat (first | refine guard_t rfl ?_ | refine guard_f (by decide) ?_)
  refine cond_f rfl ?_
  clear q1 q2 hxF hxK cF cK tF tK
  refine And.intro (by decide) ?_
  refine cond_f (by show ((more.toNat : Int).tmod 4 == 1) = false; rw [rem4]; exact beq_eq_false_iff_ne.2 (by omega)) ?_
  refine And.intro (by decide) ?_
  refine cond_f (by show ((more.toNat : Int).tmod 4 == 2) = false; rw [rem4]; exact beq_eq_false_iff_ne.2 (by omega)) ?_
  repeat (first | refine guard_t rfl ?_ | refine guard_f (by decide) ?_)
  refine guard_t (decide_eq_true (by rw [List.length_map]; omega)) ?_
  rw [decide_eq_true (by rw [List.length_map]; omega)]
  repeat (first | refine guard_t rfl ?_ | refine guard_f (by decide) ?_)
  refine cond_t (decide_eq_true (by rw [List.length_map]; omega)) ?_
  refine call_p (ofN w) ?_
  generalize w.of = v
  refine And.intro (by decide) ?_
  refine cond_f (by show ((more.toNat : Int).tmod 4 == 3) = false; rw [rem4]; exact beq_eq_false_iff_ne.2 (by omega)) ?_
  have hzF : (((F.map Va.c).length : Nat) : Int) ≠ 0 := by rw [List.length_map]; omega
  have hzK : (((K.map Va.c).length : Nat) : Int) ≠ 0 := by rw [List.length_map]; omega
  have hmodF : (IntKind.i64.wrap (at_.toNat : Int)).tmod (((F.map Va.c).length : Nat) : Int) = ((at_.toNat % F.length : Nat) : Int) := by
    rw [i64_in _ (by omega), List.length_map, Int.tmod_eq_emod_of_nonneg (by omega)]
    omega
  have hmodK : (IntKind.i64.wrap (at_.toNat : Int)).tmod (((K.map Va.c).length : Nat) : Int) = ((at_.toNat % K.length : Nat) : Int) := by
    rw [i64_in _ (by omega), List.length_map, Int.tmod_eq_emod_of_nonneg (by omega)]
    omega
  have hiF0 : at_.toNat % F.length < F.length := Nat.mod_lt _ (by omega)
  have hiK : at_.toNat % K.length < K.length := Nat.mod_lt _ (by omega)
  generalize at_.toNat % F.length = iF at hmodF hiF0
  generalize at_.toNat % K.length = iK at hmodK hiK
  have hiF : iF < F.length := by omega
  have hbF : (iF : Int) < (((F.map Va.c).length : Nat) : Int) := by rw [List.length_map]; omega
  have hbK : (iK : Int) < (((K.map Va.c).length : Nat) : Int) := by rw [List.length_map]; omega
  refine And.intro hzF ?_
  rw [hmodF]
  refine And.intro rfl (And.intro ⟨Int.natCast_nonneg _, hbF⟩ ?_)
  refine Exists.intro (0 + (iF : Int).toNat) (Exists.intro 0 (Exists.intro (F[iF]'hiF).c (And.intro ⟨rfl, by decide, by decide⟩ (And.intro ?_ ?_))))
  · rw [show 0 + (iF : Int).toNat = iF by simp]; exact words_get hiF
  refine And.intro (by kernel_rfl) ?_
  refine And.intro hzK ?_
  rw [hmodK]
  refine And.intro rfl (And.intro ⟨Int.natCast_nonneg _, hbK⟩ ?_)
  refine Exists.intro (0 + (iK : Int).toNat) (Exists.intro 0 (Exists.intro (K[iK]'hiK).c (And.intro ⟨rfl, by decide, by decide⟩ (And.intro ?_ ?_))))
  · rw [show 0 + (iK : Int).toNat = iK by simp]; exact words_get hiK
  refine And.intro (by kernel_rfl) ?_
  have hxF : (F.map Va.c).set (0 + (iF : Int).toNat) (Va.c v) = (F.set iF v).map Va.c := by rw [show 0 + (iF : Int).toNat = iF by simp, words_set]
  have hxK : (K.map Va.c).set (0 + (iK : Int).toNat) (Va.c v) = (K.set iK v).map Va.c := by rw [show 0 + (iK : Int).toNat = iK by simp, words_set]
  have hRF : (F.set iF v).length ≤ 1000 := by rw [List.length_set]; omega
  have hRK : (K.set iK v).length ≤ 1000 := by rw [List.length_set]; omega
  have hlF : 0 + (F.map Va.c).length ≤ (F.set iF v).length := by rw [List.length_set]; exact hlF
  have hlK : 0 + (K.map Va.c).length ≤ (K.set iK v).length := by rw [List.length_set]; exact hlK
  refine call_h (l23 x (k : Int) (F.set iF v) (id := 1) hRF rfl hxF hlF) ?_
  repeat (first | refine guard_t rfl ?_ | refine guard_f (by decide) ?_)
  refine call_h (l26 x (k : Int) (F.set iF v) (id := 1) hRF rfl hxF hlF) ?_
  repeat (first | refine guard_t rfl ?_ | refine guard_f (by decide) ?_)
  refine guard_t (beq_self_eq_true _) ?_
  repeat (first | refine guard_t rfl ?_ | refine guard_f (by decide) ?_)
  refine call_h (l24 x (k : Int) (K.set iK v) (id := 2) hRK rfl hxK hlK hts) ?_
  repeat (first | refine guard_t rfl ?_ | refine guard_f (by decide) ?_)
  refine call_h (l27 x (k : Int) (K.set iK v) (id := 2) hRK rfl hxK hlK hts) ?_
  repeat (first | refine guard_t rfl ?_ | refine guard_f (by decide) ?_)
  refine guard_t (beq_self_eq_true _) ?_
  repeat (first | refine guard_t rfl ?_ | refine guard_f (by decide) ?_)
  refine call_h (l23 x t (F.set iF v) (id := 1) hRF rfl hxF hlF) ?_
  repeat (first | refine guard_t rfl ?_ | refine guard_f (by decide) ?_)
  refine call_h (l26 x t (F.set iF v) (id := 1) hRF rfl hxF hlF) ?_
  repeat (first | refine guard_t rfl ?_ | refine guard_f (by decide) ?_)
  refine guard_t (beq_self_eq_true _) ?_
  repeat (first | refine guard_t rfl ?_ | refine guard_f (by decide) ?_)
  refine call_h (l24 x t (F.set iF v) (id := 1) hRF rfl hxF hlF hts) ?_
  repeat (first | refine guard_t rfl ?_ | refine guard_f (by decide) ?_)
  refine call_h (l27 x t (F.set iF v) (id := 1) hRF rfl hxF hlF hts) ?_
  repeat (first | refine guard_t rfl ?_ | refine guard_f (by decide) ?_)
  exact bool_eq (beq_self_eq_true _)

theorem tcNA1k (nl n1 : Option Bool) (own o1 : Bool) (l : List Form) (hl : l.length ≤ 9223372036854775807) (hfw : fewD l = true) (t : Int) (ht : t.tmod ((tables l).length : Nat) < 0) (row : List UInt8) (ha : row.length ≤ 12) (at_ : UInt8) (w : Va) (more : UInt8)  (h3 : more.toNat % 4 = 3) : PCallN Tryd.prog 6 [.sl 2 nl own (l.map Form.c), .int .i64 t, .sl 1 n1 o1 (bs row), .int .u8 at_.toNat, w.av, .bool true, .int .u8 more.toNat] (.bool true) := by
  refine PCallN.of (tr [17, 18, 2000017, 2000018, 1000092, 1000096]) f6 (Nat.le_of_ble_eq_true rfl) (np_checks _ _ _ _ _ _ _) (.bool _) ?_
  refine call_p noughtsN ?_
  repeat (first | refine guard_t rfl ?_ | refine guard_f (by decide) ?_)
  refine call_p (fewN _ _ l hl) ?_
  rw [hfw]
  repeat (first | refine guard_t rfl ?_ | refine guard_f (by decide) ?_)
  refine cond_f (decide_eq_false (by rw [bs_len]; omega)) ?_
  refine call_p (tablesN _ _ l) ?_
  have hx := tables_len l
  have hx4 := tabN_le l
  refine And.intro (by rw [List.length_map]; omega) ?_
  have ha5 := at_.toNat_lt
  have hm5 := more.toNat_lt
  rw [List.length_map]
  refine cond_t (decide_eq_true ht) ?_
  have hlt : (t.tmod ((tables l).length : Nat)).natAbs < (tables l).length := by
    rw [Int.natAbs_tmod, Int.natAbs_natCast]
    exact Nat.mod_lt _ (by omega)
  have hk : IntKind.i64.wrap (0 - t.tmod ((tables l).length : Nat)) = ((t.tmod ((tables l).length : Nat)).natAbs : Int) := by
    rw [i64_in _ (by omega)]
    omega
  generalize (t.tmod ((tables l).length : Nat)).natAbs = k at hk hlt
  obtain ⟨m, hm1, hm2, hm3, hm4⟩ := tabAt_ok l k
  have hkd := tabAt_kinds l k
  rw [← tables_get l k hlt] at hm1 hm3 hm4 hkd
  have hk4 : k < 4 := by omega
  have hts := tables_ks l
  clear ht
  generalize tables l = x at hlt hm1 hm3 hm4 hkd hts hk ⊢
  have ix : ∀ {K : List AV → Prop}, K x[k].c → (3 = 3 ∧ 0 ≤ (k : Int) ∧ ∃ c, (x.map Tab.c)[((k : Nat) : Int).toNat]? = some c ∧ K c) := fun h => ⟨rfl, Int.natCast_nonneg k, _, map_get hlt, h⟩
  have lF : (fitL x[k].cs (x[k].cs.map Col.c).length row).length = x[k].cs.length := by rw [fitL_len, List.length_map]; omega
  have lK : (fitL x[k].cs m row).length = m := by rw [fitL_len]; omega
  have cF : chkT x (k : Int) (fitL x[k].cs (x[k].cs.map Col.c).length row) = 0 := by
    have := fit_chk x[k].cs hkd (x[k].cs.map Col.c).length (by rw [List.length_map]; exact Nat.le_refl _) row
    rw [List.take_of_length_le (by rw [List.length_map]; exact Nat.le_refl _)] at this
    rw [chkT_at x k hlt, this]
  have cK : chkK x (k : Int) (fitL x[k].cs m row) = 0 := by
    rw [chkK_at x k hlt, hm1, Int.toNat_natCast]
    exact fit_chk x[k].cs hkd m hm3 row
  have tF := (fitN x[k] (x[k].cs.map Col.c).length n1 false row (by omega)).thaw rfl (by rw [List.length_map]; omega) (va_flat _)
  have tK := (fitN x[k] m n1 false row (by omega)).thaw rfl (by rw [List.length_map]; omega) (va_flat _)
  generalize fitL x[k].cs (x[k].cs.map Col.c).length row = F at lF cF tF
  generalize fitL x[k].cs m row = K at lK cK tK
  have ix0 : ∀ {K : List AV → Prop}, K x[k].c → (3 = 3 ∧ 0 ≤ IntKind.i64.wrap (0 - t.tmod (x.length : Nat)) ∧ ∃ c, (x.map Tab.c)[(IntKind.i64.wrap (0 - t.tmod (x.length : Nat))).toNat]? = some c ∧ K c) := fun h => by rw [hk]; exact ix h
  refine ix0 ?_
  rw [hk]
  clear ix0
  refine ix ?_
  refine call_d tF ?_
  refine And.intro (by kernel_rfl) ?_
  refine ix ?_
  refine ix ?_
  rw [← hm1] at tK
  refine call_d tK ?_
  refine And.intro (by kernel_rfl) ?_
  have hRF : F.length ≤ 1000 := by omega
  have hRK : K.length ≤ 1000 := by omega
  have hlF : 0 + (F.map Va.c).length ≤ F.length := by rw [List.length_map]; omega
  have hlK : 0 + (K.map Va.c).length ≤ K.length := by rw [List.length_map]; omega
  have hxF : F.map Va.c = F.map Va.c := rfl
  have hxK : K.map Va.c = K.map Va.c := rfl
  have q1 := l23 x (k : Int) F (h := [.cells w.c, .arr 3 (F.map Va.c), .arr 3 (K.map Va.c)]) (id := 1) hRF rfl hxF hlF
  rw [cut_all, cF] at q1
  refine call_h q1 ?_
  repeat (first | refine guard_t rfl ?_ | refine guard_f (by decide) ?_)
  have q2 := l24 x (k : Int) K (h := [.cells w.c, .arr 3 (F.map Va.c), .arr 3 (K.map Va.c)]) (id := 2) hRK rfl hxK hlK hts
  rw [cut_all, cK] at q2
  refine call_h q2 ?_
  repeat (first | refine guard_t rfl ?_ | refine guard_f (by decide) ?_)
  refine cond_f rfl ?_
  clear q1 q2 hxF hxK cF cK tF tK
  refine And.intro (by decide) ?_
  refine cond_f (by show ((more.toNat : Int).tmod 4 == 1) = false; rw [rem4]; exact beq_eq_false_iff_ne.2 (by omega)) ?_
  refine And.intro (by decide) ?_
  refine cond_f (by show ((more.toNat : Int).tmod 4 == 2) = false; rw [rem4]; exact beq_eq_false_iff_ne.2 (by omega)) ?_
  repeat (first | refine guard_t rfl ?_ | refine guard_f (by decide) ?_)
  refine guard_t (decide_eq_true (by rw [List.length_map]; omega)) ?_
  rw [decide_eq_true (by rw [List.length_map]; omega)]
  repeat (first | refine guard_t rfl ?_ | refine guard_f (by decide) ?_)
  refine cond_t (decide_eq_true (by rw [List.length_map]; omega)) ?_
  refine call_p (ofN w) ?_
  generalize w.of = v
  refine And.intro (by decide) ?_
  refine cond_t (by show ((more.toNat : Int).tmod 4 == 3) = true; rw [rem4, h3]; rfl) ?_
  have hzF : (((F.map Va.c).length : Nat) : Int) ≠ 0 := by rw [List.length_map]; omega
  have hzK : (((K.map Va.c).length : Nat) : Int) ≠ 0 := by rw [List.length_map]; omega
  have hmodF : (IntKind.i64.wrap (at_.toNat : Int)).tmod (((F.map Va.c).length : Nat) : Int) = ((at_.toNat % F.length : Nat) : Int) := by
    rw [i64_in _ (by omega), List.length_map, Int.tmod_eq_emod_of_nonneg (by omega)]
    omega
  have hmodK : (IntKind.i64.wrap (at_.toNat : Int)).tmod (((K.map Va.c).length : Nat) : Int) = ((at_.toNat % K.length : Nat) : Int) := by
    rw [i64_in _ (by omega), List.length_map, Int.tmod_eq_emod_of_nonneg (by omega)]
    omega
  have hiF0 : at_.toNat % F.length < F.length := Nat.mod_lt _ (by omega)
  have hiK : at_.toNat % K.length < K.length := Nat.mod_lt _ (by omega)
  generalize at_.toNat % F.length = iF at hmodF hiF0
  generalize at_.toNat % K.length = iK at hmodK hiK
  have hiF : iF < F.length := by omega
  have hbF : (iF : Int) < (((F.map Va.c).length : Nat) : Int) := by rw [List.length_map]; omega
  have hbK : (iK : Int) < (((K.map Va.c).length : Nat) : Int) := by rw [List.length_map]; omega
  refine And.intro hzF ?_
  rw [hmodF]
  refine And.intro rfl (And.intro ⟨Int.natCast_nonneg _, hbF⟩ ?_)
  refine Exists.intro (0 + (iF : Int).toNat) (Exists.intro 0 (Exists.intro (F[iF]'hiF).c (And.intro ⟨rfl, by decide, by decide⟩ (And.intro ?_ ?_))))
  · rw [show 0 + (iF : Int).toNat = iF by simp]; exact words_get hiF
  refine And.intro (by kernel_rfl) ?_
  refine And.intro hzK ?_
  rw [hmodK]
  refine And.intro rfl (And.intro ⟨Int.natCast_nonneg _, hbK⟩ ?_)
  refine Exists.intro (0 + (iK : Int).toNat) (Exists.intro 0 (Exists.intro (K[iK]'hiK).c (And.intro ⟨rfl, by decide, by decide⟩ (And.intro ?_ ?_))))
  · rw [show 0 + (iK : Int).toNat = iK by simp]; exact words_get hiK
  refine And.intro (by kernel_rfl) ?_
  have hxF : (F.map Va.c).set (0 + (iF : Int).toNat) (Va.c ⟨at_, v.n, v.s⟩) = (F.set iF ⟨at_, v.n, v.s⟩).map Va.c := by rw [show 0 + (iF : Int).toNat = iF by simp, words_set]
  have hxK : (K.map Va.c).set (0 + (iK : Int).toNat) (Va.c ⟨at_, v.n, v.s⟩) = (K.set iK ⟨at_, v.n, v.s⟩).map Va.c := by rw [show 0 + (iK : Int).toNat = iK by simp, words_set]
  have hRF : (F.set iF ⟨at_, v.n, v.s⟩).length ≤ 1000 := by rw [List.length_set]; omega
  have hRK : (K.set iK ⟨at_, v.n, v.s⟩).length ≤ 1000 := by rw [List.length_set]; omega
  have hlF : 0 + (F.map Va.c).length ≤ (F.set iF ⟨at_, v.n, v.s⟩).length := by rw [List.length_set]; exact hlF
  have hlK : 0 + (K.map Va.c).length ≤ (K.set iK ⟨at_, v.n, v.s⟩).length := by rw [List.length_set]; exact hlK
  refine call_h (l23 x (k : Int) (F.set iF ⟨at_, v.n, v.s⟩) (id := 1) hRF rfl hxF hlF) ?_
  repeat (first | refine guard_t rfl ?_ | refine guard_f (by decide) ?_)
  refine call_h (l26 x (k : Int) (F.set iF ⟨at_, v.n, v.s⟩) (id := 1) hRF rfl hxF hlF) ?_
  repeat (first | refine guard_t rfl ?_ | refine guard_f (by decide) ?_)
  refine guard_t (beq_self_eq_true _) ?_
  repeat (first | refine guard_t rfl ?_ | refine guard_f (by decide) ?_)
  refine call_h (l24 x (k : Int) (K.set iK ⟨at_, v.n, v.s⟩) (id := 2) hRK rfl hxK hlK hts) ?_
  repeat (first | refine guard_t rfl ?_ | refine guard_f (by decide) ?_)
  refine call_h (l27 x (k : Int) (K.set iK ⟨at_, v.n, v.s⟩) (id := 2) hRK rfl hxK hlK hts) ?_
  repeat (first | refine guard_t rfl ?_ | refine guard_f (by decide) ?_)
  refine guard_t (beq_self_eq_true _) ?_
  repeat (first | refine guard_t rfl ?_ | refine guard_f (by decide) ?_)
  refine call_h (l23 x t (F.set iF ⟨at_, v.n, v.s⟩) (id := 1) hRF rfl hxF hlF) ?_
  repeat (first | refine guard_t rfl ?_ | refine guard_f (by decide) ?_)
  refine call_h (l26 x t (F.set iF ⟨at_, v.n, v.s⟩) (id := 1) hRF rfl hxF hlF) ?_
  repeat (first | refine guard_t rfl ?_ | refine guard_f (by decide) ?_)
  refine guard_t (beq_self_eq_true _) ?_
  repeat (first | refine guard_t rfl ?_ | refine guard_f (by decide) ?_)
  refine call_h (l24 x t (F.set iF ⟨at_, v.n, v.s⟩) (id := 1) hRF rfl hxF hlF hts) ?_
  repeat (first | refine guard_t rfl ?_ | refine guard_f (by decide) ?_)
  refine call_h (l27 x t (F.set iF ⟨at_, v.n, v.s⟩) (id := 1) hRF rfl hxF hlF hts) ?_
  repeat (first | refine guard_t rfl ?_ | refine guard_f (by decide) ?_)
  exact bool_eq (beq_self_eq_true _)

theorem tcNB0 (nl n1 : Option Bool) (own o1 : Bool) (l : List Form) (hl : l.length ≤ 9223372036854775807) (hfw : fewD l = true) (t : Int) (ht : t.tmod ((tables l).length : Nat) < 0) (row : List UInt8) (ha : row.length ≤ 12) (at_ : UInt8) (w : Va) (more : UInt8) (h1 : more.toNat % 4 = 1) : PCallN Tryd.prog 6 [.sl 2 nl own (l.map Form.c), .int .i64 t, .sl 1 n1 o1 (bs row), .int .u8 at_.toNat, w.av, .bool false, .int .u8 more.toNat] (.bool true) := by
  refine PCallN.of (tr [17, 18, 2000017, 2000018, 1000092, 1000096]) f6 (Nat.le_of_ble_eq_true rfl) (np_checks _ _ _ _ _ _ _) (.bool _) ?_
  refine call_p noughtsN ?_
  repeat (first | refine guard_t rfl ?_ | refine guard_f (by decide) ?_)
  refine call_p (fewN _ _ l hl) ?_
  rw [hfw]
  repeat (first | refine guard_t rfl ?_ | refine guard_f (by decide) ?_)
  refine cond_f (decide_eq_false (by rw [bs_len]; omega)) ?_
  refine call_p (tablesN _ _ l) ?_
  have hx := tables_len l
  have hx4 := tabN_le l
  refine And.intro (by rw [List.length_map]; omega) ?_
  have ha5 := at_.toNat_lt
  have hm5 := more.toNat_lt
  rw [List.length_map]
  refine cond_t (decide_eq_true ht) ?_
  have hlt : (t.tmod ((tables l).length : Nat)).natAbs < (tables l).length := by
    rw [Int.natAbs_tmod, Int.natAbs_natCast]
    exact Nat.mod_lt _ (by omega)
  have hk : IntKind.i64.wrap (0 - t.tmod ((tables l).length : Nat)) = ((t.tmod ((tables l).length : Nat)).natAbs : Int) := by
    rw [i64_in _ (by omega)]
    omega
  generalize (t.tmod ((tables l).length : Nat)).natAbs = k at hk hlt
  obtain ⟨m, hm1, hm2, hm3, hm4⟩ := tabAt_ok l k
  have hkd := tabAt_kinds l k
  rw [← tables_get l k hlt] at hm1 hm3 hm4 hkd
  have hk4 : k < 4 := by omega
  have hts := tables_ks l
  clear ht
  generalize tables l = x at hlt hm1 hm3 hm4 hkd hts hk ⊢
  have ix : ∀ {K : List AV → Prop}, K x[k].c → (3 = 3 ∧ 0 ≤ (k : Int) ∧ ∃ c, (x.map Tab.c)[((k : Nat) : Int).toNat]? = some c ∧ K c) := fun h => ⟨rfl, Int.natCast_nonneg k, _, map_get hlt, h⟩
  have lF : (fitL x[k].cs (x[k].cs.map Col.c).length row).length = x[k].cs.length := by rw [fitL_len, List.length_map]; omega
  have lK : (fitL x[k].cs m row).length = m := by rw [fitL_len]; omega
  have cF : chkT x (k : Int) (fitL x[k].cs (x[k].cs.map Col.c).length row) = 0 := by
    have := fit_chk x[k].cs hkd (x[k].cs.map Col.c).length (by rw [List.length_map]; exact Nat.le_refl _) row
    rw [List.take_of_length_le (by rw [List.length_map]; exact Nat.le_refl _)] at this
    rw [chkT_at x k hlt, this]
  have cK : chkK x (k : Int) (fitL x[k].cs m row) = 0 := by
    rw [chkK_at x k hlt, hm1, Int.toNat_natCast]
    exact fit_chk x[k].cs hkd m hm3 row
  have tF := (fitN x[k] (x[k].cs.map Col.c).length n1 false row (by omega)).thaw rfl (by rw [List.length_map]; omega) (va_flat _)
  have tK := (fitN x[k] m n1 false row (by omega)).thaw rfl (by rw [List.length_map]; omega) (va_flat _)
  generalize fitL x[k].cs (x[k].cs.map Col.c).length row = F at lF cF tF
  generalize fitL x[k].cs m row = K at lK cK tK
  have ix0 : ∀ {K : List AV → Prop}, K x[k].c → (3 = 3 ∧ 0 ≤ IntKind.i64.wrap (0 - t.tmod (x.length : Nat)) ∧ ∃ c, (x.map Tab.c)[(IntKind.i64.wrap (0 - t.tmod (x.length : Nat))).toNat]? = some c ∧ K c) := fun h => by rw [hk]; exact ix h
  refine ix0 ?_
  rw [hk]
  clear ix0
  refine ix ?_
  refine call_d tF ?_
  refine And.intro (by kernel_rfl) ?_
  refine ix ?_
  refine ix ?_
  rw [← hm1] at tK
  refine call_d tK ?_
  refine And.intro (by kernel_rfl) ?_
  have hRF : F.length ≤ 1000 := by omega
  have hRK : K.length ≤ 1000 := by omega
  have hlF : 0 + (F.map Va.c).length ≤ F.length := by rw [List.length_map]; omega
  have hlK : 0 + (K.map Va.c).length ≤ K.length := by rw [List.length_map]; omega
  have hxF : F.map Va.c = F.map Va.c := rfl
  have hxK : K.map Va.c = K.map Va.c := rfl
  have q1 := l23 x (k : Int) F (h := [.cells w.c, .arr 3 (F.map Va.c), .arr 3 (K.map Va.c)]) (id := 1) hRF rfl hxF hlF
  rw [cut_all, cF] at q1
  refine call_h q1 ?_
  repeat (first | refine guard_t rfl ?_ | refine guard_f (by decide) ?_)
  have q2 := l24 x (k : Int) K (h := [.cells w.c, .arr 3 (F.map Va.c), .arr 3 (K.map Va.c)]) (id := 2) hRK rfl hxK hlK hts
  rw [cut_all, cK] at q2
  refine call_h q2 ?_
  repeat (first | refine guard_t rfl ?_ | refine guard_f (by decide) ?_)
  refine cond_f rfl ?_
  clear q1 q2 hxF hxK cF cK tF tK
  refine And.intro (by decide) ?_
  refine cond_t (by show ((more.toNat : Int).tmod 4 == 1) = true; rw [rem4, h1]; rfl) ?_
  refine And.intro rfl (And.intro ⟨Int.le_refl _, by rw [i64_in _ (by rw [List.length_map]; omega), List.length_map]; omega, by rw [i64_in _ (by rw [List.length_map]; omega), List.length_map]; omega⟩ ?_)
  have hu : (IntKind.i64.wrap (((F.map Va.c).length : Nat) - 1)).toNat - (0 : Int).toNat = F.length - 1 := by
    rw [i64_in _ (by rw [List.length_map]; omega), List.length_map]; omega
  rw [hu]
  have hnB : F.length - 1 + 1 = F.length := by omega
  generalize F.length - 1 = nB at hnB ⊢
  have hlF : 0 + (0 : Int).toNat + nB ≤ F.length := by simp; omega
  refine And.intro (by decide) ?_
  refine cond_f (by show ((more.toNat : Int).tmod 4 == 2) = false; rw [rem4]; exact beq_eq_false_iff_ne.2 (by omega)) ?_
  repeat (first | refine guard_t rfl ?_ | refine guard_f (by decide) ?_)
  refine cond_f rfl ?_
  have hxF : F.map Va.c = F.map Va.c := rfl
  have hxK : K.map Va.c = K.map Va.c := rfl
  refine call_h (l23 x (k : Int) F (id := 1) hRF rfl hxF hlF) ?_
  repeat (first | refine guard_t rfl ?_ | refine guard_f (by decide) ?_)
  refine call_h (l26 x (k : Int) F (id := 1) hRF rfl hxF hlF) ?_
  repeat (first | refine guard_t rfl ?_ | refine guard_f (by decide) ?_)
  refine guard_t (beq_self_eq_true _) ?_
  repeat (first | refine guard_t rfl ?_ | refine guard_f (by decide) ?_)
  refine call_h (l24 x (k : Int) K (id := 2) hRK rfl hxK hlK hts) ?_
  repeat (first | refine guard_t rfl ?_ | refine guard_f (by decide) ?_)
  refine call_h (l27 x (k : Int) K (id := 2) hRK rfl hxK hlK hts) ?_
  repeat (first | refine guard_t rfl ?_ | refine guard_f (by decide) ?_)
  refine guard_t (beq_self_eq_true _) ?_
  repeat (first | refine guard_t rfl ?_ | refine guard_f (by decide) ?_)
  refine call_h (l23 x t F (id := 1) hRF rfl hxF hlF) ?_
  repeat (first | refine guard_t rfl ?_ | refine guard_f (by decide) ?_)
  refine call_h (l26 x t F (id := 1) hRF rfl hxF hlF) ?_
  repeat (first | refine guard_t rfl ?_ | refine guard_f (by decide) ?_)
  refine guard_t (beq_self_eq_true _) ?_
  repeat (first | refine guard_t rfl ?_ | refine guard_f (by decide) ?_)
  refine call_h (l24 x t F (id := 1) hRF rfl hxF hlF hts) ?_
  repeat (first | refine guard_t rfl ?_ | refine guard_f (by decide) ?_)
  refine call_h (l27 x t F (id := 1) hRF rfl hxF hlF hts) ?_
  repeat (first | refine guard_t rfl ?_ | refine guard_f (by decide) ?_)
  exact bool_eq (beq_self_eq_true _)

theorem tcNB1 (nl n1 : Option Bool) (own o1 : Bool) (l : List Form) (hl : l.length ≤ 9223372036854775807) (hfw : fewD l = true) (t : Int) (ht : t.tmod ((tables l).length : Nat) < 0) (row : List UInt8) (ha : row.length ≤ 12) (at_ : UInt8) (w : Va) (more : UInt8) (h1 : more.toNat % 4 = 1) (hc : (tabAt l (t.tmod ((tables l).length : Nat)).natAbs).cs.length ≠ 1) : PCallN Tryd.prog 6 [.sl 2 nl own (l.map Form.c), .int .i64 t, .sl 1 n1 o1 (bs row), .int .u8 at_.toNat, w.av, .bool true, .int .u8 more.toNat] (.bool true) := by
  refine PCallN.of (tr [17, 18, 2000017, 2000018, 1000092, 1000096]) f6 (Nat.le_of_ble_eq_true rfl) (np_checks _ _ _ _ _ _ _) (.bool _) ?_
  refine call_p noughtsN ?_
  repeat (first | refine guard_t rfl ?_ | refine guard_f (by decide) ?_)
  refine call_p (fewN _ _ l hl) ?_
  rw [hfw]
  repeat (first | refine guard_t rfl ?_ | refine guard_f (by decide) ?_)
  refine cond_f (decide_eq_false (by rw [bs_len]; omega)) ?_
  refine call_p (tablesN _ _ l) ?_
  have hx := tables_len l
  have hx4 := tabN_le l
  refine And.intro (by rw [List.length_map]; omega) ?_
  have ha5 := at_.toNat_lt
  have hm5 := more.toNat_lt
  rw [List.length_map]
  refine cond_t (decide_eq_true ht) ?_
  have hlt : (t.tmod ((tables l).length : Nat)).natAbs < (tables l).length := by
    rw [Int.natAbs_tmod, Int.natAbs_natCast]
    exact Nat.mod_lt _ (by omega)
  have hk : IntKind.i64.wrap (0 - t.tmod ((tables l).length : Nat)) = ((t.tmod ((tables l).length : Nat)).natAbs : Int) := by
    rw [i64_in _ (by omega)]
    omega
  generalize (t.tmod ((tables l).length : Nat)).natAbs = k at hk hlt hc
  obtain ⟨m, hm1, hm2, hm3, hm4⟩ := tabAt_ok l k
  have hkd := tabAt_kinds l k
  rw [← tables_get l k hlt] at hm1 hm3 hm4 hkd hc
  have hk4 : k < 4 := by omega
  have hts := tables_ks l
  clear ht
  generalize tables l = x at hlt hm1 hm3 hm4 hkd hts hk ⊢
  have ix : ∀ {K : List AV → Prop}, K x[k].c → (3 = 3 ∧ 0 ≤ (k : Int) ∧ ∃ c, (x.map Tab.c)[((k : Nat) : Int).toNat]? = some c ∧ K c) := fun h => ⟨rfl, Int.natCast_nonneg k, _, map_get hlt, h⟩
  have lF : (fitL x[k].cs (x[k].cs.map Col.c).length row).length = x[k].cs.length := by rw [fitL_len, List.length_map]; omega
  have lK : (fitL x[k].cs m row).length = m := by rw [fitL_len]; omega
  have cF : chkT x (k : Int) (fitL x[k].cs (x[k].cs.map Col.c).length row) = 0 := by
    have := fit_chk x[k].cs hkd (x[k].cs.map Col.c).length (by rw [List.length_map]; exact Nat.le_refl _) row
    rw [List.take_of_length_le (by rw [List.length_map]; exact Nat.le_refl _)] at this
    rw [chkT_at x k hlt, this]
  have cK : chkK x (k : Int) (fitL x[k].cs m row) = 0 := by
    rw [chkK_at x k hlt, hm1, Int.toNat_natCast]
    exact fit_chk x[k].cs hkd m hm3 row
  have tF := (fitN x[k] (x[k].cs.map Col.c).length n1 false row (by omega)).thaw rfl (by rw [List.length_map]; omega) (va_flat _)
  have tK := (fitN x[k] m n1 false row (by omega)).thaw rfl (by rw [List.length_map]; omega) (va_flat _)
  generalize fitL x[k].cs (x[k].cs.map Col.c).length row = F at lF cF tF
  generalize fitL x[k].cs m row = K at lK cK tK
  have ix0 : ∀ {K : List AV → Prop}, K x[k].c → (3 = 3 ∧ 0 ≤ IntKind.i64.wrap (0 - t.tmod (x.length : Nat)) ∧ ∃ c, (x.map Tab.c)[(IntKind.i64.wrap (0 - t.tmod (x.length : Nat))).toNat]? = some c ∧ K c) := fun h => by rw [hk]; exact ix h
  refine ix0 ?_
  rw [hk]
  clear ix0
  refine ix ?_
  refine call_d tF ?_
  refine And.intro (by kernel_rfl) ?_
  refine ix ?_
  refine ix ?_
  rw [← hm1] at tK
  refine call_d tK ?_
  refine And.intro (by kernel_rfl) ?_
  have hRF : F.length ≤ 1000 := by omega
  have hRK : K.length ≤ 1000 := by omega
  have hlF : 0 + (F.map Va.c).length ≤ F.length := by rw [List.length_map]; omega
  have hlK : 0 + (K.map Va.c).length ≤ K.length := by rw [List.length_map]; omega
  have hxF : F.map Va.c = F.map Va.c := rfl
  have hxK : K.map Va.c = K.map Va.c := rfl
  have q1 := l23 x (k : Int) F (h := [.cells w.c, .arr 3 (F.map Va.c), .arr 3 (K.map Va.c)]) (id := 1) hRF rfl hxF hlF
  rw [cut_all, cF] at q1
  refine call_h q1 ?_
  repeat (first | refine guard_t rfl ?_ | refine guard_f (by decide) ?_)
  have q2 := l24 x (k : Int) K (h := [.cells w.c, .arr 3 (F.map Va.c), .arr 3 (K.map Va.c)]) (id := 2) hRK rfl hxK hlK hts
  rw [cut_all, cK] at q2
  refine call_h q2 ?_
  repeat (first | refine guard_t rfl ?_ | refine guard_f (by decide) ?_)
  refine cond_f rfl ?_
  clear q1 q2 hxF hxK cF cK tF tK
  refine And.intro (by decide) ?_
  refine cond_t (by show ((more.toNat : Int).tmod 4 == 1) = true; rw [rem4, h1]; rfl) ?_
  refine And.intro rfl (And.intro ⟨Int.le_refl _, by rw [i64_in _ (by rw [List.length_map]; omega), List.length_map]; omega, by rw [i64_in _ (by rw [List.length_map]; omega), List.length_map]; omega⟩ ?_)
  have hu : (IntKind.i64.wrap (((F.map Va.c).length : Nat) - 1)).toNat - (0 : Int).toNat = F.length - 1 := by
    rw [i64_in _ (by rw [List.length_map]; omega), List.length_map]; omega
  rw [hu]
  have hnB : F.length - 1 + 1 = F.length := by omega
  generalize F.length - 1 = nB at hnB ⊢
  have hlF : 0 + (0 : Int).toNat + nB ≤ F.length := by simp; omega
  refine And.intro (by decide) ?_
  refine cond_f (by show ((more.toNat : Int).tmod 4 == 2) = false; rw [rem4]; exact beq_eq_false_iff_ne.2 (by omega)) ?_
  repeat (first | refine guard_t rfl ?_ | refine guard_f (by decide) ?_)
  have hn0 : 0 < nB := by omega
  refine guard_t (decide_eq_true (by omega)) ?_
  rw [decide_eq_true (by omega)]
  repeat (first | refine guard_t rfl ?_ | refine guard_f (by decide) ?_)
  refine cond_t (decide_eq_true (by rw [List.length_map]; omega)) ?_
  refine call_p (ofN w) ?_
  generalize w.of = v
  refine And.intro (by decide) ?_
  refine cond_f (by show ((more.toNat : Int).tmod 4 == 3) = false; rw [rem4]; exact beq_eq_false_iff_ne.2 (by omega)) ?_
  have hzF : ((nB : Nat) : Int) ≠ 0 := by omega
  have hzK : (((K.map Va.c).length : Nat) : Int) ≠ 0 := by rw [List.length_map]; omega
  have hmodF : (IntKind.i64.wrap (at_.toNat : Int)).tmod ((nB : Nat) : Int) = ((at_.toNat % nB : Nat) : Int) := by
    rw [i64_in _ (by omega), Int.tmod_eq_emod_of_nonneg (by omega)]
    omega
  have hmodK : (IntKind.i64.wrap (at_.toNat : Int)).tmod (((K.map Va.c).length : Nat) : Int) = ((at_.toNat % K.length : Nat) : Int) := by
    rw [i64_in _ (by omega), List.length_map, Int.tmod_eq_emod_of_nonneg (by omega)]
    omega
  have hiF0 : at_.toNat % nB < nB := Nat.mod_lt _ (by omega)
  have hiK : at_.toNat % K.length < K.length := Nat.mod_lt _ (by omega)
  generalize at_.toNat % nB = iF at hmodF hiF0
  generalize at_.toNat % K.length = iK at hmodK hiK
  have hiF : iF < F.length := by omega
  have hbF : (iF : Int) < ((nB : Nat) : Int) := by omega
  have hbK : (iK : Int) < (((K.map Va.c).length : Nat) : Int) := by rw [List.length_map]; omega
  refine And.intro hzF ?_
  rw [hmodF]
  refine And.intro rfl (And.intro ⟨Int.natCast_nonneg _, hbF⟩ ?_)
  refine Exists.intro ((0 + (0 : Int).toNat) + (iF : Int).toNat) (Exists.intro 0 (Exists.intro (F[iF]'hiF).c (And.intro ⟨rfl, by decide, by decide⟩ (And.intro ?_ ?_))))
  · rw [show (0 + (0 : Int).toNat) + (iF : Int).toNat = iF by simp]; exact words_get hiF
  refine And.intro (by kernel_rfl) ?_
  refine And.intro hzK ?_
  rw [hmodK]
  refine And.intro rfl (And.intro ⟨Int.natCast_nonneg _, hbK⟩ ?_)
  refine Exists.intro (0 + (iK : Int).toNat) (Exists.intro 0 (Exists.intro (K[iK]'hiK).c (And.intro ⟨rfl, by decide, by decide⟩ (And.intro ?_ ?_))))
  · rw [show 0 + (iK : Int).toNat = iK by simp]; exact words_get hiK
  refine And.intro (by kernel_rfl) ?_
  have hxF : (F.map Va.c).set ((0 + (0 : Int).toNat) + (iF : Int).toNat) (Va.c v) = (F.set iF v).map Va.c := by rw [show (0 + (0 : Int).toNat) + (iF : Int).toNat = iF by simp, words_set]
  have hxK : (K.map Va.c).set (0 + (iK : Int).toNat) (Va.c v) = (K.set iK v).map Va.c := by rw [show 0 + (iK : Int).toNat = iK by simp, words_set]
  have hRF : (F.set iF v).length ≤ 1000 := by rw [List.length_set]; omega
  have hRK : (K.set iK v).length ≤ 1000 := by rw [List.length_set]; omega
  have hlF : (0 + (0 : Int).toNat) + nB ≤ (F.set iF v).length := by rw [List.length_set]; exact hlF
  have hlK : 0 + (K.map Va.c).length ≤ (K.set iK v).length := by rw [List.length_set]; exact hlK
  refine call_h (l23 x (k : Int) (F.set iF v) (id := 1) hRF rfl hxF hlF) ?_
  repeat (first | refine guard_t rfl ?_ | refine guard_f (by decide) ?_)
  refine call_h (l26 x (k : Int) (F.set iF v) (id := 1) hRF rfl hxF hlF) ?_
  repeat (first | refine guard_t rfl ?_ | refine guard_f (by decide) ?_)
  refine guard_t (beq_self_eq_true _) ?_
  repeat (first | refine guard_t rfl ?_ | refine guard_f (by decide) ?_)
  refine call_h (l24 x (k : Int) (K.set iK v) (id := 2) hRK rfl hxK hlK hts) ?_
  repeat (first | refine guard_t rfl ?_ | refine guard_f (by decide) ?_)
  refine call_h (l27 x (k : Int) (K.set iK v) (id := 2) hRK rfl hxK hlK hts) ?_
  repeat (first | refine guard_t rfl ?_ | refine guard_f (by decide) ?_)
  refine guard_t (beq_self_eq_true _) ?_
  repeat (first | refine guard_t rfl ?_ | refine guard_f (by decide) ?_)
  refine call_h (l23 x t (F.set iF v) (id := 1) hRF rfl hxF hlF) ?_
  repeat (first | refine guard_t rfl ?_ | refine guard_f (by decide) ?_)
  refine call_h (l26 x t (F.set iF v) (id := 1) hRF rfl hxF hlF) ?_
  repeat (first | refine guard_t rfl ?_ | refine guard_f (by decide) ?_)
  refine guard_t (beq_self_eq_true _) ?_
  repeat (first | refine guard_t rfl ?_ | refine guard_f (by decide) ?_)
  refine call_h (l24 x t (F.set iF v) (id := 1) hRF rfl hxF hlF hts) ?_
  repeat (first | refine guard_t rfl ?_ | refine guard_f (by decide) ?_)
  refine call_h (l27 x t (F.set iF v) (id := 1) hRF rfl hxF hlF hts) ?_
  repeat (first | refine guard_t rfl ?_ | refine guard_f (by decide) ?_)
  exact bool_eq (beq_self_eq_true _)

theorem tcNB1k (nl n1 : Option Bool) (own o1 : Bool) (l : List Form) (hl : l.length ≤ 9223372036854775807) (hfw : fewD l = true) (t : Int) (ht : t.tmod ((tables l).length : Nat) < 0) (row : List UInt8) (ha : row.length ≤ 12) (at_ : UInt8) (w : Va) (more : UInt8) (h1 : more.toNat % 4 = 1) (hc : (tabAt l (t.tmod ((tables l).length : Nat)).natAbs).cs.length = 1) : PCallN Tryd.prog 6 [.sl 2 nl own (l.map Form.c), .int .i64 t, .sl 1 n1 o1 (bs row), .int .u8 at_.toNat, w.av, .bool true, .int .u8 more.toNat] (.bool true) := by
  refine PCallN.of (tr [17, 18, 2000017, 2000018, 1000092, 1000096]) f6 (Nat.le_of_ble_eq_true rfl) (np_checks _ _ _ _ _ _ _) (.bool _) ?_
  refine call_p noughtsN ?_
  repeat (first | refine guard_t rfl ?_ | refine guard_f (by decide) ?_)
  refine call_p (fewN _ _ l hl) ?_
  rw [hfw]
  repeat (first | refine guard_t rfl ?_ | refine guard_f (by decide) ?_)
  refine cond_f (decide_eq_false (by rw [bs_len]; omega)) ?_
  refine call_p (tablesN _ _ l) ?_
  have hx := tables_len l
  have hx4 := tabN_le l
  refine And.intro (by rw [List.length_map]; omega) ?_
  have ha5 := at_.toNat_lt
  have hm5 := more.toNat_lt
  rw [List.length_map]
  refine cond_t (decide_eq_true ht) ?_
  have hlt : (t.tmod ((tables l).length : Nat)).natAbs < (tables l).length := by
    rw [Int.natAbs_tmod, Int.natAbs_natCast]
    exact Nat.mod_lt _ (by omega)
  have hk : IntKind.i64.wrap (0 - t.tmod ((tables l).length : Nat)) = ((t.tmod ((tables l).length : Nat)).natAbs : Int) := by
    rw [i64_in _ (by omega)]
    omega
  generalize (t.tmod ((tables l).length : Nat)).natAbs = k at hk hlt hc
  obtain ⟨m, hm1, hm2, hm3, hm4⟩ := tabAt_ok l k
  have hkd := tabAt_kinds l k
  rw [← tables_get l k hlt] at hm1 hm3 hm4 hkd hc
  have hk4 : k < 4 := by omega
  have hts := tables_ks l
  clear ht
  generalize tables l = x at hlt hm1 hm3 hm4 hkd hts hk ⊢
  have ix : ∀ {K : List AV → Prop}, K x[k].c → (3 = 3 ∧ 0 ≤ (k : Int) ∧ ∃ c, (x.map Tab.c)[((k : Nat) : Int).toNat]? = some c ∧ K c) := fun h => ⟨rfl, Int.natCast_nonneg k, _, map_get hlt, h⟩
  have lF : (fitL x[k].cs (x[k].cs.map Col.c).length row).length = x[k].cs.length := by rw [fitL_len, List.length_map]; omega
  have lK : (fitL x[k].cs m row).length = m := by rw [fitL_len]; omega
  have cF : chkT x (k : Int) (fitL x[k].cs (x[k].cs.map Col.c).length row) = 0 := by
    have := fit_chk x[k].cs hkd (x[k].cs.map Col.c).length (by rw [List.length_map]; exact Nat.le_refl _) row
    rw [List.take_of_length_le (by rw [List.length_map]; exact Nat.le_refl _)] at this
    rw [chkT_at x k hlt, this]
  have cK : chkK x (k : Int) (fitL x[k].cs m row) = 0 := by
    rw [chkK_at x k hlt, hm1, Int.toNat_natCast]
    exact fit_chk x[k].cs hkd m hm3 row
  have tF := (fitN x[k] (x[k].cs.map Col.c).length n1 false row (by omega)).thaw rfl (by rw [List.length_map]; omega) (va_flat _)
  have tK := (fitN x[k] m n1 false row (by omega)).thaw rfl (by rw [List.length_map]; omega) (va_flat _)
  generalize fitL x[k].cs (x[k].cs.map Col.c).length row = F at lF cF tF
  generalize fitL x[k].cs m row = K at lK cK tK
  have ix0 : ∀ {K : List AV → Prop}, K x[k].c → (3 = 3 ∧ 0 ≤ IntKind.i64.wrap (0 - t.tmod (x.length : Nat)) ∧ ∃ c, (x.map Tab.c)[(IntKind.i64.wrap (0 - t.tmod (x.length : Nat))).toNat]? = some c ∧ K c) := fun h => by rw [hk]; exact ix h
  refine ix0 ?_
  rw [hk]
  clear ix0
  refine ix ?_
  refine call_d tF ?_
  refine And.intro (by kernel_rfl) ?_
  refine ix ?_
  refine ix ?_
  rw [← hm1] at tK
  refine call_d tK ?_
  refine And.intro (by kernel_rfl) ?_
  have hRF : F.length ≤ 1000 := by omega
  have hRK : K.length ≤ 1000 := by omega
  have hlF : 0 + (F.map Va.c).length ≤ F.length := by rw [List.length_map]; omega
  have hlK : 0 + (K.map Va.c).length ≤ K.length := by rw [List.length_map]; omega
  have hxF : F.map Va.c = F.map Va.c := rfl
  have hxK : K.map Va.c = K.map Va.c := rfl
  have q1 := l23 x (k : Int) F (h := [.cells w.c, .arr 3 (F.map Va.c), .arr 3 (K.map Va.c)]) (id := 1) hRF rfl hxF hlF
  rw [cut_all, cF] at q1
  refine call_h q1 ?_
  repeat (first | refine guard_t rfl ?_ | refine guard_f (by decide) ?_)
  have q2 := l24 x (k : Int) K (h := [.cells w.c, .arr 3 (F.map Va.c), .arr 3 (K.map Va.c)]) (id := 2) hRK rfl hxK hlK hts
  rw [cut_all, cK] at q2
  refine call_h q2 ?_
  repeat (first | refine guard_t rfl ?_ | refine guard_f (by decide) ?_)
  refine cond_f rfl ?_
  clear q1 q2 hxF hxK cF cK tF tK
  refine And.intro (by decide) ?_
  refine cond_t (by show ((more.toNat : Int).tmod 4 == 1) = true; rw [rem4, h1]; rfl) ?_
  refine And.intro rfl (And.intro ⟨Int.le_refl _, by rw [i64_in _ (by rw [List.length_map]; omega), List.length_map]; omega, by rw [i64_in _ (by rw [List.length_map]; omega), List.length_map]; omega⟩ ?_)
  have hu : (IntKind.i64.wrap (((F.map Va.c).length : Nat) - 1)).toNat - (0 : Int).toNat = F.length - 1 := by
    rw [i64_in _ (by rw [List.length_map]; omega), List.length_map]; omega
  rw [hu]
  have hnB : F.length - 1 + 1 = F.length := by omega
  generalize F.length - 1 = nB at hnB ⊢
  have hlF : 0 + (0 : Int).toNat + nB ≤ F.length := by simp; omega
  refine And.intro (by decide) ?_
  refine cond_f (by show ((more.toNat : Int).tmod 4 == 2) = false; rw [rem4]; exact beq_eq_false_iff_ne.2 (by omega)) ?_
  repeat (first | refine guard_t rfl ?_ | refine guard_f (by decide) ?_)
  refine guard_f (by simp; omega) ?_
  repeat (first | refine guard_t rfl ?_ | refine guard_f (by decide) ?_)
  refine cond_f (by first | rfl | exact decide_eq_false (by omega)) ?_
  have hxF : F.map Va.c = F.map Va.c := rfl
  have hxK : K.map Va.c = K.map Va.c := rfl
  refine call_h (l23 x (k : Int) F (id := 1) hRF rfl hxF hlF) ?_
  repeat (first | refine guard_t rfl ?_ | refine guard_f (by decide) ?_)
  refine call_h (l26 x (k : Int) F (id := 1) hRF rfl hxF hlF) ?_
  repeat (first | refine guard_t rfl ?_ | refine guard_f (by decide) ?_)
  refine guard_t (beq_self_eq_true _) ?_
  repeat (first | refine guard_t rfl ?_ | refine guard_f (by decide) ?_)
  refine call_h (l24 x (k : Int) K (id := 2) hRK rfl hxK hlK hts) ?_
  repeat (first | refine guard_t rfl ?_ | refine guard_f (by decide) ?_)
  refine call_h (l27 x (k : Int) K (id := 2) hRK rfl hxK hlK hts) ?_
  repeat (first | refine guard_t rfl ?_ | refine guard_f (by decide) ?_)
  refine guard_t (beq_self_eq_true _) ?_
  repeat (first | refine guard_t rfl ?_ | refine guard_f (by decide) ?_)
  refine call_h (l23 x t F (id := 1) hRF rfl hxF hlF) ?_
  repeat (first | refine guard_t rfl ?_ | refine guard_f (by decide) ?_)
  refine call_h (l26 x t F (id := 1) hRF rfl hxF hlF) ?_
  repeat (first | refine guard_t rfl ?_ | refine guard_f (by decide) ?_)
  refine guard_t (beq_self_eq_true _) ?_
  repeat (first | refine guard_t rfl ?_ | refine guard_f (by decide) ?_)
  refine call_h (l24 x t F (id := 1) hRF rfl hxF hlF hts) ?_
  repeat (first | refine guard_t rfl ?_ | refine guard_f (by decide) ?_)
  refine call_h (l27 x t F (id := 1) hRF rfl hxF hlF hts) ?_
  repeat (first | refine guard_t rfl ?_ | refine guard_f (by decide) ?_)
  exact bool_eq (beq_self_eq_true _)

theorem tcNC0 (nl n1 : Option Bool) (own o1 : Bool) (l : List Form) (hl : l.length ≤ 9223372036854775807) (hfw : fewD l = true) (t : Int) (ht : t.tmod ((tables l).length : Nat) < 0) (row : List UInt8) (ha : row.length ≤ 12) (at_ : UInt8) (w : Va) (more : UInt8) (h2 : more.toNat % 4 = 2) : PCallN Tryd.prog 6 [.sl 2 nl own (l.map Form.c), .int .i64 t, .sl 1 n1 o1 (bs row), .int .u8 at_.toNat, w.av, .bool false, .int .u8 more.toNat] (.bool true) := by
  refine PCallN.of (tr [17, 18, 2000017, 2000018, 1000092, 1000096]) f6 (Nat.le_of_ble_eq_true rfl) (np_checks _ _ _ _ _ _ _) (.bool _) ?_
  refine call_p noughtsN ?_
  repeat (first | refine guard_t rfl ?_ | refine guard_f (by decide) ?_)
  refine call_p (fewN _ _ l hl) ?_
  rw [hfw]
  repeat (first | refine guard_t rfl ?_ | refine guard_f (by decide) ?_)
  refine cond_f (decide_eq_false (by rw [bs_len]; omega)) ?_
  refine call_p (tablesN _ _ l) ?_
  have hx := tables_len l
  have hx4 := tabN_le l
  refine And.intro (by rw [List.length_map]; omega) ?_
  have ha5 := at_.toNat_lt
  have hm5 := more.toNat_lt
  rw [List.length_map]
  refine cond_t (decide_eq_true ht) ?_
  have hlt : (t.tmod ((tables l).length : Nat)).natAbs < (tables l).length := by
    rw [Int.natAbs_tmod, Int.natAbs_natCast]
    exact Nat.mod_lt _ (by omega)
  have hk : IntKind.i64.wrap (0 - t.tmod ((tables l).length : Nat)) = ((t.tmod ((tables l).length : Nat)).natAbs : Int) := by
    rw [i64_in _ (by omega)]
    omega
  generalize (t.tmod ((tables l).length : Nat)).natAbs = k at hk hlt
  obtain ⟨m, hm1, hm2, hm3, hm4⟩ := tabAt_ok l k
  have hkd := tabAt_kinds l k
  rw [← tables_get l k hlt] at hm1 hm3 hm4 hkd
  have hk4 : k < 4 := by omega
  have hts := tables_ks l
  clear ht
  generalize tables l = x at hlt hm1 hm3 hm4 hkd hts hk ⊢
  have ix : ∀ {K : List AV → Prop}, K x[k].c → (3 = 3 ∧ 0 ≤ (k : Int) ∧ ∃ c, (x.map Tab.c)[((k : Nat) : Int).toNat]? = some c ∧ K c) := fun h => ⟨rfl, Int.natCast_nonneg k, _, map_get hlt, h⟩
  have lF : (fitL x[k].cs (x[k].cs.map Col.c).length row).length = x[k].cs.length := by rw [fitL_len, List.length_map]; omega
  have lK : (fitL x[k].cs m row).length = m := by rw [fitL_len]; omega
  have cF : chkT x (k : Int) (fitL x[k].cs (x[k].cs.map Col.c).length row) = 0 := by
    have := fit_chk x[k].cs hkd (x[k].cs.map Col.c).length (by rw [List.length_map]; exact Nat.le_refl _) row
    rw [List.take_of_length_le (by rw [List.length_map]; exact Nat.le_refl _)] at this
    rw [chkT_at x k hlt, this]
  have cK : chkK x (k : Int) (fitL x[k].cs m row) = 0 := by
    rw [chkK_at x k hlt, hm1, Int.toNat_natCast]
    exact fit_chk x[k].cs hkd m hm3 row
  have tF := (fitN x[k] (x[k].cs.map Col.c).length n1 false row (by omega)).thaw rfl (by rw [List.length_map]; omega) (va_flat _)
  have tK := (fitN x[k] m n1 false row (by omega)).thaw rfl (by rw [List.length_map]; omega) (va_flat _)
  generalize fitL x[k].cs (x[k].cs.map Col.c).length row = F at lF cF tF
  generalize fitL x[k].cs m row = K at lK cK tK
  have ix0 : ∀ {K : List AV → Prop}, K x[k].c → (3 = 3 ∧ 0 ≤ IntKind.i64.wrap (0 - t.tmod (x.length : Nat)) ∧ ∃ c, (x.map Tab.c)[(IntKind.i64.wrap (0 - t.tmod (x.length : Nat))).toNat]? = some c ∧ K c) := fun h => by rw [hk]; exact ix h
  refine ix0 ?_
  rw [hk]
  clear ix0
  refine ix ?_
  refine call_d tF ?_
  refine And.intro (by kernel_rfl) ?_
  refine ix ?_
  refine ix ?_
  rw [← hm1] at tK
  refine call_d tK ?_
  refine And.intro (by kernel_rfl) ?_
  have hRF : F.length ≤ 1000 := by omega
  have hRK : K.length ≤ 1000 := by omega
  have hlF : 0 + (F.map Va.c).length ≤ F.length := by rw [List.length_map]; omega
  have hlK : 0 + (K.map Va.c).length ≤ K.length := by rw [List.length_map]; omega
  have hxF : F.map Va.c = F.map Va.c := rfl
  have hxK : K.map Va.c = K.map Va.c := rfl
  have q1 := l23 x (k : Int) F (h := [.cells w.c, .arr 3 (F.map Va.c), .arr 3 (K.map Va.c)]) (id := 1) hRF rfl hxF hlF
  rw [cut_all, cF] at q1
  refine call_h q1 ?_
  repeat (first | refine guard_t rfl ?_ | refine guard_f (by decide) ?_)
  have q2 := l24 x (k : Int) K (h := [.cells w.c, .arr 3 (F.map Va.c), .arr 3 (K.map Va.c)]) (id := 2) hRK rfl hxK hlK hts
  rw [cut_all, cK] at q2
  refine call_h q2 ?_
  repeat (first | refine guard_t rfl ?_ | refine guard_f (by decide) ?_)
  refine cond_f rfl ?_
  clear q1 q2 hxF hxK cF cK tF tK
  refine And.intro (by decide) ?_
  refine cond_f (by show ((more.toNat : Int).tmod 4 == 1) = false; rw [rem4]; exact beq_eq_false_iff_ne.2 (by omega)) ?_
  refine And.intro (by decide) ?_
  refine cond_t (by show ((more.toNat : Int).tmod 4 == 2) = true; rw [rem4, h2]; rfl) ?_
  refine And.intro ⟨rfl, rfl, rfl, rfl, by rw [List.length_map]; omega⟩ (And.intro (.inl rfl) (And.intro ⟨by simp; omega, by simp; omega⟩ ?_))
  refine And.intro ⟨rfl, rfl, rfl, rfl, by rw [List.length_map]; omega⟩ (And.intro (.inl rfl) (And.intro ⟨by simp; omega, by simp; omega⟩ ?_))
  have eF : F.map Va.c ++ [[.int .u8 0, .int .i64 0, .str ⟨#[]⟩]] = (F ++ [(⟨0, 0, []⟩ : Va)]).map Va.c := by rw [List.map_append]; rfl
  have eK : K.map Va.c ++ [[.int .u8 0, .int .i64 0, .str ⟨#[]⟩]] = (K ++ [(⟨0, 0, []⟩ : Va)]).map Va.c := by rw [List.map_append]; rfl
  rw [eF, eK]
  have lF2 : (F ++ [(⟨0, 0, []⟩ : Va)]).length = F.length + 1 := by simp
  have lK2 : (K ++ [(⟨0, 0, []⟩ : Va)]).length = K.length + 1 := by simp
  generalize F ++ [(⟨0, 0, []⟩ : Va)] = F2 at lF2 ⊢
  generalize K ++ [(⟨0, 0, []⟩ : Va)] = K2 at lK2 ⊢
  have hRF : F2.length ≤ 1000 := by omega
  have hRK : K2.length ≤ 1000 := by omega
  have hlF : 0 + (F2.map Va.c).length ≤ F2.length := by rw [List.length_map]; omega
  have hlK : 0 + (K2.map Va.c).length ≤ K2.length := by rw [List.length_map]; omega
  repeat (first | refine guard_t rfl ?_ | refine guard_f (by decide) ?_)
  refine cond_f rfl ?_
  have hxF : F2.map Va.c = F2.map Va.c := rfl
  have hxK : K2.map Va.c = K2.map Va.c := rfl
  refine call_h (l23 x (k : Int) F2 (id := 3) hRF rfl hxF hlF) ?_
  repeat (first | refine guard_t rfl ?_ | refine guard_f (by decide) ?_)
  refine call_h (l26 x (k : Int) F2 (id := 3) hRF rfl hxF hlF) ?_
  repeat (first | refine guard_t rfl ?_ | refine guard_f (by decide) ?_)
  refine guard_t (beq_self_eq_true _) ?_
  repeat (first | refine guard_t rfl ?_ | refine guard_f (by decide) ?_)
  refine call_h (l24 x (k : Int) K2 (id := 4) hRK rfl hxK hlK hts) ?_
  repeat (first | refine guard_t rfl ?_ | refine guard_f (by decide) ?_)
  refine call_h (l27 x (k : Int) K2 (id := 4) hRK rfl hxK hlK hts) ?_
  repeat (first | refine guard_t rfl ?_ | refine guard_f (by decide) ?_)
  refine guard_t (beq_self_eq_true _) ?_
  repeat (first | refine guard_t rfl ?_ | refine guard_f (by decide) ?_)
  refine call_h (l23 x t F2 (id := 3) hRF rfl hxF hlF) ?_
  repeat (first | refine guard_t rfl ?_ | refine guard_f (by decide) ?_)
  refine call_h (l26 x t F2 (id := 3) hRF rfl hxF hlF) ?_
  repeat (first | refine guard_t rfl ?_ | refine guard_f (by decide) ?_)
  refine guard_t (beq_self_eq_true _) ?_
  repeat (first | refine guard_t rfl ?_ | refine guard_f (by decide) ?_)
  refine call_h (l24 x t F2 (id := 3) hRF rfl hxF hlF hts) ?_
  repeat (first | refine guard_t rfl ?_ | refine guard_f (by decide) ?_)
  refine call_h (l27 x t F2 (id := 3) hRF rfl hxF hlF hts) ?_
  repeat (first | refine guard_t rfl ?_ | refine guard_f (by decide) ?_)
  exact bool_eq (beq_self_eq_true _)

theorem tcNC1 (nl n1 : Option Bool) (own o1 : Bool) (l : List Form) (hl : l.length ≤ 9223372036854775807) (hfw : fewD l = true) (t : Int) (ht : t.tmod ((tables l).length : Nat) < 0) (row : List UInt8) (ha : row.length ≤ 12) (at_ : UInt8) (w : Va) (more : UInt8) (h2 : more.toNat % 4 = 2) : PCallN Tryd.prog 6 [.sl 2 nl own (l.map Form.c), .int .i64 t, .sl 1 n1 o1 (bs row), .int .u8 at_.toNat, w.av, .bool true, .int .u8 more.toNat] (.bool true) := by
  refine PCallN.of (tr [17, 18, 2000017, 2000018, 1000092, 1000096]) f6 (Nat.le_of_ble_eq_true rfl) (np_checks _ _ _ _ _ _ _) (.bool _) ?_
  refine call_p noughtsN ?_
  repeat (first | refine guard_t rfl ?_ | refine guard_f (by decide) ?_)
  refine call_p (fewN _ _ l hl) ?_
  rw [hfw]
  repeat (first | refine guard_t rfl ?_ | refine guard_f (by decide) ?_)
  refine cond_f (decide_eq_false (by rw [bs_len]; omega)) ?_
  refine call_p (tablesN _ _ l) ?_
  have hx := tables_len l
  have hx4 := tabN_le l
  refine And.intro (by rw [List.length_map]; omega) ?_
  have ha5 := at_.toNat_lt
  have hm5 := more.toNat_lt
  rw [List.length_map]
  refine cond_t (decide_eq_true ht) ?_
  have hlt : (t.tmod ((tables l).length : Nat)).natAbs < (tables l).length := by
    rw [Int.natAbs_tmod, Int.natAbs_natCast]
    exact Nat.mod_lt _ (by omega)
  have hk : IntKind.i64.wrap (0 - t.tmod ((tables l).length : Nat)) = ((t.tmod ((tables l).length : Nat)).natAbs : Int) := by
    rw [i64_in _ (by omega)]
    omega
  generalize (t.tmod ((tables l).length : Nat)).natAbs = k at hk hlt
  obtain ⟨m, hm1, hm2, hm3, hm4⟩ := tabAt_ok l k
  have hkd := tabAt_kinds l k
  rw [← tables_get l k hlt] at hm1 hm3 hm4 hkd
  have hk4 : k < 4 := by omega
  have hts := tables_ks l
  clear ht
  generalize tables l = x at hlt hm1 hm3 hm4 hkd hts hk ⊢
  have ix : ∀ {K : List AV → Prop}, K x[k].c → (3 = 3 ∧ 0 ≤ (k : Int) ∧ ∃ c, (x.map Tab.c)[((k : Nat) : Int).toNat]? = some c ∧ K c) := fun h => ⟨rfl, Int.natCast_nonneg k, _, map_get hlt, h⟩
  have lF : (fitL x[k].cs (x[k].cs.map Col.c).length row).length = x[k].cs.length := by rw [fitL_len, List.length_map]; omega
  have lK : (fitL x[k].cs m row).length = m := by rw [fitL_len]; omega
  have cF : chkT x (k : Int) (fitL x[k].cs (x[k].cs.map Col.c).length row) = 0 := by
    have := fit_chk x[k].cs hkd (x[k].cs.map Col.c).length (by rw [List.length_map]; exact Nat.le_refl _) row
    rw [List.take_of_length_le (by rw [List.length_map]; exact Nat.le_refl _)] at this
    rw [chkT_at x k hlt, this]
  have cK : chkK x (k : Int) (fitL x[k].cs m row) = 0 := by
    rw [chkK_at x k hlt, hm1, Int.toNat_natCast]
    exact fit_chk x[k].cs hkd m hm3 row
  have tF := (fitN x[k] (x[k].cs.map Col.c).length n1 false row (by omega)).thaw rfl (by rw [List.length_map]; omega) (va_flat _)
  have tK := (fitN x[k] m n1 false row (by omega)).thaw rfl (by rw [List.length_map]; omega) (va_flat _)
  generalize fitL x[k].cs (x[k].cs.map Col.c).length row = F at lF cF tF
  generalize fitL x[k].cs m row = K at lK cK tK
  have ix0 : ∀ {K : List AV → Prop}, K x[k].c → (3 = 3 ∧ 0 ≤ IntKind.i64.wrap (0 - t.tmod (x.length : Nat)) ∧ ∃ c, (x.map Tab.c)[(IntKind.i64.wrap (0 - t.tmod (x.length : Nat))).toNat]? = some c ∧ K c) := fun h => by rw [hk]; exact ix h
  refine ix0 ?_
  rw [hk]
  clear ix0
  refine ix ?_
  refine call_d tF ?_
  refine And.intro (by kernel_rfl) ?_
  refine ix ?_
  refine ix ?_
  rw [← hm1] at tK
  refine call_d tK ?_
  refine And.intro (by kernel_rfl) ?_
  have hRF : F.length ≤ 1000 := by omega
  have hRK : K.length ≤ 1000 := by omega
  have hlF : 0 + (F.map Va.c).length ≤ F.length := by rw [List.length_map]; omega
  have hlK : 0 + (K.map Va.c).length ≤ K.length := by rw [List.length_map]; omega
  have hxF : F.map Va.c = F.map Va.c := rfl
  have hxK : K.map Va.c = K.map Va.c := rfl
  have q1 := l23 x (k : Int) F (h := [.cells w.c, .arr 3 (F.map Va.c), .arr 3 (K.map Va.c)]) (id := 1) hRF rfl hxF hlF
  rw [cut_all, cF] at q1
  refine call_h q1 ?_
  repeat (first | refine guard_t rfl ?_ | refine guard_f (by decide) ?_)
  have q2 := l24 x (k : Int) K (h := [.cells w.c, .arr 3 (F.map Va.c), .arr 3 (K.map Va.c)]) (id := 2) hRK rfl hxK hlK hts
  rw [cut_all, cK] at q2
  refine call_h q2 ?_
  repeat (first | refine guard_t rfl ?_ | refine guard_f (by decide) ?_)
  refine cond_f rfl ?_
  clear q1 q2 hxF hxK cF cK tF tK
  refine And.intro (by decide) ?_
  refine cond_f (by show ((more.toNat : Int).tmod 4 == 1) = false; rw [rem4]; exact beq_eq_false_iff_ne.2 (by omega)) ?_
  refine And.intro (by decide) ?_
  refine cond_t (by show ((more.toNat : Int).tmod 4 == 2) = true; rw [rem4, h2]; rfl) ?_
  refine And.intro ⟨rfl, rfl, rfl, rfl, by rw [List.length_map]; omega⟩ (And.intro (.inl rfl) (And.intro ⟨by simp; omega, by simp; omega⟩ ?_))
  refine And.intro ⟨rfl, rfl, rfl, rfl, by rw [List.length_map]; omega⟩ (And.intro (.inl rfl) (And.intro ⟨by simp; omega, by simp; omega⟩ ?_))
  have eF : F.map Va.c ++ [[.int .u8 0, .int .i64 0, .str ⟨#[]⟩]] = (F ++ [(⟨0, 0, []⟩ : Va)]).map Va.c := by rw [List.map_append]; rfl
  have eK : K.map Va.c ++ [[.int .u8 0, .int .i64 0, .str ⟨#[]⟩]] = (K ++ [(⟨0, 0, []⟩ : Va)]).map Va.c := by rw [List.map_append]; rfl
  rw [eF, eK]
  have lF2 : (F ++ [(⟨0, 0, []⟩ : Va)]).length = F.length + 1 := by simp
  have lK2 : (K ++ [(⟨0, 0, []⟩ : Va)]).length = K.length + 1 := by simp
  generalize F ++ [(⟨0, 0, []⟩ : Va)] = F2 at lF2 ⊢
  generalize K ++ [(⟨0, 0, []⟩ : Va)] = K2 at lK2 ⊢
  have hRF : F2.length ≤ 1000 := by omega
  have hRK : K2.length ≤ 1000 := by omega
  have hlF : 0 + (F2.map Va.c).length ≤ F2.length := by rw [List.length_map]; omega
  have hlK : 0 + (K2.map Va.c).length ≤ K2.length := by rw [List.length_map]; omega
  repeat (first | refine guard_t rfl ?_ | refine guard_f (by decide) ?_)
  refine guard_t (decide_eq_true (by rw [List.length_map]; omega)) ?_
  rw [decide_eq_true (by rw [List.length_map]; omega)]
  repeat (first | refine guard_t rfl ?_ | refine guard_f (by decide) ?_)
  refine cond_t (decide_eq_true (by rw [List.length_map]; omega)) ?_
  refine call_p (ofN w) ?_
  generalize w.of = v
  refine And.intro (by decide) ?_
  refine cond_f (by show ((more.toNat : Int).tmod 4 == 3) = false; rw [rem4]; exact beq_eq_false_iff_ne.2 (by omega)) ?_
  have hzF : (((F2.map Va.c).length : Nat) : Int) ≠ 0 := by rw [List.length_map]; omega
  have hzK : (((K2.map Va.c).length : Nat) : Int) ≠ 0 := by rw [List.length_map]; omega
  have hmodF : (IntKind.i64.wrap (at_.toNat : Int)).tmod (((F2.map Va.c).length : Nat) : Int) = ((at_.toNat % F2.length : Nat) : Int) := by
    rw [i64_in _ (by omega), List.length_map, Int.tmod_eq_emod_of_nonneg (by omega)]
    omega
  have hmodK : (IntKind.i64.wrap (at_.toNat : Int)).tmod (((K2.map Va.c).length : Nat) : Int) = ((at_.toNat % K2.length : Nat) : Int) := by
    rw [i64_in _ (by omega), List.length_map, Int.tmod_eq_emod_of_nonneg (by omega)]
    omega
  have hiF0 : at_.toNat % F2.length < F2.length := Nat.mod_lt _ (by omega)
  have hiK : at_.toNat % K2.length < K2.length := Nat.mod_lt _ (by omega)
  generalize at_.toNat % F2.length = iF at hmodF hiF0
  generalize at_.toNat % K2.length = iK at hmodK hiK
  have hiF : iF < F2.length := by omega
  have hbF : (iF : Int) < (((F2.map Va.c).length : Nat) : Int) := by rw [List.length_map]; omega
  have hbK : (iK : Int) < (((K2.map Va.c).length : Nat) : Int) := by rw [List.length_map]; omega
  refine And.intro hzF ?_
  rw [hmodF]
  refine And.intro rfl (And.intro ⟨Int.natCast_nonneg _, hbF⟩ ?_)
  refine Exists.intro (0 + (iF : Int).toNat) (Exists.intro 0 (Exists.intro (F2[iF]'hiF).c (And.intro ⟨rfl, by decide, by decide⟩ (And.intro ?_ ?_))))
  · rw [show 0 + (iF : Int).toNat = iF by simp]; exact words_get hiF
  refine And.intro (by kernel_rfl) ?_
  refine And.intro hzK ?_
  rw [hmodK]
  refine And.intro rfl (And.intro ⟨Int.natCast_nonneg _, hbK⟩ ?_)
  refine Exists.intro (0 + (iK : Int).toNat) (Exists.intro 0 (Exists.intro (K2[iK]'hiK).c (And.intro ⟨rfl, by decide, by decide⟩ (And.intro ?_ ?_))))
  · rw [show 0 + (iK : Int).toNat = iK by simp]; exact words_get hiK
  refine And.intro (by kernel_rfl) ?_
  have hxF : (F2.map Va.c).set (0 + (iF : Int).toNat) (Va.c v) = (F2.set iF v).map Va.c := by rw [show 0 + (iF : Int).toNat = iF by simp, words_set]
  have hxK : (K2.map Va.c).set (0 + (iK : Int).toNat) (Va.c v) = (K2.set iK v).map Va.c := by rw [show 0 + (iK : Int).toNat = iK by simp, words_set]
  have hRF : (F2.set iF v).length ≤ 1000 := by rw [List.length_set]; omega
  have hRK : (K2.set iK v).length ≤ 1000 := by rw [List.length_set]; omega
  have hlF : 0 + (F2.map Va.c).length ≤ (F2.set iF v).length := by rw [List.length_set]; exact hlF
  have hlK : 0 + (K2.map Va.c).length ≤ (K2.set iK v).length := by rw [List.length_set]; exact hlK
  refine call_h (l23 x (k : Int) (F2.set iF v) (id := 3) hRF rfl hxF hlF) ?_
  repeat (first | refine guard_t rfl ?_ | refine guard_f (by decide) ?_)
  refine call_h (l26 x (k : Int) (F2.set iF v) (id := 3) hRF rfl hxF hlF) ?_
  repeat (first | refine guard_t rfl ?_ | refine guard_f (by decide) ?_)
  refine guard_t (beq_self_eq_true _) ?_
  repeat (first | refine guard_t rfl ?_ | refine guard_f (by decide) ?_)
  refine call_h (l24 x (k : Int) (K2.set iK v) (id := 4) hRK rfl hxK hlK hts) ?_
  repeat (first | refine guard_t rfl ?_ | refine guard_f (by decide) ?_)
  refine call_h (l27 x (k : Int) (K2.set iK v) (id := 4) hRK rfl hxK hlK hts) ?_
  repeat (first | refine guard_t rfl ?_ | refine guard_f (by decide) ?_)
  refine guard_t (beq_self_eq_true _) ?_
  repeat (first | refine guard_t rfl ?_ | refine guard_f (by decide) ?_)
  refine call_h (l23 x t (F2.set iF v) (id := 3) hRF rfl hxF hlF) ?_
  repeat (first | refine guard_t rfl ?_ | refine guard_f (by decide) ?_)
  refine call_h (l26 x t (F2.set iF v) (id := 3) hRF rfl hxF hlF) ?_
  repeat (first | refine guard_t rfl ?_ | refine guard_f (by decide) ?_)
  refine guard_t (beq_self_eq_true _) ?_
  repeat (first | refine guard_t rfl ?_ | refine guard_f (by decide) ?_)
  refine call_h (l24 x t (F2.set iF v) (id := 3) hRF rfl hxF hlF hts) ?_
  repeat (first | refine guard_t rfl ?_ | refine guard_f (by decide) ?_)
  refine call_h (l27 x t (F2.set iF v) (id := 3) hRF rfl hxF hlF hts) ?_
  repeat (first | refine guard_t rfl ?_ | refine guard_f (by decide) ?_)
  exact bool_eq (beq_self_eq_true _)

theorem tableChecksN (nl n1 : Option Bool) (own o1 : Bool) (l : List Form) (hl : l.length ≤ 9223372036854775807) (t : Int) (row : List UInt8) (at_ : UInt8) (w : Va) (odd : Bool) (more : UInt8) : PCallN Tryd.prog 6 [.sl 2 nl own (l.map Form.c), .int .i64 t, .sl 1 n1 o1 (bs row), .int .u8 at_.toNat, w.av, .bool odd, .int .u8 more.toNat] (.bool true) := by
  cases hf : fewD l with
  | false =>
    refine PCallN.of (tr []) f6 (Nat.le_of_ble_eq_true rfl) (np_checks _ _ _ _ _ _ _) (.bool _) ?_
    refine call_p noughtsN ?_
    repeat (first | refine guard_t rfl ?_ | refine guard_f (by decide) ?_)
    refine call_p (fewN _ _ l hl) ?_
    rw [hf]
    repeat (first | refine guard_t rfl ?_ | refine guard_f (by decide) ?_)
    refine cond_t rfl ?_
    refine call_p noughtsN ?_
    exact bool_eq rfl
  | true =>
    by_cases ha : row.length ≤ 12
    · by_cases ht : t.tmod ((tables l).length : Nat) < 0
      · cases odd with
        | false =>
          by_cases h1 : more.toNat % 4 = 1
          · exact tcNB0 nl n1 own o1 l hl hf t ht row ha at_ w more h1
          · by_cases h2 : more.toNat % 4 = 2
            · exact tcNC0 nl n1 own o1 l hl hf t ht row ha at_ w more h2
            · exact tcNA0 nl n1 own o1 l hl hf t ht row ha at_ w more h1 h2
        | true =>
          by_cases h1 : more.toNat % 4 = 1
          · by_cases hc : (tabAt l (t.tmod ((tables l).length : Nat)).natAbs).cs.length = 1
            · exact tcNB1k nl n1 own o1 l hl hf t ht row ha at_ w more h1 hc
            · exact tcNB1 nl n1 own o1 l hl hf t ht row ha at_ w more h1 hc
          · by_cases h2 : more.toNat % 4 = 2
            · exact tcNC1 nl n1 own o1 l hl hf t ht row ha at_ w more h2
            · by_cases h3 : more.toNat % 4 = 3
              · exact tcNA1k nl n1 own o1 l hl hf t ht row ha at_ w more h3
              · exact tcNA1 nl n1 own o1 l hl hf t ht row ha at_ w more h1 h2 h3
      · cases odd with
        | false =>
          by_cases h1 : more.toNat % 4 = 1
          · exact tcPB0 nl n1 own o1 l hl hf t ht row ha at_ w more h1
          · by_cases h2 : more.toNat % 4 = 2
            · exact tcPC0 nl n1 own o1 l hl hf t ht row ha at_ w more h2
            · exact tcPA0 nl n1 own o1 l hl hf t ht row ha at_ w more h1 h2
        | true =>
          by_cases h1 : more.toNat % 4 = 1
          · by_cases hc : (tabAt l (t.tmod ((tables l).length : Nat)).natAbs).cs.length = 1
            · exact tcPB1k nl n1 own o1 l hl hf t ht row ha at_ w more h1 hc
            · exact tcPB1 nl n1 own o1 l hl hf t ht row ha at_ w more h1 hc
          · by_cases h2 : more.toNat % 4 = 2
            · exact tcPC1 nl n1 own o1 l hl hf t ht row ha at_ w more h2
            · by_cases h3 : more.toNat % 4 = 3
              · exact tcPA1k nl n1 own o1 l hl hf t ht row ha at_ w more h3
              · exact tcPA1 nl n1 own o1 l hl hf t ht row ha at_ w more h1 h2 h3
    · refine PCallN.of (tr []) f6 (Nat.le_of_ble_eq_true rfl) (np_checks _ _ _ _ _ _ _) (.bool _) ?_
      refine call_p noughtsN ?_
      repeat (first | refine guard_t rfl ?_ | refine guard_f (by decide) ?_)
      refine call_p (fewN _ _ l hl) ?_
      rw [hf]
      repeat (first | refine guard_t rfl ?_ | refine guard_f (by decide) ?_)
      refine cond_t (decide_eq_true (by rw [bs_len]; omega)) ?_
      refine call_p noughtsN ?_
      exact bool_eq rfl

end Go.Proofs.YtmjdoonaidolkaaDoor.V
