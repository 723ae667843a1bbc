/-
  Rows that are written and asked about: the boxes are lent; rows that fit are right.
-/
import Derived.Test.YtmjdoonaidolkaaDoorGa
import Derived.Test.YtmjdoonaidolkaaDoorFc

/- Tables: what the reference makes of forms. -/
namespace Go.Proofs.YtmjdoonaidolkaaDoor.V
open Go.IntWalk Go.Lib

structure Col where
  n : List UInt8
  k : UInt8
  b : Bool
  deriving DecidableEq, Inhabited
def Col.c (x : Col) : List AV := [.str (st x.n), .int .u8 x.k.toNat, .bool x.b]

structure Tab where
  n : List UInt8
  cs : List Col
  ks : Int
  deriving DecidableEq, Inhabited
def Tab.c (t : Tab) : List AV := [.str (st t.n), .sl 3 none false (t.cs.map Col.c), .int .i64 t.ks]

structure Form where
  nl : Bool
  cs : List UInt8
  ks : UInt8
  deriving Inhabited
def Form.c (f : Form) : List AV := [.sl 1 (some f.nl) false (bs f.cs), .int .u8 f.ks.toNat]

theorem Col.np {ok : Nat → Prop} (x : Col) : ∀ a, a ∈ x.c → NP ok a := np_cons (.str _) (np_cons (.int _ _) (np_cons (.bool _) np_nil))
theorem np_cols {ok : Nat → Prop} {sz : Nat} {nl : Option Bool} {own : Bool} (l : List Col) : NP ok (.sl sz nl own (l.map Col.c)) := by
  refine .sl _ _ _ _ fun x hx a ha => ?_
  obtain ⟨w, _, rfl⟩ := List.mem_map.1 hx
  exact w.np a ha
theorem Tab.np {ok : Nat → Prop} (t : Tab) : ∀ a, a ∈ t.c → NP ok a := np_cons (.str _) (np_cons (np_cols _) (np_cons (.int _ _) np_nil))
theorem np_tabs {ok : Nat → Prop} {sz : Nat} {nl : Option Bool} {own : Bool} (l : List Tab) : NP ok (.sl sz nl own (l.map Tab.c)) := by
  refine .sl _ _ _ _ fun x hx a ha => ?_
  obtain ⟨w, _, rfl⟩ := List.mem_map.1 hx
  exact w.np a ha
theorem Form.np {ok : Nat → Prop} (f : Form) : ∀ a, a ∈ f.c → NP ok a := np_cons (np_bs _) (np_cons (.int _ _) np_nil)
theorem np_forms {ok : Nat → Prop} {sz : Nat} {nl : Option Bool} {own : Bool} (l : List Form) : NP ok (.sl sz nl own (l.map Form.c)) := by
  refine .sl _ _ _ _ fun x hx a ha => ?_
  obtain ⟨w, _, rfl⟩ := List.mem_map.1 hx
  exact w.np a ha

theorem map_get {α : Type} {f : α → List AV} {l : List α} {i : Nat} (h : i < l.length) : (l.map f)[i]? = some (f l[i]) := by simp [h]

/-! ### few -/

def fewD (l : List Form) : Bool := (l.all fun f => decide (f.cs.length ≤ 10)) && decide (l.length ≤ 6)

def fwAt (l : List Form) (i : Nat) : List (Nat × AV) := [(0, .sl 2 none false (l.map Form.c)), (3, .int .i64 i)]

/-! ### columns -/

def nmOf (i : Nat) : List UInt8 := [116, u8of (48 + i)]
def preC (cs : List UInt8) (j : Nat) : Col := ⟨[u8of (97 + j)], 1 + (cs.getD j 0) % 2, false⟩
def finC (cs : List UInt8) (ks : Nat) (j : Nat) : Col := ⟨[u8of (97 + j)], 1 + (cs.getD j 0) % 2, decide (ks ≤ j) && decide (2 ≤ (cs.getD j 0) % 4)⟩

def colN (cs : List UInt8) : Nat := min 8 cs.length
def keyNo (cs : List UInt8) (ks : UInt8) : Nat := 1 + ks.toNat % (if cs = [] then 1 else colN cs)
def tabOf (nm : List UInt8) (cs : List UInt8) (ks : UInt8) : Tab :=
  if cs = [] then ⟨nm, [⟨[97], 1, false⟩], 1⟩ else ⟨nm, (List.range (colN cs)).map (finC cs (keyNo cs ks)), keyNo cs ks⟩

def bx0 (cs : List UInt8) (ks : UInt8) : HObj := .cells [.sl 1 none false (bs cs), .int .u8 ks.toNat]
def preL (cs : List UInt8) (k : Nat) : List (List AV) := ((List.range k).map (preC cs)).map Col.c
def nulL (cs : List UInt8) (ks n k : Nat) : List (List AV) := ((List.range n).map fun j => if j < k then finC cs ks j else preC cs j).map Col.c

def tbAt (l : List Form) (acc : List Tab) (i k : Nat) : List (Nat × AV) := [(0, .sl 2 none false (l.map Form.c)), (3, .sl 3 none true (acc.map Tab.c)), (4, .int .i64 i), (5, .ptr (some (0, 0))), (6, .ptr (some (1, 0))), (7, .int .i64 k)]

def tbO (l : List Form) (acc : List Tab) (i : Nat) : List (Nat × AV) := [(0, .sl 2 none false (l.map Form.c)), (3, .sl 3 none true (acc.map Tab.c)), (4, .int .i64 i), (5, .ptr (some (0, 0))), (6, .ptr (some (1, 0)))]

def trT : Nat → Bool := tr [2, 3, 108, 111, 112, 1000054, 1000069]

theorem kind_val (c : UInt8) : IntKind.u8.wrap (1 + ((c.toNat : Int).tmod 2)) = ((1 + c % 2 : UInt8).toNat : Int) := by
  rw [w_u8, Int.tmod_eq_emod_of_nonneg (by omega)]
  have h5 := c.toNat_lt
  simp only [UInt8.toNat_add, UInt8.toNat_mod]
  have e1 : (1 : UInt8).toNat = 1 := rfl
  have e2 : (2 : UInt8).toNat = 2 := rfl
  rw [e1, e2]
  omega

theorem name_val (k : Nat) (h : k < 100) : IntKind.u8.wrap (IntKind.i64.wrap (97 + (k : Int))) = ((u8of (97 + (k : Int))).toNat : Int) := by
  rw [i64_in _ (by omega), u8of_toNat]

theorem name_val48 (k : Nat) (h : k < 100) : IntKind.u8.wrap (IntKind.i64.wrap (48 + (k : Int))) = ((u8of (48 + (k : Int))).toNat : Int) := by
  rw [i64_in _ (by omega), u8of_toNat]

theorem tb1 (l : List Form) (acc : List Tab) (i : Nat) (nm : List UInt8) (cs : List UInt8) (ks : UInt8) (R : VE → Sy → Prop)
    (hR : R (.exit 2) ⟨[], tbO l acc i, [bx0 cs ks, .cells [.str (st nm), .bsl 3 2 0 (preL cs (colN cs)).length, .int .i64 1], .arr 3 (preL cs (colN cs))]⟩) :
    ∀ (g k : Nat), k + g = colN cs → 1 ≤ k → VloopS Tryd.prog trT 113 0 c12b1 (exS R) ⟨[], tbAt l acc i k, [bx0 cs ks, .cells [.str (st nm), .xsl 3 (preL cs k), .int .i64 1]]⟩
  | 0, k, hg, h1 => by
    have hn : colN cs = min 8 cs.length := rfl
    have hk : k = colN cs := by omega
    have hq := hR
    rw [← hk] at hq
    refine VloopS.round ?_
    by_cases hc : cs.length ≤ 8
    · have hlt : decide ((k : Int) < (bs cs).length) = false := decide_eq_false (by rw [bs_len]; omega)
      refine guard_f (by rw [hlt]; decide) ?_
      repeat (first | refine guard_t rfl ?_ | refine guard_f (by decide) ?_)
      refine cond_f rfl ?_
      exact ex_s ((ShiftS.openCell (i := 1) (c1 := [.str (st nm)]) (c3 := [.int .i64 1]) rfl).trans (ShiftS.wk (tbO l acc i) ⟨.wk _ _ (.refl _), .wk _ _ (.refl _), .wk _ _ (.refl _), .wk _ _ (.refl _), .wk _ _ (.refl _), trivial⟩)) hq
    · have hlt : decide ((k : Int) < (bs cs).length) = true := decide_eq_true (by rw [bs_len]; omega)
      refine guard_t hlt ?_
      repeat (first | refine guard_t rfl ?_ | refine guard_f (by decide) ?_)
      refine cond_f (decide_eq_false (by omega)) ?_
      exact ex_s ((ShiftS.openCell (i := 1) (c1 := [.str (st nm)]) (c3 := [.int .i64 1]) rfl).trans (ShiftS.wk (tbO l acc i) ⟨.wk _ _ (.refl _), .wk _ _ (.refl _), .wk _ _ (.refl _), .wk _ _ (.refl _), .wk _ _ (.refl _), trivial⟩)) hq
  | g + 1, k, hg, h1 => by
    have hn : colN cs = min 8 cs.length := rfl
    have hkl : k < cs.length := by omega
    refine VloopS.round ?_
    have hlt : decide ((k : Int) < (bs cs).length) = true := decide_eq_true (by rw [bs_len]; omega)
    refine guard_t hlt ?_
    repeat (first | refine guard_t rfl ?_ | refine guard_f (by decide) ?_)
    refine cond_t (decide_eq_true (by omega)) ?_
    refine cond_f (beq_eq_false_iff_ne.2 (by omega)) ?_
    refine Exists.intro [u8of (97 + k)] (And.intro ?_ ?_)
    · rw [name_val k (by omega)]; exact toBytes_bs [u8of (97 + k)]
    refine And.intro rfl (And.intro (Int.natCast_nonneg k) (Exists.intro _ (And.intro (bs_get hkl) ?_)))
    refine And.intro (by decide) ?_
    have hpl : (preL cs k).length = k := by simp [preL]
    refine And.intro rfl (And.intro (.inl rfl) (And.intro ?_ ?_))
    · rw [hpl, List.length_singleton]; omega
    refine And.intro (by kernel_rfl) ?_
    have hs : preL cs k ++ [[AV.str (st [u8of (97 + (k : Int))]), .int .u8 (IntKind.u8.wrap (1 + ((cs[k].toNat : Int).tmod 2))), .bool false]] = preL cs (k + 1) := by
      have hgd : cs.getD k 0 = cs[k] := by rw [List.getD_eq_getElem?_getD, List.getElem?_eq_getElem hkl]; rfl
      have : preL cs (k + 1) = preL cs k ++ [(preC cs k).c] := by simp [preL, List.range_succ]
      rw [this]
      congr 2
      simp only [Col.c, preC, hgd, kind_val]
    refine VloopS.shift (σ' := ⟨[], tbAt l acc i (k + 1), [bx0 cs ks, .cells [.str (st nm), .xsl 3 (preL cs (k + 1)), .int .i64 1]]⟩) ?_ (Nat.zero_le _) (tb1 l acc i nm cs ks R hR g (k + 1) (by omega) (by omega))
    rw [← hs]
    exact ShiftS.fz (fun _ => none) ⟨.wk _ _ (.refl _), .wk _ _ (.refl _), .wk _ _ (.refl _), .wk _ _ (.refl _), .wk _ _ (.refl _), .wk _ _ (.eq (int_eq (by rw [i64_in _ (by omega)]; omega))), trivial⟩ (.same _ _ _ _ rfl (.same _ _ _ _ rfl (.nil _))) (fun _ _ _ h => by cases h)

def colA : Col := ⟨[97], 1, false⟩

theorem tb1all (l : List Form) (acc : List Tab) (i : Nat) (nm : List UInt8) (cs : List UInt8) (ks : UInt8) (R : VE → Sy → Prop)
    (hE : cs = [] → R (.exit 2) ⟨[], tbO l acc i, [bx0 cs ks, .cells [.str (st nm), .sl 3 none false [colA.c], .int .i64 1]]⟩)
    (hN : cs ≠ [] → R (.exit 2) ⟨[], tbO l acc i, [bx0 cs ks, .cells [.str (st nm), .bsl 3 2 0 (preL cs (colN cs)).length, .int .i64 1], .arr 3 (preL cs (colN cs))]⟩) :
    VloopS Tryd.prog trT 113 0 c12b1 (exS R) ⟨[], tbAt l acc i 0, [bx0 cs ks, .cells [.str (st nm), .sl 3 none false [colA.c], .int .i64 1]]⟩ := by
  have hn : colN cs = min 8 cs.length := rfl
  by_cases hcs : cs = []
  · refine VloopS.round ?_
    have h3 : decide (((0 : Nat) : Int) < ((bs cs).length : Nat)) = false := decide_eq_false (by rw [bs_len, hcs]; decide)
    refine guard_f (by rw [h3]; decide) ?_
    repeat (first | refine guard_t rfl ?_ | refine guard_f (by decide) ?_)
    refine cond_f rfl ?_
    exact ex_s (ShiftS.wk (tbO l acc i) ⟨.wk _ _ (.refl _), .wk _ _ (.refl _), .wk _ _ (.refl _), .wk _ _ (.refl _), .wk _ _ (.refl _), trivial⟩) (hE hcs)
  · have hkl : 0 < cs.length := by
      rcases Nat.eq_zero_or_pos cs.length with h | h
      · exact absurd (List.eq_nil_of_length_eq_zero h) hcs
      · exact h
    refine VloopS.round ?_
    have hlt : decide (((0 : Nat) : Int) < (bs cs).length) = true := decide_eq_true (by rw [bs_len]; omega)
    refine guard_t hlt ?_
    repeat (first | refine guard_t rfl ?_ | refine guard_f (by decide) ?_)
    refine cond_t rfl ?_
    refine cond_t rfl ?_
    refine Exists.intro [u8of (97 + (0 : Nat))] (And.intro ?_ ?_)
    · exact toBytes_bs [u8of (97 + (0 : Nat))]
    refine And.intro rfl (And.intro (Int.natCast_nonneg 0) (Exists.intro _ (And.intro (bs_get hkl) ?_)))
    refine And.intro (by decide) ?_
    refine And.intro rfl (And.intro (.inl rfl) (And.intro (by simp) (And.intro (by simp) ?_)))
    refine And.intro (by kernel_rfl) ?_
    have hs : [[AV.str (st [u8of (97 + ((0 : Nat) : Int))]), AV.int .u8 (IntKind.u8.wrap ((1 : Int) + ((cs[0].toNat : Int).tmod 2))), AV.bool false]] = preL cs (0 + 1) := by
      have hgd : cs.getD 0 0 = cs[0] := by rw [List.getD_eq_getElem?_getD, List.getElem?_eq_getElem hkl]; rfl
      rw [kind_val]
      simp only [preL, List.range_succ, List.range_zero, List.nil_append, List.map_cons, List.map_nil, Col.c, preC, hgd]
    refine VloopS.shift (σ' := ⟨[], tbAt l acc i (0 + 1), [bx0 cs ks, .cells [.str (st nm), .xsl 3 (preL cs (0 + 1)), .int .i64 1]]⟩) ?_ (Nat.zero_le _) (tb1 l acc i nm cs ks R (hN hcs) (colN cs - 1) (0 + 1) (by omega) (by omega))
    rw [← hs]
    exact ShiftS.fz (fun _ => none) ⟨.wk _ _ (.refl _), .wk _ _ (.refl _), .wk _ _ (.refl _), .wk _ _ (.refl _), .wk _ _ (.refl _), .wk _ _ (.refl _), trivial⟩ (.same _ _ _ _ rfl (.same _ _ _ _ rfl (.nil _))) (fun _ _ _ h => by cases h)

def tb0At (l : List Form) (acc : List Tab) (i k : Nat) : List (Nat × AV) := [(0, .sl 2 none false (l.map Form.c)), (3, .sl 3 none true (acc.map Tab.c)), (4, .int .i64 i), (5, .ptr (some (0, 0))), (6, .ptr (some (1, 0))), (8, .int .i64 k)]

def tbOut (l : List Form) (acc : List Tab) (i : Nat) : List (Nat × AV) := [(0, .sl 2 none false (l.map Form.c)), (3, .sl 3 none true (acc.map Tab.c)), (4, .int .i64 i), (6, .ptr (some (1, 0)))]

theorem nulL_len (cs : List UInt8) (ks n k : Nat) : (nulL cs ks n k).length = n := by simp [nulL]

theorem nulL_get {cs : List UInt8} {ks n k : Nat} (h : k < n) : (nulL cs ks n k)[k]? = some (preC cs k).c := by
  simp [nulL, h]

theorem nulL_set {cs : List UInt8} {ks n k : Nat} (h : k < n) : (nulL cs ks n k).set k (finC cs ks k).c = nulL cs ks n (k + 1) := by
  unfold nulL
  rw [← List.map_set]
  congr 1
  refine List.ext_getElem? fun j => ?_
  rw [List.getElem?_set]
  by_cases e : k = j
  · subst e
    simp [h]
  · rw [if_neg e]
    simp only [List.getElem?_map]
    by_cases hj : j < n
    · rw [List.getElem?_range hj]
      simp only [Option.map_some, Option.some.injEq]
      by_cases h2 : j < k
      · rw [if_pos h2, if_pos (by omega)]
      · rw [if_neg h2, if_neg (by omega)]
    · rw [List.getElem?_eq_none (by simpa using hj)]; rfl

theorem nul_first (cs : List UInt8) (ks n : Nat) : nulL cs ks n ks = preL cs n := by
  unfold nulL preL
  congr 1
  refine List.map_congr_left fun j _ => ?_
  split
  · rename_i h
    simp only [finC, preC, Col.mk.injEq, true_and]
    rw [decide_eq_false (by omega)]
    rfl
  · rfl

theorem nul_last (cs : List UInt8) (ks n : Nat) : nulL cs ks n n = ((List.range n).map (finC cs ks)).map Col.c := by
  unfold nulL
  congr 1
  refine List.map_congr_left fun j hj => ?_
  rw [if_pos (by simpa using hj)]

theorem null_val (c : UInt8) : decide (((c.toNat : Int).tmod 4) ≥ 2) = decide (2 ≤ c % 4) := by
  rw [Int.tmod_eq_emod_of_nonneg (by omega), decide_eq_decide]
  have h5 := c.toNat_lt
  rw [UInt8.le_iff_toNat_le, UInt8.toNat_mod]
  have e1 : (4 : UInt8).toNat = 4 := rfl
  have e2 : (2 : UInt8).toNat = 2 := rfl
  rw [e1, e2]
  omega

theorem tb0 (l : List Form) (acc : List Tab) (i : Nat) (nm : List UInt8) (cs : List UInt8) (ks : UInt8) (kn : Nat) (R : VE → Sy → Prop)
    (hR : R (.exit 4) ⟨[], tbOut l acc i, [bx0 cs ks, .cells [.str (st nm), .sl 3 none false (nulL cs kn (colN cs) (colN cs)), .int .i64 kn], .ro []]⟩) :
    ∀ (g k : Nat), k + g = colN cs → kn ≤ k → VloopS Tryd.prog trT 113 0 c12b0 (exS R) ⟨[], tb0At l acc i k, [bx0 cs ks, .cells [.str (st nm), .bsl 3 2 0 (colN cs), .int .i64 kn], .arr 3 (nulL cs kn (colN cs) k)]⟩
  | 0, k, hg, h1 => by
    have hn : colN cs = min 8 cs.length := rfl
    have hk : k = colN cs := by omega
    have hq := hR
    refine VloopS.round ?_
    have hlt : decide ((k : Int) < (colN cs : Nat)) = false := decide_eq_false (by omega)
    refine guard_f (by rw [hlt]; decide) ?_
    repeat (first | refine guard_t rfl ?_ | refine guard_f (by decide) ?_)
    refine cond_f rfl ?_
    refine ex_s (ShiftS.fz (fzOf [(2, 3, nulL cs kn (colN cs) (colN cs))]) (l := tbOut l acc i) ⟨.wk _ _ (.refl _), .wk _ _ (.refl _), .wk _ _ (.refl _), .wk _ _ (.refl _), trivial⟩
      (.same _ _ _ _ rfl (.cells _ _ _ _ _ rfl (.cons _ _ _ _ (.wk _ _ (.refl _)) (.cons _ _ _ _ (wkf_bsl rfl (by rw [nulL_len]; omega) ?_) (WkFL.of _))) (.fz _ _ _ _ _ (by rw [hk]; rfl) (.nil _)))) ?_) hq
    · rw [List.drop_zero, List.take_of_length_le (by rw [nulL_len]; exact Nat.le_refl _)]
    · intro j sz xs h
      obtain ⟨rfl, rfl, rfl⟩ := fzOf_one h
      rw [hk]; rfl
  | g + 1, k, hg, h1 => by
    have hn : colN cs = min 8 cs.length := rfl
    have hkl : k < cs.length := by omega
    refine VloopS.round ?_
    have hlt : decide ((k : Int) < (colN cs : Nat)) = true := decide_eq_true (by omega)
    refine guard_t hlt ?_
    rw [hlt]
    repeat (first | refine guard_t rfl ?_ | refine guard_f (by decide) ?_)
    refine cond_t (decide_eq_true (by rw [bs_len]; omega)) ?_
    refine And.intro rfl (And.intro (Int.natCast_nonneg k) (Exists.intro _ (And.intro (bs_get hkl) ?_)))
    refine And.intro (by decide) ?_
    refine And.intro rfl (And.intro ⟨Int.natCast_nonneg _, by omega⟩ ?_)
    refine Exists.intro (0 + (k : Int).toNat) (Exists.intro 2 (Exists.intro (preC cs k).c (And.intro ⟨rfl, by decide, by decide⟩ (And.intro ?_ ?_))))
    · rw [Nat.zero_add, Int.toNat_natCast]; exact nulL_get (by omega)
    refine And.intro (by kernel_rfl) ?_
    have hset : (nulL cs kn (colN cs) k).set (0 + (k : Int).toNat) (splice (preC cs k).c 2 [.bool (decide (((cs[k].toNat : Int).tmod 4) ≥ 2))]) = nulL cs kn (colN cs) (k + 1) := by
      have hgd : cs.getD k 0 = cs[k] := by rw [List.getD_eq_getElem?_getD, List.getElem?_eq_getElem hkl]; rfl
      rw [Nat.zero_add, Int.toNat_natCast, ← nulL_set (by omega)]
      congr 1
      show [_, _, _] = _
      simp only [finC, preC, Col.c, hgd, null_val]
      rw [decide_eq_true h1, Bool.true_and]
    refine VloopS.shift (σ' := ⟨[], tb0At l acc i (k + 1), [bx0 cs ks, .cells [.str (st nm), .bsl 3 2 0 (colN cs), .int .i64 kn], .arr 3 (nulL cs kn (colN cs) (k + 1))]⟩) ?_ (Nat.zero_le _) (tb0 l acc i nm cs ks kn R hR g (k + 1) (by omega) (by omega))
    rw [← hset]
    exact ShiftS.fz (fun _ => none) ⟨.wk _ _ (.refl _), .wk _ _ (.refl _), .wk _ _ (.refl _), .wk _ _ (.refl _), .wk _ _ (.refl _), .wk _ _ (.eq (int_eq (by rw [i64_in _ (by omega)]; omega))), trivial⟩ (.same _ _ _ _ rfl (.same _ _ _ _ rfl (.same _ _ _ _ rfl (.nil _)))) (fun _ _ _ h => by cases h)

def tabAt (l : List Form) (i : Nat) : Tab := match l[i]? with
  | some f => tabOf (nmOf i) f.cs f.ks
  | none => tabOf (nmOf i) [] 0

def tabN (l : List Form) : Nat := max 1 (min 4 l.length)
def tables (l : List Form) : List Tab := (List.range (tabN l)).map (tabAt l)

def tbLo (l : List Form) (acc : List Tab) (i : Nat) : List (Nat × AV) := [(0, .sl 2 none false (l.map Form.c)), (3, .sl 3 none true (acc.map Tab.c)), (4, .int .i64 i)]

theorem tbLo_np (l : List Form) (acc : List Tab) (i : Nat) : ∀ p, p ∈ tbLo l acc i → NP (fun i => i < ([] : List HObj).length) p.2 := by
  intro p hp
  simp only [tbLo, List.mem_cons, List.not_mem_nil, or_false] at hp
  rcases hp with rfl | rfl | rfl
  · exact np_forms _
  · exact np_tabs _
  · exact .int _ _

theorem key_mod (a n : Nat) (ha : a < 256) : IntKind.i64.wrap (1 + (IntKind.i64.wrap (a : Int)).tmod (n : Int)) = ((1 + a % n : Nat) : Int) := by
  rw [i64_in (a : Int) (by omega), Int.tmod_eq_emod_of_nonneg (by omega)]
  have := Nat.mod_le a n
  rw [i64_in _ (by omega)]
  omega

theorem tbLoop (l : List Form) (R : VE → Sy → Prop) (hR : R (.exit 0) ⟨[], [(3, .sl 3 none true ((tables l).map Tab.c))], []⟩) :
    ∀ (g i : Nat), i + g = tabN l → VloopS Tryd.prog trT 113 0 c12b2 (exW 113 R) ⟨[], tbLo l ((List.range i).map (tabAt l)) i, []⟩
  | 0, i, hg => by
    have hn : tabN l = max 1 (min 4 l.length) := rfl
    have hi : i = tabN l := by omega
    refine VloopS.round ?_
    by_cases h4 : i < 4
    · have h1 : decide ((i : Int) < 4) = true := decide_eq_true (by omega)
      refine guard_t h1 ?_
      repeat (first | refine guard_t rfl ?_ | refine guard_f (by decide) ?_)
      have h2 : decide ((i : Int) < (l.map Form.c).length) = false := decide_eq_false (by rw [List.length_map]; omega)
      refine guard_t h2 ?_
      rw [h2]
      repeat (first | refine guard_t rfl ?_ | refine guard_f (by decide) ?_)
      refine cond_f (beq_eq_false_iff_ne.2 (by omega)) ?_
      refine ex_w hR rfl ⟨.eq (sl_eq ?_), trivial⟩ rfl
      rw [hi]; rfl
    · have h1 : decide ((i : Int) < 4) = false := decide_eq_false (by omega)
      refine guard_f (by rw [h1]; decide) ?_
      repeat (first | refine guard_t rfl ?_ | refine guard_f (by decide) ?_)
      refine cond_f rfl ?_
      refine ex_w hR rfl ⟨.eq (sl_eq ?_), trivial⟩ rfl
      rw [hi]; rfl
  | g + 1, i, hg => by
    have hn : tabN l = max 1 (min 4 l.length) := rfl
    refine VloopS.round ?_
    have h1 : decide ((i : Int) < 4) = true := decide_eq_true (by omega)
    refine guard_t h1 ?_
    repeat (first | refine guard_t rfl ?_ | refine guard_f (by decide) ?_)
    by_cases hl : i < l.length
    · have h2 : decide ((i : Int) < (l.map Form.c).length) = true := decide_eq_true (by rw [List.length_map]; omega)
      refine guard_f (by rw [h2]; decide) ?_
      repeat (first | refine guard_t rfl ?_ | refine guard_f (by decide) ?_)
      refine cond_t rfl ?_
      refine cond_t h2 ?_
      refine And.intro rfl (And.intro (Int.natCast_nonneg i) (Exists.intro _ (And.intro (map_get hl) ?_)))
      have htab : tabAt l i = tabOf (nmOf i) l[i].cs l[i].ks := by unfold tabAt; rw [List.getElem?_eq_getElem hl]
      refine Exists.intro (nmOf i) (And.intro ?_ ?_)
      · have e := name_val48 i (by omega)
        show toBytes [[AV.int .u8 116], [AV.int .u8 (IntKind.u8.wrap (IntKind.i64.wrap (48 + (i : Int))))]] = _
        rw [e]
        exact toBytes_bs (nmOf i)
      refine VloopS.shift (σ' := ⟨[], tbAt l ((List.range i).map (tabAt l)) i 0, [bx0 l[i].cs l[i].ks, .cells [.str (st (nmOf i)), .sl 3 none false [colA.c], .int .i64 1]]⟩)
        (ShiftS.fz (fun _ => none) ⟨.wk _ _ (.refl _), .wk _ _ (.refl _), .wk _ _ (.refl _), .wk _ _ (.refl _), .wk _ _ (.refl _), .wk _ _ (.refl _), trivial⟩ (.cells _ _ _ _ _ rfl (.cons _ _ _ _ (.wk _ _ (.nl _ _ _ _)) (WkFL.of _)) (.cells _ _ _ _ _ rfl (.cons _ _ _ _ (.wk _ _ (.refl _)) (.cons _ _ _ _ (.wk _ _ (.nl _ _ _ _)) (WkFL.of _))) (.nil _))) (fun _ _ _ h => by cases h)) (Nat.zero_le _) ?_
      refine VloopS.exS (tb1all l _ i (nmOf i) l[i].cs l[i].ks _ ?_ ?_)
      · intro hcs
        refine And.intro (by decide) ?_
        have hkey : IntKind.i64.wrap (1 + (IntKind.i64.wrap (l[i].ks.toNat : Int)).tmod ((1 : Nat) : Int)) = 1 := by
          have := key_mod l[i].ks.toNat 1 l[i].ks.toNat_lt
          rw [this, Nat.mod_one]; rfl
        refine VloopS.round ?_
        have h5 : decide (IntKind.i64.wrap (1 + (IntKind.i64.wrap (l[i].ks.toNat : Int)).tmod ((1 : Nat) : Int)) < ((1 : Nat) : Int)) = false := by rw [hkey]; decide
        refine guard_f (fun e => Bool.noConfusion (h5.symm.trans e)) ?_
        repeat (first | refine guard_t rfl ?_ | refine guard_f (by decide) ?_)
        refine cond_f rfl ?_
        have ht : tabAt l i = ⟨nmOf i, [colA], 1⟩ := by rw [htab]; unfold tabOf; rw [if_pos hcs]; rfl
        refine And.intro (.inl ⟨rfl, rfl⟩) (And.intro (.inl rfl) (And.intro (by simp only [List.length_map, List.length_range, List.length_cons, List.length_nil]; omega) ?_))
        refine VloopS.weakBox (l := tbLo l ((List.range (i + 1)).map (tabAt l)) (i + 1)) (h := []) (ex := _) rfl ⟨.refl _, .eq (sl_eq ?_), .eq (int_eq (by rw [i64_in _ (by omega)]; omega)), trivial⟩ rfl (Nat.zero_le _) (tbLo_np l _ (i + 1)) (by simp) (tbLoop l R hR g (i + 1) (by omega))
        rw [List.range_succ, List.map_append, List.map_append, List.map_cons, List.map_nil, ht]
        show _ ++ [[AV.str _, _, AV.int .i64 (IntKind.i64.wrap (1 + (IntKind.i64.wrap (l[i].ks.toNat : Int)).tmod ((1 : Nat) : Int)))]] = _
        rw [hkey]
        rfl
      · intro hcs
        have hkl : 0 < (l[i].cs).length := by
          rcases Nat.eq_zero_or_pos (l[i].cs).length with h | h
          · exact absurd (List.eq_nil_of_length_eq_zero h) hcs
          · exact h
        have hcn : colN (l[i].cs) = min 8 (l[i].cs).length := rfl
        have hpl : (preL (l[i].cs) (colN (l[i].cs))).length = colN (l[i].cs) := by simp [preL]
        refine And.intro (by rw [hpl]; omega) ?_
        have hkn : keyNo (l[i].cs) (l[i].ks) = 1 + (l[i].ks).toNat % colN (l[i].cs) := by unfold keyNo; rw [if_neg hcs]
        have hkey : IntKind.i64.wrap (1 + (IntKind.i64.wrap ((l[i].ks).toNat : Int)).tmod (((preL (l[i].cs) (colN (l[i].cs))).length : Nat) : Int)) = (keyNo (l[i].cs) (l[i].ks) : Nat) := by
          rw [hpl, key_mod (l[i].ks).toNat _ (l[i].ks).toNat_lt, hkn]
        have hlk := Nat.mod_lt (l[i].ks).toNat (show 0 < colN (l[i].cs) by omega)
        refine VloopS.shift (σ' := ⟨[], tb0At l ((List.range i).map (tabAt l)) i (keyNo (l[i].cs) (l[i].ks)), [bx0 (l[i].cs) (l[i].ks), .cells [.str (st (nmOf i)), .bsl 3 2 0 (colN (l[i].cs)), .int .i64 (keyNo (l[i].cs) (l[i].ks) : Nat)], .arr 3 (nulL (l[i].cs) (keyNo (l[i].cs) (l[i].ks)) (colN (l[i].cs)) (keyNo (l[i].cs) (l[i].ks)))]⟩) ?_ (Nat.zero_le _) ?_
        · have h2 : HObj.arr 3 (preL (l[i].cs) (colN (l[i].cs))) = HObj.arr 3 (nulL (l[i].cs) (keyNo (l[i].cs) (l[i].ks)) (colN (l[i].cs)) (keyNo (l[i].cs) (l[i].ks))) := by rw [nul_first]
          rw [← h2]
          exact ShiftS.fz (fun _ => none) ⟨.wk _ _ (.refl _), .wk _ _ (.refl _), .wk _ _ (.refl _), .wk _ _ (.refl _), .wk _ _ (.refl _), .wk _ _ (.eq (int_eq hkey)), trivial⟩ (.same _ _ _ _ rfl (.cells _ _ _ _ _ rfl (.cons _ _ _ _ (.wk _ _ (.refl _)) (.cons _ _ _ _ (.wk _ _ (.eq (by rw [hpl]))) (.cons _ _ _ _ (.wk _ _ (.eq (int_eq hkey))) .nil))) (.same _ _ _ _ rfl (.nil _)))) (fun _ _ _ h => by cases h)
        · refine VloopS.exS (tb0 l _ i (nmOf i) (l[i].cs) (l[i].ks) (keyNo (l[i].cs) (l[i].ks)) _ ?_ (colN (l[i].cs) - keyNo (l[i].cs) (l[i].ks)) (keyNo (l[i].cs) (l[i].ks)) (by omega) (Nat.le_refl _))
          have ht : tabAt l i = ⟨nmOf i, (List.range (colN (l[i].cs))).map (finC (l[i].cs) (keyNo (l[i].cs) (l[i].ks))), keyNo (l[i].cs) (l[i].ks)⟩ := by rw [htab]; unfold tabOf; rw [if_neg hcs]
          refine And.intro (.inl ⟨rfl, rfl⟩) (And.intro (.inl rfl) (And.intro (by simp only [List.length_map, List.length_range, List.length_cons, List.length_nil]; omega) ?_))
          refine VloopS.weakBox (l := tbLo l ((List.range (i + 1)).map (tabAt l)) (i + 1)) (h := []) (ex := _) rfl ⟨.refl _, .eq (sl_eq ?_), .eq (int_eq (by rw [i64_in _ (by omega)]; omega)), trivial⟩ rfl (Nat.zero_le _) (tbLo_np l _ (i + 1)) (by simp) (tbLoop l R hR g (i + 1) (by omega))
          rw [List.range_succ, List.map_append, List.map_append, List.map_cons, List.map_nil, ht]
          show _ ++ [[AV.str _, AV.sl 3 none false (nulL (l[i].cs) (keyNo (l[i].cs) (l[i].ks)) (colN (l[i].cs)) (colN (l[i].cs))), _]] = _
          rw [nul_last]
          rfl
    · have h2 : decide ((i : Int) < (l.map Form.c).length) = false := decide_eq_false (by rw [List.length_map]; omega)
      have hi0 : i = 0 := by omega
      refine guard_t h2 ?_
      rw [h2]
      repeat (first | refine guard_t rfl ?_ | refine guard_f (by decide) ?_)
      refine cond_t (by rw [hi0]; rfl) ?_
      refine cond_f h2 ?_
      have htab : tabAt l i = tabOf (nmOf i) [] 0 := by unfold tabAt; rw [List.getElem?_eq_none (by omega)]
      refine Exists.intro (nmOf i) (And.intro ?_ ?_)
      · have e := name_val48 i (by omega)
        show toBytes [[AV.int .u8 116], [AV.int .u8 (IntKind.u8.wrap (IntKind.i64.wrap (48 + (i : Int))))]] = _
        rw [e]
        exact toBytes_bs (nmOf i)
      refine VloopS.shift (σ' := ⟨[], tbAt l ((List.range i).map (tabAt l)) i 0, [bx0 ([] : List UInt8) (0 : UInt8), .cells [.str (st (nmOf i)), .sl 3 none false [colA.c], .int .i64 1]]⟩)
        (ShiftS.fz (fun _ => none) ⟨.wk _ _ (.refl _), .wk _ _ (.refl _), .wk _ _ (.refl _), .wk _ _ (.refl _), .wk _ _ (.refl _), .wk _ _ (.refl _), trivial⟩ (.cells _ _ _ _ _ rfl (.cons _ _ _ _ (.wk _ _ (.nil _ _ _ _ _ (by simp))) (WkFL.of _)) (.cells _ _ _ _ _ rfl (.cons _ _ _ _ (.wk _ _ (.refl _)) (.cons _ _ _ _ (.wk _ _ (.nl _ _ _ _)) (WkFL.of _))) (.nil _))) (fun _ _ _ h => by cases h)) (Nat.zero_le _) ?_
      refine VloopS.exS (tb1all l _ i (nmOf i) ([] : List UInt8) (0 : UInt8) _ ?_ ?_)
      · intro hcs
        refine And.intro (by decide) ?_
        have hkey : IntKind.i64.wrap (1 + (IntKind.i64.wrap ((0 : UInt8).toNat : Int)).tmod ((1 : Nat) : Int)) = 1 := by
          have := key_mod (0 : UInt8).toNat 1 (0 : UInt8).toNat_lt
          rw [this, Nat.mod_one]; rfl
        refine VloopS.round ?_
        have h5 : decide (IntKind.i64.wrap (1 + (IntKind.i64.wrap ((0 : UInt8).toNat : Int)).tmod ((1 : Nat) : Int)) < ((1 : Nat) : Int)) = false := by rw [hkey]; decide
        refine guard_f (fun e => Bool.noConfusion (h5.symm.trans e)) ?_
        repeat (first | refine guard_t rfl ?_ | refine guard_f (by decide) ?_)
        refine cond_f rfl ?_
        have ht : tabAt l i = ⟨nmOf i, [colA], 1⟩ := by rw [htab]; unfold tabOf; rw [if_pos hcs]; rfl
        refine And.intro (.inl ⟨rfl, rfl⟩) (And.intro (.inl rfl) (And.intro (by simp only [List.length_map, List.length_range, List.length_cons, List.length_nil]; omega) ?_))
        refine VloopS.weakBox (l := tbLo l ((List.range (i + 1)).map (tabAt l)) (i + 1)) (h := []) (ex := _) rfl ⟨.refl _, .eq (sl_eq ?_), .eq (int_eq (by rw [i64_in _ (by omega)]; omega)), trivial⟩ rfl (Nat.zero_le _) (tbLo_np l _ (i + 1)) (by simp) (tbLoop l R hR g (i + 1) (by omega))
        rw [List.range_succ, List.map_append, List.map_append, List.map_cons, List.map_nil, ht]
        show _ ++ [[AV.str _, _, AV.int .i64 (IntKind.i64.wrap (1 + (IntKind.i64.wrap ((0 : UInt8).toNat : Int)).tmod ((1 : Nat) : Int)))]] = _
        rw [hkey]
        rfl
      · intro hcs
        have hkl : 0 < (([] : List UInt8)).length := by
          rcases Nat.eq_zero_or_pos (([] : List UInt8)).length with h | h
          · exact absurd (List.eq_nil_of_length_eq_zero h) hcs
          · exact h
        have hcn : colN (([] : List UInt8)) = min 8 (([] : List UInt8)).length := rfl
        have hpl : (preL (([] : List UInt8)) (colN (([] : List UInt8)))).length = colN (([] : List UInt8)) := by simp [preL]
        refine And.intro (by rw [hpl]; omega) ?_
        have hkn : keyNo (([] : List UInt8)) ((0 : UInt8)) = 1 + ((0 : UInt8)).toNat % colN (([] : List UInt8)) := by unfold keyNo; rw [if_neg hcs]
        have hkey : IntKind.i64.wrap (1 + (IntKind.i64.wrap (((0 : UInt8)).toNat : Int)).tmod (((preL (([] : List UInt8)) (colN (([] : List UInt8)))).length : Nat) : Int)) = (keyNo (([] : List UInt8)) ((0 : UInt8)) : Nat) := by
          rw [hpl, key_mod ((0 : UInt8)).toNat _ ((0 : UInt8)).toNat_lt, hkn]
        have hlk := Nat.mod_lt ((0 : UInt8)).toNat (show 0 < colN (([] : List UInt8)) by omega)
        refine VloopS.shift (σ' := ⟨[], tb0At l ((List.range i).map (tabAt l)) i (keyNo (([] : List UInt8)) ((0 : UInt8))), [bx0 (([] : List UInt8)) ((0 : UInt8)), .cells [.str (st (nmOf i)), .bsl 3 2 0 (colN (([] : List UInt8))), .int .i64 (keyNo (([] : List UInt8)) ((0 : UInt8)) : Nat)], .arr 3 (nulL (([] : List UInt8)) (keyNo (([] : List UInt8)) ((0 : UInt8))) (colN (([] : List UInt8))) (keyNo (([] : List UInt8)) ((0 : UInt8))))]⟩) ?_ (Nat.zero_le _) ?_
        · have h2 : HObj.arr 3 (preL (([] : List UInt8)) (colN (([] : List UInt8)))) = HObj.arr 3 (nulL (([] : List UInt8)) (keyNo (([] : List UInt8)) ((0 : UInt8))) (colN (([] : List UInt8))) (keyNo (([] : List UInt8)) ((0 : UInt8)))) := by rw [nul_first]
          rw [← h2]
          exact ShiftS.fz (fun _ => none) ⟨.wk _ _ (.refl _), .wk _ _ (.refl _), .wk _ _ (.refl _), .wk _ _ (.refl _), .wk _ _ (.refl _), .wk _ _ (.eq (int_eq hkey)), trivial⟩ (.same _ _ _ _ rfl (.cells _ _ _ _ _ rfl (.cons _ _ _ _ (.wk _ _ (.refl _)) (.cons _ _ _ _ (.wk _ _ (.eq (by rw [hpl]))) (.cons _ _ _ _ (.wk _ _ (.eq (int_eq hkey))) .nil))) (.same _ _ _ _ rfl (.nil _)))) (fun _ _ _ h => by cases h)
        · refine VloopS.exS (tb0 l _ i (nmOf i) (([] : List UInt8)) ((0 : UInt8)) (keyNo (([] : List UInt8)) ((0 : UInt8))) _ ?_ (colN (([] : List UInt8)) - keyNo (([] : List UInt8)) ((0 : UInt8))) (keyNo (([] : List UInt8)) ((0 : UInt8))) (by omega) (Nat.le_refl _))
          have ht : tabAt l i = ⟨nmOf i, (List.range (colN (([] : List UInt8)))).map (finC (([] : List UInt8)) (keyNo (([] : List UInt8)) ((0 : UInt8)))), keyNo (([] : List UInt8)) ((0 : UInt8))⟩ := by rw [htab]; unfold tabOf; rw [if_neg hcs]
          refine And.intro (.inl ⟨rfl, rfl⟩) (And.intro (.inl rfl) (And.intro (by simp only [List.length_map, List.length_range, List.length_cons, List.length_nil]; omega) ?_))
          refine VloopS.weakBox (l := tbLo l ((List.range (i + 1)).map (tabAt l)) (i + 1)) (h := []) (ex := _) rfl ⟨.refl _, .eq (sl_eq ?_), .eq (int_eq (by rw [i64_in _ (by omega)]; omega)), trivial⟩ rfl (Nat.zero_le _) (tbLo_np l _ (i + 1)) (by simp) (tbLoop l R hR g (i + 1) (by omega))
          rw [List.range_succ, List.map_append, List.map_append, List.map_cons, List.map_nil, ht]
          show _ ++ [[AV.str _, AV.sl 3 none false (nulL (([] : List UInt8)) (keyNo (([] : List UInt8)) ((0 : UInt8))) (colN (([] : List UInt8))) (colN (([] : List UInt8)))), _]] = _
          rw [nul_last]
          rfl

end Go.Proofs.YtmjdoonaidolkaaDoor.V

/- Few forms; the tables made of them; rows that fit; a row's key. -/
namespace Go.Proofs.YtmjdoonaidolkaaDoor.V
open Go.IntWalk Go.Lib

theorem fwLoop (l : List Form) (hl : l.length ≤ 9223372036854775807) (R : VE → Sy → Prop) (hT : (l.all fun f => decide (f.cs.length ≤ 10)) = true → R (.exit 0) ⟨[], [(0, .sl 2 none false (l.map Form.c))], []⟩) (hF : (l.all fun f => decide (f.cs.length ≤ 10)) = false → R .ret ⟨[], [(2, .bool false)], []⟩) :
    ∀ (g i : Nat), i + g = l.length → ((l.take i).all fun f => decide (f.cs.length ≤ 10)) = true → VloopS Tryd.prog (tr []) 20 0 c11b0 (exW 20 R) ⟨[], fwAt l i, []⟩
  | 0, i, hg, he => by
    refine VloopS.round ?_
    refine cond_f (decide_eq_false (by rw [List.length_map]; omega)) ?_
    rw [List.take_of_length_le (by omega)] at he
    exact ex_w (hT he) rfl ⟨.refl _, trivial⟩ rfl
  | g + 1, i, hg, he => by
    have hlt : i < l.length := by omega
    refine VloopS.round ?_
    refine cond_t (decide_eq_true (by rw [List.length_map]; omega)) ?_
    refine And.intro rfl (And.intro (Int.natCast_nonneg i) (Exists.intro _ (And.intro (map_get hlt) ?_)))
    by_cases h : l[i].cs.length ≤ 10
    · refine cond_f (decide_eq_false (by rw [bs_len]; omega)) ?_
      refine VloopS.weakE (l := fwAt l (i + 1)) (h := []) rfl ⟨.refl _, .eq (int_eq ?_), trivial⟩ rfl (Nat.zero_le _) (fwLoop l hl R hT hF g (i + 1) (by omega) ?_)
      · rw [i64_in _ (by omega)]; omega
      · rw [take_snoc l i hlt, List.all_append, he]
        simp [h]
    · refine cond_t (decide_eq_true (by rw [bs_len]; omega)) ?_
      refine ex_w (hF ?_) rfl ⟨.refl _, trivial⟩ rfl
      rw [List.all_eq_false]
      exact ⟨l[i], List.getElem_mem hlt, by simpa using h⟩

theorem fewN (nl : Option Bool) (own : Bool) (l : List Form) (hl : l.length ≤ 9223372036854775807) : PCallN Tryd.prog 11 [.sl 2 nl own (l.map Form.c)] (.bool (fewD l)) := by
  refine PCallN.of (tr []) f11 (Nat.le_of_ble_eq_true rfl) (np_cons (np_forms _) np_nil) (.bool _) ?_
  refine VloopS.weakE (l := fwAt l 0) rfl ⟨.both _ _ _ _, .eq (int_eq rfl), trivial⟩ rfl (Nat.zero_le _) (VloopS.exW (fwLoop l hl _ ?_ ?_ l.length 0 (by omega) rfl))
  · intro h
    refine bool_eq ?_
    rw [fewD, h, Bool.true_and, decide_eq_decide, List.length_map]
    omega
  · intro h
    refine bool_eq ?_
    rw [fewD, h, Bool.false_and]

theorem tablesN (nl : Option Bool) (own : Bool) (l : List Form) : PCallN Tryd.prog 12 [.sl 2 nl own (l.map Form.c)] (.sl 3 none true ((tables l).map Tab.c)) := by
  refine PCallN.of trT f12 (Nat.le_of_ble_eq_true rfl) (np_cons (np_forms _) np_nil) (np_tabs _) ?_
  refine VloopS.weakE (l := tbLo l ((List.range 0).map (tabAt l)) 0) rfl ⟨.both _ _ _ _, .nil _ _ _ _ _ (by simp), .eq (int_eq rfl), trivial⟩ rfl (Nat.zero_le _) (VloopS.exW (tbLoop l _ ?_ (tabN l) 0 (by omega)))
  exact sl_eq rfl

/-! ### rows that fit -/

end Go.Proofs.YtmjdoonaidolkaaDoor.V

/- A row's key: the law TableRows. -/
namespace Go.Proofs.YtmjdoonaidolkaaDoor.V
open Go.IntWalk Go.Lib

theorem tabOf_ok (nm cs : List UInt8) (ks : UInt8) : ∃ m : Nat, (tabOf nm cs ks).ks = (m : Nat) ∧ 1 ≤ m ∧ m ≤ (tabOf nm cs ks).cs.length ∧ (tabOf nm cs ks).cs.length ≤ 8 := by
  unfold tabOf
  by_cases h : cs = []
  · rw [if_pos h]
    exact ⟨1, rfl, by decide, by simp, by simp⟩
  · rw [if_neg h]
    have h0 : cs.length ≠ 0 := fun e => h (List.eq_nil_of_length_eq_zero e)
    have hn : colN cs = min 8 cs.length := rfl
    have hk : keyNo cs ks = 1 + ks.toNat % colN cs := by unfold keyNo; rw [if_neg h]
    have hlt := Nat.mod_lt ks.toNat (show 0 < colN cs by omega)
    refine ⟨keyNo cs ks, rfl, by omega, ?_, ?_⟩
    · simp only [List.length_map, List.length_range]; omega
    · simp only [List.length_map, List.length_range]; omega

theorem tabAt_ok (l : List Form) (i : Nat) : ∃ m : Nat, (tabAt l i).ks = (m : Nat) ∧ 1 ≤ m ∧ m ≤ (tabAt l i).cs.length ∧ (tabAt l i).cs.length ≤ 8 := by
  unfold tabAt
  split
  · exact tabOf_ok _ _ _
  · exact tabOf_ok _ _ _

theorem tables_len (l : List Form) : (tables l).length = tabN l := by simp [tables]
theorem tabN_le (l : List Form) : 1 ≤ tabN l ∧ tabN l ≤ 4 := by unfold tabN; omega
theorem tables_get (l : List Form) (k : Nat) (h : k < (tables l).length) : (tables l)[k] = tabAt l k := by simp [tables]

end Go.Proofs.YtmjdoonaidolkaaDoor.V

/- May a row be, or a key: both answers. -/
namespace Go.Proofs.YtmjdoonaidolkaaDoor.V
open Go.IntWalk Go.Lib

end Go.Proofs.YtmjdoonaidolkaaDoor.V

/- May a row be, or a key: the reference's answers. -/
namespace Go.Proofs.YtmjdoonaidolkaaDoor.V
open Go.IntWalk Go.Lib

end Go.Proofs.YtmjdoonaidolkaaDoor.V

/- Rows that are written and asked about: the boxes are lent; rows that fit are right. -/
namespace Go.Proofs.YtmjdoonaidolkaaDoor.V
open Go.IntWalk Go.Lib

/-! ### a row that stands in a box is lent -/

theorem HFL.sameAll {id sz : Nat} {xs : List (List AV)} : ∀ (l : List HObj) (i : Nat), id < i → HFL (fzOf [(id, sz, xs)]) i l l
  | [], i, _ => .nil i
  | o :: r, i, h => .same i o r r (by simp [fzOf]; omega) (HFL.sameAll r (i + 1) (by omega))

theorem HFL.one {id sz : Nat} {xs : List (List AV)} : ∀ (l : List HObj) (i j : Nat), l[j]? = some (.arr sz xs) → id = i + j → ∃ l', HFL (fzOf [(id, sz, xs)]) i l l'
  | [], _, _, h, _ => by simp at h
  | o :: r, i, 0, h, e => by
    simp at h
    subst h
    exact ⟨_, .fz i sz xs r r (by simp [fzOf, e]) (HFL.sameAll r (i + 1) (by omega))⟩
  | o :: r, i, j + 1, h, e => by
    obtain ⟨l', h'⟩ := HFL.one (id := id) r (i + 1) j (by simpa using h) (by omega)
    exact ⟨_, .same i o r l' (by simp [fzOf]; omega) h'⟩

section
variable (x : List Tab) (t : Int) (R : List Va) {h : List HObj} {id o n : Nat} {xs : List (List AV)} (hR : R.length ≤ 1000) (hb : h[id]? = some (.arr 3 xs)) (hx : xs = R.map Va.c) (hle : o + n ≤ R.length)
include hR hb hx hle
end

/-! ### rows that fit -/

theorem k12 (b : UInt8) : 1 + b % 2 = 1 ∨ 1 + b % 2 = 2 := by
  have h2 : b.toNat % 2 = 0 ∨ b.toNat % 2 = 1 := by omega
  rcases h2 with h | h
  · refine .inl (UInt8.toNat_inj.1 ?_)
    rw [UInt8.toNat_add, UInt8.toNat_mod, show (2 : UInt8).toNat = 2 from rfl, h]; rfl
  · refine .inr (UInt8.toNat_inj.1 ?_)
    rw [UInt8.toNat_add, UInt8.toNat_mod, show (2 : UInt8).toNat = 2 from rfl, h]; rfl

theorem tabOf_kinds (nm cs : List UInt8) (ks : UInt8) : ∀ c, c ∈ (tabOf nm cs ks).cs → c.k = 1 ∨ c.k = 2 := by
  intro c hc
  unfold tabOf at hc
  split at hc
  · simp only [List.mem_singleton] at hc
    subst hc
    exact .inl rfl
  · obtain ⟨j, _, rfl⟩ := List.mem_map.1 hc
    exact k12 _

end Go.Proofs.YtmjdoonaidolkaaDoor.V
