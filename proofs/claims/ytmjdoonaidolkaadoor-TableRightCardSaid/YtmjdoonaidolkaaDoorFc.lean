/-
  A small logic of values over the model: a function's result out of a box: what the box owned is the result's own.
-/
import Derived.Test.YtmjdoonaidolkaaDoorFb
import Derived.IntWalk
import Derived.ProofKit
import Derived.Deep.Slices
import Derived.Carry
import Derived.Handed
import Derived.JoinedOf
import Derived.ChangeSame
import Derived.RowKit
import Derived.Lib.Bytealg
import Derived.Lay
import Derived.LaidMore
import Derived.MakeChecks

/- A small logic of values over the model, part 26: the weakest precondition of an operation, reckoned. -/
namespace Go.Proofs.YtmjdoonaidolkaaDoor.V

/-- What is there is handed on; else nothing holds. -/
def onSome {α : Type} (x : Option α) (K : α → Prop) : Prop :=
  match x with
  | some a => K a
  | none => False

theorem onSome_inv {α : Type} {x : Option α} {K : α → Prop} (h : onSome x K) : ∃ a, x = some a ∧ K a := by
  cases x with
  | none => exact h.elim
  | some a => exact ⟨a, rfl, h⟩

def onTrue (x : Bool) (K : Prop) : Prop :=
  match x with
  | true => K
  | false => False

theorem onTrue_inv {x : Bool} {K : Prop} (h : onTrue x K) : x = true ∧ K := by
  cases x with
  | false => exact h.elim
  | true => exact ⟨rfl, h⟩

/-! A value is reckoned before it is written: so a state never carries the states ahead of it. -/

def force1 (x : AV) (K : AV → Prop) : Prop :=
  match x with
  | .bool b => K (.bool b)
  | .int k n => K (.int k n)
  | .str s => K (.str s)
  | .sl sz nl own xs => K (.sl sz nl own xs)
  | .agg cs => K (.agg cs)
  | .tup vs => K (.tup vs)
  | .ptr p => K (.ptr p)
  | .rptr cs => K (.rptr cs)
  | .func f cap => K (.func f cap)
  | .iface t v => K (.iface t v)
  | .niliface => K .niliface
  | .nilfunc => K .nilfunc
  | .undef => K .undef
  | .bsl sz id off len => K (.bsl sz id off len)
  | .xsl sz xs => K (.xsl sz xs)
  | .fsl sz xs => K (.fsl sz xs)
  | .mp id => K (.mp id)

def forceL : List AV → (List AV → Prop) → Prop
  | [], K => K []
  | a :: l, K => force1 a fun a => forceL l fun l => K (a :: l)

theorem force1_inv {x : AV} {K : AV → Prop} (h : force1 x K) : K x := by cases x <;> exact h

theorem forceL_inv : ∀ {l : List AV} {K : List AV → Prop}, forceL l K → K l
  | [], _K, h => h
  | a :: l, K, h => forceL_inv (l := l) (K := fun l => K (a :: l)) (force1_inv (K := fun a => forceL l fun l => K (a :: l)) h)

def forceLL : List (List AV) → (List (List AV) → Prop) → Prop
  | [], K => K []
  | x :: l, K => forceL x fun x => forceLL l fun l => K (x :: l)

theorem forceLL_inv : ∀ {l : List (List AV)} {K : List (List AV) → Prop}, forceLL l K → K l
  | [], _K, h => h
  | x :: l, K, h => forceLL_inv (l := l) (K := fun l => K (x :: l)) (forceL_inv (K := fun x => forceLL l fun l => K (x :: l)) h)

/-- Arithmetic: of two numbers what stands there, and what must be so of them. -/
def wpInt (op : BinOp) (k : IntKind) (a b : Int) (K : AV → Prop) : Prop :=
  match op with
  | .quo => b ≠ 0 ∧ K (.int k (k.wrap (a.tdiv b)))
  | .rem => b ≠ 0 ∧ K (.int k (a.tmod b))
  | .add => K (.int k (k.wrap (a + b)))
  | .sub => K (.int k (k.wrap (a - b)))
  | .mul => K (.int k (k.wrap (a * b)))
  | .shl => False
  | .shr => False
  | .and => K (.int k (k.wrap (BitVec.ofInt k.bits a &&& BitVec.ofInt k.bits b).toNat))
  | .or => K (.int k (k.wrap (BitVec.ofInt k.bits a ||| BitVec.ofInt k.bits b).toNat))
  | .xor => K (.int k (k.wrap (BitVec.ofInt k.bits a ^^^ BitVec.ofInt k.bits b).toNat))
  | .andNot => K (.int k (k.wrap (BitVec.ofInt k.bits a &&& ~~~ BitVec.ofInt k.bits b).toNat))
  | .eql => K (.bool (a == b))
  | .neq => K (.bool (a != b))
  | .lss => K (.bool (decide (a < b)))
  | .leq => K (.bool (decide (a ≤ b)))
  | .gtr => K (.bool (decide (a > b)))
  | .geq => K (.bool (decide (a ≥ b)))

def wpBin (op : BinOp) (x y : AV) (K : AV → Prop) : Prop :=
  match x, y with
  | .int k a, .int k' b =>
    match op with
    | .shl => 0 ≤ b ∧ K (.int k (k.wrap (a * 2 ^ min b.toNat k.bits)))
    | .shr => 0 ≤ b ∧ K (.int k (a.fdiv (2 ^ min b.toNat k.bits)))
    | op => onTrue (decide (k = k')) (wpInt op k a b K)
  | .str a, .str b =>
    match op with
    | .add => a.size + b.size ≤ 9223372036854775807 ∧ K (.str (a ++ b))
    | op => onSome (vstr op a b) K
  | _, _ => False

theorem wpInt_inv {op : BinOp} {k : IntKind} {a b : Int} {K : AV → Prop} (h : wpInt op k a b K) : ∃ x, vint op k a b = some x ∧ K x := by
  cases op
  case quo => exact ⟨_, by simp only [vint]; rw [if_neg h.1], h.2⟩
  case rem => exact ⟨_, by simp only [vint]; rw [if_neg h.1], h.2⟩
  case shl => exact h.elim
  case shr => exact h.elim
  all_goals exact ⟨_, rfl, h⟩

theorem wpBin_inv {op : BinOp} {x y : AV} {K : AV → Prop} (h : wpBin op x y K) : ∃ a, vbin op x y = some a ∧ K a := by
  cases x <;> cases y <;> first | exact False.elim h | skip
  · rename_i k a k' b
    cases op
    case shl => exact ⟨_, by simp only [vbin]; rw [if_neg (by have := h.1; omega)], h.2⟩
    case shr => exact ⟨_, by simp only [vbin]; rw [if_neg (by have := h.1; omega)], h.2⟩
    all_goals
      obtain ⟨h1, h2⟩ := onTrue_inv h
      have e : k = k' := of_decide_eq_true h1
      subst e
      simp only [vbin, ↓reduceIte]
      exact wpInt_inv h2
  · rename_i a b
    cases op
    case add => exact ⟨_, by simp only [vbin, vstr]; rw [if_pos h.1], h.2⟩
    all_goals exact onSome_inv h

/-- What stands in one element. -/
def ldArr (c : List AV) (f : Nat) : Option Nat → Option AV
  | none => (c[f]?).map AV.strip
  | some n => if f + n ≤ c.length then some (.agg (AV.stripL ((c.drop f).take n))) else none

theorem ldArr_eq {xs : List (List AV)} {sz k f : Nat} {c : List AV} {g : Option Nat} {a : AV} (h : ∀ x, x ∈ xs → x.length = sz) (hc : xs[k]? = some c) (ha : ldArr c f g = some a) : ldCells xs.flatten (k * sz + f) g = some a := by
  have hkl : k < xs.length := by
    rcases Nat.lt_or_ge k xs.length with h' | h'
    · exact h'
    · simp [List.getElem?_eq_none h'] at hc
  have hsplit : xs = xs.take k ++ (c :: xs.drop (k + 1)) := by
    have hget : xs[k] = c := by rw [List.getElem?_eq_getElem hkl] at hc; exact Option.some.inj hc
    rw [← hget, ← List.drop_eq_getElem_cons hkl, List.take_append_drop]
  have hA : (xs.take k).flatten.length = k * sz := by
    rw [flatten_len (fun y hy => h y (List.mem_of_mem_take hy)), List.length_take, Nat.min_eq_left (by omega)]
  have hfl : xs.flatten = (xs.take k).flatten ++ (c ++ (xs.drop (k + 1)).flatten) := by
    conv => lhs; rw [hsplit]
    rw [List.flatten_append, List.flatten_cons]
  rw [hfl, ← hA]
  cases g with
  | none =>
    simp only [ldArr, Option.map_eq_some_iff] at ha
    obtain ⟨x, h1, rfl⟩ := ha
    have hf : f < c.length := by
      rcases Nat.lt_or_ge f c.length with h' | h'
      · exact h'
      · simp [List.getElem?_eq_none h'] at h1
    simp only [ldCells]
    rw [List.getElem?_append_right (by omega), List.getElem?_append_left (by omega), Nat.add_sub_cancel_left, h1]
    rfl
  | some n =>
    simp only [ldArr] at ha
    split at ha
    · rename_i hle
      cases ha
      simp only [ldCells]
      rw [if_pos (by simp only [List.length_append]; omega), List.drop_length_add_append, List.drop_append_of_le_length (by omega), List.take_append_of_le_length (by simp; omega)]
    · cases ha

/-- Of an operation that calls nobody: what must be so, and what follows of its value. -/
def wpEv (fl : Bool) (s : Nat → AV) (h : List HObj) (op : VOp) (K : AV → Option (Nat × HObj) → Prop) : Prop :=
  match op with
  | .mov x => K (if fl then rdX s x else (rdX s x).strip) none
  | .pick c a b => match rdX s c with
    | .bool t => match t with
      | true => K (rdX s a).strip none
      | false => K (rdX s b).strip none
    | _ => False
  | .alloc z => K (.ptr (some (h.length, 0))) (some (h.length, .cells z.cells))
  | .box x => onTrue (!(rdX s x).cells.isEmpty) (K (.ptr (some (h.length, 0))) (some (h.length, .cells (rdX s x).cells)))
  | .build z ps => onSome (putParts s z ps) fun l => K (.agg l) none
  | .bslice sz len z ps => onTrue (z.all AV.one) (onSome (putElems s sz (List.replicate len z) ps) fun l => forceLL l fun l => K (.sl sz (some false) true l) none)
  | .load g x => match rdX s x with
    | .ptr (some (i, off)) => match h[i]? with
      | some (.cells cs) => onSome (ldCells cs off g) fun a => K a none
      | some (.arr sz xs) => ∃ (k f : Nat) (c : List AV), (off = k * sz + f ∧ c.length = sz ∧ (∀ x, x ∈ xs → x.length = sz)) ∧ xs[k]? = some c ∧ onSome (ldArr c f g) fun a => K a none
      | some (.ro cs) => onSome (ldCells cs off g) fun a => K a none
      | _ => False
    | .rptr cs => onSome (ldCells cs 0 g) fun a => K a none
    | _ => False
  | .store n x v => match rdX s x with
    | .ptr (some (i, off)) => match h[i]? with
      | some (.cells cs) => onTrue (decide ((rdX s v).cells.length = n ∧ off + n ≤ cs.length) && (rdX s v).cells.all AV.one) (K .undef (some (i, .cells (splice cs off (rdX s v).cells))))
      | some (.arr sz xs) => onTrue (decide ((rdX s v).strip.cells.length = n) && (rdX s v).strip.cells.all AV.one) (forceL (rdX s v).strip.cells fun us => ∃ (k f : Nat) (c : List AV), (off = k * sz + f ∧ f + n ≤ sz ∧ n ≠ 0) ∧ xs[k]? = some c ∧ K .undef (some (i, .arr sz (xs.set k (splice c f us)))))
      | _ => False
    | _ => False
  | .nilck x => match rdX s x with
    | .ptr (some p) => K (.ptr (some p)) none
    | .rptr cs => K (.rptr cs) none
    | .func f l => K (.func f l) none
    | _ => False
  | .bin op x y => wpBin op (rdX s x) (rdX s y) fun a => K a none
  | .eqn k neq x y => onTrue (isCst y) (onSome (veqn k (rdX s x) (rdX s y)) fun b => K (.bool (if neq then !b else b)) none)
  | .eqv neq plan x y => match rdX s x, rdX s y with
    | .agg xs, .agg ys => onSome (veqs plan xs ys) fun b => K (.bool (if neq then !b else b)) none
    | _, _ => False
  | .un op x => match op, rdX s x with
    | .not, .bool b => K (.bool !b) none
    | .neg, .int k n => K (.int k (k.wrap (0 - n))) none
    | _, _ => False
  | .cvi k x => match rdX s x with
    | .int _ n => K (.int k (k.wrap n)) none
    | _ => False
  | .cvsb x => match rdX s x with
    | .str b => K (.sl 1 (some false) false (bytesAV b)) none
    | _ => False
  | .cvbs x => match rdX s x with
    | .sl _ _ _ xs => ∃ l, toBytes xs = some l ∧ K (.str ⟨l.toArray⟩) none
    | _ => False
  | .cvid x => match rdX s x with
    | .str b => K (.str b) none
    | _ => False
  | .ifc t x => K (.iface t (rdX s x).strip) none
  | .fn f caps => K (.func f (caps.map fun x => (rdX s x).strip)) none
  | .slstr x lo hi => match rdX s x with
    | .str b => onSome (vlow s lo) fun l => onSome (vhigh s b.size hi) fun u => (0 ≤ l ∧ l ≤ u ∧ u ≤ b.size) ∧ K (.str (b.extract l.toNat u.toNat)) none
    | _ => False
  | .slsl sz x lo hi => match rdX s x with
    | .sl sz' nl _ xs => onSome (vlow s lo) fun l => onSome (vhigh s xs.length hi) fun u => (sz' = sz ∨ xs.length = 0) ∧ (0 ≤ l ∧ l ≤ u ∧ u ≤ xs.length) ∧ K (.sl sz nl false ((xs.drop l.toNat).take (u.toNat - l.toNat))) none
    | .bsl sz' b o n => onSome (vlow s lo) fun l => onSome (vhigh s n hi) fun u => sz' = sz ∧ (0 ≤ l ∧ l ≤ u ∧ u ≤ n) ∧ (match fl with
      | true => match h[b]? with
        | some (.arr sz2 xs) => (sz2 = sz ∧ o + n ≤ xs.length) ∧ K (.sl sz (some false) false ((xs.drop (o + l.toNat)).take (u.toNat - l.toNat))) (some (b, .ro xs.flatten))
        | _ => False
      | false => K (.bsl sz b (o + l.toNat) (u.toNat - l.toNat)) none)
    | _ => False
  | .fld off x => match rdX s x with
    | .ptr (some (i, o)) => K (.ptr (some (i, o + off))) none
    | .rptr cs => K (.rptr (cs.drop off)) none
    | _ => False
  | .fldv off g x => match rdX s x with
    | .agg cs => onSome (ldCells cs off g) fun a => K a none
    | _ => False
  | .ixa sz x i => match rdX s x, rdX s i with
    | .sl sz' _ _ xs, .int _ n => sz' = sz ∧ 0 ≤ n ∧ ∃ c, xs[n.toNat]? = some c ∧ K (.rptr c) none
    | .bsl sz' b o m, .int _ n => sz' = sz ∧ (0 ≤ n ∧ n < m) ∧ K (.ptr (some (b, (o + n.toNat) * sz))) none
    | _, _ => False
  | .ixarr n sz x i => match rdX s x, rdX s i with
    | .ptr (some (b, o)), .int _ j => (0 ≤ j ∧ j < n) ∧ K (.ptr (some (b, o + j.toNat * sz))) none
    | _, _ => False
  | .ixs x i => match rdX s x, rdX s i with
    | .str b, .int _ n => 0 ≤ n ∧ ∃ c, b.data[n.toNat]? = some c ∧ K (.int .u8 c.toNat) none
    | _, _ => False
  | .ext x i => match rdX s x with
    | .tup vs => onSome (vs[i]?) fun a => K a.strip none
    | _ => False
  | .call _ _ => False
  | .lens x => match rdX s x with
    | .str b => K (.int .i64 b.size) none
    | _ => False
  | .lenl x => match rdX s x with
    | .sl _ _ _ xs => K (.int .i64 xs.length) none
    | .bsl _ _ _ n => K (.int .i64 n) none
    | _ => False
  | .app sz bytes x y => match rdX s x, rdX s y with
    | .sl sz' nl own xs, .sl sz2 _ _ ys => ((own = true ∧ sz' = sz) ∨ (nl = some true ∧ xs.length = 0)) ∧ (sz2 = sz ∨ ys.length = 0) ∧ ((xs.length + ys.length) * bytes ≤ 140737488355328 ∧ xs.length + ys.length ≤ 140737488355328) ∧
        K (.sl sz (if nl = some false then some false else none) true (xs ++ ys)) none
    | _, _ => False
  | .apps bytes x y => match rdX s x, rdX s y with
    | .sl sz' nl own xs, .str b => ((own = true ∧ sz' = 1) ∨ (nl = some true ∧ xs.length = 0)) ∧ ((xs.length + b.size) * bytes ≤ 140737488355328 ∧ xs.length + b.size ≤ 140737488355328) ∧
        K (.sl 1 (if nl = some false then some false else none) true (xs ++ bytesAV b)) none
    | _, _ => False
  | .mk sz bytes z n => match rdX s n with
    | .int .i64 k => onTrue (z.all AV.one) ((0 ≤ k ∧ k * bytes ≤ 140737488355328 ∧ k ≤ 140737488355328) ∧ (match fl with
      | true => K (.bsl sz h.length 0 k.toNat) (some (h.length, .arr sz (List.replicate k.toNat z)))
      | false => K (.sl sz (some false) true (List.replicate k.toNat z)) none))
    | _ => False
  | .eqb neq x y => match rdX s x, rdX s y with
    | .bool a, .bool b => match neq with
      | true => K (.bool (!(a == b))) none
      | false => K (.bool (a == b)) none
    | _, _ => False
  | .mm mx x y => match rdX s x, rdX s y with
    | .int k a, .int _ b => match mx with
      | true => K (.int k (if b > a then b else a)) none
      | false => K (.int k (if b < a then b else a)) none
    | _, _ => False
  | .cpy x y => match rdX s x, rdX s y with
    | .bsl sz b o n, .sl sz' _ _ ys => match h[b]? with
      | some (.arr sz2 xs) => (sz = 1 ∧ sz2 = 1) ∧ (sz' = 1 ∨ ys.length = 0) ∧ o + n ≤ xs.length ∧ K (.int .i64 (min ys.length n : Nat)) (some (b, .arr 1 (xs.take o ++ (ys.take n ++ xs.drop (o + min ys.length n)))))
      | _ => False
    | _, _ => False
  | .mkm => K (.mp h.length) (some (h.length, .map [] []))
  | .mget x k => match rdX s x with
    | .mp i => match h[i]? with
      | some (.map ks xs) => match rdX s k with
        | .str c => ∃ r, mfind c ks xs = some r ∧ K (.bool (r.getD false)) none
        | _ => False
      | _ => False
    | _ => False
  | .mset x k v => match rdX s x with
    | .mp i => match h[i]? with
      | some (.map ks xs) => match rdX s k, rdX s v with
        | .str c, .bool b => mfind c ks xs = some none ∧ K .undef (some (i, .map (ks ++ [.str c]) (xs ++ [.bool b])))
        | _, _ => False
      | _ => False
    | _ => False
  | .bad => False

theorem wpEv_sound {fl : Bool} {s : Nat → AV} {h : List HObj} {op : VOp} {K : AV → Option (Nat × HObj) → Prop} (hw : wpEv fl s h op K) : ∃ x b, ev fl s (fun i => h[i]?) h.length op = some (x, b) ∧ K x b := by
  cases op with
  | mov x => exact ⟨_, _, rfl, hw⟩
  | alloc z => exact ⟨_, _, rfl, hw⟩
  | ifc t x => exact ⟨_, _, rfl, hw⟩
  | fn f caps => exact ⟨_, _, rfl, hw⟩
  | call f l => exact hw.elim
  | bad => exact hw.elim
  | eqb neq x y =>
    simp only [wpEv, ev] at hw ⊢
    generalize rdX s x = v at hw ⊢
    generalize rdX s y = u at hw ⊢
    cases v <;> cases u <;> first | exact False.elim hw | skip
    cases neq <;> exact ⟨_, _, rfl, hw⟩
  | mm mx x y =>
    simp only [wpEv, ev] at hw ⊢
    generalize rdX s x = v at hw ⊢
    generalize rdX s y = u at hw ⊢
    cases v <;> cases u <;> first | exact False.elim hw | skip
    cases mx <;> exact ⟨_, _, rfl, hw⟩
  | box x =>
    simp only [wpEv, ev] at hw ⊢
    obtain ⟨h1, h2⟩ := onTrue_inv hw
    rw [if_neg (by simpa using h1)]
    exact ⟨_, _, rfl, h2⟩
  | build z ps =>
    simp only [wpEv, ev] at hw ⊢
    obtain ⟨l, h1, h2⟩ := onSome_inv hw
    rw [h1]
    exact ⟨_, _, rfl, h2⟩
  | bslice sz len z ps =>
    simp only [wpEv, ev] at hw ⊢
    obtain ⟨h0, h3⟩ := onTrue_inv hw
    obtain ⟨l, h1, h2⟩ := onSome_inv h3
    rw [h0, h1]
    exact ⟨_, _, rfl, forceLL_inv (K := fun l => K (.sl sz (some false) true l) none) h2⟩
  | bin op x y =>
    simp only [wpEv, ev] at hw ⊢
    obtain ⟨a, h1, h2⟩ := wpBin_inv hw
    rw [h1]
    exact ⟨_, _, rfl, h2⟩
  | eqn k neq x y =>
    simp only [wpEv, ev] at hw ⊢
    obtain ⟨h0, h3⟩ := onTrue_inv hw
    obtain ⟨b, h1, h2⟩ := onSome_inv h3
    rw [h0, h1]
    exact ⟨_, _, rfl, h2⟩
  | pick c a b =>
    simp only [wpEv, ev] at hw ⊢
    generalize rdX s c = vc at hw ⊢
    generalize rdX s a = va at hw ⊢
    generalize rdX s b = vb at hw ⊢
    cases vc with
    | bool t => cases t <;> cases va <;> cases vb <;> exact ⟨_, _, rfl, hw⟩
    | _ => exact hw.elim
  | load g x =>
    simp only [wpEv, ev] at hw ⊢
    generalize rdX s x = v at hw ⊢
    cases v with
    | ptr p =>
      cases p with
      | none => exact hw.elim
      | some p =>
        obtain ⟨i, off⟩ := p
        simp only at hw ⊢
        generalize h[i]? = o at hw ⊢
        cases o with
        | none => exact hw.elim
        | some o =>
          cases o with
          | cells cs =>
            obtain ⟨a, h1, h2⟩ := onSome_inv hw
            simp only [h1]
            exact ⟨_, _, rfl, h2⟩
          | arr sz xs =>
            obtain ⟨k, f, c, ⟨h1, h4, h5⟩, h2, h3⟩ := hw
            obtain ⟨a, h6, h7⟩ := onSome_inv h3
            have := ldArr_eq h5 h2 h6
            rw [← h1] at this
            simp only [this]
            exact ⟨_, _, rfl, h7⟩
          | ro cs =>
            obtain ⟨a, h1, h2⟩ := onSome_inv hw
            simp only [h1]
            exact ⟨_, _, rfl, h2⟩
          | glob _ _ => exact hw.elim
          | map _ _ => exact hw.elim
    | rptr cs =>
      obtain ⟨a, h1, h2⟩ := onSome_inv hw
      simp only [h1]
      exact ⟨_, _, rfl, h2⟩
    | _ => exact hw.elim
  | store n x v =>
    simp only [wpEv, ev] at hw ⊢
    generalize rdX s x = u at hw ⊢
    cases u with
    | ptr p =>
      cases p with
      | none => exact hw.elim
      | some p =>
        obtain ⟨i, off⟩ := p
        simp only at hw ⊢
        generalize h[i]? = o at hw ⊢
        cases o with
        | none => exact hw.elim
        | some o =>
          cases o with
          | cells cs =>
            obtain ⟨h1, h2⟩ := onTrue_inv hw
            simp only [Bool.and_eq_true, decide_eq_true_eq] at h1
            simp only
            rw [if_pos ⟨h1.1.1, h1.1.2, h1.2⟩]
            exact ⟨_, _, rfl, h2⟩
          | arr sz xs =>
            obtain ⟨h1, hw2⟩ := onTrue_inv hw
            obtain ⟨k, f, c, ⟨h2, h3, h4⟩, h5, h6⟩ := forceL_inv (K := fun us => ∃ (k f : Nat) (c : List AV), (off = k * sz + f ∧ f + n ≤ sz ∧ n ≠ 0) ∧ xs[k]? = some c ∧ K .undef (some (i, .arr sz (xs.set k (splice c f us))))) hw2
            simp only [Bool.and_eq_true, decide_eq_true_eq] at h1
            have hf : f < sz := by omega
            have e1 : off / sz = k := by rw [h2, Nat.mul_comm, Nat.mul_add_div (by omega), Nat.div_eq_of_lt hf, Nat.add_zero]
            have e2 : off % sz = f := by rw [h2, Nat.mul_comm, Nat.mul_add_mod, Nat.mod_eq_of_lt hf]
            simp only
            rw [e1, e2, if_pos ⟨h1.1, h3, h1.2⟩, h5]
            exact ⟨_, _, rfl, h6⟩
          | ro cs => exact hw.elim
          | glob _ _ => exact hw.elim
          | map _ _ => exact hw.elim
    | _ => exact hw.elim
  | nilck x =>
    simp only [wpEv, ev] at hw ⊢
    generalize rdX s x = v at hw ⊢
    cases v with
    | ptr p => cases p with
      | none => exact hw.elim
      | some p => exact ⟨_, _, rfl, hw⟩
    | rptr cs => exact ⟨_, _, rfl, hw⟩
    | func f l => exact ⟨_, _, rfl, hw⟩
    | _ => exact hw.elim
  | eqv neq plan x y =>
    simp only [wpEv, ev] at hw ⊢
    generalize rdX s x = v at hw ⊢
    generalize rdX s y = u at hw ⊢
    cases v <;> cases u <;> first | exact False.elim hw | skip
    obtain ⟨b, h1, h2⟩ := onSome_inv hw
    simp only [h1]
    exact ⟨_, _, rfl, h2⟩
  | un op x =>
    simp only [wpEv, ev] at hw ⊢
    generalize rdX s x = v at hw ⊢
    cases op <;> cases v <;> first | exact False.elim hw | exact ⟨_, _, rfl, hw⟩
  | cvi k x =>
    simp only [wpEv, ev] at hw ⊢
    generalize rdX s x = v at hw ⊢
    cases v <;> first | exact False.elim hw | exact ⟨_, _, rfl, hw⟩
  | cvsb x =>
    simp only [wpEv, ev] at hw ⊢
    generalize rdX s x = v at hw ⊢
    cases v <;> first | exact False.elim hw | exact ⟨_, _, rfl, hw⟩
  | cvid x =>
    simp only [wpEv, ev] at hw ⊢
    generalize rdX s x = v at hw ⊢
    cases v <;> first | exact False.elim hw | exact ⟨_, _, rfl, hw⟩
  | lens x =>
    simp only [wpEv, ev] at hw ⊢
    generalize rdX s x = v at hw ⊢
    cases v <;> first | exact False.elim hw | exact ⟨_, _, rfl, hw⟩
  | lenl x =>
    simp only [wpEv, ev] at hw ⊢
    generalize rdX s x = v at hw ⊢
    cases v <;> first | exact False.elim hw | exact ⟨_, _, rfl, hw⟩
  | cvbs x =>
    simp only [wpEv, ev] at hw ⊢
    generalize rdX s x = v at hw ⊢
    cases v <;> first | exact False.elim hw | skip
    obtain ⟨l, h1, h2⟩ := hw
    simp only [h1]
    exact ⟨_, _, rfl, h2⟩
  | slstr x lo hi =>
    simp only [wpEv, ev] at hw ⊢
    generalize rdX s x = v at hw ⊢
    cases v <;> first | exact False.elim hw | skip
    obtain ⟨l, h1, hw⟩ := onSome_inv hw
    obtain ⟨u, h2, h3, h4⟩ := onSome_inv hw
    simp only [h1, h2]
    rw [if_pos h3]
    exact ⟨_, _, rfl, h4⟩
  | slsl sz x lo hi =>
    simp only [wpEv, ev] at hw ⊢
    generalize rdX s x = v at hw ⊢
    cases v <;> first | exact False.elim hw | skip
    · obtain ⟨l, h1, hw⟩ := onSome_inv hw
      obtain ⟨u, h2, h5, h3, h4⟩ := onSome_inv hw
      simp only [h1, h2]
      rw [if_pos ⟨h5, h3⟩]
      exact ⟨_, _, rfl, h4⟩
    · obtain ⟨l, h1, hw⟩ := onSome_inv hw
      obtain ⟨u, h2, h5, h3, h4⟩ := onSome_inv hw
      simp only [h1, h2]
      rw [if_pos ⟨h5, h3⟩]
      cases fl with
      | false => exact ⟨_, _, rfl, h4⟩
      | true =>
        rename_i b o n _
        simp only at h4 ⊢
        generalize h[b]? = ob at h4 ⊢
        cases ob with
        | none => exact h4.elim
        | some ob =>
          cases ob with
          | arr sz2 xs =>
            simp only at h4 ⊢
            rw [if_pos h4.1]
            exact ⟨_, _, rfl, h4.2⟩
          | _ => exact h4.elim
  | cpy x y =>
    simp only [wpEv, ev] at hw ⊢
    generalize rdX s x = v at hw ⊢
    generalize rdX s y = u at hw ⊢
    cases v <;> cases u <;> first | exact False.elim hw | skip
    rename_i sz b o n sz' nl ow ys
    simp only at hw ⊢
    generalize h[b]? = ob at hw ⊢
    cases ob with
    | none => exact hw.elim
    | some ob =>
      cases ob with
      | arr sz2 xs =>
        simp only at hw ⊢
        obtain ⟨h1, h2, h3, h4⟩ := hw
        rw [if_pos ⟨h1.1, h1.2, h2, h3⟩]
        exact ⟨_, _, rfl, h4⟩
      | _ => exact hw.elim
  | mkm => exact ⟨_, _, rfl, hw⟩
  | mget x k =>
    simp only [wpEv, ev] at hw ⊢
    generalize rdX s x = v at hw ⊢
    generalize rdX s k = u at hw ⊢
    cases v <;> first | exact False.elim hw | skip
    rename_i i
    simp only at hw ⊢
    generalize h[i]? = ob at hw ⊢
    cases ob with
    | none => exact hw.elim
    | some ob =>
      cases ob with
      | map ks xs =>
        cases u <;> first | exact False.elim hw | skip
        simp only at hw ⊢
        obtain ⟨r, h1, h2⟩ := hw
        rw [h1]
        exact ⟨_, _, rfl, h2⟩
      | _ => exact hw.elim
  | mset x k z =>
    simp only [wpEv, ev] at hw ⊢
    generalize rdX s x = v at hw ⊢
    generalize rdX s k = u at hw ⊢
    generalize rdX s z = q at hw ⊢
    cases v <;> first | exact False.elim hw | skip
    rename_i i
    simp only at hw ⊢
    generalize h[i]? = ob at hw ⊢
    cases ob with
    | none => exact hw.elim
    | some ob =>
      cases ob with
      | map ks xs =>
        cases u <;> cases q <;> first | exact False.elim hw | skip
        simp only at hw ⊢
        obtain ⟨h1, h2⟩ := hw
        rw [h1]
        exact ⟨_, _, rfl, h2⟩
      | _ => exact hw.elim
  | fld off x =>
    simp only [wpEv, ev] at hw ⊢
    generalize rdX s x = v at hw ⊢
    cases v with
    | ptr p => cases p with
      | none => exact hw.elim
      | some p => exact ⟨_, _, rfl, hw⟩
    | rptr cs => exact ⟨_, _, rfl, hw⟩
    | _ => exact hw.elim
  | fldv off g x =>
    simp only [wpEv, ev] at hw ⊢
    generalize rdX s x = v at hw ⊢
    cases v <;> first | exact False.elim hw | skip
    obtain ⟨a, h1, h2⟩ := onSome_inv hw
    simp only [h1]
    exact ⟨_, _, rfl, h2⟩
  | ixa sz x i =>
    simp only [wpEv, ev] at hw ⊢
    generalize rdX s x = v at hw ⊢
    generalize rdX s i = u at hw ⊢
    cases v <;> cases u <;> first | exact False.elim hw | skip
    · obtain ⟨h0, h1, c, h2, h3⟩ := hw
      simp only
      rw [if_pos ⟨h0, h1⟩, h2]
      exact ⟨_, _, rfl, h3⟩
    · obtain ⟨h0, h1, h3⟩ := hw
      simp only
      rw [if_pos ⟨h0, h1⟩]
      exact ⟨_, _, rfl, h3⟩
  | ixarr n sz x i =>
    simp only [wpEv, ev] at hw ⊢
    generalize rdX s x = v at hw ⊢
    generalize rdX s i = u at hw ⊢
    cases v with
    | ptr p => cases p with
      | none => exact hw.elim
      | some p =>
        cases u <;> first | exact False.elim hw | skip
        simp only at hw ⊢
        rw [if_pos hw.1]
        exact ⟨_, _, rfl, hw.2⟩
    | _ => exact hw.elim
  | ixs x i =>
    simp only [wpEv, ev] at hw ⊢
    generalize rdX s x = v at hw ⊢
    generalize rdX s i = u at hw ⊢
    cases v <;> cases u <;> first | exact False.elim hw | skip
    obtain ⟨h0, c, h2, h3⟩ := hw
    simp only
    rw [if_pos h0, h2]
    exact ⟨_, _, rfl, h3⟩
  | ext x i =>
    simp only [wpEv, ev] at hw ⊢
    generalize rdX s x = v at hw ⊢
    cases v <;> first | exact False.elim hw | skip
    obtain ⟨a, h1, h2⟩ := onSome_inv hw
    simp only [h1]
    exact ⟨_, _, rfl, h2⟩
  | app sz bytes x y =>
    simp only [wpEv, ev] at hw ⊢
    generalize rdX s x = v at hw ⊢
    generalize rdX s y = u at hw ⊢
    cases v <;> cases u <;> first | exact False.elim hw | skip
    obtain ⟨h1, h2, ⟨h3, h4⟩, h5⟩ := hw
    simp only
    rw [if_pos h1, if_pos ⟨h2, h3, h4⟩]
    exact ⟨_, _, rfl, h5⟩
  | apps bytes x y =>
    simp only [wpEv, ev] at hw ⊢
    generalize rdX s x = v at hw ⊢
    generalize rdX s y = u at hw ⊢
    cases v <;> cases u <;> first | exact False.elim hw | skip
    obtain ⟨h1, ⟨h3, h4⟩, h5⟩ := hw
    simp only
    rw [if_pos h1, if_pos ⟨h3, h4⟩]
    exact ⟨_, _, rfl, h5⟩
  | mk sz bytes z n =>
    simp only [wpEv, ev] at hw ⊢
    generalize rdX s n = v at hw ⊢
    cases v with
    | int k j =>
      cases k <;> first | exact False.elim hw | skip
      obtain ⟨h1, h2, h3⟩ := onTrue_inv hw
      simp only
      rw [if_pos ⟨h2.1, h2.2.1, h2.2.2, h1⟩]
      cases fl <;> exact ⟨_, _, rfl, h3⟩
    | _ => exact hw.elim

end Go.Proofs.YtmjdoonaidolkaaDoor.V

/- A small logic of values over the model, part 27: states that are told slot by slot; the weakest precondition of code, reckoned. -/
namespace Go.Proofs.YtmjdoonaidolkaaDoor.V

/-- A state: what was written last stands first. -/
structure Sy where
  base : List AV
  ups : List (Nat × AV)
  h : List HObj

def look (t : Nat) (d : AV) : List (Nat × AV) → AV
  | [] => d
  | (i, a) :: r => match Nat.beq i t with
    | true => a
    | false => look t d r

def nthD : List AV → Nat → AV
  | [], _ => .undef
  | a :: _, 0 => a
  | _ :: r, n + 1 => nthD r n

def Sy.get (σ : Sy) (t : Nat) : AV := look t (nthD σ.base t) σ.ups

def Sy.rd (σ : Sy) : VX → AV
  | .tmp t => σ.get t
  | .cst a => a

def Sy.stripped (σ : Sy) : List Nat → List (Nat × AV) → List (Nat × AV)
  | [], l => l
  | i :: T, l => (i, (σ.get i).strip) :: σ.stripped T l

def Sy.app (σ : Sy) (dst : Option Nat) (d : SD) : Sy :=
  ⟨σ.base, match dst with
    | some t => (t, d.x) :: σ.stripped d.T σ.ups
    | none => σ.stripped d.T σ.ups, boxL d.b σ.h⟩

/-- The slots of N as a list. -/
def Sy.st (N : Nat) (σ : Sy) : St := ⟨(List.range N).map σ.get, σ.h⟩

def Sy.ok (N : Nat) (σ : Sy) : Prop := ∀ i, N ≤ i → σ.get i = .undef

theorem nthD_eq (l : List AV) (n : Nat) : nthD l n = l.getD n .undef := by
  induction l generalizing n with
  | nil => rfl
  | cons a r ih =>
    cases n with
    | zero => rfl
    | succ n => exact ih n

theorem look_cons (t : Nat) (d : AV) (i : Nat) (a : AV) (r : List (Nat × AV)) : look t d ((i, a) :: r) = if i = t then a else look t d r := by
  rw [look]
  by_cases h : i = t
  · rw [if_pos h, show Nat.beq i t = true from Nat.beq_eq.mpr h]
  · rw [if_neg h]
    have : Nat.beq i t = false := by
      cases hb : Nat.beq i t with
      | false => rfl
      | true => exact absurd (Nat.eq_of_beq_eq_true hb) h
    rw [this]

theorem Sy.st_length (N : Nat) (σ : Sy) : (σ.st N).t.length = N := by simp [Sy.st]

theorem Sy.st_getD {N : Nat} {σ : Sy} (h : σ.ok N) (i : Nat) : (σ.st N).t.getD i .undef = σ.get i := by
  rw [Sy.st, List.getD_eq_getElem?_getD, List.getElem?_map]
  rcases Nat.lt_or_ge i N with hi | hi
  · simp [List.getElem?_range hi]
  · rw [List.getElem?_eq_none (by simpa using hi), h i hi]; rfl

theorem Sy.st_fs {N : Nat} {σ : Sy} (h : σ.ok N) : (σ.st N).fs = ⟨σ.get, fun i => σ.h[i]?⟩ := FS.ext' (fun i => Sy.st_getD h i) (fun _ => rfl)

theorem Sy.rd_eq (σ : Sy) (x : VX) : σ.rd x = rdX σ.get x := by cases x <;> rfl

theorem look_stripped (σ : Sy) (d : AV) (t : Nat) (l : List (Nat × AV)) : ∀ (T : List Nat), look t d (σ.stripped T l) = if t ∈ T then (σ.get t).strip else look t d l
  | [] => by simp [Sy.stripped]
  | i :: T => by
    rw [Sy.stripped, look_cons, look_stripped σ d t l T]
    by_cases h : i = t
    · subst h; simp
    · have h2 : ¬ t = i := fun e => h e.symm
      simp [h, h2]

theorem Sy.app_get (σ : Sy) (dst : Option Nat) (d : SD) (i : Nat) : (σ.app dst d).get i = if dst = some i then d.x else if i ∈ d.T then (σ.get i).strip else σ.get i := by
  unfold Sy.app Sy.get
  cases dst with
  | none =>
    simp only [look_stripped]
    simp only [reduceCtorEq, ↓reduceIte]
    rfl
  | some t =>
    simp only [look_cons, look_stripped, Option.some.injEq]
    rfl

theorem Sy.app_ok {N : Nat} {σ : Sy} {dst : Option Nat} {d : SD} (h : σ.ok N) (hd : ∀ t, dst = some t → t < N) : (σ.app dst d).ok N := by
  intro i hi
  rw [Sy.app_get, if_neg, h i hi]
  · split <;> rfl
  · intro e
    have := hd i e
    omega

theorem St.ext' {a b : St} (h1 : a.t = b.t) (h2 : a.h = b.h) : a = b := by
  cases a; cases b
  simp only at h1 h2
  rw [h1, h2]

theorem Sy.app_st {N : Nat} {σ : Sy} {dst : Option Nat} {d : SD} (h : σ.ok N) (_hd : ∀ t, dst = some t → t < N) : (σ.st N).app dst d = (σ.app dst d).st N := by
  refine St.ext' (List.ext_getElem? fun i => ?_) rfl
  rcases Nat.lt_or_ge i N with hi | hi
  · have e1 : ((σ.app dst d).st N).t[i]? = some ((σ.app dst d).get i) := by
      simp [Sy.st, List.getElem?_range hi]
    have hl : i < ((σ.st N).app dst d).t.length := by rw [St.app_length, Sy.st_length]; exact hi
    have e2 : ((σ.st N).app dst d).t.getD i .undef = ((σ.st N).app dst d).t[i] := by rw [List.getD_eq_getElem?_getD, List.getElem?_eq_getElem hl]; rfl
    rw [e1, List.getElem?_eq_getElem hl, ← e2]
    congr 1
    rw [Sy.app_get]
    show (putL dst d.x (stripT d.T (σ.st N).t)).getD i .undef = _
    have hs : (stripT d.T (σ.st N).t).getD i .undef = if i ∈ d.T then (σ.get i).strip else σ.get i := by
      rw [stripT_getD, Sy.st_getD h]
    cases hdst : dst with
    | none => simp only [putL, reduceCtorEq, ↓reduceIte]; exact hs
    | some t =>
      simp only [putL, Option.some.injEq]
      rw [List.getD_eq_getElem?_getD, List.getElem?_set]
      by_cases hti : t = i
      · subst hti
        rw [if_pos rfl, if_pos rfl, if_pos (by rw [stripT_length, Sy.st_length]; exact hi)]
        rfl
      · rw [if_neg hti, if_neg hti, ← List.getD_eq_getElem?_getD]
        exact hs
  · rw [List.getElem?_eq_none (by rw [St.app_length, Sy.st_length]; exact hi), List.getElem?_eq_none (by rw [Sy.st_length]; exact hi)]

/-- What holds of a state's list. -/
def QS (N : Nat) (Q : VE → Sy → Prop) : VE → St → Prop := fun x S => ∃ σ : Sy, S = σ.st N ∧ σ.ok N ∧ Q x σ

def VloopS (P : Program) (L : Nat → Bool) (N h0 : Nat) (c : VC) (Q : VE → Sy → Prop) (σ : Sy) : Prop := σ.ok N → Vloop P L N h0 c (QS N Q) (σ.st N)

def nodupB : List Nat → Bool
  | [] => true
  | a :: l => !(l.any fun b => Nat.beq a b) && nodupB l

theorem nodupB_spec : ∀ {l : List Nat}, nodupB l = true → l.Nodup
  | [], _ => .nil
  | a :: l, h => by
    simp only [nodupB, Bool.and_eq_true, Bool.not_eq_true'] at h
    refine List.nodup_cons.2 ⟨fun hm => ?_, nodupB_spec h.2⟩
    have : l.any (fun b => Nat.beq a b) = true := List.any_eq_true.2 ⟨a, hm, Nat.beq_refl a⟩
    rw [h.1] at this
    cases this

/-- A contract that knows of no box, and arguments that know of none. -/
def PCallN (P : Program) (f : Nat) (args : List AV) (ret : AV) : Prop := (∀ a, a ∈ args → NP (fun _ => False) a) ∧ PCall P f args ret

/-- What a slot's Bool is, is known. -/
def Sy.know (σ : Sy) (t : Nat) (b : Bool) : Sy :=
  match σ with
  | ⟨base, ups, h⟩ => ⟨base, (t, .bool b) :: ups, h⟩

theorem Sy.know_get {σ : Sy} {t : Nat} {b : Bool} (h : σ.get t = .bool b) : (σ.know t b).get = σ.get := by
  funext i
  show look i (nthD σ.base i) ((t, .bool b) :: σ.ups) = σ.get i
  rw [look_cons]
  split
  · rename_i e
    rw [← e, h]
  · rfl

/-- The guard: done, or not. -/
def wpGuard (g : Option (Nat × Bool)) (σ : Sy) (on off : Sy → Prop) : Prop :=
  match g with
  | none => on σ
  | some (t, want) => match σ.get t with
    | .bool b => (b = want → on (σ.know t want)) ∧ (b ≠ want → off (σ.know t !want))
    | .tup [] => off σ
    | _ => False

/-- A call by contract. -/
def wpPC (P : Program) (σ : Sy) (f : VX) (args : List VX) (K : SD → Prop) : Prop :=
  match σ.rd f with
  | .func g [] => onTrue (nodupB (argTmps args)) (∃ ret, PCallN P g (args.map σ.rd) ret ∧ K ⟨argTmps args, ret, none⟩)
  | _ => False

def wpHC (P : Program) (σ : Sy) (f : VX) (args : List VX) (K : SD → List HObj → Prop) : Prop :=
  match σ.rd f with
  | .func g [] => onTrue (nodupB (argTmps args)) (∃ ret h', VCall P g (args.map σ.rd) σ.h ret h' ∧ K ⟨argTmps args, ret, none⟩ h')
  | _ => False

/-- A call that knows of one box: its first argument points to it. -/
def wpBC (P : Program) (σ : Sy) (f : VX) (args : List VX) (K : SD → Prop) : Prop :=
  match σ.rd f with
  | .func g [] => onTrue (nodupB (argTmps args)) (match args.map σ.rd with
    | .ptr (some (i, off)) :: rest => match σ.h[i]? with
      | some ob => ∃ ret ob', (∀ a, a ∈ rest → NP (fun _ => False) a) ∧ NPo (fun _ => False) ob ∧ NPo (fun _ => False) ob' ∧ NP (fun _ => False) ret ∧ VCall P g (.ptr (some (0, off)) :: rest) [ob] ret [ob'] ∧ K ⟨argTmps args, ret, some (i, ob')⟩
      | none => False
    | _ => False)
  | _ => False

def forceN (n : Nat) (K : Nat → Prop) : Prop :=
  match n with
  | 0 => K 0
  | 1 => K 1
  | 2 => K 2
  | 3 => K 3
  | 4 => K 4
  | 5 => K 5
  | 6 => K 6
  | 7 => K 7
  | 8 => K 8
  | 9 => K 9
  | 10 => K 10
  | 11 => K 11
  | 12 => K 12
  | 13 => K 13
  | 14 => K 14
  | 15 => K 15
  | n => K n

theorem forceN_inv {n : Nat} {K : Nat → Prop} (h : forceN n K) : K n := by
  unfold forceN at h
  split at h <;> exact h

def forceAV (x : AV) (K : AV → Prop) : Prop :=
  match x with
  | .agg cs => forceL cs fun cs => K (.agg cs)
  | .tup vs => forceL vs fun vs => K (.tup vs)
  | .iface t v => force1 v fun v => K (.iface t v)
  | .ptr (some (i, o)) => forceN i fun i => K (.ptr (some (i, o)))
  | .bsl sz i o n => forceN i fun i => K (.bsl sz i o n)
  | x => force1 x K

def forceT (σ : Sy) (ups : List (Nat × AV)) : List Nat → (List (Nat × AV) → Prop) → Prop
  | [], K => K ups
  | i :: T, K => force1 (σ.get i).strip fun a => forceT σ ups T fun l => K ((i, a) :: l)

def forceH : List HObj → (List HObj → Prop) → Prop
  | [], K => K []
  | o :: l, K => forceH l fun l => match o with
    | .cells cs => K (.cells cs :: l)
    | .map a b => K (.map a b :: l)
    | .arr sz xs => K (.arr sz xs :: l)
    | .ro cs => K (.ro cs :: l)
    | .glob g vs => K (.glob g vs :: l)

def forceB (b : Option (Nat × HObj)) (h : List HObj) (K : List HObj → Prop) : Prop :=
  match b with
  | none => K h
  | some (i, .cells cs) => forceL cs fun cs => forceH (boxL (some (i, .cells cs)) h) K
  | some (i, .map a b) => forceH (boxL (some (i, .map a b)) h) K
  | some (i, .arr sz xs) => forceH (boxL (some (i, .arr sz xs)) h) K
  | some (i, .ro cs) => forceH (boxL (some (i, .ro cs)) h) K
  | some (i, .glob g vs) => forceH (boxL (some (i, .glob g vs)) h) K

def wpPut (σ : Sy) (dst : Option Nat) (d : SD) (K : Sy → Prop) : Prop :=
  match σ with
  | ⟨base, ups, h⟩ => forceAV d.x fun x => forceT ⟨base, ups, h⟩ ups d.T fun l => forceB d.b h fun h =>
    match dst with
    | some t => K ⟨base, (t, x) :: l, h⟩
    | none => K ⟨base, l, h⟩

theorem forceAV_inv {x : AV} {K : AV → Prop} (h : forceAV x K) : K x := by
  cases x with
  | agg cs => exact forceL_inv (K := fun cs => K (.agg cs)) h
  | tup cs => exact forceL_inv (K := fun cs => K (.tup cs)) h
  | iface t v => exact force1_inv (K := fun v => K (.iface t v)) h
  | ptr p => cases p with
    | none => exact h
    | some p => 
      unfold forceAV at h
      exact forceN_inv (n := p.1) (K := fun i => K (.ptr (some (i, p.2)))) h
  | bsl sz i o n => exact forceN_inv (n := i) (K := fun i => K (.bsl sz i o n)) h
  | _ => exact h

theorem forceT_inv {σ : Sy} {ups : List (Nat × AV)} : ∀ {T : List Nat} {K : List (Nat × AV) → Prop}, forceT σ ups T K → K (σ.stripped T ups)
  | [], _K, h => h
  | i :: _T, K, h => forceT_inv (K := fun l => K ((i, (σ.get i).strip) :: l)) (force1_inv h)

theorem forceH_inv : ∀ {l : List HObj} {K : List HObj → Prop}, forceH l K → K l
  | [], K, h => h
  | o :: l, K, h => by
    have := forceH_inv (l := l) h
    cases o <;> exact this

theorem forceB_inv {b : Option (Nat × HObj)} {h : List HObj} {K : List HObj → Prop} (hh : forceB b h K) : K (boxL b h) := by
  match b with
  | none => exact hh
  | some (i, .cells cs) => exact forceH_inv (forceL_inv hh)
  | some (i, .map a b) => exact forceH_inv hh
  | some (i, .arr sz xs) => exact forceH_inv hh
  | some (i, .ro cs) => exact forceH_inv hh
  | some (i, .glob g vs) => exact forceH_inv hh

theorem wpPut_inv {σ : Sy} {dst : Option Nat} {d : SD} {K : Sy → Prop} (h : wpPut σ dst d K) : K (σ.app dst d) := by
  obtain ⟨base, ups, hp⟩ := σ
  unfold wpPut at h
  have h1 := forceAV_inv h
  have h2 := forceT_inv h1
  have h3 := forceB_inv h2
  unfold Sy.app
  cases dst <;> exact h3

/-- An operation in its other reading. -/
def wpEvx (s : Nat → AV) (h : List HObj) (op : VOp) (K : List Nat → AV → Option (Nat × HObj) → Prop) : Prop :=
  match op with
  | .ifc t x => match rdX s x with
    | .ptr (some (i, off)) => match h[i]? with
      | some (.cells cs) => onTrue (cs.all AV.one) (forceL ((AV.stripL cs).drop off) fun l => K [] (.iface t (.rptr l)) (some (i, .ro (AV.stripL cs))))
      | _ => False
    | _ => False
  | .bslice sz len z ps => onTrue (z.all AV.one) (onSome (putElems s sz (List.replicate len z) ps) fun l => forceLL l fun l => K [] (.fsl sz l) none)
  | .load g x => match rdX s x with
    | .ptr (some (i, off)) => match h[i]? with
      | some (.cells cs) => onSome (mvCells cs off g) fun r => K [] r.1 (some (i, .cells r.2))
      | _ => False
    | _ => False
  | .app sz bytes x y => match rdX s y with
    | .sl sz2 _ _ ys => match rdX s x with
      | .sl _ (some true) _ xs => xs.length = 0 ∧ (sz2 = sz ∨ ys.length = 0) ∧ 0 < ys.length ∧ (ys.length * bytes ≤ 140737488355328 ∧ ys.length ≤ 140737488355328) ∧ K [] (.xsl sz ys) none
      | .xsl sz' xs => match x with
        | .tmp t => sz' = sz ∧ (sz2 = sz ∨ ys.length = 0) ∧ ((xs.length + ys.length) * bytes ≤ 140737488355328 ∧ xs.length + ys.length ≤ 140737488355328) ∧ K [t] (.xsl sz (xs ++ ys)) none
        | _ => False
      | .bsl sz' i off n => match h[i]? with
        | some (.arr sz3 xs) => (sz' = sz ∧ sz3 = sz ∧ off = 0 ∧ n = xs.length ∧ 0 < n) ∧ (sz2 = sz ∨ ys.length = 0) ∧ ((xs.length + ys.length) * bytes ≤ 140737488355328 ∧ xs.length + ys.length ≤ 140737488355328) ∧ K [] (.xsl sz (xs ++ ys)) (some (i, .ro []))
        | _ => False
      | .fsl sz' xs => sz' = sz ∧ (sz2 = sz ∨ ys.length = 0) ∧ 0 < ys.length ∧ ((xs.length + ys.length) * bytes ≤ 140737488355328 ∧ xs.length + ys.length ≤ 140737488355328) ∧ K [] (.sl sz (some false) true (xs ++ ys)) none
      | _ => False
    | _ => False
  | _ => False

theorem wpEvx_sound {s : Nat → AV} {h : List HObj} {op : VOp} {K : List Nat → AV → Option (Nat × HObj) → Prop} (hw : wpEvx s h op K) : ∃ T x b, evx s (fun i => h[i]?) op = some (T, x, b) ∧ K T x b := by
  cases op <;> first | exact hw.elim | skip
  · rename_i sz n z ps
    simp only [wpEvx, evx] at hw ⊢
    obtain ⟨h0, h3⟩ := onTrue_inv hw
    obtain ⟨l, h1, h2⟩ := onSome_inv h3
    rw [h0, h1]
    exact ⟨_, _, _, rfl, forceLL_inv (K := fun l => K [] (.fsl sz l) none) h2⟩
  · rename_i g x
    simp only [wpEvx, evx] at hw ⊢
    split at hw
    · rename_i i off hr
      split at hw
      · rename_i cs hb
        obtain ⟨r, h1, h2⟩ := onSome_inv hw
        rw [hr]
        simp only [hb, h1]
        exact ⟨_, _, _, rfl, h2⟩
      · exact hw.elim
    · exact hw.elim
  · rename_i t x
    simp only [wpEvx, evx] at hw ⊢
    split at hw
    · rename_i i off hr
      split at hw
      · rename_i cs hb
        obtain ⟨h1, h2⟩ := onTrue_inv hw
        rw [hr]
        simp only [hb]
        rw [if_pos h1]
        exact ⟨_, _, _, rfl, forceL_inv (K := fun l => K [] (.iface t (.rptr l)) (some (i, .ro (AV.stripL cs)))) h2⟩
      · exact hw.elim
    · exact hw.elim
  · rename_i sz bytes x y
    simp only [wpEvx, evx] at hw ⊢
    split at hw
    · rename_i sz2 nl2 ow2 ys hr2
      rw [hr2]
      simp only
      split at hw
      · rename_i xs hr
        rw [hr]
        obtain ⟨h1, h2, h3, ⟨h4, h5⟩, h6⟩ := hw
        simp only
        rw [if_pos ⟨h1, h2, h3, h4, h5⟩]
        exact ⟨_, _, _, rfl, h6⟩
      · rename_i sz' xs hr
        rw [hr]
        simp only
        split at hw
        · obtain ⟨h1, h2, ⟨h4, h5⟩, h6⟩ := hw
          simp only
          rw [if_pos ⟨h1, h2, h4, h5⟩]
          exact ⟨_, _, _, rfl, h6⟩
        · exact hw.elim
      · rename_i sz' i off n hr
        rw [hr]
        simp only
        split at hw
        · rename_i sz3 xs hb
          obtain ⟨⟨h1, h2, h3, h4, h5⟩, h6, ⟨h7, h8⟩, h9⟩ := hw
          rw [hb]
          simp only
          rw [if_pos ⟨h1, h2, h3, h4, h5, h6, h7, h8⟩]
          exact ⟨_, _, _, rfl, h9⟩
        · exact hw.elim
      · rename_i sz' xs hr
        rw [hr]
        obtain ⟨h1, h2, h3, ⟨h4, h5⟩, h6⟩ := hw
        simp only
        rw [if_pos ⟨h1, h2, h3, h4, h5⟩]
        exact ⟨_, _, _, rfl, h6⟩
      · exact hw.elim
    · exact hw.elim

/-- Which operations are read otherwise; which ones' slices get a box at once. -/
def VOper.fx (L : Nat → Bool) (o : VOper) : Bool :=
  match o.dst with
  | some d => L (d + 1000000)
  | none => false
def VOper.fo (L : Nat → Bool) (o : VOper) : Bool :=
  match o.dst with
  | some d => L (d + 2000000)
  | none => false

/-- A slice that is one's own gets a box. -/
def wpOpen (dst : Option Nat) (next : Sy → Prop) (σ : Sy) : Prop :=
  match dst with
  | some t => match σ.get t with
    | .xsl sz xs => match σ with
      | ⟨base, ups, h⟩ => forceN h.length fun id => forceH (h ++ [.arr sz xs]) fun h' => next ⟨base, (t, .bsl sz id 0 xs.length) :: ups, h'⟩
    | _ => next σ
  | none => next σ

def wpNext (fo : Bool) (dst : Option Nat) (next : Sy → Prop) : Sy → Prop :=
  match fo with
  | true => wpOpen dst next
  | false => next

/-- One state is told as another one. -/
def ShiftS (σ σ' : Sy) : Prop := (∀ i, σ.get i = .undef → σ'.get i = .undef) ∧ σ.h.length ≤ σ'.h.length ∧ Shift ⟨σ.get, fun i => σ.h[i]?⟩ ⟨σ'.get, fun i => σ'.h[i]?⟩

/-- A call where the state is told otherwise first. -/
def wpSC (P : Program) (σ : Sy) (f : VX) (args : List VX) (on : (Nat → AV) → Prop) (K : Sy → SD → Prop) : Prop := ∃ σ', ShiftS σ σ' ∧ on σ'.get ∧ wpPC P σ' f args (K σ')

/-- One operation, then what stands behind it ('next'). -/
def wpOp (P : Program) (L : Nat → Bool) (o : VOper) (next : Sy → Prop) (σ : Sy) : Prop := wpGuard o.guard σ
    (fun σ => match o.call with
      | none => match o.fx L with
        | true => wpEvx σ.get (match σ with | ⟨_, _, h⟩ => h) o.op fun T x b => wpPut σ o.dst ⟨T, x, b⟩ (wpNext (o.fo L) o.dst next)
        | false => wpEv (o.fl L) σ.get (match σ with | ⟨_, _, h⟩ => h) o.op fun x b => wpPut σ o.dst ⟨takes (o.fl L) o.op, x, b⟩ (wpNext (o.fo L) o.dst next)
      | some (f, args) => (wpPC P σ f args fun d => wpPut σ o.dst d (wpNext (o.fo L) o.dst next)) ∨
          ((wpHC P σ f args fun d h' => wpPut σ o.dst d fun σ' => forceH h' fun h' => match σ' with | ⟨base, ups, _⟩ => wpNext (o.fo L) o.dst next ⟨base, ups, h'⟩) ∨
          ((wpBC P σ f args fun d => wpPut σ o.dst d (wpNext (o.fo L) o.dst next)) ∨
          (wpSC P σ f args o.on fun σ' d => wpPut σ' o.dst d (wpNext (o.fo L) o.dst next)))))
    (fun σ => wpPut σ o.dst ⟨[], .tup [], none⟩ next)

def wpOps (P : Program) (L : Nat → Bool) (os : List VOper) : (Sy → Prop) → Sy → Prop :=
  List.rec (motive := fun _ => (Sy → Prop) → Sy → Prop) (fun K σ => K σ) (fun o _ next K σ => wpOp P L o (next K) σ) os

def wpDrOp (P : Program) (L : Nat → Bool) (o : VOper) (next : (Sy → List (List Res) → List (List Res) → Prop) → Sy → Prop) (K : Sy → List (List Res) → List (List Res) → Prop) (σ : Sy) : Prop := wpGuard o.guard σ
    (fun σ => match o.call with
      | none => match o.fx L with
        | true => wpEvx σ.get (match σ with | ⟨_, _, h⟩ => h) o.op fun T x b => wpPut σ o.dst ⟨T, x, b⟩ (next fun σ'' ws rs => K σ'' (wrL o.dst ⟨T, x, b⟩ :: ws) (rdL o σ.get σ.h.length :: rs))
        | false => wpEv (o.fl L) σ.get (match σ with | ⟨_, _, h⟩ => h) o.op fun x b => wpPut σ o.dst ⟨takes (o.fl L) o.op, x, b⟩ (next fun σ'' ws rs => K σ'' (wrL o.dst ⟨takes (o.fl L) o.op, x, b⟩ :: ws) (rdL o σ.get σ.h.length :: rs))
      | some (f, args) => (wpPC P σ f args fun d => wpPut σ o.dst d (next fun σ'' ws rs => K σ'' (wrL o.dst d :: ws) (rdL o σ.get σ.h.length :: rs))) ∨ (False ∨
          wpBC P σ f args fun d => wpPut σ o.dst d (next fun σ'' ws rs => K σ'' (wrL o.dst d :: ws) (rdL o σ.get σ.h.length :: rs))))
    (fun σ => wpPut σ o.dst ⟨[], .tup [], none⟩ (next fun σ'' ws rs => K σ'' (wrL o.dst ⟨[], .tup [], none⟩ :: ws) (rdL o σ.get σ.h.length :: rs)))

def wpDr (P : Program) (L : Nat → Bool) (os : List VOper) : (Sy → List (List Res) → List (List Res) → Prop) → Sy → Prop :=
  List.rec (motive := fun _ => (Sy → List (List Res) → List (List Res) → Prop) → Sy → Prop) (fun K σ => K σ [] []) (fun o _ next K σ => wpDrOp P L o next K σ) os

def thenS (k : Sy → Prop) (Q : VE → Sy → Prop) : VE → Sy → Prop
  | .normal, σ => k σ
  | .exit i, σ => Q (.exit i) σ
  | .ret, σ => Q .ret σ

def blockS (id : Nat) (Q : VE → Sy → Prop) : VE → Sy → Prop
  | .exit i, σ => match Nat.beq i id with
    | true => Q .normal σ
    | false => Q (.exit i) σ
  | .normal, σ => Q .normal σ
  | .ret, σ => Q .ret σ

/-- Behind a drawn region. -/
def wpOpens (L : Nat → Bool) (os : List VOper) : (Sy → Prop) → Sy → Prop :=
  List.rec (motive := fun _ => (Sy → Prop) → Sy → Prop) (fun K σ => K σ) (fun o _ next K σ => wpNext (o.fo L) o.dst (next K) σ) os

def drQ (L : Nat → Bool) (ops : List VOper) (K : Sy → Prop) (σ : Sy) (ws rs : List (List Res)) : Prop := drawOk (befores ops []) ws rs = true ∧ wpOpens L ops K σ

def wpCond (z : VX) (x y : (VE → Sy → Prop) → Sy → Prop) (Q : VE → Sy → Prop) (σ : Sy) : Prop :=
  match σ.rd z with
  | .bool b => (b = true → x Q σ) ∧ (b = false → y Q σ)
  | _ => False

/-- Whether the state is told otherwise ahead of a region: the flag of its first operation's slot. -/
def regSh (L : Nat → Bool) (ops : List VOper) : Bool :=
  match ops with
  | o :: _ => match o.dst with
    | some d => L (d + 3000000)
    | none => false
  | [] => false

def wpSh (b : Bool) (K : Sy → Prop) (σ : Sy) : Prop :=
  match b with
  | true => ∃ σ', ShiftS σ σ' ∧ K σ'
  | false => K σ

def wpV (P : Program) (L : Nat → Bool) (N h0 : Nat) (c : VC) : (VE → Sy → Prop) → Sy → Prop :=
  VC.rec (motive := fun _ => (VE → Sy → Prop) → Sy → Prop)
    (fun Q σ => Q .normal σ)
    (fun ops Q σ => wpSh (regSh L ops) (wpOps P L ops (Q .normal)) σ)
    (fun ops Q σ => wpSh (regSh L ops) (wpDr P L ops (drQ L ops (Q .normal))) σ)
    (fun _ _ x y Q σ => x (thenS (y Q) Q) σ)
    (fun z _ _ x y Q σ => wpCond z x y Q σ)
    (fun id _ x Q σ => x (blockS id Q) σ)
    (fun c _ Q σ => VloopS P L N h0 c Q σ)
    (fun id Q σ => Q (.exit id) σ)
    (fun Q σ => Q .ret σ) c

end Go.Proofs.YtmjdoonaidolkaaDoor.V

/- A small logic of values over the model, part 28: what is reckoned holds; from reckoning to a contract. -/
namespace Go.Proofs.YtmjdoonaidolkaaDoor.V

section
variable {P : Program} {L : Nat → Bool} {N h0 : Nat}

theorem wpGuard_inv {o : VOper} {σ : Sy} {on off : Sy → Prop} (h : wpGuard o.guard σ on off) :
    ∃ σ1 : Sy, σ1.get = σ.get ∧ σ1.h = σ.h ∧ ((o.on σ1.get ∧ on σ1) ∨ ∃ t want, o.guard = some (t, want) ∧ offV want (σ1.get t) = true ∧ off σ1) := by
  unfold wpGuard at h
  unfold VOper.on
  split at h
  · rename_i hg
    rw [hg]
    exact ⟨σ, rfl, rfl, .inl ⟨trivial, h⟩⟩
  · rename_i t want hg
    rw [hg]
    split at h
    · rename_i b hb
      by_cases hbw : b = want
      · rw [hbw] at hb
        exact ⟨σ.know t want, Sy.know_get hb, rfl, .inl ⟨show (σ.know t want).get t = _ by rw [Sy.know_get hb, hb], h.1 hbw⟩⟩
      · have e : b = !want := by cases b <;> cases want <;> simp_all
        rw [e] at hb
        exact ⟨σ.know t !want, Sy.know_get hb, rfl, .inr ⟨t, want, rfl, by rw [Sy.know_get hb, hb]; simp [offV], h.2 hbw⟩⟩
    · rename_i hb
      exact ⟨σ, rfl, rfl, .inr ⟨t, want, rfl, by rw [hb]; rfl, h⟩⟩
    · exact h.elim

theorem Sy.st_congr {σ σ1 : Sy} (h1 : σ1.get = σ.get) (h2 : σ1.h = σ.h) : σ.st N = σ1.st N := by
  unfold Sy.st
  rw [h1, h2]

theorem Sy.ok_congr {σ σ1 : Sy} (h1 : σ1.get = σ.get) (h : σ.ok N) : σ1.ok N := fun i hi => by rw [h1]; exact h i hi

theorem rd_fun (σ : Sy) : σ.rd = rdX σ.get := funext σ.rd_eq

theorem wpPC_inv {σ : Sy} {f : VX} {args : List VX} {K : SD → Prop} (h : wpPC P σ f args K) : ∃ g ret, rdX σ.get f = .func g [] ∧ (argTmps args).Nodup ∧ (∀ v, v ∈ args → NP (fun _ => False) (rdX σ.get v)) ∧ PCall P g (args.map (rdX σ.get)) ret ∧ K ⟨argTmps args, ret, none⟩ := by
  unfold wpPC at h
  split at h
  · rename_i g hg
    obtain ⟨h1, ret, h2, h3⟩ := onTrue_inv h
    rw [rd_fun] at h2 hg
    exact ⟨g, ret, hg, nodupB_spec h1, fun v hv => h2.1 _ (List.mem_map.2 ⟨v, hv, rfl⟩), h2.2, h3⟩
  · exact h.elim

theorem wpBC_inv {σ : Sy} {f : VX} {args : List VX} {K : SD → Prop} (h : wpBC P σ f args K) : ∃ g ret i off rest ob ob', rdX σ.get f = .func g [] ∧ (argTmps args).Nodup ∧ args.map (rdX σ.get) = .ptr (some (i, off)) :: rest ∧ σ.h[i]? = some ob ∧ (∀ a, a ∈ rest → NP (fun _ => False) a) ∧
    NPo (fun _ => False) ob ∧ NPo (fun _ => False) ob' ∧ NP (fun _ => False) ret ∧ VCall P g (.ptr (some (0, off)) :: rest) [ob] ret [ob'] ∧ K ⟨argTmps args, ret, some (i, ob')⟩ := by
  unfold wpBC at h
  split at h
  · rename_i g hg
    obtain ⟨h1, h2⟩ := onTrue_inv h
    split at h2
    · rename_i i off rest hm
      split at h2
      · rename_i ob hb
        obtain ⟨ret, ob', k1, k2, k3, k4, k5, k6⟩ := h2
        rw [rd_fun] at hg hm
        exact ⟨g, ret, i, off, rest, ob, ob', hg, nodupB_spec h1, hm, hb, k1, k2, k3, k4, k5, k6⟩
      · exact h2.elim
    · exact h2.elim
  · exact h.elim

theorem ShiftS.seq {σ σ' : Sy} (h : ShiftS σ σ') (hok : σ.ok N) : σ'.ok N ∧ ∀ {L : Nat → Bool} {os : List VOper} {S' : St}, VSeq P L os (σ'.st N) S' → VSeq P L os (σ.st N) S' := by
  have hok' : σ'.ok N := fun i hi => h.1 i (hok i hi)
  refine ⟨hok', fun hs => .shift _ _ (σ'.st N) _ (by rw [Sy.st_length, Sy.st_length]) h.2.1 ?_ hs⟩
  rw [Sy.st_fs hok, Sy.st_fs hok']
  exact h.2.2

theorem ShiftS.same (σ : Sy) : ShiftS σ σ := ⟨fun _ h => h, Nat.le_refl _, fun _ h => h, fun _ fr pi own _ hr => ⟨fr, pi, own, hr, Ext.refl _ _ _ _ _⟩⟩

theorem ShiftS.trans {σ σ1 σ2 : Sy} (h : ShiftS σ σ1) (h' : ShiftS σ1 σ2) : ShiftS σ σ2 := by
  refine ⟨fun i hi => h'.1 i (h.1 i hi), Nat.le_trans h.2.1 h'.2.1, fun i hi => h'.2.2.1 i (h.2.2.1 i hi), fun w fr pi own tm hr => ?_⟩
  obtain ⟨fr1, pi1, own1, q1, q2⟩ := h.2.2.2 w fr pi own tm hr
  obtain ⟨fr2, pi2, own2, z1, z2⟩ := h'.2.2.2 w fr1 pi1 own1 tm q1
  exact ⟨fr2, pi2, own2, z1, q2.trans z2 h.2.2.1⟩

/-- Told otherwise. -/
def exS (Q : VE → Sy → Prop) : VE → Sy → Prop := fun x σ => ∃ σ', ShiftS σ σ' ∧ Q x σ'

theorem VQ.exS {N h0 : Nat} {Q : VE → Sy → Prop} {w : World} {fr pi : Nat → Nat} {own : Res → List Nat} {e : Exit} {a : Act} {w' : World} (h : VQ N (QS N (exS Q)) h0 w fr pi own e a w') : VQ N (QS N Q) h0 w fr pi own e a w' := by
  obtain ⟨x, S', fr', pi', own', k1, ⟨σ, rfl, hok, σ', hs, hq⟩, k3, k4, k5, k6, k7, k8⟩ := h
  have hok' : σ'.ok N := fun i hi => hs.1 i (hok i hi)
  rw [Sy.st_fs hok] at k5
  obtain ⟨fr2, pi2, own2, q1, q2⟩ := hs.2.2.2 w' fr' pi' own' a.tmps k5
  have hlen : (σ.st N).h.length = σ.h.length := rfl
  have q2' : Ext w' w' fr' fr2 pi' pi2 own' own2 (fun i => i < h0) := ⟨q2.step, q2.fresh, fun i hi => q2.pi i ⟨_, (List.getElem?_eq_getElem (Nat.lt_of_lt_of_le hi k4) : σ.h[i]? = _)⟩⟩
  have := k8.trans q2' (fun i hi => hi)
  exact ⟨x, σ'.st N, fr2, pi2, own2, k1, ⟨_, rfl, hok', hq⟩, Sy.st_length _ _, Nat.le_trans k4 hs.2.1, by rw [Sy.st_fs hok']; exact q1, k6, k7, this⟩

theorem wpNext_shift {fo : Bool} {dst : Option Nat} {next : Sy → Prop} {σ : Sy} (h : wpNext fo dst next σ) : ∃ σ' : Sy, next σ' ∧ ShiftS σ σ' := by
  cases fo with
  | false => exact ⟨σ, h, .same σ⟩
  | true =>
    replace h : wpOpen dst next σ := h
    unfold wpOpen at h
    split at h
    · rename_i t
      split at h
      · rename_i sz xs hx
        obtain ⟨base, ups, hp⟩ := σ
        simp only at h
        have h2 := forceH_inv (forceN_inv (K := fun id => forceH (hp ++ [.arr sz xs]) fun h' => next ⟨base, (t, .bsl sz id 0 xs.length) :: ups, h'⟩) h)
        have hsh : ShiftS ⟨base, ups, hp⟩ ⟨base, (t, .bsl sz hp.length 0 xs.length) :: ups, hp ++ [.arr sz xs]⟩ := by
          have hget : (⟨base, (t, .bsl sz hp.length 0 xs.length) :: ups, hp ++ [.arr sz xs]⟩ : Sy).get = upd (⟨base, ups, hp⟩ : Sy).get t (.bsl sz hp.length 0 xs.length) := by
            funext i
            show look i _ ((t, _) :: ups) = _
            rw [look_cons]
            by_cases e : t = i
            · subst e; rw [if_pos rfl, upd_same]
            · rw [if_neg e, upd_ne _ _ (fun e2 => e e2.symm)]; rfl
          have hbx : (fun i => (hp ++ [HObj.arr sz xs])[i]?) = upd (fun i => hp[i]?) hp.length (some (.arr sz xs)) := by
            funext i
            by_cases e : i = hp.length
            · subst e; rw [upd_same]; simp
            · rw [upd_ne _ _ e]
              rcases Nat.lt_or_ge i hp.length with h' | h'
              · exact List.getElem?_append_left h'
              · rw [List.getElem?_eq_none (by simp; omega), List.getElem?_eq_none h']
          refine ⟨fun i hi => ?_, by simp, fun i hi => ?_, fun w fr pi own tm hr => ?_⟩
          · rw [hget]
            by_cases e : i = t
            · subst e; rw [hx] at hi; cases hi
            · rw [upd_ne _ _ e]; exact hi
          · obtain ⟨o, ho⟩ := hi
            refine ⟨o, ?_⟩
            have hlt : i < hp.length := by
              rcases Nat.lt_or_ge i hp.length with h' | h'
              · exact h'
              · have : hp[i]? = some o := ho
                rw [List.getElem?_eq_none h'] at this; cases this
            show (hp ++ [HObj.arr sz xs])[i]? = some o
            rw [List.getElem?_append_left hlt]; exact ho
          · obtain ⟨pi', own', q1, q2⟩ := hr.openSlot (t := t) (id := hp.length) hx (List.getElem?_eq_none (Nat.le_refl _))
            refine ⟨fr, pi', own', ?_, q2⟩
            rw [hget, hbx]
            exact q1
        exact ⟨_, h2, hsh⟩
      · exact ⟨σ, h, .same σ⟩
    · exact ⟨σ, h, .same σ⟩

theorem wpNext_inv {fo : Bool} {dst : Option Nat} {next : Sy → Prop} {σ : Sy} (h : wpNext fo dst next σ) (hok : σ.ok N) : ∃ σ' : Sy, next σ' ∧ σ'.ok N ∧ ∀ {L : Nat → Bool} {os : List VOper} {S' : St}, VSeq P L os (σ'.st N) S' → VSeq P L os (σ.st N) S' := by
  obtain ⟨σ', h1, h2⟩ := wpNext_shift h
  obtain ⟨k1, k2⟩ := h2.seq (P := P) hok
  exact ⟨σ', h1, k1, k2⟩

theorem wpOpens_inv : ∀ {os : List VOper} {K : Sy → Prop} {σ : Sy}, wpOpens L os K σ → ∃ σ', ShiftS σ σ' ∧ K σ'
  | [], _, σ, h => ⟨σ, .same σ, h⟩
  | _ :: _, _, _, h => by
    obtain ⟨σ1, h1, h2⟩ := wpNext_shift h
    obtain ⟨σ2, h3, h4⟩ := wpOpens_inv h1
    exact ⟨σ2, h2.trans h3, h4⟩

theorem wpOps_sound : ∀ {os : List VOper} {K : Sy → Prop} {σ : Sy}, wpOps P L os K σ → σ.ok N → (∀ o, o ∈ os → ∀ t, o.dst = some t → t < N) → ∃ σ', VSeq P L os (σ.st N) (σ'.st N) ∧ σ'.ok N ∧ K σ'
  | [], K, σ, h, hok, _ => ⟨σ, .nil _, hok, h⟩
  | o :: os, K, σ0, h, hok, hd => by
    have hd0 := hd o (by simp)
    have hd1 : ∀ o', o' ∈ os → ∀ t, o'.dst = some t → t < N := fun o' ho' => hd o' (by simp [ho'])
    replace h : wpOp P L o (wpOps P L os K) σ0 := h
    unfold wpOp at h
    obtain ⟨σ, e1, e2, hh⟩ := wpGuard_inv h
    rw [Sy.st_congr e1 e2]
    replace hok := Sy.ok_congr e1 hok
    have rest : ∀ {τ : Sy}, wpNext (o.fo L) o.dst (wpOps P L os K) τ → τ.ok N → ∃ σ', VSeq P L os (τ.st N) (σ'.st N) ∧ σ'.ok N ∧ K σ' := by
      intro τ h3 hτ
      obtain ⟨τ', q1, q2, q3⟩ := wpNext_inv (P := P) h3 hτ
      obtain ⟨σ', k1, k2, k3⟩ := wpOps_sound q1 q2 hd1
      exact ⟨σ', q3 k1, k2, k3⟩
    have pcall : ∀ {τ : Sy} {f : VX} {args : List VX}, o.call = some (f, args) → o.on τ.get → τ.ok N → (wpPC P τ f args fun d => wpPut τ o.dst d (wpNext (o.fo L) o.dst (wpOps P L os K))) → ∃ σ', VSeq P L (o :: os) (τ.st N) (σ'.st N) ∧ σ'.ok N ∧ K σ' := by
      intro τ f args hc hon hτ h1
      obtain ⟨g, ret, h2, h3, h4, h5, h6⟩ := wpPC_inv h1
      obtain ⟨σ', k1, k2, k3⟩ := rest (wpPut_inv h6) (Sy.app_ok hτ hd0)
      refine ⟨σ', .cons o os _ ⟨argTmps args, ret, none⟩ _ ?_ ?_, k2, k3⟩
      · rw [Sy.st_fs hτ]
        exact .pcall f args g ret hc hon h2 h3 h4 h5
      · rw [Sy.app_st hτ hd0]
        exact k1
    rcases hh with ⟨hon, h1⟩ | ⟨t, want, hg, hb, h1⟩
    · split at h1
      · rename_i hc
        split at h1
        · obtain ⟨T, x, b, h2, h3⟩ := wpEvx_sound h1
          obtain ⟨σ', k1, k2, k3⟩ := rest (wpPut_inv h3) (Sy.app_ok hok hd0)
          refine ⟨σ', .cons o os _ ⟨T, x, b⟩ _ ?_ ?_, k2, k3⟩
          · rw [Sy.st_fs hok]
            exact .evx T x b hc hon h2
          · rw [Sy.app_st hok hd0]
            exact k1
        · obtain ⟨x, b, h2, h3⟩ := wpEv_sound h1
          obtain ⟨σ', k1, k2, k3⟩ := rest (wpPut_inv h3) (Sy.app_ok hok hd0)
          refine ⟨σ', .cons o os _ ⟨takes (o.fl L) o.op, x, b⟩ _ ?_ ?_, k2, k3⟩
          · rw [Sy.st_fs hok]
            exact .ev x b hc hon h2
          · rw [Sy.app_st hok hd0]
            exact k1
      · rename_i f args hc
        rcases h1 with h1 | h1
        · exact pcall hc hon hok h1
        rcases h1 with h1 | h1
        · unfold wpHC at h1
          split at h1
          · rename_i g hg
            obtain ⟨h2, ret, h', h3, h4⟩ := onTrue_inv h1
            have h4 := forceH_inv (wpPut_inv h4)
            have hget : (⟨σ.base, (σ.app o.dst ⟨argTmps args, ret, none⟩).ups, h'⟩ : Sy).get = (σ.app o.dst ⟨argTmps args, ret, none⟩).get := rfl
            have hok' : (⟨σ.base, (σ.app o.dst ⟨argTmps args, ret, none⟩).ups, h'⟩ : Sy).ok N := by
              intro i hi
              rw [hget]
              exact Sy.app_ok hok hd0 i hi
            obtain ⟨σ', k1, k2, k3⟩ := rest h4 hok'
            rw [rd_fun] at hg h3
            refine ⟨σ', .hcall o os _ _ f args g ret h' hc ?_ ?_ (nodupB_spec h2) ?_ ?_, k2, k3⟩
            · rw [Sy.st_fs hok]; exact hon
            · rw [Sy.st_fs hok]; exact hg
            · rw [Sy.st_fs hok]; exact h3
            · have e : (⟨putL o.dst ret (stripT (argTmps args) (σ.st N).t), h'⟩ : St) = (⟨σ.base, (σ.app o.dst ⟨argTmps args, ret, none⟩).ups, h'⟩ : Sy).st N := by
                refine St.ext' ?_ rfl
                have := congrArg St.t (Sy.app_st (d := ⟨argTmps args, ret, none⟩) hok hd0)
                exact this
              rw [e]
              exact k1
          · exact h1.elim
        rcases h1 with h1 | h1
        · obtain ⟨g, ret, i, off, rest', ob, ob', b1, b2, b3, b4, b5, b6, b7, b8, b9, b10⟩ := wpBC_inv h1
          obtain ⟨σ', k1, k2, k3⟩ := rest (wpPut_inv b10) (Sy.app_ok hok hd0)
          refine ⟨σ', .cons o os _ ⟨argTmps args, ret, some (i, ob')⟩ _ ?_ ?_, k2, k3⟩
          · rw [Sy.st_fs hok]
            exact .bcall f args g ret i off rest' ob ob' hc hon b1 b2 b3 b4 b5 b6 b7 b8 b9
          · rw [Sy.app_st hok hd0]
            exact k1
        · obtain ⟨τ, hsh, hon', h2⟩ := h1
          obtain ⟨q1, q2⟩ := hsh.seq (P := P) hok
          obtain ⟨σ', k1, k2, k3⟩ := pcall hc hon' q1 h2
          exact ⟨σ', q2 k1, k2, k3⟩
    · obtain ⟨σ', k1, k2, k3⟩ := wpOps_sound (wpPut_inv h1) (Sy.app_ok hok hd0) hd1
      refine ⟨σ', .cons o os _ ⟨[], .tup [], none⟩ _ ?_ ?_, k2, k3⟩
      · rw [Sy.st_fs hok]
        exact .off t want hg hb
      · rw [Sy.app_st hok hd0]
        exact k1

theorem wpDr_sound : ∀ {os : List VOper} {K : Sy → List (List Res) → List (List Res) → Prop} {σ : Sy}, wpDr P L os K σ → σ.ok N → (∀ o, o ∈ os → ∀ t, o.dst = some t → t < N) →
    ∃ σ' ds rs, VRun P L os (σ.st N) ds rs (σ'.st N) ∧ σ'.ok N ∧ K σ' (ds.map fun p => wrL p.1 p.2) rs
  | [], K, σ, h, hok, _ => ⟨σ, [], [], .nil _, hok, h⟩
  | o :: os, K, σ0, h, hok, hd => by
    have hd0 := hd o (by simp)
    have hd1 : ∀ o', o' ∈ os → ∀ t, o'.dst = some t → t < N := fun o' ho' => hd o' (by simp [ho'])
    replace h : wpDrOp P L o (wpDr P L os) K σ0 := h
    unfold wpDrOp at h
    obtain ⟨σ, e1, e2, hh⟩ := wpGuard_inv h
    rw [Sy.st_congr e1 e2]
    replace hok := Sy.ok_congr e1 hok
    have hrd : rdL o (σ.st N).fs.sl (σ.st N).h.length = rdL o σ.get σ.h.length := by rw [Sy.st_fs hok]; rfl
    rcases hh with ⟨hon, h1⟩ | ⟨t, want, hg, hb, h1⟩
    · split at h1
      · rename_i hc
        split at h1
        · obtain ⟨T, x, b, h2, h3⟩ := wpEvx_sound h1
          obtain ⟨σ', ds, rs, k1, k2, k3⟩ := wpDr_sound (wpPut_inv h3) (Sy.app_ok hok hd0) hd1
          refine ⟨σ', _, _, .cons o os _ ⟨T, x, b⟩ ds rs _ ?_ ?_, k2, by rw [hrd]; exact k3⟩
          · rw [Sy.st_fs hok]
            exact .evx T x b hc hon h2
          · rw [Sy.app_st hok hd0]
            exact k1
        · obtain ⟨x, b, h2, h3⟩ := wpEv_sound h1
          obtain ⟨σ', ds, rs, k1, k2, k3⟩ := wpDr_sound (wpPut_inv h3) (Sy.app_ok hok hd0) hd1
          refine ⟨σ', _, _, .cons o os _ ⟨takes (o.fl L) o.op, x, b⟩ ds rs _ ?_ ?_, k2, by rw [hrd]; exact k3⟩
          · rw [Sy.st_fs hok]
            exact .ev x b hc hon h2
          · rw [Sy.app_st hok hd0]
            exact k1
      · rename_i f args hc
        rcases h1 with h1 | h1 | h1
        · obtain ⟨g, ret, h2, h3, h4, h5, h6⟩ := wpPC_inv h1
          obtain ⟨σ', ds, rs, k1, k2, k3⟩ := wpDr_sound (wpPut_inv h6) (Sy.app_ok hok hd0) hd1
          refine ⟨σ', _, _, .cons o os _ ⟨argTmps args, ret, none⟩ ds rs _ ?_ ?_, k2, by rw [hrd]; exact k3⟩
          · rw [Sy.st_fs hok]
            exact .pcall f args g ret hc hon h2 h3 h4 h5
          · rw [Sy.app_st hok hd0]
            exact k1
        · exact h1.elim
        · obtain ⟨g, ret, i, off, rest, ob, ob', b1, b2, b3, b4, b5, b6, b7, b8, b9, b10⟩ := wpBC_inv h1
          obtain ⟨σ', ds, rs, k1, k2, k3⟩ := wpDr_sound (wpPut_inv b10) (Sy.app_ok hok hd0) hd1
          refine ⟨σ', _, _, .cons o os _ ⟨argTmps args, ret, some (i, ob')⟩ ds rs _ ?_ ?_, k2, by rw [hrd]; exact k3⟩
          · rw [Sy.st_fs hok]
            exact .bcall f args g ret i off rest ob ob' hc hon b1 b2 b3 b4 b5 b6 b7 b8 b9
          · rw [Sy.app_st hok hd0]
            exact k1
    · obtain ⟨σ', ds, rs, k1, k2, k3⟩ := wpDr_sound (wpPut_inv h1) (Sy.app_ok hok hd0) hd1
      refine ⟨σ', _, _, .cons o os _ ⟨[], .tup [], none⟩ ds rs _ ?_ ?_, k2, by rw [hrd]; exact k3⟩
      · rw [Sy.st_fs hok]
        exact .off t want hg hb
      · rw [Sy.app_st hok hd0]
        exact k1

theorem Vwp.of_reg {l : List VOper} {Q : VE → St → Prop} {S : St} (h : dstOk N l = true → Vwp P L N h0 (.reg l) Q S) : Vwp P L N h0 (.reg l) Q S := by
  intro hN hk c0 hc
  obtain ⟨id, ops, rfl, h1, h2⟩ := comp_reg hc
  exact h h2 hN hk _ hc

theorem Vwp.of_dreg {l : List VOper} {Q : VE → St → Prop} {S : St} (h : dstOk N l = true → Vwp P L N h0 (.dreg l) Q S) : Vwp P L N h0 (.dreg l) Q S := by
  intro hN hk c0 hc
  obtain ⟨id, ops, rfl, h1, h2, h3⟩ := comp_dreg hc
  exact h h2 hN hk _ hc

theorem Vwp.exS {c : VC} {Q : VE → Sy → Prop} {S : St} (h : Vwp P L N h0 c (QS N (V.exS Q)) S) : Vwp P L N h0 c (QS N Q) S := by
  intro hN hk c0 hc a w fr pi own hr hs hd
  exact wp_mono (h hN hk c0 hc a w fr pi own hr hs hd) fun e a w hh => VQ.exS hh

theorem Vwp.shiftS {c : VC} {Q : VE → St → Prop} {σ σ' : Sy} (hs : ShiftS σ σ') (hok : σ.ok N) (h : σ'.ok N → Vwp P L N h0 c Q (σ'.st N)) : Vwp P L N h0 c Q (σ.st N) := by
  intro _ hk c0 hc a w fr pi own hr hsz hd
  have hok' : σ'.ok N := fun i hi => hs.1 i (hok i hi)
  have hr' : Rel w fr pi own ⟨σ.get, fun i => σ.h[i]?⟩ a.tmps := by rw [← Sy.st_fs hok]; exact hr
  obtain ⟨fr1, pi1, own1, q1, q2⟩ := hs.2.2.2 w fr pi own a.tmps hr'
  have q1' : Rel w fr1 pi1 own1 (σ'.st N).fs a.tmps := by rw [Sy.st_fs hok']; exact q1
  refine wp_mono (h hok' (Sy.st_length _ _) (Nat.le_trans hk hs.2.1) c0 hc a w fr1 pi1 own1 q1' hsz hd) fun e a' w' hq => ?_
  refine VQ.trans ⟨q2.step, q2.fresh, fun i hi => q2.pi i ?_⟩ hq
  have hlt : i < σ.h.length := Nat.lt_of_lt_of_le hi hk
  exact ⟨_, (List.getElem?_eq_getElem hlt : σ.h[i]? = _)⟩

theorem wpSh_inv {b : Bool} {K : Sy → Prop} {σ : Sy} (h : wpSh b K σ) : ∃ σ', ShiftS σ σ' ∧ K σ' := by
  cases b with
  | true => exact h
  | false => exact ⟨σ, ShiftS.same σ, h⟩

theorem wpV_sound : ∀ {c : VC} {Q : VE → Sy → Prop} {σ : Sy}, wpV P L N h0 c Q σ → σ.ok N → Vwp P L N h0 c (QS N Q) (σ.st N)
  | .skip, Q, σ, h, hok => Vwp.skip ⟨σ, rfl, hok, h⟩
  | .ret, Q, σ, h, hok => Vwp.ret ⟨σ, rfl, hok, h⟩
  | .exit id, Q, σ, h, hok => Vwp.exit ⟨σ, rfl, hok, h⟩
  | .reg l, Q, σ, h, hok => Vwp.of_reg fun hd => by
    obtain ⟨σ1, hs, h0⟩ := wpSh_inv h
    refine Vwp.shiftS hs hok fun hok1 => ?_
    obtain ⟨σ', h1, h2, h3⟩ := wpOps_sound (N := N) h0 hok1 (dstOk_spec hd)
    exact Vwp.reg h1 ⟨σ', rfl, h2, h3⟩
  | .dreg l, Q, σ, h, hok => Vwp.of_dreg fun hd => by
    obtain ⟨σ1, hs, h0⟩ := wpSh_inv h
    refine Vwp.shiftS hs hok fun hok1 => ?_
    obtain ⟨σ', ds, rs, h1, h2, h3, h4⟩ := wpDr_sound (N := N) h0 hok1 (dstOk_spec hd)
    exact Vwp.exS (Vwp.dreg h1 h3 ⟨σ', rfl, h2, wpOpens_inv h4⟩)
  | .seq a b, Q, σ, h, hok => by
    refine Vwp.seq ((wpV_sound (c := a) h hok).mono fun x S hx => ?_)
    obtain ⟨σ', rfl, h1, h2⟩ := hx
    cases x with
    | normal => exact wpV_sound (c := b) h2 h1
    | exit i => exact ⟨σ', rfl, h1, h2⟩
    | ret => exact ⟨σ', rfl, h1, h2⟩
  | .cond z x y, Q, σ, h, hok => by
    replace h : wpCond z (wpV P L N h0 x) (wpV P L N h0 y) Q σ := h
    unfold wpCond at h
    split at h
    · rename_i b hb
      refine Vwp.cond (b := b) (by rw [Sy.st_fs hok, ← Sy.rd_eq]; exact hb) (fun e => wpV_sound (c := x) (h.1 e) hok) (fun e => wpV_sound (c := y) (h.2 e) hok)
    · exact h.elim
  | .block id c, Q, σ, h, hok => by
    refine Vwp.block ((wpV_sound (c := c) h hok).mono fun x S hx => ?_)
    obtain ⟨σ', rfl, h1, h2⟩ := hx
    cases x with
    | normal => exact ⟨σ', rfl, h1, h2⟩
    | ret => exact ⟨σ', rfl, h1, h2⟩
    | exit i =>
      simp only [blockS] at h2
      simp only [blockQ]
      split at h2
      · rename_i e
        rw [if_pos (Nat.eq_of_beq_eq_true e)]
        exact ⟨σ', rfl, h1, h2⟩
      · rename_i e
        rw [if_neg (fun he => by rw [he, Nat.beq_refl] at e; cases e)]
        exact ⟨σ', rfl, h1, h2⟩
  | .loop c, Q, σ, h, hok => Vwp.loop (h hok)

/-- A loop's round. -/
theorem VloopS.round {c : VC} {Q : VE → Sy → Prop} {σ : Sy} (h : wpV P L N h0 c (thenS (VloopS P L N h0 c Q) Q) σ) : VloopS P L N h0 c Q σ := by
  intro hok
  refine Vloop.round ((wpV_sound h hok).mono fun x S hx => ?_)
  obtain ⟨σ', rfl, h1, h2⟩ := hx
  cases x with
  | normal => exact h2 h1
  | exit i => exact ⟨σ', rfl, h1, h2⟩
  | ret => exact ⟨σ', rfl, h1, h2⟩

/-- The slots that are told: each is known no better than it was. -/
def WkU (σ : Sy) : List (Nat × AV) → Prop
  | [] => True
  | (i, a) :: r => Wk (σ.get i) a ∧ WkU σ r

theorem WkU.look {σ : Sy} {t : Nat} : ∀ {l : List (Nat × AV)}, WkU σ l → Wk (σ.get t) (look t .undef l)
  | [], _ => .undef _
  | (i, a) :: r, h => by
    rw [look_cons]
    by_cases e : i = t
    · rw [if_pos e, ← e]; exact h.1
    · rw [if_neg e]; exact WkU.look h.2

theorem WkL.of {as bs : List AV} (h : as.length = bs.length) (hw : ∀ i, i < as.length → Wk (as.getD i .undef) (bs.getD i .undef)) : WkL as bs := by
  induction as generalizing bs with
  | nil => cases bs with
    | nil => exact .nil
    | cons b bs => simp at h
  | cons a as ih => cases bs with
    | nil => simp at h
    | cons b bs =>
      refine .cons _ _ _ _ (hw 0 (by simp)) (ih (by simpa using h) fun i hi => ?_)
      simpa using hw (i + 1) (by simpa using hi)

theorem WkU.st {σ : Sy} {l : List (Nat × AV)} {h : List HObj} (hok : σ.ok N) (hw : WkU σ l) (hok' : (⟨[], l, h⟩ : Sy).ok N) : WkL (σ.st N).t ((⟨[], l, h⟩ : Sy).st N).t := by
  refine WkL.of (by rw [Sy.st_length, Sy.st_length]) fun i hi => ?_
  rw [Sy.st_getD hok, Sy.st_getD hok']
  exact hw.look

def upsOk (N : Nat) : List (Nat × AV) → Bool
  | [] => true
  | (i, _) :: r => Nat.blt i N && upsOk N r

theorem upsOk_spec {l : List (Nat × AV)} {h : List HObj} (hu : upsOk N l = true) : (⟨[], l, h⟩ : Sy).ok N := by
  intro i hi
  show V.look i .undef l = .undef
  induction l with
  | nil => rfl
  | cons p r ih =>
    obtain ⟨j, a⟩ := p
    simp only [upsOk, Bool.and_eq_true] at hu
    rw [look_cons, if_neg, ih hu.2]
    intro e
    have : j < N := by simpa using hu.1
    omega

/-- A loop from a state that tells no more than what matters. -/
theorem VloopS.weak {c : VC} {Q : VE → Sy → Prop} {σ : Sy} {l : List (Nat × AV)} (hu : upsOk N l = true) (hw : WkU σ l) (hk : h0 ≤ σ.h.length) (h : VloopS P L N h0 c Q ⟨[], l, σ.h⟩) : VloopS P L N h0 c Q σ := by
  intro hok
  exact Vloop.weak (ex := []) (WkU.st hok hw (upsOk_spec hu)) (by simp [Sy.st]) hk (.inl rfl) (h (upsOk_spec hu))

/-- The same, boxes let go. -/
theorem VloopS.weakBox {c : VC} {Q : VE → Sy → Prop} {σ : Sy} {l : List (Nat × AV)} {h : List HObj} {ex : List HObj} (hu : upsOk N l = true) (hw : WkU σ l) (hh : σ.h = h ++ ex) (hk : h0 ≤ h.length)
    (hn1 : ∀ p, p ∈ l → NP (fun i => i < h.length) p.2) (hn2 : ∀ o, o ∈ h → NPo (fun i => i < h.length) o) (hl : VloopS P L N h0 c Q ⟨[], l, h⟩) : VloopS P L N h0 c Q σ := by
  intro hok
  refine Vloop.weak (ex := ex) (WkU.st (h := h) hok hw (upsOk_spec hu)) hh hk (.inr ⟨fun a ha => ?_, hn2⟩) (hl (upsOk_spec hu))
  obtain ⟨i, hi, rfl⟩ := List.mem_map.1 ha
  show NP _ (V.look i .undef l)
  clear ha hi hl hu hw
  induction l with
  | nil => exact .undef
  | cons p r ih =>
    obtain ⟨j, a⟩ := p
    rw [look_cons]
    split
    · exact hn1 (j, a) (by simp)
    · exact ih fun p hp => hn1 p (by simp [hp])

theorem VloopS.mono {c : VC} {Q Q' : VE → Sy → Prop} {σ : Sy} (hq : ∀ x σ, Q x σ → Q' x σ) (h : VloopS P L N h0 c Q σ) : VloopS P L N h0 c Q' σ := by
  intro hok hN hk c0 hc a w fr pi own hr hs hd
  refine (h hok hN hk c0 hc a w fr pi own hr hs hd).mono fun e a w hh => hh.mono fun x S hx => ?_
  obtain ⟨σ', h1, h2, h3⟩ := hx
  exact ⟨σ', h1, h2, hq _ _ h3⟩

end

/-! ### functions -/

def rvS (σ : Sy) : RV → Option AV
  | .tmp t => some (σ.get t)
  | .cell a g => match σ.get a with
    | .ptr (some (i, off)) => match σ.h[i]? with
      | some (.cells cs) => ldCells cs off g
      | _ => none
    | _ => none

def rvsS (σ : Sy) : List RV → Option (List AV)
  | [] => some []
  | r :: l => (rvS σ r).bind fun a => (rvsS σ l).map fun as => a :: as

theorem rvsS_eq {N : Nat} {σ : Sy} (h : σ.ok N) (l : List RV) : rvAVs (σ.st N) l = rvsS σ l := by
  induction l with
  | nil => rfl
  | cons r l ih =>
    rw [rvAVs, rvsS, ih]
    congr 1
    cases r with
    | tmp t => simp only [rvAV, rvS, Sy.st_getD h]
    | cell a g => simp only [rvAV, rvS, Sy.st_getD h]; rfl

/-- Where a function comes to its end with this. -/
def retS (rs : List RV) (ret : AV) : VE → Sy → Prop
  | .exit _, _ => False
  | .normal, σ => onSome (rvsS σ rs) fun xs => retAV xs = ret
  | .ret, σ => onSome (rvsS σ rs) fun xs => retAV xs = ret

/-- What is known of a function of the program. -/
def fnC (P : Program) (f : Nat) : Option (Nat × VC × List RV) :=
  match callable P f with
  | false => none
  | true => (P.funcs[f]?).bind fun fn => fn.body.bind fun c => (comp P fn.ntmps c).bind fun vc => (resRV P fn.results.toList).bind fun rs => if nodupB (rvTmps rs) then some (fn.ntmps, vc, rs) else none

theorem fnC_inv {P : Program} {f N : Nat} {vc : VC} {rs : List RV} (h : fnC P f = some (N, vc, rs)) : ∃ fn c, callable P f = true ∧ P.funcs[f]? = some fn ∧ fn.body = some c ∧ fn.ntmps = N ∧ comp P fn.ntmps c = some vc ∧ resRV P fn.results.toList = some rs ∧ (rvTmps rs).Nodup := by
  unfold fnC at h
  split at h
  · cases h
  · rename_i hc
    obtain ⟨fn, h1, h⟩ := Option.bind_eq_some_iff.1 h
    obtain ⟨c, h2, h⟩ := Option.bind_eq_some_iff.1 h
    obtain ⟨vc', h3, h⟩ := Option.bind_eq_some_iff.1 h
    obtain ⟨rs', h4, h⟩ := Option.bind_eq_some_iff.1 h
    split at h
    · rename_i hn
      cases h
      exact ⟨fn, c, hc, h1, h2, rfl, h3, h4, nodupB_spec hn⟩
    · cases h

theorem nthD_ge {l : List AV} {n : Nat} (h : l.length ≤ n) : nthD l n = .undef := by
  rw [nthD_eq, List.getD_eq_getElem?_getD, List.getElem?_eq_none h]; rfl

theorem args_ok {N : Nat} {args : List AV} {h : List HObj} (ha : args.length ≤ N) : (⟨args, [], h⟩ : Sy).ok N := fun i hi => nthD_ge (l := args) (by omega)

theorem args_st {N : Nat} {args : List AV} {h : List HObj} (ha : args.length ≤ N) : (⟨args, [], h⟩ : Sy).st N = ⟨args ++ List.replicate (N - args.length) .undef, h⟩ := by
  refine St.ext' (List.ext_getElem? fun i => ?_) rfl
  have hg : ∀ i, (⟨args, [], h⟩ : Sy).get i = args.getD i .undef := fun i => nthD_eq args i
  rcases Nat.lt_or_ge i N with hi | hi
  · simp only [Sy.st, List.getElem?_map, List.getElem?_range hi, Option.map_some, hg]
    rcases Nat.lt_or_ge i args.length with h1 | h1
    · rw [List.getElem?_append_left h1, List.getD_eq_getElem?_getD, List.getElem?_eq_getElem h1]; rfl
    · rw [List.getElem?_append_right h1, List.getD_eq_getElem?_getD, List.getElem?_eq_none h1, List.getElem?_replicate, if_pos (by omega)]; rfl
  · rw [List.getElem?_eq_none (by rw [Sy.st_length]; exact hi), List.getElem?_eq_none (by simp; omega)]

/-- From reckoning to a contract that knows of no box. -/
theorem PCallN.of {P : Program} (L : Nat → Bool) {f N : Nat} {vc : VC} {rs : List RV} (hf : fnC P f = some (N, vc, rs)) {args : List AV} {ret : AV} (ha : args.length ≤ N) (hargs : ∀ a, a ∈ args → NP (fun _ => False) a) (hret : NP (fun _ => False) ret)
    (hw : wpV P L N 0 vc (retS rs ret) ⟨args, [], []⟩) : PCallN P f args ret := by
  obtain ⟨fn, c, h1, h2, h3, rfl, h4, h5, h6⟩ := fnC_inv hf
  refine ⟨hargs, PCall.of (L := L) h1 h2 h3 h4 h5 h6 ha hret ?_⟩
  have := wpV_sound hw (args_ok ha)
  rw [args_st ha] at this
  refine this.mono fun x S hx => ?_
  obtain ⟨σ', rfl, k1, k2⟩ := hx
  cases x with
  | exit i => exact k2.elim
  | normal =>
    obtain ⟨xs, q1, q2⟩ := onSome_inv k2
    exact ⟨.inl rfl, xs, by rw [rvsS_eq k1]; exact q1, q2⟩
  | ret =>
    obtain ⟨xs, q1, q2⟩ := onSome_inv k2
    exact ⟨.inr rfl, xs, by rw [rvsS_eq k1]; exact q1, q2⟩

/-- The same with boxes: those of the caller stay, those that were made are let go. -/
def retH (rs : List RV) (_h : List HObj) (ret : AV) (h' : List HObj) : VE → Sy → Prop
  | .exit _, _ => False
  | .normal, σ => (∃ ex, σ.h = h' ++ ex) ∧ onSome (rvsS σ rs) fun xs => retAV xs = ret
  | .ret, σ => (∃ ex, σ.h = h' ++ ex) ∧ onSome (rvsS σ rs) fun xs => retAV xs = ret

theorem VCall.ofS {P : Program} (L : Nat → Bool) {f N : Nat} {vc : VC} {rs : List RV} (hf : fnC P f = some (N, vc, rs)) {args : List AV} {h : List HObj} {ret : AV} {h' : List HObj} (ha : args.length ≤ N) (hlen : h.length ≤ h'.length)
    (hret : NP (fun i => i < h'.length) ret) (hnpo : ∀ (i : Nat) (o : HObj), h'[i]? = some o → h[i]? = some o ∨ NPo (fun i => i < h'.length) o)
    (hw : wpV P L N h.length vc (retH rs h ret h') ⟨args, [], h⟩) : VCall P f args h ret h' := by
  obtain ⟨fn, c, h1, h2, h3, rfl, h4, h5, h6⟩ := fnC_inv hf
  refine VCall.of (L := L) h1 h2 h3 h4 h5 h6 ha hlen ?_
  have := wpV_sound hw (args_ok ha)
  rw [args_st ha] at this
  refine this.mono fun x S hx => ?_
  obtain ⟨σ', rfl, k1, k2⟩ := hx
  cases x with
  | exit i => exact k2.elim
  | normal =>
    obtain ⟨⟨ex, q0⟩, k2⟩ := k2
    obtain ⟨xs, q1, q2⟩ := onSome_inv k2
    exact ⟨⟨xs, by rw [rvsS_eq k1]; exact q1, q2.symm⟩, ⟨ex, q0⟩, hlen, hret, hnpo⟩
  | ret =>
    obtain ⟨⟨ex, q0⟩, k2⟩ := k2
    obtain ⟨xs, q1, q2⟩ := onSome_inv k2
    exact ⟨⟨xs, by rw [rvsS_eq k1]; exact q1, q2.symm⟩, ⟨ex, q0⟩, hlen, hret, hnpo⟩

end Go.Proofs.YtmjdoonaidolkaaDoor.V

/- A small logic of values over the model: a loop's round of which the last drawn region goes in the text's order from some point on. -/
namespace Go.Proofs.YtmjdoonaidolkaaDoor.V

section
variable {P : Program} {L : Nat → Bool} {N h0 : Nat}

/-- From the place p on each operation stands behind all that are ahead of it. -/
def totalB (bs : List Nat) (p n : Nat) : Bool := (List.range n).all fun j => decide (j < p) || (List.range j).all fun i => (bs.getD j 0).testBit i

theorem totalB_spec {bs : List Nat} {p n : Nat} (h : totalB bs p n = true) : ∀ j, p ≤ j → j < n → ∀ i, i < j → (bs.getD j 0).testBit i = true := by
  intro j h1 h2 i hi
  unfold totalB at h
  rw [List.all_eq_true] at h
  have := h j (List.mem_range.2 h2)
  rw [Bool.or_eq_true] at this
  rcases this with h' | h'
  · have := of_decide_eq_true h'
    omega
  · rw [List.all_eq_true] at h'
    exact h' i (List.mem_range.2 hi)

theorem Vwp.dregSplit {Q : VE → St → Prop} {l1 l2 : List VOper} {S S1 S' : St} {ds : List (Option Nat × SD)} {rs : List (List Res)} (hs : VRun P L l1 S ds rs S1) (hok : drawOk (befores (l1 ++ l2) []) (ds.map fun p => wrL p.1 p.2) rs = true)
    (htot : totalB (befores (l1 ++ l2) []) l1.length (l1 ++ l2).length = true) (hs2 : VSeq P L l2 S1 S') (hlen1 : S1.t.length = N) (h : Q .normal S') : Vwp P L N h0 (.dreg (l1 ++ l2)) Q S := by
  intro hN hk c0 hc a w fr pi own hr hsz hd
  obtain ⟨id, ops, rfl, h1, h2, h3, h4⟩ := comp_dreg hc
  obtain ⟨k1, k2⟩ := resOps_get h1
  refine wp_region_any h4 ?_
  have hlen : (l1 ++ l2).length = ops.size := by simpa using k1
  have hdst := dstOk_spec h2
  have hget := hs.get (fun o ho t ht => by rw [hN]; exact hdst o (List.mem_append_left _ ho) t ht)
  have hfalse : ∀ j, (Array.replicate ops.size false).getD j false = false := by
    intro j
    rw [Array.getD_eq_getD_getElem?]
    by_cases hj : j < ops.size
    · simp [hj]
    · rw [Array.getElem?_eq_none (by simpa using Nat.le_of_not_lt hj)]; rfl
  have hz0 : runF ds (fun j => (Array.replicate ops.size false).getD j false) 0 S.fs = S.fs := runF_none _ _ _ _ (fun j _ => hfalse j)
  have st0 : Step w w.drew fr fr (fun _ => False) := Step.drew w fr
  have hr0 : Rel w.drew fr pi own S.fs a.tmps := hr.step st0 (fun _ _ _ h => h)
  have hB := totalB_spec htot
  have hres : ∀ (i : Nat) (o : Oper), ops[i]? = some o → ∃ vo, (l1 ++ l2)[i]? = some vo ∧ resOper P true ops o = some vo := fun i o ho => k2 i o (by simpa using ho)
  have hp : l1.length ≤ (l1 ++ l2).length := by rw [List.length_append]; omega
  refine any_split hres hlen (N := N) hdst h3 l1.length hp (by rw [List.take_left]; exact hs) hN hok hB ops.size (Array.replicate ops.size false) a _ fr pi own (by simp) (by simp) (fun j o ho hj => by rw [hfalse] at hj; cases hj) (fun j _ => hfalse j)
    (by rw [hz0]; exact hr0) hsz (fun fuel' listed' a' w' fr' pi' own' c1 c2 c3 e1 e2 e3 e4 => ?_)
  rw [hz0] at e4
  refine tail_sound hres hlen (N := N) hdst h3 l1.length hB hs2 l1.length (Nat.le_refl _) (List.drop_left).symm hp hlen1 fuel' listed' a' w' fr' pi' own' c1 c2 c3 e3 e2 (fun a2 w2 fr2 pi2 own2 g1 g2 g3 g4 g5 g6 => ?_)
  have e5 : Ext w w.drew fr fr pi pi own own S.fs.has := ⟨st0.mono (fun _ _ h => h.elim), fun r b hb => .inl ⟨r, hb⟩, fun _ _ => rfl⟩
  have e6 := (e5.trans e4 (fun i hi => hi)).trans g4 (fun i hi => by
    rw [St.has_iff] at *
    exact Nat.lt_of_lt_of_le hi hget.2.2.2.2.1)
  exact ⟨.normal, S', fr2, pi2, own2, rfl, h, g5, Nat.le_trans hk (Nat.le_trans hget.2.2.2.2.1 g6), g3, g2, g1.trans (e1.trans hd), e6.step, e6.fresh, fun i hi => e6.pi i ((St.has_iff S i).2 (Nat.lt_of_lt_of_le hi hk))⟩

/-- A drawn region of which the second part goes in the text's order; between them the state may be told otherwise. -/
def wpCut (P : Program) (L : Nat → Bool) (l1 l2 : List VOper) (K : Sy → Prop) : Sy → Prop :=
  wpDr P L l1 fun σ ws rs => drawOk (befores (l1 ++ l2) []) ws rs = true ∧ totalB (befores (l1 ++ l2) []) l1.length (l1 ++ l2).length = true ∧ ∃ σ', ShiftS σ σ' ∧ wpOps P L l2 K σ'

theorem VloopS.roundCut {A : VC} {id : Nat} {l1 l2 : List VOper} {Q : VE → Sy → Prop} {σ : Sy}
    (h : wpV P L N h0 A (thenS (wpCut P L l1 l2 (VloopS P L N h0 (.seq A (.block id (.dreg (l1 ++ l2)))) Q)) Q) σ) : VloopS P L N h0 (.seq A (.block id (.dreg (l1 ++ l2)))) Q σ := by
  intro hok
  refine Vloop.round (Vwp.seq ((wpV_sound h hok).mono fun x S hx => ?_))
  obtain ⟨σ1, rfl, h1, h2⟩ := hx
  cases x with
  | exit i => exact ⟨σ1, rfl, h1, h2⟩
  | ret => exact ⟨σ1, rfl, h1, h2⟩
  | normal =>
    refine Vwp.block (L := L) (Vwp.of_dreg (L := L) fun hd => ?_)
    have hd' := dstOk_spec hd
    obtain ⟨σ2, ds, rs, q1, q2, q3, q4, σ3, q5, q6⟩ := wpDr_sound (N := N) h2 h1 (fun o ho => hd' o (List.mem_append_left _ ho))
    have hok3 : σ3.ok N := fun i hi => q5.1 i (q2 i hi)
    obtain ⟨σ4, r1, r2, r3⟩ := wpOps_sound (N := N) q6 hok3 (fun o ho => hd' o (List.mem_append_right _ ho))
    exact Vwp.dregSplit q1 q3 q4 ((ShiftS.seq q5 q2).2 r1) (Sy.st_length _ _) (r3 r2)
end

end Go.Proofs.YtmjdoonaidolkaaDoor.V

/- A small logic of values over the model, part 29: bytes, texts, numbers; what a proof by reckoning needs often. -/
namespace Go.Proofs.YtmjdoonaidolkaaDoor.V

/-- Bytes, as the cells of a slice. -/
def bs (l : List UInt8) : List (List AV) := l.map fun b => [.int .u8 b.toNat]

/-- A text. -/
def st (l : List UInt8) : ByteArray := ⟨l.toArray⟩

theorem bs_len (l : List UInt8) : (bs l).length = l.length := by simp [bs]
theorem st_size (l : List UInt8) : (st l).size = l.length := by simp [st, ByteArray.size]
theorem bs_app (a b : List UInt8) : bs a ++ bs b = bs (a ++ b) := by simp [bs]
theorem bs_take (l : List UInt8) (n : Nat) : (bs l).take n = bs (l.take n) := by simp [bs, List.map_take]
theorem bs_drop (l : List UInt8) (n : Nat) : (bs l).drop n = bs (l.drop n) := by simp [bs, List.map_drop]
theorem bs_st (l : List UInt8) : bytesAV (st l) = bs l := by simp [bytesAV, bs, st]
theorem bs_get {l : List UInt8} {i : Nat} (h : i < l.length) : (bs l)[i]? = some [.int .u8 (l[i].toNat : Int)] := by simp [bs, h]
theorem st_of (s : ByteArray) : s = st s.data.toList := by cases s; simp [st]
theorem st_inj {a b : ByteArray} (h : a.data.toList = b.data.toList) : a = b := by
  cases a with
  | mk x => cases b with
    | mk y => exact congrArg ByteArray.mk (Array.ext' h)

theorem st_cut (l : List UInt8) (a b : Nat) : (st l).extract a b = st ((l.drop a).take (b - a)) := by
  apply st_inj
  rw [ByteArray.data_extract, Array.toList_extract]
  simp [st, List.extract]

theorem toBytes_bs (l : List UInt8) : toBytes (bs l) = some l := by
  induction l with
  | nil => rfl
  | cons a l ih =>
    show (toBytes (bs l)).map _ = _
    rw [ih]
    simp

theorem w_u64 (n : Int) : IntKind.u64.wrap n = n % 18446744073709551616 := by simp [IntKind.wrap, IntKind.bits, IntKind.signed]

theorem take_snoc {α : Type} (l : List α) (k : Nat) (h : k < l.length) : l.take (k + 1) = l.take k ++ [l[k]] := by
  rw [List.take_add_one, List.getElem?_eq_getElem h]; rfl

theorem np_nil {ok : Nat → Prop} : ∀ a, a ∈ ([] : List AV) → NP ok a := by simp
theorem np_cons {ok : Nat → Prop} {a : AV} {l : List AV} (h : NP ok a) (hl : ∀ x, x ∈ l → NP ok x) : ∀ x, x ∈ a :: l → NP ok x := by
  intro x hx
  rcases List.mem_cons.1 hx with rfl | hx
  · exact h
  · exact hl x hx
theorem np_bs {ok : Nat → Prop} {sz : Nat} {nl : Option Bool} {own : Bool} (l : List UInt8) : NP ok (.sl sz nl own (bs l)) := by
  refine .sl _ _ _ _ fun x hx a ha => ?_
  simp only [bs, List.mem_map] at hx
  obtain ⟨b, _, rfl⟩ := hx
  simp only [List.mem_singleton] at ha
  subst ha
  exact .int _ _
theorem np_nilsl {ok : Nat → Prop} {sz : Nat} {nl : Option Bool} {own : Bool} : NP ok (.sl sz nl own []) := .sl _ _ _ _ (by simp)

theorem Wk.eq {a b : AV} (h : a = b) : Wk a b := h ▸ .refl a

theorem sl_eq {sz : Nat} {nl : Option Bool} {own : Bool} {xs ys : List (List AV)} (h : xs = ys) : AV.sl sz nl own xs = AV.sl sz nl own ys := congrArg _ h
theorem int_eq {k : IntKind} {a b : Int} (h : a = b) : AV.int k a = AV.int k b := congrArg _ h
theorem bool_eq {a b : Bool} (h : a = b) : AV.bool a = AV.bool b := congrArg _ h
theorem str_eq {a b : ByteArray} (h : a = b) : AV.str a = AV.str b := congrArg _ h
theorem tup2 {a a' b b' : AV} (h1 : a = a') (h2 : b = b') : AV.tup [a, b] = AV.tup [a', b'] := by rw [h1, h2]
theorem tup3 {a a' b b' c c' : AV} (h1 : a = a') (h2 : b = b') (h3 : c = c') : AV.tup [a, b, c] = AV.tup [a', b', c'] := by rw [h1, h2, h3]
theorem agg2 {a a' b b' : AV} (h1 : a = a') (h2 : b = b') : AV.agg [a, b] = AV.agg [a', b'] := by rw [h1, h2]
theorem agg3 {a a' b b' c c' : AV} (h1 : a = a') (h2 : b = b') (h3 : c = c') : AV.agg [a, b, c] = AV.agg [a', b', c'] := by rw [h1, h2, h3]

/-- Cut out of bytes. -/
theorem cut_bs {l : List UInt8} {i j : Int} {a b : Nat} (hi : i = a) (hj : j = b) (_h : b ≤ l.length) : ((bs l).drop i.toNat).take (j.toNat - i.toNat) = bs ((l.drop a).take (b - a)) := by
  subst hi hj
  rw [bs_drop, bs_take]
  simp

/-- Which moves carry ownership. -/
def tr (l : List Nat) : Nat → Bool := fun d => l.any fun i => Nat.beq i d

theorem cond_t {b : Bool} {A B : Prop} (hb : b = true) (h : A) : (b = true → A) ∧ (b = false → B) := ⟨fun _ => h, fun e => by rw [hb] at e; cases e⟩
theorem cond_f {b : Bool} {A B : Prop} (hb : b = false) (h : B) : (b = true → A) ∧ (b = false → B) := ⟨fun e => by rw [hb] at e; (cases e), fun _ => h⟩

end Go.Proofs.YtmjdoonaidolkaaDoor.V

/- A small logic of values over the model, part 30: contracts that are used where more, or less, is known. -/
namespace Go.Proofs.YtmjdoonaidolkaaDoor.V

theorem Rep.nil_split {w : World} {fr pi : Nat → Nat} {sz : Nat} {own : Bool} {xs : List (List AV)} {v : Value} {O : List Nat} (h : Rep w fr pi (.sl sz none own xs) v O) :
    (xs = [] ∧ Rep w fr pi (.sl sz (some true) own []) v O) ∨ Rep w fr pi (.sl sz (some false) own xs) v O := by
  cases h with
  | slnil _ _ _ h0 => exact .inl ⟨rfl, .slnil _ _ _ (by simp)⟩
  | slempty _ _ ad cap h0 => exact .inr (.slempty _ _ ad cap (by simp))
  | sl _ _ _ b o cap vs h0 h1 h2 h3 h4 => exact .inr (.sl _ _ _ b o cap vs (by simp) h1 h2 h3 h4)
  | slown _ _ _ b o cap vs h0 h1 h2 h3 h4 h5 => exact .inr (.slown _ _ _ b o cap vs (by simp) h1 h2 h3 h4 h5)

/-- One slot is told otherwise. -/
theorem Rel.refine {w : World} {fr pi : Nat → Nat} {own : Res → List Nat} {args : List AV} {h : List HObj} {tm : Array Value} (hr : Rel w fr pi own (FS.of args h) tm) {i : Nat} {a : AV} (hi : i < args.length)
    (ha : Rep w fr pi a (tm.getD i Go.undef) (own (.slot i))) (hn : NP (FS.of args h).has a) : Rel w fr pi own (FS.of (args.set i a) h) tm := by
  have hget : ∀ j, (args.set i a).getD j .undef = if i = j then a else args.getD j .undef := by
    intro j
    rw [List.getD_eq_getElem?_getD, List.getElem?_set]
    split
    · rename_i e
      subst e
      first | rfl | (rw [if_pos hi]; rfl)
    · rw [← List.getD_eq_getElem?_getD]
  refine ⟨fun j => ?_, fun j => ?_, hr.box, hr.boxnp, hr.nobox, hr.nd, hr.dj, hr.live⟩
  · show Rep w fr pi ((args.set i a).getD j .undef) _ _
    rw [hget]
    split
    · rename_i e
      subst e
      exact ha
    · exact hr.slot j
  · show NP _ ((args.set i a).getD j .undef)
    rw [hget]
    split
    · exact hn
    · exact hr.slotnp j

/-- Whether a slice is nil may be asked. -/
theorem PCall.splitNil {P : Program} {f : Nat} {args : List AV} {ret : AV} (i : Nat) {sz : Nat} {own : Bool} {xs : List (List AV)} (hi : args[i]? = some (.sl sz none own xs))
    (ht : xs = [] → PCall P f (args.set i (.sl sz (some true) own [])) ret) (hf : PCall P f (args.set i (.sl sz (some false) own xs)) ret) : PCall P f args ret := by
  refine ⟨hf.1, hf.2.1, fun w fr pi own0 vals hl hr => ?_⟩
  have hlt : i < args.length := by
    rcases Nat.lt_or_ge i args.length with h1 | h1
    · exact h1
    · simp [List.getElem?_eq_none h1] at hi
  have hs : (FS.of args []).sl i = .sl sz none own xs := by
    show args.getD i .undef = _
    rw [List.getD_eq_getElem?_getD, hi]; rfl
  have h1 := hr.slot i
  have h2 := hr.slotnp i
  rw [hs] at h1 h2
  rcases h1.nil_split with ⟨e, h3⟩ | h3
  · exact (ht e).2.2 w fr pi own0 vals (by simpa using hl) (hr.refine hlt h3 (.sl _ _ _ _ (by simp)))
  · exact hf.2.2 w fr pi own0 vals (by simpa using hl) (hr.refine hlt h3 (.sl _ _ _ _ h2.sl_inv))

/-- A contract that asks less than is known. -/
theorem PCall.weakArgs {P : Program} {f : Nat} {args args' : List AV} {ret : AV} (h : WkL args args') (hc : PCall P f args' ret) : PCall P f args ret := by
  refine ⟨hc.1, hc.2.1, fun w fr pi own vals hl hr => ?_⟩
  have hr0 : Rel w fr pi own (St.fs ⟨args, []⟩) vals.toArray := hr
  obtain ⟨own', h1, h2⟩ := hr0.weak (S0 := ⟨args', []⟩) h (ex := []) rfl (.inl rfl)
  have h3 : Rel w fr pi own' (FS.of args' []) vals.toArray := h1
  refine (hc.2.2 w fr pi own' vals (by rw [hl, h.length]) h3).mono fun e w' hp => ?_
  obtain ⟨v, fr', pi', own2, k1, k2, k3⟩ := hp
  refine ⟨v, fr', pi', own2, k1, k2, k3.step.mono (fun b _ ⟨r, hr⟩ => ⟨r, h2 r b hr⟩), fun r b hb => ?_, k3.pi⟩
  rcases k3.fresh r b hb with ⟨r', hr'⟩ | h'
  · exact .inl ⟨r', h2 r' b hr'⟩
  · exact .inr h'

/-- A contract's result, told less of. -/
theorem PCall.weakRet {P : Program} {f : Nat} {args : List AV} {ret ret' : AV} (h : Wk ret ret') (hc : PCall P f args ret) : PCall P f args ret' := by
  refine ⟨hc.1, hc.2.1, fun w fr pi own vals hl hr => ?_⟩
  refine (hc.2.2 w fr pi own vals hl hr).mono fun e w' hp => ?_
  obtain ⟨v, fr', pi', own2, k1, k2, k3⟩ := hp
  have hr0 : Rel w' fr' pi' own2 (St.fs ⟨[ret], []⟩) #[v] := k2
  obtain ⟨own', h1, h2⟩ := hr0.weak (S0 := ⟨[ret'], []⟩) (.cons _ _ _ _ h .nil) (ex := []) rfl (.inl rfl)
  exact ⟨v, fr', pi', own', k1, h1, k3.step, fun r b hb => k3.fresh r b (h2 r b hb), k3.pi⟩

theorem PCallN.weakRet {P : Program} {f : Nat} {args : List AV} {ret ret' : AV} (h : Wk ret ret') (hc : PCallN P f args ret) : PCallN P f args ret' := ⟨hc.1, hc.2.weakRet h⟩

theorem PCallN.weakArgs {P : Program} {f : Nat} {args args' : List AV} {ret : AV} (h : WkL args args') (hn : ∀ a, a ∈ args → NP (fun _ => False) a) (hc : PCallN P f args' ret) : PCallN P f args ret := ⟨hn, hc.2.weakArgs h⟩

theorem PCallN.splitNil {P : Program} {f : Nat} {args : List AV} {ret : AV} (i : Nat) {sz : Nat} {own : Bool} {xs : List (List AV)} (hi : args[i]? = some (.sl sz none own xs)) (hn : ∀ a, a ∈ args → NP (fun _ => False) a)
    (ht : xs = [] → PCallN P f (args.set i (.sl sz (some true) own [])) ret) (hf : PCallN P f (args.set i (.sl sz (some false) own xs)) ret) : PCallN P f args ret :=
  ⟨hn, PCall.splitNil i hi (fun e => (ht e).2) hf.2⟩

theorem call_p {P : Program} {f : Nat} {args : List AV} {ret : AV} {K : AV → Prop} {B : Prop} (h : PCallN P f args ret) (k : K ret) : (∃ ret, PCallN P f args ret ∧ K ret) ∨ B := .inl ⟨ret, h, k⟩
theorem call_d {P : Program} {f : Nat} {args : List AV} {ret : AV} {K : AV → Prop} {B : Prop} (h : PCallN P f args ret) (k : K ret) : (∃ ret, PCallN P f args ret ∧ K ret) ∨ B := .inl ⟨ret, h, k⟩
theorem call_h {P : Program} {f : Nat} {args : List AV} {h : List HObj} {ret : AV} {h' : List HObj} {A B : Prop} {K : AV → List HObj → Prop} (hc : VCall P f args h ret h') (k : K ret h') : A ∨ ((∃ ret h', VCall P f args h ret h' ∧ K ret h') ∨ B) := .inr (.inl ⟨ret, h', hc, k⟩)
theorem call_b {P : Program} {f : Nat} {off : Nat} {rest : List AV} {ob : HObj} {ret : AV} {ob' : HObj} {A B C : Prop} {K : AV → HObj → Prop} (h1 : ∀ a, a ∈ rest → NP (fun _ => False) a) (h2 : NPo (fun _ => False) ob) (h3 : NPo (fun _ => False) ob') (h4 : NP (fun _ => False) ret)
    (hc : VCall P f (.ptr (some (0, off)) :: rest) [ob] ret [ob']) (k : K ret ob') : A ∨ (B ∨ ((∃ ret ob', (∀ a, a ∈ rest → NP (fun _ => False) a) ∧ NPo (fun _ => False) ob ∧ NPo (fun _ => False) ob' ∧ NP (fun _ => False) ret ∧ VCall P f (.ptr (some (0, off)) :: rest) [ob] ret [ob'] ∧ K ret ob') ∨ C)) := .inr (.inr (.inl ⟨ret, ob', h1, h2, h3, h4, hc, k⟩))
theorem call_bd {P : Program} {f : Nat} {off : Nat} {rest : List AV} {ob : HObj} {ret : AV} {ob' : HObj} {A B : Prop} {K : AV → HObj → Prop} (h1 : ∀ a, a ∈ rest → NP (fun _ => False) a) (h2 : NPo (fun _ => False) ob) (h3 : NPo (fun _ => False) ob') (h4 : NP (fun _ => False) ret)
    (hc : VCall P f (.ptr (some (0, off)) :: rest) [ob] ret [ob']) (k : K ret ob') : A ∨ (B ∨ (∃ ret ob', (∀ a, a ∈ rest → NP (fun _ => False) a) ∧ NPo (fun _ => False) ob ∧ NPo (fun _ => False) ob' ∧ NP (fun _ => False) ret ∧ VCall P f (.ptr (some (0, off)) :: rest) [ob] ret [ob'] ∧ K ret ob')) := .inr (.inr ⟨ret, ob', h1, h2, h3, h4, hc, k⟩)
/-- A call where the state is told otherwise first. -/
theorem call_s {P : Program} {σ : Sy} {f : VX} {args : List VX} {on : (Nat → AV) → Prop} {K : Sy → SD → Prop} {A B C : Prop} (l : List (Nat × AV)) (h : List HObj) (hs : ShiftS σ ⟨[], l, h⟩) (ho : on (⟨[], l, h⟩ : Sy).get) (k : wpPC P ⟨[], l, h⟩ f args (K ⟨[], l, h⟩)) : A ∨ (B ∨ (C ∨ wpSC P σ f args on K)) := .inr (.inr (.inr ⟨_, hs, ho, k⟩))
theorem call_sp {P : Program} {f : Nat} {args : List AV} {ret : AV} {K : AV → Prop} (h : PCallN P f args ret) (k : K ret) : ∃ ret, PCallN P f args ret ∧ K ret := ⟨ret, h, k⟩
theorem guard_t {b w : Bool} {A B : Prop} (h : b = w) (k : A) : (b = w → A) ∧ (b ≠ w → B) := ⟨fun _ => k, fun e => absurd h e⟩
theorem guard_f {b w : Bool} {A B : Prop} (h : b ≠ w) (k : B) : (b = w → A) ∧ (b ≠ w → B) := ⟨fun e => absurd e h, fun _ => k⟩

end Go.Proofs.YtmjdoonaidolkaaDoor.V

/- A small logic of values over the model, part 31: what an argument is, of which a claim's row speaks. -/
namespace Go.Proofs.YtmjdoonaidolkaaDoor.V

mutual
/-- The cells that a value of a plain type may have. -/
inductive Shape (P : Program) : TypeId → List AV → Prop
  | bool (t : TypeId) (b : Bool) : P.underlying t = some .bool → Shape P t [.bool b]
  | int (t : TypeId) (k : IntKind) (n : Int) : P.underlying t = some (.int k) → (Lit.int k n).wf = true → Shape P t [.int k n]
  | str (t : TypeId) (s : ByteArray) : P.underlying t = some .string → s.size ≤ maxLen → Shape P t [.str s]
  | slnil (t e : TypeId) : P.underlying t = some (.slice e) → Shape P t [.sl (P.cellsOf e) (some true) false []]
  | sl (t e : TypeId) (xs : List (List AV)) : P.underlying t = some (.slice e) → (∀ x, x ∈ xs → Shape P e x) → xs.length ≤ maxLen → Shape P t [.sl (P.cellsOf e) (some false) false xs]
  | struct (t : TypeId) (fs : Array Field) (as : List AV) : P.underlying t = some (.struct fs) → Shapes P (fs.toList.map (·.type)) as → Shape P t as
/-- Cells one behind the other. -/
inductive Shapes (P : Program) : List TypeId → List AV → Prop
  | nil : Shapes P [] []
  | cons (t : TypeId) (ts : List TypeId) (as bs : List AV) : Shape P t as → Shapes P ts bs → Shapes P (t :: ts) (as ++ bs)
end

def contig (P : Program) (n : Nat) : List Field → Option Nat
  | [] => some n
  | f :: r => if f.offset = n then contig P (n + P.cellsOf f.type) r else none

/-- Is it a plain type: of Bools, numbers, texts, slices, structs? -/
def plainB (P : Program) : Nat → TypeId → Bool
  | 0, _ => false
  | n + 1, t => match P.underlying t with
    | some .bool => true
    | some (.int _) => true
    | some .string => true
    | some (.slice e) => decide (P.cellsOf e ≠ 0) && plainB P n e
    | some (.struct fs) => decide (contig P 0 fs.toList = some (P.cellsOf t)) && fs.toList.all fun f => plainB P n f.type
    | _ => false

mutual
theorem Shape.one {P : Program} : ∀ {t : TypeId} {as : List AV}, Shape P t as → as.all AV.one = true
  | _, _, .bool .. => rfl
  | _, _, .int .. => rfl
  | _, _, .str .. => rfl
  | _, _, .slnil .. => rfl
  | _, _, .sl .. => rfl
  | _, _, .struct _ _ _ _ h => Shapes.one h
theorem Shapes.one {P : Program} : ∀ {ts : List TypeId} {as : List AV}, Shapes P ts as → as.all AV.one = true
  | _, _, .nil => rfl
  | _, _, .cons _ _ _ _ h1 h2 => by rw [List.all_append, Shape.one h1, Shapes.one h2]; rfl
end

mutual
theorem Shape.np {P : Program} : ∀ {t : TypeId} {as : List AV}, Shape P t as → ∀ a, a ∈ as → NP (fun _ => False) a
  | _, _, .bool _ b _ => np_cons (.bool _) np_nil
  | _, _, .int .. => np_cons (.int _ _) np_nil
  | _, _, .str .. => np_cons (.str _) np_nil
  | _, _, .slnil .. => np_cons np_nilsl np_nil
  | _, _, .sl _ e xs _ h _ => np_cons (.sl _ _ _ _ fun x hx a ha => Shape.np (h x hx) a ha) np_nil
  | _, _, .struct _ _ _ _ h => Shapes.np h
theorem Shapes.np {P : Program} : ∀ {ts : List TypeId} {as : List AV}, Shapes P ts as → ∀ a, a ∈ as → NP (fun _ => False) a
  | _, _, .nil => np_nil
  | _, _, .cons _ _ _ _ h1 h2 => fun a ha => by
    rcases List.mem_append.1 ha with ha | ha
    · exact Shape.np h1 a ha
    · exact Shapes.np h2 a ha
end

theorem Reps.app0 {w : World} {fr pi : Nat → Nat} : ∀ {as : List AV} {vs : List Value}, Reps w fr pi as vs [] → ∀ {bs : List AV} {us : List Value}, Reps w fr pi bs us [] → Reps w fr pi (as ++ bs) (vs ++ us) []
  | [], _, h, _, _, h' => by cases h; exact h'
  | a :: as, _, h, _, _, h' => by
    obtain ⟨v, vs', rfl, h1, h2⟩ := h.cons_inv0
    exact .cons _ _ [] _ _ [] h1 (Reps.app0 h2 h')

theorem add_add (a : Addr) (m n : Nat) : (a.add m).add n = a.add (m + n) := by
  unfold Addr.add
  by_cases hm : m = 0
  · subst hm; simp
  · by_cases hn : n = 0
    · subst hn; simp
    · rw [if_neg hn, if_neg hm, if_neg (by omega)]
      simp [Nat.add_assoc]

theorem mapM_some {α β : Type} {f : α → Option β} : ∀ {l : List α} {r : List β}, l.mapM f = some r → r.length = l.length ∧ ∀ (i : Nat) (x : α), l[i]? = some x → f x = r[i]?
  | [], r, h => by simp at h; subst h; simp
  | a :: l, r, h => by
    simp only [List.mapM_cons, Option.bind_eq_bind, Option.pure_def, Option.bind_eq_some_iff, Option.some.injEq] at h
    obtain ⟨b, h1, bs, h2, rfl⟩ := h
    obtain ⟨k1, k2⟩ := mapM_some h2
    refine ⟨by simp [k1], fun i x hx => ?_⟩
    cases i with
    | zero => simp at hx; subst hx; simpa using h1
    | succ i => simpa using k2 i x (by simpa using hx)

theorem cells_get {w : World} {base : Nat} {a : Addr} {n : Nat} {cs : List Value} (h : w.cells? base a n = some cs) : cs.length = n ∧ ∀ (k : Nat) (v : Value), cs[k]? = some v → w.cell? (a.add k) = some v := by
  unfold World.cells? at h
  split at h
  · obtain ⟨h1, h2⟩ := mapM_some h
    rw [List.length_range] at h1
    refine ⟨h1, fun k v hk => ?_⟩
    have hlt : k < n := by
      rcases Nat.lt_or_ge k cs.length with h' | h'
      · omega
      · simp [List.getElem?_eq_none h'] at hk
    rw [h2 k k (by rw [List.getElem?_range hlt]), hk]
  · cases h

section
variable {H : Type} {enc : TypeId × Value → H} {P : Program} {w : World} {base : Nat} {spare : Nat → Bool} {held : Bool} {fr pi : Nat → Nat}

theorem cell_lt {w : World} {a : Addr} {v : Value} (hfr : ∀ b c el z, w.heap[b]? = some (.cells c el z) → c.size ≤ fr b) (h : w.cell? a = some v) : a.spot = none ∧ a.off < fr a.block := by
  unfold World.cell? at h
  split at h
  · rename_i c el z hc
    split at h
    · cases h
    · rename_i hs
      have hlt : a.off < c.size := by
        rcases Nat.lt_or_ge a.off c.size with h' | h'
        · exact h'
        · simp [Array.getElem?_eq_none h'] at h
      exact ⟨by simpa using hs, Nat.lt_of_lt_of_le hlt (hfr _ _ _ _ hc)⟩
  · cases h

/-- Elements one behind the other. -/
theorem elems_rep {e : TypeId} {a : Addr} {c : Nat} : ∀ (len : Nat), (∀ i, i < len → ∃ cs as, w.cells? base (a.add (i * c)) c = some cs ∧ Shape P e as ∧ Reps w fr pi as cs []) →
    ∃ (xs : List (List AV)) (vs : List Value), xs.length = len ∧ (∀ x, x ∈ xs → Shape P e x ∧ x.length = c) ∧ Reps w fr pi xs.flatten vs [] ∧ vs.length = len * c ∧ ∀ (k : Nat) (v : Value), vs[k]? = some v → w.cell? (a.add k) = some v
  | 0, _ => ⟨[], [], rfl, by simp, .nil, by simp, by simp⟩
  | len + 1, h => by
    obtain ⟨xs, vs, h1, h2, h3, h4, h5⟩ := elems_rep len fun i hi => h i (by omega)
    obtain ⟨cs, as, k1, k2, k3⟩ := h len (by omega)
    obtain ⟨q1, q2⟩ := cells_get k1
    refine ⟨xs ++ [as], vs ++ cs, by simp [h1], fun x hx => ?_, ?_, by rw [List.length_append, h4, q1, Nat.add_mul]; omega, fun k v hk => ?_⟩
    · rcases List.mem_append.1 hx with hx | hx
      · exact h2 x hx
      · simp at hx
        subst hx
        exact ⟨k2, by rw [k3.length, q1]⟩
    · rw [List.flatten_append]
      simpa using h3.app0 k3
    · rcases Nat.lt_or_ge k vs.length with hlt | hge
      · exact h5 k v (by rw [List.getElem?_append_left hlt] at hk; exact hk)
      · rw [List.getElem?_append_right hge] at hk
        have := q2 _ v hk
        rw [add_add] at this
        rw [← this]
        congr 2
        omega

theorem trod_rep (hfr : ∀ b c el z, w.heap[b]? = some (.cells c el z) → c.size ≤ fr b) : ∀ (n : Nat) (t : TypeId), plainB P n t = true → ∀ {fuel : Nat} {cs : List Value} {x : DataW H × List MemPlace},
    DataW.trod enc P w base spare held fuel t cs = some x → ∃ as, Shape P t as ∧ Reps w fr pi as cs []
  | 0, t, hp, _, _, _, _ => by cases hp
  | n + 1, t, hp, fuel, cs, x, h => by
    unfold plainB at hp
    split at hp
    · rename_i ht
      obtain ⟨b, rfl, _⟩ := DataW.trod_bool ht h
      exact ⟨_, .bool t b ht, .cons _ _ [] _ _ [] (.bool b) .nil⟩
    · rename_i k ht
      obtain ⟨i, rfl, _, hw⟩ := DataW.trod_int ht h
      exact ⟨_, .int t k i ht hw, .cons _ _ [] _ _ [] (.int k i) .nil⟩
    · rename_i ht
      obtain ⟨s, rfl, _, hs⟩ := DataW.trod_string ht h
      exact ⟨_, .str t s ht hs, .cons _ _ [] _ _ [] (.str s) .nil⟩
    · rename_i e ht
      simp only [Bool.and_eq_true, decide_eq_true_eq] at hp
      obtain ⟨hc, hp⟩ := hp
      rcases Deep.open_slice ht h with ⟨rfl, _⟩ | ⟨a, len, cap, m, n', D, Pl, rfl, hb, hl, hm, hmm, rfl, hx⟩
      · exact ⟨_, .slnil t e ht, .cons _ _ [] _ _ [] (.slnil _ _ _ (by simp)) .nil⟩
      · have hlm : len ≤ m := by rw [hmm]; split <;> omega
        obtain ⟨xs, vs, h1, h2, h3, h4, h5⟩ := elems_rep (w := w) (fr := fr) (pi := pi) (P := P) (base := base) (e := e) (a := a) (c := P.cellsOf e) len fun i hi => by
          obtain ⟨cs', q1, q2⟩ := hx i (by omega)
          obtain ⟨as, q3, q4⟩ := trod_rep hfr n e hp q2
          exact ⟨cs', as, q1, q3, q4⟩
        have hsh : Shape P t [.sl (P.cellsOf e) (some false) false xs] := .sl t e xs ht (fun x hx => (h2 x hx).1) (by rw [h1]; omega)
        refine ⟨_, hsh, .cons _ _ [] _ _ [] ?_ .nil⟩
        by_cases h0 : len = 0
        · subst h0
          have : xs = [] := List.eq_nil_of_length_eq_zero h1
          subst this
          exact .slempty _ _ a cap (by simp)
        · have hv0 : 0 < vs.length := by rw [h4]; exact Nat.mul_pos (by omega) (by omega)
          have hc0 := h5 0 _ (List.getElem?_eq_getElem hv0)
          rw [show a.add 0 = a by simp [Addr.add]] at hc0
          obtain ⟨hs, _⟩ := cell_lt hfr hc0
          obtain ⟨b, o, sp⟩ := a
          simp only at hs
          subst hs
          rw [← h1]
          refine .sl _ _ xs b o cap vs (by simp) (fun x hx => (h2 x hx).2) h3 (fun k v hk => ?_) (by omega)
          have hk' := h5 k v hk
          rw [addr_add] at hk'
          refine ⟨hk', (cell_lt hfr hk').2, ?_⟩
          refine ones_rep h3 ?_ v (List.mem_of_getElem? hk)
          rw [List.all_flatten]
          exact List.all_eq_true.2 fun x hx => (h2 x hx).1.one
    · rename_i fs ht
      simp only [Bool.and_eq_true, decide_eq_true_eq] at hp
      obtain ⟨hc, hp⟩ := hp
      obtain ⟨xs, n', rfl, rfl, hl, hlen, hf⟩ := DataW.trod_struct ht h
      have key : ∀ (l : List Field) (off : Nat), contig P off l = some (P.cellsOf t) → (∀ f, f ∈ l → plainB P n f.type = true) → (∀ f, f ∈ l → ∃ y, DataW.trod enc P w base spare held n' f.type ((cs.drop f.offset).take (P.cellsOf f.type)) = some y) →
          ∃ as, Shapes P (l.map (·.type)) as ∧ Reps w fr pi as (cs.drop off) [] := by
        intro l
        induction l with
        | nil =>
          intro off h1 _ _
          simp only [contig, Option.some.injEq] at h1
          refine ⟨[], .nil, ?_⟩
          rw [List.drop_eq_nil_of_le (by omega)]
          exact .nil
        | cons f l ih =>
          intro off h1 h2 h3
          simp only [contig] at h1
          split at h1
          · rename_i ho
            obtain ⟨as, q1, q2⟩ := ih _ h1 (fun g hg => h2 g (by simp [hg])) (fun g hg => h3 g (by simp [hg]))
            obtain ⟨y, hy⟩ := h3 f (by simp)
            obtain ⟨bs, r1, r2⟩ := trod_rep hfr n f.type (h2 f (by simp)) hy
            refine ⟨bs ++ as, .cons _ _ _ _ r1 q1, ?_⟩
            have e : cs.drop off = (cs.drop f.offset).take (P.cellsOf f.type) ++ cs.drop (off + P.cellsOf f.type) := by
              rw [ho, ← List.drop_drop, List.take_append_drop]
            rw [e]
            exact r2.app0 q2
          · cases h1
      obtain ⟨as, k1, k2⟩ := key fs.toList 0 hc (fun f hf' => by
        rw [List.all_eq_true] at hp
        exact hp f hf') (fun f hf' => by
        obtain ⟨i, hi⟩ := List.getElem?_of_mem hf'
        have hi' : fs[i]? = some f := by simpa using hi
        have hlt : i < xs.length := by
          rw [hlen]
          rcases Nat.lt_or_ge i fs.size with h' | h'
          · exact h'
          · simp [Array.getElem?_eq_none h'] at hi'
        exact ⟨xs[i], by rw [hf i f hi', List.getElem?_eq_getElem hlt]⟩)
      exact ⟨as, .struct t fs as ht k1, by simpa using k2⟩
    · cases hp

end
end Go.Proofs.YtmjdoonaidolkaaDoor.V

/- A small logic of values over the model, part 32: from a contract to a claim's row: the law answers true, and what it was given reads as before. -/
namespace Go.Proofs.YtmjdoonaidolkaaDoor.V
open Go.ChangeShapes Go.WideShapes Go.ChangeAt Go.RowKit

/-- What an argument of a type may be. -/
inductive Par (P : Program) : TypeId → AV → Prop
  | one (t : TypeId) (a : AV) : (∀ fs, P.underlying t ≠ some (.struct fs)) → Shape P t [a] → Par P t a
  | agg (t : TypeId) (fs : Array Field) (as : List AV) : P.underlying t = some (.struct fs) → Shape P t as → Par P t (.agg as)

inductive Pars (P : Program) : List TypeId → List AV → Prop
  | nil : Pars P [] []
  | cons (t : TypeId) (a : AV) (ts : List TypeId) (as : List AV) : Par P t a → Pars P ts as → Pars P (t :: ts) (a :: as)

theorem Pars.length {P : Program} : ∀ {ts : List TypeId} {as : List AV}, Pars P ts as → as.length = ts.length
  | _, _, .nil => rfl
  | _, _, .cons _ _ _ _ _ h => by simp [Pars.length h]

theorem Par.np {P : Program} {t : TypeId} {a : AV} (h : Par P t a) : NP (fun _ => False) a := by
  cases h with
  | one _ _ h => exact h.np a (by simp)
  | agg fs as _ h => exact .agg _ h.np

theorem Pars.np {P : Program} : ∀ {ts : List TypeId} {as : List AV}, Pars P ts as → ∀ a, a ∈ as → NP (fun _ => False) a
  | _, _, .nil => by simp
  | _, _, .cons _ _ _ _ h1 h2 => fun a ha => by
    rcases List.mem_cons.1 ha with rfl | ha
    · exact h1.np
    · exact Pars.np h2 a ha

section
variable {H : Type} {enc : TypeId × Value → H} {P : Program} {w : World} {base : Nat} {spare : Nat → Bool} {held : Bool} {fr pi : Nat → Nat}

theorem par_rep (hfr : ∀ b c el z, w.heap[b]? = some (.cells c el z) → c.size ≤ fr b) {n : Nat} {t : TypeId} (hp : plainB P n t = true) {r : Reach} {b0 : Nat} {v : Value} (hv : Value.okWide P w r b0 t v) {d : DataW H} {ps : List MemPlace}
    (h : DataW.Trod enc P w base spare held t v d ps) : ∃ a, Par P t a ∧ Rep w fr pi a v [] := by
  obtain ⟨fuel, h⟩ := h
  obtain ⟨as, h1, h2⟩ := trod_rep (w := w) (fr := fr) (pi := pi) hfr n t hp h
  have key : (∀ fs, P.underlying t ≠ some (.struct fs)) → (∀ cs, v ≠ .agg cs) → as.length = 1 → ∃ a, Par P t a ∧ Rep w fr pi a v [] := by
    intro hns hne hl
    obtain ⟨a, rfl⟩ := List.length_eq_one_iff.1 hl
    obtain ⟨u, vs, e, h3, h4⟩ := h2.cons_inv0
    have hc : v.cells = #[v] := by cases v <;> first | rfl | exact absurd rfl (hne _)
    rw [hc] at e
    simp only [List.cons.injEq] at e
    exact ⟨a, .one t a hns h1, e.1 ▸ h3⟩
  have noAgg : ∀ {k : TypeDesc}, P.underlying t = some k → (∀ fs, k ≠ .struct fs) → (∀ m e, k ≠ .array m e) → (∀ u ms, Cell.okWide P w r b0 t v → (k = .bool ∨ (∃ i, k = .int i) ∨ k = .string ∨ ∃ e, k = .slice e) → u = v → v ≠ .agg ms) := by
    intro k hk _ _ u ms hok hk2 _ e
    subst e
    unfold Cell.okWide at hok
    rw [hk] at hok
    rcases hk2 with rfl | ⟨i, rfl⟩ | rfl | ⟨e, rfl⟩ <;> simp [Cell.ok, hk] at hok
  cases h1 with
  | bool _ b ht => exact key (by rw [ht]; simp) (fun ms => noAgg ht (by simp) (by simp) v ms (by simpa [Value.okWide, ht] using hv) (by simp) rfl) rfl
  | int _ k i ht hw => exact key (by rw [ht]; simp) (fun ms => noAgg ht (by simp) (by simp) v ms (by simpa [Value.okWide, ht] using hv) (by simp) rfl) rfl
  | str _ s ht hw => exact key (by rw [ht]; simp) (fun ms => noAgg ht (by simp) (by simp) v ms (by simpa [Value.okWide, ht] using hv) (by simp) rfl) rfl
  | slnil _ e ht => exact key (by rw [ht]; simp) (fun ms => noAgg ht (by simp) (by simp) v ms (by simpa [Value.okWide, ht] using hv) (by simp) rfl) rfl
  | sl _ e xs ht hx hl => exact key (by rw [ht]; simp) (fun ms => noAgg ht (by simp) (by simp) v ms (by simpa [Value.okWide, ht] using hv) (by simp) rfl) rfl
  | struct _ fs _ ht hs =>
    simp only [Value.okWide, ht] at hv
    obtain ⟨cs, rfl, _, _⟩ := hv
    refine ⟨.agg as, .agg t fs as ht (.struct t fs as ht hs), ?_⟩
    have := Rep.agg (w := w) (fr := fr) (pi := pi) as cs.toList [] h2
    simpa using this

theorem pars_rep (hfr : ∀ b c el z, w.heap[b]? = some (.cells c el z) → c.size ≤ fr b) {n : Nat} {r : Reach} {b0 : Nat} : ∀ {ts : List TypeId} {vs : List Value} {ds : List (DataW H)} {ps : List MemPlace}, ts.all (plainB P n) = true →
    (∀ (j : Nat) t v, ts[j]? = some t → vs[j]? = some v → Value.okWide P w r b0 t v) → DataW.TrodAll enc P w base spare held ts vs ds ps → ∃ as, Pars P ts as ∧ Reps w fr pi as vs [] ∧ ds.length = ts.length
  | [], vs, ds, ps, _, _, h => by
    obtain ⟨rfl, rfl, _⟩ := trodAll_nil h
    exact ⟨[], .nil, .nil, rfl⟩
  | t :: ts, vs, ds, ps, hp, hv, h => by
    obtain ⟨v, vs, d, ds, p, q, rfl, rfl, rfl, h1, h2⟩ := trodAll_cons h
    simp only [List.all_cons, Bool.and_eq_true] at hp
    obtain ⟨a, k1, k2⟩ := par_rep (pi := pi) hfr hp.1 (hv 0 t v rfl rfl) h1
    obtain ⟨as, k3, k4, k5⟩ := pars_rep hfr hp.2 (fun j t v h1 h2 => hv (j + 1) t v h1 h2) h2
    exact ⟨a :: as, .cons _ _ _ _ k1 k3, .cons _ _ [] _ _ [] k2 k4, by simp [k5]⟩

theorem trodAll_below (hl : laidOutB P = true) {W W' : World} (hb : Go.RowKit.Below W.heap.size W W') : ∀ {ts : List TypeId} {vs : List Value} {ds : List (DataW H)} {ps : List MemPlace}, (∀ t, t ∈ ts → P.readableRec t = true ∧ t < P.types.size) →
    (∀ p, p ∈ ps → p.block < W.heap.size) → DataW.TrodAll enc P W 0 (fun _ => true) true ts vs ds ps → ∀ sp : Nat → Bool, (∀ p ∈ ps, sp p.block = true) → DataW.TrodAll enc P W' 0 sp true ts vs ds ps
  | [], vs, ds, ps, _, _, h, sp, hsp => by
    obtain ⟨rfl, rfl, rfl⟩ := trodAll_nil h
    exact rfl
  | t :: ts, vs, ds, ps, ht, hlt, h, sp, hsp => by
    obtain ⟨v, vs, d, ds, p, q, rfl, rfl, rfl, h1, h2⟩ := trodAll_cons h
    obtain ⟨hr, hrow⟩ := ht t (by simp)
    exact ⟨p, q, WideElems.Trod_stays hl hr hrow h1 (fun x hx => hb.same (hlt x (by simp [hx]))) (fun x hx => hsp x (by simp [hx])),
      trodAll_below hl hb (fun t' h' => ht t' (by simp [h'])) (fun x hx => hlt x (by simp [hx])) h2 sp (fun x hx => hsp x (by simp [hx])), rfl⟩

/-- The row's end: what was given reads as before, the result is a Bool. -/
theorem law_post (hl : laidOutB P = true) {f : Func} {s : ChangeSpec} {apart fresh handsOn again : Bool} {W W' : World} {args : Array Value} {b : Bool} {ds gs : List (DataW H)} {before : List MemPlace} {tb : TypeId}
    (hW : DataW.Whole enc P f.params.toList s.vars apart W args.toList ds gs before) (hvs : s.vars = []) (hr : f.resultTypes = #[tb]) (htb : P.underlying tb = some .bool) (hts : ∀ t, t ∈ f.params.toList → P.readableRec t = true ∧ t < P.types.size)
    (hs : (s.fn H ds).results = [.lit (.bool b)] ∧ (s.fn H ds).args = ds ∧ (s.fn H ds).vars = []) (hb : Go.RowKit.Below W.heap.size W W') : s.post enc P f apart fresh handsOn again W args (.bool b) W' := by
  have hW0 := hW
  obtain ⟨p, q, hA, hV, rfl, hz, hn⟩ := hW
  rw [hvs] at hV
  obtain ⟨rfl, rfl⟩ := trodVars_none hV
  rw [List.append_nil] at *
  have hlt : ∀ x ∈ p, x.block < W.heap.size := fun x hx => hW0.lt x hx
  have hold : ∀ x ∈ p, (fun b => decide (b < W.heap.size)) x.block = true := fun x hx => by simpa using hlt x hx
  have hres : ∀ (b' : Nat) (sp : Nat → Bool) (hd : Bool), DataW.TrodAll enc P W' b' sp hd f.resultTypes.toList ((Value.bool b).resultList f.resultTypes.size) (s.fn H ds).results [] := by
    intro b' sp hd
    rw [hr, hs.1]
    exact trodAll_mk1 (shut_bool htb b)
  have hargs : ∀ sp : Nat → Bool, (∀ x ∈ p, sp x.block = true) → DataW.TrodAll enc P W' 0 sp true f.params.toList args.toList (s.fn H ds).args p := by
    intro sp hsp
    rw [hs.2.1]
    exact trodAll_below hl hb hts hlt hA sp hsp
  have hvars : ∀ sp : Nat → Bool, DataW.TrodVars enc P W' sp s.vars (s.fn H ds).vars [] := by
    intro sp
    rw [hvs, hs.2.2]
    exact rfl
  refine ⟨ds, [], p, [], p, [], hW0, ?_, ?_, ?_, World.keptBut_mono (fun x hx => ⟨hx, Or.inr (Or.inl hx)⟩) (hb.frame (· ∈ p)), fun _ => ⟨?_, ?_⟩⟩
  · rw [List.append_nil]; exact hres _ _ _
  · rw [List.append_nil]; exact hargs _ hold
  · rw [List.append_nil]; exact hvars _
  · exact ok_one hr rfl (okWide_bool_mk htb b)
  · refine ⟨(s.fn H ds).results ++ (s.fn H ds).args, [], p, ⟨p, [], ?_, ?_, (List.append_nil p).symm, fun b' off hp => ?_, hn⟩, fun x hx _ => hx⟩
    · have := trodAll_append (hargs (fun _ => true) (fun _ _ => rfl)) (hres 0 (fun _ => true) true)
      simpa using this
    · rw [hvs]; exact rfl
    · rw [hb.frozen (hlt _ hp)]
      exact hz b' off hp

end

/-- From contracts to what a row asks. -/
theorem law_lifted {C : Checked} {os : Os} {f : FuncId} {fn : Func} {s : ChangeSpec} {tb : TypeId} (n : Nat) (H : Type) (enc : TypeId × Value → H) (own : ownKnob C.prog.godebug = none) (started : os.Started) (noInit : C.prog.inits.idxOf? f = none) (hfn : C.prog.funcs[f]? = some fn)
    (hl : laidOutB C.prog = true) (hvs : s.vars = []) (hr : fn.resultTypes = #[tb]) (htb : C.prog.underlying tb = some .bool)
    (hts : (fn.params.toList.all fun t => plainB C.prog n t && C.prog.readableRec t && decide (t < C.prog.types.size)) = true)
    (hs : ∀ ds : List (DataW H), ds.length = fn.params.toList.length → (s.fn H ds).results = [.lit (.bool true)] ∧ (s.fn H ds).args = ds ∧ (s.fn H ds).vars = [])
    (witness : ∃ (w : World) (tape : Tape) (i : Input), w.os = os ∧ (w.forCall tape i).Shaped C.prog ∧ i.vars = [] ∧ Input.okWide C.prog (w.forCall tape i) .any w.heap.size f i ∧
      s.pre6 enc C.prog fn [] false (w.forCall tape i).memory i.args ∧ ({} : Assume).holds C.prog (lone (Frame.enter C.prog f i.args .normal) [] (w.forCall tape i)))
    (hcl : callable C.prog f = true) (hc : ∀ as, Pars C.prog fn.params.toList as → PCall C.prog f as (.bool true)) :
    ReturnsInHanded {} C os f .any (s.pre6 enc C.prog fn [] false) (s.post enc C.prog fn false true false false) := by
  refine returnsInHanded_of_change own started noInit hfn witness ?_
  intro W base args ds gs before hval hW _ _
  have hW' := hW
  obtain ⟨p, q, hA, hV, rfl, hfz, hnd⟩ := hW
  rw [hvs] at hV
  obtain ⟨rfl, rfl⟩ := trodVars_none hV
  rw [List.all_eq_true] at hts
  have hplain : fn.params.toList.all (plainB C.prog n) = true := by
    rw [List.all_eq_true]
    intro t ht
    have := hts t ht
    simp only [Bool.and_eq_true] at this
    exact this.1.1
  have hread : ∀ t, t ∈ fn.params.toList → C.prog.readableRec t = true ∧ t < C.prog.types.size := by
    intro t ht
    have := hts t ht
    simp only [Bool.and_eq_true, decide_eq_true_eq] at this
    exact ⟨this.1.2, this.2⟩
  let fr : Nat → Nat := fun b => match W.heap[b]? with | some (.cells c _ _) => c.size | _ => 0
  have hfr : ∀ b c el z, W.heap[b]? = some (.cells c el z) → c.size ≤ fr b := by
    intro b c el z h
    show c.size ≤ (match W.heap[b]? with | some (.cells c _ _) => c.size | _ => 0)
    rw [h]
    exact Nat.le_refl _
  obtain ⟨as, h1, h2, h3⟩ := pars_rep (w := W) (fr := fr) (pi := fun _ => 0) (r := .any) (b0 := base) hfr hplain (fun j t v a b => hval j t v (by simpa using a) (by simpa using b)) hA
  have hrel : Rel W fr (fun _ => 0) (fun _ => []) (FS.of as []) args := by
    refine ⟨fun i => ?_, fun i => ?_, fun i o ho => ?_, fun i o ho => ?_, fun i _ => rfl, fun _ => List.nodup_nil, fun r r' b hb => by simp at hb, fun r b hb => by simp at hb⟩
    · show Rep W fr _ (as.getD i .undef) _ []
      rcases Nat.lt_or_ge i as.length with hi | hi
      · obtain ⟨v, O', k1, k2, k3⟩ := h2.get (List.getElem?_eq_getElem hi)
        have hO : O' = [] := List.eq_nil_iff_forall_not_mem.2 fun b hb => by simpa using k3 b hb
        rw [hO] at k2
        have e : args.getD i Go.undef = v := by
          rw [Array.getD_eq_getD_getElem?, show args[i]? = some v by simpa using k1]; rfl
        rw [e, List.getD_eq_getElem?_getD, List.getElem?_eq_getElem hi]
        exact k2
      · rw [List.getD_eq_getElem?_getD, List.getElem?_eq_none hi]
        exact .undef _
    · show NP _ (as.getD i .undef)
      rcases Nat.lt_or_ge i as.length with hi | hi
      · rw [List.getD_eq_getElem?_getD, List.getElem?_eq_getElem hi]
        exact (h1.np _ (List.getElem_mem hi)).mono (fun _ h => h.elim)
      · rw [List.getD_eq_getElem?_getD, List.getElem?_eq_none hi]
        exact .undef
    · simp [FS.of] at ho
    · simp [FS.of] at ho
  have hlen : args.toList.length = as.length := h2.length.symm
  have := (hc as h1).2.2 W fr (fun _ => 0) (fun _ => []) args.toList hlen (by simpa using hrel)
  rw [Array.toArray_toList] at this
  refine (this.calls hcl).mono fun e W' hp => ?_
  obtain ⟨v, fr', pi', own', rfl, k2, k3⟩ := hp
  have k4 := k2.slot 0
  have e0 : (FS.of [AV.bool true] []).sl 0 = .bool true := rfl
  have e1 : (#[v] : Array Value).getD 0 Go.undef = v := rfl
  rw [e0, e1] at k4
  have ev : v = .bool true := k4.bool_inv
  subst ev
  refine ⟨_, rfl, law_post hl hW' hvs hr htb hread (hs ds h3) (k3.step.below fun b _ ⟨r, hr⟩ => by simp at hr)⟩

end Go.Proofs.YtmjdoonaidolkaaDoor.V

/- A small logic of values over the model, part 33: what arguments are, opened by their types. -/
namespace Go.Proofs.YtmjdoonaidolkaaDoor.V

section
variable {P : Program} {t e : TypeId} {as : List AV}

theorem Shape.inv_bool (ht : P.underlying t = some .bool) (h : Shape P t as) : ∃ b, as = [.bool b] := by
  cases h with
  | bool _ b _ => exact ⟨b, rfl⟩
  | int _ _ _ h' => rw [ht] at h'; cases h'
  | str _ _ h' => rw [ht] at h'; cases h'
  | slnil _ _ h' => rw [ht] at h'; cases h'
  | sl _ _ _ h' => rw [ht] at h'; cases h'
  | struct _ _ _ h' => rw [ht] at h'; cases h'

theorem Shape.inv_int {k : IntKind} (ht : P.underlying t = some (.int k)) (h : Shape P t as) : ∃ n, as = [.int k n] ∧ (Lit.int k n).wf = true := by
  cases h with
  | bool _ b h' => rw [ht] at h'; cases h'
  | int _ k' n h' hw => rw [ht] at h'; cases h'; exact ⟨n, rfl, hw⟩
  | str _ _ h' => rw [ht] at h'; cases h'
  | slnil _ _ h' => rw [ht] at h'; cases h'
  | sl _ _ _ h' => rw [ht] at h'; cases h'
  | struct _ _ _ h' => rw [ht] at h'; cases h'

theorem Shape.inv_str (ht : P.underlying t = some .string) (h : Shape P t as) : ∃ s : List UInt8, as = [.str (st s)] ∧ s.length ≤ maxLen := by
  cases h with
  | bool _ b h' => rw [ht] at h'; cases h'
  | int _ _ _ h' => rw [ht] at h'; cases h'
  | str _ s h' hs => exact ⟨s.data.toList, by rw [← st_of], by rw [Array.length_toList]; exact hs⟩
  | slnil _ _ h' => rw [ht] at h'; cases h'
  | sl _ _ _ h' => rw [ht] at h'; cases h'
  | struct _ _ _ h' => rw [ht] at h'; cases h'

theorem Shape.inv_sl (ht : P.underlying t = some (.slice e)) (h : Shape P t as) : ∃ nl xs, as = [.sl (P.cellsOf e) (some nl) false xs] ∧ (∀ x, x ∈ xs → Shape P e x) ∧ xs.length ≤ maxLen ∧ (nl = true → xs = []) := by
  cases h with
  | bool _ b h' => rw [ht] at h'; cases h'
  | int _ _ _ h' => rw [ht] at h'; cases h'
  | str _ _ h' => rw [ht] at h'; cases h'
  | slnil _ _ h' => rw [ht] at h'; cases h'; exact ⟨true, [], rfl, by simp, Nat.zero_le _, by simp⟩
  | sl _ _ xs h' hx hl => rw [ht] at h'; cases h'; exact ⟨false, xs, rfl, hx, hl, by simp⟩
  | struct _ _ _ h' => rw [ht] at h'; cases h'

theorem Shape.inv_struct {fs : Array Field} (ht : P.underlying t = some (.struct fs)) (h : Shape P t as) : Shapes P (fs.toList.map (·.type)) as := by
  cases h with
  | bool _ b h' => rw [ht] at h'; cases h'
  | int _ _ _ h' => rw [ht] at h'; cases h'
  | str _ _ h' => rw [ht] at h'; cases h'
  | slnil _ _ h' => rw [ht] at h'; cases h'
  | sl _ _ _ h' => rw [ht] at h'; cases h'
  | struct _ _ _ h' hs => rw [ht] at h'; cases h'; exact hs

theorem Shapes.inv_nil (h : Shapes P [] as) : as = [] := by cases h; rfl
theorem Shapes.inv_cons {ts : List TypeId} (h : Shapes P (t :: ts) as) : ∃ a b, as = a ++ b ∧ Shape P t a ∧ Shapes P ts b := by
  cases h with
  | cons _ _ a b h1 h2 => exact ⟨a, b, rfl, h1, h2⟩

theorem bytes_of : ∀ (xs : List (List AV)), P.underlying e = some (.int .u8) → (∀ x, x ∈ xs → Shape P e x) → ∃ l : List UInt8, xs = bs l
  | [], _, _ => ⟨[], rfl⟩
  | x :: xs, he, h => by
    obtain ⟨l, rfl⟩ := bytes_of xs he fun y hy => h y (by simp [hy])
    obtain ⟨n, rfl, hw⟩ := (h x (by simp)).inv_int he
    simp [Lit.wf, IntKind.min, IntKind.max, IntKind.signed, IntKind.bits] at hw
    refine ⟨UInt8.ofNat n.toNat :: l, ?_⟩
    simp only [bs, List.map_cons, List.cons.injEq, and_true]
    simp only [AV.int.injEq, UInt8.toNat_ofNat', true_and]
    omega

theorem Par.inv {k : TypeDesc} (ht : P.underlying t = some k) (hk : ∀ fs, k ≠ .struct fs) {a : AV} (h : Par P t a) : Shape P t [a] := by
  cases h with
  | one _ _ h => exact h
  | agg fs _ h' => rw [ht] at h'; cases h'; exact absurd rfl (hk fs)

theorem Par.inv_bool (ht : P.underlying t = some .bool) {a : AV} (h : Par P t a) : ∃ b, a = .bool b := by
  obtain ⟨b, e⟩ := (h.inv ht (by simp)).inv_bool ht
  exact ⟨b, by simpa using e⟩

theorem Par.inv_int {k : IntKind} (ht : P.underlying t = some (.int k)) {a : AV} (h : Par P t a) : ∃ n, a = .int k n ∧ (Lit.int k n).wf = true := by
  obtain ⟨n, e, hw⟩ := (h.inv ht (by simp)).inv_int ht
  exact ⟨n, by simpa using e, hw⟩

theorem Par.inv_u8 (ht : P.underlying t = some (.int .u8)) {a : AV} (h : Par P t a) : ∃ n : UInt8, a = .int .u8 n.toNat := by
  obtain ⟨n, e, hw⟩ := h.inv_int ht
  simp [Lit.wf, IntKind.min, IntKind.max, IntKind.signed, IntKind.bits] at hw
  refine ⟨UInt8.ofNat n.toNat, e.trans (int_eq ?_)⟩
  simp only [UInt8.toNat_ofNat']
  omega

theorem Par.inv_i64 (ht : P.underlying t = some (.int .i64)) {a : AV} (h : Par P t a) : ∃ n : Int, a = .int .i64 n ∧ -9223372036854775808 ≤ n ∧ n ≤ 9223372036854775807 := by
  obtain ⟨n, e, hw⟩ := h.inv_int ht
  simp [Lit.wf, IntKind.min, IntKind.max, IntKind.signed, IntKind.bits] at hw
  exact ⟨n, e, hw.1, hw.2⟩

theorem Par.inv_u16 (ht : P.underlying t = some (.int .u16)) {a : AV} (h : Par P t a) : ∃ n : Nat, a = .int .u16 n ∧ n < 65536 := by
  obtain ⟨n, e, hw⟩ := h.inv_int ht
  simp [Lit.wf, IntKind.min, IntKind.max, IntKind.signed, IntKind.bits] at hw
  exact ⟨n.toNat, e.trans (int_eq (by omega)), by omega⟩

theorem Par.inv_str (ht : P.underlying t = some .string) {a : AV} (h : Par P t a) : ∃ s : List UInt8, a = .str (st s) ∧ s.length ≤ maxLen := by
  obtain ⟨s, e, hs⟩ := (h.inv ht (by simp)).inv_str ht
  exact ⟨s, by simpa using e, hs⟩

theorem Par.inv_sl (ht : P.underlying t = some (.slice e)) {a : AV} (h : Par P t a) : ∃ nl xs, a = .sl (P.cellsOf e) (some nl) false xs ∧ (∀ x, x ∈ xs → Shape P e x) ∧ xs.length ≤ maxLen ∧ (nl = true → xs = []) := by
  obtain ⟨nl, xs, e, h1⟩ := (h.inv ht (by simp)).inv_sl ht
  exact ⟨nl, xs, by simpa using e, h1⟩

theorem Par.inv_bytes (ht : P.underlying t = some (.slice e)) (he : P.underlying e = some (.int .u8)) (hc : P.cellsOf e = 1) {a : AV} (h : Par P t a) : ∃ nl l, a = .sl 1 (some nl) false (bs l) ∧ l.length ≤ maxLen ∧ (nl = true → l = []) := by
  obtain ⟨nl, xs, rfl, hx, hl, hn⟩ := h.inv_sl ht
  obtain ⟨l, rfl⟩ := bytes_of xs he hx
  rw [hc]
  exact ⟨nl, l, rfl, by rw [bs_len] at hl; exact hl, fun h => by simpa [bs] using hn h⟩

theorem Par.inv_struct {fs : Array Field} (ht : P.underlying t = some (.struct fs)) {a : AV} (h : Par P t a) : ∃ as, a = .agg as ∧ Shapes P (fs.toList.map (·.type)) as := by
  cases h with
  | one _ hn _ => exact absurd ht (hn fs)
  | agg fs as h' hs => rw [ht] at h'; cases h'; exact ⟨as, rfl, hs.inv_struct ht⟩

theorem Pars.inv_nil {as : List AV} (h : Pars P [] as) : as = [] := by cases h; rfl
theorem Pars.inv_cons {ts : List TypeId} {as : List AV} (h : Pars P (t :: ts) as) : ∃ a b, as = a :: b ∧ Par P t a ∧ Pars P ts b := by
  cases h with
  | cons _ a _ b h1 h2 => exact ⟨a, b, rfl, h1, h2⟩

end
end Go.Proofs.YtmjdoonaidolkaaDoor.V

/- A small logic of values over the model, part 34: a contract that knows of some boxes is used where there are more: boxes get other numbers. -/
namespace Go.Proofs.YtmjdoonaidolkaaDoor.V

mutual
/-- The second is the first, its boxes numbered otherwise. -/
inductive Rn (ρ : Nat → Nat) : AV → AV → Prop
  | refl (a : AV) : NP (fun _ => False) a → Rn ρ a a
  | ptr (id off : Nat) : Rn ρ (.ptr (some (id, off))) (.ptr (some (ρ id, off)))
  | iface (t : Nat) (a b : AV) : Rn ρ a b → Rn ρ (.iface t a) (.iface t b)
  | func (f : Nat) (as bs : List AV) : RnL ρ as bs → Rn ρ (.func f as) (.func f bs)
  | agg (as bs : List AV) : RnL ρ as bs → Rn ρ (.agg as) (.agg bs)
  | tup (as bs : List AV) : RnL ρ as bs → Rn ρ (.tup as) (.tup bs)
  | rptr (as bs : List AV) : RnL ρ as bs → Rn ρ (.rptr as) (.rptr bs)
  | sl (sz : Nat) (nl : Option Bool) (own : Bool) (xs ys : List (List AV)) : xs.map List.length = ys.map List.length → RnL ρ xs.flatten ys.flatten → Rn ρ (.sl sz nl own xs) (.sl sz nl own ys)
inductive RnL (ρ : Nat → Nat) : List AV → List AV → Prop
  | nil : RnL ρ [] []
  | cons (a b : AV) (as bs : List AV) : Rn ρ a b → RnL ρ as bs → RnL ρ (a :: as) (b :: bs)
end

theorem Rep.pi0 {w : World} {fr pi pi' : Nat → Nat} {a : AV} {v : Value} {O : List Nat} (h : Rep w fr pi a v O) (hn : NP (fun _ => False) a) : Rep w fr pi' a v O :=
  h.mono (Step.refl w fr (fun _ => False)) (fun _i hi => hi.elim) hn (fun _ _ h => h)

theorem NP.flat {ok : Nat → Prop} {sz : Nat} {nl : Option Bool} {own : Bool} {xs : List (List AV)} (h : NP ok (.sl sz nl own xs)) : ∀ a, a ∈ xs.flatten → NP ok a := by
  intro a ha
  obtain ⟨x, hx, hax⟩ := List.mem_flatten.1 ha
  exact h.sl_inv x hx a hax
theorem NP.iface_inv {ok : Nat → Prop} {t : Nat} {a : AV} (h : NP ok (.iface t a)) : NP ok a := by cases h; assumption
theorem NP.func_inv {ok : Nat → Prop} {f : Nat} {as : List AV} (h : NP ok (.func f as)) : ∀ a, a ∈ as → NP ok a := by cases h; assumption

theorem lens_len {xs ys : List (List AV)} (h : xs.map List.length = ys.map List.length) : xs.length = ys.length := by
  have := congrArg List.length h
  simpa using this
theorem lens_all {xs ys : List (List AV)} {sz : Nat} (h : xs.map List.length = ys.map List.length) (hx : ∀ x, x ∈ xs → x.length = sz) : ∀ y, y ∈ ys → y.length = sz := by
  intro y hy
  have : y.length ∈ xs.map List.length := by rw [h]; exact List.mem_map_of_mem hy
  obtain ⟨x, hx', e⟩ := List.mem_map.1 this
  rw [← e]
  exact hx x hx'

section
variable {w : World} {fr pi1 pi2 : Nat → Nat} {ρ : Nat → Nat} {ok : Nat → Prop}

mutual
theorem Rn.fwd (hpi : ∀ i, ok i → pi1 i = pi2 (ρ i)) : ∀ {a b : AV} {v : Value} {O : List Nat}, Rn ρ a b → NP ok a → Rep w fr pi1 a v O → Rep w fr pi2 b v O
  | _, _, _, _, .refl a hn, _, hr => hr.pi0 hn
  | _, _, _, _, .ptr id off, hn, hr => by
    cases hr
    rw [hpi id hn.ptr_inv]
    exact .ptr _ _
  | _, _, _, _, .iface t a b h, hn, hr => by
    cases hr with
    | iface _ _ v hr => exact .iface _ _ _ (Rn.fwd hpi h hn.iface_inv hr)
  | _, _, _, _, .func f as bs h, hn, hr => by
    cases hr with
    | func _ _ vs hr => exact .func _ _ _ (RnL.fwd hpi h hn.func_inv hr)
  | _, _, _, _, .agg as bs h, hn, hr => by
    cases hr with
    | agg _ vs _ hr => exact .agg _ _ _ (RnL.fwd hpi h hn.agg_inv hr)
  | _, _, _, _, .tup as bs h, hn, hr => by
    cases hr with
    | tup _ vs _ hr => exact .tup _ _ _ (RnL.fwd hpi h hn.tup_inv hr)
  | _, _, _, _, .rptr as bs h, hn, hr => by
    cases hr with
    | rptr _ b o vs hr hc => exact .rptr _ b o vs (RnL.fwd hpi h hn.rptr_inv hr) hc
  | _, _, _, _, .sl sz nl own xs ys hl h, hn, hr => by
    have e := lens_len hl
    cases hr with
    | slnil _ _ _ h0 =>
      have : ys = [] := List.eq_nil_of_length_eq_zero e.symm
      subst this
      exact .slnil _ _ _ h0
    | slempty _ _ ad cap h0 =>
      have : ys = [] := List.eq_nil_of_length_eq_zero e.symm
      subst this
      exact .slempty _ _ _ _ h0
    | sl _ _ _ b o cap vs h0 h1 h2 h3 h4 => rw [e]; exact .sl _ _ _ b o cap vs h0 (lens_all hl h1) (RnL.fwd hpi h hn.flat h2) h3 (by omega)
    | slown _ _ _ b o cap vs h0 h1 h2 h3 h4 h5 => rw [e]; exact .slown _ _ _ b o cap vs h0 (lens_all hl h1) (RnL.fwd hpi h hn.flat h2) h3 (by omega) (by rw [← e]; exact h5)
theorem RnL.fwd (hpi : ∀ i, ok i → pi1 i = pi2 (ρ i)) : ∀ {as bs : List AV} {vs : List Value} {O : List Nat}, RnL ρ as bs → (∀ a, a ∈ as → NP ok a) → Reps w fr pi1 as vs O → Reps w fr pi2 bs vs O
  | _, _, _, _, .nil, _, hr => by cases hr; exact .nil
  | _, _, _, _, .cons a b as bs h1 h2, hn, hr => by
    cases hr with
    | cons _ v O1 _ vs O2 r1 r2 => exact .cons _ _ _ _ _ _ (Rn.fwd hpi h1 (hn _ (by simp)) r1) (RnL.fwd hpi h2 (fun a ha => hn a (by simp [ha])) r2)
end

mutual
theorem Rn.back (hpi : ∀ i, ok i → pi1 i = pi2 (ρ i)) : ∀ {a b : AV} {v : Value} {O : List Nat}, Rn ρ a b → NP ok a → Rep w fr pi2 b v O → Rep w fr pi1 a v O
  | _, _, _, _, .refl a hn, _, hr => hr.pi0 hn
  | _, _, _, _, .ptr id off, hn, hr => by
    cases hr
    rw [← hpi id hn.ptr_inv]
    exact .ptr _ _
  | _, _, _, _, .iface t a b h, hn, hr => by
    cases hr with
    | iface _ _ v hr => exact .iface _ _ _ (Rn.back hpi h hn.iface_inv hr)
  | _, _, _, _, .func f as bs h, hn, hr => by
    cases hr with
    | func _ _ vs hr => exact .func _ _ _ (RnL.back hpi h hn.func_inv hr)
  | _, _, _, _, .agg as bs h, hn, hr => by
    cases hr with
    | agg _ vs _ hr => exact .agg _ _ _ (RnL.back hpi h hn.agg_inv hr)
  | _, _, _, _, .tup as bs h, hn, hr => by
    cases hr with
    | tup _ vs _ hr => exact .tup _ _ _ (RnL.back hpi h hn.tup_inv hr)
  | _, _, _, _, .rptr as bs h, hn, hr => by
    cases hr with
    | rptr _ b o vs hr hc => exact .rptr _ b o vs (RnL.back hpi h hn.rptr_inv hr) hc
  | _, _, _, _, .sl sz nl own xs ys hl h, hn, hr => by
    have e := lens_len hl
    cases hr with
    | slnil _ _ _ h0 =>
      have : xs = [] := List.eq_nil_of_length_eq_zero e
      subst this
      exact .slnil _ _ _ h0
    | slempty _ _ ad cap h0 =>
      have : xs = [] := List.eq_nil_of_length_eq_zero e
      subst this
      exact .slempty _ _ _ _ h0
    | sl _ _ _ b o cap vs h0 h1 h2 h3 h4 => rw [← e]; exact .sl _ _ _ b o cap vs h0 (lens_all hl.symm h1) (RnL.back hpi h hn.flat h2) h3 (by omega)
    | slown _ _ _ b o cap vs h0 h1 h2 h3 h4 h5 => rw [← e]; exact .slown _ _ _ b o cap vs h0 (lens_all hl.symm h1) (RnL.back hpi h hn.flat h2) h3 (by omega) (by rw [e]; exact h5)
theorem RnL.back (hpi : ∀ i, ok i → pi1 i = pi2 (ρ i)) : ∀ {as bs : List AV} {vs : List Value} {O : List Nat}, RnL ρ as bs → (∀ a, a ∈ as → NP ok a) → Reps w fr pi2 bs vs O → Reps w fr pi1 as vs O
  | _, _, _, _, .nil, _, hr => by cases hr; exact .nil
  | _, _, _, _, .cons a b as bs h1 h2, hn, hr => by
    cases hr with
    | cons _ v O1 _ vs O2 r1 r2 => exact .cons _ _ _ _ _ _ (Rn.back hpi h1 (hn _ (by simp)) r1) (RnL.back hpi h2 (fun a ha => hn a (by simp [ha])) r2)
end
end

mutual
theorem Rn.np' {ρ : Nat → Nat} : ∀ {a b : AV}, Rn ρ a b → ∀ {ok ok' : Nat → Prop}, (∀ i, ok i → ok' (ρ i)) → NP ok a → NP ok' b
  | _, _, .refl a hn, _, _, _, _ => hn.mono (fun _ h => h.elim)
  | _, _, .ptr id off, _, _, hok, hn => .ptr _ _ (hok _ hn.ptr_inv)
  | _, _, .iface t a b h, _, _, hok, hn => .iface _ _ (Rn.np' h hok hn.iface_inv)
  | _, _, .func f as bs h, _, _, hok, hn => .func _ _ (RnL.np' h hok hn.func_inv)
  | _, _, .agg as bs h, _, _, hok, hn => .agg _ (RnL.np' h hok hn.agg_inv)
  | _, _, .tup as bs h, _, _, hok, hn => .tup _ (RnL.np' h hok hn.tup_inv)
  | _, _, .rptr as bs h, _, _, hok, hn => .rptr _ (RnL.np' h hok hn.rptr_inv)
  | _, _, .sl sz nl own xs ys hl h, _, _, hok, hn => .sl _ _ _ _ (by
    have := RnL.np' h hok hn.flat
    exact fun x hx a ha => this a (List.mem_flatten.2 ⟨x, hx, ha⟩))
theorem RnL.np' {ρ : Nat → Nat} : ∀ {as bs : List AV}, RnL ρ as bs → ∀ {ok ok' : Nat → Prop}, (∀ i, ok i → ok' (ρ i)) → (∀ a, a ∈ as → NP ok a) → ∀ b, b ∈ bs → NP ok' b
  | _, _, .nil, _, _, _, _ => by simp
  | _, _, .cons a b as bs h1 h2, _, _, hok, hn => by
    have k1 := Rn.np' h1 hok (hn a (by simp))
    have k2 := RnL.np' h2 hok (fun y hy => hn y (by simp [hy]))
    intro x hx
    rcases List.mem_cons.1 hx with rfl | hx
    · exact k1
    · exact k2 x hx
end
theorem Rn.np {ρ : Nat → Nat} {ok ok' : Nat → Prop} (hok : ∀ i, ok i → ok' (ρ i)) {a b : AV} (h : Rn ρ a b) (hn : NP ok a) : NP ok' b := h.np' hok hn
theorem RnL.np {ρ : Nat → Nat} {ok ok' : Nat → Prop} (hok : ∀ i, ok i → ok' (ρ i)) {as bs : List AV} (h : RnL ρ as bs) (hn : ∀ a, a ∈ as → NP ok a) : ∀ b, b ∈ bs → NP ok' b := h.np' hok hn

theorem RnL.length {ρ : Nat → Nat} : ∀ {as bs : List AV}, RnL ρ as bs → as.length = bs.length
  | _, _, .nil => rfl
  | _, _, .cons _ _ _ _ _ h => by simp [RnL.length h]
theorem RnL.get {ρ : Nat → Nat} : ∀ {as bs : List AV}, RnL ρ as bs → ∀ i, Rn ρ (as.getD i .undef) (bs.getD i .undef)
  | _, _, .nil, i => by simp; exact .refl _ .undef
  | _, _, .cons a b as bs h1 h2, 0 => h1
  | _, _, .cons a b as bs h1 h2, i + 1 => by simpa using RnL.get h2 i

theorem RnL.same {ρ : Nat → Nat} : ∀ {as : List AV}, (∀ a, a ∈ as → NP (fun _ => False) a) → RnL ρ as as
  | [], _ => .nil
  | a :: as, h => .cons a a as as (.refl a (h a (by simp))) (RnL.same (fun b hb => h b (by simp [hb])))

theorem flat_np {ok : Nat → Prop} {xs : List (List AV)} (h : ∀ x, x ∈ xs → ∀ a, a ∈ x → NP ok a) : ∀ a, a ∈ xs.flatten → NP ok a := fun a ha => by
  obtain ⟨x, hx, hax⟩ := List.mem_flatten.1 ha
  exact h x hx a hax

/-- Boxes' contents. -/
def RnO (ρ : Nat → Nat) : HObj → HObj → Prop
  | .cells as, .cells bs => RnL ρ as bs
  | .map ks xs, .map ks' xs' => RnL ρ ks ks' ∧ RnL ρ xs xs'
  | .arr sz xs, .arr sz' ys => sz = sz' ∧ xs = ys ∧ ∀ x, x ∈ xs → ∀ a, a ∈ x → NP (fun _ => False) a
  | .ro as, .ro bs => RnL ρ as bs
  | .glob g vs, .glob g' vs' => g = g' ∧ vs = vs'
  | _, _ => False

theorem RnO.fwd {w : World} {fr pi1 pi2 : Nat → Nat} {ρ : Nat → Nat} {ok : Nat → Prop} (hpi : ∀ i, ok i → pi1 i = pi2 (ρ i)) {o o' : HObj} {b : Nat} {O : List Nat} (h : RnO ρ o o') (hn : NPo ok o) (hr : ORep w fr pi1 o b O) : ORep w fr pi2 o' b O := by
  cases o <;> cases o' <;> first | exact False.elim h | skip
  · obtain ⟨vs, e, h1, h2, h3⟩ := hr
    exact ⟨vs, e, h1, RnL.fwd hpi h hn h2, h3⟩
  · obtain ⟨h0, es, clock, h1, h2, h3, h4⟩ := hr
    exact ⟨h0, es, clock, h1, RnL.fwd hpi h.1 hn.1 h2, RnL.fwd hpi h.2 hn.2 h3, h4⟩
  · obtain ⟨rfl, rfl, hf⟩ := h
    obtain ⟨h0, hl, vs, ju, e, h1, h2, h3⟩ := hr
    exact ⟨h0, hl, vs, ju, e, h1, RnL.fwd hpi (RnL.same (flat_np hf)) (flat_np hn) h2, h3⟩
  · obtain ⟨h0, vs, h1, h2⟩ := hr
    exact ⟨h0, vs, RnL.fwd hpi h hn h1, h2⟩
  · obtain ⟨rfl, rfl⟩ := h
    exact hr

theorem RnO.back {w : World} {fr pi1 pi2 : Nat → Nat} {ρ : Nat → Nat} {ok : Nat → Prop} (hpi : ∀ i, ok i → pi1 i = pi2 (ρ i)) {o o' : HObj} {b : Nat} {O : List Nat} (h : RnO ρ o o') (hn : NPo ok o) (hr : ORep w fr pi2 o' b O) : ORep w fr pi1 o b O := by
  cases o <;> cases o' <;> first | exact False.elim h | skip
  · obtain ⟨vs, e, h1, h2, h3⟩ := hr
    exact ⟨vs, e, h1, RnL.back hpi h hn h2, h3⟩
  · obtain ⟨h0, es, clock, h1, h2, h3, h4⟩ := hr
    exact ⟨h0, es, clock, h1, RnL.back hpi h.1 hn.1 h2, RnL.back hpi h.2 hn.2 h3, h4⟩
  · obtain ⟨rfl, rfl, hf⟩ := h
    obtain ⟨h0, hl, vs, ju, e, h1, h2, h3⟩ := hr
    exact ⟨h0, hl, vs, ju, e, h1, RnL.back hpi (RnL.same (flat_np hf)) (flat_np hn) h2, h3⟩
  · obtain ⟨h0, vs, h1, h2⟩ := hr
    exact ⟨h0, vs, RnL.back hpi h hn h1, h2⟩
  · obtain ⟨rfl, rfl⟩ := h
    exact hr

theorem RnO.np {ρ : Nat → Nat} {ok ok' : Nat → Prop} (hok : ∀ i, ok i → ok' (ρ i)) {o o' : HObj} (h : RnO ρ o o') (hn : NPo ok o) : NPo ok' o' := by
  cases o <;> cases o' <;> first | exact False.elim h | skip
  · exact RnL.np hok h hn
  · exact ⟨RnL.np hok h.1 hn.1, RnL.np hok h.2 hn.2⟩
  · obtain ⟨rfl, rfl, hf⟩ := h
    exact fun x hx a ha => (hf x hx a ha).mono (fun _ h => h.elim)
  · exact RnL.np hok h hn
  · exact trivial

theorem RnO.blk {ρ : Nat → Nat} {o o' : HObj} (h : RnO ρ o o') (b : Nat) (O : List Nat) : o.blk b O = o'.blk b O := by
  cases o <;> cases o' <;> first | exact False.elim h | rfl

theorem get_lt {α : Type} {l : List α} {i : Nat} {x : α} (h : l[i]? = some x) : i < l.length := by
  rcases Nat.lt_or_ge i l.length with h1 | h1
  · exact h1
  · simp [List.getElem?_eq_none h1] at h

/-- The number of a box behind the call. -/
def rnTo (ρ : Nat → Nat) (n N : Nat) (j : Nat) : Nat := if j < n then ρ j else N + (j - n)

/-- A contract, used among more boxes. -/
theorem VCall.frame {P : Program} {f : Nat} {args : List AV} {h : List HObj} {ret : AV} {h' : List HObj} (hc : VCall P f args h ret h') (ρ : Nat → Nat) {args' : List AV} {H : List HObj} {ret' : AV} {H' : List HObj}
    (ha : RnL ρ args args') (hna : ∀ a, a ∈ args → NP (fun i => i < h.length) a) (hno : ∀ (i : Nat) (o : HObj), h[i]? = some o → NPo (fun i => i < h.length) o)
    (hh : ∀ (j : Nat) (o : HObj), h[j]? = some o → ∃ o', H[ρ j]? = some o' ∧ RnO ρ o o') (hinj : ∀ i j, i < h.length → j < h.length → ρ i = ρ j → i = j)
    (hr : Rn (rnTo ρ h.length H.length) ret ret') (hl : H'.length = H.length + (h'.length - h.length)) (hk : ∀ i, i < H.length → (∀ j, j < h.length → ρ j ≠ i) → H'[i]? = H[i]?)
    (hh' : ∀ (j : Nat) (o : HObj), h'[j]? = some o → ∃ o', H'[rnTo ρ h.length H.length j]? = some o' ∧ RnO (rnTo ρ h.length H.length) o o') : VCall P f args' H ret' H' := by
  classical
  have hle := hc.2.1
  have hρ : ∀ j, j < h.length → ρ j < H.length := by
    intro j hj
    obtain ⟨o', h1, _⟩ := hh j _ (List.getElem?_eq_getElem hj)
    exact get_lt h1
  refine ⟨hc.1, by omega, fun w fr pi own vals hvl hrel => ?_⟩
  let own0 : Res → List Nat := fun r => match r with
    | .slot i => own (.slot i)
    | .box j => if j < h.length then own (.box (ρ j)) else []
  have hsub0 : ∀ r b, b ∈ own0 r → ∃ r', b ∈ own r' ∧ (∀ i, r = .slot i → r' = .slot i) ∧ (∀ j, r = .box j → j < h.length ∧ r' = .box (ρ j)) := by
    intro r b hb
    cases r with
    | slot i => exact ⟨_, hb, fun _ e => e, fun j e => by cases e⟩
    | box j =>
      simp only [own0] at hb
      split at hb
      · rename_i hj
        exact ⟨_, hb, (fun i e => by cases e), (fun j' e => by cases e; exact ⟨hj, rfl⟩)⟩
      · simp at hb
  have hrel0 : Rel w fr (pi ∘ ρ) own0 (FS.of args h) vals.toArray := by
    refine ⟨fun i => ?_, fun i => ?_, fun j o ho => ?_, fun j o ho => ?_, fun j hj => ?_, fun r => ?_, fun r r' b x1 x2 => ?_, fun r b hb => ?_⟩
    · refine Rn.back (ρ := ρ) (pi2 := pi) (ok := fun i => i < h.length) (fun _ _ => rfl) (ha.get i) ?_ (hrel.slot i)
      show NP _ (args.getD i .undef)
      rcases Nat.lt_or_ge i args.length with hi | hi
      · rw [List.getD_eq_getElem?_getD, List.getElem?_eq_getElem hi]; exact hna _ (List.getElem_mem hi)
      · rw [List.getD_eq_getElem?_getD, List.getElem?_eq_none hi]; exact .undef
    · show NP _ (args.getD i .undef)
      rcases Nat.lt_or_ge i args.length with hi | hi
      · rw [List.getD_eq_getElem?_getD, List.getElem?_eq_getElem hi]
        exact (hna _ (List.getElem_mem hi)).mono fun j hj => ⟨_, (List.getElem?_eq_getElem hj : h[j]? = _)⟩
      · rw [List.getD_eq_getElem?_getD, List.getElem?_eq_none hi]; exact .undef
    · have hj : h[j]? = some o := ho
      obtain ⟨o', h1, h2⟩ := hh j o hj
      obtain ⟨O, h3, h4⟩ := hrel.box (ρ j) o' h1
      exact ⟨O, RnO.back (ρ := ρ) (pi2 := pi) (ok := fun i => i < h.length) (fun _ _ => rfl) h2 (hno j o hj) h3, by simp only [own0]; rw [if_pos (get_lt hj), RnO.blk h2]; exact h4⟩
    · have hj : h[j]? = some o := ho
      exact (hno j o hj).mono fun i hi => ⟨_, (List.getElem?_eq_getElem hi : h[i]? = _)⟩
    · have hj' : h[j]? = none := hj
      have : ¬ j < h.length := fun hlt => by rw [List.getElem?_eq_getElem hlt] at hj'; cases hj'
      simp only [own0]
      rw [if_neg this]
    · cases r with
      | slot i => exact hrel.nd _
      | box j =>
        simp only [own0]
        split
        · exact hrel.nd _
        · simp
    · obtain ⟨q1, m1, m2, m3⟩ := hsub0 r b x1
      obtain ⟨q2, n1, n2, n3⟩ := hsub0 r' b x2
      have hq := hrel.dj q1 q2 b m1 n1
      subst hq
      cases r with
      | slot i =>
        have e1 := m2 i rfl
        cases r' with
        | slot i' => have e2 := n2 i' rfl; rw [e1] at e2; cases e2; rfl
        | box j' => have e2 := (n3 j' rfl).2; rw [e1] at e2; cases e2
      | box j =>
        have e1 := m3 j rfl
        cases r' with
        | slot i' => have e2 := n2 i' rfl; rw [e1.2] at e2; cases e2
        | box j' =>
          have e2 := n3 j' rfl
          have e3 := e1.2.symm.trans e2.2
          simp only [Res.box.injEq] at e3
          rw [hinj j j' e1.1 e2.1 e3]
    · obtain ⟨q, m, _⟩ := hsub0 r b hb
      exact hrel.live q b m
  have hvl0 : vals.length = args.length := by rw [hvl, ha.length]
  refine (hc.2.2 w fr (pi ∘ ρ) own0 vals hvl0 hrel0).mono fun e w' hp => ?_
  obtain ⟨v, fr', pi', own', rfl, k2, k3⟩ := hp
  let n := h.length
  let N := H.length
  let piR : Nat → Nat := fun i => if i < N then pi i else pi' (i - N + n)
  -- which of the callee's boxes it is
  have hinv : ∀ i, (∃ j, j < h'.length ∧ rnTo ρ n N j = i) ∨ (∀ j, j < h'.length → rnTo ρ n N j ≠ i) := fun i => by
    by_cases hx : ∃ j, j < h'.length ∧ rnTo ρ n N j = i
    · exact .inl hx
    · exact .inr fun j hj e => hx ⟨j, hj, e⟩
  have hinj' : ∀ i j, i < h'.length → j < h'.length → rnTo ρ n N i = rnTo ρ n N j → i = j := by
    intro i j hi hj e
    simp only [rnTo] at e
    split at e <;> split at e
    · exact hinj i j ‹_› ‹_› e
    · have := hρ i ‹_›; omega
    · have := hρ j ‹_›; omega
    · omega
  let ownR : Res → List Nat := fun r => match r with
    | .slot i => own' (.slot i)
    | .box i => if hx : ∃ j, j < h'.length ∧ rnTo ρ n N j = i then own' (.box hx.choose) else own (.box i)
  have hownR : ∀ j, j < h'.length → ownR (.box (rnTo ρ n N j)) = own' (.box j) := by
    intro j hj
    have hx : ∃ j', j' < h'.length ∧ rnTo ρ n N j' = rnTo ρ n N j := ⟨j, hj, rfl⟩
    simp only [ownR]
    rw [dif_pos hx, hinj' _ _ hx.choose_spec.1 hj hx.choose_spec.2]
  have hownR' : ∀ i, (∀ j, j < h'.length → rnTo ρ n N j ≠ i) → ownR (.box i) = own (.box i) := by
    intro i hi
    simp only [ownR]
    rw [dif_neg (fun ⟨j, hj, e⟩ => hi j hj e)]
  have hpiR : ∀ j, j < h'.length → pi' j = piR (rnTo ρ n N j) := by
    intro j hj
    simp only [piR, rnTo]
    by_cases h1 : j < n
    · rw [if_pos h1, if_pos (hρ j h1)]
      exact k3.pi j h1
    · rw [if_neg h1, if_neg (by omega)]
      congr 1
      omega
  have hsubA : ∀ b, (∃ r, b ∈ own0 r) → ∃ r, b ∈ own r := by
    rintro b ⟨r, hb⟩
    obtain ⟨q, m, _⟩ := hsub0 r b hb
    exact ⟨q, m⟩
  -- the caller's other boxes
  have hother : ∀ i, (∀ j, j < h'.length → rnTo ρ n N j ≠ i) → ∀ b, b ∈ own (.box i) → ¬ ∃ r, b ∈ own0 r := by
    rintro i hi b hb ⟨r, hr⟩
    obtain ⟨q, m1, m2, m3⟩ := hsub0 r b hr
    have := hrel.dj _ _ b hb m1
    cases r with
    | slot s => rw [m2 s rfl] at this; cases this
    | box j =>
      obtain ⟨hj, e⟩ := m3 j rfl
      rw [e] at this
      cases this
      refine hi j (by omega) ?_
      simp only [rnTo]
      rw [if_pos hj]
  have hfresh : ∀ r b, b ∈ own' r → (∃ r', b ∈ own0 r') ∨ w.heap.size ≤ b := k3.fresh
  have hdj : ∀ i, (∀ j, j < h'.length → rnTo ρ n N j ≠ i) → ∀ b, b ∈ own (.box i) → ∀ r, b ∉ own' r := by
    intro i hi b hb r hr
    rcases hfresh r b hr with h1 | h1
    · exact hother i hi b hb h1
    · have := hrel.live _ b hb
      omega
  have hsize := k3.step.size
  have hH' : ∀ i o, H'[i]? = some o → (∀ j, j < h'.length → rnTo ρ n N j ≠ i) → i < N ∧ H[i]? = some o := by
    intro i o hi hne
    have hlt := get_lt hi
    have hiN : i < N := by
      rcases Nat.lt_or_ge i N with h1 | h1
      · exact h1
      · exfalso
        refine hne (i - N + n) (by omega) ?_
        simp only [rnTo]
        rw [if_neg (by omega)]
        omega
    refine ⟨hiN, ?_⟩
    rw [← hk i hiN fun j hj e => hne j (by omega) (by simp only [rnTo]; rw [if_pos hj]; exact e)]
    exact hi
  have hhas : ∀ j, j < h'.length → (FS.of [ret'] H').has (rnTo ρ n N j) := by
    intro j hj
    obtain ⟨o', h1, _⟩ := hh' j _ (List.getElem?_eq_getElem hj)
    exact ⟨o', h1⟩
  have hhasN : ∀ i, i < N → (FS.of [ret'] H').has i := fun i hi => ⟨_, (List.getElem?_eq_getElem (by omega) : H'[i]? = _)⟩
  have hnpr : NP (fun i => i < h'.length) ret := (k2.slotnp 0).mono fun i ⟨o, ho⟩ => get_lt (show h'[i]? = some o from ho)
  have hnpo' : ∀ j o, h'[j]? = some o → NPo (fun i => i < h'.length) o := fun j o ho => (k2.boxnp j o ho).mono fun i ⟨o, ho⟩ => get_lt (show h'[i]? = some o from ho)
  refine ⟨v, fr', piR, ownR, rfl, ⟨fun i => ?_, fun i => ?_, fun i o ho => ?_, fun i o ho => ?_, fun i hi => ?_, fun r => ?_, fun r r' b x1 x2 => ?_, fun r b hb => ?_⟩, ⟨k3.step.mono fun b _ hb => hsubA b hb, fun r b hb => ?_, fun i hi => ?_⟩⟩
  · cases i with
    | zero => exact Rn.fwd (ok := fun i => i < h'.length) hpiR hr hnpr (k2.slot 0)
    | succ i =>
      have e : (FS.of [ret'] H').sl (i + 1) = .undef := by simp [FS.of, List.getD_eq_getElem?_getD]
      have e' : (FS.of [ret] h').sl (i + 1) = .undef := by simp [FS.of, List.getD_eq_getElem?_getD]
      have := k2.slot (i + 1)
      rw [e'] at this
      rw [e]
      cases hO : ownR (.slot (i + 1)) with
      | nil => exact .undef _
      | cons b r =>
        have hO' : own' (.slot (i + 1)) = b :: r := hO
        rw [hO'] at this
        cases this
  · cases i with
    | zero => exact Rn.np hhas hr hnpr
    | succ i =>
      have : (FS.of [ret'] H').sl (i + 1) = .undef := by simp [FS.of, List.getD_eq_getElem?_getD]
      rw [this]
      exact .undef
  · have ho' : H'[i]? = some o := ho
    rcases hinv i with ⟨j, hj, rfl⟩ | hne
    · obtain ⟨o2, h1, h2⟩ := hh' j _ (List.getElem?_eq_getElem hj)
      have e : o2 = o := Option.some.inj (h1.symm.trans ho')
      subst e
      obtain ⟨O, h3, h4⟩ := k2.box j _ (List.getElem?_eq_getElem hj : h'[j]? = _)
      exact ⟨O, by rw [← hpiR j hj]; exact RnO.fwd (ok := fun i => i < h'.length) hpiR h2 (hnpo' j _ (List.getElem?_eq_getElem hj)) h3, by rw [hownR j hj, ← hpiR j hj, ← RnO.blk h2]; exact h4⟩
    · obtain ⟨hiN, hi⟩ := hH' i o ho' hne
      obtain ⟨O, h3, h4⟩ := hrel.box i o hi
      have epi : piR i = pi i := by simp only [piR]; rw [if_pos hiN]
      refine ⟨O, ?_, by rw [hownR' i hne, epi]; exact h4⟩
      rw [epi]
      refine h3.mono k3.step (ok := fun i => i < N) (fun i hi => by simp only [piR]; rw [if_pos hi]) ((hrel.boxnp i o hi).mono fun i ⟨o, ho⟩ => get_lt (show H[i]? = some o from ho)) (fun x hx => hrel.live (.box i) x (by rw [h4]; exact hx)) (fun x hx => hother i hne x (by rw [h4]; exact hx))
  · have ho' : H'[i]? = some o := ho
    rcases hinv i with ⟨j, hj, rfl⟩ | hne
    · obtain ⟨o2, h1, h2⟩ := hh' j _ (List.getElem?_eq_getElem hj)
      have e : o2 = o := Option.some.inj (h1.symm.trans ho')
      subst e
      exact RnO.np hhas h2 (hnpo' j _ (List.getElem?_eq_getElem hj))
    · obtain ⟨hiN, hi⟩ := hH' i o ho' hne
      exact (hrel.boxnp i o hi).mono fun i ⟨o, ho⟩ => hhasN i (get_lt (show H[i]? = some o from ho))
  · have hi' : H'[i]? = none := hi
    rcases hinv i with ⟨j, hj, rfl⟩ | hne
    · obtain ⟨o2, h1, h2⟩ := hh' j _ (List.getElem?_eq_getElem hj)
      have : H'[rnTo ρ n N j]? = some o2 := h1
      rw [hi'] at this
      cases this
    · rw [hownR' i hne]
      refine hrel.nobox i ?_
      show H[i]? = none
      refine List.getElem?_eq_none ?_
      rcases Nat.lt_or_ge i H.length with h1 | h1
      · rw [List.getElem?_eq_getElem (by omega)] at hi'; cases hi'
      · exact h1
  · cases r with
    | slot i => exact k2.nd _
    | box i =>
      rcases hinv i with ⟨j, hj, rfl⟩ | hne
      · rw [hownR j hj]; exact k2.nd _
      · rw [hownR' i hne]; exact hrel.nd _
  · cases r with
    | slot i =>
      cases r' with
      | slot i' => exact k2.dj _ _ b x1 x2
      | box i' =>
        exfalso
        rcases hinv i' with ⟨j, hj, rfl⟩ | hne
        · rw [hownR j hj] at x2
          have := k2.dj _ _ b x1 x2
          cases this
        · rw [hownR' i' hne] at x2
          exact hdj i' hne b x2 _ x1
    | box i =>
      cases r' with
      | slot i' =>
        exfalso
        rcases hinv i with ⟨j, hj, rfl⟩ | hne
        · rw [hownR j hj] at x1
          have := k2.dj _ _ b x1 x2
          cases this
        · rw [hownR' i hne] at x1
          exact hdj i hne b x1 _ x2
      | box i' =>
        rcases hinv i with ⟨j, hj, rfl⟩ | hne
        · rw [hownR j hj] at x1
          rcases hinv i' with ⟨j', hj', rfl⟩ | hne'
          · rw [hownR j' hj'] at x2
            have := k2.dj _ _ b x1 x2
            cases this
            rfl
          · rw [hownR' i' hne'] at x2
            exact absurd x1 (hdj i' hne' b x2 _)
        · rw [hownR' i hne] at x1
          rcases hinv i' with ⟨j', hj', rfl⟩ | hne'
          · rw [hownR j' hj'] at x2
            exact absurd x2 (hdj i hne b x1 _)
          · rw [hownR' i' hne'] at x2
            exact hrel.dj _ _ b x1 x2
  · cases r with
    | slot i => exact k2.live _ b hb
    | box i =>
      rcases hinv i with ⟨j, hj, rfl⟩ | hne
      · rw [hownR j hj] at hb; exact k2.live _ b hb
      · rw [hownR' i hne] at hb
        have := hrel.live _ b hb
        omega
  · have key : ∀ r, b ∈ own' r → (∃ r', b ∈ own r') ∨ w.heap.size ≤ b := by
      intro r hb
      rcases hfresh r b hb with h1 | h1
      · exact .inl (hsubA b h1)
      · exact .inr h1
    cases r with
    | slot i => exact key _ hb
    | box i =>
      rcases hinv i with ⟨j, hj, rfl⟩ | hne
      · rw [hownR j hj] at hb; exact key _ hb
      · rw [hownR' i hne] at hb; exact .inl ⟨_, hb⟩
  · simp only [piR]
    rw [if_pos hi]

/-- A contract of one box, used where it stands among others. -/
theorem VCall.at {P : Program} {f : Nat} {args : List AV} {o : HObj} {ret : AV} {o' : HObj} (hc : VCall P f args [o] ret [o']) (i : Nat) {args' : List AV} {H : List HObj} (ha : RnL (fun _ => i) args args') (hna : ∀ a, a ∈ args → NP (fun i => i < 1) a)
    (ho : NPo (fun _ => False) o) (ho' : NPo (fun _ => False) o') (hr : NP (fun _ => False) ret) (hH : H[i]? = some o) (hrn : ∀ {o : HObj} {ρ : Nat → Nat}, NPo (fun _ => False) o → RnO ρ o o) : VCall P f args' H ret (H.set i o') := by
  have hi := get_lt hH
  refine hc.frame (fun _ => i) ha hna (fun j q hq => ?_) (fun j q hq => ?_) (fun i j h1 h2 _ => by simp at h1 h2; omega) (.refl _ hr) (by simp) (fun k hk hne => ?_) (fun j q hq => ?_)
  · have e : q = o := by
      cases j with
      | zero => simpa using hq.symm
      | succ j => simp at hq
    subst e
    exact ho.mono (fun _ h => h.elim)
  · have e : q = o := by
      cases j with
      | zero => simpa using hq.symm
      | succ j => simp at hq
    subst e
    exact ⟨q, hH, hrn ho⟩
  · have := hne 0 (by simp)
    rw [List.getElem?_set_ne this]
  · have ej : j = 0 := by
      cases j with
      | zero => rfl
      | succ j => simp at hq
    subst ej
    have e : q = o' := by simpa using hq.symm
    subst e
    refine ⟨q, ?_, hrn ho'⟩
    simp only [rnTo, List.length_singleton, Nat.lt_one_iff, ↓reduceIte]
    rw [List.getElem?_set_self hi]

/-- A loop from a state that tells no more than what matters; its boxes told anew. -/
theorem VloopS.weakE {P : Program} {L : Nat → Bool} {N h0 : Nat} {c : VC} {Q : VE → Sy → Prop} {σ : Sy} {l : List (Nat × AV)} {h : List HObj} (hu : upsOk N l = true) (hw : WkU σ l) (hh : σ.h = h) (hk : h0 ≤ h.length) (hl : VloopS P L N h0 c Q ⟨[], l, h⟩) : VloopS P L N h0 c Q σ := by
  subst hh
  exact VloopS.weak hu hw hk hl

theorem npo1 {cs : List AV} (h : ∀ a, a ∈ cs → NP (fun i => i < 1) a) {h0 : List HObj} : ∀ (i : Nat) (o : HObj), ([HObj.cells cs])[i]? = some o → h0[i]? = some o ∨ NPo (fun i => i < ([HObj.cells cs] : List HObj).length) o := by
  intro i o hi
  cases i with
  | zero =>
    have : o = .cells cs := by simpa using hi.symm
    subst this
    exact .inr h
  | succ i => simp at hi

/-- Numbers, as the cells of a slice. -/
def ints (l : List Int) : List (List AV) := l.map fun x => [.int .i64 x]
theorem ints_len (l : List Int) : (ints l).length = l.length := by simp [ints]
theorem ints_app (a b : List Int) : ints a ++ ints b = ints (a ++ b) := by simp [ints]
theorem ints_get {l : List Int} {i : Nat} (h : i < l.length) : (ints l)[i]? = some [.int .i64 l[i]] := by simp [ints, h]
theorem ints_take (l : List Int) (n : Nat) : (ints l).take n = ints (l.take n) := by simp [ints, List.map_take]
theorem ints_drop (l : List Int) (n : Nat) : (ints l).drop n = ints (l.drop n) := by simp [ints, List.map_drop]
theorem np_ints {ok : Nat → Prop} {sz : Nat} {nl : Option Bool} {own : Bool} (l : List Int) : NP ok (.sl sz nl own (ints l)) := by
  refine .sl _ _ _ _ fun x hx a ha => ?_
  simp only [ints, List.mem_map] at hx
  obtain ⟨b, _, rfl⟩ := hx
  simp only [List.mem_singleton] at ha
  subst ha
  exact .int _ _

end Go.Proofs.YtmjdoonaidolkaaDoor.V

/- A small logic of values over the model, part 35: where a loop is left, no more is told than what matters. -/
namespace Go.Proofs.YtmjdoonaidolkaaDoor.V

/-- Told less of. -/
def exW (N : Nat) (Q : VE → Sy → Prop) : VE → Sy → Prop := fun x σ => ∃ (l : List (Nat × AV)) (h : List HObj), upsOk N l = true ∧ WkU σ l ∧ σ.h = h ∧ Q x ⟨[], l, h⟩

theorem VQ.exW {N h0 : Nat} {Q : VE → Sy → Prop} {w : World} {fr pi : Nat → Nat} {own : Res → List Nat} {e : Exit} {a : Act} {w' : World} (h : VQ N (QS N (exW N Q)) h0 w fr pi own e a w') : VQ N (QS N Q) h0 w fr pi own e a w' := by
  obtain ⟨x, S', fr', pi', own', k1, ⟨σ, rfl, hok, l, hb, hu, hw, rfl, hq⟩, k3, k4, k5, k6, k7, k8⟩ := h
  obtain ⟨own2, r1, r2⟩ := k5.weak (S0 := (⟨[], l, σ.h⟩ : Sy).st N) (WkU.st (h := σ.h) hok hw (upsOk_spec hu)) (ex := []) (by simp [Sy.st]) (.inl rfl)
  exact ⟨x, _, fr', pi', own2, k1, ⟨_, rfl, upsOk_spec hu, hq⟩, Sy.st_length _ _, k4, r1, k6, k7, k8.step, fun r b hb => k8.fresh r b (r2 r b hb), k8.pi⟩

theorem VloopS.exW {P : Program} {L : Nat → Bool} {N h0 : Nat} {c : VC} {Q : VE → Sy → Prop} {σ : Sy} (h : VloopS P L N h0 c (V.exW N Q) σ) : VloopS P L N h0 c Q σ := by
  intro hok hN hk c0 hc a w fr pi own hr hs hd
  exact (h hok hN hk c0 hc a w fr pi own hr hs hd).mono fun e a w hh => hh.exW

theorem ex_w {N : Nat} {Q : VE → Sy → Prop} {x : VE} {σ : Sy} {l : List (Nat × AV)} {h : List HObj} (hq : Q x ⟨[], l, h⟩) (hu : upsOk N l = true) (hw : WkU σ l) (hh : σ.h = h) : exW N Q x σ := ⟨l, h, hu, hw, hh, hq⟩

end Go.Proofs.YtmjdoonaidolkaaDoor.V

/- A small logic of values over the model, part 36: functions without a body, for which the model stands in. -/
namespace Go.Proofs.YtmjdoonaidolkaaDoor.V

theorem PCallN.ofExt {P : Program} {f : Nat} {fn : Func} {e : Array Value → Sem Value} (hf : P.funcs[f]? = some fn) (hname : (fn.name == "runtime.NumGoroutine") = false) (hb : fn.body.isNone = true) (hn : Extern.findNext fn = none) (he : Extern.find fn = some e) {args : List AV} {ret : AV}
    (hargs : ∀ a, a ∈ args → NP (fun _ => False) a) (hret : NP (fun _ => False) ret) (hrun : ∀ (w : World) (fr pi : Nat → Nat) (own : Res → List Nat) (vals : List Value), vals.length = args.length → Rel w fr pi own (FS.of args []) vals.toArray → ∃ v, (e vals.toArray).run P w = .ok v w ∧ Rep w fr pi ret v []) : PCallN P f args ret := by
  have hcl : callable P f = false := by
    unfold callable
    rw [hf]
    simp only [Bool.and_eq_false_iff]
    right
    cases h : fn.body with
    | none => rfl
    | some c => rw [h] at hb; cases hb
  have hk : known P f = true := by
    unfold known
    rw [hf]
    simp only [Bool.and_eq_true, Bool.or_eq_true]
    exact ⟨by rw [hname]; rfl, .inr ⟨by rw [hn]; rfl, by rw [he]; rfl⟩⟩
  refine ⟨hargs, hk, Nat.le_refl _, fun w fr pi own vals hl hrel => ?_⟩
  obtain ⟨v, h1, h2⟩ := hrun w fr pi own vals hl hrel
  unfold Runs
  rw [hcl]
  refine ⟨fn, e, v, w, hf, hname, hb, hn, he, h1, v, fr, pi, fun _ => [], rfl, ⟨fun i => ?_, fun i => ?_, fun i o ho => ?_, fun i o ho => ?_, fun i _ => rfl, fun _ => List.nodup_nil, fun r r' b hb => ?_, fun r b hb => ?_⟩, ⟨Step.refl _ _ _, fun r b hb => ?_, fun _ _ => rfl⟩⟩
  · cases i with
    | zero => exact h2
    | succ i =>
      have e : (FS.of [ret] []).sl (i + 1) = .undef := by simp [FS.of, List.getD_eq_getElem?_getD]
      rw [e]
      exact .undef _
  · cases i with
    | zero => exact hret.mono fun _ h => h.elim
    | succ i =>
      have e : (FS.of [ret] []).sl (i + 1) = .undef := by simp [FS.of, List.getD_eq_getElem?_getD]
      rw [e]
      exact .undef
  · simp [FS.of] at ho
  · simp [FS.of] at ho
  · simp at hb
  · simp at hb
  · simp at hb

theorem vals_two {w : World} {fr pi : Nat → Nat} {own : Res → List Nat} {a b : AV} {vals : List Value} (hl : vals.length = [a, b].length) (hr : Rel w fr pi own (FS.of [a, b] []) vals.toArray) : ∃ u v, vals = [u, v] ∧ Rep w fr pi a u (own (.slot 0)) ∧ Rep w fr pi b v (own (.slot 1)) := by
  match vals, hl, hr with
  | [u, v], _, hr => exact ⟨u, v, rfl, hr.slot 0, hr.slot 1⟩

/-! the order of bytes -/
open Go.Lib

theorem cb_val : ∀ a b : List UInt8, compareBytes a b = -1 ∨ compareBytes a b = 0 ∨ compareBytes a b = 1
  | [], [] => .inr (.inl rfl)
  | [], _ :: _ => .inl rfl
  | _ :: _, [] => .inr (.inr rfl)
  | a :: as, b :: bs => by
    unfold compareBytes
    split
    · exact .inl rfl
    · split
      · exact .inr (.inr rfl)
      · exact cb_val as bs

theorem cb_self : ∀ a : List UInt8, compareBytes a a = 0
  | [] => rfl
  | a :: as => by
    unfold compareBytes
    rw [if_neg (UInt8.lt_irrefl a), if_neg (UInt8.lt_irrefl a)]
    exact cb_self as

theorem cb_anti : ∀ a b : List UInt8, compareBytes b a = - compareBytes a b
  | [], [] => rfl
  | [], _ :: _ => rfl
  | _ :: _, [] => rfl
  | a :: as, b :: bs => by
    have ih := cb_anti as bs
    unfold compareBytes
    simp only [UInt8.lt_iff_toNat_lt]
    by_cases h1 : a.toNat < b.toNat
    · rw [if_pos h1, if_neg (by omega), if_pos h1]; rfl
    · rw [if_neg h1]
      by_cases h2 : b.toNat < a.toNat
      · simp only [h1, h2, ↓reduceIte]
      · simp only [h1, h2, ↓reduceIte, ih]

theorem cb_eq : ∀ {a b : List UInt8}, compareBytes a b = 0 → a = b
  | [], [], _ => rfl
  | [], _ :: _, h => by cases h
  | _ :: _, [], h => by cases h
  | a :: as, b :: bs, h => by
    unfold compareBytes at h
    simp only [UInt8.lt_iff_toNat_lt] at h
    by_cases h1 : a.toNat < b.toNat
    · rw [if_pos h1] at h; cases h
    · rw [if_neg h1] at h
      by_cases h2 : b.toNat < a.toNat
      · rw [if_pos h2] at h; cases h
      · rw [if_neg h2] at h
        rw [UInt8.toNat_inj.1 (by omega : a.toNat = b.toNat), cb_eq h]

theorem cb_less : ∀ a b : List UInt8, Op.bytesLess a b = decide (compareBytes a b < 0)
  | [], [] => rfl
  | [], _ :: _ => rfl
  | _ :: _, [] => rfl
  | a :: as, b :: bs => by
    have ih := cb_less as bs
    unfold Op.bytesLess compareBytes
    by_cases h1 : a < b
    · rw [if_pos h1, decide_eq_true h1]; rfl
    · rw [if_neg h1, decide_eq_false h1, Bool.false_or]
      by_cases h2 : b < a
      · rw [if_pos h2, beq_eq_false_iff_ne.2 (fun e => by subst e; exact UInt8.lt_irrefl a h2)]; rfl
      · rw [if_neg h2, ih]
        simp only [UInt8.lt_iff_toNat_lt] at h1 h2
        rw [UInt8.toNat_inj.1 (by omega : a.toNat = b.toNat), beq_self_eq_true, Bool.true_and]

theorem cb_trans : ∀ {a b c : List UInt8}, compareBytes a b < 0 → compareBytes b c < 0 → compareBytes a c < 0
  | [], [], _, h, _ => by cases h
  | [], _ :: _, [], _, h => by cases h
  | [], _ :: _, _ :: _, _, _ => show (-1 : Int) < 0 by decide
  | _ :: _, [], _, h, _ => by cases h
  | _ :: _, _ :: _, [], _, h => by cases h
  | a :: as, b :: bs, c :: cs, h, h' => by
    unfold compareBytes at h h' ⊢
    simp only [UInt8.lt_iff_toNat_lt] at h h' ⊢
    by_cases h1 : a.toNat < b.toNat
    · by_cases h2 : b.toNat < c.toNat
      · rw [if_pos (by omega)]; decide
      · rw [if_neg h2] at h'
        by_cases h3 : c.toNat < b.toNat
        · rw [if_pos h3] at h'; cases h'
        · rw [if_pos (by omega)]; decide
    · rw [if_neg h1] at h
      by_cases h4 : b.toNat < a.toNat
      · rw [if_pos h4] at h; cases h
      · rw [if_neg h4] at h
        by_cases h2 : b.toNat < c.toNat
        · rw [if_pos (by omega)]; decide
        · rw [if_neg h2] at h'
          by_cases h3 : c.toNat < b.toNat
          · rw [if_pos h3] at h'; cases h'
          · rw [if_neg h3] at h'
            rw [if_neg (by omega), if_neg (by omega)]
            exact cb_trans h h'

/-- Of numbers. -/
def sgn (a b : Int) : Int := if a < b then -1 else if a > b then 1 else 0

end Go.Proofs.YtmjdoonaidolkaaDoor.V

/- A small logic of values over the model, part 37: from a contract to the row of a law that lists variables. -/
namespace Go.Proofs.YtmjdoonaidolkaaDoor.V
open Go.ChangeShapes Go.WideShapes Go.ChangeAt Go.RowKit

/-- The same, where the row lists variables. -/
theorem law_liftedL {C : Checked} {os : Os} {f : FuncId} {fn : Func} {s : ChangeSpec} {tb : TypeId} {X : World → Array Value → Prop} (hX : ∀ (w w' : World) (args : Array Value), w.heap = w'.heap → X w args → X w' args) (n : Nat) (H : Type) (enc : TypeId × Value → H) (own : ownKnob C.prog.godebug = none) (started : os.Started) (noInit : C.prog.inits.idxOf? f = none) (hfn : C.prog.funcs[f]? = some fn)
    (hl : laidOutB C.prog = true) (hvs : s.vars = []) (hr : fn.resultTypes = #[tb]) (htb : C.prog.underlying tb = some .bool)
    (hts : (fn.params.toList.all fun t => plainB C.prog n t && C.prog.readableRec t && decide (t < C.prog.types.size)) = true)
    (hs : ∀ ds : List (DataW H), ds.length = fn.params.toList.length → (s.fn H ds).results = [.lit (.bool true)] ∧ (s.fn H ds).args = ds ∧ (s.fn H ds).vars = [])
    (witness : ∃ (w : World) (tape : Tape) (i : Input), w.os = os ∧ (w.forCall tape i).Shaped C.prog ∧ i.vars = [] ∧ Input.okWide C.prog (w.forCall tape i) .any w.heap.size f i ∧
      ((s.pre enc C.prog fn [] false (w.forCall tape i).memory i.args ∧ X (w.forCall tape i).memory i.args) ∧ sizedMet enc C.prog fn (OpenSpec.ofChange s) false (w.forCall tape i).memory i.args) ∧ ({} : Assume).holds C.prog (lone (Frame.enter C.prog f i.args .normal) [] (w.forCall tape i)))
    (hcl : callable C.prog f = true) (hc : ∀ as, Pars C.prog fn.params.toList as → PCall C.prog f as (.bool true)) :
    ReturnsInHanded {} C os f .any (fun w args => (s.pre enc C.prog fn [] false w args ∧ X w args) ∧ sizedMet enc C.prog fn (OpenSpec.ofChange s) false w args) (s.post enc C.prog fn false true false false) := by
  refine returnsInHanded_of_change_and hX own started noInit hfn witness ?_
  intro W base args ds gs before hval hW _ _ _ _
  have hW' := hW
  obtain ⟨p, q, hA, hV, rfl, hfz, hnd⟩ := hW
  rw [hvs] at hV
  obtain ⟨rfl, rfl⟩ := trodVars_none hV
  rw [List.all_eq_true] at hts
  have hplain : fn.params.toList.all (plainB C.prog n) = true := by
    rw [List.all_eq_true]
    intro t ht
    have := hts t ht
    simp only [Bool.and_eq_true] at this
    exact this.1.1
  have hread : ∀ t, t ∈ fn.params.toList → C.prog.readableRec t = true ∧ t < C.prog.types.size := by
    intro t ht
    have := hts t ht
    simp only [Bool.and_eq_true, decide_eq_true_eq] at this
    exact ⟨this.1.2, this.2⟩
  let fr : Nat → Nat := fun b => match W.heap[b]? with | some (.cells c _ _) => c.size | _ => 0
  have hfr : ∀ b c el z, W.heap[b]? = some (.cells c el z) → c.size ≤ fr b := by
    intro b c el z h
    show c.size ≤ (match W.heap[b]? with | some (.cells c _ _) => c.size | _ => 0)
    rw [h]
    exact Nat.le_refl _
  obtain ⟨as, h1, h2, h3⟩ := pars_rep (w := W) (fr := fr) (pi := fun _ => 0) (r := .any) (b0 := base) hfr hplain (fun j t v a b => hval j t v (by simpa using a) (by simpa using b)) hA
  have hrel : Rel W fr (fun _ => 0) (fun _ => []) (FS.of as []) args := by
    refine ⟨fun i => ?_, fun i => ?_, fun i o ho => ?_, fun i o ho => ?_, fun i _ => rfl, fun _ => List.nodup_nil, fun r r' b hb => by simp at hb, fun r b hb => by simp at hb⟩
    · show Rep W fr _ (as.getD i .undef) _ []
      rcases Nat.lt_or_ge i as.length with hi | hi
      · obtain ⟨v, O', k1, k2, k3⟩ := h2.get (List.getElem?_eq_getElem hi)
        have hO : O' = [] := List.eq_nil_iff_forall_not_mem.2 fun b hb => by simpa using k3 b hb
        rw [hO] at k2
        have e : args.getD i Go.undef = v := by
          rw [Array.getD_eq_getD_getElem?, show args[i]? = some v by simpa using k1]; rfl
        rw [e, List.getD_eq_getElem?_getD, List.getElem?_eq_getElem hi]
        exact k2
      · rw [List.getD_eq_getElem?_getD, List.getElem?_eq_none hi]
        exact .undef _
    · show NP _ (as.getD i .undef)
      rcases Nat.lt_or_ge i as.length with hi | hi
      · rw [List.getD_eq_getElem?_getD, List.getElem?_eq_getElem hi]
        exact (h1.np _ (List.getElem_mem hi)).mono (fun _ h => h.elim)
      · rw [List.getD_eq_getElem?_getD, List.getElem?_eq_none hi]
        exact .undef
    · simp [FS.of] at ho
    · simp [FS.of] at ho
  have hlen : args.toList.length = as.length := h2.length.symm
  have := (hc as h1).2.2 W fr (fun _ => 0) (fun _ => []) args.toList hlen (by simpa using hrel)
  rw [Array.toArray_toList] at this
  refine (this.calls hcl).mono fun e W' hp => ?_
  obtain ⟨v, fr', pi', own', rfl, k2, k3⟩ := hp
  have k4 := k2.slot 0
  have e0 : (FS.of [AV.bool true] []).sl 0 = .bool true := rfl
  have e1 : (#[v] : Array Value).getD 0 Go.undef = v := rfl
  rw [e0, e1] at k4
  have ev : v = .bool true := k4.bool_inv
  subst ev
  refine ⟨_, rfl, law_post hl hW' hvs hr htb hread (hs ds h3) (k3.step.below fun b _ ⟨r, hr⟩ => by simp at hr)⟩

end Go.Proofs.YtmjdoonaidolkaaDoor.V

/- A small logic of values over the model: what one needs of shifts: boxes written no more at a call, at a loop, at a return; what a call has made is one's own. -/
namespace Go.Proofs.YtmjdoonaidolkaaDoor.V

/-- The boxes that are written no more: number, size, contents. -/
def fzOf : List (Nat × Nat × List (List AV)) → Nat → Option (Nat × List (List AV))
  | [], _ => none
  | (j, sz, xs) :: r, i => if i = j then some (sz, xs) else fzOf r i

def WkFU (B : Nat → Option (Nat × List (List AV))) (σ : Sy) : List (Nat × AV) → Prop
  | [] => True
  | (i, a) :: r => WkF B (σ.get i) a ∧ WkFU B σ r

theorem WkFU.look {B : Nat → Option (Nat × List (List AV))} {σ : Sy} {t : Nat} : ∀ {l : List (Nat × AV)}, WkFU B σ l → WkF B (σ.get t) (look t .undef l)
  | [], _ => .wk _ _ (.undef _)
  | (i, a) :: r, h => by
    rw [look_cons]
    by_cases e : i = t
    · rw [if_pos e, ← e]; exact h.1
    · rw [if_neg e]; exact WkFU.look h.2

/-- Boxes, list by list, behind a shift. -/
inductive HFL (B : Nat → Option (Nat × List (List AV))) : Nat → List HObj → List HObj → Prop
  | nil (i : Nat) : HFL B i [] []
  | fz (i sz : Nat) (xs : List (List AV)) (l l' : List HObj) : B i = some (sz, xs) → HFL B (i + 1) l l' → HFL B i (.arr sz xs :: l) (.ro [] :: l')
  | same (i : Nat) (o : HObj) (l l' : List HObj) : B i = none → HFL B (i + 1) l l' → HFL B i (o :: l) (o :: l')
  | cells (i : Nat) (cs cs' : List AV) (l l' : List HObj) : B i = none → WkFL B cs cs' → HFL B (i + 1) l l' → HFL B i (.cells cs :: l) (.cells cs' :: l')

theorem HFL.length {B : Nat → Option (Nat × List (List AV))} : ∀ {i : Nat} {l l' : List HObj}, HFL B i l l' → l.length = l'.length
  | _, _, _, .nil _ => rfl
  | _, _, _, .fz _ _ _ _ _ _ h => by simp [h.length]
  | _, _, _, .same _ _ _ _ _ h => by simp [h.length]
  | _, _, _, .cells _ _ _ _ _ _ _ h => by simp [h.length]

theorem HFL.get {B : Nat → Option (Nat × List (List AV))} : ∀ {i : Nat} {l l' : List HObj}, HFL B i l l' → ∀ {j : Nat} {o' : HObj}, l'[j]? = some o' → ∃ o, l[j]? = some o ∧ HF B (i + j) o o'
  | _, _, _, .nil _, j, o', h => by simp at h
  | _, _, _, .fz i sz xs l l' hB h', 0, o', h => by
    simp at h
    subst h
    exact ⟨_, rfl, .inl ⟨sz, xs, rfl, hB, rfl⟩⟩
  | _, _, _, .same i o l l' hB h', 0, o', h => by
    simp at h
    subst h
    exact ⟨_, rfl, .inr (.inl ⟨hB, rfl⟩)⟩
  | _, _, _, .cells i cs cs' l l' hB hw h', 0, o', h => by
    simp at h
    subst h
    exact ⟨_, rfl, .inr (.inr ⟨hB, cs, cs', rfl, rfl, hw⟩)⟩
  | _, _, _, .fz i sz xs l l' hB h', j + 1, o', h => by
    obtain ⟨o, h1, h2⟩ := h'.get (by simpa using h)
    exact ⟨o, by simpa using h1, by rw [show i + (j + 1) = i + 1 + j by omega]; exact h2⟩
  | _, _, _, .same i o l l' hB h', j + 1, o', h => by
    obtain ⟨o, h1, h2⟩ := h'.get (by simpa using h)
    exact ⟨o, by simpa using h1, by rw [show i + (j + 1) = i + 1 + j by omega]; exact h2⟩
  | _, _, _, .cells i cs cs' l l' hB hw h', j + 1, o', h => by
    obtain ⟨o, h1, h2⟩ := h'.get (by simpa using h)
    exact ⟨o, by simpa using h1, by rw [show i + (j + 1) = i + 1 + j by omega]; exact h2⟩

theorem Wk.undef_inv : ∀ {a b : AV}, Wk a b → a = .undef → b = .undef
  | _, _, .refl a, e => e
  | _, _, .undef a, _ => rfl
  | _, _, .nil .., e => by cases e
  | _, _, .nl .., e => by cases e
  | _, _, .strip a, e => by subst e; rfl
  | _, _, .both .., e => by cases e
  | _, _, .agg .., e => by cases e
  | _, _, .tup .., e => by cases e

theorem WkF.undef_inv {B : Nat → Option (Nat × List (List AV))} {a b : AV} (h : WkF B a b) (e : a = .undef) : b = .undef := by
  cases h with
  | wk _ _ h => exact h.undef_inv e
  | _ => cases e

/-- The shift of a state told slot by slot. -/
theorem ShiftS.fz {σ : Sy} {l : List (Nat × AV)} {h' : List HObj} (B : Nat → Option (Nat × List (List AV))) (hl : WkFU B σ l) (hh : HFL B 0 σ.h h') (hB : ∀ i sz xs, B i = some (sz, xs) → σ.h[i]? = some (.arr sz xs)) : ShiftS σ ⟨[], l, h'⟩ := by
  have hlen := hh.length
  have hw : ∀ i, WkF B (σ.get i) ((⟨[], l, h'⟩ : Sy).get i) := fun i => hl.look
  have hhas : ∀ i, (⟨σ.get, fun i => σ.h[i]?⟩ : FS).has i → (⟨(⟨[], l, h'⟩ : Sy).get, fun i => h'[i]?⟩ : FS).has i := by
    rintro i ⟨o, ho⟩
    have hlt := get_lt (show σ.h[i]? = some o from ho)
    exact ⟨_, (List.getElem?_eq_getElem (by omega) : h'[i]? = _)⟩
  refine ⟨fun i hi => (hw i).undef_inv hi, by simp only; omega, hhas, fun w fr pi own tm hr => ?_⟩
  have c1 : ∀ i, (⟨σ.get, fun i => σ.h[i]?⟩ : FS).bx i = none → (⟨(⟨[], l, h'⟩ : Sy).get, fun i => h'[i]?⟩ : FS).bx i = none := by
    intro i hi
    have hi' : σ.h[i]? = none := hi
    show h'[i]? = none
    rw [List.getElem?_eq_none_iff] at hi' ⊢
    omega
  have c2 : ∀ i o', (⟨(⟨[], l, h'⟩ : Sy).get, fun i => h'[i]?⟩ : FS).bx i = some o' → ∃ o, (⟨σ.get, fun i => σ.h[i]?⟩ : FS).bx i = some o ∧ HF B i o o' := by
    intro i o' ho'
    obtain ⟨o, h1, h2⟩ := hh.get (show h'[i]? = some o' from ho')
    exact ⟨o, h1, by rwa [Nat.zero_add] at h2⟩
  obtain ⟨fr', own', q1, q2⟩ := hr.shift (s' := ⟨(⟨[], l, h'⟩ : Sy).get, fun i => h'[i]?⟩) B hw hB c1 c2 hhas
  exact ⟨fr', pi, own', q1, q2⟩

theorem fzOf_one {i sz j sz' : Nat} {xs xs' : List (List AV)} (h : fzOf [(i, sz, xs)] j = some (sz', xs')) : j = i ∧ sz' = sz ∧ xs' = xs := by
  unfold fzOf at h
  split at h
  · cases h; exact ⟨by assumption, rfl, rfl⟩
  · cases h

/-- The first box alone is written no more. -/
theorem ShiftS.fz0 {σ : Sy} {sz : Nat} {xs : List (List AV)} {hr : List HObj} (l : List (Nat × AV)) (hh : σ.h = .arr sz xs :: hr) (hl : WkFU (fzOf [(0, sz, xs)]) σ l) : ShiftS σ ⟨[], l, .ro [] :: hr⟩ := by
  refine ShiftS.fz (fzOf [(0, sz, xs)]) hl ?_ fun i sz' xs' hi => ?_
  · rw [hh]
    refine .fz _ _ _ _ _ rfl ?_
    have : ∀ (l : List HObj) (i : Nat), 0 < i → HFL (fzOf [(0, sz, xs)]) i l l := by
      intro l
      induction l with
      | nil => exact fun i _ => .nil i
      | cons o r ih => exact fun i hi => .same i o r r (by simp [fzOf]; omega) (ih (i + 1) (by omega))
    exact this hr 1 (by decide)
  · obtain ⟨rfl, rfl, rfl⟩ := fzOf_one hi
    rw [hh]; rfl

/-- A loop from a state that is told otherwise. -/
theorem VloopS.shift {P : Program} {L : Nat → Bool} {N h0 : Nat} {c : VC} {Q : VE → Sy → Prop} {σ σ' : Sy} (hs : ShiftS σ σ') (hk : h0 ≤ σ.h.length) (h : VloopS P L N h0 c Q σ') : VloopS P L N h0 c Q σ := by
  intro hok hN hkk c0 hc a w fr pi own hr hsz hd
  have hok' : σ'.ok N := fun i hi => hs.1 i (hok i hi)
  have hr' : Rel w fr pi own ⟨σ.get, fun i => σ.h[i]?⟩ a.tmps := by rw [← Sy.st_fs hok]; exact hr
  obtain ⟨fr1, pi1, own1, q1, q2⟩ := hs.2.2.2 w fr pi own a.tmps hr'
  have q1' : Rel w fr1 pi1 own1 (σ'.st N).fs a.tmps := by rw [Sy.st_fs hok']; exact q1
  refine (h hok' (Sy.st_length _ _) (Nat.le_trans hk hs.2.1) c0 hc a w fr1 pi1 own1 q1' hsz hd).mono fun e a' w' hq => ?_
  refine VQ.trans ⟨q2.step, q2.fresh, fun i hi => q2.pi i ?_⟩ hq
  have hlt : i < σ.h.length := Nat.lt_of_lt_of_le hi hk
  exact ⟨_, (List.getElem?_eq_getElem hlt : σ.h[i]? = _)⟩

/-! ### what a call has made -/

/-- Plain cells: they lead nowhere. -/
def AV.flat : AV → Bool
  | .bool _ | .int _ _ | .str _ | .undef | .niliface | .nilfunc => true
  | _ => false

theorem Rep.flat {w w' : World} {fr fr' pi pi' : Nat → Nat} {a : AV} {v : Value} {O : List Nat} (h : Rep w fr pi a v O) (ha : a.flat = true) : Rep w' fr' pi' a v [] := by
  cases h <;> first | (simp [AV.flat] at ha; done) | constructor

theorem Reps.flat {w w' : World} {fr fr' pi pi' : Nat → Nat} : ∀ {as : List AV} {vs : List Value} {O : List Nat}, Reps w fr pi as vs O → (∀ a, a ∈ as → a.flat = true) → Reps w' fr' pi' as vs []
  | _, _, _, .nil, _ => .nil
  | _, _, _, .cons a v O as vs O' h1 h2, h => by simpa using Reps.cons _ _ _ _ _ _ (h1.flat (h a (by simp))) (h2.flat (fun x hx => h x (by simp [hx])))

mutual
theorem Rep.noOwn {w : World} {fr pi : Nat → Nat} : ∀ {a : AV} {v : Value} {O : List Nat}, Rep w fr pi a v O → a.strip = a → O = []
  | _, _, _, .bool b, _ => rfl
  | _, _, _, .int k n, _ => rfl
  | _, _, _, .str s, _ => rfl
  | _, _, _, .undef v, _ => rfl
  | _, _, _, .niliface, _ => rfl
  | _, _, _, .nilfunc, _ => rfl
  | _, _, _, .ptrnil, _ => rfl
  | _, _, _, .ptr id off, _ => rfl
  | _, _, _, .rptr .., _ => rfl
  | _, _, _, .func .., _ => rfl
  | _, _, _, .iface .., _ => rfl
  | _, _, _, .agg cs vs O h, e => Reps.noOwn h (by rw [AV.strip] at e; exact AV.agg.inj e)
  | _, _, _, .tup cs vs O h, e => Reps.noOwn h (by rw [AV.strip] at e; exact AV.tup.inj e)
  | _, _, _, .slnil .., _ => rfl
  | _, _, _, .sl .., _ => rfl
  | _, _, _, .slown .., e => by rw [AV.strip] at e; simp at e
  | _, _, _, .bsl .., _ => rfl
  | _, _, _, .bsl0 .., _ => rfl
  | _, _, _, .mp _, _ => rfl
  | _, _, _, .xsl .., e => by rw [AV.strip] at e; cases e
  | _, _, _, .fsl .., _ => rfl
  | _, _, _, .slempty .., _ => rfl
theorem Reps.noOwn {w : World} {fr pi : Nat → Nat} : ∀ {as : List AV} {vs : List Value} {O : List Nat}, Reps w fr pi as vs O → AV.stripL as = as → O = []
  | _, _, _, .nil, _ => rfl
  | _, _, _, .cons a v O as vs O' h1 h2, e => by
    rw [AV.stripL] at e
    injection e with e1 e2
    rw [Rep.noOwn h1 e1, Reps.noOwn h2 e2]
    rfl
end

/-- A call whose arguments own nothing makes what it returns: it is the caller's own altogether. -/
theorem PCallN.thaw {P : Program} {f : Nat} {args : List AV} {sz : Nat} {nl : Option Bool} {xs : List (List AV)} (h : PCallN P f args (.sl sz nl true xs)) (ha : AV.stripL args = args) (hx : 0 < xs.length) (hf : ∀ x, x ∈ xs → ∀ a, a ∈ x → a.flat = true) : PCallN P f args (.xsl sz xs) := by
  refine ⟨h.1, h.2.1, h.2.2.1, fun w fr pi own vals hl hr => ?_⟩
  refine (h.2.2.2 w fr pi own vals hl hr).mono fun e w' hp => ?_
  obtain ⟨v, fr', pi', own', rfl, k1, k2⟩ := hp
  have hno : ∀ r b, b ∉ own r := by
    intro r b hb
    cases r with
    | slot i =>
      have h1 := hr.slot i
      have e2 : (FS.of args []).sl i = args.getD i .undef := rfl
      rw [e2] at h1
      have hst : (args.getD i .undef).strip = args.getD i .undef := by
        have := congrArg (fun l => l.getD i AV.undef) ha
        simp only [AV.stripL_eq, List.getD_eq_getElem?_getD, List.getElem?_map] at this ⊢
        rcases Nat.lt_or_ge i args.length with h' | h'
        · rw [List.getElem?_eq_getElem h'] at this ⊢
          exact this
        · rw [List.getElem?_eq_none h']; rfl
      rw [h1.noOwn hst] at hb
      simp at hb
    | box i =>
      rw [hr.nobox i (by simp [FS.of])] at hb
      simp at hb
  have h0 := k1.slot 0
  have e0 : (FS.of [AV.sl sz nl true xs] []).sl 0 = .sl sz nl true xs := rfl
  have e1 : (#[v] : Array Value).getD 0 Go.undef = v := rfl
  rw [e0, e1] at h0
  have hfl : ∀ a, a ∈ xs.flatten → a.flat = true := fun a ha => by
    obtain ⟨x, hx, hax⟩ := List.mem_flatten.1 ha
    exact hf x hx a hax
  have hnp : ∀ {ok : Nat → Prop}, NP ok (.xsl sz xs) := fun {ok} => .xsl _ _ fun x hx a ha => by
    have := hf x hx a ha
    cases a <;> first | (simp [AV.flat] at this; done) | constructor
  rcases h0.sl_inv with ⟨_, he, _⟩ | ⟨_, _, _, he, _⟩ | ⟨b, o, cap, vs, rfl, _, m1, m2, m3, m4, hown⟩
  · subst he; simp at hx
  · subst he; simp at hx
  · rcases hown with ⟨hc, _⟩ | ⟨_, hO, ⟨hfr, c, el, hh, hlim⟩, rfl⟩
    · cases hc
    · have hb : b ∈ own' (.slot 0) := by rw [hO]; simp
      have hbw : w.heap.size ≤ b := by
        rcases k2.fresh _ b hb with ⟨r', hr'⟩ | h'
        · exact absurd hr' (hno r' b)
        · exact h'
      have hbl : b < w'.heap.size := k1.live _ b hb
      have hvl : vs.length = xs.length * sz := by rw [← m2.length, flatten_len m1]
      have hmul : xs.length * sz ≤ cap * sz := Nat.mul_le_mul_right _ m4
      have hc : c = (vs ++ c.toList.drop vs.length).toArray := by
        apply Array.ext'
        have hcl : c.toList.length = c.size := by simp
        have htake : c.toList.take vs.length = vs := by
          refine List.ext_getElem? fun k => ?_
          rw [List.getElem?_take]
          split
          · rename_i hk
            have := (m3 k vs[k] (List.getElem?_eq_getElem hk)).1
            rw [Nat.zero_add] at this
            simp only [World.cell?, hh] at this
            rw [List.getElem?_eq_getElem hk]
            simpa using this
          · rename_i hk
            rw [List.getElem?_eq_none (by omega)]
        conv => lhs; rw [← List.take_append_drop vs.length c.toList, htake]
      rw [hc] at hh
      let fr2 : Nat → Nat := upd fr' b 0
      have hother : ∀ r, r ≠ .slot 0 → own' r = [] := by
        intro r hr'
        cases r with
        | slot i =>
          have hi : i ≠ 0 := fun e => hr' (by rw [e])
          have h1 := k1.slot i
          have e2 : (FS.of [AV.sl sz nl true xs] []).sl i = .undef := by
            cases i with
            | zero => exact absurd rfl hi
            | succ i => simp [FS.of, List.getD_eq_getElem?_getD]
          rw [e2] at h1
          exact h1.noOwn rfl
        | box i => exact k1.nobox i (by simp [FS.of])
      have hst2 : Step w w' fr fr2 (fun b => ∃ r, b ∈ own r) := by
        obtain ⟨a1, a2, a3, a4, a5, a6⟩ := k2.step
        refine ⟨a1, a2, a3, a4, fun x hx hn => ⟨(a5 x hx hn).1, ?_⟩, fun x hx hA => ?_⟩
        · show upd fr' b 0 x = _
          rw [upd_ne _ _ (by omega)]; exact (a5 x hx hn).2
        · obtain ⟨r, hr'⟩ := hA
          exact absurd hr' (hno r x)
      refine ⟨_, fr2, pi', own', rfl, ⟨fun i => ?_, fun i => ?_, fun i o ho => ?_, fun i o ho => ?_, k1.nobox, k1.nd, k1.dj, k1.live⟩, ⟨hst2, k2.fresh, k2.pi⟩⟩
      · by_cases hi : i = 0
        · subst hi
          rw [hO]
          show Rep w' fr2 pi' (.xsl sz xs) _ [b]
          refine .xsl sz xs b cap vs _ el m1 (m2.flat hfl) (fun v hv => ?_) hh (upd_same _ _ _) m4 ?_
          · obtain ⟨k, hk⟩ := List.getElem?_of_mem hv
            exact (m3 k v hk).2.2
          · have := congrArg Array.size hc
            simp only [List.size_toArray] at this
            omega
        · have e2 : (FS.of [AV.xsl sz xs] []).sl i = .undef := by
            cases i with
            | zero => exact absurd rfl hi
            | succ i => simp [FS.of, List.getD_eq_getElem?_getD]
          rw [e2, hother _ (by simpa using hi)]
          exact .undef _
      · by_cases hi : i = 0
        · subst hi; exact hnp
        · have e2 : (FS.of [AV.xsl sz xs] []).sl i = .undef := by
            cases i with
            | zero => exact absurd rfl hi
            | succ i => simp [FS.of, List.getD_eq_getElem?_getD]
          rw [e2]
          exact .undef
      · simp [FS.of] at ho
      · simp [FS.of] at ho

theorem bs_flat (l : List UInt8) : ∀ x, x ∈ bs l → ∀ a, a ∈ x → a.flat = true := by
  intro x hx a ha
  obtain ⟨b, _, rfl⟩ := List.mem_map.1 hx
  simp only [List.mem_singleton] at ha
  subst ha
  rfl

/-- What a contract returns is told otherwise: what was one's own is so no longer. -/
theorem PCallN.letRet {P : Program} {f : Nat} {args : List AV} {ret ret' : AV} (hw : WkF (fun _ => none) ret ret') (h : PCallN P f args ret) : PCallN P f args ret' := by
  refine ⟨h.1, h.2.1, h.2.2.1, fun w fr pi own vals hl hr => ?_⟩
  refine (h.2.2.2 w fr pi own vals hl hr).mono fun e w' hp => ?_
  obtain ⟨v, fr', pi', own', rfl, k1, k2⟩ := hp
  obtain ⟨fr2, own2, q1, q2⟩ := k1.shift (s' := FS.of [ret'] []) (fun _ => none) (fun i => by
    cases i with
    | zero => exact hw
    | succ i =>
      have e2 : ∀ r : AV, (FS.of [r] []).sl (i + 1) = .undef := fun r => by simp [FS.of, List.getD_eq_getElem?_getD]
      rw [e2, e2]
      exact .wk _ _ (.refl _)) (fun i sz xs h => by cases h) (fun i _ => by simp [FS.of]) (fun i o ho => by simp [FS.of] at ho) (fun i ⟨o, ho⟩ => by simp [FS.of] at ho)
  exact ⟨v, fr2, pi', own2, rfl, q1, k2.trans q2 (fun i hi => by simp at hi)⟩

end Go.Proofs.YtmjdoonaidolkaaDoor.V

/- A small logic of values over the model: where a loop is left, the state may be told otherwise; a cell's own slice gets a box. -/
namespace Go.Proofs.YtmjdoonaidolkaaDoor.V

theorem Shift.refl (s : FS) : Shift s s := ⟨fun _ h => h, fun _ fr pi own _ hr => ⟨fr, pi, own, hr, Ext.refl _ _ _ _ _⟩⟩

theorem Shift.trans {s s1 s2 : FS} (h : Shift s s1) (h' : Shift s1 s2) : Shift s s2 := by
  refine ⟨fun i hi => h'.1 i (h.1 i hi), fun w fr pi own tm hr => ?_⟩
  obtain ⟨fr1, pi1, own1, q1, q2⟩ := h.2 w fr pi own tm hr
  obtain ⟨fr2, pi2, own2, z1, z2⟩ := h'.2 w fr1 pi1 own1 tm q1
  exact ⟨fr2, pi2, own2, z1, q2.trans z2 h.1⟩

theorem VloopS.exS {P : Program} {L : Nat → Bool} {N h0 : Nat} {c : VC} {Q : VE → Sy → Prop} {σ : Sy} (h : VloopS P L N h0 c (V.exS Q) σ) : VloopS P L N h0 c Q σ := by
  intro hok hN hk c0 hc a w fr pi own hr hs hd
  exact (h hok hN hk c0 hc a w fr pi own hr hs hd).mono fun e a w hh => hh.exS

theorem ex_s {Q : VE → Sy → Prop} {x : VE} {σ σ' : Sy} (hs : ShiftS σ σ') (hq : Q x σ') : exS Q x σ := ⟨σ', hs, hq⟩

/-- No box turned: slots and cells told less of. -/
theorem ShiftS.wk {σ : Sy} (l : List (Nat × AV)) (hl : WkFU (fun _ => none) σ l) : ShiftS σ ⟨[], l, σ.h⟩ := by
  refine ShiftS.fz (fun _ => none) hl ?_ (fun i sz xs h => by cases h)
  have : ∀ (l : List HObj) (i : Nat), HFL (fun _ => none) i l l := by
    intro l
    induction l with
    | nil => exact fun i => .nil i
    | cons o r ih => exact fun i => .same i o r r rfl (ih (i + 1))
  exact this σ.h 0

/-- A cell's own slice gets a box. -/
theorem Rel.openCell {w : World} {fr pi : Nat → Nat} {own : Res → List Nat} {s : FS} {tm : Array Value} (h : Rel w fr pi own s tm) {i id sz : Nat} {c1 c3 : List AV} {xs : List (List AV)} (hb : s.bx i = some (.cells (c1 ++ .xsl sz xs :: c3))) (hid : s.bx id = none) :
    ∃ pi' own', Rel w fr pi' own' ⟨s.sl, upd (upd s.bx i (some (.cells (c1 ++ .bsl sz id 0 xs.length :: c3)))) id (some (.arr sz xs))⟩ tm ∧ Ext w w fr fr pi pi' own own' s.has := by
  obtain ⟨O0, ⟨vs, e, h1, h2, h3⟩, h4⟩ := h.box i _ hb
  replace h4 : own (.box i) = pi i :: O0 := h4
  have hndb := h.nd (.box i)
  rw [h4] at hndb
  have hnp0 : ∀ a, a ∈ c1 ++ .xsl sz xs :: c3 → NP s.has a := h.boxnp i _ hb
  have hii : i ≠ id := fun e => by subst e; rw [hb] at hid; cases hid
  obtain ⟨u1, u23, O1, O23, e1, e2, r1, r23⟩ := h2.split
  cases r23 with
  | cons _ v O2 _ u3 O3 r2 r3 =>
  subst e2
  have hxn : ∀ x, x ∈ xs → ∀ a, a ∈ x → NP s.has a := (hnp0 (.xsl sz xs) (by simp)).xslF
  cases r2 with
  | xsl _ _ b cap vs' ju el m0 m1 m2 m3 m4 m5 m6 =>
    have hpi : ∀ i, s.has i → upd pi id b i = pi i := fun i ⟨o, hi⟩ => upd_ne _ _ (fun e => by subst e; simp [hid] at hi)
    have hhas : ∀ j, s.has j → FS.has ⟨s.sl, upd (upd s.bx i (some (.cells (c1 ++ .bsl sz id 0 xs.length :: c3)))) id (some (.arr sz xs))⟩ j := fun j ⟨o, hj⟩ => by
      by_cases e : j = id
      · subst e; exact ⟨_, upd_same _ _ _⟩
      · by_cases e2 : j = i
        · subst e2; exact ⟨_, by show upd _ id _ j = _; rw [upd_ne _ _ e, upd_same]⟩
        · exact ⟨o, by show upd _ id _ j = _; rw [upd_ne _ _ e, upd_ne _ _ e2]; exact hj⟩
    have st := Step.refl w fr (fun _ => False)
    have hno : own (.box id) = [] := h.nobox id hid
    simp only [List.nodup_cons, List.nodup_append, List.mem_append, List.mem_cons, List.cons_append, List.nil_append] at hndb
    obtain ⟨d0, d1, ⟨d2, d3⟩, d4⟩ := hndb
    have hbo : b ∈ own (.box i) := by rw [h4]; simp
    let own' : Res → List Nat := upd (upd own (.box i) (pi i :: (O1 ++ O3))) (.box id) [b]
    have hown : ∀ r x, x ∈ own' r → (r = .box id ∧ x = b) ∨ (r ≠ .box id ∧ x ∈ own r ∧ x ≠ b) := by
      intro r x hx
      by_cases e : r = .box id
      · subst e
        simp only [own', upd_same] at hx
        exact .inl ⟨rfl, by simpa using hx⟩
      · simp only [own'] at hx
        rw [upd_ne _ _ e] at hx
        by_cases e2 : r = .box i
        · subst e2
          rw [upd_same] at hx
          simp only [List.mem_cons, List.mem_append] at hx
          refine .inr ⟨e, ?_, fun hxb => ?_⟩
          · rw [h4]
            rcases hx with hx | hx | hx
            · simp [hx]
            · simp [hx]
            · simp [hx]
          · subst hxb
            rcases hx with rfl | hx | hx
            · exact d0 (.inr (.inl rfl))
            · exact d4 x hx x (.inl rfl) rfl
            · exact d2 hx
        · rw [upd_ne _ _ e2] at hx
          refine .inr ⟨e, hx, fun hxb => ?_⟩
          subst hxb
          exact e2 (h.dj r (.box i) x hx hbo)
    have hbsl : Rep w fr (upd pi id b) (.bsl sz id 0 xs.length) (.slice (some ⟨b, 0, none⟩) xs.length cap) [] := by
      have := Rep.bsl (w := w) (fr := fr) (pi := upd pi id b) sz id 0 xs.length cap m5 ⟨_, el, (0, 0), by rw [upd_same]; exact m3, by rw [Nat.zero_add]; exact m6⟩
      rwa [upd_same, Nat.zero_mul] at this
    refine ⟨upd pi id b, own', ⟨fun j => ?_, fun j => (h.slotnp j).mono hhas, fun j o hbo' => ?_, fun j o hbo' => ?_, fun j hj => ?_, fun r => ?_, fun r r' x x1 x2 => ?_, fun r x hx => ?_⟩, ⟨Step.refl _ _ _, fun r x hx => ?_, hpi⟩⟩
    · have : own' (.slot j) = own (.slot j) := by simp only [own']; rw [upd_ne _ _ (by simp), upd_ne _ _ (by simp)]
      rw [this]
      exact (h.slot j).mono st hpi (h.slotnp j) (by simp)
    · by_cases hj : j = id
      · subst hj
        simp only [upd_same] at hbo' ⊢
        cases hbo'
        exact ⟨[], ⟨rfl, m0, vs', ju, el, m3, m1.mono st hpi (flatNP hxn) (by simp), m2, m4⟩, by simp only [own', upd_same]; rfl⟩
      · by_cases hji : j = i
        · subst hji
          simp only [upd_ne _ _ hj, upd_same] at hbo'
          cases hbo'
          rw [hpi j ⟨_, hb⟩]
          refine ⟨O1 ++ O3, ⟨vs, e, h1, ?_, h3⟩, by simp only [own']; rw [upd_ne _ _ (by simpa using hj), upd_same]; rfl⟩
          rw [e1]
          have k1 := r1.mono st hpi (fun a ha => hnp0 a (by simp [ha])) (by simp)
          have k3 := r3.mono st hpi (fun a ha => hnp0 a (by simp [ha])) (by simp)
          have := k1.append (Reps.cons _ _ _ _ _ _ hbsl k3)
          simpa using this
        · have hb' : s.bx j = some o := by
            have : upd (upd s.bx i _) id _ j = some o := hbo'
            rwa [upd_ne _ _ hj, upd_ne _ _ hji] at this
          obtain ⟨O', y1, y2⟩ := h.box j o hb'
          rw [hpi j ⟨o, hb'⟩]
          exact ⟨O', y1.mono st hpi (h.boxnp j o hb') (fun x hx => h.live (.box j) x (by rw [y2]; exact hx)) (by simp), by simp only [own']; rw [upd_ne _ _ (by simpa using hj), upd_ne _ _ (by simpa using hji)]; exact y2⟩
    · by_cases hj : j = id
      · subst hj
        simp only [upd_same] at hbo'
        cases hbo'
        exact fun x hx a ha => (hxn x hx a ha).mono hhas
      · by_cases hji : j = i
        · subst hji
          simp only [upd_ne _ _ hj, upd_same] at hbo'
          cases hbo'
          intro a ha
          simp only [List.mem_append, List.mem_cons] at ha
          rcases ha with ha | rfl | ha
          · exact (hnp0 a (by simp [ha])).mono hhas
          · exact .bsl _ _ _ _ ⟨_, upd_same _ _ _⟩
          · exact (hnp0 a (by simp [ha])).mono hhas
        · have hb' : s.bx j = some o := by
            have : upd (upd s.bx i _) id _ j = some o := hbo'
            rwa [upd_ne _ _ hj, upd_ne _ _ hji] at this
          exact (h.boxnp j o hb').mono hhas
    · have hjd : j ≠ id := fun e => by
        subst e
        have : upd (upd s.bx i _) j _ j = none := hj
        rw [upd_same] at this; cases this
      have hji : j ≠ i := fun e => by
        subst e
        have : upd (upd s.bx j _) id _ j = none := hj
        rw [upd_ne _ _ hjd, upd_same] at this; cases this
      have hb' : s.bx j = none := by
        have : upd (upd s.bx i _) id _ j = none := hj
        rwa [upd_ne _ _ hjd, upd_ne _ _ hji] at this
      simp only [own']
      rw [upd_ne _ _ (by simpa using hjd), upd_ne _ _ (by simpa using hji)]
      exact h.nobox j hb'
    · by_cases e : r = .box id
      · subst e; simp only [own', upd_same]; simp
      · simp only [own']
        rw [upd_ne _ _ e]
        by_cases e2 : r = .box i
        · subst e2
          rw [upd_same]
          simp only [List.nodup_cons, List.nodup_append, List.mem_append]
          exact ⟨fun hm => d0 (by rcases hm with hm | hm; exact .inl hm; exact .inr (.inr hm)), d1, d3, fun a ha b hb => d4 a ha b (.inr hb)⟩
        · rw [upd_ne _ _ e2]; exact h.nd r
    · rcases hown r x x1 with ⟨rfl, rfl⟩ | ⟨n1, n2, n3⟩
      · rcases hown r' x x2 with ⟨rfl, _⟩ | ⟨_, _, k3⟩
        · rfl
        · exact absurd rfl k3
      · rcases hown r' x x2 with ⟨rfl, rfl⟩ | ⟨_, k2, _⟩
        · exact absurd rfl n3
        · exact h.dj r r' x n2 k2
    · rcases hown r x hx with ⟨_, rfl⟩ | ⟨_, k3, _⟩
      · exact h.live _ _ hbo
      · exact h.live _ _ k3
    · rcases hown r x hx with ⟨_, rfl⟩ | ⟨_, k3, _⟩
      · exact .inl ⟨_, hbo⟩
      · exact .inl ⟨_, k3⟩

theorem ShiftS.openCell {base : List AV} {ups : List (Nat × AV)} {h : List HObj} {i sz : Nat} {c1 c3 : List AV} {xs : List (List AV)} (hb : h[i]? = some (.cells (c1 ++ .xsl sz xs :: c3))) :
    ShiftS ⟨base, ups, h⟩ ⟨base, ups, h.set i (.cells (c1 ++ .bsl sz h.length 0 xs.length :: c3)) ++ [.arr sz xs]⟩ := by
  have hil := get_lt hb
  have hget : ∀ j, (h.set i (.cells (c1 ++ .bsl sz h.length 0 xs.length :: c3)) ++ [HObj.arr sz xs])[j]? = upd (upd (fun j => h[j]?) i (some (.cells (c1 ++ .bsl sz h.length 0 xs.length :: c3)))) h.length (some (.arr sz xs)) j := by
    intro j
    by_cases e : j = h.length
    · subst e; rw [upd_same]; simp
    · rw [upd_ne _ _ e]
      rcases Nat.lt_or_ge j h.length with h' | h'
      · rw [List.getElem?_append_left (by simpa using h')]
        by_cases e2 : j = i
        · subst e2; rw [upd_same, List.getElem?_set_self h']
        · rw [upd_ne _ _ e2, List.getElem?_set_ne (fun e => e2 e.symm)]
      · rw [List.getElem?_eq_none (by simp; omega), upd_ne _ _ (by omega), List.getElem?_eq_none h']
  refine ⟨fun j hj => hj, by simp, fun j ⟨o, hj⟩ => ?_, fun w fr pi own tm hr => ?_⟩
  · have hlt := get_lt (show h[j]? = some o from hj)
    exact ⟨_, (List.getElem?_eq_getElem (by simp; omega) : (h.set i _ ++ [HObj.arr sz xs])[j]? = _)⟩
  · obtain ⟨pi', own', q1, q2⟩ := hr.openCell (i := i) (id := h.length) hb (List.getElem?_eq_none (Nat.le_refl _))
    refine ⟨fr, pi', own', ?_, q2⟩
    have : (fun j => (h.set i (.cells (c1 ++ .bsl sz h.length 0 xs.length :: c3)) ++ [HObj.arr sz xs])[j]?) = _ := funext hget
    rw [this]
    exact q1

end Go.Proofs.YtmjdoonaidolkaaDoor.V

/- A small logic of values over the model: boxes are lent to a call that knows of none: behind it they stand as they did. -/
namespace Go.Proofs.YtmjdoonaidolkaaDoor.V

/-- A box's own slice, told as a slice. -/
theorem PCallN.lend {P : Program} {f : Nat} {args args' : List AV} {h h' : List HObj} {l : List (Nat × AV)} {ret : AV} (hp : PCallN P f args' ret) (ha : AV.stripL args' = args') (hf : ret.flat = true)
    (hs : ShiftS ⟨args, [], h⟩ ⟨[], l, h'⟩) (hl : args'.length = args.length ∧ ∀ i, look i .undef l = nthD args' i) : VCall P f args h ret h := by
  refine ⟨hp.2.1, Nat.le_refl _, fun w fr pi own vals hlen hr => ?_⟩
  have hr0 : Rel w fr pi own ⟨(⟨args, [], h⟩ : Sy).get, fun i => h[i]?⟩ vals.toArray := by
    have e : (⟨args, [], h⟩ : Sy).get = fun i => args.getD i .undef := funext fun i => nthD_eq args i
    rw [e]
    exact hr
  obtain ⟨fr1, pi1, own1, q1, _⟩ := hs.2.2.2 w fr pi own vals.toArray hr0
  have hsl : ∀ i, (⟨[], l, h'⟩ : Sy).get i = args'.getD i .undef := fun i => by
    rw [← nthD_eq]
    exact hl.2 i
  have hst : ∀ i, (args'.getD i .undef).strip = args'.getD i .undef := fun i => by
    have := congrArg (fun l => l.getD i AV.undef) ha
    simp only [AV.stripL_eq, List.getD_eq_getElem?_getD, List.getElem?_map] at this ⊢
    rcases Nat.lt_or_ge i args'.length with h' | h'
    · rw [List.getElem?_eq_getElem h'] at this ⊢
      exact this
    · rw [List.getElem?_eq_none h']; rfl
  have hr1 : Rel w fr1 pi1 (fun _ => []) (FS.of args' []) vals.toArray := by
    refine ⟨fun i => ?_, fun i => ?_, fun i o ho => ?_, fun i o ho => ?_, fun i _ => rfl, fun r => .nil, fun r r' b hb => ?_, fun r b hb => ?_⟩
    · have h1 := q1.slot i
      have e : (⟨(⟨[], l, h'⟩ : Sy).get, fun i => h'[i]?⟩ : FS).sl i = args'.getD i .undef := hsl i
      rw [e] at h1
      have h2 := h1.noOwn (hst i)
      rw [h2] at h1
      exact h1
    · show NP _ (args'.getD i .undef)
      rw [List.getD_eq_getElem?_getD]
      cases hi : args'[i]? with
      | none => exact .undef
      | some a => exact (hp.1 a (List.mem_of_getElem? hi)).mono (fun _ h => h.elim)
    · simp [FS.of] at ho
    · simp [FS.of] at ho
    · simp at hb
    · simp at hb
  refine (hp.2.2.2 w fr1 pi1 (fun _ => []) vals (by rw [hl.1]; exact hlen) hr1).mono fun e w' hq => ?_
  obtain ⟨v, fr', pi', own', rfl, k1, k2⟩ := hq
  have hkept : ∀ b, b < w.heap.size → w'.heap[b]? = w.heap[b]? ∧ fr' b = fr1 b := fun b hb => k2.step.kept b hb (fun ⟨r, hr⟩ => by simp at hr)
  have st : Step w w' fr (fun b => if b < w.heap.size then fr b else fr' b) (fun _ => False) :=
    ⟨k2.step.os, k2.step.tape, k2.step.output, k2.step.size, fun b hb _ => ⟨(hkept b hb).1, if_pos hb⟩, fun b _ hx => hx.elim⟩
  have h0 := k1.slot 0
  have e0 : (FS.of [ret] []).sl 0 = ret := rfl
  have e1 : (#[v] : Array Value).getD 0 Go.undef = v := rfl
  rw [e0, e1] at h0
  let own2 : Res → List Nat := fun r => match r with
    | .slot _ => []
    | .box i => own (.box i)
  have hsub : ∀ r b, b ∈ own2 r → b ∈ own r := fun r b hb => by
    cases r with
    | slot i => simp [own2] at hb
    | box i => exact hb
  refine ⟨v, (fun b => if b < w.heap.size then fr b else fr' b), pi, own2, rfl, ⟨fun i => ?_, fun i => ?_, fun i o ho => ?_, fun i o ho => ?_, fun i hi => hr.nobox i hi, fun r => ?_, fun r r' b hb hb' => hr.dj r r' b (hsub r b hb) (hsub r' b hb'), fun r b hb => Nat.lt_of_lt_of_le (hr.live r b (hsub r b hb)) st.size⟩, ⟨st.mono (fun _ _ hx => hx.elim), fun r b hb => .inl ⟨r, hsub r b hb⟩, fun _ _ => rfl⟩⟩
  · cases i with
    | zero => exact h0.flat hf
    | succ n => exact .undef _
  · cases i with
    | zero =>
      show NP _ ret
      cases ret <;> first | (simp [AV.flat] at hf; done) | constructor
    | succ n => exact .undef
  · obtain ⟨O, y1, y2⟩ := hr.box i o ho
    exact ⟨O, y1.mono st (ok := (FS.of args h).has) (fun _ _ => rfl) (hr.boxnp i o ho) (fun x hx => hr.live (.box i) x (by rw [y2]; exact hx)) (fun _ _ hx => hx), y2⟩
  · exact (hr.boxnp i o ho).mono fun _ hx => hx
  · cases r with
    | slot i => exact .nil
    | box i => exact hr.nd _

end Go.Proofs.YtmjdoonaidolkaaDoor.V

/- A small logic of values over the model: boxes are lent to a call that looks at a variable alone. -/
namespace Go.Proofs.YtmjdoonaidolkaaDoor.V

/-- Boxes are lent to a call that looks at a variable alone. -/
theorem VCall.lendG {P : Program} {f g : Nat} {gvs : List Value} {args args' : List AV} {h h' : List HObj} {l : List (Nat × AV)} {ret : AV} (hp : VCall P f args' [.glob g gvs] ret [.glob g gvs]) (hna : ∀ a, a ∈ args' → NP (fun _ => False) a) (ha : AV.stripL args' = args') (hf : ret.flat = true)
    (hs : ShiftS ⟨args, [], .glob g gvs :: h⟩ ⟨[], l, .glob g gvs :: h'⟩) (hl : args'.length = args.length ∧ ∀ i, look i .undef l = nthD args' i) : VCall P f args (.glob g gvs :: h) ret (.glob g gvs :: h) := by
  refine ⟨hp.1, Nat.le_refl _, fun w fr pi own vals hlen hr => ?_⟩
  have hr0 : Rel w fr pi own ⟨(⟨args, [], .glob g gvs :: h⟩ : Sy).get, fun i => (HObj.glob g gvs :: h)[i]?⟩ vals.toArray := by
    have e : (⟨args, [], .glob g gvs :: h⟩ : Sy).get = fun i => args.getD i .undef := funext fun i => nthD_eq args i
    rw [e]
    exact hr
  obtain ⟨fr1, pi1, own1, q1, _⟩ := hs.2.2.2 w fr pi own vals.toArray hr0
  have hsl : ∀ i, (⟨[], l, .glob g gvs :: h'⟩ : Sy).get i = args'.getD i .undef := fun i => by
    rw [← nthD_eq]
    exact hl.2 i
  have hst : ∀ i, (args'.getD i .undef).strip = args'.getD i .undef := fun i => by
    have := congrArg (fun l => l.getD i AV.undef) ha
    simp only [AV.stripL_eq, List.getD_eq_getElem?_getD, List.getElem?_map] at this ⊢
    rcases Nat.lt_or_ge i args'.length with h' | h'
    · rw [List.getElem?_eq_getElem h'] at this ⊢
      exact this
    · rw [List.getElem?_eq_none h']; rfl
  have hr1 : Rel w fr1 pi1 (fun _ => []) (FS.of args' [.glob g gvs]) vals.toArray := by
    refine ⟨fun i => ?_, fun i => ?_, fun i o ho => ?_, fun i o ho => ?_, fun i _ => rfl, fun r => .nil, fun r r' b hb => ?_, fun r b hb => ?_⟩
    · have h1 := q1.slot i
      have e : (⟨(⟨[], l, .glob g gvs :: h'⟩ : Sy).get, fun i => (HObj.glob g gvs :: h')[i]?⟩ : FS).sl i = args'.getD i .undef := hsl i
      rw [e] at h1
      have h2 := h1.noOwn (hst i)
      rw [h2] at h1
      exact h1
    · show NP _ (args'.getD i .undef)
      rw [List.getD_eq_getElem?_getD]
      cases hi : args'[i]? with
      | none => exact .undef
      | some a => exact (hna a (List.mem_of_getElem? hi)).mono (fun _ h => h.elim)
    · match i with
      | 0 =>
        have : o = .glob g gvs := by simpa [FS.of] using ho.symm
        subst this
        obtain ⟨O, y1, _⟩ := q1.box 0 (.glob g gvs) rfl
        obtain ⟨_, y2⟩ := y1
        exact ⟨[], ⟨rfl, y2⟩, rfl⟩
      | i + 1 => simp [FS.of] at ho
    · match i with
      | 0 =>
        have : o = .glob g gvs := by simpa [FS.of] using ho.symm
        subst this
        trivial
      | i + 1 => simp [FS.of] at ho
    · simp at hb
    · simp at hb
  refine (hp.2.2 w fr1 pi1 (fun _ => []) vals (by rw [hl.1]; exact hlen) hr1).mono fun e w' hq => ?_
  obtain ⟨v, fr', pi', own', rfl, k1, k2⟩ := hq
  have hkept : ∀ b, b < w.heap.size → w'.heap[b]? = w.heap[b]? ∧ fr' b = fr1 b := fun b hb => k2.step.kept b hb (fun ⟨r, hr⟩ => by simp at hr)
  have st : Step w w' fr (fun b => if b < w.heap.size then fr b else fr' b) (fun _ => False) :=
    ⟨k2.step.os, k2.step.tape, k2.step.output, k2.step.size, fun b hb _ => ⟨(hkept b hb).1, if_pos hb⟩, fun b _ hx => hx.elim⟩
  have h0 := k1.slot 0
  have e0 : (FS.of [ret] [.glob g gvs]).sl 0 = ret := rfl
  have e1 : (#[v] : Array Value).getD 0 Go.undef = v := rfl
  rw [e0, e1] at h0
  let own2 : Res → List Nat := fun r => match r with
    | .slot _ => []
    | .box i => own (.box i)
  have hsub : ∀ r b, b ∈ own2 r → b ∈ own r := fun r b hb => by
    cases r with
    | slot i => simp [own2] at hb
    | box i => exact hb
  refine ⟨v, (fun b => if b < w.heap.size then fr b else fr' b), pi, own2, rfl, ⟨fun i => ?_, fun i => ?_, fun i o ho => ?_, fun i o ho => ?_, fun i hi => hr.nobox i hi, fun r => ?_, fun r r' b hb hb' => hr.dj r r' b (hsub r b hb) (hsub r' b hb'), fun r b hb => Nat.lt_of_lt_of_le (hr.live r b (hsub r b hb)) st.size⟩, ⟨st.mono (fun _ _ hx => hx.elim), fun r b hb => .inl ⟨r, hsub r b hb⟩, fun _ _ => rfl⟩⟩
  · cases i with
    | zero => exact h0.flat hf
    | succ n => exact .undef _
  · cases i with
    | zero =>
      show NP _ ret
      cases ret <;> first | (simp [AV.flat] at hf; done) | constructor
    | succ n => exact .undef
  · obtain ⟨O, y1, y2⟩ := hr.box i o ho
    exact ⟨O, y1.mono st (ok := (FS.of args (.glob g gvs :: h)).has) (fun _ _ => rfl) (hr.boxnp i o ho) (fun x hx => hr.live (.box i) x (by rw [y2]; exact hx)) (fun _ _ hx => hx), y2⟩
  · exact (hr.boxnp i o ho).mono fun _ hx => hx
  · cases r with
    | slot i => exact .nil
    | box i => exact hr.nd _

end Go.Proofs.YtmjdoonaidolkaaDoor.V

/- A small logic of values over the model: a contract's arguments told less of, deep within. -/
namespace Go.Proofs.YtmjdoonaidolkaaDoor.V

theorem WkFL.getD {B : Nat → Option (Nat × List (List AV))} : ∀ {xs ys : List AV}, WkFL B xs ys → ∀ i, WkF B (xs.getD i .undef) (ys.getD i .undef)
  | _, _, .nil, _ => .wk _ _ (.refl _)
  | _, _, .cons _ _ _ _ h1 _, 0 => h1
  | _, _, .cons _ _ _ _ _ h2, i + 1 => by simpa using WkFL.getD h2 i

theorem PCallN.letArgs {P : Program} {f : Nat} {args args' : List AV} {ret : AV} (hw : WkFL (fun _ => none) args args') (hn : ∀ a, a ∈ args → NP (fun _ => False) a) (h : PCallN P f args' ret) : PCallN P f args ret := by
  refine ⟨hn, h.2.1, h.2.2.1, fun w fr pi own vals hl hr => ?_⟩
  obtain ⟨fr2, own2, q1, q2⟩ := hr.shift (s' := FS.of args' []) (fun _ => none) (fun i => hw.getD i) (fun i sz xs h => by cases h) (fun i _ => by simp [FS.of]) (fun i o ho => by simp [FS.of] at ho) (fun i ⟨o, ho⟩ => by simp [FS.of] at ho)
  refine (h.2.2.2 w fr2 pi own2 vals (by rw [hl, hw.length]) q1).mono fun e w' hp => ?_
  obtain ⟨v, fr', pi', own', rfl, k1, k2⟩ := hp
  exact ⟨v, fr', pi', own', rfl, k1, Ext.trans ⟨q2.step, q2.fresh, fun i hi => absurd hi (Nat.not_lt_zero i)⟩ k2 (fun i hi => hi)⟩

end Go.Proofs.YtmjdoonaidolkaaDoor.V

/- A small logic of values over the model: a function's result out of a box: what the box owned is the result's own. -/
namespace Go.Proofs.YtmjdoonaidolkaaDoor.V

/-- What stands in a box, handed on altogether. -/
theorem mv_result {P : Program} {w : World} {fr pi : Nat → Nat} {own : Res → List Nat} {s : FS} {tm : Array Value} (h : Rel w fr pi own s tm) {i off : Nat} {cs : List AV} (hb : s.bx i = some (.cells cs)) {t : TypeId} {g : Option Nat} (hg : aggOf P t = some g) {r : AV × List AV} (hm : mvCells cs off g = some r) :
    ∃ v O, (loadVar t ⟨pi i, off, none⟩).run P w = .ok v w ∧ Rep w fr pi r.1 v O ∧ NP s.has r.1 ∧ O.Nodup ∧ ∀ b, b ∈ O → b ∈ own (.box i) := by
  have hnp0 : ∀ a, a ∈ cs → NP s.has a := h.boxnp i _ hb
  cases g with
  | none =>
    simp only [mvCells] at hm
    obtain ⟨c, hc, e⟩ := Option.map_eq_some_iff.1 hm
    cases e
    have hlt : off < cs.length := by
      rcases Nat.lt_or_ge off cs.length with h' | h'
      · exact h'
      · simp [List.getElem?_eq_none h'] at hc
    have hone : (cs.drop off).take 1 = [c] := by
      rw [List.getElem?_eq_getElem hlt] at hc
      rw [List.drop_eq_getElem_cons hlt, Option.some.inj hc]
      rfl
    obtain ⟨O2, us, own1, r1, r2, r3, r4, r5, _⟩ := h.moveOut hb (off := off) (n := 1) (by omega)
    rw [hone] at r1
    obtain ⟨v, rfl⟩ : ∃ v, us = [v] := by
      match us, r2 with
      | [v], _ => exact ⟨v, rfl⟩
    have hrep : Rep w fr pi c v O2 := by
      cases r1 with
      | cons _ _ O' _ _ O'' g1 g2 =>
        cases g2
        simpa using g1
    exact ⟨v, O2, (run_loadVar_V hg (vs := [v]) r3).2 v rfl rfl, hrep, hnp0 _ (List.mem_of_getElem? hc), r4, r5⟩
  | some n =>
    simp only [mvCells] at hm
    split at hm <;> try (cases hm; done)
    rename_i hle
    cases hm
    obtain ⟨O2, us, own1, r1, r2, r3, r4, r5, _⟩ := h.moveOut hb hle
    exact ⟨_, O2, (run_loadVar_V hg (vs := us) r3).1 n rfl r2, .agg _ _ _ r1, .agg _ (fun a ha => hnp0 a (List.mem_of_mem_drop (List.mem_of_mem_take ha))), r4, r5⟩

/-- From a body to a contract. -/
theorem PCall.ofMv {P : Program} {L : Nat → Bool} {f : Nat} {fn : Func} {c : Code} {vc : VC} {args : List AV} {ret : AV} {t : Nat} {g : Option Nat} (hc0 : callable P f = true) (hf : P.funcs[f]? = some fn) (hb : fn.body = some c)
    (hc : comp P fn.ntmps c = some vc) (hr : resRV P fn.results.toList = some [.cell t g]) (hargs : args.length ≤ fn.ntmps) (hnp : NP (fun _ => False) ret)
    (hw : Vwp P L fn.ntmps 0 vc (fun x S' => (x = .normal ∨ x = .ret) ∧ ∃ i off cs r, S'.t.getD t .undef = .ptr (some (i, off)) ∧ S'.h[i]? = some (.cells cs) ∧ mvCells cs off g = some r ∧ r.1 = ret) ⟨args ++ List.replicate (fn.ntmps - args.length) .undef, []⟩) : PCall P f args ret := by
  refine ⟨known_of hc0, Nat.le_refl _, fun w fr pi own vals hvl hrel => Runs.of hc0 ?_⟩
  have hN : (args ++ List.replicate (fn.ntmps - args.length) AV.undef).length = fn.ntmps := by simp; omega
  have hsz : (vals.toArray ++ Array.replicate (fn.ntmps - vals.toArray.size) Go.undef).size = fn.ntmps := by simp; omega
  have hfs : St.fs ⟨args ++ List.replicate (fn.ntmps - args.length) .undef, []⟩ = FS.of args [] := by
    refine FS.ext' (fun i => ?_) (fun i => rfl)
    show (args ++ List.replicate (fn.ntmps - args.length) AV.undef).getD i .undef = args.getD i .undef
    rw [List.getD_eq_getElem?_getD, List.getD_eq_getElem?_getD]
    rcases Nat.lt_or_ge i args.length with hi | hi
    · rw [List.getElem?_append_left hi]
    · rw [List.getElem?_append_right hi, List.getElem?_eq_none hi, List.getElem?_replicate]
      split <;> rfl
  have htm : ∀ i, (vals.toArray ++ Array.replicate (fn.ntmps - vals.toArray.size) Go.undef).getD i Go.undef = vals.toArray.getD i Go.undef := by
    intro i
    rw [Array.getD_eq_getD_getElem?, Array.getD_eq_getD_getElem?]
    rcases Nat.lt_or_ge i vals.toArray.size with hi | hi
    · rw [Array.getElem?_append_left hi]
    · rw [Array.getElem?_append_right hi, Array.getElem?_eq_none hi, Array.getElem?_replicate]
      split <;> rfl
  have hrel' : Rel w fr pi own (St.fs ⟨args ++ List.replicate (fn.ntmps - args.length) .undef, []⟩) (vals.toArray ++ Array.replicate (fn.ntmps - vals.toArray.size) Go.undef) := by
    rw [hfs]
    exact ⟨fun i => by rw [htm]; exact hrel.slot i, hrel.slotnp, hrel.box, hrel.boxnp, hrel.nobox, hrel.nd, hrel.dj, hrel.live⟩
  obtain ⟨ty, hres, hg⟩ : ∃ ty, fn.results.toList = [.cell t ty] ∧ aggOf P ty = some g := by
    match hl : fn.results.toList with
    | [] => rw [hl] at hr; simp [resRV] at hr
    | .tmp u :: l => rw [hl] at hr; simp [resRV] at hr
    | .cell u ty :: l =>
      rw [hl] at hr
      simp only [resRV, Option.bind_eq_some_iff, Option.map_eq_some_iff] at hr
      obtain ⟨g', h1, l', h2, h3⟩ := hr
      cases h3
      refine ⟨ty, ?_, h1⟩
      cases l with
      | nil => rfl
      | cons x l =>
        exfalso
        cases x with
        | tmp u => simp [resRV] at h2
        | cell u ty =>
          simp only [resRV, Option.bind_eq_some_iff, Option.map_eq_some_iff] at h2
          obtain ⟨_, _, _, _, h4⟩ := h2
          cases h4
  refine calls_of_wp hf hb ?_
  refine wp_mono (hw hN (Nat.zero_le _) c hc _ w fr pi own hrel' hsz rfl) fun e a' w' hh => ?_
  obtain ⟨x, S', fr', pi', own', rfl, ⟨k2, i, off, cs, r, m1, m2, m3, rfl⟩, k3, k4, k5, k6, k7, k8⟩ := hh
  obtain ⟨v, O, r1, r2, r3, r4, r5⟩ := mv_result (P := P) k5 (show S'.fs.bx i = some (.cells cs) from m2) hg m3
  have hv : a'.tmps.getD t Go.undef = .pointer (some ⟨pi' i, off, none⟩) := by
    have h1 := k5.slot t
    have e : S'.fs.sl t = .ptr (some (i, off)) := m1
    rw [e] at h1
    exact h1.ptr_inv.1
  have hm : (fn.results.mapM fun (rv : ResultVar) => (match rv with
      | .tmp t => pure (a'.tmps.getD t Go.undef)
      | .cell a t => do loadVar t (← asAddr (a'.tmps.getD a Go.undef)) : Sem Value)).run P w' = .ok #[v] w' := by
    have k1 : ((do loadVar ty (← asAddr (a'.tmps.getD t Go.undef)) : Sem Value)).run P w' = .ok v w' := by simp [hv, asAddr, r1]
    rw [Array.mapM_eq_mapM_toList, hres]
    simp only [Sem.run_map, List.mapM_cons, List.mapM_nil, Sem.run_bind, Result.andThen_ok, Sem.run_pure]
    simp only [Sem.run_bind] at k1
    rw [k1]
    rfl
  have hrun : (results fn a'.tmps).run P w' = .ok v w' := by
    unfold results
    rw [Sem.run_bind]
    exact (congrArg (fun q => Result.andThen q fun (a : Array Value) w' => Sem.run P (pure (if h : a.size = 1 then a[0] else Value.tuple a)) w') hm).trans rfl
  let own2 : Res → List Nat := fun r => match r with
    | .slot 0 => O
    | .slot _ => []
    | .box _ => []
  have hsub : ∀ r b, b ∈ own2 r → b ∈ own' (.box i) := by
    intro r b hb
    cases r with
    | slot j =>
      cases j with
      | zero => exact r5 b hb
      | succ j => simp [own2] at hb
    | box j => simp [own2] at hb
  have key : a'.defers = [] ∧ ∃ v, (results fn a'.tmps).run P w' = .ok v w' ∧ ∃ v_1 fr' pi' own', Ending.returned v = .returned v_1 ∧ Rel w' fr' pi' own' (FS.of [r.1] []) #[v_1] ∧ Ext w w' fr fr' pi pi' own own' (fun i => i < ([] : List HObj).length) := by
    refine ⟨k7, v, hrun, v, fr', pi', own2, rfl, ⟨fun j => ?_, fun j => ?_, fun j o ho => ?_, fun j o ho => ?_, fun j hj => rfl, fun q => ?_, fun q q' b x1 x2 => ?_, fun q b hb => ?_⟩, ?_⟩
    · cases j with
      | zero => exact r2
      | succ j =>
        have : (FS.of [r.1] []).sl (j + 1) = .undef := by simp [FS.of, List.getD_eq_getElem?_getD]
        rw [this]
        exact .undef _
    · cases j with
      | zero => exact hnp.mono (fun _ h => h.elim)
      | succ j =>
        have : (FS.of [r.1] []).sl (j + 1) = .undef := by simp [FS.of, List.getD_eq_getElem?_getD]
        rw [this]
        exact .undef
    · simp [FS.of] at ho
    · simp [FS.of] at ho
    · cases q with
      | slot j => cases j with
        | zero => exact r4
        | succ j => simp [own2]
      | box j => simp [own2]
    · cases q with
      | slot j => cases j with
        | succ j => simp [own2] at x1
        | zero => cases q' with
          | slot j => cases j with
            | zero => rfl
            | succ j => simp [own2] at x2
          | box j => simp [own2] at x2
      | box j => simp [own2] at x1
    · exact k5.live _ b (hsub q b hb)
    · exact ⟨k8.step, fun q b hb => k8.fresh _ b (hsub q b hb), k8.pi⟩
  rcases k2 with rfl | rfl
  · exact key
  · exact key

/-- Where a function comes to its end with this in its result's box. -/
def retM (t : Nat) (g : Option Nat) (ret : AV) : VE → Sy → Prop
  | .exit _, _ => False
  | .normal, σ => match σ.get t with
    | .ptr (some (i, off)) => match σ.h[i]? with
      | some (.cells cs) => onSome (mvCells cs off g) fun r => r.1 = ret
      | _ => False
    | _ => False
  | .ret, σ => match σ.get t with
    | .ptr (some (i, off)) => match σ.h[i]? with
      | some (.cells cs) => onSome (mvCells cs off g) fun r => r.1 = ret
      | _ => False
    | _ => False

theorem retM_inv {N : Nat} {t : Nat} {g : Option Nat} {ret : AV} {σ : Sy} (hok : σ.ok N) (h : (match σ.get t with
    | .ptr (some (i, off)) => match σ.h[i]? with
      | some (.cells cs) => onSome (mvCells cs off g) fun r => r.1 = ret
      | _ => False
    | _ => False)) : ∃ i off cs r, (σ.st N).t.getD t .undef = .ptr (some (i, off)) ∧ (σ.st N).h[i]? = some (.cells cs) ∧ mvCells cs off g = some r ∧ r.1 = ret := by
  split at h <;> try (exact h.elim)
  rename_i i off h1
  split at h <;> try (exact h.elim)
  rename_i cs h2
  obtain ⟨r, h3, h4⟩ := onSome_inv h
  exact ⟨i, off, cs, r, by rw [Sy.st_getD hok]; exact h1, h2, h3, h4⟩

theorem PCallN.ofMv {P : Program} (L : Nat → Bool) {f N : Nat} {vc : VC} {t : Nat} {g : Option Nat} (hf : fnC P f = some (N, vc, [.cell t g])) {args : List AV} {ret : AV} (ha : args.length ≤ N) (hargs : ∀ a, a ∈ args → NP (fun _ => False) a) (hret : NP (fun _ => False) ret)
    (hw : wpV P L N 0 vc (retM t g ret) ⟨args, [], []⟩) : PCallN P f args ret := by
  obtain ⟨fn, c, h1, h2, h3, rfl, h4, h5, h6⟩ := fnC_inv hf
  refine ⟨hargs, PCall.ofMv (L := L) h1 h2 h3 h4 h5 ha hret ?_⟩
  have := wpV_sound hw (args_ok ha)
  rw [args_st ha] at this
  refine this.mono fun x S hx => ?_
  obtain ⟨σ', rfl, k1, k2⟩ := hx
  cases x with
  | exit i => exact k2.elim
  | normal => exact ⟨.inl rfl, retM_inv k1 k2⟩
  | ret => exact ⟨.inr rfl, retM_inv k1 k2⟩

end Go.Proofs.YtmjdoonaidolkaaDoor.V
