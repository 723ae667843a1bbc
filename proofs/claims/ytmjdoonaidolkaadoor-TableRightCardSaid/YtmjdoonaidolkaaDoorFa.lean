/-
  A small logic of values over the model, part 14: every operation that calls nobody, in one.
-/
import Derived.Orders
import Derived.Below
import Derived.Laws.Sem
import Derived.Laws.Cells
import Derived.Laws.World
import Derived.Deep.AppendSrc
import Derived.Laws.IdiomCopy
import Derived.Deep.Upon
import Derived.Laws.StructEq

/- A small logic of values over the model: what a Go value is worth, whatever memory holds it. Part 0: abstract values, and what it means that a world holds them. -/
namespace Go.Proofs.YtmjdoonaidolkaaDoor.V

/-- What a value is worth. 'sl sz nl own xs': a slice of elements of sz cells; nl: is it nil (none: not known); own: may it be appended to. 'rptr cs': an address from which on the cells read as cs. 'ptr': a box of the call's own. 'bsl sz id off len': a slice of len elements of sz cells, from the cell off on, in such a box. 'xsl': a slice that is its holder's own altogether: nobody else looks at it, and it lies at its block's beginning. 'fsl': a slice without spare room. -/
inductive AV where
  | bool (b : Bool)
  | int (k : IntKind) (n : Int)
  | str (s : ByteArray)
  | sl (sz : Nat) (nl : Option Bool) (own : Bool) (xs : List (List AV))
  | agg (cs : List AV)
  | tup (vs : List AV)
  | ptr (p : Option (Nat × Nat))
  | rptr (cs : List AV)
  | func (f : Nat) (cap : List AV)
  | iface (t : Nat) (v : AV)
  | niliface
  | nilfunc
  | undef
  | bsl (sz id off len : Nat)
  | xsl (sz : Nat) (xs : List (List AV))
  | fsl (sz : Nat) (xs : List (List AV))
  | mp (id : Nat)
  deriving Inhabited

/-- A box: cells, or a map's entries, or a slice that is written; or cells that stand, and are nobody's own ('ro'); 'glob b vs': the block b holds vs, and nobody writes there. -/
inductive HObj where
  | cells (cs : List AV)
  | map (ks vs : List AV)
  | arr (sz : Nat) (xs : List (List AV))
  | ro (cs : List AV)
  | glob (b : Nat) (vs : List Value)
  deriving Inhabited

def AV.cells : AV → List AV
  | .agg cs => cs
  | .undef => []
  | v => [v]

/-- Is it one cell's value? -/
def AV.one : AV → Bool
  | .agg _ | .tup _ | .undef => false
  | _ => true

mutual
/-- The same, but nobody may append to it. -/
def AV.strip : AV → AV
  | .sl sz nl _ xs => .sl sz nl false xs
  | .agg cs => .agg (AV.stripL cs)
  | .tup vs => .tup (AV.stripL vs)
  | .bool b => .bool b
  | .int k n => .int k n
  | .str s => .str s
  | .ptr p => .ptr p
  | .rptr cs => .rptr cs
  | .func f cap => .func f cap
  | .iface t v => .iface t v
  | .niliface => .niliface
  | .nilfunc => .nilfunc
  | .undef => .undef
  | .bsl sz id off len => .bsl sz id off len
  | .xsl _ _ => .undef
  | .fsl sz xs => .fsl sz xs
  | .mp id => .mp id
def AV.stripL : List AV → List AV
  | [] => []
  | a :: as => a.strip :: AV.stripL as
end

example (b : Bool) : (AV.bool b).strip = .bool b := rfl
theorem AV.stripL_eq : ∀ l : List AV, AV.stripL l = l.map AV.strip
  | [] => rfl
  | a :: as => by rw [AV.stripL, AV.stripL_eq as]; rfl

/-- Block b is owned from e on, up to lim: nobody looks there, and it may be written. -/
def Spare (w : World) (fr : Nat → Nat) (b e lim : Nat) : Prop :=
  fr b = e ∧ ∃ c el, w.heap[b]? = some (.cells c el (0, 0)) ∧ lim ≤ c.size

/-- The cells from o on hold vs, and they are looked at. -/
def CellsAt (w : World) (fr : Nat → Nat) (b o : Nat) (vs : List Value) : Prop := ∀ (k : Nat) (v : Value), vs[k]? = some v → w.cell? ⟨b, o + k, none⟩ = some v ∧ o + k < fr b ∧ v.oneCell' = true

mutual
/-- In this world the value v is worth a; O: the blocks that it owns. fr b: how far block b is looked at; pi: the boxes' blocks. -/
inductive Rep (w : World) (fr pi : Nat → Nat) : AV → Value → List Nat → Prop
  | bool (b : Bool) : Rep w fr pi (.bool b) (.bool b) []
  | int (k : IntKind) (n : Int) : Rep w fr pi (.int k n) (.int k n) []
  | str (s : ByteArray) : Rep w fr pi (.str s) (.string s) []
  | undef (v : Value) : Rep w fr pi .undef v []
  | niliface : Rep w fr pi .niliface .nilIface []
  | nilfunc : Rep w fr pi .nilfunc .nilFunc []
  | ptrnil : Rep w fr pi (.ptr none) (.pointer none) []
  | ptr (id off : Nat) : Rep w fr pi (.ptr (some (id, off))) (.pointer (some ⟨pi id, off, none⟩)) []
  | rptr (cs : List AV) (b o : Nat) (vs : List Value) : Reps w fr pi cs vs [] → CellsAt w fr b o vs → Rep w fr pi (.rptr cs) (.pointer (some ⟨b, o, none⟩)) []
  | func (f : Nat) (cap : List AV) (vs : List Value) : Reps w fr pi cap vs [] → Rep w fr pi (.func f cap) (.func (.func f) #[] vs.toArray) []
  | iface (t : Nat) (a : AV) (v : Value) : Rep w fr pi a v [] → Rep w fr pi (.iface t a) (.iface t v) []
  | agg (cs : List AV) (vs : List Value) (O : List Nat) : Reps w fr pi cs vs O → Rep w fr pi (.agg cs) (.agg vs.toArray) O
  | tup (cs : List AV) (vs : List Value) (O : List Nat) : Reps w fr pi cs vs O → Rep w fr pi (.tup cs) (.tuple vs.toArray) O
  | slnil (sz : Nat) (nl : Option Bool) (own : Bool) : nl ≠ some false → Rep w fr pi (.sl sz nl own []) (.slice none 0 0) []
  | sl (sz : Nat) (nl : Option Bool) (xs : List (List AV)) (b o cap : Nat) (vs : List Value) : nl ≠ some true → (∀ x, x ∈ xs → x.length = sz) → Reps w fr pi xs.flatten vs [] → CellsAt w fr b o vs →
      xs.length ≤ cap → Rep w fr pi (.sl sz nl false xs) (.slice (some ⟨b, o, none⟩) xs.length cap) []
  | slown (sz : Nat) (nl : Option Bool) (xs : List (List AV)) (b o cap : Nat) (vs : List Value) : nl ≠ some true → (∀ x, x ∈ xs → x.length = sz) → Reps w fr pi xs.flatten vs [] → CellsAt w fr b o vs →
      xs.length ≤ cap → Spare w fr b (o + xs.length * sz) (o + cap * sz) ∧ o = 0 → Rep w fr pi (.sl sz nl true xs) (.slice (some ⟨b, o, none⟩) xs.length cap) [b]
  | bsl (sz id off len cap : Nat) : len ≤ cap → (∃ c e fz, w.heap[pi id]? = some (.cells c e fz) ∧ (off + cap) * sz ≤ c.size) → Rep w fr pi (.bsl sz id off len) (.slice (some ⟨pi id, off * sz, none⟩) len cap) []
  | xsl (sz : Nat) (xs : List (List AV)) (b cap : Nat) (vs ju : List Value) (e : TypeId) : (∀ x, x ∈ xs → x.length = sz) → Reps w fr pi xs.flatten vs [] → (∀ v, v ∈ vs → v.oneCell' = true) → w.heap[b]? = some (.cells (vs ++ ju).toArray e (0, 0)) → fr b = 0 →
      xs.length ≤ cap → cap * sz ≤ (vs ++ ju).length → Rep w fr pi (.xsl sz xs) (.slice (some ⟨b, 0, none⟩) xs.length cap) [b]
  | fsl (sz : Nat) (xs : List (List AV)) (b o : Nat) (vs : List Value) : (∀ x, x ∈ xs → x.length = sz) → Reps w fr pi xs.flatten vs [] → CellsAt w fr b o vs → Rep w fr pi (.fsl sz xs) (.slice (some ⟨b, o, none⟩) xs.length xs.length) []
  | mp (id : Nat) : Rep w fr pi (.mp id) (.map (some (pi id))) []
  | bsl0 (sz id off cap : Nat) (ad : Addr) : Rep w fr pi (.bsl sz id off 0) (.slice (some ad) 0 cap) []
  | slempty (sz : Nat) (nl : Option Bool) (ad : Addr) (cap : Nat) : nl ≠ some true → Rep w fr pi (.sl sz nl false []) (.slice (some ad) 0 cap) []
inductive Reps (w : World) (fr pi : Nat → Nat) : List AV → List Value → List Nat → Prop
  | nil : Reps w fr pi [] [] []
  | cons (a : AV) (v : Value) (O : List Nat) (as : List AV) (vs : List Value) (O' : List Nat) : Rep w fr pi a v O → Reps w fr pi as vs O' → Reps w fr pi (a :: as) (v :: vs) (O ++ O')
end

theorem Reps.length {w : World} {fr pi : Nat → Nat} : ∀ {as : List AV} {vs : List Value} {O : List Nat}, Reps w fr pi as vs O → as.length = vs.length
  | _, _, _, .nil => rfl
  | _, _, _, .cons _ _ _ _ _ _ _ h => by simp [h.length]

/-- All pointers to boxes lead to such as are there. -/
inductive NP (ok : Nat → Prop) : AV → Prop
  | bool (b : Bool) : NP ok (.bool b)
  | int (k : IntKind) (n : Int) : NP ok (.int k n)
  | str (s : ByteArray) : NP ok (.str s)
  | undef : NP ok .undef
  | niliface : NP ok .niliface
  | nilfunc : NP ok .nilfunc
  | ptrnil : NP ok (.ptr none)
  | ptr (id off : Nat) : ok id → NP ok (.ptr (some (id, off)))
  | rptr (cs : List AV) : (∀ a, a ∈ cs → NP ok a) → NP ok (.rptr cs)
  | func (f : Nat) (cs : List AV) : (∀ a, a ∈ cs → NP ok a) → NP ok (.func f cs)
  | iface (t : Nat) (a : AV) : NP ok a → NP ok (.iface t a)
  | agg (cs : List AV) : (∀ a, a ∈ cs → NP ok a) → NP ok (.agg cs)
  | tup (cs : List AV) : (∀ a, a ∈ cs → NP ok a) → NP ok (.tup cs)
  | sl (sz : Nat) (nl : Option Bool) (own : Bool) (xs : List (List AV)) : (∀ x, x ∈ xs → ∀ a, a ∈ x → NP ok a) → NP ok (.sl sz nl own xs)
  | bsl (sz id off len : Nat) : ok id → NP ok (.bsl sz id off len)
  | xsl (sz : Nat) (xs : List (List AV)) : (∀ x, x ∈ xs → ∀ a, a ∈ x → NP ok a) → NP ok (.xsl sz xs)
  | mp (id : Nat) : ok id → NP ok (.mp id)
  | fsl (sz : Nat) (xs : List (List AV)) : (∀ x, x ∈ xs → ∀ a, a ∈ x → NP ok a) → NP ok (.fsl sz xs)

theorem NP.mono {ok ok' : Nat → Prop} (h : ∀ i, ok i → ok' i) {a : AV} (ha : NP ok a) : NP ok' a := by
  induction ha with
  | bool b => exact .bool b
  | int k n => exact .int k n
  | str s => exact .str s
  | undef => exact .undef
  | niliface => exact .niliface
  | nilfunc => exact .nilfunc
  | ptrnil => exact .ptrnil
  | ptr id off hid => exact .ptr id off (h _ hid)
  | rptr cs _ ih => exact .rptr cs ih
  | func f cs _ ih => exact .func f cs ih
  | iface t a _ ih => exact .iface t a ih
  | agg cs _ ih => exact .agg cs ih
  | tup cs _ ih => exact .tup cs ih
  | sl sz nl own xs _ ih => exact .sl sz nl own xs ih
  | bsl sz id off len hid => exact .bsl sz id off len (h _ hid)
  | xsl sz xs _ ih => exact .xsl sz xs ih
  | fsl sz xs _ ih => exact .fsl sz xs ih
  | mp id hid => exact .mp id (h _ hid)

/-- What has become of block b, of which only the cells below k are looked at. -/
def KeptTo (w w' : World) (b k : Nat) : Prop :=
  ∀ c e fz, w.heap[b]? = some (.cells c e fz) → ∃ c', w'.heap[b]? = some (.cells c' e fz) ∧ c'.size = c.size ∧ ∀ i, i < k → c'[i]? = c[i]?

/-- From w to w' at most the blocks of A were written, none of them where it is looked at. -/
structure Step (w w' : World) (fr fr' : Nat → Nat) (A : Nat → Prop) : Prop where
  os : w'.os = w.os
  tape : w'.tape = w.tape
  output : w'.output = w.output
  size : w.heap.size ≤ w'.heap.size
  kept : ∀ b, b < w.heap.size → ¬ A b → w'.heap[b]? = w.heap[b]? ∧ fr' b = fr b
  own : ∀ b, b < w.heap.size → A b → KeptTo w w' b (fr b) ∧ fr b ≤ fr' b

theorem KeptTo.refl (w : World) (b k : Nat) : KeptTo w w b k := fun c _e _fz h => ⟨c, h, rfl, fun _ _ => rfl⟩
theorem KeptTo.trans {w w1 w2 : World} {b k k' : Nat} (h : KeptTo w w1 b k) (h' : KeptTo w1 w2 b k') (hk : k ≤ k') : KeptTo w w2 b k := by
  intro c e fz hc
  obtain ⟨c1, h1, s1, e1⟩ := h c e fz hc
  obtain ⟨c2, h2, s2, e2⟩ := h' c1 e fz h1
  exact ⟨c2, h2, s2.trans s1, fun i hi => (e2 i (by omega)).trans (e1 i hi)⟩
theorem KeptTo.same {w w' : World} {b k : Nat} (h : w'.heap[b]? = w.heap[b]?) : KeptTo w w' b k := fun c _e _fz hc => ⟨c, h.trans hc, rfl, fun _ _ => rfl⟩

theorem Step.refl (w : World) (fr : Nat → Nat) (A : Nat → Prop) : Step w w fr fr A := ⟨rfl, rfl, rfl, Nat.le_refl _, fun _ _ _ => ⟨rfl, rfl⟩, fun _b _ _ => ⟨KeptTo.refl _ _ _, Nat.le_refl _⟩⟩

theorem Step.mono {w w' : World} {fr fr' : Nat → Nat} {A A' : Nat → Prop} (h : Step w w' fr fr' A) (hA : ∀ b, b < w.heap.size → A b → A' b) : Step w w' fr fr' A' :=
  ⟨h.os, h.tape, h.output, h.size, fun b hb hn => h.kept b hb (fun x => hn (hA b hb x)), fun b hb _ => by
    by_cases hx : A b
    · exact h.own b hb hx
    · obtain ⟨h1, h2⟩ := h.kept b hb hx
      exact ⟨KeptTo.same h1, by omega⟩⟩

theorem Step.trans {w w1 w2 : World} {fr fr1 fr2 : Nat → Nat} {A A' : Nat → Prop} (h : Step w w1 fr fr1 A) (h' : Step w1 w2 fr1 fr2 A')
    (hA : ∀ b, b < w.heap.size → A' b → A b) : Step w w2 fr fr2 A := by
  refine ⟨h'.os.trans h.os, h'.tape.trans h.tape, h'.output.trans h.output, Nat.le_trans h.size h'.size, fun b hb hn => ?_, fun b hb hx => ?_⟩
  · obtain ⟨h1, h2⟩ := h.kept b hb hn
    obtain ⟨h3, h4⟩ := h'.kept b (by have := h.size; omega) (fun x => hn (hA b hb x))
    exact ⟨h3.trans h1, h4.trans h2⟩
  · obtain ⟨h1, h2⟩ := h.own b hb hx
    by_cases hy : A' b
    · obtain ⟨h3, h4⟩ := h'.own b (by have := h.size; omega) hy
      exact ⟨h1.trans h3 h2, by omega⟩
    · obtain ⟨h3, h4⟩ := h'.kept b (by have := h.size; omega) hy
      exact ⟨h1.trans (KeptTo.same h3) h2, by omega⟩

/-- A step that writes nothing that was there is 'Below'. -/
theorem Step.below {w w' : World} {fr fr' : Nat → Nat} {A : Nat → Prop} (h : Step w w' fr fr' A) (hA : ∀ b, b < w.heap.size → ¬ A b) : Go.RowKit.Below w.heap.size w w' :=
  ⟨h.os, h.tape, h.output, h.size, fun b hb => (h.kept b hb (hA b hb)).1⟩

theorem Step.cell {w w' : World} {fr fr' : Nat → Nat} {A : Nat → Prop} (h : Step w w' fr fr' A) {b o : Nat} {v : Value} (hc : w.cell? ⟨b, o, none⟩ = some v) (ho : o < fr b) : w'.cell? ⟨b, o, none⟩ = some v := by
  have hb := World.block_lt_of_cell? w _ hc
  by_cases hx : A b
  · obtain ⟨h1, h2⟩ := h.own b hb hx
    unfold World.cell? at hc ⊢
    cases hh : w.heap[b]? with
    | none => simp [hh] at hc
    | some ob =>
      cases ob <;> simp only [hh] at hc <;> try (simp at hc; done)
      rename_i c e fz
      obtain ⟨c', h3, h4, h5⟩ := h1 c e fz hh
      simp only [h3]
      have := h5 o ho
      simpa [this] using hc
  · rw [World.cell?_of_block (w := w) (h.kept b hb hx).1]; exact hc

theorem Step.fr_le {w w' : World} {fr fr' : Nat → Nat} {A : Nat → Prop} (h : Step w w' fr fr' A) {b : Nat} (hb : b < w.heap.size) : fr b ≤ fr' b := by
  by_cases hx : A b
  · exact (h.own b hb hx).2
  · have := (h.kept b hb hx).2; omega

/-- A block of cells stays as long as it is. -/
theorem Step.row {w w' : World} {fr fr' : Nat → Nat} {A : Nat → Prop} (h : Step w w' fr fr' A) {b : Nat} {c : Array Value} {e : TypeId} {fz : Nat × Nat} (hc : w.heap[b]? = some (.cells c e fz)) : ∃ c', w'.heap[b]? = some (.cells c' e fz) ∧ c'.size = c.size := by
  have hb : b < w.heap.size := by
    rcases Nat.lt_or_ge b w.heap.size with h' | h'
    · exact h'
    · simp [Array.getElem?_eq_none h'] at hc
  by_cases hA : A b
  · obtain ⟨c', h1, h2, _⟩ := (h.own b hb hA).1 c e fz hc
    exact ⟨c', h1, h2⟩
  · exact ⟨c, ((h.kept b hb hA).1).trans hc, rfl⟩

end Go.Proofs.YtmjdoonaidolkaaDoor.V

/- A small logic of values over the model, part 1: what a world holds it still holds behind a step. -/
namespace Go.Proofs.YtmjdoonaidolkaaDoor.V

theorem CellsAt.mono {w w' : World} {fr fr' : Nat → Nat} {A : Nat → Prop} {b o : Nat} {vs : List Value} (h : CellsAt w fr b o vs) (st : Step w w' fr fr' A) : CellsAt w' fr' b o vs := by
  intro k v hk
  obtain ⟨h1, h2, h3⟩ := h k v hk
  have hb : b < w.heap.size := World.block_lt_of_cell? w _ h1
  have := st.fr_le hb
  exact ⟨st.cell h1 h2, by omega, h3⟩

theorem Spare.mono {w w' : World} {fr fr' : Nat → Nat} {A : Nat → Prop} {b e lim : Nat} (h : Spare w fr b e lim) (st : Step w w' fr fr' A) (hA : ¬ A b) : Spare w' fr' b e lim := by
  obtain ⟨h1, c, el, h2, h3⟩ := h
  have hb : b < w.heap.size := by
    rcases Nat.lt_or_ge b w.heap.size with h' | h'
    · exact h'
    · simp [Array.getElem?_eq_none h'] at h2
  obtain ⟨k1, k2⟩ := st.kept b hb hA
  exact ⟨by omega, c, el, k1.trans h2, h3⟩

mutual
theorem Rep.mono {w w' : World} {fr fr' pi pi' : Nat → Nat} {A : Nat → Prop} {ok : Nat → Prop} (st : Step w w' fr fr' A) (hpi : ∀ i, ok i → pi' i = pi i) :
    ∀ {a : AV} {v : Value} {O : List Nat}, Rep w fr pi a v O → NP ok a → (∀ b, b ∈ O → ¬ A b) → Rep w' fr' pi' a v O
  | _, _, _, .bool b, _, _ => .bool b
  | _, _, _, .int k n, _, _ => .int k n
  | _, _, _, .str s, _, _ => .str s
  | _, _, _, .undef v, _, _ => .undef v
  | _, _, _, .niliface, _, _ => .niliface
  | _, _, _, .nilfunc, _, _ => .nilfunc
  | _, _, _, .ptrnil, _, _ => .ptrnil
  | _, _, _, .ptr id off, hn, _ => by
    cases hn with
    | ptr _ _ hid => rw [← hpi id hid]; exact .ptr id off
  | _, _, _, .rptr cs b o vs h1 h2, hn, _ => by
    cases hn with
    | rptr _ hn => exact .rptr cs b o vs (Reps.mono st hpi h1 hn (by simp)) (h2.mono st)
  | _, _, _, .func f cap vs h1, hn, _ => by
    cases hn with
    | func _ _ hn => exact .func f cap vs (Reps.mono st hpi h1 hn (by simp))
  | _, _, _, .iface t a v h1, hn, _ => by
    cases hn with
    | iface _ _ hn => exact .iface t a v (Rep.mono st hpi h1 hn (by simp))
  | _, _, _, .agg cs vs O h1, hn, hA => by
    cases hn with
    | agg _ hn => exact .agg cs vs O (Reps.mono st hpi h1 hn hA)
  | _, _, _, .tup cs vs O h1, hn, hA => by
    cases hn with
    | tup _ hn => exact .tup cs vs O (Reps.mono st hpi h1 hn hA)
  | _, _, _, .slnil sz nl own h, _, _ => .slnil sz nl own h
  | _, _, _, .bsl sz id off len cap hc hr, hn, _ => by
    cases hn with
    | bsl _ _ _ _ hid =>
      rw [← hpi id hid]
      refine .bsl sz id off len cap hc ?_
      obtain ⟨c, e, fz, h1, h2⟩ := hr
      obtain ⟨c', k1, k2⟩ := st.row h1
      rw [hpi id hid]
      exact ⟨c', e, fz, k1, by omega⟩
  | _, _, _, .xsl sz xs b cap vs ju e h0 h1 h2 h3 h4 h5 h6, hn, hA => by
    cases hn with
    | xsl _ _ hn =>
      have hb : b < w.heap.size := by
        rcases Nat.lt_or_ge b w.heap.size with h' | h'
        · exact h'
        · simp [Array.getElem?_eq_none h'] at h3
      obtain ⟨k1, k2⟩ := st.kept b hb (hA b (by simp))
      exact .xsl sz xs b cap vs ju e h0 (Reps.mono st hpi h1 (fun a ha => by obtain ⟨x, hx, hax⟩ := List.mem_flatten.1 ha; exact hn x hx a hax) (by simp)) h2 (k1.trans h3) (by omega) h5 h6
  | _, _, _, .fsl sz xs b o vs h0 h1 h2, hn, _ => by
    cases hn with
    | fsl _ _ hn => exact .fsl sz xs b o vs h0 (Reps.mono st hpi h1 (fun a ha => by obtain ⟨x, hx, hax⟩ := List.mem_flatten.1 ha; exact hn x hx a hax) (by simp)) (h2.mono st)
  | _, _, _, .mp id, hn, _ => by
    cases hn with
    | mp _ hid =>
      rw [← hpi id hid]
      exact .mp id
  | _, _, _, .bsl0 sz id off cap ad, _, _ => .bsl0 sz id off cap ad
  | _, _, _, .slempty sz nl ad cap h, _, _ => .slempty sz nl ad cap h
  | _, _, _, .sl sz nl xs b o cap vs h0 h1 h2 h3 h4, hn, _ => by
    cases hn with
    | sl _ _ _ _ hn => exact .sl sz nl xs b o cap vs h0 h1 (Reps.mono st hpi h2 (fun a ha => by obtain ⟨x, hx, hax⟩ := List.mem_flatten.1 ha; exact hn x hx a hax) (by simp)) (h3.mono st) h4
  | _, _, _, .slown sz nl xs b o cap vs h0 h1 h2 h3 h4 h5, hn, hA => by
    cases hn with
    | sl _ _ _ _ hn => exact .slown sz nl xs b o cap vs h0 h1 (Reps.mono st hpi h2 (fun a ha => by obtain ⟨x, hx, hax⟩ := List.mem_flatten.1 ha; exact hn x hx a hax) (by simp)) (h3.mono st) h4 ⟨h5.1.mono st (hA b (by simp)), h5.2⟩
theorem Reps.mono {w w' : World} {fr fr' pi pi' : Nat → Nat} {A : Nat → Prop} {ok : Nat → Prop} (st : Step w w' fr fr' A) (hpi : ∀ i, ok i → pi' i = pi i) :
    ∀ {as : List AV} {vs : List Value} {O : List Nat}, Reps w fr pi as vs O → (∀ a, a ∈ as → NP ok a) → (∀ b, b ∈ O → ¬ A b) → Reps w' fr' pi' as vs O
  | _, _, _, .nil, _, _ => .nil
  | _, _, _, .cons a v O as vs O' h1 h2, hn, hA =>
    .cons a v O as vs O' (Rep.mono st hpi h1 (hn a (by simp)) (fun b hb => hA b (by simp [hb]))) (Reps.mono st hpi h2 (fun a ha => hn a (by simp [ha])) (fun b hb => hA b (by simp [hb])))
end

/-- Giving up what is owned. -/
theorem Spare.cells {w : World} {fr : Nat → Nat} {b e lim : Nat} (h : Spare w fr b e lim) : b < w.heap.size := by
  obtain ⟨h1, c, el, h2, h3⟩ := h
  rcases Nat.lt_or_ge b w.heap.size with h' | h'
  · exact h'
  · simp [Array.getElem?_eq_none h'] at h2

mutual
theorem Rep.strip {w : World} {fr pi : Nat → Nat} : ∀ {a : AV} {v : Value} {O : List Nat}, Rep w fr pi a v O → Rep w fr pi a.strip v []
  | _, _, _, .bool b => .bool b
  | _, _, _, .int k n => .int k n
  | _, _, _, .str s => .str s
  | _, _, _, .undef v => .undef v
  | _, _, _, .niliface => .niliface
  | _, _, _, .nilfunc => .nilfunc
  | _, _, _, .ptrnil => .ptrnil
  | _, _, _, .ptr id off => .ptr id off
  | _, _, _, .rptr cs b o vs h1 h2 => by simpa only [AV.strip] using .rptr cs b o vs h1 h2
  | _, _, _, .func f cap vs h1 => by simpa only [AV.strip] using .func f cap vs h1
  | _, _, _, .iface t a v h1 => by simpa only [AV.strip] using .iface t a v h1
  | _, _, _, .agg cs vs O h1 => by rw [AV.strip]; exact .agg _ vs [] (Reps.strip h1)
  | _, _, _, .tup cs vs O h1 => by rw [AV.strip]; exact .tup _ vs [] (Reps.strip h1)
  | _, _, _, .slnil sz nl own h => by rw [AV.strip]; exact .slnil sz nl false h
  | _, _, _, .bsl sz id off len cap hc hr => .bsl sz id off len cap hc hr
  | _, _, _, .xsl .. => .undef _
  | _, _, _, .fsl sz xs b o vs h0 h1 h2 => .fsl sz xs b o vs h0 h1 h2
  | _, _, _, .mp id => .mp id
  | _, _, _, .bsl0 sz id off cap ad => .bsl0 sz id off cap ad
  | _, _, _, .slempty sz nl ad cap h => by rw [AV.strip]; exact .slempty sz nl ad cap h
  | _, _, _, .sl sz nl xs b o cap vs h0 h1 h2 h3 h4 => by rw [AV.strip]; exact .sl sz nl xs b o cap vs h0 h1 h2 h3 h4
  | _, _, _, .slown sz nl xs b o cap vs h0 h1 h2 h3 h4 h5 => by rw [AV.strip]; exact .sl sz nl xs b o cap vs h0 h1 h2 h3 h4
theorem Reps.strip {w : World} {fr pi : Nat → Nat} : ∀ {as : List AV} {vs : List Value} {O : List Nat}, Reps w fr pi as vs O → Reps w fr pi (AV.stripL as) vs []
  | _, _, _, .nil => .nil
  | _, _, _, .cons a v O as vs O' h1 h2 => by
    rw [AV.stripL]
    simpa using Reps.cons (w := w) (fr := fr) (pi := pi) _ _ _ _ _ _ (Rep.strip h1) (Reps.strip h2)
end

theorem NP.strip {ok : Nat → Prop} {a : AV} (h : NP ok a) : NP ok a.strip := by
  induction h with
  | bool b => exact .bool b
  | int k n => exact .int k n
  | str s => exact .str s
  | undef => exact .undef
  | niliface => exact .niliface
  | nilfunc => exact .nilfunc
  | ptrnil => exact .ptrnil
  | ptr id off hid => exact .ptr id off hid
  | rptr cs h _ => exact .rptr cs h
  | func f cs h _ => exact .func f cs h
  | iface t a h _ => exact .iface t a h
  | agg cs _ ih => rw [AV.strip, AV.stripL_eq]; exact .agg _ (fun a ha => by obtain ⟨x, hx, rfl⟩ := List.mem_map.1 ha; exact ih x hx)
  | tup cs _ ih => rw [AV.strip, AV.stripL_eq]; exact .tup _ (fun a ha => by obtain ⟨x, hx, rfl⟩ := List.mem_map.1 ha; exact ih x hx)
  | sl sz nl own xs h _ => rw [AV.strip]; exact .sl sz nl false xs h
  | bsl sz id off len hid => exact .bsl sz id off len hid
  | xsl sz xs _ _ => exact .undef
  | fsl sz xs h _ => exact .fsl sz xs h
  | mp id hid => exact .mp id hid

/-- Lists of representations, index by index. -/
theorem Reps.get {w : World} {fr pi : Nat → Nat} : ∀ {as : List AV} {vs : List Value} {O : List Nat}, Reps w fr pi as vs O → ∀ {i : Nat} {a : AV}, as[i]? = some a → ∃ v O', vs[i]? = some v ∧ Rep w fr pi a v O' ∧ (∀ b, b ∈ O' → b ∈ O)
  | _, _, _, .nil, i, a, h => by simp at h
  | _, _, _, .cons a v O as vs O' h1 h2, 0, x, h => by
    simp at h
    subst h
    exact ⟨v, O, rfl, h1, fun b hb => by simp [hb]⟩
  | _, _, _, .cons a v O as vs O' h1 h2, i + 1, x, h => by
    simp at h
    obtain ⟨v', O2, h3, h4, h5⟩ := Reps.get h2 h
    exact ⟨v', O2, by simpa using h3, h4, fun b hb => by simp [h5 b hb]⟩

theorem Reps.cons_inv {w : World} {fr pi : Nat → Nat} {a : AV} {as : List AV} {vs : List Value} {O : List Nat} (h : Reps w fr pi (a :: as) vs O) :
    ∃ v vs' O1 O2, vs = v :: vs' ∧ O = O1 ++ O2 ∧ Rep w fr pi a v O1 ∧ Reps w fr pi as vs' O2 := by
  cases h with
  | cons _ v O _ vs O' h1 h2 => exact ⟨v, vs, O, O', rfl, rfl, h1, h2⟩

theorem Reps.cons_inv0 {w : World} {fr pi : Nat → Nat} {a : AV} {as : List AV} {vs : List Value} (h : Reps w fr pi (a :: as) vs []) : ∃ v vs', vs = v :: vs' ∧ Rep w fr pi a v [] ∧ Reps w fr pi as vs' [] := by
  obtain ⟨v, vs', O1, O2, h1, h2, h3, h4⟩ := h.cons_inv
  obtain ⟨rfl, rfl⟩ := List.append_eq_nil_iff.1 h2.symm
  exact ⟨v, vs', h1, h3, h4⟩

theorem Reps.append {w : World} {fr pi : Nat → Nat} : ∀ {as bs : List AV} {vs us : List Value} {O O2 : List Nat}, Reps w fr pi as vs O → Reps w fr pi bs us O2 → Reps w fr pi (as ++ bs) (vs ++ us) (O ++ O2)
  | _, _, _, _, _, _, .nil, h => h
  | _, _, _, _, _, _, .cons a v O as vs O' h1 h2, h => by
    have := Reps.cons _ _ _ _ _ _ h1 (Reps.append h2 h)
    simpa using this

theorem Reps.split {w : World} {fr pi : Nat → Nat} : ∀ {as bs : List AV} {us : List Value} {O : List Nat}, Reps w fr pi (as ++ bs) us O →
    ∃ u1 u2 O1 O2, us = u1 ++ u2 ∧ O = O1 ++ O2 ∧ Reps w fr pi as u1 O1 ∧ Reps w fr pi bs u2 O2
  | [], bs, us, O, h => ⟨[], us, [], O, rfl, rfl, .nil, h⟩
  | a :: as, bs, _, _, .cons _ v O _ vs O' h1 h2 => by
    obtain ⟨u1, u2, O1, O2, rfl, rfl, h3, h4⟩ := Reps.split h2
    exact ⟨v :: u1, u2, O ++ O1, O2, rfl, by simp, .cons _ _ _ _ _ _ h1 h3, h4⟩

theorem Reps.empty {w : World} {fr pi : Nat → Nat} {as : List AV} {vs : List Value} {O : List Nat} (h : Reps w fr pi as vs O) (hO : O = []) : Reps w fr pi as vs [] := hO ▸ h

theorem CellsAt.sub {w : World} {fr : Nat → Nat} {b o : Nat} {u1 u2 u3 : List Value} (h : CellsAt w fr b o (u1 ++ u2 ++ u3)) : CellsAt w fr b (o + u1.length) u2 := by
  intro k v hk
  have hlt : k < u2.length := by
    rcases Nat.lt_or_ge k u2.length with h' | h'
    · exact h'
    · simp [List.getElem?_eq_none h'] at hk
  have := h (u1.length + k) v (by rw [List.append_assoc, List.getElem?_append_right (by omega)]; simp [List.getElem?_append_left hlt, hk])
  simpa [Nat.add_assoc] using this

end Go.Proofs.YtmjdoonaidolkaaDoor.V

/- A small logic of values over the model, part 2: a call's state (slots, boxes) and what it owns; how it goes on. -/
namespace Go.Proofs.YtmjdoonaidolkaaDoor.V

inductive Res where
  | slot (i : Nat)
  | box (i : Nat)
  deriving DecidableEq

def upd {α β : Type} [DecidableEq α] (f : α → β) (a : α) (b : β) : α → β := fun x => if x = a then b else f x
theorem upd_same {α β : Type} [DecidableEq α] (f : α → β) (a : α) (b : β) : upd f a b a = b := by simp [upd]
theorem upd_ne {α β : Type} [DecidableEq α] (f : α → β) {a x : α} (b : β) (h : x ≠ a) : upd f a b x = f x := by simp [upd, h]

structure FS where
  sl : Nat → AV
  bx : Nat → Option HObj

def FS.has (s : FS) (i : Nat) : Prop := ∃ o, s.bx i = some o

def ORep (w : World) (fr pi : Nat → Nat) (o : HObj) (b : Nat) (O : List Nat) : Prop :=
  match o with
  | .cells cs => ∃ vs e, w.heap[b]? = some (.cells vs.toArray e (0, 0)) ∧ Reps w fr pi cs vs O ∧ fr b = 0
  | .arr sz xs => O = [] ∧ (∀ x, x ∈ xs → x.length = sz) ∧ ∃ vs ju e, w.heap[b]? = some (.cells (vs ++ ju).toArray e (0, 0)) ∧ Reps w fr pi xs.flatten vs [] ∧ (∀ v, v ∈ vs → v.oneCell' = true) ∧ fr b = 0
  | .ro cs => O = [] ∧ ∃ vs, Reps w fr pi cs vs [] ∧ CellsAt w fr b 0 vs
  | .glob g vs => O = [] ∧ CellsAt w fr g 0 vs
  | .map ks xs => O = [] ∧ ∃ es clock, w.heap[b]? = some (.map es clock) ∧ Reps w fr pi ks (es.toList.map (·.key)) [] ∧ Reps w fr pi xs (es.toList.map (·.val)) [] ∧ fr b = 0

def NPo (ok : Nat → Prop) : HObj → Prop
  | .cells cs => ∀ a, a ∈ cs → NP ok a
  | .arr _ xs => ∀ x, x ∈ xs → ∀ a, a ∈ x → NP ok a
  | .ro cs => ∀ a, a ∈ cs → NP ok a
  | .glob _ _ => True
  | .map ks xs => (∀ a, a ∈ ks → NP ok a) ∧ (∀ a, a ∈ xs → NP ok a)

theorem NPo.mono {ok ok' : Nat → Prop} (h : ∀ i, ok i → ok' i) {o : HObj} (ho : NPo ok o) : NPo ok' o := by
  cases o with
  | cells cs => exact fun a ha => (ho a ha).mono h
  | arr sz xs => exact fun x hx a ha => (ho x hx a ha).mono h
  | ro cs => exact fun a ha => (ho a ha).mono h
  | glob g vs => trivial
  | map ks xs => exact ⟨fun a ha => (ho.1 a ha).mono h, fun a ha => (ho.2 a ha).mono h⟩

/-- What a box owns. -/
def HObj.blk (o : HObj) (b : Nat) (O : List Nat) : List Nat :=
  match o with
  | .ro _ => O
  | .glob _ _ => O
  | .cells _ => b :: O
  | .arr _ _ => b :: O
  | .map _ _ => b :: O

theorem HObj.blk_sub {o : HObj} {b : Nat} {O : List Nat} {x : Nat} (h : x ∈ O) : x ∈ o.blk b O := by
  cases o <;> simp [HObj.blk, h]

theorem ORep.mono {w w' : World} {fr fr' pi pi' : Nat → Nat} {A : Nat → Prop} {ok : Nat → Prop} (st : Step w w' fr fr' A) (hpi : ∀ i, ok i → pi' i = pi i) {o : HObj} {b : Nat} {O : List Nat}
    (h : ORep w fr pi o b O) (hn : NPo ok o) (hb : ∀ x, x ∈ o.blk b O → x < w.heap.size) (hA : ∀ x, x ∈ o.blk b O → ¬ A x) : ORep w' fr' pi' o b O := by
  have hO : ∀ x, x ∈ O → ¬ A x := fun x hx => hA x (HObj.blk_sub hx)
  cases o with
  | cells cs =>
    obtain ⟨k1, k2⟩ := st.kept b (hb b (by simp [HObj.blk])) (hA b (by simp [HObj.blk]))
    obtain ⟨vs, e, h1, h2, h3⟩ := h
    exact ⟨vs, e, k1.trans h1, h2.mono st hpi hn hO, by omega⟩
  | arr sz xs =>
    obtain ⟨k1, k2⟩ := st.kept b (hb b (by simp [HObj.blk])) (hA b (by simp [HObj.blk]))
    obtain ⟨h0, hl, vs, ju, e, h1, h2, h3, h4⟩ := h
    exact ⟨h0, hl, vs, ju, e, k1.trans h1, h2.mono st hpi (fun a ha => by obtain ⟨x, hx, hax⟩ := List.mem_flatten.1 ha; exact hn x hx a hax) (by simp), h3, by omega⟩
  | ro cs =>
    obtain ⟨h0, vs, h1, h2⟩ := h
    exact ⟨h0, vs, h1.mono st hpi hn (by simp), h2.mono st⟩
  | glob g vs => exact ⟨h.1, h.2.mono st⟩
  | map ks xs =>
    obtain ⟨k1, k2⟩ := st.kept b (hb b (by simp [HObj.blk])) (hA b (by simp [HObj.blk]))
    obtain ⟨h0, es, clock, h1, h2, h3, h4⟩ := h
    exact ⟨h0, es, clock, k1.trans h1, h2.mono st hpi hn.1 (by simp), h3.mono st hpi hn.2 (by simp), by omega⟩

/-- The world holds the state: slots and boxes, each with what it owns. -/
structure Rel (w : World) (fr pi : Nat → Nat) (own : Res → List Nat) (s : FS) (tm : Array Value) : Prop where
  slot : ∀ i, Rep w fr pi (s.sl i) (tm.getD i Go.undef) (own (.slot i))
  slotnp : ∀ i, NP s.has (s.sl i)
  box : ∀ i o, s.bx i = some o → ∃ O, ORep w fr pi o (pi i) O ∧ own (.box i) = o.blk (pi i) O
  boxnp : ∀ i o, s.bx i = some o → NPo s.has o
  nobox : ∀ i, s.bx i = none → own (.box i) = []
  nd : ∀ r, (own r).Nodup
  dj : ∀ r r' b, b ∈ own r → b ∈ own r' → r = r'
  live : ∀ r b, b ∈ own r → b < w.heap.size

structure Ext (w w' : World) (fr fr' pi pi' : Nat → Nat) (own own' : Res → List Nat) (ok : Nat → Prop) : Prop where
  step : Step w w' fr fr' (fun b => ∃ r, b ∈ own r)
  fresh : ∀ r b, b ∈ own' r → (∃ r', b ∈ own r') ∨ w.heap.size ≤ b
  pi : ∀ i, ok i → pi' i = pi i

theorem Ext.refl (w : World) (fr pi : Nat → Nat) (own : Res → List Nat) (ok : Nat → Prop) : Ext w w fr fr pi pi own own ok :=
  ⟨Step.refl _ _ _, fun r _b h => .inl ⟨r, h⟩, fun _ _ => rfl⟩

theorem Ext.trans {w w1 w2 : World} {fr fr1 fr2 pi pi1 pi2 : Nat → Nat} {own own1 own2 : Res → List Nat} {ok ok1 : Nat → Prop} (h : Ext w w1 fr fr1 pi pi1 own own1 ok)
    (h' : Ext w1 w2 fr1 fr2 pi1 pi2 own1 own2 ok1) (hok : ∀ i, ok i → ok1 i) : Ext w w2 fr fr2 pi pi2 own own2 ok := by
  refine ⟨h.step.trans h'.step fun b hb ⟨r, hr⟩ => ?_, fun r b hr => ?_, fun i hi => (h'.pi i (hok i hi)).trans (h.pi i hi)⟩
  · rcases h.fresh r b hr with h1 | h1
    · exact h1
    · omega
  · rcases h'.fresh r b hr with ⟨r', h1⟩ | h1
    · exact h.fresh r' b h1
    · exact .inr (by have := h.step.size; omega)

/-- Owning less, or the same in other places. -/
theorem Ext.own {w : World} {fr pi : Nat → Nat} {own own' : Res → List Nat} {ok : Nat → Prop} (h : ∀ r b, b ∈ own' r → ∃ r', b ∈ own r') : Ext w w fr fr pi pi own own' ok :=
  ⟨Step.refl _ _ _, fun r b hr => .inl (h r b hr), fun _ _ => rfl⟩

theorem Rel.step {w w' : World} {fr fr' pi : Nat → Nat} {own : Res → List Nat} {s : FS} {tm : Array Value} {A : Nat → Prop} (h : Rel w fr pi own s tm) (st : Step w w' fr fr' A)
    (hA : ∀ r b, b ∈ own r → ¬ A b) : Rel w' fr' pi own s tm where
  slot i := (h.slot i).mono st (fun _ _ => rfl) (h.slotnp i) (hA _)
  slotnp := h.slotnp
  box i o ho := by
    obtain ⟨O, h1, h2⟩ := h.box i o ho
    refine ⟨O, h1.mono st (fun _ _ => rfl) (h.boxnp i o ho) (fun x hx => h.live (.box i) x (by rw [h2]; exact hx)) (fun x hx => hA (.box i) x (by rw [h2]; exact hx)), h2⟩
  boxnp := h.boxnp
  nobox := h.nobox
  nd := h.nd
  dj := h.dj
  live r b hb := Nat.lt_of_lt_of_le (h.live r b hb) st.size

def FS.strip (s : FS) (T : List Nat) : FS := { s with sl := fun i => if i ∈ T then (s.sl i).strip else s.sl i }
def ownStrip (own : Res → List Nat) (T : List Nat) : Res → List Nat
  | .slot i => if i ∈ T then [] else own (.slot i)
  | .box i => own (.box i)

theorem ownStrip_sub {own : Res → List Nat} {T : List Nat} {r : Res} {b : Nat} (h : b ∈ ownStrip own T r) : b ∈ own r := by
  cases r with
  | slot i =>
    simp only [ownStrip] at h
    split at h
    · simp at h
    · exact h
  | box i => exact h

theorem Rel.strip {w : World} {fr pi : Nat → Nat} {own : Res → List Nat} {s : FS} {tm : Array Value} (h : Rel w fr pi own s tm) (T : List Nat) : Rel w fr pi (ownStrip own T) (s.strip T) tm where
  slot i := by
    simp only [FS.strip, ownStrip]
    split
    · exact (h.slot i).strip
    · exact h.slot i
  slotnp i := by
    simp only [FS.strip]
    split
    · exact (h.slotnp i).strip
    · exact h.slotnp i
  box := h.box
  boxnp := h.boxnp
  nobox := h.nobox
  nd r := by
    cases r with
    | slot i =>
      simp only [ownStrip]
      split
      · simp
      · exact h.nd _
    | box i => exact h.nd (.box i)
  dj r r' b h1 h2 := h.dj r r' b (ownStrip_sub h1) (ownStrip_sub h2)
  live r b hb := h.live r b (ownStrip_sub hb)

def FS.put (s : FS) (d : Nat) (x : AV) : FS := { s with sl := upd s.sl d x }

/-- A slot gets a value that owns what nobody else does. -/
theorem Rel.put {w : World} {fr pi : Nat → Nat} {own : Res → List Nat} {s : FS} {tm : Array Value} (h : Rel w fr pi own s tm) {d : Nat} {x : AV} {v : Value} {O : List Nat} (hd : d < tm.size)
    (hx : Rep w fr pi x v O) (hn : NP s.has x) (hnd : O.Nodup) (hl : ∀ b, b ∈ O → b < w.heap.size) (ho : ∀ b, b ∈ O → ∀ r, b ∈ own r → r = .slot d) :
    Rel w fr pi (upd own (.slot d) O) (s.put d x) (tm.setIfInBounds d v) where
  slot i := by
    by_cases hi : i = d
    · subst hi
      simp only [FS.put, upd_same]
      rw [Array.getD_eq_getD_getElem?, Array.getElem?_setIfInBounds_self_of_lt hd]
      exact hx
    · simp only [FS.put]
      rw [upd_ne _ _ hi, upd_ne _ _ (by simpa using hi), Array.getD_eq_getD_getElem?, Array.getElem?_setIfInBounds_ne (by omega), ← Array.getD_eq_getD_getElem?]
      exact h.slot i
  slotnp i := by
    by_cases hi : i = d
    · subst hi
      show NP s.has (upd s.sl i x i)
      rw [upd_same]; exact hn
    · show NP s.has (upd s.sl d x i)
      rw [upd_ne _ _ hi]
      exact h.slotnp i
  box i o hb := by
    rw [upd_ne _ _ (by simp)]
    exact h.box i o hb
  boxnp := h.boxnp
  nobox i hi := by
    rw [upd_ne _ _ (by simp)]
    exact h.nobox i hi
  nd r := by
    by_cases hr : r = .slot d
    · subst hr; simpa only [upd_same] using hnd
    · rw [upd_ne _ _ hr]; exact h.nd r
  dj r r' b h1 h2 := by
    by_cases hr : r = .slot d <;> by_cases hr' : r' = .slot d
    · rw [hr, hr']
    · subst hr
      rw [upd_same] at h1
      rw [upd_ne _ _ hr'] at h2
      exact (ho b h1 r' h2).symm
    · subst hr'
      rw [upd_same] at h2
      rw [upd_ne _ _ hr] at h1
      exact ho b h2 r h1
    · rw [upd_ne _ _ hr] at h1
      rw [upd_ne _ _ hr'] at h2
      exact h.dj r r' b h1 h2
  live r b hb := by
    by_cases hr : r = .slot d
    · subst hr; rw [upd_same] at hb; exact hl b hb
    · rw [upd_ne _ _ hr] at hb; exact h.live r b hb

/-- Another block: nothing else has turned. -/
theorem Step.alloc (w : World) (fr : Nat → Nat) (o : Obj) (k : Nat) : Step w (w.alloc o) fr (upd fr w.heap.size k) (fun _ => False) where
  os := rfl
  tape := rfl
  output := rfl
  size := by simp
  kept b hb _ := ⟨Go.RowKit.Below.heap_alloc _ _ _ hb, upd_ne _ _ (by omega)⟩
  own b hb h := h.elim

theorem Step.drew (w : World) (fr : Nat → Nat) : Step w w.drew fr fr (fun _ => False) :=
  ⟨rfl, rfl, rfl, Nat.le_refl _, fun _ _ _ => ⟨rfl, rfl⟩, fun _ _ h => h.elim⟩

theorem heap_alloc_new (w : World) (o : Obj) : (w.alloc o).heap[w.heap.size]? = some o := by
  show (w.heap.push o)[w.heap.size]? = some o
  simp

/-- A new box. -/
theorem Rel.alloc {w : World} {fr pi : Nat → Nat} {own : Res → List Nat} {s : FS} {tm : Array Value} (h : Rel w fr pi own s tm) {id : Nat} (hid : s.bx id = none) {cs : List AV} {vs : List Value} {O : List Nat} (e : TypeId)
    (hx : Reps w fr pi cs vs O) (hn : ∀ a, a ∈ cs → NP s.has a) (hnd : O.Nodup) (hl : ∀ b, b ∈ O → b < w.heap.size) (ho : ∀ b, b ∈ O → ∀ r, b ∉ own r) :
    Rel (w.alloc (.cells vs.toArray e)) (upd fr w.heap.size 0) (upd pi id w.heap.size) (upd own (.box id) (w.heap.size :: O)) { s with bx := upd s.bx id (some (.cells cs)) } tm := by
  have st := Step.alloc w fr (.cells vs.toArray e) 0
  have hpi : ∀ i, s.has i → upd pi id w.heap.size i = pi i := fun i ⟨o, hi⟩ => upd_ne _ _ (fun e => by subst e; simp [hid] at hi)
  have hhas : ∀ i, s.has i → FS.has { s with bx := upd s.bx id (some (.cells cs)) } i := fun i ⟨o, hi⟩ => ⟨o, by
    show upd s.bx id _ i = _
    rw [upd_ne _ _ (fun e => by subst e; simp [hid] at hi)]; exact hi⟩
  have hno : own (.box id) = [] := h.nobox id hid
  refine ⟨fun i => ?_, fun i => (h.slotnp i).mono hhas, fun i o hb => ?_, fun i o hb => ?_, fun i hb => ?_, fun r => ?_, fun r r' b h1 h2 => ?_, fun r b hb => ?_⟩
  · rw [upd_ne _ _ (by simp)]
    exact (h.slot i).mono st hpi (h.slotnp i) (by simp)
  · by_cases hi : i = id
    · subst hi
      simp only [upd_same] at hb ⊢
      cases hb
      exact ⟨O, ⟨vs, e, heap_alloc_new _ _, hx.mono st hpi hn (by simp), upd_same _ _ _⟩, rfl⟩
    · have hb' : s.bx i = some o := by simpa [upd, hi] using hb
      obtain ⟨O', h1, h2⟩ := h.box i o hb'
      rw [hpi i ⟨o, hb'⟩]
      exact ⟨O', h1.mono st hpi (h.boxnp i o hb') (fun x hx => h.live (.box i) x (by rw [h2]; exact hx)) (by simp), (upd_ne _ _ (by simpa using hi)).trans h2⟩
  · by_cases hi : i = id
    · subst hi
      simp only [upd_same] at hb
      cases hb
      exact fun a ha => (hn a ha).mono hhas
    · have hb' : s.bx i = some o := by simpa [upd, hi] using hb
      exact (h.boxnp i o hb').mono hhas
  · by_cases hi : i = id
    · subst hi; simp [upd] at hb
    · have hb' : s.bx i = none := by simpa [upd, hi] using hb
      rw [upd_ne _ _ (by simpa using hi)]; exact h.nobox i hb'
  · by_cases hr : r = .box id
    · subst hr
      rw [upd_same]
      exact List.nodup_cons.2 ⟨fun hm => absurd (hl _ hm) (by omega), hnd⟩
    · rw [upd_ne _ _ hr]; exact h.nd r
  · by_cases hr : r = .box id <;> by_cases hr' : r' = .box id
    · rw [hr, hr']
    · subst hr
      rw [upd_same] at h1
      rw [upd_ne _ _ hr'] at h2
      rcases List.mem_cons.1 h1 with rfl | h1
      · exact absurd (h.live r' _ h2) (by omega)
      · exact absurd h2 (ho b h1 r')
    · subst hr'
      rw [upd_same] at h2
      rw [upd_ne _ _ hr] at h1
      rcases List.mem_cons.1 h2 with rfl | h2
      · exact absurd (h.live r _ h1) (by omega)
      · exact absurd h1 (ho b h2 r)
    · rw [upd_ne _ _ hr] at h1
      rw [upd_ne _ _ hr'] at h2
      exact h.dj r r' b h1 h2
  · by_cases hr : r = .box id
    · subst hr
      rw [upd_same] at hb
      rcases List.mem_cons.1 hb with rfl | hb
      · simp
      · have := hl b hb; simp; omega
    · rw [upd_ne _ _ hr] at hb
      have := h.live r b hb; simp; omega

/-- A new slice that is written. -/
theorem Rel.allocArr {w : World} {fr pi : Nat → Nat} {own : Res → List Nat} {s : FS} {tm : Array Value} (h : Rel w fr pi own s tm) {id : Nat} (hid : s.bx id = none) {sz : Nat} {xs : List (List AV)} {vs : List Value} (e : TypeId) (hsz : ∀ x, x ∈ xs → x.length = sz) (h1c : ∀ v, v ∈ vs → v.oneCell' = true)
    (hx : Reps w fr pi xs.flatten vs []) (hn : ∀ x, x ∈ xs → ∀ a, a ∈ x → NP s.has a) :
    Rel (w.alloc (.cells vs.toArray e)) (upd fr w.heap.size 0) (upd pi id w.heap.size) (upd own (.box id) [w.heap.size]) { s with bx := upd s.bx id (some (.arr sz xs)) } tm := by
  have st := Step.alloc w fr (.cells vs.toArray e) 0
  have hpi : ∀ i, s.has i → upd pi id w.heap.size i = pi i := fun i ⟨o, hi⟩ => upd_ne _ _ (fun e => by subst e; simp [hid] at hi)
  have hhas : ∀ i, s.has i → FS.has { s with bx := upd s.bx id (some (.arr sz xs)) } i := fun i ⟨o, hi⟩ => ⟨o, by
    show upd s.bx id _ i = _
    rw [upd_ne _ _ (fun e => by subst e; simp [hid] at hi)]; exact hi⟩
  have hno : own (.box id) = [] := h.nobox id hid
  refine ⟨fun i => ?_, fun i => (h.slotnp i).mono hhas, fun i o hb => ?_, fun i o hb => ?_, fun i hb => ?_, fun r => ?_, fun r r' b h1 h2 => ?_, fun r b hb => ?_⟩
  · rw [upd_ne _ _ (by simp)]
    exact (h.slot i).mono st hpi (h.slotnp i) (by simp)
  · by_cases hi : i = id
    · subst hi
      simp only [upd_same] at hb ⊢
      cases hb
      exact ⟨[], ⟨rfl, hsz, vs, [], e, by rw [List.append_nil]; exact heap_alloc_new _ _, hx.mono st hpi (fun a ha => by obtain ⟨x, hx, hax⟩ := List.mem_flatten.1 ha; exact hn x hx a hax) (by simp), h1c, upd_same _ _ _⟩, rfl⟩
    · have hb' : s.bx i = some o := by simpa [upd, hi] using hb
      obtain ⟨O', h1, h2⟩ := h.box i o hb'
      rw [hpi i ⟨o, hb'⟩]
      exact ⟨O', h1.mono st hpi (h.boxnp i o hb') (fun x hx => h.live (.box i) x (by rw [h2]; exact hx)) (by simp), (upd_ne _ _ (by simpa using hi)).trans h2⟩
  · by_cases hi : i = id
    · subst hi
      simp only [upd_same] at hb
      cases hb
      exact fun x hx a ha => (hn x hx a ha).mono hhas
    · have hb' : s.bx i = some o := by simpa [upd, hi] using hb
      exact (h.boxnp i o hb').mono hhas
  · by_cases hi : i = id
    · subst hi; simp [upd] at hb
    · have hb' : s.bx i = none := by simpa [upd, hi] using hb
      rw [upd_ne _ _ (by simpa using hi)]; exact h.nobox i hb'
  · by_cases hr : r = .box id
    · subst hr
      rw [upd_same]
      simp
    · rw [upd_ne _ _ hr]; exact h.nd r
  · by_cases hr : r = .box id <;> by_cases hr' : r' = .box id
    · rw [hr, hr']
    · subst hr
      rw [upd_same] at h1
      rw [upd_ne _ _ hr'] at h2
      rw [List.mem_singleton.1 h1] at h2
      exact absurd (h.live r' _ h2) (by omega)
    · subst hr'
      rw [upd_same] at h2
      rw [upd_ne _ _ hr] at h1
      rw [List.mem_singleton.1 h2] at h1
      exact absurd (h.live r _ h1) (by omega)
    · rw [upd_ne _ _ hr] at h1
      rw [upd_ne _ _ hr'] at h2
      exact h.dj r r' b h1 h2
  · by_cases hr : r = .box id
    · subst hr
      rw [upd_same] at hb
      rw [List.mem_singleton.1 hb]
      simp
    · rw [upd_ne _ _ hr] at hb
      have := h.live r b hb; simp; omega

end Go.Proofs.YtmjdoonaidolkaaDoor.V

/- A small logic of values over the model, part 3: writing: into a box, behind an owned slice. -/
namespace Go.Proofs.YtmjdoonaidolkaaDoor.V

theorem setCells_kept (b : Nat) : ∀ (vs : List Value) (o : Nat) (w : World), (w.setCells b o vs).os = w.os ∧ (w.setCells b o vs).tape = w.tape ∧ (w.setCells b o vs).output = w.output ∧
    (w.setCells b o vs).heap.size = w.heap.size ∧ ∀ k, k ≠ b → (w.setCells b o vs).heap[k]? = w.heap[k]?
  | [], _, _ => ⟨rfl, rfl, rfl, rfl, fun _ _ => rfl⟩
  | v :: r, o, w => by
    obtain ⟨h1, h2, h3, h4, h5⟩ := setCells_kept b r (o + 1) (w.setCell ⟨b, o, none⟩ v)
    rw [World.setCells]
    exact ⟨h1.trans rfl, h2.trans rfl, h3.trans rfl, h4.trans (by simp), fun k hk => (h5 k hk).trans (Go.RowKit.Below.heap_setCell _ _ _ _ hk)⟩

theorem heap_setCell_row (w : World) (b o : Nat) (c : Array Value) (e : TypeId) (fz : Nat × Nat) (v : Value) (h : w.heap[b]? = some (.cells c e fz)) :
    (w.setCell ⟨b, o, none⟩ v).heap[b]? = some (.cells (c.setIfInBounds o v) e fz) := by
  simp only [World.setCell, Array.getElem?_modify, ↓reduceIte, h, Option.map_some]
  simp

theorem setCells_row (b : Nat) : ∀ (vs : List Value) (o : Nat) (w : World) (c : Array Value) (e : TypeId) (fz : Nat × Nat), w.heap[b]? = some (.cells c e fz) → o + vs.length ≤ c.size →
    ∃ c' : Array Value, (w.setCells b o vs).heap[b]? = some (.cells c' e fz) ∧ c'.size = c.size ∧ c'.toList = c.toList.take o ++ vs ++ c.toList.drop (o + vs.length)
  | [], o, w, c, e, fz, h, ho => ⟨c, h, rfl, by simp⟩
  | v :: r, o, w, c, e, fz, h, ho => by
    simp only [List.length_cons] at ho
    obtain ⟨c', h1, h2, h3⟩ := setCells_row b r (o + 1) (w.setCell ⟨b, o, none⟩ v) _ e fz (heap_setCell_row w b o c e fz v h) (by simp; omega)
    refine ⟨c', h1, by simpa using h2, ?_⟩
    rw [h3, Array.toList_setIfInBounds]
    apply List.ext_getElem?
    intro i
    have hlen : c.toList.length = c.size := by simp
    simp only [List.getElem?_append, List.length_append, List.length_take, List.length_set, List.length_cons, List.getElem?_take, List.getElem?_drop, List.getElem?_set, hlen]
    rcases Nat.lt_trichotomy i o with hi | hi | hi
    · simp only [show i < min (o + 1) c.size + r.length by omega, show i < min (o + 1) c.size by omega, show i < o + 1 by omega, show i < min o c.size + (r.length + 1) by omega, show i < min o c.size by omega,
        show i < o by omega, show ¬ o = i by omega, ↓reduceIte]
    · subst hi
      simp only [show i < min (i + 1) c.size + r.length by omega, show i < min (i + 1) c.size by omega, show i < i + 1 by omega, show i < min i c.size + (r.length + 1) by omega, show ¬ i < min i c.size by omega,
        ↓reduceIte, show i < c.size by omega, show i - min i c.size = 0 by omega, List.getElem?_cons_zero]
    · by_cases hj : i < o + 1 + r.length
      · simp only [show i < min (o + 1) c.size + r.length by omega, show ¬ i < min (o + 1) c.size by omega, show i < min o c.size + (r.length + 1) by omega, show ¬ i < min o c.size by omega, ↓reduceIte,
          show i - min o c.size = (i - min (o + 1) c.size) + 1 by omega, List.getElem?_cons_succ]
      · simp only [show ¬ i < min (o + 1) c.size + r.length by omega, show ¬ i < min o c.size + (r.length + 1) by omega, ↓reduceIte]
        rw [if_neg (by omega)]
        congr 1
        omega

/-- Writing into a block of A, where nobody looks. -/
theorem Step.setCells {w : World} {fr : Nat → Nat} {b o : Nat} {vs : List Value} {c : Array Value} {e : TypeId} {fz : Nat × Nat} (h : w.heap[b]? = some (.cells c e fz)) (ho : o + vs.length ≤ c.size)
    (hf : fr b ≤ o) {k : Nat} (hk : fr b ≤ k) : Step w (w.setCells b o vs) fr (upd fr b k) (fun x => x = b) := by
  obtain ⟨h1, h2, h3, h4, h5⟩ := setCells_kept b vs o w
  refine ⟨h1, h2, h3, by omega, fun x hx hn => ⟨h5 x hn, upd_ne _ _ hn⟩, fun x hx hn => ?_⟩
  subst hn
  refine ⟨fun c1 e1 fz1 hc => ?_, by rw [upd_same]; exact hk⟩
  rw [h] at hc
  cases hc
  obtain ⟨c', h6, h7, h8⟩ := setCells_row x vs o w c e fz h ho
  refine ⟨c', h6, h7, fun i hi => ?_⟩
  have : c'.toList[i]? = c.toList[i]? := by
    rw [h8, List.append_assoc, List.getElem?_append_left (by simp; omega), List.getElem?_take, if_pos (by omega)]
  simpa using this

/-- A box is written. -/
theorem Rel.setBox {w : World} {fr pi : Nat → Nat} {own : Res → List Nat} {s : FS} {tm : Array Value} (h : Rel w fr pi own s tm) {id off : Nat} {cs : List AV} (hb : s.bx id = some (.cells cs))
    {xs : List AV} {us : List Value} {O : List Nat} (hx : Reps w fr pi xs us O) (hn : ∀ a, a ∈ xs → NP s.has a) (hnd : O.Nodup) (hl : ∀ b, b ∈ O → b < w.heap.size) (ho : ∀ b, b ∈ O → ∀ r, b ∉ own r)
    (hfit : off + xs.length ≤ cs.length) :
    ∃ own', Rel (w.setCells (pi id) off us) fr pi own' { s with bx := upd s.bx id (some (.cells (cs.take off ++ xs ++ cs.drop (off + xs.length)))) } tm ∧
      Step w (w.setCells (pi id) off us) fr fr (fun x => x = pi id) ∧ pi id ∈ own (.box id) ∧ (∀ r b, b ∈ own' r → (∃ r', b ∈ own r') ∨ b ∈ O) ∧
      (∃ c : Array Value, ∃ e : TypeId, w.heap[pi id]? = some (.cells c e (0, 0)) ∧ c.size = cs.length) ∧ us.length = xs.length := by
  obtain ⟨O0, ⟨vs, e, h1, h2, h3⟩, h4⟩ := h.box id _ hb
  replace h4 : own (.box id) = pi id :: O0 := h4
  have hlen := h2.length
  have hlx := hx.length
  have hst0 : Step w (w.setCells (pi id) off us) fr (upd fr (pi id) 0) (fun x => x = pi id) := Step.setCells h1 (by simp; omega) (by omega) (by omega)
  have hfr : upd fr (pi id) 0 = fr := by
    funext x
    by_cases hx : x = pi id
    · subst hx; rw [upd_same, h3]
    · rw [upd_ne _ _ hx]
  rw [hfr] at hst0
  have hst := hst0
  have hlt : pi id < w.heap.size := h.live (.box id) _ (by simp [h4])
  have hndb := h.nd (.box id)
  rw [h4] at hndb
  have hd0 : ∀ r, r ≠ .box id → pi id ∉ own r := fun r hr hm => hr (h.dj r (.box id) _ hm (by simp [h4]))
  -- the box's cells, in three parts
  have hsplit : cs = cs.take off ++ ((cs.drop off).take xs.length ++ cs.drop (off + xs.length)) := by
    rw [← List.drop_drop, List.take_append_drop, List.take_append_drop]
  rw [hsplit] at h2
  obtain ⟨u1, u23, O1, O23, e1, e2, r1, r23⟩ := h2.split
  obtain ⟨u2, u3, O2, O3, e3, e4, r2, r3⟩ := r23.split
  subst e3 e4
  have hnp0 : ∀ a, a ∈ cs → NP s.has a := h.boxnp id _ hb
  have l1 := r1.length
  have l2 := r2.length
  have l3 := r3.length
  simp only [List.length_take, List.length_drop] at l1 l2 l3
  have hO : ∀ x, x ∈ O0 → x ≠ pi id := fun x hx e => by subst e; simp at hndb; exact hndb.1 hx
  have hOO : O0.Nodup := by simp at hndb; exact hndb.2
  subst e2
  have hnotO : ∀ b, b ∈ O → b ≠ pi id := fun b hb e => by subst e; exact ho _ hb (.box id) (by simp [h4])
  have m1 := r1.mono hst (ok := s.has) (fun _ _ => rfl) (fun a ha => hnp0 a (List.mem_of_mem_take ha)) (fun b hb => hO b (by simp [hb]))
  have m3 := r3.mono hst (ok := s.has) (fun _ _ => rfl) (fun a ha => hnp0 a (List.mem_of_mem_drop ha)) (fun b hb => hO b (by simp [hb]))
  have mx := hx.mono hst (ok := s.has) (fun _ _ => rfl) hn hnotO
  have hall := (m1.append mx).append m3
  obtain ⟨c', g1, g2, g3⟩ := setCells_row (pi id) us off w vs.toArray e (0, 0) h1 (by simp; omega)
  have hc' : c' = (u1 ++ us ++ u3).toArray := by
    apply Array.ext'
    rw [g3, e1]
    simp only
    congr 1
    · congr 1
      exact List.take_left' (by omega)
    · rw [← List.append_assoc]
      exact List.drop_left' (by simp; omega)
  rw [hc'] at g1
  have hhas : ∀ i, s.has i → FS.has { s with bx := upd s.bx id (some (.cells (cs.take off ++ xs ++ cs.drop (off + xs.length)))) } i := by
    intro i ⟨o, hi⟩
    by_cases e : i = id
    · subst e; exact ⟨_, upd_same _ _ _⟩
    · exact ⟨o, (upd_ne _ _ e).trans hi⟩
  refine ⟨upd own (.box id) (pi id :: (O1 ++ O ++ O3)), ⟨fun i => ?_, fun i => (h.slotnp i).mono hhas, fun i o hbo => ?_, fun i o hbo => ?_, fun i hi => ?_, fun r => ?_, fun r r' b x1 x2 => ?_, fun r b hr => ?_⟩, hst, by simp [h4], fun r b hr => ?_, ⟨_, e, h1, by simp; omega⟩, by omega⟩
  · rw [upd_ne _ _ (by simp)]
    exact (h.slot i).mono hst (fun _ _ => rfl) (h.slotnp i) (fun b hb e => hd0 (.slot i) (by simp) (e ▸ hb))
  · by_cases hi : i = id
    · subst hi
      simp only [upd_same] at hbo ⊢
      cases hbo
      exact ⟨O1 ++ O ++ O3, ⟨_, e, g1, hall, h3⟩, rfl⟩
    · have hb' : s.bx i = some o := by simpa [upd, hi] using hbo
      obtain ⟨O', y1, y2⟩ := h.box i o hb'
      have hne : ∀ b, b ∈ own (.box i) → b ≠ pi id := fun b hb e => hd0 (.box i) (by simpa using hi) (e ▸ hb)
      exact ⟨O', y1.mono hst (fun _ _ => rfl) (h.boxnp i o hb') (fun x hx => h.live (.box i) x (by rw [y2]; exact hx)) (fun x hx => hne x (by rw [y2]; exact hx)), (upd_ne _ _ (by simpa using hi)).trans y2⟩
  · by_cases hi : i = id
    · subst hi
      simp only [upd_same] at hbo
      cases hbo
      intro a ha
      simp only [List.mem_append] at ha
      rcases ha with (ha | ha) | ha
      · exact (hnp0 a (List.mem_of_mem_take ha)).mono hhas
      · exact (hn a ha).mono hhas
      · exact (hnp0 a (List.mem_of_mem_drop ha)).mono hhas
    · have hb' : s.bx i = some o := by simpa [upd, hi] using hbo
      exact (h.boxnp i o hb').mono hhas
  · by_cases he : i = id
    · subst he; simp [upd] at hi
    · have hb' : s.bx i = none := by simpa [upd, he] using hi
      rw [upd_ne _ _ (by simpa using he)]; exact h.nobox i hb'
  · by_cases hr : r = .box id
    · subst hr
      rw [upd_same]
      refine List.nodup_cons.2 ⟨fun hm => ?_, ?_⟩
      · simp only [List.mem_append] at hm
        rcases hm with (hm | hm) | hm
        · exact hO _ (by simp [hm]) rfl
        · exact hnotO _ hm rfl
        · exact hO _ (by simp [hm]) rfl
      · rw [List.nodup_append] at hOO
        obtain ⟨n1, n23, n4⟩ := hOO
        rw [List.nodup_append] at n23
        obtain ⟨n2, n3, n5⟩ := n23
        have hdis : ∀ b, b ∈ O → b ∉ O1 ∧ b ∉ O3 := fun b hb => ⟨fun hm => ho b hb (.box id) (by simp [h4, hm]), fun hm => ho b hb (.box id) (by simp [h4, hm])⟩
        rw [List.nodup_append, List.nodup_append]
        refine ⟨⟨n1, hnd, fun a ha b hb e => (hdis b hb).1 (e ▸ ha)⟩, n3, fun a ha b hb e => ?_⟩
        rcases List.mem_append.1 ha with ha | ha
        · exact n4 a ha b (by simp [hb]) e
        · exact (hdis a ha).2 (e ▸ hb)
    · rw [upd_ne _ _ hr]; exact h.nd r
  · have key : ∀ b, b ∈ upd own (.box id) (pi id :: (O1 ++ O ++ O3)) (.box id) → ∀ r, r ≠ .box id → b ∉ own r := by
      intro b hb r hr hm
      rw [upd_same] at hb
      simp only [List.mem_cons, List.mem_append] at hb
      rcases hb with rfl | (hb | hb) | hb
      · exact hd0 r hr hm
      · exact hr (h.dj r (.box id) b hm (by simp [h4, hb]))
      · exact ho b hb r hm
      · exact hr (h.dj r (.box id) b hm (by simp [h4, hb]))
    by_cases hr : r = .box id <;> by_cases hr' : r' = .box id
    · rw [hr, hr']
    · subst hr
      rw [upd_ne _ _ hr'] at x2
      exact absurd x2 (key b x1 r' hr')
    · subst hr'
      rw [upd_ne _ _ hr] at x1
      exact absurd x1 (key b x2 r hr)
    · rw [upd_ne _ _ hr] at x1
      rw [upd_ne _ _ hr'] at x2
      exact h.dj r r' b x1 x2
  · have hs : (w.setCells (pi id) off us).heap.size = w.heap.size := (setCells_kept (pi id) us off w).2.2.2.1
    rw [hs]
    by_cases hr' : r = .box id
    · subst hr'
      rw [upd_same] at hr
      simp only [List.mem_cons, List.mem_append] at hr
      rcases hr with rfl | (hr | hr) | hr
      · exact hlt
      · exact h.live (.box id) b (by simp [h4, hr])
      · exact hl b hr
      · exact h.live (.box id) b (by simp [h4, hr])
    · rw [upd_ne _ _ hr'] at hr; exact h.live r b hr
  · by_cases hr' : r = .box id
    · subst hr'
      rw [upd_same] at hr
      simp only [List.mem_cons, List.mem_append] at hr
      rcases hr with rfl | (hr | hr) | hr
      · exact .inl ⟨.box id, by simp [h4]⟩
      · exact .inl ⟨.box id, by simp [h4, hr]⟩
      · exact .inr hr
      · exact .inl ⟨.box id, by simp [h4, hr]⟩
    · rw [upd_ne _ _ hr'] at hr; exact .inl ⟨r, hr⟩

/-! ### slices that are written -/

/-- A box that owns nothing more becomes another such. -/
theorem Rel.rebox {w w' : World} {fr fr' pi : Nat → Nat} {own : Res → List Nat} {s : FS} {tm : Array Value} (h : Rel w fr pi own s tm) {id : Nat} {ob ob' : HObj} (hb : s.bx id = some ob) (hO : own (.box id) = [pi id])
    (hst : Step w w' fr fr' (fun x => x = pi id)) (ho : ORep w' fr' pi ob' (pi id) []) (hbk : ob'.blk (pi id) [] = [pi id]) (hn : NPo s.has ob') : Rel w' fr' pi own { s with bx := upd s.bx id (some ob') } tm := by
  have hd0 : ∀ r, r ≠ .box id → pi id ∉ own r := fun r hr hm => hr (h.dj r (.box id) _ hm (by simp [hO]))
  have hhas : ∀ i, s.has i → FS.has { s with bx := upd s.bx id (some ob') } i := by
    intro i ⟨o, hi⟩
    by_cases e : i = id
    · subst e; exact ⟨_, upd_same _ _ _⟩
    · exact ⟨o, (upd_ne _ _ e).trans hi⟩
  refine ⟨fun i => (h.slot i).mono hst (fun _ _ => rfl) (h.slotnp i) (fun b hb e => hd0 (.slot i) (by simp) (e ▸ hb)), fun i => (h.slotnp i).mono hhas, fun i o hbo => ?_, fun i o hbo => ?_, fun i hi => ?_, h.nd, h.dj,
    fun r b hr => Nat.lt_of_lt_of_le (h.live r b hr) hst.size⟩
  · by_cases hi : i = id
    · subst hi
      simp only [upd_same] at hbo
      cases hbo
      exact ⟨[], ho, hO.trans hbk.symm⟩
    · have hb' : s.bx i = some o := by simpa [upd, hi] using hbo
      obtain ⟨O', y1, y2⟩ := h.box i o hb'
      have hne : ∀ b, b ∈ own (.box i) → b ≠ pi id := fun b hb e => hd0 (.box i) (by simpa using hi) (e ▸ hb)
      exact ⟨O', y1.mono hst (fun _ _ => rfl) (h.boxnp i o hb') (fun x hx => h.live (.box i) x (by rw [y2]; exact hx)) (fun x hx => hne x (by rw [y2]; exact hx)), y2⟩
  · by_cases hi : i = id
    · subst hi
      simp only [upd_same] at hbo
      cases hbo
      exact hn.mono hhas
    · have hb' : s.bx i = some o := by simpa [upd, hi] using hbo
      exact (h.boxnp i o hb').mono hhas
  · by_cases he : i = id
    · subst he; simp [upd] at hi
    · have hb' : s.bx i = none := by simpa [upd, he] using hi
      exact h.nobox i hb'

theorem Rel.arr {w : World} {fr pi : Nat → Nat} {own : Res → List Nat} {s : FS} {tm : Array Value} (h : Rel w fr pi own s tm) {id sz : Nat} {xs : List (List AV)} (hb : s.bx id = some (.arr sz xs)) :
    own (.box id) = [pi id] ∧ pi id < w.heap.size ∧ (∀ x, x ∈ xs → ∀ a, a ∈ x → NP s.has a) ∧ (∀ x, x ∈ xs → x.length = sz) ∧
      ∃ vs ju e, w.heap[pi id]? = some (.cells (vs ++ ju).toArray e (0, 0)) ∧ Reps w fr pi xs.flatten vs [] ∧ (∀ v, v ∈ vs → v.oneCell' = true) ∧ fr (pi id) = 0 := by
  obtain ⟨O, ⟨rfl, h1, h2⟩, h3⟩ := h.box id _ hb
  replace h3 : own (.box id) = [pi id] := h3
  exact ⟨h3, h.live (.box id) _ (by simp [h3]), h.boxnp id _ hb, h1, h2⟩

theorem frUpd {fr : Nat → Nat} {b k : Nat} (h : fr b = k) : upd fr b k = fr := by
  funext x
  by_cases hx : x = b
  · subst hx; rw [upd_same, h]
  · rw [upd_ne _ _ hx]

/-- Such a slice's cells are written. -/
theorem Rel.setArr {w : World} {fr pi : Nat → Nat} {own : Res → List Nat} {s : FS} {tm : Array Value} (h : Rel w fr pi own s tm) {id sz off : Nat} {xs xs' : List (List AV)} (hb : s.bx id = some (.arr sz xs))
    {ys : List AV} {us : List Value} (hx : Reps w fr pi ys us []) (hn : ∀ a, a ∈ ys → NP s.has a) (h1 : ∀ v, v ∈ us → v.oneCell' = true) (hfit : off + ys.length ≤ xs.flatten.length) (hl : ∀ x, x ∈ xs' → x.length = sz)
    (hf : xs'.flatten = xs.flatten.take off ++ ys ++ xs.flatten.drop (off + ys.length)) :
    Rel (w.setCells (pi id) off us) fr pi own { s with bx := upd s.bx id (some (.arr sz xs')) } tm ∧ Step w (w.setCells (pi id) off us) fr fr (fun x => x = pi id) := by
  obtain ⟨k1, k2, k3, k4, vs, ju, e, k5, k6, k7, k8⟩ := h.arr hb
  have hlen := k6.length
  have hlx := hx.length
  have hst : Step w (w.setCells (pi id) off us) fr (upd fr (pi id) 0) (fun x => x = pi id) := Step.setCells k5 (by simp; omega) (by omega) (by omega)
  rw [frUpd k8] at hst
  refine ⟨h.rebox hb k1 hst ?_ rfl ?_, hst⟩
  · have hsplit : xs.flatten = xs.flatten.take off ++ ((xs.flatten.drop off).take ys.length ++ xs.flatten.drop (off + ys.length)) := by
      rw [← List.drop_drop, List.take_append_drop, List.take_append_drop]
    rw [hsplit] at k6
    obtain ⟨u1, u23, O1, O23, e1, e2, r1, r23⟩ := k6.split
    obtain ⟨u2, u3, O2, O3, e3, e4, r2, r3⟩ := r23.split
    subst e3 e4 e1
    have l1 := r1.length
    have l2 := r2.length
    have l3 := r3.length
    simp only [List.length_take, List.length_drop] at l1 l2 l3
    obtain ⟨rfl, e5⟩ := List.append_eq_nil_iff.1 e2.symm
    obtain ⟨rfl, rfl⟩ := List.append_eq_nil_iff.1 e5
    have hnf : ∀ a, a ∈ xs.flatten → NP s.has a := fun a ha => by obtain ⟨x, hx, hax⟩ := List.mem_flatten.1 ha; exact k3 x hx a hax
    have m1 := r1.mono hst (ok := s.has) (fun _ _ => rfl) (fun a ha => hnf a (List.mem_of_mem_take ha)) (by simp)
    have m3 := r3.mono hst (ok := s.has) (fun _ _ => rfl) (fun a ha => hnf a (List.mem_of_mem_drop ha)) (by simp)
    have mx := hx.mono hst (ok := s.has) (fun _ _ => rfl) hn (by simp)
    have hall := (m1.append mx).append m3
    obtain ⟨c', g1, g2, g3⟩ := setCells_row (pi id) us off w _ e (0, 0) k5 (by simp; omega)
    have hc' : c' = (u1 ++ us ++ u3 ++ ju).toArray := by
      apply Array.ext'
      rw [g3]
      simp only [List.append_assoc]
      congr 1
      · exact List.take_left' (by omega)
      · congr 1
        rw [← List.append_assoc, ← List.append_assoc]
        rw [show u1 ++ u2 ++ u3 ++ ju = (u1 ++ u2) ++ (u3 ++ ju) by simp]
        exact List.drop_left' (by simp; omega)
    rw [hc'] at g1
    refine ⟨rfl, hl, u1 ++ us ++ u3, ju, e, g1, by rw [hf]; simpa using hall, fun v hv => ?_, k8⟩
    simp only [List.mem_append] at hv
    rcases hv with (hv | hv) | hv
    · exact k7 v (by simp [hv])
    · exact h1 v hv
    · exact k7 v (by simp [hv])
  · intro x hx' a ha
    have : a ∈ xs'.flatten := List.mem_flatten.2 ⟨x, hx', ha⟩
    have hnf : ∀ a, a ∈ xs.flatten → NP s.has a := fun a ha => by obtain ⟨x, hx, hax⟩ := List.mem_flatten.1 ha; exact k3 x hx a hax
    rw [hf, List.mem_append, List.mem_append] at this
    rcases this with (hv | hv) | hv
    · exact hnf a (List.mem_of_mem_take hv)
    · exact hn a hv
    · exact hnf a (List.mem_of_mem_drop hv)

/-- A box lets go of what it owns: its cells stand from now on. -/
theorem Rel.letBox {w : World} {fr fr' pi : Nat → Nat} {own : Res → List Nat} {s : FS} {tm : Array Value} (h : Rel w fr pi own s tm) {id : Nat} {ob : HObj} (hb : s.bx id = some ob) (hin : pi id ∈ own (.box id))
    (hst : Step w w fr fr' (fun x => x = pi id)) {cs : List AV} {vs : List Value} (hr : Reps w fr' pi cs vs []) (hc : CellsAt w fr' (pi id) 0 vs) (hn : ∀ a, a ∈ cs → NP s.has a) :
    Rel w fr' pi (upd own (.box id) []) { s with bx := upd s.bx id (some (.ro cs)) } tm := by
  have hd0 : ∀ r, r ≠ .box id → pi id ∉ own r := fun r hr hm => hr (h.dj r (.box id) _ hm hin)
  have hhas : ∀ i, s.has i → FS.has { s with bx := upd s.bx id (some (.ro cs)) } i := by
    intro i ⟨o, hi⟩
    by_cases e : i = id
    · subst e; exact ⟨_, upd_same _ _ _⟩
    · exact ⟨o, (upd_ne _ _ e).trans hi⟩
  have hsub : ∀ r b, b ∈ upd own (.box id) [] r → b ∈ own r := by
    intro r b hb
    by_cases e : r = .box id
    · subst e; rw [upd_same] at hb; simp at hb
    · rwa [upd_ne _ _ e] at hb
  refine ⟨fun i => ?_, fun i => (h.slotnp i).mono hhas, fun i o hbo => ?_, fun i o hbo => ?_, fun i hi => ?_, fun r => ?_, fun r r' b x1 x2 => h.dj r r' b (hsub r b x1) (hsub r' b x2), fun r b hr => h.live r b (hsub r b hr)⟩
  · rw [upd_ne _ _ (by simp)]
    exact (h.slot i).mono hst (fun _ _ => rfl) (h.slotnp i) (fun b hb e => hd0 (.slot i) (by simp) (e ▸ hb))
  · by_cases hi : i = id
    · subst hi
      simp only [upd_same] at hbo ⊢
      cases hbo
      exact ⟨[], ⟨rfl, vs, hr, hc⟩, rfl⟩
    · have hb' : s.bx i = some o := by simpa [upd, hi] using hbo
      obtain ⟨O', y1, y2⟩ := h.box i o hb'
      have hne : ∀ b, b ∈ own (.box i) → b ≠ pi id := fun b hb e => hd0 (.box i) (by simpa using hi) (e ▸ hb)
      exact ⟨O', y1.mono hst (fun _ _ => rfl) (h.boxnp i o hb') (fun x hx => h.live (.box i) x (by rw [y2]; exact hx)) (fun x hx => hne x (by rw [y2]; exact hx)), (upd_ne _ _ (by simpa using hi)).trans y2⟩
  · by_cases hi : i = id
    · subst hi
      simp only [upd_same] at hbo
      cases hbo
      exact fun a ha => (hn a ha).mono hhas
    · have hb' : s.bx i = some o := by simpa [upd, hi] using hbo
      exact (h.boxnp i o hb').mono hhas
  · by_cases he : i = id
    · subst he; simp [upd] at hi
    · have hb' : s.bx i = none := by simpa [upd, he] using hi
      rw [upd_ne _ _ (by simpa using he)]
      exact h.nobox i hb'
  · by_cases e : r = .box id
    · subst e; rw [upd_same]; simp
    · rw [upd_ne _ _ e]; exact h.nd r

theorem cells_row {w : World} {fr : Nat → Nat} {b : Nat} {vs ju : List Value} {e : TypeId} {fz : Nat × Nat} (h : w.heap[b]? = some (.cells (vs ++ ju).toArray e fz)) (hf : vs.length ≤ fr b) (h1 : ∀ v, v ∈ vs → v.oneCell' = true) : CellsAt w fr b 0 vs := by
  intro k v hk
  have hlt : k < vs.length := by
    rcases Nat.lt_or_ge k vs.length with h' | h'
    · exact h'
    · simp [List.getElem?_eq_none h'] at hk
  exact ⟨by simp [World.cell?, h, List.getElem?_append_left hlt, hk], by omega, h1 v (List.mem_of_getElem? hk)⟩

/-- Such a slice is written no more: what it holds stands. -/
theorem Rel.freeze {w : World} {fr pi : Nat → Nat} {own : Res → List Nat} {s : FS} {tm : Array Value} (h : Rel w fr pi own s tm) {id sz : Nat} {xs : List (List AV)} (hb : s.bx id = some (.arr sz xs)) :
    ∃ fr' vs, Rel w fr' pi (upd own (.box id) []) { s with bx := upd s.bx id (some (.ro xs.flatten)) } tm ∧ Step w w fr fr' (fun x => x = pi id) ∧ pi id ∈ own (.box id) ∧ Reps w fr' pi xs.flatten vs [] ∧ CellsAt w fr' (pi id) 0 vs := by
  obtain ⟨k1, k2, k3, k4, vs, ju, e, k5, k6, k7, k8⟩ := h.arr hb
  have hst : Step w w fr (upd fr (pi id) vs.length) (fun x => x = pi id) := by
    refine ⟨rfl, rfl, rfl, Nat.le_refl _, fun x hx hn => ⟨rfl, upd_ne _ _ hn⟩, fun x hx hn => ?_⟩
    subst hn
    exact ⟨KeptTo.refl _ _ _, by rw [upd_same]; omega⟩
  have hnf : ∀ a, a ∈ xs.flatten → NP s.has a := fun a ha => by obtain ⟨x, hx, hax⟩ := List.mem_flatten.1 ha; exact k3 x hx a hax
  have hr := k6.mono hst (ok := s.has) (fun _ _ => rfl) hnf (by simp)
  have hc : CellsAt w (upd fr (pi id) vs.length) (pi id) 0 vs := cells_row k5 (by rw [upd_same]; exact Nat.le_refl _) k7
  exact ⟨_, vs, h.letBox hb (by simp [k1]) hst hr hc hnf, hst, by simp [k1], hr, hc⟩

/-- Cells stand from now on. -/
theorem Rel.freezeCells {w : World} {fr pi : Nat → Nat} {own : Res → List Nat} {s : FS} {tm : Array Value} (h : Rel w fr pi own s tm) {id : Nat} {cs : List AV} (hb : s.bx id = some (.cells cs)) (_h1 : cs.all AV.one = true) (hone : ∀ vs O, Reps w fr pi cs vs O → ∀ v, v ∈ vs → v.oneCell' = true) :
    ∃ fr' vs, Rel w fr' pi (upd own (.box id) []) { s with bx := upd s.bx id (some (.ro (AV.stripL cs))) } tm ∧ Step w w fr fr' (fun x => x = pi id) ∧ pi id ∈ own (.box id) ∧ Reps w fr' pi (AV.stripL cs) vs [] ∧ CellsAt w fr' (pi id) 0 vs := by
  obtain ⟨O, ⟨vs, e, k1, k2, k3⟩, k4⟩ := h.box id _ hb
  replace k4 : own (.box id) = pi id :: O := k4
  have hst : Step w w fr (upd fr (pi id) vs.length) (fun x => x = pi id) := by
    refine ⟨rfl, rfl, rfl, Nat.le_refl _, fun x hx hn => ⟨rfl, upd_ne _ _ hn⟩, fun x hx hn => ?_⟩
    subst hn
    exact ⟨KeptTo.refl _ _ _, by rw [upd_same]; omega⟩
  have hnf : ∀ a, a ∈ AV.stripL cs → NP s.has a := fun a ha => by
    rw [AV.stripL_eq] at ha
    obtain ⟨x, hx, rfl⟩ := List.mem_map.1 ha
    exact (h.boxnp id _ hb x hx).strip
  have hr := k2.strip.mono hst (ok := s.has) (fun _ _ => rfl) hnf (by simp)
  have hc : CellsAt w (upd fr (pi id) vs.length) (pi id) 0 vs := cells_row (ju := []) (by rw [List.append_nil]; exact k1) (by rw [upd_same]; exact Nat.le_refl _) (hone vs O k2)
  exact ⟨_, vs, h.letBox hb (by simp [k4]) hst hr hc hnf, hst, by simp [k4], hr, hc⟩

end Go.Proofs.YtmjdoonaidolkaaDoor.V

/- A small logic of values over the model, part 4: operations, with all that the tables of types tell told; and what each comes to. -/
namespace Go.Proofs.YtmjdoonaidolkaaDoor.V

inductive VX where
  | tmp (t : Nat)
  | cst (a : AV)
  deriving Inhabited

/-- A cell's plain kind. -/
inductive PK where
  | bool
  | int (k : IntKind)
  | str
  deriving DecidableEq, Inhabited

/-- A type that is held against nil. -/
inductive EK where
  | ptr
  | slice
  | iface
  | func
  deriving DecidableEq, Inhabited

inductive VOp where
  | mov (x : VX)
  | pick (c a b : VX)
  | alloc (z : AV)
  | box (x : VX)
  | build (z : List AV) (ps : List (Nat × Nat × VX))
  | bslice (sz len : Nat) (z : List AV) (ps : List (Nat × VX))
  | load (g : Option Nat) (x : VX)
  | store (n : Nat) (x v : VX)
  | nilck (x : VX)
  | bin (op : BinOp) (x y : VX)
  | eqn (k : EK) (neq : Bool) (x y : VX)
  | eqv (neq : Bool) (plan : List PK) (x y : VX)
  | un (op : UnOp) (x : VX)
  | cvi (k : IntKind) (x : VX)
  | cvsb (x : VX)
  | cvbs (x : VX)
  | cvid (x : VX)
  | ifc (t : Nat) (x : VX)
  | fn (f : Nat) (caps : List VX)
  | slstr (x : VX) (lo hi : Option VX)
  | slsl (sz : Nat) (x : VX) (lo hi : Option VX)
  | fld (off : Nat) (x : VX)
  | fldv (off : Nat) (g : Option Nat) (x : VX)
  | ixa (sz : Nat) (x i : VX)
  | ixarr (n sz : Nat) (x i : VX)
  | ixs (x i : VX)
  | ext (x : VX) (i : Nat)
  | call (f : VX) (args : List VX)
  | lens (x : VX)
  | lenl (x : VX)
  | app (sz bytes : Nat) (x y : VX)
  | apps (bytes : Nat) (x y : VX)
  | mk (sz bytes : Nat) (z : List AV) (n : VX)
  | eqb (neq : Bool) (x y : VX)
  | mm (mx : Bool) (x y : VX)
  | cpy (x y : VX)
  | mkm
  | mget (x k : VX)
  | mset (x k v : VX)
  | bad
  deriving Inhabited

def avOf1 : Value → Option AV
  | .bool b => some (.bool b)
  | .int k n => some (.int k n)
  | .string s => some (.str s)
  | .pointer none => some (.ptr none)
  | .slice none 0 0 => some (.sl 0 (some true) true [])
  | .nilIface => some .niliface
  | .nilFunc => some .nilfunc
  | _ => none

def avOfL : List Value → Option (List AV)
  | [] => some []
  | v :: vs => (avOf1 v).bind fun a => (avOfL vs).map fun as => a :: as

def avOf : Value → Option AV
  | .agg cs => (avOfL cs.toList).map .agg
  | v => avOf1 v

def resX : Operand → Option VX
  | .tmp t => some (.tmp t)
  | .const v => (avOf v).map .cst
  | .func f => some (.cst (.func f []))
  | .global _ => none

def resXs : List Operand → Option (List VX)
  | [] => some []
  | x :: xs => (resX x).bind fun a => (resXs xs).map fun as => a :: as

def resO : Option Operand → Option (Option VX)
  | none => some none
  | some x => (resX x).map some

def infoOf (P : Program) (t : TypeId) : Option TypeInfo := P.info? t
def szOf (P : Program) (t : TypeId) : Option Nat := (P.info? t).map (·.size)
def zeroOf (P : Program) (t : TypeId) : Option AV := ((P.info? t).bind (·.zero)).bind avOf

/-- A variable of this type: so many cells (a struct, an array), or one. -/
def aggOf (P : Program) (t : TypeId) : Option (Option Nat) :=
  match P.underlying t with
  | some (.struct _) | some (.array _ _) => (szOf P t).map some
  | some _ => some none
  | none => none

def resFields (P : Program) (fs : List Field) : Option (List (Nat × Nat)) :=
  match fs with
  | [] => some []
  | f :: r => (szOf P f.type).bind fun s => (resFields P r).map fun l => (f.offset, s) :: l

def resPartsS (places : List (Nat × Nat)) : List (Nat × Operand) → Option (List (Nat × Nat × VX))
  | [] => some []
  | (i, x) :: r => (places[i]?).bind fun p => (resX x).bind fun a => (resPartsS places r).map fun l => (p.1, p.2, a) :: l

def resPartsA : List (Nat × Operand) → Option (List (Nat × VX))
  | [] => some []
  | (i, x) :: r => (resX x).bind fun a => (resPartsA r).map fun l => (i, a) :: l

def planOf (P : Program) : Nat → List Field → Option (List PK)
  | _, [] => some []
  | n, f :: r =>
    if f.name = "_" ∨ f.offset ≠ n then none else
    match P.underlying f.type with
    | some .bool => (planOf P (n + 1) r).map fun l => .bool :: l
    | some (.int k) => (planOf P (n + 1) r).map fun l => .int k :: l
    | some .string => (planOf P (n + 1) r).map fun l => .str :: l
    | _ => none

def resEqn (k : EK) (op : BinOp) (x y : VX) : Option VOp :=
  match op with
  | .eql => some (.eqn k false x y)
  | .neq => some (.eqn k true x y)
  | _ => none

def resEqb (op : BinOp) (x y : VX) : Option VOp :=
  match op with
  | .eql => some (.eqb false x y)
  | .neq => some (.eqb true x y)
  | _ => none

def resBin (P : Program) (op : BinOp) (t : TypeId) (x y : VX) : Option VOp :=
  match P.underlying t with
  | some .bool => resEqb op x y
  | some (.int _) | some .string => some (.bin op x y)
  | some (.struct fs) =>
    if P.stoodInHeld t || P.eqGuardType P.depth t then none else
    match op with
    | .eql => (planOf P 0 fs.toList).map fun l => .eqv false l x y
    | .neq => (planOf P 0 fs.toList).map fun l => .eqv true l x y
    | _ => none
  | some (.pointer _) => resEqn .ptr op x y
  | some (.slice _) => resEqn .slice op x y
  | some (.interface _) => resEqn .iface op x y
  | some (.func _ _ _) => resEqn .func op x y
  | _ => none

def resCall (P : Program) (c : Call) : Option VOp :=
  match c.callee with
  | .value f => (resX f).bind fun g => (resXs c.args.toList).map fun l => .call g l
  | .builtin .len =>
    match c.args.toList, c.argTypes.toList with
    | [x], [t] =>
      match P.underlying t with
      | some .string => (resX x).map .lens
      | some (.slice _) => (resX x).map .lenl
      | _ => none
    | _, _ => none
  | .builtin .append =>
    match c.args.toList, c.argTypes.toList with
    | [x, y], [t, u] =>
      match P.underlying t with
      | some (.slice e) =>
        match P.info? e, zeroOf P e with
        | some i, some z =>
          if i.size = 0 ∨ z.cells.length ≠ i.size then none else
          match P.underlying u with
          | some (.slice _) => (resX x).bind fun a => (resX y).map fun b => .app i.size i.bytes a b
          | some .string => if i.size = 1 then (resX x).bind fun a => (resX y).map fun b => .apps i.bytes a b else none
          | _ => none
        | _, _ => none
      | _ => none
    | _, _ => none
  | .builtin .copy =>
    match c.args.toList, c.argTypes.toList with
    | [x, y], [t, u] =>
      match P.underlying t with
      | some (.slice e) =>
        if szOf P e = some 1 then
          match P.underlying u with
          | some (.slice _) => (resX x).bind fun a => (resX y).map fun b => .cpy a b
          | _ => none
        else none
      | _ => none
    | _, _ => none
  | .builtin .max =>
    match c.args.toList with
    | [x, y] => (resX x).bind fun a => (resX y).map fun b => .mm true a b
    | _ => none
  | .builtin .min =>
    match c.args.toList with
    | [x, y] => (resX x).bind fun a => (resX y).map fun b => .mm false a b
    | _ => none
  | _ => none

def resolve (P : Program) (o : Op) : Option VOp :=
  match o with
  | .move x | .assign x => (resX x).map .mov
  | .pick c a b => (resX c).bind fun c => (resX a).bind fun a => (resX b).map fun b => .pick c a b
  | .alloc e => (zeroOf P e).bind fun z => if z.cells.isEmpty then none else some (.alloc z)
  | .box _ x => (resX x).map .box
  | .build t ps =>
    (zeroOf P t).bind fun z =>
    match P.underlying t with
    | some (.struct fs) => if z.cells.isEmpty then none else (resFields P fs.toList).bind fun pl => (resPartsS pl ps.toList).map fun l => .build z.cells l
    | _ => none
  | .buildSlice t n ps =>
    match P.underlying t with
    | some (.slice e) => (szOf P e).bind fun sz => (zeroOf P e).bind fun z =>
      if sz = 0 ∨ n * sz > 2 ^ 24 ∨ z.cells.length ≠ sz then none else (resPartsA ps.toList).map fun l => .bslice sz n z.cells l
    | _ => none
  | .load t x => (aggOf P t).bind fun g => (resX x).map fun a => .load g a
  | .store t x v => (szOf P t).bind fun n => if n = 0 then none else (resX x).bind fun a => (resX v).map fun b => .store n a b
  | .nilCheck x => (resX x).map .nilck
  | .binOp op t x y _ => (resX x).bind fun a => (resX y).bind fun b => resBin P op t a b
  | .unOp op _ x => (resX x).map fun a => .un op a
  | .convert s d x => (resX x).bind fun a =>
    match P.underlying s, P.underlying d with
    | some (.int _), some (.int k) => some (.cvi k a)
    | some .string, some .string => some (.cvid a)
    | some .string, some (.slice e) => match P.underlying e, szOf P e with
      | some (.int .u8), some _ => some (.cvsb a)
      | _, _ => none
    | some (.slice e), some .string => match P.underlying e with
      | some (.int .u8) => some (.cvbs a)
      | _ => none
    | _, _ => none
  | .makeInterface t x => match P.underlying t with
    | some (.interface _) => none
    | some _ => (resX x).map fun a => .ifc t a
    | none => none
  | .makeFunc (.func f) first caps => if first.isEmpty then (resXs caps.toList).map fun l => .fn f l else none
  | .makeSlice t n c => match P.underlying t with
    | some (.slice e) => match P.info? e, zeroOf P e with
      | some i, some z => if i.size = 0 ∨ z.cells.length ≠ i.size then none else (resX n).bind fun a => (resX c).bind fun b =>
        match a, b with
        | .tmp x, .tmp y => if x = y then some (.mk i.size i.bytes z.cells a) else none
        | .cst (.int .i64 x), .cst (.int .i64 y) => if x = y then some (.mk i.size i.bytes z.cells a) else none
        | _, _ => none
      | _, _ => none
    | _ => none
  | .slice t x lo hi none => (resX x).bind fun a => (resO lo).bind fun l => (resO hi).bind fun h =>
    match P.underlying t with
    | some .string => some (.slstr a l h)
    | some (.slice e) => (szOf P e).map fun sz => .slsl sz a l h
    | _ => none
  | .fieldAddr t x f => match P.underlying t with
    | some (.struct fs) => (fs[f]?).bind fun fd => (szOf P fd.type).bind fun s => if s = 0 then none else (resX x).map fun a => .fld fd.offset a
    | _ => none
  | .field t x f => match P.underlying t with
    | some (.struct fs) => (fs[f]?).bind fun fd => (aggOf P fd.type).bind fun g => (resX x).map fun a => .fldv fd.offset g a
    | _ => none
  | .indexAddr t x i => (resX x).bind fun a => (resX i).bind fun b =>
    match P.underlying t with
    | some (.slice e) => (szOf P e).map fun sz => .ixa sz a b
    | some (.array n e) => (szOf P e).map fun sz => .ixarr n sz a b
    | _ => none
  | .index t x i => (resX x).bind fun a => (resX i).bind fun b =>
    match P.underlying t with
    | some .string => some (.ixs a b)
    | _ => none
  | .extract x i => (resX x).map fun a => .ext a i
  | .call c => resCall P c
  | .makeMap _ none => some .mkm
  | .lookup t x i false => match P.underlying t with
    | some (.map kt et) => match P.underlying kt, zeroOf P et with
      | some .string, some (.bool false) => (resX x).bind fun a => (resX i).map fun b => .mget a b
      | _, _ => none
    | _ => none
  | .mapUpdate t m k v => match P.underlying t with
    | some (.map kt _) => match P.underlying kt with
      | some .string => (resX m).bind fun a => (resX k).bind fun b => (resX v).map fun c => .mset a b c
      | _ => none
    | _ => none
  | _ => none

/-! ### what an operation comes to -/

def rdX (s : Nat → AV) : VX → AV
  | .tmp t => s t
  | .cst a => a

def splice (cs : List AV) (off : Nat) (us : List AV) : List AV := cs.take off ++ us ++ cs.drop (off + us.length)

def ldCells (cs : List AV) (off : Nat) : Option Nat → Option AV
  | none => (cs[off]?).map AV.strip
  | some n => if off + n ≤ cs.length then some (.agg (AV.stripL ((cs.drop off).take n))) else none

def putParts (s : Nat → AV) : List AV → List (Nat × Nat × VX) → Option (List AV)
  | z, [] => some z
  | z, (off, sz, x) :: r =>
    if sz ≠ 0 ∧ (rdX s x).strip.cells.length = sz ∧ off + sz ≤ z.length then putParts s (splice z off (rdX s x).strip.cells) r else none

def putElems (s : Nat → AV) (sz : Nat) : List (List AV) → List (Nat × VX) → Option (List (List AV))
  | z, [] => some z
  | z, (i, x) :: r =>
    if (rdX s x).strip.cells.length = sz ∧ i < z.length ∧ (rdX s x).strip.cells.all AV.one then putElems s sz (z.set i (rdX s x).strip.cells) r else none

def vcmp (op : BinOp) (a b : Int) : Option Bool :=
  match op with
  | .eql => some (a == b)
  | .neq => some (a != b)
  | .lss => some (decide (a < b))
  | .leq => some (decide (a ≤ b))
  | .gtr => some (decide (a > b))
  | .geq => some (decide (a ≥ b))
  | _ => none

def vbits (op : BinOp) (k : IntKind) (x y : Int) : Option Int :=
  match op with
  | .and => some (k.wrap (BitVec.ofInt k.bits x &&& BitVec.ofInt k.bits y).toNat)
  | .or => some (k.wrap (BitVec.ofInt k.bits x ||| BitVec.ofInt k.bits y).toNat)
  | .xor => some (k.wrap (BitVec.ofInt k.bits x ^^^ BitVec.ofInt k.bits y).toNat)
  | .andNot => some (k.wrap (BitVec.ofInt k.bits x &&& ~~~ BitVec.ofInt k.bits y).toNat)
  | _ => none

def vint (op : BinOp) (k : IntKind) (a b : Int) : Option AV :=
  match op with
  | .add => some (.int k (k.wrap (a + b)))
  | .sub => some (.int k (k.wrap (a - b)))
  | .mul => some (.int k (k.wrap (a * b)))
  | .quo => if b = 0 then none else some (.int k (k.wrap (a.tdiv b)))
  | .rem => if b = 0 then none else some (.int k (a.tmod b))
  | .and | .or | .xor | .andNot => (vbits op k a b).map (.int k)
  | .shl | .shr => none
  | op => (vcmp op a b).map .bool

def vstr (op : BinOp) (x y : ByteArray) : Option AV :=
  match op with
  | .add => if x.size + y.size ≤ 9223372036854775807 then some (.str (x ++ y)) else none
  | .eql => some (.bool (x.toList == y.toList))
  | .neq => some (.bool !(x.toList == y.toList))
  | .lss => some (.bool (Op.bytesLess x.toList y.toList))
  | .leq => some (.bool (Op.bytesLess x.toList y.toList || x.toList == y.toList))
  | .gtr => some (.bool !(Op.bytesLess x.toList y.toList || x.toList == y.toList))
  | .geq => some (.bool !(Op.bytesLess x.toList y.toList))
  | _ => none

def vbin (op : BinOp) (x y : AV) : Option AV :=
  match x, y with
  | .int k a, .int k' b =>
    match op with
    | .shl => if b < 0 then none else some (.int k (k.wrap (a * 2 ^ min b.toNat k.bits)))
    | .shr => if b < 0 then none else some (.int k (a.fdiv (2 ^ min b.toNat k.bits)))
    | op => if k = k' then vint op k a b else none
  | .str a, .str b => vstr op a b
  | _, _ => none

/-- '==' where the second is nil. -/
def veqn (k : EK) (x y : AV) : Option Bool :=
  match k with
  | .slice => match y with
    | .sl _ (some true) _ _ => match x with
      | .sl _ (some a) _ _ => some a
      | _ => none
    | _ => none
  | .ptr => match y with
    | .ptr none => match x with
      | .ptr none => some true
      | .ptr (some _) => some false
      | .rptr _ => some false
      | _ => none
    | _ => none
  | .iface => match y with
    | .niliface => match x with
      | .iface _ _ => some false
      | .niliface => some true
      | _ => none
    | _ => none
  | .func => match y with
    | .nilfunc => match x with
      | .func _ _ => some false
      | .nilfunc => some true
      | _ => none
    | _ => none

def isCst : VX → Bool
  | .cst _ => true
  | _ => false

def veqs : List PK → List AV → List AV → Option Bool
  | [], [], [] => some true
  | .bool :: p, .bool a :: xs, .bool b :: ys => (veqs p xs ys).map fun r => (a == b) && r
  | .int k :: p, .int k1 a :: xs, .int k2 b :: ys => if k1 = k ∧ k2 = k then (veqs p xs ys).map fun r => (a == b) && r else none
  | .str :: p, .str a :: xs, .str b :: ys => (veqs p xs ys).map fun r => (a.toList == b.toList) && r
  | _, _, _ => none

def bytesAV (s : ByteArray) : List (List AV) := s.data.toList.map fun b => [.int .u8 b.toNat]

def toBytes : List (List AV) → Option (List UInt8)
  | [] => some []
  | [.int .u8 n] :: r => (toBytes r).map fun l => UInt8.ofNat n.toNat :: l
  | _ => none

/-- Texts' flags: what is found of this one. -/
def mfind (c : ByteArray) : List AV → List AV → Option (Option Bool)
  | [], [] => some none
  | .str d :: ks, .bool b :: xs => if c == d then some (some b) else mfind c ks xs
  | _, _ => none

def vlow (s : Nat → AV) : Option VX → Option Int
  | none => some 0
  | some x => match rdX s x with | .int _ n => some n | _ => none
def vhigh (s : Nat → AV) (n : Nat) : Option VX → Option Int
  | none => some n
  | some x => match rdX s x with | .int _ m => some m | _ => none

/-- fl: does ownership go along (at a move). id: the number of a new box. What the operation yields, and the box that it makes or writes. -/
def ev (fl : Bool) (s : Nat → AV) (bx : Nat → Option HObj) (id : Nat) (op : VOp) : Option (AV × Option (Nat × HObj)) :=
  match op with
  | .mov x => some (if fl then rdX s x else (rdX s x).strip, none)
  | .pick c a b => match rdX s c with
    | .bool t => match rdX s a, rdX s b with
      | .bool p, .bool q => some (.bool (if t then p else q), none)
      | p, q => some (if t then p.strip else q.strip, none)
    | _ => none
  | .alloc z => some (.ptr (some (id, 0)), some (id, .cells z.cells))
  | .box x => if (rdX s x).cells.isEmpty then none else some (.ptr (some (id, 0)), some (id, .cells (rdX s x).cells))
  | .build z ps => (putParts s z ps).map fun l => (.agg l, none)
  | .bslice sz len z ps => if z.all AV.one then (putElems s sz (List.replicate len z) ps).map fun l => (.sl sz (some false) true l, none) else none
  | .load g x => match rdX s x with
    | .ptr (some (i, off)) => match bx i with
      | some (.cells cs) => (ldCells cs off g).map fun a => (a, none)
      | some (.arr _ xs) => (ldCells xs.flatten off g).map fun a => (a, none)
      | some (.ro cs) => (ldCells cs off g).map fun a => (a, none)
      | _ => none
    | .rptr cs => (ldCells cs 0 g).map fun a => (a, none)
    | _ => none
  | .store n x v => match rdX s x with
    | .ptr (some (i, off)) => match bx i with
      | some (.cells cs) =>
        if (rdX s v).cells.length = n ∧ off + n ≤ cs.length ∧ (rdX s v).cells.all AV.one then some (.undef, some (i, .cells (splice cs off (rdX s v).cells))) else none
      | some (.arr sz xs) =>
        if (rdX s v).strip.cells.length = n ∧ off % sz + n ≤ sz ∧ (rdX s v).strip.cells.all AV.one then (xs[off / sz]?).map fun c => (.undef, some (i, .arr sz (xs.set (off / sz) (splice c (off % sz) (rdX s v).strip.cells)))) else none
      | _ => none
    | _ => none
  | .nilck x => match rdX s x with
    | .ptr (some p) => some (.ptr (some p), none)
    | .rptr cs => some (.rptr cs, none)
    | .func f l => some (.func f l, none)
    | _ => none
  | .bin op x y => (vbin op (rdX s x) (rdX s y)).map fun a => (a, none)
  | .eqn k neq x y => if isCst y then (veqn k (rdX s x) (rdX s y)).map fun b => (.bool (if neq then !b else b), none) else none
  | .eqv neq plan x y => match rdX s x, rdX s y with
    | .agg xs, .agg ys => (veqs plan xs ys).map fun b => (.bool (if neq then !b else b), none)
    | _, _ => none
  | .un op x => match op, rdX s x with
    | .not, .bool b => some (.bool !b, none)
    | .neg, .int k n => some (.int k (k.wrap (0 - n)), none)
    | _, _ => none
  | .cvi k x => match rdX s x with
    | .int _ n => some (.int k (k.wrap n), none)
    | _ => none
  | .cvsb x => match rdX s x with
    | .str b => some (.sl 1 (some false) false (bytesAV b), none)
    | _ => none
  | .cvbs x => match rdX s x with
    | .sl _ _ _ xs => (toBytes xs).map fun l => (.str ⟨l.toArray⟩, none)
    | _ => none
  | .cvid x => match rdX s x with
    | .str b => some (.str b, none)
    | _ => none
  | .ifc t x => some (.iface t (rdX s x).strip, none)
  | .fn f caps => some (.func f (caps.map fun x => (rdX s x).strip), none)
  | .slstr x lo hi => match rdX s x with
    | .str b => match vlow s lo, vhigh s b.size hi with
      | some l, some h => if 0 ≤ l ∧ l ≤ h ∧ h ≤ b.size then some (.str (b.extract l.toNat h.toNat), none) else none
      | _, _ => none
    | _ => none
  | .slsl sz x lo hi => match rdX s x with
    | .sl sz' nl _ xs => match vlow s lo, vhigh s xs.length hi with
      | some l, some h => if (sz' = sz ∨ xs.length = 0) ∧ 0 ≤ l ∧ l ≤ h ∧ h ≤ xs.length then some (.sl sz nl false ((xs.drop l.toNat).take (h.toNat - l.toNat)), none) else none
      | _, _ => none
    | .bsl sz' b o n => match vlow s lo, vhigh s n hi with
      | some l, some h => if sz' = sz ∧ 0 ≤ l ∧ l ≤ h ∧ h ≤ n then
          match fl with
          | true => match bx b with
            | some (.arr sz2 xs) => if sz2 = sz ∧ o + n ≤ xs.length then some (.sl sz (some false) false ((xs.drop (o + l.toNat)).take (h.toNat - l.toNat)), some (b, .ro xs.flatten)) else none
            | _ => none
          | false => some (.bsl sz b (o + l.toNat) (h.toNat - l.toNat), none)
        else none
      | _, _ => none
    | _ => none
  | .fld off x => match rdX s x with
    | .ptr (some (i, o)) => some (.ptr (some (i, o + off)), none)
    | .rptr cs => some (.rptr (cs.drop off), none)
    | _ => none
  | .fldv off g x => match rdX s x with
    | .agg cs => (ldCells cs off g).map fun a => (a, none)
    | _ => none
  | .ixa sz x i => match rdX s x, rdX s i with
    | .sl sz' _ _ xs, .int _ n => if sz' = sz ∧ 0 ≤ n then (xs[n.toNat]?).map fun c => (.rptr c, none) else none
    | .bsl sz' b o m, .int _ n => if sz' = sz ∧ 0 ≤ n ∧ n < m then some (.ptr (some (b, (o + n.toNat) * sz)), none) else none
    | _, _ => none
  | .ixarr n sz x i => match rdX s x, rdX s i with
    | .ptr (some (b, o)), .int _ j => if 0 ≤ j ∧ j < n then some (.ptr (some (b, o + j.toNat * sz)), none) else none
    | _, _ => none
  | .ixs x i => match rdX s x, rdX s i with
    | .str b, .int _ n => if 0 ≤ n then (b.data[n.toNat]?).map fun c => (.int .u8 c.toNat, none) else none
    | _, _ => none
  | .ext x i => match rdX s x with
    | .tup vs => (vs[i]?).map fun a => (a.strip, none)
    | _ => none
  | .call _ _ => none
  | .lens x => match rdX s x with
    | .str b => some (.int .i64 b.size, none)
    | _ => none
  | .lenl x => match rdX s x with
    | .sl _ _ _ xs => some (.int .i64 xs.length, none)
    | .bsl _ _ _ n => some (.int .i64 n, none)
    | _ => none
  | .app sz bytes x y => match rdX s x with
    | .sl sz' nl own xs =>
      if (own = true ∧ sz' = sz) ∨ (nl = some true ∧ xs.length = 0) then
        match rdX s y with
        | .sl sz2 _ _ ys => if (sz2 = sz ∨ ys.length = 0) ∧ (xs.length + ys.length) * bytes ≤ 140737488355328 ∧ xs.length + ys.length ≤ 140737488355328 then some (.sl sz (if nl = some false then some false else none) true (xs ++ ys), none) else none
        | _ => none
      else none
    | _ => none
  | .apps bytes x y => match rdX s x with
    | .sl sz' nl own xs =>
      if (own = true ∧ sz' = 1) ∨ (nl = some true ∧ xs.length = 0) then
        match rdX s y with
        | .str b => if (xs.length + b.size) * bytes ≤ 140737488355328 ∧ xs.length + b.size ≤ 140737488355328 then some (.sl 1 (if nl = some false then some false else none) true (xs ++ bytesAV b), none) else none
        | _ => none
      else none
    | _ => none
  | .mk sz bytes z n => match rdX s n with
    | .int .i64 k => if 0 ≤ k ∧ k * bytes ≤ 140737488355328 ∧ k ≤ 140737488355328 ∧ z.all AV.one then (match fl with
      | true => some (.bsl sz id 0 k.toNat, some (id, .arr sz (List.replicate k.toNat z)))
      | false => some (.sl sz (some false) true (List.replicate k.toNat z), none)) else none
    | _ => none
  | .eqb neq x y => match rdX s x, rdX s y with
    | .bool a, .bool b => some (.bool (if neq then !(a == b) else a == b), none)
    | _, _ => none
  | .mm mx x y => match rdX s x, rdX s y with
    | .int k a, .int _ b => some (.int k (if mx then (if b > a then b else a) else (if b < a then b else a)), none)
    | _, _ => none
  | .cpy x y => match rdX s x, rdX s y with
    | .bsl sz b o n, .sl sz' _ _ ys => match bx b with
      | some (.arr sz2 xs) => if sz = 1 ∧ sz2 = 1 ∧ (sz' = 1 ∨ ys.length = 0) ∧ o + n ≤ xs.length then
          some (.int .i64 (min ys.length n : Nat), some (b, .arr 1 (xs.take o ++ (ys.take n ++ xs.drop (o + min ys.length n))))) else none
      | _ => none
    | _, _ => none
  | .mkm => some (.mp id, some (id, .map [] []))
  | .mget x k => match rdX s x with
    | .mp i => match bx i with
      | some (.map ks xs) => match rdX s k with
        | .str c => (mfind c ks xs).map fun r => (.bool (r.getD false), none)
        | _ => none
      | _ => none
    | _ => none
  | .mset x k v => match rdX s x with
    | .mp i => match bx i with
      | some (.map ks xs) => match rdX s k, rdX s v with
        | .str c, .bool b => match mfind c ks xs with
          | some none => some (.undef, some (i, .map (ks ++ [.str c]) (xs ++ [.bool b])))
          | _ => none
        | _, _ => none
      | _ => none
    | _ => none
  | .bad => none

/-- Does it make a box? -/
def VOp.isAlloc : VOp → Bool
  | .alloc _ | .box _ | .mk _ _ _ _ | .mkm => true
  | _ => false

/-- The slots from which ownership goes. -/
def takes (fl : Bool) : VOp → List Nat
  | .mov (.tmp t) => if fl then [t] else []
  | .box (.tmp t) => [t]
  | .store _ _ (.tmp t) => [t]
  | .app _ _ (.tmp t) _ => [t]
  | .apps _ (.tmp t) _ => [t]
  | _ => []

end Go.Proofs.YtmjdoonaidolkaaDoor.V

/- A small logic of values over the model, part 5: what an operation comes to, it comes to in every world that holds the state. -/
namespace Go.Proofs.YtmjdoonaidolkaaDoor.V

theorem avOf1_rep {w : World} {fr pi : Nat → Nat} {ok : Nat → Prop} {v : Value} {a : AV} (h : avOf1 v = some a) : Rep w fr pi a v [] ∧ NP ok a := by
  unfold avOf1 at h
  split at h <;> cases h
  · exact ⟨.bool _, .bool _⟩
  · exact ⟨.int _ _, .int _ _⟩
  · exact ⟨.str _, .str _⟩
  · exact ⟨.ptrnil, .ptrnil⟩
  · exact ⟨.slnil _ _ _ (by simp), .sl _ _ _ _ (by simp)⟩
  · exact ⟨.niliface, .niliface⟩
  · exact ⟨.nilfunc, .nilfunc⟩

theorem avOfL_rep {w : World} {fr pi : Nat → Nat} {ok : Nat → Prop} : ∀ {vs : List Value} {as : List AV}, avOfL vs = some as → Reps w fr pi as vs [] ∧ ∀ a, a ∈ as → NP ok a
  | [], as, h => by
    cases h
    exact ⟨.nil, by simp⟩
  | v :: vs, as, h => by
    simp only [avOfL, Option.bind_eq_some_iff, Option.map_eq_some_iff] at h
    obtain ⟨a, h1, r, h2, rfl⟩ := h
    obtain ⟨x1, x2⟩ := avOf1_rep (w := w) (fr := fr) (pi := pi) (ok := ok) h1
    obtain ⟨y1, y2⟩ := avOfL_rep h2
    refine ⟨by simpa using Reps.cons _ _ _ _ _ _ x1 y1, fun b hb => ?_⟩
    rcases List.mem_cons.1 hb with rfl | hb
    · exact x2
    · exact y2 b hb

theorem avOf_rep {w : World} {fr pi : Nat → Nat} {ok : Nat → Prop} {v : Value} {a : AV} (h : avOf v = some a) : Rep w fr pi a v [] ∧ NP ok a := by
  unfold avOf at h
  split at h
  · rename_i cs
    simp only [Option.map_eq_some_iff] at h
    obtain ⟨l, h1, rfl⟩ := h
    obtain ⟨y1, y2⟩ := avOfL_rep (w := w) (fr := fr) (pi := pi) (ok := ok) h1
    exact ⟨by simpa using Rep.agg _ _ _ y1, .agg _ y2⟩
  · exact avOf1_rep h

/-- An operand, and what it owns. -/
theorem opnd {w : World} {fr pi : Nat → Nat} {own : Res → List Nat} {s : FS} {a : Act} (h : Rel w fr pi own s a.tmps) {x : Operand} {vx : VX} (hx : resX x = some vx) :
    ∃ O, Rep w fr pi (rdX s.sl vx) (a.eval x) O ∧ NP s.has (rdX s.sl vx) ∧ O.Nodup ∧ ∀ b, b ∈ O → ∃ t, vx = .tmp t ∧ b ∈ own (.slot t) := by
  cases x with
  | tmp t =>
    simp only [resX] at hx
    cases hx
    exact ⟨_, h.slot t, h.slotnp t, h.nd _, fun b hb => ⟨t, rfl, hb⟩⟩
  | const v =>
    simp only [resX, Option.map_eq_some_iff] at hx
    obtain ⟨c, h1, rfl⟩ := hx
    obtain ⟨y1, y2⟩ := avOf_rep (w := w) (fr := fr) (pi := pi) (ok := s.has) h1
    exact ⟨[], y1, y2, by simp, by simp⟩
  | global g => simp [resX] at hx
  | func f =>
    simp only [resX] at hx
    cases hx
    exact ⟨[], by simpa [Act.eval, rdX] using Rep.func (w := w) (fr := fr) (pi := pi) f [] [] .nil, .func _ _ (by simp), by simp, by simp⟩

theorem opnd0 {w : World} {fr pi : Nat → Nat} {own : Res → List Nat} {s : FS} {a : Act} (h : Rel w fr pi own s a.tmps) {x : Operand} {vx : VX} (hx : resX x = some vx) :
    Rep w fr pi (rdX s.sl vx).strip (a.eval x) [] ∧ NP s.has (rdX s.sl vx).strip := by
  obtain ⟨O, h1, h2, _⟩ := opnd h hx
  exact ⟨h1.strip, h2.strip⟩

section
variable {w : World} {fr pi : Nat → Nat} {v : Value} {O : List Nat}
theorem Rep.bool_inv {b : Bool} (h : Rep w fr pi (.bool b) v O) : v = .bool b := by cases h; rfl
theorem Rep.int_inv {k : IntKind} {n : Int} (h : Rep w fr pi (.int k n) v O) : v = .int k n := by cases h; rfl
theorem Rep.str_inv {s : ByteArray} (h : Rep w fr pi (.str s) v O) : v = .string s := by cases h; rfl
theorem Rep.niliface_inv (h : Rep w fr pi .niliface v O) : v = .nilIface := by cases h; rfl
theorem Rep.nilfunc_inv (h : Rep w fr pi .nilfunc v O) : v = .nilFunc := by cases h; rfl
theorem Rep.ptrnil_inv (h : Rep w fr pi (.ptr none) v O) : v = .pointer none := by cases h; rfl
theorem Rep.ptr_inv {i off : Nat} (h : Rep w fr pi (.ptr (some (i, off))) v O) : v = .pointer (some ⟨pi i, off, none⟩) ∧ O = [] := by cases h; exact ⟨rfl, rfl⟩
theorem Rep.mp_inv {i : Nat} (h : Rep w fr pi (.mp i) v O) : v = .map (some (pi i)) ∧ O = [] := by cases h; exact ⟨rfl, rfl⟩
theorem Rep.rptr_inv {cs : List AV} (h : Rep w fr pi (.rptr cs) v O) : ∃ b o vs, v = .pointer (some ⟨b, o, none⟩) ∧ Reps w fr pi cs vs [] ∧ CellsAt w fr b o vs ∧ O = [] := by
  cases h with
  | rptr _ b o vs h1 h2 => exact ⟨b, o, vs, rfl, h1, h2, rfl⟩
theorem Rep.func_inv {f : Nat} {l : List AV} (h : Rep w fr pi (.func f l) v O) : ∃ vs, v = .func (.func f) #[] vs.toArray ∧ Reps w fr pi l vs [] := by
  cases h with
  | func _ _ vs h1 => exact ⟨vs, rfl, h1⟩
theorem Rep.iface_inv {t : Nat} {x : AV} (h : Rep w fr pi (.iface t x) v O) : ∃ u, v = .iface t u ∧ Rep w fr pi x u [] := by
  cases h with
  | iface _ _ u h1 => exact ⟨u, rfl, h1⟩
theorem Rep.agg_inv {cs : List AV} (h : Rep w fr pi (.agg cs) v O) : ∃ vs, v = .agg vs.toArray ∧ Reps w fr pi cs vs O := by
  cases h with
  | agg _ vs _ h1 => exact ⟨vs, rfl, h1⟩
theorem Rep.tup_inv {cs : List AV} (h : Rep w fr pi (.tup cs) v O) : ∃ vs, v = .tuple vs.toArray ∧ Reps w fr pi cs vs O := by
  cases h with
  | tup _ vs _ h1 => exact ⟨vs, rfl, h1⟩
/-- A slice, owned or not, read alone. -/
theorem Rep.sl_inv {sz : Nat} {nl : Option Bool} {own : Bool} {xs : List (List AV)} (h : Rep w fr pi (.sl sz nl own xs) v O) :
    (v = .slice none 0 0 ∧ xs = [] ∧ nl ≠ some false ∧ O = []) ∨ (∃ ad cap, v = .slice (some ad) 0 cap ∧ xs = [] ∧ nl ≠ some true ∧ O = [] ∧ own = false) ∨
    ∃ b o cap vs, v = .slice (some ⟨b, o, none⟩) xs.length cap ∧ nl ≠ some true ∧ (∀ x, x ∈ xs → x.length = sz) ∧ Reps w fr pi xs.flatten vs [] ∧ CellsAt w fr b o vs ∧ xs.length ≤ cap ∧
      ((own = false ∧ O = []) ∨ (own = true ∧ O = [b] ∧ Spare w fr b (o + xs.length * sz) (o + cap * sz) ∧ o = 0)) := by
  cases h with
  | slnil _ _ _ h0 => exact .inl ⟨rfl, rfl, h0, rfl⟩
  | slempty _ _ ad cap h0 => exact .inr (.inl ⟨ad, cap, rfl, rfl, h0, rfl, rfl⟩)
  | sl _ _ _ b o cap vs h0 h1 h2 h3 h4 => exact .inr (.inr ⟨b, o, cap, vs, rfl, h0, h1, h2, h3, h4, .inl ⟨rfl, rfl⟩⟩)
  | slown _ _ _ b o cap vs h0 h1 h2 h3 h4 h5 => exact .inr (.inr ⟨b, o, cap, vs, rfl, h0, h1, h2, h3, h4, .inr ⟨rfl, rfl, h5⟩⟩)
end

def FS.putO (s : FS) : Option Nat → AV → FS
  | none, _ => s
  | some d, x => s.put d x

def FS.bw (s : FS) : Option (Nat × HObj) → FS
  | none => s
  | some (i, o) => { s with bx := upd s.bx i (some o) }

/-- The state behind an operation. -/
def FS.after (s : FS) (T : List Nat) (dst : Option Nat) (x : AV) (b : Option (Nat × HObj)) : FS := ((s.strip T).bw b).putO dst x

/-- The operation runs, and comes to the state s'. -/
def Good (P : Program) (o : Oper) (a : Act) (w : World) (fr pi : Nat → Nat) (own : Res → List Nat) (ok : Nat → Prop) (s' : FS) : Prop :=
  ∃ nx v w' fr' pi' own', (execOp a.eval o).run P w = .ok nx w' ∧ (nx = .value v ∨ (nx = .skip ∧ v = Go.undef)) ∧ Rel w' fr' pi' own' s' (a.put o.dst v).tmps ∧ Ext w w' fr fr' pi pi' own own' ok

theorem put_tmps (a : Act) (d : Option Nat) (v : Value) : (a.put d v).tmps = match d with | some d => a.tmps.setIfInBounds d v | none => a.tmps := by
  cases d <;> rfl

/-- A value is laid into the operation's slot. -/
theorem Rel.putO {w : World} {fr pi : Nat → Nat} {own : Res → List Nat} {s : FS} {a : Act} (h : Rel w fr pi own s a.tmps) {d : Option Nat} {x : AV} {v : Value} {O : List Nat} (hd : ∀ t, d = some t → t < a.tmps.size)
    (hx : Rep w fr pi x v O) (hn : NP s.has x) (hnd : O.Nodup) (hl : ∀ b, b ∈ O → b < w.heap.size) (ho : ∀ b, b ∈ O → ∀ r, b ∉ own r) :
    ∃ own', Rel w fr pi own' (s.putO d x) (a.put d v).tmps ∧ ∀ r b, b ∈ own' r → (∃ r', b ∈ own r') ∨ b ∈ O := by
  cases d with
  | none => exact ⟨own, h, fun r b hb => .inl ⟨r, hb⟩⟩
  | some t =>
    refine ⟨_, h.put (hd t rfl) hx hn hnd hl (fun b hb r hr => absurd hr (ho b hb r)), fun r b hb => ?_⟩
    by_cases hr : r = .slot t
    · subst hr; rw [upd_same] at hb; exact .inr hb
    · rw [upd_ne _ _ hr] at hb; exact .inl ⟨r, hb⟩

theorem FS.strip_nil (s : FS) : s.strip [] = s := by
  unfold FS.strip
  simp

theorem Good.pure {P : Program} {o : Oper} {a : Act} {w : World} {fr pi : Nat → Nat} {own : Res → List Nat} {s : FS} (h : Rel w fr pi own s a.tmps) (hd : ∀ t, o.dst = some t → t < a.tmps.size) {v : Value} {x : AV}
    (hrun : (execOp a.eval o).run P w = .ok (.value v) w) (hx : Rep w fr pi x v []) (hn : NP s.has x) : Good P o a w fr pi own s.has (s.after [] o.dst x none) := by
  obtain ⟨own', h1, h2⟩ := h.putO hd hx hn (by simp) (by simp) (by simp)
  refine ⟨_, v, w, fr, pi, own', hrun, .inl rfl, ?_, Ext.own fun r b hb => ?_⟩
  · unfold FS.after
    rw [FS.strip_nil]
    exact h1
  · rcases h2 r b hb with h3 | h3
    · exact h3
    · simp at h3

/-- Ownership goes along. -/
theorem Good.moved {P : Program} {o : Oper} {a : Act} {w : World} {fr pi : Nat → Nat} {own : Res → List Nat} {s : FS} (h : Rel w fr pi own s a.tmps) (hd : ∀ t, o.dst = some t → t < a.tmps.size) {v : Value} {x : AV} {O : List Nat} (t : Nat)
    (hrun : (execOp a.eval o).run P w = .ok (.value v) w) (hx : Rep w fr pi x v O) (hn : NP s.has x) (hnd : O.Nodup) (hO : ∀ b, b ∈ O → b ∈ own (.slot t)) : Good P o a w fr pi own s.has (s.after [t] o.dst x none) := by
  obtain ⟨own', h1, h2⟩ := (h.strip [t]).putO hd hx hn hnd (fun b hb => h.live _ _ (hO b hb)) (fun b hb r hr => by
    have := h.dj r (.slot t) b (ownStrip_sub hr) (hO b hb)
    subst this
    simp [ownStrip] at hr)
  refine ⟨_, v, w, fr, pi, own', hrun, .inl rfl, h1, Ext.own fun r b hb => ?_⟩
  rcases h2 r b hb with ⟨r', h3⟩ | h3
  · exact ⟨r', ownStrip_sub h3⟩
  · exact ⟨_, hO b h3⟩

section
variable {P : Program} {o : Oper} {a : Act} {w : World} {fr pi : Nat → Nat} {own : Res → List Nat} {s : FS} (h : Rel w fr pi own s a.tmps) (hd : ∀ t, o.dst = some t → t < a.tmps.size)
include h hd

theorem good_mov {x : Operand} {vx : VX} (ho : o.op = .move x ∨ o.op = .assign x) (hx : resX x = some vx) (fl : Bool) :
    Good P o a w fr pi own s.has (s.after (takes fl (.mov vx)) o.dst (if fl then rdX s.sl vx else (rdX s.sl vx).strip) none) := by
  have hrun : (execOp a.eval o).run P w = .ok (.value (a.eval x)) w := by
    rcases ho with ho | ho <;> simp [execOp, ho]
  cases fl with
  | false =>
    obtain ⟨h1, h2⟩ := opnd0 h hx
    have : takes false (.mov vx) = [] := by cases vx <;> rfl
    rw [this]
    exact Good.pure h hd hrun h1 h2
  | true =>
    obtain ⟨O, h1, h2, h3, h4⟩ := opnd h hx
    cases vx with
    | tmp t =>
      exact Good.moved h hd t hrun h1 h2 h3 (fun b hb => by obtain ⟨t', e, hb'⟩ := h4 b hb; cases e; exact hb')
    | cst c =>
      have hO : O = [] := by
        cases O with
        | nil => rfl
        | cons b r => obtain ⟨t, e, _⟩ := h4 b (by simp); cases e
      subst hO
      exact Good.pure h hd hrun h1 h2

theorem good_pick {c x y : Operand} {vc vx vy : VX} (ho : o.op = .pick c x y) (hc : resX c = some vc) (hx : resX x = some vx) (hy : resX y = some vy) {z : AV} {b : Option (Nat × HObj)} {fl : Bool} {id : Nat}
    (he : ev fl s.sl s.bx id (.pick vc vx vy) = some (z, b)) : Good P o a w fr pi own s.has (s.after [] o.dst z b) := by
  obtain ⟨O, h1, _⟩ := opnd h hc
  obtain ⟨hx1, hx2⟩ := opnd0 h hx
  obtain ⟨hy1, hy2⟩ := opnd0 h hy
  simp only [ev] at he
  split at he <;> try (cases he; done)
  rename_i t ht
  rw [ht] at h1
  have hcv : a.eval c = .bool t := h1.bool_inv
  have hrun : (execOp a.eval o).run P w = .ok (.value (if t then a.eval x else a.eval y)) w := by
    simp [execOp, ho, hcv, asBool]
  split at he
  · rename_i p q hp hq
    cases he
    refine Good.pure h hd hrun ?_ (.bool _)
    rw [hp] at hx1
    rw [hq] at hy1
    have e1 : a.eval x = .bool p := hx1.bool_inv
    have e2 : a.eval y = .bool q := hy1.bool_inv
    rw [e1, e2]
    cases t <;> exact .bool _
  · cases he
    refine Good.pure h hd hrun ?_ ?_
    · cases t
      · exact hy1
      · exact hx1
    · cases t
      · exact hy2
      · exact hx2

end
end Go.Proofs.YtmjdoonaidolkaaDoor.V

/- A small logic of values over the model, part 6: boxes, structs, slices that are written out, loads and stores. -/
namespace Go.Proofs.YtmjdoonaidolkaaDoor.V

theorem cells_rep {w : World} {fr pi : Nat → Nat} {x : AV} {v : Value} {O : List Nat} (h : Rep w fr pi x v O) (hne : x.cells ≠ []) : Reps w fr pi x.cells v.cells.toList O := by
  have one : ∀ {x : AV} {v : Value} {O : List Nat}, Rep w fr pi x v O → Reps w fr pi [x] [v] O := fun h => by simpa using Reps.cons _ _ _ _ _ _ h Reps.nil
  cases h with
  | undef v => simp [AV.cells] at hne
  | agg cs vs O h => simpa [AV.cells, Value.cells] using h
  | bool b => exact one (.bool b)
  | int k n => exact one (.int k n)
  | str s => exact one (.str s)
  | niliface => exact one .niliface
  | nilfunc => exact one .nilfunc
  | ptrnil => exact one .ptrnil
  | ptr id off => exact one (.ptr id off)
  | rptr cs b o vs h1 h2 => exact one (.rptr cs b o vs h1 h2)
  | func f cap vs h1 => exact one (.func f cap vs h1)
  | iface t a v h1 => exact one (.iface t a v h1)
  | tup cs vs O h => exact one (.tup cs vs O h)
  | slnil sz nl own h => exact one (.slnil sz nl own h)
  | slempty sz nl ad cap h => exact one (.slempty sz nl ad cap h)
  | bsl sz id off len cap hc hr => exact one (.bsl sz id off len cap hc hr)
  | xsl sz xs b cap vs ju e h0 h1 h2 h3 h4 h5 h6 => exact one (.xsl sz xs b cap vs ju e h0 h1 h2 h3 h4 h5 h6)
  | fsl sz xs b o vs h0 h1 h2 => exact one (.fsl sz xs b o vs h0 h1 h2)
  | mp id => exact one (.mp id)
  | bsl0 sz id off cap ad => exact one (.bsl0 sz id off cap ad)
  | sl sz nl xs b o cap vs h0 h1 h2 h3 h4 => exact one (.sl sz nl xs b o cap vs h0 h1 h2 h3 h4)
  | slown sz nl xs b o cap vs h0 h1 h2 h3 h4 h5 => exact one (.slown sz nl xs b o cap vs h0 h1 h2 h3 h4 h5)

theorem NP.cells {ok : Nat → Prop} {x : AV} (h : NP ok x) : ∀ a, a ∈ x.cells → NP ok a := by
  intro a ha
  cases h with
  | agg cs h => exact h a ha
  | undef => simp [AV.cells] at ha
  | bool b => simp [AV.cells] at ha; subst ha; exact .bool b
  | int k n => simp [AV.cells] at ha; subst ha; exact .int k n
  | str s => simp [AV.cells] at ha; subst ha; exact .str s
  | niliface => simp [AV.cells] at ha; subst ha; exact .niliface
  | nilfunc => simp [AV.cells] at ha; subst ha; exact .nilfunc
  | ptrnil => simp [AV.cells] at ha; subst ha; exact .ptrnil
  | ptr i o h => simp [AV.cells] at ha; subst ha; exact .ptr i o h
  | rptr cs h => simp [AV.cells] at ha; subst ha; exact .rptr cs h
  | func f cs h => simp [AV.cells] at ha; subst ha; exact .func f cs h
  | iface t a h => simp [AV.cells] at ha; subst ha; exact .iface t _ h
  | tup cs h => simp [AV.cells] at ha; subst ha; exact .tup cs h
  | sl sz nl own xs h => simp [AV.cells] at ha; subst ha; exact .sl sz nl own xs h
  | bsl sz id off len h => simp [AV.cells] at ha; subst ha; exact .bsl sz id off len h
  | xsl sz xs h => simp [AV.cells] at ha; subst ha; exact .xsl sz xs h
  | fsl sz xs h => simp [AV.cells] at ha; subst ha; exact .fsl sz xs h
  | mp id h => simp [AV.cells] at ha; subst ha; exact .mp id h

theorem flat1 : ∀ {xs : List (List AV)}, (∀ x, x ∈ xs → x.length = 1) → xs.flatten = xs.map (fun x => x.headD .undef)
  | [], _ => rfl
  | x :: r, h => by
    rw [List.flatten_cons, flat1 (fun y hy => h y (by simp [hy])), List.map_cons]
    match x, h x (by simp) with
    | [a], _ => rfl

theorem flat1_len {xs : List (List AV)} (h : ∀ x, x ∈ xs → x.length = 1) : xs.flatten.length = xs.length := by
  rw [flat1 h, List.length_map]

/-- A box is made of what nobody owns, or what went along. -/
theorem Good.boxed {P : Program} {o : Oper} {a : Act} {w : World} {fr pi : Nat → Nat} {own : Res → List Nat} {s : FS} (h : Rel w fr pi own s a.tmps) (hd : ∀ t, o.dst = some t → t < a.tmps.size) (T : List Nat) {id : Nat} (hid : s.bx id = none)
    {cs : List AV} {vs : List Value} {O : List Nat} {e : TypeId} (hrun : (execOp a.eval o).run P w = .ok (.value (.pointer (some ⟨w.heap.size, 0, none⟩))) (w.alloc (.cells vs.toArray e)))
    (hx : Reps w fr pi cs vs O) (hn : ∀ a, a ∈ cs → NP s.has a) (hnd : O.Nodup) (hO : ∀ b, b ∈ O → ∃ t, t ∈ T ∧ b ∈ own (.slot t)) :
    Good P o a w fr pi own s.has (s.after T o.dst (.ptr (some (id, 0))) (some (id, .cells cs))) := by
  have hs := h.strip T
  have h1 := hs.alloc (id := id) hid e hx hn hnd (fun b hb => by obtain ⟨t, _, ht⟩ := hO b hb; exact h.live _ _ ht) (fun b hb r hr => by
    obtain ⟨t, hT, ht⟩ := hO b hb
    have := h.dj r (.slot t) b (ownStrip_sub hr) ht
    subst this
    simp [ownStrip, hT] at hr)
  have hp : Rep (w.alloc (.cells vs.toArray e)) (upd fr w.heap.size 0) (upd pi id w.heap.size) (.ptr (some (id, 0))) (.pointer (some ⟨w.heap.size, 0, none⟩)) [] := by
    have := Rep.ptr (w := w.alloc (.cells vs.toArray e)) (fr := upd fr w.heap.size 0) (pi := upd pi id w.heap.size) id 0
    rwa [upd_same] at this
  obtain ⟨own', h2, h3⟩ := h1.putO (d := o.dst) hd hp (.ptr _ _ ⟨_, upd_same _ _ _⟩) (by simp) (by simp) (by simp)
  refine ⟨_, _, _, _, _, own', hrun, .inl rfl, h2, ⟨(Step.alloc w fr _ 0).mono (fun _ _ h => h.elim), fun r b hb => ?_, fun i ⟨o', hi⟩ => upd_ne _ _ (fun e => by subst e; simp [hid] at hi)⟩⟩
  rcases h3 r b hb with ⟨r', h4⟩ | h4
  · by_cases hr : r' = .box id
    · subst hr
      rw [upd_same] at h4
      rcases List.mem_cons.1 h4 with rfl | h4
      · exact .inr (Nat.le_refl _)
      · obtain ⟨t, _, ht⟩ := hO b h4
        exact .inl ⟨_, ht⟩
    · rw [upd_ne _ _ hr] at h4
      exact .inl ⟨r', ownStrip_sub h4⟩
  · simp at h4

section
variable {P : Program} {o : Oper} {a : Act} {w : World} {fr pi : Nat → Nat} {own : Res → List Nat} {s : FS} (h : Rel w fr pi own s a.tmps) (hd : ∀ t, o.dst = some t → t < a.tmps.size)
include h hd

theorem good_alloc {e : TypeId} {z : AV} (ho : o.op = .alloc e) (hz : zeroOf P e = some z) (hne : z.cells ≠ []) {id : Nat} (hid : s.bx id = none) :
    Good P o a w fr pi own s.has (s.after [] o.dst (.ptr (some (id, 0))) (some (id, .cells z.cells))) := by
  unfold zeroOf at hz
  obtain ⟨v, h1, h2⟩ := Option.bind_eq_some_iff.1 hz
  obtain ⟨i, hi, hv⟩ := Option.bind_eq_some_iff.1 h1
  obtain ⟨r1, r2⟩ := avOf_rep (w := w) (fr := fr) (pi := pi) (ok := s.has) h2
  refine Good.boxed h hd [] hid (vs := v.cells.toList) (e := e) ?_ (cells_rep r1 hne) r2.cells (by simp) (by simp)
  simp [execOp, ho, Instr.alloc, zeroValue, typeInfo, hi, hv, newVar, newRow]

theorem good_box {e : TypeId} {x : Operand} {vx : VX} (ho : o.op = .box e x) (hx : resX x = some vx) (hne : (rdX s.sl vx).cells ≠ []) {id : Nat} (hid : s.bx id = none) (fl : Bool) :
    Good P o a w fr pi own s.has (s.after (takes fl (.box vx)) o.dst (.ptr (some (id, 0))) (some (id, .cells (rdX s.sl vx).cells))) := by
  obtain ⟨O, h1, h2, h3, h4⟩ := opnd h hx
  refine Good.boxed h hd _ hid (vs := (a.eval x).cells.toList) (e := e) ?_ (cells_rep h1 hne) h2.cells h3 (fun b hb => ?_)
  · simp [execOp, ho, Instr.box, newVar, newRow]
  · obtain ⟨t, rfl, ht⟩ := h4 b hb
    exact ⟨t, by simp [takes], ht⟩
end

/-! ### loads -/

theorem addr_add (b o k : Nat) : (⟨b, o, none⟩ : Addr).add k = ⟨b, o + k, none⟩ := by
  unfold Addr.add
  split <;> simp_all

theorem run_loadVar_V {P : Program} {w : World} {t : TypeId} {g : Option Nat} (hg : aggOf P t = some g) {b o : Nat} {vs : List Value} (hc : ∀ (k : Nat) (v : Value), vs[k]? = some v → w.cell? ⟨b, o + k, none⟩ = some v) :
    (∀ n, g = some n → vs.length = n → (loadVar t ⟨b, o, none⟩).run P w = .ok (.agg vs.toArray) w) ∧ (∀ v, g = none → vs = [v] → (loadVar t ⟨b, o, none⟩).run P w = .ok v w) := by
  unfold aggOf at hg
  refine ⟨fun n hn hl => ?_, fun v hn hl => ?_⟩
  · subst hn
    have hcells : (loadCells ⟨b, o, none⟩ vs.length).run P w = .ok vs.toArray w := run_loadCells_list w _ vs (fun j v hj => by rw [addr_add]; exact hc j v hj)
    split at hg
    · rename_i fs hu
      unfold szOf at hg
      simp only [Option.map_eq_some_iff] at hg
      obtain ⟨sz, ⟨i, hi, rfl⟩, e⟩ := hg
      cases e
      rw [hl] at hcells
      simp [loadVar, isAgg, run_underlying hu, sizeOf, typeInfo, hi, hcells]
    · rename_i m e hu
      unfold szOf at hg
      simp only [Option.map_eq_some_iff] at hg
      obtain ⟨sz, ⟨i, hi, rfl⟩, e⟩ := hg
      cases e
      rw [hl] at hcells
      simp [loadVar, isAgg, run_underlying hu, sizeOf, typeInfo, hi, hcells]
    · simp at hg
    · simp at hg
  · subst hn
    subst hl
    have h0 := hc 0 v rfl
    simp only [Nat.add_zero] at h0
    split at hg
    · simp at hg
    · simp at hg
    · rename_i d hd1 hd2 hu
      have : (isAgg t).run P w = .ok false w := by
        unfold isAgg
        rw [Sem.run_bind, run_underlying hu]
        simp only [Result.andThen_ok]
        cases d <;> first | rfl | (exfalso; exact hd1 _ hu) | (exfalso; exact hd2 _ _ hu)
      simp [loadVar, this, h0]
    · simp at hg

theorem Reps.sub {w : World} {fr pi : Nat → Nat} {cs : List AV} {vs : List Value} {O : List Nat} (h : Reps w fr pi cs vs O) (off n : Nat) (hle : off + n ≤ cs.length) :
    ∃ us O', Reps w fr pi ((cs.drop off).take n) us O' ∧ us.length = n ∧ (∀ b, b ∈ O' → b ∈ O) ∧ ∀ (k : Nat) (v : Value), us[k]? = some v → vs[off + k]? = some v := by
  have hs : cs = cs.take off ++ ((cs.drop off).take n ++ cs.drop (off + n)) := by rw [← List.drop_drop, List.take_append_drop, List.take_append_drop]
  rw [hs] at h
  obtain ⟨u1, u2, O1, O2, e1, e2, h1, h2⟩ := h.split
  obtain ⟨u3, u4, O3, O4, e3, e4, h3, h4⟩ := h2.split
  have l1 := h1.length
  have l3 := h3.length
  simp only [List.length_take, List.length_drop] at l1 l3
  refine ⟨u3, O3, h3, by omega, fun b hb => by subst e2 e4; simp [hb], fun k v hk => ?_⟩
  subst e1 e3
  have hk' : k < u3.length := by
    rcases Nat.lt_or_ge k u3.length with h' | h'
    · exact h'
    · simp [List.getElem?_eq_none h'] at hk
  rw [List.getElem?_append_right (by omega), List.getElem?_append_left (by omega)]
  rw [show off + k - u1.length = k by omega]
  exact hk

/-- What a load gives: of the cells cs that stand in memory as vs. -/
theorem ld_rep {w : World} {fr pi : Nat → Nat} {ok : Nat → Prop} {cs : List AV} {vs : List Value} {O : List Nat} (h : Reps w fr pi cs vs O) (hn : ∀ a, a ∈ cs → NP ok a) {off : Nat} {g : Option Nat} {x : AV} (hx : ldCells cs off g = some x)
    {P : Program} {t : TypeId} (hg : aggOf P t = some g) {b o : Nat} (hc : ∀ (k : Nat) (v : Value), vs[k]? = some v → w.cell? ⟨b, o + k, none⟩ = some v) :
    ∃ v, (loadVar t ⟨b, o + off, none⟩).run P w = .ok v w ∧ Rep w fr pi x v [] ∧ NP ok x := by
  cases g with
  | none =>
    simp only [ldCells, Option.map_eq_some_iff] at hx
    obtain ⟨c, h1, rfl⟩ := hx
    obtain ⟨v, O', h2, h3, h4⟩ := h.get h1
    refine ⟨v, (run_loadVar_V hg (vs := [v]) (fun k u hk => ?_)).2 v rfl rfl, h3.strip, (hn c (List.mem_of_getElem? h1)).strip⟩
    cases k with
    | zero => simp at hk; subst hk; exact hc off _ h2
    | succ k => simp at hk
  | some n =>
    simp only [ldCells] at hx
    split at hx
    · rename_i hle
      cases hx
      obtain ⟨us, O', h1, h2, _, h3⟩ := h.sub off n hle
      refine ⟨.agg us.toArray, (run_loadVar_V hg (vs := us) (fun k u hk => by rw [Nat.add_assoc]; exact hc _ _ (h3 k u hk))).1 n rfl h2, .agg _ _ _ h1.strip, .agg _ (fun a ha => ?_)⟩
      rw [AV.stripL_eq] at ha
      obtain ⟨y, hy, rfl⟩ := List.mem_map.1 ha
      exact (hn y (List.mem_of_mem_drop (List.mem_of_mem_take hy))).strip
    · cases hx

theorem boxcell {w : World} {fr pi : Nat → Nat} {own : Res → List Nat} {s : FS} {tm : Array Value} (h : Rel w fr pi own s tm) {i : Nat} {cs : List AV} (hb : s.bx i = some (.cells cs)) :
    ∃ vs O e, Reps w fr pi cs vs O ∧ w.heap[pi i]? = some (.cells vs.toArray e (0, 0)) ∧ ∀ (k : Nat) (v : Value), vs[k]? = some v → w.cell? ⟨pi i, 0 + k, none⟩ = some v := by
  obtain ⟨O, ⟨vs, e, h1, h2, h3⟩, h4⟩ := h.box i _ hb
  exact ⟨vs, O, e, h2, h1, fun k v hk => by simp [World.cell?, h1, hk]⟩

section
variable {P : Program} {o : Oper} {a : Act} {w : World} {fr pi : Nat → Nat} {own : Res → List Nat} {s : FS} (h : Rel w fr pi own s a.tmps) (hd : ∀ t, o.dst = some t → t < a.tmps.size)
include h hd

theorem good_load {t : TypeId} {x : Operand} {vx : VX} {g : Option Nat} (ho : o.op = .load t x) (hg : aggOf P t = some g) (hx : resX x = some vx) {z : AV} {b : Option (Nat × HObj)} {fl : Bool} {id : Nat}
    (he : ev fl s.sl s.bx id (.load g vx) = some (z, b)) : Good P o a w fr pi own s.has (s.after [] o.dst z b) := by
  obtain ⟨O, h1, h2, _⟩ := opnd h hx
  simp only [ev] at he
  split at he
  · rename_i i off hr
    rw [hr] at h1 h2
    split at he <;> try (cases he; done)
    · rename_i cs hb
      simp only [Option.map_eq_some_iff] at he
      obtain ⟨c, hc, e⟩ := he
      cases e
      obtain ⟨hv, _⟩ := h1.ptr_inv
      obtain ⟨vs, O', e', r1, r2, r3⟩ := boxcell h hb
      obtain ⟨v, g1, g2, g3⟩ := ld_rep r1 (h.boxnp i _ hb) hc hg r3
      simp only [Nat.zero_add] at g1
      exact Good.pure h hd (by simp [execOp, ho, Instr.loadAt, Instr.sureAddr, hv, g1]) g2 g3
    · rename_i sz xs hb
      simp only [Option.map_eq_some_iff] at he
      obtain ⟨c, hl, e⟩ := he
      cases e
      obtain ⟨hv, _⟩ := h1.ptr_inv
      obtain ⟨_, _, k3, k4, vs, ju, e, k5, k6, k7, k8⟩ := h.arr hb
      obtain ⟨v, g1, g2, g3⟩ := ld_rep k6 (ok := s.has) (fun a ha => by obtain ⟨x, hx, hax⟩ := List.mem_flatten.1 ha; exact k3 x hx a hax) hl hg (b := pi i) (o := 0) (fun k v hk => by
        have hlt : k < vs.length := by
          rcases Nat.lt_or_ge k vs.length with h' | h'
          · exact h'
          · simp [List.getElem?_eq_none h'] at hk
        simp [World.cell?, k5, List.getElem?_append_left hlt, hk])
      simp only [Nat.zero_add] at g1
      exact Good.pure h hd (by simp [execOp, ho, Instr.loadAt, Instr.sureAddr, hv, g1]) g2 g3
    · rename_i cs hb
      simp only [Option.map_eq_some_iff] at he
      obtain ⟨c, hl, e⟩ := he
      cases e
      obtain ⟨hv, _⟩ := h1.ptr_inv
      obtain ⟨O', ⟨_, vs, k6, k7⟩, _⟩ := h.box i _ hb
      obtain ⟨v, g1, g2, g3⟩ := ld_rep k6 (h.boxnp i _ hb) hl hg (b := pi i) (o := 0) (fun k v hk => (k7 k v hk).1)
      simp only [Nat.zero_add] at g1
      exact Good.pure h hd (by simp [execOp, ho, Instr.loadAt, Instr.sureAddr, hv, g1]) g2 g3
  · rename_i cs hr
    rw [hr] at h1 h2
    simp only [Option.map_eq_some_iff] at he
    obtain ⟨c, hc, e⟩ := he
    cases e
    obtain ⟨bl, of, vs, hv, r1, r2, _⟩ := h1.rptr_inv
    have hn : ∀ a, a ∈ cs → NP s.has a := by
      cases h2 with
      | rptr _ h2 => exact h2
    obtain ⟨v, g1, g2, g3⟩ := ld_rep r1 hn hc hg (fun k v hk => (r2 k v hk).1)
    simp only [Nat.add_zero] at g1
    exact Good.pure h hd (by simp [execOp, ho, Instr.loadAt, Instr.sureAddr, hv, g1]) g2 g3
  · cases he

theorem good_nilck {x : Operand} {vx : VX} (ho : o.op = .nilCheck x) (hx : resX x = some vx) {z : AV} {b : Option (Nat × HObj)} {fl : Bool} {id : Nat}
    (he : ev fl s.sl s.bx id (.nilck vx) = some (z, b)) : Good P o a w fr pi own s.has (s.after [] o.dst z b) := by
  obtain ⟨O, h1, h2, _⟩ := opnd h hx
  simp only [ev] at he
  split at he
  · rename_i p hr
    rw [hr] at h1 h2
    cases he
    obtain ⟨hv, hO⟩ := h1.ptr_inv
    subst hO
    exact Good.pure h hd (by simp [execOp, ho, hv]) h1 h2
  · rename_i cs hr
    rw [hr] at h1 h2
    cases he
    obtain ⟨bl, of, vs, hv, r1, r2, hO⟩ := h1.rptr_inv
    subst hO
    exact Good.pure h hd (by simp [execOp, ho, hv]) h1 h2
  · rename_i f l hr
    rw [hr] at h1 h2
    cases he
    obtain ⟨vs, hv, r1⟩ := h1.func_inv
    rw [hv] at h1
    have h1' := h1.strip
    exact Good.pure h hd (by simp [execOp, ho, hv]) h1' h2
  · cases he
end

end Go.Proofs.YtmjdoonaidolkaaDoor.V

/- A small logic of values over the model, part 7: stores, structs and slices that are written out. -/
namespace Go.Proofs.YtmjdoonaidolkaaDoor.V

theorem one_rep {w : World} {fr pi : Nat → Nat} {x : AV} {v : Value} {O : List Nat} (h : Rep w fr pi x v O) (h1 : x.one = true) : v.oneCell' = true := by
  cases h <;> first | rfl | (simp [AV.one] at h1)

theorem ones_rep {w : World} {fr pi : Nat → Nat} : ∀ {xs : List AV} {vs : List Value} {O : List Nat}, Reps w fr pi xs vs O → xs.all AV.one = true → ∀ v, v ∈ vs → v.oneCell' = true
  | _, _, _, .nil, _, v, hv => by simp at hv
  | _, _, _, .cons a u O as vs O' h1 h2, h, v, hv => by
    simp only [List.all_cons, Bool.and_eq_true] at h
    rcases List.mem_cons.1 hv with rfl | hv
    · exact one_rep h1 h.1
    · exact ones_rep h2 h.2 v hv

theorem flatten_len {sz : Nat} : ∀ {xs : List (List AV)}, (∀ x, x ∈ xs → x.length = sz) → xs.flatten.length = xs.length * sz
  | [], _ => by simp
  | x :: xs, h => by
    rw [List.flatten_cons, List.length_append, flatten_len (fun y hy => h y (by simp [hy])), h x (by simp), List.length_cons, Nat.add_mul]
    omega

theorem flatten_set {sz : Nat} : ∀ {xs : List (List AV)} (i : Nat) (c : List AV), (∀ x, x ∈ xs → x.length = sz) → c.length = sz → i < xs.length → (xs.set i c).flatten = splice xs.flatten (i * sz) c
  | [], i, c, _, _, hi => by simp at hi
  | x :: xs, 0, c, h, hc, _ => by
    have hx := h x (by simp)
    simp only [List.set_cons_zero, List.flatten_cons, splice, Nat.zero_mul, List.take_zero, List.nil_append, Nat.zero_add]
    congr 1
    exact (List.drop_left' (by omega)).symm
  | x :: xs, i + 1, c, h, hc, hi => by
    have hx := h x (by simp)
    have ih := flatten_set (xs := xs) i c (fun y hy => h y (by simp [hy])) hc (by simpa using hi)
    rw [List.set_cons_succ, List.flatten_cons, ih, List.flatten_cons]
    unfold splice
    have e1 : (i + 1) * sz = x.length + i * sz := by rw [hx, Nat.add_mul]; omega
    rw [e1, List.take_length_add_append, Nat.add_assoc, List.drop_length_add_append]
    simp

theorem splice_app (A X us : List AV) (m : Nat) : splice (A ++ X) (A.length + m) us = A ++ splice X m us := by
  unfold splice
  rw [List.take_length_add_append, Nat.add_assoc, List.drop_length_add_append]
  simp
theorem splice_app0 (A X us : List AV) : splice (A ++ X) A.length us = A ++ splice X 0 us := by
  have := splice_app A X us 0
  rwa [Nat.add_zero] at this

/-- Cells of one element turned. -/
theorem set_cells {xs : List (List AV)} {sz k f n : Nat} (h : ∀ x, x ∈ xs → x.length = sz) {c us : List AV} (hc : xs[k]? = some c) (hu : us.length = n) (hf : f + n ≤ sz) :
    (∀ x, x ∈ xs.set k (splice c f us) → x.length = sz) ∧ (xs.set k (splice c f us)).flatten = splice xs.flatten (k * sz + f) us ∧ k * sz + f + n ≤ xs.flatten.length := by
  have hkl : k < xs.length := by
    rcases Nat.lt_or_ge k xs.length with h' | h'
    · exact h'
    · simp [List.getElem?_eq_none h'] at hc
  have hcl : c.length = sz := h c (List.mem_of_getElem? hc)
  have hsl : (splice c f us).length = sz := by unfold splice; simp; omega
  have hsplit : xs = xs.take k ++ (c :: xs.drop (k + 1)) := by
    have hget : xs[k] = c := by rw [List.getElem?_eq_getElem hkl] at hc; exact Option.some.inj hc
    rw [← hget, ← List.drop_eq_getElem_cons hkl, List.take_append_drop]
  have hA : (xs.take k).flatten.length = k * sz := by
    rw [flatten_len (fun y hy => h y (List.mem_of_mem_take hy)), List.length_take, Nat.min_eq_left (by omega)]
  have hfl : xs.flatten = (xs.take k).flatten ++ (c ++ (xs.drop (k + 1)).flatten) := by
    conv => lhs; rw [hsplit]
    rw [List.flatten_append, List.flatten_cons]
  refine ⟨fun x hx => ?_, ?_, ?_⟩
  · rcases List.mem_or_eq_of_mem_set hx with hx | rfl
    · exact h x hx
    · exact hsl
  · rw [flatten_set k _ h hsl hkl, hfl, ← hA, splice_app0, splice_app]
    congr 1
    have e1 : splice (c ++ (xs.drop (k + 1)).flatten) 0 (splice c f us) = splice c f us ++ (xs.drop (k + 1)).flatten := by
      generalize splice c f us = q at hsl
      unfold splice
      rw [List.take_zero, List.nil_append, Nat.zero_add, List.drop_left' (by omega)]
    rw [e1]
    unfold splice
    rw [List.take_append_of_le_length (by omega), List.drop_append_of_le_length (by omega)]
    simp
  · rw [hfl, List.length_append, List.length_append, hA]
    omega

section
variable {P : Program} {o : Oper} {a : Act} {w : World} {fr pi : Nat → Nat} {own : Res → List Nat} {s : FS} (h : Rel w fr pi own s a.tmps) (hd : ∀ t, o.dst = some t → t < a.tmps.size)
include h hd

omit h in
/-- A box is turned; at most as much is owned as was. -/
theorem Good.turned {w' : World} {fr' : Nat → Nat} {id : Nat} {ob ob' : HObj} {own1 : Res → List Nat} (T : List Nat) (hb : s.bx id = some ob) (hO : pi id ∈ own (.box id)) {v : Value} {x : AV} {nx : _} (hnx : nx = .value v ∨ (nx = .skip ∧ v = Go.undef))
    (hrun : (execOp a.eval o).run P w = .ok nx w') (hr : Rel w' fr' pi own1 { s.strip T with bx := upd s.bx id (some ob') } a.tmps) (hsub : ∀ r b, b ∈ own1 r → b ∈ own r) (hst : Step w w' fr fr' (fun x => x = pi id)) (hx : Rep w' fr' pi x v [])
    (hn : NP (s.has) x) : Good P o a w fr pi own s.has (s.after T o.dst x (some (id, ob'))) := by
  have hhas : ∀ i, s.has i → FS.has { s.strip T with bx := upd s.bx id (some ob') } i := by
    intro i ⟨o, hi⟩
    by_cases e : i = id
    · subst e; exact ⟨_, upd_same _ _ _⟩
    · exact ⟨o, (upd_ne _ _ e).trans hi⟩
  obtain ⟨own', h1, h2⟩ := hr.putO (a := a) (d := o.dst) hd hx (hn.mono hhas) (by simp) (by simp) (by simp)
  refine ⟨nx, v, _, _, _, own', hrun, hnx, h1, ⟨hst.mono (fun b hb e => ⟨.box id, by subst e; exact hO⟩), fun r b hb => ?_, fun _ _ => rfl⟩⟩
  rcases h2 r b hb with ⟨r', h3⟩ | h3
  · exact .inl ⟨r', hsub r' b h3⟩
  · simp at h3

omit h in
/-- A box that owns nothing more is turned. -/
theorem Good.reboxed {w' : World} {fr' : Nat → Nat} {id : Nat} {ob ob' : HObj} (T : List Nat) (hb : s.bx id = some ob) (hO : own (.box id) = [pi id]) {v : Value} {x : AV} {nx : _} (hnx : nx = .value v ∨ (nx = .skip ∧ v = Go.undef))
    (hrun : (execOp a.eval o).run P w = .ok nx w') (hr : Rel w' fr' pi (ownStrip own T) { s.strip T with bx := upd s.bx id (some ob') } a.tmps) (hst : Step w w' fr fr' (fun x => x = pi id)) (hx : Rep w' fr' pi x v [])
    (hn : NP (s.has) x) : Good P o a w fr pi own s.has (s.after T o.dst x (some (id, ob'))) :=
  Good.turned hd T hb (by simp [hO]) hnx hrun hr (fun _ _ hb => ownStrip_sub hb) hst hx hn

theorem good_storeArr {t : TypeId} {x v : Operand} {vx vv : VX} {n sz : Nat} (ho : o.op = .store t x v) (hn : szOf P t = some n) (hn0 : n ≠ 0) (hx : resX x = some vx) (hv : resX v = some vv) {i off : Nat} {xs : List (List AV)} (hr : rdX s.sl vx = .ptr (some (i, off)))
    (hb : s.bx i = some (.arr sz xs)) {c : List AV} (c1 : xs[off / sz]? = some c) (c2 : (rdX s.sl vv).strip.cells.length = n) (c4 : off % sz + n ≤ sz) (c3 : (rdX s.sl vv).strip.cells.all AV.one = true) :
    Good P o a w fr pi own s.has (s.after (takes false (.store n vx vv)) o.dst .undef (some (i, .arr sz (xs.set (off / sz) (splice c (off % sz) (rdX s.sl vv).strip.cells))))) := by
  obtain ⟨O, h1, h2, _⟩ := opnd h hx
  obtain ⟨g1, g2⟩ := opnd0 h hv
  rw [hr] at h1 h2
  obtain ⟨hpv, _⟩ := h1.ptr_inv
  obtain ⟨k1, k2, k3, k4, vs, ju, e, k5, k6, k7, k8⟩ := h.arr hb
  have hne : (rdX s.sl vv).strip.cells ≠ [] := fun e => by rw [e] at c2; simp at c2; omega
  have hcr := cells_rep g1 hne
  have hsz : (a.eval v).cells.size = n := by have := hcr.length; simp at this; omega
  have hlv := k6.length
  have hkl : off / sz < xs.length := by
    rcases Nat.lt_or_ge (off / sz) xs.length with h' | h'
    · exact h'
    · simp [List.getElem?_eq_none h'] at c1
  have hcm : c ∈ xs := List.mem_of_getElem? c1
  have hcl := k4 c hcm
  have hdm : off / sz * sz + off % sz = off := by rw [Nat.mul_comm]; exact Nat.div_add_mod off sz
  obtain ⟨hl', hflat, hfit⟩ := set_cells (n := n) k4 c1 c2 c4
  rw [hdm] at hflat hfit
  obtain ⟨q1, q2⟩ := (h.strip (takes false (.store n vx vv))).setArr (id := i) (off := off) (xs' := xs.set (off / sz) (splice c (off % sz) (rdX s.sl vv).strip.cells)) hb hcr g2.cells (ones_rep hcr c3) (by omega) hl' (by rw [hflat]; rfl)
  unfold szOf at hn
  obtain ⟨ti, hti, e2⟩ := Option.map_eq_some_iff.1 hn
  have hcell : ∀ j, j < (a.eval v).cells.toList.length → ∃ u, w.cell? ⟨pi i, off + 0 + j, none⟩ = some u := by
    intro j hj
    have hjj : off + j < (vs ++ ju).length := by simp at hj ⊢; omega
    exact ⟨(vs ++ ju)[off + j], by simp [World.cell?, k5, List.getElem?_eq_getElem hjj]⟩
  have hst := run_storeCells_cells (P := P) (pi i) off (a.eval v).cells.toList 0 w (fun j hj => by obtain ⟨u, hu⟩ := hcell j hj; rw [hu]; rfl) (fun j hj => by rw [frozen_of_row w _ _ _ e k5]) (ones_rep hcr c3)
  rw [Nat.add_zero] at hst
  have hsz' : (a.eval v).cells.size = ti.size := by omega
  exact Good.reboxed hd _ hb k1 (.inr ⟨rfl, rfl⟩) (by simp [execOp, ho, Instr.storeAt, Instr.sureAddr, hpv, storeVar, sizeOf, typeInfo, hti, hsz', hst]) q1 q2 (.undef Go.undef) .undef

theorem good_store {t : TypeId} {x v : Operand} {vx vv : VX} {n : Nat} (ho : o.op = .store t x v) (hn : szOf P t = some n) (hx : resX x = some vx) (hv : resX v = some vv) {z : AV} {b : Option (Nat × HObj)} {fl : Bool} {id : Nat}
    (hn0 : n ≠ 0) (he : ev fl s.sl s.bx id (.store n vx vv) = some (z, b)) : Good P o a w fr pi own s.has (s.after (takes fl (.store n vx vv)) o.dst z b) := by
  obtain ⟨O, h1, h2, _⟩ := opnd h hx
  obtain ⟨O2, g1, g2, g3, g4⟩ := opnd h hv
  simp only [ev] at he
  split at he <;> try (cases he; done)
  rename_i i off hr
  rw [hr] at h1 h2
  split at he <;> try (cases he; done)
  rotate_left
  · rename_i sz xs hb
    split at he <;> try (cases he; done)
    rename_i hc
    obtain ⟨c2, c4, c3⟩ := hc
    obtain ⟨c, c1, e⟩ := Option.map_eq_some_iff.1 he
    cases e
    have := good_storeArr h hd ho hn hn0 hx hv hr hb c1 c2 c4 c3
    rwa [show takes false (.store n vx vv) = takes fl (.store n vx vv) by cases vv <;> rfl] at this
  rename_i cs hb
  split at he <;> try (cases he; done)
  rename_i hc
  obtain ⟨c1, c2, c3⟩ := hc
  cases he
  obtain ⟨hpv, _⟩ := h1.ptr_inv
  have hne : (rdX s.sl vv).cells ≠ [] := fun e => by rw [e] at c1; simp at c1; omega
  have hcr := cells_rep g1 hne
  have hsz : (a.eval v).cells.size = n := by have := hcr.length; simp at this; omega
  obtain ⟨own', r1, r2, r3, r4, ⟨c, el, r5, r6⟩, r7⟩ := (h.strip (takes fl (.store n vx vv))).setBox (id := i) (off := off) hb hcr g2.cells g3 (fun b hb => by obtain ⟨t, _, ht⟩ := g4 b hb; exact h.live _ _ ht)
    (fun b hb r hr => by
      obtain ⟨t, e, ht⟩ := g4 b hb
      have := h.dj r (.slot t) b (ownStrip_sub hr) ht
      subst this e
      simp [ownStrip, takes] at hr) (by omega)
  obtain ⟨own2, q1, q2⟩ := r1.putO (a := a) (d := o.dst) (v := Go.undef) hd (.undef Go.undef) .undef (by simp) (by simp) (by simp)
  unfold szOf at hn
  obtain ⟨ti, hti, e⟩ := Option.map_eq_some_iff.1 hn
  have hcell : ∀ j, j < (a.eval v).cells.toList.length → w.cell? ⟨pi i, off + 0 + j, none⟩ = some (c.getD (off + j) Go.undef) := by
    intro j hj
    have hjj : off + j < c.size := by simp at hj; omega
    simp [World.cell?, r5, Array.getD_eq_getD_getElem?, Array.getElem?_eq_getElem hjj]
  have hst := run_storeCells_cells (P := P) (pi i) off (a.eval v).cells.toList 0 w (fun j hj => by rw [hcell j hj]; rfl) (fun j hj => by rw [frozen_of_row w _ _ c el r5]) (ones_rep hcr c3)
  have hsz' : (a.eval v).cells.size = ti.size := by omega
  refine ⟨_, Go.undef, _, _, _, own2, ?_, .inr ⟨rfl, rfl⟩, q1, ⟨r2.mono (fun b hb e => ⟨.box i, by subst e; exact ownStrip_sub r3⟩), fun r b hb => ?_, fun _ _ => rfl⟩⟩
  · rw [Nat.add_zero] at hst
    simp [execOp, ho, Instr.storeAt, Instr.sureAddr, hpv, storeVar, sizeOf, typeInfo, hti, hsz', hst]
  · rcases q2 r b hb with ⟨r', h5⟩ | h5
    · rcases r4 r' b h5 with ⟨r'', h6⟩ | h6
      · exact .inl ⟨r'', ownStrip_sub h6⟩
      · obtain ⟨t, _, ht⟩ := g4 b h6
        exact .inl ⟨_, ht⟩
    · simp at h5
end

/-! ### structs that are written out -/

theorem foldl_set (us : List Value) : ∀ (off k : Nat) (cells : Array Value), off + k + us.length ≤ cells.size →
    ((us.zipIdx k).foldl (fun (cs : Array Value) (p : Value × Nat) => cs.setIfInBounds (off + p.2) p.1) cells).toList = cells.toList.take (off + k) ++ us ++ cells.toList.drop (off + k + us.length) := by
  induction us with
  | nil => intro off k cells h; simp
  | cons u us ih =>
    intro off k cells h
    simp only [List.length_cons] at h
    simp only [List.zipIdx_cons, List.foldl_cons]
    rw [ih off (k + 1) _ (by simp; omega), Array.toList_setIfInBounds]
    have hlen : cells.toList.length = cells.size := by simp
    apply List.ext_getElem?
    intro i
    simp only [List.getElem?_append, List.length_append, List.length_take, List.length_set, List.length_cons, List.getElem?_take, List.getElem?_drop, List.getElem?_set, hlen]
    rcases Nat.lt_trichotomy i (off + k) with hi | hi | hi
    · simp only [show i < min (off + (k + 1)) cells.size + us.length by omega, show i < min (off + (k + 1)) cells.size by omega, show i < off + (k + 1) by omega, show i < min (off + k) cells.size + (us.length + 1) by omega,
        show i < min (off + k) cells.size by omega, show i < off + k by omega, show ¬ off + k = i by omega, ↓reduceIte]
    · subst hi
      simp only [show off + k < min (off + (k + 1)) cells.size + us.length by omega, show off + k < min (off + (k + 1)) cells.size by omega, show off + k < off + (k + 1) by omega,
        show off + k < min (off + k) cells.size + (us.length + 1) by omega, show ¬ off + k < min (off + k) cells.size by omega, ↓reduceIte, show off + k < cells.size by omega, show off + k - min (off + k) cells.size = 0 by omega,
        List.getElem?_cons_zero]
    · by_cases hj : i < off + k + 1 + us.length
      · simp only [show i < min (off + (k + 1)) cells.size + us.length by omega, show ¬ i < min (off + (k + 1)) cells.size by omega, show i < min (off + k) cells.size + (us.length + 1) by omega,
          show ¬ i < min (off + k) cells.size by omega, ↓reduceIte, show i - min (off + k) cells.size = (i - min (off + (k + 1)) cells.size) + 1 by omega, List.getElem?_cons_succ]
      · simp only [show ¬ i < min (off + (k + 1)) cells.size + us.length by omega, show ¬ i < min (off + k) cells.size + (us.length + 1) by omega, ↓reduceIte]
        rw [if_neg (by omega)]
        congr 1
        omega

theorem fill_one (cells us : Array Value) (off : Nat) (h : off + us.size ≤ cells.size) :
    (us.zipIdx.foldl (fun cs (c, j) => cs.setIfInBounds (off + j) c) cells).toList = cells.toList.take off ++ us.toList ++ cells.toList.drop (off + us.size) := by
  have := foldl_set us.toList off 0 cells (by simpa using h)
  simp only [Nat.add_zero, Array.length_toList] at this
  rw [← this]
  congr 1
  rw [← Array.foldl_toList]
  congr 1
  simp

theorem splice_rep {w : World} {fr pi : Nat → Nat} {cs us : List AV} {vs ws : List Value} (h : Reps w fr pi cs vs []) (h2 : Reps w fr pi us ws []) {off : Nat} (hle : off + us.length ≤ cs.length) :
    Reps w fr pi (splice cs off us) (vs.take off ++ ws ++ vs.drop (off + us.length)) [] := by
  have hs : cs = cs.take off ++ cs.drop off := (List.take_append_drop _ _).symm
  have hs2 : cs = cs.take (off + us.length) ++ cs.drop (off + us.length) := (List.take_append_drop _ _).symm
  have ha := h
  rw [hs] at ha
  obtain ⟨u1, u2, O1, O2, e1, e2, h3, h4⟩ := ha.split
  have hb := h
  rw [hs2] at hb
  obtain ⟨u5, u6, O5, O6, e5, e6, h5, h6⟩ := hb.split
  have l1 := h3.length
  have l5 := h5.length
  simp only [List.length_take] at l1 l5
  have hO := List.append_eq_nil_iff.1 e2.symm
  have hO' := List.append_eq_nil_iff.1 e6.symm
  have t1 : vs.take off = u1 := by rw [e1]; exact List.take_left' (by omega)
  have t2 : vs.drop (off + us.length) = u6 := by rw [e5]; exact List.drop_left' (by omega)
  rw [t1, t2]
  unfold splice
  have := (h3.append h2).append h6
  rw [hO.1, hO'.2] at this
  simpa using this

theorem splice_np {ok : Nat → Prop} {cs us : List AV} (h : ∀ a, a ∈ cs → NP ok a) (h2 : ∀ a, a ∈ us → NP ok a) (off : Nat) : ∀ a, a ∈ splice cs off us → NP ok a := by
  intro a ha
  simp only [splice, List.mem_append] at ha
  rcases ha with (ha | ha) | ha
  · exact h a (List.mem_of_mem_take ha)
  · exact h2 a ha
  · exact h a (List.mem_of_mem_drop ha)

theorem splice_length {cs us : List AV} {off : Nat} (h : off + us.length ≤ cs.length) : (splice cs off us).length = cs.length := by
  simp [splice]; omega

theorem fill_parts {w : World} {fr pi : Nat → Nat} {own : Res → List Nat} {s : FS} {a : Act} (h : Rel w fr pi own s a.tmps) (places : List (Nat × Nat)) (place : Nat → Option (Nat × Nat)) (hp : ∀ i, place i = places[i]?) :
    ∀ (ps : List (Nat × Operand)) (l : List (Nat × Nat × VX)) (z z' : List AV) (cells : Array Value), resPartsS places ps = some l → putParts s.sl z l = some z' → Reps w fr pi z cells.toList [] → (∀ x, x ∈ z → NP s.has x) →
      ∃ cells', Instr.fill place cells (ps.map fun p => (p.1, a.eval p.2)) = some cells' ∧ Reps w fr pi z' cells'.toList [] ∧ ∀ x, x ∈ z' → NP s.has x
  | [], l, z, z', cells, hl, hz, hr, hn => by
    simp [resPartsS] at hl
    subst hl
    simp [putParts] at hz
    subst hz
    exact ⟨cells, rfl, hr, hn⟩
  | (i, x) :: r, l, z, z', cells, hl, hz, hr, hn => by
    simp only [resPartsS, Option.bind_eq_some_iff, Option.map_eq_some_iff] at hl
    obtain ⟨⟨off, sz⟩, h1, vx, h2, l', h3, rfl⟩ := hl
    simp only [putParts] at hz
    split at hz
    · rename_i hc
      obtain ⟨c0, c1, c2⟩ := hc
      obtain ⟨g1, g2⟩ := opnd0 h h2
      have hne : (rdX s.sl vx).strip.cells ≠ [] := fun e => by rw [e] at c1; simp at c1; omega
      have hcr := cells_rep g1 hne
      have hsz : (a.eval x).cells.size = sz := by have := hcr.length; simp at this; omega
      have hzl := hr.length
      simp at hzl
      have hfit : off + (a.eval x).cells.size ≤ cells.size := by omega
      obtain ⟨cells', k1, k2, k3⟩ := fill_parts h places place hp r l' _ z' ((a.eval x).cells.zipIdx.foldl (fun cs (c, j) => cs.setIfInBounds (off + j) c) cells) h3 hz
        (by rw [fill_one _ _ _ hfit, show off + (a.eval x).cells.size = off + (rdX s.sl vx).strip.cells.length by omega]; exact splice_rep hr hcr (by omega)) (splice_np hn g2.cells off)
      refine ⟨cells', ?_, k2, k3⟩
      rw [List.map_cons, Instr.fill]
      simp only [hp, h1]
      rw [if_neg (by simp; omega)]
      exact k1
    · cases hz

theorem run_mapM_list {P : Program} {w : World} {α β : Type} (f : α → Sem β) : ∀ (l : List α) (r : List β), (l.length = r.length) → (∀ (i : Nat) (x : α) (y : β), l[i]? = some x → r[i]? = some y → (f x).run P w = .ok y w) → (l.mapM f).run P w = .ok r w
  | [], [], _, _ => by simp
  | x :: l, y :: r, hl, h => by
    have h0 := h 0 x y rfl rfl
    have ih := run_mapM_list (P := P) (w := w) f l r (by simpa using hl) (fun i x y h1 h2 => h (i + 1) x y (by simpa using h1) (by simpa using h2))
    simp [List.mapM_cons, h0, ih]
  | [], _ :: _, hl, _ => by simp at hl
  | _ :: _, [], hl, _ => by simp at hl

theorem run_mapM_array {P : Program} {w : World} {α β : Type} (f : α → Sem β) (a : Array α) (r : List β) (hl : a.size = r.length) (h : ∀ (i : Nat) (x : α) (y : β), a[i]? = some x → r[i]? = some y → (f x).run P w = .ok y w) :
    (a.mapM f).run P w = .ok r.toArray w := by
  rw [Array.mapM_eq_mapM_toList]
  have := run_mapM_list (P := P) (w := w) f a.toList r (by simpa using hl) (fun i x y h1 h2 => h i x y (by simpa using h1) h2)
  simp [this]

theorem resFields_get {P : Program} : ∀ {fs : List Field} {l : List (Nat × Nat)}, resFields P fs = some l → fs.length = l.length ∧ ∀ (i : Nat) (f : Field) (p : Nat × Nat), fs[i]? = some f → l[i]? = some p → p.1 = f.offset ∧ szOf P f.type = some p.2
  | [], l, h => by
    simp [resFields] at h
    subst h
    simp
  | f :: r, l, h => by
    simp only [resFields, Option.bind_eq_some_iff, Option.map_eq_some_iff] at h
    obtain ⟨sz, h1, l', h2, rfl⟩ := h
    obtain ⟨k1, k2⟩ := resFields_get h2
    refine ⟨by simp [k1], fun i g p hg hp => ?_⟩
    cases i with
    | zero => simp at hg hp; subst hg hp; exact ⟨rfl, h1⟩
    | succ i => exact k2 i g p (by simpa using hg) (by simpa using hp)

section
variable {P : Program} {o : Oper} {a : Act} {w : World} {fr pi : Nat → Nat} {own : Res → List Nat} {s : FS} (h : Rel w fr pi own s a.tmps) (hd : ∀ t, o.dst = some t → t < a.tmps.size)
include h hd

theorem good_build {t : TypeId} {ps : Array (Nat × Operand)} {z : AV} {fs : Array Field} {pl : List (Nat × Nat)} {l : List (Nat × Nat × VX)} (ho : o.op = .build t ps) (hz : zeroOf P t = some z) (hu : P.underlying t = some (.struct fs))
    (hf : resFields P fs.toList = some pl) (hl : resPartsS pl ps.toList = some l) (hne : z.cells ≠ []) {y : AV} {b : Option (Nat × HObj)} {fl : Bool} {id : Nat} (he : ev fl s.sl s.bx id (.build z.cells l) = some (y, b)) :
    Good P o a w fr pi own s.has (s.after [] o.dst y b) := by
  simp only [ev, Option.map_eq_some_iff] at he
  obtain ⟨z', h1, e⟩ := he
  cases e
  unfold zeroOf at hz
  obtain ⟨v, g1, g2⟩ := Option.bind_eq_some_iff.1 hz
  obtain ⟨i, hi, hv⟩ := Option.bind_eq_some_iff.1 g1
  obtain ⟨r1, r2⟩ := avOf_rep (w := w) (fr := fr) (pi := pi) (ok := s.has) g2
  obtain ⟨k1, k2⟩ := resFields_get hf
  obtain ⟨cells', q1, q2, q3⟩ := fill_parts h pl (fun i => (pl.toArray)[i]?) (fun i => by simp) ps.toList l _ _ v.cells hl h1 (cells_rep r1 hne) r2.cells
  have hm : (fs.mapM fun (f : Field) => (do pure (f.offset, ← sizeOf f.type) : Sem (Nat × Nat))).run P w = .ok pl.toArray w := by
    refine run_mapM_array _ fs pl (by simpa using k1) (fun i f p hf hp => ?_)
    obtain ⟨x1, x2⟩ := k2 i f p (by simpa using hf) hp
    unfold szOf at x2
    obtain ⟨ti, hti, e⟩ := Option.map_eq_some_iff.1 x2
    simp [sizeOf, typeInfo, hti, e, ← x1]
  have harr : (ps.map fun x => (x.1, a.eval x.2)).toList = ps.toList.map fun p => (p.1, a.eval p.2) := by simp
  refine Good.pure h hd (v := .agg cells') ?_ (by simpa using Rep.agg _ _ _ q2) (.agg _ q3)
  simp only [execOp, ho, Instr.build, Sem.run_bind, zeroValue, typeInfo, run_program, Result.andThen_ok, hi, Sem.run_pure, hv, run_underlying hu, hm, harr, q1]
end

end Go.Proofs.YtmjdoonaidolkaaDoor.V

/- A small logic of values over the model, part 8: slices that are made, and what is appended. -/
namespace Go.Proofs.YtmjdoonaidolkaaDoor.V

/-- A slice in new memory. -/
theorem Good.made {P : Program} {o : Oper} {a : Act} {w w1 : World} {fr pi : Nat → Nat} {own : Res → List Nat} {s : FS} (h : Rel w fr pi own s a.tmps) (hd : ∀ t, o.dst = some t → t < a.tmps.size) (T : List Nat)
    (hst : Step w w1 fr fr (fun _ => False)) (hsz : w1.heap.size = w.heap.size) {sz cap : Nat} {nl : Option Bool} {xs : List (List AV)} {vs rest : List Value} {e : TypeId}
    (hrun : (execOp a.eval o).run P w = .ok (.value (.slice (some ⟨w1.heap.size, 0, none⟩) xs.length cap)) (w1.alloc (.cells (vs ++ rest).toArray e)))
    (hr : Reps w fr pi xs.flatten vs []) (hn : ∀ x, x ∈ xs → ∀ a, a ∈ x → NP s.has a) (hl : ∀ x, x ∈ xs → x.length = sz) (h1 : ∀ v, v ∈ vs → v.oneCell' = true) (hcap : xs.length ≤ cap)
    (hrest : cap * sz ≤ vs.length + rest.length) (hvs : vs.length = xs.length * sz) (hnl : nl ≠ some true) : Good P o a w fr pi own s.has (s.after T o.dst (.sl sz nl true xs) none) := by
  have st2 := Step.alloc w1 fr (.cells (vs ++ rest).toArray e) (xs.length * sz)
  have st := hst.trans st2 (A := fun _ => False) (fun b hb h => h)
  have hRel := (h.strip T).step st (fun _ _ _ h => h)
  have hrep : Rep (w1.alloc (.cells (vs ++ rest).toArray e)) (upd fr w1.heap.size (xs.length * sz)) pi (.sl sz nl true xs) (.slice (some ⟨w1.heap.size, 0, none⟩) xs.length cap) [w1.heap.size] := by
    refine .slown sz nl xs w1.heap.size 0 cap vs hnl hl (hr.mono st (ok := s.has) (fun _ _ => rfl) (fun a ha => by obtain ⟨x, hx, hax⟩ := List.mem_flatten.1 ha; exact hn x hx a hax) (by simp)) (fun k v hk => ?_) hcap ?_
    · have hkl : k < vs.length := by
        rcases Nat.lt_or_ge k vs.length with h' | h'
        · exact h'
        · simp [List.getElem?_eq_none h'] at hk
      refine ⟨?_, by rw [upd_same]; omega, h1 v (List.mem_of_getElem? hk)⟩
      simp only [World.cell?, heap_alloc_new, Nat.zero_add]
      simp [List.getElem?_append_left hkl, hk]
    · exact ⟨⟨by rw [upd_same]; omega, _, e, heap_alloc_new _ _, by simp; omega⟩, rfl⟩
  obtain ⟨own', g1, g2⟩ := hRel.putO (a := a) (d := o.dst) hd hrep (.sl _ _ _ _ hn) (by simp) (by simp) (by
    intro b hb r hr
    simp only [List.mem_singleton] at hb
    subst hb
    have := h.live r _ (ownStrip_sub hr)
    omega)
  refine ⟨_, _, _, _, _, own', hrun, .inl rfl, g1, ⟨st.mono (fun _ _ h => h.elim), fun r b hb => ?_, fun _ _ => rfl⟩⟩
  rcases g2 r b hb with ⟨r', h3⟩ | h3
  · exact .inl ⟨r', ownStrip_sub h3⟩
  · simp only [List.mem_singleton] at h3
    exact .inr (by omega)

theorem flatten_replicate_get {α : Type} (z : List α) (hz : 0 < z.length) : ∀ (n k : Nat), k < n * z.length → (List.replicate n z).flatten[k]? = z[k % z.length]?
  | 0, k, h => by simp at h
  | n + 1, k, h => by
    rw [List.replicate_succ, List.flatten_cons]
    by_cases hk : k < z.length
    · rw [List.getElem?_append_left hk, Nat.mod_eq_of_lt hk]
    · rw [List.getElem?_append_right (by omega), flatten_replicate_get z hz n (k - z.length) (by rw [Nat.add_mul] at h; omega)]
      rw [← Nat.mod_eq_sub_mod (by omega)]

theorem zero_cells (z : Array Value) (hz : 0 < z.size) (n : Nat) : ((Array.range (n * z.size)).map fun i => z[i % z.size]!).toList = (List.replicate n z.toList).flatten := by
  apply List.ext_getElem?
  intro k
  by_cases hk : k < n * z.size
  · rw [flatten_replicate_get z.toList (by simpa using hz) n k (by simpa using hk)]
    have hm : k % z.size < z.size := Nat.mod_lt _ hz
    simp [hk, hm, getElem!_pos]
  · have hlen : (List.replicate n z.toList).flatten.length = n * z.size := by simp
    rw [List.getElem?_eq_none (by simp; omega), List.getElem?_eq_none (by omega)]

theorem replicate_rep {w : World} {fr pi : Nat → Nat} {z : List AV} {zs : List Value} (h : Reps w fr pi z zs []) : ∀ n, Reps w fr pi (List.replicate n z).flatten (List.replicate n zs).flatten []
  | 0 => .nil
  | n + 1 => by
    rw [List.replicate_succ, List.replicate_succ, List.flatten_cons, List.flatten_cons]
    simpa using h.append (replicate_rep h n)

theorem fill_elems {w : World} {fr pi : Nat → Nat} {own : Res → List Nat} {s : FS} {a : Act} (h : Rel w fr pi own s a.tmps) (sz : Nat) (h0 : 0 < sz) :
    ∀ (ps : List (Nat × Operand)) (l : List (Nat × VX)) (xs xs' : List (List AV)) (cells : Array Value), resPartsA ps = some l → putElems s.sl sz xs l = some xs' → (∀ x, x ∈ xs → x.length = sz) → (∀ x, x ∈ xs → x.all AV.one) →
      Reps w fr pi xs.flatten cells.toList [] → (∀ x, x ∈ xs → ∀ a, a ∈ x → NP s.has a) →
      ∃ cells', Instr.fill (fun i => some (i * sz, sz)) cells (ps.map fun p => (p.1, a.eval p.2)) = some cells' ∧ Reps w fr pi xs'.flatten cells'.toList [] ∧ (∀ x, x ∈ xs' → x.length = sz) ∧ (∀ x, x ∈ xs' → x.all AV.one) ∧
        (∀ x, x ∈ xs' → ∀ a, a ∈ x → NP s.has a) ∧ xs'.length = xs.length
  | [], l, xs, xs', cells, hl, hz, h1, h2, hr, hn => by
    simp [resPartsA] at hl
    subst hl
    simp [putElems] at hz
    subst hz
    exact ⟨cells, rfl, hr, h1, h2, hn, rfl⟩
  | (i, x) :: r, l, xs, xs', cells, hl, hz, h1, h2, hr, hn => by
    simp only [resPartsA, Option.bind_eq_some_iff, Option.map_eq_some_iff] at hl
    obtain ⟨vx, h3, l', h4, rfl⟩ := hl
    simp only [putElems] at hz
    split at hz
    · rename_i hc
      obtain ⟨c1, c2, c3⟩ := hc
      obtain ⟨g1, g2⟩ := opnd0 h h3
      have hne : (rdX s.sl vx).strip.cells ≠ [] := fun e => by rw [e] at c1; simp at c1; omega
      have hcr := cells_rep g1 hne
      have hsz : (a.eval x).cells.size = sz := by have := hcr.length; simp at this; omega
      have hzl := hr.length
      rw [flatten_len h1] at hzl
      simp at hzl
      have hfl : i * sz + sz ≤ xs.length * sz := by
        have : (i + 1) * sz ≤ xs.length * sz := Nat.mul_le_mul_right _ c2
        rw [Nat.add_mul] at this
        omega
      have hfit : i * sz + (a.eval x).cells.size ≤ cells.size := by omega
      have hmem : ∀ y, y ∈ xs.set i (rdX s.sl vx).strip.cells → y ∈ xs ∨ y = (rdX s.sl vx).strip.cells := fun y hy => List.mem_or_eq_of_mem_set hy
      obtain ⟨cells', k1, k2, k3, k4, k5, k6⟩ := fill_elems h sz h0 r l' _ xs' ((a.eval x).cells.zipIdx.foldl (fun cs (c, j) => cs.setIfInBounds (i * sz + j) c) cells) h4 hz
        (fun y hy => by rcases hmem y hy with hy | rfl; exact h1 y hy; exact c1) (fun y hy => by rcases hmem y hy with hy | rfl; exact h2 y hy; exact c3)
        (by
          rw [fill_one _ _ _ hfit, flatten_set i _ h1 c1 c2, show i * sz + (a.eval x).cells.size = i * sz + (rdX s.sl vx).strip.cells.length by omega]
          exact splice_rep hr hcr (by rw [flatten_len h1]; omega))
        (fun y hy => by rcases hmem y hy with hy | rfl; exact hn y hy; exact g2.cells)
      refine ⟨cells', ?_, k2, k3, k4, k5, by simpa using k6⟩
      rw [List.map_cons, Instr.fill]
      simp only
      rw [if_neg (by simp; omega)]
      exact k1
    · cases hz

theorem all_flatten {xs : List (List AV)} (h : ∀ x, x ∈ xs → x.all AV.one) : xs.flatten.all AV.one = true := by
  rw [List.all_eq_true]
  intro a ha
  obtain ⟨x, hx, hax⟩ := List.mem_flatten.1 ha
  exact List.all_eq_true.1 (h x hx) a hax

section
variable {P : Program} {o : Oper} {a : Act} {w : World} {fr pi : Nat → Nat} {own : Res → List Nat} {s : FS} (h : Rel w fr pi own s a.tmps) (hd : ∀ t, o.dst = some t → t < a.tmps.size)
include h hd

theorem good_bslice {t e : TypeId} {n sz : Nat} {ps : Array (Nat × Operand)} {z : AV} {l : List (Nat × VX)} (ho : o.op = .buildSlice t n ps) (hu : P.underlying t = some (.slice e)) (hs : szOf P e = some sz) (hz : zeroOf P e = some z)
    (h0 : sz ≠ 0) (hbig : ¬ n * sz > 2 ^ 24) (hzl : z.cells.length = sz) (hl : resPartsA ps.toList = some l) {y : AV} {b : Option (Nat × HObj)} {fl : Bool} {id : Nat} (he : ev fl s.sl s.bx id (.bslice sz n z.cells l) = some (y, b)) :
    Good P o a w fr pi own s.has (s.after [] o.dst y b) := by
  simp only [ev] at he
  split at he <;> try (cases he; done)
  rename_i hone
  simp only [Option.map_eq_some_iff] at he
  obtain ⟨xs', h1, e'⟩ := he
  cases e'
  unfold zeroOf at hz
  obtain ⟨v, g1, g2⟩ := Option.bind_eq_some_iff.1 hz
  obtain ⟨i, hi, hv⟩ := Option.bind_eq_some_iff.1 g1
  obtain ⟨r1, r2⟩ := avOf_rep (w := w) (fr := fr) (pi := pi) (ok := s.has) g2
  have hne : z.cells ≠ [] := fun e => by rw [e] at hzl; simp at hzl; omega
  have hcr := cells_rep r1 hne
  have hvs : v.cells.size = sz := by have := hcr.length; simp at this; omega
  unfold szOf at hs
  obtain ⟨i', hi', e2⟩ := Option.map_eq_some_iff.1 hs
  rw [hi] at hi'
  cases hi'
  have hsz : i.size = sz := e2
  have hcells : ((Array.range (n * sz)).map fun j => (if n * sz = 0 then (#[] : Array Value) else v.cells)[j % (if n * sz = 0 then (#[] : Array Value) else v.cells).size]!).toList = (List.replicate n v.cells.toList).flatten := by
    by_cases hn : n * sz = 0
    · have : n = 0 := by
        rcases Nat.mul_eq_zero.1 hn with h | h
        · exact h
        · omega
      subst this
      simp
    · rw [if_neg hn, ← hvs]
      exact zero_cells v.cells (by omega) n
  obtain ⟨cells', q1, q2, q3, q4, q5, q6⟩ := fill_elems h sz (by omega) ps.toList l (List.replicate n z.cells) xs' ((Array.range (n * sz)).map fun j => (if n * sz = 0 then (#[] : Array Value) else v.cells)[j % (if n * sz = 0 then (#[] : Array Value) else v.cells).size]!) hl h1
    (fun x hx => by rw [List.eq_of_mem_replicate hx]; exact hzl) (fun x hx => by rw [List.eq_of_mem_replicate hx]; exact hone) (by rw [hcells]; exact replicate_rep hcr n) (fun x hx => by rw [List.eq_of_mem_replicate hx]; exact r2.cells)
  have hlen : xs'.length = n := by simpa using q6
  have harr : (ps.map fun x => (x.1, a.eval x.2)).toList = ps.toList.map fun p => (p.1, a.eval p.2) := by simp
  refine Good.made h hd [] (w1 := w) (Step.refl _ _ _) rfl (sz := sz) (cap := n) (nl := some false) (xs := xs') (vs := cells'.toList) (rest := []) (e := e) ?_ q2 q5 q3 (ones_rep q2 (all_flatten q4)) (by omega) ?_ ?_ (by simp)
  · by_cases hn : n * sz = 0
    · simp only [hn, ↓reduceIte] at q1
      have hb2 : ¬ (0 > 2 ^ 24) := by omega
      simp only [execOp, ho, Instr.buildSlice, Sem.run_bind, run_underlying hu, Result.andThen_ok, sizeOf, typeInfo, run_program, hi, Sem.run_pure, hsz, hn, hb2, ↓reduceIte, harr, q1, newRow, run_newObj, World.alloc_eq]
      simp [hlen]
    · simp only [hn, ↓reduceIte] at q1
      simp only [execOp, ho, Instr.buildSlice, Sem.run_bind, run_underlying hu, Result.andThen_ok, sizeOf, typeInfo, run_program, hi, Sem.run_pure, hsz, hn, hbig, ↓reduceIte, zeroValue, hv, harr, q1, newRow, run_newObj, World.alloc_eq]
      simp [hlen]
  · have := q2.length
    rw [flatten_len q3, hlen] at this
    simp only [List.length_nil, Nat.add_zero]
    omega
  · have := q2.length
    rw [flatten_len q3] at this
    exact this.symm
end

end Go.Proofs.YtmjdoonaidolkaaDoor.V

/- A small logic of values over the model, part 9: append. -/
namespace Go.Proofs.YtmjdoonaidolkaaDoor.V

theorem arr_app (l : List Value) (A : Array Value) : l.toArray ++ A = (l ++ A.toList).toArray := by
  apply Array.ext'
  simp

theorem bytes_rep {w : World} {fr pi : Nat → Nat} (s : ByteArray) : Reps w fr pi (bytesAV s).flatten (byteCells s) [] := by
  unfold bytesAV byteCells
  generalize s.data.toList = l
  induction l with
  | nil => exact .nil
  | cons b r ih =>
    simp only [List.map_cons, List.flatten_cons]
    exact Reps.cons _ _ _ _ _ _ (.int .u8 b.toNat) ih

theorem bytesAV_length (s : ByteArray) : (bytesAV s).length = s.size := by
  unfold bytesAV
  rw [List.length_map, Array.length_toList]
  rfl

theorem bytesAV_sz (s : ByteArray) : ∀ x, x ∈ bytesAV s → x.length = 1 := by
  intro x hx
  obtain ⟨b, _, rfl⟩ := List.mem_map.1 hx
  rfl

theorem bytesAV_np (ok : Nat → Prop) (s : ByteArray) : ∀ x, x ∈ bytesAV s → ∀ a, a ∈ x → NP ok a := by
  intro x hx a ha
  obtain ⟨b, _, rfl⟩ := List.mem_map.1 hx
  simp at ha
  subst ha
  exact .int _ _

/-- What is appended: so many elements, their cells, their worth. -/
structure Srcs (P : Program) (w : World) (fr pi : Nat → Nat) (sz : Nat) (u : TypeId) (v : Value) (ys : List (List AV)) (news : List Value) : Prop where
  src : Src P sz u v ys.length news w
  rep : Reps w fr pi ys.flatten news []
  len : ∀ x, x ∈ ys → x.length = sz

theorem Good.append {P : Program} {o : Oper} {a : Act} {w : World} {fr pi : Nat → Nat} {own : Res → List Nat} {s : FS} (h : Rel w fr pi own s a.tmps) (hd : ∀ t, o.dst = some t → t < a.tmps.size) {x y : Operand} {vx : VX} {t u e : TypeId}
    (ho : o.op = .call { callee := .builtin .append, args := #[x, y], argTypes := #[t, u] }) (ht : P.underlying t = some (.slice e)) {i : TypeInfo} (hi : P.info? e = some i) {z : Value} (hz : i.zero = some z) (hzs : z.cells.size = i.size) (_h0 : i.size ≠ 0)
    (hx : resX x = some vx) {sz' : Nat} {nl : Option Bool} {ow : Bool} {xs : List (List AV)} (hsl : rdX s.sl vx = .sl sz' nl ow xs) (how : (ow = true ∧ sz' = i.size) ∨ (nl = some true ∧ xs.length = 0)) {ys : List (List AV)} {news : List Value}
    (hy : Srcs P w fr pi i.size u (a.eval y) ys news) (hyn : ∀ x, x ∈ ys → ∀ a, a ∈ x → NP s.has a) (hb : (xs.length + ys.length) * i.bytes ≤ 140737488355328) (hb2 : xs.length + ys.length ≤ 140737488355328) (fl : Bool) (vy : VX) :
    Good P o a w fr pi own s.has (s.after (takes fl (.app i.size i.bytes vx vy)) o.dst (.sl i.size (if nl = some false then some false else none) true (xs ++ ys)) none) := by
  obtain ⟨O, h1, h2, h3, h4⟩ := opnd h hx
  rw [hsl] at h1 h2
  have hxn : ∀ x, x ∈ xs → ∀ a, a ∈ x → NP s.has a := by
    cases h2 with
    | sl _ _ _ _ h2 => exact h2
  have hall : ∀ x, x ∈ xs ++ ys → ∀ a, a ∈ x → NP s.has a := fun x hx => by
    rcases List.mem_append.1 hx with hx | hx
    · exact hxn x hx
    · exact hyn x hx
  have hrunop : (execOp a.eval o).run P w = ((Builtin.append_ #[t, u] o.type #[a.eval x, a.eval y]).run P w).andThen fun v w' => .ok (.value v) w' := by
    simp [execOp, ho, Go.resolve, invoke, builtin]
  have hnl : (if nl = some false then some false else none : Option Bool) ≠ some true := by split <;> simp
  have hst1 : Step w w.drew fr fr (fun _ => False) := Step.drew w fr
  have hnewl := hy.src.newsLen
  rcases h1.sl_inv with ⟨hv, hxs, hnn, hO⟩ | ⟨_, _, _, _, hnn, _, hno⟩ | ⟨b, of, cap, vs, hv, hnn, hlen, hr, hcells, hcap, hown⟩
  · -- the first one is nil
    subst hxs
    simp only [List.nil_append, List.length_nil, Nat.zero_add] at *
    by_cases hm : ys.length = 0
    · have hys : ys = [] := List.eq_nil_of_length_eq_zero hm
      subst hys
      have hnews : news = [] := List.eq_nil_of_length_eq_zero (by simpa using hnewl)
      subst hnews
      have hr := run_append_nothing (P := P) w t u o.type e i ht hi none 0 0 (Nat.le_refl _) (a.eval y) hy.src
      rw [hv, hr] at hrunop
      obtain ⟨own', g1, g2⟩ := (h.strip (takes fl (.app i.size i.bytes vx vy))).putO (a := a) (d := o.dst) hd (Rep.slnil (w := w) (fr := fr) (pi := pi) i.size (if nl = some false then some false else none) true (by rw [if_neg hnn]; simp)) (.sl _ _ _ _ (by simp)) (by simp) (by simp) (by simp)
      refine ⟨_, _, w, fr, pi, own', hrunop, .inl rfl, g1, Ext.own fun r b hb => ?_⟩
      rcases g2 r b hb with ⟨r', h5⟩ | h5
      · exact ⟨r', ownStrip_sub h5⟩
      · simp at h5
    · have hr := run_append_grow_src (P := P) w t u o.type e i z ht hi hz none 0 0 [] (run_firstCells_none (P := P) w.drew i.size 0 0 0) (a.eval y) ys.length news hy.src (by omega) (by omega)
        (by have := growslice_fits (need := 0 + ys.length) (old := 0) (bytes := i.bytes) (by omega) (by simpa using hb); omega)
      rw [hv, hr] at hrunop
      refine Good.made h hd _ hst1 rfl (xs := ys) (vs := news) (rest := (Builtin.zeroCells z.cells (grownCap w (0 + ys.length) 0 e - (0 + ys.length))).toList) (cap := grownCap w (0 + ys.length) 0 e) (e := e) ?_ hy.rep hyn hy.len hy.src.one ?_ ?_ hnewl hnl
      · rw [hrunop]
        simp only [Result.andThen_ok, List.nil_append, Nat.zero_add, arr_app]
        rfl
      · have := grownCap_ge w (0 + ys.length) 0 e; omega
      · have := grownCap_ge w (0 + ys.length) 0 e
        simp only [Array.length_toList, size_zeroCells, hzs, hnewl, ← Nat.add_mul]
        exact Nat.mul_le_mul_right _ (by omega)
  · rcases how with hc | hc
    · rw [hno] at hc; cases hc.1
    · exact absurd hc.1 hnn
  · -- it is owned
    obtain ⟨rfl, rfl⟩ : ow = true ∧ sz' = i.size := by
      rcases how with hc | hc
      · exact hc
      · exact absurd hc.1 hnn
    rcases hown with ⟨hc, _⟩ | ⟨_, rfl, hsp⟩
    · cases hc
    have hvl : vs.length = xs.length * i.size := by rw [← hr.length, flatten_len hlen]
    obtain ⟨tx, hvx, hbo⟩ := h4 b (by simp)
    subst hvx
    have hnot : ∀ r b', b' ∈ ownStrip own [tx] r → b' ≠ b := by
      intro r b' hb' e
      subst e
      have := h.dj r (.slot tx) b' (ownStrip_sub hb') hbo
      subst this
      simp [ownStrip] at hb'
    have hT : takes fl (.app i.size i.bytes (.tmp tx) vy) = [tx] := rfl
    rw [hT]
    have hallen : ∀ x, x ∈ xs ++ ys → x.length = i.size := fun x hx => by
      rcases List.mem_append.1 hx with hx | hx
      · exact hlen x hx
      · exact hy.len x hx
    by_cases hroom : xs.length + ys.length ≤ cap
    · obtain ⟨⟨hfr, c, el, hh, hlim⟩, ho0⟩ := hsp
      have hmul : xs.length * i.size + ys.length * i.size ≤ cap * i.size := by rw [← Nat.add_mul]; exact Nat.mul_le_mul_right _ hroom
      have hcell : ∀ j, j < news.length → (w.cell? ⟨b, of + xs.length * i.size + j, none⟩).isSome = true := by
        intro j hj
        have hjj : of + xs.length * i.size + j < c.size := by omega
        simp [World.cell?, hh, Array.getElem?_eq_getElem hjj]
      have hr2 := run_append_room_src (P := P) w t u o.type e i ht hi b of xs.length cap (a.eval y) ys.length news hy.src hroom hcell (fun j hj => frozen_of_row w _ _ c el hh)
      rw [hv, hr2] at hrunop
      have hst := Step.setCells (w := w) (fr := fr) (b := b) (o := of + xs.length * i.size) (vs := news) hh (by omega) (by omega) (k := of + xs.length * i.size + news.length) (by omega)
      obtain ⟨c', q1, q2, q3⟩ := setCells_row b news (of + xs.length * i.size) w c el (0, 0) hh (by omega)
      have hRel := (h.strip [tx]).step hst hnot
      have hrep : Rep (w.setCells b (of + xs.length * i.size) news) (upd fr b (of + xs.length * i.size + news.length)) pi (.sl i.size (if nl = some false then some false else none) true (xs ++ ys))
          (.slice (some ⟨b, of, none⟩) (xs ++ ys).length cap) [b] := by
        refine .slown _ _ _ b of cap (vs ++ news) hnl hallen ?_ ?_ (by simpa using hroom) ?_
        · rw [List.flatten_append]
          have k1 := hr.mono hst (ok := s.has) (fun _ _ => rfl) (fun a ha => by obtain ⟨x, hx, hax⟩ := List.mem_flatten.1 ha; exact hxn x hx a hax) (by simp)
          have k2 := hy.rep.mono hst (ok := s.has) (fun _ _ => rfl) (fun a ha => by obtain ⟨x, hx, hax⟩ := List.mem_flatten.1 ha; exact hyn x hx a hax) (by simp)
          simpa using k1.append k2
        · intro k v hk
          by_cases hkl : k < vs.length
          · rw [List.getElem?_append_left hkl] at hk
            exact (hcells.mono hst) k v hk
          · rw [List.getElem?_append_right (by omega)] at hk
            have hk2 : k - vs.length < news.length := by
              rcases Nat.lt_or_ge (k - vs.length) news.length with h' | h'
              · exact h'
              · simp [List.getElem?_eq_none h'] at hk
            refine ⟨?_, by rw [upd_same]; omega, hy.src.one v (List.mem_of_getElem? hk)⟩
            simp only [World.cell?, q1]
            have : c'.toList[of + k]? = some v := by
              rw [q3, List.append_assoc, List.getElem?_append_right (by simp; omega), List.getElem?_append_left (by simp; omega)]
              rw [← hk]
              congr 1
              simp
              omega
            simpa using this
        · exact ⟨⟨by rw [upd_same, List.length_append, Nat.add_mul, hnewl]; omega, c', el, q1, by omega⟩, ho0⟩
      obtain ⟨own', g1, g2⟩ := hRel.putO (a := a) (d := o.dst) hd hrep (.sl _ _ _ _ hall) (by simp) (by
        intro b' hb'
        simp only [List.mem_singleton] at hb'
        subst hb'
        have := h.live _ _ hbo
        have := hst.size
        omega) (by
        intro b' hb' r hr'
        simp only [List.mem_singleton] at hb'
        exact hnot r b' hr' hb')
      have hlen2 : xs.length + ys.length = (xs ++ ys).length := by simp
      rw [hlen2] at hrunop
      refine ⟨_, _, _, _, pi, own', hrunop, .inl rfl, g1, ⟨hst.mono (fun b' hb' e => ⟨.slot tx, e ▸ hbo⟩), fun r b' hb' => ?_, fun _ _ => rfl⟩⟩
      rcases g2 r b' hb' with ⟨r', h5⟩ | h5
      · exact .inl ⟨r', ownStrip_sub h5⟩
      · simp only [List.mem_singleton] at h5
        exact .inl ⟨.slot tx, h5 ▸ hbo⟩
    · have hold : (Builtin.firstCells i.size xs.length (.slice (some ⟨b, of, none⟩) xs.length cap)).run P w.drew = .ok vs.toArray w.drew :=
        run_firstCells_some (P := P) w.drew i.size xs.length ⟨b, of, none⟩ xs.length cap vs hvl (fun j v hj => by rw [addr_add]; simpa using (hcells j v hj).1)
      have hr2 := run_append_grow_src (P := P) w t u o.type e i z ht hi hz (some ⟨b, of, none⟩) xs.length cap vs hold (a.eval y) ys.length news hy.src (by omega) (by omega)
        (by have := growslice_fits (need := xs.length + ys.length) (old := cap) (bytes := i.bytes) (by omega) hb; omega)
      rw [hv, hr2] at hrunop
      have hlen2 : xs.length + ys.length = (xs ++ ys).length := by simp
      refine Good.made h hd _ hst1 rfl (xs := xs ++ ys) (vs := vs ++ news) (rest := (Builtin.zeroCells z.cells (grownCap w (xs.length + ys.length) cap e - (xs.length + ys.length))).toList) (cap := grownCap w (xs.length + ys.length) cap e) (e := e) ?_
        (by rw [List.flatten_append]; simpa using hr.append hy.rep) hall hallen ?_ ?_ ?_ ?_ hnl
      · rw [hrunop, ← hlen2]
        simp only [Result.andThen_ok, arr_app]
        rfl
      · intro v hv'
        rcases List.mem_append.1 hv' with hv' | hv'
        · obtain ⟨k, hk⟩ := List.getElem?_of_mem hv'
          exact (hcells k v hk).2.2
        · exact hy.src.one v hv'
      · have := grownCap_ge w (xs.length + ys.length) cap e
        rw [List.length_append]; omega
      · have := grownCap_ge w (xs.length + ys.length) cap e
        simp only [Array.length_toList, size_zeroCells, hzs, List.length_append, hvl, hnewl, ← Nat.add_mul]
        exact Nat.mul_le_mul_right _ (by omega)
      · simp only [List.length_append, hvl, hnewl, ← Nat.add_mul]

end Go.Proofs.YtmjdoonaidolkaaDoor.V

/- A small logic of values over the model, part 10: the other operations. -/
namespace Go.Proofs.YtmjdoonaidolkaaDoor.V

theorem run_vbin {P : Program} {w : World} {op : BinOp} {t : TypeId} {x y : AV} {z : AV} (h : vbin op x y = some z) {fr pi : Nat → Nat} {u v : Value} {O O' : List Nat} (hu : Rep w fr pi x u O) (hv : Rep w fr pi y v O') {X Y : Operand} :
    ∃ r, ((do eqGuard op t X Y u v; binOp op t u v : Sem Value)).run P w = .ok r w ∧ Rep w fr pi z r [] ∧ (∀ ok, NP ok z) := by
  unfold vbin at h
  split at h
  · rename_i k a k' b
    have e1 := hu.int_inv
    have e2 := hv.int_inv
    subst e1 e2
    rw [eqGuard_at_int]
    cases op with
    | shl =>
      simp only at h
      split at h
      · cases h
      · rename_i hb
        cases h
        exact ⟨_, by simp [binOp, Op.shift, hb], .int _ _, fun _ => .int _ _⟩
    | shr =>
      simp only at h
      split at h
      · cases h
      · rename_i hb
        cases h
        exact ⟨_, by simp [binOp, Op.shift, hb], .int _ _, fun _ => .int _ _⟩
    | quo =>
      simp only at h
      split at h
      · rename_i hk
        subst hk
        simp only [vint] at h
        split at h
        · cases h
        · rename_i hb
          cases h
          exact ⟨_, by simp [binOp, Op.intDiv, hb], .int _ _, fun _ => .int _ _⟩
      · cases h
    | rem =>
      simp only at h
      split at h
      · rename_i hk
        subst hk
        simp only [vint] at h
        split at h
        · cases h
        · rename_i hb
          cases h
          exact ⟨_, by simp [binOp, Op.intDiv, hb], .int _ _, fun _ => .int _ _⟩
      · cases h
    | add | sub | mul =>
      simp only at h
      split at h
      · rename_i hk
        subst hk
        simp only [vint] at h
        cases h
        exact ⟨_, by simp [binOp, Op.intArith], .int _ _, fun _ => .int _ _⟩
      · cases h
    | and | or | xor | andNot =>
      simp only at h
      split at h
      · rename_i hk
        subst hk
        simp only [vint, vbits, Option.map_some] at h
        cases h
        exact ⟨_, by simp [binOp, Op.intBits], .int _ _, fun _ => .int _ _⟩
      · cases h
    | eql | neq | lss | leq | gtr | geq =>
      simp only at h
      split at h
      · rename_i hk
        subst hk
        simp only [vint, vcmp, Option.map_some] at h
        cases h
        exact ⟨_, by simp [binOp, Op.intCmp], .bool _, fun _ => .bool _⟩
      · cases h
  · rename_i a b
    have e1 := hu.str_inv
    have e2 := hv.str_inv
    subst e1 e2
    rw [eqGuard_at_string]
    cases op with
    | add =>
      simp only [vstr] at h
      split at h
      · rename_i hs
        cases h
        have hs' : ¬ (9223372036854775807 < (a.size : Int) + (b.size : Int)) := by omega
        exact ⟨_, by simp [binOp, Op.stringOp, hs'], .str _, fun _ => .str _⟩
      · cases h
    | eql | neq | lss | leq | gtr | geq =>
      simp only [vstr] at h
      cases h
      exact ⟨_, by simp [binOp, Op.stringOp], .bool _, fun _ => .bool _⟩
    | _ => simp [vstr] at h
  · cases h

def EK.fits : EK → TypeDesc → Prop
  | .ptr, d => ∃ e, d = .pointer e
  | .slice, d => ∃ e, d = .slice e
  | .iface, d => ∃ ms, d = .interface ms
  | .func, d => ∃ ps rs b, d = .func ps rs b

theorem run_eq_nil {P : Program} {w : World} {t : TypeId} {d : TypeDesc} (_hd : P.underlying t = some d) (u v : Value) (r : Bool) (hb : binOp .eql t u v = (do pure (.bool (← Op.equal t u v)) : Sem Value)) (hn : binOp .neq t u v = (do pure (.bool (!(← Op.equal t u v))) : Sem Value))
    (hr : ∀ q, (Op.equalIn (q + 1) t u v).run P w = .ok r w) {X : Operand} {c : Value} (hg : ∀ op, eqGuard op t X (.const c) u v = pure ()) (neq : Bool) :
    ((do eqGuard (if neq then .neq else .eql) t X (.const c) u v; binOp (if neq then .neq else .eql) t u v : Sem Value)).run P w = .ok (.bool (if neq then !r else r)) w := by
  have h1 : (Op.equal t u v).run P w = .ok r w := hr 9999
  rw [hg]
  cases neq <;> simp [hb, hn, h1]

theorem run_veqn {P : Program} {w : World} {t : TypeId} {k : EK} {d : TypeDesc} (hd : P.underlying t = some d) (hty : k.fits d) {x y : AV} {r : Bool} (h : veqn k x y = some r)
    {fr pi : Nat → Nat} {u v : Value} {O O' : List Nat} (hu : Rep w fr pi x u O) (hv : Rep w fr pi y v O') {X : Operand} (c : Value) (neq : Bool) :
    ((do eqGuard (if neq then .neq else .eql) t X (.const c) u v; binOp (if neq then .neq else .eql) t u v : Sem Value)).run P w = .ok (.bool (if neq then !r else r)) w := by
  cases k with
  | slice =>
    obtain ⟨e, rfl⟩ := hty
    simp only [veqn] at h
    split at h <;> try (cases h; done)
    split at h <;> try (cases h; done)
    rename_i a ow2 ys
    cases h
    have hv' : v = .slice none 0 0 := by
      rcases hv.sl_inv with ⟨hv', _⟩ | ⟨_, _, _, _, hn, _⟩ | ⟨_, _, _, _, _, hn, _⟩
      · exact hv'
      · exact absurd rfl hn
      · exact absurd rfl hn
    subst hv'
    rcases hu.sl_inv with ⟨hu', _, hn, _⟩ | ⟨_, _, hu', _, hn, _⟩ | ⟨b, o, cap, vs, hu', hn, _⟩
    · have : r = true := by cases r <;> simp_all
      subst this hu'
      exact run_eq_nil hd _ _ _ rfl rfl (fun q => by unfold Op.equalIn; rw [Sem.run_bind, run_underlying hd]; rfl) (fun op => eqGuard_at_slice ..) neq
    · have : r = false := by cases r <;> simp_all
      subst this hu'
      exact run_eq_nil hd _ _ _ rfl rfl (fun q => by unfold Op.equalIn; rw [Sem.run_bind, run_underlying hd]; rfl) (fun op => eqGuard_at_slice ..) neq
    · have : r = false := by cases r <;> simp_all
      subst this hu'
      exact run_eq_nil hd _ _ _ rfl rfl (fun q => by unfold Op.equalIn; rw [Sem.run_bind, run_underlying hd]; rfl) (fun op => eqGuard_at_slice ..) neq
  | ptr =>
    obtain ⟨e, rfl⟩ := hty
    simp only [veqn] at h
    split at h <;> try (cases h; done)
    have hv' := hv.ptrnil_inv
    subst hv'
    split at h
    · cases h
      have := hu.ptrnil_inv
      subst this
      exact run_eq_nil hd _ _ _ rfl rfl (fun q => by unfold Op.equalIn; rw [Sem.run_bind, run_underlying hd]; rfl) (fun op => eqGuard_at_pointer ..) neq
    · rename_i p
      cases h
      obtain ⟨i, off⟩ := p
      have := hu.ptr_inv.1
      subst this
      exact run_eq_nil hd _ _ _ rfl rfl (fun q => by unfold Op.equalIn; rw [Sem.run_bind, run_underlying hd]; rfl) (fun op => eqGuard_at_pointer ..) neq
    · cases h
      obtain ⟨b, o, vs, hu', _⟩ := hu.rptr_inv
      subst hu'
      exact run_eq_nil hd _ _ _ rfl rfl (fun q => by unfold Op.equalIn; rw [Sem.run_bind, run_underlying hd]; rfl) (fun op => eqGuard_at_pointer ..) neq
    · cases h
  | iface =>
    obtain ⟨e, rfl⟩ := hty
    simp only [veqn] at h
    split at h <;> try (cases h; done)
    have hv' := hv.niliface_inv
    subst hv'
    split at h
    · cases h
      obtain ⟨u', hu', _⟩ := hu.iface_inv
      subst hu'
      exact run_eq_nil hd _ _ _ rfl rfl (fun q => by unfold Op.equalIn; rw [Sem.run_bind, run_underlying hd]; rfl) (fun op => eqGuard_at_iface ..) neq
    · cases h
      have := hu.niliface_inv
      subst this
      exact run_eq_nil hd _ _ _ rfl rfl (fun q => by unfold Op.equalIn; rw [Sem.run_bind, run_underlying hd]; rfl) (fun op => eqGuard_nil_constR ..) neq
    · cases h
  | func =>
    obtain ⟨ps, rs, b, rfl⟩ := hty
    simp only [veqn] at h
    split at h <;> try (cases h; done)
    have hv' := hv.nilfunc_inv
    subst hv'
    split at h
    · cases h
      obtain ⟨vs, hu', _⟩ := hu.func_inv
      subst hu'
      exact run_eq_nil hd _ _ _ rfl rfl (fun q => by unfold Op.equalIn; rw [Sem.run_bind, run_underlying hd]; rfl) (fun op => eqGuard_at_func ..) neq
    · cases h
      have := hu.nilfunc_inv
      subst this
      exact run_eq_nil hd _ _ _ rfl rfl (fun q => by unfold Op.equalIn; rw [Sem.run_bind, run_underlying hd]; rfl) (fun op => eqGuard_at_nilFunc ..) neq
    · cases h

end Go.Proofs.YtmjdoonaidolkaaDoor.V

/- A small logic of values over the model, part 11: structs held against each other; every operation that only reckons. -/
namespace Go.Proofs.YtmjdoonaidolkaaDoor.V

theorem run_part_one {P : Program} {w : World} {t : TypeId} {d : TypeDesc} (hd : P.underlying t = some d) (h1 : ∀ fs, d ≠ .struct fs) (h2 : ∀ n e, d ≠ .array n e) {cs : Array Value} {off : Nat} {v : Value} (hv : cs[off]? = some v) :
    (part t cs off).run P w = .ok v w := by
  have : (isAgg t).run P w = .ok false w := by
    unfold isAgg
    rw [Sem.run_bind, run_underlying hd]
    simp only [Result.andThen_ok]
    cases d <;> first | rfl | (exfalso; exact h1 _ rfl) | (exfalso; exact h2 _ _ rfl)
  simp [part, this, hv]

theorem run_eqFields {P : Program} {w : World} {fr pi : Nat → Nat} (d : Nat) (Xs Ys : Array Value) : ∀ (fs : List Field) (n : Nat) (plan : List PK) (xs ys : List AV) (us vs : List Value) (r : Bool), planOf P n fs = some plan →
    veqs plan xs ys = some r → Reps w fr pi xs us [] → Reps w fr pi ys vs [] → (∀ k, Xs[n + k]? = us[k]?) → (∀ k, Ys[n + k]? = vs[k]?) → (Op.eqFields (d + 1) Xs Ys fs).run P w = .ok r w
  | [], n, plan, xs, ys, us, vs, r, hp, hr, hx, hy, hX, hY => by
    simp [planOf] at hp
    subst hp
    unfold veqs at hr
    split at hr <;> simp_all [Op.eqFields]
  | f :: fs, n, plan, xs, ys, us, vs, r, hp, hr, hx, hy, hX, hY => by
    simp only [planOf] at hp
    split at hp
    · cases hp
    rename_i hnm
    have hname : f.name ≠ "_" := fun e => hnm (.inl e)
    have hoff : f.offset = n := Classical.byContradiction fun e => hnm (.inr e)
    have go : ∀ (p : PK) (pl : List PK), plan = p :: pl → planOf P (n + 1) fs = some pl → (∀ (a b : AV) (u v : Value) (O O' : List Nat) (q : Bool), Rep w fr pi a u O → Rep w fr pi b v O' → veqs [p] [a] [b] = some q →
        (Op.equalIn (d + 1) f.type u v).run P w = .ok q w ∧ (part f.type Xs f.offset).run P w = (match Xs[n]? with | some v => .ok v w | none => (part f.type Xs f.offset).run P w) ∧
          (part f.type Ys f.offset).run P w = (match Ys[n]? with | some v => .ok v w | none => (part f.type Ys f.offset).run P w)) → (Op.eqFields (d + 1) Xs Ys (f :: fs)).run P w = .ok r w := by
      intro p pl hpl hrest hone
      subst hpl
      cases xs with
      | nil => cases p <;> simp [veqs] at hr
      | cons a as =>
        cases ys with
        | nil => cases p <;> cases a <;> simp [veqs] at hr
        | cons b bs =>
          obtain ⟨u, us', rfl, ha, has⟩ := hx.cons_inv0
          obtain ⟨v, vs', rfl, hb, hbs⟩ := hy.cons_inv0
          have hsplit : ∃ q r', veqs [p] [a] [b] = some q ∧ veqs pl as bs = some r' ∧ r = (q && r') := by
            cases p <;> cases a <;> cases b <;> simp only [veqs] at hr ⊢ <;> try (cases hr; done)
            · obtain ⟨r', h1, h2⟩ := Option.map_eq_some_iff.1 hr
              exact ⟨_, r', by simp, h1, h2.symm⟩
            · split at hr
              · rename_i hk
                obtain ⟨r', h1, h2⟩ := Option.map_eq_some_iff.1 hr
                exact ⟨_, r', by simp [hk], h1, h2.symm⟩
              · cases hr
            · obtain ⟨r', h1, h2⟩ := Option.map_eq_some_iff.1 hr
              exact ⟨_, r', by simp, h1, h2.symm⟩
          obtain ⟨q, r', h1, h2, h3⟩ := hsplit
          obtain ⟨k1, k2, k3⟩ := hone a b u v [] [] q ha hb h1
          have hX0 : Xs[n]? = some u := by simpa using hX 0
          have hY0 : Ys[n]? = some v := by simpa using hY 0
          rw [hX0] at k2
          rw [hY0] at k3
          have ih := run_eqFields d Xs Ys fs (n + 1) pl as bs us' vs' r' hrest h2 has hbs (fun k => by have := hX (k + 1); rw [show n + 1 + k = n + (k + 1) by omega]; simpa using this)
            (fun k => by have := hY (k + 1); rw [show n + 1 + k = n + (k + 1) by omega]; simpa using this)
          simp only [Op.eqFields, hname, ne_eq, not_false_eq_true, ↓reduceIte, Sem.run_bind, k2, k3, Result.andThen_ok, k1]
          cases q
          · simp [h3]
          · simpa [h3] using ih
    have part1 : ∀ (dd : TypeDesc), P.underlying f.type = some dd → (∀ fs, dd ≠ .struct fs) → (∀ n e, dd ≠ .array n e) → ∀ Zs : Array Value, (part f.type Zs f.offset).run P w = (match Zs[n]? with | some v => .ok v w | none => (part f.type Zs f.offset).run P w) := by
      intro dd hdd h1 h2 Zs
      cases hz : Zs[n]? with
      | none => rfl
      | some v => exact run_part_one hdd h1 h2 (by rw [hoff]; exact hz)
    split at hp
    · rename_i hu
      obtain ⟨pl, h1, rfl⟩ := Option.map_eq_some_iff.1 hp
      refine go _ pl rfl h1 fun a b u v O O' q ha hb hq => ⟨?_, part1 _ hu (by simp) (by simp) Xs, part1 _ hu (by simp) (by simp) Ys⟩
      cases a <;> cases b <;> simp [veqs] at hq
      rw [ha.bool_inv, hb.bool_inv, run_equalIn_bool' _ _ _ _ _ hu, hq]
    · rename_i k hu
      obtain ⟨pl, h1, rfl⟩ := Option.map_eq_some_iff.1 hp
      refine go _ pl rfl h1 fun a b u v O O' q ha hb hq => ⟨?_, part1 _ hu (by simp) (by simp) Xs, part1 _ hu (by simp) (by simp) Ys⟩
      cases a <;> cases b <;> simp [veqs] at hq
      obtain ⟨⟨rfl, rfl⟩, hq⟩ := hq
      rw [ha.int_inv, hb.int_inv, run_equalIn_int _ _ _ _ _ _ _ hu, hq]
    · rename_i hu
      obtain ⟨pl, h1, rfl⟩ := Option.map_eq_some_iff.1 hp
      refine go _ pl rfl h1 fun a b u v O O' q ha hb hq => ⟨?_, part1 _ hu (by simp) (by simp) Xs, part1 _ hu (by simp) (by simp) Ys⟩
      cases a <;> cases b <;> simp [veqs] at hq
      rw [ha.str_inv, hb.str_inv, run_equalIn_string _ _ _ _ _ hu, hq]
    · cases hp

end Go.Proofs.YtmjdoonaidolkaaDoor.V

/- A small logic of values over the model, part 12: every operation that calls nobody. -/
namespace Go.Proofs.YtmjdoonaidolkaaDoor.V

theorem NP.sl_inv {ok : Nat → Prop} {sz : Nat} {nl : Option Bool} {own : Bool} {xs : List (List AV)} (h : NP ok (.sl sz nl own xs)) : ∀ x, x ∈ xs → ∀ a, a ∈ x → NP ok a := by
  cases h with
  | sl _ _ _ _ h => exact h
theorem NP.agg_inv {ok : Nat → Prop} {xs : List AV} (h : NP ok (.agg xs)) : ∀ a, a ∈ xs → NP ok a := by
  cases h with
  | agg _ h => exact h
theorem NP.tup_inv {ok : Nat → Prop} {xs : List AV} (h : NP ok (.tup xs)) : ∀ a, a ∈ xs → NP ok a := by
  cases h with
  | tup _ h => exact h
theorem NP.rptr_inv {ok : Nat → Prop} {xs : List AV} (h : NP ok (.rptr xs)) : ∀ a, a ∈ xs → NP ok a := by
  cases h with
  | rptr _ h => exact h
theorem NP.ptr_inv {ok : Nat → Prop} {i off : Nat} (h : NP ok (.ptr (some (i, off)))) : ok i := by
  cases h with
  | ptr _ _ h => exact h

theorem run_loadCells_bytes {w : World} {fr pi : Nat → Nat} : ∀ {xs : List (List AV)} {l : List UInt8} {vs : List Value}, toBytes xs = some l → Reps w fr pi xs.flatten vs [] → ∃ ns : List Int, vs = ns.map (Value.int .u8) ∧ l = ns.map (fun n => UInt8.ofNat n.toNat)
  | [], l, vs, h, hr => by
    simp [toBytes] at h
    subst h
    cases vs with
    | nil => exact ⟨[], rfl, rfl⟩
    | cons v vs => cases hr
  | x :: xs, l, vs, h, hr => by
    unfold toBytes at h
    split at h
    · rename_i e; cases e
    · rename_i n r e
      cases e
      obtain ⟨l', h1, rfl⟩ := Option.map_eq_some_iff.1 h
      simp only [List.flatten_cons, List.singleton_append] at hr
      obtain ⟨v, vs', rfl, hv, hvs⟩ := hr.cons_inv0
      obtain ⟨ns, h2, h3⟩ := run_loadCells_bytes h1 hvs
      have := hv.int_inv
      subst this
      exact ⟨n :: ns, by simp [h2], by simp [h3]⟩
    · cases h

theorem run_bytesLoop {P : Program} {w : World} (f : Value → ByteArray → Sem (ForInStep ByteArray)) (hf : ∀ n r, f (.int .u8 n) r = pure (ForInStep.yield (r.push (UInt8.ofNat n.toNat)))) : ∀ (ns : List Int) (s : ByteArray),
    (forIn (ns.map (Value.int .u8)) s f).run P w = .ok ⟨s.data ++ (ns.map fun n => UInt8.ofNat n.toNat).toArray⟩ w
  | [], s => by simp
  | n :: ns, s => by
    simp only [List.map_cons, List.forIn_cons, Sem.run_bind, hf, Sem.run_pure, Result.andThen_ok]
    rw [run_bytesLoop f hf ns]
    congr 1
    simp [ByteArray.push]

theorem toBytes_sz : ∀ {xs : List (List AV)} {l : List UInt8}, toBytes xs = some l → ∀ x, x ∈ xs → x.length = 1
  | [], l, _, x, hx => by simp at hx
  | y :: ys, l, h, x, hx => by
    unfold toBytes at h
    split at h
    · rename_i e; cases e
    · rename_i n r e
      cases e
      obtain ⟨l', h1, _⟩ := Option.map_eq_some_iff.1 h
      rcases List.mem_cons.1 hx with rfl | hx
      · rfl
      · exact toBytes_sz h1 x hx
    · cases h

section
variable {P : Program} {o : Oper} {a : Act} {w : World} {fr pi : Nat → Nat} {own : Res → List Nat} {s : FS} (h : Rel w fr pi own s a.tmps) (hd : ∀ t, o.dst = some t → t < a.tmps.size)
include h hd

theorem good_un {op : UnOp} {t : TypeId} {x : Operand} {vx : VX} (ho : o.op = .unOp op t x) (hx : resX x = some vx) {z : AV} {b : Option (Nat × HObj)} {fl : Bool} {id : Nat}
    (he : ev fl s.sl s.bx id (.un op vx) = some (z, b)) : Good P o a w fr pi own s.has (s.after [] o.dst z b) := by
  obtain ⟨O, h1, h2, _⟩ := opnd h hx
  simp only [ev] at he
  split at he
  · rename_i b' hr
    rw [hr] at h1
    cases he
    exact Good.pure h hd (by simp [execOp, ho, h1.bool_inv, Op.unary]) (.bool _) (.bool _)
  · rename_i k n hr
    rw [hr] at h1
    cases he
    exact Good.pure h hd (by simp [execOp, ho, h1.int_inv, Op.unary, Op.intArith]) (.int _ _) (.int _ _)
  · cases he

theorem good_cvi {t d : TypeId} {x : Operand} {vx : VX} {k k' : IntKind} (ho : o.op = .convert t d x) (ht : P.underlying t = some (.int k')) (hdd : P.underlying d = some (.int k)) (hx : resX x = some vx) {z : AV} {b : Option (Nat × HObj)}
    {fl : Bool} {id : Nat} (he : ev fl s.sl s.bx id (.cvi k vx) = some (z, b)) : Good P o a w fr pi own s.has (s.after [] o.dst z b) := by
  obtain ⟨O, h1, h2, _⟩ := opnd h hx
  simp only [ev] at he
  split at he <;> cases he
  rename_i k2 n hr
  rw [hr] at h1
  exact Good.pure h hd (by simp [execOp, ho, h1.int_inv, convert, run_underlying ht, run_underlying hdd, Conv.intToInt]) (.int _ _) (.int _ _)

theorem good_cvid {t d : TypeId} {x : Operand} {vx : VX} (ho : o.op = .convert t d x) (ht : P.underlying t = some .string) (hdd : P.underlying d = some .string) (hx : resX x = some vx) {z : AV} {b : Option (Nat × HObj)}
    {fl : Bool} {id : Nat} (he : ev fl s.sl s.bx id (.cvid vx) = some (z, b)) : Good P o a w fr pi own s.has (s.after [] o.dst z b) := by
  obtain ⟨O, h1, h2, _⟩ := opnd h hx
  simp only [ev] at he
  split at he <;> cases he
  rename_i k hr
  rw [hr] at h1
  exact Good.pure h hd (by simp [execOp, ho, h1.str_inv, convert, run_underlying ht, run_underlying hdd]) (.str _) (.str _)

theorem good_cvsb {t d e : TypeId} {x : Operand} {vx : VX} (ho : o.op = .convert t d x) (ht : P.underlying t = some .string) (hdd : P.underlying d = some (.slice e)) (hee : P.underlying e = some (.int .u8)) (hx : resX x = some vx) {z : AV}
    {b : Option (Nat × HObj)} {fl : Bool} {id : Nat} (he : ev fl s.sl s.bx id (.cvsb vx) = some (z, b)) : Good P o a w fr pi own s.has (s.after [] o.dst z b) := by
  obtain ⟨O, h1, h2, _⟩ := opnd h hx
  simp only [ev] at he
  split at he <;> cases he
  rename_i bs hr
  rw [hr] at h1
  have hv := h1.str_inv
  -- the new row, then its mark
  let cap := grownCap w bs.size 0 e
  let row : Array Value := bs.data.map (fun b => Value.int .u8 b.toNat) ++ Array.replicate (cap - bs.size) (.int .u8 0)
  let w1 := w.drew.alloc (.cells row e)
  have hrow : row.size = cap := by
    have := grownCap_ge w bs.size 0 e
    simp only [row, Array.size_append, Array.size_map, Array.size_replicate]
    show bs.size + (cap - bs.size) = cap
    simp only [cap]
    omega
  have hrun : (execOp a.eval o).run P w = .ok (.value (.slice (some ⟨w.heap.size, 0, none⟩) bs.size cap)) (w1.freeze ⟨w.heap.size, row.size, none⟩ 1) := by
    have hsh : w1.shape? w.heap.size = some (e, row.size) := by
      simp only [World.shape?, w1]
      rw [show w.heap.size = w.drew.heap.size from rfl, heap_alloc_new]
    simp only [execOp, ho, convert, Sem.run_bind, run_underlying ht, run_underlying hdd, Result.andThen_ok, hv, run_underlying hee, Conv.stringToBytes, run_choose, Question.forced, Bool.false_eq_true, ↓reduceIte, newRow, run_newObj, World.alloc_eq,
      World.drew_eq, Sem.run_pure, markStringish, run_shape]
    have hsh' : (w.drew.alloc (Obj.cells (bs.data.map (fun b => Value.int .u8 b.toNat) ++ Array.replicate ((Question.appendCap bs.size 0 e).cut (w.tape w.drawn (Question.appendCap bs.size 0 e)) - bs.size) (.int .u8 0)) e)).shape? w.drew.heap.size = some (e, row.size) := hsh
    rw [hsh']
    simp only [Result.andThen_ok, run_freeze]
    rfl
  have hw2 : (w1.freeze ⟨w.heap.size, row.size, none⟩ 1).heap[w.heap.size]? = some (.cells row e (row.size, row.size + 1)) := by
    simp only [World.freeze, Nat.succ_ne_zero, ↓reduceIte, Array.getElem?_modify, w1]
    rw [show w.heap.size = w.drew.heap.size from rfl, heap_alloc_new]
    simp
  have hkept : ∀ k, k < w.heap.size → (w1.freeze ⟨w.heap.size, row.size, none⟩ 1).heap[k]? = w.heap[k]? := by
    intro k hk
    simp only [World.freeze, Nat.succ_ne_zero, ↓reduceIte, Array.getElem?_modify, w1]
    rw [if_neg (by omega)]
    exact Go.RowKit.Below.heap_alloc w.drew _ _ hk
  have hsize : (w1.freeze ⟨w.heap.size, row.size, none⟩ 1).heap.size = w.heap.size + 1 := by
    simp [World.freeze, w1]
  have st : Step w (w1.freeze ⟨w.heap.size, row.size, none⟩ 1) fr (upd fr w.heap.size bs.size) (fun _ => False) :=
    ⟨rfl, rfl, rfl, by omega, fun b hb _ => ⟨hkept b hb, upd_ne _ _ (by omega)⟩, fun _ _ h => h.elim⟩
  have hrep : Rep (w1.freeze ⟨w.heap.size, row.size, none⟩ 1) (upd fr w.heap.size bs.size) pi (.sl 1 (some false) false (bytesAV bs)) (.slice (some ⟨w.heap.size, 0, none⟩) (bytesAV bs).length cap) [] := by
    refine .sl 1 (some false) (bytesAV bs) w.heap.size 0 cap (byteCells bs) (by simp) (bytesAV_sz bs) (bytes_rep bs) (fun k v hk => ?_) (by rw [bytesAV_length]; exact grownCap_ge w bs.size 0 e)
    have hkl : k < bs.size := by
      rcases Nat.lt_or_ge k (byteCells bs).length with h' | h'
      · rwa [byteCells_length] at h'
      · simp [List.getElem?_eq_none h'] at hk
    refine ⟨?_, by rw [upd_same]; omega, ?_⟩
    · simp only [World.cell?, hw2, Nat.zero_add, Option.isSome_none, Bool.false_eq_true, ↓reduceIte]
      simp only [row]
      rw [Array.getElem?_append_left (by simpa using hkl)]
      simpa [byteCells] using hk
    · have := List.mem_of_getElem? hk
      simp only [byteCells, List.mem_map] at this
      obtain ⟨_, _, rfl⟩ := this
      rfl
  obtain ⟨own', g1, g2⟩ := (h.step st (fun _ _ _ h => h)).putO (a := a) (d := o.dst) hd hrep (.sl _ _ _ _ (bytesAV_np _ bs)) (by simp) (by simp) (by simp)
  rw [bytesAV_length] at g1
  refine ⟨_, _, _, _, _, own', hrun, .inl rfl, ?_, ⟨st.mono (fun _ _ h => h.elim), fun r b hb => ?_, fun _ _ => rfl⟩⟩
  · unfold FS.after
    rw [FS.strip_nil]
    exact g1
  · rcases g2 r b hb with h3 | h3
    · exact .inl h3
    · simp at h3

theorem good_cvbs {t d e : TypeId} {x : Operand} {vx : VX} (ho : o.op = .convert t d x) (ht : P.underlying t = some (.slice e)) (hdd : P.underlying d = some .string) (hee : P.underlying e = some (.int .u8)) (hx : resX x = some vx) {z : AV}
    {b : Option (Nat × HObj)} {fl : Bool} {id : Nat} (he : ev fl s.sl s.bx id (.cvbs vx) = some (z, b)) : Good P o a w fr pi own s.has (s.after [] o.dst z b) := by
  obtain ⟨O, h1, h2, _⟩ := opnd h hx
  simp only [ev] at he
  split at he <;> try (cases he; done)
  rename_i sz nl ow xs hr
  rw [hr] at h1
  obtain ⟨l, hl, e'⟩ := Option.map_eq_some_iff.1 he
  cases e'
  rcases h1.sl_inv with ⟨hv, hxs, _⟩ | ⟨ad, cap, hv, hxs, _⟩ | ⟨bl, of, cap, vs, hv, _, hsz, hrep, hc, _⟩
  · subst hxs
    simp [toBytes] at hl
    subst hl
    exact Good.pure h hd (v := .string ⟨#[]⟩) (by simp [execOp, ho, convert, run_underlying ht, run_underlying hdd, run_underlying hee, hv, Conv.bytesToString]; rfl) (.str _) (.str _)
  · subst hxs
    simp [toBytes] at hl
    subst hl
    have hld : (loadCells ad 0).run P w = .ok #[] w := run_loadCells_list w ad [] (fun j v hj => by simp at hj)
    exact Good.pure h hd (v := .string ⟨#[]⟩) (by simp [execOp, ho, convert, run_underlying ht, run_underlying hdd, run_underlying hee, hv, Conv.bytesToString, hld]; rfl) (.str _) (.str _)
  · obtain ⟨ns, hns, rfl⟩ := run_loadCells_bytes hl hrep
    have hlen : vs.length = xs.length := by
      have := toBytes_sz hl
      rw [← hrep.length, flatten_len this]
      omega
    have hld : (loadCells ⟨bl, of, none⟩ xs.length).run P w = .ok vs.toArray w := by
      rw [← hlen]
      exact run_loadCells_list w _ vs (fun j v hj => by rw [addr_add]; exact (hc j v hj).1)
    refine Good.pure h hd (v := .string ⟨(ns.map fun n => UInt8.ofNat n.toNat).toArray⟩) ?_ (.str _) (.str _)
    have hemp : (ByteArray.empty.data : Array UInt8) = #[] := rfl
    simp only [execOp, ho, convert, Sem.run_bind, run_underlying ht, run_underlying hdd, Result.andThen_ok, hv, run_underlying hee, Conv.bytesToString, hld]
    rw [← Array.forIn_toList]
    simp only [hns]
    rw [run_bytesLoop _ (fun _ _ => rfl), hemp]
    simp
end

end Go.Proofs.YtmjdoonaidolkaaDoor.V

/- A small logic of values over the model, part 13: the rest of the operations that call nobody. -/
namespace Go.Proofs.YtmjdoonaidolkaaDoor.V

theorem opnds0 {w : World} {fr pi : Nat → Nat} {own : Res → List Nat} {s : FS} {a : Act} (h : Rel w fr pi own s a.tmps) : ∀ {xs : List Operand} {vs : List VX}, resXs xs = some vs → Reps w fr pi (vs.map fun x => (rdX s.sl x).strip) (xs.map a.eval) [] ∧ ∀ c, c ∈ (vs.map fun x => (rdX s.sl x).strip) → NP s.has c
  | [], vs, hv => by
    simp [resXs] at hv
    subst hv
    exact ⟨.nil, by simp⟩
  | x :: xs, vs, hv => by
    simp only [resXs, Option.bind_eq_some_iff, Option.map_eq_some_iff] at hv
    obtain ⟨v, h1, r, h2, rfl⟩ := hv
    obtain ⟨k1, k2⟩ := opnd0 h h1
    obtain ⟨q1, q2⟩ := opnds0 h h2
    refine ⟨by simpa using Reps.cons _ _ _ _ _ _ k1 q1, fun c hc => ?_⟩
    simp only [List.map_cons, List.mem_cons] at hc
    rcases hc with rfl | hc
    · exact k2
    · exact q2 c hc

/-- The bounds of a slice expression. -/
theorem run_bounds {P : Program} {w : World} {fr pi : Nat → Nat} {own : Res → List Nat} {s : FS} {a : Act} (h : Rel w fr pi own s a.tmps) {x : Option Operand} {vx : Option VX} (hx : resO x = some vx) {n : Int} {m : Nat} (c : BoundsCode) (hn : (match vx with | none => True | some v => ∃ k, rdX s.sl v = .int k n)) (h0 : 0 ≤ n) (hm : n ≤ m) :
    match x with | none => vx = none | some y => (Instr.sliceBound (a.eval y) m c).run P w = .ok n.toNat w := by
  cases x with
  | none => simp [resO] at hx; exact hx.symm
  | some y =>
    simp only [resO, Option.map_eq_some_iff] at hx
    obtain ⟨v, h1, rfl⟩ := hx
    obtain ⟨O, k1, _⟩ := opnd h h1
    obtain ⟨k, hk⟩ := hn
    rw [hk] at k1
    simp [Instr.sliceBound, asIntOf, k1.int_inv, h0, hm]

section
variable {P : Program} {o : Oper} {a : Act} {w : World} {fr pi : Nat → Nat} {own : Res → List Nat} {s : FS} (h : Rel w fr pi own s a.tmps) (hd : ∀ t, o.dst = some t → t < a.tmps.size)
include h hd

theorem good_bin {op : BinOp} {t u : TypeId} {x y : Operand} {vx vy : VX} (ho : o.op = .binOp op t x y u) (hx : resX x = some vx) (hy : resX y = some vy) {z : AV} {b : Option (Nat × HObj)} {fl : Bool} {id : Nat}
    (he : ev fl s.sl s.bx id (.bin op vx vy) = some (z, b)) : Good P o a w fr pi own s.has (s.after [] o.dst z b) := by
  obtain ⟨O, h1, h2, _⟩ := opnd h hx
  obtain ⟨O', g1, g2, _⟩ := opnd h hy
  simp only [ev] at he
  obtain ⟨q, hq, e⟩ := Option.map_eq_some_iff.1 he
  cases e
  obtain ⟨r, k1, k2, k3⟩ := run_vbin (P := P) (t := t) hq h1 g1 (X := x) (Y := y)
  refine Good.pure h hd ?_ k2 (k3 _)
  simp only [execOp, ho, Sem.run_bind] at k1 ⊢
  rw [k1]
  rfl

theorem good_eqn {neq : Bool} {t u : TypeId} {d : TypeDesc} {k : EK} {x y : Operand} {vx vy : VX} (ho : o.op = .binOp (if neq then .neq else .eql) t x y u) (hdd : P.underlying t = some d) (hk : k.fits d) (hx : resX x = some vx) (hy : resX y = some vy) {z : AV}
    {b : Option (Nat × HObj)} {fl : Bool} {id : Nat} (he : ev fl s.sl s.bx id (.eqn k neq vx vy) = some (z, b)) : Good P o a w fr pi own s.has (s.after [] o.dst z b) := by
  obtain ⟨O, h1, h2, _⟩ := opnd h hx
  obtain ⟨O', g1, g2, _⟩ := opnd h hy
  simp only [ev] at he
  split at he <;> try (cases he; done)
  rename_i hc
  obtain ⟨q, hq, e⟩ := Option.map_eq_some_iff.1 he
  cases e
  have hcst : (∃ c, y = .const c) ∨ ∃ f, y = .func f := by
    cases y with
    | tmp t => simp [resX] at hy; subst hy; simp [isCst] at hc
    | const c => exact .inl ⟨c, rfl⟩
    | global g => simp [resX] at hy
    | func f => exact .inr ⟨f, rfl⟩
  rcases hcst with ⟨c, rfl⟩ | ⟨f, rfl⟩
  · have := run_veqn (P := P) (w := w) hdd hk hq h1 g1 (X := x) c neq
    refine Good.pure h hd (v := .bool (if neq then !q else q)) ?_ (.bool _) (.bool _)
    simp only [execOp, ho, Sem.run_bind] at this ⊢
    rw [this]
    rfl
  · simp only [resX] at hy
    cases hy
    cases k <;> simp [veqn, rdX] at hq

theorem good_eqv {neq : Bool} {t u : TypeId} {fs : Array Field} {plan : List PK} {x y : Operand} {vx vy : VX} (ho : o.op = .binOp (if neq then .neq else .eql) t x y u) (hu : P.underlying t = some (.struct fs)) (hp : P.stoodInHeld t = false)
    (hg : P.eqGuardType P.depth t = false) (hpl : planOf P 0 fs.toList = some plan) (hx : resX x = some vx) (hy : resX y = some vy) {z : AV} {b : Option (Nat × HObj)} {fl : Bool} {id : Nat}
    (he : ev fl s.sl s.bx id (.eqv neq plan vx vy) = some (z, b)) : Good P o a w fr pi own s.has (s.after [] o.dst z b) := by
  obtain ⟨h1, _⟩ := opnd0 h hx
  obtain ⟨g1, _⟩ := opnd0 h hy
  simp only [ev] at he
  split at he <;> try (cases he; done)
  rename_i xs ys e1 e2
  rw [e1] at h1
  rw [e2] at g1
  obtain ⟨q, hq, e⟩ := Option.map_eq_some_iff.1 he
  cases e
  simp only [AV.strip] at h1 g1
  obtain ⟨us, hus, r1⟩ := h1.agg_inv
  obtain ⟨vs, hvs, r2⟩ := g1.agg_inv
  have hq' : veqs plan (AV.stripL xs) (AV.stripL ys) = some q := by
    have key : ∀ (p : List PK) (xs ys : List AV) (q : Bool), veqs p xs ys = some q → veqs p (AV.stripL xs) (AV.stripL ys) = some q := by
      intro p
      induction p with
      | nil =>
        intro xs ys q hh
        cases xs <;> cases ys <;> simp [veqs, AV.stripL] at hh ⊢
        exact hh
      | cons k p ih =>
        intro xs ys q hh
        cases xs with
        | nil => cases k <;> simp [veqs] at hh
        | cons x xs =>
          cases ys with
          | nil => cases k <;> cases x <;> simp [veqs] at hh
          | cons y ys =>
            cases k <;> cases x <;> cases y <;> simp only [veqs, AV.stripL, AV.strip] at hh ⊢ <;> try (cases hh; done)
            · obtain ⟨r, k1, k2⟩ := Option.map_eq_some_iff.1 hh
              rw [ih _ _ _ k1, ← k2]; rfl
            · split at hh
              · rename_i hk
                rw [if_pos hk]
                obtain ⟨r, k1, k2⟩ := Option.map_eq_some_iff.1 hh
                rw [ih _ _ _ k1, ← k2]; rfl
              · cases hh
            · obtain ⟨r, k1, k2⟩ := Option.map_eq_some_iff.1 hh
              rw [ih _ _ _ k1, ← k2]; rfl
    exact key _ _ _ _ hq
  have hrun := run_eqFields (P := P) (w := w) 9998 us.toArray vs.toArray fs.toList 0 plan _ _ us vs q hpl hq' r1 r2 (by simp) (by simp)
  have hf : P.fieldsOf t = fs := by simp [Program.fieldsOf, hu]
  have heq : (Op.equalIn 10000 t (.agg us.toArray) (.agg vs.toArray)).run P w = .ok q w := by
    rw [show (10000 : Nat) = 9999 + 1 from rfl, run_equalIn_struct (P := P) w 9999 t _ _ (by rw [hf]; exact hu) hp, hf]
    exact hrun
  refine Good.pure h hd (v := .bool (if neq then !q else q)) ?_ (.bool _) (.bool _)
  cases neq with
  | false =>
    simp only [execOp, ho, Sem.run_bind, hus, hvs, run_eqGuard_agg _ _ _ _ _ _ _ hg, Result.andThen_ok, run_eql_struct, heq, Bool.false_eq_true, ↓reduceIte, Sem.run_pure]
  | true =>
    simp only [execOp, ho, Sem.run_bind, hus, hvs, run_eqGuard_agg _ _ _ _ _ _ _ hg, Result.andThen_ok, run_neq_struct, heq, ↓reduceIte, Sem.run_pure]

theorem good_ifc {t : TypeId} {d : TypeDesc} {x : Operand} {vx : VX} (ho : o.op = .makeInterface t x) (hdd : P.underlying t = some d) (hni : ∀ ms, d ≠ .interface ms) (hx : resX x = some vx) :
    Good P o a w fr pi own s.has (s.after [] o.dst (.iface t (rdX s.sl vx).strip) none) := by
  obtain ⟨h1, h2⟩ := opnd0 h hx
  refine Good.pure h hd (v := .iface t (a.eval x)) ?_ (.iface _ _ _ h1) (.iface _ _ h2)
  simp only [execOp, ho, Instr.makeInterface, Sem.run_bind, run_underlying hdd, Result.andThen_ok]
  cases d <;> first | rfl | (exfalso; exact hni _ rfl)

theorem good_fn {f : Nat} {first caps : Array Operand} {l : List VX} (ho : o.op = .makeFunc (.func f) first caps) (hf : first.isEmpty = true) (hl : resXs caps.toList = some l) :
    Good P o a w fr pi own s.has (s.after [] o.dst (.func f (l.map fun x => (rdX s.sl x).strip)) none) := by
  obtain ⟨k1, k2⟩ := opnds0 h hl
  have he : first = #[] := by simpa using hf
  refine Good.pure h hd (v := .func (.func f) #[] (caps.toList.map a.eval).toArray) ?_ (.func _ _ _ k1) (.func _ _ k2)
  have hc : (caps.toList.map a.eval).toArray = caps.map a.eval := by
    apply Array.ext'
    simp
  rw [hc]
  simp [execOp, ho, Instr.makeFunc, he]

theorem good_slstr {t : TypeId} {x : Operand} {lo hi : Option Operand} {vx : VX} {vl vh : Option VX} (ho : o.op = .slice t x lo hi none) (ht : P.underlying t = some .string) (hx : resX x = some vx) (hlo : resO lo = some vl) (hhi : resO hi = some vh)
    {z : AV} {b : Option (Nat × HObj)} {fl : Bool} {id : Nat} (he : ev fl s.sl s.bx id (.slstr vx vl vh) = some (z, b)) : Good P o a w fr pi own s.has (s.after [] o.dst z b) := by
  obtain ⟨O, h1, h2, _⟩ := opnd h hx
  simp only [ev] at he
  split at he <;> try (cases he; done)
  rename_i bs hr
  rw [hr] at h1
  split at he <;> try (cases he; done)
  rename_i l u e1 e2
  split at he <;> try (cases he; done)
  rename_i hc
  obtain ⟨c1, c2, c3⟩ := hc
  cases he
  have hl := run_bounds h (P := P) hlo (n := l) (m := u.toNat) .sliceB (by
    cases vl with
    | none => trivial
    | some v =>
      simp only [vlow] at e1
      split at e1 <;> cases e1
      rename_i k hk; exact ⟨_, hk⟩) c1 (by omega)
  have hu := run_bounds h (P := P) hhi (n := u) (m := bs.size) .sliceAlen (by
    cases vh with
    | none => trivial
    | some v =>
      simp only [vhigh] at e2
      split at e2 <;> cases e2
      rename_i k hk; exact ⟨_, hk⟩) (by omega) c3
  have hb : (Instr.sliceBounds false bs.size bs.size (lo.map a.eval) (hi.map a.eval) none).run P w = .ok (l.toNat, u.toNat, bs.size) w := by
    unfold Instr.sliceBounds
    cases lo with
    | none =>
      simp only at hl
      subst hl
      simp [vlow] at e1
      subst e1
      cases hi with
      | none =>
        simp only at hu
        subst hu
        simp [vhigh] at e2
        subst e2
        simp
      | some y => simp [hu]
    | some y =>
      cases hi with
      | none =>
        simp only at hu
        subst hu
        simp [vhigh] at e2
        subst e2
        simp at hl
        simp [hl]
      | some y' => simp [hl, hu]
  refine Good.pure h hd (v := .string (bs.extract l.toNat u.toNat)) ?_ (.str _) (.str _)
  have hna : (Instr.sliceAt t (a.eval x) (lo.map a.eval) (hi.map a.eval) none).run P w = .ok (.string (bs.extract l.toNat u.toNat)) w := by
    unfold Instr.sliceAt
    rw [Sem.run_bind, run_underlying ht]
    simp only [Result.andThen_ok, Instr.slice, Sem.run_bind, run_underlying ht, h1.str_inv, Option.isSome_none, Bool.false_eq_true, ↓reduceIte, hb, Sem.run_pure]
  simp [execOp, ho, hna]

omit hd in
theorem slsl_run {t e : TypeId} {x : Operand} {lo hi : Option Operand} {vl vh : Option VX} {sz : Nat} (ho : o.op = .slice t x lo hi none) (ht : P.underlying t = some (.slice e)) (hs : szOf P e = some sz)
    (hlo : resO lo = some vl) (hhi : resO hi = some vh) {ad : Option Addr} {n cap : Nat} {l u : Int} (hv : a.eval x = .slice ad n cap) (hcap : n ≤ cap) (e1 : vlow s.sl vl = some l) (e2 : vhigh s.sl n vh = some u) (c1 : 0 ≤ l) (c2 : l ≤ u) (c3 : u ≤ n) :
    (execOp a.eval o).run P w = .ok (.value (.slice (if cap = l.toNat then ad else ad.map (·.add (l.toNat * sz))) (u.toNat - l.toNat) (cap - l.toNat))) w := by
  have hl := run_bounds h (P := P) hlo (n := l) (m := u.toNat) .sliceB (by
    cases vl with
    | none => trivial
    | some v =>
      simp only [vlow] at e1
      split at e1 <;> cases e1
      rename_i k hk; exact ⟨_, hk⟩) c1 (by omega)
  have hu := run_bounds h (P := P) hhi (n := u) (m := cap) .sliceAcap (by
    cases vh with
    | none => trivial
    | some v =>
      simp only [vhigh] at e2
      split at e2 <;> cases e2
      rename_i k hk; exact ⟨_, hk⟩) (by omega) (by omega)
  have hb : (Instr.sliceBounds true n cap (lo.map a.eval) (hi.map a.eval) none).run P w = .ok (l.toNat, u.toNat, cap) w := by
    unfold Instr.sliceBounds
    cases lo with
    | none =>
      simp only at hl
      subst hl
      simp [vlow] at e1
      subst e1
      cases hi with
      | none =>
        simp only at hu
        subst hu
        simp [vhigh] at e2
        subst e2
        simp
      | some y => simp [hu]
    | some y =>
      cases hi with
      | none =>
        simp only at hu
        subst hu
        simp [vhigh] at e2
        subst e2
        simp at hl
        simp [hl]
      | some y' => simp [hl, hu]
  unfold szOf at hs
  obtain ⟨ti, hti, rfl⟩ := Option.map_eq_some_iff.1 hs
  have hna : (Instr.sliceAt t (a.eval x) (lo.map a.eval) (hi.map a.eval) none).run P w = .ok (.slice (if cap = l.toNat then ad else ad.map (·.add (l.toNat * ti.size))) (u.toNat - l.toNat) (cap - l.toNat)) w := by
    unfold Instr.sliceAt
    rw [Sem.run_bind, run_underlying ht]
    simp only [Result.andThen_ok, Instr.slice, Sem.run_bind, run_underlying ht, hv, hb, sizeOf, typeInfo, run_program, hti, Sem.run_pure]
  simp [execOp, ho, hna]

omit h hd in
theorem slices_get {xs : List (List AV)} {sz : Nat} (hl : ∀ x, x ∈ xs → x.length = sz) {w : World} {fr pi : Nat → Nat} {vs : List Value} {bl : Nat} (hr : Reps w fr pi xs.flatten vs []) (hc : CellsAt w fr bl 0 vs) {k n cap : Nat} (hk : k + n ≤ xs.length) (hcap : n ≤ cap) :
    Rep w fr pi (.sl sz (some false) false ((xs.drop k).take n)) (.slice (some ⟨bl, k * sz, none⟩) n cap) [] := by
  have hsplit : xs.flatten = (xs.take k).flatten ++ (((xs.drop k).take n).flatten ++ ((xs.drop k).drop n).flatten) := by
    rw [← List.flatten_append, ← List.flatten_append, List.take_append_drop, List.take_append_drop]
  rw [hsplit] at hr
  obtain ⟨u1, u23, O1, O23, q1, q2, r1, r23⟩ := hr.split
  obtain ⟨u2, u3, O2, O3, q3, q4, r2, r3⟩ := r23.split
  obtain ⟨rfl, rfl⟩ := List.append_eq_nil_iff.1 q2.symm
  obtain ⟨rfl, rfl⟩ := List.append_eq_nil_iff.1 q4.symm
  subst q3
  have hl1 : u1.length = k * sz := by
    rw [← r1.length, flatten_len (sz := sz) (fun y hy => hl y (List.mem_of_mem_take hy)), List.length_take]
    congr 1
    omega
  have hlen : ((xs.drop k).take n).length = n := by simp; omega
  have := Rep.sl (w := w) (fr := fr) (pi := pi) sz (some false) ((xs.drop k).take n) bl (k * sz) cap u2 (by simp) (fun y hy => hl y (List.mem_of_mem_drop (List.mem_of_mem_take hy))) r2 (by
    have hc2 : CellsAt w fr bl 0 (u1 ++ u2 ++ u3) := by rw [List.append_assoc, ← q1]; exact hc
    have hsub := hc2.sub
    rw [hl1, Nat.zero_add] at hsub
    exact hsub) (by omega)
  rwa [hlen] at this

theorem good_slslB {t e : TypeId} {x : Operand} {lo hi : Option Operand} {vx : VX} {vl vh : Option VX} {sz : Nat} (ho : o.op = .slice t x lo hi none) (ht : P.underlying t = some (.slice e)) (hs : szOf P e = some sz) (hx : resX x = some vx)
    (hlo : resO lo = some vl) (hhi : resO hi = some vh) {z : AV} {b : Option (Nat × HObj)} {fl : Bool} {bi off n : Nat} (hr : rdX s.sl vx = .bsl sz bi off n) {l u : Int} (e1 : vlow s.sl vl = some l) (e2 : vhigh s.sl n vh = some u)
    (c1 : 0 ≤ l) (c2 : l ≤ u) (c3 : u ≤ n) (he : (match fl with
          | true => match s.bx bi with
            | some (.arr sz2 xs) => if sz2 = sz ∧ off + n ≤ xs.length then some (AV.sl sz (some false) false ((xs.drop (off + l.toNat)).take (u.toNat - l.toNat)), some (bi, HObj.ro xs.flatten)) else none
            | _ => none
          | false => some (.bsl sz bi (off + l.toNat) (u.toNat - l.toNat), none)) = some (z, b)) : Good P o a w fr pi own s.has (s.after [] o.dst z b) := by
  obtain ⟨h1, h2⟩ := opnd0 h hx
  rw [hr] at h1 h2
  have hshape : ∃ ad cap, a.eval x = .slice (some ad) n cap ∧ n ≤ cap ∧ (n = 0 ∨ (ad = ⟨pi bi, off * sz, none⟩ ∧ ∃ c e fz, w.heap[pi bi]? = some (.cells c e fz) ∧ (off + cap) * sz ≤ c.size)) := by
    simp only [AV.strip] at h1
    generalize hq : a.eval x = vv at h1
    cases h1 with
    | bsl _ _ _ _ cap hc hrow => exact ⟨_, cap, rfl, hc, .inr ⟨rfl, hrow⟩⟩
    | bsl0 _ _ _ cap ad => exact ⟨ad, cap, rfl, Nat.zero_le _, .inl rfl⟩
  obtain ⟨ad, cap, hv, hcap, had⟩ := hshape
  have hrun := slsl_run h (w := w) ho ht hs hlo hhi hv hcap e1 e2 c1 c2 c3
  have hid : s.has bi := by
    simp only [AV.strip] at h2
    cases h2 with
    | bsl _ _ _ _ hid => exact hid
  have hcase : u.toNat - l.toNat = 0 ∨ (cap ≠ l.toNat ∧ (ad = ⟨pi bi, off * sz, none⟩ ∧ ∃ c e fz, w.heap[pi bi]? = some (.cells c e fz) ∧ (off + cap) * sz ≤ c.size)) := by
    rcases had with had | had
    · exact .inl (by omega)
    · by_cases hz : u.toNat - l.toNat = 0
      · exact .inl hz
      · exact .inr ⟨by omega, had⟩
  cases fl with
  | false =>
    simp only at he
    cases he
    refine Good.pure h hd hrun ?_ (.bsl _ _ _ _ hid)
    rcases hcase with hz | ⟨hcl, rfl, c, e', fz, hrow, hle⟩
    · rw [hz]
      by_cases hcl : cap = l.toNat
      · rw [if_pos hcl]; exact .bsl0 _ _ _ _ _
      · rw [if_neg hcl]; exact .bsl0 _ _ _ _ _
    · rw [if_neg hcl]
      simp only [Option.map_some, addr_add, ← Nat.add_mul]
      refine .bsl _ _ _ _ _ (by omega) ⟨c, e', fz, hrow, ?_⟩
      have : off + l.toNat + (cap - l.toNat) = off + cap := by omega
      rw [this]
      exact hle
  | true =>
    simp only at he
    split at he <;> try (cases he; done)
    rename_i sz2 xs hb
    split at he <;> try (cases he; done)
    rename_i hc
    obtain ⟨rfl, c4⟩ := hc
    cases he
    obtain ⟨k1, k2, k3, k4, _⟩ := h.arr hb
    obtain ⟨fr', vs, q1, q2, q5, q3, q4⟩ := h.freeze hb
    have hnp : NP s.has (.sl sz2 (some false) false ((xs.drop (off + l.toNat)).take (u.toNat - l.toNat))) := .sl _ _ _ _ (fun y hy => k3 y (List.mem_of_mem_drop (List.mem_of_mem_take hy)))
    have hrel : Rel w fr' pi (upd own (.box bi) []) { s.strip [] with bx := upd s.bx bi (some (.ro xs.flatten)) } a.tmps := by
      rw [FS.strip_nil]
      exact q1
    refine Good.turned hd [] hb q5 (.inl rfl) hrun hrel (fun r b hb => by
      by_cases e : r = .box bi
      · subst e; rw [upd_same] at hb; simp at hb
      · rwa [upd_ne _ _ e] at hb) q2 ?_ hnp
    rcases hcase with hz | ⟨hcl, rfl, _⟩
    · rw [hz, List.take_zero]
      by_cases hcl : cap = l.toNat
      · rw [if_pos hcl]; exact .slempty _ _ _ _ (by simp)
      · rw [if_neg hcl]; exact .slempty _ _ _ _ (by simp)
    · rw [if_neg hcl]
      simp only [Option.map_some, addr_add, ← Nat.add_mul]
      exact slices_get k4 q3 q4 (by omega) (by omega)

theorem good_slsl {t e : TypeId} {x : Operand} {lo hi : Option Operand} {vx : VX} {vl vh : Option VX} {sz : Nat} (ho : o.op = .slice t x lo hi none) (ht : P.underlying t = some (.slice e)) (hs : szOf P e = some sz) (hx : resX x = some vx)
    (hlo : resO lo = some vl) (hhi : resO hi = some vh) {z : AV} {b : Option (Nat × HObj)} {fl : Bool} {id : Nat} (he : ev fl s.sl s.bx id (.slsl sz vx vl vh) = some (z, b)) : Good P o a w fr pi own s.has (s.after [] o.dst z b) := by
  obtain ⟨h1, h2⟩ := opnd0 h hx
  simp only [ev] at he
  split at he <;> try (cases he; done)
  rotate_left
  · rename_i sz' bi off n hr
    split at he <;> try (cases he; done)
    rename_i l u e1 e2
    split at he <;> try (cases he; done)
    rename_i hc
    obtain ⟨rfl, c1, c2, c3⟩ := hc
    exact good_slslB h hd ho ht hs hx hlo hhi hr e1 e2 c1 c2 c3 he
  rename_i sz' nl ow xs hr
  rw [hr] at h1 h2
  split at he <;> try (cases he; done)
  rename_i l u e1 e2
  split at he <;> try (cases he; done)
  rename_i hc
  obtain ⟨c0, c1, c2, c3⟩ := hc
  cases he
  simp only [AV.strip] at h1 h2
  have hshape : ∃ ad cap, a.eval x = .slice ad xs.length cap ∧ xs.length ≤ cap := by
    rcases h1.sl_inv with ⟨hv, hxs, _⟩ | ⟨ad, cap, hv, hxs, _⟩ | ⟨bl, of, cap, vs, hv, _, _, _, _, hcap, _⟩
    · exact ⟨none, 0, by rw [hv, hxs]; rfl, by rw [hxs]; simp⟩
    · exact ⟨some ad, cap, by rw [hv, hxs]; rfl, by rw [hxs]; simp⟩
    · exact ⟨_, cap, hv, hcap⟩
  obtain ⟨ad, cap, hv, hcap⟩ := hshape
  have hrun := slsl_run h (w := w) ho ht hs hlo hhi hv hcap e1 e2 c1 c2 c3
  have hsz := hs
  unfold szOf at hsz
  obtain ⟨ti, hti, rfl⟩ := Option.map_eq_some_iff.1 hsz
  have hlen : ((xs.drop l.toNat).take (u.toNat - l.toNat)).length = u.toNat - l.toNat := by simp; omega
  have hnp : NP s.has (.sl ti.size nl false ((xs.drop l.toNat).take (u.toNat - l.toNat))) := .sl _ _ _ _ (fun y hy => h2.sl_inv y (List.mem_of_mem_drop (List.mem_of_mem_take hy)))
  rcases h1.sl_inv with ⟨hv', hxs, hnn, _⟩ | ⟨ad', cap', hv', hxs, hnn, _⟩ | ⟨bl, of, cap', vs, hv', hnn, hlen0, hrep, hcells, hcap', _⟩
  · subst hxs
    rw [hv] at hv'
    simp only [List.length_nil] at c3 hv'
    cases hv'
    have e3 : l.toNat = 0 := by omega
    have e4 : u.toNat = 0 := by omega
    rw [e3, e4] at hrun hnp ⊢
    refine Good.pure h hd hrun ?_ hnp
    simpa using Rep.slnil ti.size nl false hnn
  · subst hxs
    rw [hv] at hv'
    simp only [List.length_nil] at c3 hv'
    cases hv'
    have e3 : l.toNat = 0 := by omega
    have e4 : u.toNat = 0 := by omega
    rw [e3, e4] at hrun hnp ⊢
    refine Good.pure h hd hrun ?_ hnp
    by_cases hcl : cap = 0
    · rw [if_pos hcl]
      simpa using Rep.slempty ti.size nl ad' cap hnn
    · rw [if_neg hcl]
      simpa using Rep.slempty ti.size nl (ad'.add 0) cap hnn
  · rw [hv] at hv'
    cases hv'
    have hszz : xs.length = 0 ∨ sz' = ti.size := by omega
    -- an address, whichever
    have hsplit : xs.flatten = (xs.take l.toNat).flatten ++ (((xs.drop l.toNat).take (u.toNat - l.toNat)).flatten ++ ((xs.drop l.toNat).drop (u.toNat - l.toNat)).flatten) := by
      rw [← List.flatten_append, ← List.flatten_append, List.take_append_drop, List.take_append_drop]
    rw [hsplit] at hrep
    obtain ⟨u1, u23, O1, O23, q1, q2, r1, r23⟩ := hrep.split
    obtain ⟨u2, u3, O2, O3, q3, q4, r2, r3⟩ := r23.split
    obtain ⟨rfl, rfl⟩ := List.append_eq_nil_iff.1 q2.symm
    obtain ⟨rfl, rfl⟩ := List.append_eq_nil_iff.1 q4.symm
    subst q3
    have hl1 : u1.length = l.toNat * sz' := by
      rw [← r1.length, flatten_len (sz := sz') (fun y hy => hlen0 y (List.mem_of_mem_take hy)), List.length_take]
      congr 1
      omega
    have hlen2 : ∀ y, y ∈ (xs.drop l.toNat).take (u.toNat - l.toNat) → y.length = sz' := fun y hy => hlen0 y (List.mem_of_mem_drop (List.mem_of_mem_take hy))
    by_cases hz : u.toNat - l.toNat = 0
    · -- nothing is left
      have hempty : (xs.drop l.toNat).take (u.toNat - l.toNat) = [] := by rw [hz]; simp
      rw [hempty] at hnp ⊢
      have hgo : ∀ (bl2 of2 : Nat), Rep w fr pi (.sl ti.size nl false []) (.slice (some ⟨bl2, of2, none⟩) (u.toNat - l.toNat) (cap - l.toNat)) [] := by
        intro bl2 of2
        rw [hz]
        exact .sl ti.size nl [] bl2 of2 _ [] hnn (by simp) .nil (fun k v hk => by simp at hk) (by simp)
      by_cases hcl : cap = l.toNat
      · rw [if_pos hcl] at hrun
        exact Good.pure h hd hrun (hgo _ _) hnp
      · rw [if_neg hcl] at hrun
        simp only [Option.map_some, addr_add] at hrun
        exact Good.pure h hd hrun (hgo _ _) hnp
    · have hszt : sz' = ti.size := by omega
      subst hszt
      have hcl : ¬ cap = l.toNat := by omega
      rw [if_neg hcl] at hrun
      simp only [Option.map_some, addr_add] at hrun
      refine Good.pure h hd hrun ?_ hnp
      have := Rep.sl (w := w) (fr := fr) (pi := pi) ti.size nl ((xs.drop l.toNat).take (u.toNat - l.toNat)) bl (of + l.toNat * ti.size) (cap - l.toNat) u2 hnn hlen2 r2 (by
        have hc2 : CellsAt w fr bl of (u1 ++ u2 ++ u3) := by rw [List.append_assoc, ← q1]; exact hcells
        have hsub := hc2.sub
        rw [hl1] at hsub
        exact hsub) (by omega)
      rw [hlen] at this
      exact this

theorem good_fld {t : TypeId} {fs : Array Field} {f : Nat} {fd : Field} {sz : Nat} {x : Operand} {vx : VX} (ho : o.op = .fieldAddr t x f) (ht : P.underlying t = some (.struct fs)) (hf : fs[f]? = some fd) (hs : szOf P fd.type = some sz) (h0 : sz ≠ 0)
    (hx : resX x = some vx) {z : AV} {b : Option (Nat × HObj)} {fl : Bool} {id : Nat} (he : ev fl s.sl s.bx id (.fld fd.offset vx) = some (z, b)) : Good P o a w fr pi own s.has (s.after [] o.dst z b) := by
  obtain ⟨O, h1, h2, _⟩ := opnd h hx
  unfold szOf at hs
  obtain ⟨ti, hti, rfl⟩ := Option.map_eq_some_iff.1 hs
  have hrun : ∀ (bl of : Nat), a.eval x = .pointer (some ⟨bl, of, none⟩) → (execOp a.eval o).run P w = .ok (.value (.pointer (some ⟨bl, of + fd.offset, none⟩))) w := by
    intro bl of hv
    simp [execOp, ho, Instr.fieldAt, run_underlying ht, hf, Instr.sureAddr, hv, fieldPlace, sizeOf, typeInfo, hti, h0, addr_add]
  simp only [ev] at he
  split at he
  · rename_i i of hr
    rw [hr] at h1 h2
    cases he
    exact Good.pure h hd (hrun _ _ h1.ptr_inv.1) (.ptr _ _) (.ptr _ _ h2.ptr_inv)
  · rename_i cs hr
    rw [hr] at h1 h2
    cases he
    obtain ⟨bl, of, vs, hv, r1, r2, _⟩ := h1.rptr_inv
    have hs : cs = cs.take fd.offset ++ cs.drop fd.offset := (List.take_append_drop _ _).symm
    rw [hs] at r1
    obtain ⟨u1, u2, O1, O2, q1, q2, k1, k2⟩ := r1.split
    obtain ⟨rfl, rfl⟩ := List.append_eq_nil_iff.1 q2.symm
    by_cases hle : fd.offset ≤ cs.length
    · have hu1 : u1.length = fd.offset := by rw [← k1.length, List.length_take]; omega
      refine Good.pure h hd (hrun _ _ hv) (.rptr _ _ _ u2 k2 ?_) (.rptr _ (fun a ha => h2.rptr_inv a (List.mem_of_mem_drop ha)))
      have hc2 : CellsAt w fr bl of (u1 ++ u2 ++ []) := by rw [List.append_nil, ← q1]; exact r2
      have hsub := hc2.sub
      rw [hu1] at hsub
      exact hsub
    · have hdr : cs.drop fd.offset = [] := List.drop_eq_nil_of_le (by omega)
      rw [hdr]
      exact Good.pure h hd (hrun _ _ hv) (.rptr _ _ _ [] .nil (fun k v hk => by simp at hk)) (.rptr _ (by simp))
  · cases he

theorem good_ext {x : Operand} {i : Nat} {vx : VX} (ho : o.op = .extract x i) (hx : resX x = some vx) {z : AV} {b : Option (Nat × HObj)} {fl : Bool} {id : Nat} (he : ev fl s.sl s.bx id (.ext vx i) = some (z, b)) :
    Good P o a w fr pi own s.has (s.after [] o.dst z b) := by
  obtain ⟨O, h1, h2, _⟩ := opnd h hx
  simp only [ev] at he
  split at he <;> try (cases he; done)
  rename_i vs hr
  rw [hr] at h1 h2
  obtain ⟨c, hc, e⟩ := Option.map_eq_some_iff.1 he
  cases e
  obtain ⟨us, hv, r1⟩ := h1.tup_inv
  obtain ⟨v, O', k1, k2, _⟩ := r1.get hc
  exact Good.pure h hd (v := v) (by simp [execOp, ho, Instr.extract, hv, k1]) k2.strip (h2.tup_inv c (List.mem_of_getElem? hc)).strip

theorem good_eqb {neq : Bool} {t u : TypeId} {x y : Operand} {vx vy : VX} (ho : o.op = .binOp (if neq then .neq else .eql) t x y u) (ht : P.underlying t = some .bool) (hx : resX x = some vx) (hy : resX y = some vy) {z : AV}
    {b : Option (Nat × HObj)} {fl : Bool} {id : Nat} (he : ev fl s.sl s.bx id (.eqb neq vx vy) = some (z, b)) : Good P o a w fr pi own s.has (s.after [] o.dst z b) := by
  obtain ⟨O, h1, h2, _⟩ := opnd h hx
  obtain ⟨O', g1, g2, _⟩ := opnd h hy
  simp only [ev] at he
  split at he <;> cases he
  rename_i p q hp hq
  rw [hp] at h1
  rw [hq] at g1
  cases neq with
  | true =>
    refine Good.pure h hd (v := .bool (!(p == q))) ?_ (.bool _) (.bool _)
    simp [execOp, ho, h1.bool_inv, g1.bool_inv, eqGuard_at_bool, run_neq_bool w t p q ht]
  | false =>
    refine Good.pure h hd (v := .bool (p == q)) ?_ (.bool _) (.bool _)
    simp [execOp, ho, h1.bool_inv, g1.bool_inv, eqGuard_at_bool, run_eql_bool w t p q ht]

theorem good_mm {mx : Bool} {ts : Array TypeId} {x y : Operand} {vx vy : VX} (ho : o.op = .call { callee := .builtin (if mx then .max else .min), args := #[x, y], argTypes := ts }) (hx : resX x = some vx) (hy : resX y = some vy) {z : AV}
    {b : Option (Nat × HObj)} {fl : Bool} {id : Nat} (he : ev fl s.sl s.bx id (.mm mx vx vy) = some (z, b)) : Good P o a w fr pi own s.has (s.after [] o.dst z b) := by
  obtain ⟨O, h1, h2, _⟩ := opnd h hx
  obtain ⟨O', g1, g2, _⟩ := opnd h hy
  simp only [ev] at he
  split at he <;> cases he
  rename_i k p k' q hp hq
  rw [hp] at h1
  rw [hq] at g1
  cases mx with
  | true =>
    refine Good.pure h hd (v := .int k (if q > p then q else p)) ?_ (.int _ _) (.int _ _)
    simp [execOp, ho, Go.resolve, invoke, builtin, Builtin.max_, Builtin.max2, h1.int_inv, g1.int_inv]
  | false =>
    refine Good.pure h hd (v := .int k (if q < p then q else p)) ?_ (.int _ _) (.int _ _)
    simp [execOp, ho, Go.resolve, invoke, builtin, Builtin.min_, Builtin.min2, h1.int_inv, g1.int_inv]

theorem good_lens {x : Operand} {t : TypeId} {vx : VX} (ho : o.op = .call { callee := .builtin .len, args := #[x], argTypes := #[t] }) (hs : P.underlying t = some .string) (hx : resX x = some vx) {z : AV}
    {b : Option (Nat × HObj)} {fl : Bool} {id : Nat} (he : ev fl s.sl s.bx id (.lens vx) = some (z, b)) : Good P o a w fr pi own s.has (s.after [] o.dst z b) := by
  obtain ⟨O, h1, h2, _⟩ := opnd h hx
  simp only [ev] at he
  split at he <;> cases he
  rename_i bs hr
  rw [hr] at h1
  exact Good.pure h hd (v := .int .i64 bs.size) (by simp [execOp, ho, Go.resolve, invoke, builtin, Builtin.len_, run_underlying hs, h1.str_inv, goInt]) (.int _ _) (.int _ _)

theorem good_lenl {x : Operand} {t e : TypeId} {vx : VX} (ho : o.op = .call { callee := .builtin .len, args := #[x], argTypes := #[t] }) (hs : P.underlying t = some (.slice e)) (hx : resX x = some vx) {z : AV}
    {b : Option (Nat × HObj)} {fl : Bool} {id : Nat} (he : ev fl s.sl s.bx id (.lenl vx) = some (z, b)) : Good P o a w fr pi own s.has (s.after [] o.dst z b) := by
  obtain ⟨O, h1, h2, _⟩ := opnd h hx
  simp only [ev] at he
  split at he <;> cases he
  rotate_left
  · rename_i sz bi off n hr
    rw [hr] at h1
    have hv : ∃ ad cap, a.eval x = .slice (some ad) n cap := by
      generalize hq : a.eval x = vv at h1
      cases h1 with
      | bsl _ _ _ _ cap hc => exact ⟨_, cap, rfl⟩
      | bsl0 _ _ _ cap ad => exact ⟨ad, cap, rfl⟩
    obtain ⟨ad, cap, hv⟩ := hv
    exact Good.pure h hd (v := .int .i64 n) (by simp [execOp, ho, Go.resolve, invoke, builtin, Builtin.len_, run_underlying hs, hv, goInt]) (.int _ _) (.int _ _)
  rename_i sz nl ow xs hr
  rw [hr] at h1
  rcases h1.sl_inv with ⟨hv, hxs, _⟩ | ⟨ad, cap, hv, hxs, _⟩ | ⟨bl, of, cap, vs, hv, _⟩
  · subst hxs
    exact Good.pure h hd (v := .int .i64 0) (by simp [execOp, ho, Go.resolve, invoke, builtin, Builtin.len_, run_underlying hs, hv, goInt]) (.int _ _) (.int _ _)
  · subst hxs
    exact Good.pure h hd (v := .int .i64 0) (by simp [execOp, ho, Go.resolve, invoke, builtin, Builtin.len_, run_underlying hs, hv, goInt]) (.int _ _) (.int _ _)
  · exact Good.pure h hd (v := .int .i64 xs.length) (by simp [execOp, ho, Go.resolve, invoke, builtin, Builtin.len_, run_underlying hs, hv, goInt]) (.int _ _) (.int _ _)
end

end Go.Proofs.YtmjdoonaidolkaaDoor.V

/- A small logic of values over the model, part 14: every operation that calls nobody, in one. -/
namespace Go.Proofs.YtmjdoonaidolkaaDoor.V

section
variable {P : Program} {o : Oper} {a : Act} {w : World} {fr pi : Nat → Nat} {own : Res → List Nat} {s : FS} (h : Rel w fr pi own s a.tmps) (hd : ∀ t, o.dst = some t → t < a.tmps.size)
include h hd

theorem good_fldv {t : TypeId} {fs : Array Field} {f : Nat} {fd : Field} {g : Option Nat} {x : Operand} {vx : VX} (ho : o.op = .field t x f) (ht : P.underlying t = some (.struct fs)) (hf : fs[f]? = some fd) (hg : aggOf P fd.type = some g)
    (hx : resX x = some vx) {z : AV} {b : Option (Nat × HObj)} {fl : Bool} {id : Nat} (he : ev fl s.sl s.bx id (.fldv fd.offset g vx) = some (z, b)) : Good P o a w fr pi own s.has (s.after [] o.dst z b) := by
  obtain ⟨O, h1, h2, _⟩ := opnd h hx
  simp only [ev] at he
  split at he <;> try (cases he; done)
  rename_i cs hr
  rw [hr] at h1 h2
  obtain ⟨c, hc, e⟩ := Option.map_eq_some_iff.1 he
  cases e
  obtain ⟨vs, hv, r1⟩ := h1.agg_inv
  have hn := h2.agg_inv
  have hlen := r1.length
  unfold aggOf at hg
  cases g with
  | none =>
    simp only [ldCells, Option.map_eq_some_iff] at hc
    obtain ⟨c', k1, rfl⟩ := hc
    obtain ⟨v, O', k2, k3, _⟩ := r1.get k1
    have hpart : (part fd.type vs.toArray fd.offset).run P w = .ok v w := by
      split at hg
      · simp at hg
      · simp at hg
      · rename_i d hd1 hd2 hu
        exact run_part_one hu (fun fs e => hd1 fs e) (fun n e' e => hd2 n e' e) (by simpa using k2)
      · simp at hg
    exact Good.pure h hd (v := v) (by simp [execOp, ho, Instr.field, run_underlying ht, hf, hv, asAgg, hpart]) k3.strip (hn c' (List.mem_of_getElem? k1)).strip
  | some n =>
    simp only [ldCells] at hc
    split at hc <;> try (cases hc; done)
    rename_i hle
    cases hc
    obtain ⟨us, O', k1, k2, _, k3⟩ := r1.sub fd.offset n hle
    have hus : us.toArray = vs.toArray.extract fd.offset (fd.offset + n) := by
      apply Array.ext'
      apply List.ext_getElem?
      intro k
      by_cases hk : k < n
      · have h1 : us[k]? = some (us[k]'(by omega)) := List.getElem?_eq_getElem (by omega)
        have := k3 k _ h1
        simp [hk, this]
      · rw [List.getElem?_eq_none (by simpa [k2] using Nat.le_of_not_lt hk), List.getElem?_eq_none (by simp; omega)]
    have hpart : (part fd.type vs.toArray fd.offset).run P w = .ok (.agg us.toArray) w := by
      have hsz : szOf P fd.type = some n ∧ (isAgg fd.type).run P w = .ok true w := by
        split at hg
        · rename_i hu
          obtain ⟨m, hm, e⟩ := Option.map_eq_some_iff.1 hg
          cases e
          exact ⟨hm, by unfold isAgg; rw [Sem.run_bind, run_underlying hu]; rfl⟩
        · rename_i hu
          obtain ⟨m, hm, e⟩ := Option.map_eq_some_iff.1 hg
          cases e
          exact ⟨hm, by unfold isAgg; rw [Sem.run_bind, run_underlying hu]; rfl⟩
        · simp at hg
        · simp at hg
      obtain ⟨q1, q2⟩ := hsz
      unfold szOf at q1
      obtain ⟨ti, hti, rfl⟩ := Option.map_eq_some_iff.1 q1
      simp [part, q2, sizeOf, typeInfo, hti, hus]
    refine Good.pure h hd (v := .agg us.toArray) (by simp [execOp, ho, Instr.field, run_underlying ht, hf, hv, asAgg, hpart]) (.agg _ _ _ k1.strip) (.agg _ (fun c hc => ?_))
    rw [AV.stripL_eq] at hc
    obtain ⟨y, hy, rfl⟩ := List.mem_map.1 hc
    exact (hn y (List.mem_of_mem_drop (List.mem_of_mem_take hy))).strip

theorem good_ixa {t e : TypeId} {x i : Operand} {vx vi : VX} {sz : Nat} (ho : o.op = .indexAddr t x i) (ht : P.underlying t = some (.slice e)) (hs : szOf P e = some sz) (hx : resX x = some vx) (hi : resX i = some vi) {z : AV}
    {b : Option (Nat × HObj)} {fl : Bool} {id : Nat} (he : ev fl s.sl s.bx id (.ixa sz vx vi) = some (z, b)) : Good P o a w fr pi own s.has (s.after [] o.dst z b) := by
  obtain ⟨h1, h2⟩ := opnd0 h hx
  obtain ⟨O, g1, g2, _⟩ := opnd h hi
  simp only [ev] at he
  split at he <;> try (cases he; done)
  rotate_left
  · rename_i sz' bi off m k n hr hr2
    rw [hr] at h1 h2
    rw [hr2] at g1
    simp only [AV.strip] at h1 h2
    split at he <;> try (cases he; done)
    rename_i hc
    obtain ⟨rfl, h0, hnm⟩ := hc
    cases he
    unfold szOf at hs
    obtain ⟨ti, hti, rfl⟩ := Option.map_eq_some_iff.1 hs
    have hv : ∃ cap, a.eval x = .slice (some ⟨pi bi, off * ti.size, none⟩) m cap := by
      generalize hq : a.eval x = vv at h1
      cases h1 with
      | bsl _ _ _ _ cap hc => exact ⟨cap, rfl⟩
      | bsl0 _ _ _ cap ad => omega
    obtain ⟨cap, hv⟩ := hv
    have hid : s.has bi := by
      cases h2 with
      | bsl _ _ _ _ hid => exact hid
    refine Good.pure h hd (v := .pointer (some ⟨pi bi, (off + n.toNat) * ti.size, none⟩)) ?_ (.ptr _ _) (.ptr _ _ hid)
    simp [execOp, ho, Instr.indexAt, asIntOf, g1.int_inv, run_underlying ht, hv, h0, hnm, sizeOf, typeInfo, hti, addr_add, Nat.add_mul]
  rename_i sz' nl ow xs k n hr hr2
  rw [hr] at h1 h2
  rw [hr2] at g1
  simp only [AV.strip] at h1 h2
  split at he <;> try (cases he; done)
  rename_i hc
  obtain ⟨rfl, h0⟩ := hc
  obtain ⟨c, hcc, e'⟩ := Option.map_eq_some_iff.1 he
  cases e'
  have hnl : n.toNat < xs.length := by
    rcases Nat.lt_or_ge n.toNat xs.length with h' | h'
    · exact h'
    · simp [List.getElem?_eq_none h'] at hcc
  unfold szOf at hs
  obtain ⟨ti, hti, rfl⟩ := Option.map_eq_some_iff.1 hs
  rcases h1.sl_inv with ⟨hv, hxs, _⟩ | ⟨_, _, hv, hxs, _⟩ | ⟨bl, of, cap, vs, hv, _, hlen, hrep, hcells, _⟩
  · subst hxs; simp at hnl
  · subst hxs; simp at hnl
  · have hrun : (execOp a.eval o).run P w = .ok (.value (.pointer (some ⟨bl, of + n.toNat * ti.size, none⟩))) w := by
      have hlt : n < (xs.length : Int) := by omega
      simp [execOp, ho, Instr.indexAt, asIntOf, g1.int_inv, run_underlying ht, hv, h0, hlt, sizeOf, typeInfo, hti, addr_add]
    have hsplit : xs.flatten = (xs.take n.toNat).flatten ++ (c ++ (xs.drop (n.toNat + 1)).flatten) := by
      rw [← List.flatten_cons, ← List.flatten_append]
      congr 1
      have hget : xs[n.toNat]'hnl = c := by
        rw [List.getElem?_eq_getElem hnl] at hcc
        exact Option.some.inj hcc
      rw [← hget, ← List.drop_eq_getElem_cons hnl, List.take_append_drop]
    rw [hsplit] at hrep
    obtain ⟨u1, u23, O1, O23, q1, q2, r1, r23⟩ := hrep.split
    obtain ⟨u2, u3, O2, O3, q3, q4, r2, r3⟩ := r23.split
    obtain ⟨rfl, rfl⟩ := List.append_eq_nil_iff.1 q2.symm
    obtain ⟨rfl, rfl⟩ := List.append_eq_nil_iff.1 q4.symm
    subst q3
    have hl1 : u1.length = n.toNat * ti.size := by
      rw [← r1.length, flatten_len (sz := ti.size) (fun y hy => hlen y (List.mem_of_mem_take hy)), List.length_take]
      congr 1
      omega
    refine Good.pure h hd hrun (.rptr c bl _ u2 r2 ?_) (.rptr _ (h2.sl_inv c (List.mem_of_getElem? hcc)))
    have hc2 : CellsAt w fr bl of (u1 ++ u2 ++ u3) := by rw [List.append_assoc, ← q1]; exact hcells
    have hsub := hc2.sub
    rw [hl1] at hsub
    exact hsub

theorem good_ixarr {t e : TypeId} {x i : Operand} {vx vi : VX} {n sz : Nat} (ho : o.op = .indexAddr t x i) (ht : P.underlying t = some (.array n e)) (hs : szOf P e = some sz) (hx : resX x = some vx) (hi : resX i = some vi) {z : AV}
    {b : Option (Nat × HObj)} {fl : Bool} {id : Nat} (he : ev fl s.sl s.bx id (.ixarr n sz vx vi) = some (z, b)) : Good P o a w fr pi own s.has (s.after [] o.dst z b) := by
  obtain ⟨O', h1, h2, _⟩ := opnd h hx
  obtain ⟨O, g1, g2, _⟩ := opnd h hi
  simp only [ev] at he
  split at he <;> try (cases he; done)
  rename_i bb off k j hr hr2
  rw [hr] at h1 h2
  rw [hr2] at g1
  split at he <;> try (cases he; done)
  rename_i hc
  obtain ⟨c1, c2⟩ := hc
  cases he
  unfold szOf at hs
  obtain ⟨ti, hti, rfl⟩ := Option.map_eq_some_iff.1 hs
  refine Good.pure h hd (v := .pointer (some ⟨pi bb, off + j.toNat * ti.size, none⟩)) ?_ (.ptr _ _) (.ptr _ _ h2.ptr_inv)
  simp [execOp, ho, Instr.indexAt, asIntOf, g1.int_inv, run_underlying ht, Instr.sureAddr, h1.ptr_inv.1, c1, c2, sizeOf, typeInfo, hti, addr_add]

theorem good_ixs {t : TypeId} {x i : Operand} {vx vi : VX} (ho : o.op = .index t x i) (ht : P.underlying t = some .string) (hx : resX x = some vx) (hi : resX i = some vi) {z : AV} {b : Option (Nat × HObj)} {fl : Bool} {id : Nat}
    (he : ev fl s.sl s.bx id (.ixs vx vi) = some (z, b)) : Good P o a w fr pi own s.has (s.after [] o.dst z b) := by
  obtain ⟨O', h1, h2, _⟩ := opnd h hx
  obtain ⟨O, g1, g2, _⟩ := opnd h hi
  simp only [ev] at he
  split at he <;> try (cases he; done)
  rename_i bs k n hr hr2
  rw [hr] at h1
  rw [hr2] at g1
  split at he <;> try (cases he; done)
  rename_i h0
  obtain ⟨c, hc, e⟩ := Option.map_eq_some_iff.1 he
  cases e
  have hb : bs[n.toNat]? = some c := by
    have hlt : n.toNat < bs.data.size := by
      rcases Nat.lt_or_ge n.toNat bs.data.size with h' | h'
      · exact h'
      · simp [Array.getElem?_eq_none h'] at hc
    rw [Array.getElem?_eq_getElem hlt] at hc
    have hlt' : n.toNat < bs.size := hlt
    rw [getElem?_pos bs n.toNat hlt']
    exact hc
  exact Good.pure h hd (v := .int .u8 c.toNat) (by simp [execOp, ho, Instr.index, asIntOf, g1.int_inv, run_underlying ht, h1.str_inv, h0, hb]) (.int _ _) (.int _ _)

theorem good_mk {t e : TypeId} {x y : Operand} {vx : VX} (ho : o.op = .makeSlice t x y) (ht : P.underlying t = some (.slice e)) {i : TypeInfo} (hi : P.info? e = some i) {z0 : AV} (hz : zeroOf P e = some z0) (h0 : i.size ≠ 0) (hzl : z0.cells.length = i.size)
    (hx : resX x = some vx) (hxy : a.eval y = a.eval x) {z : AV} {b : Option (Nat × HObj)} {fl : Bool} {id : Nat} (hid : s.bx id = none) (he : ev fl s.sl s.bx id (.mk i.size i.bytes z0.cells vx) = some (z, b)) : Good P o a w fr pi own s.has (s.after [] o.dst z b) := by
  obtain ⟨O, h1, h2, _⟩ := opnd h hx
  simp only [ev] at he
  split at he <;> try (cases he; done)
  rename_i k hr
  rw [hr] at h1
  split at he <;> try (cases he; done)
  rename_i hc
  obtain ⟨c1, c2, c3, c4⟩ := hc
  unfold zeroOf at hz
  obtain ⟨v, g1, g2⟩ := Option.bind_eq_some_iff.1 hz
  obtain ⟨i', hi', hv⟩ := Option.bind_eq_some_iff.1 g1
  rw [hi] at hi'
  cases hi'
  obtain ⟨r1, r2⟩ := avOf_rep (w := w) (fr := fr) (pi := pi) (ok := s.has) g2
  have hne : z0.cells ≠ [] := fun e => by rw [e] at hzl; simp at hzl; omega
  have hcr := cells_rep r1 hne
  have hvs : v.cells.size = i.size := by have := hcr.length; simp at this; omega
  have hlenx : ∀ x, x ∈ List.replicate k.toNat z0.cells → x.length = i.size := fun x hx => by rw [List.eq_of_mem_replicate hx]; exact hzl
  have hrepx := replicate_rep hcr k.toNat
  have hl2 := hrepx.length
  rw [flatten_len hlenx, List.length_replicate] at hl2
  have hcells : ((Array.range (k.toNat * i.size)).map fun j => (if k.toNat * i.size = 0 then #[] else v.cells)[j % (if k.toNat * i.size = 0 then (#[] : Array Value) else v.cells).size]!) = ((List.replicate k.toNat v.cells.toList).flatten).toArray := by
    apply Array.ext'
    by_cases hn : k.toNat * i.size = 0
    · have : k.toNat = 0 := by
        rcases Nat.mul_eq_zero.1 hn with h | h
        · exact h
        · omega
      rw [this]
      simp
    · rw [if_neg hn, ← hvs]
      exact zero_cells v.cells (by omega) k.toNat
  have hwrap : IntKind.i64.wrap k = k := by
    simp [IntKind.wrap, IntKind.bits, IntKind.signed]
    omega
  have hrun : (execOp a.eval o).run P w = .ok (.value (.slice (some ⟨w.heap.size, 0, none⟩) k.toNat k.toNat)) (w.alloc (.cells ((List.replicate k.toNat v.cells.toList).flatten).toArray e)) := by
    have e1 : a.eval x = .int .i64 k := h1.int_inv
    have hb1 : ¬ (k < 0) := by omega
    have hb2 : ¬ ((i.bytes : Int) * k > 2 ^ 48) := by
      have : (i.bytes : Int) * k = k * i.bytes := Int.mul_comm _ _
      omega
    simp only [execOp, ho, Instr.makeSlice, Sem.run_bind, run_underlying ht, Result.andThen_ok, hxy, e1, asInt, asIntOf, Sem.run_pure, typeInfo, run_program, hi, hwrap, hb1, hb2, decide_false, Bool.or_false, Bool.false_or, Int.lt_irrefl, gt_iff_lt,
      Bool.false_eq_true, ↓reduceIte, run_askRoom, sizeOf]
    by_cases hn : k.toNat * i.size = 0
    · simp only [hn, ↓reduceIte] at hcells
      simp only [hn, ↓reduceIte, Sem.run_pure, Result.andThen_ok, hcells, newRow, Sem.run_bind, run_newObj, World.alloc_eq]
    · simp only [hn, ↓reduceIte] at hcells
      simp only [hn, ↓reduceIte, zeroValue, typeInfo, Sem.run_bind, run_program, hi, hv, Sem.run_pure, Result.andThen_ok, hcells, newRow, run_newObj, World.alloc_eq]
  have hone := ones_rep hrepx (all_flatten (fun x hx => by rw [List.eq_of_mem_replicate hx]; exact c4))
  have hnpx : ∀ x, x ∈ List.replicate k.toNat z0.cells → ∀ a, a ∈ x → NP s.has a := fun x hx => by rw [List.eq_of_mem_replicate hx]; exact r2.cells
  cases fl with
  | false =>
    simp only at he
    cases he
    refine Good.made h hd [] (w1 := w) (Step.refl _ _ _) rfl (sz := i.size) (cap := k.toNat) (nl := some false) (xs := List.replicate k.toNat z0.cells) (vs := (List.replicate k.toNat v.cells.toList).flatten) (rest := []) (e := e) (by rw [List.append_nil, List.length_replicate]; exact hrun) hrepx
      hnpx hlenx hone (by simp) (by simp only [List.length_nil]; omega) (by rw [List.length_replicate]; exact hl2.symm) (by simp)
  | true =>
    simp only at he
    cases he
    have q1 := h.allocArr hid e hlenx hone hrepx hnpx
    have hp : Rep (w.alloc (.cells ((List.replicate k.toNat v.cells.toList).flatten).toArray e)) (upd fr w.heap.size 0) (upd pi id w.heap.size) (.bsl i.size id 0 k.toNat) (.slice (some ⟨w.heap.size, 0, none⟩) k.toNat k.toNat) [] := by
      have := Rep.bsl (w := w.alloc (.cells ((List.replicate k.toNat v.cells.toList).flatten).toArray e)) (fr := upd fr w.heap.size 0) (pi := upd pi id w.heap.size) i.size id 0 k.toNat k.toNat (Nat.le_refl _) ⟨_, e, (0, 0), by rw [upd_same]; exact heap_alloc_new _ _, by simp only [List.size_toArray]; rw [Nat.zero_add]; exact Nat.le_of_eq hl2⟩
      rwa [upd_same, Nat.zero_mul] at this
    obtain ⟨own', q2, q3⟩ := q1.putO (d := o.dst) hd hp (.bsl _ _ _ _ ⟨_, upd_same _ _ _⟩) (by simp) (by simp) (by simp)
    refine ⟨_, _, _, _, upd pi id w.heap.size, own', hrun, .inl rfl, ?_, ⟨(Step.alloc w fr _ 0).mono (fun _ _ h => h.elim), fun r b hb => ?_, fun j hj => upd_ne _ _ (fun e => by obtain ⟨o', hj⟩ := hj; rw [e, hid] at hj; cases hj)⟩⟩
    · unfold FS.after
      rw [FS.strip_nil]
      exact q2
    · rcases q3 r b hb with ⟨r', h4⟩ | h4
      · by_cases hr : r' = .box id
        · subst hr
          rw [upd_same] at h4
          rw [List.mem_singleton.1 h4]
          exact .inr (Nat.le_refl _)
        · rw [upd_ne _ _ hr] at h4
          exact .inl ⟨r', h4⟩
      · simp at h4

theorem good_cpy {x y : Operand} {t u e : TypeId} {vx vy : VX} (ho : o.op = .call { callee := .builtin .copy, args := #[x, y], argTypes := #[t, u] }) (ht : P.underlying t = some (.slice e)) (hs : szOf P e = some 1) (hx : resX x = some vx) (hy : resX y = some vy)
    {z : AV} {b : Option (Nat × HObj)} {fl : Bool} {id : Nat} (he : ev fl s.sl s.bx id (.cpy vx vy) = some (z, b)) : Good P o a w fr pi own s.has (s.after [] o.dst z b) := by
  obtain ⟨h1, h2⟩ := opnd0 h hx
  obtain ⟨g1, g2⟩ := opnd0 h hy
  simp only [ev] at he
  split at he <;> try (cases he; done)
  rename_i sz bi off n sz' nl ow ys hr hr2
  rw [hr] at h1 h2
  rw [hr2] at g1 g2
  simp only [AV.strip] at h1 h2 g1 g2
  split at he <;> try (cases he; done)
  rename_i sz2 xs hb
  split at he <;> try (cases he; done)
  rename_i hc
  obtain ⟨rfl, rfl, c1, c2⟩ := hc
  cases he
  obtain ⟨k1, k2, k3, k4, vs, ju, el, k5, k6, k7, k8⟩ := h.arr hb
  have hfl := flat1_len k4
  have hlv := k6.length
  have hu : (P.info? e).map (·.size) = some 1 := hs
  have hexec : ∀ (nx : Value) (w' : World) (A B : Value), a.eval x = A → a.eval y = B → (∀ ty, (Builtin.copy_ #[t, u] ty #[A, B]).run P w = .ok nx w') → (execOp a.eval o).run P w = .ok (.value nx) w' := by
    intro nx w' A B eA eB hrun
    simp [execOp, ho, Go.resolve, invoke, builtin, eA, eB, hrun]
  have hown : ownStrip own [] = own := by
    funext r
    cases r <;> simp [ownStrip]
  have hshape : ∃ ad cap, a.eval x = .slice (some ad) n cap ∧ (n = 0 ∨ ad = ⟨pi bi, off, none⟩) := by
    generalize hq : a.eval x = vv at h1
    cases h1 with
    | bsl _ _ _ _ cap hc => exact ⟨_, cap, rfl, .inr (by rw [Nat.mul_one])⟩
    | bsl0 _ _ _ cap ad => exact ⟨ad, cap, rfl, .inl rfl⟩
  obtain ⟨ad, cap, hv, had⟩ := hshape
  -- where nothing goes over
  have hnone : min ys.length n = 0 → ∀ ad2 cap2, a.eval y = .slice ad2 ys.length cap2 → Good P o a w fr pi own s.has (s.after [] o.dst (.int .i64 (min ys.length n : Nat)) (some (bi, .arr 1 (xs.take off ++ (ys.take n ++ xs.drop (off + min ys.length n)))))) := by
    intro h0 ad2 cap2 hv2
    have hsame : xs.take off ++ (ys.take n ++ xs.drop (off + min ys.length n)) = xs := by
      have : ys.take n = [] := List.eq_nil_of_length_eq_zero (by rw [List.length_take, Nat.min_comm]; exact h0)
      rw [h0, this, List.nil_append, Nat.add_zero, List.take_append_drop]
    rw [hsame, h0]
    have hst : Step w w fr fr (fun x => x = pi bi) := Step.refl _ _ _
    refine Good.reboxed hd [] hb k1 (.inl rfl) (hexec (goInt 0) w _ _ hv hv2 (fun ty => run_copy_none w t u ty e (some ad) ad2 n cap ys.length cap2 ht hu h0)) ?_ hst (.int _ _) (.int _ _)
    rw [FS.strip_nil, hown]
    exact h.rebox (ob' := .arr 1 xs) hb k1 hst ⟨rfl, k4, vs, ju, el, k5, k6, k7, k8⟩ rfl k3
  rcases g1.sl_inv with ⟨hv2, hys, _⟩ | ⟨ad2, cap2, hv2, hys, _⟩ | ⟨bl, of, cap2, us, hv2, _, hl2, hrep, hcells, _⟩
  · subst hys
    exact hnone (by simp) none 0 hv2
  · subst hys
    exact hnone (by simp) (some ad2) cap2 hv2
  · by_cases h0 : min ys.length n = 0
    · exact hnone h0 _ _ hv2
    · have hys0 : ys.length ≠ 0 := fun e => h0 (by rw [e]; simp)
      have hsz' : sz' = 1 := by omega
      subst hsz'
      rcases had with had | rfl
      · exact absurd (by rw [had]; simp) h0
      · have hflat : ys.flatten = (ys.take n).flatten ++ (ys.drop n).flatten := by rw [← List.flatten_append, List.take_append_drop]
        rw [hflat] at hrep
        obtain ⟨u1, u2, O1, O2, e1, e2, r1, r2⟩ := hrep.split
        obtain ⟨rfl, rfl⟩ := List.append_eq_nil_iff.1 e2.symm
        subst e1
        have hl1 : ∀ y, y ∈ ys.take n → y.length = 1 := fun y hy => hl2 y (List.mem_of_mem_take hy)
        have hf1 := flat1_len hl1
        have hu1 : u1.length = min ys.length n := by
          have := r1.length
          rw [hf1, List.length_take] at this
          omega
        have hone : ∀ v, v ∈ u1 → v.oneCell' = true := fun v hv => by
          obtain ⟨k, hk⟩ := List.getElem?_of_mem hv
          have hlt : k < u1.length := by
            rcases Nat.lt_or_ge k u1.length with h' | h'
            · exact h'
            · simp [List.getElem?_eq_none h'] at hk
          exact (hcells k v (by rw [List.getElem?_append_left hlt]; exact hk)).2.2
        have hnp : ∀ c, c ∈ (ys.take n).flatten → NP s.has c := fun c hc => by
          obtain ⟨y, hy, hcy⟩ := List.mem_flatten.1 hc
          exact g2.sl_inv y (List.mem_of_mem_take hy) c hcy
        have hl' : ∀ y, y ∈ xs.take off ++ (ys.take n ++ xs.drop (off + min ys.length n)) → y.length = 1 := fun y hy => by
          simp only [List.mem_append] at hy
          rcases hy with hy | hy | hy
          · exact k4 y (List.mem_of_mem_take hy)
          · exact hl1 y hy
          · exact k4 y (List.mem_of_mem_drop hy)
        have hlen : (ys.take n).flatten.length = min ys.length n := by rw [hf1, List.length_take]; omega
        have hff : (xs.take off ++ (ys.take n ++ xs.drop (off + min ys.length n))).flatten = xs.flatten.take off ++ (ys.take n).flatten ++ xs.flatten.drop (off + (ys.take n).flatten.length) := by
          rw [hlen, flat1 hl', flat1 k4, flat1 hl1]
          simp
        obtain ⟨q1, q2⟩ := (h.strip []).setArr (id := bi) (off := off) hb r1 hnp hone (by rw [hlen, hfl]; omega) hl' hff
        refine Good.reboxed hd [] hb k1 (.inl rfl) (hexec (goInt (min ys.length n : Nat)) _ _ _ hv hv2 (fun ty => ?_)) q1 q2 (.int _ _) (.int _ _)
        have := run_copy_cells (P := P) w t u ty e (pi bi) off n cap ⟨bl, of, none⟩ ys.length cap2 u1 ht hu hu1 (fun j v hj => by
          have hlt : j < u1.length := by
            rcases Nat.lt_or_ge j u1.length with h' | h'
            · exact h'
            · simp [List.getElem?_eq_none h'] at hj
          rw [addr_add]
          exact (hcells j v (by rw [List.getElem?_append_left hlt]; exact hj)).1) (fun j hj => by
          have hjj : off + j < (vs ++ ju).length := by simp; omega
          have : w.cell? ⟨pi bi, off + j, none⟩ = some (vs ++ ju)[off + j] := by simp [World.cell?, k5, List.getElem?_eq_getElem hjj]
          rw [this]; rfl) (fun j hj => frozen_of_row w _ _ _ el k5) hone
        rw [this, hu1]

end

end Go.Proofs.YtmjdoonaidolkaaDoor.V
