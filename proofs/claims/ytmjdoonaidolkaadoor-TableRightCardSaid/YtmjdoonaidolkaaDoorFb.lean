/-
  A small logic of values over the model: shifts: a state is told otherwise, and nothing runs: a slice that is one's own gets a box; boxes are written no more.
-/
import Derived.Test.YtmjdoonaidolkaaDoorFa
import Derived.MapKept
import Derived.Laws.Externs

/- A small logic of values over the model: maps from texts to bools. -/
namespace Go.Proofs.YtmjdoonaidolkaaDoor.V
open Go.MapKept

theorem Rel.allocMap {w : World} {fr pi : Nat → Nat} {own : Res → List Nat} {s : FS} {tm : Array Value} (h : Rel w fr pi own s tm) {id : Nat} (hid : s.bx id = none) :
    Rel (w.alloc (.map #[] 0)) (upd fr w.heap.size 0) (upd pi id w.heap.size) (upd own (.box id) [w.heap.size]) { s with bx := upd s.bx id (some (.map [] [])) } tm := by
  have st := Step.alloc w fr (.map #[] 0) 0
  have hpi : ∀ i, s.has i → upd pi id w.heap.size i = pi i := fun i ⟨o, hi⟩ => upd_ne _ _ (fun e => by subst e; simp [hid] at hi)
  have hhas : ∀ i, s.has i → FS.has { s with bx := upd s.bx id (some (.map [] [])) } i := fun i ⟨o, hi⟩ => ⟨o, by
    show upd s.bx id _ i = _
    rw [upd_ne _ _ (fun e => by subst e; simp [hid] at hi)]; exact hi⟩
  have hno : own (.box id) = [] := h.nobox id hid
  refine ⟨fun i => ?_, fun i => (h.slotnp i).mono hhas, fun i o hb => ?_, fun i o hb => ?_, fun i hb => ?_, fun r => ?_, fun r r' b h1 h2 => ?_, fun r b hb => ?_⟩
  · rw [upd_ne _ _ (by simp)]
    exact (h.slot i).mono st hpi (h.slotnp i) (by simp)
  · by_cases hi : i = id
    · subst hi
      simp only [upd_same] at hb ⊢
      cases hb
      exact ⟨[], ⟨rfl, #[], 0, heap_alloc_new _ _, .nil, .nil, upd_same _ _ _⟩, rfl⟩
    · have hb' : s.bx i = some o := by simpa [upd, hi] using hb
      obtain ⟨O', h1, h2⟩ := h.box i o hb'
      rw [hpi i ⟨o, hb'⟩]
      exact ⟨O', h1.mono st hpi (h.boxnp i o hb') (fun x hx => h.live (.box i) x (by rw [h2]; exact hx)) (by simp), (upd_ne _ _ (by simpa using hi)).trans h2⟩
  · by_cases hi : i = id
    · subst hi
      simp only [upd_same] at hb
      cases hb
      exact ⟨by simp, by simp⟩
    · have hb' : s.bx i = some o := by simpa [upd, hi] using hb
      exact (h.boxnp i o hb').mono hhas
  · by_cases hi : i = id
    · subst hi; simp [upd] at hb
    · have hb' : s.bx i = none := by simpa [upd, hi] using hb
      rw [upd_ne _ _ (by simpa using hi)]; exact h.nobox i hb'
  · by_cases hr : r = .box id
    · subst hr
      rw [upd_same]
      simp
    · rw [upd_ne _ _ hr]; exact h.nd r
  · by_cases hr : r = .box id <;> by_cases hr' : r' = .box id
    · rw [hr, hr']
    · subst hr
      rw [upd_same] at h1
      rw [upd_ne _ _ hr'] at h2
      rw [List.mem_singleton.1 h1] at h2
      exact absurd (h.live r' _ h2) (by omega)
    · subst hr'
      rw [upd_same] at h2
      rw [upd_ne _ _ hr] at h1
      rw [List.mem_singleton.1 h2] at h1
      exact absurd (h.live r _ h1) (by omega)
    · rw [upd_ne _ _ hr] at h1
      rw [upd_ne _ _ hr'] at h2
      exact h.dj r r' b h1 h2
  · by_cases hr : r = .box id
    · subst hr
      rw [upd_same] at hb
      rw [List.mem_singleton.1 hb]
      simp
    · rw [upd_ne _ _ hr] at hb
      have := h.live r b hb; simp; omega

/-- What is found. -/
theorem mfind_now {w : World} {fr pi : Nat → Nat} {c : ByteArray} : ∀ {l : List MapEntry} {ks xs : List AV} {r : Option Bool}, Reps w fr pi ks (l.map (·.key)) [] → Reps w fr pi xs (l.map (·.val)) [] → mfind c ks xs = some r → ∀ n,
    (r = none ∧ Instr.findNow .string (.string c) l n = some none) ∨ ∃ j b, r = some b ∧ Instr.findNow .string (.string c) l n = some (some (j, .bool b))
  | [], ks, xs, r, hk, hx, hm, n => by
    have e1 : ks = [] := by
      cases ks with
      | nil => rfl
      | cons a l => have := hk.length; simp at this
    have e2 : xs = [] := by
      cases xs with
      | nil => rfl
      | cons a l => have := hx.length; simp at this
    subst e1 e2
    simp only [mfind, Option.some.injEq] at hm
    exact .inl ⟨hm.symm, rfl⟩
  | e :: l, ks, xs, r, hk, hx, hm, n => by
    cases ks with
    | nil => have := hk.length; simp at this
    | cons k ks => cases xs with
      | nil => have := hx.length; simp at this
      | cons x xs =>
        rw [List.map_cons] at hk hx
        obtain ⟨v1, l1, q1, k1, k2⟩ := hk.cons_inv0
        obtain ⟨v2, l2, q2, x1, x2⟩ := hx.cons_inv0
        cases q1
        cases q2
        unfold mfind at hm
        split at hm
        · rename_i heq _; cases heq
        · rename_i d ks' b xs' heq1 heq2
          cases heq1
          cases heq2
          have ek := k1.str_inv
          have ex := x1.bool_inv
          have hs : Instr.sameNow .string (.string c) e.key = some (c == d) := by rw [ek]; rfl
          split at hm
          · rename_i he
            cases hm
            refine .inr ⟨n, b, rfl, ?_⟩
            rw [he] at hs
            simp [Instr.findNow, hs, ex]
          · rename_i he
            have he' : (c == d) = false := by simpa using he
            rw [he'] at hs
            have ih := mfind_now k2 x2 hm (n + 1)
            simpa [Instr.findNow, hs] using ih
        · cases hm

section
variable {P : Program} {o : Oper} {a : Act} {w : World} {fr pi : Nat → Nat} {own : Res → List Nat} {s : FS} (h : Rel w fr pi own s a.tmps) (hd : ∀ t, o.dst = some t → t < a.tmps.size)
include h hd

theorem good_mkm {t : TypeId} (ho : o.op = .makeMap t none) {id : Nat} (hid : s.bx id = none) : Good P o a w fr pi own s.has (s.after [] o.dst (.mp id) (some (id, .map [] []))) := by
  have hrun : (execOp a.eval o).run P w = .ok (.value (.map (some w.heap.size))) (w.alloc (.map #[] 0)) := by
    simp only [execOp, ho]
    rfl
  have q1 := h.allocMap hid
  have hp : Rep (w.alloc (.map #[] 0)) (upd fr w.heap.size 0) (upd pi id w.heap.size) (.mp id) (.map (some w.heap.size)) [] := by
    have := Rep.mp (w := w.alloc (.map #[] 0)) (fr := upd fr w.heap.size 0) (pi := upd pi id w.heap.size) id
    rwa [upd_same] at this
  obtain ⟨own', q2, q3⟩ := q1.putO (d := o.dst) hd hp (.mp _ ⟨_, upd_same _ _ _⟩) (by simp) (by simp) (by simp)
  refine ⟨_, _, _, _, upd pi id w.heap.size, own', hrun, .inl rfl, ?_, ⟨(Step.alloc w fr _ 0).mono (fun _ _ h => h.elim), fun r b hb => ?_, fun j hj => upd_ne _ _ (fun e => by obtain ⟨o', hj⟩ := hj; rw [e, hid] at hj; cases hj)⟩⟩
  · unfold FS.after
    rw [FS.strip_nil]
    exact q2
  · rcases q3 r b hb with ⟨r', h4⟩ | h4
    · by_cases hr : r' = .box id
      · subst hr
        rw [upd_same] at h4
        rw [List.mem_singleton.1 h4]
        exact .inr (Nat.le_refl _)
      · rw [upd_ne _ _ hr] at h4
        exact .inl ⟨r', h4⟩
    · simp at h4

theorem good_mget {t kt et : TypeId} {x k : Operand} {vx vk : VX} (ho : o.op = .lookup t x k false) (ht : P.underlying t = some (.map kt et)) (hk : P.underlying kt = some .string) (hz : zeroOf P et = some (.bool false)) (hx : resX x = some vx) (hkk : resX k = some vk)
    {z : AV} {b : Option (Nat × HObj)} {fl : Bool} {id : Nat} (he : ev fl s.sl s.bx id (.mget vx vk) = some (z, b)) : Good P o a w fr pi own s.has (s.after [] o.dst z b) := by
  obtain ⟨O, h1, _, _⟩ := opnd h hx
  obtain ⟨O', g1, _, _⟩ := opnd h hkk
  simp only [ev] at he
  split at he <;> try (cases he; done)
  rename_i i hr
  rw [hr] at h1
  split at he <;> try (cases he; done)
  rename_i ks xs hb
  split at he <;> try (cases he; done)
  rename_i c hrk
  rw [hrk] at g1
  obtain ⟨r, hm, e⟩ := Option.map_eq_some_iff.1 he
  cases e
  have hv := h1.mp_inv.1
  have hkv := g1.str_inv
  obtain ⟨O2, ⟨_, es, clock, k1, k2, k3, k4⟩, _⟩ := h.box i _ hb
  have hzv : ∃ info, P.info? et = some info ∧ info.zero = some (.bool false) := by
    unfold zeroOf at hz
    obtain ⟨v, q1, q2⟩ := Option.bind_eq_some_iff.1 hz
    obtain ⟨info, hi, hv⟩ := Option.bind_eq_some_iff.1 q1
    have := (avOf_rep (w := w) (fr := fr) (pi := pi) (ok := s.has) q2).1.bool_inv
    exact ⟨info, hi, by rw [hv, this]⟩
  obtain ⟨info, hi, hzz⟩ := hzv
  have hck := Go.MapKept.run_checkKey (w := w) (k := .string c) hk trivial es.isEmpty 9999
  refine Good.pure h hd (v := .bool (r.getD false)) ?_ (.bool _) (.bool _)
  rcases mfind_now (c := c) k2 k3 hm 0 with ⟨rfl, hf⟩ | ⟨j, bb, rfl, hf⟩
  · have hfk := Go.MapKept.run_findKey (P := P) (w := w) (kt := kt) hk hf
    simp [execOp, ho, Instr.lookup, run_underlying ht, hv, Go.MapKept.run_getObj_map k1, hkv, hck, hfk, zeroValue, typeInfo, hi, hzz]
  · have hfk := Go.MapKept.run_findKey (P := P) (w := w) (kt := kt) hk hf
    simp [execOp, ho, Instr.lookup, run_underlying ht, hv, Go.MapKept.run_getObj_map k1, hkv, hck, hfk]

theorem good_mset {t kt et : TypeId} {x k v : Operand} {vx vk vv : VX} (ho : o.op = .mapUpdate t x k v) (ht : P.underlying t = some (.map kt et)) (hk : P.underlying kt = some .string) (hx : resX x = some vx) (hkk : resX k = some vk) (hvv : resX v = some vv)
    {z : AV} {b : Option (Nat × HObj)} {fl : Bool} {id : Nat} (he : ev fl s.sl s.bx id (.mset vx vk vv) = some (z, b)) : Good P o a w fr pi own s.has (s.after [] o.dst z b) := by
  obtain ⟨O, h1, _, _⟩ := opnd h hx
  obtain ⟨O', g1, _, _⟩ := opnd h hkk
  obtain ⟨O'', f1, _, _⟩ := opnd h hvv
  simp only [ev] at he
  split at he <;> try (cases he; done)
  rename_i i hr
  rw [hr] at h1
  split at he <;> try (cases he; done)
  rename_i ks xs hb
  split at he <;> try (cases he; done)
  rename_i c bb hrk hrv
  rw [hrk] at g1
  rw [hrv] at f1
  split at he <;> try (cases he; done)
  rename_i hm
  cases he
  have hv := h1.mp_inv.1
  have hkv := g1.str_inv
  have hvv := f1.bool_inv
  obtain ⟨O2, ⟨e0, es, clock, k1, k2, k3, k4⟩, k5⟩ := h.box i _ hb
  subst e0
  replace k5 : own (.box i) = [pi i] := k5
  have hck := Go.MapKept.run_checkKey (w := w) (k := .string c) hk trivial false 9999
  rcases mfind_now (c := c) k2 k3 hm 0 with ⟨_, hf⟩ | ⟨j, b', hcon, _⟩
  case inr => cases hcon
  have hfk := Go.MapKept.run_findKey (P := P) (w := w) (kt := kt) hk hf
  let e' : MapEntry := { key := .string c, val := .bool bb, born := clock }
  have hset := Go.MapKept.run_setObj_map (P := P) (.map (es.push e') (clock + 1)) k1
  let w' : World := { w with heap := w.heap.setIfInBounds (pi i) (.map (es.push e') (clock + 1)) }
  have hh := Go.MapKept.heap_set (o' := .map (es.push e') (clock + 1)) k1
  have st : Step w w' fr fr (fun x => x = pi i) := by
    refine ⟨rfl, rfl, rfl, by show w.heap.size ≤ (w.heap.setIfInBounds _ _).size; simp, fun b hb hne => ⟨hh.2 b hne, rfl⟩, fun b hb e => ⟨fun c1 e1 fz1 hc => ?_, Nat.le_refl _⟩⟩
    subst e
    rw [k1] at hc
    cases hc
  have hnp := h.boxnp i _ hb
  have r2 := k2.mono st (ok := s.has) (fun _ _ => rfl) hnp.1 (by simp)
  have r3 := k3.mono st (ok := s.has) (fun _ _ => rfl) hnp.2 (by simp)
  have hrel := h.rebox (ob' := .map (ks ++ [.str c]) (xs ++ [.bool bb])) hb k5 st ⟨rfl, es.push e', clock + 1, hh.1, by
      have := r2.append (Reps.cons (w := w') (fr := fr) (pi := pi) _ _ _ _ _ _ (.str c) .nil)
      simpa [e'] using this, by
      have := r3.append (Reps.cons (w := w') (fr := fr) (pi := pi) _ _ _ _ _ _ (.bool bb) .nil)
      simpa [e'] using this, k4⟩ rfl ⟨fun a ha => by
        rcases List.mem_append.1 ha with ha | ha
        · exact hnp.1 a ha
        · rw [List.mem_singleton.1 ha]; exact .str _, fun a ha => by
        rcases List.mem_append.1 ha with ha | ha
        · exact hnp.2 a ha
        · rw [List.mem_singleton.1 ha]; exact .bool _⟩
  have hown : ownStrip own [] = own := by
    funext r
    cases r <;> simp [ownStrip]
  refine Good.reboxed hd [] hb k5 (.inr ⟨rfl, rfl⟩) (w' := w') (fr' := fr) ?_ (by rw [FS.strip_nil, hown]; exact hrel) st (.undef _) .undef
  simp [execOp, ho, Instr.mapUpdate, run_underlying ht, hv, Go.MapKept.run_getObj_map k1, hkv, hvv, hck, hfk]
  exact (congrArg (fun r => Result.andThen r fun _ w' => Result.ok Next.skip w') hset).trans rfl
end

end Go.Proofs.YtmjdoonaidolkaaDoor.V

/- A small logic of values over the model, part 15: 'ev_sound': every operation that calls nobody. -/
namespace Go.Proofs.YtmjdoonaidolkaaDoor.V

section
variable {P : Program} {o : Oper} {a : Act} {w : World} {fr pi : Nat → Nat} {own : Res → List Nat} {s : FS} (h : Rel w fr pi own s a.tmps) (hd : ∀ t, o.dst = some t → t < a.tmps.size)
include h hd

theorem good_app {x y : Operand} {vx vy : VX} {t u e : TypeId} (ho : o.op = .call { callee := .builtin .append, args := #[x, y], argTypes := #[t, u] }) (ht : P.underlying t = some (.slice e)) {i : TypeInfo} (hi : P.info? e = some i) {z0 : AV}
    (hz : zeroOf P e = some z0) (h0 : i.size ≠ 0) (hzl : z0.cells.length = i.size) (hx : resX x = some vx) (hy : resX y = some vy) {e' : TypeId} (hus' : P.underlying u = some (.slice e'))
    {z : AV} {b : Option (Nat × HObj)} {fl : Bool} {id : Nat} (he : ev fl s.sl s.bx id (.app i.size i.bytes vx vy) = some (z, b)) : Good P o a w fr pi own s.has (s.after (takes fl (.app i.size i.bytes vx vy)) o.dst z b) := by
  simp only [ev] at he
  split at he <;> try (cases he; done)
  rename_i sz' nl ow xs hr
  split at he <;> try (cases he; done)
  rename_i how
  obtain ⟨g1, g2⟩ := opnd0 h hy
  have hz' := hz
  unfold zeroOf at hz'
  obtain ⟨v, k1, k2⟩ := Option.bind_eq_some_iff.1 hz'
  obtain ⟨i', hi', hv⟩ := Option.bind_eq_some_iff.1 k1
  rw [hi] at hi'
  cases hi'
  obtain ⟨r1, r2⟩ := avOf_rep (w := w) (fr := fr) (pi := pi) (ok := s.has) k2
  have hne : z0.cells ≠ [] := fun e => by rw [e] at hzl; simp at hzl; omega
  have hvs : v.cells.size = i.size := by have := (cells_rep r1 hne).length; simp at this; omega
  split at he <;> try (cases he; done)
  rename_i sz2 nl2 ow2 ys hr2
  split at he <;> try (cases he; done)
  rename_i hc
  obtain ⟨c1, c2, c3⟩ := hc
  cases he
  rw [hr2] at g1 g2
  simp only [AV.strip] at g1 g2
  rcases g1.sl_inv with ⟨hyv, hys, _⟩ | ⟨ad, cap, hyv, hys, _⟩ | ⟨bl, of, cap, vs, hyv, _, hlen, hrep, hcells, _⟩
  · subst hys
    exact Good.append h hd ho ht hi hv hvs h0 hx hr (ys := []) (news := []) how ⟨by rw [hyv]; exact Src.ofNil w hus' 0, .nil, by simp⟩ (by simp) c2 c3 fl vy
  · subst hys
    exact Good.append h hd ho ht hi hv hvs h0 hx hr (ys := []) (news := []) how ⟨by rw [hyv]; exact Src.ofSlice w hus' ad 0 cap [] (by simp) (fun j u hj => by simp at hj) (fun u hu' => by simp at hu'), .nil, by simp⟩ (by simp) c2 c3 fl vy
  · have hlen' : ∀ x, x ∈ ys → x.length = i.size := by
      rcases c1 with c1 | c1
      · rw [← c1]; exact hlen
      · have : ys = [] := List.eq_nil_of_length_eq_zero c1
        subst this
        simp
    have hvl : vs.length = ys.length * i.size := by rw [← hrep.length, flatten_len hlen']
    exact Good.append h hd ho ht hi hv hvs h0 hx hr (ys := ys) (news := vs) how ⟨by rw [hyv]; exact Src.ofSlice w hus' _ _ _ _ hvl (fun j u hj => by rw [addr_add]; exact (hcells j u hj).1) (fun u hu' => by
      obtain ⟨k, hk⟩ := List.getElem?_of_mem hu'
      exact (hcells k u hk).2.2), hrep, hlen'⟩ g2.sl_inv c2 c3 fl vy

theorem good_apps {x y : Operand} {vx vy : VX} {t u e : TypeId} (ho : o.op = .call { callee := .builtin .append, args := #[x, y], argTypes := #[t, u] }) (ht : P.underlying t = some (.slice e)) {i : TypeInfo} (hi : P.info? e = some i) {z0 : AV}
    (hz : zeroOf P e = some z0) (h0 : i.size ≠ 0) (hzl : z0.cells.length = i.size) (hx : resX x = some vx) (hy : resX y = some vy) (hus' : P.underlying u = some .string) (hs1 : i.size = 1)
    {z : AV} {b : Option (Nat × HObj)} {fl : Bool} {id : Nat} (he : ev fl s.sl s.bx id (.apps i.bytes vx vy) = some (z, b)) : Good P o a w fr pi own s.has (s.after (takes fl (.apps i.bytes vx vy)) o.dst z b) := by
  simp only [ev] at he
  split at he <;> try (cases he; done)
  rename_i sz' nl ow xs hr
  split at he <;> try (cases he; done)
  rename_i how
  obtain ⟨g1, g2⟩ := opnd0 h hy
  have hz' := hz
  unfold zeroOf at hz'
  obtain ⟨v, k1, k2⟩ := Option.bind_eq_some_iff.1 hz'
  obtain ⟨i', hi', hv⟩ := Option.bind_eq_some_iff.1 k1
  rw [hi] at hi'
  cases hi'
  obtain ⟨r1, r2⟩ := avOf_rep (w := w) (fr := fr) (pi := pi) (ok := s.has) k2
  have hne : z0.cells ≠ [] := fun e => by rw [e] at hzl; simp at hzl; omega
  have hvs : v.cells.size = i.size := by have := (cells_rep r1 hne).length; simp at this; omega
  split at he <;> try (cases he; done)
  rename_i bs hr2
  split at he <;> try (cases he; done)
  rename_i hc
  obtain ⟨c2, c3⟩ := hc
  cases he
  rw [hr2] at g1
  have := Good.append h hd ho ht hi hv hvs h0 hx hr (ys := bytesAV bs) (news := byteCells bs) (by rw [hs1]; exact how) ⟨by rw [g1.str_inv, bytesAV_length, hs1]; exact Src.ofString w hus' bs, bytes_rep bs, by rw [hs1]; exact bytesAV_sz bs⟩ (bytesAV_np _ bs) (by rw [bytesAV_length]; exact c2)
    (by rw [bytesAV_length]; exact c3) fl vy
  rw [hs1] at this
  have ht2 : takes fl (.app 1 i.bytes vx vy) = takes fl (.apps i.bytes vx vy) := by cases vx <;> rfl
  rw [ht2] at this
  exact this

end

theorem takes_nil {fl : Bool} {vo : VOp} (h : ∀ x, vo ≠ .mov x) (h2 : ∀ x, vo ≠ .box x) (h3 : ∀ n x v, vo ≠ .store n x v) (h4 : ∀ p q x y, vo ≠ .app p q x y) (h5 : ∀ p x y, vo ≠ .apps p x y) : takes fl vo = [] := by
  unfold takes
  split <;> first | rfl | (exfalso; first | exact h _ rfl | exact h2 _ rfl | exact h3 _ _ _ rfl | exact h4 _ _ _ _ rfl | exact h5 _ _ _ rfl)

/-- What an operation comes to, it comes to in every world that holds the state. -/
theorem ev_sound {P : Program} {o : Oper} {a : Act} {w : World} {fr pi : Nat → Nat} {own : Res → List Nat} {s : FS} (h : Rel w fr pi own s a.tmps) (hd : ∀ t, o.dst = some t → t < a.tmps.size) {vo : VOp} (hr : resolve P o.op = some vo ∨ vo = .bad) {id : Nat}
    (hid : vo.isAlloc = true → s.bx id = none) {fl : Bool} {z : AV} {b : Option (Nat × HObj)} (he : ev fl s.sl s.bx id vo = some (z, b)) : Good P o a w fr pi own s.has (s.after (takes fl vo) o.dst z b) := by
  rcases hr with hr | rfl
  case inr => simp [ev] at he
  unfold resolve at hr
  split at hr
  · rename_i x ho
    obtain ⟨vx, hx, rfl⟩ := Option.map_eq_some_iff.1 hr
    simp only [ev] at he
    cases he
    exact good_mov h hd (.inl ho) hx fl
  · rename_i x ho
    obtain ⟨vx, hx, rfl⟩ := Option.map_eq_some_iff.1 hr
    simp only [ev] at he
    cases he
    exact good_mov h hd (.inr ho) hx fl
  · rename_i c x y ho
    simp only [Option.bind_eq_some_iff, Option.map_eq_some_iff] at hr
    obtain ⟨vc, hc, vx, hx, vy, hy, rfl⟩ := hr
    exact good_pick h hd ho hc hx hy he
  · rename_i e ho
    obtain ⟨z0, hz, hr⟩ := Option.bind_eq_some_iff.1 hr
    split at hr
    · cases hr
    · rename_i hne
      cases hr
      simp only [ev] at he
      cases he
      exact good_alloc h hd ho hz (by simpa using hne) (hid rfl)
  · rename_i e x ho
    obtain ⟨vx, hx, rfl⟩ := Option.map_eq_some_iff.1 hr
    simp only [ev] at he
    split at he
    · cases he
    · rename_i hne
      cases he
      exact good_box h hd ho hx (by simpa using hne) (hid rfl) fl
  · rename_i t ps ho
    obtain ⟨z0, hz, hr⟩ := Option.bind_eq_some_iff.1 hr
    split at hr
    · rename_i fs hu
      split at hr
      · cases hr
      · rename_i hne
        simp only [Option.bind_eq_some_iff, Option.map_eq_some_iff] at hr
        obtain ⟨pl, hpl, l, hl, rfl⟩ := hr
        exact good_build h hd ho hz hu hpl hl (by simpa using hne) he
    · cases hr
  · rename_i t n ps ho
    split at hr
    · rename_i e hu
      simp only [Option.bind_eq_some_iff] at hr
      obtain ⟨sz, hs, z0, hz, hr⟩ := hr
      split at hr
      · cases hr
      · rename_i hc
        obtain ⟨l, hl, rfl⟩ := Option.map_eq_some_iff.1 hr
        have c1 : sz ≠ 0 := fun e => hc (.inl e)
        have c2 : ¬ n * sz > 2 ^ 24 := fun e => hc (.inr (.inl e))
        have c3 : z0.cells.length = sz := Classical.byContradiction fun e => hc (.inr (.inr e))
        exact good_bslice h hd ho hu hs hz c1 c2 c3 hl he
    · cases hr
  · rename_i t x ho
    simp only [Option.bind_eq_some_iff, Option.map_eq_some_iff] at hr
    obtain ⟨g, hg, vx, hx, rfl⟩ := hr
    exact good_load h hd ho hg hx he
  · rename_i t x v ho
    simp only [Option.bind_eq_some_iff] at hr
    obtain ⟨n, hn, hr⟩ := hr
    split at hr
    · cases hr
    · rename_i hn0
      simp only [Option.bind_eq_some_iff, Option.map_eq_some_iff] at hr
      obtain ⟨vx, hx, vv, hv, rfl⟩ := hr
      exact good_store h hd ho hn hx hv hn0 he
  · rename_i x ho
    obtain ⟨vx, hx, rfl⟩ := Option.map_eq_some_iff.1 hr
    exact good_nilck h hd ho hx he
  · rename_i op t x y u ho
    simp only [Option.bind_eq_some_iff] at hr
    obtain ⟨vx, hx, vy, hy, hr⟩ := hr
    unfold resBin at hr
    have eqn : ∀ (k : EK) (d : TypeDesc), P.underlying t = some d → k.fits d → resEqn k op vx vy = some vo → Good P o a w fr pi own s.has (s.after (takes fl vo) o.dst z b) := by
      intro k d hdd hk hq
      unfold resEqn at hq
      split at hq
      · cases hq
        exact good_eqn h hd (neq := false) (by simpa using ho) hdd hk hx hy he
      · cases hq
        exact good_eqn h hd (neq := true) (by simpa using ho) hdd hk hx hy he
      · cases hq
    split at hr
    · rename_i hu
      unfold resEqb at hr
      split at hr
      · cases hr
        exact good_eqb h hd (neq := false) (by simpa using ho) hu hx hy he
      · cases hr
        exact good_eqb h hd (neq := true) (by simpa using ho) hu hx hy he
      · cases hr
    · cases hr; exact good_bin h hd ho hx hy he
    · cases hr; exact good_bin h hd ho hx hy he
    · rename_i fs hu
      split at hr
      · cases hr
      · rename_i hc
        have hc' : P.stoodInHeld t = false ∧ P.eqGuardType P.depth t = false := by simpa using hc
        split at hr
        · obtain ⟨l, hl, rfl⟩ := Option.map_eq_some_iff.1 hr
          exact good_eqv h hd (neq := false) (by simpa using ho) hu hc'.1 hc'.2 hl hx hy he
        · obtain ⟨l, hl, rfl⟩ := Option.map_eq_some_iff.1 hr
          exact good_eqv h hd (neq := true) (by simpa using ho) hu hc'.1 hc'.2 hl hx hy he
        · cases hr
    · rename_i e hu; exact eqn .ptr _ hu ⟨_, rfl⟩ hr
    · rename_i e hu; exact eqn .slice _ hu ⟨_, rfl⟩ hr
    · rename_i e hu; exact eqn .iface _ hu ⟨_, rfl⟩ hr
    · rename_i p q r hu; exact eqn .func _ hu ⟨_, _, _, rfl⟩ hr
    · cases hr
  · rename_i op t x ho
    obtain ⟨vx, hx, rfl⟩ := Option.map_eq_some_iff.1 hr
    exact good_un h hd ho hx he
  · rename_i t d x ho
    obtain ⟨vx, hx, hr⟩ := Option.bind_eq_some_iff.1 hr
    split at hr
    · rename_i k k' ht hdd
      cases hr; exact good_cvi h hd ho ht hdd hx he
    · rename_i ht hdd
      cases hr; exact good_cvid h hd ho ht hdd hx he
    · rename_i e ht hdd
      split at hr
      · rename_i sz hee _
        cases hr; exact good_cvsb h hd ho ht hdd hee hx he
      · cases hr
    · rename_i e ht hdd
      split at hr
      · rename_i hee
        cases hr; exact good_cvbs h hd ho ht hdd hee hx he
      · cases hr
    · cases hr
  · rename_i t x ho
    split at hr
    · cases hr
    · rename_i d hni hdd
      obtain ⟨vx, hx, rfl⟩ := Option.map_eq_some_iff.1 hr
      simp only [ev] at he
      cases he
      exact good_ifc h hd ho hdd (fun ms e => hni ms e) hx
    · cases hr
  · rename_i f first caps ho
    split at hr
    · rename_i hf
      obtain ⟨l, hl, rfl⟩ := Option.map_eq_some_iff.1 hr
      simp only [ev] at he
      cases he
      exact good_fn h hd ho hf hl
    · cases hr
  · rename_i t x y ho
    split at hr
    · rename_i e ht
      split at hr
      · rename_i i z0 hi hz
        split at hr
        · cases hr
        · rename_i hc
          have c1 : i.size ≠ 0 := fun e => hc (.inl e)
          have c2 : z0.cells.length = i.size := Classical.byContradiction fun e => hc (.inr e)
          simp only [Option.bind_eq_some_iff] at hr
          obtain ⟨vx, hx, vy, hy, hr⟩ := hr
          split at hr
          · rename_i p q
            split at hr
            · rename_i e
              subst e
              cases hr
              have ex : x = .tmp p := by
                cases x <;> simp [resX] at hx
                subst hx; rfl
              have ey : y = .tmp p := by
                cases y <;> simp [resX] at hy
                subst hy; rfl
              exact good_mk h hd ho ht hi hz c1 c2 hx (by rw [ex, ey]) (hid rfl) he
            · cases hr
          · rename_i p q
            split at hr
            · rename_i e
              subst e
              cases hr
              have hx' := (opnd h hx).choose_spec.1
              have hy' := (opnd h hy).choose_spec.1
              exact good_mk h hd ho ht hi hz c1 c2 hx (by rw [hx'.int_inv, hy'.int_inv]) (hid rfl) he
            · cases hr
          · cases hr
      · cases hr
    · cases hr
  · rename_i t x lo hi ho
    simp only [Option.bind_eq_some_iff] at hr
    obtain ⟨vx, hx, vl, hl, vh, hh, hr⟩ := hr
    split at hr
    · rename_i ht
      cases hr; exact good_slstr h hd ho ht hx hl hh he
    · rename_i e ht
      obtain ⟨sz, hs, rfl⟩ := Option.map_eq_some_iff.1 hr
      exact good_slsl h hd ho ht hs hx hl hh he
    · cases hr
  · rename_i t x f ho
    split at hr
    · rename_i fs ht
      simp only [Option.bind_eq_some_iff] at hr
      obtain ⟨fd, hf, sz, hs, hr⟩ := hr
      split at hr
      · cases hr
      · rename_i h0
        obtain ⟨vx, hx, rfl⟩ := Option.map_eq_some_iff.1 hr
        exact good_fld h hd ho ht hf hs h0 hx he
    · cases hr
  · rename_i t x f ho
    split at hr
    · rename_i fs ht
      simp only [Option.bind_eq_some_iff, Option.map_eq_some_iff] at hr
      obtain ⟨fd, hf, g, hg, vx, hx, rfl⟩ := hr
      exact good_fldv h hd ho ht hf hg hx he
    · cases hr
  · rename_i t x i ho
    simp only [Option.bind_eq_some_iff] at hr
    obtain ⟨vx, hx, vi, hi, hr⟩ := hr
    split at hr
    · rename_i e ht
      obtain ⟨sz, hs, rfl⟩ := Option.map_eq_some_iff.1 hr
      exact good_ixa h hd ho ht hs hx hi he
    · rename_i n e ht
      obtain ⟨sz, hs, rfl⟩ := Option.map_eq_some_iff.1 hr
      exact good_ixarr h hd ho ht hs hx hi he
    · cases hr
  · rename_i t x i ho
    simp only [Option.bind_eq_some_iff] at hr
    obtain ⟨vx, hx, vi, hi, hr⟩ := hr
    split at hr
    · rename_i ht
      cases hr; exact good_ixs h hd ho ht hx hi he
    · cases hr
  · rename_i x i ho
    obtain ⟨vx, hx, rfl⟩ := Option.map_eq_some_iff.1 hr
    exact good_ext h hd ho hx he
  · rename_i c ho
    unfold resCall at hr
    split at hr
    · simp only [Option.bind_eq_some_iff, Option.map_eq_some_iff] at hr
      obtain ⟨_, _, _, _, rfl⟩ := hr
      simp [ev] at he
    · rename_i hcal
      split at hr
      · rename_i x t hargs htys
        have hc : c = { callee := .builtin .len, args := #[x], argTypes := #[t] } := by
          obtain ⟨cc, ca, ct⟩ := c
          simp only at hcal hargs htys
          subst hcal
          congr 1
          · apply Array.ext'; simpa using hargs
          · apply Array.ext'; simpa using htys
        rw [hc] at ho
        split at hr
        · rename_i ht
          obtain ⟨vx, hx, rfl⟩ := Option.map_eq_some_iff.1 hr
          exact good_lens h hd ho ht hx he
        · rename_i e ht
          obtain ⟨vx, hx, rfl⟩ := Option.map_eq_some_iff.1 hr
          exact good_lenl h hd ho ht hx he
        · cases hr
      · cases hr
    · rename_i hcal
      split at hr
      · rename_i x y t u hargs htys
        have hc : c = { callee := .builtin .append, args := #[x, y], argTypes := #[t, u] } := by
          obtain ⟨cc, ca, ct⟩ := c
          simp only at hcal hargs htys
          subst hcal
          congr 1
          · apply Array.ext'; simpa using hargs
          · apply Array.ext'; simpa using htys
        rw [hc] at ho
        split at hr
        · rename_i e ht
          split at hr
          · rename_i i z0 hi hz
            split at hr
            · cases hr
            · rename_i hcc
              have c1 : i.size ≠ 0 := fun e => hcc (.inl e)
              have c2 : z0.cells.length = i.size := Classical.byContradiction fun e => hcc (.inr e)
              split at hr
              · rename_i e' hu
                simp only [Option.bind_eq_some_iff, Option.map_eq_some_iff] at hr
                obtain ⟨vx, hx, vy, hy, rfl⟩ := hr
                exact good_app h hd ho ht hi hz c1 c2 hx hy hu he
              · rename_i hu
                split at hr
                · rename_i hs1
                  simp only [Option.bind_eq_some_iff, Option.map_eq_some_iff] at hr
                  obtain ⟨vx, hx, vy, hy, rfl⟩ := hr
                  exact good_apps h hd ho ht hi hz c1 c2 hx hy hu hs1 he
                · cases hr
              · cases hr
          · cases hr
        · cases hr
      · cases hr
    · rename_i hcal
      split at hr
      · rename_i x y t u hargs htys
        have hc : c = { callee := .builtin .copy, args := #[x, y], argTypes := #[t, u] } := by
          obtain ⟨cc, ca, ct⟩ := c
          simp only at hcal hargs htys
          subst hcal
          congr 1
          · apply Array.ext'; simpa using hargs
          · apply Array.ext'; simpa using htys
        rw [hc] at ho
        split at hr
        · rename_i e ht
          split at hr
          · rename_i hs1
            split at hr
            · simp only [Option.bind_eq_some_iff, Option.map_eq_some_iff] at hr
              obtain ⟨vx, hx, vy, hy, rfl⟩ := hr
              exact good_cpy h hd ho ht hs1 hx hy he
            · cases hr
          · cases hr
        · cases hr
      · cases hr
    · rename_i hcal
      split at hr
      · rename_i x y hargs
        have hc : c = { callee := .builtin (if true then .max else .min), args := #[x, y], argTypes := c.argTypes } := by
          obtain ⟨cc, ca, ct⟩ := c
          simp only at hcal hargs
          subst hcal
          congr 1
          apply Array.ext'; simpa using hargs
        rw [hc] at ho
        simp only [Option.bind_eq_some_iff, Option.map_eq_some_iff] at hr
        obtain ⟨vx, hx, vy, hy, rfl⟩ := hr
        exact good_mm h hd (mx := true) ho hx hy he
      · cases hr
    · rename_i hcal
      split at hr
      · rename_i x y hargs
        have hc : c = { callee := .builtin (if false then .max else .min), args := #[x, y], argTypes := c.argTypes } := by
          obtain ⟨cc, ca, ct⟩ := c
          simp only at hcal hargs
          subst hcal
          congr 1
          apply Array.ext'; simpa using hargs
        rw [hc] at ho
        simp only [Option.bind_eq_some_iff, Option.map_eq_some_iff] at hr
        obtain ⟨vx, hx, vy, hy, rfl⟩ := hr
        exact good_mm h hd (mx := false) ho hx hy he
      · cases hr
    · cases hr
  · rename_i t ho
    cases hr
    simp only [ev] at he
    cases he
    exact good_mkm h hd ho (hid rfl)
  · rename_i t x k ho
    split at hr
    · rename_i kt et ht
      split at hr
      · rename_i hk hz
        simp only [Option.bind_eq_some_iff, Option.map_eq_some_iff] at hr
        obtain ⟨vx, hx, vk, hkk, rfl⟩ := hr
        exact good_mget h hd ho ht hk hz hx hkk he
      · cases hr
    · cases hr
  · rename_i t x k v ho
    split at hr
    · rename_i kt et ht
      split at hr
      · rename_i hk
        simp only [Option.bind_eq_some_iff, Option.map_eq_some_iff] at hr
        obtain ⟨vx, hx, vk, hkk, vv, hv, rfl⟩ := hr
        exact good_mset h hd ho ht hk hx hkk hv he
      · cases hr
    · cases hr
  · cases hr

end Go.Proofs.YtmjdoonaidolkaaDoor.V

/- A small logic of values over the model, part 16: calls by contract; one step of a region, wherever it stands. -/
namespace Go.Proofs.YtmjdoonaidolkaaDoor.V

/-- A state out of lists: slots, boxes. -/
def FS.of (t : List AV) (h : List HObj) : FS := ⟨fun i => t.getD i .undef, fun i => h[i]?⟩

def callable (P : Program) (f : Nat) : Bool :=
  match P.funcs[f]? with
  | some fn => !(fn.name == "runtime.NumGoroutine") && fn.body.isSome
  | none => false

/-- Is it there: with a body, or one for which the model stands in? -/
def known (P : Program) (f : Nat) : Bool :=
  match P.funcs[f]? with
  | some fn => !(fn.name == "runtime.NumGoroutine") && (fn.body.isSome || ((Extern.findNext fn).isNone && (Extern.find fn).isSome))
  | none => false

/-- What a call comes to: its body's run, or what stands in for it. -/
def Runs (P : Program) (f : Nat) (vals : Array Value) (w : World) (Q : Ending → World → Prop) : Prop :=
  match callable P f with
  | true => Calls P f vals w Q
  | false => ∃ fn e v w', P.funcs[f]? = some fn ∧ (fn.name == "runtime.NumGoroutine") = false ∧ fn.body.isNone = true ∧ Extern.findNext fn = none ∧ Extern.find fn = some e ∧ (e vals).run P w = .ok v w' ∧ Q (.returned v) w'

theorem Runs.mono {P : Program} {f : Nat} {vals : Array Value} {w : World} {Q Q' : Ending → World → Prop} (h : Runs P f vals w Q) (hq : ∀ e w', Q e w' → Q' e w') : Runs P f vals w Q' := by
  unfold Runs at *
  split at h
  · exact h.mono hq
  · obtain ⟨fn, e, v, w', h1, h2, h3, h4, h5, h6, h7⟩ := h
    exact ⟨fn, e, v, w', h1, h2, h3, h4, h5, h6, hq _ _ h7⟩

theorem Runs.of {P : Program} {f : Nat} {vals : Array Value} {w : World} {Q : Ending → World → Prop} (hc : callable P f = true) (h : Calls P f vals w Q) : Runs P f vals w Q := by
  unfold Runs
  rw [hc]
  exact h

theorem Runs.calls {P : Program} {f : Nat} {vals : Array Value} {w : World} {Q : Ending → World → Prop} (hc : callable P f = true) (h : Runs P f vals w Q) : Calls P f vals w Q := by
  unfold Runs at h
  rw [hc] at h
  exact h

theorem known_of {P : Program} {f : Nat} (h : callable P f = true) : known P f = true := by
  unfold callable at h
  unfold known
  split at h
  · simp only [Bool.and_eq_true] at h ⊢
    exact ⟨h.1, by rw [h.2]; rfl⟩
  · cases h

/-- An operation that calls. -/
theorem exec_call {P : Program} {o : Oper} {a : Act} {w : World} {c : Call} {x : Operand} {g : Nat} (hoc : o.op = .call c) (hcal : c.callee = .value x) (hfv : a.eval x = .func (.func g) #[] #[]) {Q : Ending → World → Prop} (hr : Runs P g (c.args.toList.map a.eval).toArray w Q)
    {K : Act → World → Prop} {Q' : Exit → Act → World → Prop} (hQ : ∀ e w', Q e w' → ∃ v, e = .returned v ∧ K (a.put o.dst v) w') : o.wp P a w K Q' := by
  have harr : c.args.map a.eval = (c.args.toList.map a.eval).toArray := by
    apply Array.ext'
    simp
  cases hcb : callable P g with
  | true =>
    have hr := hr.calls hcb
    unfold callable at hcb
    split at hcb
    · rename_i fn hfn
      simp only [Bool.and_eq_true, Bool.not_eq_true', Option.isSome_iff_exists] at hcb
      obtain ⟨hname, body, hbody⟩ := hcb
      have hrun : (execOp a.eval o).run P w = .ok (.enter g (c.args.toList.map a.eval).toArray) w := by
        simp only [execOp, hoc, Go.resolve, hcal, hfv, Deferred.ofValue, Sem.run_bind, Sem.run_pure, Result.andThen_ok, invoke, callFunc, run_program, hfn, hname, Bool.false_eq_true, ↓reduceIte, hbody, Option.isNone_some, harr]
        simp
      unfold Oper.wp
      rw [hrun, Oper.upon_enter]
      refine hr.mono fun e w' hp => ?_
      obtain ⟨v, rfl, hk⟩ := hQ e w' hp
      exact hk
    · cases hcb
  | false =>
    unfold Runs at hr
    rw [hcb] at hr
    obtain ⟨fn, e, v, w', h1, h2, h3, h4, h5, h6, h7⟩ := hr
    obtain ⟨v', e', hk⟩ := hQ _ _ h7
    cases e'
    have hrun : (execOp a.eval o).run P w = .ok (.value v) w' := by
      have := run_callFunc_extern h1 h2 h3 h4 h5 (c.args.toList.map a.eval).toArray w
      rw [h6] at this
      simp only [execOp, hoc, Go.resolve, hcal, hfv, Deferred.ofValue, Sem.run_bind, Sem.run_pure, Result.andThen_ok, invoke, harr]
      simpa using this
    unfold Oper.wp
    rw [hrun]
    exact hk

/-- A contract: called with these, the function returns that; boxes too. -/
def VCall (P : Program) (f : Nat) (args : List AV) (h : List HObj) (ret : AV) (h' : List HObj) : Prop :=
  known P f = true ∧ h.length ≤ h'.length ∧ ∀ (w : World) (fr pi : Nat → Nat) (own : Res → List Nat) (vals : List Value), vals.length = args.length → Rel w fr pi own (FS.of args h) vals.toArray →
    Runs P f vals.toArray w fun e w' => ∃ v fr' pi' own', e = .returned v ∧ Rel w' fr' pi' own' (FS.of [ret] h') #[v] ∧ Ext w w' fr fr' pi pi' own own' (fun i => i < h.length)

/-- A contract that knows of no box. -/
def PCall (P : Program) (f : Nat) (args : List AV) (ret : AV) : Prop := VCall P f args [] ret []

/-- The callee's own state, cut out of the caller's. -/
def cutOwn (own : Res → List Nat) (args : List VX) (bx : Bool) : Res → List Nat
  | .slot j => match args[j]? with
    | some (.tmp t) => own (.slot t)
    | _ => []
  | .box i => if bx then own (.box i) else []

def argTmps : List VX → List Nat
  | [] => []
  | .tmp t :: r => t :: argTmps r
  | .cst _ :: r => argTmps r

theorem mem_argTmps {args : List VX} {j t : Nat} (h : args[j]? = some (.tmp t)) : t ∈ argTmps args := by
  induction args generalizing j with
  | nil => simp at h
  | cons x r ih =>
    cases j with
    | zero => simp at h; subst h; simp [argTmps]
    | succ j =>
      have := ih (by simpa using h)
      cases x <;> simp [argTmps, this]

theorem argTmps_inj {args : List VX} (hn : (argTmps args).Nodup) {i j t : Nat} (hi : args[i]? = some (.tmp t)) (hj : args[j]? = some (.tmp t)) : i = j := by
  induction args generalizing i j with
  | nil => simp at hi
  | cons x r ih =>
    cases x with
    | tmp u =>
      simp only [argTmps, List.nodup_cons] at hn
      cases i with
      | zero =>
        cases j with
        | zero => rfl
        | succ j =>
          simp at hi
          subst hi
          exact absurd (mem_argTmps (by simpa using hj)) hn.1
      | succ i =>
        cases j with
        | zero =>
          simp at hj
          subst hj
          exact absurd (mem_argTmps (by simpa using hi)) hn.1
        | succ j => exact congrArg (· + 1) (ih (i := i) (j := j) hn.2 (by simpa using hi) (by simpa using hj))
    | cst c =>
      simp only [argTmps] at hn
      cases i with
      | zero => simp at hi
      | succ i =>
        cases j with
        | zero => simp at hj
        | succ j => exact congrArg (· + 1) (ih (i := i) (j := j) hn (by simpa using hi) (by simpa using hj))

theorem resXs_get : ∀ {xs : List Operand} {vs : List VX}, resXs xs = some vs → xs.length = vs.length ∧ ∀ (i : Nat) (x : Operand) (v : VX), xs[i]? = some x → vs[i]? = some v → resX x = some v
  | [], vs, h => by
    simp [resXs] at h
    subst h
    simp
  | x :: xs, vs, h => by
    simp only [resXs, Option.bind_eq_some_iff, Option.map_eq_some_iff] at h
    obtain ⟨v, h1, r, h2, rfl⟩ := h
    obtain ⟨k1, k2⟩ := resXs_get h2
    refine ⟨by simp [k1], fun i y u hy hu => ?_⟩
    cases i with
    | zero => simp at hy hu; subst hy hu; exact h1
    | succ i => exact k2 i y u (by simpa using hy) (by simpa using hu)

/-- The callee's state holds in the caller's world. -/
theorem Rel.cut {w : World} {fr pi : Nat → Nat} {own : Res → List Nat} {s : FS} {a : Act} (h : Rel w fr pi own s a.tmps) {xs : List Operand} {vs : List VX} (hx : resXs xs = some vs) (hnd : (argTmps vs).Nodup) (bx : Bool)
    (hnp : bx = false → ∀ v, v ∈ vs → NP (fun _ => False) (rdX s.sl v)) :
    Rel w fr pi (cutOwn own vs bx) ⟨fun i => (vs.map (rdX s.sl)).getD i .undef, fun i => if bx then s.bx i else none⟩ (xs.map a.eval).toArray := by
  obtain ⟨k1, k2⟩ := resXs_get hx
  have hget : ∀ i : Nat, (∃ (x : Operand) (v : VX), xs[i]? = some x ∧ vs[i]? = some v) ∨ (xs[i]? = none ∧ vs[i]? = none) := by
    intro i
    rcases Nat.lt_or_ge i xs.length with hi | hi
    · exact .inl ⟨_, _, List.getElem?_eq_getElem hi, List.getElem?_eq_getElem (by omega)⟩
    · exact .inr ⟨List.getElem?_eq_none hi, List.getElem?_eq_none (by omega)⟩
  have hsub : ∀ r b, b ∈ cutOwn own vs bx r → ∃ r', b ∈ own r' ∧ (∀ j, r = .slot j → ∃ t, vs[j]? = some (.tmp t) ∧ r' = .slot t) ∧ (∀ j, r = .box j → r' = .box j) := by
    intro r b hb
    cases r with
    | slot j =>
      simp only [cutOwn] at hb
      split at hb
      · rename_i t ht
        exact ⟨_, hb, fun j' e => by cases e; exact ⟨t, ht, rfl⟩, fun j' e => by cases e⟩
      · simp at hb
    | box j =>
      simp only [cutOwn] at hb
      split at hb
      · exact ⟨_, hb, (fun j' e => by cases e), (fun j' e => by cases e; rfl)⟩
      · simp at hb
  refine ⟨fun i => ?_, fun i => ?_, fun i o ho => ?_, fun i o ho => ?_, fun i hi => ?_, fun r => ?_, fun r r' b x1 x2 => ?_, fun r b hb => ?_⟩
  · rcases hget i with ⟨x, v, hxi, hvi⟩ | ⟨hxi, hvi⟩
    · obtain ⟨O, h1, h2, h3, h4⟩ := opnd h (k2 i x v hxi hvi)
      have e1 : (vs.map (rdX s.sl)).getD i .undef = rdX s.sl v := by simp [List.getD, hvi]
      have e2 : (xs.map a.eval).toArray.getD i Go.undef = a.eval x := by simp [Array.getD_eq_getD_getElem?, hxi]
      show Rep w fr pi ((vs.map (rdX s.sl)).getD i .undef) _ _
      rw [e1, e2]
      simp only [cutOwn, hvi]
      cases v with
      | tmp t =>
        have hre : resX x = some (.tmp t) := k2 i x _ hxi hvi
        have hxt : x = .tmp t := by
          cases x <;> simp [resX] at hre
          subst hre; rfl
        subst hxt
        exact h.slot t
      | cst c =>
        have hO : O = [] := by
          cases O with
          | nil => rfl
          | cons b r => obtain ⟨t, e, _⟩ := h4 b (by simp); cases e
        subst hO
        exact h1
    · have e1 : (vs.map (rdX s.sl)).getD i .undef = .undef := by simp [List.getD, hvi]
      show Rep w fr pi ((vs.map (rdX s.sl)).getD i .undef) _ _
      rw [e1]
      simp only [cutOwn, hvi]
      exact .undef _
  · rcases hget i with ⟨x, v, hxi, hvi⟩ | ⟨hxi, hvi⟩
    · obtain ⟨O, h1, h2, h3, h4⟩ := opnd h (k2 i x v hxi hvi)
      have e1 : (vs.map (rdX s.sl)).getD i .undef = rdX s.sl v := by simp [List.getD, hvi]
      show NP _ ((vs.map (rdX s.sl)).getD i .undef)
      rw [e1]
      cases bx with
      | true => exact h2
      | false => exact (hnp rfl v (List.mem_of_getElem? hvi)).mono (fun _ h => h.elim)
    · have e1 : (vs.map (rdX s.sl)).getD i .undef = .undef := by simp [List.getD, hvi]
      show NP _ ((vs.map (rdX s.sl)).getD i .undef)
      rw [e1]
      exact .undef
  · cases bx with
    | true => exact h.box i o ho
    | false => cases ho
  · cases bx with
    | true => exact h.boxnp i o ho
    | false => cases ho
  · cases bx with
    | true => exact h.nobox i hi
    | false => rfl
  · cases r with
    | slot j =>
      simp only [cutOwn]
      split
      · exact h.nd _
      · simp
    | box j =>
      simp only [cutOwn]
      split
      · exact h.nd _
      · simp
  · obtain ⟨q1, m1, m2, m3⟩ := hsub r b x1
    obtain ⟨q2, n1, n2, n3⟩ := hsub r' b x2
    have hq := h.dj q1 q2 b m1 n1
    subst hq
    cases r with
    | slot j =>
      obtain ⟨t, ht, e⟩ := m2 j rfl
      cases r' with
      | slot j' =>
        obtain ⟨t', ht', e'⟩ := n2 j' rfl
        rw [e] at e'
        cases e'
        rw [argTmps_inj hnd ht ht']
      | box j' =>
        have := n3 j' rfl
        rw [e] at this
        cases this
    | box j =>
      have e := m3 j rfl
      cases r' with
      | slot j' =>
        obtain ⟨t', ht', e'⟩ := n2 j' rfl
        rw [e] at e'
        cases e'
      | box j' =>
        have := n3 j' rfl
        rw [e] at this
        cases this
        rfl
  · obtain ⟨q, m, _⟩ := hsub r b hb
    exact h.live q b m

/-- What the callee comes to, laid into the caller's state. -/
theorem Rel.paste {_P : Program} {w w' : World} {fr fr' pi pi' : Nat → Nat} {own own' : Res → List Nat} {s : FS} {a : Act} (h : Rel w fr pi own s a.tmps) {d : Option Nat} (hd : ∀ t, d = some t → t < a.tmps.size) {vs : List VX} (bx : Bool)
    {ret : AV} {v : Value} {bx' : Nat → Option HObj} (hr : Rel w' fr' pi' own' ⟨fun i => [ret].getD i .undef, bx'⟩ #[v]) (he : Ext w w' fr fr' pi pi' (cutOwn own vs bx) own' (fun i => bx = true ∧ s.has i))
    (hbx : bx = false → bx' = fun _ => none) (hhas : bx = true → ∀ i, s.has i → ∃ o, bx' i = some o) :
    ∃ own2, Rel w' fr' (if bx then pi' else pi) own2 (({ s.strip (argTmps vs) with bx := if bx then bx' else s.bx } : FS).putO d ret) (a.put d v).tmps ∧ Ext w w' fr fr' pi (if bx then pi' else pi) own own2 s.has := by
  have hstrip := h.strip (argTmps vs)
  -- what the callee owned is of the caller's arguments and boxes
  have hcut : ∀ r b, b ∈ cutOwn own vs bx r → (∃ t, t ∈ argTmps vs ∧ b ∈ own (.slot t)) ∨ (bx = true ∧ ∃ i, b ∈ own (.box i)) := by
    intro r b hb
    cases r with
    | slot j =>
      simp only [cutOwn] at hb
      split at hb
      · rename_i t ht
        exact .inl ⟨t, mem_argTmps ht, hb⟩
      · simp at hb
    | box j =>
      simp only [cutOwn] at hb
      split at hb
      · rename_i hbx
        exact .inr ⟨hbx, j, hb⟩
      · simp at hb
  have hnot : ∀ i b, b ∈ ownStrip own (argTmps vs) (.slot i) → ¬ ∃ r, b ∈ cutOwn own vs bx r := by
    rintro i b hb ⟨r, hr⟩
    rcases hcut r b hr with ⟨t, ht, hb'⟩ | ⟨_, j, hb'⟩
    · have := h.dj _ _ b (ownStrip_sub hb) hb'
      cases this
      simp [ownStrip, ht] at hb
    · have := h.dj _ _ b (ownStrip_sub hb) hb'
      cases this
  have hnotb : bx = false → ∀ i b, b ∈ own (.box i) → ¬ ∃ r, b ∈ cutOwn own vs bx r := by
    rintro hbx i b hb ⟨r, hr⟩
    rcases hcut r b hr with ⟨t, ht, hb'⟩ | ⟨hb1, _⟩
    · have := h.dj _ _ b hb hb'
      cases this
    · rw [hbx] at hb1; cases hb1
  have hpi : ∀ i, s.has i → (if bx then pi' else pi) i = pi i := by
    intro i hi
    cases bx with
    | true => exact he.pi i ⟨rfl, hi⟩
    | false => rfl
  -- the state but for the result
  let own1 : Res → List Nat := fun r => match r with
    | .slot i => ownStrip own (argTmps vs) (.slot i)
    | .box i => if bx then own' (.box i) else own (.box i)
  let s1 : FS := { s.strip (argTmps vs) with bx := if bx then bx' else s.bx }
  have hh : ∀ i, s.has i → s1.has i := by
    intro i hi
    cases hb : bx with
    | true => obtain ⟨o, ho⟩ := hhas hb i hi; exact ⟨o, by simp [s1, hb, ho]⟩
    | false => obtain ⟨o, ho⟩ := hi; exact ⟨o, by simp [s1, hb, ho]⟩
  have hfresh : ∀ r b, b ∈ own' r → (∃ t, t ∈ argTmps vs ∧ b ∈ own (.slot t)) ∨ (bx = true ∧ ∃ i, b ∈ own (.box i)) ∨ w.heap.size ≤ b := by
    intro r b hb
    rcases he.fresh r b hb with ⟨r', hr'⟩ | h'
    · rcases hcut r' b hr' with h1 | h1
      · exact .inl h1
      · exact .inr (.inl h1)
    · exact .inr (.inr h')
  have hdj1 : ∀ i b, b ∈ ownStrip own (argTmps vs) (.slot i) → ∀ r, b ∉ own' r := by
    intro i b hb r hr'
    rcases hfresh r b hr' with ⟨t, ht, hb'⟩ | ⟨_, j, hb'⟩ | hlt
    · exact hnot i b hb (by
        have := h.dj _ _ b (ownStrip_sub hb) hb'
        cases this
        simp [ownStrip, ht] at hb)
    · have := h.dj _ _ b (ownStrip_sub hb) hb'
      cases this
    · have := h.live _ b (ownStrip_sub hb)
      omega
  have hdj2 : bx = false → ∀ i b, b ∈ own (.box i) → ∀ r, b ∉ own' r := by
    intro hb0 i b hb r hr'
    rcases hfresh r b hr' with ⟨t, ht, hb'⟩ | ⟨hb1, _⟩ | hlt
    · have := h.dj _ _ b hb hb'
      cases this
    · rw [hb0] at hb1; cases hb1
    · have := h.live _ b hb
      omega
  have hRel1 : Rel w' fr' (if bx then pi' else pi) own1 s1 a.tmps := by
    refine ⟨fun i => ?_, fun i => (hstrip.slotnp i).mono hh, fun i o ho => ?_, fun i o ho => ?_, fun i hi => ?_, fun r => ?_, fun r r' b x1 x2 => ?_, fun r b hb => ?_⟩
    · exact (hstrip.slot i).mono he.step hpi (hstrip.slotnp i) (hnot i)
    · cases hb : bx with
      | true =>
        simp only [s1, hb, ↓reduceIte] at ho
        simpa [own1, hb] using hr.box i o ho
      | false =>
        simp only [s1, hb, Bool.false_eq_true, ↓reduceIte] at ho
        obtain ⟨O, h1, h2⟩ := h.box i o ho
        refine ⟨O, ?_, by simpa [own1, hb] using h2⟩
        simp only [Bool.false_eq_true, ↓reduceIte]
        exact h1.mono he.step (fun _ _ => rfl) (h.boxnp i o ho) (fun x hx => h.live (.box i) x (by rw [h2]; exact hx)) (fun x hx => hnotb hb i x (by rw [h2]; exact hx))
    · cases hb : bx with
      | true =>
        simp only [s1, hb, ↓reduceIte] at ho
        have := hr.boxnp i o ho
        exact this.mono (fun j ⟨o', hj⟩ => ⟨o', by simpa [s1, hb] using hj⟩)
      | false =>
        simp only [s1, hb, Bool.false_eq_true, ↓reduceIte] at ho
        exact (h.boxnp i o ho).mono hh
    · cases hb : bx with
      | true =>
        simp only [s1, hb, ↓reduceIte] at hi
        simpa [own1, hb] using hr.nobox i hi
      | false =>
        simp only [s1, hb, Bool.false_eq_true, ↓reduceIte] at hi
        simpa [own1, hb] using h.nobox i hi
    · cases r with
      | slot i => exact hstrip.nd (.slot i)
      | box i =>
        simp only [own1]
        split
        · exact hr.nd _
        · exact h.nd _
    · cases r with
      | slot i =>
        cases r' with
        | slot j => exact hstrip.dj (.slot i) (.slot j) b x1 x2
        | box j =>
          exfalso
          simp only [own1] at x1 x2
          split at x2
          · exact hdj1 i b x1 _ x2
          · have := h.dj _ _ b (ownStrip_sub x1) x2
            cases this
      | box i =>
        cases r' with
        | slot j =>
          exfalso
          simp only [own1] at x1 x2
          split at x1
          · exact hdj1 j b x2 _ x1
          · have := h.dj _ _ b (ownStrip_sub x2) x1
            cases this
        | box j =>
          simp only [own1] at x1 x2
          split at x1
          · rename_i hb
            rw [if_pos hb] at x2
            exact hr.dj _ _ b x1 x2
          · rename_i hb
            rw [if_neg hb] at x2
            exact h.dj _ _ b x1 x2
    · have hsz := he.step.size
      cases r with
      | slot i =>
        have := h.live _ b (ownStrip_sub hb)
        omega
      | box i =>
        simp only [own1] at hb
        split at hb
        · exact hr.live _ b hb
        · have := h.live _ b hb
          omega
  have hret : Rep w' fr' (if bx then pi' else pi) ret v (own' (.slot 0)) ∧ NP s1.has ret := by
    have h0 := hr.slot 0
    have h1 := hr.slotnp 0
    simp at h0 h1
    cases hb : bx with
    | true =>
      refine ⟨by simpa using h0, h1.mono (fun j ⟨o', hj⟩ => ⟨o', by simpa [s1, hb] using hj⟩)⟩
    | false =>
      have hno : ∀ i, ¬ FS.has ⟨fun i => ([ret] : List AV).getD i .undef, bx'⟩ i := by
        rintro i ⟨o, ho⟩
        simp [hbx hb] at ho
      refine ⟨?_, h1.mono (fun j hj => absurd hj (hno j))⟩
      simp only [Bool.false_eq_true, ↓reduceIte]
      exact h0.mono (ok := FS.has ⟨fun i => ([ret] : List AV).getD i .undef, bx'⟩) (Step.refl w' fr' (fun _ => False)) (fun j hj => absurd hj (hno j)) h1 (by simp)
  obtain ⟨own2, g1, g2⟩ := hRel1.putO (a := a) (d := d) hd hret.1 hret.2 (hr.nd _) (hr.live _) (by
    intro b hb r hr'
    cases r with
    | slot i => exact hdj1 i b hr' _ hb
    | box i =>
      simp only [own1] at hr'
      split at hr'
      · have := hr.dj _ _ b hb hr'
        cases this
      · rename_i hb0
        exact hdj2 (by simpa using hb0) i b hr' _ hb)
  refine ⟨own2, g1, ⟨he.step.mono (fun b hb ⟨r, hr'⟩ => ?_), fun r b hb => ?_, hpi⟩⟩
  · rcases hcut r b hr' with ⟨t, _, h1⟩ | ⟨_, i, h1⟩
    · exact ⟨_, h1⟩
    · exact ⟨_, h1⟩
  · have key : ∀ b, (∃ r, b ∈ own' r) → (∃ r', b ∈ own r') ∨ w.heap.size ≤ b := by
      rintro b ⟨r, hb⟩
      rcases hfresh r b hb with ⟨t, _, h1⟩ | ⟨_, i, h1⟩ | h1
      · exact .inl ⟨_, h1⟩
      · exact .inl ⟨_, h1⟩
      · exact .inr h1
    rcases g2 r b hb with ⟨r', h3⟩ | h3
    · cases r' with
      | slot i => exact .inl ⟨_, ownStrip_sub h3⟩
      | box i =>
        simp only [own1] at h3
        split at h3
        · exact key b ⟨_, h3⟩
        · exact .inl ⟨_, h3⟩
    · exact key b ⟨_, h3⟩

end Go.Proofs.YtmjdoonaidolkaaDoor.V

/- A small logic of values over the model: operations in another reading: slices that are their holder's own altogether, what is moved out of a box, what is let stand. -/
namespace Go.Proofs.YtmjdoonaidolkaaDoor.V

/-- What is moved out of cells: the value, and the cells behind it. -/
def mvCells (cs : List AV) (off : Nat) : Option Nat → Option (AV × List AV)
  | none => (cs[off]?).map fun a => (a, splice cs off [a.strip])
  | some n => if off + n ≤ cs.length then some (.agg ((cs.drop off).take n), splice cs off (AV.stripL ((cs.drop off).take n))) else none

/-- Another reading of operations: the slots that give up, the value, a box. -/
def evx (s : Nat → AV) (bx : Nat → Option HObj) (op : VOp) : Option (List Nat × AV × Option (Nat × HObj)) :=
  match op with
  | .ifc t x => match rdX s x with
    | .ptr (some (i, off)) => match bx i with
      | some (.cells cs) => if cs.all AV.one then some ([], .iface t (.rptr ((AV.stripL cs).drop off)), some (i, .ro (AV.stripL cs))) else none
      | _ => none
    | _ => none
  | .bslice sz len z ps => if z.all AV.one then (putElems s sz (List.replicate len z) ps).map fun l => ([], .fsl sz l, none) else none
  | .load g x => match rdX s x with
    | .ptr (some (i, off)) => match bx i with
      | some (.cells cs) => (mvCells cs off g).map fun r => ([], r.1, some (i, .cells r.2))
      | _ => none
    | _ => none
  | .app sz bytes x y => match rdX s y with
    | .sl sz2 _ _ ys => match rdX s x with
      | .sl _ (some true) _ xs => if xs.length = 0 ∧ (sz2 = sz ∨ ys.length = 0) ∧ 0 < ys.length ∧ ys.length * bytes ≤ 140737488355328 ∧ ys.length ≤ 140737488355328 then some ([], .xsl sz ys, none) else none
      | .xsl sz' xs => match x with
        | .tmp t => if sz' = sz ∧ (sz2 = sz ∨ ys.length = 0) ∧ (xs.length + ys.length) * bytes ≤ 140737488355328 ∧ xs.length + ys.length ≤ 140737488355328 then some ([t], .xsl sz (xs ++ ys), none) else none
        | _ => none
      | .bsl sz' i off n => match bx i with
        | some (.arr sz3 xs) => if sz' = sz ∧ sz3 = sz ∧ off = 0 ∧ n = xs.length ∧ 0 < n ∧ (sz2 = sz ∨ ys.length = 0) ∧ (xs.length + ys.length) * bytes ≤ 140737488355328 ∧ xs.length + ys.length ≤ 140737488355328 then some ([], .xsl sz (xs ++ ys), some (i, .ro [])) else none
        | _ => none
      | .fsl sz' xs => if sz' = sz ∧ (sz2 = sz ∨ ys.length = 0) ∧ 0 < ys.length ∧ (xs.length + ys.length) * bytes ≤ 140737488355328 ∧ xs.length + ys.length ≤ 140737488355328 then some ([], .sl sz (some false) true (xs ++ ys), none) else none
      | _ => none
    | _ => none
  | _ => none

/-! ### new memory -/

/-- Something in new memory, over a state that has given up already. -/
theorem Good.newG {P : Program} {o : Oper} {a : Act} {w w1 : World} {fr pi : Nat → Nat} {own own0 : Res → List Nat} {s0 : FS} {ok : Nat → Prop} (h0 : Rel w fr pi own0 s0 a.tmps) (hsub : ∀ r b, b ∈ own0 r → ∃ r', b ∈ own r') (hd : ∀ t, o.dst = some t → t < a.tmps.size)
    (hst : Step w w1 fr fr (fun _ => False)) (hsz : w1.heap.size = w.heap.size) {ob : Obj} {k : Nat} {v : Value} {x : AV} {O : List Nat} (hO : ∀ b, b ∈ O → b = w1.heap.size) (hnd : O.Nodup)
    (hrun : (execOp a.eval o).run P w = .ok (.value v) (w1.alloc ob)) (hx : Rep (w1.alloc ob) (upd fr w1.heap.size k) pi x v O) (hn : NP s0.has x) :
    Good P o a w fr pi own ok (s0.putO o.dst x) := by
  have st2 := Step.alloc w1 fr ob k
  have st := hst.trans st2 (A := fun _ => False) (fun b hb h => h)
  have hRel := h0.step st (fun _ _ _ h => h)
  obtain ⟨own', g1, g2⟩ := hRel.putO (a := a) (d := o.dst) hd hx hn hnd (fun b hb => by rw [hO b hb]; simp) (by
    intro b hb r hr
    rw [hO b hb] at hr
    have := h0.live r _ hr
    omega)
  refine ⟨_, _, _, _, _, own', hrun, .inl rfl, g1, ⟨st.mono (fun _ _ h => h.elim), fun r b hb => ?_, fun _ _ => rfl⟩⟩
  rcases g2 r b hb with ⟨r', h3⟩ | h3
  · exact .inl (hsub r' b h3)
  · rw [hO b h3]
    exact .inr (by omega)

theorem Rep.xnew {w1 : World} {fr pi : Nat → Nat} {sz : Nat} {xs : List (List AV)} {vs ju : List Value} {e : TypeId} {cap : Nat} {w : World} {ok : Nat → Prop} (hst : Step w w1 fr fr (fun _ => False)) (hr : Reps w fr pi xs.flatten vs []) (hn : ∀ x, x ∈ xs → ∀ a, a ∈ x → NP ok a) (hl : ∀ x, x ∈ xs → x.length = sz) (h1 : ∀ v, v ∈ vs → v.oneCell' = true)
    (hcap : xs.length ≤ cap) (hju : cap * sz ≤ (vs ++ ju).length) : Rep (w1.alloc (.cells (vs ++ ju).toArray e)) (upd fr w1.heap.size 0) pi (.xsl sz xs) (.slice (some ⟨w1.heap.size, 0, none⟩) xs.length cap) [w1.heap.size] := by
  have st := hst.trans (Step.alloc w1 fr (.cells (vs ++ ju).toArray e) 0) (A := fun _ => False) (fun b hb h => h)
  exact .xsl sz xs w1.heap.size cap vs ju e hl (hr.mono st (ok := ok) (fun _ _ => rfl) (fun a ha => by obtain ⟨x, hx, hax⟩ := List.mem_flatten.1 ha; exact hn x hx a hax) (by simp)) h1 (heap_alloc_new _ _) (upd_same _ _ _) hcap hju

/-- Appended to what is one's own altogether (or to nothing). -/
theorem Good.appendX {P : Program} {o : Oper} {a : Act} {w : World} {fr pi : Nat → Nat} {own own0 : Res → List Nat} {s0 : FS} {ok : Nat → Prop} (h0 : Rel w fr pi own0 s0 a.tmps) (hsub : ∀ r b, b ∈ own0 r → ∃ r', b ∈ own r') (hd : ∀ t, o.dst = some t → t < a.tmps.size) {x y : Operand} {t u e : TypeId}
    (ho : o.op = .call { callee := .builtin .append, args := #[x, y], argTypes := #[t, u] }) (ht : P.underlying t = some (.slice e)) {i : TypeInfo} (hi : P.info? e = some i) {z : Value} (hz : i.zero = some z) (hzs : z.cells.size = i.size) {xs ys : List (List AV)} {vs ju news : List Value} {b cap : Nat} {el : TypeId}
    (hv : a.eval x = .slice (some ⟨b, 0, none⟩) xs.length cap) (hrow : w.heap[b]? = some (.cells (vs ++ ju).toArray el (0, 0))) (hfr : fr b = 0) (hin : ∃ r, b ∈ own r) (hno : ∀ r, b ∉ own0 r) (hlen : ∀ x, x ∈ xs → x.length = i.size) (hr : Reps w fr pi xs.flatten vs []) (h1 : ∀ v, v ∈ vs → v.oneCell' = true)
    (_hcap : xs.length ≤ cap) (hju : cap * i.size ≤ (vs ++ ju).length) (hxn : ∀ x, x ∈ xs → ∀ a, a ∈ x → NP s0.has a)
    (hy : Srcs P w fr pi i.size u (a.eval y) ys news) (hyn : ∀ x, x ∈ ys → ∀ a, a ∈ x → NP s0.has a) (hb : (xs.length + ys.length) * i.bytes ≤ 140737488355328) (hb2 : xs.length + ys.length ≤ 140737488355328) :
    Good P o a w fr pi own ok (s0.putO o.dst (.xsl i.size (xs ++ ys))) := by
  have hrunop : (execOp a.eval o).run P w = ((Builtin.append_ #[t, u] o.type #[a.eval x, a.eval y]).run P w).andThen fun v w' => .ok (.value v) w' := by
    simp [execOp, ho, Go.resolve, invoke, builtin]
  have hbl : b < w.heap.size := by
    rcases Nat.lt_or_ge b w.heap.size with h' | h'
    · exact h'
    · simp [Array.getElem?_eq_none h'] at hrow
  have hnewl := hy.src.newsLen
  have hvl : vs.length = xs.length * i.size := by rw [← hr.length, flatten_len hlen]
  have hall : ∀ x, x ∈ xs ++ ys → ∀ a, a ∈ x → NP s0.has a := fun x hx => by
    rcases List.mem_append.1 hx with hx | hx
    · exact hxn x hx
    · exact hyn x hx
  have hallen : ∀ x, x ∈ xs ++ ys → x.length = i.size := fun x hx => by
    rcases List.mem_append.1 hx with hx | hx
    · exact hlen x hx
    · exact hy.len x hx
  have hone : ∀ v, v ∈ vs ++ news → v.oneCell' = true := fun v hv => by
    rcases List.mem_append.1 hv with hv | hv
    · exact h1 v hv
    · exact hy.src.one v hv
  have hlen2 : xs.length + ys.length = (xs ++ ys).length := by simp
  have hnf : ∀ {zs : List (List AV)}, (∀ x, x ∈ zs → ∀ a, a ∈ x → NP s0.has a) → ∀ a, a ∈ zs.flatten → NP s0.has a := fun h a ha => by obtain ⟨x, hx, hax⟩ := List.mem_flatten.1 ha; exact h x hx a hax
  by_cases hroom : xs.length + ys.length ≤ cap
  · have hmul : xs.length * i.size + ys.length * i.size ≤ cap * i.size := by rw [← Nat.add_mul]; exact Nat.mul_le_mul_right _ hroom
    have hcell : ∀ j, j < news.length → (w.cell? ⟨b, 0 + xs.length * i.size + j, none⟩).isSome = true := by
      intro j hj
      have hjj : 0 + xs.length * i.size + j < (vs ++ ju).length := by omega
      simp only [World.cell?, hrow, List.getElem?_toArray, List.getElem?_eq_getElem hjj]
      rfl
    have hr2 := run_append_room_src (P := P) w t u o.type e i ht hi b 0 xs.length cap (a.eval y) ys.length news hy.src hroom hcell (fun j hj => frozen_of_row w _ _ _ el hrow)
    rw [hv, hr2] at hrunop
    have hfit : 0 + xs.length * i.size + news.length ≤ (vs ++ ju).toArray.size := by simp only [List.size_toArray]; omega
    have hst := Step.setCells (w := w) (fr := fr) (b := b) (o := 0 + xs.length * i.size) (vs := news) hrow hfit (by omega) (k := 0) (by omega)
    rw [frUpd hfr] at hst
    obtain ⟨c', q1, q2, q3⟩ := setCells_row b news (0 + xs.length * i.size) w _ el (0, 0) hrow hfit
    have hc' : c' = ((vs ++ news) ++ ju.drop news.length).toArray := by
      apply Array.ext'
      rw [q3]
      have e1 : 0 + xs.length * i.size = vs.length := by omega
      rw [e1, List.take_left', List.drop_append, List.drop_of_length_le (by omega)]
      · simp
      · rfl
    rw [hc'] at q1
    have hRel := h0.step hst (fun r b' hb' e => hno r (e ▸ hb'))
    have hrep : Rep (w.setCells b (0 + xs.length * i.size) news) fr pi (.xsl i.size (xs ++ ys)) (.slice (some ⟨b, 0, none⟩) (xs ++ ys).length cap) [b] := by
      refine .xsl _ _ b cap (vs ++ news) (ju.drop news.length) el hallen ?_ hone q1 hfr (by rw [← hlen2]; exact hroom) ?_
      · rw [List.flatten_append]
        have k1 := hr.mono hst (ok := s0.has) (fun _ _ => rfl) (hnf hxn) (by simp)
        have k2 := hy.rep.mono hst (ok := s0.has) (fun _ _ => rfl) (hnf hyn) (by simp)
        simpa using k1.append k2
      · have hsame := congrArg Array.size hc'
        rw [q2] at hsame
        simp only [List.size_toArray] at hsame
        omega
    obtain ⟨own', g1, g2⟩ := hRel.putO (a := a) (d := o.dst) hd hrep (.xsl _ _ hall) (by simp) (by
      intro b' hb'
      simp only [List.mem_singleton] at hb'
      subst hb'
      have := hst.size
      omega) (by
      intro b' hb' r hr'
      simp only [List.mem_singleton] at hb'
      subst hb'
      exact hno r hr')
    rw [hlen2] at hrunop
    refine ⟨_, _, _, _, pi, own', hrunop, .inl rfl, g1, ⟨hst.mono (fun b' hb' e => e ▸ hin), fun r b' hb' => ?_, fun _ _ => rfl⟩⟩
    rcases g2 r b' hb' with ⟨r', h5⟩ | h5
    · exact .inl (hsub r' b' h5)
    · simp only [List.mem_singleton] at h5
      exact .inl (h5 ▸ hin)
  · have hold : (Builtin.firstCells i.size xs.length (.slice (some ⟨b, 0, none⟩) xs.length cap)).run P w.drew = .ok vs.toArray w.drew :=
      run_firstCells_some (P := P) w.drew i.size xs.length ⟨b, 0, none⟩ xs.length cap vs hvl (fun j v hj => by
        have hjl : j < vs.length := by
          rcases Nat.lt_or_ge j vs.length with h' | h'
          · exact h'
          · simp [List.getElem?_eq_none h'] at hj
        rw [addr_add, Nat.zero_add]
        show w.cell? ⟨b, j, none⟩ = some v
        simp [World.cell?, hrow, List.getElem?_append_left hjl, hj])
    have hr2 := run_append_grow_src (P := P) w t u o.type e i z ht hi hz (some ⟨b, 0, none⟩) xs.length cap vs hold (a.eval y) ys.length news hy.src (by omega) (by omega)
      (by have := growslice_fits (need := xs.length + ys.length) (old := cap) (bytes := i.bytes) (by omega) hb; omega)
    rw [hv, hr2] at hrunop
    have hg := grownCap_ge w (xs.length + ys.length) cap e
    have hx := Rep.xnew (pi := pi) (e := e) (sz := i.size) (xs := xs ++ ys) (vs := vs ++ news) (ju := (Builtin.zeroCells z.cells (grownCap w (xs.length + ys.length) cap e - (xs.length + ys.length))).toList) (cap := grownCap w (xs.length + ys.length) cap e) (Step.drew w fr)
      (by rw [List.flatten_append]; simpa using hr.append hy.rep) hall hallen hone (by rw [← hlen2]; omega) (by
        simp only [Array.length_toList, size_zeroCells, hzs, List.length_append, hvl, hnewl, ← Nat.add_mul]
        exact Nat.mul_le_mul_right _ (by omega))
    refine Good.newG h0 hsub hd (Step.drew w fr) rfl (by simp) (by simp) ?_ hx (.xsl _ _ hall)
    rw [hrunop, ← hlen2]
    simp only [Result.andThen_ok, arr_app]
    rfl

/-- Appended to nothing. -/
theorem Good.appendNil {P : Program} {o : Oper} {a : Act} {w : World} {fr pi : Nat → Nat} {own : Res → List Nat} {s0 : FS} {ok : Nat → Prop} (h0 : Rel w fr pi own s0 a.tmps) (hd : ∀ t, o.dst = some t → t < a.tmps.size) {x y : Operand} {t u e : TypeId}
    (ho : o.op = .call { callee := .builtin .append, args := #[x, y], argTypes := #[t, u] }) (ht : P.underlying t = some (.slice e)) {i : TypeInfo} (hi : P.info? e = some i) {z : Value} (hz : i.zero = some z) (hzs : z.cells.size = i.size) {ys : List (List AV)} {news : List Value}
    (hv : a.eval x = .slice none 0 0) (hy : Srcs P w fr pi i.size u (a.eval y) ys news) (hyn : ∀ x, x ∈ ys → ∀ a, a ∈ x → NP s0.has a) (h1 : 0 < ys.length) (hb : ys.length * i.bytes ≤ 140737488355328) (hb2 : ys.length ≤ 140737488355328) :
    Good P o a w fr pi own ok (s0.putO o.dst (.xsl i.size ys)) := by
  have hrunop : (execOp a.eval o).run P w = ((Builtin.append_ #[t, u] o.type #[a.eval x, a.eval y]).run P w).andThen fun v w' => .ok (.value v) w' := by
    simp [execOp, ho, Go.resolve, invoke, builtin]
  have hnewl := hy.src.newsLen
  have hr := run_append_grow_src (P := P) w t u o.type e i z ht hi hz none 0 0 [] (run_firstCells_none (P := P) w.drew i.size 0 0 0) (a.eval y) ys.length news hy.src (by omega) (by omega)
    (by have := growslice_fits (need := 0 + ys.length) (old := 0) (bytes := i.bytes) (by omega) (by simpa using hb); omega)
  rw [hv, hr] at hrunop
  have hg := grownCap_ge w (0 + ys.length) 0 e
  have hx := Rep.xnew (pi := pi) (e := e) (sz := i.size) (xs := ys) (vs := news) (ju := (Builtin.zeroCells z.cells (grownCap w (0 + ys.length) 0 e - (0 + ys.length))).toList) (cap := grownCap w (0 + ys.length) 0 e) (Step.drew w fr)
    hy.rep hyn hy.len hy.src.one (by omega) (by
      simp only [Array.length_toList, size_zeroCells, hzs, List.length_append, hnewl, ← Nat.add_mul]
      exact Nat.mul_le_mul_right _ (by omega))
  refine Good.newG h0 (fun r b hb => ⟨r, hb⟩) hd (Step.drew w fr) rfl (by simp) (by simp) ?_ hx (.xsl _ _ hyn)
  rw [hrunop]
  simp only [Result.andThen_ok, List.nil_append, Nat.zero_add, arr_app]
  rfl

/-- Appended to a slice without room. -/
theorem Good.appendF {P : Program} {o : Oper} {a : Act} {w : World} {fr pi : Nat → Nat} {own : Res → List Nat} {s0 : FS} {ok : Nat → Prop} (h0 : Rel w fr pi own s0 a.tmps) (hd : ∀ t, o.dst = some t → t < a.tmps.size) {x y : Operand} {t u e : TypeId}
    (ho : o.op = .call { callee := .builtin .append, args := #[x, y], argTypes := #[t, u] }) (ht : P.underlying t = some (.slice e)) {i : TypeInfo} (hi : P.info? e = some i) {z : Value} (hz : i.zero = some z) (hzs : z.cells.size = i.size) {xs ys : List (List AV)} {vs news : List Value} {b of : Nat}
    (hv : a.eval x = .slice (some ⟨b, of, none⟩) xs.length xs.length) (hlen : ∀ x, x ∈ xs → x.length = i.size) (hr : Reps w fr pi xs.flatten vs []) (hcells : CellsAt w fr b of vs) (hxn : ∀ x, x ∈ xs → ∀ a, a ∈ x → NP s0.has a)
    (hy : Srcs P w fr pi i.size u (a.eval y) ys news) (hyn : ∀ x, x ∈ ys → ∀ a, a ∈ x → NP s0.has a) (h1 : 0 < ys.length) (hb : (xs.length + ys.length) * i.bytes ≤ 140737488355328) (hb2 : xs.length + ys.length ≤ 140737488355328) :
    Good P o a w fr pi own ok (s0.putO o.dst (.sl i.size (some false) true (xs ++ ys))) := by
  have hrunop : (execOp a.eval o).run P w = ((Builtin.append_ #[t, u] o.type #[a.eval x, a.eval y]).run P w).andThen fun v w' => .ok (.value v) w' := by
    simp [execOp, ho, Go.resolve, invoke, builtin]
  have hnewl := hy.src.newsLen
  have hvl : vs.length = xs.length * i.size := by rw [← hr.length, flatten_len hlen]
  have hall : ∀ x, x ∈ xs ++ ys → ∀ a, a ∈ x → NP s0.has a := fun x hx => by
    rcases List.mem_append.1 hx with hx | hx
    · exact hxn x hx
    · exact hyn x hx
  have hallen : ∀ x, x ∈ xs ++ ys → x.length = i.size := fun x hx => by
    rcases List.mem_append.1 hx with hx | hx
    · exact hlen x hx
    · exact hy.len x hx
  have hone : ∀ v, v ∈ vs ++ news → v.oneCell' = true := fun v hv => by
    rcases List.mem_append.1 hv with hv | hv
    · obtain ⟨k, hk⟩ := List.getElem?_of_mem hv
      exact (hcells k v hk).2.2
    · exact hy.src.one v hv
  have hold : (Builtin.firstCells i.size xs.length (.slice (some ⟨b, of, none⟩) xs.length xs.length)).run P w.drew = .ok vs.toArray w.drew :=
    run_firstCells_some (P := P) w.drew i.size xs.length ⟨b, of, none⟩ xs.length xs.length vs hvl (fun j v hj => by rw [addr_add]; simpa using (hcells j v hj).1)
  have hr2 := run_append_grow_src (P := P) w t u o.type e i z ht hi hz (some ⟨b, of, none⟩) xs.length xs.length vs hold (a.eval y) ys.length news hy.src (by omega) (by omega)
    (by have := growslice_fits (need := xs.length + ys.length) (old := xs.length) (bytes := i.bytes) (by omega) hb; omega)
  rw [hv, hr2] at hrunop
  have hlen2 : xs.length + ys.length = (xs ++ ys).length := by simp
  have hg := grownCap_ge w (xs.length + ys.length) xs.length e
  have hx : Rep (w.drew.alloc (.cells ((vs ++ news) ++ (Builtin.zeroCells z.cells (grownCap w (xs.length + ys.length) xs.length e - (xs.length + ys.length))).toList).toArray e)) (upd fr w.drew.heap.size ((xs ++ ys).length * i.size)) pi
      (.sl i.size (some false) true (xs ++ ys)) (.slice (some ⟨w.drew.heap.size, 0, none⟩) (xs ++ ys).length (grownCap w (xs.length + ys.length) xs.length e)) [w.drew.heap.size] := by
    have st := (Step.drew w fr).trans (Step.alloc w.drew fr (.cells ((vs ++ news) ++ (Builtin.zeroCells z.cells (grownCap w (xs.length + ys.length) xs.length e - (xs.length + ys.length))).toList).toArray e) ((xs ++ ys).length * i.size)) (A := fun _ => False) (fun b hb h => h)
    have hvn : (vs ++ news).length = (xs ++ ys).length * i.size := by rw [List.length_append, List.length_append, hvl, hnewl, Nat.add_mul]
    refine .slown _ _ _ _ 0 _ (vs ++ news) (by simp) hallen ?_ (cells_row (heap_alloc_new _ _) (by rw [upd_same]; omega) hone) (by rw [← hlen2]; omega) ⟨⟨by rw [upd_same]; omega, _, e, heap_alloc_new _ _, ?_⟩, rfl⟩
    · have := (hr.append hy.rep).mono st (ok := s0.has) (fun _ _ => rfl) (fun a ha => by
        rw [← List.flatten_append] at ha
        obtain ⟨x, hx, hax⟩ := List.mem_flatten.1 ha; exact hall x hx a hax) (by simp)
      rw [List.flatten_append]
      simpa using this
    · simp only [List.size_toArray, List.length_append, Array.length_toList, size_zeroCells, hzs, hvl, hnewl, ← Nat.add_mul, Nat.zero_add]
      exact Nat.mul_le_mul_right _ (by omega)
  refine Good.newG h0 (fun r b hb => ⟨r, hb⟩) hd (Step.drew w fr) rfl (by simp) (by simp) ?_ hx (.sl _ _ _ _ hall)
  rw [hrunop, ← hlen2]
  simp only [Result.andThen_ok, arr_app]
  rfl

/-! ### moved out of a box -/

theorem Rel.moveOut {w : World} {fr pi : Nat → Nat} {own : Res → List Nat} {s : FS} {tm : Array Value} (h : Rel w fr pi own s tm) {id : Nat} {cs : List AV} (hb : s.bx id = some (.cells cs)) {off n : Nat} (hle : off + n ≤ cs.length) :
    ∃ O2 us own1, Reps w fr pi ((cs.drop off).take n) us O2 ∧ us.length = n ∧ (∀ (k : Nat) (v : Value), us[k]? = some v → w.cell? ⟨pi id, off + k, none⟩ = some v) ∧ O2.Nodup ∧ (∀ b, b ∈ O2 → b ∈ own (.box id)) ∧
      Rel w fr pi own1 { s with bx := upd s.bx id (some (.cells (splice cs off (AV.stripL ((cs.drop off).take n))))) } tm ∧ (∀ r b, b ∈ own1 r → b ∈ own r) ∧ (∀ b, b ∈ O2 → ∀ r, b ∉ own1 r) := by
  obtain ⟨O0, ⟨vs, e, h1, h2, h3⟩, h4⟩ := h.box id _ hb
  replace h4 : own (.box id) = pi id :: O0 := h4
  have hndb := h.nd (.box id)
  rw [h4] at hndb
  have hnp0 : ∀ a, a ∈ cs → NP s.has a := h.boxnp id _ hb
  have hs : cs = cs.take off ++ ((cs.drop off).take n ++ cs.drop (off + n)) := by rw [← List.drop_drop, List.take_append_drop, List.take_append_drop]
  have h2' := h2
  rw [hs] at h2'
  obtain ⟨u1, u23, O1, O23, e1, e2, r1, r23⟩ := h2'.split
  obtain ⟨u2, u3, O2, O3, e3, e4, r2, r3⟩ := r23.split
  subst e3 e4 e2
  have l1 := r1.length
  have l2 := r2.length
  simp only [List.length_take, List.length_drop] at l1 l2
  have hspl : splice cs off (AV.stripL ((cs.drop off).take n)) = cs.take off ++ (AV.stripL ((cs.drop off).take n) ++ cs.drop (off + n)) := by
    unfold splice
    rw [AV.stripL_eq, List.length_map, List.length_take, List.length_drop, Nat.min_eq_left (by omega), List.append_assoc]
  have hnew : Reps w fr pi (splice cs off (AV.stripL ((cs.drop off).take n))) vs (O1 ++ O3) := by
    rw [hspl, e1]
    have := r1.append (r2.strip.append r3)
    simpa using this
  simp only [List.nodup_cons, List.nodup_append, List.mem_append] at hndb
  obtain ⟨d0, d1, ⟨d2, d3, d4⟩, d5⟩ := hndb
  have hsubl : ∀ b, b ∈ pi id :: (O1 ++ O3) → b ∈ own (.box id) := by
    intro b hb
    rw [h4]
    simp only [List.mem_cons, List.mem_append] at hb ⊢
    rcases hb with hb | hb | hb
    · exact .inl hb
    · exact .inr (.inl hb)
    · exact .inr (.inr (.inr hb))
  have hhas : ∀ i, s.has i → FS.has { s with bx := upd s.bx id (some (.cells (splice cs off (AV.stripL ((cs.drop off).take n))))) } i := by
    intro i ⟨o, hi⟩
    by_cases e : i = id
    · subst e; exact ⟨_, upd_same _ _ _⟩
    · exact ⟨o, (upd_ne _ _ e).trans hi⟩
  have hsub : ∀ r b, b ∈ upd own (.box id) (pi id :: (O1 ++ O3)) r → b ∈ own r := by
    intro r b hb
    by_cases e : r = .box id
    · subst e; rw [upd_same] at hb; exact hsubl b hb
    · rwa [upd_ne _ _ e] at hb
  refine ⟨O2, u2, upd own (.box id) (pi id :: (O1 ++ O3)), r2, by omega, fun k v hk => ?_, d2, fun b hb => by rw [h4]; simp [hb], ⟨fun i => ?_, fun i => (h.slotnp i).mono hhas, fun i o hbo => ?_, fun i o hbo => ?_, fun i hi => ?_, fun r => ?_, fun r r' b x1 x2 => h.dj r r' b (hsub r b x1) (hsub r' b x2), fun r b hr => h.live r b (hsub r b hr)⟩, hsub, fun b hb r hr => ?_⟩
  · have hk' : k < u2.length := by
      rcases Nat.lt_or_ge k u2.length with h' | h'
      · exact h'
      · simp [List.getElem?_eq_none h'] at hk
    have : vs[off + k]? = some v := by
      rw [e1, List.getElem?_append_right (by omega), List.getElem?_append_left (by omega), show off + k - u1.length = k by omega]
      exact hk
    simp [World.cell?, h1, this]
  · rw [upd_ne _ _ (by simp)]
    exact h.slot i
  · by_cases hi : i = id
    · subst hi
      simp only [upd_same] at hbo ⊢
      cases hbo
      exact ⟨O1 ++ O3, ⟨vs, e, h1, hnew, h3⟩, rfl⟩
    · have hb' : s.bx i = some o := by simpa [upd, hi] using hbo
      rw [upd_ne _ _ (by simpa using hi)]
      exact h.box i o hb'
  · by_cases hi : i = id
    · subst hi
      simp only [upd_same] at hbo
      cases hbo
      intro a ha
      rw [hspl] at ha
      simp only [List.mem_append, AV.stripL_eq, List.mem_map] at ha
      rcases ha with ha | ⟨y, hy, rfl⟩ | ha
      · exact (hnp0 a (List.mem_of_mem_take ha)).mono hhas
      · exact (hnp0 y (List.mem_of_mem_drop (List.mem_of_mem_take hy))).strip.mono hhas
      · exact (hnp0 a (List.mem_of_mem_drop ha)).mono hhas
    · have hb' : s.bx i = some o := by simpa [upd, hi] using hbo
      exact (h.boxnp i o hb').mono hhas
  · by_cases he : i = id
    · subst he; simp [upd] at hi
    · have hb' : s.bx i = none := by simpa [upd, he] using hi
      rw [upd_ne _ _ (by simpa using he)]
      exact h.nobox i hb'
  · by_cases er : r = .box id
    · subst er
      rw [upd_same]
      simp only [List.nodup_cons, List.nodup_append, List.mem_append]
      exact ⟨fun hm => d0 (by rcases hm with hm | hm; exact .inl hm; exact .inr (.inr hm)), d1, d3, fun a ha b hb => d5 a ha b (.inr hb)⟩
    · rw [upd_ne _ _ er]; exact h.nd r
  · by_cases er : r = .box id
    · subst er
      rw [upd_same] at hr
      simp only [List.mem_cons, List.mem_append] at hr
      rcases hr with rfl | hr | hr
      · exact d0 (.inr (.inl hb))
      · exact d5 b hr b (.inl hb) rfl
      · exact d4 b hb b hr rfl
    · rw [upd_ne _ _ er] at hr
      exact er (h.dj r (.box id) b hr (by rw [h4]; simp [hb]))

section
variable {P : Program} {o : Oper} {a : Act} {w : World} {fr pi : Nat → Nat} {own : Res → List Nat} {s : FS} (h : Rel w fr pi own s a.tmps) (hd : ∀ t, o.dst = some t → t < a.tmps.size)
include h hd

theorem good_xload {t : TypeId} {x : Operand} {vx : VX} {g : Option Nat} (ho : o.op = .load t x) (hg : aggOf P t = some g) (hx : resX x = some vx) {T : List Nat} {z : AV} {b : Option (Nat × HObj)}
    (he : evx s.sl s.bx (.load g vx) = some (T, z, b)) : Good P o a w fr pi own s.has (s.after T o.dst z b) := by
  obtain ⟨O, h1, h2, _⟩ := opnd h hx
  simp only [evx] at he
  split at he <;> try (cases he; done)
  rename_i i off hr
  rw [hr] at h1 h2
  split at he <;> try (cases he; done)
  rename_i cs hb
  obtain ⟨⟨v0, cs'⟩, hm, e⟩ := Option.map_eq_some_iff.1 he
  cases e
  obtain ⟨hv, _⟩ := h1.ptr_inv
  have hnp0 : ∀ a, a ∈ cs → NP s.has a := h.boxnp i _ hb
  have hhas : ∀ cs', ∀ j, s.has j → FS.has { s with bx := upd s.bx i (some (.cells cs')) } j := by
    intro cs' j ⟨o, hi⟩
    by_cases e : j = i
    · subst e; exact ⟨_, upd_same _ _ _⟩
    · exact ⟨o, (upd_ne _ _ e).trans hi⟩
  -- how it ends
  have fin : ∀ {O2 : List Nat} {own1 : Res → List Nat} {v : Value} {x : AV} {cs' : List AV}, Rep w fr pi x v O2 → NP s.has x → O2.Nodup → (∀ b, b ∈ O2 → b ∈ own (.box i)) →
      Rel w fr pi own1 { s with bx := upd s.bx i (some (.cells cs')) } a.tmps → (∀ r b, b ∈ own1 r → b ∈ own r) → (∀ b, b ∈ O2 → ∀ r, b ∉ own1 r) → (loadVar t ⟨pi i, off, none⟩).run P w = .ok v w →
      Good P o a w fr pi own s.has (s.after [] o.dst x (some (i, .cells cs'))) := by
    intro O2 own1 v x cs' k1 k2 k3 k4 k5 k6 k7 k8
    obtain ⟨own', q1, q2⟩ := k5.putO (a := a) (d := o.dst) hd k1 (k2.mono (hhas cs')) k3 (fun b hb => h.live _ _ (k4 b hb)) k7
    refine ⟨_, v, w, fr, pi, own', by simp [execOp, ho, Instr.loadAt, Instr.sureAddr, hv, k8], .inl rfl, ?_, Ext.own fun r b hb => ?_⟩
    · unfold FS.after
      rw [FS.strip_nil]
      exact q1
    · rcases q2 r b hb with ⟨r', h3⟩ | h3
      · exact ⟨r', k6 r' b h3⟩
      · exact ⟨_, k4 b h3⟩
  cases g with
  | none =>
    simp only [mvCells] at hm
    obtain ⟨c, hc, e⟩ := Option.map_eq_some_iff.1 hm
    cases e
    have hlt : off < cs.length := by
      rcases Nat.lt_or_ge off cs.length with h' | h'
      · exact h'
      · simp [List.getElem?_eq_none h'] at hc
    have hone : (cs.drop off).take 1 = [v0] := by
      rw [List.getElem?_eq_getElem hlt] at hc
      rw [List.drop_eq_getElem_cons hlt, Option.some.inj hc]
      rfl
    obtain ⟨O2, us, own1, r1, r2, r3, r4, r5, r6, r7, r8⟩ := h.moveOut hb (off := off) (n := 1) (by omega)
    rw [hone] at r1 r6
    obtain ⟨v, rfl⟩ : ∃ v, us = [v] := by
      match us, r2 with
      | [v], _ => exact ⟨v, rfl⟩
    have hrep : Rep w fr pi v0 v O2 := by
      cases r1 with
      | cons _ _ O' _ _ O'' g1 g2 =>
        cases g2
        simpa using g1
    exact fin hrep (hnp0 _ (List.mem_of_getElem? hc)) r4 r5 r6 r7 r8 ((run_loadVar_V hg (vs := [v]) r3).2 v rfl rfl)
  | some n =>
    simp only [mvCells] at hm
    split at hm <;> try (cases hm; done)
    rename_i hle
    cases hm
    obtain ⟨O2, us, own1, r1, r2, r3, r4, r5, r6, r7, r8⟩ := h.moveOut hb hle
    exact fin (.agg _ _ _ r1) (.agg _ (fun a ha => hnp0 a (List.mem_of_mem_drop (List.mem_of_mem_take ha)))) r4 r5 r6 r7 r8 ((run_loadVar_V hg (vs := us) r3).1 n rfl r2)

theorem good_xifc {t : TypeId} {d : TypeDesc} {x : Operand} {vx : VX} (ho : o.op = .makeInterface t x) (hdd : P.underlying t = some d) (hni : ∀ ms, d ≠ .interface ms) (hx : resX x = some vx) {T : List Nat} {z : AV} {b : Option (Nat × HObj)}
    (he : evx s.sl s.bx (.ifc t vx) = some (T, z, b)) : Good P o a w fr pi own s.has (s.after T o.dst z b) := by
  obtain ⟨O, h1, h2, _⟩ := opnd h hx
  simp only [evx] at he
  split at he <;> try (cases he; done)
  rename_i i off hr
  rw [hr] at h1 h2
  split at he <;> try (cases he; done)
  rename_i cs hb
  split at he <;> try (cases he; done)
  rename_i hone
  cases he
  obtain ⟨hv, _⟩ := h1.ptr_inv
  obtain ⟨fr', vs, q1, q2, q3, q4, q5⟩ := h.freezeCells hb hone (fun vs O hr => ones_rep hr hone)
  have hnp0 : ∀ a, a ∈ cs → NP s.has a := h.boxnp i _ hb
  have hnd : ∀ a, a ∈ (AV.stripL cs).drop off → NP s.has a := fun a ha => by
    have := List.mem_of_mem_drop ha
    rw [AV.stripL_eq] at this
    obtain ⟨y, hy, rfl⟩ := List.mem_map.1 this
    exact (hnp0 y hy).strip
  have hrd : Rep w fr' pi (.rptr ((AV.stripL cs).drop off)) (a.eval x) [] := by
    rw [hv]
    have hs : AV.stripL cs = (AV.stripL cs).take off ++ (AV.stripL cs).drop off := (List.take_append_drop _ _).symm
    rw [hs] at q4
    obtain ⟨u1, u2, O1, O2, e1, e2, r1, r2⟩ := q4.split
    obtain ⟨rfl, rfl⟩ := List.append_eq_nil_iff.1 e2.symm
    refine .rptr _ _ off u2 r2 fun k v hk => ?_
    have l1 := r1.length
    have l2 := r2.length
    simp only [List.length_take, List.length_drop] at l1 l2
    have hk' : k < u2.length := by
      rcases Nat.lt_or_ge k u2.length with h' | h'
      · exact h'
      · simp [List.getElem?_eq_none h'] at hk
    have := q5 (off + k) v (by rw [e1, List.getElem?_append_right (by omega), show off + k - u1.length = k by omega]; exact hk)
    simpa using this
  refine Good.turned hd [] hb q3 (.inl rfl) (v := .iface t (a.eval x)) ?_ (by rw [FS.strip_nil]; exact q1) (fun r b hb => ?_) q2 (.iface _ _ _ hrd) (.iface _ _ (.rptr _ hnd))
  · simp only [execOp, ho, Instr.makeInterface, Sem.run_bind, run_underlying hdd, Result.andThen_ok]
    cases d <;> first | rfl | (exfalso; exact hni _ rfl)
  · by_cases e : r = .box i
    · subst e; rw [upd_same] at hb; simp at hb
    · rwa [upd_ne _ _ e] at hb

theorem good_xbslice {t e : TypeId} {n sz : Nat} {ps : Array (Nat × Operand)} {z : AV} {l : List (Nat × VX)} (ho : o.op = .buildSlice t n ps) (hu : P.underlying t = some (.slice e)) (hs : szOf P e = some sz) (hz : zeroOf P e = some z)
    (h0 : sz ≠ 0) (hbig : ¬ n * sz > 2 ^ 24) (hzl : z.cells.length = sz) (hl : resPartsA ps.toList = some l) {T : List Nat} {y : AV} {b : Option (Nat × HObj)} (he : evx s.sl s.bx (.bslice sz n z.cells l) = some (T, y, b)) :
    Good P o a w fr pi own s.has (s.after T o.dst y b) := by
  simp only [evx] at he
  split at he <;> try (cases he; done)
  rename_i hone
  simp only [Option.map_eq_some_iff] at he
  obtain ⟨xs', h1, e'⟩ := he
  cases e'
  unfold zeroOf at hz
  obtain ⟨v, g1, g2⟩ := Option.bind_eq_some_iff.1 hz
  obtain ⟨i, hi, hv⟩ := Option.bind_eq_some_iff.1 g1
  obtain ⟨r1, r2⟩ := avOf_rep (w := w) (fr := fr) (pi := pi) (ok := s.has) g2
  have hne : z.cells ≠ [] := fun e => by rw [e] at hzl; simp at hzl; omega
  have hcr := cells_rep r1 hne
  have hvs : v.cells.size = sz := by have := hcr.length; simp at this; omega
  unfold szOf at hs
  obtain ⟨i', hi', e2⟩ := Option.map_eq_some_iff.1 hs
  rw [hi] at hi'
  cases hi'
  have hsz : i.size = sz := e2
  have hcells : ((Array.range (n * sz)).map fun j => (if n * sz = 0 then (#[] : Array Value) else v.cells)[j % (if n * sz = 0 then (#[] : Array Value) else v.cells).size]!).toList = (List.replicate n v.cells.toList).flatten := by
    by_cases hn : n * sz = 0
    · have : n = 0 := by
        rcases Nat.mul_eq_zero.1 hn with h | h
        · exact h
        · omega
      subst this
      simp
    · rw [if_neg hn, ← hvs]
      exact zero_cells v.cells (by omega) n
  obtain ⟨cells', q1, q2, q3, q4, q5, q6⟩ := fill_elems h sz (by omega) ps.toList l (List.replicate n z.cells) xs' ((Array.range (n * sz)).map fun j => (if n * sz = 0 then (#[] : Array Value) else v.cells)[j % (if n * sz = 0 then (#[] : Array Value) else v.cells).size]!) hl h1
    (fun x hx => by rw [List.eq_of_mem_replicate hx]; exact hzl) (fun x hx => by rw [List.eq_of_mem_replicate hx]; exact hone) (by rw [hcells]; exact replicate_rep hcr n) (fun x hx => by rw [List.eq_of_mem_replicate hx]; exact r2.cells)
  have hlen : xs'.length = n := by simpa using q6
  have harr : (ps.map fun x => (x.1, a.eval x.2)).toList = ps.toList.map fun p => (p.1, a.eval p.2) := by simp
  have st := Step.alloc w fr (.cells cells' e) (xs'.length * sz)
  have hx : Rep (w.alloc (.cells cells' e)) (upd fr w.heap.size (xs'.length * sz)) pi (.fsl sz xs') (.slice (some ⟨w.heap.size, 0, none⟩) xs'.length xs'.length) [] := by
    refine .fsl sz xs' _ 0 cells'.toList q3 (q2.mono st (ok := s.has) (fun _ _ => rfl) (fun a ha => by obtain ⟨x, hx, hax⟩ := List.mem_flatten.1 ha; exact q5 x hx a hax) (by simp)) ?_
    have hrow : (w.alloc (.cells cells' e)).heap[w.heap.size]? = some (.cells (cells'.toList ++ []).toArray e (0, 0)) := by rw [List.append_nil]; exact heap_alloc_new _ _
    refine cells_row hrow ?_ (ones_rep q2 (all_flatten q4))
    rw [upd_same]
    have := q2.length
    rw [flatten_len q3] at this
    omega
  have hfin := Good.newG (P := P) (ok := s.has) (own := own) h (fun r b hb => ⟨r, hb⟩) hd (Step.refl w fr _) rfl (O := []) (by simp) (by simp) (x := .fsl sz xs') (v := .slice (some ⟨w.heap.size, 0, none⟩) xs'.length xs'.length) (ob := .cells cells' e) (k := xs'.length * sz) ?_ hx (.fsl _ _ q5)
  · unfold FS.after
    rw [FS.strip_nil]
    exact hfin
  · by_cases hn : n * sz = 0
    · simp only [hn, ↓reduceIte] at q1
      have hb2 : ¬ (0 > 2 ^ 24) := by omega
      simp only [execOp, ho, Instr.buildSlice, Sem.run_bind, run_underlying hu, Result.andThen_ok, sizeOf, typeInfo, run_program, hi, Sem.run_pure, hsz, hn, hb2, ↓reduceIte, harr, q1, newRow, run_newObj, World.alloc_eq]
      simp [hlen]
    · simp only [hn, ↓reduceIte] at q1
      simp only [execOp, ho, Instr.buildSlice, Sem.run_bind, run_underlying hu, Result.andThen_ok, sizeOf, typeInfo, run_program, hi, Sem.run_pure, hsz, hn, hbig, ↓reduceIte, zeroValue, hv, harr, q1, newRow, run_newObj, World.alloc_eq]
      simp [hlen]

theorem good_xapp {x y : Operand} {vx vy : VX} {t u e : TypeId} (ho : o.op = .call { callee := .builtin .append, args := #[x, y], argTypes := #[t, u] }) (ht : P.underlying t = some (.slice e)) {i : TypeInfo} (hi : P.info? e = some i) {z0 : AV}
    (hz : zeroOf P e = some z0) (h0 : i.size ≠ 0) (hzl : z0.cells.length = i.size) (hx : resX x = some vx) (hy : resX y = some vy) {e' : TypeId} (hus' : P.underlying u = some (.slice e'))
    {T : List Nat} {z : AV} {b : Option (Nat × HObj)} (he : evx s.sl s.bx (.app i.size i.bytes vx vy) = some (T, z, b)) : Good P o a w fr pi own s.has (s.after T o.dst z b) := by
  simp only [evx] at he
  split at he <;> try (cases he; done)
  rename_i sz2 nl2 ow2 ys hr2
  obtain ⟨g1, g2⟩ := opnd0 h hy
  have hz' := hz
  unfold zeroOf at hz'
  obtain ⟨v, k1, k2⟩ := Option.bind_eq_some_iff.1 hz'
  obtain ⟨i', hi', hv⟩ := Option.bind_eq_some_iff.1 k1
  rw [hi] at hi'
  cases hi'
  obtain ⟨r1, r2⟩ := avOf_rep (w := w) (fr := fr) (pi := pi) (ok := s.has) k2
  have hne : z0.cells ≠ [] := fun e => by rw [e] at hzl; simp at hzl; omega
  have hvs : v.cells.size = i.size := by have := (cells_rep r1 hne).length; simp at this; omega
  rw [hr2] at g1 g2
  simp only [AV.strip] at g1 g2
  have srcs : (sz2 = i.size ∨ ys.length = 0) → ∃ news, Srcs P w fr pi i.size u (a.eval y) ys news := by
    intro c1
    rcases g1.sl_inv with ⟨hyv, hys, _⟩ | ⟨ad, cap, hyv, hys, _⟩ | ⟨bl, of, cap, vs, hyv, _, hlen, hrep, hcells, _⟩
    · subst hys
      exact ⟨[], by rw [hyv]; exact Src.ofNil w hus' 0, .nil, by simp⟩
    · subst hys
      exact ⟨[], by rw [hyv]; exact Src.ofSlice w hus' ad 0 cap [] (by simp) (fun j u hj => by simp at hj) (fun u hu' => by simp at hu'), .nil, by simp⟩
    · have hlen' : ∀ x, x ∈ ys → x.length = i.size := by
        rcases c1 with c1 | c1
        · rw [← c1]; exact hlen
        · have : ys = [] := List.eq_nil_of_length_eq_zero c1
          subst this
          simp
      have hvl : vs.length = ys.length * i.size := by rw [← hrep.length, flatten_len hlen']
      exact ⟨vs, by rw [hyv]; exact Src.ofSlice w hus' _ _ _ _ hvl (fun j u hj => by rw [addr_add]; exact (hcells j u hj).1) (fun u hu' => by
        obtain ⟨k, hk⟩ := List.getElem?_of_mem hu'
        exact (hcells k u hk).2.2), hrep, hlen'⟩
  have hyn := g2.sl_inv
  split at he
  · rename_i xs hr
    split at he <;> try (cases he; done)
    rename_i hc
    obtain ⟨c0, c1, c2, c3, c4⟩ := hc
    cases he
    obtain ⟨news, hs⟩ := srcs c1
    obtain ⟨O, h1, _⟩ := opnd h hx
    rw [hr] at h1
    have hxv : a.eval x = .slice none 0 0 := by
      rcases h1.sl_inv with ⟨hv, _⟩ | ⟨_, _, _, _, hnn, _⟩ | ⟨_, _, _, _, _, hnn, _⟩
      · exact hv
      · exact absurd rfl hnn
      · exact absurd rfl hnn
    have := Good.appendNil (ok := s.has) h hd ho ht hi hv hvs hxv hs hyn c2 c3 c4
    unfold FS.after
    rw [FS.strip_nil]
    exact this
  · rename_i sz' xs hr
    split at he <;> try (cases he; done)
    rename_i tx
    split at he <;> try (cases he; done)
    rename_i hc
    obtain ⟨rfl, c1, c3, c4⟩ := hc
    cases he
    obtain ⟨news, hs⟩ := srcs c1
    obtain ⟨O, h1, h2, _, h4⟩ := opnd h hx
    rw [hr] at h1 h2
    have hxn : ∀ x, x ∈ xs → ∀ a, a ∈ x → NP s.has a := by
      cases h2 with
      | xsl _ _ h2 => exact h2
    generalize hxv : a.eval x = vx at h1
    cases h1 with
    | xsl _ _ b cap vs ju el m0 m1 m2 m3 m4 m5 m6 =>
      have hbo : b ∈ own (.slot tx) := by
        obtain ⟨t, e, ht⟩ := h4 b (by simp)
        cases e
        exact ht
      have hno : ∀ r, b ∉ ownStrip own [tx] r := by
        intro r hb
        have := h.dj r (.slot tx) b (ownStrip_sub hb) hbo
        subst this
        simp [ownStrip] at hb
      exact Good.appendX (ok := s.has) (own := own) (h.strip [tx]) (fun r b hb => ⟨r, ownStrip_sub hb⟩) hd ho ht hi hv hvs hxv m3 m4 ⟨_, hbo⟩ hno m0 m1 m2 m5 m6 hxn hs hyn c3 c4
  · rename_i sz' bi off n hr
    split at he <;> try (cases he; done)
    rename_i sz3 xs hb
    split at he <;> try (cases he; done)
    rename_i hc
    obtain ⟨e1, e2, e3, e4, c0, c1, c3, c4⟩ := hc
    subst e1 e3
    cases he
    obtain ⟨news, hs⟩ := srcs c1
    obtain ⟨h1, h2⟩ := opnd0 h hx
    rw [hr] at h1 h2
    simp only [AV.strip] at h1 h2
    obtain ⟨k1', k2', k3, k4, vs, ju, el, k5, k6, k7, k8⟩ := h.arr hb
    have hshape : ∃ cap, a.eval x = .slice (some ⟨pi bi, 0, none⟩) n cap ∧ n ≤ cap ∧ cap * i.size ≤ (vs ++ ju).length := by
      generalize hq : a.eval x = vv at h1
      cases h1 with
      | bsl _ _ _ _ cap hc hrow =>
        obtain ⟨c, e, fz, hrow, hle⟩ := hrow
        rw [k5] at hrow
        cases hrow
        refine ⟨cap, by rw [Nat.zero_mul], hc, by simpa using hle⟩
      | bsl0 _ _ _ cap ad => omega
    obtain ⟨cap, hxv, hcap, hju⟩ := hshape
    rw [e4] at hxv hcap
    have hlet := h.letBox hb (by simp [k1']) (Step.refl w fr _) (cs := []) (vs := []) .nil (fun k v hk => by simp at hk) (by simp)
    have hhas : ∀ j, s.has j → FS.has { s with bx := upd s.bx bi (some (.ro [])) } j := by
      intro j ⟨o, hi⟩
      by_cases e : j = bi
      · subst e; exact ⟨_, upd_same _ _ _⟩
      · exact ⟨o, (upd_ne _ _ e).trans hi⟩
    have hsub : ∀ r b, b ∈ upd own (.box bi) [] r → b ∈ own r := by
      intro r b hb
      by_cases e : r = .box bi
      · subst e; rw [upd_same] at hb; simp at hb
      · rwa [upd_ne _ _ e] at hb
    have hno : ∀ r, pi bi ∉ upd own (.box bi) [] r := by
      intro r hb
      have := h.dj r (.box bi) _ (hsub r _ hb) (by simp [k1'])
      subst this
      rw [upd_same] at hb
      simp at hb
    rw [e2] at k4
    have := Good.appendX (ok := s.has) (own := own) hlet (fun r b hb => ⟨r, hsub r b hb⟩) hd ho ht hi hv hvs hxv k5 k8 ⟨.box bi, by simp [k1']⟩ hno k4 k6 k7 hcap hju (fun x hx a ha => (k3 x hx a ha).mono hhas) hs (fun x hx a ha => (hyn x hx a ha).mono hhas) c3 c4
    unfold FS.after
    rw [FS.strip_nil]
    exact this
  · rename_i sz' xs hr
    split at he <;> try (cases he; done)
    rename_i hc
    obtain ⟨rfl, c1, c2, c3, c4⟩ := hc
    cases he
    obtain ⟨news, hs⟩ := srcs c1
    obtain ⟨O, h1, h2, _⟩ := opnd h hx
    rw [hr] at h1 h2
    have hxn : ∀ x, x ∈ xs → ∀ a, a ∈ x → NP s.has a := by
      cases h2 with
      | fsl _ _ h2 => exact h2
    generalize hxv : a.eval x = vx at h1
    cases h1 with
    | fsl _ _ b of vs m0 m1 m2 =>
      have := Good.appendF (ok := s.has) h hd ho ht hi hv hvs hxv m0 m1 m2 hxn hs hyn c2 c3 c4
      unfold FS.after
      rw [FS.strip_nil]
      exact this
  · cases he

omit h hd in
/-- The other reading holds in every world that holds the state. -/
theorem evx_sound (h : Rel w fr pi own s a.tmps) (hd : ∀ t, o.dst = some t → t < a.tmps.size) {vo : VOp} (hr : resolve P o.op = some vo ∨ vo = .bad) {T : List Nat} {z : AV} {b : Option (Nat × HObj)} (he : evx s.sl s.bx vo = some (T, z, b)) : Good P o a w fr pi own s.has (s.after T o.dst z b) := by
  rcases hr with hr | rfl
  case inr => simp [evx] at he
  unfold resolve at hr
  split at hr
  · rename_i x ho
    obtain ⟨vx, hx, rfl⟩ := Option.map_eq_some_iff.1 hr
    simp [evx] at he
  · rename_i x ho
    obtain ⟨vx, hx, rfl⟩ := Option.map_eq_some_iff.1 hr
    simp [evx] at he
  · rename_i c x y ho
    simp only [Option.bind_eq_some_iff, Option.map_eq_some_iff] at hr
    obtain ⟨vc, hc, vx, hx, vy, hy, rfl⟩ := hr
    simp [evx] at he
  · rename_i e ho
    obtain ⟨z0, hz, hr⟩ := Option.bind_eq_some_iff.1 hr
    split at hr
    · cases hr
    · rename_i hne
      cases hr
      simp [evx] at he
  · rename_i e x ho
    obtain ⟨vx, hx, rfl⟩ := Option.map_eq_some_iff.1 hr
    simp [evx] at he
  · rename_i t ps ho
    obtain ⟨z0, hz, hr⟩ := Option.bind_eq_some_iff.1 hr
    split at hr
    · rename_i fs hu
      split at hr
      · cases hr
      · rename_i hne
        simp only [Option.bind_eq_some_iff, Option.map_eq_some_iff] at hr
        obtain ⟨pl, hpl, l, hl, rfl⟩ := hr
        simp [evx] at he
    · cases hr
  · rename_i t n ps ho
    split at hr
    · rename_i e hu
      simp only [Option.bind_eq_some_iff] at hr
      obtain ⟨sz, hs, z0, hz, hr⟩ := hr
      split at hr
      · cases hr
      · rename_i hc
        obtain ⟨l, hl, rfl⟩ := Option.map_eq_some_iff.1 hr
        have c1 : sz ≠ 0 := fun e => hc (.inl e)
        have c2 : ¬ n * sz > 2 ^ 24 := fun e => hc (.inr (.inl e))
        have c3 : z0.cells.length = sz := Classical.byContradiction fun e => hc (.inr (.inr e))
        exact good_xbslice h hd ho hu hs hz c1 c2 c3 hl he
    · cases hr
  · rename_i t x ho
    simp only [Option.bind_eq_some_iff, Option.map_eq_some_iff] at hr
    obtain ⟨g, hg, vx, hx, rfl⟩ := hr
    exact good_xload h hd ho hg hx he
  · rename_i t x v ho
    simp only [Option.bind_eq_some_iff] at hr
    obtain ⟨n, hn, hr⟩ := hr
    split at hr
    · cases hr
    · rename_i hn0
      simp only [Option.bind_eq_some_iff, Option.map_eq_some_iff] at hr
      obtain ⟨vx, hx, vv, hv, rfl⟩ := hr
      simp [evx] at he
  · rename_i x ho
    obtain ⟨vx, hx, rfl⟩ := Option.map_eq_some_iff.1 hr
    simp [evx] at he
  · rename_i op t x y u ho
    simp only [Option.bind_eq_some_iff] at hr
    obtain ⟨vx, hx, vy, hy, hr⟩ := hr
    unfold resBin at hr
    have eqn : ∀ (k : EK) (d : TypeDesc), P.underlying t = some d → k.fits d → resEqn k op vx vy = some vo → Good P o a w fr pi own s.has (s.after T o.dst z b) := by
      intro k d hdd hk hq
      unfold resEqn at hq
      split at hq
      · cases hq
        simp [evx] at he
      · cases hq
        simp [evx] at he
      · cases hq
    split at hr
    · rename_i hu
      unfold resEqb at hr
      split at hr
      · cases hr
        simp [evx] at he
      · cases hr
        simp [evx] at he
      · cases hr
    · cases hr; simp [evx] at he
    · cases hr; simp [evx] at he
    · rename_i fs hu
      split at hr
      · cases hr
      · rename_i hc
        have hc' : P.stoodInHeld t = false ∧ P.eqGuardType P.depth t = false := by simpa using hc
        split at hr
        · obtain ⟨l, hl, rfl⟩ := Option.map_eq_some_iff.1 hr
          simp [evx] at he
        · obtain ⟨l, hl, rfl⟩ := Option.map_eq_some_iff.1 hr
          simp [evx] at he
        · cases hr
    · rename_i e hu; exact eqn .ptr _ hu ⟨_, rfl⟩ hr
    · rename_i e hu; exact eqn .slice _ hu ⟨_, rfl⟩ hr
    · rename_i e hu; exact eqn .iface _ hu ⟨_, rfl⟩ hr
    · rename_i p q r hu; exact eqn .func _ hu ⟨_, _, _, rfl⟩ hr
    · cases hr
  · rename_i op t x ho
    obtain ⟨vx, hx, rfl⟩ := Option.map_eq_some_iff.1 hr
    simp [evx] at he
  · rename_i t d x ho
    obtain ⟨vx, hx, hr⟩ := Option.bind_eq_some_iff.1 hr
    split at hr
    · rename_i k k' ht hdd
      cases hr; simp [evx] at he
    · rename_i ht hdd
      cases hr; simp [evx] at he
    · rename_i e ht hdd
      split at hr
      · rename_i sz hee _
        cases hr; simp [evx] at he
      · cases hr
    · rename_i e ht hdd
      split at hr
      · rename_i hee
        cases hr; simp [evx] at he
      · cases hr
    · cases hr
  · rename_i t x ho
    split at hr
    · cases hr
    · rename_i d hni hdd
      obtain ⟨vx, hx, rfl⟩ := Option.map_eq_some_iff.1 hr
      exact good_xifc h hd ho hdd (fun ms e => hni ms e) hx he
    · cases hr
  · rename_i f first caps ho
    split at hr
    · rename_i hf
      obtain ⟨l, hl, rfl⟩ := Option.map_eq_some_iff.1 hr
      simp [evx] at he
    · cases hr
  · rename_i t x y ho
    split at hr
    · rename_i e ht
      split at hr
      · rename_i i z0 hi hz
        split at hr
        · cases hr
        · rename_i hc
          have c1 : i.size ≠ 0 := fun e => hc (.inl e)
          have c2 : z0.cells.length = i.size := Classical.byContradiction fun e => hc (.inr e)
          simp only [Option.bind_eq_some_iff] at hr
          obtain ⟨vx, hx, vy, hy, hr⟩ := hr
          split at hr
          · rename_i p q
            split at hr
            · rename_i e
              subst e
              cases hr
              have ex : x = .tmp p := by
                cases x <;> simp [resX] at hx
                subst hx; rfl
              have ey : y = .tmp p := by
                cases y <;> simp [resX] at hy
                subst hy; rfl
              simp [evx] at he
            · cases hr
          · rename_i p q
            split at hr
            · rename_i e
              subst e
              cases hr
              have hx' := (opnd h hx).choose_spec.1
              have hy' := (opnd h hy).choose_spec.1
              simp [evx] at he
            · cases hr
          · cases hr
      · cases hr
    · cases hr
  · rename_i t x lo hi ho
    simp only [Option.bind_eq_some_iff] at hr
    obtain ⟨vx, hx, vl, hl, vh, hh, hr⟩ := hr
    split at hr
    · rename_i ht
      cases hr; simp [evx] at he
    · rename_i e ht
      obtain ⟨sz, hs, rfl⟩ := Option.map_eq_some_iff.1 hr
      simp [evx] at he
    · cases hr
  · rename_i t x f ho
    split at hr
    · rename_i fs ht
      simp only [Option.bind_eq_some_iff] at hr
      obtain ⟨fd, hf, sz, hs, hr⟩ := hr
      split at hr
      · cases hr
      · rename_i h0
        obtain ⟨vx, hx, rfl⟩ := Option.map_eq_some_iff.1 hr
        simp [evx] at he
    · cases hr
  · rename_i t x f ho
    split at hr
    · rename_i fs ht
      simp only [Option.bind_eq_some_iff, Option.map_eq_some_iff] at hr
      obtain ⟨fd, hf, g, hg, vx, hx, rfl⟩ := hr
      simp [evx] at he
    · cases hr
  · rename_i t x i ho
    simp only [Option.bind_eq_some_iff] at hr
    obtain ⟨vx, hx, vi, hi, hr⟩ := hr
    split at hr
    · rename_i e ht
      obtain ⟨sz, hs, rfl⟩ := Option.map_eq_some_iff.1 hr
      simp [evx] at he
    · rename_i n e ht
      obtain ⟨sz, hs, rfl⟩ := Option.map_eq_some_iff.1 hr
      simp [evx] at he
    · cases hr
  · rename_i t x i ho
    simp only [Option.bind_eq_some_iff] at hr
    obtain ⟨vx, hx, vi, hi, hr⟩ := hr
    split at hr
    · rename_i ht
      cases hr; simp [evx] at he
    · cases hr
  · rename_i x i ho
    obtain ⟨vx, hx, rfl⟩ := Option.map_eq_some_iff.1 hr
    simp [evx] at he
  · rename_i c ho
    unfold resCall at hr
    split at hr
    · simp only [Option.bind_eq_some_iff, Option.map_eq_some_iff] at hr
      obtain ⟨_, _, _, _, rfl⟩ := hr
      simp [evx] at he
    · rename_i hcal
      split at hr
      · rename_i x t hargs htys
        have hc : c = { callee := .builtin .len, args := #[x], argTypes := #[t] } := by
          obtain ⟨cc, ca, ct⟩ := c
          simp only at hcal hargs htys
          subst hcal
          congr 1
          · apply Array.ext'; simpa using hargs
          · apply Array.ext'; simpa using htys
        rw [hc] at ho
        split at hr
        · rename_i ht
          obtain ⟨vx, hx, rfl⟩ := Option.map_eq_some_iff.1 hr
          simp [evx] at he
        · rename_i e ht
          obtain ⟨vx, hx, rfl⟩ := Option.map_eq_some_iff.1 hr
          simp [evx] at he
        · cases hr
      · cases hr
    · rename_i hcal
      split at hr
      · rename_i x y t u hargs htys
        have hc : c = { callee := .builtin .append, args := #[x, y], argTypes := #[t, u] } := by
          obtain ⟨cc, ca, ct⟩ := c
          simp only at hcal hargs htys
          subst hcal
          congr 1
          · apply Array.ext'; simpa using hargs
          · apply Array.ext'; simpa using htys
        rw [hc] at ho
        split at hr
        · rename_i e ht
          split at hr
          · rename_i i z0 hi hz
            split at hr
            · cases hr
            · rename_i hcc
              have c1 : i.size ≠ 0 := fun e => hcc (.inl e)
              have c2 : z0.cells.length = i.size := Classical.byContradiction fun e => hcc (.inr e)
              split at hr
              · rename_i e' hu
                simp only [Option.bind_eq_some_iff, Option.map_eq_some_iff] at hr
                obtain ⟨vx, hx, vy, hy, rfl⟩ := hr
                exact good_xapp h hd ho ht hi hz c1 c2 hx hy hu he
              · rename_i hu
                split at hr
                · rename_i hs1
                  simp only [Option.bind_eq_some_iff, Option.map_eq_some_iff] at hr
                  obtain ⟨vx, hx, vy, hy, rfl⟩ := hr
                  simp [evx] at he
                · cases hr
              · cases hr
          · cases hr
        · cases hr
      · cases hr
    · rename_i hcal
      split at hr
      · rename_i x y t u hargs htys
        have hc : c = { callee := .builtin .copy, args := #[x, y], argTypes := #[t, u] } := by
          obtain ⟨cc, ca, ct⟩ := c
          simp only at hcal hargs htys
          subst hcal
          congr 1
          · apply Array.ext'; simpa using hargs
          · apply Array.ext'; simpa using htys
        rw [hc] at ho
        split at hr
        · rename_i e ht
          split at hr
          · rename_i hs1
            split at hr
            · simp only [Option.bind_eq_some_iff, Option.map_eq_some_iff] at hr
              obtain ⟨vx, hx, vy, hy, rfl⟩ := hr
              simp [evx] at he
            · cases hr
          · cases hr
        · cases hr
      · cases hr
    · rename_i hcal
      split at hr
      · rename_i x y hargs
        have hc : c = { callee := .builtin (if true then .max else .min), args := #[x, y], argTypes := c.argTypes } := by
          obtain ⟨cc, ca, ct⟩ := c
          simp only at hcal hargs
          subst hcal
          congr 1
          apply Array.ext'; simpa using hargs
        rw [hc] at ho
        simp only [Option.bind_eq_some_iff, Option.map_eq_some_iff] at hr
        obtain ⟨vx, hx, vy, hy, rfl⟩ := hr
        simp [evx] at he
      · cases hr
    · rename_i hcal
      split at hr
      · rename_i x y hargs
        have hc : c = { callee := .builtin (if false then .max else .min), args := #[x, y], argTypes := c.argTypes } := by
          obtain ⟨cc, ca, ct⟩ := c
          simp only at hcal hargs
          subst hcal
          congr 1
          apply Array.ext'; simpa using hargs
        rw [hc] at ho
        simp only [Option.bind_eq_some_iff, Option.map_eq_some_iff] at hr
        obtain ⟨vx, hx, vy, hy, rfl⟩ := hr
        simp [evx] at he
      · cases hr
    · cases hr
  · cases hr
    simp [evx] at he
  · split at hr
    · split at hr
      · simp only [Option.bind_eq_some_iff, Option.map_eq_some_iff] at hr
        obtain ⟨vx, hx, vk, hkk, rfl⟩ := hr
        simp [evx] at he
      · cases hr
    · cases hr
  · split at hr
    · split at hr
      · simp only [Option.bind_eq_some_iff, Option.map_eq_some_iff] at hr
        obtain ⟨vx, hx, vk, hkk, vv, hv, rfl⟩ := hr
        simp [evx] at he
      · cases hr
    · cases hr
  · cases hr
end

theorem evx_box {s : Nat → AV} {bx : Nat → Option HObj} {op : VOp} {T : List Nat} {x : AV} {i : Nat} {o : HObj} (h : evx s bx op = some (T, x, some (i, o))) : ∃ o', bx i = some o' := by
  unfold evx at h
  split at h
  · split at h <;> try (cases h; done)
    split at h <;> try (cases h; done)
    split at h <;> try (cases h; done)
    cases h
    exact ⟨_, by assumption⟩
  · split at h <;> try (cases h; done)
    obtain ⟨_, _, h⟩ := Option.map_eq_some_iff.1 h
    cases h
  · split at h <;> try (cases h; done)
    split at h <;> try (cases h; done)
    obtain ⟨_, _, h⟩ := Option.map_eq_some_iff.1 h
    cases h
    exact ⟨_, by assumption⟩
  · split at h <;> try (cases h; done)
    split at h
    · split at h <;> cases h
    · split at h <;> try (cases h; done)
      split at h <;> cases h
    · split at h <;> try (cases h; done)
      split at h <;> try (cases h; done)
      cases h
      exact ⟨_, by assumption⟩
    · split at h <;> cases h
    · cases h
  · cases h

/-- A state may be told otherwise, and nothing runs. -/
def Shift (s s' : FS) : Prop := (∀ i, s.has i → s'.has i) ∧ ∀ (w : World) (fr pi : Nat → Nat) (own : Res → List Nat) (tm : Array Value), Rel w fr pi own s tm → ∃ fr' pi' own', Rel w fr' pi' own' s' tm ∧ Ext w w fr fr' pi pi' own own' s.has

end Go.Proofs.YtmjdoonaidolkaaDoor.V

/- A small logic of values over the model, part 17: an operation where it stands in its region; a region in the text's order. -/
namespace Go.Proofs.YtmjdoonaidolkaaDoor.V

/-- An operation in its region: the slot that it writes, what it does, or whom it calls; the slot that must hold a Bool, if it is to be done; those that it waits for. -/
structure VOper where
  dst : Option Nat
  op : VOp
  call : Option (VX × List VX)
  guard : Option (Nat × Bool)
  deps : List Nat
  deriving Inhabited

/-- What an operation has done: slots that gave up what they owned, the value, a box. -/
structure SD where
  T : List Nat
  x : AV
  b : Option (Nat × HObj)

def SD.app (d : SD) (dst : Option Nat) (s : FS) : FS := s.after d.T dst d.x d.b

def resGuard (ops : Array Oper) : Option (Nat × Bool) → Option (Option (Nat × Bool))
  | none => some none
  | some (j, want) => ((ops[j]?).bind (·.dst)).map fun d => some (d, want)

def resCallV (o : Op) : Option (VX × List VX) :=
  match o with
  | .call c => match c.callee with
    | .value f => (resX f).bind fun g => (resXs c.args.toList).map fun l => (g, l)
    | _ => none
  | _ => none

def depsOf (o : Oper) : List Nat := (o.after.toList.filter fun e => Region.binds .any e).map (·.on)

def resOper (P : Program) (dr : Bool) (ops : Array Oper) (o : Oper) : Option VOper :=
  (resGuard ops o.guard).bind fun g =>
  match resCallV o.op with
  | some c => some { dst := o.dst, op := .mov (.cst .undef), call := some c, guard := g, deps := if dr then depsOf o else [] }
  | none => some { dst := o.dst, op := (resolve P o.op).getD .bad, call := none, guard := g, deps := if dr then depsOf o else [] }

def VOper.on (o : VOper) (s : Nat → AV) : Prop :=
  match o.guard with
  | none => True
  | some (g, want) => s g = .bool want

def VOper.fl (L : Nat → Bool) (o : VOper) : Bool :=
  match o.dst with
  | some d => L d
  | none => false

/-- Of a guard: not what is wanted. (An operation that was not done yields nothing.) -/
def offV (want : Bool) : AV → Bool
  | .bool b => b != want
  | .tup [] => true
  | _ => false

inductive VStep (P : Program) (L : Nat → Bool) (o : VOper) (s : FS) (id : Nat) : SD → Prop
  | off (g : Nat) (want : Bool) : o.guard = some (g, want) → offV want (s.sl g) = true → VStep P L o s id ⟨[], .tup [], none⟩
  | ev (x : AV) (b : Option (Nat × HObj)) : o.call = none → o.on s.sl → ev (o.fl L) s.sl s.bx id o.op = some (x, b) → VStep P L o s id ⟨takes (o.fl L) o.op, x, b⟩
  | evx (T : List Nat) (x : AV) (b : Option (Nat × HObj)) : o.call = none → o.on s.sl → V.evx s.sl s.bx o.op = some (T, x, b) → VStep P L o s id ⟨T, x, b⟩
  | pcall (f : VX) (args : List VX) (g : Nat) (ret : AV) : o.call = some (f, args) → o.on s.sl → rdX s.sl f = .func g [] → (argTmps args).Nodup → (∀ v, v ∈ args → NP (fun _ => False) (rdX s.sl v)) →
      PCall P g (args.map (rdX s.sl)) ret → VStep P L o s id ⟨argTmps args, ret, none⟩
  | bcall (f : VX) (args : List VX) (g : Nat) (ret : AV) (i off : Nat) (rest : List AV) (ob ob' : HObj) : o.call = some (f, args) → o.on s.sl → rdX s.sl f = .func g [] → (argTmps args).Nodup → args.map (rdX s.sl) = .ptr (some (i, off)) :: rest → s.bx i = some ob →
      (∀ a, a ∈ rest → NP (fun _ => False) a) → NPo (fun _ => False) ob → NPo (fun _ => False) ob' → NP (fun _ => False) ret → VCall P g (.ptr (some (0, off)) :: rest) [ob] ret [ob'] → VStep P L o s id ⟨argTmps args, ret, some (i, ob')⟩

theorem resOper_inv {P : Program} {dr : Bool} {ops : Array Oper} {o : Oper} {vo : VOper} (h : resOper P dr ops o = some vo) : vo.dst = o.dst ∧ resGuard ops o.guard = some vo.guard ∧ (dr = true → vo.deps = depsOf o) ∧
    ((vo.call = none ∧ (resolve P o.op = some vo.op ∨ vo.op = .bad)) ∨ ∃ c x f args, vo.call = some (f, args) ∧ o.op = .call c ∧ c.callee = .value x ∧ resX x = some f ∧ resXs c.args.toList = some args) := by
  unfold resOper at h
  obtain ⟨g, hg, h⟩ := Option.bind_eq_some_iff.1 h
  split at h
  · rename_i c hc
    cases h
    refine ⟨rfl, hg, fun e => by rw [e]; rfl, .inr ?_⟩
    unfold resCallV at hc
    split at hc
    · rename_i c' ho
      split at hc
      · rename_i x hx
        simp only [Option.bind_eq_some_iff, Option.map_eq_some_iff] at hc
        obtain ⟨f, hf, l, hl, rfl⟩ := hc
        exact ⟨c', x, f, l, rfl, ho, hx, hf, hl⟩
      · cases hc
    · cases hc
  · cases h
    refine ⟨rfl, hg, fun e => by rw [e]; rfl, .inl ⟨rfl, ?_⟩⟩
    cases hv : resolve P o.op with
    | some v => exact .inl rfl
    | none => exact .inr rfl

theorem Good.wp {P : Program} {o : Oper} {a : Act} {w : World} {fr pi : Nat → Nat} {own : Res → List Nat} {ok : Nat → Prop} {s' : FS} (h : Good P o a w fr pi own ok s') {K : Act → World → Prop} {Q : Exit → Act → World → Prop}
    (hK : ∀ a' w' fr' pi' own', a'.defers = a.defers → a'.tmps.size = a.tmps.size → Rel w' fr' pi' own' s' a'.tmps → Ext w w' fr fr' pi pi' own own' ok → K a' w') : o.wp P a w K Q := by
  obtain ⟨nx, v, w', fr', pi', own', hrun, hnx, hr, he⟩ := h
  have hk : K (a.put o.dst v) w' := hK _ _ _ _ _ (by cases o.dst <;> rfl) (by cases o.dst <;> simp [Act.put]) hr he
  unfold Oper.wp
  rw [hrun]
  rcases hnx with rfl | ⟨rfl, rfl⟩
  · exact hk
  · exact hk

theorem yielded_of {ops : Array Oper} {tm : Array Value} {j d : Nat} {b : Bool} (hd : (ops[j]?).bind (·.dst) = some d) (hv : tm.getD d Go.undef = .bool b) : yielded ops tm j = some b := by
  unfold yielded
  rw [hd]
  simp only [Option.bind_some]
  rw [Array.getD_eq_getD_getElem?] at hv
  cases hh : tm[d]? with
  | none => rw [hh] at hv; simp [Go.undef] at hv
  | some v => rw [hh] at hv; simp at hv; rw [hv]

theorem Rep.piF {w : World} {fr pi pi' : Nat → Nat} {a : AV} {v : Value} {O : List Nat} (h : Rep w fr pi a v O) (hn : NP (fun _ => False) a) : Rep w fr pi' a v O :=
  h.mono (Step.refl w fr (fun _ => False)) (fun _ hi => hi.elim) hn (fun _ _ h => h)
theorem ORep.piF {w : World} {fr pi pi' : Nat → Nat} {o : HObj} {b : Nat} {O : List Nat} (h : ORep w fr pi o b O) (hn : NPo (fun _ => False) o) (hb : ∀ x, x ∈ o.blk b O → x < w.heap.size) : ORep w fr pi' o b O :=
  h.mono (Step.refl w fr (fun _ => False)) (fun _ hi => hi.elim) hn hb (fun _ _ h => h)

/-- Of all boxes one alone. -/
theorem Rel.one {w : World} {fr pi : Nat → Nat} {own : Res → List Nat} {rest : List AV} {i off : Nat} {bx : Nat → Option HObj} {tm : Array Value} (h : Rel w fr pi own ⟨fun j => (AV.ptr (some (i, off)) :: rest).getD j .undef, bx⟩ tm) {ob : HObj} (hb : bx i = some ob) (hn : ∀ a, a ∈ rest → NP (fun _ => False) a)
    (ho : NPo (fun _ => False) ob) : ∃ own1, Rel w fr (fun _ => pi i) own1 (FS.of (.ptr (some (0, off)) :: rest) [ob]) tm ∧ (∀ r b, b ∈ own1 r → ∃ r', b ∈ own r') ∧ own1 (.box 0) = own (.box i) ∧ (∀ j, own1 (.slot j) = own (.slot j)) := by
  let own1 : Res → List Nat := fun r => match r with
    | .slot j => own (.slot j)
    | .box 0 => own (.box i)
    | .box _ => []
  have hbl : ∀ b, b ∈ own (.box i) → b < w.heap.size := h.live (.box i)
  refine ⟨own1, ⟨fun j => ?_, fun j => ?_, fun j o hj => ?_, fun j o hj => ?_, fun j hj => ?_, fun r => ?_, fun r r' b x1 x2 => ?_, fun r b hb => ?_⟩, fun r b hb => ?_, rfl, fun j => rfl⟩
  · cases j with
    | zero =>
      have h0 := h.slot 0
      have e : (⟨fun j => (AV.ptr (some (i, off)) :: rest).getD j .undef, bx⟩ : FS).sl 0 = .ptr (some (i, off)) := rfl
      rw [e] at h0
      show Rep w fr _ (.ptr (some (0, off))) _ (own (.slot 0))
      generalize tm.getD 0 Go.undef = v at h0
      generalize own (.slot 0) = O at h0
      cases h0
      exact .ptr 0 off
    | succ j =>
      have h0 := h.slot (j + 1)
      refine Rep.piF h0 ?_
      show NP _ (rest.getD j .undef)
      rcases Nat.lt_or_ge j rest.length with hj | hj
      · rw [List.getD_eq_getElem?_getD, List.getElem?_eq_getElem hj]; exact hn _ (List.getElem_mem hj)
      · rw [List.getD_eq_getElem?_getD, List.getElem?_eq_none hj]; exact .undef
  · cases j with
    | zero => exact .ptr 0 off ⟨ob, rfl⟩
    | succ j =>
      show NP _ (rest.getD j .undef)
      rcases Nat.lt_or_ge j rest.length with hj | hj
      · rw [List.getD_eq_getElem?_getD, List.getElem?_eq_getElem hj]; exact (hn _ (List.getElem_mem hj)).mono (fun _ h => h.elim)
      · rw [List.getD_eq_getElem?_getD, List.getElem?_eq_none hj]; exact .undef
  · cases j with
    | succ j => simp [FS.of] at hj
    | zero =>
      have e : o = ob := by simpa [FS.of] using hj.symm
      subst e
      obtain ⟨O, h1, h2⟩ := h.box i o hb
      exact ⟨O, h1.piF ho (fun x hx => hbl x (by rw [h2]; exact hx)), h2⟩
  · cases j with
    | succ j => simp [FS.of] at hj
    | zero =>
      have e : o = ob := by simpa [FS.of] using hj.symm
      subst e
      exact ho.mono (fun _ h => h.elim)
  · cases j with
    | zero => simp [FS.of] at hj
    | succ j => rfl
  · cases r with
    | slot j => exact h.nd _
    | box j => cases j with
      | zero => exact h.nd _
      | succ j => exact List.nodup_nil
  · cases r with
    | slot j => cases r' with
      | slot j' => exact h.dj _ _ b x1 x2
      | box j' => cases j' with
        | zero => have := h.dj _ _ b x1 x2; cases this
        | succ j' => simp [own1] at x2
    | box j => cases j with
      | succ j => simp [own1] at x1
      | zero => cases r' with
        | slot j' => have := h.dj _ _ b x1 x2; cases this
        | box j' => cases j' with
          | zero => rfl
          | succ j' => simp [own1] at x2
  · cases r with
    | slot j => exact h.live _ b hb
    | box j => cases j with
      | zero => exact h.live _ b hb
      | succ j => simp [own1] at hb
  · cases r with
    | slot j => exact ⟨_, hb⟩
    | box j => cases j with
      | zero => exact ⟨_, hb⟩
      | succ j => simp [own1] at hb

/-- The one is laid back among the others. -/
theorem Rel.oneBack {w w' : World} {fr fr' pi pi' : Nat → Nat} {own own1 own' : Res → List Nat} {sl : Nat → AV} {bx : Nat → Option HObj} {tm : Array Value} (h : Rel w fr pi own ⟨sl, bx⟩ tm) {i : Nat} {ob ob' : HObj} (hb : bx i = some ob) (ho' : NPo (fun _ => False) ob')
    (hsub : ∀ r b, b ∈ own1 r → ∃ r', b ∈ own r') (h1b : own1 (.box 0) = own (.box i)) (h1s : ∀ j, own1 (.slot j) = own (.slot j)) (h1n : ∀ j, own1 (.box (j + 1)) = []) {ret : AV} {v : Value} (hr : Rel w' fr' pi' own' (FS.of [ret] [ob']) #[v]) (hret : NP (fun _ => False) ret) (he : Ext w w' fr fr' (fun _ => pi i) pi' own1 own' (fun j => j < 1)) :
    ∃ ownB, Rel w' fr' pi ownB ⟨fun j => [ret].getD j .undef, upd bx i (some ob')⟩ #[v] ∧ Ext w w' fr fr' pi pi own ownB (fun j => ∃ o, bx j = some o) := by
  have hpi : pi' 0 = pi i := he.pi 0 (by decide)
  let ownB : Res → List Nat := fun r => match r with
    | .slot j => own' (.slot j)
    | .box j => if j = i then own' (.box 0) else own (.box j)
  -- what another box owns the call has not touched
  have hne : ∀ j, j ≠ i → ∀ b, b ∈ own (.box j) → ¬ ∃ r, b ∈ own1 r := by
    rintro j hj b hb ⟨r, hr⟩
    cases r with
    | slot k => rw [h1s] at hr; have := h.dj _ _ b hb hr; cases this
    | box k => cases k with
      | zero => rw [h1b] at hr; have := h.dj _ _ b hb hr; cases this; exact hj rfl
      | succ k => rw [h1n] at hr; simp at hr
  have hdj : ∀ j, j ≠ i → ∀ b, b ∈ own (.box j) → ∀ r, b ∉ own' r := by
    intro j hj b hb r hr'
    rcases he.fresh r b hr' with h2 | h2
    · exact hne j hj b hb h2
    · have := h.live _ b hb
      omega
  have hsz := he.step.size
  refine ⟨ownB, ⟨fun j => ?_, fun j => ?_, fun j o hj => ?_, fun j o hj => ?_, fun j hj => ?_, fun r => ?_, fun r r' b x1 x2 => ?_, fun r b hb => ?_⟩, ⟨he.step.mono fun b _ ⟨r, hr⟩ => hsub r b hr, fun r b hb => ?_, fun _ _ => rfl⟩⟩
  · cases j with
    | zero => exact Rep.piF (hr.slot 0) hret
    | succ j =>
      have e : (FS.of [ret] [ob']).sl (j + 1) = .undef := by simp [FS.of, List.getD_eq_getElem?_getD]
      have h0 := hr.slot (j + 1)
      rw [e] at h0
      have e2 : (⟨fun j => [ret].getD j .undef, upd bx i (some ob')⟩ : FS).sl (j + 1) = .undef := by simp [List.getD_eq_getElem?_getD]
      rw [e2]
      exact Rep.piF h0 .undef
  · cases j with
    | zero => exact hret.mono (fun _ h => h.elim)
    | succ j =>
      have e2 : (⟨fun j => [ret].getD j .undef, upd bx i (some ob')⟩ : FS).sl (j + 1) = .undef := by simp [List.getD_eq_getElem?_getD]
      rw [e2]
      exact .undef
  · by_cases hji : j = i
    · subst hji
      have e : o = ob' := by
        have : upd bx j (some ob') j = some o := hj
        rw [upd_same] at this
        exact (Option.some.inj this).symm
      subst e
      obtain ⟨O, k1, k2⟩ := hr.box 0 o rfl
      refine ⟨O, ?_, ?_⟩
      · rw [← hpi]
        exact k1.piF ho' (fun x hx => hr.live (.box 0) x (by rw [k2]; exact hx))
      · simp only [ownB, ↓reduceIte]
        rw [k2, hpi]
    · have hj' : bx j = some o := by
        have : upd bx i (some ob') j = some o := hj
        rwa [upd_ne _ _ hji] at this
      obtain ⟨O, k1, k2⟩ := h.box j o hj'
      refine ⟨O, ?_, by simp only [ownB]; rw [if_neg hji]; exact k2⟩
      exact k1.mono he.step (ok := fun _ => True) (fun _ _ => rfl) ((h.boxnp j o hj').mono fun _ _ => trivial) (fun x hx => h.live (.box j) x (by rw [k2]; exact hx)) (fun x hx => hne j hji x (by rw [k2]; exact hx))
  · have hhas : ∀ k, (⟨sl, bx⟩ : FS).has k → (⟨fun j => [ret].getD j .undef, upd bx i (some ob')⟩ : FS).has k := by
      rintro k ⟨q, hq⟩
      by_cases hk : k = i
      · subst hk; exact ⟨ob', upd_same _ _ _⟩
      · exact ⟨q, by show upd bx i (some ob') k = _; rw [upd_ne _ _ hk]; exact hq⟩
    by_cases hji : j = i
    · subst hji
      have e : o = ob' := by
        have : upd bx j (some ob') j = some o := hj
        rw [upd_same] at this
        exact (Option.some.inj this).symm
      subst e
      exact ho'.mono (fun _ h => h.elim)
    · have hj' : bx j = some o := by
        have : upd bx i (some ob') j = some o := hj
        rwa [upd_ne _ _ hji] at this
      exact (h.boxnp j o hj').mono hhas
  · have hji : j ≠ i := by
      intro e
      subst e
      have : upd bx j (some ob') j = none := hj
      rw [upd_same] at this
      cases this
    have hj' : bx j = none := by
      have : upd bx i (some ob') j = none := hj
      rwa [upd_ne _ _ hji] at this
    simp only [ownB]
    rw [if_neg hji]
    exact h.nobox j hj'
  · cases r with
    | slot j => exact hr.nd _
    | box j =>
      simp only [ownB]
      split
      · exact hr.nd _
      · exact h.nd _
  · cases r with
    | slot j => cases r' with
      | slot j' => exact hr.dj _ _ b x1 x2
      | box j' =>
        exfalso
        simp only [ownB] at x1 x2
        split at x2
        · have := hr.dj _ _ b x1 x2; cases this
        · exact hdj j' ‹_› b x2 _ x1
    | box j => cases r' with
      | slot j' =>
        exfalso
        simp only [ownB] at x1 x2
        split at x1
        · have := hr.dj _ _ b x1 x2; cases this
        · exact hdj j ‹_› b x1 _ x2
      | box j' =>
        simp only [ownB] at x1 x2
        split at x1
        · split at x2
          · rename_i e1 e2
            rw [e1, e2]
          · exact absurd x1 (hdj j' ‹_› b x2 _)
        · split at x2
          · exact absurd x2 (hdj j ‹_› b x1 _)
          · exact h.dj _ _ b x1 x2
  · cases r with
    | slot j => exact hr.live _ b hb
    | box j =>
      simp only [ownB] at hb
      split at hb
      · exact hr.live _ b hb
      · have := h.live _ b hb
        omega
  · have key : ∀ r, b ∈ own' r → (∃ r', b ∈ own r') ∨ w.heap.size ≤ b := by
      intro r hb
      rcases he.fresh r b hb with ⟨r', h2⟩ | h2
      · exact .inl (hsub r' b h2)
      · exact .inr h2
    cases r with
    | slot j => exact key _ hb
    | box j =>
      simp only [ownB] at hb
      split at hb
      · exact key _ hb
      · exact .inl ⟨_, hb⟩

/-- An operation, done where the state holds. -/
theorem step_exec {P : Program} {dr : Bool} {L : Nat → Bool} {ops : Array Oper} {i : Nat} {o : Oper} {vo : VOper} (ho : ops[i]? = some o) (hres : resOper P dr ops o = some vo) {a : Act} {w : World} {fr pi : Nat → Nat} {own : Res → List Nat} {s : FS}
    (h : Rel w fr pi own s a.tmps) (hd : ∀ t, o.dst = some t → t < a.tmps.size) {id : Nat} (hid : vo.op.isAlloc = true → s.bx id = none) {d : SD} (st : VStep P L vo s id d) {K : Act → World → Prop} {Q : Exit → Act → World → Prop}
    (hK : ∀ a' w' fr' pi' own', a'.defers = a.defers → a'.tmps.size = a.tmps.size → Rel w' fr' pi' own' (d.app vo.dst s) a'.tmps → Ext w w' fr fr' pi pi' own own' s.has → K a' w') : wpOp P ops Q i K a w := by
  obtain ⟨hdst, hg, _, hop⟩ := resOper_inv hres
  have hon : vo.on s.sl → Region.wanted o (yielded ops a.tmps) = true := by
    intro hon
    unfold Region.wanted
    cases hgd : o.guard with
    | none => rfl
    | some p =>
      obtain ⟨j, want⟩ := p
      rw [hgd] at hg
      simp only [resGuard, Option.map_eq_some_iff] at hg
      obtain ⟨dg, h1, h2⟩ := hg
      unfold VOper.on at hon
      rw [← h2] at hon
      simp only at hon
      have hr := h.slot dg
      rw [hon] at hr
      simp [yielded_of h1 hr.bool_inv]
  have hoff : ∀ g want, vo.guard = some (g, want) → offV want (s.sl g) = true → Region.wanted o (yielded ops a.tmps) = false := by
    intro g want h1 h2
    unfold Region.wanted
    cases hgd : o.guard with
    | none => rw [hgd] at hg; simp [resGuard] at hg; rw [← hg] at h1; cases h1
    | some p =>
      obtain ⟨j, want'⟩ := p
      rw [hgd] at hg
      simp only [resGuard, Option.map_eq_some_iff] at hg
      obtain ⟨dg, k1, k2⟩ := hg
      rw [← k2] at h1
      cases h1
      have hr := h.slot g
      unfold offV at h2
      split at h2
      · rename_i b hb
        rw [hb] at hr
        have h3 : b ≠ want := by simpa using h2
        simp [yielded_of k1 hr.bool_inv, h3]
      · rename_i hb
        rw [hb] at hr
        have hv : a.tmps.getD g Go.undef = .tuple #[] := by
          generalize a.tmps.getD g Go.undef = v at hr
          generalize own (Res.slot g) = O at hr
          cases hr with
          | tup _ vs _ h1 =>
            cases h1
            rfl
        have : yielded ops a.tmps j = none := by
          unfold yielded
          rw [k1]
          simp only [Option.bind_some]
          rw [Array.getD_eq_getD_getElem?] at hv
          cases hh : a.tmps[g]? with
          | none => rfl
          | some v => rw [hh] at hv; simp at hv; rw [hv]
        simp [this]
      · cases h2
  unfold wpOp
  rw [ho]
  simp only
  cases st with
  | off g want h1 h2 =>
    rw [hoff g want h1 h2]
    simp only [Bool.false_eq_true, ↓reduceIte]
    obtain ⟨own', q1, q2⟩ := h.putO (a := a) (d := o.dst) hd (show Rep w fr pi (.tup []) Go.undef [] from .tup [] [] [] .nil) (.tup _ (by simp)) (by simp) (by simp) (by simp)
    refine hK _ _ fr pi own' (by cases o.dst <;> rfl) (by cases o.dst <;> simp [Act.put]) ?_ (Ext.own fun r b hb => ?_)
    · unfold SD.app FS.after
      rw [FS.strip_nil, hdst]
      exact q1
    · rcases q2 r b hb with h4 | h4
      · exact h4
      · simp at h4
  | ev x b h0 h1 h2 =>
    rw [hon h1]
    simp only [↓reduceIte]
    rcases hop with ⟨_, hr⟩ | ⟨c, x', f, args, hc, _⟩
    · refine .inl ((ev_sound h hd hr hid h2).wp fun a' w' fr' pi' own' k1 k2 k3 k4 => hK a' w' fr' pi' own' k1 k2 ?_ k4)
      unfold SD.app
      rw [hdst]
      exact k3
    · rw [h0] at hc; cases hc
  | evx T x b h0 h1 h2 =>
    rw [hon h1]
    simp only [↓reduceIte]
    rcases hop with ⟨_, hr⟩ | ⟨c, x', f, args, hc, _⟩
    · refine .inl ((evx_sound h hd hr h2).wp fun a' w' fr' pi' own' k1 k2 k3 k4 => hK a' w' fr' pi' own' k1 k2 ?_ k4)
      unfold SD.app
      rw [hdst]
      exact k3
    · rw [h0] at hc; cases hc
  | pcall f args g ret h0 h1 h2 h3 h4 h5 =>
    rw [hon h1]
    simp only [↓reduceIte]
    rcases hop with ⟨hn, _⟩ | ⟨c, x', f', args', hc, hoc, hcal, hf, hargs⟩
    · rw [h0] at hn; cases hn
    rw [h0] at hc
    cases hc
    refine .inl ?_
    obtain ⟨_, _, hcall⟩ := h5
    obtain ⟨O, r1, _⟩ := opnd h hf
    rw [h2] at r1
    obtain ⟨us, hfv, hus⟩ := r1.func_inv
    cases hus
    have hcut := h.cut hargs h3 false (fun _ => h4)
    have hfs : (⟨fun i => (args.map (rdX s.sl)).getD i .undef, fun i => if false = true then s.bx i else none⟩ : FS) = FS.of (args.map (rdX s.sl)) [] := by
      unfold FS.of
      simp
    rw [hfs] at hcut
    have hlen := (resXs_get hargs).1
    have hc := hcall w fr pi _ (c.args.toList.map a.eval) (by simpa using hlen) hcut
    refine exec_call hoc hcal hfv hc fun e w' hp => ?_
    obtain ⟨v, fr', pi', own', rfl, q1, q2⟩ := hp
    refine ⟨v, rfl, ?_⟩
    have hq1 : Rel w' fr' pi' own' ⟨fun i => ([ret] : List AV).getD i .undef, fun _ => none⟩ #[v] := by simpa [FS.of] using q1
    obtain ⟨own2, z1, z2⟩ := Rel.paste (_P := P) (a := a) h (d := o.dst) hd (vs := args) false hq1 ⟨q2.step, q2.fresh, fun i hi => absurd hi.1 (by simp)⟩ (fun _ => rfl) (fun e => by cases e)
    refine hK _ _ _ _ own2 (by cases o.dst <;> rfl) (by cases o.dst <;> simp [Act.put]) ?_ z2
    unfold SD.app FS.after
    rw [hdst]
    exact z1

  | bcall f args g ret i off rest ob ob' h0 h1 h2 h3 h4 h5 h6 h7 h8 h9 h10 =>
    rw [hon h1]
    simp only [↓reduceIte]
    rcases hop with ⟨hn, _⟩ | ⟨c, x', f', args', hc, hoc, hcal, hf, hargs⟩
    · rw [h0] at hn; cases hn
    rw [h0] at hc
    cases hc
    refine .inl ?_
    obtain ⟨_, _, hcall⟩ := h10
    obtain ⟨O, r1, _⟩ := opnd h hf
    rw [h2] at r1
    obtain ⟨us, hfv, hus⟩ := r1.func_inv
    cases hus
    have hcut := h.cut hargs h3 true (fun e => by cases e)
    rw [h4] at hcut
    have hcut' : Rel w fr pi (cutOwn own args true) ⟨fun j => (AV.ptr (some (i, off)) :: rest).getD j .undef, s.bx⟩ (c.args.toList.map a.eval).toArray := by simpa using hcut
    obtain ⟨own1, q1, q2, q3, q4⟩ := hcut'.one h5 h6 h7
    have hlen := (resXs_get hargs).1
    have hlen2 : args.length = rest.length + 1 := by simpa using congrArg List.length h4
    have hc := hcall w fr _ own1 (c.args.toList.map a.eval) (by rw [List.length_map, hlen, hlen2]; rfl) q1
    refine exec_call hoc hcal hfv hc fun e w' hp => ?_
    obtain ⟨v, fr', pi', own', rfl, k1, k2⟩ := hp
    refine ⟨v, rfl, ?_⟩
    have q5 : ∀ j, own1 (.box (j + 1)) = [] := fun j => q1.nobox (j + 1) (by simp [FS.of])
    obtain ⟨ownB, z1, z2⟩ := hcut'.oneBack h5 h8 q2 q3 q4 q5 k1 h9 k2
    obtain ⟨own2, y1, y2⟩ := Rel.paste (_P := P) (a := a) h (d := o.dst) hd (vs := args) true z1 ⟨z2.step, z2.fresh, fun _ _ => rfl⟩ (fun e => by cases e) (fun _ j ⟨q, hq⟩ => by
      by_cases hj : j = i
      · subst hj; exact ⟨ob', upd_same _ _ _⟩
      · exact ⟨q, by rw [upd_ne _ _ hj]; exact hq⟩)
    refine hK _ _ _ _ own2 (by cases o.dst <;> rfl) (by cases o.dst <;> simp [Act.put]) ?_ y2
    unfold SD.app FS.after
    rw [hdst]
    exact y1

end Go.Proofs.YtmjdoonaidolkaaDoor.V

/- A small logic of values over the model, part 18: states as lists; a region in the text's order. -/
namespace Go.Proofs.YtmjdoonaidolkaaDoor.V

structure St where
  t : List AV
  h : List HObj

def St.fs (S : St) : FS := FS.of S.t S.h

def stripT : List Nat → List AV → List AV
  | [], t => t
  | i :: T, t => (stripT T t).set i ((t.getD i .undef).strip)

def putL (d : Option Nat) (x : AV) (t : List AV) : List AV :=
  match d with
  | none => t
  | some d => t.set d x

def boxL (b : Option (Nat × HObj)) (h : List HObj) : List HObj :=
  match b with
  | none => h
  | some (i, o) => if i < h.length then h.set i o else h ++ [o]

def St.app (S : St) (dst : Option Nat) (d : SD) : St := ⟨putL dst d.x (stripT d.T S.t), boxL d.b S.h⟩

theorem stripT_length : ∀ (T : List Nat) (t : List AV), (stripT T t).length = t.length
  | [], t => rfl
  | i :: T, t => by rw [stripT, List.length_set, stripT_length T t]

theorem stripT_getD : ∀ (T : List Nat) (t : List AV) (i : Nat), (stripT T t).getD i .undef = if i ∈ T then (t.getD i .undef).strip else t.getD i .undef
  | [], t, i => by simp [stripT]
  | j :: T, t, i => by
    rw [stripT, List.getD_eq_getElem?_getD, List.getElem?_set]
    by_cases hij : j = i
    · subst hij
      simp only [↓reduceIte, List.mem_cons, true_or, stripT_length]
      split
      · simp
      · rename_i hlt
        have : t[j]? = none := List.getElem?_eq_none (by omega)
        simp [List.getD_eq_getElem?_getD, this, AV.strip]
    · rw [if_neg hij, ← List.getD_eq_getElem?_getD, stripT_getD T t i]
      have : i ≠ j := fun e => hij e.symm
      simp [this]

theorem putL_length (d : Option Nat) (x : AV) (t : List AV) : (putL d x t).length = t.length := by
  cases d <;> simp [putL]

theorem St.app_length (S : St) (dst : Option Nat) (d : SD) : (S.app dst d).t.length = S.t.length := by
  simp [St.app, putL_length, stripT_length]

theorem FS.ext' {a b : FS} (h1 : ∀ i, a.sl i = b.sl i) (h2 : ∀ i, a.bx i = b.bx i) : a = b := by
  cases a; cases b
  congr
  · exact funext h1
  · exact funext h2

theorem St.app_fs {S : St} {dst : Option Nat} {d : SD} (hd : ∀ t, dst = some t → t < S.t.length) (hb : ∀ i o, d.b = some (i, o) → i ≤ S.h.length) : d.app dst S.fs = (S.app dst d).fs := by
  refine FS.ext' (fun i => ?_) (fun i => ?_)
  · have key : ∀ i, (FS.strip S.fs d.T).sl i = (stripT d.T S.t).getD i .undef := fun i => (stripT_getD d.T S.t i).symm
    have hbw : ∀ (s : FS), (s.bw d.b).sl = s.sl := by
      intro s
      cases hbb : d.b with
      | none => rfl
      | some p => rfl
    cases hdst : dst with
    | none =>
      show ((S.fs.strip d.T).bw d.b).sl i = (stripT d.T S.t).getD i .undef
      rw [hbw]; exact key i
    | some t =>
      show upd ((S.fs.strip d.T).bw d.b).sl t d.x i = ((stripT d.T S.t).set t d.x).getD i .undef
      rw [hbw, List.getD_eq_getElem?_getD, List.getElem?_set]
      by_cases hti : t = i
      · subst hti
        rw [upd_same, if_pos rfl, if_pos (by rw [stripT_length]; exact hd t hdst)]
        rfl
      · rw [upd_ne _ _ (fun e => hti e.symm), if_neg hti, ← List.getD_eq_getElem?_getD]
        exact key i
  · have h1 : (d.app dst S.fs).bx = (S.fs.bw d.b).bx := by
      unfold SD.app FS.after FS.putO
      cases dst <;> cases hbb : d.b <;> rfl
    rw [h1]
    show _ = (boxL d.b S.h)[i]?
    cases hbb : d.b with
    | none => rfl
    | some p =>
      obtain ⟨j, o⟩ := p
      have hj := hb j o hbb
      show upd (fun i => S.h[i]?) j (some o) i = (if j < S.h.length then S.h.set j o else S.h ++ [o])[i]?
      by_cases hij : i = j
      · subst hij
        rw [upd_same]
        split
        · rename_i hlt
          simp [hlt]
        · rename_i hlt
          have : i = S.h.length := by omega
          simp [this]
      · rw [upd_ne _ _ hij]
        split
        · rw [List.getElem?_set, if_neg (fun e => hij e.symm)]
        · rename_i hlt
          have : j = S.h.length := by omega
          subst this
          rw [List.getElem?_append]
          split
          · rfl
          · rename_i h3
            rw [List.getElem?_eq_none (by omega), List.getElem?_eq_none (by simp; omega)]

theorem ev_box {fl : Bool} {s : Nat → AV} {bx : Nat → Option HObj} {id : Nat} {op : VOp} {x : AV} {i : Nat} {o : HObj} (h : ev fl s bx id op = some (x, some (i, o))) : i = id ∨ ∃ o', bx i = some o' := by
  unfold ev at h
  split at h <;> try (first
    | (cases h; done)
    | (cases h; exact .inl rfl)
    | (simp only [Option.map_eq_some_iff] at h; obtain ⟨_, _, h⟩ := h; cases h; done))
  all_goals (try (split at h <;> try (first | (cases h; done) | (cases h; exact .inl rfl) | (simp only [Option.map_eq_some_iff] at h; obtain ⟨_, _, h⟩ := h; cases h; done))))
  all_goals (try (split at h <;> try (first | (cases h; done) | (cases h; exact .inl rfl) | (simp only [Option.map_eq_some_iff] at h; obtain ⟨_, _, h⟩ := h; cases h; done))))
  all_goals (try (split at h <;> try (first | (cases h; done) | (cases h; exact .inr ⟨_, by assumption⟩) | (simp only [Option.map_eq_some_iff] at h; obtain ⟨_, _, h⟩ := h; cases h; done))))
  all_goals (try (split at h <;> try (first | (cases h; done) | (simp only [Option.map_eq_some_iff] at h; obtain ⟨_, _, h⟩ := h; cases h; done))))
  -- more
  all_goals (try (cases h; exact .inl rfl))
  all_goals (try (split at h <;> try (first | (cases h; done) | (cases h; exact .inl rfl) | (cases h; exact .inr ⟨_, by assumption⟩))))
  all_goals (try (split at h <;> try (first | (cases h; done) | (cases h; exact .inl rfl) | (cases h; exact .inr ⟨_, by assumption⟩))))
  all_goals (try (cases h; exact .inr ⟨_, by assumption⟩))
  all_goals (try (obtain ⟨_, _, h⟩ := Option.map_eq_some_iff.1 h; cases h; exact .inr ⟨_, by assumption⟩))

theorem VStep.box_le {P : Program} {L : Nat → Bool} {o : VOper} {S : St} {d : SD} (st : VStep P L o S.fs S.h.length d) : ∀ i ob, d.b = some (i, ob) → i ≤ S.h.length := by
  intro i ob hb
  cases st with
  | off => cases hb
  | ev x b h0 h1 h2 =>
    simp only at hb
    subst hb
    rcases ev_box h2 with rfl | ⟨o', ho'⟩
    · exact Nat.le_refl _
    · have : S.h[i]? = some o' := ho'
      rcases Nat.lt_or_ge i S.h.length with h' | h'
      · omega
      · simp [List.getElem?_eq_none h'] at this
  | evx T x b h0 h1 h2 =>
    simp only at hb
    subst hb
    obtain ⟨o', ho'⟩ := evx_box h2
    have : S.h[i]? = some o' := ho'
    rcases Nat.lt_or_ge i S.h.length with h' | h'
    · omega
    · simp [List.getElem?_eq_none h'] at this
  | pcall => cases hb
  | bcall f args g ret i' off rest ob0 ob' h0 h1 h2 h3 h4 h5 h6 h7 h8 h9 h10 =>
    simp only [Option.some.injEq, Prod.mk.injEq] at hb
    obtain ⟨rfl, rfl⟩ := hb
    have : S.h[i']? = some ob0 := h5
    rcases Nat.lt_or_ge i' S.h.length with h' | h'
    · omega
    · simp [List.getElem?_eq_none h'] at this

theorem boxL_length (b : Option (Nat × HObj)) (h : List HObj) : h.length ≤ (boxL b h).length := by
  unfold boxL
  split
  · exact Nat.le_refl _
  · split <;> simp

/-- Operations one behind the other. -/
inductive VSeq (P : Program) (L : Nat → Bool) : List VOper → St → St → Prop
  | nil (S : St) : VSeq P L [] S S
  | cons (o : VOper) (os : List VOper) (S : St) (d : SD) (S' : St) : VStep P L o S.fs S.h.length d → VSeq P L os (S.app o.dst d) S' → VSeq P L (o :: os) S S'
  | hcall (o : VOper) (os : List VOper) (S S' : St) (f : VX) (args : List VX) (g : Nat) (ret : AV) (h' : List HObj) : o.call = some (f, args) → o.on S.fs.sl → rdX S.fs.sl f = .func g [] → (argTmps args).Nodup →
      VCall P g (args.map (rdX S.fs.sl)) S.h ret h' → VSeq P L os ⟨putL o.dst ret (stripT (argTmps args) S.t), h'⟩ S' → VSeq P L (o :: os) S S'
  | shift (os : List VOper) (S S1 S' : St) : S1.t.length = S.t.length → S.h.length ≤ S1.h.length → Shift S.fs S1.fs → VSeq P L os S1 S' → VSeq P L os S S'

end Go.Proofs.YtmjdoonaidolkaaDoor.V

/- A small logic of values over the model, part 19: what a region comes to in the text's order. -/
namespace Go.Proofs.YtmjdoonaidolkaaDoor.V

theorem St.has_iff (S : St) (i : Nat) : S.fs.has i ↔ i < S.h.length := by
  constructor
  · rintro ⟨o, ho⟩
    have ho' : S.h[i]? = some o := ho
    rcases Nat.lt_or_ge i S.h.length with h' | h'
    · exact h'
    · simp [List.getElem?_eq_none h'] at ho'
  · intro h
    exact ⟨_, (List.getElem?_eq_getElem h : S.h[i]? = _)⟩

theorem St.fresh (S : St) : S.fs.bx S.h.length = none := List.getElem?_eq_none (Nat.le_refl _)

theorem St.app_has {S : St} {dst : Option Nat} {d : SD} (i : Nat) (h : S.fs.has i) : (S.app dst d).fs.has i := by
  rw [St.has_iff] at *
  exact Nat.lt_of_lt_of_le h (boxL_length _ _)

/-- A call that may write boxes. -/
theorem step_hcall {P : Program} {dr : Bool} {ops : Array Oper} {i : Nat} {o : Oper} {vo : VOper} (ho : ops[i]? = some o) (hres : resOper P dr ops o = some vo) {a : Act} {w : World} {fr pi : Nat → Nat} {own : Res → List Nat} {S : St}
    (h : Rel w fr pi own S.fs a.tmps) (hd : ∀ t, o.dst = some t → t < a.tmps.size) (hdt : ∀ t, vo.dst = some t → t < S.t.length) {f : VX} {args : List VX} {g : Nat} {ret : AV} {h' : List HObj} (h0 : vo.call = some (f, args)) (h1 : vo.on S.fs.sl) (h2 : rdX S.fs.sl f = .func g [])
    (h3 : (argTmps args).Nodup) (h5 : VCall P g (args.map (rdX S.fs.sl)) S.h ret h') {K : Act → World → Prop} {Q : Exit → Act → World → Prop}
    (hK : ∀ a' w' fr' pi' own', a'.defers = a.defers → a'.tmps.size = a.tmps.size → Rel w' fr' pi' own' (St.fs ⟨putL vo.dst ret (stripT (argTmps args) S.t), h'⟩) a'.tmps → Ext w w' fr fr' pi pi' own own' S.fs.has → K a' w') : wpOp P ops Q i K a w := by
  obtain ⟨hdst, hg, _, hop⟩ := resOper_inv hres
  have hwant : Region.wanted o (yielded ops a.tmps) = true := by
    unfold Region.wanted
    cases hgd : o.guard with
    | none => rfl
    | some p =>
      obtain ⟨j, want⟩ := p
      rw [hgd] at hg
      simp only [resGuard, Option.map_eq_some_iff] at hg
      obtain ⟨dg, k1, k2⟩ := hg
      unfold VOper.on at h1
      rw [← k2] at h1
      simp only at h1
      have hr := h.slot dg
      rw [h1] at hr
      simp [yielded_of k1 hr.bool_inv]
  unfold wpOp
  rw [ho]
  simp only
  rw [hwant]
  simp only [↓reduceIte]
  rcases hop with ⟨hn, _⟩ | ⟨c, x', f', args', hc, hoc, hcal, hf, hargs⟩
  · rw [h0] at hn; cases hn
  rw [h0] at hc
  cases hc
  refine .inl ?_
  obtain ⟨_, hle, hcall⟩ := h5
  obtain ⟨O, r1, _⟩ := opnd h hf
  rw [h2] at r1
  obtain ⟨us, hfv, hus⟩ := r1.func_inv
  cases hus
  have hcut := h.cut hargs h3 true (fun e => by cases e)
  have hfs : (⟨fun i => (args.map (rdX S.fs.sl)).getD i .undef, fun i => if true = true then S.fs.bx i else none⟩ : FS) = FS.of (args.map (rdX S.fs.sl)) S.h := by
    unfold FS.of
    simp [St.fs, FS.of]
  rw [hfs] at hcut
  have hlen := (resXs_get hargs).1
  have hc := hcall w fr pi _ (c.args.toList.map a.eval) (by simpa using hlen) hcut
  refine exec_call hoc hcal hfv hc fun e w' hp => ?_
  obtain ⟨v, fr', pi', own', rfl, q1, q2⟩ := hp
  refine ⟨v, rfl, ?_⟩
  have hq1 : Rel w' fr' pi' own' ⟨fun i => ([ret] : List AV).getD i .undef, fun i => h'[i]?⟩ #[v] := by simpa [FS.of] using q1
  obtain ⟨own2, z1, z2⟩ := Rel.paste (_P := P) (a := a) h (d := o.dst) hd (vs := args) true hq1 ⟨q2.step, q2.fresh, fun i hi => q2.pi i ((St.has_iff S i).1 hi.2)⟩ (fun e => by cases e) (fun _ i hi => by
    have : i < h'.length := Nat.lt_of_lt_of_le ((St.has_iff S i).1 hi) hle
    exact ⟨_, List.getElem?_eq_getElem this⟩)
  refine hK _ _ fr' _ own2 (by cases o.dst <;> rfl) (by cases o.dst <;> simp [Act.put]) ?_ z2
  have hsame : (({ S.fs.strip (argTmps args) with bx := if true = true then (fun i => h'[i]?) else S.fs.bx } : FS).putO o.dst ret) = St.fs ⟨putL vo.dst ret (stripT (argTmps args) S.t), h'⟩ := by
    rw [hdst] at hdt ⊢
    refine FS.ext' (fun i => ?_) (fun i => ?_)
    · cases hdd : o.dst with
      | none => exact (stripT_getD _ _ _).symm
      | some t =>
        show upd _ t ret i = ((stripT (argTmps args) S.t).set t ret).getD i .undef
        rw [List.getD_eq_getElem?_getD, List.getElem?_set]
        by_cases hti : t = i
        · subst hti
          rw [upd_same, if_pos rfl, if_pos (by rw [stripT_length]; exact hdt t hdd)]
          rfl
        · rw [upd_ne _ _ (fun e => hti e.symm), if_neg hti, ← List.getD_eq_getElem?_getD]
          exact (stripT_getD _ _ _).symm
    · cases o.dst <;> rfl
  rw [← hsame]
  exact z1

theorem seq_sound {P : Program} {dr : Bool} {L : Nat → Bool} {ops : Array Oper} {vops : List VOper} (hres : ∀ (i : Nat) (o : Oper), ops[i]? = some o → ∃ vo, vops[i]? = some vo ∧ resOper P dr ops o = some vo) (hlen : vops.length = ops.size) {N : Nat}
    (hdst : ∀ vo, vo ∈ vops → ∀ t, vo.dst = some t → t < N) {Q : Exit → Act → World → Prop} {l : List VOper} {S S' : St} (hs : VSeq P L l S S') : ∀ (k : Nat), l = vops.drop k → S.t.length = N → ∀ (a : Act) (w : World) (fr pi : Nat → Nat) (own : Res → List Nat),
      Rel w fr pi own S.fs a.tmps → a.tmps.size = N → (∀ a' w' fr' pi' own', a'.defers = a.defers → a'.tmps.size = N → Rel w' fr' pi' own' S'.fs a'.tmps → Ext w w' fr fr' pi pi' own own' S.fs.has → S'.t.length = N → S.h.length ≤ S'.h.length → Q .normal a' w') →
      wpOps P ops Q (List.range' k l.length) a w := by
  have head : ∀ {o : VOper} {os : List VOper} {k : Nat}, o :: os = vops.drop k → vops[k]? = some o ∧ os = vops.drop (k + 1) ∧ ∃ hkl : k < ops.size, resOper P dr ops ops[k] = some o ∧ (ops[k]).dst = o.dst := by
    intro o os k hl
    have hk : vops[k]? = some o := by
      have : (vops.drop k)[0]? = some o := by rw [← hl]; rfl
      simpa using this
    have hos : os = vops.drop (k + 1) := by
      have : (vops.drop k).drop 1 = os := by rw [← hl]; rfl
      rw [← this, List.drop_drop]
    have hkl : k < ops.size := by
      rw [← hlen]
      rcases Nat.lt_or_ge k vops.length with h' | h'
      · exact h'
      · simp [List.getElem?_eq_none h'] at hk
    obtain ⟨vo, hvo, hrs⟩ := hres k ops[k] (Array.getElem?_eq_getElem hkl)
    rw [hk] at hvo
    cases hvo
    exact ⟨hk, hos, hkl, hrs, (resOper_inv hrs).1.symm⟩
  induction hs with
  | nil S => exact fun k hl hN a w fr pi own hr hsz hK => hK a w fr pi own rfl hsz hr (Ext.refl _ _ _ _ _) hN (Nat.le_refl _)
  | cons o os S d S' st hs ih =>
    intro k hl hN a w fr pi own hr hsz hK
    obtain ⟨hk, hos, hkl, hrs, hdo⟩ := head hl
    have hd : ∀ t, (ops[k]).dst = some t → t < a.tmps.size := fun t ht => by rw [hsz]; exact hdst o (List.mem_of_getElem? hk) t (by rw [← hdo]; exact ht)
    have hd2 : ∀ t, o.dst = some t → t < S.t.length := fun t ht => by rw [hN]; exact hdst o (List.mem_of_getElem? hk) t ht
    rw [List.length_cons, List.range'_succ, wpOps_cons]
    refine step_exec (Array.getElem?_eq_getElem hkl) hrs hr hd (fun _ => S.fresh) st fun a' w' fr' pi' own' e1 e2 e3 e4 => ?_
    rw [St.app_fs hd2 st.box_le] at e3
    refine ih (k + 1) hos (by rw [St.app_length]; exact hN) a' w' fr' pi' own' e3 (by omega) fun a2 w2 fr2 pi2 own2 g1 g2 g3 g4 g5 g6 => ?_
    exact hK a2 w2 fr2 pi2 own2 (g1.trans e1) g2 g3 (e4.trans g4 (fun i hi => St.app_has i hi)) g5 (Nat.le_trans (boxL_length _ _) g6)
  | hcall o os S S' f args g ret h' c0 c1 c2 c3 c5 hs ih =>
    intro k hl hN a w fr pi own hr hsz hK
    obtain ⟨hk, hos, hkl, hrs, hdo⟩ := head hl
    have hd : ∀ t, (ops[k]).dst = some t → t < a.tmps.size := fun t ht => by rw [hsz]; exact hdst o (List.mem_of_getElem? hk) t (by rw [← hdo]; exact ht)
    have hd2 : ∀ t, o.dst = some t → t < S.t.length := fun t ht => by rw [hN]; exact hdst o (List.mem_of_getElem? hk) t ht
    rw [List.length_cons, List.range'_succ, wpOps_cons]
    refine step_hcall (Array.getElem?_eq_getElem hkl) hrs hr hd hd2 c0 c1 c2 c3 c5 fun a' w' fr' pi' own' e1 e2 e3 e4 => ?_
    refine ih (k + 1) hos (by simp only [putL_length, stripT_length]; exact hN) a' w' fr' pi' own' e3 (by omega) fun a2 w2 fr2 pi2 own2 g1 g2 g3 g4 g5 g6 => ?_
    refine hK a2 w2 fr2 pi2 own2 (g1.trans e1) g2 g3 (e4.trans g4 (fun i hi => ?_)) g5 (Nat.le_trans c5.2.1 g6)
    rw [St.has_iff] at *
    exact Nat.lt_of_lt_of_le hi c5.2.1
  | shift os S S1 S' h1 h2 h3 hs ih =>
    intro k hl hN a w fr pi own hr hsz hK
    obtain ⟨fr1, pi1, own1, q1, q2⟩ := h3.2 w fr pi own a.tmps hr
    exact ih k hl (by rw [h1]; exact hN) a w fr1 pi1 own1 q1 hsz fun a2 w2 fr2 pi2 own2 g1 g2 g3 g4 g5 g6 => hK a2 w2 fr2 pi2 own2 g1 g2 g3 (q2.trans g4 h3.1) g5 (Nat.le_trans h2 g6)

end Go.Proofs.YtmjdoonaidolkaaDoor.V

/- A small logic of values over the model, part 20: a region whose order is open comes to what it comes to in the text's order, where no operation meddles with another one that it doesn't wait for. -/
namespace Go.Proofs.YtmjdoonaidolkaaDoor.V

def FS.same (s s' : FS) : Res → Prop
  | .slot i => s.sl i = s'.sl i
  | .box i => s.bx i = s'.bx i

theorem FS.same_refl (s : FS) (r : Res) : s.same s r := by cases r <;> rfl
theorem FS.same_symm {s s' : FS} {r : Res} (h : s.same s' r) : s'.same s r := by
  cases r
  · exact Eq.symm h
  · exact Eq.symm h
theorem FS.same_trans {s s1 s2 : FS} {r : Res} (h : s.same s1 r) (h' : s1.same s2 r) : s.same s2 r := by
  cases r
  · exact Eq.trans h h'
  · exact Eq.trans h h'
theorem FS.ext_same {s s' : FS} (h : ∀ r, s.same s' r) : s = s' := FS.ext' (fun i => h (.slot i)) (fun i => h (.box i))

/-- What an operation writes. -/
def wrL (dst : Option Nat) (d : SD) : List Res :=
  (match dst with | some t => [.slot t] | none => []) ++ d.T.map .slot ++ (match d.b with | some (i, _) => [.box i] | none => [])

theorem app_slot (d : SD) (dst : Option Nat) (s : FS) (i : Nat) : (d.app dst s).sl i = if dst = some i then d.x else if i ∈ d.T then (s.sl i).strip else s.sl i := by
  unfold SD.app FS.after
  have hbw : ∀ (s : FS), (s.bw d.b).sl = s.sl := by
    intro s
    cases d.b with
    | none => rfl
    | some p => rfl
  cases dst with
  | none =>
    show ((s.strip d.T).bw d.b).sl i = _
    rw [hbw]
    simp [FS.strip]
  | some t =>
    show upd ((s.strip d.T).bw d.b).sl t d.x i = _
    rw [hbw]
    by_cases h : i = t
    · subst h; rw [upd_same]; simp
    · have h2 : ¬ (t = i) := fun e => h e.symm
      rw [upd_ne _ _ h]; simp [FS.strip, h2]

theorem app_box (d : SD) (dst : Option Nat) (s : FS) (i : Nat) : (d.app dst s).bx i = match d.b with | some (j, o) => if i = j then some o else s.bx i | none => s.bx i := by
  unfold SD.app FS.after
  have h1 : (((s.strip d.T).bw d.b).putO dst d.x).bx = ((s.strip d.T).bw d.b).bx := by cases dst <;> rfl
  rw [h1]
  cases hb : d.b with
  | none => rfl
  | some p =>
    obtain ⟨j, o⟩ := p
    rfl

theorem app_other {d : SD} {dst : Option Nat} {s : FS} {r : Res} (h : r ∉ wrL dst d) : (d.app dst s).same s r := by
  unfold wrL at h
  simp only [List.mem_append, not_or] at h
  obtain ⟨⟨h1, h2⟩, h3⟩ := h
  cases r with
  | slot i =>
    show (d.app dst s).sl i = s.sl i
    rw [app_slot, if_neg, if_neg]
    · intro hi; exact h2 (List.mem_map.2 ⟨i, hi, rfl⟩)
    · rintro rfl; simp at h1
  | box i =>
    show (d.app dst s).bx i = s.bx i
    rw [app_box]
    cases hb : d.b with
    | none => rfl
    | some p =>
      obtain ⟨j, o⟩ := p
      rw [hb] at h3
      simp only [List.mem_singleton] at h3
      simp only
      rw [if_neg (fun e => h3 (by rw [e]))]

theorem app_congr {d : SD} {dst : Option Nat} {s s' : FS} {r : Res} (h : s.same s' r) : (d.app dst s).same (d.app dst s') r := by
  cases r with
  | slot i =>
    show (d.app dst s).sl i = (d.app dst s').sl i
    rw [app_slot, app_slot, (h : s.sl i = s'.sl i)]
  | box i =>
    show (d.app dst s).bx i = (d.app dst s').bx i
    rw [app_box, app_box]
    cases d.b with
    | none => exact h
    | some p =>
      simp only
      split
      · rfl
      · exact h

/-- Some of the operations, in the text's order. -/
def runF : List (Option Nat × SD) → (Nat → Bool) → Nat → FS → FS
  | [], _, _, s => s
  | p :: r, M, i, s => runF r M (i + 1) (if M i then p.2.app p.1 s else s)

theorem runF_agree {r : Res} : ∀ (zs : List (Option Nat × SD)) (M M' : Nat → Bool) (i : Nat) (s s' : FS), s.same s' r → (∀ j p, zs[j]? = some p → r ∈ wrL p.1 p.2 → M (i + j) = M' (i + j)) → (runF zs M i s).same (runF zs M' i s') r
  | [], M, M', i, s, s', h, _ => h
  | p :: zs, M, M', i, s, s', h, hM => by
    rw [runF, runF]
    refine runF_agree zs M M' (i + 1) _ _ ?_ (fun j q hq hr => by
      have := hM (j + 1) q (by simpa using hq) hr
      rw [show i + 1 + j = i + (j + 1) by omega]; exact this)
    by_cases hr : r ∈ wrL p.1 p.2
    · have := hM 0 p rfl hr
      simp only [Nat.add_zero] at this
      rw [this]
      split
      · exact app_congr h
      · exact h
    · have h1 : (if M i then p.2.app p.1 s else s).same s r := by
        split
        · exact app_other hr
        · exact FS.same_refl _ _
      have h2 : (if M' i then p.2.app p.1 s' else s').same s' r := by
        split
        · exact app_other hr
        · exact FS.same_refl _ _
      exact FS.same_trans h1 (FS.same_trans h (FS.same_symm h2))

theorem runF_congr (zs : List (Option Nat × SD)) {M M' : Nat → Bool} (i : Nat) (s : FS) (h : ∀ j, j < zs.length → M (i + j) = M' (i + j)) : runF zs M i s = runF zs M' i s :=
  FS.ext_same fun r => runF_agree zs M M' i s s (FS.same_refl _ _) (fun j p hp _ => h j (by
    rcases Nat.lt_or_ge j zs.length with h' | h'
    · exact h'
    · simp [List.getElem?_eq_none h'] at hp))

theorem runF_none : ∀ (zs : List (Option Nat × SD)) (M : Nat → Bool) (i : Nat) (s : FS), (∀ j, i ≤ j → M j = false) → runF zs M i s = s
  | [], M, i, s, _ => rfl
  | p :: zs, M, i, s, h => by
    rw [runF, h i (Nat.le_refl _)]
    exact runF_none zs M (i + 1) s (fun j hj => h j (by omega))

def addM (M : Nat → Bool) (p : Nat) : Nat → Bool := fun j => if j = p then true else M j

theorem runF_last : ∀ (zs : List (Option Nat × SD)) (M : Nat → Bool) (i k : Nat) (s : FS) (q : Option Nat × SD), zs[k]? = some q → (∀ j, i + k ≤ j → M j = false) → runF zs (addM M (i + k)) i s = q.2.app q.1 (runF zs M i s)
  | [], M, i, k, s, q, h, _ => by simp at h
  | p :: zs, M, i, 0, s, q, h, hM => by
    simp at h
    subst h
    rw [runF, runF]
    simp only [Nat.add_zero] at *
    have h1 : addM M i i = true := by simp [addM]
    simp only [h1, hM i (Nat.le_refl _), ↓reduceIte, Bool.false_eq_true]
    rw [runF_none zs (addM M i) (i + 1) _ (fun j hj => by simp [addM, show ¬ j = i by omega, hM j (by omega)]), runF_none zs M (i + 1) _ (fun j hj => hM j (by omega))]
  | p :: zs, M, i, k + 1, s, q, h, hM => by
    rw [runF, runF]
    have h1 : addM M (i + (k + 1)) i = M i := by simp [addM]
    simp only [h1]
    rw [show i + (k + 1) = i + 1 + k by omega]
    exact runF_last zs M (i + 1) k _ q (by simpa using h) (fun j hj => hM j (by omega))

/-- One more: its writes stand, if no later one that is done writes what it writes. -/
theorem runF_insert {zs : List (Option Nat × SD)} {M : Nat → Bool} {p : Nat} {q : Option Nat × SD} (s : FS) (hq : zs[p]? = some q) (hp : M p = false)
    (hlater : ∀ j q', p < j → zs[j]? = some q' → M j = true → ∀ r, r ∈ wrL q.1 q.2 → r ∉ wrL q'.1 q'.2) : runF zs (addM M p) 0 s = q.2.app q.1 (runF zs M 0 s) := by
  refine FS.ext_same fun r => ?_
  by_cases hr : r ∈ wrL q.1 q.2
  · -- only those ahead of it matter
    let M1 : Nat → Bool := fun j => M j && decide (j < p)
    have hA : (runF zs (addM M p) 0 s).same (runF zs (addM M1 p) 0 s) r := by
      refine runF_agree zs _ _ 0 s s (FS.same_refl _ _) (fun j q' hq' hr' => ?_)
      simp only [Nat.zero_add, addM, M1]
      by_cases hj : j = p
      · simp [hj]
      · simp only [hj, ↓reduceIte]
        rcases Nat.lt_trichotomy j p with h | h | h
        · simp [h]
        · exact absurd h hj
        · have : ¬ j < p := by omega
          simp only [this, decide_false, Bool.and_false]
          cases hm : M j with
          | false => rfl
          | true => exact absurd hr' (hlater j q' h hq' hm r hr)
    have hB : (runF zs M 0 s).same (runF zs M1 0 s) r := by
      refine runF_agree zs _ _ 0 s s (FS.same_refl _ _) (fun j q' hq' hr' => ?_)
      simp only [Nat.zero_add, M1]
      rcases Nat.lt_trichotomy j p with h | h | h
      · simp [h]
      · subst h; simp [hp]
      · have : ¬ j < p := by omega
        simp only [this, decide_false, Bool.and_false]
        cases hm : M j with
        | false => rfl
        | true => exact absurd hr' (hlater j q' h hq' hm r hr)
    have hC := runF_last zs M1 0 p s q hq (fun j hj => by simp only [M1]; simp [show ¬ j < p by omega])
    rw [Nat.zero_add] at hC
    rw [hC] at hA
    exact FS.same_trans hA (app_congr (FS.same_symm hB))
  · refine FS.same_trans (runF_agree zs _ M 0 s s (FS.same_refl _ _) (fun j q' hq' hr' => ?_)) (FS.same_symm (app_other hr))
    simp only [Nat.zero_add, addM]
    by_cases hj : j = p
    · subst hj
      rw [hq] at hq'
      cases hq'
      exact absurd hr' hr
    · simp [hj]

end Go.Proofs.YtmjdoonaidolkaaDoor.V

/- A small logic of values over the model, part 21: what an operation looks at; a region whose order is open. -/
namespace Go.Proofs.YtmjdoonaidolkaaDoor.V

def vxT : VX → List Nat
  | .tmp t => [t]
  | .cst _ => []
def vxsT : List VX → List Nat
  | [] => []
  | x :: r => vxT x ++ vxsT r
def voT : Option VX → List Nat
  | none => []
  | some x => vxT x
def partsT : List (Nat × Nat × VX) → List Nat
  | [] => []
  | (_, _, x) :: r => vxT x ++ partsT r
def elemsT : List (Nat × VX) → List Nat
  | [] => []
  | (_, x) :: r => vxT x ++ elemsT r

/-- The slots that an operation looks at. -/
def opT : VOp → List Nat
  | .mov x | .box x | .load _ x | .nilck x | .un _ x | .cvi _ x | .cvsb x | .cvbs x | .cvid x | .ifc _ x | .fld _ x | .fldv _ _ x | .ext x _ | .lens x | .lenl x | .mk _ _ _ x => vxT x
  | .pick c a b => vxT c ++ vxT a ++ vxT b
  | .alloc _ | .mkm => []
  | .build _ ps => partsT ps
  | .bslice _ _ _ ps => elemsT ps
  | .store _ x v => vxT x ++ vxT v
  | .bin _ x y | .eqn _ _ x y | .eqb _ x y | .mm _ x y | .eqv _ _ x y | .ixa _ x y | .ixarr _ _ x y | .ixs x y | .app _ _ x y | .apps _ x y | .cpy x y | .mget x y => vxT x ++ vxT y
  | .mset x k v => vxT x ++ (vxT k ++ vxT v)
  | .fn _ l => vxsT l
  | .slstr x lo hi | .slsl _ x lo hi => vxT x ++ voT lo ++ voT hi
  | .call f l => vxT f ++ vxsT l
  | .bad => []

/-- The boxes that an operation looks at. -/
def opB (s : Nat → AV) : VOp → List Nat
  | .load _ x | .store _ x _ => match rdX s x with
    | .ptr (some (i, _)) => [i]
    | _ => []
  | .slsl _ x _ _ | .cpy x _ | .app _ _ x _ => match rdX s x with
    | .bsl _ i _ _ => [i]
    | _ => []
  | .ifc _ x => match rdX s x with
    | .ptr (some (i, _)) => [i]
    | _ => []
  | .mget x _ | .mset x _ _ => match rdX s x with
    | .mp i => [i]
    | _ => []
  | _ => []

theorem rdX_congr {s s' : Nat → AV} {x : VX} (h : ∀ t, t ∈ vxT x → s t = s' t) : rdX s x = rdX s' x := by
  cases x with
  | tmp t => exact h t (by simp [vxT])
  | cst c => rfl

theorem putParts_congr {s s' : Nat → AV} : ∀ (ps : List (Nat × Nat × VX)) (z : List AV), (∀ t, t ∈ partsT ps → s t = s' t) → putParts s z ps = putParts s' z ps
  | [], z, _ => rfl
  | (off, sz, x) :: r, z, h => by
    have hx : rdX s x = rdX s' x := rdX_congr fun t ht => h t (by simp [partsT, ht])
    rw [putParts, putParts, hx]
    split
    · exact putParts_congr r _ (fun t ht => h t (by simp [partsT, ht]))
    · rfl

theorem putElems_congr {s s' : Nat → AV} {sz : Nat} : ∀ (ps : List (Nat × VX)) (z : List (List AV)), (∀ t, t ∈ elemsT ps → s t = s' t) → putElems s sz z ps = putElems s' sz z ps
  | [], z, _ => rfl
  | (i, x) :: r, z, h => by
    have hx : rdX s x = rdX s' x := rdX_congr fun t ht => h t (by simp [elemsT, ht])
    rw [putElems, putElems, hx]
    split
    · exact putElems_congr r _ (fun t ht => h t (by simp [elemsT, ht]))
    · rfl

theorem vlow_congr {s s' : Nat → AV} {x : Option VX} (h : ∀ t, t ∈ voT x → s t = s' t) : vlow s x = vlow s' x := by
  cases x with
  | none => rfl
  | some x => simp only [vlow, rdX_congr (s := s) (s' := s') (x := x) h]
theorem vhigh_congr {s s' : Nat → AV} {n : Nat} {x : Option VX} (h : ∀ t, t ∈ voT x → s t = s' t) : vhigh s n x = vhigh s' n x := by
  cases x with
  | none => rfl
  | some x => simp only [vhigh, rdX_congr (s := s) (s' := s') (x := x) h]

theorem ev_congr {fl : Bool} {s s' : Nat → AV} {bx bx' : Nat → Option HObj} {id : Nat} {op : VOp} (h : ∀ t, t ∈ opT op → s t = s' t) (hb : ∀ i, i ∈ opB s op → bx i = bx' i) : ev fl s bx id op = ev fl s' bx' id op := by
  cases op with
  | mov x | box x | nilck x | un _ x | cvi _ x | cvsb x | cvbs x | cvid x | ifc _ x | fld _ x | fldv _ _ x | ext x _ | lens x | lenl x | mk _ _ _ x =>
    simp only [ev, rdX_congr (s := s) (s' := s') (x := x) h]
  | alloc z => rfl
  | mkm => rfl
  | call f l => rfl
  | bad => rfl
  | pick c a b =>
    simp only [ev, rdX_congr (s := s) (s' := s') (x := c) (fun t ht => h t (by simp [opT, ht])), rdX_congr (s := s) (s' := s') (x := a) (fun t ht => h t (by simp [opT, ht])), rdX_congr (s := s) (s' := s') (x := b) (fun t ht => h t (by simp [opT, ht]))]
  | build z ps => simp only [ev, putParts_congr ps z h]
  | bslice sz n z ps => simp only [ev, putElems_congr ps _ h]
  | bin _ x y | eqn _ _ x y | eqb _ x y | mm _ x y | eqv _ _ x y | ixa _ x y | ixarr _ _ x y | ixs x y | app _ _ x y | apps _ x y =>
    simp only [ev, rdX_congr (s := s) (s' := s') (x := x) (fun t ht => h t (by simp [opT, ht])), rdX_congr (s := s) (s' := s') (x := y) (fun t ht => h t (by simp [opT, ht]))]
  | fn f l =>
    have : (l.map fun x => (rdX s x).strip) = l.map fun x => (rdX s' x).strip := by
      simp only [opT] at h
      clear hb
      induction l with
      | nil => rfl
      | cons x r ih =>
        simp only [List.map_cons]
        rw [rdX_congr (s := s) (s' := s') (x := x) (fun t ht => h t (by simp [vxsT, ht])), ih (fun t ht => h t (by simp [vxsT, ht]))]
    simp only [ev, this]
  | cpy x y =>
    have hx : rdX s x = rdX s' x := rdX_congr (fun t ht => h t (by simp [opT, ht]))
    have hy : rdX s y = rdX s' y := rdX_congr (fun t ht => h t (by simp [opT, ht]))
    simp only [ev, opB, hx, hy] at hb ⊢
    split
    · rename_i sz i off n sz' nl ow ys hr hr2
      rw [hr] at hb
      rw [hb i (by simp)]
    · rfl
  | mget x k =>
    have hx : rdX s x = rdX s' x := rdX_congr (fun t ht => h t (by simp [opT, ht]))
    have hk : rdX s k = rdX s' k := rdX_congr (fun t ht => h t (by simp [opT, ht]))
    simp only [ev, opB, hx, hk] at hb ⊢
    split
    · rename_i i hr
      rw [hr] at hb
      rw [hb i (by simp)]
    · rfl
  | mset x k v =>
    have hx : rdX s x = rdX s' x := rdX_congr (fun t ht => h t (by simp [opT, ht]))
    have hk : rdX s k = rdX s' k := rdX_congr (fun t ht => h t (by simp [opT, ht]))
    have hv : rdX s v = rdX s' v := rdX_congr (fun t ht => h t (by simp [opT, ht]))
    simp only [ev, opB, hx, hk, hv] at hb ⊢
    split
    · rename_i i hr
      rw [hr] at hb
      rw [hb i (by simp)]
    · rfl
  | slsl sz x lo hi =>
    have hx : rdX s x = rdX s' x := rdX_congr (fun t ht => h t (by simp [opT, ht]))
    simp only [ev, opB, hx, vlow_congr (s := s) (s' := s') (x := lo) (fun t ht => h t (by simp [opT, ht])),
      fun n => vhigh_congr (s := s) (s' := s') (n := n) (x := hi) (fun t ht => h t (by simp [opT, ht]))] at hb ⊢
    split
    · rfl
    · rename_i sz' i off n hr
      rw [hr] at hb
      rw [hb i (by simp)]
    · rfl
  | slstr x lo hi =>
    simp only [ev, rdX_congr (s := s) (s' := s') (x := x) (fun t ht => h t (by simp [opT, ht])), vlow_congr (s := s) (s' := s') (x := lo) (fun t ht => h t (by simp [opT, ht])),
      fun n => vhigh_congr (s := s) (s' := s') (n := n) (x := hi) (fun t ht => h t (by simp [opT, ht]))]
  | load g x =>
    have hx : rdX s x = rdX s' x := rdX_congr h
    simp only [ev, opB, hx] at hb ⊢
    split
    · rename_i i off hr
      rw [hr] at hb
      rw [hb i (by simp)]
    · rfl
    · rfl
  | store n x v =>
    have hx : rdX s x = rdX s' x := rdX_congr (fun t ht => h t (by simp [opT, ht]))
    have hv : rdX s v = rdX s' v := rdX_congr (fun t ht => h t (by simp [opT, ht]))
    simp only [ev, opB, hx, hv] at hb ⊢
    split
    · rename_i i off hr
      rw [hr] at hb
      rw [hb i (by simp)]
    · rfl

theorem evx_congr {s s' : Nat → AV} {bx bx' : Nat → Option HObj} {op : VOp} (h : ∀ t, t ∈ opT op → s t = s' t) (hb : ∀ i, i ∈ opB s op → bx i = bx' i) : evx s bx op = evx s' bx' op := by
  cases op <;> first | rfl | skip
  · rename_i sz n z ps
    simp only [evx, putElems_congr ps _ h]
  · rename_i g x
    have hx : rdX s x = rdX s' x := rdX_congr h
    simp only [evx, opB, hx] at hb ⊢
    split
    · rename_i i off hr
      rw [hr] at hb
      rw [hb i (by simp)]
    · rfl
  · rename_i t x
    have hx : rdX s x = rdX s' x := rdX_congr h
    simp only [evx, opB, hx] at hb ⊢
    split
    · rename_i i off hr
      rw [hr] at hb
      rw [hb i (by simp)]
    · rfl
  · rename_i sz bytes x y
    have hx : rdX s x = rdX s' x := rdX_congr (fun t ht => h t (by simp [opT, ht]))
    have hy : rdX s y = rdX s' y := rdX_congr (fun t ht => h t (by simp [opT, ht]))
    simp only [evx, opB, hx, hy] at hb ⊢
    generalize rdX s' x = u at hb ⊢
    generalize rdX s' y = q
    cases q with
    | sl sz2 nl2 ow2 ys =>
      cases u with
      | bsl sz' i off n => simp only [hb i (by simp)]
      | sl _ nl _ _ => cases nl with
        | none => rfl
        | some b => cases b <;> rfl
      | _ => rfl
    | _ => rfl

/-- The id is asked for where a box is made, alone. -/
theorem ev_id {fl : Bool} {s : Nat → AV} {bx : Nat → Option HObj} {id id' : Nat} {op : VOp} (h : op.isAlloc = false) : ev fl s bx id op = ev fl s bx id' op := by
  cases op <;> first | rfl | (simp [VOp.isAlloc] at h)

/-- The boxes to which these point. -/
def ptrsT (s : Nat → AV) : List VX → List Nat
  | [] => []
  | x :: r => (match rdX s x with
    | .ptr (some (i, _)) => [i]
    | _ => []) ++ ptrsT s r

/-- All that a step looks at. -/
def rdL (o : VOper) (s : Nat → AV) (id : Nat) : List Res :=
  (match o.guard with | some (g, _) => [.slot g] | none => []) ++
  (match o.call with | some (f, l) => (vxT f ++ vxsT l).map .slot ++ (ptrsT s l).map .box | none => []) ++ (opT o.op).map .slot ++ (opB s o.op).map .box ++ (if o.op.isAlloc then [.box id] else [])

theorem VStep.congr {P : Program} {L : Nat → Bool} {o : VOper} {s s' : FS} {id : Nat} {d : SD} (h : VStep P L o s id d) (hs : ∀ r, r ∈ rdL o s.sl id → s.same s' r) : VStep P L o s' id d := by
  have hguard : ∀ g want, o.guard = some (g, want) → s.sl g = s'.sl g := fun g want e => hs (.slot g) (by simp [rdL, e])
  have hon : o.on s.sl → o.on s'.sl := by
    intro h1
    unfold VOper.on at *
    cases hg : o.guard with
    | none => trivial
    | some p =>
      obtain ⟨g, want⟩ := p
      rw [hg] at h1
      simp only at h1 ⊢
      rw [← hguard g want hg]; exact h1
  cases h with
  | off g want h1 h2 => exact .off g want h1 (by rw [← hguard g want h1]; exact h2)
  | ev x b h0 h1 h2 =>
    refine .ev x b h0 (hon h1) ?_
    rw [← ev_congr (s := s.sl) (bx := s.bx) (fun t ht => hs (.slot t) ?_) (fun i hi => hs (.box i) ?_)]
    · exact h2
    · unfold rdL
      simp only [List.mem_append, List.mem_map]
      exact .inl (.inl (.inr ⟨t, ht, rfl⟩))
    · unfold rdL
      simp only [List.mem_append, List.mem_map]
      exact .inl (.inr ⟨i, hi, rfl⟩)
  | evx T x b h0 h1 h2 =>
    refine .evx T x b h0 (hon h1) ?_
    rw [← evx_congr (s := s.sl) (bx := s.bx) (fun t ht => hs (.slot t) ?_) (fun i hi => hs (.box i) ?_)]
    · exact h2
    · unfold rdL
      simp only [List.mem_append, List.mem_map]
      exact .inl (.inl (.inr ⟨t, ht, rfl⟩))
    · unfold rdL
      simp only [List.mem_append, List.mem_map]
      exact .inl (.inr ⟨i, hi, rfl⟩)
  | pcall f args g ret h0 h1 h2 h3 h4 h5 =>
    have hx : ∀ x, x = f ∨ x ∈ args → rdX s.sl x = rdX s'.sl x := by
      intro x hx
      refine rdX_congr fun t ht => hs (.slot t) ?_
      unfold rdL
      rw [h0]
      have hm : t ∈ vxT f ++ vxsT args := by
        rcases hx with rfl | hx
        · simp [ht]
        · have : t ∈ vxsT args := by
            clear h0 h2 h3 h4 h5
            induction args with
            | nil => simp at hx
            | cons y r ih =>
              rcases List.mem_cons.1 hx with rfl | hx
              · simp [vxsT, ht]
              · simp [vxsT, ih hx]
          simp [this]
      simp only [List.mem_append, List.mem_map]
      exact .inl (.inl (.inl (.inr (.inl ⟨t, by simpa using hm, rfl⟩))))
    have hmap : args.map (rdX s.sl) = args.map (rdX s'.sl) := List.map_congr_left fun x hx' => hx x (.inr hx')
    refine .pcall f args g ret h0 (hon h1) (by rw [← hx f (.inl rfl)]; exact h2) h3 (fun v hv => by rw [← hx v (.inr hv)]; exact h4 v hv) (by rw [← hmap]; exact h5)
  | bcall f args g ret i off rest ob ob' h0 h1 h2 h3 h4 h5 h6 h7 h8 h9 h10 =>
    have hx : ∀ x, x = f ∨ x ∈ args → rdX s.sl x = rdX s'.sl x := by
      intro x hx
      refine rdX_congr fun t ht => hs (.slot t) ?_
      unfold rdL
      rw [h0]
      have hm : t ∈ vxT f ++ vxsT args := by
        rcases hx with rfl | hx
        · simp [ht]
        · have : t ∈ vxsT args := by
            clear h0 h2 h3 h4 h5 h6 h7 h8 h9 h10
            induction args with
            | nil => simp at hx
            | cons y r ih =>
              rcases List.mem_cons.1 hx with rfl | hx
              · simp [vxsT, ht]
              · simp [vxsT, ih hx]
          simp [this]
      simp only [List.mem_append, List.mem_map]
      exact .inl (.inl (.inl (.inr (.inl ⟨t, by simpa using hm, rfl⟩))))
    have hmap : args.map (rdX s.sl) = args.map (rdX s'.sl) := List.map_congr_left fun x hx' => hx x (.inr hx')
    have hbi : s.bx i = s'.bx i := by
      refine hs (.box i) ?_
      unfold rdL
      rw [h0]
      simp only [List.mem_append, List.mem_map]
      refine .inl (.inl (.inl (.inr (.inr ⟨i, ?_, rfl⟩))))
      cases args with
      | nil => simp at h4
      | cons y r =>
        simp only [List.map_cons, List.cons.injEq] at h4
        simp [ptrsT, h4.1]
    exact .bcall f args g ret i off rest ob ob' h0 (hon h1) (by rw [← hx f (.inl rfl)]; exact h2) h3 (by rw [← hmap]; exact h4) (by rw [← hbi]; exact h5) h6 h7 h8 h9 h10

/-- Operations one behind the other, each told with what it looked at. -/
inductive VRun (P : Program) (L : Nat → Bool) : List VOper → St → List (Option Nat × SD) → List (List Res) → St → Prop
  | nil (S : St) : VRun P L [] S [] [] S
  | cons (o : VOper) (os : List VOper) (S : St) (d : SD) (ds : List (Option Nat × SD)) (rs : List (List Res)) (S' : St) : VStep P L o S.fs S.h.length d → VRun P L os (S.app o.dst d) ds rs S' →
      VRun P L (o :: os) S ((o.dst, d) :: ds) (rdL o S.fs.sl S.h.length :: rs) S'

/-- Of these and of those ahead of them: a set, as a number's bits. -/
def maskOf (acc : List Nat) : List Nat → Nat
  | [] => 0
  | j :: r => maskOf acc r ||| (2 ^ j ||| acc.getD j 0)

/-- Those ahead of each one. -/
def befores : List VOper → List Nat → List Nat
  | [], acc => acc
  | o :: r, acc => befores r (acc ++ [maskOf acc o.deps])

theorem maskOf_spec {acc : List Nat} {i : Nat} : ∀ {l : List Nat}, (maskOf acc l).testBit i = true → i ∈ l ∨ ∃ j, j ∈ l ∧ (acc.getD j 0).testBit i = true
  | [], h => by simp [maskOf] at h
  | j :: r, h => by
    rw [maskOf, Nat.testBit_or, Nat.testBit_or, Bool.or_eq_true, Bool.or_eq_true] at h
    rcases h with h | h | h
    · rcases maskOf_spec h with h | ⟨k, h1, h2⟩
      · exact .inl (by simp [h])
      · exact .inr ⟨k, by simp [h1], h2⟩
    · rw [Nat.testBit_two_pow] at h
      have : j = i := by simpa using h
      exact .inl (by simp [this])
    · exact .inr ⟨j, by simp, h⟩

def meets (a b : List Res) : Bool := a.any fun x => b.contains x

/-- Of any two that meddle with each other the second waits for the first. -/
def drawOk (bs : List Nat) (ws rs : List (List Res)) : Bool :=
  (List.range ws.length).all fun j => (List.range j).all fun i =>
    (bs.getD j 0).testBit i || !(meets (ws.getD i []) (ws.getD j []) || meets (ws.getD i []) (rs.getD j []) || meets (rs.getD i []) (ws.getD j []))

def depsOk (l : List VOper) : Bool := (List.range l.length).all fun j => ((l.getD j default).deps).all fun i => decide (i < j)

end Go.Proofs.YtmjdoonaidolkaaDoor.V

/- A small logic of values over the model, part 22: a region whose order is open, in whatever order. -/
namespace Go.Proofs.YtmjdoonaidolkaaDoor.V

theorem befores_append : ∀ (l : List VOper) (acc : List Nat), ∃ r, befores l acc = acc ++ r ∧ r.length = l.length
  | [], acc => ⟨[], by simp [befores], rfl⟩
  | o :: l, acc => by
    obtain ⟨r, h1, h2⟩ := befores_append l (acc ++ [maskOf acc o.deps])
    exact ⟨maskOf acc o.deps :: r, by rw [befores, h1]; simp, by simp [h2]⟩

/-- What stands in the list of those ahead: a dependency, or one ahead of a dependency. -/
theorem befores_spec : ∀ (l : List VOper) (acc : List Nat) (k : Nat) (o : VOper), l[k]? = some o → (∀ i, i ∈ o.deps → i < acc.length + k) →
    ∀ i, ((befores l acc).getD (acc.length + k) 0).testBit i = true → i ∈ o.deps ∨ ∃ j, j ∈ o.deps ∧ ((befores l acc).getD j 0).testBit i = true
  | [], acc, k, o, h, _, i, hi => by simp at h
  | p :: l, acc, 0, o, h, hd, i, hi => by
    simp at h
    subst h
    rw [befores] at hi ⊢
    obtain ⟨r, h1, h2⟩ := befores_append l (acc ++ [maskOf acc p.deps])
    rw [h1] at hi ⊢
    simp only [Nat.add_zero] at hi
    have e : ((acc ++ [maskOf acc p.deps]) ++ r).getD acc.length 0 = maskOf acc p.deps := by
      simp [List.getD_eq_getElem?_getD]
    rw [e] at hi
    rcases maskOf_spec hi with hi | ⟨j, hj, hij⟩
    · exact .inl hi
    · refine .inr ⟨j, hj, ?_⟩
      have hjl : j < acc.length := by have := hd j hj; omega
      rw [List.getD_eq_getElem?_getD, List.append_assoc, List.getElem?_append_left hjl, ← List.getD_eq_getElem?_getD]
      exact hij
  | p :: l, acc, k + 1, o, h, hd, i, hi => by
    rw [befores] at hi ⊢
    have := befores_spec l (acc ++ [maskOf acc p.deps]) k o (by simpa using h) (fun i hi => by have := hd i hi; simp; omega) i
    simp only [List.length_append, List.length_singleton] at this
    rw [show acc.length + (k + 1) = acc.length + 1 + k by omega] at hi
    exact this hi

theorem before_closed {vops : List VOper} (hdep : depsOk vops = true) {M : Nat → Bool} (hM : ∀ j o, vops[j]? = some o → M j = true → ∀ i, i ∈ o.deps → M i = true) :
    ∀ (j : Nat) (o : VOper), vops[j]? = some o → (M j = true ∨ ∀ i, i ∈ o.deps → M i = true) → ∀ i, ((befores vops []).getD j 0).testBit i = true → M i = true := by
  intro j
  induction j using Nat.strongRecOn with
  | _ j ih =>
    intro o ho hj i hi
    have hd : ∀ i, i ∈ o.deps → i < j := by
      intro i hi
      unfold depsOk at hdep
      rw [List.all_eq_true] at hdep
      have hjl : j < vops.length := by
        rcases Nat.lt_or_ge j vops.length with h' | h'
        · exact h'
        · simp [List.getElem?_eq_none h'] at ho
      have := hdep j (List.mem_range.2 hjl)
      rw [List.all_eq_true] at this
      have e : vops.getD j default = o := by simp [List.getD_eq_getElem?_getD, ho]
      rw [e] at this
      simpa using this i hi
    have hdeps : ∀ i, i ∈ o.deps → M i = true := by
      rcases hj with hj | hj
      · exact hM j o ho hj
      · exact hj
    have := befores_spec vops [] j o ho (by simpa using hd) i (by simpa using hi)
    rcases this with h1 | ⟨q, hq, h1⟩
    · exact hdeps i h1
    · have hql : q < vops.length := by
        have := hd q hq
        rcases Nat.lt_or_ge j vops.length with h' | h'
        · omega
        · simp [List.getElem?_eq_none h'] at ho
      exact ih q (hd q hq) _ (List.getElem?_eq_getElem hql) (.inl (hdeps q hq)) i h1

theorem VRun.get {P : Program} {L : Nat → Bool} : ∀ {os : List VOper} {S : St} {ds : List (Option Nat × SD)} {rs : List (List Res)} {S' : St}, VRun P L os S ds rs S' → (∀ o, o ∈ os → ∀ t, o.dst = some t → t < S.t.length) →
    ds.length = os.length ∧ rs.length = os.length ∧ S'.fs = runF ds (fun _ => true) 0 S.fs ∧ S'.t.length = S.t.length ∧ S.h.length ≤ S'.h.length ∧
    ∀ (k : Nat) (o : VOper), os[k]? = some o → ∃ d id, ds[k]? = some (o.dst, d) ∧ VStep P L o (runF ds (fun j => decide (j < k)) 0 S.fs) id d ∧ rs[k]? = some (rdL o (runF ds (fun j => decide (j < k)) 0 S.fs).sl id) ∧
      (runF ds (fun j => decide (j < k)) 0 S.fs).bx id = none
  | _, _, _, _, _, .nil S, _ => ⟨rfl, rfl, rfl, rfl, Nat.le_refl _, by simp⟩
  | _, _, _, _, _, .cons o os S d ds rs S' st h, hd => by
    have happ := St.app_fs (S := S) (dst := o.dst) (d := d) (fun t ht => hd o (by simp) t ht) st.box_le
    obtain ⟨k1, k2, k3, k4, k5, k6⟩ := VRun.get h (fun o' ho' t ht => by rw [St.app_length]; exact hd o' (by simp [ho']) t ht)
    have shift : ∀ (M : Nat → Bool) (s : FS), runF ds (fun j => M (j + 1)) 0 s = runF ds M 1 s := by
      intro M s
      have : ∀ (l : List (Option Nat × SD)) (i : Nat) (s : FS), runF l (fun j => M (j + 1)) i s = runF l M (i + 1) s := by
        intro l
        induction l with
        | nil => intro i s; rfl
        | cons p l ih => intro i s; rw [runF, runF, ih]
      exact this ds 0 s
    refine ⟨by simp [k1], by simp [k2], ?_, by rw [k4, St.app_length], Nat.le_trans (boxL_length _ _) k5, fun k o' ho' => ?_⟩
    · rw [k3, runF]
      simp only [↓reduceIte]
      rw [happ]
      exact shift (fun _ => true) _
    · cases k with
      | zero =>
        simp at ho'
        subst ho'
        have e : runF ((o.dst, d) :: ds) (fun j => decide (j < 0)) 0 S.fs = S.fs := runF_none _ _ _ _ (fun j _ => by simp)
        rw [e]
        exact ⟨d, S.h.length, rfl, st, rfl, S.fresh⟩
      | succ k =>
        obtain ⟨d', id, q1, q2, q3, q4⟩ := k6 k o' (by simpa using ho')
        have e : runF ((o.dst, d) :: ds) (fun j => decide (j < k + 1)) 0 S.fs = runF ds (fun j => decide (j < k)) 0 (S.app o.dst d).fs := by
          rw [runF]
          simp only [Nat.zero_lt_succ, decide_true, ↓reduceIte]
          rw [happ, ← shift (fun j => decide (j < k + 1))]
          congr 1
          funext j
          simp
        rw [e]
        exact ⟨d', id, by simpa using q1, q2, by simpa using q3, q4⟩

theorem runF_has : ∀ (zs : List (Option Nat × SD)) (M : Nat → Bool) (i : Nat) (s : FS) (j : Nat), s.has j → (runF zs M i s).has j
  | [], M, i, s, j, h => h
  | p :: zs, M, i, s, j, h => by
    rw [runF]
    refine runF_has zs M (i + 1) _ j ?_
    split
    · obtain ⟨o, ho⟩ := h
      unfold FS.has
      rw [app_box]
      cases p.2.b with
      | none => exact ⟨o, ho⟩
      | some q =>
        simp only
        split
        · exact ⟨_, rfl⟩
        · exact ⟨o, ho⟩
    · exact h

theorem meets_of {a b : List Res} {r : Res} (h1 : r ∈ a) (h2 : r ∈ b) : meets a b = true := by
  unfold meets
  rw [List.any_eq_true]
  exact ⟨r, h1, by simpa using h2⟩

theorem drawOk_spec {bs : List Nat} {ws rs : List (List Res)} (h : drawOk bs ws rs = true) {i j : Nat} (hij : i < j) (hj : j < ws.length) (hn : ¬ (bs.getD j 0).testBit i = true) {r : Res} :
    (r ∈ ws.getD i [] → r ∉ ws.getD j []) ∧ (r ∈ ws.getD i [] → r ∉ rs.getD j []) ∧ (r ∈ rs.getD i [] → r ∉ ws.getD j []) := by
  unfold drawOk at h
  rw [List.all_eq_true] at h
  have h1 := h j (List.mem_range.2 hj)
  rw [List.all_eq_true] at h1
  have h2 := h1 i (List.mem_range.2 hij)
  simp only [Bool.or_eq_true, Bool.not_eq_true', Bool.or_eq_false_iff] at h2
  rcases h2 with h2 | ⟨⟨h2, h3⟩, h4⟩
  · exact absurd h2 hn
  · exact ⟨(fun a b => by rw [meets_of a b] at h2; cases h2), (fun a b => by rw [meets_of a b] at h3; cases h3), (fun a b => by rw [meets_of a b] at h4; cases h4)⟩

theorem any_sound {P : Program} {L : Nat → Bool} {ops : Array Oper} {vops : List VOper} (hres : ∀ (i : Nat) (o : Oper), ops[i]? = some o → ∃ vo, vops[i]? = some vo ∧ resOper P true ops o = some vo) (hlen : vops.length = ops.size) {N : Nat}
    (hdst : ∀ vo, vo ∈ vops → ∀ t, vo.dst = some t → t < N) (hdep : depsOk vops = true) {S S' : St} {ds : List (Option Nat × SD)} {rs : List (List Res)} (hrun : VRun P L vops S ds rs S') (hN : S.t.length = N)
    (hok : drawOk (befores vops []) (ds.map fun p => wrL p.1 p.2) rs = true) {Q : Exit → Act → World → Prop} :
    ∀ (fuel : Nat) (listed : Array Bool) (a : Act) (w : World) (fr pi : Nat → Nat) (own : Res → List Nat), listed.size = ops.size → fuel = (listed.toList.filter (fun b => !b)).length →
      (∀ j o, vops[j]? = some o → listed.getD j false = true → ∀ i, i ∈ o.deps → listed.getD i false = true) →
      Rel w fr pi own (runF ds (fun j => listed.getD j false) 0 S.fs) a.tmps → a.tmps.size = N →
      (∀ a' w' fr' pi' own', a'.defers = a.defers → a'.tmps.size = N → Rel w' fr' pi' own' S'.fs a'.tmps → Ext w w' fr fr' pi pi' own own' (runF ds (fun j => listed.getD j false) 0 S.fs).has → Q .normal a' w') →
      wpAny P .any ops Q fuel listed a w := by
  obtain ⟨l1, l2, l3, l4, l5, l6⟩ := hrun.get (fun o ho t ht => by rw [hN]; exact hdst o ho t ht)
  have hdepj : ∀ (j : Nat) (o : VOper), vops[j]? = some o → ∀ i, i ∈ o.deps → i < j := by
    intro j o ho i hi
    have h := hdep
    unfold depsOk at h
    rw [List.all_eq_true] at h
    have hjl : j < vops.length := by
      rcases Nat.lt_or_ge j vops.length with h' | h'
      · exact h'
      · simp [List.getElem?_eq_none h'] at ho
    have := h j (List.mem_range.2 hjl)
    rw [List.all_eq_true] at this
    have e : vops.getD j default = o := by simp [List.getD_eq_getElem?_getD, ho]
    rw [e] at this
    simpa using this i hi
  -- who is ready
  have hready : ∀ (listed : Array Bool), listed.size = ops.size → ∀ i, i ∈ Region.ready .any ops listed ↔ (i < ops.size ∧ listed.getD i false = false ∧ ∀ o, vops[i]? = some o → ∀ j, j ∈ o.deps → listed.getD j false = true) := by
    intro listed hsz i
    unfold Region.ready
    rw [List.mem_filter, List.mem_range]
    constructor
    · rintro ⟨hi, hc⟩
      simp only [Bool.and_eq_true, Bool.not_eq_true'] at hc
      refine ⟨hi, ?_, fun o ho j hj => ?_⟩
      · have := hc.1
        rw [Array.getD_eq_getD_getElem?, Array.getElem?_eq_getElem (by omega)] at this ⊢
        simpa using this
      · obtain ⟨vo, h1, h2⟩ := hres i ops[i] (Array.getElem?_eq_getElem hi)
        rw [ho] at h1
        cases h1
        have hdd := (resOper_inv h2).2.2.1 rfl
        rw [hdd] at hj
        unfold depsOf at hj
        obtain ⟨e, he, rfl⟩ := List.mem_map.1 hj
        obtain ⟨he1, he2⟩ := List.mem_filter.1 he
        have h3 := hc.2
        rw [Array.getElem?_eq_getElem hi] at h3
        simp only [Option.map_some, Option.getD_some] at h3
        rw [Array.all_eq_true_iff_forall_mem] at h3
        have := h3 e (by simpa using he1)
        simp only [he2, Bool.not_true, Bool.false_or] at this
        exact this
    · rintro ⟨hi, h1, h2⟩
      refine ⟨hi, ?_⟩
      simp only [Bool.and_eq_true, Bool.not_eq_true']
      refine ⟨?_, ?_⟩
      · rw [Array.getD_eq_getD_getElem?, Array.getElem?_eq_getElem (by omega)] at h1 ⊢
        simpa using h1
      · obtain ⟨vo, k1, k2⟩ := hres i ops[i] (Array.getElem?_eq_getElem hi)
        rw [Array.getElem?_eq_getElem hi]
        simp only [Option.map_some, Option.getD_some]
        rw [Array.all_eq_true_iff_forall_mem]
        intro e he
        cases hb : Region.binds .any e with
        | false => rfl
        | true =>
          simp only [Bool.not_true, Bool.false_or]
          refine h2 vo k1 e.on ?_
          rw [(resOper_inv k2).2.2.1 rfl]
          exact List.mem_map.2 ⟨e, List.mem_filter.2 ⟨by simpa using he, hb⟩, rfl⟩
  -- nobody is ready: all are done
  have hdone : ∀ (listed : Array Bool), listed.size = ops.size → Region.ready .any ops listed = [] → ∀ i, i < ops.size → listed.getD i false = true := by
    intro listed hsz hnil i
    induction i using Nat.strongRecOn with
    | _ i ih =>
      intro hi
      cases hb : listed.getD i false with
      | true => rfl
      | false =>
        exfalso
        have : i ∈ Region.ready .any ops listed := (hready listed hsz i).2 ⟨hi, hb, fun o ho j hj => ih j (hdepj i o ho j hj) (by have := hdepj i o ho j hj; omega)⟩
        rw [hnil] at this
        simp at this
  have hend : ∀ (listed : Array Bool) (a : Act) (w : World) (fr pi : Nat → Nat) (own : Res → List Nat), listed.size = ops.size → Region.ready .any ops listed = [] → Rel w fr pi own (runF ds (fun j => listed.getD j false) 0 S.fs) a.tmps → Rel w fr pi own S'.fs a.tmps := by
    intro listed a w fr pi own hsz hnil hr
    rw [l3]
    have : runF ds (fun j => listed.getD j false) 0 S.fs = runF ds (fun _ => true) 0 S.fs := runF_congr ds 0 S.fs (fun j hj => by
      rw [Nat.zero_add]
      exact hdone listed hsz hnil j (by omega))
    rw [← this]
    exact hr
  intro fuel
  induction fuel with
  | zero =>
    intro listed a w fr pi own hsz hf hcl hr hts hQ
    have hall : ∀ i, i < ops.size → listed.getD i false = true := by
      intro i hi
      have hb : listed[i]'(by omega) ∈ listed.toList := by simp
      rw [Array.getD_eq_getD_getElem?, Array.getElem?_eq_getElem (by omega)]
      simp only [Option.getD_some]
      cases hbb : listed[i]'(by omega) with
      | true => rfl
      | false =>
        exfalso
        have : false ∈ listed.toList.filter (fun b => !b) := List.mem_filter.2 ⟨by rw [← hbb]; exact hb, rfl⟩
        have hlen0 := List.eq_nil_of_length_eq_zero hf.symm
        rw [hlen0] at this
        simp at this
    have hnil : Region.ready .any ops listed = [] := by
      apply List.eq_nil_iff_forall_not_mem.2
      intro i hi
      obtain ⟨h1, h2, _⟩ := (hready listed hsz i).1 hi
      rw [hall i h1] at h2
      cases h2
    refine ⟨hnil, ?_⟩
    exact hQ a w fr pi own rfl hts (hend listed a w fr pi own hsz hnil hr) (Ext.refl _ _ _ _ _)
  | succ fuel ih =>
    intro listed a w fr pi own hsz hf hcl hr hts hQ
    refine ⟨fun hnil => hQ a w fr pi own rfl hts (hend listed a w fr pi own hsz hnil hr) (Ext.refl _ _ _ _ _), fun i hi => ?_⟩
    obtain ⟨hio, hil, hid⟩ := (hready listed hsz i).1 hi
    obtain ⟨vo, hvo, hrs⟩ := hres i ops[i] (Array.getElem?_eq_getElem hio)
    obtain ⟨d, id, q1, q2, q3, q4⟩ := l6 i vo hvo
    have hdeps := hid vo hvo
    -- those ahead are done, those that wait for it are not
    have hbef : ∀ j, ((befores vops []).getD i 0).testBit j = true → listed.getD j false = true := before_closed hdep hcl i vo hvo (.inr hdeps)
    have haft : ∀ (j : Nat) (oj : VOper), vops[j]? = some oj → listed.getD j false = true → ¬ ((befores vops []).getD j 0).testBit i = true := by
      intro j oj hj hlj hmem
      have := before_closed hdep hcl j oj hj (.inl hlj) i hmem
      rw [hil] at this
      cases this
    have hws : ∀ j, (ds.map fun p => wrL p.1 p.2).getD j [] = match ds[j]? with | some p => wrL p.1 p.2 | none => [] := by
      intro j
      rw [List.getD_eq_getElem?_getD, List.getElem?_map]
      cases ds[j]? <;> rfl
    have hri : rs.getD i [] = rdL vo (runF ds (fun j => decide (j < i)) 0 S.fs).sl id := by rw [List.getD_eq_getElem?_getD, q3]; rfl
    have hwi : (ds.map fun p => wrL p.1 p.2).getD i [] = wrL vo.dst d := by rw [hws, q1]
    have hdsl : (ds.map fun p => wrL p.1 p.2).length = ops.size := by rw [List.length_map]; omega
    have hsame : ∀ r, r ∈ rdL vo (runF ds (fun j => decide (j < i)) 0 S.fs).sl id → (runF ds (fun j => decide (j < i)) 0 S.fs).same (runF ds (fun j => listed.getD j false) 0 S.fs) r := by
      intro r hr'
      refine runF_agree ds _ _ 0 _ _ (FS.same_refl _ _) (fun j p hp hrw => ?_)
      simp only [Nat.zero_add]
      have hjl : j < ds.length := by
        rcases Nat.lt_or_ge j ds.length with h' | h'
        · exact h'
        · simp [List.getElem?_eq_none h'] at hp
      have hwj : (ds.map fun p => wrL p.1 p.2).getD j [] = wrL p.1 p.2 := by rw [hws, hp]
      rcases Nat.lt_trichotomy j i with h | h | h
      · simp only [h, decide_true]
        refine (Classical.byContradiction fun hno => ?_ : listed.getD j false = true).symm
        have hnb : ¬ ((befores vops []).getD i 0).testBit j = true := fun hm => hno (hbef j hm)
        exact (drawOk_spec hok h (by omega) hnb (r := r)).2.1 (by rw [hwj]; exact hrw) (by rw [hri]; exact hr')
      · subst h
        simp [hil]
      · have hnd : ¬ j < i := by omega
        simp only [hnd, decide_false]
        cases hlj : listed.getD j false with
        | false => rfl
        | true =>
          exfalso
          have hnb := haft j _ (List.getElem?_eq_getElem (by omega)) hlj
          exact (drawOk_spec hok h (by omega) hnb (r := r)).2.2 (by rw [hri]; exact hr') (by rw [hwj]; exact hrw)
    have hstep := q2.congr hsame
    have hidd : vo.op.isAlloc = true → (runF ds (fun j => listed.getD j false) 0 S.fs).bx id = none := by
      intro hal
      have := hsame (.box id) (by unfold rdL; simp [hal])
      have h2 : (runF ds (fun j => decide (j < i)) 0 S.fs).bx id = (runF ds (fun j => listed.getD j false) 0 S.fs).bx id := this
      rw [← h2]; exact q4
    have hdo : (ops[i]).dst = vo.dst := (resOper_inv hrs).1.symm
    refine step_exec (Array.getElem?_eq_getElem hio) hrs hr (fun t ht => by rw [hts]; exact hdst vo (List.mem_of_getElem? hvo) t (by rw [← hdo]; exact ht)) hidd hstep fun a' w' fr' pi' own' e1 e2 e3 e4 => ?_
    have hins := runF_insert (zs := ds) (M := fun j => listed.getD j false) (p := i) (q := (vo.dst, d)) S.fs q1 hil (fun j q' hij hq' hlj r hr1 hr2 => by
      have hnb := haft j (vops[j]'(by
        rcases Nat.lt_or_ge j ds.length with h' | h'
        · omega
        · simp [List.getElem?_eq_none h'] at hq')) (List.getElem?_eq_getElem _) hlj
      have hjl : j < ds.length := by
        rcases Nat.lt_or_ge j ds.length with h' | h'
        · exact h'
        · simp [List.getElem?_eq_none h'] at hq'
      exact (drawOk_spec hok hij (by omega) hnb (r := r)).1 (by rw [hwi]; exact hr1) (by rw [hws, hq']; exact hr2))
    have hM : (fun j => (listed.setIfInBounds i true).getD j false) = addM (fun j => listed.getD j false) i := by
      funext j
      unfold addM
      by_cases hj : j = i
      · subst hj
        rw [if_pos rfl, Array.getD_eq_getD_getElem?, Array.getElem?_setIfInBounds_self_of_lt (by omega)]
        rfl
      · rw [if_neg hj, Array.getD_eq_getD_getElem?, Array.getElem?_setIfInBounds_ne (by omega), ← Array.getD_eq_getD_getElem?]
    have hMj : ∀ j, (listed.setIfInBounds i true).getD j false = addM (fun j => listed.getD j false) i j := fun j => congrFun hM j
    have hcount : ∀ (l : List Bool) (k : Nat), l[k]? = some false → ((l.set k true).filter (fun b => !b)).length + 1 = (l.filter (fun b => !b)).length := by
      intro l
      induction l with
      | nil => intro k hk; simp at hk
      | cons b l ihl =>
        intro k hk
        cases k with
        | zero => simp at hk; subst hk; simp
        | succ k =>
          have := ihl k (by simpa using hk)
          cases b <;> simp <;> omega
    refine ih (listed.setIfInBounds i true) a' w' fr' pi' own' (by simpa using hsz) ?_ ?_ ?_ (by omega) ?_
    · have hb : listed.toList[i]? = some false := by
        rw [Array.getD_eq_getD_getElem?, Array.getElem?_eq_getElem (by omega)] at hil
        simp only [Option.getD_some] at hil
        rw [Array.getElem?_toList, Array.getElem?_eq_getElem (by omega), hil]
      have := hcount listed.toList i hb
      rw [Array.toList_setIfInBounds]
      omega
    · intro j o ho hj k hk
      rw [hMj] at hj ⊢
      unfold addM at hj ⊢
      by_cases hji : j = i
      · subst hji
        rw [hvo] at ho
        cases ho
        split
        · rfl
        · exact hdeps k hk
      · rw [if_neg hji] at hj
        split
        · rfl
        · exact hcl j o ho hj k hk
    · rw [hM, hins]
      exact e3
    · intro a2 w2 fr2 pi2 own2 g1 g2 g3 g4
      refine hQ a2 w2 fr2 pi2 own2 (g1.trans e1) g2 g3 (e4.trans g4 (fun k hk => ?_))
      rw [hM, hins]
      obtain ⟨ob, hob⟩ := hk
      unfold FS.has
      rw [app_box]
      cases d.b with
      | none => exact ⟨ob, hob⟩
      | some p =>
        simp only
        split
        · exact ⟨_, rfl⟩
        · exact ⟨ob, hob⟩

end Go.Proofs.YtmjdoonaidolkaaDoor.V

/- A small logic of values over the model: a region whose order is open, of which the later part goes in the text's order. -/
namespace Go.Proofs.YtmjdoonaidolkaaDoor.V

theorem count_set : ∀ (l : List Bool) (k : Nat), l[k]? = some false → ((l.set k true).filter (fun b => !b)).length + 1 = (l.filter (fun b => !b)).length := by
  intro l
  induction l with
  | nil => intro k hk; simp at hk
  | cons b l ihl =>
    intro k hk
    cases k with
    | zero => simp at hk; subst hk; simp
    | succ k =>
      have := ihl k (by simpa using hk)
      cases b <;> simp <;> omega

section
variable {P : Program} {ops : Array Oper} {vops : List VOper} (hres : ∀ (i : Nat) (o : Oper), ops[i]? = some o → ∃ vo, vops[i]? = some vo ∧ resOper P true ops o = some vo) (hlen : vops.length = ops.size)
include hres

theorem ready_iff : ∀ (listed : Array Bool), listed.size = ops.size → ∀ i, i ∈ Region.ready .any ops listed ↔ (i < ops.size ∧ listed.getD i false = false ∧ ∀ o, vops[i]? = some o → ∀ j, j ∈ o.deps → listed.getD j false = true) := by
  intro listed hsz i
  unfold Region.ready
  rw [List.mem_filter, List.mem_range]
  constructor
  · rintro ⟨hi, hc⟩
    simp only [Bool.and_eq_true, Bool.not_eq_true'] at hc
    refine ⟨hi, ?_, fun o ho j hj => ?_⟩
    · have := hc.1
      rw [Array.getD_eq_getD_getElem?, Array.getElem?_eq_getElem (by omega)] at this ⊢
      simpa using this
    · obtain ⟨vo, h1, h2⟩ := hres i ops[i] (Array.getElem?_eq_getElem hi)
      rw [ho] at h1
      cases h1
      have hdd := (resOper_inv h2).2.2.1 rfl
      rw [hdd] at hj
      unfold depsOf at hj
      obtain ⟨e, he, rfl⟩ := List.mem_map.1 hj
      obtain ⟨he1, he2⟩ := List.mem_filter.1 he
      have h3 := hc.2
      rw [Array.getElem?_eq_getElem hi] at h3
      simp only [Option.map_some, Option.getD_some] at h3
      rw [Array.all_eq_true_iff_forall_mem] at h3
      have := h3 e (by simpa using he1)
      simp only [he2, Bool.not_true, Bool.false_or] at this
      exact this
  · rintro ⟨hi, h1, h2⟩
    refine ⟨hi, ?_⟩
    simp only [Bool.and_eq_true, Bool.not_eq_true']
    refine ⟨?_, ?_⟩
    · rw [Array.getD_eq_getD_getElem?, Array.getElem?_eq_getElem (by omega)] at h1 ⊢
      simpa using h1
    · obtain ⟨vo, k1, k2⟩ := hres i ops[i] (Array.getElem?_eq_getElem hi)
      rw [Array.getElem?_eq_getElem hi]
      simp only [Option.map_some, Option.getD_some]
      rw [Array.all_eq_true_iff_forall_mem]
      intro e he
      cases hb : Region.binds .any e with
      | false => rfl
      | true =>
        simp only [Bool.not_true, Bool.false_or]
        refine h2 vo k1 e.on ?_
        rw [(resOper_inv k2).2.2.1 rfl]
        exact List.mem_map.2 ⟨e, List.mem_filter.2 ⟨by simpa using he, hb⟩, rfl⟩

theorem ready_done (hdep : depsOk vops = true) : ∀ (listed : Array Bool), listed.size = ops.size → Region.ready .any ops listed = [] → ∀ i, i < ops.size → listed.getD i false = true := by
  have hready := ready_iff hres
  have hdepj : ∀ (j : Nat) (o : VOper), vops[j]? = some o → ∀ i, i ∈ o.deps → i < j := by
    intro j o ho i hi
    have h := hdep
    unfold depsOk at h
    rw [List.all_eq_true] at h
    have hjl : j < vops.length := by
      rcases Nat.lt_or_ge j vops.length with h' | h'
      · exact h'
      · simp [List.getElem?_eq_none h'] at ho
    have := h j (List.mem_range.2 hjl)
    rw [List.all_eq_true] at this
    have e : vops.getD j default = o := by simp [List.getD_eq_getElem?_getD, ho]
    rw [e] at this
    simpa using this i hi
  intro listed hsz hnil i
  induction i using Nat.strongRecOn with
  | _ i ih =>
    intro hi
    cases hb : listed.getD i false with
    | true => rfl
    | false =>
      exfalso
      have : i ∈ Region.ready .any ops listed := (hready listed hsz i).2 ⟨hi, hb, fun o ho j hj => ih j (hdepj i o ho j hj) (by have := hdepj i o ho j hj; omega)⟩
      rw [hnil] at this
      simp at this

include hlen

/-- The later part: one behind the other. -/
theorem tail_sound {L : Nat → Bool} {N : Nat} (hdst : ∀ vo, vo ∈ vops → ∀ t, vo.dst = some t → t < N) (hdep : depsOk vops = true) (p : Nat) (hB : ∀ j, p ≤ j → j < vops.length → ∀ i, i < j → ((befores vops []).getD j 0).testBit i = true) {Q : Exit → Act → World → Prop} {l : List VOper} {S S' : St} (hs : VSeq P L l S S') :
    ∀ (q : Nat), p ≤ q → l = vops.drop q → q ≤ vops.length → S.t.length = N → ∀ (fuel : Nat) (listed : Array Bool) (a : Act) (w : World) (fr pi : Nat → Nat) (own : Res → List Nat), listed.size = ops.size → (∀ j, j < ops.size → listed.getD j false = decide (j < q)) → fuel = (listed.toList.filter (fun b => !b)).length →
      Rel w fr pi own S.fs a.tmps → a.tmps.size = N → (∀ a' w' fr' pi' own', a'.defers = a.defers → a'.tmps.size = N → Rel w' fr' pi' own' S'.fs a'.tmps → Ext w w' fr fr' pi pi' own own' S.fs.has → S'.t.length = N → S.h.length ≤ S'.h.length → Q .normal a' w') →
      wpAny P .any ops Q fuel listed a w := by
  have hready := ready_iff hres
  have hdone := ready_done hres hdep
  have head : ∀ {o : VOper} {os : List VOper} {k : Nat}, o :: os = vops.drop k → vops[k]? = some o ∧ os = vops.drop (k + 1) ∧ ∃ hkl : k < ops.size, resOper P true ops ops[k] = some o ∧ (ops[k]).dst = o.dst := by
    intro o os k hl
    have hk : vops[k]? = some o := by
      have : (vops.drop k)[0]? = some o := by rw [← hl]; rfl
      simpa using this
    have hos : os = vops.drop (k + 1) := by
      have : (vops.drop k).drop 1 = os := by rw [← hl]; rfl
      rw [← this, List.drop_drop]
    have hkl : k < ops.size := by
      rw [← hlen]
      rcases Nat.lt_or_ge k vops.length with h' | h'
      · exact h'
      · simp [List.getElem?_eq_none h'] at hk
    obtain ⟨vo, hvo, hrs⟩ := hres k ops[k] (Array.getElem?_eq_getElem hkl)
    rw [hk] at hvo
    cases hvo
    exact ⟨hk, hos, hkl, hrs, (resOper_inv hrs).1.symm⟩
  -- who is first is alone
  have only : ∀ (q : Nat) (listed : Array Bool), p ≤ q → q < ops.size → listed.size = ops.size → (∀ j, j < ops.size → listed.getD j false = decide (j < q)) → ∀ i, i ∈ Region.ready .any ops listed → i = q := by
    intro q listed hpq hq hsz hl i hi
    obtain ⟨h1, h2, h3⟩ := (hready listed hsz i).1 hi
    rw [hl i h1] at h2
    have hiq : ¬ i < q := by simpa using h2
    rcases Nat.lt_or_ge q i with h | h
    · exfalso
      have hvo : vops[i]? = some (vops[i]'(by omega)) := List.getElem?_eq_getElem _
      have hcl : ∀ j o, vops[j]? = some o → listed.getD j false = true → ∀ k, k ∈ o.deps → listed.getD k false = true := by
        intro j o ho hj k hk
        have hjl : j < ops.size := by
          rw [← hlen]
          rcases Nat.lt_or_ge j vops.length with h' | h'
          · exact h'
          · simp [List.getElem?_eq_none h'] at ho
        rw [hl j hjl] at hj
        have hjq : j < q := by simpa using hj
        have hd := hdep
        unfold depsOk at hd
        rw [List.all_eq_true] at hd
        have := hd j (List.mem_range.2 (by omega))
        rw [List.all_eq_true] at this
        have e : vops.getD j default = o := by simp [List.getD_eq_getElem?_getD, ho]
        rw [e] at this
        have hkj : k < j := by simpa using this k hk
        rw [hl k (by omega)]
        exact decide_eq_true (by omega)
      have := before_closed hdep hcl i _ hvo (.inr (h3 _ hvo)) q (hB i (by omega) (by omega) q h)
      rw [hl q hq] at this
      simp at this
    · omega
  have hset : ∀ (q : Nat) (listed : Array Bool), q < ops.size → listed.size = ops.size → (∀ j, j < ops.size → listed.getD j false = decide (j < q)) → ∀ j, j < ops.size → (listed.setIfInBounds q true).getD j false = decide (j < q + 1) := by
    intro q listed hq hsz hl j hj
    by_cases e : j = q
    · subst e
      rw [Array.getD_eq_getD_getElem?, Array.getElem?_setIfInBounds_self_of_lt (by omega)]
      simp
    · rw [Array.getD_eq_getD_getElem?, Array.getElem?_setIfInBounds_ne (by omega), ← Array.getD_eq_getD_getElem?, hl j hj]
      rw [decide_eq_decide]; omega
  have hfu : ∀ (q : Nat) (listed : Array Bool), q < ops.size → listed.size = ops.size → (∀ j, j < ops.size → listed.getD j false = decide (j < q)) → ((listed.setIfInBounds q true).toList.filter (fun b => !b)).length + 1 = (listed.toList.filter (fun b => !b)).length := by
    intro q listed hq hsz hl
    have hb : listed.toList[q]? = some false := by
      have := hl q hq
      rw [Array.getD_eq_getD_getElem?, Array.getElem?_eq_getElem (by omega)] at this
      simp only [Option.getD_some] at this
      rw [Array.getElem?_toList, Array.getElem?_eq_getElem (by omega), this]
      simp
    have := count_set listed.toList q hb
    rw [Array.toList_setIfInBounds]
    exact this
  induction hs with
  | nil S =>
    intro q hpq hl hq hN fuel listed a w fr pi own hsz hli hf hr hts hK
    have hqn : vops.length ≤ q := by
      have := congrArg List.length hl
      simp only [List.length_nil, List.length_drop] at this
      omega
    have hnil : Region.ready .any ops listed = [] := by
      apply List.eq_nil_iff_forall_not_mem.2
      intro i hi
      obtain ⟨h1, h2, _⟩ := (hready listed hsz i).1 hi
      rw [hli i h1] at h2
      have : ¬ i < q := by simpa using h2
      omega
    have fin : Q .normal a w := hK a w fr pi own rfl hts hr (Ext.refl _ _ _ _ _) hN (Nat.le_refl _)
    cases fuel with
    | zero => exact ⟨hnil, fin⟩
    | succ fuel => exact ⟨fun _ => fin, fun i hi => by rw [hnil] at hi; cases hi⟩
  | cons o os S d S' st hs ih =>
    intro q hpq hl hq hN fuel listed a w fr pi own hsz hli hf hr hts hK
    obtain ⟨hk, hos, hkl, hrs, hdo⟩ := head hl
    have hfq := hfu q listed hkl hsz hli
    cases fuel with
    | zero => omega
    | succ fuel =>
      refine ⟨fun hnil => by have := hdone listed hsz hnil q hkl; rw [hli q hkl] at this; simp at this, fun i hi => ?_⟩
      have := only q listed hpq hkl hsz hli i hi
      subst this
      have hd : ∀ t, (ops[i]).dst = some t → t < a.tmps.size := fun t ht => by rw [hts]; exact hdst o (List.mem_of_getElem? hk) t (by rw [← hdo]; exact ht)
      have hd2 : ∀ t, o.dst = some t → t < S.t.length := fun t ht => by rw [hN]; exact hdst o (List.mem_of_getElem? hk) t ht
      refine step_exec (Array.getElem?_eq_getElem hkl) hrs hr hd (fun _ => S.fresh) st fun a' w' fr' pi' own' e1 e2 e3 e4 => ?_
      rw [St.app_fs hd2 st.box_le] at e3
      refine ih (i + 1) (by omega) hos (by omega) (by rw [St.app_length]; exact hN) fuel (listed.setIfInBounds i true) a' w' fr' pi' own' (by simpa using hsz) (hset i listed hkl hsz hli) (by omega) e3 (by omega) fun a2 w2 fr2 pi2 own2 g1 g2 g3 g4 g5 g6 => ?_
      exact hK a2 w2 fr2 pi2 own2 (g1.trans e1) g2 g3 (e4.trans g4 (fun i hi => St.app_has i hi)) g5 (Nat.le_trans (boxL_length _ _) g6)
  | hcall o os S S' f args g ret h' c0 c1 c2 c3 c5 hs ih =>
    intro q hpq hl hq hN fuel listed a w fr pi own hsz hli hf hr hts hK
    obtain ⟨hk, hos, hkl, hrs, hdo⟩ := head hl
    have hfq := hfu q listed hkl hsz hli
    cases fuel with
    | zero => omega
    | succ fuel =>
      refine ⟨fun hnil => by have := hdone listed hsz hnil q hkl; rw [hli q hkl] at this; simp at this, fun i hi => ?_⟩
      have := only q listed hpq hkl hsz hli i hi
      subst this
      have hd : ∀ t, (ops[i]).dst = some t → t < a.tmps.size := fun t ht => by rw [hts]; exact hdst o (List.mem_of_getElem? hk) t (by rw [← hdo]; exact ht)
      have hd2 : ∀ t, o.dst = some t → t < S.t.length := fun t ht => by rw [hN]; exact hdst o (List.mem_of_getElem? hk) t ht
      refine step_hcall (Array.getElem?_eq_getElem hkl) hrs hr hd hd2 c0 c1 c2 c3 c5 fun a' w' fr' pi' own' e1 e2 e3 e4 => ?_
      refine ih (i + 1) (by omega) hos (by omega) (by simp only [putL_length, stripT_length]; exact hN) fuel (listed.setIfInBounds i true) a' w' fr' pi' own' (by simpa using hsz) (hset i listed hkl hsz hli) (by omega) e3 (by omega) fun a2 w2 fr2 pi2 own2 g1 g2 g3 g4 g5 g6 => ?_
      refine hK a2 w2 fr2 pi2 own2 (g1.trans e1) g2 g3 (e4.trans g4 (fun i hi => ?_)) g5 (Nat.le_trans c5.2.1 g6)
      rw [St.has_iff] at *
      exact Nat.lt_of_lt_of_le hi c5.2.1
  | shift os S S1 S' h1 h2 h3 hs ih =>
    intro q hpq hl hq hN fuel listed a w fr pi own hsz hli hf hr hts hK
    obtain ⟨fr1, pi1, own1, q1, q2⟩ := h3.2 w fr pi own a.tmps hr
    exact ih q hpq hl hq (by rw [h1]; exact hN) fuel listed a w fr1 pi1 own1 hsz hli hf q1 hts fun a2 w2 fr2 pi2 own2 g1 g2 g3 g4 g5 g6 => hK a2 w2 fr2 pi2 own2 g1 g2 g3 (q2.trans g4 h3.1) g5 (Nat.le_trans h2 g6)

/-- The first part: in any order. -/
theorem any_split {L : Nat → Bool} {N : Nat} (hdst : ∀ vo, vo ∈ vops → ∀ t, vo.dst = some t → t < N) (hdep : depsOk vops = true) (p : Nat) (hp : p ≤ vops.length) {S S1 : St} {ds : List (Option Nat × SD)} {rs : List (List Res)} (hrun : VRun P L (vops.take p) S ds rs S1) (hN : S.t.length = N)
    (hok : drawOk (befores vops []) (ds.map fun p => wrL p.1 p.2) rs = true) (hB : ∀ j, p ≤ j → j < vops.length → ∀ i, i < j → ((befores vops []).getD j 0).testBit i = true) {Q : Exit → Act → World → Prop} :
    ∀ (fuel : Nat) (listed : Array Bool) (a : Act) (w : World) (fr pi : Nat → Nat) (own : Res → List Nat), listed.size = ops.size → fuel = (listed.toList.filter (fun b => !b)).length →
      (∀ j o, vops[j]? = some o → listed.getD j false = true → ∀ i, i ∈ o.deps → listed.getD i false = true) → (∀ j, p ≤ j → listed.getD j false = false) →
      Rel w fr pi own (runF ds (fun j => listed.getD j false) 0 S.fs) a.tmps → a.tmps.size = N →
      (∀ (fuel' : Nat) (listed' : Array Bool) a' w' fr' pi' own', listed'.size = ops.size → (∀ j, j < ops.size → listed'.getD j false = decide (j < p)) → fuel' = (listed'.toList.filter (fun b => !b)).length → a'.defers = a.defers → a'.tmps.size = N → Rel w' fr' pi' own' S1.fs a'.tmps → Ext w w' fr fr' pi pi' own own' (runF ds (fun j => listed.getD j false) 0 S.fs).has → wpAny P .any ops Q fuel' listed' a' w') →
      wpAny P .any ops Q fuel listed a w := by
  obtain ⟨l1, l2, l3, l4, l5, l6⟩ := hrun.get (fun o ho t ht => by rw [hN]; exact hdst o (List.mem_of_mem_take ho) t ht)
  have l1 : ds.length = p := by rw [l1, List.length_take]; omega
  have hready := ready_iff hres
  have hdone := ready_done hres hdep
  have all : ∀ (fuel : Nat) (listed : Array Bool) (a : Act) (w : World) (fr pi : Nat → Nat) (own : Res → List Nat), listed.size = ops.size → fuel = (listed.toList.filter (fun b => !b)).length → (∀ j, p ≤ j → listed.getD j false = false) → (∀ j, j < p → listed.getD j false = true) →
      Rel w fr pi own (runF ds (fun j => listed.getD j false) 0 S.fs) a.tmps → a.tmps.size = N →
      (∀ (fuel' : Nat) (listed' : Array Bool) a' w' fr' pi' own', listed'.size = ops.size → (∀ j, j < ops.size → listed'.getD j false = decide (j < p)) → fuel' = (listed'.toList.filter (fun b => !b)).length → a'.defers = a.defers → a'.tmps.size = N → Rel w' fr' pi' own' S1.fs a'.tmps → Ext w w' fr fr' pi pi' own own' (runF ds (fun j => listed.getD j false) 0 S.fs).has → wpAny P .any ops Q fuel' listed' a' w') →
      wpAny P .any ops Q fuel listed a w := by
    intro fuel listed a w fr pi own hsz hf hno hall hr hts hK
    refine hK fuel listed a w fr pi own hsz (fun j hj => ?_) hf rfl hts ?_ (Ext.refl _ _ _ _ _)
    · rcases Nat.lt_or_ge j p with h | h
      · rw [hall j h, decide_eq_true h]
      · rw [hno j h, decide_eq_false (by omega)]
    · rw [l3]
      have : runF ds (fun j => listed.getD j false) 0 S.fs = runF ds (fun _ => true) 0 S.fs := runF_congr ds 0 S.fs (fun j hj => by
        rw [Nat.zero_add]
        exact hall j (by omega))
      rw [← this]
      exact hr
  intro fuel
  induction fuel with
  | zero =>
    intro listed a w fr pi own hsz hf hcl hno hr hts hK
    refine all 0 listed a w fr pi own hsz hf hno (fun i hi => ?_) hr hts hK
    have hb : listed[i]'(by omega) ∈ listed.toList := by simp
    rw [Array.getD_eq_getD_getElem?, Array.getElem?_eq_getElem (by omega)]
    simp only [Option.getD_some]
    cases hbb : listed[i]'(by omega) with
    | true => rfl
    | false =>
      exfalso
      have : false ∈ listed.toList.filter (fun b => !b) := List.mem_filter.2 ⟨by rw [← hbb]; exact hb, rfl⟩
      have hlen0 := List.eq_nil_of_length_eq_zero hf.symm
      rw [hlen0] at this
      simp at this
  | succ fuel ih =>
    intro listed a w fr pi own hsz hf hcl hno hr hts hQ
    by_cases hall : ∀ j, j < p → listed.getD j false = true
    · exact all (fuel + 1) listed a w fr pi own hsz hf hno hall hr hts hQ
    refine ⟨fun hnil => absurd (fun j hj => hdone listed hsz hnil j (by omega)) hall, fun i hi => ?_⟩
    obtain ⟨hio, hil, hid⟩ := (hready listed hsz i).1 hi
    obtain ⟨vo, hvo, hrs⟩ := hres i ops[i] (Array.getElem?_eq_getElem hio)
    have hip : i < p := by
      rcases Nat.lt_or_ge i p with h | h
      · exact h
      · exact absurd (fun j hj => before_closed hdep hcl i vo hvo (.inr (hid vo hvo)) j (hB i h (by omega) j (by omega))) hall
    obtain ⟨d, id, q1, q2, q3, q4⟩ := l6 i vo (by rw [List.getElem?_take_of_lt hip]; exact hvo)
    have hdeps := hid vo hvo
    -- those ahead are done, those that wait for it are not
    have hbef : ∀ j, ((befores vops []).getD i 0).testBit j = true → listed.getD j false = true := before_closed hdep hcl i vo hvo (.inr hdeps)
    have haft : ∀ (j : Nat) (oj : VOper), vops[j]? = some oj → listed.getD j false = true → ¬ ((befores vops []).getD j 0).testBit i = true := by
      intro j oj hj hlj hmem
      have := before_closed hdep hcl j oj hj (.inl hlj) i hmem
      rw [hil] at this
      cases this
    have hws : ∀ j, (ds.map fun p => wrL p.1 p.2).getD j [] = match ds[j]? with | some p => wrL p.1 p.2 | none => [] := by
      intro j
      rw [List.getD_eq_getElem?_getD, List.getElem?_map]
      cases ds[j]? <;> rfl
    have hri : rs.getD i [] = rdL vo (runF ds (fun j => decide (j < i)) 0 S.fs).sl id := by rw [List.getD_eq_getElem?_getD, q3]; rfl
    have hwi : (ds.map fun p => wrL p.1 p.2).getD i [] = wrL vo.dst d := by rw [hws, q1]
    have hdsl : (ds.map fun p => wrL p.1 p.2).length = p := by rw [List.length_map]; omega
    have hsame : ∀ r, r ∈ rdL vo (runF ds (fun j => decide (j < i)) 0 S.fs).sl id → (runF ds (fun j => decide (j < i)) 0 S.fs).same (runF ds (fun j => listed.getD j false) 0 S.fs) r := by
      intro r hr'
      refine runF_agree ds _ _ 0 _ _ (FS.same_refl _ _) (fun j p hp hrw => ?_)
      simp only [Nat.zero_add]
      have hjl : j < ds.length := by
        rcases Nat.lt_or_ge j ds.length with h' | h'
        · exact h'
        · simp [List.getElem?_eq_none h'] at hp
      have hwj : (ds.map fun p => wrL p.1 p.2).getD j [] = wrL p.1 p.2 := by rw [hws, hp]
      rcases Nat.lt_trichotomy j i with h | h | h
      · simp only [h, decide_true]
        refine (Classical.byContradiction fun hno => ?_ : listed.getD j false = true).symm
        have hnb : ¬ ((befores vops []).getD i 0).testBit j = true := fun hm => hno (hbef j hm)
        exact (drawOk_spec hok h (by omega) hnb (r := r)).2.1 (by rw [hwj]; exact hrw) (by rw [hri]; exact hr')
      · subst h
        simp [hil]
      · have hnd : ¬ j < i := by omega
        simp only [hnd, decide_false]
        cases hlj : listed.getD j false with
        | false => rfl
        | true =>
          exfalso
          have hnb := haft j _ (List.getElem?_eq_getElem (by omega)) hlj
          exact (drawOk_spec hok h (by omega) hnb (r := r)).2.2 (by rw [hri]; exact hr') (by rw [hwj]; exact hrw)
    have hstep := q2.congr hsame
    have hidd : vo.op.isAlloc = true → (runF ds (fun j => listed.getD j false) 0 S.fs).bx id = none := by
      intro hal
      have := hsame (.box id) (by unfold rdL; simp [hal])
      have h2 : (runF ds (fun j => decide (j < i)) 0 S.fs).bx id = (runF ds (fun j => listed.getD j false) 0 S.fs).bx id := this
      rw [← h2]; exact q4
    have hdo : (ops[i]).dst = vo.dst := (resOper_inv hrs).1.symm
    refine step_exec (Array.getElem?_eq_getElem hio) hrs hr (fun t ht => by rw [hts]; exact hdst vo (List.mem_of_getElem? hvo) t (by rw [← hdo]; exact ht)) hidd hstep fun a' w' fr' pi' own' e1 e2 e3 e4 => ?_
    have hins := runF_insert (zs := ds) (M := fun j => listed.getD j false) (p := i) (q := (vo.dst, d)) S.fs q1 hil (fun j q' hij hq' hlj r hr1 hr2 => by
      have hnb := haft j (vops[j]'(by
        rcases Nat.lt_or_ge j ds.length with h' | h'
        · omega
        · simp [List.getElem?_eq_none h'] at hq')) (List.getElem?_eq_getElem _) hlj
      have hjl : j < ds.length := by
        rcases Nat.lt_or_ge j ds.length with h' | h'
        · exact h'
        · simp [List.getElem?_eq_none h'] at hq'
      exact (drawOk_spec hok hij (by omega) hnb (r := r)).1 (by rw [hwi]; exact hr1) (by rw [hws, hq']; exact hr2))
    have hM : (fun j => (listed.setIfInBounds i true).getD j false) = addM (fun j => listed.getD j false) i := by
      funext j
      unfold addM
      by_cases hj : j = i
      · subst hj
        rw [if_pos rfl, Array.getD_eq_getD_getElem?, Array.getElem?_setIfInBounds_self_of_lt (by omega)]
        rfl
      · rw [if_neg hj, Array.getD_eq_getD_getElem?, Array.getElem?_setIfInBounds_ne (by omega), ← Array.getD_eq_getD_getElem?]
    have hMj : ∀ j, (listed.setIfInBounds i true).getD j false = addM (fun j => listed.getD j false) i j := fun j => congrFun hM j
    have hcount := count_set
    refine ih (listed.setIfInBounds i true) a' w' fr' pi' own' (by simpa using hsz) ?_ ?_ ?_ ?_ (by omega) ?_
    · have hb : listed.toList[i]? = some false := by
        rw [Array.getD_eq_getD_getElem?, Array.getElem?_eq_getElem (by omega)] at hil
        simp only [Option.getD_some] at hil
        rw [Array.getElem?_toList, Array.getElem?_eq_getElem (by omega), hil]
      have := hcount listed.toList i hb
      rw [Array.toList_setIfInBounds]
      omega
    · intro j o ho hj k hk
      rw [hMj] at hj ⊢
      unfold addM at hj ⊢
      by_cases hji : j = i
      · subst hji
        rw [hvo] at ho
        cases ho
        split
        · rfl
        · exact hdeps k hk
      · rw [if_neg hji] at hj
        split
        · rfl
        · exact hcl j o ho hj k hk
    · intro j hj
      rw [hMj]
      unfold addM
      rw [if_neg (by omega)]
      exact hno j hj
    · rw [hM, hins]
      exact e3
    · intro fuel2 listed2 a2 w2 fr2 pi2 own2 c1 c2 c3 g1 g2 g3 g4
      refine hQ fuel2 listed2 a2 w2 fr2 pi2 own2 c1 c2 c3 (g1.trans e1) g2 g3 (e4.trans g4 (fun k hk => ?_))
      rw [hM, hins]
      obtain ⟨ob, hob⟩ := hk
      unfold FS.has
      rw [app_box]
      cases d.b with
      | none => exact ⟨ob, hob⟩
      | some p =>
        simp only
        split
        · exact ⟨_, rfl⟩
        · exact ⟨ob, hob⟩
end

end Go.Proofs.YtmjdoonaidolkaaDoor.V

/- A small logic of values over the model, part 23: code: one behind the other, branches, blocks, loops. -/
namespace Go.Proofs.YtmjdoonaidolkaaDoor.V

inductive VC where
  | skip
  | reg (ops : List VOper)
  | dreg (ops : List VOper)
  | seq (a b : VC)
  | cond (x : VX) (t e : VC)
  | block (id : Nat) (c : VC)
  | loop (c : VC)
  | exit (id : Nat)
  | ret
  deriving Inhabited

def resOps (P : Program) (dr : Bool) (ops : Array Oper) : List Oper → Option (List VOper)
  | [] => some []
  | o :: r => (resOper P dr ops o).bind fun v => (resOps P dr ops r).map fun l => v :: l

def dstOk (N : Nat) (l : List VOper) : Bool := l.all fun o => match o.dst with | some d => decide (d < N) | none => true

def comp (P : Program) (N : Nat) : Code → Option VC
  | .skip => some .skip
  | .region _ ops false => (resOps P false ops ops.toList).bind fun l => if dstOk N l then some (.reg l) else none
  | .region _ ops true => if P.follows .mixedOrders then (resOps P true ops ops.toList).bind fun l => if dstOk N l && depsOk l then some (.dreg l) else none else none
  | .seq a b => (comp P N a).bind fun x => (comp P N b).map fun y => .seq x y
  | .cond c a b => (resX c).bind fun z => (comp P N a).bind fun x => (comp P N b).map fun y => .cond z x y
  | .block id c => (comp P N c).map (.block id)
  | .loop c => (comp P N c).map .loop
  | .exit id => some (.exit id)
  | .ret => some .ret
  | _ => none

inductive VE where
  | normal
  | exit (id : Nat)
  | ret
  deriving DecidableEq

def VE.out : VE → Exit
  | .normal => .normal
  | .exit id => .exit id
  | .ret => .ret

/-- How a run ends: in a state that the world holds, nothing else having turned. -/
def VQ (N : Nat) (Q : VE → St → Prop) (h0 : Nat) (w : World) (fr pi : Nat → Nat) (own : Res → List Nat) (e : Exit) (a' : Act) (w' : World) : Prop :=
  ∃ x S' fr' pi' own', e = VE.out x ∧ Q x S' ∧ S'.t.length = N ∧ h0 ≤ S'.h.length ∧ Rel w' fr' pi' own' (St.fs S') a'.tmps ∧ a'.tmps.size = N ∧ a'.defers = [] ∧ Ext w w' fr fr' pi pi' own own' (fun i => i < h0)

/-- From the state S the code comes to Q; the first h0 boxes stay. -/
def Vwp (P : Program) (_L : Nat → Bool) (N h0 : Nat) (c : VC) (Q : VE → St → Prop) (S : St) : Prop :=
  S.t.length = N → h0 ≤ S.h.length → ∀ c0, comp P N c0 = some c → ∀ (a : Act) (w : World) (fr pi : Nat → Nat) (own : Res → List Nat), Rel w fr pi own S.fs a.tmps → a.tmps.size = N → a.defers = [] →
    c0.wp P (VQ N Q h0 w fr pi own) a w

theorem VQ.mono {N : Nat} {Q Q' : VE → St → Prop} {h0 : Nat} {w : World} {fr pi : Nat → Nat} {own : Res → List Nat} {e : Exit} {a' : Act} {w' : World} (h : VQ N Q h0 w fr pi own e a' w') (hq : ∀ x S, Q x S → Q' x S) : VQ N Q' h0 w fr pi own e a' w' := by
  obtain ⟨x, S', fr', pi', own', h1, h2, h3⟩ := h
  exact ⟨x, S', fr', pi', own', h1, hq _ _ h2, h3⟩

theorem Vwp.mono {P : Program} {L : Nat → Bool} {N h0 : Nat} {c : VC} {Q Q' : VE → St → Prop} {S : St} (h : Vwp P L N h0 c Q S) (hq : ∀ x S, Q x S → Q' x S) : Vwp P L N h0 c Q' S := by
  intro hN hk c0 hc a w fr pi own hr hs hd
  exact wp_mono (h hN hk c0 hc a w fr pi own hr hs hd) fun e a w hh => hh.mono hq

/-- A run that goes on where another one has come to. -/
theorem VQ.trans {N : Nat} {Q : VE → St → Prop} {h0 : Nat} {w w1 : World} {fr pi fr1 pi1 : Nat → Nat} {own own1 : Res → List Nat} (he : Ext w w1 fr fr1 pi pi1 own own1 (fun i => i < h0)) {e : Exit} {a' : Act} {w' : World}
    (h : VQ N Q h0 w1 fr1 pi1 own1 e a' w') : VQ N Q h0 w fr pi own e a' w' := by
  obtain ⟨x, S', fr', pi', own', k1, k2, k3, k4, k5, k6, k7, k8⟩ := h
  exact ⟨x, S', fr', pi', own', k1, k2, k3, k4, k5, k6, k7, he.trans k8 (fun i hi => hi)⟩

section
variable {P : Program} {L : Nat → Bool} {N h0 : Nat} {Q : VE → St → Prop} {S : St}

theorem comp_skip {c0 : Code} (h : comp P N c0 = some .skip) : c0 = .skip := by
  unfold comp at h
  split at h <;> simp_all [Option.bind_eq_some_iff]
theorem comp_ret {c0 : Code} (h : comp P N c0 = some .ret) : c0 = .ret := by
  unfold comp at h
  split at h <;> simp_all [Option.bind_eq_some_iff]
theorem comp_exit {c0 : Code} {id : Nat} (h : comp P N c0 = some (.exit id)) : c0 = .exit id := by
  unfold comp at h
  split at h <;> simp_all [Option.bind_eq_some_iff]
theorem comp_seq {c0 : Code} {a b : VC} (h : comp P N c0 = some (.seq a b)) : ∃ x y, c0 = .seq x y ∧ comp P N x = some a ∧ comp P N y = some b := by
  unfold comp at h
  split at h <;> simp_all [Option.bind_eq_some_iff]
  exact ⟨_, _, ⟨rfl, rfl⟩, h⟩
theorem comp_cond {c0 : Code} {z : VX} {a b : VC} (h : comp P N c0 = some (.cond z a b)) : ∃ q x y, c0 = .cond q x y ∧ resX q = some z ∧ comp P N x = some a ∧ comp P N y = some b := by
  unfold comp at h
  split at h <;> simp_all [Option.bind_eq_some_iff]
  obtain ⟨z', h1, x', h2, y', h3, rfl, rfl, rfl⟩ := h
  exact ⟨_, _, _, ⟨rfl, rfl, rfl⟩, h1, h2, h3⟩
theorem comp_block {c0 : Code} {id : Nat} {a : VC} (h : comp P N c0 = some (.block id a)) : ∃ x, c0 = .block id x ∧ comp P N x = some a := by
  unfold comp at h
  split at h <;> simp_all [Option.bind_eq_some_iff]
theorem comp_loop {c0 : Code} {a : VC} (h : comp P N c0 = some (.loop a)) : ∃ x, c0 = .loop x ∧ comp P N x = some a := by
  unfold comp at h
  split at h <;> simp_all [Option.bind_eq_some_iff]
theorem comp_reg {c0 : Code} {l : List VOper} (h : comp P N c0 = some (.reg l)) : ∃ id ops, c0 = .region id ops false ∧ resOps P false ops ops.toList = some l ∧ dstOk N l = true := by
  unfold comp at h
  split at h <;> simp_all [Option.bind_eq_some_iff]
  exact ⟨_, _, ⟨rfl, rfl⟩, h.1⟩
theorem comp_dreg {c0 : Code} {l : List VOper} (h : comp P N c0 = some (.dreg l)) : ∃ id ops, c0 = .region id ops true ∧ resOps P true ops ops.toList = some l ∧ dstOk N l = true ∧ depsOk l = true ∧ P.follows .mixedOrders = true := by
  unfold comp at h
  split at h <;> simp_all [Option.bind_eq_some_iff]
  exact ⟨_, _, ⟨rfl, rfl⟩, h.2.1⟩

theorem Vwp.skip (h : Q .normal S) : Vwp P L N h0 .skip Q S := by
  intro hN hk c0 hc a w fr pi own hr hs hd
  cases comp_skip hc
  exact wp_skip ⟨.normal, S, fr, pi, own, rfl, h, hN, hk, hr, hs, hd, Ext.refl _ _ _ _ _⟩

theorem Vwp.ret (h : Q .ret S) : Vwp P L N h0 .ret Q S := by
  intro hN hk c0 hc a w fr pi own hr hs hd
  cases comp_ret hc
  exact wp_ret ⟨.ret, S, fr, pi, own, rfl, h, hN, hk, hr, hs, hd, Ext.refl _ _ _ _ _⟩

theorem Vwp.exit {id : Nat} (h : Q (.exit id) S) : Vwp P L N h0 (.exit id) Q S := by
  intro hN hk c0 hc a w fr pi own hr hs hd
  cases comp_exit hc
  exact wp_exit ⟨.exit id, S, fr, pi, own, rfl, h, hN, hk, hr, hs, hd, Ext.refl _ _ _ _ _⟩

/-- What stands behind: only if one comes to its end. -/
def thenQ (k : St → Prop) (Q : VE → St → Prop) : VE → St → Prop
  | .normal, S => k S
  | x, S => Q x S

theorem Vwp.seq {x y : VC} (h : Vwp P L N h0 x (thenQ (Vwp P L N h0 y Q) Q) S) : Vwp P L N h0 (.seq x y) Q S := by
  intro hN hk c0 hc a w fr pi own hr hs hd
  obtain ⟨cx, cy, rfl, hx, hy⟩ := comp_seq hc
  refine wp_seq (wp_mono (h hN hk cx hx a w fr pi own hr hs hd) fun e a1 w1 hh => ?_)
  obtain ⟨ex, S1, fr1, pi1, own1, rfl, k2, k3, k4, k5, k6, k7, k8⟩ := hh
  cases ex with
  | normal => exact wp_mono (k2 k3 k4 cy hy a1 w1 fr1 pi1 own1 k5 k6 k7) fun e a2 w2 hh => hh.trans k8
  | exit id => exact ⟨.exit id, S1, fr1, pi1, own1, rfl, k2, k3, k4, k5, k6, k7, k8⟩
  | ret => exact ⟨.ret, S1, fr1, pi1, own1, rfl, k2, k3, k4, k5, k6, k7, k8⟩

theorem Vwp.cond {z : VX} {x y : VC} {b : Bool} (hz : rdX S.fs.sl z = .bool b) (ht : b = true → Vwp P L N h0 x Q S) (hf : b = false → Vwp P L N h0 y Q S) : Vwp P L N h0 (.cond z x y) Q S := by
  intro hN hk c0 hc a w fr pi own hr hs hd
  obtain ⟨q, cx, cy, rfl, hq, hx, hy⟩ := comp_cond hc
  obtain ⟨O, h1, _⟩ := opnd hr hq
  rw [hz] at h1
  refine wp_cond_split h1.bool_inv (fun e => ht e hN hk cx hx a w fr pi own hr hs hd) (fun e => hf e hN hk cy hy a w fr pi own hr hs hd)

def blockQ (id : Nat) (Q : VE → St → Prop) : VE → St → Prop
  | .exit i, S => if i = id then Q .normal S else Q (.exit i) S
  | x, S => Q x S

theorem Vwp.block {id : Nat} {x : VC} (h : Vwp P L N h0 x (blockQ id Q) S) : Vwp P L N h0 (.block id x) Q S := by
  intro hN hk c0 hc a w fr pi own hr hs hd
  obtain ⟨cx, rfl, hx⟩ := comp_block hc
  refine wp_block (wp_mono (h hN hk cx hx a w fr pi own hr hs hd) fun e a1 w1 hh => ?_)
  obtain ⟨ex, S1, fr1, pi1, own1, rfl, k2, k3, k4, k5, k6, k7, k8⟩ := hh
  cases ex with
  | normal => exact ⟨.normal, S1, fr1, pi1, own1, rfl, k2, k3, k4, k5, k6, k7, k8⟩
  | ret => exact ⟨.ret, S1, fr1, pi1, own1, rfl, k2, k3, k4, k5, k6, k7, k8⟩
  | exit i =>
    simp only [VE.out, Exit.inBlock]
    simp only [blockQ] at k2
    split
    · rename_i hi
      rw [if_pos hi] at k2
      exact ⟨.normal, S1, fr1, pi1, own1, rfl, k2, k3, k4, k5, k6, k7, k8⟩
    · rename_i hi
      rw [if_neg hi] at k2
      exact ⟨.exit i, S1, fr1, pi1, own1, rfl, k2, k3, k4, k5, k6, k7, k8⟩

/-- A loop, where its body begins once more. -/
def LoopAt (P : Program) (c : Code) (Q : Exit → Act → World → Prop) (a : Act) (w : World) : Prop :=
  ∀ (b : Frame) (k : List Item) (cs : List Frame), ∃ e a' w', Q e a' w' ∧ Arrives P (lone (b.at a (.code c :: .inLoop c :: k)) cs w) b k cs e a' w'

theorem LoopAt.wp {c : Code} {Q : Exit → Act → World → Prop} {a : Act} {w : World} (h : LoopAt P c Q a w) : (Code.loop c).wp P Q a w := by
  intro b k cs
  obtain ⟨e, a', w', hq, harr⟩ := h b k cs
  exact ⟨e, a', w', hq, .of_steps (.one step_loop) harr⟩

theorem LoopAt.unfold {c : Code} {Q : Exit → Act → World → Prop} {a : Act} {w : World} (h : c.wp P (Exit.then (LoopAt P c Q) Q) a w) : LoopAt P c Q a w := by
  intro b k cs
  obtain ⟨e, a₁, w₁, hq, harr⟩ := h b (.inLoop c :: k) cs
  cases e with
  | normal =>
    obtain ⟨e₂, a₂, w₂, hq₂, harr₂⟩ := hq b k cs
    exact ⟨e₂, a₂, w₂, hq₂, .of_steps (Steps.trans harr (.one step_inLoop)) harr₂⟩
  | exit id => exact ⟨_, a₁, w₁, hq, .pass (x := .inLoop c) rfl (fun _ _ => .inl (by simp)) harr⟩
  | goto l => exact ⟨_, a₁, w₁, hq, .pass (x := .inLoop c) rfl (fun _ _ => .inl (by simp)) harr⟩
  | ret => exact ⟨_, a₁, w₁, hq, .pass (x := .inLoop c) rfl (fun _ _ => .inl (by simp)) harr⟩
  | panic ch => exact ⟨_, a₁, w₁, hq, .pass (x := .inLoop c) rfl (fun _ _ => .inl (by simp)) harr⟩
  | outgrown => exact ⟨_, a₁, w₁, hq, .pass (x := .inLoop c) rfl (fun _ _ => .inl (by simp)) harr⟩

/-- From the state S the loop over c comes to Q. -/
def Vloop (P : Program) (_L : Nat → Bool) (N h0 : Nat) (c : VC) (Q : VE → St → Prop) (S : St) : Prop :=
  S.t.length = N → h0 ≤ S.h.length → ∀ c0, comp P N c0 = some c → ∀ (a : Act) (w : World) (fr pi : Nat → Nat) (own : Res → List Nat), Rel w fr pi own S.fs a.tmps → a.tmps.size = N → a.defers = [] →
    LoopAt P c0 (VQ N Q h0 w fr pi own) a w

theorem LoopAt.mono {c : Code} {Q Q' : Exit → Act → World → Prop} {a : Act} {w : World} (h : LoopAt P c Q a w) (hq : ∀ e a w, Q e a w → Q' e a w) : LoopAt P c Q' a w := by
  intro b k cs
  obtain ⟨e, a', w', h1, h2⟩ := h b k cs
  exact ⟨e, a', w', hq _ _ _ h1, h2⟩

theorem Vwp.loop {c : VC} (h : Vloop P L N h0 c Q S) : Vwp P L N h0 (.loop c) Q S := by
  intro hN hk c0 hc a w fr pi own hr hs hd
  obtain ⟨cx, rfl, hx⟩ := comp_loop hc
  exact (h hN hk cx hx a w fr pi own hr hs hd).wp

theorem Vloop.round {c : VC} (h : Vwp P L N h0 c (thenQ (Vloop P L N h0 c Q) Q) S) : Vloop P L N h0 c Q S := by
  intro hN hk c0 hc a w fr pi own hr hs hd
  refine LoopAt.unfold (wp_mono (h hN hk c0 hc a w fr pi own hr hs hd) fun e a1 w1 hh => ?_)
  obtain ⟨ex, S1, fr1, pi1, own1, rfl, k2, k3, k4, k5, k6, k7, k8⟩ := hh
  cases ex with
  | normal => exact (k2 k3 k4 c0 hc a1 w1 fr1 pi1 own1 k5 k6 k7).mono fun e a2 w2 hh => hh.trans k8
  | exit id => exact ⟨.exit id, S1, fr1, pi1, own1, rfl, k2, k3, k4, k5, k6, k7, k8⟩
  | ret => exact ⟨.ret, S1, fr1, pi1, own1, rfl, k2, k3, k4, k5, k6, k7, k8⟩

theorem resOps_get {dr : Bool} {ops : Array Oper} : ∀ {l : List Oper} {vs : List VOper}, resOps P dr ops l = some vs → vs.length = l.length ∧ ∀ (i : Nat) (o : Oper), l[i]? = some o → ∃ vo, vs[i]? = some vo ∧ resOper P dr ops o = some vo
  | [], vs, h => by
    simp [resOps] at h
    subst h
    simp
  | o :: r, vs, h => by
    simp only [resOps, Option.bind_eq_some_iff, Option.map_eq_some_iff] at h
    obtain ⟨v, h1, l', h2, rfl⟩ := h
    obtain ⟨k1, k2⟩ := resOps_get h2
    refine ⟨by simp [k1], fun i o' ho => ?_⟩
    cases i with
    | zero => simp at ho; subst ho; exact ⟨v, rfl, h1⟩
    | succ i => exact k2 i o' (by simpa using ho)

theorem dstOk_spec {l : List VOper} (h : dstOk N l = true) : ∀ vo, vo ∈ l → ∀ t, vo.dst = some t → t < N := by
  intro vo hv t ht
  unfold dstOk at h
  rw [List.all_eq_true] at h
  have := h vo hv
  rw [ht] at this
  simpa using this

theorem Vwp.reg {l : List VOper} {S' : St} (hs : VSeq P L l S S') (h : Q .normal S') : Vwp P L N h0 (.reg l) Q S := by
  intro hN hk c0 hc a w fr pi own hr hsz hd
  obtain ⟨id, ops, rfl, h1, h2⟩ := comp_reg hc
  obtain ⟨k1, k2⟩ := resOps_get h1
  refine wp_region ?_
  have hlen : l.length = ops.size := by simpa using k1
  have := seq_sound (P := P) (L := L) (ops := ops) (vops := l) (fun i o ho => k2 i o (by simpa using ho)) hlen (N := N) (dstOk_spec h2) (Q := VQ N Q h0 w fr pi own) hs 0 rfl hN a w fr pi own hr hsz
    (fun a' w' fr' pi' own' e1 e2 e3 e4 e5 e6 => ⟨.normal, S', fr', pi', own', rfl, h, e5, Nat.le_trans hk e6, e3, e2, e1.trans hd, e4.step, e4.fresh, fun i hi => e4.pi i ((St.has_iff S i).2 (Nat.lt_of_lt_of_le hi hk))⟩)
  rw [← List.range_eq_range', hlen] at this
  exact this

theorem Vwp.dreg {l : List VOper} {S' : St} {ds : List (Option Nat × SD)} {rs : List (List Res)} (hs : VRun P L l S ds rs S') (hok : drawOk (befores l []) (ds.map fun p => wrL p.1 p.2) rs = true) (h : Q .normal S') : Vwp P L N h0 (.dreg l) Q S := by
  intro hN hk c0 hc a w fr pi own hr hsz hd
  obtain ⟨id, ops, rfl, h1, h2, h3, h4⟩ := comp_dreg hc
  obtain ⟨k1, k2⟩ := resOps_get h1
  refine wp_region_any h4 ?_
  have hlen : l.length = ops.size := by simpa using k1
  have hget := hs.get (fun o ho t ht => by rw [hN]; exact dstOk_spec h2 o ho t ht)
  have hfalse : ∀ j, (Array.replicate ops.size false).getD j false = false := by
    intro j
    rw [Array.getD_eq_getD_getElem?]
    by_cases hj : j < ops.size
    · simp [hj]
    · rw [Array.getElem?_eq_none (by simpa using Nat.le_of_not_lt hj)]; rfl
  have hz0 : runF ds (fun j => (Array.replicate ops.size false).getD j false) 0 S.fs = S.fs := runF_none _ _ _ _ (fun j _ => hfalse j)
  have st0 : Step w w.drew fr fr (fun _ => False) := Step.drew w fr
  have hr0 : Rel w.drew fr pi own S.fs a.tmps := hr.step st0 (fun _ _ _ h => h)
  refine any_sound (fun i o ho => k2 i o (by simpa using ho)) hlen (N := N) (dstOk_spec h2) h3 hs hN hok ops.size (Array.replicate ops.size false) a _ fr pi own (by simp) (by simp) (fun j o ho hj => by rw [hfalse] at hj; cases hj)
    (by rw [hz0]; exact hr0) hsz (fun a' w' fr' pi' own' e1 e2 e3 e4 => ?_)
  rw [hz0] at e4
  refine ⟨.normal, S', fr', pi', own', rfl, h, by rw [hget.2.2.2.1]; exact hN, Nat.le_trans hk hget.2.2.2.2.1, e3, e2, e1.trans hd, ?_⟩
  have e5 : Ext w w.drew fr fr pi pi own own S.fs.has := ⟨st0.mono (fun _ _ h => h.elim), fun r b hb => .inl ⟨r, hb⟩, fun _ _ => rfl⟩
  have e6 := e5.trans e4 (fun i hi => hi)
  exact ⟨e6.step, e6.fresh, fun i hi => e6.pi i ((St.has_iff S i).2 (Nat.lt_of_lt_of_le hi hk))⟩

end
end Go.Proofs.YtmjdoonaidolkaaDoor.V

/- A small logic of values over the model, part 24: functions: from a body to a contract. -/
namespace Go.Proofs.YtmjdoonaidolkaaDoor.V

/-- A result: out of a slot, or out of a box that a slot points to. -/
inductive RV where
  | tmp (t : Nat)
  | cell (a : Nat) (g : Option Nat)
  deriving Inhabited

def resRV (P : Program) : List ResultVar → Option (List RV)
  | [] => some []
  | .tmp t :: r => (resRV P r).map fun l => .tmp t :: l
  | .cell a ty :: r => (aggOf P ty).bind fun g => (resRV P r).map fun l => .cell a g :: l

def rvAV (S : St) : RV → Option AV
  | .tmp t => some (S.t.getD t .undef)
  | .cell a g => match S.t.getD a .undef with
    | .ptr (some (i, off)) => match S.h[i]? with
      | some (.cells cs) => ldCells cs off g
      | _ => none
    | _ => none

def rvAVs (S : St) : List RV → Option (List AV)
  | [] => some []
  | r :: l => (rvAV S r).bind fun a => (rvAVs S l).map fun as => a :: as

def rvTmps : List RV → List Nat
  | [] => []
  | .tmp t :: l => t :: rvTmps l
  | .cell _ _ :: l => rvTmps l

/-- What a call's end is worth. -/
def retAV (l : List AV) : AV :=
  match l with
  | [a] => a
  | l => .tup l

theorem run_result {P : Program} {w : World} {fr pi : Nat → Nat} {own : Res → List Nat} {S : St} {tm : Array Value} (h : Rel w fr pi own S.fs tm) {rv : ResultVar} {r : RV} (hr : resRV P [rv] = some [r]) {x : AV} (hx : rvAV S r = some x) :
    ∃ v, ((match rv with
      | .tmp t => pure (tm.getD t Go.undef)
      | .cell a t => do loadVar t (← asAddr (tm.getD a Go.undef)) : Sem Value)).run P w = .ok v w ∧ Rep w fr pi x v (match r with | .tmp t => own (.slot t) | .cell _ _ => []) ∧ NP S.fs.has x := by
  cases rv with
  | tmp t =>
    simp [resRV] at hr
    subst hr
    simp only [rvAV] at hx
    cases hx
    exact ⟨_, rfl, h.slot t, h.slotnp t⟩
  | cell a ty =>
    simp only [resRV, Option.map_some, Option.bind_eq_some_iff] at hr
    obtain ⟨g, hg, e⟩ := hr
    cases e
    simp only [rvAV] at hx
    split at hx <;> try (cases hx; done)
    rename_i i off hp
    split at hx <;> try (cases hx; done)
    rename_i cs hb
    have hb' : S.fs.bx i = some (.cells cs) := hb
    have h1 : Rep w fr pi (S.fs.sl a) (tm.getD a Go.undef) (own (.slot a)) := h.slot a
    have e : S.fs.sl a = .ptr (some (i, off)) := hp
    rw [e] at h1
    obtain ⟨hv, _⟩ := h1.ptr_inv
    obtain ⟨vs, O', e', r1, r2, r3⟩ := boxcell h hb'
    obtain ⟨v, g1, g2, g3⟩ := ld_rep r1 (h.boxnp i _ hb') hx hg r3
    simp only [Nat.zero_add] at g1
    refine ⟨v, ?_, g2, g3⟩
    simp [hv, asAddr, g1]

theorem run_results {P : Program} {w : World} {fr pi : Nat → Nat} {own : Res → List Nat} {S : St} {tm : Array Value} (h : Rel w fr pi own S.fs tm) : ∀ {rvs : List ResultVar} {rs : List RV} {xs : List AV}, resRV P rvs = some rs → rvAVs S rs = some xs → (rvTmps rs).Nodup →
    ∃ vs O, (rvs.mapM fun (rv : ResultVar) => (match rv with
      | .tmp t => pure (tm.getD t Go.undef)
      | .cell a t => do loadVar t (← asAddr (tm.getD a Go.undef)) : Sem Value)).run P w = .ok vs w ∧ Reps w fr pi xs vs O ∧ (∀ x, x ∈ xs → NP S.fs.has x) ∧ O.Nodup ∧ ∀ b, b ∈ O → ∃ t, t ∈ rvTmps rs ∧ b ∈ own (.slot t)
  | [], rs, xs, hr, hx, _ => by
    simp [resRV] at hr
    subst hr
    simp [rvAVs] at hx
    subst hx
    exact ⟨[], [], by simp, .nil, by simp, by simp, by simp⟩
  | rv :: rvs, rs, xs, hr, hx, hn => by
    have hsplit : ∃ r l, rs = r :: l ∧ resRV P [rv] = some [r] ∧ resRV P rvs = some l := by
      cases rv with
      | tmp t =>
        simp only [resRV, Option.map_eq_some_iff] at hr
        obtain ⟨l, h1, rfl⟩ := hr
        exact ⟨_, l, rfl, by simp [resRV], h1⟩
      | cell a ty =>
        simp only [resRV, Option.bind_eq_some_iff, Option.map_eq_some_iff] at hr
        obtain ⟨g, hg, l, h1, rfl⟩ := hr
        exact ⟨_, l, rfl, by simp [resRV, hg], h1⟩
    obtain ⟨r, l, rfl, h1, h2⟩ := hsplit
    simp only [rvAVs, Option.bind_eq_some_iff, Option.map_eq_some_iff] at hx
    obtain ⟨x, hx1, xs', hx2, rfl⟩ := hx
    have hn' : (rvTmps l).Nodup := by
      cases r with
      | tmp t => simp only [rvTmps, List.nodup_cons] at hn; exact hn.2
      | cell a g => exact hn
    obtain ⟨v, k1, k2, k3⟩ := run_result h h1 hx1
    obtain ⟨vs, O, q1, q2, q3, q4, q5⟩ := run_results h h2 hx2 hn'
    refine ⟨v :: vs, _, ?_, .cons _ _ _ _ _ _ k2 q2, fun y hy => ?_, ?_, fun b hb => ?_⟩
    · simp only [List.mapM_cons, Sem.run_bind, k1, Result.andThen_ok, q1, Sem.run_pure]
    · rcases List.mem_cons.1 hy with rfl | hy
      · exact k3
      · exact q3 y hy
    · cases r with
      | tmp t =>
        simp only [rvTmps, List.nodup_cons] at hn
        rw [List.nodup_append]
        refine ⟨h.nd _, q4, fun b hb c hc e => ?_⟩
        subst e
        obtain ⟨t', ht', hb'⟩ := q5 b hc
        have := h.dj _ _ b hb hb'
        cases this
        exact hn.1 ht'
      | cell a g => simpa using q4
    · rcases List.mem_append.1 hb with hb | hb
      · cases r with
        | tmp t => exact ⟨t, by simp [rvTmps], hb⟩
        | cell a g => simp at hb
      · obtain ⟨t', ht', hb'⟩ := q5 b hb
        refine ⟨t', ?_, hb'⟩
        cases r with
        | tmp t => simp [rvTmps, ht']
        | cell a g => exact ht'

theorem run_resultsOf {P : Program} {w : World} {fr pi : Nat → Nat} {own : Res → List Nat} {S : St} {tm : Array Value} (h : Rel w fr pi own S.fs tm) {fn : Func} {rs : List RV} {xs : List AV} (hr : resRV P fn.results.toList = some rs) (hx : rvAVs S rs = some xs) (hn : (rvTmps rs).Nodup) :
    ∃ v O, (results fn tm).run P w = .ok v w ∧ Rep w fr pi (retAV xs) v O ∧ NP S.fs.has (retAV xs) ∧ O.Nodup ∧ ∀ b, b ∈ O → ∃ t, b ∈ own (.slot t) := by
  obtain ⟨vs, O, k1, k2, k3, k4, k5⟩ := run_results h hr hx hn
  have hm : (fn.results.mapM fun (rv : ResultVar) => (match rv with
      | .tmp t => pure (tm.getD t Go.undef)
      | .cell a t => do loadVar t (← asAddr (tm.getD a Go.undef)) : Sem Value)).run P w = .ok vs.toArray w := by
    rw [Array.mapM_eq_mapM_toList]
    simp only [Sem.run_map, k1, Result.andThen_ok]
  have hrun : (results fn tm).run P w = .ok (if h : vs.toArray.size = 1 then vs.toArray[0] else .tuple vs.toArray) w := by
    unfold results
    rw [Sem.run_bind]
    exact (congrArg (fun q => Result.andThen q fun (a : Array Value) w' => Sem.run P (pure (if h : a.size = 1 then a[0] else Value.tuple a)) w') hm).trans rfl
  have hown : ∀ b, b ∈ O → ∃ t, b ∈ own (.slot t) := fun b hb => by obtain ⟨t, _, h⟩ := k5 b hb; exact ⟨t, h⟩
  clear hm k1 hx
  match xs, vs, k2, k3, hrun with
  | [x], [v], k2, k3, hrun =>
    obtain ⟨v', vs', O1, O2, e1, e2, e3, e4⟩ := k2.cons_inv
    cases e1
    cases e4
    refine ⟨v, O, by rw [hrun]; simp, by rw [e2]; simpa [retAV] using e3, k3 x (by simp), k4, hown⟩
  | [], [], k2, k3, hrun => exact ⟨_, O, hrun, by simpa [retAV] using Rep.tup _ _ _ k2, .tup _ k3, k4, hown⟩
  | x :: y :: xs, u :: v :: vs, k2, k3, hrun => exact ⟨_, O, hrun, by simpa [retAV] using Rep.tup _ _ _ k2, .tup _ k3, k4, hown⟩
  | [x], [], k2, _, _ => have := k2.length; simp at this
  | [x], _ :: _ :: _, k2, _, _ => have := k2.length; simp at this
  | [], _ :: _, k2, _, _ => have := k2.length; simp at this
  | _ :: _ :: _, [], k2, _, _ => have := k2.length; simp at this
  | _ :: _ :: _, [_], k2, _, _ => have := k2.length; simp at this

/-- What must be so of the end: its results, and the boxes that stay; the others are let go. -/
structure Ends (rs : List RV) (h : List HObj) (ret : AV) (h' : List HObj) (S' : St) : Prop where
  res : ∃ xs, rvAVs S' rs = some xs ∧ ret = retAV xs
  pre : ∃ ex, S'.h = h' ++ ex
  len : h.length ≤ h'.length
  np : NP (fun i => i < h'.length) ret
  npo : ∀ (i : Nat) (o : HObj), h'[i]? = some o → h[i]? = some o ∨ NPo (fun i => i < h'.length) o

def endsQ (rs : List RV) (h : List HObj) (ret : AV) (h' : List HObj) : VE → St → Prop
  | .normal, S' | .ret, S' => Ends rs h ret h' S'
  | .exit _, _ => False

/-- From a body to a contract. -/
theorem VCall.of {P : Program} {L : Nat → Bool} {f : Nat} {fn : Func} {c : Code} {vc : VC} {args : List AV} {h : List HObj} {ret : AV} {h' : List HObj} {rs : List RV} (hc0 : callable P f = true) (hf : P.funcs[f]? = some fn) (hb : fn.body = some c)
    (hc : comp P fn.ntmps c = some vc) (hr : resRV P fn.results.toList = some rs) (hn : (rvTmps rs).Nodup) (hargs : args.length ≤ fn.ntmps) (hlen : h.length ≤ h'.length)
    (hw : Vwp P L fn.ntmps h.length vc (endsQ rs h ret h') ⟨args ++ List.replicate (fn.ntmps - args.length) .undef, h⟩) : VCall P f args h ret h' := by
  refine ⟨known_of hc0, by omega, fun w fr pi own vals hvl hrel => Runs.of hc0 ?_⟩
  have hlt : h.length ≤ h.length := Nat.le_refl _
  have hN : (args ++ List.replicate (fn.ntmps - args.length) AV.undef).length = fn.ntmps := by simp; omega
  have hsz : (vals.toArray ++ Array.replicate (fn.ntmps - vals.toArray.size) Go.undef).size = fn.ntmps := by simp; omega
  have hfs : St.fs ⟨args ++ List.replicate (fn.ntmps - args.length) .undef, h⟩ = FS.of args h := by
    refine FS.ext' (fun i => ?_) (fun i => rfl)
    show (args ++ List.replicate (fn.ntmps - args.length) AV.undef).getD i .undef = args.getD i .undef
    rw [List.getD_eq_getElem?_getD, List.getD_eq_getElem?_getD]
    rcases Nat.lt_or_ge i args.length with hi | hi
    · rw [List.getElem?_append_left hi]
    · rw [List.getElem?_append_right hi, List.getElem?_eq_none hi, List.getElem?_replicate]
      split <;> rfl
  have htm : ∀ i, (vals.toArray ++ Array.replicate (fn.ntmps - vals.toArray.size) Go.undef).getD i Go.undef = vals.toArray.getD i Go.undef := by
    intro i
    rw [Array.getD_eq_getD_getElem?, Array.getD_eq_getD_getElem?]
    rcases Nat.lt_or_ge i vals.toArray.size with hi | hi
    · rw [Array.getElem?_append_left hi]
    · rw [Array.getElem?_append_right hi, Array.getElem?_eq_none hi, Array.getElem?_replicate]
      split <;> rfl
  have hrel' : Rel w fr pi own (St.fs ⟨args ++ List.replicate (fn.ntmps - args.length) .undef, h⟩) (vals.toArray ++ Array.replicate (fn.ntmps - vals.toArray.size) Go.undef) := by
    rw [hfs]
    exact ⟨fun i => by rw [htm]; exact hrel.slot i, hrel.slotnp, hrel.box, hrel.boxnp, hrel.nobox, hrel.nd, hrel.dj, hrel.live⟩
  refine calls_of_wp hf hb ?_
  refine wp_mono (hw hN (Nat.le_refl _) c hc _ w fr pi own hrel' hsz rfl) fun e a' w' hh => ?_
  obtain ⟨x, S', fr', pi', own', rfl, k2, k3, k4, k5, k6, k7, k8⟩ := hh
  have key : Ends rs h ret h' S' → a'.defers = [] ∧ ∃ v, (results fn a'.tmps).run P w' = .ok v w' ∧ ∃ v_1 fr' pi' own', Ending.returned v = .returned v_1 ∧ Rel w' fr' pi' own' (FS.of [ret] h') #[v_1] ∧ Ext w w' fr fr' pi pi' own own' (fun i => i < h.length) := by
    intro he
    obtain ⟨⟨xs, q1, q2⟩, ⟨ex, q3⟩, q4, q5, q6⟩ := he
    obtain ⟨v, O, r1, r2, r3, r4, r5⟩ := run_resultsOf k5 hr q1 hn
    rw [← q2] at r2 r3
    let own2 : Res → List Nat := fun r => match r with
      | .slot 0 => O
      | .slot _ => []
      | .box i => if i < h'.length then own' (.box i) else []
    have hsub : ∀ r b, b ∈ own2 r → ∃ r', b ∈ own' r' := by
      intro r b hb
      cases r with
      | slot i =>
        cases i with
        | zero => obtain ⟨t, ht⟩ := r5 b hb; exact ⟨_, ht⟩
        | succ i => simp [own2] at hb
      | box i =>
        simp only [own2] at hb
        split at hb
        · exact ⟨_, hb⟩
        · simp at hb
    have hbox : ∀ i o, h'[i]? = some o → S'.fs.bx i = some o := by
      intro i o hi
      show S'.h[i]? = some o
      have hlt : i < h'.length := by
        rcases Nat.lt_or_ge i h'.length with h1 | h1
        · exact h1
        · simp [List.getElem?_eq_none h1] at hi
      rw [q3, List.getElem?_append_left hlt]
      exact hi
    have hhas : ∀ i, i < h'.length → (FS.of [ret] h').has i := fun i hi => ⟨_, (List.getElem?_eq_getElem hi : h'[i]? = _)⟩
    refine ⟨k7, v, r1, v, fr', pi', own2, rfl, ⟨fun i => ?_, fun i => ?_, fun i o ho => ?_, fun i o ho => ?_, fun i hi => ?_, fun r => ?_, fun r r' b x1 x2 => ?_, fun r b hb => ?_⟩, ?_⟩
    · cases i with
      | zero => exact r2
      | succ i =>
        have : (FS.of [ret] h').sl (i + 1) = .undef := by simp [FS.of, List.getD_eq_getElem?_getD]
        rw [this]
        exact .undef _
    · cases i with
      | zero => exact q5.mono hhas
      | succ i =>
        have : (FS.of [ret] h').sl (i + 1) = .undef := by simp [FS.of, List.getD_eq_getElem?_getD]
        rw [this]
        exact .undef
    · have ho' : h'[i]? = some o := ho
      obtain ⟨O', z1, z2⟩ := k5.box i o (hbox i o ho')
      have hlt : i < h'.length := by
        rcases Nat.lt_or_ge i h'.length with h1 | h1
        · exact h1
        · simp [List.getElem?_eq_none h1] at ho'
      exact ⟨O', z1, by simp only [own2]; rw [if_pos hlt]; exact z2⟩
    · have ho' : h'[i]? = some o := ho
      rcases q6 i o ho' with z | z
      · have := hrel.boxnp i o z
        refine this.mono (fun j ⟨o', hj⟩ => hhas j ?_)
        have hj' : h[j]? = some o' := hj
        rcases Nat.lt_or_ge j h.length with h1 | h1
        · omega
        · simp [List.getElem?_eq_none h1] at hj'
      · exact z.mono hhas
    · have hi' : h'[i]? = none := hi
      have : ¬ i < h'.length := fun hlt => by rw [List.getElem?_eq_getElem hlt] at hi'; cases hi'
      simp only [own2]
      rw [if_neg this]
    · cases r with
      | slot i => cases i with
        | zero => exact r4
        | succ i => simp [own2]
      | box i =>
        simp only [own2]
        split
        · exact k5.nd _
        · simp
    · cases r with
      | slot i => cases i with
        | succ i => simp [own2] at x1
        | zero => cases r' with
          | slot j => cases j with
            | zero => rfl
            | succ j => simp [own2] at x2
          | box j =>
            exfalso
            simp only [own2] at x1 x2
            split at x2
            · obtain ⟨t, ht⟩ := r5 b x1
              have := k5.dj _ _ b ht x2
              cases this
            · simp at x2
      | box i => cases r' with
        | slot j => cases j with
          | succ j => simp [own2] at x2
          | zero =>
            exfalso
            simp only [own2] at x1 x2
            split at x1
            · obtain ⟨t, ht⟩ := r5 b x2
              have := k5.dj _ _ b ht x1
              cases this
            · simp at x1
        | box j =>
          simp only [own2] at x1 x2
          split at x1
          · split at x2
            · exact k5.dj _ _ b x1 x2
            · simp at x2
          · simp at x1
    · obtain ⟨r', hr'⟩ := hsub r b hb
      exact k5.live r' b hr'
    · exact ⟨k8.step, fun r b hb => by obtain ⟨r', hr'⟩ := hsub r b hb; exact k8.fresh r' b hr', k8.pi⟩
  cases x with
  | normal => exact key k2
  | ret => exact key k2
  | exit id => exact k2.elim

/-- A function that knows of no box: what it makes is let go. -/
theorem PCall.of {P : Program} {L : Nat → Bool} {f : Nat} {fn : Func} {c : Code} {vc : VC} {args : List AV} {ret : AV} {rs : List RV} (hc0 : callable P f = true) (hf : P.funcs[f]? = some fn) (hb : fn.body = some c)
    (hc : comp P fn.ntmps c = some vc) (hr : resRV P fn.results.toList = some rs) (hn : (rvTmps rs).Nodup) (hargs : args.length ≤ fn.ntmps) (hnp : NP (fun _ => False) ret)
    (hw : Vwp P L fn.ntmps 0 vc (fun x S' => (x = .normal ∨ x = .ret) ∧ ∃ xs, rvAVs S' rs = some xs ∧ retAV xs = ret) ⟨args ++ List.replicate (fn.ntmps - args.length) .undef, []⟩) : PCall P f args ret := by
  refine VCall.of hc0 hf hb hc hr hn hargs (Nat.le_refl _) (hw.mono fun x S' h => ?_)
  obtain ⟨h1, xs, h2, h3⟩ := h
  have he : Ends rs [] ret [] S' := ⟨⟨xs, h2, h3.symm⟩, ⟨S'.h, rfl⟩, Nat.le_refl _, hnp.mono (fun _ h => h.elim), fun i o ho => by simp at ho⟩
  rcases h1 with rfl | rfl
  · exact he
  · exact he

end Go.Proofs.YtmjdoonaidolkaaDoor.V

/- A small logic of values over the model, part 25: knowing less of a state. -/
namespace Go.Proofs.YtmjdoonaidolkaaDoor.V

mutual
/-- The second says less than the first. -/
inductive Wk : AV → AV → Prop
  | refl (a : AV) : Wk a a
  | undef (a : AV) : Wk a .undef
  | nil (sz sz' : Nat) (own own' : Bool) (nl : Option Bool) : nl ≠ some false → Wk (.sl sz (some true) own []) (.sl sz' nl own' [])
  | nl (sz : Nat) (nl : Option Bool) (own : Bool) (xs : List (List AV)) : Wk (.sl sz nl own xs) (.sl sz none own xs)
  | strip (a : AV) : Wk a a.strip
  | both (sz : Nat) (nl : Option Bool) (own : Bool) (xs : List (List AV)) : Wk (.sl sz nl own xs) (.sl sz none false xs)
  | agg (as bs : List AV) : WkL as bs → Wk (.agg as) (.agg bs)
  | tup (as bs : List AV) : WkL as bs → Wk (.tup as) (.tup bs)
inductive WkL : List AV → List AV → Prop
  | nil : WkL [] []
  | cons (a b : AV) (as bs : List AV) : Wk a b → WkL as bs → WkL (a :: as) (b :: bs)
end

mutual
theorem Wk.rep {w : World} {fr pi : Nat → Nat} : ∀ {a b : AV} {v : Value} {O : List Nat}, Wk a b → Rep w fr pi a v O → O.Nodup → ∃ O', Rep w fr pi b v O' ∧ (∀ x, x ∈ O' → x ∈ O) ∧ O'.Nodup
  | _, _, v, O, .refl a, hr, hn => ⟨O, hr, fun _ h => h, hn⟩
  | _, _, v, O, .undef a, hr, hn => ⟨[], .undef v, by simp, by simp⟩
  | _, _, v, O, .nil sz sz' own own' nl hnl, hr, hn => by
    rcases hr.sl_inv with ⟨rfl, _⟩ | ⟨_, _, _, _, hn, _⟩ | ⟨_, _, _, _, _, hn, _⟩
    · exact ⟨[], .slnil _ _ _ hnl, by simp, by simp⟩
    · exact absurd rfl hn
    · exact absurd rfl hn
  | _, _, v, O, .nl sz nl own xs, hr, hn => by
    cases hr with
    | slnil _ _ _ h0 => exact ⟨[], .slnil _ _ _ (by simp), by simp, by simp⟩
    | slempty _ _ ad cap h0 => exact ⟨[], .slempty _ _ ad cap (by simp), by simp, by simp⟩
    | sl _ _ _ b o cap vs h0 h1 h2 h3 h4 => exact ⟨[], .sl _ _ _ b o cap vs (by simp) h1 h2 h3 h4, by simp, by simp⟩
    | slown _ _ _ b o cap vs h0 h1 h2 h3 h4 h5 => exact ⟨[b], .slown _ _ _ b o cap vs (by simp) h1 h2 h3 h4 h5, fun _ h => h, hn⟩
  | _, _, v, O, .strip a, hr, hn => ⟨[], hr.strip, by simp, by simp⟩
  | _, _, v, O, .both sz nl own xs, hr, hn => by
    cases hr with
    | slnil _ _ _ h0 => exact ⟨[], .slnil _ _ _ (by simp), by simp, by simp⟩
    | slempty _ _ ad cap h0 => exact ⟨[], .slempty _ _ ad cap (by simp), by simp, by simp⟩
    | sl _ _ _ b o cap vs h0 h1 h2 h3 h4 => exact ⟨[], .sl _ _ _ b o cap vs (by simp) h1 h2 h3 h4, by simp, by simp⟩
    | slown _ _ _ b o cap vs h0 h1 h2 h3 h4 h5 => exact ⟨[], .sl _ _ _ b o cap vs (by simp) h1 h2 h3 h4, by simp, by simp⟩
  | _, _, v, O, .agg as bs h, hr, hn => by
    cases hr with
    | agg _ vs _ h1 =>
      obtain ⟨O', k1, k2, k3⟩ := WkL.reps h h1 hn
      exact ⟨O', .agg _ _ _ k1, k2, k3⟩
  | _, _, v, O, .tup as bs h, hr, hn => by
    cases hr with
    | tup _ vs _ h1 =>
      obtain ⟨O', k1, k2, k3⟩ := WkL.reps h h1 hn
      exact ⟨O', .tup _ _ _ k1, k2, k3⟩
theorem WkL.reps {w : World} {fr pi : Nat → Nat} : ∀ {as bs : List AV} {vs : List Value} {O : List Nat}, WkL as bs → Reps w fr pi as vs O → O.Nodup → ∃ O', Reps w fr pi bs vs O' ∧ (∀ x, x ∈ O' → x ∈ O) ∧ O'.Nodup
  | _, _, _, _, .nil, hr, hn => by
    cases hr
    exact ⟨[], .nil, by simp, by simp⟩
  | _, _, _, _, .cons a b as bs h1 h2, hr, hn => by
    cases hr with
    | cons _ v O1 _ vs O2 r1 r2 =>
      rw [List.nodup_append] at hn
      obtain ⟨P1, k1, k2, k3⟩ := Wk.rep h1 r1 hn.1
      obtain ⟨P2, q1, q2, q3⟩ := WkL.reps h2 r2 hn.2.1
      refine ⟨P1 ++ P2, .cons _ _ _ _ _ _ k1 q1, fun x hx => ?_, List.nodup_append.2 ⟨k3, q3, fun x hx y hy => hn.2.2 x (k2 x hx) y (q2 y hy)⟩⟩
      rcases List.mem_append.1 hx with hx | hx
      · exact List.mem_append.2 (.inl (k2 x hx))
      · exact List.mem_append.2 (.inr (q2 x hx))
end

mutual
theorem Wk.np : ∀ {a b : AV}, Wk a b → ∀ {ok : Nat → Prop}, NP ok a → NP ok b
  | _, _, .refl _, _, hn => hn
  | _, _, .undef _, _, hn => .undef
  | _, _, .nil .., _, hn => .sl _ _ _ _ (by simp)
  | _, _, .nl .., _, hn => .sl _ _ _ _ hn.sl_inv
  | _, _, .strip _, _, hn => hn.strip
  | _, _, .both .., _, hn => .sl _ _ _ _ hn.sl_inv
  | _, _, .agg _ _ h, _, hn => .agg _ (WkL.nps h hn.agg_inv)
  | _, _, .tup _ _ h, _, hn => .tup _ (WkL.nps h hn.tup_inv)
theorem WkL.nps : ∀ {as bs : List AV}, WkL as bs → ∀ {ok : Nat → Prop}, (∀ a, a ∈ as → NP ok a) → ∀ b, b ∈ bs → NP ok b
  | _, _, .nil, _, _, b, hb => by simp at hb
  | _, _, .cons a b as bs h1 h2, _, hn, x, hx => by
    rcases List.mem_cons.1 hx with rfl | hx
    · exact Wk.np h1 (hn a (by simp))
    · exact WkL.nps h2 (fun y hy => hn y (by simp [hy])) x hx
end

theorem WkL.length : ∀ {as bs : List AV}, WkL as bs → as.length = bs.length
  | _, _, .nil => rfl
  | _, _, .cons _ _ _ _ _ h => by simp [WkL.length h]

theorem WkL.get : ∀ {as bs : List AV}, WkL as bs → ∀ i, Wk (as.getD i .undef) (bs.getD i .undef)
  | _, _, .nil, _i => .refl _
  | _, _, .cons a b as bs h1 _h2, 0 => h1
  | _, _, .cons a b as bs _h1 h2, i + 1 => WkL.get h2 i

/-- Knowing less; boxes that nobody points to are forgotten. -/
theorem Rel.weak {w : World} {fr pi : Nat → Nat} {own : Res → List Nat} {S S0 : St} {tm : Array Value} (h : Rel w fr pi own S.fs tm) (ht : WkL S.t S0.t) {ex : List HObj} (hh : S.h = S0.h ++ ex)
    (hn : ex = [] ∨ ((∀ a, a ∈ S0.t → NP (fun i => i < S0.h.length) a) ∧ ∀ o, o ∈ S0.h → NPo (fun i => i < S0.h.length) o)) :
    ∃ own', Rel w fr pi own' S0.fs tm ∧ ∀ r b, b ∈ own' r → b ∈ own r := by
  have key : ∀ i, ∃ O', Rep w fr pi (S0.t.getD i .undef) (tm.getD i Go.undef) O' ∧ (∀ x, x ∈ O' → x ∈ own (.slot i)) ∧ O'.Nodup := by
    intro i
    exact (ht.get i).rep (h.slot i) (h.nd _)
  let own' : Res → List Nat := fun r => match r with
    | .slot i => (key i).choose
    | .box i => if i < S0.h.length then own (.box i) else []
  have hsub : ∀ r b, b ∈ own' r → b ∈ own r := by
    intro r b hb
    cases r with
    | slot i => exact (key i).choose_spec.2.1 b hb
    | box i =>
      simp only [own'] at hb
      split at hb
      · exact hb
      · simp at hb
  have hbox : ∀ i o, S0.h[i]? = some o → S.fs.bx i = some o := by
    intro i o hi
    show S.h[i]? = some o
    have hlt : i < S0.h.length := by
      rcases Nat.lt_or_ge i S0.h.length with h1 | h1
      · exact h1
      · simp [List.getElem?_eq_none h1] at hi
    rw [hh, List.getElem?_append_left hlt]
    exact hi
  have hhas : ∀ i, i < S0.h.length → S0.fs.has i := fun i hi => (St.has_iff S0 i).2 hi
  have hsame : ex = [] → ∀ i, S.fs.has i → S0.fs.has i := by
    intro e i hi
    rw [St.has_iff] at *
    rw [hh, e, List.append_nil] at hi
    exact hi
  have hslotnp : ∀ i, NP S0.fs.has (S0.t.getD i .undef) := by
    intro i
    rcases hn with e | ⟨hn1, _⟩
    · exact ((ht.get i).np (h.slotnp i)).mono (hsame e)
    · rcases Nat.lt_or_ge i S0.t.length with hi | hi
      · rw [List.getD_eq_getElem?_getD, List.getElem?_eq_getElem hi]
        exact (hn1 _ (List.getElem_mem hi)).mono hhas
      · rw [List.getD_eq_getElem?_getD, List.getElem?_eq_none hi]
        exact .undef
  refine ⟨own', ⟨fun i => (key i).choose_spec.1, hslotnp, fun i o ho => ?_, fun i o ho => ?_, fun i hi => ?_, fun r => ?_, fun r r' b h1 h2 => h.dj r r' b (hsub r b h1) (hsub r' b h2), fun r b hb => h.live r b (hsub r b hb)⟩, hsub⟩
  · have ho' : S0.h[i]? = some o := ho
    obtain ⟨O, h1, h2⟩ := h.box i o (hbox i o ho')
    have hlt : i < S0.h.length := by
      rcases Nat.lt_or_ge i S0.h.length with h1 | h1
      · exact h1
      · simp [List.getElem?_eq_none h1] at ho'
    exact ⟨O, h1, by simp only [own']; rw [if_pos hlt]; exact h2⟩
  · have ho' : S0.h[i]? = some o := ho
    rcases hn with e | ⟨_, hn2⟩
    · exact (h.boxnp i o (hbox i o ho')).mono (hsame e)
    · exact (hn2 o (List.mem_of_getElem? ho')).mono hhas
  · have hi' : S0.h[i]? = none := hi
    have : ¬ i < S0.h.length := fun hlt => by rw [List.getElem?_eq_getElem hlt] at hi'; cases hi'
    simp only [own']
    rw [if_neg this]
  · cases r with
    | slot i => exact (key i).choose_spec.2.2
    | box i =>
      simp only [own']
      split
      · exact h.nd _
      · simp

section
variable {P : Program} {L : Nat → Bool} {N h0 : Nat} {Q : VE → St → Prop} {S S0 : St}

theorem VQ.weak {w : World} {fr pi : Nat → Nat} {own own' : Res → List Nat} (hsub : ∀ r b, b ∈ own' r → b ∈ own r) {e : Exit} {a : Act} {w' : World} (h : VQ N Q h0 w fr pi own' e a w') : VQ N Q h0 w fr pi own e a w' := by
  obtain ⟨x, S', fr', pi', own2, k1, k2, k3, k4, k5, k6, k7, k8⟩ := h
  exact ⟨x, S', fr', pi', own2, k1, k2, k3, k4, k5, k6, k7, ⟨k8.step.mono (fun b _ ⟨r, hr⟩ => ⟨r, hsub r b hr⟩), fun r b hb => by
    rcases k8.fresh r b hb with ⟨r', hr'⟩ | h'
    · exact .inl ⟨r', hsub r' b hr'⟩
    · exact .inr h', k8.pi⟩⟩

theorem Vwp.weak {c : VC} (ht : WkL S.t S0.t) {ex : List HObj} (hh : S.h = S0.h ++ ex) (hk : h0 ≤ S0.h.length) (hn : ex = [] ∨ ((∀ a, a ∈ S0.t → NP (fun i => i < S0.h.length) a) ∧ ∀ o, o ∈ S0.h → NPo (fun i => i < S0.h.length) o))
    (h : Vwp P L N h0 c Q S0) : Vwp P L N h0 c Q S := by
  intro hN hk' c0 hc a w fr pi own hr hs hd
  obtain ⟨own', hr', hsub⟩ := hr.weak ht hh hn
  exact wp_mono (h (by rw [← ht.length]; exact hN) hk c0 hc a w fr pi own' hr' hs hd) fun e a w hh => hh.weak hsub

theorem Vloop.weak {c : VC} (ht : WkL S.t S0.t) {ex : List HObj} (hh : S.h = S0.h ++ ex) (hk : h0 ≤ S0.h.length) (hn : ex = [] ∨ ((∀ a, a ∈ S0.t → NP (fun i => i < S0.h.length) a) ∧ ∀ o, o ∈ S0.h → NPo (fun i => i < S0.h.length) o))
    (h : Vloop P L N h0 c Q S0) : Vloop P L N h0 c Q S := by
  intro hN hk' c0 hc a w fr pi own hr hs hd
  obtain ⟨own', hr', hsub⟩ := hr.weak ht hh hn
  exact (h (by rw [← ht.length]; exact hN) hk c0 hc a w fr pi own' hr' hs hd).mono fun e a w hh => hh.weak hsub
end

end Go.Proofs.YtmjdoonaidolkaaDoor.V

/- A small logic of values over the model: shifts: a state is told otherwise, and nothing runs: a slice that is one's own gets a box; boxes are written no more. -/
namespace Go.Proofs.YtmjdoonaidolkaaDoor.V

/-- A slot's own slice gets a box. -/
theorem Rel.openSlot {w : World} {fr pi : Nat → Nat} {own : Res → List Nat} {s : FS} {tm : Array Value} (h : Rel w fr pi own s tm) {t id sz : Nat} {xs : List (List AV)} (ht : s.sl t = .xsl sz xs) (hid : s.bx id = none) :
    ∃ pi' own', Rel w fr pi' own' ⟨upd s.sl t (.bsl sz id 0 xs.length), upd s.bx id (some (.arr sz xs))⟩ tm ∧ Ext w w fr fr pi pi' own own' s.has := by
  have h0 := h.slot t
  have hn0 := h.slotnp t
  rw [ht] at h0 hn0
  have hxn : ∀ x, x ∈ xs → ∀ a, a ∈ x → NP s.has a := by
    cases hn0 with
    | xsl _ _ h2 => exact h2
  generalize hv : tm.getD t Go.undef = v at h0
  generalize hO : own (.slot t) = O at h0
  cases h0 with
  | xsl _ _ b cap vs ju el m0 m1 m2 m3 m4 m5 m6 =>
    have hpi : ∀ i, s.has i → upd pi id b i = pi i := fun i ⟨o, hi⟩ => upd_ne _ _ (fun e => by subst e; simp [hid] at hi)
    have hhas : ∀ i, s.has i → FS.has ⟨upd s.sl t (.bsl sz id 0 xs.length), upd s.bx id (some (.arr sz xs))⟩ i := fun i ⟨o, hi⟩ => ⟨o, by
      show upd s.bx id _ i = _
      rw [upd_ne _ _ (fun e => by subst e; simp [hid] at hi)]; exact hi⟩
    have hno : own (.box id) = [] := h.nobox id hid
    have st := Step.refl w fr (fun _ => False)
    have hown : ∀ r x, x ∈ upd (upd own (.slot t) []) (.box id) [b] r → (r = .box id ∧ x = b) ∨ (r ≠ .box id ∧ r ≠ .slot t ∧ x ∈ own r) := by
      intro r x hx
      by_cases e : r = .box id
      · subst e; rw [upd_same] at hx; exact .inl ⟨rfl, by simpa using hx⟩
      · rw [upd_ne _ _ e] at hx
        by_cases e2 : r = .slot t
        · subst e2; rw [upd_same] at hx; simp at hx
        · rw [upd_ne _ _ e2] at hx; exact .inr ⟨e, e2, hx⟩
    have hb : b ∈ own (.slot t) := by rw [hO]; simp
    refine ⟨upd pi id b, upd (upd own (.slot t) []) (.box id) [b], ⟨fun i => ?_, fun i => ?_, fun i o hbo => ?_, fun i o hbo => ?_, fun i hi => ?_, fun r => ?_, fun r r' x x1 x2 => ?_, fun r x hx => ?_⟩, ⟨Step.refl _ _ _, fun r x hx => ?_, hpi⟩⟩
    · rw [upd_ne _ _ (by simp)]
      by_cases e : i = t
      · subst e
        simp only [upd_same]
        rw [hv]
        have := Rep.bsl (w := w) (fr := fr) (pi := upd pi id b) sz id 0 xs.length cap m5 ⟨_, el, (0, 0), by rw [upd_same]; exact m3, by rw [Nat.zero_add]; exact m6⟩
        rwa [upd_same, Nat.zero_mul] at this
      · show Rep w fr _ (upd s.sl t _ i) _ _
        rw [upd_ne _ _ e, upd_ne _ _ (by simpa using e)]
        exact (h.slot i).mono st hpi (h.slotnp i) (by simp)
    · by_cases e : i = t
      · subst e
        show NP _ (upd s.sl i _ i)
        rw [upd_same]
        exact .bsl _ _ _ _ ⟨_, upd_same _ _ _⟩
      · show NP _ (upd s.sl t _ i)
        rw [upd_ne _ _ e]
        exact (h.slotnp i).mono hhas
    · by_cases hi : i = id
      · subst hi
        simp only [upd_same] at hbo ⊢
        cases hbo
        exact ⟨[], ⟨rfl, m0, vs, ju, el, m3, m1.mono st hpi (fun a ha => by obtain ⟨x, hx, hax⟩ := List.mem_flatten.1 ha; exact hxn x hx a hax) (by simp), m2, m4⟩, rfl⟩
      · have hb' : s.bx i = some o := by simpa [upd, hi] using hbo
        obtain ⟨O', y1, y2⟩ := h.box i o hb'
        rw [hpi i ⟨o, hb'⟩, upd_ne _ _ (by simpa using hi), upd_ne _ _ (by simp)]
        exact ⟨O', y1.mono st hpi (h.boxnp i o hb') (fun x hx => h.live (.box i) x (by rw [y2]; exact hx)) (by simp), y2⟩
    · by_cases hi : i = id
      · subst hi
        simp only [upd_same] at hbo
        cases hbo
        exact fun x hx a ha => (hxn x hx a ha).mono hhas
      · have hb' : s.bx i = some o := by simpa [upd, hi] using hbo
        exact (h.boxnp i o hb').mono hhas
    · by_cases he : i = id
      · subst he; simp [upd] at hi
      · have hb' : s.bx i = none := by simpa [upd, he] using hi
        rw [upd_ne _ _ (by simpa using he), upd_ne _ _ (by simp)]
        exact h.nobox i hb'
    · by_cases e : r = .box id
      · subst e; rw [upd_same]; simp
      · rw [upd_ne _ _ e]
        by_cases e2 : r = .slot t
        · subst e2; rw [upd_same]; simp
        · rw [upd_ne _ _ e2]; exact h.nd r
    · rcases hown r x x1 with ⟨rfl, rfl⟩ | ⟨n1, n2, n3⟩
      · rcases hown r' x x2 with ⟨rfl, _⟩ | ⟨_, k2, k3⟩
        · rfl
        · exact absurd (h.dj r' (.slot t) x k3 hb) k2
      · rcases hown r' x x2 with ⟨rfl, rfl⟩ | ⟨_, _, k3⟩
        · exact absurd (h.dj r (.slot t) x n3 hb) n2
        · exact h.dj r r' x n3 k3
    · rcases hown r x hx with ⟨_, rfl⟩ | ⟨_, _, k3⟩
      · exact h.live _ _ hb
      · exact h.live _ _ k3
    · rcases hown r x hx with ⟨_, rfl⟩ | ⟨_, _, k3⟩
      · exact .inl ⟨_, hb⟩
      · exact .inl ⟨_, k3⟩

/-! ### boxes are written no more -/

mutual
/-- The second says less than the first, where the boxes of B are written no more, and what is one's own is so no longer. -/
inductive WkF (B : Nat → Option (Nat × List (List AV))) : AV → AV → Prop
  | wk (a b : AV) : Wk a b → WkF B a b
  | bsl (sz id off len : Nat) (xs ys : List (List AV)) (nl : Option Bool) : B id = some (sz, xs) → off + len ≤ xs.length → nl ≠ some true → ((xs.drop off).take len).map List.length = ys.map List.length → WkFL B ((xs.drop off).take len).flatten ys.flatten → WkF B (.bsl sz id off len) (.sl sz nl false ys)
  | xsl (sz : Nat) (xs ys : List (List AV)) (nl : Option Bool) : nl ≠ some true → xs.map List.length = ys.map List.length → WkFL B xs.flatten ys.flatten → WkF B (.xsl sz xs) (.sl sz nl false ys)
  | fsl (sz : Nat) (xs ys : List (List AV)) (nl : Option Bool) : nl ≠ some true → xs.map List.length = ys.map List.length → WkFL B xs.flatten ys.flatten → WkF B (.fsl sz xs) (.sl sz nl false ys)
  | sl (sz : Nat) (nl nl' : Option Bool) (own : Bool) (xs ys : List (List AV)) : nl' = nl ∨ nl' = none → xs.map List.length = ys.map List.length → WkFL B xs.flatten ys.flatten → WkF B (.sl sz nl own xs) (.sl sz nl' false ys)
  | slo (sz : Nat) (nl nl' : Option Bool) (xs ys : List (List AV)) : nl' = nl ∨ nl' = none → xs.map List.length = ys.map List.length → WkFL B xs.flatten ys.flatten → WkF B (.sl sz nl true xs) (.sl sz nl' true ys)
  | agg (as bs : List AV) : WkFL B as bs → WkF B (.agg as) (.agg bs)
  | tup (as bs : List AV) : WkFL B as bs → WkF B (.tup as) (.tup bs)
inductive WkFL (B : Nat → Option (Nat × List (List AV))) : List AV → List AV → Prop
  | nil : WkFL B [] []
  | cons (a b : AV) (as bs : List AV) : WkF B a b → WkFL B as bs → WkFL B (a :: as) (b :: bs)
end

theorem WkFL.of {B : Nat → Option (Nat × List (List AV))} : ∀ l : List AV, WkFL B l l
  | [] => .nil
  | a :: l => .cons _ _ _ _ (.wk _ _ (.refl a)) (WkFL.of l)

theorem WkFL.length {B : Nat → Option (Nat × List (List AV))} : ∀ {as bs : List AV}, WkFL B as bs → as.length = bs.length
  | _, _, .nil => rfl
  | _, _, .cons _ _ _ _ _ h => by simp [h.length]

/-- Nobody writes there any more. -/
def Full (w : World) (fr' : Nat → Nat) (b : Nat) : Prop := ∀ c e fz, w.heap[b]? = some (.cells c e fz) → c.size ≤ fr' b

/-- What is so of the boxes that are written no more. -/
def FzB (B : Nat → Option (Nat × List (List AV))) (w : World) (fr' pi : Nat → Nat) (ok : Nat → Prop) : Prop :=
  ∀ i sz xs, B i = some (sz, xs) → (∀ x, x ∈ xs → x.length = sz) ∧ (∀ x, x ∈ xs → ∀ a, a ∈ x → NP ok a) ∧ ∃ vs, Reps w fr' pi xs.flatten vs [] ∧ CellsAt w fr' (pi i) 0 vs

theorem lenF {xs ys : List (List AV)} (h : xs.map List.length = ys.map List.length) : xs.length = ys.length := by
  have := congrArg List.length h
  simpa using this
theorem lensF {xs ys : List (List AV)} {sz : Nat} (h : xs.map List.length = ys.map List.length) (hx : ∀ x, x ∈ xs → x.length = sz) : ∀ y, y ∈ ys → y.length = sz := by
  intro y hy
  have : y.length ∈ xs.map List.length := by rw [h]; exact List.mem_map_of_mem hy
  obtain ⟨x, hx', e⟩ := List.mem_map.1 this
  rw [← e]
  exact hx x hx'

theorem flatNP {ok : Nat → Prop} {xs : List (List AV)} (h : ∀ x, x ∈ xs → ∀ a, a ∈ x → NP ok a) : ∀ a, a ∈ xs.flatten → NP ok a := fun a ha => by
  obtain ⟨x, hx, hax⟩ := List.mem_flatten.1 ha
  exact h x hx a hax
theorem unflatNP {ok : Nat → Prop} {xs : List (List AV)} (h : ∀ a, a ∈ xs.flatten → NP ok a) : ∀ x, x ∈ xs → ∀ a, a ∈ x → NP ok a := fun x hx a ha => h a (List.mem_flatten.2 ⟨x, hx, ha⟩)

theorem NP.slF {ok : Nat → Prop} {sz : Nat} {nl : Option Bool} {own : Bool} {xs : List (List AV)} (h : NP ok (.sl sz nl own xs)) : ∀ x, x ∈ xs → ∀ a, a ∈ x → NP ok a := by
  cases h with
  | sl _ _ _ _ h2 => exact h2
theorem NP.xslF {ok : Nat → Prop} {sz : Nat} {xs : List (List AV)} (h : NP ok (.xsl sz xs)) : ∀ x, x ∈ xs → ∀ a, a ∈ x → NP ok a := by
  cases h with
  | xsl _ _ h2 => exact h2
theorem NP.fslF {ok : Nat → Prop} {sz : Nat} {xs : List (List AV)} (h : NP ok (.fsl sz xs)) : ∀ x, x ∈ xs → ∀ a, a ∈ x → NP ok a := by
  cases h with
  | fsl _ _ h2 => exact h2
theorem NP.aggF {ok : Nat → Prop} {cs : List AV} (h : NP ok (.agg cs)) : ∀ a, a ∈ cs → NP ok a := by
  cases h with
  | agg _ h2 => exact h2
theorem NP.tupF {ok : Nat → Prop} {cs : List AV} (h : NP ok (.tup cs)) : ∀ a, a ∈ cs → NP ok a := by
  cases h with
  | tup _ h2 => exact h2

/-- What stands in the boxes of B leads to such as are there. -/
def NPB (B : Nat → Option (Nat × List (List AV))) (ok : Nat → Prop) : Prop := ∀ i sz xs, B i = some (sz, xs) → ∀ x, x ∈ xs → ∀ a, a ∈ x → NP ok a

mutual
theorem WkF.np {B : Nat → Option (Nat × List (List AV))} : ∀ {a b : AV}, WkF B a b → ∀ {ok : Nat → Prop}, NPB B ok → NP ok a → NP ok b
  | _, _, .wk a b h, _, _hB, hn => h.np hn
  | _, _, .bsl sz id off len xs ys nl h1 _h2 _h3 _h4 h5, _, hB, _hn =>
    .sl _ _ _ _ (unflatNP (WkFL.np h5 hB (flatNP fun x hx => hB id sz xs h1 x (List.mem_of_mem_drop (List.mem_of_mem_take hx)))))
  | _, _, .xsl sz xs ys nl _h1 _h2 h3, _, hB, hn => .sl _ _ _ _ (unflatNP (WkFL.np h3 hB (flatNP hn.xslF)))
  | _, _, .fsl sz xs ys nl _h1 _h2 h3, _, hB, hn => .sl _ _ _ _ (unflatNP (WkFL.np h3 hB (flatNP hn.fslF)))
  | _, _, .sl sz nl nl' own xs ys _h1 _h2 h3, _, hB, hn => .sl _ _ _ _ (unflatNP (WkFL.np h3 hB (flatNP hn.slF)))
  | _, _, .slo sz nl nl' xs ys _h1 _h2 h3, _, hB, hn => .sl _ _ _ _ (unflatNP (WkFL.np h3 hB (flatNP hn.slF)))
  | _, _, .agg as bs h, _, hB, hn => .agg _ (WkFL.np h hB hn.aggF)
  | _, _, .tup as bs h, _, hB, hn => .tup _ (WkFL.np h hB hn.tupF)
theorem WkFL.np {B : Nat → Option (Nat × List (List AV))} : ∀ {as bs : List AV}, WkFL B as bs → ∀ {ok : Nat → Prop}, NPB B ok → (∀ a, a ∈ as → NP ok a) → ∀ b, b ∈ bs → NP ok b
  | _, _, .nil, _, _, _ => by simp
  | _, _, .cons a b as bs h1 h2, _, hB, hn => by
    intro x hx
    rcases List.mem_cons.1 hx with e | hx
    · rw [e]; exact WkF.np h1 hB (hn a (by simp))
    · exact WkFL.np h2 hB (fun y hy => hn y (by simp [hy])) x hx
end

/-- The conditions of a shift, for a value that owned O and owns O' from now on. -/
structure ShC (w : World) (fr fr' : Nat → Nat) (F : Nat → Prop) (O O' : List Nat) : Prop where
  keep : ∀ b, b ∈ O' → ¬ F b
  full : ∀ b, b ∈ O → b ∉ O' → Full w fr' b

section
variable {B : Nat → Option (Nat × List (List AV))} {w : World} {pi : Nat → Nat} {ok : Nat → Prop}

/-- Of what a value is worth it is told less, whatever becomes of who looks where. -/
def Lets (B : Nat → Option (Nat × List (List AV))) (w : World) (fr pi : Nat → Nat) (ok : Nat → Prop) (b : AV) (v : Value) (O O' : List Nat) : Prop :=
  ∀ (fr' : Nat → Nat) (F : Nat → Prop), Step w w fr fr' F → ShC w fr fr' F O O' → FzB B w fr' pi ok → Rep w fr' pi b v O'
def LetsL (B : Nat → Option (Nat × List (List AV))) (w : World) (fr pi : Nat → Nat) (ok : Nat → Prop) (bs : List AV) (vs : List Value) (O O' : List Nat) : Prop :=
  ∀ (fr' : Nat → Nat) (F : Nat → Prop), Step w w fr fr' F → ShC w fr fr' F O O' → FzB B w fr' pi ok → Reps w fr' pi bs vs O'

mutual
theorem WkF.rep : ∀ {a b : AV}, WkF B a b → ∀ {fr : Nat → Nat} {v : Value} {O : List Nat}, Rep w fr pi a v O → NP ok a → NPB B ok → O.Nodup → ∃ O', (∀ x, x ∈ O' → x ∈ O) ∧ O'.Nodup ∧ Lets B w fr pi ok b v O O'
  | _, _, .wk a b h, fr, v, O, hr, hn, _, hd => by
    obtain ⟨O', h1, h2, h3⟩ := h.rep hr hd
    exact ⟨O', h2, h3, fun fr' F st hs _ => h1.mono st (ok := ok) (fun _ _ => rfl) (h.np hn) hs.keep⟩
  | _, _, .bsl sz id off len xs ys nl h1 h2 h3 h4 h5, fr, v, O, hr, hn, hB, hd => by
    refine ⟨[], by simp, by simp, fun fr' F st hs hF => ?_⟩
    obtain ⟨k1, k2, vs, k3, k4⟩ := hF id sz xs h1
    have hlen : ((xs.drop off).take len).length = len := by simp; omega
    have hyl := lenF h4
    cases hr with
    | bsl0 _ _ _ cap ad =>
      have : ys = [] := List.eq_nil_of_length_eq_zero (by omega)
      subst this
      exact .slempty _ _ _ _ h3
    | bsl _ _ _ _ cap hc hrow =>
      have hsplit : xs.flatten = (xs.take off).flatten ++ (((xs.drop off).take len).flatten ++ ((xs.drop off).drop len).flatten) := by
        rw [← List.flatten_append, ← List.flatten_append, List.take_append_drop, List.take_append_drop]
      rw [hsplit] at k3
      obtain ⟨u1, u23, O1, O23, q1, q2, r1, r23⟩ := k3.split
      obtain ⟨u2, u3, O2, O3, q3, q4, r2, r3⟩ := r23.split
      obtain ⟨rfl, rfl⟩ := List.append_eq_nil_iff.1 q2.symm
      obtain ⟨rfl, rfl⟩ := List.append_eq_nil_iff.1 q4.symm
      subst q3
      have hl1 : u1.length = off * sz := by
        rw [← r1.length, flatten_len (sz := sz) (fun y hy => k1 y (List.mem_of_mem_take hy)), List.length_take, Nat.min_eq_left (by omega)]
      obtain ⟨O', z1, z2, z3⟩ := WkFL.rep (fr := fr') h5 r2 (flatNP fun x hx => k2 x (List.mem_of_mem_drop (List.mem_of_mem_take hx))) hB (by simp)
      have hO' : O' = [] := List.eq_nil_iff_forall_not_mem.2 fun x hx => by simpa using z1 x hx
      subst hO'
      have r2' := z3 fr' (fun _ => False) (Step.refl _ _ _) ⟨by simp, by simp⟩ hF
      rw [show len = ys.length by omega]
      refine .sl sz nl ys (pi id) (off * sz) cap u2 h3 (lensF h4 fun y hy => k1 y (List.mem_of_mem_drop (List.mem_of_mem_take hy))) r2' ?_ (by omega)
      have hc2 : CellsAt w fr' (pi id) 0 (u1 ++ u2 ++ u3) := by rw [List.append_assoc, ← q1]; exact k4
      have hsub := hc2.sub
      rw [hl1, Nat.zero_add] at hsub
      exact hsub
  | _, _, .xsl sz xs ys nl h1 h2 h3, fr, v, O, hr, hn, hB, hd => by
    cases hr with
    | xsl _ _ b cap vs ju el m0 m1 m2 m3 m4 m5 m6 =>
      obtain ⟨O', z1, z2, z3⟩ := WkFL.rep h3 m1 (flatNP hn.xslF) hB (by simp)
      have hO' : O' = [] := List.eq_nil_iff_forall_not_mem.2 fun x hx => by simpa using z1 x hx
      subst hO'
      refine ⟨[], by simp, by simp, fun fr' F st hs hF => ?_⟩
      have hyl := lenF h2
      have r2 := z3 fr' F st ⟨by simp, by simp⟩ hF
      have hfull := hs.full b (by simp) (by simp) _ _ _ m3
      rw [hyl]
      exact .sl sz nl ys b 0 cap vs h1 (lensF h2 m0) r2 (cells_row m3 (by simp only [List.size_toArray, List.length_append] at hfull; omega) m2) (by omega)
  | _, _, .fsl sz xs ys nl h1 h2 h3, fr, v, O, hr, hn, hB, hd => by
    cases hr with
    | fsl _ _ b o vs m0 m1 m2 =>
      obtain ⟨O', z1, z2, z3⟩ := WkFL.rep h3 m1 (flatNP hn.fslF) hB (by simp)
      have hO' : O' = [] := List.eq_nil_iff_forall_not_mem.2 fun x hx => by simpa using z1 x hx
      subst hO'
      refine ⟨[], by simp, by simp, fun fr' F st hs hF => ?_⟩
      have hyl := lenF h2
      have r2 := z3 fr' F st ⟨by simp, by simp⟩ hF
      rw [hyl]
      exact .sl sz nl ys b o ys.length vs h1 (lensF h2 m0) r2 (m2.mono st) (Nat.le_refl _)
  | _, _, .sl sz nl nl' own xs ys h1 h2 h3, fr, v, O, hr, hn, hB, hd => by
    have hyl := lenF h2
    have key : ∀ {vs : List Value}, Reps w fr pi xs.flatten vs [] → LetsL B w fr pi ok ys.flatten vs [] [] := by
      intro vs m1
      obtain ⟨O', z1, z2, z3⟩ := WkFL.rep h3 m1 (flatNP hn.slF) hB (by simp)
      have hO' : O' = [] := List.eq_nil_iff_forall_not_mem.2 fun x hx => by simpa using z1 x hx
      subst hO'
      exact z3
    refine ⟨[], by simp, by simp, fun fr' F st hs hF => ?_⟩
    cases hr with
    | slnil _ _ _ h0 =>
      have : ys = [] := List.eq_nil_of_length_eq_zero (by simpa using hyl.symm)
      subst this
      exact .slnil _ _ _ (by rcases h1 with rfl | rfl; exact h0; simp)
    | slempty _ _ ad cap h0 =>
      have : ys = [] := List.eq_nil_of_length_eq_zero (by simpa using hyl.symm)
      subst this
      exact .slempty _ _ _ _ (by rcases h1 with rfl | rfl; exact h0; simp)
    | sl _ _ _ b o cap vs m0 m1 m2 m3 m4 =>
      rw [hyl]
      exact .sl sz nl' ys b o cap vs (by rcases h1 with rfl | rfl; exact m0; simp) (lensF h2 m1) (key m2 fr' F st ⟨by simp, by simp⟩ hF) (m3.mono st) (by omega)
    | slown _ _ _ b o cap vs m0 m1 m2 m3 m4 m5 =>
      rw [hyl]
      exact .sl sz nl' ys b o cap vs (by rcases h1 with rfl | rfl; exact m0; simp) (lensF h2 m1) (key m2 fr' F st ⟨by simp, by simp⟩ hF) (m3.mono st) (by omega)
  | _, _, .slo sz nl nl' xs ys h1 h2 h3, fr, v, O, hr, hn, hB, hd => by
    have hyl := lenF h2
    have key : ∀ {vs : List Value}, Reps w fr pi xs.flatten vs [] → LetsL B w fr pi ok ys.flatten vs [] [] := by
      intro vs m1
      obtain ⟨O', z1, z2, z3⟩ := WkFL.rep h3 m1 (flatNP hn.slF) hB (by simp)
      have hO' : O' = [] := List.eq_nil_iff_forall_not_mem.2 fun x hx => by simpa using z1 x hx
      subst hO'
      exact z3
    refine ⟨O, fun _ hx => hx, hd, fun fr' F st hs hF => ?_⟩
    cases hr with
    | slnil _ _ _ h0 =>
      have : ys = [] := List.eq_nil_of_length_eq_zero (by simpa using hyl.symm)
      subst this
      exact .slnil _ _ _ (by rcases h1 with rfl | rfl; exact h0; simp)
    | slown _ _ _ b o cap vs m0 m1 m2 m3 m4 m5 =>
      rw [hyl]
      exact .slown sz nl' ys b o cap vs (by rcases h1 with rfl | rfl; exact m0; simp) (lensF h2 m1) (key m2 fr' F st ⟨by simp, by simp⟩ hF) (m3.mono st) (by omega) (by rw [← hyl]; exact ⟨m5.1.mono st (hs.keep b (by simp)), m5.2⟩)
  | _, _, .agg as bs h, fr, v, O, hr, hn, hB, hd => by
    cases hr with
    | agg _ vs _ h1 =>
      obtain ⟨O', z1, z2, z3⟩ := WkFL.rep h h1 hn.aggF hB hd
      exact ⟨O', z1, z2, fun fr' F st hs hF => .agg _ _ _ (z3 fr' F st hs hF)⟩
  | _, _, .tup as bs h, fr, v, O, hr, hn, hB, hd => by
    cases hr with
    | tup _ vs _ h1 =>
      obtain ⟨O', z1, z2, z3⟩ := WkFL.rep h h1 hn.tupF hB hd
      exact ⟨O', z1, z2, fun fr' F st hs hF => .tup _ _ _ (z3 fr' F st hs hF)⟩
theorem WkFL.rep : ∀ {as bs : List AV}, WkFL B as bs → ∀ {fr : Nat → Nat} {vs : List Value} {O : List Nat}, Reps w fr pi as vs O → (∀ a, a ∈ as → NP ok a) → NPB B ok → O.Nodup → ∃ O', (∀ x, x ∈ O' → x ∈ O) ∧ O'.Nodup ∧ LetsL B w fr pi ok bs vs O O'
  | _, _, .nil, fr, _, _, hr, _, _, _ => by
    cases hr
    exact ⟨[], by simp, by simp, fun fr' F st hs hF => .nil⟩
  | _, _, .cons a b as bs h1 h2, fr, _, _, hr, hn, hB, hd => by
    cases hr with
    | cons _ v O1 _ vs O2 r1 r2 =>
      rw [List.nodup_append] at hd
      obtain ⟨d1, d2, d3⟩ := hd
      obtain ⟨P1, z1, z2, z3⟩ := WkF.rep h1 r1 (hn a (by simp)) hB d1
      obtain ⟨P2, y1, y2, y3⟩ := WkFL.rep h2 r2 (fun x hx => hn x (by simp [hx])) hB d2
      refine ⟨P1 ++ P2, fun x hx => ?_, ?_, fun fr' F st hs hF => .cons _ _ _ _ _ _ (z3 fr' F st ⟨fun x hx => hs.keep x (by simp [hx]), fun x hx hnx => hs.full x (by simp [hx]) (fun hm => ?_)⟩ hF) (y3 fr' F st ⟨fun x hx => hs.keep x (by simp [hx]), fun x hx hnx => hs.full x (by simp [hx]) (fun hm => ?_)⟩ hF)⟩
      · rcases List.mem_append.1 hx with hx | hx
        · exact List.mem_append.2 (.inl (z1 x hx))
        · exact List.mem_append.2 (.inr (y1 x hx))
      · rw [List.nodup_append]
        exact ⟨z2, y2, fun x hx y hy => d3 x (z1 x hx) y (y1 y hy)⟩
      · rcases List.mem_append.1 hm with hm | hm
        · exact hnx hm
        · exact d3 x hx x (y1 x hm) rfl
      · rcases List.mem_append.1 hm with hm | hm
        · exact d3 x (z1 x hm) x hx rfl
        · exact hnx hm
end
end

/-- A box behind a shift. -/
def HF (B : Nat → Option (Nat × List (List AV))) (i : Nat) (o o' : HObj) : Prop :=
  (∃ sz xs, o = .arr sz xs ∧ B i = some (sz, xs) ∧ o' = .ro []) ∨ (B i = none ∧ o' = o) ∨ (B i = none ∧ ∃ cs cs', o = .cells cs ∧ o' = .cells cs' ∧ WkFL B cs cs')

open Classical in
/-- Boxes are written no more. -/
theorem Rel.shift {w : World} {fr pi : Nat → Nat} {own : Res → List Nat} {s s' : FS} {tm : Array Value} (h : Rel w fr pi own s tm) (B : Nat → Option (Nat × List (List AV))) (hs : ∀ i, WkF B (s.sl i) (s'.sl i))
    (hB : ∀ i sz xs, B i = some (sz, xs) → s.bx i = some (.arr sz xs)) (_hbn : ∀ i, s.bx i = none → s'.bx i = none) (hbs : ∀ i o', s'.bx i = some o' → ∃ o, s.bx i = some o ∧ HF B i o o') (hhas : ∀ i, s.has i → s'.has i) :
    ∃ fr' own', Rel w fr' pi own' s' tm ∧ Ext w w fr fr' pi pi own own' s.has := by
  have hNB : NPB B s.has := fun i sz xs hi x hx a ha => h.boxnp i _ (hB i sz xs hi) x hx a ha
  have key : ∀ i, ∃ O', (∀ x, x ∈ O' → x ∈ own (.slot i)) ∧ O'.Nodup ∧ Lets B w fr pi s.has (s'.sl i) (tm.getD i Go.undef) (own (.slot i)) O' := fun i => (hs i).rep (h.slot i) (h.slotnp i) hNB (h.nd _)
  have keyb : ∀ i, ∃ O', (∀ x, x ∈ O' → x ∈ own (.box i)) ∧ O'.Nodup ∧ (B i ≠ none → O' = []) ∧ ∀ o', s'.bx i = some o' → ∀ (fr' : Nat → Nat) (F : Nat → Prop), Step w w fr fr' F → ShC w fr fr' F (own (.box i)) O' → FzB B w fr' pi s.has → ∃ O2, ORep w fr' pi o' (pi i) O2 ∧ O' = o'.blk (pi i) O2 := by
    intro i
    cases hb' : s'.bx i with
    | none => exact ⟨[], by simp, by simp, fun _ => rfl, fun o' ho' => by cases ho'⟩
    | some o' =>
      obtain ⟨o, hb, hf⟩ := hbs i o' hb'
      obtain ⟨O, g1, g2⟩ := h.box i o hb
      rcases hf with ⟨sz, xs, rfl, hBi, rfl⟩ | ⟨hBn, rfl⟩ | ⟨hBn, cs, cs', rfl, rfl, hw⟩
      · refine ⟨[], by simp, by simp, fun _ => rfl, fun o2 ho2 fr' F st hc hF => ?_⟩
        cases ho2
        exact ⟨[], ⟨rfl, [], .nil, fun k v hk => by simp at hk⟩, rfl⟩
      · refine ⟨own (.box i), fun _ hx => hx, h.nd _, fun hne => absurd hBn hne, fun o2 ho2 fr' F st hc hF => ?_⟩
        cases ho2
        exact ⟨O, g1.mono st (ok := s.has) (fun _ _ => rfl) (h.boxnp i _ hb) (fun x hx => h.live (.box i) x (by rw [g2]; exact hx)) (fun x hx => hc.keep x (by rw [g2]; exact hx)), g2⟩
      · obtain ⟨vs, e, k1, k2, k3⟩ := g1
        replace g2 : own (.box i) = pi i :: O := g2
        have hnd := h.nd (.box i)
        rw [g2, List.nodup_cons] at hnd
        obtain ⟨O', z1, z2, z3⟩ := WkFL.rep hw k2 (h.boxnp i _ hb) hNB hnd.2
        refine ⟨pi i :: O', fun x hx => ?_, List.nodup_cons.2 ⟨fun hm => hnd.1 (z1 _ hm), z2⟩, fun hne => absurd hBn hne, fun o2 ho2 fr' F st hc hF => ?_⟩
        · rw [g2]
          rcases List.mem_cons.1 hx with rfl | hx
          · simp
          · exact List.mem_cons.2 (.inr (z1 x hx))
        · cases ho2
          have hlt : pi i < w.heap.size := h.live (.box i) _ (by simp [g2])
          have hfr := (st.kept (pi i) hlt (hc.keep _ (by simp))).2
          exact ⟨O', ⟨vs, e, k1, z3 fr' F st ⟨fun x hx => hc.keep x (by simp [hx]), fun x hx hnx => hc.full x (by rw [g2]; simp [hx]) (fun hm => by
            rcases List.mem_cons.1 hm with rfl | hm
            · exact hnd.1 hx
            · exact hnx hm)⟩ hF, by omega⟩, rfl⟩
  let own' : Res → List Nat := fun r => match r with
    | .slot i => (key i).choose
    | .box i => if (s'.bx i).isSome then (keyb i).choose else []
  have hsub : ∀ r b, b ∈ own' r → b ∈ own r := by
    intro r b hb
    cases r with
    | slot i => exact (key i).choose_spec.1 b hb
    | box i =>
      simp only [own'] at hb
      split at hb
      · exact (keyb i).choose_spec.1 b hb
      · simp at hb
  let F : Nat → Prop := fun b => (∃ r, b ∈ own r) ∧ ∀ r, b ∉ own' r
  let fr' : Nat → Nat := fun b => if F b then (match w.heap[b]? with | some (.cells c _ _) => max (fr b) c.size | _ => fr b) else fr b
  have hfrF : ∀ b, ¬ F b → fr' b = fr b := fun b hb => if_neg hb
  have hle : ∀ b, fr b ≤ fr' b := by
    intro b
    show fr b ≤ if F b then _ else _
    split
    · split
      · exact Nat.le_max_left _ _
      · exact Nat.le_refl _
    · exact Nat.le_refl _
  have hfull : ∀ b, F b → Full w fr' b := by
    intro b hb c e fz hc
    show c.size ≤ if F b then _ else _
    rw [if_pos hb, hc]
    exact Nat.le_max_right _ _
  have hst : Step w w fr fr' F := ⟨rfl, rfl, rfl, Nat.le_refl _, fun b _ hn => ⟨rfl, hfrF b hn⟩, fun b _ _ => ⟨KeptTo.refl _ _ _, hle b⟩⟩
  have hshc : ∀ r, ShC w fr fr' F (own r) (own' r) := fun r => ⟨fun b hb hF => hF.2 r hb, fun b hb hnb => hfull b ⟨⟨r, hb⟩, fun r' hr' => by
    have := h.dj r r' b hb (hsub r' b hr')
    subst this
    exact hnb hr'⟩⟩
  have hFz : FzB B w fr' pi s.has := by
    intro i sz xs hi
    have hb := hB i sz xs hi
    obtain ⟨k1, k2, k3, k4, vs, ju, e, k5, k6, k7, k8⟩ := h.arr hb
    refine ⟨k4, k3, vs, k6.mono hst (ok := s.has) (fun _ _ => rfl) (flatNP k3) (by simp), cells_row k5 ?_ k7⟩
    have hFi : F (pi i) := by
      refine ⟨⟨.box i, by simp [k1]⟩, fun r hr => ?_⟩
      have := h.dj r (.box i) _ (hsub r _ hr) (by simp [k1])
      subst this
      simp only [own'] at hr
      split at hr
      · rw [(keyb i).choose_spec.2.2.1 (by rw [hi]; simp)] at hr
        simp at hr
      · simp at hr
    have := hfull (pi i) hFi _ _ _ k5
    simp only [List.size_toArray, List.length_append] at this
    omega
  have hNB' : NPB B s'.has := fun i sz xs hi x hx a ha => (hNB i sz xs hi x hx a ha).mono hhas
  refine ⟨fr', own', ⟨fun i => (key i).choose_spec.2.2 fr' F hst (hshc (.slot i)) hFz, fun i => ((hs i).np hNB (h.slotnp i)).mono hhas, fun i o' ho' => ?_, fun i o' ho' => ?_, fun i hi => ?_, fun r => ?_, fun r r' b x1 x2 => h.dj r r' b (hsub r b x1) (hsub r' b x2), fun r b hr => h.live r b (hsub r b hr)⟩,
    ⟨⟨rfl, rfl, rfl, Nat.le_refl _, fun b _ hn => ⟨rfl, hfrF b (fun hF => hn hF.1)⟩, fun b _ _ => ⟨KeptTo.refl _ _ _, hle b⟩⟩, fun r b hb => .inl ⟨r, hsub r b hb⟩, fun _ _ => rfl⟩⟩
  · have hob : own' (.box i) = (keyb i).choose := if_pos (by rw [ho']; rfl)
    obtain ⟨O2, z1, z2⟩ := (keyb i).choose_spec.2.2.2 o' ho' fr' F hst (by rw [← hob]; exact hshc (.box i)) hFz
    exact ⟨O2, z1, by rw [hob]; exact z2⟩
  · obtain ⟨o, hb, hf⟩ := hbs i o' ho'
    have hn := h.boxnp i o hb
    rcases hf with ⟨sz, xs, rfl, hBi, rfl⟩ | ⟨hBn, rfl⟩ | ⟨hBn, cs, cs', rfl, rfl, hw⟩
    · intro a ha; simp at ha
    · exact hn.mono hhas
    · exact fun b hb => (hw.np hNB hn b hb).mono hhas
  · have : own' (.box i) = [] := if_neg (by rw [hi]; simp)
    exact this
  · cases r with
    | slot i => exact (key i).choose_spec.2.1
    | box i =>
      simp only [own']
      split
      · exact (keyb i).choose_spec.2.1
      · simp

end Go.Proofs.YtmjdoonaidolkaaDoor.V
