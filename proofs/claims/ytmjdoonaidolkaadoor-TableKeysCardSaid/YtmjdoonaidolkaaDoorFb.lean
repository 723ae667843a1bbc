/-
  A small logic of values over the model, part 27: states that are told slot by slot; the weakest precondition of code, reckoned.
-/
import Derived.Test.YtmjdoonaidolkaaDoorFa
import Derived.Laws.Externs

/- A small logic of values over the model, part 15: 'ev_sound': every operation that calls nobody. -/
namespace Go.Proofs.YtmjdoonaidolkaaDoor.V

section
variable {P : Program} {o : Oper} {a : Act} {w : World} {fr pi : Nat → Nat} {own : Res → List Nat} {s : FS} (h : Rel w fr pi own s a.tmps) (hd : ∀ t, o.dst = some t → t < a.tmps.size)
include h hd

theorem good_app {x y : Operand} {vx vy : VX} {t u e : TypeId} (ho : o.op = .call { callee := .builtin .append, args := #[x, y], argTypes := #[t, u] }) (ht : P.underlying t = some (.slice e)) {i : TypeInfo} (hi : P.info? e = some i) {z0 : AV}
    (hz : zeroOf P e = some z0) (h0 : i.size ≠ 0) (hzl : z0.cells.length = i.size) (hx : resX x = some vx) (hy : resX y = some vy) {e' : TypeId} (hus' : P.underlying u = some (.slice e'))
    {z : AV} {b : Option (Nat × HObj)} {fl : Bool} {id : Nat} (he : ev fl s.sl s.bx id (.app i.size i.bytes vx vy) = some (z, b)) : Good P o a w fr pi own s.has (s.after (takes fl (.app i.size i.bytes vx vy)) o.dst z b) := by
  simp only [ev] at he
  split at he <;> try (cases he; done)
  rename_i sz' nl ow xs hr
  split at he <;> try (cases he; done)
  rename_i how
  obtain ⟨g1, g2⟩ := opnd0 h hy
  have hz' := hz
  unfold zeroOf at hz'
  obtain ⟨v, k1, k2⟩ := Option.bind_eq_some_iff.1 hz'
  obtain ⟨i', hi', hv⟩ := Option.bind_eq_some_iff.1 k1
  rw [hi] at hi'
  cases hi'
  obtain ⟨r1, r2⟩ := avOf_rep (w := w) (fr := fr) (pi := pi) (ok := s.has) k2
  have hne : z0.cells ≠ [] := fun e => by rw [e] at hzl; simp at hzl; omega
  have hvs : v.cells.size = i.size := by have := (cells_rep r1 hne).length; simp at this; omega
  split at he <;> try (cases he; done)
  rename_i sz2 nl2 ow2 ys hr2
  split at he <;> try (cases he; done)
  rename_i hc
  obtain ⟨c1, c2, c3⟩ := hc
  cases he
  rw [hr2] at g1 g2
  simp only [AV.strip] at g1 g2
  rcases g1.sl_inv with ⟨hyv, hys, _⟩ | ⟨ad, cap, hyv, hys, _⟩ | ⟨bl, of, cap, vs, hyv, _, hlen, hrep, hcells, _⟩
  · subst hys
    exact Good.append h hd ho ht hi hv hvs h0 hx hr (ys := []) (news := []) how ⟨by rw [hyv]; exact Src.ofNil w hus' 0, .nil, by simp⟩ (by simp) c2 c3 fl vy
  · subst hys
    exact Good.append h hd ho ht hi hv hvs h0 hx hr (ys := []) (news := []) how ⟨by rw [hyv]; exact Src.ofSlice w hus' ad 0 cap [] (by simp) (fun j u hj => by simp at hj) (fun u hu' => by simp at hu'), .nil, by simp⟩ (by simp) c2 c3 fl vy
  · have hlen' : ∀ x, x ∈ ys → x.length = i.size := by
      rcases c1 with c1 | c1
      · rw [← c1]; exact hlen
      · have : ys = [] := List.eq_nil_of_length_eq_zero c1
        subst this
        simp
    have hvl : vs.length = ys.length * i.size := by rw [← hrep.length, flatten_len hlen']
    exact Good.append h hd ho ht hi hv hvs h0 hx hr (ys := ys) (news := vs) how ⟨by rw [hyv]; exact Src.ofSlice w hus' _ _ _ _ hvl (fun j u hj => by rw [addr_add]; exact (hcells j u hj).1) (fun u hu' => by
      obtain ⟨k, hk⟩ := List.getElem?_of_mem hu'
      exact (hcells k u hk).2.2), hrep, hlen'⟩ g2.sl_inv c2 c3 fl vy

theorem good_apps {x y : Operand} {vx vy : VX} {t u e : TypeId} (ho : o.op = .call { callee := .builtin .append, args := #[x, y], argTypes := #[t, u] }) (ht : P.underlying t = some (.slice e)) {i : TypeInfo} (hi : P.info? e = some i) {z0 : AV}
    (hz : zeroOf P e = some z0) (h0 : i.size ≠ 0) (hzl : z0.cells.length = i.size) (hx : resX x = some vx) (hy : resX y = some vy) (hus' : P.underlying u = some .string) (hs1 : i.size = 1)
    {z : AV} {b : Option (Nat × HObj)} {fl : Bool} {id : Nat} (he : ev fl s.sl s.bx id (.apps i.bytes vx vy) = some (z, b)) : Good P o a w fr pi own s.has (s.after (takes fl (.apps i.bytes vx vy)) o.dst z b) := by
  simp only [ev] at he
  split at he <;> try (cases he; done)
  rename_i sz' nl ow xs hr
  split at he <;> try (cases he; done)
  rename_i how
  obtain ⟨g1, g2⟩ := opnd0 h hy
  have hz' := hz
  unfold zeroOf at hz'
  obtain ⟨v, k1, k2⟩ := Option.bind_eq_some_iff.1 hz'
  obtain ⟨i', hi', hv⟩ := Option.bind_eq_some_iff.1 k1
  rw [hi] at hi'
  cases hi'
  obtain ⟨r1, r2⟩ := avOf_rep (w := w) (fr := fr) (pi := pi) (ok := s.has) k2
  have hne : z0.cells ≠ [] := fun e => by rw [e] at hzl; simp at hzl; omega
  have hvs : v.cells.size = i.size := by have := (cells_rep r1 hne).length; simp at this; omega
  split at he <;> try (cases he; done)
  rename_i bs hr2
  split at he <;> try (cases he; done)
  rename_i hc
  obtain ⟨c2, c3⟩ := hc
  cases he
  rw [hr2] at g1
  have := Good.append h hd ho ht hi hv hvs h0 hx hr (ys := bytesAV bs) (news := byteCells bs) (by rw [hs1]; exact how) ⟨by rw [g1.str_inv, bytesAV_length, hs1]; exact Src.ofString w hus' bs, bytes_rep bs, by rw [hs1]; exact bytesAV_sz bs⟩ (bytesAV_np _ bs) (by rw [bytesAV_length]; exact c2)
    (by rw [bytesAV_length]; exact c3) fl vy
  rw [hs1] at this
  have ht2 : takes fl (.app 1 i.bytes vx vy) = takes fl (.apps i.bytes vx vy) := by cases vx <;> rfl
  rw [ht2] at this
  exact this

end

theorem takes_nil {fl : Bool} {vo : VOp} (h : ∀ x, vo ≠ .mov x) (h2 : ∀ x, vo ≠ .box x) (h3 : ∀ n x v, vo ≠ .store n x v) (h4 : ∀ p q x y, vo ≠ .app p q x y) (h5 : ∀ p x y, vo ≠ .apps p x y) : takes fl vo = [] := by
  unfold takes
  split <;> first | rfl | (exfalso; first | exact h _ rfl | exact h2 _ rfl | exact h3 _ _ _ rfl | exact h4 _ _ _ _ rfl | exact h5 _ _ _ rfl)

/-- What an operation comes to, it comes to in every world that holds the state. -/
theorem ev_sound {P : Program} {o : Oper} {a : Act} {w : World} {fr pi : Nat → Nat} {own : Res → List Nat} {s : FS} (h : Rel w fr pi own s a.tmps) (hd : ∀ t, o.dst = some t → t < a.tmps.size) {vo : VOp} (hr : resolve P o.op = some vo ∨ vo = .bad) {id : Nat}
    (hid : vo.isAlloc = true → s.bx id = none) {fl : Bool} {z : AV} {b : Option (Nat × HObj)} (he : ev fl s.sl s.bx id vo = some (z, b)) : Good P o a w fr pi own s.has (s.after (takes fl vo) o.dst z b) := by
  rcases hr with hr | rfl
  case inr => simp [ev] at he
  unfold resolve at hr
  split at hr
  · rename_i x ho
    obtain ⟨vx, hx, rfl⟩ := Option.map_eq_some_iff.1 hr
    simp only [ev] at he
    cases he
    exact good_mov h hd (.inl ho) hx fl
  · rename_i x ho
    obtain ⟨vx, hx, rfl⟩ := Option.map_eq_some_iff.1 hr
    simp only [ev] at he
    cases he
    exact good_mov h hd (.inr ho) hx fl
  · rename_i c x y ho
    simp only [Option.bind_eq_some_iff, Option.map_eq_some_iff] at hr
    obtain ⟨vc, hc, vx, hx, vy, hy, rfl⟩ := hr
    exact good_pick h hd ho hc hx hy he
  · rename_i e ho
    obtain ⟨z0, hz, hr⟩ := Option.bind_eq_some_iff.1 hr
    split at hr
    · cases hr
    · rename_i hne
      cases hr
      simp only [ev] at he
      cases he
      exact good_alloc h hd ho hz (by simpa using hne) (hid rfl)
  · rename_i e x ho
    obtain ⟨vx, hx, rfl⟩ := Option.map_eq_some_iff.1 hr
    simp only [ev] at he
    split at he
    · cases he
    · rename_i hne
      cases he
      exact good_box h hd ho hx (by simpa using hne) (hid rfl) fl
  · rename_i t ps ho
    obtain ⟨z0, hz, hr⟩ := Option.bind_eq_some_iff.1 hr
    split at hr
    · rename_i fs hu
      split at hr
      · cases hr
      · rename_i hne
        simp only [Option.bind_eq_some_iff, Option.map_eq_some_iff] at hr
        obtain ⟨pl, hpl, l, hl, rfl⟩ := hr
        exact good_build h hd ho hz hu hpl hl (by simpa using hne) he
    · cases hr
  · rename_i t n ps ho
    split at hr
    · rename_i e hu
      simp only [Option.bind_eq_some_iff] at hr
      obtain ⟨sz, hs, z0, hz, hr⟩ := hr
      split at hr
      · cases hr
      · rename_i hc
        obtain ⟨l, hl, rfl⟩ := Option.map_eq_some_iff.1 hr
        have c1 : sz ≠ 0 := fun e => hc (.inl e)
        have c2 : ¬ n * sz > 2 ^ 24 := fun e => hc (.inr (.inl e))
        have c3 : z0.cells.length = sz := Classical.byContradiction fun e => hc (.inr (.inr e))
        exact good_bslice h hd ho hu hs hz c1 c2 c3 hl he
    · cases hr
  · rename_i t x ho
    simp only [Option.bind_eq_some_iff, Option.map_eq_some_iff] at hr
    obtain ⟨g, hg, vx, hx, rfl⟩ := hr
    exact good_load h hd ho hg hx he
  · rename_i t x v ho
    simp only [Option.bind_eq_some_iff] at hr
    obtain ⟨n, hn, hr⟩ := hr
    split at hr
    · cases hr
    · rename_i hn0
      simp only [Option.bind_eq_some_iff, Option.map_eq_some_iff] at hr
      obtain ⟨vx, hx, vv, hv, rfl⟩ := hr
      exact good_store h hd ho hn hx hv hn0 he
  · rename_i x ho
    obtain ⟨vx, hx, rfl⟩ := Option.map_eq_some_iff.1 hr
    exact good_nilck h hd ho hx he
  · rename_i op t x y u ho
    simp only [Option.bind_eq_some_iff] at hr
    obtain ⟨vx, hx, vy, hy, hr⟩ := hr
    unfold resBin at hr
    have eqn : ∀ (k : EK) (d : TypeDesc), P.underlying t = some d → k.fits d → resEqn k op vx vy = some vo → Good P o a w fr pi own s.has (s.after (takes fl vo) o.dst z b) := by
      intro k d hdd hk hq
      unfold resEqn at hq
      split at hq
      · cases hq
        exact good_eqn h hd (neq := false) (by simpa using ho) hdd hk hx hy he
      · cases hq
        exact good_eqn h hd (neq := true) (by simpa using ho) hdd hk hx hy he
      · cases hq
    split at hr
    · rename_i hu
      unfold resEqb at hr
      split at hr
      · cases hr
        exact good_eqb h hd (neq := false) (by simpa using ho) hu hx hy he
      · cases hr
        exact good_eqb h hd (neq := true) (by simpa using ho) hu hx hy he
      · cases hr
    · cases hr; exact good_bin h hd ho hx hy he
    · cases hr; exact good_bin h hd ho hx hy he
    · rename_i fs hu
      split at hr
      · cases hr
      · rename_i hc
        have hc' : P.stoodInHeld t = false ∧ P.eqGuardType P.depth t = false := by simpa using hc
        split at hr
        · obtain ⟨l, hl, rfl⟩ := Option.map_eq_some_iff.1 hr
          exact good_eqv h hd (neq := false) (by simpa using ho) hu hc'.1 hc'.2 hl hx hy he
        · obtain ⟨l, hl, rfl⟩ := Option.map_eq_some_iff.1 hr
          exact good_eqv h hd (neq := true) (by simpa using ho) hu hc'.1 hc'.2 hl hx hy he
        · cases hr
    · rename_i e hu; exact eqn .ptr _ hu ⟨_, rfl⟩ hr
    · rename_i e hu; exact eqn .slice _ hu ⟨_, rfl⟩ hr
    · rename_i e hu; exact eqn .iface _ hu ⟨_, rfl⟩ hr
    · rename_i p q r hu; exact eqn .func _ hu ⟨_, _, _, rfl⟩ hr
    · cases hr
  · rename_i op t x ho
    obtain ⟨vx, hx, rfl⟩ := Option.map_eq_some_iff.1 hr
    exact good_un h hd ho hx he
  · rename_i t d x ho
    obtain ⟨vx, hx, hr⟩ := Option.bind_eq_some_iff.1 hr
    split at hr
    · rename_i k k' ht hdd
      cases hr; exact good_cvi h hd ho ht hdd hx he
    · rename_i ht hdd
      cases hr; exact good_cvid h hd ho ht hdd hx he
    · rename_i e ht hdd
      split at hr
      · rename_i sz hee _
        cases hr; exact good_cvsb h hd ho ht hdd hee hx he
      · cases hr
    · rename_i e ht hdd
      split at hr
      · rename_i hee
        cases hr; exact good_cvbs h hd ho ht hdd hee hx he
      · cases hr
    · cases hr
  · rename_i t x ho
    split at hr
    · cases hr
    · rename_i d hni hdd
      obtain ⟨vx, hx, rfl⟩ := Option.map_eq_some_iff.1 hr
      simp only [ev] at he
      cases he
      exact good_ifc h hd ho hdd (fun ms e => hni ms e) hx
    · cases hr
  · rename_i f first caps ho
    split at hr
    · rename_i hf
      obtain ⟨l, hl, rfl⟩ := Option.map_eq_some_iff.1 hr
      simp only [ev] at he
      cases he
      exact good_fn h hd ho hf hl
    · cases hr
  · rename_i t x y ho
    split at hr
    · rename_i e ht
      split at hr
      · rename_i i z0 hi hz
        split at hr
        · cases hr
        · rename_i hc
          have c1 : i.size ≠ 0 := fun e => hc (.inl e)
          have c2 : z0.cells.length = i.size := Classical.byContradiction fun e => hc (.inr e)
          simp only [Option.bind_eq_some_iff] at hr
          obtain ⟨vx, hx, vy, hy, hr⟩ := hr
          split at hr
          · rename_i p q
            split at hr
            · rename_i e
              subst e
              cases hr
              have ex : x = .tmp p := by
                cases x <;> simp [resX] at hx
                subst hx; rfl
              have ey : y = .tmp p := by
                cases y <;> simp [resX] at hy
                subst hy; rfl
              exact good_mk h hd ho ht hi hz c1 c2 hx (by rw [ex, ey]) (hid rfl) he
            · cases hr
          · rename_i p q
            split at hr
            · rename_i e
              subst e
              cases hr
              have hx' := (opnd h hx).choose_spec.1
              have hy' := (opnd h hy).choose_spec.1
              exact good_mk h hd ho ht hi hz c1 c2 hx (by rw [hx'.int_inv, hy'.int_inv]) (hid rfl) he
            · cases hr
          · cases hr
      · cases hr
    · cases hr
  · rename_i t x lo hi ho
    simp only [Option.bind_eq_some_iff] at hr
    obtain ⟨vx, hx, vl, hl, vh, hh, hr⟩ := hr
    split at hr
    · rename_i ht
      cases hr; exact good_slstr h hd ho ht hx hl hh he
    · rename_i e ht
      obtain ⟨sz, hs, rfl⟩ := Option.map_eq_some_iff.1 hr
      exact good_slsl h hd ho ht hs hx hl hh he
    · cases hr
  · rename_i t x f ho
    split at hr
    · rename_i fs ht
      simp only [Option.bind_eq_some_iff] at hr
      obtain ⟨fd, hf, sz, hs, hr⟩ := hr
      split at hr
      · cases hr
      · rename_i h0
        obtain ⟨vx, hx, rfl⟩ := Option.map_eq_some_iff.1 hr
        exact good_fld h hd ho ht hf hs h0 hx he
    · cases hr
  · rename_i t x f ho
    split at hr
    · rename_i fs ht
      simp only [Option.bind_eq_some_iff, Option.map_eq_some_iff] at hr
      obtain ⟨fd, hf, g, hg, vx, hx, rfl⟩ := hr
      exact good_fldv h hd ho ht hf hg hx he
    · cases hr
  · rename_i t x i ho
    simp only [Option.bind_eq_some_iff] at hr
    obtain ⟨vx, hx, vi, hi, hr⟩ := hr
    split at hr
    · rename_i e ht
      obtain ⟨sz, hs, rfl⟩ := Option.map_eq_some_iff.1 hr
      exact good_ixa h hd ho ht hs hx hi he
    · rename_i n e ht
      obtain ⟨sz, hs, rfl⟩ := Option.map_eq_some_iff.1 hr
      exact good_ixarr h hd ho ht hs hx hi he
    · cases hr
  · rename_i t x i ho
    simp only [Option.bind_eq_some_iff] at hr
    obtain ⟨vx, hx, vi, hi, hr⟩ := hr
    split at hr
    · rename_i ht
      cases hr; exact good_ixs h hd ho ht hx hi he
    · cases hr
  · rename_i x i ho
    obtain ⟨vx, hx, rfl⟩ := Option.map_eq_some_iff.1 hr
    exact good_ext h hd ho hx he
  · rename_i c ho
    unfold resCall at hr
    split at hr
    · simp only [Option.bind_eq_some_iff, Option.map_eq_some_iff] at hr
      obtain ⟨_, _, _, _, rfl⟩ := hr
      simp [ev] at he
    · rename_i hcal
      split at hr
      · rename_i x t hargs htys
        have hc : c = { callee := .builtin .len, args := #[x], argTypes := #[t] } := by
          obtain ⟨cc, ca, ct⟩ := c
          simp only at hcal hargs htys
          subst hcal
          congr 1
          · apply Array.ext'; simpa using hargs
          · apply Array.ext'; simpa using htys
        rw [hc] at ho
        split at hr
        · rename_i ht
          obtain ⟨vx, hx, rfl⟩ := Option.map_eq_some_iff.1 hr
          exact good_lens h hd ho ht hx he
        · rename_i e ht
          obtain ⟨vx, hx, rfl⟩ := Option.map_eq_some_iff.1 hr
          exact good_lenl h hd ho ht hx he
        · cases hr
      · cases hr
    · rename_i hcal
      split at hr
      · rename_i x y t u hargs htys
        have hc : c = { callee := .builtin .append, args := #[x, y], argTypes := #[t, u] } := by
          obtain ⟨cc, ca, ct⟩ := c
          simp only at hcal hargs htys
          subst hcal
          congr 1
          · apply Array.ext'; simpa using hargs
          · apply Array.ext'; simpa using htys
        rw [hc] at ho
        split at hr
        · rename_i e ht
          split at hr
          · rename_i i z0 hi hz
            split at hr
            · cases hr
            · rename_i hcc
              have c1 : i.size ≠ 0 := fun e => hcc (.inl e)
              have c2 : z0.cells.length = i.size := Classical.byContradiction fun e => hcc (.inr e)
              split at hr
              · rename_i e' hu
                simp only [Option.bind_eq_some_iff, Option.map_eq_some_iff] at hr
                obtain ⟨vx, hx, vy, hy, rfl⟩ := hr
                exact good_app h hd ho ht hi hz c1 c2 hx hy hu he
              · rename_i hu
                split at hr
                · rename_i hs1
                  simp only [Option.bind_eq_some_iff, Option.map_eq_some_iff] at hr
                  obtain ⟨vx, hx, vy, hy, rfl⟩ := hr
                  exact good_apps h hd ho ht hi hz c1 c2 hx hy hu hs1 he
                · cases hr
              · cases hr
          · cases hr
        · cases hr
      · cases hr
    · rename_i hcal
      split at hr
      · rename_i x y t u hargs htys
        have hc : c = { callee := .builtin .copy, args := #[x, y], argTypes := #[t, u] } := by
          obtain ⟨cc, ca, ct⟩ := c
          simp only at hcal hargs htys
          subst hcal
          congr 1
          · apply Array.ext'; simpa using hargs
          · apply Array.ext'; simpa using htys
        rw [hc] at ho
        split at hr
        · rename_i e ht
          split at hr
          · rename_i hs1
            split at hr
            · simp only [Option.bind_eq_some_iff, Option.map_eq_some_iff] at hr
              obtain ⟨vx, hx, vy, hy, rfl⟩ := hr
              exact good_cpy h hd ho ht hs1 hx hy he
            · cases hr
          · cases hr
        · cases hr
      · cases hr
    · rename_i hcal
      split at hr
      · rename_i x y hargs
        have hc : c = { callee := .builtin (if true then .max else .min), args := #[x, y], argTypes := c.argTypes } := by
          obtain ⟨cc, ca, ct⟩ := c
          simp only at hcal hargs
          subst hcal
          congr 1
          apply Array.ext'; simpa using hargs
        rw [hc] at ho
        simp only [Option.bind_eq_some_iff, Option.map_eq_some_iff] at hr
        obtain ⟨vx, hx, vy, hy, rfl⟩ := hr
        exact good_mm h hd (mx := true) ho hx hy he
      · cases hr
    · rename_i hcal
      split at hr
      · rename_i x y hargs
        have hc : c = { callee := .builtin (if false then .max else .min), args := #[x, y], argTypes := c.argTypes } := by
          obtain ⟨cc, ca, ct⟩ := c
          simp only at hcal hargs
          subst hcal
          congr 1
          apply Array.ext'; simpa using hargs
        rw [hc] at ho
        simp only [Option.bind_eq_some_iff, Option.map_eq_some_iff] at hr
        obtain ⟨vx, hx, vy, hy, rfl⟩ := hr
        exact good_mm h hd (mx := false) ho hx hy he
      · cases hr
    · cases hr
  · cases hr

end Go.Proofs.YtmjdoonaidolkaaDoor.V

/- A small logic of values over the model, part 16: calls by contract; one step of a region, wherever it stands. -/
namespace Go.Proofs.YtmjdoonaidolkaaDoor.V

/-- A state out of lists: slots, boxes. -/
def FS.of (t : List AV) (h : List HObj) : FS := ⟨fun i => t.getD i .undef, fun i => h[i]?⟩

def callable (P : Program) (f : Nat) : Bool :=
  match P.funcs[f]? with
  | some fn => !(fn.name == "runtime.NumGoroutine") && fn.body.isSome
  | none => false

/-- Is it there: with a body, or one for which the model stands in? -/
def known (P : Program) (f : Nat) : Bool :=
  match P.funcs[f]? with
  | some fn => !(fn.name == "runtime.NumGoroutine") && (fn.body.isSome || ((Extern.findNext fn).isNone && (Extern.find fn).isSome))
  | none => false

/-- What a call comes to: its body's run, or what stands in for it. -/
def Runs (P : Program) (f : Nat) (vals : Array Value) (w : World) (Q : Ending → World → Prop) : Prop :=
  match callable P f with
  | true => Calls P f vals w Q
  | false => ∃ fn e v w', P.funcs[f]? = some fn ∧ (fn.name == "runtime.NumGoroutine") = false ∧ fn.body.isNone = true ∧ Extern.findNext fn = none ∧ Extern.find fn = some e ∧ (e vals).run P w = .ok v w' ∧ Q (.returned v) w'

theorem Runs.mono {P : Program} {f : Nat} {vals : Array Value} {w : World} {Q Q' : Ending → World → Prop} (h : Runs P f vals w Q) (hq : ∀ e w', Q e w' → Q' e w') : Runs P f vals w Q' := by
  unfold Runs at *
  split at h
  · exact h.mono hq
  · obtain ⟨fn, e, v, w', h1, h2, h3, h4, h5, h6, h7⟩ := h
    exact ⟨fn, e, v, w', h1, h2, h3, h4, h5, h6, hq _ _ h7⟩

theorem Runs.of {P : Program} {f : Nat} {vals : Array Value} {w : World} {Q : Ending → World → Prop} (hc : callable P f = true) (h : Calls P f vals w Q) : Runs P f vals w Q := by
  unfold Runs
  rw [hc]
  exact h

theorem Runs.calls {P : Program} {f : Nat} {vals : Array Value} {w : World} {Q : Ending → World → Prop} (hc : callable P f = true) (h : Runs P f vals w Q) : Calls P f vals w Q := by
  unfold Runs at h
  rw [hc] at h
  exact h

theorem known_of {P : Program} {f : Nat} (h : callable P f = true) : known P f = true := by
  unfold callable at h
  unfold known
  split at h
  · simp only [Bool.and_eq_true] at h ⊢
    exact ⟨h.1, by rw [h.2]; rfl⟩
  · cases h

/-- An operation that calls. -/
theorem exec_call {P : Program} {o : Oper} {a : Act} {w : World} {c : Call} {x : Operand} {g : Nat} (hoc : o.op = .call c) (hcal : c.callee = .value x) (hfv : a.eval x = .func (.func g) #[] #[]) {Q : Ending → World → Prop} (hr : Runs P g (c.args.toList.map a.eval).toArray w Q)
    {K : Act → World → Prop} {Q' : Exit → Act → World → Prop} (hQ : ∀ e w', Q e w' → ∃ v, e = .returned v ∧ K (a.put o.dst v) w') : o.wp P a w K Q' := by
  have harr : c.args.map a.eval = (c.args.toList.map a.eval).toArray := by
    apply Array.ext'
    simp
  cases hcb : callable P g with
  | true =>
    have hr := hr.calls hcb
    unfold callable at hcb
    split at hcb
    · rename_i fn hfn
      simp only [Bool.and_eq_true, Bool.not_eq_true', Option.isSome_iff_exists] at hcb
      obtain ⟨hname, body, hbody⟩ := hcb
      have hrun : (execOp a.eval o).run P w = .ok (.enter g (c.args.toList.map a.eval).toArray) w := by
        simp only [execOp, hoc, Go.resolve, hcal, hfv, Deferred.ofValue, Sem.run_bind, Sem.run_pure, Result.andThen_ok, invoke, callFunc, run_program, hfn, hname, Bool.false_eq_true, ↓reduceIte, hbody, Option.isNone_some, harr]
        simp
      unfold Oper.wp
      rw [hrun, Oper.upon_enter]
      refine hr.mono fun e w' hp => ?_
      obtain ⟨v, rfl, hk⟩ := hQ e w' hp
      exact hk
    · cases hcb
  | false =>
    unfold Runs at hr
    rw [hcb] at hr
    obtain ⟨fn, e, v, w', h1, h2, h3, h4, h5, h6, h7⟩ := hr
    obtain ⟨v', e', hk⟩ := hQ _ _ h7
    cases e'
    have hrun : (execOp a.eval o).run P w = .ok (.value v) w' := by
      have := run_callFunc_extern h1 h2 h3 h4 h5 (c.args.toList.map a.eval).toArray w
      rw [h6] at this
      simp only [execOp, hoc, Go.resolve, hcal, hfv, Deferred.ofValue, Sem.run_bind, Sem.run_pure, Result.andThen_ok, invoke, harr]
      simpa using this
    unfold Oper.wp
    rw [hrun]
    exact hk

/-- A contract: called with these, the function returns that; boxes too. -/
def VCall (P : Program) (f : Nat) (args : List AV) (h : List HObj) (ret : AV) (h' : List HObj) : Prop :=
  known P f = true ∧ h.length ≤ h'.length ∧ ∀ (w : World) (fr pi : Nat → Nat) (own : Res → List Nat) (vals : List Value), vals.length = args.length → Rel w fr pi own (FS.of args h) vals.toArray →
    Runs P f vals.toArray w fun e w' => ∃ v fr' pi' own', e = .returned v ∧ Rel w' fr' pi' own' (FS.of [ret] h') #[v] ∧ Ext w w' fr fr' pi pi' own own' (fun i => i < h.length)

/-- A contract that knows of no box. -/
def PCall (P : Program) (f : Nat) (args : List AV) (ret : AV) : Prop := VCall P f args [] ret []

/-- The callee's own state, cut out of the caller's. -/
def cutOwn (own : Res → List Nat) (args : List VX) (bx : Bool) : Res → List Nat
  | .slot j => match args[j]? with
    | some (.tmp t) => own (.slot t)
    | _ => []
  | .box i => if bx then own (.box i) else []

def argTmps : List VX → List Nat
  | [] => []
  | .tmp t :: r => t :: argTmps r
  | .cst _ :: r => argTmps r

theorem mem_argTmps {args : List VX} {j t : Nat} (h : args[j]? = some (.tmp t)) : t ∈ argTmps args := by
  induction args generalizing j with
  | nil => simp at h
  | cons x r ih =>
    cases j with
    | zero => simp at h; subst h; simp [argTmps]
    | succ j =>
      have := ih (by simpa using h)
      cases x <;> simp [argTmps, this]

theorem argTmps_inj {args : List VX} (hn : (argTmps args).Nodup) {i j t : Nat} (hi : args[i]? = some (.tmp t)) (hj : args[j]? = some (.tmp t)) : i = j := by
  induction args generalizing i j with
  | nil => simp at hi
  | cons x r ih =>
    cases x with
    | tmp u =>
      simp only [argTmps, List.nodup_cons] at hn
      cases i with
      | zero =>
        cases j with
        | zero => rfl
        | succ j =>
          simp at hi
          subst hi
          exact absurd (mem_argTmps (by simpa using hj)) hn.1
      | succ i =>
        cases j with
        | zero =>
          simp at hj
          subst hj
          exact absurd (mem_argTmps (by simpa using hi)) hn.1
        | succ j => exact congrArg (· + 1) (ih (i := i) (j := j) hn.2 (by simpa using hi) (by simpa using hj))
    | cst c =>
      simp only [argTmps] at hn
      cases i with
      | zero => simp at hi
      | succ i =>
        cases j with
        | zero => simp at hj
        | succ j => exact congrArg (· + 1) (ih (i := i) (j := j) hn (by simpa using hi) (by simpa using hj))

theorem resXs_get : ∀ {xs : List Operand} {vs : List VX}, resXs xs = some vs → xs.length = vs.length ∧ ∀ (i : Nat) (x : Operand) (v : VX), xs[i]? = some x → vs[i]? = some v → resX x = some v
  | [], vs, h => by
    simp [resXs] at h
    subst h
    simp
  | x :: xs, vs, h => by
    simp only [resXs, Option.bind_eq_some_iff, Option.map_eq_some_iff] at h
    obtain ⟨v, h1, r, h2, rfl⟩ := h
    obtain ⟨k1, k2⟩ := resXs_get h2
    refine ⟨by simp [k1], fun i y u hy hu => ?_⟩
    cases i with
    | zero => simp at hy hu; subst hy hu; exact h1
    | succ i => exact k2 i y u (by simpa using hy) (by simpa using hu)

/-- The callee's state holds in the caller's world. -/
theorem Rel.cut {w : World} {fr pi : Nat → Nat} {own : Res → List Nat} {s : FS} {a : Act} (h : Rel w fr pi own s a.tmps) {xs : List Operand} {vs : List VX} (hx : resXs xs = some vs) (hnd : (argTmps vs).Nodup) (bx : Bool)
    (hnp : bx = false → ∀ v, v ∈ vs → NP (fun _ => False) (rdX s.sl v)) :
    Rel w fr pi (cutOwn own vs bx) ⟨fun i => (vs.map (rdX s.sl)).getD i .undef, fun i => if bx then s.bx i else none⟩ (xs.map a.eval).toArray := by
  obtain ⟨k1, k2⟩ := resXs_get hx
  have hget : ∀ i : Nat, (∃ (x : Operand) (v : VX), xs[i]? = some x ∧ vs[i]? = some v) ∨ (xs[i]? = none ∧ vs[i]? = none) := by
    intro i
    rcases Nat.lt_or_ge i xs.length with hi | hi
    · exact .inl ⟨_, _, List.getElem?_eq_getElem hi, List.getElem?_eq_getElem (by omega)⟩
    · exact .inr ⟨List.getElem?_eq_none hi, List.getElem?_eq_none (by omega)⟩
  have hsub : ∀ r b, b ∈ cutOwn own vs bx r → ∃ r', b ∈ own r' ∧ (∀ j, r = .slot j → ∃ t, vs[j]? = some (.tmp t) ∧ r' = .slot t) ∧ (∀ j, r = .box j → r' = .box j) := by
    intro r b hb
    cases r with
    | slot j =>
      simp only [cutOwn] at hb
      split at hb
      · rename_i t ht
        exact ⟨_, hb, fun j' e => by cases e; exact ⟨t, ht, rfl⟩, fun j' e => by cases e⟩
      · simp at hb
    | box j =>
      simp only [cutOwn] at hb
      split at hb
      · exact ⟨_, hb, (fun j' e => by cases e), (fun j' e => by cases e; rfl)⟩
      · simp at hb
  refine ⟨fun i => ?_, fun i => ?_, fun i o ho => ?_, fun i o ho => ?_, fun i hi => ?_, fun r => ?_, fun r r' b x1 x2 => ?_, fun r b hb => ?_⟩
  · rcases hget i with ⟨x, v, hxi, hvi⟩ | ⟨hxi, hvi⟩
    · obtain ⟨O, h1, h2, h3, h4⟩ := opnd h (k2 i x v hxi hvi)
      have e1 : (vs.map (rdX s.sl)).getD i .undef = rdX s.sl v := by simp [List.getD, hvi]
      have e2 : (xs.map a.eval).toArray.getD i Go.undef = a.eval x := by simp [Array.getD_eq_getD_getElem?, hxi]
      show Rep w fr pi ((vs.map (rdX s.sl)).getD i .undef) _ _
      rw [e1, e2]
      simp only [cutOwn, hvi]
      cases v with
      | tmp t =>
        have hre : resX x = some (.tmp t) := k2 i x _ hxi hvi
        have hxt : x = .tmp t := by
          cases x <;> simp [resX] at hre
          subst hre; rfl
        subst hxt
        exact h.slot t
      | cst c =>
        have hO : O = [] := by
          cases O with
          | nil => rfl
          | cons b r => obtain ⟨t, e, _⟩ := h4 b (by simp); cases e
        subst hO
        exact h1
    · have e1 : (vs.map (rdX s.sl)).getD i .undef = .undef := by simp [List.getD, hvi]
      show Rep w fr pi ((vs.map (rdX s.sl)).getD i .undef) _ _
      rw [e1]
      simp only [cutOwn, hvi]
      exact .undef _
  · rcases hget i with ⟨x, v, hxi, hvi⟩ | ⟨hxi, hvi⟩
    · obtain ⟨O, h1, h2, h3, h4⟩ := opnd h (k2 i x v hxi hvi)
      have e1 : (vs.map (rdX s.sl)).getD i .undef = rdX s.sl v := by simp [List.getD, hvi]
      show NP _ ((vs.map (rdX s.sl)).getD i .undef)
      rw [e1]
      cases bx with
      | true => exact h2
      | false => exact (hnp rfl v (List.mem_of_getElem? hvi)).mono (fun _ h => h.elim)
    · have e1 : (vs.map (rdX s.sl)).getD i .undef = .undef := by simp [List.getD, hvi]
      show NP _ ((vs.map (rdX s.sl)).getD i .undef)
      rw [e1]
      exact .undef
  · cases bx with
    | true => exact h.box i o ho
    | false => cases ho
  · cases bx with
    | true => exact h.boxnp i o ho
    | false => cases ho
  · cases bx with
    | true => exact h.nobox i hi
    | false => rfl
  · cases r with
    | slot j =>
      simp only [cutOwn]
      split
      · exact h.nd _
      · simp
    | box j =>
      simp only [cutOwn]
      split
      · exact h.nd _
      · simp
  · obtain ⟨q1, m1, m2, m3⟩ := hsub r b x1
    obtain ⟨q2, n1, n2, n3⟩ := hsub r' b x2
    have hq := h.dj q1 q2 b m1 n1
    subst hq
    cases r with
    | slot j =>
      obtain ⟨t, ht, e⟩ := m2 j rfl
      cases r' with
      | slot j' =>
        obtain ⟨t', ht', e'⟩ := n2 j' rfl
        rw [e] at e'
        cases e'
        rw [argTmps_inj hnd ht ht']
      | box j' =>
        have := n3 j' rfl
        rw [e] at this
        cases this
    | box j =>
      have e := m3 j rfl
      cases r' with
      | slot j' =>
        obtain ⟨t', ht', e'⟩ := n2 j' rfl
        rw [e] at e'
        cases e'
      | box j' =>
        have := n3 j' rfl
        rw [e] at this
        cases this
        rfl
  · obtain ⟨q, m, _⟩ := hsub r b hb
    exact h.live q b m

/-- What the callee comes to, laid into the caller's state. -/
theorem Rel.paste {_P : Program} {w w' : World} {fr fr' pi pi' : Nat → Nat} {own own' : Res → List Nat} {s : FS} {a : Act} (h : Rel w fr pi own s a.tmps) {d : Option Nat} (hd : ∀ t, d = some t → t < a.tmps.size) {vs : List VX} (bx : Bool)
    {ret : AV} {v : Value} {bx' : Nat → Option HObj} (hr : Rel w' fr' pi' own' ⟨fun i => [ret].getD i .undef, bx'⟩ #[v]) (he : Ext w w' fr fr' pi pi' (cutOwn own vs bx) own' (fun i => bx = true ∧ s.has i))
    (hbx : bx = false → bx' = fun _ => none) (hhas : bx = true → ∀ i, s.has i → ∃ o, bx' i = some o) :
    ∃ own2, Rel w' fr' (if bx then pi' else pi) own2 (({ s.strip (argTmps vs) with bx := if bx then bx' else s.bx } : FS).putO d ret) (a.put d v).tmps ∧ Ext w w' fr fr' pi (if bx then pi' else pi) own own2 s.has := by
  have hstrip := h.strip (argTmps vs)
  -- what the callee owned is of the caller's arguments and boxes
  have hcut : ∀ r b, b ∈ cutOwn own vs bx r → (∃ t, t ∈ argTmps vs ∧ b ∈ own (.slot t)) ∨ (bx = true ∧ ∃ i, b ∈ own (.box i)) := by
    intro r b hb
    cases r with
    | slot j =>
      simp only [cutOwn] at hb
      split at hb
      · rename_i t ht
        exact .inl ⟨t, mem_argTmps ht, hb⟩
      · simp at hb
    | box j =>
      simp only [cutOwn] at hb
      split at hb
      · rename_i hbx
        exact .inr ⟨hbx, j, hb⟩
      · simp at hb
  have hnot : ∀ i b, b ∈ ownStrip own (argTmps vs) (.slot i) → ¬ ∃ r, b ∈ cutOwn own vs bx r := by
    rintro i b hb ⟨r, hr⟩
    rcases hcut r b hr with ⟨t, ht, hb'⟩ | ⟨_, j, hb'⟩
    · have := h.dj _ _ b (ownStrip_sub hb) hb'
      cases this
      simp [ownStrip, ht] at hb
    · have := h.dj _ _ b (ownStrip_sub hb) hb'
      cases this
  have hnotb : bx = false → ∀ i b, b ∈ own (.box i) → ¬ ∃ r, b ∈ cutOwn own vs bx r := by
    rintro hbx i b hb ⟨r, hr⟩
    rcases hcut r b hr with ⟨t, ht, hb'⟩ | ⟨hb1, _⟩
    · have := h.dj _ _ b hb hb'
      cases this
    · rw [hbx] at hb1; cases hb1
  have hpi : ∀ i, s.has i → (if bx then pi' else pi) i = pi i := by
    intro i hi
    cases bx with
    | true => exact he.pi i ⟨rfl, hi⟩
    | false => rfl
  -- the state but for the result
  let own1 : Res → List Nat := fun r => match r with
    | .slot i => ownStrip own (argTmps vs) (.slot i)
    | .box i => if bx then own' (.box i) else own (.box i)
  let s1 : FS := { s.strip (argTmps vs) with bx := if bx then bx' else s.bx }
  have hh : ∀ i, s.has i → s1.has i := by
    intro i hi
    cases hb : bx with
    | true => obtain ⟨o, ho⟩ := hhas hb i hi; exact ⟨o, by simp [s1, hb, ho]⟩
    | false => obtain ⟨o, ho⟩ := hi; exact ⟨o, by simp [s1, hb, ho]⟩
  have hfresh : ∀ r b, b ∈ own' r → (∃ t, t ∈ argTmps vs ∧ b ∈ own (.slot t)) ∨ (bx = true ∧ ∃ i, b ∈ own (.box i)) ∨ w.heap.size ≤ b := by
    intro r b hb
    rcases he.fresh r b hb with ⟨r', hr'⟩ | h'
    · rcases hcut r' b hr' with h1 | h1
      · exact .inl h1
      · exact .inr (.inl h1)
    · exact .inr (.inr h')
  have hdj1 : ∀ i b, b ∈ ownStrip own (argTmps vs) (.slot i) → ∀ r, b ∉ own' r := by
    intro i b hb r hr'
    rcases hfresh r b hr' with ⟨t, ht, hb'⟩ | ⟨_, j, hb'⟩ | hlt
    · exact hnot i b hb (by
        have := h.dj _ _ b (ownStrip_sub hb) hb'
        cases this
        simp [ownStrip, ht] at hb)
    · have := h.dj _ _ b (ownStrip_sub hb) hb'
      cases this
    · have := h.live _ b (ownStrip_sub hb)
      omega
  have hdj2 : bx = false → ∀ i b, b ∈ own (.box i) → ∀ r, b ∉ own' r := by
    intro hb0 i b hb r hr'
    rcases hfresh r b hr' with ⟨t, ht, hb'⟩ | ⟨hb1, _⟩ | hlt
    · have := h.dj _ _ b hb hb'
      cases this
    · rw [hb0] at hb1; cases hb1
    · have := h.live _ b hb
      omega
  have hRel1 : Rel w' fr' (if bx then pi' else pi) own1 s1 a.tmps := by
    refine ⟨fun i => ?_, fun i => (hstrip.slotnp i).mono hh, fun i o ho => ?_, fun i o ho => ?_, fun i hi => ?_, fun r => ?_, fun r r' b x1 x2 => ?_, fun r b hb => ?_⟩
    · exact (hstrip.slot i).mono he.step hpi (hstrip.slotnp i) (hnot i)
    · cases hb : bx with
      | true =>
        simp only [s1, hb, ↓reduceIte] at ho
        simpa [own1, hb] using hr.box i o ho
      | false =>
        simp only [s1, hb, Bool.false_eq_true, ↓reduceIte] at ho
        obtain ⟨O, h1, h2⟩ := h.box i o ho
        refine ⟨O, ?_, by simpa [own1, hb] using h2⟩
        simp only [Bool.false_eq_true, ↓reduceIte]
        exact h1.mono he.step (fun _ _ => rfl) (h.boxnp i o ho) (h.live (.box i) _ (by simp [h2])) (hnotb hb i _ (by simp [h2])) (fun x hx => hnotb hb i x (by simp [h2, hx]))
    · cases hb : bx with
      | true =>
        simp only [s1, hb, ↓reduceIte] at ho
        have := hr.boxnp i o ho
        exact this.mono (fun j ⟨o', hj⟩ => ⟨o', by simpa [s1, hb] using hj⟩)
      | false =>
        simp only [s1, hb, Bool.false_eq_true, ↓reduceIte] at ho
        exact (h.boxnp i o ho).mono hh
    · cases hb : bx with
      | true =>
        simp only [s1, hb, ↓reduceIte] at hi
        simpa [own1, hb] using hr.nobox i hi
      | false =>
        simp only [s1, hb, Bool.false_eq_true, ↓reduceIte] at hi
        simpa [own1, hb] using h.nobox i hi
    · cases r with
      | slot i => exact hstrip.nd (.slot i)
      | box i =>
        simp only [own1]
        split
        · exact hr.nd _
        · exact h.nd _
    · cases r with
      | slot i =>
        cases r' with
        | slot j => exact hstrip.dj (.slot i) (.slot j) b x1 x2
        | box j =>
          exfalso
          simp only [own1] at x1 x2
          split at x2
          · exact hdj1 i b x1 _ x2
          · have := h.dj _ _ b (ownStrip_sub x1) x2
            cases this
      | box i =>
        cases r' with
        | slot j =>
          exfalso
          simp only [own1] at x1 x2
          split at x1
          · exact hdj1 j b x2 _ x1
          · have := h.dj _ _ b (ownStrip_sub x2) x1
            cases this
        | box j =>
          simp only [own1] at x1 x2
          split at x1
          · rename_i hb
            rw [if_pos hb] at x2
            exact hr.dj _ _ b x1 x2
          · rename_i hb
            rw [if_neg hb] at x2
            exact h.dj _ _ b x1 x2
    · have hsz := he.step.size
      cases r with
      | slot i =>
        have := h.live _ b (ownStrip_sub hb)
        omega
      | box i =>
        simp only [own1] at hb
        split at hb
        · exact hr.live _ b hb
        · have := h.live _ b hb
          omega
  have hret : Rep w' fr' (if bx then pi' else pi) ret v (own' (.slot 0)) ∧ NP s1.has ret := by
    have h0 := hr.slot 0
    have h1 := hr.slotnp 0
    simp at h0 h1
    cases hb : bx with
    | true =>
      refine ⟨by simpa using h0, h1.mono (fun j ⟨o', hj⟩ => ⟨o', by simpa [s1, hb] using hj⟩)⟩
    | false =>
      have hno : ∀ i, ¬ FS.has ⟨fun i => ([ret] : List AV).getD i .undef, bx'⟩ i := by
        rintro i ⟨o, ho⟩
        simp [hbx hb] at ho
      refine ⟨?_, h1.mono (fun j hj => absurd hj (hno j))⟩
      simp only [Bool.false_eq_true, ↓reduceIte]
      exact h0.mono (ok := FS.has ⟨fun i => ([ret] : List AV).getD i .undef, bx'⟩) (Step.refl w' fr' (fun _ => False)) (fun j hj => absurd hj (hno j)) h1 (by simp)
  obtain ⟨own2, g1, g2⟩ := hRel1.putO (a := a) (d := d) hd hret.1 hret.2 (hr.nd _) (hr.live _) (by
    intro b hb r hr'
    cases r with
    | slot i => exact hdj1 i b hr' _ hb
    | box i =>
      simp only [own1] at hr'
      split at hr'
      · have := hr.dj _ _ b hb hr'
        cases this
      · rename_i hb0
        exact hdj2 (by simpa using hb0) i b hr' _ hb)
  refine ⟨own2, g1, ⟨he.step.mono (fun b hb ⟨r, hr'⟩ => ?_), fun r b hb => ?_, hpi⟩⟩
  · rcases hcut r b hr' with ⟨t, _, h1⟩ | ⟨_, i, h1⟩
    · exact ⟨_, h1⟩
    · exact ⟨_, h1⟩
  · have key : ∀ b, (∃ r, b ∈ own' r) → (∃ r', b ∈ own r') ∨ w.heap.size ≤ b := by
      rintro b ⟨r, hb⟩
      rcases hfresh r b hb with ⟨t, _, h1⟩ | ⟨_, i, h1⟩ | h1
      · exact .inl ⟨_, h1⟩
      · exact .inl ⟨_, h1⟩
      · exact .inr h1
    rcases g2 r b hb with ⟨r', h3⟩ | h3
    · cases r' with
      | slot i => exact .inl ⟨_, ownStrip_sub h3⟩
      | box i =>
        simp only [own1] at h3
        split at h3
        · exact key b ⟨_, h3⟩
        · exact .inl ⟨_, h3⟩
    · exact key b ⟨_, h3⟩

end Go.Proofs.YtmjdoonaidolkaaDoor.V

/- A small logic of values over the model, part 17: an operation where it stands in its region; a region in the text's order. -/
namespace Go.Proofs.YtmjdoonaidolkaaDoor.V

/-- An operation in its region: the slot that it writes, what it does, or whom it calls; the slot that must hold a Bool, if it is to be done; those that it waits for. -/
structure VOper where
  dst : Option Nat
  op : VOp
  call : Option (VX × List VX)
  guard : Option (Nat × Bool)
  deps : List Nat
  deriving Inhabited

/-- What an operation has done: slots that gave up what they owned, the value, a box. -/
structure SD where
  T : List Nat
  x : AV
  b : Option (Nat × HObj)

def SD.app (d : SD) (dst : Option Nat) (s : FS) : FS := s.after d.T dst d.x d.b

def resGuard (ops : Array Oper) : Option (Nat × Bool) → Option (Option (Nat × Bool))
  | none => some none
  | some (j, want) => ((ops[j]?).bind (·.dst)).map fun d => some (d, want)

def resCallV (o : Op) : Option (VX × List VX) :=
  match o with
  | .call c => match c.callee with
    | .value f => (resX f).bind fun g => (resXs c.args.toList).map fun l => (g, l)
    | _ => none
  | _ => none

def depsOf (o : Oper) : List Nat := (o.after.toList.filter fun e => Region.binds .any e).map (·.on)

def resOper (P : Program) (dr : Bool) (ops : Array Oper) (o : Oper) : Option VOper :=
  (resGuard ops o.guard).bind fun g =>
  match resCallV o.op with
  | some c => some { dst := o.dst, op := .mov (.cst .undef), call := some c, guard := g, deps := if dr then depsOf o else [] }
  | none => some { dst := o.dst, op := (resolve P o.op).getD .bad, call := none, guard := g, deps := if dr then depsOf o else [] }

def VOper.on (o : VOper) (s : Nat → AV) : Prop :=
  match o.guard with
  | none => True
  | some (g, want) => s g = .bool want

def VOper.fl (L : Nat → Bool) (o : VOper) : Bool :=
  match o.dst with
  | some d => L d
  | none => false

/-- Of a guard: not what is wanted. (An operation that was not done yields nothing.) -/
def offV (want : Bool) : AV → Bool
  | .bool b => b != want
  | .tup [] => true
  | _ => false

inductive VStep (P : Program) (L : Nat → Bool) (o : VOper) (s : FS) (id : Nat) : SD → Prop
  | off (g : Nat) (want : Bool) : o.guard = some (g, want) → offV want (s.sl g) = true → VStep P L o s id ⟨[], .tup [], none⟩
  | ev (x : AV) (b : Option (Nat × HObj)) : o.call = none → o.on s.sl → ev (o.fl L) s.sl s.bx id o.op = some (x, b) → VStep P L o s id ⟨takes (o.fl L) o.op, x, b⟩
  | pcall (f : VX) (args : List VX) (g : Nat) (ret : AV) : o.call = some (f, args) → o.on s.sl → rdX s.sl f = .func g [] → (argTmps args).Nodup → (∀ v, v ∈ args → NP (fun _ => False) (rdX s.sl v)) →
      PCall P g (args.map (rdX s.sl)) ret → VStep P L o s id ⟨argTmps args, ret, none⟩
  | bcall (f : VX) (args : List VX) (g : Nat) (ret : AV) (i off : Nat) (rest : List AV) (ob ob' : HObj) : o.call = some (f, args) → o.on s.sl → rdX s.sl f = .func g [] → (argTmps args).Nodup → args.map (rdX s.sl) = .ptr (some (i, off)) :: rest → s.bx i = some ob →
      (∀ a, a ∈ rest → NP (fun _ => False) a) → NPo (fun _ => False) ob → NPo (fun _ => False) ob' → NP (fun _ => False) ret → VCall P g (.ptr (some (0, off)) :: rest) [ob] ret [ob'] → VStep P L o s id ⟨argTmps args, ret, some (i, ob')⟩

theorem resOper_inv {P : Program} {dr : Bool} {ops : Array Oper} {o : Oper} {vo : VOper} (h : resOper P dr ops o = some vo) : vo.dst = o.dst ∧ resGuard ops o.guard = some vo.guard ∧ (dr = true → vo.deps = depsOf o) ∧
    ((vo.call = none ∧ (resolve P o.op = some vo.op ∨ vo.op = .bad)) ∨ ∃ c x f args, vo.call = some (f, args) ∧ o.op = .call c ∧ c.callee = .value x ∧ resX x = some f ∧ resXs c.args.toList = some args) := by
  unfold resOper at h
  obtain ⟨g, hg, h⟩ := Option.bind_eq_some_iff.1 h
  split at h
  · rename_i c hc
    cases h
    refine ⟨rfl, hg, fun e => by rw [e]; rfl, .inr ?_⟩
    unfold resCallV at hc
    split at hc
    · rename_i c' ho
      split at hc
      · rename_i x hx
        simp only [Option.bind_eq_some_iff, Option.map_eq_some_iff] at hc
        obtain ⟨f, hf, l, hl, rfl⟩ := hc
        exact ⟨c', x, f, l, rfl, ho, hx, hf, hl⟩
      · cases hc
    · cases hc
  · cases h
    refine ⟨rfl, hg, fun e => by rw [e]; rfl, .inl ⟨rfl, ?_⟩⟩
    cases hv : resolve P o.op with
    | some v => exact .inl rfl
    | none => exact .inr rfl

theorem Good.wp {P : Program} {o : Oper} {a : Act} {w : World} {fr pi : Nat → Nat} {own : Res → List Nat} {ok : Nat → Prop} {s' : FS} (h : Good P o a w fr pi own ok s') {K : Act → World → Prop} {Q : Exit → Act → World → Prop}
    (hK : ∀ a' w' fr' pi' own', a'.defers = a.defers → a'.tmps.size = a.tmps.size → Rel w' fr' pi' own' s' a'.tmps → Ext w w' fr fr' pi pi' own own' ok → K a' w') : o.wp P a w K Q := by
  obtain ⟨nx, v, w', fr', pi', own', hrun, hnx, hr, he⟩ := h
  have hk : K (a.put o.dst v) w' := hK _ _ _ _ _ (by cases o.dst <;> rfl) (by cases o.dst <;> simp [Act.put]) hr he
  unfold Oper.wp
  rw [hrun]
  rcases hnx with rfl | ⟨rfl, rfl⟩
  · exact hk
  · exact hk

theorem yielded_of {ops : Array Oper} {tm : Array Value} {j d : Nat} {b : Bool} (hd : (ops[j]?).bind (·.dst) = some d) (hv : tm.getD d Go.undef = .bool b) : yielded ops tm j = some b := by
  unfold yielded
  rw [hd]
  simp only [Option.bind_some]
  rw [Array.getD_eq_getD_getElem?] at hv
  cases hh : tm[d]? with
  | none => rw [hh] at hv; simp [Go.undef] at hv
  | some v => rw [hh] at hv; simp at hv; rw [hv]

theorem Rep.piF {w : World} {fr pi pi' : Nat → Nat} {a : AV} {v : Value} {O : List Nat} (h : Rep w fr pi a v O) (hn : NP (fun _ => False) a) : Rep w fr pi' a v O :=
  h.mono (Step.refl w fr (fun _ => False)) (fun _ hi => hi.elim) hn (fun _ _ h => h)
theorem ORep.piF {w : World} {fr pi pi' : Nat → Nat} {o : HObj} {b : Nat} {O : List Nat} (h : ORep w fr pi o b O) (hn : NPo (fun _ => False) o) (hb : b < w.heap.size) : ORep w fr pi' o b O :=
  h.mono (Step.refl w fr (fun _ => False)) (fun _ hi => hi.elim) hn hb (fun h => h) (fun _ _ h => h)

/-- Of all boxes one alone. -/
theorem Rel.one {w : World} {fr pi : Nat → Nat} {own : Res → List Nat} {rest : List AV} {i off : Nat} {bx : Nat → Option HObj} {tm : Array Value} (h : Rel w fr pi own ⟨fun j => (AV.ptr (some (i, off)) :: rest).getD j .undef, bx⟩ tm) {ob : HObj} (hb : bx i = some ob) (hn : ∀ a, a ∈ rest → NP (fun _ => False) a)
    (ho : NPo (fun _ => False) ob) : ∃ own1, Rel w fr (fun _ => pi i) own1 (FS.of (.ptr (some (0, off)) :: rest) [ob]) tm ∧ (∀ r b, b ∈ own1 r → ∃ r', b ∈ own r') ∧ own1 (.box 0) = own (.box i) ∧ (∀ j, own1 (.slot j) = own (.slot j)) := by
  let own1 : Res → List Nat := fun r => match r with
    | .slot j => own (.slot j)
    | .box 0 => own (.box i)
    | .box _ => []
  have hbl : ∀ b, b ∈ own (.box i) → b < w.heap.size := h.live (.box i)
  refine ⟨own1, ⟨fun j => ?_, fun j => ?_, fun j o hj => ?_, fun j o hj => ?_, fun j hj => ?_, fun r => ?_, fun r r' b x1 x2 => ?_, fun r b hb => ?_⟩, fun r b hb => ?_, rfl, fun j => rfl⟩
  · cases j with
    | zero =>
      have h0 := h.slot 0
      have e : (⟨fun j => (AV.ptr (some (i, off)) :: rest).getD j .undef, bx⟩ : FS).sl 0 = .ptr (some (i, off)) := rfl
      rw [e] at h0
      show Rep w fr _ (.ptr (some (0, off))) _ (own (.slot 0))
      generalize tm.getD 0 Go.undef = v at h0
      generalize own (.slot 0) = O at h0
      cases h0
      exact .ptr 0 off
    | succ j =>
      have h0 := h.slot (j + 1)
      refine Rep.piF h0 ?_
      show NP _ (rest.getD j .undef)
      rcases Nat.lt_or_ge j rest.length with hj | hj
      · rw [List.getD_eq_getElem?_getD, List.getElem?_eq_getElem hj]; exact hn _ (List.getElem_mem hj)
      · rw [List.getD_eq_getElem?_getD, List.getElem?_eq_none hj]; exact .undef
  · cases j with
    | zero => exact .ptr 0 off ⟨ob, rfl⟩
    | succ j =>
      show NP _ (rest.getD j .undef)
      rcases Nat.lt_or_ge j rest.length with hj | hj
      · rw [List.getD_eq_getElem?_getD, List.getElem?_eq_getElem hj]; exact (hn _ (List.getElem_mem hj)).mono (fun _ h => h.elim)
      · rw [List.getD_eq_getElem?_getD, List.getElem?_eq_none hj]; exact .undef
  · cases j with
    | succ j => simp [FS.of] at hj
    | zero =>
      have e : o = ob := by simpa [FS.of] using hj.symm
      subst e
      obtain ⟨O, h1, h2⟩ := h.box i o hb
      exact ⟨O, h1.piF ho (hbl _ (by rw [h2]; simp)), h2⟩
  · cases j with
    | succ j => simp [FS.of] at hj
    | zero =>
      have e : o = ob := by simpa [FS.of] using hj.symm
      subst e
      exact ho.mono (fun _ h => h.elim)
  · cases j with
    | zero => simp [FS.of] at hj
    | succ j => rfl
  · cases r with
    | slot j => exact h.nd _
    | box j => cases j with
      | zero => exact h.nd _
      | succ j => exact List.nodup_nil
  · cases r with
    | slot j => cases r' with
      | slot j' => exact h.dj _ _ b x1 x2
      | box j' => cases j' with
        | zero => have := h.dj _ _ b x1 x2; cases this
        | succ j' => simp [own1] at x2
    | box j => cases j with
      | succ j => simp [own1] at x1
      | zero => cases r' with
        | slot j' => have := h.dj _ _ b x1 x2; cases this
        | box j' => cases j' with
          | zero => rfl
          | succ j' => simp [own1] at x2
  · cases r with
    | slot j => exact h.live _ b hb
    | box j => cases j with
      | zero => exact h.live _ b hb
      | succ j => simp [own1] at hb
  · cases r with
    | slot j => exact ⟨_, hb⟩
    | box j => cases j with
      | zero => exact ⟨_, hb⟩
      | succ j => simp [own1] at hb

/-- The one is laid back among the others. -/
theorem Rel.oneBack {w w' : World} {fr fr' pi pi' : Nat → Nat} {own own1 own' : Res → List Nat} {sl : Nat → AV} {bx : Nat → Option HObj} {tm : Array Value} (h : Rel w fr pi own ⟨sl, bx⟩ tm) {i : Nat} {ob ob' : HObj} (hb : bx i = some ob) (ho' : NPo (fun _ => False) ob')
    (hsub : ∀ r b, b ∈ own1 r → ∃ r', b ∈ own r') (h1b : own1 (.box 0) = own (.box i)) (h1s : ∀ j, own1 (.slot j) = own (.slot j)) (h1n : ∀ j, own1 (.box (j + 1)) = []) {ret : AV} {v : Value} (hr : Rel w' fr' pi' own' (FS.of [ret] [ob']) #[v]) (hret : NP (fun _ => False) ret) (he : Ext w w' fr fr' (fun _ => pi i) pi' own1 own' (fun j => j < 1)) :
    ∃ ownB, Rel w' fr' pi ownB ⟨fun j => [ret].getD j .undef, upd bx i (some ob')⟩ #[v] ∧ Ext w w' fr fr' pi pi own ownB (fun j => ∃ o, bx j = some o) := by
  have hpi : pi' 0 = pi i := he.pi 0 (by decide)
  let ownB : Res → List Nat := fun r => match r with
    | .slot j => own' (.slot j)
    | .box j => if j = i then own' (.box 0) else own (.box j)
  -- what another box owns the call has not touched
  have hne : ∀ j, j ≠ i → ∀ b, b ∈ own (.box j) → ¬ ∃ r, b ∈ own1 r := by
    rintro j hj b hb ⟨r, hr⟩
    cases r with
    | slot k => rw [h1s] at hr; have := h.dj _ _ b hb hr; cases this
    | box k => cases k with
      | zero => rw [h1b] at hr; have := h.dj _ _ b hb hr; cases this; exact hj rfl
      | succ k => rw [h1n] at hr; simp at hr
  have hdj : ∀ j, j ≠ i → ∀ b, b ∈ own (.box j) → ∀ r, b ∉ own' r := by
    intro j hj b hb r hr'
    rcases he.fresh r b hr' with h2 | h2
    · exact hne j hj b hb h2
    · have := h.live _ b hb
      omega
  have hsz := he.step.size
  refine ⟨ownB, ⟨fun j => ?_, fun j => ?_, fun j o hj => ?_, fun j o hj => ?_, fun j hj => ?_, fun r => ?_, fun r r' b x1 x2 => ?_, fun r b hb => ?_⟩, ⟨he.step.mono fun b _ ⟨r, hr⟩ => hsub r b hr, fun r b hb => ?_, fun _ _ => rfl⟩⟩
  · cases j with
    | zero => exact Rep.piF (hr.slot 0) hret
    | succ j =>
      have e : (FS.of [ret] [ob']).sl (j + 1) = .undef := by simp [FS.of, List.getD_eq_getElem?_getD]
      have h0 := hr.slot (j + 1)
      rw [e] at h0
      have e2 : (⟨fun j => [ret].getD j .undef, upd bx i (some ob')⟩ : FS).sl (j + 1) = .undef := by simp [List.getD_eq_getElem?_getD]
      rw [e2]
      exact Rep.piF h0 .undef
  · cases j with
    | zero => exact hret.mono (fun _ h => h.elim)
    | succ j =>
      have e2 : (⟨fun j => [ret].getD j .undef, upd bx i (some ob')⟩ : FS).sl (j + 1) = .undef := by simp [List.getD_eq_getElem?_getD]
      rw [e2]
      exact .undef
  · by_cases hji : j = i
    · subst hji
      have e : o = ob' := by
        have : upd bx j (some ob') j = some o := hj
        rw [upd_same] at this
        exact (Option.some.inj this).symm
      subst e
      obtain ⟨O, k1, k2⟩ := hr.box 0 o rfl
      refine ⟨O, ?_, ?_⟩
      · rw [← hpi]
        exact k1.piF ho' (hr.live (.box 0) _ (by rw [k2]; simp))
      · simp only [ownB, ↓reduceIte]
        rw [k2, hpi]
    · have hj' : bx j = some o := by
        have : upd bx i (some ob') j = some o := hj
        rwa [upd_ne _ _ hji] at this
      obtain ⟨O, k1, k2⟩ := h.box j o hj'
      refine ⟨O, ?_, by simp only [ownB]; rw [if_neg hji]; exact k2⟩
      exact k1.mono he.step (ok := fun _ => True) (fun _ _ => rfl) ((h.boxnp j o hj').mono fun _ _ => trivial) (h.live (.box j) _ (by simp [k2])) (hne j hji _ (by simp [k2])) (fun x hx => hne j hji x (by simp [k2, hx]))
  · have hhas : ∀ k, (⟨sl, bx⟩ : FS).has k → (⟨fun j => [ret].getD j .undef, upd bx i (some ob')⟩ : FS).has k := by
      rintro k ⟨q, hq⟩
      by_cases hk : k = i
      · subst hk; exact ⟨ob', upd_same _ _ _⟩
      · exact ⟨q, by show upd bx i (some ob') k = _; rw [upd_ne _ _ hk]; exact hq⟩
    by_cases hji : j = i
    · subst hji
      have e : o = ob' := by
        have : upd bx j (some ob') j = some o := hj
        rw [upd_same] at this
        exact (Option.some.inj this).symm
      subst e
      exact ho'.mono (fun _ h => h.elim)
    · have hj' : bx j = some o := by
        have : upd bx i (some ob') j = some o := hj
        rwa [upd_ne _ _ hji] at this
      exact (h.boxnp j o hj').mono hhas
  · have hji : j ≠ i := by
      intro e
      subst e
      have : upd bx j (some ob') j = none := hj
      rw [upd_same] at this
      cases this
    have hj' : bx j = none := by
      have : upd bx i (some ob') j = none := hj
      rwa [upd_ne _ _ hji] at this
    simp only [ownB]
    rw [if_neg hji]
    exact h.nobox j hj'
  · cases r with
    | slot j => exact hr.nd _
    | box j =>
      simp only [ownB]
      split
      · exact hr.nd _
      · exact h.nd _
  · cases r with
    | slot j => cases r' with
      | slot j' => exact hr.dj _ _ b x1 x2
      | box j' =>
        exfalso
        simp only [ownB] at x1 x2
        split at x2
        · have := hr.dj _ _ b x1 x2; cases this
        · exact hdj j' ‹_› b x2 _ x1
    | box j => cases r' with
      | slot j' =>
        exfalso
        simp only [ownB] at x1 x2
        split at x1
        · have := hr.dj _ _ b x1 x2; cases this
        · exact hdj j ‹_› b x1 _ x2
      | box j' =>
        simp only [ownB] at x1 x2
        split at x1
        · split at x2
          · rename_i e1 e2
            rw [e1, e2]
          · exact absurd x1 (hdj j' ‹_› b x2 _)
        · split at x2
          · exact absurd x2 (hdj j ‹_› b x1 _)
          · exact h.dj _ _ b x1 x2
  · cases r with
    | slot j => exact hr.live _ b hb
    | box j =>
      simp only [ownB] at hb
      split at hb
      · exact hr.live _ b hb
      · have := h.live _ b hb
        omega
  · have key : ∀ r, b ∈ own' r → (∃ r', b ∈ own r') ∨ w.heap.size ≤ b := by
      intro r hb
      rcases he.fresh r b hb with ⟨r', h2⟩ | h2
      · exact .inl (hsub r' b h2)
      · exact .inr h2
    cases r with
    | slot j => exact key _ hb
    | box j =>
      simp only [ownB] at hb
      split at hb
      · exact key _ hb
      · exact .inl ⟨_, hb⟩

/-- An operation, done where the state holds. -/
theorem step_exec {P : Program} {dr : Bool} {L : Nat → Bool} {ops : Array Oper} {i : Nat} {o : Oper} {vo : VOper} (ho : ops[i]? = some o) (hres : resOper P dr ops o = some vo) {a : Act} {w : World} {fr pi : Nat → Nat} {own : Res → List Nat} {s : FS}
    (h : Rel w fr pi own s a.tmps) (hd : ∀ t, o.dst = some t → t < a.tmps.size) {id : Nat} (hid : vo.op.isAlloc = true → s.bx id = none) {d : SD} (st : VStep P L vo s id d) {K : Act → World → Prop} {Q : Exit → Act → World → Prop}
    (hK : ∀ a' w' fr' pi' own', a'.defers = a.defers → a'.tmps.size = a.tmps.size → Rel w' fr' pi' own' (d.app vo.dst s) a'.tmps → Ext w w' fr fr' pi pi' own own' s.has → K a' w') : wpOp P ops Q i K a w := by
  obtain ⟨hdst, hg, _, hop⟩ := resOper_inv hres
  have hon : vo.on s.sl → Region.wanted o (yielded ops a.tmps) = true := by
    intro hon
    unfold Region.wanted
    cases hgd : o.guard with
    | none => rfl
    | some p =>
      obtain ⟨j, want⟩ := p
      rw [hgd] at hg
      simp only [resGuard, Option.map_eq_some_iff] at hg
      obtain ⟨dg, h1, h2⟩ := hg
      unfold VOper.on at hon
      rw [← h2] at hon
      simp only at hon
      have hr := h.slot dg
      rw [hon] at hr
      simp [yielded_of h1 hr.bool_inv]
  have hoff : ∀ g want, vo.guard = some (g, want) → offV want (s.sl g) = true → Region.wanted o (yielded ops a.tmps) = false := by
    intro g want h1 h2
    unfold Region.wanted
    cases hgd : o.guard with
    | none => rw [hgd] at hg; simp [resGuard] at hg; rw [← hg] at h1; cases h1
    | some p =>
      obtain ⟨j, want'⟩ := p
      rw [hgd] at hg
      simp only [resGuard, Option.map_eq_some_iff] at hg
      obtain ⟨dg, k1, k2⟩ := hg
      rw [← k2] at h1
      cases h1
      have hr := h.slot g
      unfold offV at h2
      split at h2
      · rename_i b hb
        rw [hb] at hr
        have h3 : b ≠ want := by simpa using h2
        simp [yielded_of k1 hr.bool_inv, h3]
      · rename_i hb
        rw [hb] at hr
        have hv : a.tmps.getD g Go.undef = .tuple #[] := by
          generalize a.tmps.getD g Go.undef = v at hr
          generalize own (Res.slot g) = O at hr
          cases hr with
          | tup _ vs _ h1 =>
            cases h1
            rfl
        have : yielded ops a.tmps j = none := by
          unfold yielded
          rw [k1]
          simp only [Option.bind_some]
          rw [Array.getD_eq_getD_getElem?] at hv
          cases hh : a.tmps[g]? with
          | none => rfl
          | some v => rw [hh] at hv; simp at hv; rw [hv]
        simp [this]
      · cases h2
  unfold wpOp
  rw [ho]
  simp only
  cases st with
  | off g want h1 h2 =>
    rw [hoff g want h1 h2]
    simp only [Bool.false_eq_true, ↓reduceIte]
    obtain ⟨own', q1, q2⟩ := h.putO (a := a) (d := o.dst) hd (show Rep w fr pi (.tup []) Go.undef [] from .tup [] [] [] .nil) (.tup _ (by simp)) (by simp) (by simp) (by simp)
    refine hK _ _ fr pi own' (by cases o.dst <;> rfl) (by cases o.dst <;> simp [Act.put]) ?_ (Ext.own fun r b hb => ?_)
    · unfold SD.app FS.after
      rw [FS.strip_nil, hdst]
      exact q1
    · rcases q2 r b hb with h4 | h4
      · exact h4
      · simp at h4
  | ev x b h0 h1 h2 =>
    rw [hon h1]
    simp only [↓reduceIte]
    rcases hop with ⟨_, hr⟩ | ⟨c, x', f, args, hc, _⟩
    · refine .inl ((ev_sound h hd hr hid h2).wp fun a' w' fr' pi' own' k1 k2 k3 k4 => hK a' w' fr' pi' own' k1 k2 ?_ k4)
      unfold SD.app
      rw [hdst]
      exact k3
    · rw [h0] at hc; cases hc
  | pcall f args g ret h0 h1 h2 h3 h4 h5 =>
    rw [hon h1]
    simp only [↓reduceIte]
    rcases hop with ⟨hn, _⟩ | ⟨c, x', f', args', hc, hoc, hcal, hf, hargs⟩
    · rw [h0] at hn; cases hn
    rw [h0] at hc
    cases hc
    refine .inl ?_
    obtain ⟨_, _, hcall⟩ := h5
    obtain ⟨O, r1, _⟩ := opnd h hf
    rw [h2] at r1
    obtain ⟨us, hfv, hus⟩ := r1.func_inv
    cases hus
    have hcut := h.cut hargs h3 false (fun _ => h4)
    have hfs : (⟨fun i => (args.map (rdX s.sl)).getD i .undef, fun i => if false = true then s.bx i else none⟩ : FS) = FS.of (args.map (rdX s.sl)) [] := by
      unfold FS.of
      simp
    rw [hfs] at hcut
    have hlen := (resXs_get hargs).1
    have hc := hcall w fr pi _ (c.args.toList.map a.eval) (by simpa using hlen) hcut
    refine exec_call hoc hcal hfv hc fun e w' hp => ?_
    obtain ⟨v, fr', pi', own', rfl, q1, q2⟩ := hp
    refine ⟨v, rfl, ?_⟩
    have hq1 : Rel w' fr' pi' own' ⟨fun i => ([ret] : List AV).getD i .undef, fun _ => none⟩ #[v] := by simpa [FS.of] using q1
    obtain ⟨own2, z1, z2⟩ := Rel.paste (_P := P) (a := a) h (d := o.dst) hd (vs := args) false hq1 ⟨q2.step, q2.fresh, fun i hi => absurd hi.1 (by simp)⟩ (fun _ => rfl) (fun e => by cases e)
    refine hK _ _ _ _ own2 (by cases o.dst <;> rfl) (by cases o.dst <;> simp [Act.put]) ?_ z2
    unfold SD.app FS.after
    rw [hdst]
    exact z1

  | bcall f args g ret i off rest ob ob' h0 h1 h2 h3 h4 h5 h6 h7 h8 h9 h10 =>
    rw [hon h1]
    simp only [↓reduceIte]
    rcases hop with ⟨hn, _⟩ | ⟨c, x', f', args', hc, hoc, hcal, hf, hargs⟩
    · rw [h0] at hn; cases hn
    rw [h0] at hc
    cases hc
    refine .inl ?_
    obtain ⟨_, _, hcall⟩ := h10
    obtain ⟨O, r1, _⟩ := opnd h hf
    rw [h2] at r1
    obtain ⟨us, hfv, hus⟩ := r1.func_inv
    cases hus
    have hcut := h.cut hargs h3 true (fun e => by cases e)
    rw [h4] at hcut
    have hcut' : Rel w fr pi (cutOwn own args true) ⟨fun j => (AV.ptr (some (i, off)) :: rest).getD j .undef, s.bx⟩ (c.args.toList.map a.eval).toArray := by simpa using hcut
    obtain ⟨own1, q1, q2, q3, q4⟩ := hcut'.one h5 h6 h7
    have hlen := (resXs_get hargs).1
    have hlen2 : args.length = rest.length + 1 := by simpa using congrArg List.length h4
    have hc := hcall w fr _ own1 (c.args.toList.map a.eval) (by rw [List.length_map, hlen, hlen2]; rfl) q1
    refine exec_call hoc hcal hfv hc fun e w' hp => ?_
    obtain ⟨v, fr', pi', own', rfl, k1, k2⟩ := hp
    refine ⟨v, rfl, ?_⟩
    have q5 : ∀ j, own1 (.box (j + 1)) = [] := fun j => q1.nobox (j + 1) (by simp [FS.of])
    obtain ⟨ownB, z1, z2⟩ := hcut'.oneBack h5 h8 q2 q3 q4 q5 k1 h9 k2
    obtain ⟨own2, y1, y2⟩ := Rel.paste (_P := P) (a := a) h (d := o.dst) hd (vs := args) true z1 ⟨z2.step, z2.fresh, fun _ _ => rfl⟩ (fun e => by cases e) (fun _ j ⟨q, hq⟩ => by
      by_cases hj : j = i
      · subst hj; exact ⟨ob', upd_same _ _ _⟩
      · exact ⟨q, by rw [upd_ne _ _ hj]; exact hq⟩)
    refine hK _ _ _ _ own2 (by cases o.dst <;> rfl) (by cases o.dst <;> simp [Act.put]) ?_ y2
    unfold SD.app FS.after
    rw [hdst]
    exact y1

end Go.Proofs.YtmjdoonaidolkaaDoor.V

/- A small logic of values over the model, part 18: states as lists; a region in the text's order. -/
namespace Go.Proofs.YtmjdoonaidolkaaDoor.V

structure St where
  t : List AV
  h : List HObj

def St.fs (S : St) : FS := FS.of S.t S.h

def stripT : List Nat → List AV → List AV
  | [], t => t
  | i :: T, t => (stripT T t).set i ((t.getD i .undef).strip)

def putL (d : Option Nat) (x : AV) (t : List AV) : List AV :=
  match d with
  | none => t
  | some d => t.set d x

def boxL (b : Option (Nat × HObj)) (h : List HObj) : List HObj :=
  match b with
  | none => h
  | some (i, o) => if i < h.length then h.set i o else h ++ [o]

def St.app (S : St) (dst : Option Nat) (d : SD) : St := ⟨putL dst d.x (stripT d.T S.t), boxL d.b S.h⟩

theorem stripT_length : ∀ (T : List Nat) (t : List AV), (stripT T t).length = t.length
  | [], t => rfl
  | i :: T, t => by rw [stripT, List.length_set, stripT_length T t]

theorem stripT_getD : ∀ (T : List Nat) (t : List AV) (i : Nat), (stripT T t).getD i .undef = if i ∈ T then (t.getD i .undef).strip else t.getD i .undef
  | [], t, i => by simp [stripT]
  | j :: T, t, i => by
    rw [stripT, List.getD_eq_getElem?_getD, List.getElem?_set]
    by_cases hij : j = i
    · subst hij
      simp only [↓reduceIte, List.mem_cons, true_or, stripT_length]
      split
      · simp
      · rename_i hlt
        have : t[j]? = none := List.getElem?_eq_none (by omega)
        simp [List.getD_eq_getElem?_getD, this, AV.strip]
    · rw [if_neg hij, ← List.getD_eq_getElem?_getD, stripT_getD T t i]
      have : i ≠ j := fun e => hij e.symm
      simp [this]

theorem putL_length (d : Option Nat) (x : AV) (t : List AV) : (putL d x t).length = t.length := by
  cases d <;> simp [putL]

theorem St.app_length (S : St) (dst : Option Nat) (d : SD) : (S.app dst d).t.length = S.t.length := by
  simp [St.app, putL_length, stripT_length]

theorem FS.ext' {a b : FS} (h1 : ∀ i, a.sl i = b.sl i) (h2 : ∀ i, a.bx i = b.bx i) : a = b := by
  cases a; cases b
  congr
  · exact funext h1
  · exact funext h2

theorem St.app_fs {S : St} {dst : Option Nat} {d : SD} (hd : ∀ t, dst = some t → t < S.t.length) (hb : ∀ i o, d.b = some (i, o) → i ≤ S.h.length) : d.app dst S.fs = (S.app dst d).fs := by
  refine FS.ext' (fun i => ?_) (fun i => ?_)
  · have key : ∀ i, (FS.strip S.fs d.T).sl i = (stripT d.T S.t).getD i .undef := fun i => (stripT_getD d.T S.t i).symm
    have hbw : ∀ (s : FS), (s.bw d.b).sl = s.sl := by
      intro s
      cases hbb : d.b with
      | none => rfl
      | some p => rfl
    cases hdst : dst with
    | none =>
      show ((S.fs.strip d.T).bw d.b).sl i = (stripT d.T S.t).getD i .undef
      rw [hbw]; exact key i
    | some t =>
      show upd ((S.fs.strip d.T).bw d.b).sl t d.x i = ((stripT d.T S.t).set t d.x).getD i .undef
      rw [hbw, List.getD_eq_getElem?_getD, List.getElem?_set]
      by_cases hti : t = i
      · subst hti
        rw [upd_same, if_pos rfl, if_pos (by rw [stripT_length]; exact hd t hdst)]
        rfl
      · rw [upd_ne _ _ (fun e => hti e.symm), if_neg hti, ← List.getD_eq_getElem?_getD]
        exact key i
  · have h1 : (d.app dst S.fs).bx = (S.fs.bw d.b).bx := by
      unfold SD.app FS.after FS.putO
      cases dst <;> cases hbb : d.b <;> rfl
    rw [h1]
    show _ = (boxL d.b S.h)[i]?
    cases hbb : d.b with
    | none => rfl
    | some p =>
      obtain ⟨j, o⟩ := p
      have hj := hb j o hbb
      show upd (fun i => S.h[i]?) j (some o) i = (if j < S.h.length then S.h.set j o else S.h ++ [o])[i]?
      by_cases hij : i = j
      · subst hij
        rw [upd_same]
        split
        · rename_i hlt
          simp [hlt]
        · rename_i hlt
          have : i = S.h.length := by omega
          simp [this]
      · rw [upd_ne _ _ hij]
        split
        · rw [List.getElem?_set, if_neg (fun e => hij e.symm)]
        · rename_i hlt
          have : j = S.h.length := by omega
          subst this
          rw [List.getElem?_append]
          split
          · rfl
          · rename_i h3
            rw [List.getElem?_eq_none (by omega), List.getElem?_eq_none (by simp; omega)]

theorem ev_box {fl : Bool} {s : Nat → AV} {bx : Nat → Option HObj} {id : Nat} {op : VOp} {x : AV} {i : Nat} {o : HObj} (h : ev fl s bx id op = some (x, some (i, o))) : i = id ∨ ∃ o', bx i = some o' := by
  unfold ev at h
  split at h <;> try (first
    | (cases h; done)
    | (cases h; exact .inl rfl)
    | (simp only [Option.map_eq_some_iff] at h; obtain ⟨_, _, h⟩ := h; cases h; done))
  all_goals (try (split at h <;> try (first | (cases h; done) | (cases h; exact .inl rfl) | (simp only [Option.map_eq_some_iff] at h; obtain ⟨_, _, h⟩ := h; cases h; done))))
  all_goals (try (split at h <;> try (first | (cases h; done) | (cases h; exact .inl rfl) | (simp only [Option.map_eq_some_iff] at h; obtain ⟨_, _, h⟩ := h; cases h; done))))
  all_goals (try (split at h <;> try (first | (cases h; done) | (cases h; exact .inr ⟨_, by assumption⟩) | (simp only [Option.map_eq_some_iff] at h; obtain ⟨_, _, h⟩ := h; cases h; done))))
  all_goals (try (split at h <;> try (first | (cases h; done) | (simp only [Option.map_eq_some_iff] at h; obtain ⟨_, _, h⟩ := h; cases h; done))))
  -- more
  all_goals (try (cases h; exact .inl rfl))
  all_goals (try (split at h <;> try (first | (cases h; done) | (cases h; exact .inl rfl) | (cases h; exact .inr ⟨_, by assumption⟩))))
  all_goals (try (split at h <;> try (first | (cases h; done) | (cases h; exact .inl rfl) | (cases h; exact .inr ⟨_, by assumption⟩))))


theorem VStep.box_le {P : Program} {L : Nat → Bool} {o : VOper} {S : St} {d : SD} (st : VStep P L o S.fs S.h.length d) : ∀ i ob, d.b = some (i, ob) → i ≤ S.h.length := by
  intro i ob hb
  cases st with
  | off => cases hb
  | ev x b h0 h1 h2 =>
    simp only at hb
    subst hb
    rcases ev_box h2 with rfl | ⟨o', ho'⟩
    · exact Nat.le_refl _
    · have : S.h[i]? = some o' := ho'
      rcases Nat.lt_or_ge i S.h.length with h' | h'
      · omega
      · simp [List.getElem?_eq_none h'] at this
  | pcall => cases hb
  | bcall f args g ret i' off rest ob0 ob' h0 h1 h2 h3 h4 h5 h6 h7 h8 h9 h10 =>
    simp only [Option.some.injEq, Prod.mk.injEq] at hb
    obtain ⟨rfl, rfl⟩ := hb
    have : S.h[i']? = some ob0 := h5
    rcases Nat.lt_or_ge i' S.h.length with h' | h'
    · omega
    · simp [List.getElem?_eq_none h'] at this

theorem boxL_length (b : Option (Nat × HObj)) (h : List HObj) : h.length ≤ (boxL b h).length := by
  unfold boxL
  split
  · exact Nat.le_refl _
  · split <;> simp

/-- Operations one behind the other. -/
inductive VSeq (P : Program) (L : Nat → Bool) : List VOper → St → St → Prop
  | nil (S : St) : VSeq P L [] S S
  | cons (o : VOper) (os : List VOper) (S : St) (d : SD) (S' : St) : VStep P L o S.fs S.h.length d → VSeq P L os (S.app o.dst d) S' → VSeq P L (o :: os) S S'
  | hcall (o : VOper) (os : List VOper) (S S' : St) (f : VX) (args : List VX) (g : Nat) (ret : AV) (h' : List HObj) : o.call = some (f, args) → o.on S.fs.sl → rdX S.fs.sl f = .func g [] → (argTmps args).Nodup →
      VCall P g (args.map (rdX S.fs.sl)) S.h ret h' → VSeq P L os ⟨putL o.dst ret (stripT (argTmps args) S.t), h'⟩ S' → VSeq P L (o :: os) S S'

end Go.Proofs.YtmjdoonaidolkaaDoor.V

/- A small logic of values over the model, part 19: what a region comes to in the text's order. -/
namespace Go.Proofs.YtmjdoonaidolkaaDoor.V

theorem St.has_iff (S : St) (i : Nat) : S.fs.has i ↔ i < S.h.length := by
  constructor
  · rintro ⟨o, ho⟩
    have ho' : S.h[i]? = some o := ho
    rcases Nat.lt_or_ge i S.h.length with h' | h'
    · exact h'
    · simp [List.getElem?_eq_none h'] at ho'
  · intro h
    exact ⟨_, (List.getElem?_eq_getElem h : S.h[i]? = _)⟩

theorem St.fresh (S : St) : S.fs.bx S.h.length = none := List.getElem?_eq_none (Nat.le_refl _)

theorem St.app_has {S : St} {dst : Option Nat} {d : SD} (i : Nat) (h : S.fs.has i) : (S.app dst d).fs.has i := by
  rw [St.has_iff] at *
  exact Nat.lt_of_lt_of_le h (boxL_length _ _)

/-- A call that may write boxes. -/
theorem step_hcall {P : Program} {dr : Bool} {ops : Array Oper} {i : Nat} {o : Oper} {vo : VOper} (ho : ops[i]? = some o) (hres : resOper P dr ops o = some vo) {a : Act} {w : World} {fr pi : Nat → Nat} {own : Res → List Nat} {S : St}
    (h : Rel w fr pi own S.fs a.tmps) (hd : ∀ t, o.dst = some t → t < a.tmps.size) (hdt : ∀ t, vo.dst = some t → t < S.t.length) {f : VX} {args : List VX} {g : Nat} {ret : AV} {h' : List HObj} (h0 : vo.call = some (f, args)) (h1 : vo.on S.fs.sl) (h2 : rdX S.fs.sl f = .func g [])
    (h3 : (argTmps args).Nodup) (h5 : VCall P g (args.map (rdX S.fs.sl)) S.h ret h') {K : Act → World → Prop} {Q : Exit → Act → World → Prop}
    (hK : ∀ a' w' fr' pi' own', a'.defers = a.defers → a'.tmps.size = a.tmps.size → Rel w' fr' pi' own' (St.fs ⟨putL vo.dst ret (stripT (argTmps args) S.t), h'⟩) a'.tmps → Ext w w' fr fr' pi pi' own own' S.fs.has → K a' w') : wpOp P ops Q i K a w := by
  obtain ⟨hdst, hg, _, hop⟩ := resOper_inv hres
  have hwant : Region.wanted o (yielded ops a.tmps) = true := by
    unfold Region.wanted
    cases hgd : o.guard with
    | none => rfl
    | some p =>
      obtain ⟨j, want⟩ := p
      rw [hgd] at hg
      simp only [resGuard, Option.map_eq_some_iff] at hg
      obtain ⟨dg, k1, k2⟩ := hg
      unfold VOper.on at h1
      rw [← k2] at h1
      simp only at h1
      have hr := h.slot dg
      rw [h1] at hr
      simp [yielded_of k1 hr.bool_inv]
  unfold wpOp
  rw [ho]
  simp only
  rw [hwant]
  simp only [↓reduceIte]
  rcases hop with ⟨hn, _⟩ | ⟨c, x', f', args', hc, hoc, hcal, hf, hargs⟩
  · rw [h0] at hn; cases hn
  rw [h0] at hc
  cases hc
  refine .inl ?_
  obtain ⟨_, hle, hcall⟩ := h5
  obtain ⟨O, r1, _⟩ := opnd h hf
  rw [h2] at r1
  obtain ⟨us, hfv, hus⟩ := r1.func_inv
  cases hus
  have hcut := h.cut hargs h3 true (fun e => by cases e)
  have hfs : (⟨fun i => (args.map (rdX S.fs.sl)).getD i .undef, fun i => if true = true then S.fs.bx i else none⟩ : FS) = FS.of (args.map (rdX S.fs.sl)) S.h := by
    unfold FS.of
    simp [St.fs, FS.of]
  rw [hfs] at hcut
  have hlen := (resXs_get hargs).1
  have hc := hcall w fr pi _ (c.args.toList.map a.eval) (by simpa using hlen) hcut
  refine exec_call hoc hcal hfv hc fun e w' hp => ?_
  obtain ⟨v, fr', pi', own', rfl, q1, q2⟩ := hp
  refine ⟨v, rfl, ?_⟩
  have hq1 : Rel w' fr' pi' own' ⟨fun i => ([ret] : List AV).getD i .undef, fun i => h'[i]?⟩ #[v] := by simpa [FS.of] using q1
  obtain ⟨own2, z1, z2⟩ := Rel.paste (_P := P) (a := a) h (d := o.dst) hd (vs := args) true hq1 ⟨q2.step, q2.fresh, fun i hi => q2.pi i ((St.has_iff S i).1 hi.2)⟩ (fun e => by cases e) (fun _ i hi => by
    have : i < h'.length := Nat.lt_of_lt_of_le ((St.has_iff S i).1 hi) hle
    exact ⟨_, List.getElem?_eq_getElem this⟩)
  refine hK _ _ fr' _ own2 (by cases o.dst <;> rfl) (by cases o.dst <;> simp [Act.put]) ?_ z2
  have hsame : (({ S.fs.strip (argTmps args) with bx := if true = true then (fun i => h'[i]?) else S.fs.bx } : FS).putO o.dst ret) = St.fs ⟨putL vo.dst ret (stripT (argTmps args) S.t), h'⟩ := by
    rw [hdst] at hdt ⊢
    refine FS.ext' (fun i => ?_) (fun i => ?_)
    · cases hdd : o.dst with
      | none => exact (stripT_getD _ _ _).symm
      | some t =>
        show upd _ t ret i = ((stripT (argTmps args) S.t).set t ret).getD i .undef
        rw [List.getD_eq_getElem?_getD, List.getElem?_set]
        by_cases hti : t = i
        · subst hti
          rw [upd_same, if_pos rfl, if_pos (by rw [stripT_length]; exact hdt t hdd)]
          rfl
        · rw [upd_ne _ _ (fun e => hti e.symm), if_neg hti, ← List.getD_eq_getElem?_getD]
          exact (stripT_getD _ _ _).symm
    · cases o.dst <;> rfl
  rw [← hsame]
  exact z1

theorem seq_sound {P : Program} {dr : Bool} {L : Nat → Bool} {ops : Array Oper} {vops : List VOper} (hres : ∀ (i : Nat) (o : Oper), ops[i]? = some o → ∃ vo, vops[i]? = some vo ∧ resOper P dr ops o = some vo) (hlen : vops.length = ops.size) {N : Nat}
    (hdst : ∀ vo, vo ∈ vops → ∀ t, vo.dst = some t → t < N) {Q : Exit → Act → World → Prop} : ∀ (l : List VOper) (k : Nat) (S S' : St), l = vops.drop k → VSeq P L l S S' → S.t.length = N → ∀ (a : Act) (w : World) (fr pi : Nat → Nat) (own : Res → List Nat),
      Rel w fr pi own S.fs a.tmps → a.tmps.size = N → (∀ a' w' fr' pi' own', a'.defers = a.defers → a'.tmps.size = N → Rel w' fr' pi' own' S'.fs a'.tmps → Ext w w' fr fr' pi pi' own own' S.fs.has → S'.t.length = N → S.h.length ≤ S'.h.length → Q .normal a' w') →
      wpOps P ops Q (List.range' k l.length) a w
  | [], k, S, S', hl, hs, hN, a, w, fr, pi, own, hr, hsz, hK => by
    cases hs
    exact hK a w fr pi own rfl hsz hr (Ext.refl _ _ _ _ _) hN (Nat.le_refl _)
  | o :: os, k, S, S', hl, hs, hN, a, w, fr, pi, own, hr, hsz, hK => by
    have hk : vops[k]? = some o := by
      have : (vops.drop k)[0]? = some o := by rw [← hl]; rfl
      simpa using this
    have hos : os = vops.drop (k + 1) := by
      have : (vops.drop k).drop 1 = os := by rw [← hl]; rfl
      rw [← this, List.drop_drop]
    have hkl : k < ops.size := by
      rw [← hlen]
      rcases Nat.lt_or_ge k vops.length with h' | h'
      · exact h'
      · simp [List.getElem?_eq_none h'] at hk
    obtain ⟨vo, hvo, hrs⟩ := hres k ops[k] (Array.getElem?_eq_getElem hkl)
    rw [hk] at hvo
    cases hvo
    have hdo : (ops[k]).dst = o.dst := (resOper_inv hrs).1.symm
    have hd : ∀ t, (ops[k]).dst = some t → t < a.tmps.size := fun t ht => by rw [hsz]; exact hdst o (List.mem_of_getElem? hk) t (by rw [← hdo]; exact ht)
    have hd2 : ∀ t, o.dst = some t → t < S.t.length := fun t ht => by rw [hN]; exact hdst o (List.mem_of_getElem? hk) t ht
    rw [List.length_cons, List.range'_succ, wpOps_cons]
    cases hs with
    | cons _ _ _ d _ st hs =>
      refine step_exec (Array.getElem?_eq_getElem hkl) hrs hr hd (fun _ => S.fresh) st fun a' w' fr' pi' own' e1 e2 e3 e4 => ?_
      rw [St.app_fs hd2 st.box_le] at e3
      refine seq_sound hres hlen hdst os (k + 1) _ S' hos hs (by rw [St.app_length]; exact hN) a' w' fr' pi' own' e3 (by omega) fun a2 w2 fr2 pi2 own2 g1 g2 g3 g4 g5 g6 => ?_
      exact hK a2 w2 fr2 pi2 own2 (g1.trans e1) g2 g3 (e4.trans g4 (fun i hi => St.app_has i hi)) g5 (Nat.le_trans (boxL_length _ _) g6)
    | hcall _ _ _ _ f args g ret h' c0 c1 c2 c3 c5 hs =>
      refine step_hcall (Array.getElem?_eq_getElem hkl) hrs hr hd hd2 c0 c1 c2 c3 c5 fun a' w' fr' pi' own' e1 e2 e3 e4 => ?_
      refine seq_sound hres hlen hdst os (k + 1) _ S' hos hs (by simp only [putL_length, stripT_length]; exact hN) a' w' fr' pi' own' e3 (by omega) fun a2 w2 fr2 pi2 own2 g1 g2 g3 g4 g5 g6 => ?_
      refine hK a2 w2 fr2 pi2 own2 (g1.trans e1) g2 g3 (e4.trans g4 (fun i hi => ?_)) g5 (Nat.le_trans c5.2.1 g6)
      rw [St.has_iff] at *
      exact Nat.lt_of_lt_of_le hi c5.2.1

end Go.Proofs.YtmjdoonaidolkaaDoor.V

/- A small logic of values over the model, part 20: a region whose order is open comes to what it comes to in the text's order, where no operation meddles with another one that it doesn't wait for. -/
namespace Go.Proofs.YtmjdoonaidolkaaDoor.V

def FS.same (s s' : FS) : Res → Prop
  | .slot i => s.sl i = s'.sl i
  | .box i => s.bx i = s'.bx i

theorem FS.same_refl (s : FS) (r : Res) : s.same s r := by cases r <;> rfl
theorem FS.same_symm {s s' : FS} {r : Res} (h : s.same s' r) : s'.same s r := by
  cases r
  · exact Eq.symm h
  · exact Eq.symm h
theorem FS.same_trans {s s1 s2 : FS} {r : Res} (h : s.same s1 r) (h' : s1.same s2 r) : s.same s2 r := by
  cases r
  · exact Eq.trans h h'
  · exact Eq.trans h h'
theorem FS.ext_same {s s' : FS} (h : ∀ r, s.same s' r) : s = s' := FS.ext' (fun i => h (.slot i)) (fun i => h (.box i))

/-- What an operation writes. -/
def wrL (dst : Option Nat) (d : SD) : List Res :=
  (match dst with | some t => [.slot t] | none => []) ++ d.T.map .slot ++ (match d.b with | some (i, _) => [.box i] | none => [])

theorem app_slot (d : SD) (dst : Option Nat) (s : FS) (i : Nat) : (d.app dst s).sl i = if dst = some i then d.x else if i ∈ d.T then (s.sl i).strip else s.sl i := by
  unfold SD.app FS.after
  have hbw : ∀ (s : FS), (s.bw d.b).sl = s.sl := by
    intro s
    cases d.b with
    | none => rfl
    | some p => rfl
  cases dst with
  | none =>
    show ((s.strip d.T).bw d.b).sl i = _
    rw [hbw]
    simp [FS.strip]
  | some t =>
    show upd ((s.strip d.T).bw d.b).sl t d.x i = _
    rw [hbw]
    by_cases h : i = t
    · subst h; rw [upd_same]; simp
    · have h2 : ¬ (t = i) := fun e => h e.symm
      rw [upd_ne _ _ h]; simp [FS.strip, h2]

theorem app_box (d : SD) (dst : Option Nat) (s : FS) (i : Nat) : (d.app dst s).bx i = match d.b with | some (j, o) => if i = j then some o else s.bx i | none => s.bx i := by
  unfold SD.app FS.after
  have h1 : (((s.strip d.T).bw d.b).putO dst d.x).bx = ((s.strip d.T).bw d.b).bx := by cases dst <;> rfl
  rw [h1]
  cases hb : d.b with
  | none => rfl
  | some p =>
    obtain ⟨j, o⟩ := p
    rfl

theorem app_other {d : SD} {dst : Option Nat} {s : FS} {r : Res} (h : r ∉ wrL dst d) : (d.app dst s).same s r := by
  unfold wrL at h
  simp only [List.mem_append, not_or] at h
  obtain ⟨⟨h1, h2⟩, h3⟩ := h
  cases r with
  | slot i =>
    show (d.app dst s).sl i = s.sl i
    rw [app_slot, if_neg, if_neg]
    · intro hi; exact h2 (List.mem_map.2 ⟨i, hi, rfl⟩)
    · rintro rfl; simp at h1
  | box i =>
    show (d.app dst s).bx i = s.bx i
    rw [app_box]
    cases hb : d.b with
    | none => rfl
    | some p =>
      obtain ⟨j, o⟩ := p
      rw [hb] at h3
      simp only [List.mem_singleton] at h3
      simp only
      rw [if_neg (fun e => h3 (by rw [e]))]

theorem app_congr {d : SD} {dst : Option Nat} {s s' : FS} {r : Res} (h : s.same s' r) : (d.app dst s).same (d.app dst s') r := by
  cases r with
  | slot i =>
    show (d.app dst s).sl i = (d.app dst s').sl i
    rw [app_slot, app_slot, (h : s.sl i = s'.sl i)]
  | box i =>
    show (d.app dst s).bx i = (d.app dst s').bx i
    rw [app_box, app_box]
    cases d.b with
    | none => exact h
    | some p =>
      simp only
      split
      · rfl
      · exact h

/-- Some of the operations, in the text's order. -/
def runF : List (Option Nat × SD) → (Nat → Bool) → Nat → FS → FS
  | [], _, _, s => s
  | p :: r, M, i, s => runF r M (i + 1) (if M i then p.2.app p.1 s else s)

theorem runF_agree {r : Res} : ∀ (zs : List (Option Nat × SD)) (M M' : Nat → Bool) (i : Nat) (s s' : FS), s.same s' r → (∀ j p, zs[j]? = some p → r ∈ wrL p.1 p.2 → M (i + j) = M' (i + j)) → (runF zs M i s).same (runF zs M' i s') r
  | [], M, M', i, s, s', h, _ => h
  | p :: zs, M, M', i, s, s', h, hM => by
    rw [runF, runF]
    refine runF_agree zs M M' (i + 1) _ _ ?_ (fun j q hq hr => by
      have := hM (j + 1) q (by simpa using hq) hr
      rw [show i + 1 + j = i + (j + 1) by omega]; exact this)
    by_cases hr : r ∈ wrL p.1 p.2
    · have := hM 0 p rfl hr
      simp only [Nat.add_zero] at this
      rw [this]
      split
      · exact app_congr h
      · exact h
    · have h1 : (if M i then p.2.app p.1 s else s).same s r := by
        split
        · exact app_other hr
        · exact FS.same_refl _ _
      have h2 : (if M' i then p.2.app p.1 s' else s').same s' r := by
        split
        · exact app_other hr
        · exact FS.same_refl _ _
      exact FS.same_trans h1 (FS.same_trans h (FS.same_symm h2))

theorem runF_congr (zs : List (Option Nat × SD)) {M M' : Nat → Bool} (i : Nat) (s : FS) (h : ∀ j, j < zs.length → M (i + j) = M' (i + j)) : runF zs M i s = runF zs M' i s :=
  FS.ext_same fun r => runF_agree zs M M' i s s (FS.same_refl _ _) (fun j p hp _ => h j (by
    rcases Nat.lt_or_ge j zs.length with h' | h'
    · exact h'
    · simp [List.getElem?_eq_none h'] at hp))

theorem runF_none : ∀ (zs : List (Option Nat × SD)) (M : Nat → Bool) (i : Nat) (s : FS), (∀ j, i ≤ j → M j = false) → runF zs M i s = s
  | [], M, i, s, _ => rfl
  | p :: zs, M, i, s, h => by
    rw [runF, h i (Nat.le_refl _)]
    exact runF_none zs M (i + 1) s (fun j hj => h j (by omega))

def addM (M : Nat → Bool) (p : Nat) : Nat → Bool := fun j => if j = p then true else M j

theorem runF_last : ∀ (zs : List (Option Nat × SD)) (M : Nat → Bool) (i k : Nat) (s : FS) (q : Option Nat × SD), zs[k]? = some q → (∀ j, i + k ≤ j → M j = false) → runF zs (addM M (i + k)) i s = q.2.app q.1 (runF zs M i s)
  | [], M, i, k, s, q, h, _ => by simp at h
  | p :: zs, M, i, 0, s, q, h, hM => by
    simp at h
    subst h
    rw [runF, runF]
    simp only [Nat.add_zero] at *
    have h1 : addM M i i = true := by simp [addM]
    simp only [h1, hM i (Nat.le_refl _), ↓reduceIte, Bool.false_eq_true]
    rw [runF_none zs (addM M i) (i + 1) _ (fun j hj => by simp [addM, show ¬ j = i by omega, hM j (by omega)]), runF_none zs M (i + 1) _ (fun j hj => hM j (by omega))]
  | p :: zs, M, i, k + 1, s, q, h, hM => by
    rw [runF, runF]
    have h1 : addM M (i + (k + 1)) i = M i := by simp [addM]
    simp only [h1]
    rw [show i + (k + 1) = i + 1 + k by omega]
    exact runF_last zs M (i + 1) k _ q (by simpa using h) (fun j hj => hM j (by omega))

/-- One more: its writes stand, if no later one that is done writes what it writes. -/
theorem runF_insert {zs : List (Option Nat × SD)} {M : Nat → Bool} {p : Nat} {q : Option Nat × SD} (s : FS) (hq : zs[p]? = some q) (hp : M p = false)
    (hlater : ∀ j q', p < j → zs[j]? = some q' → M j = true → ∀ r, r ∈ wrL q.1 q.2 → r ∉ wrL q'.1 q'.2) : runF zs (addM M p) 0 s = q.2.app q.1 (runF zs M 0 s) := by
  refine FS.ext_same fun r => ?_
  by_cases hr : r ∈ wrL q.1 q.2
  · -- only those ahead of it matter
    let M1 : Nat → Bool := fun j => M j && decide (j < p)
    have hA : (runF zs (addM M p) 0 s).same (runF zs (addM M1 p) 0 s) r := by
      refine runF_agree zs _ _ 0 s s (FS.same_refl _ _) (fun j q' hq' hr' => ?_)
      simp only [Nat.zero_add, addM, M1]
      by_cases hj : j = p
      · simp [hj]
      · simp only [hj, ↓reduceIte]
        rcases Nat.lt_trichotomy j p with h | h | h
        · simp [h]
        · exact absurd h hj
        · have : ¬ j < p := by omega
          simp only [this, decide_false, Bool.and_false]
          cases hm : M j with
          | false => rfl
          | true => exact absurd hr' (hlater j q' h hq' hm r hr)
    have hB : (runF zs M 0 s).same (runF zs M1 0 s) r := by
      refine runF_agree zs _ _ 0 s s (FS.same_refl _ _) (fun j q' hq' hr' => ?_)
      simp only [Nat.zero_add, M1]
      rcases Nat.lt_trichotomy j p with h | h | h
      · simp [h]
      · subst h; simp [hp]
      · have : ¬ j < p := by omega
        simp only [this, decide_false, Bool.and_false]
        cases hm : M j with
        | false => rfl
        | true => exact absurd hr' (hlater j q' h hq' hm r hr)
    have hC := runF_last zs M1 0 p s q hq (fun j hj => by simp only [M1]; simp [show ¬ j < p by omega])
    rw [Nat.zero_add] at hC
    rw [hC] at hA
    exact FS.same_trans hA (app_congr (FS.same_symm hB))
  · refine FS.same_trans (runF_agree zs _ M 0 s s (FS.same_refl _ _) (fun j q' hq' hr' => ?_)) (FS.same_symm (app_other hr))
    simp only [Nat.zero_add, addM]
    by_cases hj : j = p
    · subst hj
      rw [hq] at hq'
      cases hq'
      exact absurd hr' hr
    · simp [hj]

end Go.Proofs.YtmjdoonaidolkaaDoor.V

/- A small logic of values over the model, part 21: what an operation looks at; a region whose order is open. -/
namespace Go.Proofs.YtmjdoonaidolkaaDoor.V

def vxT : VX → List Nat
  | .tmp t => [t]
  | .cst _ => []
def vxsT : List VX → List Nat
  | [] => []
  | x :: r => vxT x ++ vxsT r
def voT : Option VX → List Nat
  | none => []
  | some x => vxT x
def partsT : List (Nat × Nat × VX) → List Nat
  | [] => []
  | (_, _, x) :: r => vxT x ++ partsT r
def elemsT : List (Nat × VX) → List Nat
  | [] => []
  | (_, x) :: r => vxT x ++ elemsT r

/-- The slots that an operation looks at. -/
def opT : VOp → List Nat
  | .mov x | .box x | .load _ x | .nilck x | .un _ x | .cvi _ x | .cvsb x | .cvbs x | .cvid x | .ifc _ x | .fld _ x | .fldv _ _ x | .ext x _ | .lens x | .lenl x | .mk _ _ _ x => vxT x
  | .pick c a b => vxT c ++ vxT a ++ vxT b
  | .alloc _ => []
  | .build _ ps => partsT ps
  | .bslice _ _ _ ps => elemsT ps
  | .store _ x v => vxT x ++ vxT v
  | .bin _ x y | .eqn _ _ x y | .eqb _ x y | .mm _ x y | .eqv _ _ x y | .ixa _ x y | .ixarr _ _ x y | .ixs x y | .app _ _ x y | .apps _ x y | .cpy x y => vxT x ++ vxT y
  | .fn _ l => vxsT l
  | .slstr x lo hi | .slsl _ x lo hi => vxT x ++ voT lo ++ voT hi
  | .call f l => vxT f ++ vxsT l
  | .bad => []

/-- The boxes that an operation looks at. -/
def opB (s : Nat → AV) : VOp → List Nat
  | .load _ x | .store _ x _ => match rdX s x with
    | .ptr (some (i, _)) => [i]
    | _ => []
  | .slsl _ x _ _ | .cpy x _ => match rdX s x with
    | .bsl _ i _ _ => [i]
    | _ => []
  | _ => []

theorem rdX_congr {s s' : Nat → AV} {x : VX} (h : ∀ t, t ∈ vxT x → s t = s' t) : rdX s x = rdX s' x := by
  cases x with
  | tmp t => exact h t (by simp [vxT])
  | cst c => rfl

theorem putParts_congr {s s' : Nat → AV} : ∀ (ps : List (Nat × Nat × VX)) (z : List AV), (∀ t, t ∈ partsT ps → s t = s' t) → putParts s z ps = putParts s' z ps
  | [], z, _ => rfl
  | (off, sz, x) :: r, z, h => by
    have hx : rdX s x = rdX s' x := rdX_congr fun t ht => h t (by simp [partsT, ht])
    rw [putParts, putParts, hx]
    split
    · exact putParts_congr r _ (fun t ht => h t (by simp [partsT, ht]))
    · rfl

theorem putElems_congr {s s' : Nat → AV} {sz : Nat} : ∀ (ps : List (Nat × VX)) (z : List (List AV)), (∀ t, t ∈ elemsT ps → s t = s' t) → putElems s sz z ps = putElems s' sz z ps
  | [], z, _ => rfl
  | (i, x) :: r, z, h => by
    have hx : rdX s x = rdX s' x := rdX_congr fun t ht => h t (by simp [elemsT, ht])
    rw [putElems, putElems, hx]
    split
    · exact putElems_congr r _ (fun t ht => h t (by simp [elemsT, ht]))
    · rfl

theorem vlow_congr {s s' : Nat → AV} {x : Option VX} (h : ∀ t, t ∈ voT x → s t = s' t) : vlow s x = vlow s' x := by
  cases x with
  | none => rfl
  | some x => simp only [vlow, rdX_congr (s := s) (s' := s') (x := x) h]
theorem vhigh_congr {s s' : Nat → AV} {n : Nat} {x : Option VX} (h : ∀ t, t ∈ voT x → s t = s' t) : vhigh s n x = vhigh s' n x := by
  cases x with
  | none => rfl
  | some x => simp only [vhigh, rdX_congr (s := s) (s' := s') (x := x) h]

theorem ev_congr {fl : Bool} {s s' : Nat → AV} {bx bx' : Nat → Option HObj} {id : Nat} {op : VOp} (h : ∀ t, t ∈ opT op → s t = s' t) (hb : ∀ i, i ∈ opB s op → bx i = bx' i) : ev fl s bx id op = ev fl s' bx' id op := by
  cases op with
  | mov x | box x | nilck x | un _ x | cvi _ x | cvsb x | cvbs x | cvid x | ifc _ x | fld _ x | fldv _ _ x | ext x _ | lens x | lenl x | mk _ _ _ x =>
    simp only [ev, rdX_congr (s := s) (s' := s') (x := x) h]
  | alloc z => rfl
  | call f l => rfl
  | bad => rfl
  | pick c a b =>
    simp only [ev, rdX_congr (s := s) (s' := s') (x := c) (fun t ht => h t (by simp [opT, ht])), rdX_congr (s := s) (s' := s') (x := a) (fun t ht => h t (by simp [opT, ht])), rdX_congr (s := s) (s' := s') (x := b) (fun t ht => h t (by simp [opT, ht]))]
  | build z ps => simp only [ev, putParts_congr ps z h]
  | bslice sz n z ps => simp only [ev, putElems_congr ps _ h]
  | bin _ x y | eqn _ _ x y | eqb _ x y | mm _ x y | eqv _ _ x y | ixa _ x y | ixarr _ _ x y | ixs x y | app _ _ x y | apps _ x y =>
    simp only [ev, rdX_congr (s := s) (s' := s') (x := x) (fun t ht => h t (by simp [opT, ht])), rdX_congr (s := s) (s' := s') (x := y) (fun t ht => h t (by simp [opT, ht]))]
  | fn f l =>
    have : (l.map fun x => (rdX s x).strip) = l.map fun x => (rdX s' x).strip := by
      simp only [opT] at h
      clear hb
      induction l with
      | nil => rfl
      | cons x r ih =>
        simp only [List.map_cons]
        rw [rdX_congr (s := s) (s' := s') (x := x) (fun t ht => h t (by simp [vxsT, ht])), ih (fun t ht => h t (by simp [vxsT, ht]))]
    simp only [ev, this]
  | cpy x y =>
    have hx : rdX s x = rdX s' x := rdX_congr (fun t ht => h t (by simp [opT, ht]))
    have hy : rdX s y = rdX s' y := rdX_congr (fun t ht => h t (by simp [opT, ht]))
    simp only [ev, opB, hx, hy] at hb ⊢
    split
    · rename_i sz i off n sz' nl ow ys hr hr2
      rw [hr] at hb
      rw [hb i (by simp)]
    · rfl
  | slsl sz x lo hi =>
    have hx : rdX s x = rdX s' x := rdX_congr (fun t ht => h t (by simp [opT, ht]))
    simp only [ev, opB, hx, vlow_congr (s := s) (s' := s') (x := lo) (fun t ht => h t (by simp [opT, ht])),
      fun n => vhigh_congr (s := s) (s' := s') (n := n) (x := hi) (fun t ht => h t (by simp [opT, ht]))] at hb ⊢
    split
    · rfl
    · rename_i sz' i off n hr
      rw [hr] at hb
      rw [hb i (by simp)]
    · rfl
  | slstr x lo hi =>
    simp only [ev, rdX_congr (s := s) (s' := s') (x := x) (fun t ht => h t (by simp [opT, ht])), vlow_congr (s := s) (s' := s') (x := lo) (fun t ht => h t (by simp [opT, ht])),
      fun n => vhigh_congr (s := s) (s' := s') (n := n) (x := hi) (fun t ht => h t (by simp [opT, ht]))]
  | load g x =>
    have hx : rdX s x = rdX s' x := rdX_congr h
    simp only [ev, opB, hx] at hb ⊢
    split
    · rename_i i off hr
      rw [hr] at hb
      rw [hb i (by simp)]
    · rfl
    · rfl
  | store n x v =>
    have hx : rdX s x = rdX s' x := rdX_congr (fun t ht => h t (by simp [opT, ht]))
    have hv : rdX s v = rdX s' v := rdX_congr (fun t ht => h t (by simp [opT, ht]))
    simp only [ev, opB, hx, hv] at hb ⊢
    split
    · rename_i i off hr
      rw [hr] at hb
      rw [hb i (by simp)]
    · rfl

/-- The id is asked for where a box is made, alone. -/
theorem ev_id {fl : Bool} {s : Nat → AV} {bx : Nat → Option HObj} {id id' : Nat} {op : VOp} (h : op.isAlloc = false) : ev fl s bx id op = ev fl s bx id' op := by
  cases op <;> first | rfl | (simp [VOp.isAlloc] at h)

/-- The boxes to which these point. -/
def ptrsT (s : Nat → AV) : List VX → List Nat
  | [] => []
  | x :: r => (match rdX s x with
    | .ptr (some (i, _)) => [i]
    | _ => []) ++ ptrsT s r

/-- All that a step looks at. -/
def rdL (o : VOper) (s : Nat → AV) (id : Nat) : List Res :=
  (match o.guard with | some (g, _) => [.slot g] | none => []) ++
  (match o.call with | some (f, l) => (vxT f ++ vxsT l).map .slot ++ (ptrsT s l).map .box | none => []) ++ (opT o.op).map .slot ++ (opB s o.op).map .box ++ (if o.op.isAlloc then [.box id] else [])

theorem VStep.congr {P : Program} {L : Nat → Bool} {o : VOper} {s s' : FS} {id : Nat} {d : SD} (h : VStep P L o s id d) (hs : ∀ r, r ∈ rdL o s.sl id → s.same s' r) : VStep P L o s' id d := by
  have hguard : ∀ g want, o.guard = some (g, want) → s.sl g = s'.sl g := fun g want e => hs (.slot g) (by simp [rdL, e])
  have hon : o.on s.sl → o.on s'.sl := by
    intro h1
    unfold VOper.on at *
    cases hg : o.guard with
    | none => trivial
    | some p =>
      obtain ⟨g, want⟩ := p
      rw [hg] at h1
      simp only at h1 ⊢
      rw [← hguard g want hg]; exact h1
  cases h with
  | off g want h1 h2 => exact .off g want h1 (by rw [← hguard g want h1]; exact h2)
  | ev x b h0 h1 h2 =>
    refine .ev x b h0 (hon h1) ?_
    rw [← ev_congr (s := s.sl) (bx := s.bx) (fun t ht => hs (.slot t) ?_) (fun i hi => hs (.box i) ?_)]
    · exact h2
    · unfold rdL
      simp only [List.mem_append, List.mem_map]
      exact .inl (.inl (.inr ⟨t, ht, rfl⟩))
    · unfold rdL
      simp only [List.mem_append, List.mem_map]
      exact .inl (.inr ⟨i, hi, rfl⟩)
  | pcall f args g ret h0 h1 h2 h3 h4 h5 =>
    have hx : ∀ x, x = f ∨ x ∈ args → rdX s.sl x = rdX s'.sl x := by
      intro x hx
      refine rdX_congr fun t ht => hs (.slot t) ?_
      unfold rdL
      rw [h0]
      have hm : t ∈ vxT f ++ vxsT args := by
        rcases hx with rfl | hx
        · simp [ht]
        · have : t ∈ vxsT args := by
            clear h0 h2 h3 h4 h5
            induction args with
            | nil => simp at hx
            | cons y r ih =>
              rcases List.mem_cons.1 hx with rfl | hx
              · simp [vxsT, ht]
              · simp [vxsT, ih hx]
          simp [this]
      simp only [List.mem_append, List.mem_map]
      exact .inl (.inl (.inl (.inr (.inl ⟨t, by simpa using hm, rfl⟩))))
    have hmap : args.map (rdX s.sl) = args.map (rdX s'.sl) := List.map_congr_left fun x hx' => hx x (.inr hx')
    refine .pcall f args g ret h0 (hon h1) (by rw [← hx f (.inl rfl)]; exact h2) h3 (fun v hv => by rw [← hx v (.inr hv)]; exact h4 v hv) (by rw [← hmap]; exact h5)
  | bcall f args g ret i off rest ob ob' h0 h1 h2 h3 h4 h5 h6 h7 h8 h9 h10 =>
    have hx : ∀ x, x = f ∨ x ∈ args → rdX s.sl x = rdX s'.sl x := by
      intro x hx
      refine rdX_congr fun t ht => hs (.slot t) ?_
      unfold rdL
      rw [h0]
      have hm : t ∈ vxT f ++ vxsT args := by
        rcases hx with rfl | hx
        · simp [ht]
        · have : t ∈ vxsT args := by
            clear h0 h2 h3 h4 h5 h6 h7 h8 h9 h10
            induction args with
            | nil => simp at hx
            | cons y r ih =>
              rcases List.mem_cons.1 hx with rfl | hx
              · simp [vxsT, ht]
              · simp [vxsT, ih hx]
          simp [this]
      simp only [List.mem_append, List.mem_map]
      exact .inl (.inl (.inl (.inr (.inl ⟨t, by simpa using hm, rfl⟩))))
    have hmap : args.map (rdX s.sl) = args.map (rdX s'.sl) := List.map_congr_left fun x hx' => hx x (.inr hx')
    have hbi : s.bx i = s'.bx i := by
      refine hs (.box i) ?_
      unfold rdL
      rw [h0]
      simp only [List.mem_append, List.mem_map]
      refine .inl (.inl (.inl (.inr (.inr ⟨i, ?_, rfl⟩))))
      cases args with
      | nil => simp at h4
      | cons y r =>
        simp only [List.map_cons, List.cons.injEq] at h4
        simp [ptrsT, h4.1]
    exact .bcall f args g ret i off rest ob ob' h0 (hon h1) (by rw [← hx f (.inl rfl)]; exact h2) h3 (by rw [← hmap]; exact h4) (by rw [← hbi]; exact h5) h6 h7 h8 h9 h10

/-- Operations one behind the other, each told with what it looked at. -/
inductive VRun (P : Program) (L : Nat → Bool) : List VOper → St → List (Option Nat × SD) → List (List Res) → St → Prop
  | nil (S : St) : VRun P L [] S [] [] S
  | cons (o : VOper) (os : List VOper) (S : St) (d : SD) (ds : List (Option Nat × SD)) (rs : List (List Res)) (S' : St) : VStep P L o S.fs S.h.length d → VRun P L os (S.app o.dst d) ds rs S' →
      VRun P L (o :: os) S ((o.dst, d) :: ds) (rdL o S.fs.sl S.h.length :: rs) S'

/-- Of these and of those ahead of them: a set, as a number's bits. -/
def maskOf (acc : List Nat) : List Nat → Nat
  | [] => 0
  | j :: r => maskOf acc r ||| (2 ^ j ||| acc.getD j 0)

/-- Those ahead of each one. -/
def befores : List VOper → List Nat → List Nat
  | [], acc => acc
  | o :: r, acc => befores r (acc ++ [maskOf acc o.deps])

theorem maskOf_spec {acc : List Nat} {i : Nat} : ∀ {l : List Nat}, (maskOf acc l).testBit i = true → i ∈ l ∨ ∃ j, j ∈ l ∧ (acc.getD j 0).testBit i = true
  | [], h => by simp [maskOf] at h
  | j :: r, h => by
    rw [maskOf, Nat.testBit_or, Nat.testBit_or, Bool.or_eq_true, Bool.or_eq_true] at h
    rcases h with h | h | h
    · rcases maskOf_spec h with h | ⟨k, h1, h2⟩
      · exact .inl (by simp [h])
      · exact .inr ⟨k, by simp [h1], h2⟩
    · rw [Nat.testBit_two_pow] at h
      have : j = i := by simpa using h
      exact .inl (by simp [this])
    · exact .inr ⟨j, by simp, h⟩

def meets (a b : List Res) : Bool := a.any fun x => b.contains x

/-- Of any two that meddle with each other the second waits for the first. -/
def drawOk (bs : List Nat) (ws rs : List (List Res)) : Bool :=
  (List.range ws.length).all fun j => (List.range j).all fun i =>
    (bs.getD j 0).testBit i || !(meets (ws.getD i []) (ws.getD j []) || meets (ws.getD i []) (rs.getD j []) || meets (rs.getD i []) (ws.getD j []))

def depsOk (l : List VOper) : Bool := (List.range l.length).all fun j => ((l.getD j default).deps).all fun i => decide (i < j)

end Go.Proofs.YtmjdoonaidolkaaDoor.V

/- A small logic of values over the model, part 22: a region whose order is open, in whatever order. -/
namespace Go.Proofs.YtmjdoonaidolkaaDoor.V

theorem befores_append : ∀ (l : List VOper) (acc : List Nat), ∃ r, befores l acc = acc ++ r ∧ r.length = l.length
  | [], acc => ⟨[], by simp [befores], rfl⟩
  | o :: l, acc => by
    obtain ⟨r, h1, h2⟩ := befores_append l (acc ++ [maskOf acc o.deps])
    exact ⟨maskOf acc o.deps :: r, by rw [befores, h1]; simp, by simp [h2]⟩

/-- What stands in the list of those ahead: a dependency, or one ahead of a dependency. -/
theorem befores_spec : ∀ (l : List VOper) (acc : List Nat) (k : Nat) (o : VOper), l[k]? = some o → (∀ i, i ∈ o.deps → i < acc.length + k) →
    ∀ i, ((befores l acc).getD (acc.length + k) 0).testBit i = true → i ∈ o.deps ∨ ∃ j, j ∈ o.deps ∧ ((befores l acc).getD j 0).testBit i = true
  | [], acc, k, o, h, _, i, hi => by simp at h
  | p :: l, acc, 0, o, h, hd, i, hi => by
    simp at h
    subst h
    rw [befores] at hi ⊢
    obtain ⟨r, h1, h2⟩ := befores_append l (acc ++ [maskOf acc p.deps])
    rw [h1] at hi ⊢
    simp only [Nat.add_zero] at hi
    have e : ((acc ++ [maskOf acc p.deps]) ++ r).getD acc.length 0 = maskOf acc p.deps := by
      simp [List.getD_eq_getElem?_getD]
    rw [e] at hi
    rcases maskOf_spec hi with hi | ⟨j, hj, hij⟩
    · exact .inl hi
    · refine .inr ⟨j, hj, ?_⟩
      have hjl : j < acc.length := by have := hd j hj; omega
      rw [List.getD_eq_getElem?_getD, List.append_assoc, List.getElem?_append_left hjl, ← List.getD_eq_getElem?_getD]
      exact hij
  | p :: l, acc, k + 1, o, h, hd, i, hi => by
    rw [befores] at hi ⊢
    have := befores_spec l (acc ++ [maskOf acc p.deps]) k o (by simpa using h) (fun i hi => by have := hd i hi; simp; omega) i
    simp only [List.length_append, List.length_singleton] at this
    rw [show acc.length + (k + 1) = acc.length + 1 + k by omega] at hi
    exact this hi

theorem before_closed {vops : List VOper} (hdep : depsOk vops = true) {M : Nat → Bool} (hM : ∀ j o, vops[j]? = some o → M j = true → ∀ i, i ∈ o.deps → M i = true) :
    ∀ (j : Nat) (o : VOper), vops[j]? = some o → (M j = true ∨ ∀ i, i ∈ o.deps → M i = true) → ∀ i, ((befores vops []).getD j 0).testBit i = true → M i = true := by
  intro j
  induction j using Nat.strongRecOn with
  | _ j ih =>
    intro o ho hj i hi
    have hd : ∀ i, i ∈ o.deps → i < j := by
      intro i hi
      unfold depsOk at hdep
      rw [List.all_eq_true] at hdep
      have hjl : j < vops.length := by
        rcases Nat.lt_or_ge j vops.length with h' | h'
        · exact h'
        · simp [List.getElem?_eq_none h'] at ho
      have := hdep j (List.mem_range.2 hjl)
      rw [List.all_eq_true] at this
      have e : vops.getD j default = o := by simp [List.getD_eq_getElem?_getD, ho]
      rw [e] at this
      simpa using this i hi
    have hdeps : ∀ i, i ∈ o.deps → M i = true := by
      rcases hj with hj | hj
      · exact hM j o ho hj
      · exact hj
    have := befores_spec vops [] j o ho (by simpa using hd) i (by simpa using hi)
    rcases this with h1 | ⟨q, hq, h1⟩
    · exact hdeps i h1
    · have hql : q < vops.length := by
        have := hd q hq
        rcases Nat.lt_or_ge j vops.length with h' | h'
        · omega
        · simp [List.getElem?_eq_none h'] at ho
      exact ih q (hd q hq) _ (List.getElem?_eq_getElem hql) (.inl (hdeps q hq)) i h1

theorem VRun.get {P : Program} {L : Nat → Bool} : ∀ {os : List VOper} {S : St} {ds : List (Option Nat × SD)} {rs : List (List Res)} {S' : St}, VRun P L os S ds rs S' → (∀ o, o ∈ os → ∀ t, o.dst = some t → t < S.t.length) →
    ds.length = os.length ∧ rs.length = os.length ∧ S'.fs = runF ds (fun _ => true) 0 S.fs ∧ S'.t.length = S.t.length ∧ S.h.length ≤ S'.h.length ∧
    ∀ (k : Nat) (o : VOper), os[k]? = some o → ∃ d id, ds[k]? = some (o.dst, d) ∧ VStep P L o (runF ds (fun j => decide (j < k)) 0 S.fs) id d ∧ rs[k]? = some (rdL o (runF ds (fun j => decide (j < k)) 0 S.fs).sl id) ∧
      (runF ds (fun j => decide (j < k)) 0 S.fs).bx id = none
  | _, _, _, _, _, .nil S, _ => ⟨rfl, rfl, rfl, rfl, Nat.le_refl _, by simp⟩
  | _, _, _, _, _, .cons o os S d ds rs S' st h, hd => by
    have happ := St.app_fs (S := S) (dst := o.dst) (d := d) (fun t ht => hd o (by simp) t ht) st.box_le
    obtain ⟨k1, k2, k3, k4, k5, k6⟩ := VRun.get h (fun o' ho' t ht => by rw [St.app_length]; exact hd o' (by simp [ho']) t ht)
    have shift : ∀ (M : Nat → Bool) (s : FS), runF ds (fun j => M (j + 1)) 0 s = runF ds M 1 s := by
      intro M s
      have : ∀ (l : List (Option Nat × SD)) (i : Nat) (s : FS), runF l (fun j => M (j + 1)) i s = runF l M (i + 1) s := by
        intro l
        induction l with
        | nil => intro i s; rfl
        | cons p l ih => intro i s; rw [runF, runF, ih]
      exact this ds 0 s
    refine ⟨by simp [k1], by simp [k2], ?_, by rw [k4, St.app_length], Nat.le_trans (boxL_length _ _) k5, fun k o' ho' => ?_⟩
    · rw [k3, runF]
      simp only [↓reduceIte]
      rw [happ]
      exact shift (fun _ => true) _
    · cases k with
      | zero =>
        simp at ho'
        subst ho'
        have e : runF ((o.dst, d) :: ds) (fun j => decide (j < 0)) 0 S.fs = S.fs := runF_none _ _ _ _ (fun j _ => by simp)
        rw [e]
        exact ⟨d, S.h.length, rfl, st, rfl, S.fresh⟩
      | succ k =>
        obtain ⟨d', id, q1, q2, q3, q4⟩ := k6 k o' (by simpa using ho')
        have e : runF ((o.dst, d) :: ds) (fun j => decide (j < k + 1)) 0 S.fs = runF ds (fun j => decide (j < k)) 0 (S.app o.dst d).fs := by
          rw [runF]
          simp only [Nat.zero_lt_succ, decide_true, ↓reduceIte]
          rw [happ, ← shift (fun j => decide (j < k + 1))]
          congr 1
          funext j
          simp
        rw [e]
        exact ⟨d', id, by simpa using q1, q2, by simpa using q3, q4⟩

theorem runF_has : ∀ (zs : List (Option Nat × SD)) (M : Nat → Bool) (i : Nat) (s : FS) (j : Nat), s.has j → (runF zs M i s).has j
  | [], M, i, s, j, h => h
  | p :: zs, M, i, s, j, h => by
    rw [runF]
    refine runF_has zs M (i + 1) _ j ?_
    split
    · obtain ⟨o, ho⟩ := h
      unfold FS.has
      rw [app_box]
      cases p.2.b with
      | none => exact ⟨o, ho⟩
      | some q =>
        simp only
        split
        · exact ⟨_, rfl⟩
        · exact ⟨o, ho⟩
    · exact h

theorem meets_of {a b : List Res} {r : Res} (h1 : r ∈ a) (h2 : r ∈ b) : meets a b = true := by
  unfold meets
  rw [List.any_eq_true]
  exact ⟨r, h1, by simpa using h2⟩

theorem drawOk_spec {bs : List Nat} {ws rs : List (List Res)} (h : drawOk bs ws rs = true) {i j : Nat} (hij : i < j) (hj : j < ws.length) (hn : ¬ (bs.getD j 0).testBit i = true) {r : Res} :
    (r ∈ ws.getD i [] → r ∉ ws.getD j []) ∧ (r ∈ ws.getD i [] → r ∉ rs.getD j []) ∧ (r ∈ rs.getD i [] → r ∉ ws.getD j []) := by
  unfold drawOk at h
  rw [List.all_eq_true] at h
  have h1 := h j (List.mem_range.2 hj)
  rw [List.all_eq_true] at h1
  have h2 := h1 i (List.mem_range.2 hij)
  simp only [Bool.or_eq_true, Bool.not_eq_true', Bool.or_eq_false_iff] at h2
  rcases h2 with h2 | ⟨⟨h2, h3⟩, h4⟩
  · exact absurd h2 hn
  · exact ⟨(fun a b => by rw [meets_of a b] at h2; cases h2), (fun a b => by rw [meets_of a b] at h3; cases h3), (fun a b => by rw [meets_of a b] at h4; cases h4)⟩

theorem any_sound {P : Program} {L : Nat → Bool} {ops : Array Oper} {vops : List VOper} (hres : ∀ (i : Nat) (o : Oper), ops[i]? = some o → ∃ vo, vops[i]? = some vo ∧ resOper P true ops o = some vo) (hlen : vops.length = ops.size) {N : Nat}
    (hdst : ∀ vo, vo ∈ vops → ∀ t, vo.dst = some t → t < N) (hdep : depsOk vops = true) {S S' : St} {ds : List (Option Nat × SD)} {rs : List (List Res)} (hrun : VRun P L vops S ds rs S') (hN : S.t.length = N)
    (hok : drawOk (befores vops []) (ds.map fun p => wrL p.1 p.2) rs = true) {Q : Exit → Act → World → Prop} :
    ∀ (fuel : Nat) (listed : Array Bool) (a : Act) (w : World) (fr pi : Nat → Nat) (own : Res → List Nat), listed.size = ops.size → fuel = (listed.toList.filter (fun b => !b)).length →
      (∀ j o, vops[j]? = some o → listed.getD j false = true → ∀ i, i ∈ o.deps → listed.getD i false = true) →
      Rel w fr pi own (runF ds (fun j => listed.getD j false) 0 S.fs) a.tmps → a.tmps.size = N →
      (∀ a' w' fr' pi' own', a'.defers = a.defers → a'.tmps.size = N → Rel w' fr' pi' own' S'.fs a'.tmps → Ext w w' fr fr' pi pi' own own' (runF ds (fun j => listed.getD j false) 0 S.fs).has → Q .normal a' w') →
      wpAny P .any ops Q fuel listed a w := by
  obtain ⟨l1, l2, l3, l4, l5, l6⟩ := hrun.get (fun o ho t ht => by rw [hN]; exact hdst o ho t ht)
  have hdepj : ∀ (j : Nat) (o : VOper), vops[j]? = some o → ∀ i, i ∈ o.deps → i < j := by
    intro j o ho i hi
    have h := hdep
    unfold depsOk at h
    rw [List.all_eq_true] at h
    have hjl : j < vops.length := by
      rcases Nat.lt_or_ge j vops.length with h' | h'
      · exact h'
      · simp [List.getElem?_eq_none h'] at ho
    have := h j (List.mem_range.2 hjl)
    rw [List.all_eq_true] at this
    have e : vops.getD j default = o := by simp [List.getD_eq_getElem?_getD, ho]
    rw [e] at this
    simpa using this i hi
  -- who is ready
  have hready : ∀ (listed : Array Bool), listed.size = ops.size → ∀ i, i ∈ Region.ready .any ops listed ↔ (i < ops.size ∧ listed.getD i false = false ∧ ∀ o, vops[i]? = some o → ∀ j, j ∈ o.deps → listed.getD j false = true) := by
    intro listed hsz i
    unfold Region.ready
    rw [List.mem_filter, List.mem_range]
    constructor
    · rintro ⟨hi, hc⟩
      simp only [Bool.and_eq_true, Bool.not_eq_true'] at hc
      refine ⟨hi, ?_, fun o ho j hj => ?_⟩
      · have := hc.1
        rw [Array.getD_eq_getD_getElem?, Array.getElem?_eq_getElem (by omega)] at this ⊢
        simpa using this
      · obtain ⟨vo, h1, h2⟩ := hres i ops[i] (Array.getElem?_eq_getElem hi)
        rw [ho] at h1
        cases h1
        have hdd := (resOper_inv h2).2.2.1 rfl
        rw [hdd] at hj
        unfold depsOf at hj
        obtain ⟨e, he, rfl⟩ := List.mem_map.1 hj
        obtain ⟨he1, he2⟩ := List.mem_filter.1 he
        have h3 := hc.2
        rw [Array.getElem?_eq_getElem hi] at h3
        simp only [Option.map_some, Option.getD_some] at h3
        rw [Array.all_eq_true_iff_forall_mem] at h3
        have := h3 e (by simpa using he1)
        simp only [he2, Bool.not_true, Bool.false_or] at this
        exact this
    · rintro ⟨hi, h1, h2⟩
      refine ⟨hi, ?_⟩
      simp only [Bool.and_eq_true, Bool.not_eq_true']
      refine ⟨?_, ?_⟩
      · rw [Array.getD_eq_getD_getElem?, Array.getElem?_eq_getElem (by omega)] at h1 ⊢
        simpa using h1
      · obtain ⟨vo, k1, k2⟩ := hres i ops[i] (Array.getElem?_eq_getElem hi)
        rw [Array.getElem?_eq_getElem hi]
        simp only [Option.map_some, Option.getD_some]
        rw [Array.all_eq_true_iff_forall_mem]
        intro e he
        cases hb : Region.binds .any e with
        | false => rfl
        | true =>
          simp only [Bool.not_true, Bool.false_or]
          refine h2 vo k1 e.on ?_
          rw [(resOper_inv k2).2.2.1 rfl]
          exact List.mem_map.2 ⟨e, List.mem_filter.2 ⟨by simpa using he, hb⟩, rfl⟩
  -- nobody is ready: all are done
  have hdone : ∀ (listed : Array Bool), listed.size = ops.size → Region.ready .any ops listed = [] → ∀ i, i < ops.size → listed.getD i false = true := by
    intro listed hsz hnil i
    induction i using Nat.strongRecOn with
    | _ i ih =>
      intro hi
      cases hb : listed.getD i false with
      | true => rfl
      | false =>
        exfalso
        have : i ∈ Region.ready .any ops listed := (hready listed hsz i).2 ⟨hi, hb, fun o ho j hj => ih j (hdepj i o ho j hj) (by have := hdepj i o ho j hj; omega)⟩
        rw [hnil] at this
        simp at this
  have hend : ∀ (listed : Array Bool) (a : Act) (w : World) (fr pi : Nat → Nat) (own : Res → List Nat), listed.size = ops.size → Region.ready .any ops listed = [] → Rel w fr pi own (runF ds (fun j => listed.getD j false) 0 S.fs) a.tmps → Rel w fr pi own S'.fs a.tmps := by
    intro listed a w fr pi own hsz hnil hr
    rw [l3]
    have : runF ds (fun j => listed.getD j false) 0 S.fs = runF ds (fun _ => true) 0 S.fs := runF_congr ds 0 S.fs (fun j hj => by
      rw [Nat.zero_add]
      exact hdone listed hsz hnil j (by omega))
    rw [← this]
    exact hr
  intro fuel
  induction fuel with
  | zero =>
    intro listed a w fr pi own hsz hf hcl hr hts hQ
    have hall : ∀ i, i < ops.size → listed.getD i false = true := by
      intro i hi
      have hb : listed[i]'(by omega) ∈ listed.toList := by simp
      rw [Array.getD_eq_getD_getElem?, Array.getElem?_eq_getElem (by omega)]
      simp only [Option.getD_some]
      cases hbb : listed[i]'(by omega) with
      | true => rfl
      | false =>
        exfalso
        have : false ∈ listed.toList.filter (fun b => !b) := List.mem_filter.2 ⟨by rw [← hbb]; exact hb, rfl⟩
        have hlen0 := List.eq_nil_of_length_eq_zero hf.symm
        rw [hlen0] at this
        simp at this
    have hnil : Region.ready .any ops listed = [] := by
      apply List.eq_nil_iff_forall_not_mem.2
      intro i hi
      obtain ⟨h1, h2, _⟩ := (hready listed hsz i).1 hi
      rw [hall i h1] at h2
      cases h2
    refine ⟨hnil, ?_⟩
    exact hQ a w fr pi own rfl hts (hend listed a w fr pi own hsz hnil hr) (Ext.refl _ _ _ _ _)
  | succ fuel ih =>
    intro listed a w fr pi own hsz hf hcl hr hts hQ
    refine ⟨fun hnil => hQ a w fr pi own rfl hts (hend listed a w fr pi own hsz hnil hr) (Ext.refl _ _ _ _ _), fun i hi => ?_⟩
    obtain ⟨hio, hil, hid⟩ := (hready listed hsz i).1 hi
    obtain ⟨vo, hvo, hrs⟩ := hres i ops[i] (Array.getElem?_eq_getElem hio)
    obtain ⟨d, id, q1, q2, q3, q4⟩ := l6 i vo hvo
    have hdeps := hid vo hvo
    -- those ahead are done, those that wait for it are not
    have hbef : ∀ j, ((befores vops []).getD i 0).testBit j = true → listed.getD j false = true := before_closed hdep hcl i vo hvo (.inr hdeps)
    have haft : ∀ (j : Nat) (oj : VOper), vops[j]? = some oj → listed.getD j false = true → ¬ ((befores vops []).getD j 0).testBit i = true := by
      intro j oj hj hlj hmem
      have := before_closed hdep hcl j oj hj (.inl hlj) i hmem
      rw [hil] at this
      cases this
    have hws : ∀ j, (ds.map fun p => wrL p.1 p.2).getD j [] = match ds[j]? with | some p => wrL p.1 p.2 | none => [] := by
      intro j
      rw [List.getD_eq_getElem?_getD, List.getElem?_map]
      cases ds[j]? <;> rfl
    have hri : rs.getD i [] = rdL vo (runF ds (fun j => decide (j < i)) 0 S.fs).sl id := by rw [List.getD_eq_getElem?_getD, q3]; rfl
    have hwi : (ds.map fun p => wrL p.1 p.2).getD i [] = wrL vo.dst d := by rw [hws, q1]
    have hdsl : (ds.map fun p => wrL p.1 p.2).length = ops.size := by rw [List.length_map]; omega
    have hsame : ∀ r, r ∈ rdL vo (runF ds (fun j => decide (j < i)) 0 S.fs).sl id → (runF ds (fun j => decide (j < i)) 0 S.fs).same (runF ds (fun j => listed.getD j false) 0 S.fs) r := by
      intro r hr'
      refine runF_agree ds _ _ 0 _ _ (FS.same_refl _ _) (fun j p hp hrw => ?_)
      simp only [Nat.zero_add]
      have hjl : j < ds.length := by
        rcases Nat.lt_or_ge j ds.length with h' | h'
        · exact h'
        · simp [List.getElem?_eq_none h'] at hp
      have hwj : (ds.map fun p => wrL p.1 p.2).getD j [] = wrL p.1 p.2 := by rw [hws, hp]
      rcases Nat.lt_trichotomy j i with h | h | h
      · simp only [h, decide_true]
        refine (Classical.byContradiction fun hno => ?_ : listed.getD j false = true).symm
        have hnb : ¬ ((befores vops []).getD i 0).testBit j = true := fun hm => hno (hbef j hm)
        exact (drawOk_spec hok h (by omega) hnb (r := r)).2.1 (by rw [hwj]; exact hrw) (by rw [hri]; exact hr')
      · subst h
        simp [hil]
      · have hnd : ¬ j < i := by omega
        simp only [hnd, decide_false]
        cases hlj : listed.getD j false with
        | false => rfl
        | true =>
          exfalso
          have hnb := haft j _ (List.getElem?_eq_getElem (by omega)) hlj
          exact (drawOk_spec hok h (by omega) hnb (r := r)).2.2 (by rw [hri]; exact hr') (by rw [hwj]; exact hrw)
    have hstep := q2.congr hsame
    have hidd : vo.op.isAlloc = true → (runF ds (fun j => listed.getD j false) 0 S.fs).bx id = none := by
      intro hal
      have := hsame (.box id) (by unfold rdL; simp [hal])
      have h2 : (runF ds (fun j => decide (j < i)) 0 S.fs).bx id = (runF ds (fun j => listed.getD j false) 0 S.fs).bx id := this
      rw [← h2]; exact q4
    have hdo : (ops[i]).dst = vo.dst := (resOper_inv hrs).1.symm
    refine step_exec (Array.getElem?_eq_getElem hio) hrs hr (fun t ht => by rw [hts]; exact hdst vo (List.mem_of_getElem? hvo) t (by rw [← hdo]; exact ht)) hidd hstep fun a' w' fr' pi' own' e1 e2 e3 e4 => ?_
    have hins := runF_insert (zs := ds) (M := fun j => listed.getD j false) (p := i) (q := (vo.dst, d)) S.fs q1 hil (fun j q' hij hq' hlj r hr1 hr2 => by
      have hnb := haft j (vops[j]'(by
        rcases Nat.lt_or_ge j ds.length with h' | h'
        · omega
        · simp [List.getElem?_eq_none h'] at hq')) (List.getElem?_eq_getElem _) hlj
      have hjl : j < ds.length := by
        rcases Nat.lt_or_ge j ds.length with h' | h'
        · exact h'
        · simp [List.getElem?_eq_none h'] at hq'
      exact (drawOk_spec hok hij (by omega) hnb (r := r)).1 (by rw [hwi]; exact hr1) (by rw [hws, hq']; exact hr2))
    have hM : (fun j => (listed.setIfInBounds i true).getD j false) = addM (fun j => listed.getD j false) i := by
      funext j
      unfold addM
      by_cases hj : j = i
      · subst hj
        rw [if_pos rfl, Array.getD_eq_getD_getElem?, Array.getElem?_setIfInBounds_self_of_lt (by omega)]
        rfl
      · rw [if_neg hj, Array.getD_eq_getD_getElem?, Array.getElem?_setIfInBounds_ne (by omega), ← Array.getD_eq_getD_getElem?]
    have hMj : ∀ j, (listed.setIfInBounds i true).getD j false = addM (fun j => listed.getD j false) i j := fun j => congrFun hM j
    have hcount : ∀ (l : List Bool) (k : Nat), l[k]? = some false → ((l.set k true).filter (fun b => !b)).length + 1 = (l.filter (fun b => !b)).length := by
      intro l
      induction l with
      | nil => intro k hk; simp at hk
      | cons b l ihl =>
        intro k hk
        cases k with
        | zero => simp at hk; subst hk; simp
        | succ k =>
          have := ihl k (by simpa using hk)
          cases b <;> simp <;> omega
    refine ih (listed.setIfInBounds i true) a' w' fr' pi' own' (by simpa using hsz) ?_ ?_ ?_ (by omega) ?_
    · have hb : listed.toList[i]? = some false := by
        rw [Array.getD_eq_getD_getElem?, Array.getElem?_eq_getElem (by omega)] at hil
        simp only [Option.getD_some] at hil
        rw [Array.getElem?_toList, Array.getElem?_eq_getElem (by omega), hil]
      have := hcount listed.toList i hb
      rw [Array.toList_setIfInBounds]
      omega
    · intro j o ho hj k hk
      rw [hMj] at hj ⊢
      unfold addM at hj ⊢
      by_cases hji : j = i
      · subst hji
        rw [hvo] at ho
        cases ho
        split
        · rfl
        · exact hdeps k hk
      · rw [if_neg hji] at hj
        split
        · rfl
        · exact hcl j o ho hj k hk
    · rw [hM, hins]
      exact e3
    · intro a2 w2 fr2 pi2 own2 g1 g2 g3 g4
      refine hQ a2 w2 fr2 pi2 own2 (g1.trans e1) g2 g3 (e4.trans g4 (fun k hk => ?_))
      rw [hM, hins]
      obtain ⟨ob, hob⟩ := hk
      unfold FS.has
      rw [app_box]
      cases d.b with
      | none => exact ⟨ob, hob⟩
      | some p =>
        simp only
        split
        · exact ⟨_, rfl⟩
        · exact ⟨ob, hob⟩

end Go.Proofs.YtmjdoonaidolkaaDoor.V

/- A small logic of values over the model, part 23: code: one behind the other, branches, blocks, loops. -/
namespace Go.Proofs.YtmjdoonaidolkaaDoor.V

inductive VC where
  | skip
  | reg (ops : List VOper)
  | dreg (ops : List VOper)
  | seq (a b : VC)
  | cond (x : VX) (t e : VC)
  | block (id : Nat) (c : VC)
  | loop (c : VC)
  | exit (id : Nat)
  | ret
  deriving Inhabited

def resOps (P : Program) (dr : Bool) (ops : Array Oper) : List Oper → Option (List VOper)
  | [] => some []
  | o :: r => (resOper P dr ops o).bind fun v => (resOps P dr ops r).map fun l => v :: l

def dstOk (N : Nat) (l : List VOper) : Bool := l.all fun o => match o.dst with | some d => decide (d < N) | none => true

def comp (P : Program) (N : Nat) : Code → Option VC
  | .skip => some .skip
  | .region _ ops false => (resOps P false ops ops.toList).bind fun l => if dstOk N l then some (.reg l) else none
  | .region _ ops true => if P.follows .mixedOrders then (resOps P true ops ops.toList).bind fun l => if dstOk N l && depsOk l then some (.dreg l) else none else none
  | .seq a b => (comp P N a).bind fun x => (comp P N b).map fun y => .seq x y
  | .cond c a b => (resX c).bind fun z => (comp P N a).bind fun x => (comp P N b).map fun y => .cond z x y
  | .block id c => (comp P N c).map (.block id)
  | .loop c => (comp P N c).map .loop
  | .exit id => some (.exit id)
  | .ret => some .ret
  | _ => none

inductive VE where
  | normal
  | exit (id : Nat)
  | ret
  deriving DecidableEq

def VE.out : VE → Exit
  | .normal => .normal
  | .exit id => .exit id
  | .ret => .ret

/-- How a run ends: in a state that the world holds, nothing else having turned. -/
def VQ (N : Nat) (Q : VE → St → Prop) (h0 : Nat) (w : World) (fr pi : Nat → Nat) (own : Res → List Nat) (e : Exit) (a' : Act) (w' : World) : Prop :=
  ∃ x S' fr' pi' own', e = VE.out x ∧ Q x S' ∧ S'.t.length = N ∧ h0 ≤ S'.h.length ∧ Rel w' fr' pi' own' (St.fs S') a'.tmps ∧ a'.tmps.size = N ∧ a'.defers = [] ∧ Ext w w' fr fr' pi pi' own own' (fun i => i < h0)

/-- From the state S the code comes to Q; the first h0 boxes stay. -/
def Vwp (P : Program) (_L : Nat → Bool) (N h0 : Nat) (c : VC) (Q : VE → St → Prop) (S : St) : Prop :=
  S.t.length = N → h0 ≤ S.h.length → ∀ c0, comp P N c0 = some c → ∀ (a : Act) (w : World) (fr pi : Nat → Nat) (own : Res → List Nat), Rel w fr pi own S.fs a.tmps → a.tmps.size = N → a.defers = [] →
    c0.wp P (VQ N Q h0 w fr pi own) a w

theorem VQ.mono {N : Nat} {Q Q' : VE → St → Prop} {h0 : Nat} {w : World} {fr pi : Nat → Nat} {own : Res → List Nat} {e : Exit} {a' : Act} {w' : World} (h : VQ N Q h0 w fr pi own e a' w') (hq : ∀ x S, Q x S → Q' x S) : VQ N Q' h0 w fr pi own e a' w' := by
  obtain ⟨x, S', fr', pi', own', h1, h2, h3⟩ := h
  exact ⟨x, S', fr', pi', own', h1, hq _ _ h2, h3⟩

theorem Vwp.mono {P : Program} {L : Nat → Bool} {N h0 : Nat} {c : VC} {Q Q' : VE → St → Prop} {S : St} (h : Vwp P L N h0 c Q S) (hq : ∀ x S, Q x S → Q' x S) : Vwp P L N h0 c Q' S := by
  intro hN hk c0 hc a w fr pi own hr hs hd
  exact wp_mono (h hN hk c0 hc a w fr pi own hr hs hd) fun e a w hh => hh.mono hq

/-- A run that goes on where another one has come to. -/
theorem VQ.trans {N : Nat} {Q : VE → St → Prop} {h0 : Nat} {w w1 : World} {fr pi fr1 pi1 : Nat → Nat} {own own1 : Res → List Nat} (he : Ext w w1 fr fr1 pi pi1 own own1 (fun i => i < h0)) {e : Exit} {a' : Act} {w' : World}
    (h : VQ N Q h0 w1 fr1 pi1 own1 e a' w') : VQ N Q h0 w fr pi own e a' w' := by
  obtain ⟨x, S', fr', pi', own', k1, k2, k3, k4, k5, k6, k7, k8⟩ := h
  exact ⟨x, S', fr', pi', own', k1, k2, k3, k4, k5, k6, k7, he.trans k8 (fun i hi => hi)⟩

section
variable {P : Program} {L : Nat → Bool} {N h0 : Nat} {Q : VE → St → Prop} {S : St}

theorem comp_skip {c0 : Code} (h : comp P N c0 = some .skip) : c0 = .skip := by
  unfold comp at h
  split at h <;> simp_all [Option.bind_eq_some_iff]
theorem comp_ret {c0 : Code} (h : comp P N c0 = some .ret) : c0 = .ret := by
  unfold comp at h
  split at h <;> simp_all [Option.bind_eq_some_iff]
theorem comp_exit {c0 : Code} {id : Nat} (h : comp P N c0 = some (.exit id)) : c0 = .exit id := by
  unfold comp at h
  split at h <;> simp_all [Option.bind_eq_some_iff]
theorem comp_seq {c0 : Code} {a b : VC} (h : comp P N c0 = some (.seq a b)) : ∃ x y, c0 = .seq x y ∧ comp P N x = some a ∧ comp P N y = some b := by
  unfold comp at h
  split at h <;> simp_all [Option.bind_eq_some_iff]
  exact ⟨_, _, ⟨rfl, rfl⟩, h⟩
theorem comp_cond {c0 : Code} {z : VX} {a b : VC} (h : comp P N c0 = some (.cond z a b)) : ∃ q x y, c0 = .cond q x y ∧ resX q = some z ∧ comp P N x = some a ∧ comp P N y = some b := by
  unfold comp at h
  split at h <;> simp_all [Option.bind_eq_some_iff]
  obtain ⟨z', h1, x', h2, y', h3, rfl, rfl, rfl⟩ := h
  exact ⟨_, _, _, ⟨rfl, rfl, rfl⟩, h1, h2, h3⟩
theorem comp_block {c0 : Code} {id : Nat} {a : VC} (h : comp P N c0 = some (.block id a)) : ∃ x, c0 = .block id x ∧ comp P N x = some a := by
  unfold comp at h
  split at h <;> simp_all [Option.bind_eq_some_iff]
theorem comp_loop {c0 : Code} {a : VC} (h : comp P N c0 = some (.loop a)) : ∃ x, c0 = .loop x ∧ comp P N x = some a := by
  unfold comp at h
  split at h <;> simp_all [Option.bind_eq_some_iff]
theorem comp_reg {c0 : Code} {l : List VOper} (h : comp P N c0 = some (.reg l)) : ∃ id ops, c0 = .region id ops false ∧ resOps P false ops ops.toList = some l ∧ dstOk N l = true := by
  unfold comp at h
  split at h <;> simp_all [Option.bind_eq_some_iff]
  exact ⟨_, _, ⟨rfl, rfl⟩, h.1⟩
theorem comp_dreg {c0 : Code} {l : List VOper} (h : comp P N c0 = some (.dreg l)) : ∃ id ops, c0 = .region id ops true ∧ resOps P true ops ops.toList = some l ∧ dstOk N l = true ∧ depsOk l = true ∧ P.follows .mixedOrders = true := by
  unfold comp at h
  split at h <;> simp_all [Option.bind_eq_some_iff]
  exact ⟨_, _, ⟨rfl, rfl⟩, h.2.1⟩

theorem Vwp.skip (h : Q .normal S) : Vwp P L N h0 .skip Q S := by
  intro hN hk c0 hc a w fr pi own hr hs hd
  cases comp_skip hc
  exact wp_skip ⟨.normal, S, fr, pi, own, rfl, h, hN, hk, hr, hs, hd, Ext.refl _ _ _ _ _⟩

theorem Vwp.ret (h : Q .ret S) : Vwp P L N h0 .ret Q S := by
  intro hN hk c0 hc a w fr pi own hr hs hd
  cases comp_ret hc
  exact wp_ret ⟨.ret, S, fr, pi, own, rfl, h, hN, hk, hr, hs, hd, Ext.refl _ _ _ _ _⟩

theorem Vwp.exit {id : Nat} (h : Q (.exit id) S) : Vwp P L N h0 (.exit id) Q S := by
  intro hN hk c0 hc a w fr pi own hr hs hd
  cases comp_exit hc
  exact wp_exit ⟨.exit id, S, fr, pi, own, rfl, h, hN, hk, hr, hs, hd, Ext.refl _ _ _ _ _⟩

/-- What stands behind: only if one comes to its end. -/
def thenQ (k : St → Prop) (Q : VE → St → Prop) : VE → St → Prop
  | .normal, S => k S
  | x, S => Q x S

theorem Vwp.seq {x y : VC} (h : Vwp P L N h0 x (thenQ (Vwp P L N h0 y Q) Q) S) : Vwp P L N h0 (.seq x y) Q S := by
  intro hN hk c0 hc a w fr pi own hr hs hd
  obtain ⟨cx, cy, rfl, hx, hy⟩ := comp_seq hc
  refine wp_seq (wp_mono (h hN hk cx hx a w fr pi own hr hs hd) fun e a1 w1 hh => ?_)
  obtain ⟨ex, S1, fr1, pi1, own1, rfl, k2, k3, k4, k5, k6, k7, k8⟩ := hh
  cases ex with
  | normal => exact wp_mono (k2 k3 k4 cy hy a1 w1 fr1 pi1 own1 k5 k6 k7) fun e a2 w2 hh => hh.trans k8
  | exit id => exact ⟨.exit id, S1, fr1, pi1, own1, rfl, k2, k3, k4, k5, k6, k7, k8⟩
  | ret => exact ⟨.ret, S1, fr1, pi1, own1, rfl, k2, k3, k4, k5, k6, k7, k8⟩

theorem Vwp.cond {z : VX} {x y : VC} {b : Bool} (hz : rdX S.fs.sl z = .bool b) (ht : b = true → Vwp P L N h0 x Q S) (hf : b = false → Vwp P L N h0 y Q S) : Vwp P L N h0 (.cond z x y) Q S := by
  intro hN hk c0 hc a w fr pi own hr hs hd
  obtain ⟨q, cx, cy, rfl, hq, hx, hy⟩ := comp_cond hc
  obtain ⟨O, h1, _⟩ := opnd hr hq
  rw [hz] at h1
  refine wp_cond_split h1.bool_inv (fun e => ht e hN hk cx hx a w fr pi own hr hs hd) (fun e => hf e hN hk cy hy a w fr pi own hr hs hd)

def blockQ (id : Nat) (Q : VE → St → Prop) : VE → St → Prop
  | .exit i, S => if i = id then Q .normal S else Q (.exit i) S
  | x, S => Q x S

theorem Vwp.block {id : Nat} {x : VC} (h : Vwp P L N h0 x (blockQ id Q) S) : Vwp P L N h0 (.block id x) Q S := by
  intro hN hk c0 hc a w fr pi own hr hs hd
  obtain ⟨cx, rfl, hx⟩ := comp_block hc
  refine wp_block (wp_mono (h hN hk cx hx a w fr pi own hr hs hd) fun e a1 w1 hh => ?_)
  obtain ⟨ex, S1, fr1, pi1, own1, rfl, k2, k3, k4, k5, k6, k7, k8⟩ := hh
  cases ex with
  | normal => exact ⟨.normal, S1, fr1, pi1, own1, rfl, k2, k3, k4, k5, k6, k7, k8⟩
  | ret => exact ⟨.ret, S1, fr1, pi1, own1, rfl, k2, k3, k4, k5, k6, k7, k8⟩
  | exit i =>
    simp only [VE.out, Exit.inBlock]
    simp only [blockQ] at k2
    split
    · rename_i hi
      rw [if_pos hi] at k2
      exact ⟨.normal, S1, fr1, pi1, own1, rfl, k2, k3, k4, k5, k6, k7, k8⟩
    · rename_i hi
      rw [if_neg hi] at k2
      exact ⟨.exit i, S1, fr1, pi1, own1, rfl, k2, k3, k4, k5, k6, k7, k8⟩

/-- A loop, where its body begins once more. -/
def LoopAt (P : Program) (c : Code) (Q : Exit → Act → World → Prop) (a : Act) (w : World) : Prop :=
  ∀ (b : Frame) (k : List Item) (cs : List Frame), ∃ e a' w', Q e a' w' ∧ Arrives P (lone (b.at a (.code c :: .inLoop c :: k)) cs w) b k cs e a' w'

theorem LoopAt.wp {c : Code} {Q : Exit → Act → World → Prop} {a : Act} {w : World} (h : LoopAt P c Q a w) : (Code.loop c).wp P Q a w := by
  intro b k cs
  obtain ⟨e, a', w', hq, harr⟩ := h b k cs
  exact ⟨e, a', w', hq, .of_steps (.one step_loop) harr⟩

theorem LoopAt.unfold {c : Code} {Q : Exit → Act → World → Prop} {a : Act} {w : World} (h : c.wp P (Exit.then (LoopAt P c Q) Q) a w) : LoopAt P c Q a w := by
  intro b k cs
  obtain ⟨e, a₁, w₁, hq, harr⟩ := h b (.inLoop c :: k) cs
  cases e with
  | normal =>
    obtain ⟨e₂, a₂, w₂, hq₂, harr₂⟩ := hq b k cs
    exact ⟨e₂, a₂, w₂, hq₂, .of_steps (Steps.trans harr (.one step_inLoop)) harr₂⟩
  | exit id => exact ⟨_, a₁, w₁, hq, .pass (x := .inLoop c) rfl (fun _ _ => .inl (by simp)) harr⟩
  | goto l => exact ⟨_, a₁, w₁, hq, .pass (x := .inLoop c) rfl (fun _ _ => .inl (by simp)) harr⟩
  | ret => exact ⟨_, a₁, w₁, hq, .pass (x := .inLoop c) rfl (fun _ _ => .inl (by simp)) harr⟩
  | panic ch => exact ⟨_, a₁, w₁, hq, .pass (x := .inLoop c) rfl (fun _ _ => .inl (by simp)) harr⟩
  | outgrown => exact ⟨_, a₁, w₁, hq, .pass (x := .inLoop c) rfl (fun _ _ => .inl (by simp)) harr⟩

/-- From the state S the loop over c comes to Q. -/
def Vloop (P : Program) (_L : Nat → Bool) (N h0 : Nat) (c : VC) (Q : VE → St → Prop) (S : St) : Prop :=
  S.t.length = N → h0 ≤ S.h.length → ∀ c0, comp P N c0 = some c → ∀ (a : Act) (w : World) (fr pi : Nat → Nat) (own : Res → List Nat), Rel w fr pi own S.fs a.tmps → a.tmps.size = N → a.defers = [] →
    LoopAt P c0 (VQ N Q h0 w fr pi own) a w

theorem LoopAt.mono {c : Code} {Q Q' : Exit → Act → World → Prop} {a : Act} {w : World} (h : LoopAt P c Q a w) (hq : ∀ e a w, Q e a w → Q' e a w) : LoopAt P c Q' a w := by
  intro b k cs
  obtain ⟨e, a', w', h1, h2⟩ := h b k cs
  exact ⟨e, a', w', hq _ _ _ h1, h2⟩

theorem Vwp.loop {c : VC} (h : Vloop P L N h0 c Q S) : Vwp P L N h0 (.loop c) Q S := by
  intro hN hk c0 hc a w fr pi own hr hs hd
  obtain ⟨cx, rfl, hx⟩ := comp_loop hc
  exact (h hN hk cx hx a w fr pi own hr hs hd).wp

theorem Vloop.round {c : VC} (h : Vwp P L N h0 c (thenQ (Vloop P L N h0 c Q) Q) S) : Vloop P L N h0 c Q S := by
  intro hN hk c0 hc a w fr pi own hr hs hd
  refine LoopAt.unfold (wp_mono (h hN hk c0 hc a w fr pi own hr hs hd) fun e a1 w1 hh => ?_)
  obtain ⟨ex, S1, fr1, pi1, own1, rfl, k2, k3, k4, k5, k6, k7, k8⟩ := hh
  cases ex with
  | normal => exact (k2 k3 k4 c0 hc a1 w1 fr1 pi1 own1 k5 k6 k7).mono fun e a2 w2 hh => hh.trans k8
  | exit id => exact ⟨.exit id, S1, fr1, pi1, own1, rfl, k2, k3, k4, k5, k6, k7, k8⟩
  | ret => exact ⟨.ret, S1, fr1, pi1, own1, rfl, k2, k3, k4, k5, k6, k7, k8⟩

theorem resOps_get {dr : Bool} {ops : Array Oper} : ∀ {l : List Oper} {vs : List VOper}, resOps P dr ops l = some vs → vs.length = l.length ∧ ∀ (i : Nat) (o : Oper), l[i]? = some o → ∃ vo, vs[i]? = some vo ∧ resOper P dr ops o = some vo
  | [], vs, h => by
    simp [resOps] at h
    subst h
    simp
  | o :: r, vs, h => by
    simp only [resOps, Option.bind_eq_some_iff, Option.map_eq_some_iff] at h
    obtain ⟨v, h1, l', h2, rfl⟩ := h
    obtain ⟨k1, k2⟩ := resOps_get h2
    refine ⟨by simp [k1], fun i o' ho => ?_⟩
    cases i with
    | zero => simp at ho; subst ho; exact ⟨v, rfl, h1⟩
    | succ i => exact k2 i o' (by simpa using ho)

theorem dstOk_spec {l : List VOper} (h : dstOk N l = true) : ∀ vo, vo ∈ l → ∀ t, vo.dst = some t → t < N := by
  intro vo hv t ht
  unfold dstOk at h
  rw [List.all_eq_true] at h
  have := h vo hv
  rw [ht] at this
  simpa using this

theorem Vwp.reg {l : List VOper} {S' : St} (hs : VSeq P L l S S') (h : Q .normal S') : Vwp P L N h0 (.reg l) Q S := by
  intro hN hk c0 hc a w fr pi own hr hsz hd
  obtain ⟨id, ops, rfl, h1, h2⟩ := comp_reg hc
  obtain ⟨k1, k2⟩ := resOps_get h1
  refine wp_region ?_
  have hlen : l.length = ops.size := by simpa using k1
  have := seq_sound (P := P) (L := L) (ops := ops) (vops := l) (fun i o ho => k2 i o (by simpa using ho)) hlen (N := N) (dstOk_spec h2) (Q := VQ N Q h0 w fr pi own) l 0 S S' rfl hs hN a w fr pi own hr hsz
    (fun a' w' fr' pi' own' e1 e2 e3 e4 e5 e6 => ⟨.normal, S', fr', pi', own', rfl, h, e5, Nat.le_trans hk e6, e3, e2, e1.trans hd, e4.step, e4.fresh, fun i hi => e4.pi i ((St.has_iff S i).2 (Nat.lt_of_lt_of_le hi hk))⟩)
  rw [← List.range_eq_range', hlen] at this
  exact this

theorem Vwp.dreg {l : List VOper} {S' : St} {ds : List (Option Nat × SD)} {rs : List (List Res)} (hs : VRun P L l S ds rs S') (hok : drawOk (befores l []) (ds.map fun p => wrL p.1 p.2) rs = true) (h : Q .normal S') : Vwp P L N h0 (.dreg l) Q S := by
  intro hN hk c0 hc a w fr pi own hr hsz hd
  obtain ⟨id, ops, rfl, h1, h2, h3, h4⟩ := comp_dreg hc
  obtain ⟨k1, k2⟩ := resOps_get h1
  refine wp_region_any h4 ?_
  have hlen : l.length = ops.size := by simpa using k1
  have hget := hs.get (fun o ho t ht => by rw [hN]; exact dstOk_spec h2 o ho t ht)
  have hfalse : ∀ j, (Array.replicate ops.size false).getD j false = false := by
    intro j
    rw [Array.getD_eq_getD_getElem?]
    by_cases hj : j < ops.size
    · simp [hj]
    · rw [Array.getElem?_eq_none (by simpa using Nat.le_of_not_lt hj)]; rfl
  have hz0 : runF ds (fun j => (Array.replicate ops.size false).getD j false) 0 S.fs = S.fs := runF_none _ _ _ _ (fun j _ => hfalse j)
  have st0 : Step w w.drew fr fr (fun _ => False) := Step.drew w fr
  have hr0 : Rel w.drew fr pi own S.fs a.tmps := hr.step st0 (fun _ _ _ h => h)
  refine any_sound (fun i o ho => k2 i o (by simpa using ho)) hlen (N := N) (dstOk_spec h2) h3 hs hN hok ops.size (Array.replicate ops.size false) a _ fr pi own (by simp) (by simp) (fun j o ho hj => by rw [hfalse] at hj; cases hj)
    (by rw [hz0]; exact hr0) hsz (fun a' w' fr' pi' own' e1 e2 e3 e4 => ?_)
  rw [hz0] at e4
  refine ⟨.normal, S', fr', pi', own', rfl, h, by rw [hget.2.2.2.1]; exact hN, Nat.le_trans hk hget.2.2.2.2.1, e3, e2, e1.trans hd, ?_⟩
  have e5 : Ext w w.drew fr fr pi pi own own S.fs.has := ⟨st0.mono (fun _ _ h => h.elim), fun r b hb => .inl ⟨r, hb⟩, fun _ _ => rfl⟩
  have e6 := e5.trans e4 (fun i hi => hi)
  exact ⟨e6.step, e6.fresh, fun i hi => e6.pi i ((St.has_iff S i).2 (Nat.lt_of_lt_of_le hi hk))⟩

end
end Go.Proofs.YtmjdoonaidolkaaDoor.V

/- A small logic of values over the model, part 24: functions: from a body to a contract. -/
namespace Go.Proofs.YtmjdoonaidolkaaDoor.V

/-- A result: out of a slot, or out of a box that a slot points to. -/
inductive RV where
  | tmp (t : Nat)
  | cell (a : Nat) (g : Option Nat)
  deriving Inhabited

def resRV (P : Program) : List ResultVar → Option (List RV)
  | [] => some []
  | .tmp t :: r => (resRV P r).map fun l => .tmp t :: l
  | .cell a ty :: r => (aggOf P ty).bind fun g => (resRV P r).map fun l => .cell a g :: l

def rvAV (S : St) : RV → Option AV
  | .tmp t => some (S.t.getD t .undef)
  | .cell a g => match S.t.getD a .undef with
    | .ptr (some (i, off)) => match S.h[i]? with
      | some (.cells cs) => ldCells cs off g
      | _ => none
    | _ => none

def rvAVs (S : St) : List RV → Option (List AV)
  | [] => some []
  | r :: l => (rvAV S r).bind fun a => (rvAVs S l).map fun as => a :: as

def rvTmps : List RV → List Nat
  | [] => []
  | .tmp t :: l => t :: rvTmps l
  | .cell _ _ :: l => rvTmps l

/-- What a call's end is worth. -/
def retAV (l : List AV) : AV :=
  match l with
  | [a] => a
  | l => .tup l

theorem run_result {P : Program} {w : World} {fr pi : Nat → Nat} {own : Res → List Nat} {S : St} {tm : Array Value} (h : Rel w fr pi own S.fs tm) {rv : ResultVar} {r : RV} (hr : resRV P [rv] = some [r]) {x : AV} (hx : rvAV S r = some x) :
    ∃ v, ((match rv with
      | .tmp t => pure (tm.getD t Go.undef)
      | .cell a t => do loadVar t (← asAddr (tm.getD a Go.undef)) : Sem Value)).run P w = .ok v w ∧ Rep w fr pi x v (match r with | .tmp t => own (.slot t) | .cell _ _ => []) ∧ NP S.fs.has x := by
  cases rv with
  | tmp t =>
    simp [resRV] at hr
    subst hr
    simp only [rvAV] at hx
    cases hx
    exact ⟨_, rfl, h.slot t, h.slotnp t⟩
  | cell a ty =>
    simp only [resRV, Option.map_some, Option.bind_eq_some_iff] at hr
    obtain ⟨g, hg, e⟩ := hr
    cases e
    simp only [rvAV] at hx
    split at hx <;> try (cases hx; done)
    rename_i i off hp
    split at hx <;> try (cases hx; done)
    rename_i cs hb
    have hb' : S.fs.bx i = some (.cells cs) := hb
    have h1 : Rep w fr pi (S.fs.sl a) (tm.getD a Go.undef) (own (.slot a)) := h.slot a
    have e : S.fs.sl a = .ptr (some (i, off)) := hp
    rw [e] at h1
    obtain ⟨hv, _⟩ := h1.ptr_inv
    obtain ⟨vs, O', e', r1, r2, r3⟩ := boxcell h hb'
    obtain ⟨v, g1, g2, g3⟩ := ld_rep r1 (h.boxnp i _ hb') hx hg r3
    simp only [Nat.zero_add] at g1
    refine ⟨v, ?_, g2, g3⟩
    simp [hv, asAddr, g1]

theorem run_results {P : Program} {w : World} {fr pi : Nat → Nat} {own : Res → List Nat} {S : St} {tm : Array Value} (h : Rel w fr pi own S.fs tm) : ∀ {rvs : List ResultVar} {rs : List RV} {xs : List AV}, resRV P rvs = some rs → rvAVs S rs = some xs → (rvTmps rs).Nodup →
    ∃ vs O, (rvs.mapM fun (rv : ResultVar) => (match rv with
      | .tmp t => pure (tm.getD t Go.undef)
      | .cell a t => do loadVar t (← asAddr (tm.getD a Go.undef)) : Sem Value)).run P w = .ok vs w ∧ Reps w fr pi xs vs O ∧ (∀ x, x ∈ xs → NP S.fs.has x) ∧ O.Nodup ∧ ∀ b, b ∈ O → ∃ t, t ∈ rvTmps rs ∧ b ∈ own (.slot t)
  | [], rs, xs, hr, hx, _ => by
    simp [resRV] at hr
    subst hr
    simp [rvAVs] at hx
    subst hx
    exact ⟨[], [], by simp, .nil, by simp, by simp, by simp⟩
  | rv :: rvs, rs, xs, hr, hx, hn => by
    have hsplit : ∃ r l, rs = r :: l ∧ resRV P [rv] = some [r] ∧ resRV P rvs = some l := by
      cases rv with
      | tmp t =>
        simp only [resRV, Option.map_eq_some_iff] at hr
        obtain ⟨l, h1, rfl⟩ := hr
        exact ⟨_, l, rfl, by simp [resRV], h1⟩
      | cell a ty =>
        simp only [resRV, Option.bind_eq_some_iff, Option.map_eq_some_iff] at hr
        obtain ⟨g, hg, l, h1, rfl⟩ := hr
        exact ⟨_, l, rfl, by simp [resRV, hg], h1⟩
    obtain ⟨r, l, rfl, h1, h2⟩ := hsplit
    simp only [rvAVs, Option.bind_eq_some_iff, Option.map_eq_some_iff] at hx
    obtain ⟨x, hx1, xs', hx2, rfl⟩ := hx
    have hn' : (rvTmps l).Nodup := by
      cases r with
      | tmp t => simp only [rvTmps, List.nodup_cons] at hn; exact hn.2
      | cell a g => exact hn
    obtain ⟨v, k1, k2, k3⟩ := run_result h h1 hx1
    obtain ⟨vs, O, q1, q2, q3, q4, q5⟩ := run_results h h2 hx2 hn'
    refine ⟨v :: vs, _, ?_, .cons _ _ _ _ _ _ k2 q2, fun y hy => ?_, ?_, fun b hb => ?_⟩
    · simp only [List.mapM_cons, Sem.run_bind, k1, Result.andThen_ok, q1, Sem.run_pure]
    · rcases List.mem_cons.1 hy with rfl | hy
      · exact k3
      · exact q3 y hy
    · cases r with
      | tmp t =>
        simp only [rvTmps, List.nodup_cons] at hn
        rw [List.nodup_append]
        refine ⟨h.nd _, q4, fun b hb c hc e => ?_⟩
        subst e
        obtain ⟨t', ht', hb'⟩ := q5 b hc
        have := h.dj _ _ b hb hb'
        cases this
        exact hn.1 ht'
      | cell a g => simpa using q4
    · rcases List.mem_append.1 hb with hb | hb
      · cases r with
        | tmp t => exact ⟨t, by simp [rvTmps], hb⟩
        | cell a g => simp at hb
      · obtain ⟨t', ht', hb'⟩ := q5 b hb
        refine ⟨t', ?_, hb'⟩
        cases r with
        | tmp t => simp [rvTmps, ht']
        | cell a g => exact ht'

theorem run_resultsOf {P : Program} {w : World} {fr pi : Nat → Nat} {own : Res → List Nat} {S : St} {tm : Array Value} (h : Rel w fr pi own S.fs tm) {fn : Func} {rs : List RV} {xs : List AV} (hr : resRV P fn.results.toList = some rs) (hx : rvAVs S rs = some xs) (hn : (rvTmps rs).Nodup) :
    ∃ v O, (results fn tm).run P w = .ok v w ∧ Rep w fr pi (retAV xs) v O ∧ NP S.fs.has (retAV xs) ∧ O.Nodup ∧ ∀ b, b ∈ O → ∃ t, b ∈ own (.slot t) := by
  obtain ⟨vs, O, k1, k2, k3, k4, k5⟩ := run_results h hr hx hn
  have hm : (fn.results.mapM fun (rv : ResultVar) => (match rv with
      | .tmp t => pure (tm.getD t Go.undef)
      | .cell a t => do loadVar t (← asAddr (tm.getD a Go.undef)) : Sem Value)).run P w = .ok vs.toArray w := by
    rw [Array.mapM_eq_mapM_toList]
    simp only [Sem.run_map, k1, Result.andThen_ok]
  have hrun : (results fn tm).run P w = .ok (if h : vs.toArray.size = 1 then vs.toArray[0] else .tuple vs.toArray) w := by
    unfold results
    rw [Sem.run_bind]
    exact (congrArg (fun q => Result.andThen q fun (a : Array Value) w' => Sem.run P (pure (if h : a.size = 1 then a[0] else Value.tuple a)) w') hm).trans rfl
  have hown : ∀ b, b ∈ O → ∃ t, b ∈ own (.slot t) := fun b hb => by obtain ⟨t, _, h⟩ := k5 b hb; exact ⟨t, h⟩
  clear hm k1 hx
  match xs, vs, k2, k3, hrun with
  | [x], [v], k2, k3, hrun =>
    obtain ⟨v', vs', O1, O2, e1, e2, e3, e4⟩ := k2.cons_inv
    cases e1
    cases e4
    refine ⟨v, O, by rw [hrun]; simp, by rw [e2]; simpa [retAV] using e3, k3 x (by simp), k4, hown⟩
  | [], [], k2, k3, hrun => exact ⟨_, O, hrun, by simpa [retAV] using Rep.tup _ _ _ k2, .tup _ k3, k4, hown⟩
  | x :: y :: xs, u :: v :: vs, k2, k3, hrun => exact ⟨_, O, hrun, by simpa [retAV] using Rep.tup _ _ _ k2, .tup _ k3, k4, hown⟩
  | [x], [], k2, _, _ => have := k2.length; simp at this
  | [x], _ :: _ :: _, k2, _, _ => have := k2.length; simp at this
  | [], _ :: _, k2, _, _ => have := k2.length; simp at this
  | _ :: _ :: _, [], k2, _, _ => have := k2.length; simp at this
  | _ :: _ :: _, [_], k2, _, _ => have := k2.length; simp at this

/-- What must be so of the end: its results, and the boxes that stay; the others are let go. -/
structure Ends (rs : List RV) (h : List HObj) (ret : AV) (h' : List HObj) (S' : St) : Prop where
  res : ∃ xs, rvAVs S' rs = some xs ∧ ret = retAV xs
  pre : ∃ ex, S'.h = h' ++ ex
  len : h.length ≤ h'.length
  np : NP (fun i => i < h'.length) ret
  npo : ∀ (i : Nat) (o : HObj), h'[i]? = some o → h[i]? = some o ∨ NPo (fun i => i < h'.length) o

def endsQ (rs : List RV) (h : List HObj) (ret : AV) (h' : List HObj) : VE → St → Prop
  | .normal, S' | .ret, S' => Ends rs h ret h' S'
  | .exit _, _ => False

/-- From a body to a contract. -/
theorem VCall.of {P : Program} {L : Nat → Bool} {f : Nat} {fn : Func} {c : Code} {vc : VC} {args : List AV} {h : List HObj} {ret : AV} {h' : List HObj} {rs : List RV} (hc0 : callable P f = true) (hf : P.funcs[f]? = some fn) (hb : fn.body = some c)
    (hc : comp P fn.ntmps c = some vc) (hr : resRV P fn.results.toList = some rs) (hn : (rvTmps rs).Nodup) (hargs : args.length ≤ fn.ntmps) (hlen : h.length ≤ h'.length)
    (hw : Vwp P L fn.ntmps h.length vc (endsQ rs h ret h') ⟨args ++ List.replicate (fn.ntmps - args.length) .undef, h⟩) : VCall P f args h ret h' := by
  refine ⟨known_of hc0, by omega, fun w fr pi own vals hvl hrel => Runs.of hc0 ?_⟩
  have hlt : h.length ≤ h.length := Nat.le_refl _
  have hN : (args ++ List.replicate (fn.ntmps - args.length) AV.undef).length = fn.ntmps := by simp; omega
  have hsz : (vals.toArray ++ Array.replicate (fn.ntmps - vals.toArray.size) Go.undef).size = fn.ntmps := by simp; omega
  have hfs : St.fs ⟨args ++ List.replicate (fn.ntmps - args.length) .undef, h⟩ = FS.of args h := by
    refine FS.ext' (fun i => ?_) (fun i => rfl)
    show (args ++ List.replicate (fn.ntmps - args.length) AV.undef).getD i .undef = args.getD i .undef
    rw [List.getD_eq_getElem?_getD, List.getD_eq_getElem?_getD]
    rcases Nat.lt_or_ge i args.length with hi | hi
    · rw [List.getElem?_append_left hi]
    · rw [List.getElem?_append_right hi, List.getElem?_eq_none hi, List.getElem?_replicate]
      split <;> rfl
  have htm : ∀ i, (vals.toArray ++ Array.replicate (fn.ntmps - vals.toArray.size) Go.undef).getD i Go.undef = vals.toArray.getD i Go.undef := by
    intro i
    rw [Array.getD_eq_getD_getElem?, Array.getD_eq_getD_getElem?]
    rcases Nat.lt_or_ge i vals.toArray.size with hi | hi
    · rw [Array.getElem?_append_left hi]
    · rw [Array.getElem?_append_right hi, Array.getElem?_eq_none hi, Array.getElem?_replicate]
      split <;> rfl
  have hrel' : Rel w fr pi own (St.fs ⟨args ++ List.replicate (fn.ntmps - args.length) .undef, h⟩) (vals.toArray ++ Array.replicate (fn.ntmps - vals.toArray.size) Go.undef) := by
    rw [hfs]
    exact ⟨fun i => by rw [htm]; exact hrel.slot i, hrel.slotnp, hrel.box, hrel.boxnp, hrel.nobox, hrel.nd, hrel.dj, hrel.live⟩
  refine calls_of_wp hf hb ?_
  refine wp_mono (hw hN (Nat.le_refl _) c hc _ w fr pi own hrel' hsz rfl) fun e a' w' hh => ?_
  obtain ⟨x, S', fr', pi', own', rfl, k2, k3, k4, k5, k6, k7, k8⟩ := hh
  have key : Ends rs h ret h' S' → a'.defers = [] ∧ ∃ v, (results fn a'.tmps).run P w' = .ok v w' ∧ ∃ v_1 fr' pi' own', Ending.returned v = .returned v_1 ∧ Rel w' fr' pi' own' (FS.of [ret] h') #[v_1] ∧ Ext w w' fr fr' pi pi' own own' (fun i => i < h.length) := by
    intro he
    obtain ⟨⟨xs, q1, q2⟩, ⟨ex, q3⟩, q4, q5, q6⟩ := he
    obtain ⟨v, O, r1, r2, r3, r4, r5⟩ := run_resultsOf k5 hr q1 hn
    rw [← q2] at r2 r3
    let own2 : Res → List Nat := fun r => match r with
      | .slot 0 => O
      | .slot _ => []
      | .box i => if i < h'.length then own' (.box i) else []
    have hsub : ∀ r b, b ∈ own2 r → ∃ r', b ∈ own' r' := by
      intro r b hb
      cases r with
      | slot i =>
        cases i with
        | zero => obtain ⟨t, ht⟩ := r5 b hb; exact ⟨_, ht⟩
        | succ i => simp [own2] at hb
      | box i =>
        simp only [own2] at hb
        split at hb
        · exact ⟨_, hb⟩
        · simp at hb
    have hbox : ∀ i o, h'[i]? = some o → S'.fs.bx i = some o := by
      intro i o hi
      show S'.h[i]? = some o
      have hlt : i < h'.length := by
        rcases Nat.lt_or_ge i h'.length with h1 | h1
        · exact h1
        · simp [List.getElem?_eq_none h1] at hi
      rw [q3, List.getElem?_append_left hlt]
      exact hi
    have hhas : ∀ i, i < h'.length → (FS.of [ret] h').has i := fun i hi => ⟨_, (List.getElem?_eq_getElem hi : h'[i]? = _)⟩
    refine ⟨k7, v, r1, v, fr', pi', own2, rfl, ⟨fun i => ?_, fun i => ?_, fun i o ho => ?_, fun i o ho => ?_, fun i hi => ?_, fun r => ?_, fun r r' b x1 x2 => ?_, fun r b hb => ?_⟩, ?_⟩
    · cases i with
      | zero => exact r2
      | succ i =>
        have : (FS.of [ret] h').sl (i + 1) = .undef := by simp [FS.of, List.getD_eq_getElem?_getD]
        rw [this]
        exact .undef _
    · cases i with
      | zero => exact q5.mono hhas
      | succ i =>
        have : (FS.of [ret] h').sl (i + 1) = .undef := by simp [FS.of, List.getD_eq_getElem?_getD]
        rw [this]
        exact .undef
    · have ho' : h'[i]? = some o := ho
      obtain ⟨O', z1, z2⟩ := k5.box i o (hbox i o ho')
      have hlt : i < h'.length := by
        rcases Nat.lt_or_ge i h'.length with h1 | h1
        · exact h1
        · simp [List.getElem?_eq_none h1] at ho'
      exact ⟨O', z1, by simp only [own2]; rw [if_pos hlt]; exact z2⟩
    · have ho' : h'[i]? = some o := ho
      rcases q6 i o ho' with z | z
      · have := hrel.boxnp i o z
        refine this.mono (fun j ⟨o', hj⟩ => hhas j ?_)
        have hj' : h[j]? = some o' := hj
        rcases Nat.lt_or_ge j h.length with h1 | h1
        · omega
        · simp [List.getElem?_eq_none h1] at hj'
      · exact z.mono hhas
    · have hi' : h'[i]? = none := hi
      have : ¬ i < h'.length := fun hlt => by rw [List.getElem?_eq_getElem hlt] at hi'; cases hi'
      simp only [own2]
      rw [if_neg this]
    · cases r with
      | slot i => cases i with
        | zero => exact r4
        | succ i => simp [own2]
      | box i =>
        simp only [own2]
        split
        · exact k5.nd _
        · simp
    · cases r with
      | slot i => cases i with
        | succ i => simp [own2] at x1
        | zero => cases r' with
          | slot j => cases j with
            | zero => rfl
            | succ j => simp [own2] at x2
          | box j =>
            exfalso
            simp only [own2] at x1 x2
            split at x2
            · obtain ⟨t, ht⟩ := r5 b x1
              have := k5.dj _ _ b ht x2
              cases this
            · simp at x2
      | box i => cases r' with
        | slot j => cases j with
          | succ j => simp [own2] at x2
          | zero =>
            exfalso
            simp only [own2] at x1 x2
            split at x1
            · obtain ⟨t, ht⟩ := r5 b x2
              have := k5.dj _ _ b ht x1
              cases this
            · simp at x1
        | box j =>
          simp only [own2] at x1 x2
          split at x1
          · split at x2
            · exact k5.dj _ _ b x1 x2
            · simp at x2
          · simp at x1
    · obtain ⟨r', hr'⟩ := hsub r b hb
      exact k5.live r' b hr'
    · exact ⟨k8.step, fun r b hb => by obtain ⟨r', hr'⟩ := hsub r b hb; exact k8.fresh r' b hr', k8.pi⟩
  cases x with
  | normal => exact key k2
  | ret => exact key k2
  | exit id => exact k2.elim

/-- A function that knows of no box: what it makes is let go. -/
theorem PCall.of {P : Program} {L : Nat → Bool} {f : Nat} {fn : Func} {c : Code} {vc : VC} {args : List AV} {ret : AV} {rs : List RV} (hc0 : callable P f = true) (hf : P.funcs[f]? = some fn) (hb : fn.body = some c)
    (hc : comp P fn.ntmps c = some vc) (hr : resRV P fn.results.toList = some rs) (hn : (rvTmps rs).Nodup) (hargs : args.length ≤ fn.ntmps) (hnp : NP (fun _ => False) ret)
    (hw : Vwp P L fn.ntmps 0 vc (fun x S' => (x = .normal ∨ x = .ret) ∧ ∃ xs, rvAVs S' rs = some xs ∧ retAV xs = ret) ⟨args ++ List.replicate (fn.ntmps - args.length) .undef, []⟩) : PCall P f args ret := by
  refine VCall.of hc0 hf hb hc hr hn hargs (Nat.le_refl _) (hw.mono fun x S' h => ?_)
  obtain ⟨h1, xs, h2, h3⟩ := h
  have he : Ends rs [] ret [] S' := ⟨⟨xs, h2, h3.symm⟩, ⟨S'.h, rfl⟩, Nat.le_refl _, hnp.mono (fun _ h => h.elim), fun i o ho => by simp at ho⟩
  rcases h1 with rfl | rfl
  · exact he
  · exact he

end Go.Proofs.YtmjdoonaidolkaaDoor.V

/- A small logic of values over the model, part 25: knowing less of a state. -/
namespace Go.Proofs.YtmjdoonaidolkaaDoor.V

mutual
/-- The second says less than the first. -/
inductive Wk : AV → AV → Prop
  | refl (a : AV) : Wk a a
  | undef (a : AV) : Wk a .undef
  | nil (sz sz' : Nat) (own own' : Bool) (nl : Option Bool) : nl ≠ some false → Wk (.sl sz (some true) own []) (.sl sz' nl own' [])
  | nl (sz : Nat) (nl : Option Bool) (own : Bool) (xs : List (List AV)) : Wk (.sl sz nl own xs) (.sl sz none own xs)
  | strip (a : AV) : Wk a a.strip
  | both (sz : Nat) (nl : Option Bool) (own : Bool) (xs : List (List AV)) : Wk (.sl sz nl own xs) (.sl sz none false xs)
  | agg (as bs : List AV) : WkL as bs → Wk (.agg as) (.agg bs)
  | tup (as bs : List AV) : WkL as bs → Wk (.tup as) (.tup bs)
inductive WkL : List AV → List AV → Prop
  | nil : WkL [] []
  | cons (a b : AV) (as bs : List AV) : Wk a b → WkL as bs → WkL (a :: as) (b :: bs)
end

mutual
theorem Wk.rep {w : World} {fr pi : Nat → Nat} : ∀ {a b : AV} {v : Value} {O : List Nat}, Wk a b → Rep w fr pi a v O → O.Nodup → ∃ O', Rep w fr pi b v O' ∧ (∀ x, x ∈ O' → x ∈ O) ∧ O'.Nodup
  | _, _, v, O, .refl a, hr, hn => ⟨O, hr, fun _ h => h, hn⟩
  | _, _, v, O, .undef a, hr, hn => ⟨[], .undef v, by simp, by simp⟩
  | _, _, v, O, .nil sz sz' own own' nl hnl, hr, hn => by
    rcases hr.sl_inv with ⟨rfl, _⟩ | ⟨_, _, _, _, hn, _⟩ | ⟨_, _, _, _, _, hn, _⟩
    · exact ⟨[], .slnil _ _ _ hnl, by simp, by simp⟩
    · exact absurd rfl hn
    · exact absurd rfl hn
  | _, _, v, O, .nl sz nl own xs, hr, hn => by
    cases hr with
    | slnil _ _ _ h0 => exact ⟨[], .slnil _ _ _ (by simp), by simp, by simp⟩
    | slempty _ _ ad cap h0 => exact ⟨[], .slempty _ _ ad cap (by simp), by simp, by simp⟩
    | sl _ _ _ b o cap vs h0 h1 h2 h3 h4 => exact ⟨[], .sl _ _ _ b o cap vs (by simp) h1 h2 h3 h4, by simp, by simp⟩
    | slown _ _ _ b o cap vs h0 h1 h2 h3 h4 h5 => exact ⟨[b], .slown _ _ _ b o cap vs (by simp) h1 h2 h3 h4 h5, fun _ h => h, hn⟩
  | _, _, v, O, .strip a, hr, hn => ⟨[], hr.strip, by simp, by simp⟩
  | _, _, v, O, .both sz nl own xs, hr, hn => by
    cases hr with
    | slnil _ _ _ h0 => exact ⟨[], .slnil _ _ _ (by simp), by simp, by simp⟩
    | slempty _ _ ad cap h0 => exact ⟨[], .slempty _ _ ad cap (by simp), by simp, by simp⟩
    | sl _ _ _ b o cap vs h0 h1 h2 h3 h4 => exact ⟨[], .sl _ _ _ b o cap vs (by simp) h1 h2 h3 h4, by simp, by simp⟩
    | slown _ _ _ b o cap vs h0 h1 h2 h3 h4 h5 => exact ⟨[], .sl _ _ _ b o cap vs (by simp) h1 h2 h3 h4, by simp, by simp⟩
  | _, _, v, O, .agg as bs h, hr, hn => by
    cases hr with
    | agg _ vs _ h1 =>
      obtain ⟨O', k1, k2, k3⟩ := WkL.reps h h1 hn
      exact ⟨O', .agg _ _ _ k1, k2, k3⟩
  | _, _, v, O, .tup as bs h, hr, hn => by
    cases hr with
    | tup _ vs _ h1 =>
      obtain ⟨O', k1, k2, k3⟩ := WkL.reps h h1 hn
      exact ⟨O', .tup _ _ _ k1, k2, k3⟩
theorem WkL.reps {w : World} {fr pi : Nat → Nat} : ∀ {as bs : List AV} {vs : List Value} {O : List Nat}, WkL as bs → Reps w fr pi as vs O → O.Nodup → ∃ O', Reps w fr pi bs vs O' ∧ (∀ x, x ∈ O' → x ∈ O) ∧ O'.Nodup
  | _, _, _, _, .nil, hr, hn => by
    cases hr
    exact ⟨[], .nil, by simp, by simp⟩
  | _, _, _, _, .cons a b as bs h1 h2, hr, hn => by
    cases hr with
    | cons _ v O1 _ vs O2 r1 r2 =>
      rw [List.nodup_append] at hn
      obtain ⟨P1, k1, k2, k3⟩ := Wk.rep h1 r1 hn.1
      obtain ⟨P2, q1, q2, q3⟩ := WkL.reps h2 r2 hn.2.1
      refine ⟨P1 ++ P2, .cons _ _ _ _ _ _ k1 q1, fun x hx => ?_, List.nodup_append.2 ⟨k3, q3, fun x hx y hy => hn.2.2 x (k2 x hx) y (q2 y hy)⟩⟩
      rcases List.mem_append.1 hx with hx | hx
      · exact List.mem_append.2 (.inl (k2 x hx))
      · exact List.mem_append.2 (.inr (q2 x hx))
end

mutual
theorem Wk.np : ∀ {a b : AV}, Wk a b → ∀ {ok : Nat → Prop}, NP ok a → NP ok b
  | _, _, .refl _, _, hn => hn
  | _, _, .undef _, _, hn => .undef
  | _, _, .nil .., _, hn => .sl _ _ _ _ (by simp)
  | _, _, .nl .., _, hn => .sl _ _ _ _ hn.sl_inv
  | _, _, .strip _, _, hn => hn.strip
  | _, _, .both .., _, hn => .sl _ _ _ _ hn.sl_inv
  | _, _, .agg _ _ h, _, hn => .agg _ (WkL.nps h hn.agg_inv)
  | _, _, .tup _ _ h, _, hn => .tup _ (WkL.nps h hn.tup_inv)
theorem WkL.nps : ∀ {as bs : List AV}, WkL as bs → ∀ {ok : Nat → Prop}, (∀ a, a ∈ as → NP ok a) → ∀ b, b ∈ bs → NP ok b
  | _, _, .nil, _, _, b, hb => by simp at hb
  | _, _, .cons a b as bs h1 h2, _, hn, x, hx => by
    rcases List.mem_cons.1 hx with rfl | hx
    · exact Wk.np h1 (hn a (by simp))
    · exact WkL.nps h2 (fun y hy => hn y (by simp [hy])) x hx
end

theorem WkL.length : ∀ {as bs : List AV}, WkL as bs → as.length = bs.length
  | _, _, .nil => rfl
  | _, _, .cons _ _ _ _ _ h => by simp [WkL.length h]

theorem WkL.get : ∀ {as bs : List AV}, WkL as bs → ∀ i, Wk (as.getD i .undef) (bs.getD i .undef)
  | _, _, .nil, _i => .refl _
  | _, _, .cons a b as bs h1 _h2, 0 => h1
  | _, _, .cons a b as bs _h1 h2, i + 1 => WkL.get h2 i

/-- Knowing less; boxes that nobody points to are forgotten. -/
theorem Rel.weak {w : World} {fr pi : Nat → Nat} {own : Res → List Nat} {S S0 : St} {tm : Array Value} (h : Rel w fr pi own S.fs tm) (ht : WkL S.t S0.t) {ex : List HObj} (hh : S.h = S0.h ++ ex)
    (hn : ex = [] ∨ ((∀ a, a ∈ S0.t → NP (fun i => i < S0.h.length) a) ∧ ∀ o, o ∈ S0.h → NPo (fun i => i < S0.h.length) o)) :
    ∃ own', Rel w fr pi own' S0.fs tm ∧ ∀ r b, b ∈ own' r → b ∈ own r := by
  have key : ∀ i, ∃ O', Rep w fr pi (S0.t.getD i .undef) (tm.getD i Go.undef) O' ∧ (∀ x, x ∈ O' → x ∈ own (.slot i)) ∧ O'.Nodup := by
    intro i
    exact (ht.get i).rep (h.slot i) (h.nd _)
  let own' : Res → List Nat := fun r => match r with
    | .slot i => (key i).choose
    | .box i => if i < S0.h.length then own (.box i) else []
  have hsub : ∀ r b, b ∈ own' r → b ∈ own r := by
    intro r b hb
    cases r with
    | slot i => exact (key i).choose_spec.2.1 b hb
    | box i =>
      simp only [own'] at hb
      split at hb
      · exact hb
      · simp at hb
  have hbox : ∀ i o, S0.h[i]? = some o → S.fs.bx i = some o := by
    intro i o hi
    show S.h[i]? = some o
    have hlt : i < S0.h.length := by
      rcases Nat.lt_or_ge i S0.h.length with h1 | h1
      · exact h1
      · simp [List.getElem?_eq_none h1] at hi
    rw [hh, List.getElem?_append_left hlt]
    exact hi
  have hhas : ∀ i, i < S0.h.length → S0.fs.has i := fun i hi => (St.has_iff S0 i).2 hi
  have hsame : ex = [] → ∀ i, S.fs.has i → S0.fs.has i := by
    intro e i hi
    rw [St.has_iff] at *
    rw [hh, e, List.append_nil] at hi
    exact hi
  have hslotnp : ∀ i, NP S0.fs.has (S0.t.getD i .undef) := by
    intro i
    rcases hn with e | ⟨hn1, _⟩
    · exact ((ht.get i).np (h.slotnp i)).mono (hsame e)
    · rcases Nat.lt_or_ge i S0.t.length with hi | hi
      · rw [List.getD_eq_getElem?_getD, List.getElem?_eq_getElem hi]
        exact (hn1 _ (List.getElem_mem hi)).mono hhas
      · rw [List.getD_eq_getElem?_getD, List.getElem?_eq_none hi]
        exact .undef
  refine ⟨own', ⟨fun i => (key i).choose_spec.1, hslotnp, fun i o ho => ?_, fun i o ho => ?_, fun i hi => ?_, fun r => ?_, fun r r' b h1 h2 => h.dj r r' b (hsub r b h1) (hsub r' b h2), fun r b hb => h.live r b (hsub r b hb)⟩, hsub⟩
  · have ho' : S0.h[i]? = some o := ho
    obtain ⟨O, h1, h2⟩ := h.box i o (hbox i o ho')
    have hlt : i < S0.h.length := by
      rcases Nat.lt_or_ge i S0.h.length with h1 | h1
      · exact h1
      · simp [List.getElem?_eq_none h1] at ho'
    exact ⟨O, h1, by simp only [own']; rw [if_pos hlt]; exact h2⟩
  · have ho' : S0.h[i]? = some o := ho
    rcases hn with e | ⟨_, hn2⟩
    · exact (h.boxnp i o (hbox i o ho')).mono (hsame e)
    · exact (hn2 o (List.mem_of_getElem? ho')).mono hhas
  · have hi' : S0.h[i]? = none := hi
    have : ¬ i < S0.h.length := fun hlt => by rw [List.getElem?_eq_getElem hlt] at hi'; cases hi'
    simp only [own']
    rw [if_neg this]
  · cases r with
    | slot i => exact (key i).choose_spec.2.2
    | box i =>
      simp only [own']
      split
      · exact h.nd _
      · simp

section
variable {P : Program} {L : Nat → Bool} {N h0 : Nat} {Q : VE → St → Prop} {S S0 : St}

theorem VQ.weak {w : World} {fr pi : Nat → Nat} {own own' : Res → List Nat} (hsub : ∀ r b, b ∈ own' r → b ∈ own r) {e : Exit} {a : Act} {w' : World} (h : VQ N Q h0 w fr pi own' e a w') : VQ N Q h0 w fr pi own e a w' := by
  obtain ⟨x, S', fr', pi', own2, k1, k2, k3, k4, k5, k6, k7, k8⟩ := h
  exact ⟨x, S', fr', pi', own2, k1, k2, k3, k4, k5, k6, k7, ⟨k8.step.mono (fun b _ ⟨r, hr⟩ => ⟨r, hsub r b hr⟩), fun r b hb => by
    rcases k8.fresh r b hb with ⟨r', hr'⟩ | h'
    · exact .inl ⟨r', hsub r' b hr'⟩
    · exact .inr h', k8.pi⟩⟩

theorem Vwp.weak {c : VC} (ht : WkL S.t S0.t) {ex : List HObj} (hh : S.h = S0.h ++ ex) (hk : h0 ≤ S0.h.length) (hn : ex = [] ∨ ((∀ a, a ∈ S0.t → NP (fun i => i < S0.h.length) a) ∧ ∀ o, o ∈ S0.h → NPo (fun i => i < S0.h.length) o))
    (h : Vwp P L N h0 c Q S0) : Vwp P L N h0 c Q S := by
  intro hN hk' c0 hc a w fr pi own hr hs hd
  obtain ⟨own', hr', hsub⟩ := hr.weak ht hh hn
  exact wp_mono (h (by rw [← ht.length]; exact hN) hk c0 hc a w fr pi own' hr' hs hd) fun e a w hh => hh.weak hsub

theorem Vloop.weak {c : VC} (ht : WkL S.t S0.t) {ex : List HObj} (hh : S.h = S0.h ++ ex) (hk : h0 ≤ S0.h.length) (hn : ex = [] ∨ ((∀ a, a ∈ S0.t → NP (fun i => i < S0.h.length) a) ∧ ∀ o, o ∈ S0.h → NPo (fun i => i < S0.h.length) o))
    (h : Vloop P L N h0 c Q S0) : Vloop P L N h0 c Q S := by
  intro hN hk' c0 hc a w fr pi own hr hs hd
  obtain ⟨own', hr', hsub⟩ := hr.weak ht hh hn
  exact (h (by rw [← ht.length]; exact hN) hk c0 hc a w fr pi own' hr' hs hd).mono fun e a w hh => hh.weak hsub
end

end Go.Proofs.YtmjdoonaidolkaaDoor.V

/- A small logic of values over the model, part 26: the weakest precondition of an operation, reckoned. -/
namespace Go.Proofs.YtmjdoonaidolkaaDoor.V

/-- What is there is handed on; else nothing holds. -/
def onSome {α : Type} (x : Option α) (K : α → Prop) : Prop :=
  match x with
  | some a => K a
  | none => False

theorem onSome_inv {α : Type} {x : Option α} {K : α → Prop} (h : onSome x K) : ∃ a, x = some a ∧ K a := by
  cases x with
  | none => exact h.elim
  | some a => exact ⟨a, rfl, h⟩

def onTrue (x : Bool) (K : Prop) : Prop :=
  match x with
  | true => K
  | false => False

theorem onTrue_inv {x : Bool} {K : Prop} (h : onTrue x K) : x = true ∧ K := by
  cases x with
  | false => exact h.elim
  | true => exact ⟨rfl, h⟩

/-! A value is reckoned before it is written: so a state never carries the states ahead of it. -/

def force1 (x : AV) (K : AV → Prop) : Prop :=
  match x with
  | .bool b => K (.bool b)
  | .int k n => K (.int k n)
  | .str s => K (.str s)
  | .sl sz nl own xs => K (.sl sz nl own xs)
  | .agg cs => K (.agg cs)
  | .tup vs => K (.tup vs)
  | .ptr p => K (.ptr p)
  | .rptr cs => K (.rptr cs)
  | .func f cap => K (.func f cap)
  | .iface t v => K (.iface t v)
  | .niliface => K .niliface
  | .nilfunc => K .nilfunc
  | .undef => K .undef
  | .bsl sz id off len => K (.bsl sz id off len)

def forceL : List AV → (List AV → Prop) → Prop
  | [], K => K []
  | a :: l, K => force1 a fun a => forceL l fun l => K (a :: l)

theorem force1_inv {x : AV} {K : AV → Prop} (h : force1 x K) : K x := by cases x <;> exact h

theorem forceL_inv : ∀ {l : List AV} {K : List AV → Prop}, forceL l K → K l
  | [], _K, h => h
  | a :: l, K, h => forceL_inv (l := l) (K := fun l => K (a :: l)) (force1_inv (K := fun a => forceL l fun l => K (a :: l)) h)

def forceLL : List (List AV) → (List (List AV) → Prop) → Prop
  | [], K => K []
  | x :: l, K => forceL x fun x => forceLL l fun l => K (x :: l)

theorem forceLL_inv : ∀ {l : List (List AV)} {K : List (List AV) → Prop}, forceLL l K → K l
  | [], _K, h => h
  | x :: l, K, h => forceLL_inv (l := l) (K := fun l => K (x :: l)) (forceL_inv (K := fun x => forceLL l fun l => K (x :: l)) h)

/-- Arithmetic: of two numbers what stands there, and what must be so of them. -/
def wpInt (op : BinOp) (k : IntKind) (a b : Int) (K : AV → Prop) : Prop :=
  match op with
  | .quo => b ≠ 0 ∧ K (.int k (k.wrap (a.tdiv b)))
  | .rem => b ≠ 0 ∧ K (.int k (a.tmod b))
  | .add => K (.int k (k.wrap (a + b)))
  | .sub => K (.int k (k.wrap (a - b)))
  | .mul => K (.int k (k.wrap (a * b)))
  | .shl => False
  | .shr => False
  | .and => K (.int k (k.wrap (BitVec.ofInt k.bits a &&& BitVec.ofInt k.bits b).toNat))
  | .or => K (.int k (k.wrap (BitVec.ofInt k.bits a ||| BitVec.ofInt k.bits b).toNat))
  | .xor => K (.int k (k.wrap (BitVec.ofInt k.bits a ^^^ BitVec.ofInt k.bits b).toNat))
  | .andNot => K (.int k (k.wrap (BitVec.ofInt k.bits a &&& ~~~ BitVec.ofInt k.bits b).toNat))
  | .eql => K (.bool (a == b))
  | .neq => K (.bool (a != b))
  | .lss => K (.bool (decide (a < b)))
  | .leq => K (.bool (decide (a ≤ b)))
  | .gtr => K (.bool (decide (a > b)))
  | .geq => K (.bool (decide (a ≥ b)))

def wpBin (op : BinOp) (x y : AV) (K : AV → Prop) : Prop :=
  match x, y with
  | .int k a, .int k' b =>
    match op with
    | .shl => 0 ≤ b ∧ K (.int k (k.wrap (a * 2 ^ min b.toNat k.bits)))
    | .shr => 0 ≤ b ∧ K (.int k (a.fdiv (2 ^ min b.toNat k.bits)))
    | op => onTrue (decide (k = k')) (wpInt op k a b K)
  | .str a, .str b =>
    match op with
    | .add => a.size + b.size ≤ 9223372036854775807 ∧ K (.str (a ++ b))
    | op => onSome (vstr op a b) K
  | _, _ => False

theorem wpInt_inv {op : BinOp} {k : IntKind} {a b : Int} {K : AV → Prop} (h : wpInt op k a b K) : ∃ x, vint op k a b = some x ∧ K x := by
  cases op
  case quo => exact ⟨_, by simp only [vint]; rw [if_neg h.1], h.2⟩
  case rem => exact ⟨_, by simp only [vint]; rw [if_neg h.1], h.2⟩
  case shl => exact h.elim
  case shr => exact h.elim
  all_goals exact ⟨_, rfl, h⟩

theorem wpBin_inv {op : BinOp} {x y : AV} {K : AV → Prop} (h : wpBin op x y K) : ∃ a, vbin op x y = some a ∧ K a := by
  cases x <;> cases y <;> first | exact False.elim h | skip
  · rename_i k a k' b
    cases op
    case shl => exact ⟨_, by simp only [vbin]; rw [if_neg (by have := h.1; omega)], h.2⟩
    case shr => exact ⟨_, by simp only [vbin]; rw [if_neg (by have := h.1; omega)], h.2⟩
    all_goals
      obtain ⟨h1, h2⟩ := onTrue_inv h
      have e : k = k' := of_decide_eq_true h1
      subst e
      simp only [vbin, ↓reduceIte]
      exact wpInt_inv h2
  · rename_i a b
    cases op
    case add => exact ⟨_, by simp only [vbin, vstr]; rw [if_pos h.1], h.2⟩
    all_goals exact onSome_inv h

/-- Of an operation that calls nobody: what must be so, and what follows of its value. -/
def wpEv (fl : Bool) (s : Nat → AV) (h : List HObj) (op : VOp) (K : AV → Option (Nat × HObj) → Prop) : Prop :=
  match op with
  | .mov x => K (if fl then rdX s x else (rdX s x).strip) none
  | .pick c a b => match rdX s c with
    | .bool t => match t with
      | true => K (rdX s a).strip none
      | false => K (rdX s b).strip none
    | _ => False
  | .alloc z => K (.ptr (some (h.length, 0))) (some (h.length, .cells z.cells))
  | .box x => onTrue (!(rdX s x).cells.isEmpty) (K (.ptr (some (h.length, 0))) (some (h.length, .cells (rdX s x).cells)))
  | .build z ps => onSome (putParts s z ps) fun l => K (.agg l) none
  | .bslice sz len z ps => onTrue (z.all AV.one) (onSome (putElems s sz (List.replicate len z) ps) fun l => forceLL l fun l => K (.sl sz (some false) true l) none)
  | .load g x => match rdX s x with
    | .ptr (some (i, off)) => match h[i]? with
      | some (.cells cs) => onSome (ldCells cs off g) fun a => K a none
      | some (.arr sz xs) => (sz = 1 ∧ g = none) ∧ ∃ c, xs[off]? = some c ∧ K (c.headD .undef).strip none
      | _ => False
    | .rptr cs => onSome (ldCells cs 0 g) fun a => K a none
    | _ => False
  | .store n x v => match rdX s x with
    | .ptr (some (i, off)) => match h[i]? with
      | some (.cells cs) => onTrue (decide ((rdX s v).cells.length = n ∧ off + n ≤ cs.length) && (rdX s v).cells.all AV.one) (K .undef (some (i, .cells (splice cs off (rdX s v).cells))))
      | some (.arr sz xs) => onTrue (decide (sz = 1 ∧ n = 1) && decide ((rdX s v).strip.cells.length = 1) && (rdX s v).strip.cells.all AV.one) (off < xs.length ∧ K .undef (some (i, .arr 1 (xs.set off (rdX s v).strip.cells))))
      | _ => False
    | _ => False
  | .nilck x => match rdX s x with
    | .ptr (some p) => K (.ptr (some p)) none
    | .rptr cs => K (.rptr cs) none
    | .func f l => K (.func f l) none
    | _ => False
  | .bin op x y => wpBin op (rdX s x) (rdX s y) fun a => K a none
  | .eqn k neq x y => onTrue (isCst y) (onSome (veqn k (rdX s x) (rdX s y)) fun b => K (.bool (if neq then !b else b)) none)
  | .eqv neq plan x y => match rdX s x, rdX s y with
    | .agg xs, .agg ys => onSome (veqs plan xs ys) fun b => K (.bool (if neq then !b else b)) none
    | _, _ => False
  | .un op x => match op, rdX s x with
    | .not, .bool b => K (.bool !b) none
    | .neg, .int k n => K (.int k (k.wrap (0 - n))) none
    | _, _ => False
  | .cvi k x => match rdX s x with
    | .int _ n => K (.int k (k.wrap n)) none
    | _ => False
  | .cvsb x => match rdX s x with
    | .str b => K (.sl 1 (some false) false (bytesAV b)) none
    | _ => False
  | .cvbs x => match rdX s x with
    | .sl _ _ _ xs => ∃ l, toBytes xs = some l ∧ K (.str ⟨l.toArray⟩) none
    | _ => False
  | .cvid x => match rdX s x with
    | .str b => K (.str b) none
    | _ => False
  | .ifc t x => K (.iface t (rdX s x).strip) none
  | .fn f caps => K (.func f (caps.map fun x => (rdX s x).strip)) none
  | .slstr x lo hi => match rdX s x with
    | .str b => onSome (vlow s lo) fun l => onSome (vhigh s b.size hi) fun u => (0 ≤ l ∧ l ≤ u ∧ u ≤ b.size) ∧ K (.str (b.extract l.toNat u.toNat)) none
    | _ => False
  | .slsl sz x lo hi => match rdX s x with
    | .sl sz' nl _ xs => onSome (vlow s lo) fun l => onSome (vhigh s xs.length hi) fun u => (sz' = sz ∨ xs.length = 0) ∧ (0 ≤ l ∧ l ≤ u ∧ u ≤ xs.length) ∧ K (.sl sz nl false ((xs.drop l.toNat).take (u.toNat - l.toNat))) none
    | .bsl sz' b o n => onSome (vlow s lo) fun l => onSome (vhigh s n hi) fun u => sz' = sz ∧ (0 ≤ l ∧ l ≤ u ∧ u ≤ n) ∧ (match fl with
      | true => match h[b]? with
        | some (.arr sz2 xs) => (sz2 = sz ∧ o + n ≤ xs.length) ∧ K (.sl sz (some false) false ((xs.drop (o + l.toNat)).take (u.toNat - l.toNat))) (some (b, .froz))
        | _ => False
      | false => K (.bsl sz b (o + l.toNat) (u.toNat - l.toNat)) none)
    | _ => False
  | .fld off x => match rdX s x with
    | .ptr (some (i, o)) => K (.ptr (some (i, o + off))) none
    | .rptr cs => K (.rptr (cs.drop off)) none
    | _ => False
  | .fldv off g x => match rdX s x with
    | .agg cs => onSome (ldCells cs off g) fun a => K a none
    | _ => False
  | .ixa sz x i => match rdX s x, rdX s i with
    | .sl sz' _ _ xs, .int _ n => sz' = sz ∧ 0 ≤ n ∧ ∃ c, xs[n.toNat]? = some c ∧ K (.rptr c) none
    | .bsl sz' b o m, .int _ n => sz' = sz ∧ (0 ≤ n ∧ n < m) ∧ K (.ptr (some (b, (o + n.toNat) * sz))) none
    | _, _ => False
  | .ixarr n sz x i => match rdX s x, rdX s i with
    | .ptr (some (b, o)), .int _ j => (0 ≤ j ∧ j < n) ∧ K (.ptr (some (b, o + j.toNat * sz))) none
    | _, _ => False
  | .ixs x i => match rdX s x, rdX s i with
    | .str b, .int _ n => 0 ≤ n ∧ ∃ c, b.data[n.toNat]? = some c ∧ K (.int .u8 c.toNat) none
    | _, _ => False
  | .ext x i => match rdX s x with
    | .tup vs => onSome (vs[i]?) fun a => K a.strip none
    | _ => False
  | .call _ _ => False
  | .lens x => match rdX s x with
    | .str b => K (.int .i64 b.size) none
    | _ => False
  | .lenl x => match rdX s x with
    | .sl _ _ _ xs => K (.int .i64 xs.length) none
    | .bsl _ _ _ n => K (.int .i64 n) none
    | _ => False
  | .app sz bytes x y => match rdX s x, rdX s y with
    | .sl sz' nl own xs, .sl sz2 _ _ ys => ((own = true ∧ sz' = sz) ∨ (nl = some true ∧ xs.length = 0)) ∧ (sz2 = sz ∨ ys.length = 0) ∧ ((xs.length + ys.length) * bytes ≤ 140737488355328 ∧ xs.length + ys.length ≤ 140737488355328) ∧
        K (.sl sz (if nl = some false then some false else none) true (xs ++ ys)) none
    | _, _ => False
  | .apps bytes x y => match rdX s x, rdX s y with
    | .sl sz' nl own xs, .str b => ((own = true ∧ sz' = 1) ∨ (nl = some true ∧ xs.length = 0)) ∧ ((xs.length + b.size) * bytes ≤ 140737488355328 ∧ xs.length + b.size ≤ 140737488355328) ∧
        K (.sl 1 (if nl = some false then some false else none) true (xs ++ bytesAV b)) none
    | _, _ => False
  | .mk sz bytes z n => match rdX s n with
    | .int .i64 k => onTrue (z.all AV.one) ((0 ≤ k ∧ k * bytes ≤ 140737488355328 ∧ k ≤ 140737488355328) ∧ (match fl with
      | true => K (.bsl sz h.length 0 k.toNat) (some (h.length, .arr sz (List.replicate k.toNat z)))
      | false => K (.sl sz (some false) true (List.replicate k.toNat z)) none))
    | _ => False
  | .eqb neq x y => match rdX s x, rdX s y with
    | .bool a, .bool b => match neq with
      | true => K (.bool (!(a == b))) none
      | false => K (.bool (a == b)) none
    | _, _ => False
  | .mm mx x y => match rdX s x, rdX s y with
    | .int k a, .int _ b => match mx with
      | true => K (.int k (if b > a then b else a)) none
      | false => K (.int k (if b < a then b else a)) none
    | _, _ => False
  | .cpy x y => match rdX s x, rdX s y with
    | .bsl sz b o n, .sl sz' _ _ ys => match h[b]? with
      | some (.arr sz2 xs) => (sz = 1 ∧ sz2 = 1) ∧ (sz' = 1 ∨ ys.length = 0) ∧ o + n ≤ xs.length ∧ K (.int .i64 (min ys.length n : Nat)) (some (b, .arr 1 (xs.take o ++ (ys.take n ++ xs.drop (o + min ys.length n)))))
      | _ => False
    | _, _ => False
  | .bad => False

theorem wpEv_sound {fl : Bool} {s : Nat → AV} {h : List HObj} {op : VOp} {K : AV → Option (Nat × HObj) → Prop} (hw : wpEv fl s h op K) : ∃ x b, ev fl s (fun i => h[i]?) h.length op = some (x, b) ∧ K x b := by
  cases op with
  | mov x => exact ⟨_, _, rfl, hw⟩
  | alloc z => exact ⟨_, _, rfl, hw⟩
  | ifc t x => exact ⟨_, _, rfl, hw⟩
  | fn f caps => exact ⟨_, _, rfl, hw⟩
  | call f l => exact hw.elim
  | bad => exact hw.elim
  | eqb neq x y =>
    simp only [wpEv, ev] at hw ⊢
    generalize rdX s x = v at hw ⊢
    generalize rdX s y = u at hw ⊢
    cases v <;> cases u <;> first | exact False.elim hw | skip
    cases neq <;> exact ⟨_, _, rfl, hw⟩
  | mm mx x y =>
    simp only [wpEv, ev] at hw ⊢
    generalize rdX s x = v at hw ⊢
    generalize rdX s y = u at hw ⊢
    cases v <;> cases u <;> first | exact False.elim hw | skip
    cases mx <;> exact ⟨_, _, rfl, hw⟩
  | box x =>
    simp only [wpEv, ev] at hw ⊢
    obtain ⟨h1, h2⟩ := onTrue_inv hw
    rw [if_neg (by simpa using h1)]
    exact ⟨_, _, rfl, h2⟩
  | build z ps =>
    simp only [wpEv, ev] at hw ⊢
    obtain ⟨l, h1, h2⟩ := onSome_inv hw
    rw [h1]
    exact ⟨_, _, rfl, h2⟩
  | bslice sz len z ps =>
    simp only [wpEv, ev] at hw ⊢
    obtain ⟨h0, h3⟩ := onTrue_inv hw
    obtain ⟨l, h1, h2⟩ := onSome_inv h3
    rw [h0, h1]
    exact ⟨_, _, rfl, forceLL_inv (K := fun l => K (.sl sz (some false) true l) none) h2⟩
  | bin op x y =>
    simp only [wpEv, ev] at hw ⊢
    obtain ⟨a, h1, h2⟩ := wpBin_inv hw
    rw [h1]
    exact ⟨_, _, rfl, h2⟩
  | eqn k neq x y =>
    simp only [wpEv, ev] at hw ⊢
    obtain ⟨h0, h3⟩ := onTrue_inv hw
    obtain ⟨b, h1, h2⟩ := onSome_inv h3
    rw [h0, h1]
    exact ⟨_, _, rfl, h2⟩
  | pick c a b =>
    simp only [wpEv, ev] at hw ⊢
    generalize rdX s c = vc at hw ⊢
    generalize rdX s a = va at hw ⊢
    generalize rdX s b = vb at hw ⊢
    cases vc with
    | bool t => cases t <;> cases va <;> cases vb <;> exact ⟨_, _, rfl, hw⟩
    | _ => exact hw.elim
  | load g x =>
    simp only [wpEv, ev] at hw ⊢
    generalize rdX s x = v at hw ⊢
    cases v with
    | ptr p =>
      cases p with
      | none => exact hw.elim
      | some p =>
        obtain ⟨i, off⟩ := p
        simp only at hw ⊢
        generalize h[i]? = o at hw ⊢
        cases o with
        | none => exact hw.elim
        | some o =>
          cases o with
          | cells cs =>
            obtain ⟨a, h1, h2⟩ := onSome_inv hw
            simp only [h1]
            exact ⟨_, _, rfl, h2⟩
          | arr sz xs =>
            obtain ⟨h1, c, h2, h3⟩ := hw
            simp only
            rw [if_pos h1, h2]
            exact ⟨_, _, rfl, h3⟩
          | froz => exact hw.elim
          | map _ _ => exact hw.elim
    | rptr cs =>
      obtain ⟨a, h1, h2⟩ := onSome_inv hw
      simp only [h1]
      exact ⟨_, _, rfl, h2⟩
    | _ => exact hw.elim
  | store n x v =>
    simp only [wpEv, ev] at hw ⊢
    generalize rdX s x = u at hw ⊢
    cases u with
    | ptr p =>
      cases p with
      | none => exact hw.elim
      | some p =>
        obtain ⟨i, off⟩ := p
        simp only at hw ⊢
        generalize h[i]? = o at hw ⊢
        cases o with
        | none => exact hw.elim
        | some o =>
          cases o with
          | cells cs =>
            obtain ⟨h1, h2⟩ := onTrue_inv hw
            simp only [Bool.and_eq_true, decide_eq_true_eq] at h1
            simp only
            rw [if_pos ⟨h1.1.1, h1.1.2, h1.2⟩]
            exact ⟨_, _, rfl, h2⟩
          | arr sz xs =>
            obtain ⟨h1, h2, h3⟩ := onTrue_inv hw
            simp only [Bool.and_eq_true, decide_eq_true_eq] at h1
            simp only
            rw [if_pos ⟨h1.1.1.1, h1.1.1.2, h2, h1.1.2, h1.2⟩]
            exact ⟨_, _, rfl, h3⟩
          | froz => exact hw.elim
          | map _ _ => exact hw.elim
    | _ => exact hw.elim
  | nilck x =>
    simp only [wpEv, ev] at hw ⊢
    generalize rdX s x = v at hw ⊢
    cases v with
    | ptr p => cases p with
      | none => exact hw.elim
      | some p => exact ⟨_, _, rfl, hw⟩
    | rptr cs => exact ⟨_, _, rfl, hw⟩
    | func f l => exact ⟨_, _, rfl, hw⟩
    | _ => exact hw.elim
  | eqv neq plan x y =>
    simp only [wpEv, ev] at hw ⊢
    generalize rdX s x = v at hw ⊢
    generalize rdX s y = u at hw ⊢
    cases v <;> cases u <;> first | exact False.elim hw | skip
    obtain ⟨b, h1, h2⟩ := onSome_inv hw
    simp only [h1]
    exact ⟨_, _, rfl, h2⟩
  | un op x =>
    simp only [wpEv, ev] at hw ⊢
    generalize rdX s x = v at hw ⊢
    cases op <;> cases v <;> first | exact False.elim hw | exact ⟨_, _, rfl, hw⟩
  | cvi k x =>
    simp only [wpEv, ev] at hw ⊢
    generalize rdX s x = v at hw ⊢
    cases v <;> first | exact False.elim hw | exact ⟨_, _, rfl, hw⟩
  | cvsb x =>
    simp only [wpEv, ev] at hw ⊢
    generalize rdX s x = v at hw ⊢
    cases v <;> first | exact False.elim hw | exact ⟨_, _, rfl, hw⟩
  | cvid x =>
    simp only [wpEv, ev] at hw ⊢
    generalize rdX s x = v at hw ⊢
    cases v <;> first | exact False.elim hw | exact ⟨_, _, rfl, hw⟩
  | lens x =>
    simp only [wpEv, ev] at hw ⊢
    generalize rdX s x = v at hw ⊢
    cases v <;> first | exact False.elim hw | exact ⟨_, _, rfl, hw⟩
  | lenl x =>
    simp only [wpEv, ev] at hw ⊢
    generalize rdX s x = v at hw ⊢
    cases v <;> first | exact False.elim hw | exact ⟨_, _, rfl, hw⟩
  | cvbs x =>
    simp only [wpEv, ev] at hw ⊢
    generalize rdX s x = v at hw ⊢
    cases v <;> first | exact False.elim hw | skip
    obtain ⟨l, h1, h2⟩ := hw
    simp only [h1]
    exact ⟨_, _, rfl, h2⟩
  | slstr x lo hi =>
    simp only [wpEv, ev] at hw ⊢
    generalize rdX s x = v at hw ⊢
    cases v <;> first | exact False.elim hw | skip
    obtain ⟨l, h1, hw⟩ := onSome_inv hw
    obtain ⟨u, h2, h3, h4⟩ := onSome_inv hw
    simp only [h1, h2]
    rw [if_pos h3]
    exact ⟨_, _, rfl, h4⟩
  | slsl sz x lo hi =>
    simp only [wpEv, ev] at hw ⊢
    generalize rdX s x = v at hw ⊢
    cases v <;> first | exact False.elim hw | skip
    · obtain ⟨l, h1, hw⟩ := onSome_inv hw
      obtain ⟨u, h2, h5, h3, h4⟩ := onSome_inv hw
      simp only [h1, h2]
      rw [if_pos ⟨h5, h3⟩]
      exact ⟨_, _, rfl, h4⟩
    · obtain ⟨l, h1, hw⟩ := onSome_inv hw
      obtain ⟨u, h2, h5, h3, h4⟩ := onSome_inv hw
      simp only [h1, h2]
      rw [if_pos ⟨h5, h3⟩]
      cases fl with
      | false => exact ⟨_, _, rfl, h4⟩
      | true =>
        rename_i b o n _
        simp only at h4 ⊢
        generalize h[b]? = ob at h4 ⊢
        cases ob with
        | none => exact h4.elim
        | some ob =>
          cases ob with
          | arr sz2 xs =>
            simp only at h4 ⊢
            rw [if_pos h4.1]
            exact ⟨_, _, rfl, h4.2⟩
          | _ => exact h4.elim
  | cpy x y =>
    simp only [wpEv, ev] at hw ⊢
    generalize rdX s x = v at hw ⊢
    generalize rdX s y = u at hw ⊢
    cases v <;> cases u <;> first | exact False.elim hw | skip
    rename_i sz b o n sz' nl ow ys
    simp only at hw ⊢
    generalize h[b]? = ob at hw ⊢
    cases ob with
    | none => exact hw.elim
    | some ob =>
      cases ob with
      | arr sz2 xs =>
        simp only at hw ⊢
        obtain ⟨h1, h2, h3, h4⟩ := hw
        rw [if_pos ⟨h1.1, h1.2, h2, h3⟩]
        exact ⟨_, _, rfl, h4⟩
      | _ => exact hw.elim
  | fld off x =>
    simp only [wpEv, ev] at hw ⊢
    generalize rdX s x = v at hw ⊢
    cases v with
    | ptr p => cases p with
      | none => exact hw.elim
      | some p => exact ⟨_, _, rfl, hw⟩
    | rptr cs => exact ⟨_, _, rfl, hw⟩
    | _ => exact hw.elim
  | fldv off g x =>
    simp only [wpEv, ev] at hw ⊢
    generalize rdX s x = v at hw ⊢
    cases v <;> first | exact False.elim hw | skip
    obtain ⟨a, h1, h2⟩ := onSome_inv hw
    simp only [h1]
    exact ⟨_, _, rfl, h2⟩
  | ixa sz x i =>
    simp only [wpEv, ev] at hw ⊢
    generalize rdX s x = v at hw ⊢
    generalize rdX s i = u at hw ⊢
    cases v <;> cases u <;> first | exact False.elim hw | skip
    · obtain ⟨h0, h1, c, h2, h3⟩ := hw
      simp only
      rw [if_pos ⟨h0, h1⟩, h2]
      exact ⟨_, _, rfl, h3⟩
    · obtain ⟨h0, h1, h3⟩ := hw
      simp only
      rw [if_pos ⟨h0, h1⟩]
      exact ⟨_, _, rfl, h3⟩
  | ixarr n sz x i =>
    simp only [wpEv, ev] at hw ⊢
    generalize rdX s x = v at hw ⊢
    generalize rdX s i = u at hw ⊢
    cases v with
    | ptr p => cases p with
      | none => exact hw.elim
      | some p =>
        cases u <;> first | exact False.elim hw | skip
        simp only at hw ⊢
        rw [if_pos hw.1]
        exact ⟨_, _, rfl, hw.2⟩
    | _ => exact hw.elim
  | ixs x i =>
    simp only [wpEv, ev] at hw ⊢
    generalize rdX s x = v at hw ⊢
    generalize rdX s i = u at hw ⊢
    cases v <;> cases u <;> first | exact False.elim hw | skip
    obtain ⟨h0, c, h2, h3⟩ := hw
    simp only
    rw [if_pos h0, h2]
    exact ⟨_, _, rfl, h3⟩
  | ext x i =>
    simp only [wpEv, ev] at hw ⊢
    generalize rdX s x = v at hw ⊢
    cases v <;> first | exact False.elim hw | skip
    obtain ⟨a, h1, h2⟩ := onSome_inv hw
    simp only [h1]
    exact ⟨_, _, rfl, h2⟩
  | app sz bytes x y =>
    simp only [wpEv, ev] at hw ⊢
    generalize rdX s x = v at hw ⊢
    generalize rdX s y = u at hw ⊢
    cases v <;> cases u <;> first | exact False.elim hw | skip
    obtain ⟨h1, h2, ⟨h3, h4⟩, h5⟩ := hw
    simp only
    rw [if_pos h1, if_pos ⟨h2, h3, h4⟩]
    exact ⟨_, _, rfl, h5⟩
  | apps bytes x y =>
    simp only [wpEv, ev] at hw ⊢
    generalize rdX s x = v at hw ⊢
    generalize rdX s y = u at hw ⊢
    cases v <;> cases u <;> first | exact False.elim hw | skip
    obtain ⟨h1, ⟨h3, h4⟩, h5⟩ := hw
    simp only
    rw [if_pos h1, if_pos ⟨h3, h4⟩]
    exact ⟨_, _, rfl, h5⟩
  | mk sz bytes z n =>
    simp only [wpEv, ev] at hw ⊢
    generalize rdX s n = v at hw ⊢
    cases v with
    | int k j =>
      cases k <;> first | exact False.elim hw | skip
      obtain ⟨h1, h2, h3⟩ := onTrue_inv hw
      simp only
      rw [if_pos ⟨h2.1, h2.2.1, h2.2.2, h1⟩]
      cases fl <;> exact ⟨_, _, rfl, h3⟩
    | _ => exact hw.elim

end Go.Proofs.YtmjdoonaidolkaaDoor.V

/- A small logic of values over the model, part 27: states that are told slot by slot; the weakest precondition of code, reckoned. -/
namespace Go.Proofs.YtmjdoonaidolkaaDoor.V

/-- A state: what was written last stands first. -/
structure Sy where
  base : List AV
  ups : List (Nat × AV)
  h : List HObj

def look (t : Nat) (d : AV) : List (Nat × AV) → AV
  | [] => d
  | (i, a) :: r => match Nat.beq i t with
    | true => a
    | false => look t d r

def nthD : List AV → Nat → AV
  | [], _ => .undef
  | a :: _, 0 => a
  | _ :: r, n + 1 => nthD r n

def Sy.get (σ : Sy) (t : Nat) : AV := look t (nthD σ.base t) σ.ups

def Sy.rd (σ : Sy) : VX → AV
  | .tmp t => σ.get t
  | .cst a => a

def Sy.stripped (σ : Sy) : List Nat → List (Nat × AV) → List (Nat × AV)
  | [], l => l
  | i :: T, l => (i, (σ.get i).strip) :: σ.stripped T l

def Sy.app (σ : Sy) (dst : Option Nat) (d : SD) : Sy :=
  ⟨σ.base, match dst with
    | some t => (t, d.x) :: σ.stripped d.T σ.ups
    | none => σ.stripped d.T σ.ups, boxL d.b σ.h⟩

/-- The slots of N as a list. -/
def Sy.st (N : Nat) (σ : Sy) : St := ⟨(List.range N).map σ.get, σ.h⟩

def Sy.ok (N : Nat) (σ : Sy) : Prop := ∀ i, N ≤ i → σ.get i = .undef

theorem nthD_eq (l : List AV) (n : Nat) : nthD l n = l.getD n .undef := by
  induction l generalizing n with
  | nil => rfl
  | cons a r ih =>
    cases n with
    | zero => rfl
    | succ n => exact ih n

theorem look_cons (t : Nat) (d : AV) (i : Nat) (a : AV) (r : List (Nat × AV)) : look t d ((i, a) :: r) = if i = t then a else look t d r := by
  rw [look]
  by_cases h : i = t
  · rw [if_pos h, show Nat.beq i t = true from Nat.beq_eq.mpr h]
  · rw [if_neg h]
    have : Nat.beq i t = false := by
      cases hb : Nat.beq i t with
      | false => rfl
      | true => exact absurd (Nat.eq_of_beq_eq_true hb) h
    rw [this]

theorem Sy.st_length (N : Nat) (σ : Sy) : (σ.st N).t.length = N := by simp [Sy.st]

theorem Sy.st_getD {N : Nat} {σ : Sy} (h : σ.ok N) (i : Nat) : (σ.st N).t.getD i .undef = σ.get i := by
  rw [Sy.st, List.getD_eq_getElem?_getD, List.getElem?_map]
  rcases Nat.lt_or_ge i N with hi | hi
  · simp [List.getElem?_range hi]
  · rw [List.getElem?_eq_none (by simpa using hi), h i hi]; rfl

theorem Sy.st_fs {N : Nat} {σ : Sy} (h : σ.ok N) : (σ.st N).fs = ⟨σ.get, fun i => σ.h[i]?⟩ := FS.ext' (fun i => Sy.st_getD h i) (fun _ => rfl)

theorem Sy.rd_eq (σ : Sy) (x : VX) : σ.rd x = rdX σ.get x := by cases x <;> rfl

theorem look_stripped (σ : Sy) (d : AV) (t : Nat) (l : List (Nat × AV)) : ∀ (T : List Nat), look t d (σ.stripped T l) = if t ∈ T then (σ.get t).strip else look t d l
  | [] => by simp [Sy.stripped]
  | i :: T => by
    rw [Sy.stripped, look_cons, look_stripped σ d t l T]
    by_cases h : i = t
    · subst h; simp
    · have h2 : ¬ t = i := fun e => h e.symm
      simp [h, h2]

theorem Sy.app_get (σ : Sy) (dst : Option Nat) (d : SD) (i : Nat) : (σ.app dst d).get i = if dst = some i then d.x else if i ∈ d.T then (σ.get i).strip else σ.get i := by
  unfold Sy.app Sy.get
  cases dst with
  | none =>
    simp only [look_stripped]
    simp only [reduceCtorEq, ↓reduceIte]
    rfl
  | some t =>
    simp only [look_cons, look_stripped, Option.some.injEq]
    rfl

theorem Sy.app_ok {N : Nat} {σ : Sy} {dst : Option Nat} {d : SD} (h : σ.ok N) (hd : ∀ t, dst = some t → t < N) : (σ.app dst d).ok N := by
  intro i hi
  rw [Sy.app_get, if_neg, h i hi]
  · split <;> rfl
  · intro e
    have := hd i e
    omega

theorem St.ext' {a b : St} (h1 : a.t = b.t) (h2 : a.h = b.h) : a = b := by
  cases a; cases b
  simp only at h1 h2
  rw [h1, h2]

theorem Sy.app_st {N : Nat} {σ : Sy} {dst : Option Nat} {d : SD} (h : σ.ok N) (_hd : ∀ t, dst = some t → t < N) : (σ.st N).app dst d = (σ.app dst d).st N := by
  refine St.ext' (List.ext_getElem? fun i => ?_) rfl
  rcases Nat.lt_or_ge i N with hi | hi
  · have e1 : ((σ.app dst d).st N).t[i]? = some ((σ.app dst d).get i) := by
      simp [Sy.st, List.getElem?_range hi]
    have hl : i < ((σ.st N).app dst d).t.length := by rw [St.app_length, Sy.st_length]; exact hi
    have e2 : ((σ.st N).app dst d).t.getD i .undef = ((σ.st N).app dst d).t[i] := by rw [List.getD_eq_getElem?_getD, List.getElem?_eq_getElem hl]; rfl
    rw [e1, List.getElem?_eq_getElem hl, ← e2]
    congr 1
    rw [Sy.app_get]
    show (putL dst d.x (stripT d.T (σ.st N).t)).getD i .undef = _
    have hs : (stripT d.T (σ.st N).t).getD i .undef = if i ∈ d.T then (σ.get i).strip else σ.get i := by
      rw [stripT_getD, Sy.st_getD h]
    cases hdst : dst with
    | none => simp only [putL, reduceCtorEq, ↓reduceIte]; exact hs
    | some t =>
      simp only [putL, Option.some.injEq]
      rw [List.getD_eq_getElem?_getD, List.getElem?_set]
      by_cases hti : t = i
      · subst hti
        rw [if_pos rfl, if_pos rfl, if_pos (by rw [stripT_length, Sy.st_length]; exact hi)]
        rfl
      · rw [if_neg hti, if_neg hti, ← List.getD_eq_getElem?_getD]
        exact hs
  · rw [List.getElem?_eq_none (by rw [St.app_length, Sy.st_length]; exact hi), List.getElem?_eq_none (by rw [Sy.st_length]; exact hi)]

/-- What holds of a state's list. -/
def QS (N : Nat) (Q : VE → Sy → Prop) : VE → St → Prop := fun x S => ∃ σ : Sy, S = σ.st N ∧ σ.ok N ∧ Q x σ

def VloopS (P : Program) (L : Nat → Bool) (N h0 : Nat) (c : VC) (Q : VE → Sy → Prop) (σ : Sy) : Prop := σ.ok N → Vloop P L N h0 c (QS N Q) (σ.st N)

def nodupB : List Nat → Bool
  | [] => true
  | a :: l => !(l.any fun b => Nat.beq a b) && nodupB l

theorem nodupB_spec : ∀ {l : List Nat}, nodupB l = true → l.Nodup
  | [], _ => .nil
  | a :: l, h => by
    simp only [nodupB, Bool.and_eq_true, Bool.not_eq_true'] at h
    refine List.nodup_cons.2 ⟨fun hm => ?_, nodupB_spec h.2⟩
    have : l.any (fun b => Nat.beq a b) = true := List.any_eq_true.2 ⟨a, hm, Nat.beq_refl a⟩
    rw [h.1] at this
    cases this

/-- A contract that knows of no box, and arguments that know of none. -/
def PCallN (P : Program) (f : Nat) (args : List AV) (ret : AV) : Prop := (∀ a, a ∈ args → NP (fun _ => False) a) ∧ PCall P f args ret

/-- What a slot's Bool is, is known. -/
def Sy.know (σ : Sy) (t : Nat) (b : Bool) : Sy :=
  match σ with
  | ⟨base, ups, h⟩ => ⟨base, (t, .bool b) :: ups, h⟩

theorem Sy.know_get {σ : Sy} {t : Nat} {b : Bool} (h : σ.get t = .bool b) : (σ.know t b).get = σ.get := by
  funext i
  show look i (nthD σ.base i) ((t, .bool b) :: σ.ups) = σ.get i
  rw [look_cons]
  split
  · rename_i e
    rw [← e, h]
  · rfl

/-- The guard: done, or not. -/
def wpGuard (g : Option (Nat × Bool)) (σ : Sy) (on off : Sy → Prop) : Prop :=
  match g with
  | none => on σ
  | some (t, want) => match σ.get t with
    | .bool b => (b = want → on (σ.know t want)) ∧ (b ≠ want → off (σ.know t !want))
    | .tup [] => off σ
    | _ => False

/-- A call by contract. -/
def wpPC (P : Program) (σ : Sy) (f : VX) (args : List VX) (K : SD → Prop) : Prop :=
  match σ.rd f with
  | .func g [] => onTrue (nodupB (argTmps args)) (∃ ret, PCallN P g (args.map σ.rd) ret ∧ K ⟨argTmps args, ret, none⟩)
  | _ => False

def wpHC (P : Program) (σ : Sy) (f : VX) (args : List VX) (K : SD → List HObj → Prop) : Prop :=
  match σ.rd f with
  | .func g [] => onTrue (nodupB (argTmps args)) (∃ ret h', VCall P g (args.map σ.rd) σ.h ret h' ∧ K ⟨argTmps args, ret, none⟩ h')
  | _ => False

/-- A call that knows of one box: its first argument points to it. -/
def wpBC (P : Program) (σ : Sy) (f : VX) (args : List VX) (K : SD → Prop) : Prop :=
  match σ.rd f with
  | .func g [] => onTrue (nodupB (argTmps args)) (match args.map σ.rd with
    | .ptr (some (i, off)) :: rest => match σ.h[i]? with
      | some ob => ∃ ret ob', (∀ a, a ∈ rest → NP (fun _ => False) a) ∧ NPo (fun _ => False) ob ∧ NPo (fun _ => False) ob' ∧ NP (fun _ => False) ret ∧ VCall P g (.ptr (some (0, off)) :: rest) [ob] ret [ob'] ∧ K ⟨argTmps args, ret, some (i, ob')⟩
      | none => False
    | _ => False)
  | _ => False

def forceN (n : Nat) (K : Nat → Prop) : Prop :=
  match n with
  | 0 => K 0
  | 1 => K 1
  | 2 => K 2
  | 3 => K 3
  | 4 => K 4
  | 5 => K 5
  | 6 => K 6
  | 7 => K 7
  | 8 => K 8
  | 9 => K 9
  | 10 => K 10
  | 11 => K 11
  | 12 => K 12
  | 13 => K 13
  | 14 => K 14
  | 15 => K 15
  | n => K n

theorem forceN_inv {n : Nat} {K : Nat → Prop} (h : forceN n K) : K n := by
  unfold forceN at h
  split at h <;> exact h

def forceAV (x : AV) (K : AV → Prop) : Prop :=
  match x with
  | .agg cs => forceL cs fun cs => K (.agg cs)
  | .tup vs => forceL vs fun vs => K (.tup vs)
  | .iface t v => force1 v fun v => K (.iface t v)
  | .ptr (some (i, o)) => forceN i fun i => K (.ptr (some (i, o)))
  | .bsl sz i o n => forceN i fun i => K (.bsl sz i o n)
  | x => force1 x K

def forceT (σ : Sy) (ups : List (Nat × AV)) : List Nat → (List (Nat × AV) → Prop) → Prop
  | [], K => K ups
  | i :: T, K => force1 (σ.get i).strip fun a => forceT σ ups T fun l => K ((i, a) :: l)

def forceH : List HObj → (List HObj → Prop) → Prop
  | [], K => K []
  | o :: l, K => forceH l fun l => match o with
    | .cells cs => K (.cells cs :: l)
    | .map a b => K (.map a b :: l)
    | .arr sz xs => K (.arr sz xs :: l)
    | .froz => K (.froz :: l)

def forceB (b : Option (Nat × HObj)) (h : List HObj) (K : List HObj → Prop) : Prop :=
  match b with
  | none => K h
  | some (i, .cells cs) => forceL cs fun cs => forceH (boxL (some (i, .cells cs)) h) K
  | some (i, .map a b) => forceH (boxL (some (i, .map a b)) h) K
  | some (i, .arr sz xs) => forceH (boxL (some (i, .arr sz xs)) h) K
  | some (i, .froz) => forceH (boxL (some (i, .froz)) h) K

def wpPut (σ : Sy) (dst : Option Nat) (d : SD) (K : Sy → Prop) : Prop :=
  match σ with
  | ⟨base, ups, h⟩ => forceAV d.x fun x => forceT ⟨base, ups, h⟩ ups d.T fun l => forceB d.b h fun h =>
    match dst with
    | some t => K ⟨base, (t, x) :: l, h⟩
    | none => K ⟨base, l, h⟩

theorem forceAV_inv {x : AV} {K : AV → Prop} (h : forceAV x K) : K x := by
  cases x with
  | agg cs => exact forceL_inv (K := fun cs => K (.agg cs)) h
  | tup cs => exact forceL_inv (K := fun cs => K (.tup cs)) h
  | iface t v => exact force1_inv (K := fun v => K (.iface t v)) h
  | ptr p => cases p with
    | none => exact h
    | some p => 
      unfold forceAV at h
      exact forceN_inv (n := p.1) (K := fun i => K (.ptr (some (i, p.2)))) h
  | bsl sz i o n => exact forceN_inv (n := i) (K := fun i => K (.bsl sz i o n)) h
  | _ => exact h

theorem forceT_inv {σ : Sy} {ups : List (Nat × AV)} : ∀ {T : List Nat} {K : List (Nat × AV) → Prop}, forceT σ ups T K → K (σ.stripped T ups)
  | [], _K, h => h
  | i :: _T, K, h => forceT_inv (K := fun l => K ((i, (σ.get i).strip) :: l)) (force1_inv h)

theorem forceH_inv : ∀ {l : List HObj} {K : List HObj → Prop}, forceH l K → K l
  | [], K, h => h
  | o :: l, K, h => by
    have := forceH_inv (l := l) h
    cases o <;> exact this

theorem forceB_inv {b : Option (Nat × HObj)} {h : List HObj} {K : List HObj → Prop} (hh : forceB b h K) : K (boxL b h) := by
  match b with
  | none => exact hh
  | some (i, .cells cs) => exact forceH_inv (forceL_inv hh)
  | some (i, .map a b) => exact forceH_inv hh
  | some (i, .arr sz xs) => exact forceH_inv hh
  | some (i, .froz) => exact forceH_inv hh

theorem wpPut_inv {σ : Sy} {dst : Option Nat} {d : SD} {K : Sy → Prop} (h : wpPut σ dst d K) : K (σ.app dst d) := by
  obtain ⟨base, ups, hp⟩ := σ
  unfold wpPut at h
  have h1 := forceAV_inv h
  have h2 := forceT_inv h1
  have h3 := forceB_inv h2
  unfold Sy.app
  cases dst <;> exact h3

/-- One operation, then what stands behind it ('next'). -/
def wpOp (P : Program) (L : Nat → Bool) (o : VOper) (next : Sy → Prop) (σ : Sy) : Prop := wpGuard o.guard σ
    (fun σ => match o.call with
      | none => wpEv (o.fl L) σ.get (match σ with | ⟨_, _, h⟩ => h) o.op fun x b => wpPut σ o.dst ⟨takes (o.fl L) o.op, x, b⟩ next
      | some (f, args) => (wpPC P σ f args fun d => wpPut σ o.dst d next) ∨
          ((wpHC P σ f args fun d h' => wpPut σ o.dst d fun σ' => forceH h' fun h' => match σ' with | ⟨base, ups, _⟩ => next ⟨base, ups, h'⟩) ∨
          wpBC P σ f args fun d => wpPut σ o.dst d next))
    (fun σ => wpPut σ o.dst ⟨[], .tup [], none⟩ next)

def wpOps (P : Program) (L : Nat → Bool) (os : List VOper) : (Sy → Prop) → Sy → Prop :=
  List.rec (motive := fun _ => (Sy → Prop) → Sy → Prop) (fun K σ => K σ) (fun o _ next K σ => wpOp P L o (next K) σ) os

def wpDrOp (P : Program) (L : Nat → Bool) (o : VOper) (next : (Sy → List (List Res) → List (List Res) → Prop) → Sy → Prop) (K : Sy → List (List Res) → List (List Res) → Prop) (σ : Sy) : Prop := wpGuard o.guard σ
    (fun σ => match o.call with
      | none => wpEv (o.fl L) σ.get (match σ with | ⟨_, _, h⟩ => h) o.op fun x b => wpPut σ o.dst ⟨takes (o.fl L) o.op, x, b⟩ (next fun σ'' ws rs => K σ'' (wrL o.dst ⟨takes (o.fl L) o.op, x, b⟩ :: ws) (rdL o σ.get σ.h.length :: rs))
      | some (f, args) => (wpPC P σ f args fun d => wpPut σ o.dst d (next fun σ'' ws rs => K σ'' (wrL o.dst d :: ws) (rdL o σ.get σ.h.length :: rs))) ∨ (False ∨
          wpBC P σ f args fun d => wpPut σ o.dst d (next fun σ'' ws rs => K σ'' (wrL o.dst d :: ws) (rdL o σ.get σ.h.length :: rs))))
    (fun σ => wpPut σ o.dst ⟨[], .tup [], none⟩ (next fun σ'' ws rs => K σ'' (wrL o.dst ⟨[], .tup [], none⟩ :: ws) (rdL o σ.get σ.h.length :: rs)))

def wpDr (P : Program) (L : Nat → Bool) (os : List VOper) : (Sy → List (List Res) → List (List Res) → Prop) → Sy → Prop :=
  List.rec (motive := fun _ => (Sy → List (List Res) → List (List Res) → Prop) → Sy → Prop) (fun K σ => K σ [] []) (fun o _ next K σ => wpDrOp P L o next K σ) os

def thenS (k : Sy → Prop) (Q : VE → Sy → Prop) : VE → Sy → Prop
  | .normal, σ => k σ
  | .exit i, σ => Q (.exit i) σ
  | .ret, σ => Q .ret σ

def blockS (id : Nat) (Q : VE → Sy → Prop) : VE → Sy → Prop
  | .exit i, σ => match Nat.beq i id with
    | true => Q .normal σ
    | false => Q (.exit i) σ
  | .normal, σ => Q .normal σ
  | .ret, σ => Q .ret σ

/-- Behind a drawn region. -/
def drQ (ops : List VOper) (K : Sy → Prop) (σ : Sy) (ws rs : List (List Res)) : Prop := drawOk (befores ops []) ws rs = true ∧ K σ

def wpCond (z : VX) (x y : (VE → Sy → Prop) → Sy → Prop) (Q : VE → Sy → Prop) (σ : Sy) : Prop :=
  match σ.rd z with
  | .bool b => (b = true → x Q σ) ∧ (b = false → y Q σ)
  | _ => False

def wpV (P : Program) (L : Nat → Bool) (N h0 : Nat) (c : VC) : (VE → Sy → Prop) → Sy → Prop :=
  VC.rec (motive := fun _ => (VE → Sy → Prop) → Sy → Prop)
    (fun Q σ => Q .normal σ)
    (fun ops Q σ => wpOps P L ops (Q .normal) σ)
    (fun ops Q σ => wpDr P L ops (drQ ops (Q .normal)) σ)
    (fun _ _ x y Q σ => x (thenS (y Q) Q) σ)
    (fun z _ _ x y Q σ => wpCond z x y Q σ)
    (fun id _ x Q σ => x (blockS id Q) σ)
    (fun c _ Q σ => VloopS P L N h0 c Q σ)
    (fun id Q σ => Q (.exit id) σ)
    (fun Q σ => Q .ret σ) c

end Go.Proofs.YtmjdoonaidolkaaDoor.V
