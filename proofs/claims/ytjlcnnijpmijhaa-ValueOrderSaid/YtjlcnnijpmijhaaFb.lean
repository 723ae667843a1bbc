/-
  A small logic of values over the model, part 36: functions without a body, for which the model stands in.
-/
import Derived.Test.YtjlcnnijpmijhaaFa
import Derived.Laws.Externs
import Derived.IntWalk
import Derived.ProofKit
import Derived.Deep.Slices
import Derived.Carry
import Derived.Handed
import Derived.JoinedOf
import Derived.ChangeSame
import Derived.RowKit
import Derived.Lib.Bytealg

/- A small logic of values over the model, part 15: 'ev_sound': every operation that calls nobody. -/
namespace Go.Proofs.Ytjlcnnijpmijhaa.V

section
variable {P : Program} {o : Oper} {a : Act} {w : World} {fr pi : Nat → Nat} {own : Res → List Nat} {s : FS} (h : Rel w fr pi own s a.tmps) (hd : ∀ t, o.dst = some t → t < a.tmps.size)
include h hd

theorem good_app {x y : Operand} {vx vy : VX} {t u e : TypeId} (ho : o.op = .call { callee := .builtin .append, args := #[x, y], argTypes := #[t, u] }) (ht : P.underlying t = some (.slice e)) {i : TypeInfo} (hi : P.info? e = some i) {z0 : AV}
    (hz : zeroOf P e = some z0) (h0 : i.size ≠ 0) (hzl : z0.cells.length = i.size) (hx : resX x = some vx) (hy : resX y = some vy) {e' : TypeId} (hus' : P.underlying u = some (.slice e'))
    {z : AV} {b : Option (Nat × HObj)} {fl : Bool} {id : Nat} (he : ev fl s.sl s.bx id (.app i.size i.bytes vx vy) = some (z, b)) : Good P o a w fr pi own s.has (s.after (takes fl (.app i.size i.bytes vx vy)) o.dst z b) := by
  simp only [ev] at he
  split at he <;> try (cases he; done)
  rename_i sz' nl ow xs hr
  split at he <;> try (cases he; done)
  rename_i how
  obtain ⟨g1, g2⟩ := opnd0 h hy
  have hz' := hz
  unfold zeroOf at hz'
  obtain ⟨v, k1, k2⟩ := Option.bind_eq_some_iff.1 hz'
  obtain ⟨i', hi', hv⟩ := Option.bind_eq_some_iff.1 k1
  rw [hi] at hi'
  cases hi'
  obtain ⟨r1, r2⟩ := avOf_rep (w := w) (fr := fr) (pi := pi) (ok := s.has) k2
  have hne : z0.cells ≠ [] := fun e => by rw [e] at hzl; simp at hzl; omega
  have hvs : v.cells.size = i.size := by have := (cells_rep r1 hne).length; simp at this; omega
  split at he <;> try (cases he; done)
  rename_i sz2 nl2 ow2 ys hr2
  split at he <;> try (cases he; done)
  rename_i hc
  obtain ⟨c1, c2, c3⟩ := hc
  cases he
  rw [hr2] at g1 g2
  simp only [AV.strip] at g1 g2
  rcases g1.sl_inv with ⟨hyv, hys, _⟩ | ⟨ad, cap, hyv, hys, _⟩ | ⟨bl, of, cap, vs, hyv, _, hlen, hrep, hcells, _⟩
  · subst hys
    exact Good.append h hd ho ht hi hv hvs h0 hx hr (ys := []) (news := []) how ⟨by rw [hyv]; exact Src.ofNil w hus' 0, .nil, by simp⟩ (by simp) c2 c3 fl vy
  · subst hys
    exact Good.append h hd ho ht hi hv hvs h0 hx hr (ys := []) (news := []) how ⟨by rw [hyv]; exact Src.ofSlice w hus' ad 0 cap [] (by simp) (fun j u hj => by simp at hj) (fun u hu' => by simp at hu'), .nil, by simp⟩ (by simp) c2 c3 fl vy
  · have hlen' : ∀ x, x ∈ ys → x.length = i.size := by
      rcases c1 with c1 | c1
      · rw [← c1]; exact hlen
      · have : ys = [] := List.eq_nil_of_length_eq_zero c1
        subst this
        simp
    have hvl : vs.length = ys.length * i.size := by rw [← hrep.length, flatten_len hlen']
    exact Good.append h hd ho ht hi hv hvs h0 hx hr (ys := ys) (news := vs) how ⟨by rw [hyv]; exact Src.ofSlice w hus' _ _ _ _ hvl (fun j u hj => by rw [addr_add]; exact (hcells j u hj).1) (fun u hu' => by
      obtain ⟨k, hk⟩ := List.getElem?_of_mem hu'
      exact (hcells k u hk).2.2), hrep, hlen'⟩ g2.sl_inv c2 c3 fl vy

theorem good_apps {x y : Operand} {vx vy : VX} {t u e : TypeId} (ho : o.op = .call { callee := .builtin .append, args := #[x, y], argTypes := #[t, u] }) (ht : P.underlying t = some (.slice e)) {i : TypeInfo} (hi : P.info? e = some i) {z0 : AV}
    (hz : zeroOf P e = some z0) (h0 : i.size ≠ 0) (hzl : z0.cells.length = i.size) (hx : resX x = some vx) (hy : resX y = some vy) (hus' : P.underlying u = some .string) (hs1 : i.size = 1)
    {z : AV} {b : Option (Nat × HObj)} {fl : Bool} {id : Nat} (he : ev fl s.sl s.bx id (.apps i.bytes vx vy) = some (z, b)) : Good P o a w fr pi own s.has (s.after (takes fl (.apps i.bytes vx vy)) o.dst z b) := by
  simp only [ev] at he
  split at he <;> try (cases he; done)
  rename_i sz' nl ow xs hr
  split at he <;> try (cases he; done)
  rename_i how
  obtain ⟨g1, g2⟩ := opnd0 h hy
  have hz' := hz
  unfold zeroOf at hz'
  obtain ⟨v, k1, k2⟩ := Option.bind_eq_some_iff.1 hz'
  obtain ⟨i', hi', hv⟩ := Option.bind_eq_some_iff.1 k1
  rw [hi] at hi'
  cases hi'
  obtain ⟨r1, r2⟩ := avOf_rep (w := w) (fr := fr) (pi := pi) (ok := s.has) k2
  have hne : z0.cells ≠ [] := fun e => by rw [e] at hzl; simp at hzl; omega
  have hvs : v.cells.size = i.size := by have := (cells_rep r1 hne).length; simp at this; omega
  split at he <;> try (cases he; done)
  rename_i bs hr2
  split at he <;> try (cases he; done)
  rename_i hc
  obtain ⟨c2, c3⟩ := hc
  cases he
  rw [hr2] at g1
  have := Good.append h hd ho ht hi hv hvs h0 hx hr (ys := bytesAV bs) (news := byteCells bs) (by rw [hs1]; exact how) ⟨by rw [g1.str_inv, bytesAV_length, hs1]; exact Src.ofString w hus' bs, bytes_rep bs, by rw [hs1]; exact bytesAV_sz bs⟩ (bytesAV_np _ bs) (by rw [bytesAV_length]; exact c2)
    (by rw [bytesAV_length]; exact c3) fl vy
  rw [hs1] at this
  have ht2 : takes fl (.app 1 i.bytes vx vy) = takes fl (.apps i.bytes vx vy) := by cases vx <;> rfl
  rw [ht2] at this
  exact this

end

theorem takes_nil {fl : Bool} {vo : VOp} (h : ∀ x, vo ≠ .mov x) (h2 : ∀ x, vo ≠ .box x) (h3 : ∀ n x v, vo ≠ .store n x v) (h4 : ∀ p q x y, vo ≠ .app p q x y) (h5 : ∀ p x y, vo ≠ .apps p x y) : takes fl vo = [] := by
  unfold takes
  split <;> first | rfl | (exfalso; first | exact h _ rfl | exact h2 _ rfl | exact h3 _ _ _ rfl | exact h4 _ _ _ _ rfl | exact h5 _ _ _ rfl)

/-- What an operation comes to, it comes to in every world that holds the state. -/
theorem ev_sound {P : Program} {o : Oper} {a : Act} {w : World} {fr pi : Nat → Nat} {own : Res → List Nat} {s : FS} (h : Rel w fr pi own s a.tmps) (hd : ∀ t, o.dst = some t → t < a.tmps.size) {vo : VOp} (hr : resolve P o.op = some vo ∨ vo = .bad) {id : Nat}
    (hid : vo.isAlloc = true → s.bx id = none) {fl : Bool} {z : AV} {b : Option (Nat × HObj)} (he : ev fl s.sl s.bx id vo = some (z, b)) : Good P o a w fr pi own s.has (s.after (takes fl vo) o.dst z b) := by
  rcases hr with hr | rfl
  case inr => simp [ev] at he
  unfold resolve at hr
  split at hr
  · rename_i x ho
    obtain ⟨vx, hx, rfl⟩ := Option.map_eq_some_iff.1 hr
    simp only [ev] at he
    cases he
    exact good_mov h hd (.inl ho) hx fl
  · rename_i x ho
    obtain ⟨vx, hx, rfl⟩ := Option.map_eq_some_iff.1 hr
    simp only [ev] at he
    cases he
    exact good_mov h hd (.inr ho) hx fl
  · rename_i c x y ho
    simp only [Option.bind_eq_some_iff, Option.map_eq_some_iff] at hr
    obtain ⟨vc, hc, vx, hx, vy, hy, rfl⟩ := hr
    exact good_pick h hd ho hc hx hy he
  · rename_i e ho
    obtain ⟨z0, hz, hr⟩ := Option.bind_eq_some_iff.1 hr
    split at hr
    · cases hr
    · rename_i hne
      cases hr
      simp only [ev] at he
      cases he
      exact good_alloc h hd ho hz (by simpa using hne) (hid rfl)
  · rename_i e x ho
    obtain ⟨vx, hx, rfl⟩ := Option.map_eq_some_iff.1 hr
    simp only [ev] at he
    split at he
    · cases he
    · rename_i hne
      cases he
      exact good_box h hd ho hx (by simpa using hne) (hid rfl) fl
  · rename_i t ps ho
    obtain ⟨z0, hz, hr⟩ := Option.bind_eq_some_iff.1 hr
    split at hr
    · rename_i fs hu
      split at hr
      · cases hr
      · rename_i hne
        simp only [Option.bind_eq_some_iff, Option.map_eq_some_iff] at hr
        obtain ⟨pl, hpl, l, hl, rfl⟩ := hr
        exact good_build h hd ho hz hu hpl hl (by simpa using hne) he
    · cases hr
  · rename_i t n ps ho
    split at hr
    · rename_i e hu
      simp only [Option.bind_eq_some_iff] at hr
      obtain ⟨sz, hs, z0, hz, hr⟩ := hr
      split at hr
      · cases hr
      · rename_i hc
        obtain ⟨l, hl, rfl⟩ := Option.map_eq_some_iff.1 hr
        have c1 : sz ≠ 0 := fun e => hc (.inl e)
        have c2 : ¬ n * sz > 2 ^ 24 := fun e => hc (.inr (.inl e))
        have c3 : z0.cells.length = sz := Classical.byContradiction fun e => hc (.inr (.inr e))
        exact good_bslice h hd ho hu hs hz c1 c2 c3 hl he
    · cases hr
  · rename_i t x ho
    simp only [Option.bind_eq_some_iff, Option.map_eq_some_iff] at hr
    obtain ⟨g, hg, vx, hx, rfl⟩ := hr
    exact good_load h hd ho hg hx he
  · rename_i t x v ho
    simp only [Option.bind_eq_some_iff] at hr
    obtain ⟨n, hn, hr⟩ := hr
    split at hr
    · cases hr
    · rename_i hn0
      simp only [Option.bind_eq_some_iff, Option.map_eq_some_iff] at hr
      obtain ⟨vx, hx, vv, hv, rfl⟩ := hr
      exact good_store h hd ho hn hx hv hn0 he
  · rename_i x ho
    obtain ⟨vx, hx, rfl⟩ := Option.map_eq_some_iff.1 hr
    exact good_nilck h hd ho hx he
  · rename_i op t x y u ho
    simp only [Option.bind_eq_some_iff] at hr
    obtain ⟨vx, hx, vy, hy, hr⟩ := hr
    unfold resBin at hr
    have eqn : ∀ (k : EK) (d : TypeDesc), P.underlying t = some d → k.fits d → resEqn k op vx vy = some vo → Good P o a w fr pi own s.has (s.after (takes fl vo) o.dst z b) := by
      intro k d hdd hk hq
      unfold resEqn at hq
      split at hq
      · cases hq
        exact good_eqn h hd (neq := false) (by simpa using ho) hdd hk hx hy he
      · cases hq
        exact good_eqn h hd (neq := true) (by simpa using ho) hdd hk hx hy he
      · cases hq
    split at hr
    · rename_i hu
      unfold resEqb at hr
      split at hr
      · cases hr
        exact good_eqb h hd (neq := false) (by simpa using ho) hu hx hy he
      · cases hr
        exact good_eqb h hd (neq := true) (by simpa using ho) hu hx hy he
      · cases hr
    · cases hr; exact good_bin h hd ho hx hy he
    · cases hr; exact good_bin h hd ho hx hy he
    · rename_i fs hu
      split at hr
      · cases hr
      · rename_i hc
        have hc' : P.stoodInHeld t = false ∧ P.eqGuardType P.depth t = false := by simpa using hc
        split at hr
        · obtain ⟨l, hl, rfl⟩ := Option.map_eq_some_iff.1 hr
          exact good_eqv h hd (neq := false) (by simpa using ho) hu hc'.1 hc'.2 hl hx hy he
        · obtain ⟨l, hl, rfl⟩ := Option.map_eq_some_iff.1 hr
          exact good_eqv h hd (neq := true) (by simpa using ho) hu hc'.1 hc'.2 hl hx hy he
        · cases hr
    · rename_i e hu; exact eqn .ptr _ hu ⟨_, rfl⟩ hr
    · rename_i e hu; exact eqn .slice _ hu ⟨_, rfl⟩ hr
    · rename_i e hu; exact eqn .iface _ hu ⟨_, rfl⟩ hr
    · rename_i p q r hu; exact eqn .func _ hu ⟨_, _, _, rfl⟩ hr
    · cases hr
  · rename_i op t x ho
    obtain ⟨vx, hx, rfl⟩ := Option.map_eq_some_iff.1 hr
    exact good_un h hd ho hx he
  · rename_i t d x ho
    obtain ⟨vx, hx, hr⟩ := Option.bind_eq_some_iff.1 hr
    split at hr
    · rename_i k k' ht hdd
      cases hr; exact good_cvi h hd ho ht hdd hx he
    · rename_i ht hdd
      cases hr; exact good_cvid h hd ho ht hdd hx he
    · rename_i e ht hdd
      split at hr
      · rename_i sz hee _
        cases hr; exact good_cvsb h hd ho ht hdd hee hx he
      · cases hr
    · rename_i e ht hdd
      split at hr
      · rename_i hee
        cases hr; exact good_cvbs h hd ho ht hdd hee hx he
      · cases hr
    · cases hr
  · rename_i t x ho
    split at hr
    · cases hr
    · rename_i d hni hdd
      obtain ⟨vx, hx, rfl⟩ := Option.map_eq_some_iff.1 hr
      simp only [ev] at he
      cases he
      exact good_ifc h hd ho hdd (fun ms e => hni ms e) hx
    · cases hr
  · rename_i f first caps ho
    split at hr
    · rename_i hf
      obtain ⟨l, hl, rfl⟩ := Option.map_eq_some_iff.1 hr
      simp only [ev] at he
      cases he
      exact good_fn h hd ho hf hl
    · cases hr
  · rename_i t x y ho
    split at hr
    · rename_i e ht
      split at hr
      · rename_i i z0 hi hz
        split at hr
        · cases hr
        · rename_i hc
          have c1 : i.size ≠ 0 := fun e => hc (.inl e)
          have c2 : z0.cells.length = i.size := Classical.byContradiction fun e => hc (.inr e)
          simp only [Option.bind_eq_some_iff] at hr
          obtain ⟨vx, hx, vy, hy, hr⟩ := hr
          split at hr
          · rename_i p q
            split at hr
            · rename_i e
              subst e
              cases hr
              have ex : x = .tmp p := by
                cases x <;> simp [resX] at hx
                subst hx; rfl
              have ey : y = .tmp p := by
                cases y <;> simp [resX] at hy
                subst hy; rfl
              exact good_mk h hd ho ht hi hz c1 c2 hx (by rw [ex, ey]) he
            · cases hr
          · rename_i p q
            split at hr
            · rename_i e
              subst e
              cases hr
              have hx' := (opnd h hx).choose_spec.1
              have hy' := (opnd h hy).choose_spec.1
              exact good_mk h hd ho ht hi hz c1 c2 hx (by rw [hx'.int_inv, hy'.int_inv]) he
            · cases hr
          · cases hr
      · cases hr
    · cases hr
  · rename_i t x lo hi ho
    simp only [Option.bind_eq_some_iff] at hr
    obtain ⟨vx, hx, vl, hl, vh, hh, hr⟩ := hr
    split at hr
    · rename_i ht
      cases hr; exact good_slstr h hd ho ht hx hl hh he
    · rename_i e ht
      obtain ⟨sz, hs, rfl⟩ := Option.map_eq_some_iff.1 hr
      exact good_slsl h hd ho ht hs hx hl hh he
    · cases hr
  · rename_i t x f ho
    split at hr
    · rename_i fs ht
      simp only [Option.bind_eq_some_iff] at hr
      obtain ⟨fd, hf, sz, hs, hr⟩ := hr
      split at hr
      · cases hr
      · rename_i h0
        obtain ⟨vx, hx, rfl⟩ := Option.map_eq_some_iff.1 hr
        exact good_fld h hd ho ht hf hs h0 hx he
    · cases hr
  · rename_i t x f ho
    split at hr
    · rename_i fs ht
      simp only [Option.bind_eq_some_iff, Option.map_eq_some_iff] at hr
      obtain ⟨fd, hf, g, hg, vx, hx, rfl⟩ := hr
      exact good_fldv h hd ho ht hf hg hx he
    · cases hr
  · rename_i t x i ho
    simp only [Option.bind_eq_some_iff] at hr
    obtain ⟨vx, hx, vi, hi, hr⟩ := hr
    split at hr
    · rename_i e ht
      obtain ⟨sz, hs, rfl⟩ := Option.map_eq_some_iff.1 hr
      exact good_ixa h hd ho ht hs hx hi he
    · rename_i n e ht
      obtain ⟨sz, hs, rfl⟩ := Option.map_eq_some_iff.1 hr
      exact good_ixarr h hd ho ht hs hx hi he
    · cases hr
  · rename_i t x i ho
    simp only [Option.bind_eq_some_iff] at hr
    obtain ⟨vx, hx, vi, hi, hr⟩ := hr
    split at hr
    · rename_i ht
      cases hr; exact good_ixs h hd ho ht hx hi he
    · cases hr
  · rename_i x i ho
    obtain ⟨vx, hx, rfl⟩ := Option.map_eq_some_iff.1 hr
    exact good_ext h hd ho hx he
  · rename_i c ho
    unfold resCall at hr
    split at hr
    · simp only [Option.bind_eq_some_iff, Option.map_eq_some_iff] at hr
      obtain ⟨_, _, _, _, rfl⟩ := hr
      simp [ev] at he
    · rename_i hcal
      split at hr
      · rename_i x t hargs htys
        have hc : c = { callee := .builtin .len, args := #[x], argTypes := #[t] } := by
          obtain ⟨cc, ca, ct⟩ := c
          simp only at hcal hargs htys
          subst hcal
          congr 1
          · apply Array.ext'; simpa using hargs
          · apply Array.ext'; simpa using htys
        rw [hc] at ho
        split at hr
        · rename_i ht
          obtain ⟨vx, hx, rfl⟩ := Option.map_eq_some_iff.1 hr
          exact good_lens h hd ho ht hx he
        · rename_i e ht
          obtain ⟨vx, hx, rfl⟩ := Option.map_eq_some_iff.1 hr
          exact good_lenl h hd ho ht hx he
        · cases hr
      · cases hr
    · rename_i hcal
      split at hr
      · rename_i x y t u hargs htys
        have hc : c = { callee := .builtin .append, args := #[x, y], argTypes := #[t, u] } := by
          obtain ⟨cc, ca, ct⟩ := c
          simp only at hcal hargs htys
          subst hcal
          congr 1
          · apply Array.ext'; simpa using hargs
          · apply Array.ext'; simpa using htys
        rw [hc] at ho
        split at hr
        · rename_i e ht
          split at hr
          · rename_i i z0 hi hz
            split at hr
            · cases hr
            · rename_i hcc
              have c1 : i.size ≠ 0 := fun e => hcc (.inl e)
              have c2 : z0.cells.length = i.size := Classical.byContradiction fun e => hcc (.inr e)
              split at hr
              · rename_i e' hu
                simp only [Option.bind_eq_some_iff, Option.map_eq_some_iff] at hr
                obtain ⟨vx, hx, vy, hy, rfl⟩ := hr
                exact good_app h hd ho ht hi hz c1 c2 hx hy hu he
              · rename_i hu
                split at hr
                · rename_i hs1
                  simp only [Option.bind_eq_some_iff, Option.map_eq_some_iff] at hr
                  obtain ⟨vx, hx, vy, hy, rfl⟩ := hr
                  exact good_apps h hd ho ht hi hz c1 c2 hx hy hu hs1 he
                · cases hr
              · cases hr
          · cases hr
        · cases hr
      · cases hr
    · rename_i hcal
      split at hr
      · rename_i x y hargs
        have hc : c = { callee := .builtin (if true then .max else .min), args := #[x, y], argTypes := c.argTypes } := by
          obtain ⟨cc, ca, ct⟩ := c
          simp only at hcal hargs
          subst hcal
          congr 1
          apply Array.ext'; simpa using hargs
        rw [hc] at ho
        simp only [Option.bind_eq_some_iff, Option.map_eq_some_iff] at hr
        obtain ⟨vx, hx, vy, hy, rfl⟩ := hr
        exact good_mm h hd (mx := true) ho hx hy he
      · cases hr
    · rename_i hcal
      split at hr
      · rename_i x y hargs
        have hc : c = { callee := .builtin (if false then .max else .min), args := #[x, y], argTypes := c.argTypes } := by
          obtain ⟨cc, ca, ct⟩ := c
          simp only at hcal hargs
          subst hcal
          congr 1
          apply Array.ext'; simpa using hargs
        rw [hc] at ho
        simp only [Option.bind_eq_some_iff, Option.map_eq_some_iff] at hr
        obtain ⟨vx, hx, vy, hy, rfl⟩ := hr
        exact good_mm h hd (mx := false) ho hx hy he
      · cases hr
    · cases hr
  · cases hr

end Go.Proofs.Ytjlcnnijpmijhaa.V

/- A small logic of values over the model, part 16: calls by contract; one step of a region, wherever it stands. -/
namespace Go.Proofs.Ytjlcnnijpmijhaa.V

/-- A state out of lists: slots, boxes. -/
def FS.of (t : List AV) (h : List HObj) : FS := ⟨fun i => t.getD i .undef, fun i => h[i]?⟩

def callable (P : Program) (f : Nat) : Bool :=
  match P.funcs[f]? with
  | some fn => !(fn.name == "runtime.NumGoroutine") && fn.body.isSome
  | none => false

/-- Is it there: with a body, or one for which the model stands in? -/
def known (P : Program) (f : Nat) : Bool :=
  match P.funcs[f]? with
  | some fn => !(fn.name == "runtime.NumGoroutine") && (fn.body.isSome || ((Extern.findNext fn).isNone && (Extern.find fn).isSome))
  | none => false

/-- What a call comes to: its body's run, or what stands in for it. -/
def Runs (P : Program) (f : Nat) (vals : Array Value) (w : World) (Q : Ending → World → Prop) : Prop :=
  match callable P f with
  | true => Calls P f vals w Q
  | false => ∃ fn e v w', P.funcs[f]? = some fn ∧ (fn.name == "runtime.NumGoroutine") = false ∧ fn.body.isNone = true ∧ Extern.findNext fn = none ∧ Extern.find fn = some e ∧ (e vals).run P w = .ok v w' ∧ Q (.returned v) w'

theorem Runs.mono {P : Program} {f : Nat} {vals : Array Value} {w : World} {Q Q' : Ending → World → Prop} (h : Runs P f vals w Q) (hq : ∀ e w', Q e w' → Q' e w') : Runs P f vals w Q' := by
  unfold Runs at *
  split at h
  · exact h.mono hq
  · obtain ⟨fn, e, v, w', h1, h2, h3, h4, h5, h6, h7⟩ := h
    exact ⟨fn, e, v, w', h1, h2, h3, h4, h5, h6, hq _ _ h7⟩

theorem Runs.of {P : Program} {f : Nat} {vals : Array Value} {w : World} {Q : Ending → World → Prop} (hc : callable P f = true) (h : Calls P f vals w Q) : Runs P f vals w Q := by
  unfold Runs
  rw [hc]
  exact h

theorem Runs.calls {P : Program} {f : Nat} {vals : Array Value} {w : World} {Q : Ending → World → Prop} (hc : callable P f = true) (h : Runs P f vals w Q) : Calls P f vals w Q := by
  unfold Runs at h
  rw [hc] at h
  exact h

theorem known_of {P : Program} {f : Nat} (h : callable P f = true) : known P f = true := by
  unfold callable at h
  unfold known
  split at h
  · simp only [Bool.and_eq_true] at h ⊢
    exact ⟨h.1, by rw [h.2]; rfl⟩
  · cases h

/-- An operation that calls. -/
theorem exec_call {P : Program} {o : Oper} {a : Act} {w : World} {c : Call} {x : Operand} {g : Nat} (hoc : o.op = .call c) (hcal : c.callee = .value x) (hfv : a.eval x = .func (.func g) #[] #[]) {Q : Ending → World → Prop} (hr : Runs P g (c.args.toList.map a.eval).toArray w Q)
    {K : Act → World → Prop} {Q' : Exit → Act → World → Prop} (hQ : ∀ e w', Q e w' → ∃ v, e = .returned v ∧ K (a.put o.dst v) w') : o.wp P a w K Q' := by
  have harr : c.args.map a.eval = (c.args.toList.map a.eval).toArray := by
    apply Array.ext'
    simp
  cases hcb : callable P g with
  | true =>
    have hr := hr.calls hcb
    unfold callable at hcb
    split at hcb
    · rename_i fn hfn
      simp only [Bool.and_eq_true, Bool.not_eq_true', Option.isSome_iff_exists] at hcb
      obtain ⟨hname, body, hbody⟩ := hcb
      have hrun : (execOp a.eval o).run P w = .ok (.enter g (c.args.toList.map a.eval).toArray) w := by
        simp only [execOp, hoc, Go.resolve, hcal, hfv, Deferred.ofValue, Sem.run_bind, Sem.run_pure, Result.andThen_ok, invoke, callFunc, run_program, hfn, hname, Bool.false_eq_true, ↓reduceIte, hbody, Option.isNone_some, harr]
        simp
      unfold Oper.wp
      rw [hrun, Oper.upon_enter]
      refine hr.mono fun e w' hp => ?_
      obtain ⟨v, rfl, hk⟩ := hQ e w' hp
      exact hk
    · cases hcb
  | false =>
    unfold Runs at hr
    rw [hcb] at hr
    obtain ⟨fn, e, v, w', h1, h2, h3, h4, h5, h6, h7⟩ := hr
    obtain ⟨v', e', hk⟩ := hQ _ _ h7
    cases e'
    have hrun : (execOp a.eval o).run P w = .ok (.value v) w' := by
      have := run_callFunc_extern h1 h2 h3 h4 h5 (c.args.toList.map a.eval).toArray w
      rw [h6] at this
      simp only [execOp, hoc, Go.resolve, hcal, hfv, Deferred.ofValue, Sem.run_bind, Sem.run_pure, Result.andThen_ok, invoke, harr]
      simpa using this
    unfold Oper.wp
    rw [hrun]
    exact hk

/-- A contract: called with these, the function returns that; boxes too. -/
def VCall (P : Program) (f : Nat) (args : List AV) (h : List HObj) (ret : AV) (h' : List HObj) : Prop :=
  known P f = true ∧ h.length ≤ h'.length ∧ ∀ (w : World) (fr pi : Nat → Nat) (own : Res → List Nat) (vals : List Value), vals.length = args.length → Rel w fr pi own (FS.of args h) vals.toArray →
    Runs P f vals.toArray w fun e w' => ∃ v fr' pi' own', e = .returned v ∧ Rel w' fr' pi' own' (FS.of [ret] h') #[v] ∧ Ext w w' fr fr' pi pi' own own' (fun i => i < h.length)

/-- A contract that knows of no box. -/
def PCall (P : Program) (f : Nat) (args : List AV) (ret : AV) : Prop := VCall P f args [] ret []

/-- The callee's own state, cut out of the caller's. -/
def cutOwn (own : Res → List Nat) (args : List VX) (bx : Bool) : Res → List Nat
  | .slot j => match args[j]? with
    | some (.tmp t) => own (.slot t)
    | _ => []
  | .box i => if bx then own (.box i) else []

def argTmps : List VX → List Nat
  | [] => []
  | .tmp t :: r => t :: argTmps r
  | .cst _ :: r => argTmps r

theorem mem_argTmps {args : List VX} {j t : Nat} (h : args[j]? = some (.tmp t)) : t ∈ argTmps args := by
  induction args generalizing j with
  | nil => simp at h
  | cons x r ih =>
    cases j with
    | zero => simp at h; subst h; simp [argTmps]
    | succ j =>
      have := ih (by simpa using h)
      cases x <;> simp [argTmps, this]

theorem argTmps_inj {args : List VX} (hn : (argTmps args).Nodup) {i j t : Nat} (hi : args[i]? = some (.tmp t)) (hj : args[j]? = some (.tmp t)) : i = j := by
  induction args generalizing i j with
  | nil => simp at hi
  | cons x r ih =>
    cases x with
    | tmp u =>
      simp only [argTmps, List.nodup_cons] at hn
      cases i with
      | zero =>
        cases j with
        | zero => rfl
        | succ j =>
          simp at hi
          subst hi
          exact absurd (mem_argTmps (by simpa using hj)) hn.1
      | succ i =>
        cases j with
        | zero =>
          simp at hj
          subst hj
          exact absurd (mem_argTmps (by simpa using hi)) hn.1
        | succ j => exact congrArg (· + 1) (ih (i := i) (j := j) hn.2 (by simpa using hi) (by simpa using hj))
    | cst c =>
      simp only [argTmps] at hn
      cases i with
      | zero => simp at hi
      | succ i =>
        cases j with
        | zero => simp at hj
        | succ j => exact congrArg (· + 1) (ih (i := i) (j := j) hn (by simpa using hi) (by simpa using hj))

theorem resXs_get : ∀ {xs : List Operand} {vs : List VX}, resXs xs = some vs → xs.length = vs.length ∧ ∀ (i : Nat) (x : Operand) (v : VX), xs[i]? = some x → vs[i]? = some v → resX x = some v
  | [], vs, h => by
    simp [resXs] at h
    subst h
    simp
  | x :: xs, vs, h => by
    simp only [resXs, Option.bind_eq_some_iff, Option.map_eq_some_iff] at h
    obtain ⟨v, h1, r, h2, rfl⟩ := h
    obtain ⟨k1, k2⟩ := resXs_get h2
    refine ⟨by simp [k1], fun i y u hy hu => ?_⟩
    cases i with
    | zero => simp at hy hu; subst hy hu; exact h1
    | succ i => exact k2 i y u (by simpa using hy) (by simpa using hu)

/-- The callee's state holds in the caller's world. -/
theorem Rel.cut {w : World} {fr pi : Nat → Nat} {own : Res → List Nat} {s : FS} {a : Act} (h : Rel w fr pi own s a.tmps) {xs : List Operand} {vs : List VX} (hx : resXs xs = some vs) (hnd : (argTmps vs).Nodup) (bx : Bool)
    (hnp : bx = false → ∀ v, v ∈ vs → NP (fun _ => False) (rdX s.sl v)) :
    Rel w fr pi (cutOwn own vs bx) ⟨fun i => (vs.map (rdX s.sl)).getD i .undef, fun i => if bx then s.bx i else none⟩ (xs.map a.eval).toArray := by
  obtain ⟨k1, k2⟩ := resXs_get hx
  have hget : ∀ i : Nat, (∃ (x : Operand) (v : VX), xs[i]? = some x ∧ vs[i]? = some v) ∨ (xs[i]? = none ∧ vs[i]? = none) := by
    intro i
    rcases Nat.lt_or_ge i xs.length with hi | hi
    · exact .inl ⟨_, _, List.getElem?_eq_getElem hi, List.getElem?_eq_getElem (by omega)⟩
    · exact .inr ⟨List.getElem?_eq_none hi, List.getElem?_eq_none (by omega)⟩
  have hsub : ∀ r b, b ∈ cutOwn own vs bx r → ∃ r', b ∈ own r' ∧ (∀ j, r = .slot j → ∃ t, vs[j]? = some (.tmp t) ∧ r' = .slot t) ∧ (∀ j, r = .box j → r' = .box j) := by
    intro r b hb
    cases r with
    | slot j =>
      simp only [cutOwn] at hb
      split at hb
      · rename_i t ht
        exact ⟨_, hb, fun j' e => by cases e; exact ⟨t, ht, rfl⟩, fun j' e => by cases e⟩
      · simp at hb
    | box j =>
      simp only [cutOwn] at hb
      split at hb
      · exact ⟨_, hb, (fun j' e => by cases e), (fun j' e => by cases e; rfl)⟩
      · simp at hb
  refine ⟨fun i => ?_, fun i => ?_, fun i o ho => ?_, fun i o ho => ?_, fun i hi => ?_, fun r => ?_, fun r r' b x1 x2 => ?_, fun r b hb => ?_⟩
  · rcases hget i with ⟨x, v, hxi, hvi⟩ | ⟨hxi, hvi⟩
    · obtain ⟨O, h1, h2, h3, h4⟩ := opnd h (k2 i x v hxi hvi)
      have e1 : (vs.map (rdX s.sl)).getD i .undef = rdX s.sl v := by simp [List.getD, hvi]
      have e2 : (xs.map a.eval).toArray.getD i Go.undef = a.eval x := by simp [Array.getD_eq_getD_getElem?, hxi]
      show Rep w fr pi ((vs.map (rdX s.sl)).getD i .undef) _ _
      rw [e1, e2]
      simp only [cutOwn, hvi]
      cases v with
      | tmp t =>
        have hre : resX x = some (.tmp t) := k2 i x _ hxi hvi
        have hxt : x = .tmp t := by
          cases x <;> simp [resX] at hre
          subst hre; rfl
        subst hxt
        exact h.slot t
      | cst c =>
        have hO : O = [] := by
          cases O with
          | nil => rfl
          | cons b r => obtain ⟨t, e, _⟩ := h4 b (by simp); cases e
        subst hO
        exact h1
    · have e1 : (vs.map (rdX s.sl)).getD i .undef = .undef := by simp [List.getD, hvi]
      show Rep w fr pi ((vs.map (rdX s.sl)).getD i .undef) _ _
      rw [e1]
      simp only [cutOwn, hvi]
      exact .undef _
  · rcases hget i with ⟨x, v, hxi, hvi⟩ | ⟨hxi, hvi⟩
    · obtain ⟨O, h1, h2, h3, h4⟩ := opnd h (k2 i x v hxi hvi)
      have e1 : (vs.map (rdX s.sl)).getD i .undef = rdX s.sl v := by simp [List.getD, hvi]
      show NP _ ((vs.map (rdX s.sl)).getD i .undef)
      rw [e1]
      cases bx with
      | true => exact h2
      | false => exact (hnp rfl v (List.mem_of_getElem? hvi)).mono (fun _ h => h.elim)
    · have e1 : (vs.map (rdX s.sl)).getD i .undef = .undef := by simp [List.getD, hvi]
      show NP _ ((vs.map (rdX s.sl)).getD i .undef)
      rw [e1]
      exact .undef
  · cases bx with
    | true => exact h.box i o ho
    | false => cases ho
  · cases bx with
    | true => exact h.boxnp i o ho
    | false => cases ho
  · cases bx with
    | true => exact h.nobox i hi
    | false => rfl
  · cases r with
    | slot j =>
      simp only [cutOwn]
      split
      · exact h.nd _
      · simp
    | box j =>
      simp only [cutOwn]
      split
      · exact h.nd _
      · simp
  · obtain ⟨q1, m1, m2, m3⟩ := hsub r b x1
    obtain ⟨q2, n1, n2, n3⟩ := hsub r' b x2
    have hq := h.dj q1 q2 b m1 n1
    subst hq
    cases r with
    | slot j =>
      obtain ⟨t, ht, e⟩ := m2 j rfl
      cases r' with
      | slot j' =>
        obtain ⟨t', ht', e'⟩ := n2 j' rfl
        rw [e] at e'
        cases e'
        rw [argTmps_inj hnd ht ht']
      | box j' =>
        have := n3 j' rfl
        rw [e] at this
        cases this
    | box j =>
      have e := m3 j rfl
      cases r' with
      | slot j' =>
        obtain ⟨t', ht', e'⟩ := n2 j' rfl
        rw [e] at e'
        cases e'
      | box j' =>
        have := n3 j' rfl
        rw [e] at this
        cases this
        rfl
  · obtain ⟨q, m, _⟩ := hsub r b hb
    exact h.live q b m

/-- What the callee comes to, laid into the caller's state. -/
theorem Rel.paste {_P : Program} {w w' : World} {fr fr' pi pi' : Nat → Nat} {own own' : Res → List Nat} {s : FS} {a : Act} (h : Rel w fr pi own s a.tmps) {d : Option Nat} (hd : ∀ t, d = some t → t < a.tmps.size) {vs : List VX} (bx : Bool)
    {ret : AV} {v : Value} {bx' : Nat → Option HObj} (hr : Rel w' fr' pi' own' ⟨fun i => [ret].getD i .undef, bx'⟩ #[v]) (he : Ext w w' fr fr' pi pi' (cutOwn own vs bx) own' (fun i => bx = true ∧ s.has i))
    (hbx : bx = false → bx' = fun _ => none) (hhas : bx = true → ∀ i, s.has i → ∃ o, bx' i = some o) :
    ∃ own2, Rel w' fr' (if bx then pi' else pi) own2 (({ s.strip (argTmps vs) with bx := if bx then bx' else s.bx } : FS).putO d ret) (a.put d v).tmps ∧ Ext w w' fr fr' pi (if bx then pi' else pi) own own2 s.has := by
  have hstrip := h.strip (argTmps vs)
  -- what the callee owned is of the caller's arguments and boxes
  have hcut : ∀ r b, b ∈ cutOwn own vs bx r → (∃ t, t ∈ argTmps vs ∧ b ∈ own (.slot t)) ∨ (bx = true ∧ ∃ i, b ∈ own (.box i)) := by
    intro r b hb
    cases r with
    | slot j =>
      simp only [cutOwn] at hb
      split at hb
      · rename_i t ht
        exact .inl ⟨t, mem_argTmps ht, hb⟩
      · simp at hb
    | box j =>
      simp only [cutOwn] at hb
      split at hb
      · rename_i hbx
        exact .inr ⟨hbx, j, hb⟩
      · simp at hb
  have hnot : ∀ i b, b ∈ ownStrip own (argTmps vs) (.slot i) → ¬ ∃ r, b ∈ cutOwn own vs bx r := by
    rintro i b hb ⟨r, hr⟩
    rcases hcut r b hr with ⟨t, ht, hb'⟩ | ⟨_, j, hb'⟩
    · have := h.dj _ _ b (ownStrip_sub hb) hb'
      cases this
      simp [ownStrip, ht] at hb
    · have := h.dj _ _ b (ownStrip_sub hb) hb'
      cases this
  have hnotb : bx = false → ∀ i b, b ∈ own (.box i) → ¬ ∃ r, b ∈ cutOwn own vs bx r := by
    rintro hbx i b hb ⟨r, hr⟩
    rcases hcut r b hr with ⟨t, ht, hb'⟩ | ⟨hb1, _⟩
    · have := h.dj _ _ b hb hb'
      cases this
    · rw [hbx] at hb1; cases hb1
  have hpi : ∀ i, s.has i → (if bx then pi' else pi) i = pi i := by
    intro i hi
    cases bx with
    | true => exact he.pi i ⟨rfl, hi⟩
    | false => rfl
  -- the state but for the result
  let own1 : Res → List Nat := fun r => match r with
    | .slot i => ownStrip own (argTmps vs) (.slot i)
    | .box i => if bx then own' (.box i) else own (.box i)
  let s1 : FS := { s.strip (argTmps vs) with bx := if bx then bx' else s.bx }
  have hh : ∀ i, s.has i → s1.has i := by
    intro i hi
    cases hb : bx with
    | true => obtain ⟨o, ho⟩ := hhas hb i hi; exact ⟨o, by simp [s1, hb, ho]⟩
    | false => obtain ⟨o, ho⟩ := hi; exact ⟨o, by simp [s1, hb, ho]⟩
  have hfresh : ∀ r b, b ∈ own' r → (∃ t, t ∈ argTmps vs ∧ b ∈ own (.slot t)) ∨ (bx = true ∧ ∃ i, b ∈ own (.box i)) ∨ w.heap.size ≤ b := by
    intro r b hb
    rcases he.fresh r b hb with ⟨r', hr'⟩ | h'
    · rcases hcut r' b hr' with h1 | h1
      · exact .inl h1
      · exact .inr (.inl h1)
    · exact .inr (.inr h')
  have hdj1 : ∀ i b, b ∈ ownStrip own (argTmps vs) (.slot i) → ∀ r, b ∉ own' r := by
    intro i b hb r hr'
    rcases hfresh r b hr' with ⟨t, ht, hb'⟩ | ⟨_, j, hb'⟩ | hlt
    · exact hnot i b hb (by
        have := h.dj _ _ b (ownStrip_sub hb) hb'
        cases this
        simp [ownStrip, ht] at hb)
    · have := h.dj _ _ b (ownStrip_sub hb) hb'
      cases this
    · have := h.live _ b (ownStrip_sub hb)
      omega
  have hdj2 : bx = false → ∀ i b, b ∈ own (.box i) → ∀ r, b ∉ own' r := by
    intro hb0 i b hb r hr'
    rcases hfresh r b hr' with ⟨t, ht, hb'⟩ | ⟨hb1, _⟩ | hlt
    · have := h.dj _ _ b hb hb'
      cases this
    · rw [hb0] at hb1; cases hb1
    · have := h.live _ b hb
      omega
  have hRel1 : Rel w' fr' (if bx then pi' else pi) own1 s1 a.tmps := by
    refine ⟨fun i => ?_, fun i => (hstrip.slotnp i).mono hh, fun i o ho => ?_, fun i o ho => ?_, fun i hi => ?_, fun r => ?_, fun r r' b x1 x2 => ?_, fun r b hb => ?_⟩
    · exact (hstrip.slot i).mono he.step hpi (hstrip.slotnp i) (hnot i)
    · cases hb : bx with
      | true =>
        simp only [s1, hb, ↓reduceIte] at ho
        simpa [own1, hb] using hr.box i o ho
      | false =>
        simp only [s1, hb, Bool.false_eq_true, ↓reduceIte] at ho
        obtain ⟨O, h1, h2⟩ := h.box i o ho
        refine ⟨O, ?_, by simpa [own1, hb] using h2⟩
        simp only [Bool.false_eq_true, ↓reduceIte]
        exact h1.mono he.step (fun _ _ => rfl) (h.boxnp i o ho) (h.live (.box i) _ (by simp [h2])) (hnotb hb i _ (by simp [h2])) (fun x hx => hnotb hb i x (by simp [h2, hx]))
    · cases hb : bx with
      | true =>
        simp only [s1, hb, ↓reduceIte] at ho
        have := hr.boxnp i o ho
        exact this.mono (fun j ⟨o', hj⟩ => ⟨o', by simpa [s1, hb] using hj⟩)
      | false =>
        simp only [s1, hb, Bool.false_eq_true, ↓reduceIte] at ho
        exact (h.boxnp i o ho).mono hh
    · cases hb : bx with
      | true =>
        simp only [s1, hb, ↓reduceIte] at hi
        simpa [own1, hb] using hr.nobox i hi
      | false =>
        simp only [s1, hb, Bool.false_eq_true, ↓reduceIte] at hi
        simpa [own1, hb] using h.nobox i hi
    · cases r with
      | slot i => exact hstrip.nd (.slot i)
      | box i =>
        simp only [own1]
        split
        · exact hr.nd _
        · exact h.nd _
    · cases r with
      | slot i =>
        cases r' with
        | slot j => exact hstrip.dj (.slot i) (.slot j) b x1 x2
        | box j =>
          exfalso
          simp only [own1] at x1 x2
          split at x2
          · exact hdj1 i b x1 _ x2
          · have := h.dj _ _ b (ownStrip_sub x1) x2
            cases this
      | box i =>
        cases r' with
        | slot j =>
          exfalso
          simp only [own1] at x1 x2
          split at x1
          · exact hdj1 j b x2 _ x1
          · have := h.dj _ _ b (ownStrip_sub x2) x1
            cases this
        | box j =>
          simp only [own1] at x1 x2
          split at x1
          · rename_i hb
            rw [if_pos hb] at x2
            exact hr.dj _ _ b x1 x2
          · rename_i hb
            rw [if_neg hb] at x2
            exact h.dj _ _ b x1 x2
    · have hsz := he.step.size
      cases r with
      | slot i =>
        have := h.live _ b (ownStrip_sub hb)
        omega
      | box i =>
        simp only [own1] at hb
        split at hb
        · exact hr.live _ b hb
        · have := h.live _ b hb
          omega
  have hret : Rep w' fr' (if bx then pi' else pi) ret v (own' (.slot 0)) ∧ NP s1.has ret := by
    have h0 := hr.slot 0
    have h1 := hr.slotnp 0
    simp at h0 h1
    cases hb : bx with
    | true =>
      refine ⟨by simpa using h0, h1.mono (fun j ⟨o', hj⟩ => ⟨o', by simpa [s1, hb] using hj⟩)⟩
    | false =>
      have hno : ∀ i, ¬ FS.has ⟨fun i => ([ret] : List AV).getD i .undef, bx'⟩ i := by
        rintro i ⟨o, ho⟩
        simp [hbx hb] at ho
      refine ⟨?_, h1.mono (fun j hj => absurd hj (hno j))⟩
      simp only [Bool.false_eq_true, ↓reduceIte]
      exact h0.mono (ok := FS.has ⟨fun i => ([ret] : List AV).getD i .undef, bx'⟩) (Step.refl w' fr' (fun _ => False)) (fun j hj => absurd hj (hno j)) h1 (by simp)
  obtain ⟨own2, g1, g2⟩ := hRel1.putO (a := a) (d := d) hd hret.1 hret.2 (hr.nd _) (hr.live _) (by
    intro b hb r hr'
    cases r with
    | slot i => exact hdj1 i b hr' _ hb
    | box i =>
      simp only [own1] at hr'
      split at hr'
      · have := hr.dj _ _ b hb hr'
        cases this
      · rename_i hb0
        exact hdj2 (by simpa using hb0) i b hr' _ hb)
  refine ⟨own2, g1, ⟨he.step.mono (fun b hb ⟨r, hr'⟩ => ?_), fun r b hb => ?_, hpi⟩⟩
  · rcases hcut r b hr' with ⟨t, _, h1⟩ | ⟨_, i, h1⟩
    · exact ⟨_, h1⟩
    · exact ⟨_, h1⟩
  · have key : ∀ b, (∃ r, b ∈ own' r) → (∃ r', b ∈ own r') ∨ w.heap.size ≤ b := by
      rintro b ⟨r, hb⟩
      rcases hfresh r b hb with ⟨t, _, h1⟩ | ⟨_, i, h1⟩ | h1
      · exact .inl ⟨_, h1⟩
      · exact .inl ⟨_, h1⟩
      · exact .inr h1
    rcases g2 r b hb with ⟨r', h3⟩ | h3
    · cases r' with
      | slot i => exact .inl ⟨_, ownStrip_sub h3⟩
      | box i =>
        simp only [own1] at h3
        split at h3
        · exact key b ⟨_, h3⟩
        · exact .inl ⟨_, h3⟩
    · exact key b ⟨_, h3⟩

end Go.Proofs.Ytjlcnnijpmijhaa.V

/- A small logic of values over the model, part 17: an operation where it stands in its region; a region in the text's order. -/
namespace Go.Proofs.Ytjlcnnijpmijhaa.V

/-- An operation in its region: the slot that it writes, what it does, or whom it calls; the slot that must hold a Bool, if it is to be done; those that it waits for. -/
structure VOper where
  dst : Option Nat
  op : VOp
  call : Option (VX × List VX)
  guard : Option (Nat × Bool)
  deps : List Nat
  deriving Inhabited

/-- What an operation has done: slots that gave up what they owned, the value, a box. -/
structure SD where
  T : List Nat
  x : AV
  b : Option (Nat × HObj)

def SD.app (d : SD) (dst : Option Nat) (s : FS) : FS := s.after d.T dst d.x d.b

def resGuard (ops : Array Oper) : Option (Nat × Bool) → Option (Option (Nat × Bool))
  | none => some none
  | some (j, want) => ((ops[j]?).bind (·.dst)).map fun d => some (d, want)

def resCallV (o : Op) : Option (VX × List VX) :=
  match o with
  | .call c => match c.callee with
    | .value f => (resX f).bind fun g => (resXs c.args.toList).map fun l => (g, l)
    | _ => none
  | _ => none

def depsOf (o : Oper) : List Nat := (o.after.toList.filter fun e => Region.binds .any e).map (·.on)

def resOper (P : Program) (dr : Bool) (ops : Array Oper) (o : Oper) : Option VOper :=
  (resGuard ops o.guard).bind fun g =>
  match resCallV o.op with
  | some c => some { dst := o.dst, op := .mov (.cst .undef), call := some c, guard := g, deps := if dr then depsOf o else [] }
  | none => some { dst := o.dst, op := (resolve P o.op).getD .bad, call := none, guard := g, deps := if dr then depsOf o else [] }

def VOper.on (o : VOper) (s : Nat → AV) : Prop :=
  match o.guard with
  | none => True
  | some (g, want) => s g = .bool want

def VOper.fl (L : Nat → Bool) (o : VOper) : Bool :=
  match o.dst with
  | some d => L d
  | none => false

/-- Of a guard: not what is wanted. (An operation that was not done yields nothing.) -/
def offV (want : Bool) : AV → Bool
  | .bool b => b != want
  | .tup [] => true
  | _ => false

inductive VStep (P : Program) (L : Nat → Bool) (o : VOper) (s : FS) (id : Nat) : SD → Prop
  | off (g : Nat) (want : Bool) : o.guard = some (g, want) → offV want (s.sl g) = true → VStep P L o s id ⟨[], .tup [], none⟩
  | ev (x : AV) (b : Option (Nat × HObj)) : o.call = none → o.on s.sl → ev (o.fl L) s.sl s.bx id o.op = some (x, b) → VStep P L o s id ⟨takes (o.fl L) o.op, x, b⟩
  | pcall (f : VX) (args : List VX) (g : Nat) (ret : AV) : o.call = some (f, args) → o.on s.sl → rdX s.sl f = .func g [] → (argTmps args).Nodup → (∀ v, v ∈ args → NP (fun _ => False) (rdX s.sl v)) →
      PCall P g (args.map (rdX s.sl)) ret → VStep P L o s id ⟨argTmps args, ret, none⟩
  | bcall (f : VX) (args : List VX) (g : Nat) (ret : AV) (i off : Nat) (rest : List AV) (ob ob' : HObj) : o.call = some (f, args) → o.on s.sl → rdX s.sl f = .func g [] → (argTmps args).Nodup → args.map (rdX s.sl) = .ptr (some (i, off)) :: rest → s.bx i = some ob →
      (∀ a, a ∈ rest → NP (fun _ => False) a) → NPo (fun _ => False) ob → NPo (fun _ => False) ob' → NP (fun _ => False) ret → VCall P g (.ptr (some (0, off)) :: rest) [ob] ret [ob'] → VStep P L o s id ⟨argTmps args, ret, some (i, ob')⟩

theorem resOper_inv {P : Program} {dr : Bool} {ops : Array Oper} {o : Oper} {vo : VOper} (h : resOper P dr ops o = some vo) : vo.dst = o.dst ∧ resGuard ops o.guard = some vo.guard ∧ (dr = true → vo.deps = depsOf o) ∧
    ((vo.call = none ∧ (resolve P o.op = some vo.op ∨ vo.op = .bad)) ∨ ∃ c x f args, vo.call = some (f, args) ∧ o.op = .call c ∧ c.callee = .value x ∧ resX x = some f ∧ resXs c.args.toList = some args) := by
  unfold resOper at h
  obtain ⟨g, hg, h⟩ := Option.bind_eq_some_iff.1 h
  split at h
  · rename_i c hc
    cases h
    refine ⟨rfl, hg, fun e => by rw [e]; rfl, .inr ?_⟩
    unfold resCallV at hc
    split at hc
    · rename_i c' ho
      split at hc
      · rename_i x hx
        simp only [Option.bind_eq_some_iff, Option.map_eq_some_iff] at hc
        obtain ⟨f, hf, l, hl, rfl⟩ := hc
        exact ⟨c', x, f, l, rfl, ho, hx, hf, hl⟩
      · cases hc
    · cases hc
  · cases h
    refine ⟨rfl, hg, fun e => by rw [e]; rfl, .inl ⟨rfl, ?_⟩⟩
    cases hv : resolve P o.op with
    | some v => exact .inl rfl
    | none => exact .inr rfl

theorem Good.wp {P : Program} {o : Oper} {a : Act} {w : World} {fr pi : Nat → Nat} {own : Res → List Nat} {ok : Nat → Prop} {s' : FS} (h : Good P o a w fr pi own ok s') {K : Act → World → Prop} {Q : Exit → Act → World → Prop}
    (hK : ∀ a' w' fr' pi' own', a'.defers = a.defers → a'.tmps.size = a.tmps.size → Rel w' fr' pi' own' s' a'.tmps → Ext w w' fr fr' pi pi' own own' ok → K a' w') : o.wp P a w K Q := by
  obtain ⟨nx, v, w', fr', pi', own', hrun, hnx, hr, he⟩ := h
  have hk : K (a.put o.dst v) w' := hK _ _ _ _ _ (by cases o.dst <;> rfl) (by cases o.dst <;> simp [Act.put]) hr he
  unfold Oper.wp
  rw [hrun]
  rcases hnx with rfl | ⟨rfl, rfl⟩
  · exact hk
  · exact hk

theorem yielded_of {ops : Array Oper} {tm : Array Value} {j d : Nat} {b : Bool} (hd : (ops[j]?).bind (·.dst) = some d) (hv : tm.getD d Go.undef = .bool b) : yielded ops tm j = some b := by
  unfold yielded
  rw [hd]
  simp only [Option.bind_some]
  rw [Array.getD_eq_getD_getElem?] at hv
  cases hh : tm[d]? with
  | none => rw [hh] at hv; simp [Go.undef] at hv
  | some v => rw [hh] at hv; simp at hv; rw [hv]

theorem Rep.piF {w : World} {fr pi pi' : Nat → Nat} {a : AV} {v : Value} {O : List Nat} (h : Rep w fr pi a v O) (hn : NP (fun _ => False) a) : Rep w fr pi' a v O :=
  h.mono (Step.refl w fr (fun _ => False)) (fun _ hi => hi.elim) hn (fun _ _ h => h)
theorem ORep.piF {w : World} {fr pi pi' : Nat → Nat} {o : HObj} {b : Nat} {O : List Nat} (h : ORep w fr pi o b O) (hn : NPo (fun _ => False) o) (hb : b < w.heap.size) : ORep w fr pi' o b O :=
  h.mono (Step.refl w fr (fun _ => False)) (fun _ hi => hi.elim) hn hb (fun h => h) (fun _ _ h => h)

/-- Of all boxes one alone. -/
theorem Rel.one {w : World} {fr pi : Nat → Nat} {own : Res → List Nat} {rest : List AV} {i off : Nat} {bx : Nat → Option HObj} {tm : Array Value} (h : Rel w fr pi own ⟨fun j => (AV.ptr (some (i, off)) :: rest).getD j .undef, bx⟩ tm) {ob : HObj} (hb : bx i = some ob) (hn : ∀ a, a ∈ rest → NP (fun _ => False) a)
    (ho : NPo (fun _ => False) ob) : ∃ own1, Rel w fr (fun _ => pi i) own1 (FS.of (.ptr (some (0, off)) :: rest) [ob]) tm ∧ (∀ r b, b ∈ own1 r → ∃ r', b ∈ own r') ∧ own1 (.box 0) = own (.box i) ∧ (∀ j, own1 (.slot j) = own (.slot j)) := by
  let own1 : Res → List Nat := fun r => match r with
    | .slot j => own (.slot j)
    | .box 0 => own (.box i)
    | .box _ => []
  have hbl : ∀ b, b ∈ own (.box i) → b < w.heap.size := h.live (.box i)
  refine ⟨own1, ⟨fun j => ?_, fun j => ?_, fun j o hj => ?_, fun j o hj => ?_, fun j hj => ?_, fun r => ?_, fun r r' b x1 x2 => ?_, fun r b hb => ?_⟩, fun r b hb => ?_, rfl, fun j => rfl⟩
  · cases j with
    | zero =>
      have h0 := h.slot 0
      have e : (⟨fun j => (AV.ptr (some (i, off)) :: rest).getD j .undef, bx⟩ : FS).sl 0 = .ptr (some (i, off)) := rfl
      rw [e] at h0
      show Rep w fr _ (.ptr (some (0, off))) _ (own (.slot 0))
      generalize tm.getD 0 Go.undef = v at h0
      generalize own (.slot 0) = O at h0
      cases h0
      exact .ptr 0 off
    | succ j =>
      have h0 := h.slot (j + 1)
      refine Rep.piF h0 ?_
      show NP _ (rest.getD j .undef)
      rcases Nat.lt_or_ge j rest.length with hj | hj
      · rw [List.getD_eq_getElem?_getD, List.getElem?_eq_getElem hj]; exact hn _ (List.getElem_mem hj)
      · rw [List.getD_eq_getElem?_getD, List.getElem?_eq_none hj]; exact .undef
  · cases j with
    | zero => exact .ptr 0 off ⟨ob, rfl⟩
    | succ j =>
      show NP _ (rest.getD j .undef)
      rcases Nat.lt_or_ge j rest.length with hj | hj
      · rw [List.getD_eq_getElem?_getD, List.getElem?_eq_getElem hj]; exact (hn _ (List.getElem_mem hj)).mono (fun _ h => h.elim)
      · rw [List.getD_eq_getElem?_getD, List.getElem?_eq_none hj]; exact .undef
  · cases j with
    | succ j => simp [FS.of] at hj
    | zero =>
      have e : o = ob := by simpa [FS.of] using hj.symm
      subst e
      obtain ⟨O, h1, h2⟩ := h.box i o hb
      exact ⟨O, h1.piF ho (hbl _ (by rw [h2]; simp)), h2⟩
  · cases j with
    | succ j => simp [FS.of] at hj
    | zero =>
      have e : o = ob := by simpa [FS.of] using hj.symm
      subst e
      exact ho.mono (fun _ h => h.elim)
  · cases j with
    | zero => simp [FS.of] at hj
    | succ j => rfl
  · cases r with
    | slot j => exact h.nd _
    | box j => cases j with
      | zero => exact h.nd _
      | succ j => exact List.nodup_nil
  · cases r with
    | slot j => cases r' with
      | slot j' => exact h.dj _ _ b x1 x2
      | box j' => cases j' with
        | zero => have := h.dj _ _ b x1 x2; cases this
        | succ j' => simp [own1] at x2
    | box j => cases j with
      | succ j => simp [own1] at x1
      | zero => cases r' with
        | slot j' => have := h.dj _ _ b x1 x2; cases this
        | box j' => cases j' with
          | zero => rfl
          | succ j' => simp [own1] at x2
  · cases r with
    | slot j => exact h.live _ b hb
    | box j => cases j with
      | zero => exact h.live _ b hb
      | succ j => simp [own1] at hb
  · cases r with
    | slot j => exact ⟨_, hb⟩
    | box j => cases j with
      | zero => exact ⟨_, hb⟩
      | succ j => simp [own1] at hb

/-- The one is laid back among the others. -/
theorem Rel.oneBack {w w' : World} {fr fr' pi pi' : Nat → Nat} {own own1 own' : Res → List Nat} {sl : Nat → AV} {bx : Nat → Option HObj} {tm : Array Value} (h : Rel w fr pi own ⟨sl, bx⟩ tm) {i : Nat} {ob ob' : HObj} (hb : bx i = some ob) (ho' : NPo (fun _ => False) ob')
    (hsub : ∀ r b, b ∈ own1 r → ∃ r', b ∈ own r') (h1b : own1 (.box 0) = own (.box i)) (h1s : ∀ j, own1 (.slot j) = own (.slot j)) (h1n : ∀ j, own1 (.box (j + 1)) = []) {ret : AV} {v : Value} (hr : Rel w' fr' pi' own' (FS.of [ret] [ob']) #[v]) (hret : NP (fun _ => False) ret) (he : Ext w w' fr fr' (fun _ => pi i) pi' own1 own' (fun j => j < 1)) :
    ∃ ownB, Rel w' fr' pi ownB ⟨fun j => [ret].getD j .undef, upd bx i (some ob')⟩ #[v] ∧ Ext w w' fr fr' pi pi own ownB (fun j => ∃ o, bx j = some o) := by
  have hpi : pi' 0 = pi i := he.pi 0 (by decide)
  let ownB : Res → List Nat := fun r => match r with
    | .slot j => own' (.slot j)
    | .box j => if j = i then own' (.box 0) else own (.box j)
  -- what another box owns the call has not touched
  have hne : ∀ j, j ≠ i → ∀ b, b ∈ own (.box j) → ¬ ∃ r, b ∈ own1 r := by
    rintro j hj b hb ⟨r, hr⟩
    cases r with
    | slot k => rw [h1s] at hr; have := h.dj _ _ b hb hr; cases this
    | box k => cases k with
      | zero => rw [h1b] at hr; have := h.dj _ _ b hb hr; cases this; exact hj rfl
      | succ k => rw [h1n] at hr; simp at hr
  have hdj : ∀ j, j ≠ i → ∀ b, b ∈ own (.box j) → ∀ r, b ∉ own' r := by
    intro j hj b hb r hr'
    rcases he.fresh r b hr' with h2 | h2
    · exact hne j hj b hb h2
    · have := h.live _ b hb
      omega
  have hsz := he.step.size
  refine ⟨ownB, ⟨fun j => ?_, fun j => ?_, fun j o hj => ?_, fun j o hj => ?_, fun j hj => ?_, fun r => ?_, fun r r' b x1 x2 => ?_, fun r b hb => ?_⟩, ⟨he.step.mono fun b _ ⟨r, hr⟩ => hsub r b hr, fun r b hb => ?_, fun _ _ => rfl⟩⟩
  · cases j with
    | zero => exact Rep.piF (hr.slot 0) hret
    | succ j =>
      have e : (FS.of [ret] [ob']).sl (j + 1) = .undef := by simp [FS.of, List.getD_eq_getElem?_getD]
      have h0 := hr.slot (j + 1)
      rw [e] at h0
      have e2 : (⟨fun j => [ret].getD j .undef, upd bx i (some ob')⟩ : FS).sl (j + 1) = .undef := by simp [List.getD_eq_getElem?_getD]
      rw [e2]
      exact Rep.piF h0 .undef
  · cases j with
    | zero => exact hret.mono (fun _ h => h.elim)
    | succ j =>
      have e2 : (⟨fun j => [ret].getD j .undef, upd bx i (some ob')⟩ : FS).sl (j + 1) = .undef := by simp [List.getD_eq_getElem?_getD]
      rw [e2]
      exact .undef
  · by_cases hji : j = i
    · subst hji
      have e : o = ob' := by
        have : upd bx j (some ob') j = some o := hj
        rw [upd_same] at this
        exact (Option.some.inj this).symm
      subst e
      obtain ⟨O, k1, k2⟩ := hr.box 0 o rfl
      refine ⟨O, ?_, ?_⟩
      · rw [← hpi]
        exact k1.piF ho' (hr.live (.box 0) _ (by rw [k2]; simp))
      · simp only [ownB, ↓reduceIte]
        rw [k2, hpi]
    · have hj' : bx j = some o := by
        have : upd bx i (some ob') j = some o := hj
        rwa [upd_ne _ _ hji] at this
      obtain ⟨O, k1, k2⟩ := h.box j o hj'
      refine ⟨O, ?_, by simp only [ownB]; rw [if_neg hji]; exact k2⟩
      exact k1.mono he.step (ok := fun _ => True) (fun _ _ => rfl) ((h.boxnp j o hj').mono fun _ _ => trivial) (h.live (.box j) _ (by simp [k2])) (hne j hji _ (by simp [k2])) (fun x hx => hne j hji x (by simp [k2, hx]))
  · have hhas : ∀ k, (⟨sl, bx⟩ : FS).has k → (⟨fun j => [ret].getD j .undef, upd bx i (some ob')⟩ : FS).has k := by
      rintro k ⟨q, hq⟩
      by_cases hk : k = i
      · subst hk; exact ⟨ob', upd_same _ _ _⟩
      · exact ⟨q, by show upd bx i (some ob') k = _; rw [upd_ne _ _ hk]; exact hq⟩
    by_cases hji : j = i
    · subst hji
      have e : o = ob' := by
        have : upd bx j (some ob') j = some o := hj
        rw [upd_same] at this
        exact (Option.some.inj this).symm
      subst e
      exact ho'.mono (fun _ h => h.elim)
    · have hj' : bx j = some o := by
        have : upd bx i (some ob') j = some o := hj
        rwa [upd_ne _ _ hji] at this
      exact (h.boxnp j o hj').mono hhas
  · have hji : j ≠ i := by
      intro e
      subst e
      have : upd bx j (some ob') j = none := hj
      rw [upd_same] at this
      cases this
    have hj' : bx j = none := by
      have : upd bx i (some ob') j = none := hj
      rwa [upd_ne _ _ hji] at this
    simp only [ownB]
    rw [if_neg hji]
    exact h.nobox j hj'
  · cases r with
    | slot j => exact hr.nd _
    | box j =>
      simp only [ownB]
      split
      · exact hr.nd _
      · exact h.nd _
  · cases r with
    | slot j => cases r' with
      | slot j' => exact hr.dj _ _ b x1 x2
      | box j' =>
        exfalso
        simp only [ownB] at x1 x2
        split at x2
        · have := hr.dj _ _ b x1 x2; cases this
        · exact hdj j' ‹_› b x2 _ x1
    | box j => cases r' with
      | slot j' =>
        exfalso
        simp only [ownB] at x1 x2
        split at x1
        · have := hr.dj _ _ b x1 x2; cases this
        · exact hdj j ‹_› b x1 _ x2
      | box j' =>
        simp only [ownB] at x1 x2
        split at x1
        · split at x2
          · rename_i e1 e2
            rw [e1, e2]
          · exact absurd x1 (hdj j' ‹_› b x2 _)
        · split at x2
          · exact absurd x2 (hdj j ‹_› b x1 _)
          · exact h.dj _ _ b x1 x2
  · cases r with
    | slot j => exact hr.live _ b hb
    | box j =>
      simp only [ownB] at hb
      split at hb
      · exact hr.live _ b hb
      · have := h.live _ b hb
        omega
  · have key : ∀ r, b ∈ own' r → (∃ r', b ∈ own r') ∨ w.heap.size ≤ b := by
      intro r hb
      rcases he.fresh r b hb with ⟨r', h2⟩ | h2
      · exact .inl (hsub r' b h2)
      · exact .inr h2
    cases r with
    | slot j => exact key _ hb
    | box j =>
      simp only [ownB] at hb
      split at hb
      · exact key _ hb
      · exact .inl ⟨_, hb⟩

/-- An operation, done where the state holds. -/
theorem step_exec {P : Program} {dr : Bool} {L : Nat → Bool} {ops : Array Oper} {i : Nat} {o : Oper} {vo : VOper} (ho : ops[i]? = some o) (hres : resOper P dr ops o = some vo) {a : Act} {w : World} {fr pi : Nat → Nat} {own : Res → List Nat} {s : FS}
    (h : Rel w fr pi own s a.tmps) (hd : ∀ t, o.dst = some t → t < a.tmps.size) {id : Nat} (hid : vo.op.isAlloc = true → s.bx id = none) {d : SD} (st : VStep P L vo s id d) {K : Act → World → Prop} {Q : Exit → Act → World → Prop}
    (hK : ∀ a' w' fr' pi' own', a'.defers = a.defers → a'.tmps.size = a.tmps.size → Rel w' fr' pi' own' (d.app vo.dst s) a'.tmps → Ext w w' fr fr' pi pi' own own' s.has → K a' w') : wpOp P ops Q i K a w := by
  obtain ⟨hdst, hg, _, hop⟩ := resOper_inv hres
  have hon : vo.on s.sl → Region.wanted o (yielded ops a.tmps) = true := by
    intro hon
    unfold Region.wanted
    cases hgd : o.guard with
    | none => rfl
    | some p =>
      obtain ⟨j, want⟩ := p
      rw [hgd] at hg
      simp only [resGuard, Option.map_eq_some_iff] at hg
      obtain ⟨dg, h1, h2⟩ := hg
      unfold VOper.on at hon
      rw [← h2] at hon
      simp only at hon
      have hr := h.slot dg
      rw [hon] at hr
      simp [yielded_of h1 hr.bool_inv]
  have hoff : ∀ g want, vo.guard = some (g, want) → offV want (s.sl g) = true → Region.wanted o (yielded ops a.tmps) = false := by
    intro g want h1 h2
    unfold Region.wanted
    cases hgd : o.guard with
    | none => rw [hgd] at hg; simp [resGuard] at hg; rw [← hg] at h1; cases h1
    | some p =>
      obtain ⟨j, want'⟩ := p
      rw [hgd] at hg
      simp only [resGuard, Option.map_eq_some_iff] at hg
      obtain ⟨dg, k1, k2⟩ := hg
      rw [← k2] at h1
      cases h1
      have hr := h.slot g
      unfold offV at h2
      split at h2
      · rename_i b hb
        rw [hb] at hr
        have h3 : b ≠ want := by simpa using h2
        simp [yielded_of k1 hr.bool_inv, h3]
      · rename_i hb
        rw [hb] at hr
        have hv : a.tmps.getD g Go.undef = .tuple #[] := by
          generalize a.tmps.getD g Go.undef = v at hr
          generalize own (Res.slot g) = O at hr
          cases hr with
          | tup _ vs _ h1 =>
            cases h1
            rfl
        have : yielded ops a.tmps j = none := by
          unfold yielded
          rw [k1]
          simp only [Option.bind_some]
          rw [Array.getD_eq_getD_getElem?] at hv
          cases hh : a.tmps[g]? with
          | none => rfl
          | some v => rw [hh] at hv; simp at hv; rw [hv]
        simp [this]
      · cases h2
  unfold wpOp
  rw [ho]
  simp only
  cases st with
  | off g want h1 h2 =>
    rw [hoff g want h1 h2]
    simp only [Bool.false_eq_true, ↓reduceIte]
    obtain ⟨own', q1, q2⟩ := h.putO (a := a) (d := o.dst) hd (show Rep w fr pi (.tup []) Go.undef [] from .tup [] [] [] .nil) (.tup _ (by simp)) (by simp) (by simp) (by simp)
    refine hK _ _ fr pi own' (by cases o.dst <;> rfl) (by cases o.dst <;> simp [Act.put]) ?_ (Ext.own fun r b hb => ?_)
    · unfold SD.app FS.after
      rw [FS.strip_nil, hdst]
      exact q1
    · rcases q2 r b hb with h4 | h4
      · exact h4
      · simp at h4
  | ev x b h0 h1 h2 =>
    rw [hon h1]
    simp only [↓reduceIte]
    rcases hop with ⟨_, hr⟩ | ⟨c, x', f, args, hc, _⟩
    · refine .inl ((ev_sound h hd hr hid h2).wp fun a' w' fr' pi' own' k1 k2 k3 k4 => hK a' w' fr' pi' own' k1 k2 ?_ k4)
      unfold SD.app
      rw [hdst]
      exact k3
    · rw [h0] at hc; cases hc
  | pcall f args g ret h0 h1 h2 h3 h4 h5 =>
    rw [hon h1]
    simp only [↓reduceIte]
    rcases hop with ⟨hn, _⟩ | ⟨c, x', f', args', hc, hoc, hcal, hf, hargs⟩
    · rw [h0] at hn; cases hn
    rw [h0] at hc
    cases hc
    refine .inl ?_
    obtain ⟨_, _, hcall⟩ := h5
    obtain ⟨O, r1, _⟩ := opnd h hf
    rw [h2] at r1
    obtain ⟨us, hfv, hus⟩ := r1.func_inv
    cases hus
    have hcut := h.cut hargs h3 false (fun _ => h4)
    have hfs : (⟨fun i => (args.map (rdX s.sl)).getD i .undef, fun i => if false = true then s.bx i else none⟩ : FS) = FS.of (args.map (rdX s.sl)) [] := by
      unfold FS.of
      simp
    rw [hfs] at hcut
    have hlen := (resXs_get hargs).1
    have hc := hcall w fr pi _ (c.args.toList.map a.eval) (by simpa using hlen) hcut
    refine exec_call hoc hcal hfv hc fun e w' hp => ?_
    obtain ⟨v, fr', pi', own', rfl, q1, q2⟩ := hp
    refine ⟨v, rfl, ?_⟩
    have hq1 : Rel w' fr' pi' own' ⟨fun i => ([ret] : List AV).getD i .undef, fun _ => none⟩ #[v] := by simpa [FS.of] using q1
    obtain ⟨own2, z1, z2⟩ := Rel.paste (_P := P) (a := a) h (d := o.dst) hd (vs := args) false hq1 ⟨q2.step, q2.fresh, fun i hi => absurd hi.1 (by simp)⟩ (fun _ => rfl) (fun e => by cases e)
    refine hK _ _ _ _ own2 (by cases o.dst <;> rfl) (by cases o.dst <;> simp [Act.put]) ?_ z2
    unfold SD.app FS.after
    rw [hdst]
    exact z1

  | bcall f args g ret i off rest ob ob' h0 h1 h2 h3 h4 h5 h6 h7 h8 h9 h10 =>
    rw [hon h1]
    simp only [↓reduceIte]
    rcases hop with ⟨hn, _⟩ | ⟨c, x', f', args', hc, hoc, hcal, hf, hargs⟩
    · rw [h0] at hn; cases hn
    rw [h0] at hc
    cases hc
    refine .inl ?_
    obtain ⟨_, _, hcall⟩ := h10
    obtain ⟨O, r1, _⟩ := opnd h hf
    rw [h2] at r1
    obtain ⟨us, hfv, hus⟩ := r1.func_inv
    cases hus
    have hcut := h.cut hargs h3 true (fun e => by cases e)
    rw [h4] at hcut
    have hcut' : Rel w fr pi (cutOwn own args true) ⟨fun j => (AV.ptr (some (i, off)) :: rest).getD j .undef, s.bx⟩ (c.args.toList.map a.eval).toArray := by simpa using hcut
    obtain ⟨own1, q1, q2, q3, q4⟩ := hcut'.one h5 h6 h7
    have hlen := (resXs_get hargs).1
    have hlen2 : args.length = rest.length + 1 := by simpa using congrArg List.length h4
    have hc := hcall w fr _ own1 (c.args.toList.map a.eval) (by rw [List.length_map, hlen, hlen2]; rfl) q1
    refine exec_call hoc hcal hfv hc fun e w' hp => ?_
    obtain ⟨v, fr', pi', own', rfl, k1, k2⟩ := hp
    refine ⟨v, rfl, ?_⟩
    have q5 : ∀ j, own1 (.box (j + 1)) = [] := fun j => q1.nobox (j + 1) (by simp [FS.of])
    obtain ⟨ownB, z1, z2⟩ := hcut'.oneBack h5 h8 q2 q3 q4 q5 k1 h9 k2
    obtain ⟨own2, y1, y2⟩ := Rel.paste (_P := P) (a := a) h (d := o.dst) hd (vs := args) true z1 ⟨z2.step, z2.fresh, fun _ _ => rfl⟩ (fun e => by cases e) (fun _ j ⟨q, hq⟩ => by
      by_cases hj : j = i
      · subst hj; exact ⟨ob', upd_same _ _ _⟩
      · exact ⟨q, by rw [upd_ne _ _ hj]; exact hq⟩)
    refine hK _ _ _ _ own2 (by cases o.dst <;> rfl) (by cases o.dst <;> simp [Act.put]) ?_ y2
    unfold SD.app FS.after
    rw [hdst]
    exact y1

end Go.Proofs.Ytjlcnnijpmijhaa.V

/- A small logic of values over the model, part 18: states as lists; a region in the text's order. -/
namespace Go.Proofs.Ytjlcnnijpmijhaa.V

structure St where
  t : List AV
  h : List HObj

def St.fs (S : St) : FS := FS.of S.t S.h

def stripT : List Nat → List AV → List AV
  | [], t => t
  | i :: T, t => (stripT T t).set i ((t.getD i .undef).strip)

def putL (d : Option Nat) (x : AV) (t : List AV) : List AV :=
  match d with
  | none => t
  | some d => t.set d x

def boxL (b : Option (Nat × HObj)) (h : List HObj) : List HObj :=
  match b with
  | none => h
  | some (i, o) => if i < h.length then h.set i o else h ++ [o]

def St.app (S : St) (dst : Option Nat) (d : SD) : St := ⟨putL dst d.x (stripT d.T S.t), boxL d.b S.h⟩

theorem stripT_length : ∀ (T : List Nat) (t : List AV), (stripT T t).length = t.length
  | [], t => rfl
  | i :: T, t => by rw [stripT, List.length_set, stripT_length T t]

theorem stripT_getD : ∀ (T : List Nat) (t : List AV) (i : Nat), (stripT T t).getD i .undef = if i ∈ T then (t.getD i .undef).strip else t.getD i .undef
  | [], t, i => by simp [stripT]
  | j :: T, t, i => by
    rw [stripT, List.getD_eq_getElem?_getD, List.getElem?_set]
    by_cases hij : j = i
    · subst hij
      simp only [↓reduceIte, List.mem_cons, true_or, stripT_length]
      split
      · simp
      · rename_i hlt
        have : t[j]? = none := List.getElem?_eq_none (by omega)
        simp [List.getD_eq_getElem?_getD, this, AV.strip]
    · rw [if_neg hij, ← List.getD_eq_getElem?_getD, stripT_getD T t i]
      have : i ≠ j := fun e => hij e.symm
      simp [this]

theorem putL_length (d : Option Nat) (x : AV) (t : List AV) : (putL d x t).length = t.length := by
  cases d <;> simp [putL]

theorem St.app_length (S : St) (dst : Option Nat) (d : SD) : (S.app dst d).t.length = S.t.length := by
  simp [St.app, putL_length, stripT_length]

theorem FS.ext' {a b : FS} (h1 : ∀ i, a.sl i = b.sl i) (h2 : ∀ i, a.bx i = b.bx i) : a = b := by
  cases a; cases b
  congr
  · exact funext h1
  · exact funext h2

theorem St.app_fs {S : St} {dst : Option Nat} {d : SD} (hd : ∀ t, dst = some t → t < S.t.length) (hb : ∀ i o, d.b = some (i, o) → i ≤ S.h.length) : d.app dst S.fs = (S.app dst d).fs := by
  refine FS.ext' (fun i => ?_) (fun i => ?_)
  · have key : ∀ i, (FS.strip S.fs d.T).sl i = (stripT d.T S.t).getD i .undef := fun i => (stripT_getD d.T S.t i).symm
    have hbw : ∀ (s : FS), (s.bw d.b).sl = s.sl := by
      intro s
      cases hbb : d.b with
      | none => rfl
      | some p => rfl
    cases hdst : dst with
    | none =>
      show ((S.fs.strip d.T).bw d.b).sl i = (stripT d.T S.t).getD i .undef
      rw [hbw]; exact key i
    | some t =>
      show upd ((S.fs.strip d.T).bw d.b).sl t d.x i = ((stripT d.T S.t).set t d.x).getD i .undef
      rw [hbw, List.getD_eq_getElem?_getD, List.getElem?_set]
      by_cases hti : t = i
      · subst hti
        rw [upd_same, if_pos rfl, if_pos (by rw [stripT_length]; exact hd t hdst)]
        rfl
      · rw [upd_ne _ _ (fun e => hti e.symm), if_neg hti, ← List.getD_eq_getElem?_getD]
        exact key i
  · have h1 : (d.app dst S.fs).bx = (S.fs.bw d.b).bx := by
      unfold SD.app FS.after FS.putO
      cases dst <;> cases hbb : d.b <;> rfl
    rw [h1]
    show _ = (boxL d.b S.h)[i]?
    cases hbb : d.b with
    | none => rfl
    | some p =>
      obtain ⟨j, o⟩ := p
      have hj := hb j o hbb
      show upd (fun i => S.h[i]?) j (some o) i = (if j < S.h.length then S.h.set j o else S.h ++ [o])[i]?
      by_cases hij : i = j
      · subst hij
        rw [upd_same]
        split
        · rename_i hlt
          simp [hlt]
        · rename_i hlt
          have : i = S.h.length := by omega
          simp [this]
      · rw [upd_ne _ _ hij]
        split
        · rw [List.getElem?_set, if_neg (fun e => hij e.symm)]
        · rename_i hlt
          have : j = S.h.length := by omega
          subst this
          rw [List.getElem?_append]
          split
          · rfl
          · rename_i h3
            rw [List.getElem?_eq_none (by omega), List.getElem?_eq_none (by simp; omega)]

theorem ev_box {fl : Bool} {s : Nat → AV} {bx : Nat → Option HObj} {id : Nat} {op : VOp} {x : AV} {i : Nat} {o : HObj} (h : ev fl s bx id op = some (x, some (i, o))) : i = id ∨ ∃ o', bx i = some o' := by
  unfold ev at h
  split at h <;> try (first
    | (cases h; done)
    | (cases h; exact .inl rfl)
    | (simp only [Option.map_eq_some_iff] at h; obtain ⟨_, _, h⟩ := h; cases h; done))
  all_goals (try (split at h <;> try (first | (cases h; done) | (cases h; exact .inl rfl) | (simp only [Option.map_eq_some_iff] at h; obtain ⟨_, _, h⟩ := h; cases h; done))))
  all_goals (try (split at h <;> try (first | (cases h; done) | (cases h; exact .inl rfl) | (simp only [Option.map_eq_some_iff] at h; obtain ⟨_, _, h⟩ := h; cases h; done))))
  all_goals (try (split at h <;> try (first | (cases h; done) | (cases h; exact .inr ⟨_, by assumption⟩) | (simp only [Option.map_eq_some_iff] at h; obtain ⟨_, _, h⟩ := h; cases h; done))))
  all_goals (try (split at h <;> try (first | (cases h; done) | (simp only [Option.map_eq_some_iff] at h; obtain ⟨_, _, h⟩ := h; cases h; done))))

theorem VStep.box_le {P : Program} {L : Nat → Bool} {o : VOper} {S : St} {d : SD} (st : VStep P L o S.fs S.h.length d) : ∀ i ob, d.b = some (i, ob) → i ≤ S.h.length := by
  intro i ob hb
  cases st with
  | off => cases hb
  | ev x b h0 h1 h2 =>
    simp only at hb
    subst hb
    rcases ev_box h2 with rfl | ⟨o', ho'⟩
    · exact Nat.le_refl _
    · have : S.h[i]? = some o' := ho'
      rcases Nat.lt_or_ge i S.h.length with h' | h'
      · omega
      · simp [List.getElem?_eq_none h'] at this
  | pcall => cases hb
  | bcall f args g ret i' off rest ob0 ob' h0 h1 h2 h3 h4 h5 h6 h7 h8 h9 h10 =>
    simp only [Option.some.injEq, Prod.mk.injEq] at hb
    obtain ⟨rfl, rfl⟩ := hb
    have : S.h[i']? = some ob0 := h5
    rcases Nat.lt_or_ge i' S.h.length with h' | h'
    · omega
    · simp [List.getElem?_eq_none h'] at this

theorem boxL_length (b : Option (Nat × HObj)) (h : List HObj) : h.length ≤ (boxL b h).length := by
  unfold boxL
  split
  · exact Nat.le_refl _
  · split <;> simp

/-- Operations one behind the other. -/
inductive VSeq (P : Program) (L : Nat → Bool) : List VOper → St → St → Prop
  | nil (S : St) : VSeq P L [] S S
  | cons (o : VOper) (os : List VOper) (S : St) (d : SD) (S' : St) : VStep P L o S.fs S.h.length d → VSeq P L os (S.app o.dst d) S' → VSeq P L (o :: os) S S'
  | hcall (o : VOper) (os : List VOper) (S S' : St) (f : VX) (args : List VX) (g : Nat) (ret : AV) (h' : List HObj) : o.call = some (f, args) → o.on S.fs.sl → rdX S.fs.sl f = .func g [] → (argTmps args).Nodup →
      VCall P g (args.map (rdX S.fs.sl)) S.h ret h' → VSeq P L os ⟨putL o.dst ret (stripT (argTmps args) S.t), h'⟩ S' → VSeq P L (o :: os) S S'

end Go.Proofs.Ytjlcnnijpmijhaa.V

/- A small logic of values over the model, part 19: what a region comes to in the text's order. -/
namespace Go.Proofs.Ytjlcnnijpmijhaa.V

theorem St.has_iff (S : St) (i : Nat) : S.fs.has i ↔ i < S.h.length := by
  constructor
  · rintro ⟨o, ho⟩
    have ho' : S.h[i]? = some o := ho
    rcases Nat.lt_or_ge i S.h.length with h' | h'
    · exact h'
    · simp [List.getElem?_eq_none h'] at ho'
  · intro h
    exact ⟨_, (List.getElem?_eq_getElem h : S.h[i]? = _)⟩

theorem St.fresh (S : St) : S.fs.bx S.h.length = none := List.getElem?_eq_none (Nat.le_refl _)

theorem St.app_has {S : St} {dst : Option Nat} {d : SD} (i : Nat) (h : S.fs.has i) : (S.app dst d).fs.has i := by
  rw [St.has_iff] at *
  exact Nat.lt_of_lt_of_le h (boxL_length _ _)

/-- A call that may write boxes. -/
theorem step_hcall {P : Program} {dr : Bool} {ops : Array Oper} {i : Nat} {o : Oper} {vo : VOper} (ho : ops[i]? = some o) (hres : resOper P dr ops o = some vo) {a : Act} {w : World} {fr pi : Nat → Nat} {own : Res → List Nat} {S : St}
    (h : Rel w fr pi own S.fs a.tmps) (hd : ∀ t, o.dst = some t → t < a.tmps.size) (hdt : ∀ t, vo.dst = some t → t < S.t.length) {f : VX} {args : List VX} {g : Nat} {ret : AV} {h' : List HObj} (h0 : vo.call = some (f, args)) (h1 : vo.on S.fs.sl) (h2 : rdX S.fs.sl f = .func g [])
    (h3 : (argTmps args).Nodup) (h5 : VCall P g (args.map (rdX S.fs.sl)) S.h ret h') {K : Act → World → Prop} {Q : Exit → Act → World → Prop}
    (hK : ∀ a' w' fr' pi' own', a'.defers = a.defers → a'.tmps.size = a.tmps.size → Rel w' fr' pi' own' (St.fs ⟨putL vo.dst ret (stripT (argTmps args) S.t), h'⟩) a'.tmps → Ext w w' fr fr' pi pi' own own' S.fs.has → K a' w') : wpOp P ops Q i K a w := by
  obtain ⟨hdst, hg, _, hop⟩ := resOper_inv hres
  have hwant : Region.wanted o (yielded ops a.tmps) = true := by
    unfold Region.wanted
    cases hgd : o.guard with
    | none => rfl
    | some p =>
      obtain ⟨j, want⟩ := p
      rw [hgd] at hg
      simp only [resGuard, Option.map_eq_some_iff] at hg
      obtain ⟨dg, k1, k2⟩ := hg
      unfold VOper.on at h1
      rw [← k2] at h1
      simp only at h1
      have hr := h.slot dg
      rw [h1] at hr
      simp [yielded_of k1 hr.bool_inv]
  unfold wpOp
  rw [ho]
  simp only
  rw [hwant]
  simp only [↓reduceIte]
  rcases hop with ⟨hn, _⟩ | ⟨c, x', f', args', hc, hoc, hcal, hf, hargs⟩
  · rw [h0] at hn; cases hn
  rw [h0] at hc
  cases hc
  refine .inl ?_
  obtain ⟨_, hle, hcall⟩ := h5
  obtain ⟨O, r1, _⟩ := opnd h hf
  rw [h2] at r1
  obtain ⟨us, hfv, hus⟩ := r1.func_inv
  cases hus
  have hcut := h.cut hargs h3 true (fun e => by cases e)
  have hfs : (⟨fun i => (args.map (rdX S.fs.sl)).getD i .undef, fun i => if true = true then S.fs.bx i else none⟩ : FS) = FS.of (args.map (rdX S.fs.sl)) S.h := by
    unfold FS.of
    simp [St.fs, FS.of]
  rw [hfs] at hcut
  have hlen := (resXs_get hargs).1
  have hc := hcall w fr pi _ (c.args.toList.map a.eval) (by simpa using hlen) hcut
  refine exec_call hoc hcal hfv hc fun e w' hp => ?_
  obtain ⟨v, fr', pi', own', rfl, q1, q2⟩ := hp
  refine ⟨v, rfl, ?_⟩
  have hq1 : Rel w' fr' pi' own' ⟨fun i => ([ret] : List AV).getD i .undef, fun i => h'[i]?⟩ #[v] := by simpa [FS.of] using q1
  obtain ⟨own2, z1, z2⟩ := Rel.paste (_P := P) (a := a) h (d := o.dst) hd (vs := args) true hq1 ⟨q2.step, q2.fresh, fun i hi => q2.pi i ((St.has_iff S i).1 hi.2)⟩ (fun e => by cases e) (fun _ i hi => by
    have : i < h'.length := Nat.lt_of_lt_of_le ((St.has_iff S i).1 hi) hle
    exact ⟨_, List.getElem?_eq_getElem this⟩)
  refine hK _ _ fr' _ own2 (by cases o.dst <;> rfl) (by cases o.dst <;> simp [Act.put]) ?_ z2
  have hsame : (({ S.fs.strip (argTmps args) with bx := if true = true then (fun i => h'[i]?) else S.fs.bx } : FS).putO o.dst ret) = St.fs ⟨putL vo.dst ret (stripT (argTmps args) S.t), h'⟩ := by
    rw [hdst] at hdt ⊢
    refine FS.ext' (fun i => ?_) (fun i => ?_)
    · cases hdd : o.dst with
      | none => exact (stripT_getD _ _ _).symm
      | some t =>
        show upd _ t ret i = ((stripT (argTmps args) S.t).set t ret).getD i .undef
        rw [List.getD_eq_getElem?_getD, List.getElem?_set]
        by_cases hti : t = i
        · subst hti
          rw [upd_same, if_pos rfl, if_pos (by rw [stripT_length]; exact hdt t hdd)]
          rfl
        · rw [upd_ne _ _ (fun e => hti e.symm), if_neg hti, ← List.getD_eq_getElem?_getD]
          exact (stripT_getD _ _ _).symm
    · cases o.dst <;> rfl
  rw [← hsame]
  exact z1

theorem seq_sound {P : Program} {dr : Bool} {L : Nat → Bool} {ops : Array Oper} {vops : List VOper} (hres : ∀ (i : Nat) (o : Oper), ops[i]? = some o → ∃ vo, vops[i]? = some vo ∧ resOper P dr ops o = some vo) (hlen : vops.length = ops.size) {N : Nat}
    (hdst : ∀ vo, vo ∈ vops → ∀ t, vo.dst = some t → t < N) {Q : Exit → Act → World → Prop} : ∀ (l : List VOper) (k : Nat) (S S' : St), l = vops.drop k → VSeq P L l S S' → S.t.length = N → ∀ (a : Act) (w : World) (fr pi : Nat → Nat) (own : Res → List Nat),
      Rel w fr pi own S.fs a.tmps → a.tmps.size = N → (∀ a' w' fr' pi' own', a'.defers = a.defers → a'.tmps.size = N → Rel w' fr' pi' own' S'.fs a'.tmps → Ext w w' fr fr' pi pi' own own' S.fs.has → S'.t.length = N → S.h.length ≤ S'.h.length → Q .normal a' w') →
      wpOps P ops Q (List.range' k l.length) a w
  | [], k, S, S', hl, hs, hN, a, w, fr, pi, own, hr, hsz, hK => by
    cases hs
    exact hK a w fr pi own rfl hsz hr (Ext.refl _ _ _ _ _) hN (Nat.le_refl _)
  | o :: os, k, S, S', hl, hs, hN, a, w, fr, pi, own, hr, hsz, hK => by
    have hk : vops[k]? = some o := by
      have : (vops.drop k)[0]? = some o := by rw [← hl]; rfl
      simpa using this
    have hos : os = vops.drop (k + 1) := by
      have : (vops.drop k).drop 1 = os := by rw [← hl]; rfl
      rw [← this, List.drop_drop]
    have hkl : k < ops.size := by
      rw [← hlen]
      rcases Nat.lt_or_ge k vops.length with h' | h'
      · exact h'
      · simp [List.getElem?_eq_none h'] at hk
    obtain ⟨vo, hvo, hrs⟩ := hres k ops[k] (Array.getElem?_eq_getElem hkl)
    rw [hk] at hvo
    cases hvo
    have hdo : (ops[k]).dst = o.dst := (resOper_inv hrs).1.symm
    have hd : ∀ t, (ops[k]).dst = some t → t < a.tmps.size := fun t ht => by rw [hsz]; exact hdst o (List.mem_of_getElem? hk) t (by rw [← hdo]; exact ht)
    have hd2 : ∀ t, o.dst = some t → t < S.t.length := fun t ht => by rw [hN]; exact hdst o (List.mem_of_getElem? hk) t ht
    rw [List.length_cons, List.range'_succ, wpOps_cons]
    cases hs with
    | cons _ _ _ d _ st hs =>
      refine step_exec (Array.getElem?_eq_getElem hkl) hrs hr hd (fun _ => S.fresh) st fun a' w' fr' pi' own' e1 e2 e3 e4 => ?_
      rw [St.app_fs hd2 st.box_le] at e3
      refine seq_sound hres hlen hdst os (k + 1) _ S' hos hs (by rw [St.app_length]; exact hN) a' w' fr' pi' own' e3 (by omega) fun a2 w2 fr2 pi2 own2 g1 g2 g3 g4 g5 g6 => ?_
      exact hK a2 w2 fr2 pi2 own2 (g1.trans e1) g2 g3 (e4.trans g4 (fun i hi => St.app_has i hi)) g5 (Nat.le_trans (boxL_length _ _) g6)
    | hcall _ _ _ _ f args g ret h' c0 c1 c2 c3 c5 hs =>
      refine step_hcall (Array.getElem?_eq_getElem hkl) hrs hr hd hd2 c0 c1 c2 c3 c5 fun a' w' fr' pi' own' e1 e2 e3 e4 => ?_
      refine seq_sound hres hlen hdst os (k + 1) _ S' hos hs (by simp only [putL_length, stripT_length]; exact hN) a' w' fr' pi' own' e3 (by omega) fun a2 w2 fr2 pi2 own2 g1 g2 g3 g4 g5 g6 => ?_
      refine hK a2 w2 fr2 pi2 own2 (g1.trans e1) g2 g3 (e4.trans g4 (fun i hi => ?_)) g5 (Nat.le_trans c5.2.1 g6)
      rw [St.has_iff] at *
      exact Nat.lt_of_lt_of_le hi c5.2.1

end Go.Proofs.Ytjlcnnijpmijhaa.V

/- A small logic of values over the model, part 20: a region whose order is open comes to what it comes to in the text's order, where no operation meddles with another one that it doesn't wait for. -/
namespace Go.Proofs.Ytjlcnnijpmijhaa.V

def FS.same (s s' : FS) : Res → Prop
  | .slot i => s.sl i = s'.sl i
  | .box i => s.bx i = s'.bx i

theorem FS.same_refl (s : FS) (r : Res) : s.same s r := by cases r <;> rfl
theorem FS.same_symm {s s' : FS} {r : Res} (h : s.same s' r) : s'.same s r := by
  cases r
  · exact Eq.symm h
  · exact Eq.symm h
theorem FS.same_trans {s s1 s2 : FS} {r : Res} (h : s.same s1 r) (h' : s1.same s2 r) : s.same s2 r := by
  cases r
  · exact Eq.trans h h'
  · exact Eq.trans h h'
theorem FS.ext_same {s s' : FS} (h : ∀ r, s.same s' r) : s = s' := FS.ext' (fun i => h (.slot i)) (fun i => h (.box i))

/-- What an operation writes. -/
def wrL (dst : Option Nat) (d : SD) : List Res :=
  (match dst with | some t => [.slot t] | none => []) ++ d.T.map .slot ++ (match d.b with | some (i, _) => [.box i] | none => [])

theorem app_slot (d : SD) (dst : Option Nat) (s : FS) (i : Nat) : (d.app dst s).sl i = if dst = some i then d.x else if i ∈ d.T then (s.sl i).strip else s.sl i := by
  unfold SD.app FS.after
  have hbw : ∀ (s : FS), (s.bw d.b).sl = s.sl := by
    intro s
    cases d.b with
    | none => rfl
    | some p => rfl
  cases dst with
  | none =>
    show ((s.strip d.T).bw d.b).sl i = _
    rw [hbw]
    simp [FS.strip]
  | some t =>
    show upd ((s.strip d.T).bw d.b).sl t d.x i = _
    rw [hbw]
    by_cases h : i = t
    · subst h; rw [upd_same]; simp
    · have h2 : ¬ (t = i) := fun e => h e.symm
      rw [upd_ne _ _ h]; simp [FS.strip, h2]

theorem app_box (d : SD) (dst : Option Nat) (s : FS) (i : Nat) : (d.app dst s).bx i = match d.b with | some (j, o) => if i = j then some o else s.bx i | none => s.bx i := by
  unfold SD.app FS.after
  have h1 : (((s.strip d.T).bw d.b).putO dst d.x).bx = ((s.strip d.T).bw d.b).bx := by cases dst <;> rfl
  rw [h1]
  cases hb : d.b with
  | none => rfl
  | some p =>
    obtain ⟨j, o⟩ := p
    rfl

theorem app_other {d : SD} {dst : Option Nat} {s : FS} {r : Res} (h : r ∉ wrL dst d) : (d.app dst s).same s r := by
  unfold wrL at h
  simp only [List.mem_append, not_or] at h
  obtain ⟨⟨h1, h2⟩, h3⟩ := h
  cases r with
  | slot i =>
    show (d.app dst s).sl i = s.sl i
    rw [app_slot, if_neg, if_neg]
    · intro hi; exact h2 (List.mem_map.2 ⟨i, hi, rfl⟩)
    · rintro rfl; simp at h1
  | box i =>
    show (d.app dst s).bx i = s.bx i
    rw [app_box]
    cases hb : d.b with
    | none => rfl
    | some p =>
      obtain ⟨j, o⟩ := p
      rw [hb] at h3
      simp only [List.mem_singleton] at h3
      simp only
      rw [if_neg (fun e => h3 (by rw [e]))]

theorem app_congr {d : SD} {dst : Option Nat} {s s' : FS} {r : Res} (h : s.same s' r) : (d.app dst s).same (d.app dst s') r := by
  cases r with
  | slot i =>
    show (d.app dst s).sl i = (d.app dst s').sl i
    rw [app_slot, app_slot, (h : s.sl i = s'.sl i)]
  | box i =>
    show (d.app dst s).bx i = (d.app dst s').bx i
    rw [app_box, app_box]
    cases d.b with
    | none => exact h
    | some p =>
      simp only
      split
      · rfl
      · exact h

/-- Some of the operations, in the text's order. -/
def runF : List (Option Nat × SD) → (Nat → Bool) → Nat → FS → FS
  | [], _, _, s => s
  | p :: r, M, i, s => runF r M (i + 1) (if M i then p.2.app p.1 s else s)

theorem runF_agree {r : Res} : ∀ (zs : List (Option Nat × SD)) (M M' : Nat → Bool) (i : Nat) (s s' : FS), s.same s' r → (∀ j p, zs[j]? = some p → r ∈ wrL p.1 p.2 → M (i + j) = M' (i + j)) → (runF zs M i s).same (runF zs M' i s') r
  | [], M, M', i, s, s', h, _ => h
  | p :: zs, M, M', i, s, s', h, hM => by
    rw [runF, runF]
    refine runF_agree zs M M' (i + 1) _ _ ?_ (fun j q hq hr => by
      have := hM (j + 1) q (by simpa using hq) hr
      rw [show i + 1 + j = i + (j + 1) by omega]; exact this)
    by_cases hr : r ∈ wrL p.1 p.2
    · have := hM 0 p rfl hr
      simp only [Nat.add_zero] at this
      rw [this]
      split
      · exact app_congr h
      · exact h
    · have h1 : (if M i then p.2.app p.1 s else s).same s r := by
        split
        · exact app_other hr
        · exact FS.same_refl _ _
      have h2 : (if M' i then p.2.app p.1 s' else s').same s' r := by
        split
        · exact app_other hr
        · exact FS.same_refl _ _
      exact FS.same_trans h1 (FS.same_trans h (FS.same_symm h2))

theorem runF_congr (zs : List (Option Nat × SD)) {M M' : Nat → Bool} (i : Nat) (s : FS) (h : ∀ j, j < zs.length → M (i + j) = M' (i + j)) : runF zs M i s = runF zs M' i s :=
  FS.ext_same fun r => runF_agree zs M M' i s s (FS.same_refl _ _) (fun j p hp _ => h j (by
    rcases Nat.lt_or_ge j zs.length with h' | h'
    · exact h'
    · simp [List.getElem?_eq_none h'] at hp))

theorem runF_none : ∀ (zs : List (Option Nat × SD)) (M : Nat → Bool) (i : Nat) (s : FS), (∀ j, i ≤ j → M j = false) → runF zs M i s = s
  | [], M, i, s, _ => rfl
  | p :: zs, M, i, s, h => by
    rw [runF, h i (Nat.le_refl _)]
    exact runF_none zs M (i + 1) s (fun j hj => h j (by omega))

def addM (M : Nat → Bool) (p : Nat) : Nat → Bool := fun j => if j = p then true else M j

theorem runF_last : ∀ (zs : List (Option Nat × SD)) (M : Nat → Bool) (i k : Nat) (s : FS) (q : Option Nat × SD), zs[k]? = some q → (∀ j, i + k ≤ j → M j = false) → runF zs (addM M (i + k)) i s = q.2.app q.1 (runF zs M i s)
  | [], M, i, k, s, q, h, _ => by simp at h
  | p :: zs, M, i, 0, s, q, h, hM => by
    simp at h
    subst h
    rw [runF, runF]
    simp only [Nat.add_zero] at *
    have h1 : addM M i i = true := by simp [addM]
    simp only [h1, hM i (Nat.le_refl _), ↓reduceIte, Bool.false_eq_true]
    rw [runF_none zs (addM M i) (i + 1) _ (fun j hj => by simp [addM, show ¬ j = i by omega, hM j (by omega)]), runF_none zs M (i + 1) _ (fun j hj => hM j (by omega))]
  | p :: zs, M, i, k + 1, s, q, h, hM => by
    rw [runF, runF]
    have h1 : addM M (i + (k + 1)) i = M i := by simp [addM]
    simp only [h1]
    rw [show i + (k + 1) = i + 1 + k by omega]
    exact runF_last zs M (i + 1) k _ q (by simpa using h) (fun j hj => hM j (by omega))

/-- One more: its writes stand, if no later one that is done writes what it writes. -/
theorem runF_insert {zs : List (Option Nat × SD)} {M : Nat → Bool} {p : Nat} {q : Option Nat × SD} (s : FS) (hq : zs[p]? = some q) (hp : M p = false)
    (hlater : ∀ j q', p < j → zs[j]? = some q' → M j = true → ∀ r, r ∈ wrL q.1 q.2 → r ∉ wrL q'.1 q'.2) : runF zs (addM M p) 0 s = q.2.app q.1 (runF zs M 0 s) := by
  refine FS.ext_same fun r => ?_
  by_cases hr : r ∈ wrL q.1 q.2
  · -- only those ahead of it matter
    let M1 : Nat → Bool := fun j => M j && decide (j < p)
    have hA : (runF zs (addM M p) 0 s).same (runF zs (addM M1 p) 0 s) r := by
      refine runF_agree zs _ _ 0 s s (FS.same_refl _ _) (fun j q' hq' hr' => ?_)
      simp only [Nat.zero_add, addM, M1]
      by_cases hj : j = p
      · simp [hj]
      · simp only [hj, ↓reduceIte]
        rcases Nat.lt_trichotomy j p with h | h | h
        · simp [h]
        · exact absurd h hj
        · have : ¬ j < p := by omega
          simp only [this, decide_false, Bool.and_false]
          cases hm : M j with
          | false => rfl
          | true => exact absurd hr' (hlater j q' h hq' hm r hr)
    have hB : (runF zs M 0 s).same (runF zs M1 0 s) r := by
      refine runF_agree zs _ _ 0 s s (FS.same_refl _ _) (fun j q' hq' hr' => ?_)
      simp only [Nat.zero_add, M1]
      rcases Nat.lt_trichotomy j p with h | h | h
      · simp [h]
      · subst h; simp [hp]
      · have : ¬ j < p := by omega
        simp only [this, decide_false, Bool.and_false]
        cases hm : M j with
        | false => rfl
        | true => exact absurd hr' (hlater j q' h hq' hm r hr)
    have hC := runF_last zs M1 0 p s q hq (fun j hj => by simp only [M1]; simp [show ¬ j < p by omega])
    rw [Nat.zero_add] at hC
    rw [hC] at hA
    exact FS.same_trans hA (app_congr (FS.same_symm hB))
  · refine FS.same_trans (runF_agree zs _ M 0 s s (FS.same_refl _ _) (fun j q' hq' hr' => ?_)) (FS.same_symm (app_other hr))
    simp only [Nat.zero_add, addM]
    by_cases hj : j = p
    · subst hj
      rw [hq] at hq'
      cases hq'
      exact absurd hr' hr
    · simp [hj]

end Go.Proofs.Ytjlcnnijpmijhaa.V

/- A small logic of values over the model, part 21: what an operation looks at; a region whose order is open. -/
namespace Go.Proofs.Ytjlcnnijpmijhaa.V

def vxT : VX → List Nat
  | .tmp t => [t]
  | .cst _ => []
def vxsT : List VX → List Nat
  | [] => []
  | x :: r => vxT x ++ vxsT r
def voT : Option VX → List Nat
  | none => []
  | some x => vxT x
def partsT : List (Nat × Nat × VX) → List Nat
  | [] => []
  | (_, _, x) :: r => vxT x ++ partsT r
def elemsT : List (Nat × VX) → List Nat
  | [] => []
  | (_, x) :: r => vxT x ++ elemsT r

/-- The slots that an operation looks at. -/
def opT : VOp → List Nat
  | .mov x | .box x | .load _ x | .nilck x | .un _ x | .cvi _ x | .cvsb x | .cvbs x | .cvid x | .ifc _ x | .fld _ x | .fldv _ _ x | .ext x _ | .lens x | .lenl x | .mk _ _ _ x => vxT x
  | .pick c a b => vxT c ++ vxT a ++ vxT b
  | .alloc _ => []
  | .build _ ps => partsT ps
  | .bslice _ _ _ ps => elemsT ps
  | .store _ x v => vxT x ++ vxT v
  | .bin _ x y | .eqn _ _ x y | .eqb _ x y | .mm _ x y | .eqv _ _ x y | .ixa _ x y | .ixarr _ _ x y | .ixs x y | .app _ _ x y | .apps _ x y => vxT x ++ vxT y
  | .fn _ l => vxsT l
  | .slstr x lo hi | .slsl _ x lo hi => vxT x ++ voT lo ++ voT hi
  | .call f l => vxT f ++ vxsT l
  | .bad => []

/-- The boxes that an operation looks at. -/
def opB (s : Nat → AV) : VOp → List Nat
  | .load _ x | .store _ x _ => match rdX s x with
    | .ptr (some (i, _)) => [i]
    | _ => []
  | _ => []

theorem rdX_congr {s s' : Nat → AV} {x : VX} (h : ∀ t, t ∈ vxT x → s t = s' t) : rdX s x = rdX s' x := by
  cases x with
  | tmp t => exact h t (by simp [vxT])
  | cst c => rfl

theorem putParts_congr {s s' : Nat → AV} : ∀ (ps : List (Nat × Nat × VX)) (z : List AV), (∀ t, t ∈ partsT ps → s t = s' t) → putParts s z ps = putParts s' z ps
  | [], z, _ => rfl
  | (off, sz, x) :: r, z, h => by
    have hx : rdX s x = rdX s' x := rdX_congr fun t ht => h t (by simp [partsT, ht])
    rw [putParts, putParts, hx]
    split
    · exact putParts_congr r _ (fun t ht => h t (by simp [partsT, ht]))
    · rfl

theorem putElems_congr {s s' : Nat → AV} {sz : Nat} : ∀ (ps : List (Nat × VX)) (z : List (List AV)), (∀ t, t ∈ elemsT ps → s t = s' t) → putElems s sz z ps = putElems s' sz z ps
  | [], z, _ => rfl
  | (i, x) :: r, z, h => by
    have hx : rdX s x = rdX s' x := rdX_congr fun t ht => h t (by simp [elemsT, ht])
    rw [putElems, putElems, hx]
    split
    · exact putElems_congr r _ (fun t ht => h t (by simp [elemsT, ht]))
    · rfl

theorem vlow_congr {s s' : Nat → AV} {x : Option VX} (h : ∀ t, t ∈ voT x → s t = s' t) : vlow s x = vlow s' x := by
  cases x with
  | none => rfl
  | some x => simp only [vlow, rdX_congr (s := s) (s' := s') (x := x) h]
theorem vhigh_congr {s s' : Nat → AV} {n : Nat} {x : Option VX} (h : ∀ t, t ∈ voT x → s t = s' t) : vhigh s n x = vhigh s' n x := by
  cases x with
  | none => rfl
  | some x => simp only [vhigh, rdX_congr (s := s) (s' := s') (x := x) h]

theorem ev_congr {fl : Bool} {s s' : Nat → AV} {bx bx' : Nat → Option HObj} {id : Nat} {op : VOp} (h : ∀ t, t ∈ opT op → s t = s' t) (hb : ∀ i, i ∈ opB s op → bx i = bx' i) : ev fl s bx id op = ev fl s' bx' id op := by
  cases op with
  | mov x | box x | nilck x | un _ x | cvi _ x | cvsb x | cvbs x | cvid x | ifc _ x | fld _ x | fldv _ _ x | ext x _ | lens x | lenl x | mk _ _ _ x =>
    simp only [ev, rdX_congr (s := s) (s' := s') (x := x) h]
  | alloc z => rfl
  | call f l => rfl
  | bad => rfl
  | pick c a b =>
    simp only [ev, rdX_congr (s := s) (s' := s') (x := c) (fun t ht => h t (by simp [opT, ht])), rdX_congr (s := s) (s' := s') (x := a) (fun t ht => h t (by simp [opT, ht])), rdX_congr (s := s) (s' := s') (x := b) (fun t ht => h t (by simp [opT, ht]))]
  | build z ps => simp only [ev, putParts_congr ps z h]
  | bslice sz n z ps => simp only [ev, putElems_congr ps _ h]
  | bin _ x y | eqn _ _ x y | eqb _ x y | mm _ x y | eqv _ _ x y | ixa _ x y | ixarr _ _ x y | ixs x y | app _ _ x y | apps _ x y =>
    simp only [ev, rdX_congr (s := s) (s' := s') (x := x) (fun t ht => h t (by simp [opT, ht])), rdX_congr (s := s) (s' := s') (x := y) (fun t ht => h t (by simp [opT, ht]))]
  | fn f l =>
    have : (l.map fun x => (rdX s x).strip) = l.map fun x => (rdX s' x).strip := by
      simp only [opT] at h
      clear hb
      induction l with
      | nil => rfl
      | cons x r ih =>
        simp only [List.map_cons]
        rw [rdX_congr (s := s) (s' := s') (x := x) (fun t ht => h t (by simp [vxsT, ht])), ih (fun t ht => h t (by simp [vxsT, ht]))]
    simp only [ev, this]
  | slstr x lo hi | slsl _ x lo hi =>
    simp only [ev, rdX_congr (s := s) (s' := s') (x := x) (fun t ht => h t (by simp [opT, ht])), vlow_congr (s := s) (s' := s') (x := lo) (fun t ht => h t (by simp [opT, ht])),
      fun n => vhigh_congr (s := s) (s' := s') (n := n) (x := hi) (fun t ht => h t (by simp [opT, ht]))]
  | load g x =>
    have hx : rdX s x = rdX s' x := rdX_congr h
    simp only [ev, opB, hx] at hb ⊢
    split
    · rename_i i off hr
      rw [hr] at hb
      rw [hb i (by simp)]
    · rfl
    · rfl
  | store n x v =>
    have hx : rdX s x = rdX s' x := rdX_congr (fun t ht => h t (by simp [opT, ht]))
    have hv : rdX s v = rdX s' v := rdX_congr (fun t ht => h t (by simp [opT, ht]))
    simp only [ev, opB, hx, hv] at hb ⊢
    split
    · rename_i i off hr
      rw [hr] at hb
      rw [hb i (by simp)]
    · rfl

/-- The id is asked for where a box is made, alone. -/
theorem ev_id {fl : Bool} {s : Nat → AV} {bx : Nat → Option HObj} {id id' : Nat} {op : VOp} (h : op.isAlloc = false) : ev fl s bx id op = ev fl s bx id' op := by
  cases op <;> first | rfl | (simp [VOp.isAlloc] at h)

/-- The boxes to which these point. -/
def ptrsT (s : Nat → AV) : List VX → List Nat
  | [] => []
  | x :: r => (match rdX s x with
    | .ptr (some (i, _)) => [i]
    | _ => []) ++ ptrsT s r

/-- All that a step looks at. -/
def rdL (o : VOper) (s : Nat → AV) (id : Nat) : List Res :=
  (match o.guard with | some (g, _) => [.slot g] | none => []) ++
  (match o.call with | some (f, l) => (vxT f ++ vxsT l).map .slot ++ (ptrsT s l).map .box | none => []) ++ (opT o.op).map .slot ++ (opB s o.op).map .box ++ (if o.op.isAlloc then [.box id] else [])

theorem VStep.congr {P : Program} {L : Nat → Bool} {o : VOper} {s s' : FS} {id : Nat} {d : SD} (h : VStep P L o s id d) (hs : ∀ r, r ∈ rdL o s.sl id → s.same s' r) : VStep P L o s' id d := by
  have hguard : ∀ g want, o.guard = some (g, want) → s.sl g = s'.sl g := fun g want e => hs (.slot g) (by simp [rdL, e])
  have hon : o.on s.sl → o.on s'.sl := by
    intro h1
    unfold VOper.on at *
    cases hg : o.guard with
    | none => trivial
    | some p =>
      obtain ⟨g, want⟩ := p
      rw [hg] at h1
      simp only at h1 ⊢
      rw [← hguard g want hg]; exact h1
  cases h with
  | off g want h1 h2 => exact .off g want h1 (by rw [← hguard g want h1]; exact h2)
  | ev x b h0 h1 h2 =>
    refine .ev x b h0 (hon h1) ?_
    rw [← ev_congr (s := s.sl) (bx := s.bx) (fun t ht => hs (.slot t) ?_) (fun i hi => hs (.box i) ?_)]
    · exact h2
    · unfold rdL
      simp only [List.mem_append, List.mem_map]
      exact .inl (.inl (.inr ⟨t, ht, rfl⟩))
    · unfold rdL
      simp only [List.mem_append, List.mem_map]
      exact .inl (.inr ⟨i, hi, rfl⟩)
  | pcall f args g ret h0 h1 h2 h3 h4 h5 =>
    have hx : ∀ x, x = f ∨ x ∈ args → rdX s.sl x = rdX s'.sl x := by
      intro x hx
      refine rdX_congr fun t ht => hs (.slot t) ?_
      unfold rdL
      rw [h0]
      have hm : t ∈ vxT f ++ vxsT args := by
        rcases hx with rfl | hx
        · simp [ht]
        · have : t ∈ vxsT args := by
            clear h0 h2 h3 h4 h5
            induction args with
            | nil => simp at hx
            | cons y r ih =>
              rcases List.mem_cons.1 hx with rfl | hx
              · simp [vxsT, ht]
              · simp [vxsT, ih hx]
          simp [this]
      simp only [List.mem_append, List.mem_map]
      exact .inl (.inl (.inl (.inr (.inl ⟨t, by simpa using hm, rfl⟩))))
    have hmap : args.map (rdX s.sl) = args.map (rdX s'.sl) := List.map_congr_left fun x hx' => hx x (.inr hx')
    refine .pcall f args g ret h0 (hon h1) (by rw [← hx f (.inl rfl)]; exact h2) h3 (fun v hv => by rw [← hx v (.inr hv)]; exact h4 v hv) (by rw [← hmap]; exact h5)
  | bcall f args g ret i off rest ob ob' h0 h1 h2 h3 h4 h5 h6 h7 h8 h9 h10 =>
    have hx : ∀ x, x = f ∨ x ∈ args → rdX s.sl x = rdX s'.sl x := by
      intro x hx
      refine rdX_congr fun t ht => hs (.slot t) ?_
      unfold rdL
      rw [h0]
      have hm : t ∈ vxT f ++ vxsT args := by
        rcases hx with rfl | hx
        · simp [ht]
        · have : t ∈ vxsT args := by
            clear h0 h2 h3 h4 h5 h6 h7 h8 h9 h10
            induction args with
            | nil => simp at hx
            | cons y r ih =>
              rcases List.mem_cons.1 hx with rfl | hx
              · simp [vxsT, ht]
              · simp [vxsT, ih hx]
          simp [this]
      simp only [List.mem_append, List.mem_map]
      exact .inl (.inl (.inl (.inr (.inl ⟨t, by simpa using hm, rfl⟩))))
    have hmap : args.map (rdX s.sl) = args.map (rdX s'.sl) := List.map_congr_left fun x hx' => hx x (.inr hx')
    have hbi : s.bx i = s'.bx i := by
      refine hs (.box i) ?_
      unfold rdL
      rw [h0]
      simp only [List.mem_append, List.mem_map]
      refine .inl (.inl (.inl (.inr (.inr ⟨i, ?_, rfl⟩))))
      cases args with
      | nil => simp at h4
      | cons y r =>
        simp only [List.map_cons, List.cons.injEq] at h4
        simp [ptrsT, h4.1]
    exact .bcall f args g ret i off rest ob ob' h0 (hon h1) (by rw [← hx f (.inl rfl)]; exact h2) h3 (by rw [← hmap]; exact h4) (by rw [← hbi]; exact h5) h6 h7 h8 h9 h10

/-- Operations one behind the other, each told with what it looked at. -/
inductive VRun (P : Program) (L : Nat → Bool) : List VOper → St → List (Option Nat × SD) → List (List Res) → St → Prop
  | nil (S : St) : VRun P L [] S [] [] S
  | cons (o : VOper) (os : List VOper) (S : St) (d : SD) (ds : List (Option Nat × SD)) (rs : List (List Res)) (S' : St) : VStep P L o S.fs S.h.length d → VRun P L os (S.app o.dst d) ds rs S' →
      VRun P L (o :: os) S ((o.dst, d) :: ds) (rdL o S.fs.sl S.h.length :: rs) S'

/-- Of these and of those ahead of them: a set, as a number's bits. -/
def maskOf (acc : List Nat) : List Nat → Nat
  | [] => 0
  | j :: r => maskOf acc r ||| (2 ^ j ||| acc.getD j 0)

/-- Those ahead of each one. -/
def befores : List VOper → List Nat → List Nat
  | [], acc => acc
  | o :: r, acc => befores r (acc ++ [maskOf acc o.deps])

theorem maskOf_spec {acc : List Nat} {i : Nat} : ∀ {l : List Nat}, (maskOf acc l).testBit i = true → i ∈ l ∨ ∃ j, j ∈ l ∧ (acc.getD j 0).testBit i = true
  | [], h => by simp [maskOf] at h
  | j :: r, h => by
    rw [maskOf, Nat.testBit_or, Nat.testBit_or, Bool.or_eq_true, Bool.or_eq_true] at h
    rcases h with h | h | h
    · rcases maskOf_spec h with h | ⟨k, h1, h2⟩
      · exact .inl (by simp [h])
      · exact .inr ⟨k, by simp [h1], h2⟩
    · rw [Nat.testBit_two_pow] at h
      have : j = i := by simpa using h
      exact .inl (by simp [this])
    · exact .inr ⟨j, by simp, h⟩

def meets (a b : List Res) : Bool := a.any fun x => b.contains x

/-- Of any two that meddle with each other the second waits for the first. -/
def drawOk (bs : List Nat) (ws rs : List (List Res)) : Bool :=
  (List.range ws.length).all fun j => (List.range j).all fun i =>
    (bs.getD j 0).testBit i || !(meets (ws.getD i []) (ws.getD j []) || meets (ws.getD i []) (rs.getD j []) || meets (rs.getD i []) (ws.getD j []))

def depsOk (l : List VOper) : Bool := (List.range l.length).all fun j => ((l.getD j default).deps).all fun i => decide (i < j)

end Go.Proofs.Ytjlcnnijpmijhaa.V

/- A small logic of values over the model, part 22: a region whose order is open, in whatever order. -/
namespace Go.Proofs.Ytjlcnnijpmijhaa.V

theorem befores_append : ∀ (l : List VOper) (acc : List Nat), ∃ r, befores l acc = acc ++ r ∧ r.length = l.length
  | [], acc => ⟨[], by simp [befores], rfl⟩
  | o :: l, acc => by
    obtain ⟨r, h1, h2⟩ := befores_append l (acc ++ [maskOf acc o.deps])
    exact ⟨maskOf acc o.deps :: r, by rw [befores, h1]; simp, by simp [h2]⟩

/-- What stands in the list of those ahead: a dependency, or one ahead of a dependency. -/
theorem befores_spec : ∀ (l : List VOper) (acc : List Nat) (k : Nat) (o : VOper), l[k]? = some o → (∀ i, i ∈ o.deps → i < acc.length + k) →
    ∀ i, ((befores l acc).getD (acc.length + k) 0).testBit i = true → i ∈ o.deps ∨ ∃ j, j ∈ o.deps ∧ ((befores l acc).getD j 0).testBit i = true
  | [], acc, k, o, h, _, i, hi => by simp at h
  | p :: l, acc, 0, o, h, hd, i, hi => by
    simp at h
    subst h
    rw [befores] at hi ⊢
    obtain ⟨r, h1, h2⟩ := befores_append l (acc ++ [maskOf acc p.deps])
    rw [h1] at hi ⊢
    simp only [Nat.add_zero] at hi
    have e : ((acc ++ [maskOf acc p.deps]) ++ r).getD acc.length 0 = maskOf acc p.deps := by
      simp [List.getD_eq_getElem?_getD]
    rw [e] at hi
    rcases maskOf_spec hi with hi | ⟨j, hj, hij⟩
    · exact .inl hi
    · refine .inr ⟨j, hj, ?_⟩
      have hjl : j < acc.length := by have := hd j hj; omega
      rw [List.getD_eq_getElem?_getD, List.append_assoc, List.getElem?_append_left hjl, ← List.getD_eq_getElem?_getD]
      exact hij
  | p :: l, acc, k + 1, o, h, hd, i, hi => by
    rw [befores] at hi ⊢
    have := befores_spec l (acc ++ [maskOf acc p.deps]) k o (by simpa using h) (fun i hi => by have := hd i hi; simp; omega) i
    simp only [List.length_append, List.length_singleton] at this
    rw [show acc.length + (k + 1) = acc.length + 1 + k by omega] at hi
    exact this hi

theorem before_closed {vops : List VOper} (hdep : depsOk vops = true) {M : Nat → Bool} (hM : ∀ j o, vops[j]? = some o → M j = true → ∀ i, i ∈ o.deps → M i = true) :
    ∀ (j : Nat) (o : VOper), vops[j]? = some o → (M j = true ∨ ∀ i, i ∈ o.deps → M i = true) → ∀ i, ((befores vops []).getD j 0).testBit i = true → M i = true := by
  intro j
  induction j using Nat.strongRecOn with
  | _ j ih =>
    intro o ho hj i hi
    have hd : ∀ i, i ∈ o.deps → i < j := by
      intro i hi
      unfold depsOk at hdep
      rw [List.all_eq_true] at hdep
      have hjl : j < vops.length := by
        rcases Nat.lt_or_ge j vops.length with h' | h'
        · exact h'
        · simp [List.getElem?_eq_none h'] at ho
      have := hdep j (List.mem_range.2 hjl)
      rw [List.all_eq_true] at this
      have e : vops.getD j default = o := by simp [List.getD_eq_getElem?_getD, ho]
      rw [e] at this
      simpa using this i hi
    have hdeps : ∀ i, i ∈ o.deps → M i = true := by
      rcases hj with hj | hj
      · exact hM j o ho hj
      · exact hj
    have := befores_spec vops [] j o ho (by simpa using hd) i (by simpa using hi)
    rcases this with h1 | ⟨q, hq, h1⟩
    · exact hdeps i h1
    · have hql : q < vops.length := by
        have := hd q hq
        rcases Nat.lt_or_ge j vops.length with h' | h'
        · omega
        · simp [List.getElem?_eq_none h'] at ho
      exact ih q (hd q hq) _ (List.getElem?_eq_getElem hql) (.inl (hdeps q hq)) i h1

theorem VRun.get {P : Program} {L : Nat → Bool} : ∀ {os : List VOper} {S : St} {ds : List (Option Nat × SD)} {rs : List (List Res)} {S' : St}, VRun P L os S ds rs S' → (∀ o, o ∈ os → ∀ t, o.dst = some t → t < S.t.length) →
    ds.length = os.length ∧ rs.length = os.length ∧ S'.fs = runF ds (fun _ => true) 0 S.fs ∧ S'.t.length = S.t.length ∧ S.h.length ≤ S'.h.length ∧
    ∀ (k : Nat) (o : VOper), os[k]? = some o → ∃ d id, ds[k]? = some (o.dst, d) ∧ VStep P L o (runF ds (fun j => decide (j < k)) 0 S.fs) id d ∧ rs[k]? = some (rdL o (runF ds (fun j => decide (j < k)) 0 S.fs).sl id) ∧
      (runF ds (fun j => decide (j < k)) 0 S.fs).bx id = none
  | _, _, _, _, _, .nil S, _ => ⟨rfl, rfl, rfl, rfl, Nat.le_refl _, by simp⟩
  | _, _, _, _, _, .cons o os S d ds rs S' st h, hd => by
    have happ := St.app_fs (S := S) (dst := o.dst) (d := d) (fun t ht => hd o (by simp) t ht) st.box_le
    obtain ⟨k1, k2, k3, k4, k5, k6⟩ := VRun.get h (fun o' ho' t ht => by rw [St.app_length]; exact hd o' (by simp [ho']) t ht)
    have shift : ∀ (M : Nat → Bool) (s : FS), runF ds (fun j => M (j + 1)) 0 s = runF ds M 1 s := by
      intro M s
      have : ∀ (l : List (Option Nat × SD)) (i : Nat) (s : FS), runF l (fun j => M (j + 1)) i s = runF l M (i + 1) s := by
        intro l
        induction l with
        | nil => intro i s; rfl
        | cons p l ih => intro i s; rw [runF, runF, ih]
      exact this ds 0 s
    refine ⟨by simp [k1], by simp [k2], ?_, by rw [k4, St.app_length], Nat.le_trans (boxL_length _ _) k5, fun k o' ho' => ?_⟩
    · rw [k3, runF]
      simp only [↓reduceIte]
      rw [happ]
      exact shift (fun _ => true) _
    · cases k with
      | zero =>
        simp at ho'
        subst ho'
        have e : runF ((o.dst, d) :: ds) (fun j => decide (j < 0)) 0 S.fs = S.fs := runF_none _ _ _ _ (fun j _ => by simp)
        rw [e]
        exact ⟨d, S.h.length, rfl, st, rfl, S.fresh⟩
      | succ k =>
        obtain ⟨d', id, q1, q2, q3, q4⟩ := k6 k o' (by simpa using ho')
        have e : runF ((o.dst, d) :: ds) (fun j => decide (j < k + 1)) 0 S.fs = runF ds (fun j => decide (j < k)) 0 (S.app o.dst d).fs := by
          rw [runF]
          simp only [Nat.zero_lt_succ, decide_true, ↓reduceIte]
          rw [happ, ← shift (fun j => decide (j < k + 1))]
          congr 1
          funext j
          simp
        rw [e]
        exact ⟨d', id, by simpa using q1, q2, by simpa using q3, q4⟩

theorem runF_has : ∀ (zs : List (Option Nat × SD)) (M : Nat → Bool) (i : Nat) (s : FS) (j : Nat), s.has j → (runF zs M i s).has j
  | [], M, i, s, j, h => h
  | p :: zs, M, i, s, j, h => by
    rw [runF]
    refine runF_has zs M (i + 1) _ j ?_
    split
    · obtain ⟨o, ho⟩ := h
      unfold FS.has
      rw [app_box]
      cases p.2.b with
      | none => exact ⟨o, ho⟩
      | some q =>
        simp only
        split
        · exact ⟨_, rfl⟩
        · exact ⟨o, ho⟩
    · exact h

theorem meets_of {a b : List Res} {r : Res} (h1 : r ∈ a) (h2 : r ∈ b) : meets a b = true := by
  unfold meets
  rw [List.any_eq_true]
  exact ⟨r, h1, by simpa using h2⟩

theorem drawOk_spec {bs : List Nat} {ws rs : List (List Res)} (h : drawOk bs ws rs = true) {i j : Nat} (hij : i < j) (hj : j < ws.length) (hn : ¬ (bs.getD j 0).testBit i = true) {r : Res} :
    (r ∈ ws.getD i [] → r ∉ ws.getD j []) ∧ (r ∈ ws.getD i [] → r ∉ rs.getD j []) ∧ (r ∈ rs.getD i [] → r ∉ ws.getD j []) := by
  unfold drawOk at h
  rw [List.all_eq_true] at h
  have h1 := h j (List.mem_range.2 hj)
  rw [List.all_eq_true] at h1
  have h2 := h1 i (List.mem_range.2 hij)
  simp only [Bool.or_eq_true, Bool.not_eq_true', Bool.or_eq_false_iff] at h2
  rcases h2 with h2 | ⟨⟨h2, h3⟩, h4⟩
  · exact absurd h2 hn
  · exact ⟨(fun a b => by rw [meets_of a b] at h2; cases h2), (fun a b => by rw [meets_of a b] at h3; cases h3), (fun a b => by rw [meets_of a b] at h4; cases h4)⟩

theorem any_sound {P : Program} {L : Nat → Bool} {ops : Array Oper} {vops : List VOper} (hres : ∀ (i : Nat) (o : Oper), ops[i]? = some o → ∃ vo, vops[i]? = some vo ∧ resOper P true ops o = some vo) (hlen : vops.length = ops.size) {N : Nat}
    (hdst : ∀ vo, vo ∈ vops → ∀ t, vo.dst = some t → t < N) (hdep : depsOk vops = true) {S S' : St} {ds : List (Option Nat × SD)} {rs : List (List Res)} (hrun : VRun P L vops S ds rs S') (hN : S.t.length = N)
    (hok : drawOk (befores vops []) (ds.map fun p => wrL p.1 p.2) rs = true) {Q : Exit → Act → World → Prop} :
    ∀ (fuel : Nat) (listed : Array Bool) (a : Act) (w : World) (fr pi : Nat → Nat) (own : Res → List Nat), listed.size = ops.size → fuel = (listed.toList.filter (fun b => !b)).length →
      (∀ j o, vops[j]? = some o → listed.getD j false = true → ∀ i, i ∈ o.deps → listed.getD i false = true) →
      Rel w fr pi own (runF ds (fun j => listed.getD j false) 0 S.fs) a.tmps → a.tmps.size = N →
      (∀ a' w' fr' pi' own', a'.defers = a.defers → a'.tmps.size = N → Rel w' fr' pi' own' S'.fs a'.tmps → Ext w w' fr fr' pi pi' own own' (runF ds (fun j => listed.getD j false) 0 S.fs).has → Q .normal a' w') →
      wpAny P .any ops Q fuel listed a w := by
  obtain ⟨l1, l2, l3, l4, l5, l6⟩ := hrun.get (fun o ho t ht => by rw [hN]; exact hdst o ho t ht)
  have hdepj : ∀ (j : Nat) (o : VOper), vops[j]? = some o → ∀ i, i ∈ o.deps → i < j := by
    intro j o ho i hi
    have h := hdep
    unfold depsOk at h
    rw [List.all_eq_true] at h
    have hjl : j < vops.length := by
      rcases Nat.lt_or_ge j vops.length with h' | h'
      · exact h'
      · simp [List.getElem?_eq_none h'] at ho
    have := h j (List.mem_range.2 hjl)
    rw [List.all_eq_true] at this
    have e : vops.getD j default = o := by simp [List.getD_eq_getElem?_getD, ho]
    rw [e] at this
    simpa using this i hi
  -- who is ready
  have hready : ∀ (listed : Array Bool), listed.size = ops.size → ∀ i, i ∈ Region.ready .any ops listed ↔ (i < ops.size ∧ listed.getD i false = false ∧ ∀ o, vops[i]? = some o → ∀ j, j ∈ o.deps → listed.getD j false = true) := by
    intro listed hsz i
    unfold Region.ready
    rw [List.mem_filter, List.mem_range]
    constructor
    · rintro ⟨hi, hc⟩
      simp only [Bool.and_eq_true, Bool.not_eq_true'] at hc
      refine ⟨hi, ?_, fun o ho j hj => ?_⟩
      · have := hc.1
        rw [Array.getD_eq_getD_getElem?, Array.getElem?_eq_getElem (by omega)] at this ⊢
        simpa using this
      · obtain ⟨vo, h1, h2⟩ := hres i ops[i] (Array.getElem?_eq_getElem hi)
        rw [ho] at h1
        cases h1
        have hdd := (resOper_inv h2).2.2.1 rfl
        rw [hdd] at hj
        unfold depsOf at hj
        obtain ⟨e, he, rfl⟩ := List.mem_map.1 hj
        obtain ⟨he1, he2⟩ := List.mem_filter.1 he
        have h3 := hc.2
        rw [Array.getElem?_eq_getElem hi] at h3
        simp only [Option.map_some, Option.getD_some] at h3
        rw [Array.all_eq_true_iff_forall_mem] at h3
        have := h3 e (by simpa using he1)
        simp only [he2, Bool.not_true, Bool.false_or] at this
        exact this
    · rintro ⟨hi, h1, h2⟩
      refine ⟨hi, ?_⟩
      simp only [Bool.and_eq_true, Bool.not_eq_true']
      refine ⟨?_, ?_⟩
      · rw [Array.getD_eq_getD_getElem?, Array.getElem?_eq_getElem (by omega)] at h1 ⊢
        simpa using h1
      · obtain ⟨vo, k1, k2⟩ := hres i ops[i] (Array.getElem?_eq_getElem hi)
        rw [Array.getElem?_eq_getElem hi]
        simp only [Option.map_some, Option.getD_some]
        rw [Array.all_eq_true_iff_forall_mem]
        intro e he
        cases hb : Region.binds .any e with
        | false => rfl
        | true =>
          simp only [Bool.not_true, Bool.false_or]
          refine h2 vo k1 e.on ?_
          rw [(resOper_inv k2).2.2.1 rfl]
          exact List.mem_map.2 ⟨e, List.mem_filter.2 ⟨by simpa using he, hb⟩, rfl⟩
  -- nobody is ready: all are done
  have hdone : ∀ (listed : Array Bool), listed.size = ops.size → Region.ready .any ops listed = [] → ∀ i, i < ops.size → listed.getD i false = true := by
    intro listed hsz hnil i
    induction i using Nat.strongRecOn with
    | _ i ih =>
      intro hi
      cases hb : listed.getD i false with
      | true => rfl
      | false =>
        exfalso
        have : i ∈ Region.ready .any ops listed := (hready listed hsz i).2 ⟨hi, hb, fun o ho j hj => ih j (hdepj i o ho j hj) (by have := hdepj i o ho j hj; omega)⟩
        rw [hnil] at this
        simp at this
  have hend : ∀ (listed : Array Bool) (a : Act) (w : World) (fr pi : Nat → Nat) (own : Res → List Nat), listed.size = ops.size → Region.ready .any ops listed = [] → Rel w fr pi own (runF ds (fun j => listed.getD j false) 0 S.fs) a.tmps → Rel w fr pi own S'.fs a.tmps := by
    intro listed a w fr pi own hsz hnil hr
    rw [l3]
    have : runF ds (fun j => listed.getD j false) 0 S.fs = runF ds (fun _ => true) 0 S.fs := runF_congr ds 0 S.fs (fun j hj => by
      rw [Nat.zero_add]
      exact hdone listed hsz hnil j (by omega))
    rw [← this]
    exact hr
  intro fuel
  induction fuel with
  | zero =>
    intro listed a w fr pi own hsz hf hcl hr hts hQ
    have hall : ∀ i, i < ops.size → listed.getD i false = true := by
      intro i hi
      have hb : listed[i]'(by omega) ∈ listed.toList := by simp
      rw [Array.getD_eq_getD_getElem?, Array.getElem?_eq_getElem (by omega)]
      simp only [Option.getD_some]
      cases hbb : listed[i]'(by omega) with
      | true => rfl
      | false =>
        exfalso
        have : false ∈ listed.toList.filter (fun b => !b) := List.mem_filter.2 ⟨by rw [← hbb]; exact hb, rfl⟩
        have hlen0 := List.eq_nil_of_length_eq_zero hf.symm
        rw [hlen0] at this
        simp at this
    have hnil : Region.ready .any ops listed = [] := by
      apply List.eq_nil_iff_forall_not_mem.2
      intro i hi
      obtain ⟨h1, h2, _⟩ := (hready listed hsz i).1 hi
      rw [hall i h1] at h2
      cases h2
    refine ⟨hnil, ?_⟩
    exact hQ a w fr pi own rfl hts (hend listed a w fr pi own hsz hnil hr) (Ext.refl _ _ _ _ _)
  | succ fuel ih =>
    intro listed a w fr pi own hsz hf hcl hr hts hQ
    refine ⟨fun hnil => hQ a w fr pi own rfl hts (hend listed a w fr pi own hsz hnil hr) (Ext.refl _ _ _ _ _), fun i hi => ?_⟩
    obtain ⟨hio, hil, hid⟩ := (hready listed hsz i).1 hi
    obtain ⟨vo, hvo, hrs⟩ := hres i ops[i] (Array.getElem?_eq_getElem hio)
    obtain ⟨d, id, q1, q2, q3, q4⟩ := l6 i vo hvo
    have hdeps := hid vo hvo
    -- those ahead are done, those that wait for it are not
    have hbef : ∀ j, ((befores vops []).getD i 0).testBit j = true → listed.getD j false = true := before_closed hdep hcl i vo hvo (.inr hdeps)
    have haft : ∀ (j : Nat) (oj : VOper), vops[j]? = some oj → listed.getD j false = true → ¬ ((befores vops []).getD j 0).testBit i = true := by
      intro j oj hj hlj hmem
      have := before_closed hdep hcl j oj hj (.inl hlj) i hmem
      rw [hil] at this
      cases this
    have hws : ∀ j, (ds.map fun p => wrL p.1 p.2).getD j [] = match ds[j]? with | some p => wrL p.1 p.2 | none => [] := by
      intro j
      rw [List.getD_eq_getElem?_getD, List.getElem?_map]
      cases ds[j]? <;> rfl
    have hri : rs.getD i [] = rdL vo (runF ds (fun j => decide (j < i)) 0 S.fs).sl id := by rw [List.getD_eq_getElem?_getD, q3]; rfl
    have hwi : (ds.map fun p => wrL p.1 p.2).getD i [] = wrL vo.dst d := by rw [hws, q1]
    have hdsl : (ds.map fun p => wrL p.1 p.2).length = ops.size := by rw [List.length_map]; omega
    have hsame : ∀ r, r ∈ rdL vo (runF ds (fun j => decide (j < i)) 0 S.fs).sl id → (runF ds (fun j => decide (j < i)) 0 S.fs).same (runF ds (fun j => listed.getD j false) 0 S.fs) r := by
      intro r hr'
      refine runF_agree ds _ _ 0 _ _ (FS.same_refl _ _) (fun j p hp hrw => ?_)
      simp only [Nat.zero_add]
      have hjl : j < ds.length := by
        rcases Nat.lt_or_ge j ds.length with h' | h'
        · exact h'
        · simp [List.getElem?_eq_none h'] at hp
      have hwj : (ds.map fun p => wrL p.1 p.2).getD j [] = wrL p.1 p.2 := by rw [hws, hp]
      rcases Nat.lt_trichotomy j i with h | h | h
      · simp only [h, decide_true]
        refine (Classical.byContradiction fun hno => ?_ : listed.getD j false = true).symm
        have hnb : ¬ ((befores vops []).getD i 0).testBit j = true := fun hm => hno (hbef j hm)
        exact (drawOk_spec hok h (by omega) hnb (r := r)).2.1 (by rw [hwj]; exact hrw) (by rw [hri]; exact hr')
      · subst h
        simp [hil]
      · have hnd : ¬ j < i := by omega
        simp only [hnd, decide_false]
        cases hlj : listed.getD j false with
        | false => rfl
        | true =>
          exfalso
          have hnb := haft j _ (List.getElem?_eq_getElem (by omega)) hlj
          exact (drawOk_spec hok h (by omega) hnb (r := r)).2.2 (by rw [hri]; exact hr') (by rw [hwj]; exact hrw)
    have hstep := q2.congr hsame
    have hidd : vo.op.isAlloc = true → (runF ds (fun j => listed.getD j false) 0 S.fs).bx id = none := by
      intro hal
      have := hsame (.box id) (by unfold rdL; simp [hal])
      have h2 : (runF ds (fun j => decide (j < i)) 0 S.fs).bx id = (runF ds (fun j => listed.getD j false) 0 S.fs).bx id := this
      rw [← h2]; exact q4
    have hdo : (ops[i]).dst = vo.dst := (resOper_inv hrs).1.symm
    refine step_exec (Array.getElem?_eq_getElem hio) hrs hr (fun t ht => by rw [hts]; exact hdst vo (List.mem_of_getElem? hvo) t (by rw [← hdo]; exact ht)) hidd hstep fun a' w' fr' pi' own' e1 e2 e3 e4 => ?_
    have hins := runF_insert (zs := ds) (M := fun j => listed.getD j false) (p := i) (q := (vo.dst, d)) S.fs q1 hil (fun j q' hij hq' hlj r hr1 hr2 => by
      have hnb := haft j (vops[j]'(by
        rcases Nat.lt_or_ge j ds.length with h' | h'
        · omega
        · simp [List.getElem?_eq_none h'] at hq')) (List.getElem?_eq_getElem _) hlj
      have hjl : j < ds.length := by
        rcases Nat.lt_or_ge j ds.length with h' | h'
        · exact h'
        · simp [List.getElem?_eq_none h'] at hq'
      exact (drawOk_spec hok hij (by omega) hnb (r := r)).1 (by rw [hwi]; exact hr1) (by rw [hws, hq']; exact hr2))
    have hM : (fun j => (listed.setIfInBounds i true).getD j false) = addM (fun j => listed.getD j false) i := by
      funext j
      unfold addM
      by_cases hj : j = i
      · subst hj
        rw [if_pos rfl, Array.getD_eq_getD_getElem?, Array.getElem?_setIfInBounds_self_of_lt (by omega)]
        rfl
      · rw [if_neg hj, Array.getD_eq_getD_getElem?, Array.getElem?_setIfInBounds_ne (by omega), ← Array.getD_eq_getD_getElem?]
    have hMj : ∀ j, (listed.setIfInBounds i true).getD j false = addM (fun j => listed.getD j false) i j := fun j => congrFun hM j
    have hcount : ∀ (l : List Bool) (k : Nat), l[k]? = some false → ((l.set k true).filter (fun b => !b)).length + 1 = (l.filter (fun b => !b)).length := by
      intro l
      induction l with
      | nil => intro k hk; simp at hk
      | cons b l ihl =>
        intro k hk
        cases k with
        | zero => simp at hk; subst hk; simp
        | succ k =>
          have := ihl k (by simpa using hk)
          cases b <;> simp <;> omega
    refine ih (listed.setIfInBounds i true) a' w' fr' pi' own' (by simpa using hsz) ?_ ?_ ?_ (by omega) ?_
    · have hb : listed.toList[i]? = some false := by
        rw [Array.getD_eq_getD_getElem?, Array.getElem?_eq_getElem (by omega)] at hil
        simp only [Option.getD_some] at hil
        rw [Array.getElem?_toList, Array.getElem?_eq_getElem (by omega), hil]
      have := hcount listed.toList i hb
      rw [Array.toList_setIfInBounds]
      omega
    · intro j o ho hj k hk
      rw [hMj] at hj ⊢
      unfold addM at hj ⊢
      by_cases hji : j = i
      · subst hji
        rw [hvo] at ho
        cases ho
        split
        · rfl
        · exact hdeps k hk
      · rw [if_neg hji] at hj
        split
        · rfl
        · exact hcl j o ho hj k hk
    · rw [hM, hins]
      exact e3
    · intro a2 w2 fr2 pi2 own2 g1 g2 g3 g4
      refine hQ a2 w2 fr2 pi2 own2 (g1.trans e1) g2 g3 (e4.trans g4 (fun k hk => ?_))
      rw [hM, hins]
      obtain ⟨ob, hob⟩ := hk
      unfold FS.has
      rw [app_box]
      cases d.b with
      | none => exact ⟨ob, hob⟩
      | some p =>
        simp only
        split
        · exact ⟨_, rfl⟩
        · exact ⟨ob, hob⟩

end Go.Proofs.Ytjlcnnijpmijhaa.V

/- A small logic of values over the model, part 23: code: one behind the other, branches, blocks, loops. -/
namespace Go.Proofs.Ytjlcnnijpmijhaa.V

inductive VC where
  | skip
  | reg (ops : List VOper)
  | dreg (ops : List VOper)
  | seq (a b : VC)
  | cond (x : VX) (t e : VC)
  | block (id : Nat) (c : VC)
  | loop (c : VC)
  | exit (id : Nat)
  | ret
  deriving Inhabited

def resOps (P : Program) (dr : Bool) (ops : Array Oper) : List Oper → Option (List VOper)
  | [] => some []
  | o :: r => (resOper P dr ops o).bind fun v => (resOps P dr ops r).map fun l => v :: l

def dstOk (N : Nat) (l : List VOper) : Bool := l.all fun o => match o.dst with | some d => decide (d < N) | none => true

def comp (P : Program) (N : Nat) : Code → Option VC
  | .skip => some .skip
  | .region _ ops false => (resOps P false ops ops.toList).bind fun l => if dstOk N l then some (.reg l) else none
  | .region _ ops true => if P.follows .mixedOrders then (resOps P true ops ops.toList).bind fun l => if dstOk N l && depsOk l then some (.dreg l) else none else none
  | .seq a b => (comp P N a).bind fun x => (comp P N b).map fun y => .seq x y
  | .cond c a b => (resX c).bind fun z => (comp P N a).bind fun x => (comp P N b).map fun y => .cond z x y
  | .block id c => (comp P N c).map (.block id)
  | .loop c => (comp P N c).map .loop
  | .exit id => some (.exit id)
  | .ret => some .ret
  | _ => none

inductive VE where
  | normal
  | exit (id : Nat)
  | ret
  deriving DecidableEq

def VE.out : VE → Exit
  | .normal => .normal
  | .exit id => .exit id
  | .ret => .ret

/-- How a run ends: in a state that the world holds, nothing else having turned. -/
def VQ (N : Nat) (Q : VE → St → Prop) (h0 : Nat) (w : World) (fr pi : Nat → Nat) (own : Res → List Nat) (e : Exit) (a' : Act) (w' : World) : Prop :=
  ∃ x S' fr' pi' own', e = VE.out x ∧ Q x S' ∧ S'.t.length = N ∧ h0 ≤ S'.h.length ∧ Rel w' fr' pi' own' (St.fs S') a'.tmps ∧ a'.tmps.size = N ∧ a'.defers = [] ∧ Ext w w' fr fr' pi pi' own own' (fun i => i < h0)

/-- From the state S the code comes to Q; the first h0 boxes stay. -/
def Vwp (P : Program) (_L : Nat → Bool) (N h0 : Nat) (c : VC) (Q : VE → St → Prop) (S : St) : Prop :=
  S.t.length = N → h0 ≤ S.h.length → ∀ c0, comp P N c0 = some c → ∀ (a : Act) (w : World) (fr pi : Nat → Nat) (own : Res → List Nat), Rel w fr pi own S.fs a.tmps → a.tmps.size = N → a.defers = [] →
    c0.wp P (VQ N Q h0 w fr pi own) a w

theorem VQ.mono {N : Nat} {Q Q' : VE → St → Prop} {h0 : Nat} {w : World} {fr pi : Nat → Nat} {own : Res → List Nat} {e : Exit} {a' : Act} {w' : World} (h : VQ N Q h0 w fr pi own e a' w') (hq : ∀ x S, Q x S → Q' x S) : VQ N Q' h0 w fr pi own e a' w' := by
  obtain ⟨x, S', fr', pi', own', h1, h2, h3⟩ := h
  exact ⟨x, S', fr', pi', own', h1, hq _ _ h2, h3⟩

theorem Vwp.mono {P : Program} {L : Nat → Bool} {N h0 : Nat} {c : VC} {Q Q' : VE → St → Prop} {S : St} (h : Vwp P L N h0 c Q S) (hq : ∀ x S, Q x S → Q' x S) : Vwp P L N h0 c Q' S := by
  intro hN hk c0 hc a w fr pi own hr hs hd
  exact wp_mono (h hN hk c0 hc a w fr pi own hr hs hd) fun e a w hh => hh.mono hq

/-- A run that goes on where another one has come to. -/
theorem VQ.trans {N : Nat} {Q : VE → St → Prop} {h0 : Nat} {w w1 : World} {fr pi fr1 pi1 : Nat → Nat} {own own1 : Res → List Nat} (he : Ext w w1 fr fr1 pi pi1 own own1 (fun i => i < h0)) {e : Exit} {a' : Act} {w' : World}
    (h : VQ N Q h0 w1 fr1 pi1 own1 e a' w') : VQ N Q h0 w fr pi own e a' w' := by
  obtain ⟨x, S', fr', pi', own', k1, k2, k3, k4, k5, k6, k7, k8⟩ := h
  exact ⟨x, S', fr', pi', own', k1, k2, k3, k4, k5, k6, k7, he.trans k8 (fun i hi => hi)⟩

section
variable {P : Program} {L : Nat → Bool} {N h0 : Nat} {Q : VE → St → Prop} {S : St}

theorem comp_skip {c0 : Code} (h : comp P N c0 = some .skip) : c0 = .skip := by
  unfold comp at h
  split at h <;> simp_all [Option.bind_eq_some_iff]
theorem comp_ret {c0 : Code} (h : comp P N c0 = some .ret) : c0 = .ret := by
  unfold comp at h
  split at h <;> simp_all [Option.bind_eq_some_iff]
theorem comp_exit {c0 : Code} {id : Nat} (h : comp P N c0 = some (.exit id)) : c0 = .exit id := by
  unfold comp at h
  split at h <;> simp_all [Option.bind_eq_some_iff]
theorem comp_seq {c0 : Code} {a b : VC} (h : comp P N c0 = some (.seq a b)) : ∃ x y, c0 = .seq x y ∧ comp P N x = some a ∧ comp P N y = some b := by
  unfold comp at h
  split at h <;> simp_all [Option.bind_eq_some_iff]
  exact ⟨_, _, ⟨rfl, rfl⟩, h⟩
theorem comp_cond {c0 : Code} {z : VX} {a b : VC} (h : comp P N c0 = some (.cond z a b)) : ∃ q x y, c0 = .cond q x y ∧ resX q = some z ∧ comp P N x = some a ∧ comp P N y = some b := by
  unfold comp at h
  split at h <;> simp_all [Option.bind_eq_some_iff]
  obtain ⟨z', h1, x', h2, y', h3, rfl, rfl, rfl⟩ := h
  exact ⟨_, _, _, ⟨rfl, rfl, rfl⟩, h1, h2, h3⟩
theorem comp_block {c0 : Code} {id : Nat} {a : VC} (h : comp P N c0 = some (.block id a)) : ∃ x, c0 = .block id x ∧ comp P N x = some a := by
  unfold comp at h
  split at h <;> simp_all [Option.bind_eq_some_iff]
theorem comp_loop {c0 : Code} {a : VC} (h : comp P N c0 = some (.loop a)) : ∃ x, c0 = .loop x ∧ comp P N x = some a := by
  unfold comp at h
  split at h <;> simp_all [Option.bind_eq_some_iff]
theorem comp_reg {c0 : Code} {l : List VOper} (h : comp P N c0 = some (.reg l)) : ∃ id ops, c0 = .region id ops false ∧ resOps P false ops ops.toList = some l ∧ dstOk N l = true := by
  unfold comp at h
  split at h <;> simp_all [Option.bind_eq_some_iff]
  exact ⟨_, _, ⟨rfl, rfl⟩, h.1⟩
theorem comp_dreg {c0 : Code} {l : List VOper} (h : comp P N c0 = some (.dreg l)) : ∃ id ops, c0 = .region id ops true ∧ resOps P true ops ops.toList = some l ∧ dstOk N l = true ∧ depsOk l = true ∧ P.follows .mixedOrders = true := by
  unfold comp at h
  split at h <;> simp_all [Option.bind_eq_some_iff]
  exact ⟨_, _, ⟨rfl, rfl⟩, h.2.1⟩

theorem Vwp.skip (h : Q .normal S) : Vwp P L N h0 .skip Q S := by
  intro hN hk c0 hc a w fr pi own hr hs hd
  cases comp_skip hc
  exact wp_skip ⟨.normal, S, fr, pi, own, rfl, h, hN, hk, hr, hs, hd, Ext.refl _ _ _ _ _⟩

theorem Vwp.ret (h : Q .ret S) : Vwp P L N h0 .ret Q S := by
  intro hN hk c0 hc a w fr pi own hr hs hd
  cases comp_ret hc
  exact wp_ret ⟨.ret, S, fr, pi, own, rfl, h, hN, hk, hr, hs, hd, Ext.refl _ _ _ _ _⟩

theorem Vwp.exit {id : Nat} (h : Q (.exit id) S) : Vwp P L N h0 (.exit id) Q S := by
  intro hN hk c0 hc a w fr pi own hr hs hd
  cases comp_exit hc
  exact wp_exit ⟨.exit id, S, fr, pi, own, rfl, h, hN, hk, hr, hs, hd, Ext.refl _ _ _ _ _⟩

/-- What stands behind: only if one comes to its end. -/
def thenQ (k : St → Prop) (Q : VE → St → Prop) : VE → St → Prop
  | .normal, S => k S
  | x, S => Q x S

theorem Vwp.seq {x y : VC} (h : Vwp P L N h0 x (thenQ (Vwp P L N h0 y Q) Q) S) : Vwp P L N h0 (.seq x y) Q S := by
  intro hN hk c0 hc a w fr pi own hr hs hd
  obtain ⟨cx, cy, rfl, hx, hy⟩ := comp_seq hc
  refine wp_seq (wp_mono (h hN hk cx hx a w fr pi own hr hs hd) fun e a1 w1 hh => ?_)
  obtain ⟨ex, S1, fr1, pi1, own1, rfl, k2, k3, k4, k5, k6, k7, k8⟩ := hh
  cases ex with
  | normal => exact wp_mono (k2 k3 k4 cy hy a1 w1 fr1 pi1 own1 k5 k6 k7) fun e a2 w2 hh => hh.trans k8
  | exit id => exact ⟨.exit id, S1, fr1, pi1, own1, rfl, k2, k3, k4, k5, k6, k7, k8⟩
  | ret => exact ⟨.ret, S1, fr1, pi1, own1, rfl, k2, k3, k4, k5, k6, k7, k8⟩

theorem Vwp.cond {z : VX} {x y : VC} {b : Bool} (hz : rdX S.fs.sl z = .bool b) (ht : b = true → Vwp P L N h0 x Q S) (hf : b = false → Vwp P L N h0 y Q S) : Vwp P L N h0 (.cond z x y) Q S := by
  intro hN hk c0 hc a w fr pi own hr hs hd
  obtain ⟨q, cx, cy, rfl, hq, hx, hy⟩ := comp_cond hc
  obtain ⟨O, h1, _⟩ := opnd hr hq
  rw [hz] at h1
  refine wp_cond_split h1.bool_inv (fun e => ht e hN hk cx hx a w fr pi own hr hs hd) (fun e => hf e hN hk cy hy a w fr pi own hr hs hd)

def blockQ (id : Nat) (Q : VE → St → Prop) : VE → St → Prop
  | .exit i, S => if i = id then Q .normal S else Q (.exit i) S
  | x, S => Q x S

theorem Vwp.block {id : Nat} {x : VC} (h : Vwp P L N h0 x (blockQ id Q) S) : Vwp P L N h0 (.block id x) Q S := by
  intro hN hk c0 hc a w fr pi own hr hs hd
  obtain ⟨cx, rfl, hx⟩ := comp_block hc
  refine wp_block (wp_mono (h hN hk cx hx a w fr pi own hr hs hd) fun e a1 w1 hh => ?_)
  obtain ⟨ex, S1, fr1, pi1, own1, rfl, k2, k3, k4, k5, k6, k7, k8⟩ := hh
  cases ex with
  | normal => exact ⟨.normal, S1, fr1, pi1, own1, rfl, k2, k3, k4, k5, k6, k7, k8⟩
  | ret => exact ⟨.ret, S1, fr1, pi1, own1, rfl, k2, k3, k4, k5, k6, k7, k8⟩
  | exit i =>
    simp only [VE.out, Exit.inBlock]
    simp only [blockQ] at k2
    split
    · rename_i hi
      rw [if_pos hi] at k2
      exact ⟨.normal, S1, fr1, pi1, own1, rfl, k2, k3, k4, k5, k6, k7, k8⟩
    · rename_i hi
      rw [if_neg hi] at k2
      exact ⟨.exit i, S1, fr1, pi1, own1, rfl, k2, k3, k4, k5, k6, k7, k8⟩

/-- A loop, where its body begins once more. -/
def LoopAt (P : Program) (c : Code) (Q : Exit → Act → World → Prop) (a : Act) (w : World) : Prop :=
  ∀ (b : Frame) (k : List Item) (cs : List Frame), ∃ e a' w', Q e a' w' ∧ Arrives P (lone (b.at a (.code c :: .inLoop c :: k)) cs w) b k cs e a' w'

theorem LoopAt.wp {c : Code} {Q : Exit → Act → World → Prop} {a : Act} {w : World} (h : LoopAt P c Q a w) : (Code.loop c).wp P Q a w := by
  intro b k cs
  obtain ⟨e, a', w', hq, harr⟩ := h b k cs
  exact ⟨e, a', w', hq, .of_steps (.one step_loop) harr⟩

theorem LoopAt.unfold {c : Code} {Q : Exit → Act → World → Prop} {a : Act} {w : World} (h : c.wp P (Exit.then (LoopAt P c Q) Q) a w) : LoopAt P c Q a w := by
  intro b k cs
  obtain ⟨e, a₁, w₁, hq, harr⟩ := h b (.inLoop c :: k) cs
  cases e with
  | normal =>
    obtain ⟨e₂, a₂, w₂, hq₂, harr₂⟩ := hq b k cs
    exact ⟨e₂, a₂, w₂, hq₂, .of_steps (Steps.trans harr (.one step_inLoop)) harr₂⟩
  | exit id => exact ⟨_, a₁, w₁, hq, .pass (x := .inLoop c) rfl (fun _ _ => .inl (by simp)) harr⟩
  | goto l => exact ⟨_, a₁, w₁, hq, .pass (x := .inLoop c) rfl (fun _ _ => .inl (by simp)) harr⟩
  | ret => exact ⟨_, a₁, w₁, hq, .pass (x := .inLoop c) rfl (fun _ _ => .inl (by simp)) harr⟩
  | panic ch => exact ⟨_, a₁, w₁, hq, .pass (x := .inLoop c) rfl (fun _ _ => .inl (by simp)) harr⟩
  | outgrown => exact ⟨_, a₁, w₁, hq, .pass (x := .inLoop c) rfl (fun _ _ => .inl (by simp)) harr⟩

/-- From the state S the loop over c comes to Q. -/
def Vloop (P : Program) (_L : Nat → Bool) (N h0 : Nat) (c : VC) (Q : VE → St → Prop) (S : St) : Prop :=
  S.t.length = N → h0 ≤ S.h.length → ∀ c0, comp P N c0 = some c → ∀ (a : Act) (w : World) (fr pi : Nat → Nat) (own : Res → List Nat), Rel w fr pi own S.fs a.tmps → a.tmps.size = N → a.defers = [] →
    LoopAt P c0 (VQ N Q h0 w fr pi own) a w

theorem LoopAt.mono {c : Code} {Q Q' : Exit → Act → World → Prop} {a : Act} {w : World} (h : LoopAt P c Q a w) (hq : ∀ e a w, Q e a w → Q' e a w) : LoopAt P c Q' a w := by
  intro b k cs
  obtain ⟨e, a', w', h1, h2⟩ := h b k cs
  exact ⟨e, a', w', hq _ _ _ h1, h2⟩

theorem Vwp.loop {c : VC} (h : Vloop P L N h0 c Q S) : Vwp P L N h0 (.loop c) Q S := by
  intro hN hk c0 hc a w fr pi own hr hs hd
  obtain ⟨cx, rfl, hx⟩ := comp_loop hc
  exact (h hN hk cx hx a w fr pi own hr hs hd).wp

theorem Vloop.round {c : VC} (h : Vwp P L N h0 c (thenQ (Vloop P L N h0 c Q) Q) S) : Vloop P L N h0 c Q S := by
  intro hN hk c0 hc a w fr pi own hr hs hd
  refine LoopAt.unfold (wp_mono (h hN hk c0 hc a w fr pi own hr hs hd) fun e a1 w1 hh => ?_)
  obtain ⟨ex, S1, fr1, pi1, own1, rfl, k2, k3, k4, k5, k6, k7, k8⟩ := hh
  cases ex with
  | normal => exact (k2 k3 k4 c0 hc a1 w1 fr1 pi1 own1 k5 k6 k7).mono fun e a2 w2 hh => hh.trans k8
  | exit id => exact ⟨.exit id, S1, fr1, pi1, own1, rfl, k2, k3, k4, k5, k6, k7, k8⟩
  | ret => exact ⟨.ret, S1, fr1, pi1, own1, rfl, k2, k3, k4, k5, k6, k7, k8⟩

theorem resOps_get {dr : Bool} {ops : Array Oper} : ∀ {l : List Oper} {vs : List VOper}, resOps P dr ops l = some vs → vs.length = l.length ∧ ∀ (i : Nat) (o : Oper), l[i]? = some o → ∃ vo, vs[i]? = some vo ∧ resOper P dr ops o = some vo
  | [], vs, h => by
    simp [resOps] at h
    subst h
    simp
  | o :: r, vs, h => by
    simp only [resOps, Option.bind_eq_some_iff, Option.map_eq_some_iff] at h
    obtain ⟨v, h1, l', h2, rfl⟩ := h
    obtain ⟨k1, k2⟩ := resOps_get h2
    refine ⟨by simp [k1], fun i o' ho => ?_⟩
    cases i with
    | zero => simp at ho; subst ho; exact ⟨v, rfl, h1⟩
    | succ i => exact k2 i o' (by simpa using ho)

theorem dstOk_spec {l : List VOper} (h : dstOk N l = true) : ∀ vo, vo ∈ l → ∀ t, vo.dst = some t → t < N := by
  intro vo hv t ht
  unfold dstOk at h
  rw [List.all_eq_true] at h
  have := h vo hv
  rw [ht] at this
  simpa using this

theorem Vwp.reg {l : List VOper} {S' : St} (hs : VSeq P L l S S') (h : Q .normal S') : Vwp P L N h0 (.reg l) Q S := by
  intro hN hk c0 hc a w fr pi own hr hsz hd
  obtain ⟨id, ops, rfl, h1, h2⟩ := comp_reg hc
  obtain ⟨k1, k2⟩ := resOps_get h1
  refine wp_region ?_
  have hlen : l.length = ops.size := by simpa using k1
  have := seq_sound (P := P) (L := L) (ops := ops) (vops := l) (fun i o ho => k2 i o (by simpa using ho)) hlen (N := N) (dstOk_spec h2) (Q := VQ N Q h0 w fr pi own) l 0 S S' rfl hs hN a w fr pi own hr hsz
    (fun a' w' fr' pi' own' e1 e2 e3 e4 e5 e6 => ⟨.normal, S', fr', pi', own', rfl, h, e5, Nat.le_trans hk e6, e3, e2, e1.trans hd, e4.step, e4.fresh, fun i hi => e4.pi i ((St.has_iff S i).2 (Nat.lt_of_lt_of_le hi hk))⟩)
  rw [← List.range_eq_range', hlen] at this
  exact this

theorem Vwp.dreg {l : List VOper} {S' : St} {ds : List (Option Nat × SD)} {rs : List (List Res)} (hs : VRun P L l S ds rs S') (hok : drawOk (befores l []) (ds.map fun p => wrL p.1 p.2) rs = true) (h : Q .normal S') : Vwp P L N h0 (.dreg l) Q S := by
  intro hN hk c0 hc a w fr pi own hr hsz hd
  obtain ⟨id, ops, rfl, h1, h2, h3, h4⟩ := comp_dreg hc
  obtain ⟨k1, k2⟩ := resOps_get h1
  refine wp_region_any h4 ?_
  have hlen : l.length = ops.size := by simpa using k1
  have hget := hs.get (fun o ho t ht => by rw [hN]; exact dstOk_spec h2 o ho t ht)
  have hfalse : ∀ j, (Array.replicate ops.size false).getD j false = false := by
    intro j
    rw [Array.getD_eq_getD_getElem?]
    by_cases hj : j < ops.size
    · simp [hj]
    · rw [Array.getElem?_eq_none (by simpa using Nat.le_of_not_lt hj)]; rfl
  have hz0 : runF ds (fun j => (Array.replicate ops.size false).getD j false) 0 S.fs = S.fs := runF_none _ _ _ _ (fun j _ => hfalse j)
  have st0 : Step w w.drew fr fr (fun _ => False) := Step.drew w fr
  have hr0 : Rel w.drew fr pi own S.fs a.tmps := hr.step st0 (fun _ _ _ h => h)
  refine any_sound (fun i o ho => k2 i o (by simpa using ho)) hlen (N := N) (dstOk_spec h2) h3 hs hN hok ops.size (Array.replicate ops.size false) a _ fr pi own (by simp) (by simp) (fun j o ho hj => by rw [hfalse] at hj; cases hj)
    (by rw [hz0]; exact hr0) hsz (fun a' w' fr' pi' own' e1 e2 e3 e4 => ?_)
  rw [hz0] at e4
  refine ⟨.normal, S', fr', pi', own', rfl, h, by rw [hget.2.2.2.1]; exact hN, Nat.le_trans hk hget.2.2.2.2.1, e3, e2, e1.trans hd, ?_⟩
  have e5 : Ext w w.drew fr fr pi pi own own S.fs.has := ⟨st0.mono (fun _ _ h => h.elim), fun r b hb => .inl ⟨r, hb⟩, fun _ _ => rfl⟩
  have e6 := e5.trans e4 (fun i hi => hi)
  exact ⟨e6.step, e6.fresh, fun i hi => e6.pi i ((St.has_iff S i).2 (Nat.lt_of_lt_of_le hi hk))⟩

end
end Go.Proofs.Ytjlcnnijpmijhaa.V

/- A small logic of values over the model, part 24: functions: from a body to a contract. -/
namespace Go.Proofs.Ytjlcnnijpmijhaa.V

/-- A result: out of a slot, or out of a box that a slot points to. -/
inductive RV where
  | tmp (t : Nat)
  | cell (a : Nat) (g : Option Nat)
  deriving Inhabited

def resRV (P : Program) : List ResultVar → Option (List RV)
  | [] => some []
  | .tmp t :: r => (resRV P r).map fun l => .tmp t :: l
  | .cell a ty :: r => (aggOf P ty).bind fun g => (resRV P r).map fun l => .cell a g :: l

def rvAV (S : St) : RV → Option AV
  | .tmp t => some (S.t.getD t .undef)
  | .cell a g => match S.t.getD a .undef with
    | .ptr (some (i, off)) => match S.h[i]? with
      | some (.cells cs) => ldCells cs off g
      | _ => none
    | _ => none

def rvAVs (S : St) : List RV → Option (List AV)
  | [] => some []
  | r :: l => (rvAV S r).bind fun a => (rvAVs S l).map fun as => a :: as

def rvTmps : List RV → List Nat
  | [] => []
  | .tmp t :: l => t :: rvTmps l
  | .cell _ _ :: l => rvTmps l

/-- What a call's end is worth. -/
def retAV (l : List AV) : AV :=
  match l with
  | [a] => a
  | l => .tup l

theorem run_result {P : Program} {w : World} {fr pi : Nat → Nat} {own : Res → List Nat} {S : St} {tm : Array Value} (h : Rel w fr pi own S.fs tm) {rv : ResultVar} {r : RV} (hr : resRV P [rv] = some [r]) {x : AV} (hx : rvAV S r = some x) :
    ∃ v, ((match rv with
      | .tmp t => pure (tm.getD t Go.undef)
      | .cell a t => do loadVar t (← asAddr (tm.getD a Go.undef)) : Sem Value)).run P w = .ok v w ∧ Rep w fr pi x v (match r with | .tmp t => own (.slot t) | .cell _ _ => []) ∧ NP S.fs.has x := by
  cases rv with
  | tmp t =>
    simp [resRV] at hr
    subst hr
    simp only [rvAV] at hx
    cases hx
    exact ⟨_, rfl, h.slot t, h.slotnp t⟩
  | cell a ty =>
    simp only [resRV, Option.map_some, Option.bind_eq_some_iff] at hr
    obtain ⟨g, hg, e⟩ := hr
    cases e
    simp only [rvAV] at hx
    split at hx <;> try (cases hx; done)
    rename_i i off hp
    split at hx <;> try (cases hx; done)
    rename_i cs hb
    have hb' : S.fs.bx i = some (.cells cs) := hb
    have h1 : Rep w fr pi (S.fs.sl a) (tm.getD a Go.undef) (own (.slot a)) := h.slot a
    have e : S.fs.sl a = .ptr (some (i, off)) := hp
    rw [e] at h1
    obtain ⟨hv, _⟩ := h1.ptr_inv
    obtain ⟨vs, O', e', r1, r2, r3⟩ := boxcell h hb'
    obtain ⟨v, g1, g2, g3⟩ := ld_rep r1 (h.boxnp i _ hb') hx hg r3
    simp only [Nat.zero_add] at g1
    refine ⟨v, ?_, g2, g3⟩
    simp [hv, asAddr, g1]

theorem run_results {P : Program} {w : World} {fr pi : Nat → Nat} {own : Res → List Nat} {S : St} {tm : Array Value} (h : Rel w fr pi own S.fs tm) : ∀ {rvs : List ResultVar} {rs : List RV} {xs : List AV}, resRV P rvs = some rs → rvAVs S rs = some xs → (rvTmps rs).Nodup →
    ∃ vs O, (rvs.mapM fun (rv : ResultVar) => (match rv with
      | .tmp t => pure (tm.getD t Go.undef)
      | .cell a t => do loadVar t (← asAddr (tm.getD a Go.undef)) : Sem Value)).run P w = .ok vs w ∧ Reps w fr pi xs vs O ∧ (∀ x, x ∈ xs → NP S.fs.has x) ∧ O.Nodup ∧ ∀ b, b ∈ O → ∃ t, t ∈ rvTmps rs ∧ b ∈ own (.slot t)
  | [], rs, xs, hr, hx, _ => by
    simp [resRV] at hr
    subst hr
    simp [rvAVs] at hx
    subst hx
    exact ⟨[], [], by simp, .nil, by simp, by simp, by simp⟩
  | rv :: rvs, rs, xs, hr, hx, hn => by
    have hsplit : ∃ r l, rs = r :: l ∧ resRV P [rv] = some [r] ∧ resRV P rvs = some l := by
      cases rv with
      | tmp t =>
        simp only [resRV, Option.map_eq_some_iff] at hr
        obtain ⟨l, h1, rfl⟩ := hr
        exact ⟨_, l, rfl, by simp [resRV], h1⟩
      | cell a ty =>
        simp only [resRV, Option.bind_eq_some_iff, Option.map_eq_some_iff] at hr
        obtain ⟨g, hg, l, h1, rfl⟩ := hr
        exact ⟨_, l, rfl, by simp [resRV, hg], h1⟩
    obtain ⟨r, l, rfl, h1, h2⟩ := hsplit
    simp only [rvAVs, Option.bind_eq_some_iff, Option.map_eq_some_iff] at hx
    obtain ⟨x, hx1, xs', hx2, rfl⟩ := hx
    have hn' : (rvTmps l).Nodup := by
      cases r with
      | tmp t => simp only [rvTmps, List.nodup_cons] at hn; exact hn.2
      | cell a g => exact hn
    obtain ⟨v, k1, k2, k3⟩ := run_result h h1 hx1
    obtain ⟨vs, O, q1, q2, q3, q4, q5⟩ := run_results h h2 hx2 hn'
    refine ⟨v :: vs, _, ?_, .cons _ _ _ _ _ _ k2 q2, fun y hy => ?_, ?_, fun b hb => ?_⟩
    · simp only [List.mapM_cons, Sem.run_bind, k1, Result.andThen_ok, q1, Sem.run_pure]
    · rcases List.mem_cons.1 hy with rfl | hy
      · exact k3
      · exact q3 y hy
    · cases r with
      | tmp t =>
        simp only [rvTmps, List.nodup_cons] at hn
        rw [List.nodup_append]
        refine ⟨h.nd _, q4, fun b hb c hc e => ?_⟩
        subst e
        obtain ⟨t', ht', hb'⟩ := q5 b hc
        have := h.dj _ _ b hb hb'
        cases this
        exact hn.1 ht'
      | cell a g => simpa using q4
    · rcases List.mem_append.1 hb with hb | hb
      · cases r with
        | tmp t => exact ⟨t, by simp [rvTmps], hb⟩
        | cell a g => simp at hb
      · obtain ⟨t', ht', hb'⟩ := q5 b hb
        refine ⟨t', ?_, hb'⟩
        cases r with
        | tmp t => simp [rvTmps, ht']
        | cell a g => exact ht'

theorem run_resultsOf {P : Program} {w : World} {fr pi : Nat → Nat} {own : Res → List Nat} {S : St} {tm : Array Value} (h : Rel w fr pi own S.fs tm) {fn : Func} {rs : List RV} {xs : List AV} (hr : resRV P fn.results.toList = some rs) (hx : rvAVs S rs = some xs) (hn : (rvTmps rs).Nodup) :
    ∃ v O, (results fn tm).run P w = .ok v w ∧ Rep w fr pi (retAV xs) v O ∧ NP S.fs.has (retAV xs) ∧ O.Nodup ∧ ∀ b, b ∈ O → ∃ t, b ∈ own (.slot t) := by
  obtain ⟨vs, O, k1, k2, k3, k4, k5⟩ := run_results h hr hx hn
  have hm : (fn.results.mapM fun (rv : ResultVar) => (match rv with
      | .tmp t => pure (tm.getD t Go.undef)
      | .cell a t => do loadVar t (← asAddr (tm.getD a Go.undef)) : Sem Value)).run P w = .ok vs.toArray w := by
    rw [Array.mapM_eq_mapM_toList]
    simp only [Sem.run_map, k1, Result.andThen_ok]
  have hrun : (results fn tm).run P w = .ok (if h : vs.toArray.size = 1 then vs.toArray[0] else .tuple vs.toArray) w := by
    unfold results
    rw [Sem.run_bind]
    exact (congrArg (fun q => Result.andThen q fun (a : Array Value) w' => Sem.run P (pure (if h : a.size = 1 then a[0] else Value.tuple a)) w') hm).trans rfl
  have hown : ∀ b, b ∈ O → ∃ t, b ∈ own (.slot t) := fun b hb => by obtain ⟨t, _, h⟩ := k5 b hb; exact ⟨t, h⟩
  clear hm k1 hx
  match xs, vs, k2, k3, hrun with
  | [x], [v], k2, k3, hrun =>
    obtain ⟨v', vs', O1, O2, e1, e2, e3, e4⟩ := k2.cons_inv
    cases e1
    cases e4
    refine ⟨v, O, by rw [hrun]; simp, by rw [e2]; simpa [retAV] using e3, k3 x (by simp), k4, hown⟩
  | [], [], k2, k3, hrun => exact ⟨_, O, hrun, by simpa [retAV] using Rep.tup _ _ _ k2, .tup _ k3, k4, hown⟩
  | x :: y :: xs, u :: v :: vs, k2, k3, hrun => exact ⟨_, O, hrun, by simpa [retAV] using Rep.tup _ _ _ k2, .tup _ k3, k4, hown⟩
  | [x], [], k2, _, _ => have := k2.length; simp at this
  | [x], _ :: _ :: _, k2, _, _ => have := k2.length; simp at this
  | [], _ :: _, k2, _, _ => have := k2.length; simp at this
  | _ :: _ :: _, [], k2, _, _ => have := k2.length; simp at this
  | _ :: _ :: _, [_], k2, _, _ => have := k2.length; simp at this

/-- What must be so of the end: its results, and the boxes that stay; the others are let go. -/
structure Ends (rs : List RV) (h : List HObj) (ret : AV) (h' : List HObj) (S' : St) : Prop where
  res : ∃ xs, rvAVs S' rs = some xs ∧ ret = retAV xs
  pre : ∃ ex, S'.h = h' ++ ex
  len : h.length ≤ h'.length
  np : NP (fun i => i < h'.length) ret
  npo : ∀ (i : Nat) (o : HObj), h'[i]? = some o → h[i]? = some o ∨ NPo (fun i => i < h'.length) o

def endsQ (rs : List RV) (h : List HObj) (ret : AV) (h' : List HObj) : VE → St → Prop
  | .normal, S' | .ret, S' => Ends rs h ret h' S'
  | .exit _, _ => False

/-- From a body to a contract. -/
theorem VCall.of {P : Program} {L : Nat → Bool} {f : Nat} {fn : Func} {c : Code} {vc : VC} {args : List AV} {h : List HObj} {ret : AV} {h' : List HObj} {rs : List RV} (hc0 : callable P f = true) (hf : P.funcs[f]? = some fn) (hb : fn.body = some c)
    (hc : comp P fn.ntmps c = some vc) (hr : resRV P fn.results.toList = some rs) (hn : (rvTmps rs).Nodup) (hargs : args.length ≤ fn.ntmps) (hlen : h.length ≤ h'.length)
    (hw : Vwp P L fn.ntmps h.length vc (endsQ rs h ret h') ⟨args ++ List.replicate (fn.ntmps - args.length) .undef, h⟩) : VCall P f args h ret h' := by
  refine ⟨known_of hc0, by omega, fun w fr pi own vals hvl hrel => Runs.of hc0 ?_⟩
  have hlt : h.length ≤ h.length := Nat.le_refl _
  have hN : (args ++ List.replicate (fn.ntmps - args.length) AV.undef).length = fn.ntmps := by simp; omega
  have hsz : (vals.toArray ++ Array.replicate (fn.ntmps - vals.toArray.size) Go.undef).size = fn.ntmps := by simp; omega
  have hfs : St.fs ⟨args ++ List.replicate (fn.ntmps - args.length) .undef, h⟩ = FS.of args h := by
    refine FS.ext' (fun i => ?_) (fun i => rfl)
    show (args ++ List.replicate (fn.ntmps - args.length) AV.undef).getD i .undef = args.getD i .undef
    rw [List.getD_eq_getElem?_getD, List.getD_eq_getElem?_getD]
    rcases Nat.lt_or_ge i args.length with hi | hi
    · rw [List.getElem?_append_left hi]
    · rw [List.getElem?_append_right hi, List.getElem?_eq_none hi, List.getElem?_replicate]
      split <;> rfl
  have htm : ∀ i, (vals.toArray ++ Array.replicate (fn.ntmps - vals.toArray.size) Go.undef).getD i Go.undef = vals.toArray.getD i Go.undef := by
    intro i
    rw [Array.getD_eq_getD_getElem?, Array.getD_eq_getD_getElem?]
    rcases Nat.lt_or_ge i vals.toArray.size with hi | hi
    · rw [Array.getElem?_append_left hi]
    · rw [Array.getElem?_append_right hi, Array.getElem?_eq_none hi, Array.getElem?_replicate]
      split <;> rfl
  have hrel' : Rel w fr pi own (St.fs ⟨args ++ List.replicate (fn.ntmps - args.length) .undef, h⟩) (vals.toArray ++ Array.replicate (fn.ntmps - vals.toArray.size) Go.undef) := by
    rw [hfs]
    exact ⟨fun i => by rw [htm]; exact hrel.slot i, hrel.slotnp, hrel.box, hrel.boxnp, hrel.nobox, hrel.nd, hrel.dj, hrel.live⟩
  refine calls_of_wp hf hb ?_
  refine wp_mono (hw hN (Nat.le_refl _) c hc _ w fr pi own hrel' hsz rfl) fun e a' w' hh => ?_
  obtain ⟨x, S', fr', pi', own', rfl, k2, k3, k4, k5, k6, k7, k8⟩ := hh
  have key : Ends rs h ret h' S' → a'.defers = [] ∧ ∃ v, (results fn a'.tmps).run P w' = .ok v w' ∧ ∃ v_1 fr' pi' own', Ending.returned v = .returned v_1 ∧ Rel w' fr' pi' own' (FS.of [ret] h') #[v_1] ∧ Ext w w' fr fr' pi pi' own own' (fun i => i < h.length) := by
    intro he
    obtain ⟨⟨xs, q1, q2⟩, ⟨ex, q3⟩, q4, q5, q6⟩ := he
    obtain ⟨v, O, r1, r2, r3, r4, r5⟩ := run_resultsOf k5 hr q1 hn
    rw [← q2] at r2 r3
    let own2 : Res → List Nat := fun r => match r with
      | .slot 0 => O
      | .slot _ => []
      | .box i => if i < h'.length then own' (.box i) else []
    have hsub : ∀ r b, b ∈ own2 r → ∃ r', b ∈ own' r' := by
      intro r b hb
      cases r with
      | slot i =>
        cases i with
        | zero => obtain ⟨t, ht⟩ := r5 b hb; exact ⟨_, ht⟩
        | succ i => simp [own2] at hb
      | box i =>
        simp only [own2] at hb
        split at hb
        · exact ⟨_, hb⟩
        · simp at hb
    have hbox : ∀ i o, h'[i]? = some o → S'.fs.bx i = some o := by
      intro i o hi
      show S'.h[i]? = some o
      have hlt : i < h'.length := by
        rcases Nat.lt_or_ge i h'.length with h1 | h1
        · exact h1
        · simp [List.getElem?_eq_none h1] at hi
      rw [q3, List.getElem?_append_left hlt]
      exact hi
    have hhas : ∀ i, i < h'.length → (FS.of [ret] h').has i := fun i hi => ⟨_, (List.getElem?_eq_getElem hi : h'[i]? = _)⟩
    refine ⟨k7, v, r1, v, fr', pi', own2, rfl, ⟨fun i => ?_, fun i => ?_, fun i o ho => ?_, fun i o ho => ?_, fun i hi => ?_, fun r => ?_, fun r r' b x1 x2 => ?_, fun r b hb => ?_⟩, ?_⟩
    · cases i with
      | zero => exact r2
      | succ i =>
        have : (FS.of [ret] h').sl (i + 1) = .undef := by simp [FS.of, List.getD_eq_getElem?_getD]
        rw [this]
        exact .undef _
    · cases i with
      | zero => exact q5.mono hhas
      | succ i =>
        have : (FS.of [ret] h').sl (i + 1) = .undef := by simp [FS.of, List.getD_eq_getElem?_getD]
        rw [this]
        exact .undef
    · have ho' : h'[i]? = some o := ho
      obtain ⟨O', z1, z2⟩ := k5.box i o (hbox i o ho')
      have hlt : i < h'.length := by
        rcases Nat.lt_or_ge i h'.length with h1 | h1
        · exact h1
        · simp [List.getElem?_eq_none h1] at ho'
      exact ⟨O', z1, by simp only [own2]; rw [if_pos hlt]; exact z2⟩
    · have ho' : h'[i]? = some o := ho
      rcases q6 i o ho' with z | z
      · have := hrel.boxnp i o z
        refine this.mono (fun j ⟨o', hj⟩ => hhas j ?_)
        have hj' : h[j]? = some o' := hj
        rcases Nat.lt_or_ge j h.length with h1 | h1
        · omega
        · simp [List.getElem?_eq_none h1] at hj'
      · exact z.mono hhas
    · have hi' : h'[i]? = none := hi
      have : ¬ i < h'.length := fun hlt => by rw [List.getElem?_eq_getElem hlt] at hi'; cases hi'
      simp only [own2]
      rw [if_neg this]
    · cases r with
      | slot i => cases i with
        | zero => exact r4
        | succ i => simp [own2]
      | box i =>
        simp only [own2]
        split
        · exact k5.nd _
        · simp
    · cases r with
      | slot i => cases i with
        | succ i => simp [own2] at x1
        | zero => cases r' with
          | slot j => cases j with
            | zero => rfl
            | succ j => simp [own2] at x2
          | box j =>
            exfalso
            simp only [own2] at x1 x2
            split at x2
            · obtain ⟨t, ht⟩ := r5 b x1
              have := k5.dj _ _ b ht x2
              cases this
            · simp at x2
      | box i => cases r' with
        | slot j => cases j with
          | succ j => simp [own2] at x2
          | zero =>
            exfalso
            simp only [own2] at x1 x2
            split at x1
            · obtain ⟨t, ht⟩ := r5 b x2
              have := k5.dj _ _ b ht x1
              cases this
            · simp at x1
        | box j =>
          simp only [own2] at x1 x2
          split at x1
          · split at x2
            · exact k5.dj _ _ b x1 x2
            · simp at x2
          · simp at x1
    · obtain ⟨r', hr'⟩ := hsub r b hb
      exact k5.live r' b hr'
    · exact ⟨k8.step, fun r b hb => by obtain ⟨r', hr'⟩ := hsub r b hb; exact k8.fresh r' b hr', k8.pi⟩
  cases x with
  | normal => exact key k2
  | ret => exact key k2
  | exit id => exact k2.elim

/-- A function that knows of no box: what it makes is let go. -/
theorem PCall.of {P : Program} {L : Nat → Bool} {f : Nat} {fn : Func} {c : Code} {vc : VC} {args : List AV} {ret : AV} {rs : List RV} (hc0 : callable P f = true) (hf : P.funcs[f]? = some fn) (hb : fn.body = some c)
    (hc : comp P fn.ntmps c = some vc) (hr : resRV P fn.results.toList = some rs) (hn : (rvTmps rs).Nodup) (hargs : args.length ≤ fn.ntmps) (hnp : NP (fun _ => False) ret)
    (hw : Vwp P L fn.ntmps 0 vc (fun x S' => (x = .normal ∨ x = .ret) ∧ ∃ xs, rvAVs S' rs = some xs ∧ retAV xs = ret) ⟨args ++ List.replicate (fn.ntmps - args.length) .undef, []⟩) : PCall P f args ret := by
  refine VCall.of hc0 hf hb hc hr hn hargs (Nat.le_refl _) (hw.mono fun x S' h => ?_)
  obtain ⟨h1, xs, h2, h3⟩ := h
  have he : Ends rs [] ret [] S' := ⟨⟨xs, h2, h3.symm⟩, ⟨S'.h, rfl⟩, Nat.le_refl _, hnp.mono (fun _ h => h.elim), fun i o ho => by simp at ho⟩
  rcases h1 with rfl | rfl
  · exact he
  · exact he

end Go.Proofs.Ytjlcnnijpmijhaa.V

/- A small logic of values over the model, part 25: knowing less of a state. -/
namespace Go.Proofs.Ytjlcnnijpmijhaa.V

mutual
/-- The second says less than the first. -/
inductive Wk : AV → AV → Prop
  | refl (a : AV) : Wk a a
  | undef (a : AV) : Wk a .undef
  | nil (sz sz' : Nat) (own own' : Bool) (nl : Option Bool) : nl ≠ some false → Wk (.sl sz (some true) own []) (.sl sz' nl own' [])
  | nl (sz : Nat) (nl : Option Bool) (own : Bool) (xs : List (List AV)) : Wk (.sl sz nl own xs) (.sl sz none own xs)
  | strip (a : AV) : Wk a a.strip
  | both (sz : Nat) (nl : Option Bool) (own : Bool) (xs : List (List AV)) : Wk (.sl sz nl own xs) (.sl sz none false xs)
  | agg (as bs : List AV) : WkL as bs → Wk (.agg as) (.agg bs)
  | tup (as bs : List AV) : WkL as bs → Wk (.tup as) (.tup bs)
inductive WkL : List AV → List AV → Prop
  | nil : WkL [] []
  | cons (a b : AV) (as bs : List AV) : Wk a b → WkL as bs → WkL (a :: as) (b :: bs)
end

mutual
theorem Wk.rep {w : World} {fr pi : Nat → Nat} : ∀ {a b : AV} {v : Value} {O : List Nat}, Wk a b → Rep w fr pi a v O → O.Nodup → ∃ O', Rep w fr pi b v O' ∧ (∀ x, x ∈ O' → x ∈ O) ∧ O'.Nodup
  | _, _, v, O, .refl a, hr, hn => ⟨O, hr, fun _ h => h, hn⟩
  | _, _, v, O, .undef a, hr, hn => ⟨[], .undef v, by simp, by simp⟩
  | _, _, v, O, .nil sz sz' own own' nl hnl, hr, hn => by
    rcases hr.sl_inv with ⟨rfl, _⟩ | ⟨_, _, _, _, hn, _⟩ | ⟨_, _, _, _, _, hn, _⟩
    · exact ⟨[], .slnil _ _ _ hnl, by simp, by simp⟩
    · exact absurd rfl hn
    · exact absurd rfl hn
  | _, _, v, O, .nl sz nl own xs, hr, hn => by
    cases hr with
    | slnil _ _ _ h0 => exact ⟨[], .slnil _ _ _ (by simp), by simp, by simp⟩
    | slempty _ _ ad cap h0 => exact ⟨[], .slempty _ _ ad cap (by simp), by simp, by simp⟩
    | sl _ _ _ b o cap vs h0 h1 h2 h3 h4 => exact ⟨[], .sl _ _ _ b o cap vs (by simp) h1 h2 h3 h4, by simp, by simp⟩
    | slown _ _ _ b o cap vs h0 h1 h2 h3 h4 h5 => exact ⟨[b], .slown _ _ _ b o cap vs (by simp) h1 h2 h3 h4 h5, fun _ h => h, hn⟩
  | _, _, v, O, .strip a, hr, hn => ⟨[], hr.strip, by simp, by simp⟩
  | _, _, v, O, .both sz nl own xs, hr, hn => by
    cases hr with
    | slnil _ _ _ h0 => exact ⟨[], .slnil _ _ _ (by simp), by simp, by simp⟩
    | slempty _ _ ad cap h0 => exact ⟨[], .slempty _ _ ad cap (by simp), by simp, by simp⟩
    | sl _ _ _ b o cap vs h0 h1 h2 h3 h4 => exact ⟨[], .sl _ _ _ b o cap vs (by simp) h1 h2 h3 h4, by simp, by simp⟩
    | slown _ _ _ b o cap vs h0 h1 h2 h3 h4 h5 => exact ⟨[], .sl _ _ _ b o cap vs (by simp) h1 h2 h3 h4, by simp, by simp⟩
  | _, _, v, O, .agg as bs h, hr, hn => by
    cases hr with
    | agg _ vs _ h1 =>
      obtain ⟨O', k1, k2, k3⟩ := WkL.reps h h1 hn
      exact ⟨O', .agg _ _ _ k1, k2, k3⟩
  | _, _, v, O, .tup as bs h, hr, hn => by
    cases hr with
    | tup _ vs _ h1 =>
      obtain ⟨O', k1, k2, k3⟩ := WkL.reps h h1 hn
      exact ⟨O', .tup _ _ _ k1, k2, k3⟩
theorem WkL.reps {w : World} {fr pi : Nat → Nat} : ∀ {as bs : List AV} {vs : List Value} {O : List Nat}, WkL as bs → Reps w fr pi as vs O → O.Nodup → ∃ O', Reps w fr pi bs vs O' ∧ (∀ x, x ∈ O' → x ∈ O) ∧ O'.Nodup
  | _, _, _, _, .nil, hr, hn => by
    cases hr
    exact ⟨[], .nil, by simp, by simp⟩
  | _, _, _, _, .cons a b as bs h1 h2, hr, hn => by
    cases hr with
    | cons _ v O1 _ vs O2 r1 r2 =>
      rw [List.nodup_append] at hn
      obtain ⟨P1, k1, k2, k3⟩ := Wk.rep h1 r1 hn.1
      obtain ⟨P2, q1, q2, q3⟩ := WkL.reps h2 r2 hn.2.1
      refine ⟨P1 ++ P2, .cons _ _ _ _ _ _ k1 q1, fun x hx => ?_, List.nodup_append.2 ⟨k3, q3, fun x hx y hy => hn.2.2 x (k2 x hx) y (q2 y hy)⟩⟩
      rcases List.mem_append.1 hx with hx | hx
      · exact List.mem_append.2 (.inl (k2 x hx))
      · exact List.mem_append.2 (.inr (q2 x hx))
end

mutual
theorem Wk.np : ∀ {a b : AV}, Wk a b → ∀ {ok : Nat → Prop}, NP ok a → NP ok b
  | _, _, .refl _, _, hn => hn
  | _, _, .undef _, _, hn => .undef
  | _, _, .nil .., _, hn => .sl _ _ _ _ (by simp)
  | _, _, .nl .., _, hn => .sl _ _ _ _ hn.sl_inv
  | _, _, .strip _, _, hn => hn.strip
  | _, _, .both .., _, hn => .sl _ _ _ _ hn.sl_inv
  | _, _, .agg _ _ h, _, hn => .agg _ (WkL.nps h hn.agg_inv)
  | _, _, .tup _ _ h, _, hn => .tup _ (WkL.nps h hn.tup_inv)
theorem WkL.nps : ∀ {as bs : List AV}, WkL as bs → ∀ {ok : Nat → Prop}, (∀ a, a ∈ as → NP ok a) → ∀ b, b ∈ bs → NP ok b
  | _, _, .nil, _, _, b, hb => by simp at hb
  | _, _, .cons a b as bs h1 h2, _, hn, x, hx => by
    rcases List.mem_cons.1 hx with rfl | hx
    · exact Wk.np h1 (hn a (by simp))
    · exact WkL.nps h2 (fun y hy => hn y (by simp [hy])) x hx
end

theorem WkL.length : ∀ {as bs : List AV}, WkL as bs → as.length = bs.length
  | _, _, .nil => rfl
  | _, _, .cons _ _ _ _ _ h => by simp [WkL.length h]

theorem WkL.get : ∀ {as bs : List AV}, WkL as bs → ∀ i, Wk (as.getD i .undef) (bs.getD i .undef)
  | _, _, .nil, _i => .refl _
  | _, _, .cons a b as bs h1 _h2, 0 => h1
  | _, _, .cons a b as bs _h1 h2, i + 1 => WkL.get h2 i

/-- Knowing less; boxes that nobody points to are forgotten. -/
theorem Rel.weak {w : World} {fr pi : Nat → Nat} {own : Res → List Nat} {S S0 : St} {tm : Array Value} (h : Rel w fr pi own S.fs tm) (ht : WkL S.t S0.t) {ex : List HObj} (hh : S.h = S0.h ++ ex)
    (hn : ex = [] ∨ ((∀ a, a ∈ S0.t → NP (fun i => i < S0.h.length) a) ∧ ∀ o, o ∈ S0.h → NPo (fun i => i < S0.h.length) o)) :
    ∃ own', Rel w fr pi own' S0.fs tm ∧ ∀ r b, b ∈ own' r → b ∈ own r := by
  have key : ∀ i, ∃ O', Rep w fr pi (S0.t.getD i .undef) (tm.getD i Go.undef) O' ∧ (∀ x, x ∈ O' → x ∈ own (.slot i)) ∧ O'.Nodup := by
    intro i
    exact (ht.get i).rep (h.slot i) (h.nd _)
  let own' : Res → List Nat := fun r => match r with
    | .slot i => (key i).choose
    | .box i => if i < S0.h.length then own (.box i) else []
  have hsub : ∀ r b, b ∈ own' r → b ∈ own r := by
    intro r b hb
    cases r with
    | slot i => exact (key i).choose_spec.2.1 b hb
    | box i =>
      simp only [own'] at hb
      split at hb
      · exact hb
      · simp at hb
  have hbox : ∀ i o, S0.h[i]? = some o → S.fs.bx i = some o := by
    intro i o hi
    show S.h[i]? = some o
    have hlt : i < S0.h.length := by
      rcases Nat.lt_or_ge i S0.h.length with h1 | h1
      · exact h1
      · simp [List.getElem?_eq_none h1] at hi
    rw [hh, List.getElem?_append_left hlt]
    exact hi
  have hhas : ∀ i, i < S0.h.length → S0.fs.has i := fun i hi => (St.has_iff S0 i).2 hi
  have hsame : ex = [] → ∀ i, S.fs.has i → S0.fs.has i := by
    intro e i hi
    rw [St.has_iff] at *
    rw [hh, e, List.append_nil] at hi
    exact hi
  have hslotnp : ∀ i, NP S0.fs.has (S0.t.getD i .undef) := by
    intro i
    rcases hn with e | ⟨hn1, _⟩
    · exact ((ht.get i).np (h.slotnp i)).mono (hsame e)
    · rcases Nat.lt_or_ge i S0.t.length with hi | hi
      · rw [List.getD_eq_getElem?_getD, List.getElem?_eq_getElem hi]
        exact (hn1 _ (List.getElem_mem hi)).mono hhas
      · rw [List.getD_eq_getElem?_getD, List.getElem?_eq_none hi]
        exact .undef
  refine ⟨own', ⟨fun i => (key i).choose_spec.1, hslotnp, fun i o ho => ?_, fun i o ho => ?_, fun i hi => ?_, fun r => ?_, fun r r' b h1 h2 => h.dj r r' b (hsub r b h1) (hsub r' b h2), fun r b hb => h.live r b (hsub r b hb)⟩, hsub⟩
  · have ho' : S0.h[i]? = some o := ho
    obtain ⟨O, h1, h2⟩ := h.box i o (hbox i o ho')
    have hlt : i < S0.h.length := by
      rcases Nat.lt_or_ge i S0.h.length with h1 | h1
      · exact h1
      · simp [List.getElem?_eq_none h1] at ho'
    exact ⟨O, h1, by simp only [own']; rw [if_pos hlt]; exact h2⟩
  · have ho' : S0.h[i]? = some o := ho
    rcases hn with e | ⟨_, hn2⟩
    · exact (h.boxnp i o (hbox i o ho')).mono (hsame e)
    · exact (hn2 o (List.mem_of_getElem? ho')).mono hhas
  · have hi' : S0.h[i]? = none := hi
    have : ¬ i < S0.h.length := fun hlt => by rw [List.getElem?_eq_getElem hlt] at hi'; cases hi'
    simp only [own']
    rw [if_neg this]
  · cases r with
    | slot i => exact (key i).choose_spec.2.2
    | box i =>
      simp only [own']
      split
      · exact h.nd _
      · simp

section
variable {P : Program} {L : Nat → Bool} {N h0 : Nat} {Q : VE → St → Prop} {S S0 : St}

theorem VQ.weak {w : World} {fr pi : Nat → Nat} {own own' : Res → List Nat} (hsub : ∀ r b, b ∈ own' r → b ∈ own r) {e : Exit} {a : Act} {w' : World} (h : VQ N Q h0 w fr pi own' e a w') : VQ N Q h0 w fr pi own e a w' := by
  obtain ⟨x, S', fr', pi', own2, k1, k2, k3, k4, k5, k6, k7, k8⟩ := h
  exact ⟨x, S', fr', pi', own2, k1, k2, k3, k4, k5, k6, k7, ⟨k8.step.mono (fun b _ ⟨r, hr⟩ => ⟨r, hsub r b hr⟩), fun r b hb => by
    rcases k8.fresh r b hb with ⟨r', hr'⟩ | h'
    · exact .inl ⟨r', hsub r' b hr'⟩
    · exact .inr h', k8.pi⟩⟩

theorem Vwp.weak {c : VC} (ht : WkL S.t S0.t) {ex : List HObj} (hh : S.h = S0.h ++ ex) (hk : h0 ≤ S0.h.length) (hn : ex = [] ∨ ((∀ a, a ∈ S0.t → NP (fun i => i < S0.h.length) a) ∧ ∀ o, o ∈ S0.h → NPo (fun i => i < S0.h.length) o))
    (h : Vwp P L N h0 c Q S0) : Vwp P L N h0 c Q S := by
  intro hN hk' c0 hc a w fr pi own hr hs hd
  obtain ⟨own', hr', hsub⟩ := hr.weak ht hh hn
  exact wp_mono (h (by rw [← ht.length]; exact hN) hk c0 hc a w fr pi own' hr' hs hd) fun e a w hh => hh.weak hsub

theorem Vloop.weak {c : VC} (ht : WkL S.t S0.t) {ex : List HObj} (hh : S.h = S0.h ++ ex) (hk : h0 ≤ S0.h.length) (hn : ex = [] ∨ ((∀ a, a ∈ S0.t → NP (fun i => i < S0.h.length) a) ∧ ∀ o, o ∈ S0.h → NPo (fun i => i < S0.h.length) o))
    (h : Vloop P L N h0 c Q S0) : Vloop P L N h0 c Q S := by
  intro hN hk' c0 hc a w fr pi own hr hs hd
  obtain ⟨own', hr', hsub⟩ := hr.weak ht hh hn
  exact (h (by rw [← ht.length]; exact hN) hk c0 hc a w fr pi own' hr' hs hd).mono fun e a w hh => hh.weak hsub
end

end Go.Proofs.Ytjlcnnijpmijhaa.V

/- A small logic of values over the model, part 26: the weakest precondition of an operation, reckoned. -/
namespace Go.Proofs.Ytjlcnnijpmijhaa.V

/-- What is there is handed on; else nothing holds. -/
def onSome {α : Type} (x : Option α) (K : α → Prop) : Prop :=
  match x with
  | some a => K a
  | none => False

theorem onSome_inv {α : Type} {x : Option α} {K : α → Prop} (h : onSome x K) : ∃ a, x = some a ∧ K a := by
  cases x with
  | none => exact h.elim
  | some a => exact ⟨a, rfl, h⟩

def onTrue (x : Bool) (K : Prop) : Prop :=
  match x with
  | true => K
  | false => False

theorem onTrue_inv {x : Bool} {K : Prop} (h : onTrue x K) : x = true ∧ K := by
  cases x with
  | false => exact h.elim
  | true => exact ⟨rfl, h⟩

/-! A value is reckoned before it is written: so a state never carries the states ahead of it. -/

def force1 (x : AV) (K : AV → Prop) : Prop :=
  match x with
  | .bool b => K (.bool b)
  | .int k n => K (.int k n)
  | .str s => K (.str s)
  | .sl sz nl own xs => K (.sl sz nl own xs)
  | .agg cs => K (.agg cs)
  | .tup vs => K (.tup vs)
  | .ptr p => K (.ptr p)
  | .rptr cs => K (.rptr cs)
  | .func f cap => K (.func f cap)
  | .iface t v => K (.iface t v)
  | .niliface => K .niliface
  | .nilfunc => K .nilfunc
  | .undef => K .undef

def forceL : List AV → (List AV → Prop) → Prop
  | [], K => K []
  | a :: l, K => force1 a fun a => forceL l fun l => K (a :: l)

theorem force1_inv {x : AV} {K : AV → Prop} (h : force1 x K) : K x := by cases x <;> exact h

theorem forceL_inv : ∀ {l : List AV} {K : List AV → Prop}, forceL l K → K l
  | [], _K, h => h
  | a :: l, K, h => forceL_inv (l := l) (K := fun l => K (a :: l)) (force1_inv (K := fun a => forceL l fun l => K (a :: l)) h)

def forceLL : List (List AV) → (List (List AV) → Prop) → Prop
  | [], K => K []
  | x :: l, K => forceL x fun x => forceLL l fun l => K (x :: l)

theorem forceLL_inv : ∀ {l : List (List AV)} {K : List (List AV) → Prop}, forceLL l K → K l
  | [], _K, h => h
  | x :: l, K, h => forceLL_inv (l := l) (K := fun l => K (x :: l)) (forceL_inv (K := fun x => forceLL l fun l => K (x :: l)) h)

/-- Arithmetic: of two numbers what stands there, and what must be so of them. -/
def wpInt (op : BinOp) (k : IntKind) (a b : Int) (K : AV → Prop) : Prop :=
  match op with
  | .quo => b ≠ 0 ∧ K (.int k (k.wrap (a.tdiv b)))
  | .rem => b ≠ 0 ∧ K (.int k (a.tmod b))
  | .add => K (.int k (k.wrap (a + b)))
  | .sub => K (.int k (k.wrap (a - b)))
  | .mul => K (.int k (k.wrap (a * b)))
  | .shl => False
  | .shr => False
  | .and => K (.int k (k.wrap (BitVec.ofInt k.bits a &&& BitVec.ofInt k.bits b).toNat))
  | .or => K (.int k (k.wrap (BitVec.ofInt k.bits a ||| BitVec.ofInt k.bits b).toNat))
  | .xor => K (.int k (k.wrap (BitVec.ofInt k.bits a ^^^ BitVec.ofInt k.bits b).toNat))
  | .andNot => K (.int k (k.wrap (BitVec.ofInt k.bits a &&& ~~~ BitVec.ofInt k.bits b).toNat))
  | .eql => K (.bool (a == b))
  | .neq => K (.bool (a != b))
  | .lss => K (.bool (decide (a < b)))
  | .leq => K (.bool (decide (a ≤ b)))
  | .gtr => K (.bool (decide (a > b)))
  | .geq => K (.bool (decide (a ≥ b)))

def wpBin (op : BinOp) (x y : AV) (K : AV → Prop) : Prop :=
  match x, y with
  | .int k a, .int k' b =>
    match op with
    | .shl => 0 ≤ b ∧ K (.int k (k.wrap (a * 2 ^ min b.toNat k.bits)))
    | .shr => 0 ≤ b ∧ K (.int k (a.fdiv (2 ^ min b.toNat k.bits)))
    | op => onTrue (decide (k = k')) (wpInt op k a b K)
  | .str a, .str b =>
    match op with
    | .add => a.size + b.size ≤ 9223372036854775807 ∧ K (.str (a ++ b))
    | op => onSome (vstr op a b) K
  | _, _ => False

theorem wpInt_inv {op : BinOp} {k : IntKind} {a b : Int} {K : AV → Prop} (h : wpInt op k a b K) : ∃ x, vint op k a b = some x ∧ K x := by
  cases op
  case quo => exact ⟨_, by simp only [vint]; rw [if_neg h.1], h.2⟩
  case rem => exact ⟨_, by simp only [vint]; rw [if_neg h.1], h.2⟩
  case shl => exact h.elim
  case shr => exact h.elim
  all_goals exact ⟨_, rfl, h⟩

theorem wpBin_inv {op : BinOp} {x y : AV} {K : AV → Prop} (h : wpBin op x y K) : ∃ a, vbin op x y = some a ∧ K a := by
  cases x <;> cases y <;> first | exact False.elim h | skip
  · rename_i k a k' b
    cases op
    case shl => exact ⟨_, by simp only [vbin]; rw [if_neg (by have := h.1; omega)], h.2⟩
    case shr => exact ⟨_, by simp only [vbin]; rw [if_neg (by have := h.1; omega)], h.2⟩
    all_goals
      obtain ⟨h1, h2⟩ := onTrue_inv h
      have e : k = k' := of_decide_eq_true h1
      subst e
      simp only [vbin, ↓reduceIte]
      exact wpInt_inv h2
  · rename_i a b
    cases op
    case add => exact ⟨_, by simp only [vbin, vstr]; rw [if_pos h.1], h.2⟩
    all_goals exact onSome_inv h

/-- Of an operation that calls nobody: what must be so, and what follows of its value. -/
def wpEv (fl : Bool) (s : Nat → AV) (h : List HObj) (op : VOp) (K : AV → Option (Nat × HObj) → Prop) : Prop :=
  match op with
  | .mov x => K (if fl then rdX s x else (rdX s x).strip) none
  | .pick c a b => match rdX s c with
    | .bool t => match t with
      | true => K (rdX s a).strip none
      | false => K (rdX s b).strip none
    | _ => False
  | .alloc z => K (.ptr (some (h.length, 0))) (some (h.length, .cells z.cells))
  | .box x => onTrue (!(rdX s x).cells.isEmpty) (K (.ptr (some (h.length, 0))) (some (h.length, .cells (rdX s x).cells)))
  | .build z ps => onSome (putParts s z ps) fun l => K (.agg l) none
  | .bslice sz len z ps => onTrue (z.all AV.one) (onSome (putElems s sz (List.replicate len z) ps) fun l => forceLL l fun l => K (.sl sz (some false) true l) none)
  | .load g x => match rdX s x with
    | .ptr (some (i, off)) => match h[i]? with
      | some (.cells cs) => onSome (ldCells cs off g) fun a => K a none
      | _ => False
    | .rptr cs => onSome (ldCells cs 0 g) fun a => K a none
    | _ => False
  | .store n x v => match rdX s x with
    | .ptr (some (i, off)) => match h[i]? with
      | some (.cells cs) => onTrue (decide ((rdX s v).cells.length = n ∧ off + n ≤ cs.length) && (rdX s v).cells.all AV.one) (K .undef (some (i, .cells (splice cs off (rdX s v).cells))))
      | _ => False
    | _ => False
  | .nilck x => match rdX s x with
    | .ptr (some p) => K (.ptr (some p)) none
    | .rptr cs => K (.rptr cs) none
    | .func f l => K (.func f l) none
    | _ => False
  | .bin op x y => wpBin op (rdX s x) (rdX s y) fun a => K a none
  | .eqn k neq x y => onTrue (isCst y) (onSome (veqn k (rdX s x) (rdX s y)) fun b => K (.bool (if neq then !b else b)) none)
  | .eqv neq plan x y => match rdX s x, rdX s y with
    | .agg xs, .agg ys => onSome (veqs plan xs ys) fun b => K (.bool (if neq then !b else b)) none
    | _, _ => False
  | .un op x => match op, rdX s x with
    | .not, .bool b => K (.bool !b) none
    | .neg, .int k n => K (.int k (k.wrap (0 - n))) none
    | _, _ => False
  | .cvi k x => match rdX s x with
    | .int _ n => K (.int k (k.wrap n)) none
    | _ => False
  | .cvsb x => match rdX s x with
    | .str b => K (.sl 1 (some false) false (bytesAV b)) none
    | _ => False
  | .cvbs x => match rdX s x with
    | .sl _ _ _ xs => ∃ l, toBytes xs = some l ∧ K (.str ⟨l.toArray⟩) none
    | _ => False
  | .cvid x => match rdX s x with
    | .str b => K (.str b) none
    | _ => False
  | .ifc t x => K (.iface t (rdX s x).strip) none
  | .fn f caps => K (.func f (caps.map fun x => (rdX s x).strip)) none
  | .slstr x lo hi => match rdX s x with
    | .str b => onSome (vlow s lo) fun l => onSome (vhigh s b.size hi) fun u => (0 ≤ l ∧ l ≤ u ∧ u ≤ b.size) ∧ K (.str (b.extract l.toNat u.toNat)) none
    | _ => False
  | .slsl sz x lo hi => match rdX s x with
    | .sl sz' nl _ xs => onSome (vlow s lo) fun l => onSome (vhigh s xs.length hi) fun u => (sz' = sz ∨ xs.length = 0) ∧ (0 ≤ l ∧ l ≤ u ∧ u ≤ xs.length) ∧ K (.sl sz nl false ((xs.drop l.toNat).take (u.toNat - l.toNat))) none
    | _ => False
  | .fld off x => match rdX s x with
    | .ptr (some (i, o)) => K (.ptr (some (i, o + off))) none
    | .rptr cs => K (.rptr (cs.drop off)) none
    | _ => False
  | .fldv off g x => match rdX s x with
    | .agg cs => onSome (ldCells cs off g) fun a => K a none
    | _ => False
  | .ixa sz x i => match rdX s x, rdX s i with
    | .sl sz' _ _ xs, .int _ n => sz' = sz ∧ 0 ≤ n ∧ ∃ c, xs[n.toNat]? = some c ∧ K (.rptr c) none
    | _, _ => False
  | .ixarr n sz x i => match rdX s x, rdX s i with
    | .ptr (some (b, o)), .int _ j => (0 ≤ j ∧ j < n) ∧ K (.ptr (some (b, o + j.toNat * sz))) none
    | _, _ => False
  | .ixs x i => match rdX s x, rdX s i with
    | .str b, .int _ n => 0 ≤ n ∧ ∃ c, b.data[n.toNat]? = some c ∧ K (.int .u8 c.toNat) none
    | _, _ => False
  | .ext x i => match rdX s x with
    | .tup vs => onSome (vs[i]?) fun a => K a.strip none
    | _ => False
  | .call _ _ => False
  | .lens x => match rdX s x with
    | .str b => K (.int .i64 b.size) none
    | _ => False
  | .lenl x => match rdX s x with
    | .sl _ _ _ xs => K (.int .i64 xs.length) none
    | _ => False
  | .app sz bytes x y => match rdX s x, rdX s y with
    | .sl sz' nl own xs, .sl sz2 _ _ ys => ((own = true ∧ sz' = sz) ∨ (nl = some true ∧ xs.length = 0)) ∧ (sz2 = sz ∨ ys.length = 0) ∧ ((xs.length + ys.length) * bytes ≤ 140737488355328 ∧ xs.length + ys.length ≤ 140737488355328) ∧
        K (.sl sz (if nl = some false then some false else none) true (xs ++ ys)) none
    | _, _ => False
  | .apps bytes x y => match rdX s x, rdX s y with
    | .sl sz' nl own xs, .str b => ((own = true ∧ sz' = 1) ∨ (nl = some true ∧ xs.length = 0)) ∧ ((xs.length + b.size) * bytes ≤ 140737488355328 ∧ xs.length + b.size ≤ 140737488355328) ∧
        K (.sl 1 (if nl = some false then some false else none) true (xs ++ bytesAV b)) none
    | _, _ => False
  | .mk sz bytes z n => match rdX s n with
    | .int .i64 k => onTrue (z.all AV.one) ((0 ≤ k ∧ k * bytes ≤ 140737488355328 ∧ k ≤ 140737488355328) ∧ K (.sl sz (some false) true (List.replicate k.toNat z)) none)
    | _ => False
  | .eqb neq x y => match rdX s x, rdX s y with
    | .bool a, .bool b => match neq with
      | true => K (.bool (!(a == b))) none
      | false => K (.bool (a == b)) none
    | _, _ => False
  | .mm mx x y => match rdX s x, rdX s y with
    | .int k a, .int _ b => match mx with
      | true => K (.int k (if b > a then b else a)) none
      | false => K (.int k (if b < a then b else a)) none
    | _, _ => False
  | .bad => False

theorem wpEv_sound {fl : Bool} {s : Nat → AV} {h : List HObj} {op : VOp} {K : AV → Option (Nat × HObj) → Prop} (hw : wpEv fl s h op K) : ∃ x b, ev fl s (fun i => h[i]?) h.length op = some (x, b) ∧ K x b := by
  cases op with
  | mov x => exact ⟨_, _, rfl, hw⟩
  | alloc z => exact ⟨_, _, rfl, hw⟩
  | ifc t x => exact ⟨_, _, rfl, hw⟩
  | fn f caps => exact ⟨_, _, rfl, hw⟩
  | call f l => exact hw.elim
  | bad => exact hw.elim
  | eqb neq x y =>
    simp only [wpEv, ev] at hw ⊢
    generalize rdX s x = v at hw ⊢
    generalize rdX s y = u at hw ⊢
    cases v <;> cases u <;> first | exact False.elim hw | skip
    cases neq <;> exact ⟨_, _, rfl, hw⟩
  | mm mx x y =>
    simp only [wpEv, ev] at hw ⊢
    generalize rdX s x = v at hw ⊢
    generalize rdX s y = u at hw ⊢
    cases v <;> cases u <;> first | exact False.elim hw | skip
    cases mx <;> exact ⟨_, _, rfl, hw⟩
  | box x =>
    simp only [wpEv, ev] at hw ⊢
    obtain ⟨h1, h2⟩ := onTrue_inv hw
    rw [if_neg (by simpa using h1)]
    exact ⟨_, _, rfl, h2⟩
  | build z ps =>
    simp only [wpEv, ev] at hw ⊢
    obtain ⟨l, h1, h2⟩ := onSome_inv hw
    rw [h1]
    exact ⟨_, _, rfl, h2⟩
  | bslice sz len z ps =>
    simp only [wpEv, ev] at hw ⊢
    obtain ⟨h0, h3⟩ := onTrue_inv hw
    obtain ⟨l, h1, h2⟩ := onSome_inv h3
    rw [h0, h1]
    exact ⟨_, _, rfl, forceLL_inv (K := fun l => K (.sl sz (some false) true l) none) h2⟩
  | bin op x y =>
    simp only [wpEv, ev] at hw ⊢
    obtain ⟨a, h1, h2⟩ := wpBin_inv hw
    rw [h1]
    exact ⟨_, _, rfl, h2⟩
  | eqn k neq x y =>
    simp only [wpEv, ev] at hw ⊢
    obtain ⟨h0, h3⟩ := onTrue_inv hw
    obtain ⟨b, h1, h2⟩ := onSome_inv h3
    rw [h0, h1]
    exact ⟨_, _, rfl, h2⟩
  | pick c a b =>
    simp only [wpEv, ev] at hw ⊢
    generalize rdX s c = vc at hw ⊢
    generalize rdX s a = va at hw ⊢
    generalize rdX s b = vb at hw ⊢
    cases vc with
    | bool t => cases t <;> cases va <;> cases vb <;> exact ⟨_, _, rfl, hw⟩
    | _ => exact hw.elim
  | load g x =>
    simp only [wpEv, ev] at hw ⊢
    generalize rdX s x = v at hw ⊢
    cases v with
    | ptr p =>
      cases p with
      | none => exact hw.elim
      | some p =>
        obtain ⟨i, off⟩ := p
        simp only at hw ⊢
        generalize h[i]? = o at hw ⊢
        cases o with
        | none => exact hw.elim
        | some o =>
          cases o with
          | cells cs =>
            obtain ⟨a, h1, h2⟩ := onSome_inv hw
            simp only [h1]
            exact ⟨_, _, rfl, h2⟩
          | map _ _ => exact hw.elim
    | rptr cs =>
      obtain ⟨a, h1, h2⟩ := onSome_inv hw
      simp only [h1]
      exact ⟨_, _, rfl, h2⟩
    | _ => exact hw.elim
  | store n x v =>
    simp only [wpEv, ev] at hw ⊢
    generalize rdX s x = u at hw ⊢
    cases u with
    | ptr p =>
      cases p with
      | none => exact hw.elim
      | some p =>
        obtain ⟨i, off⟩ := p
        simp only at hw ⊢
        generalize h[i]? = o at hw ⊢
        cases o with
        | none => exact hw.elim
        | some o =>
          cases o with
          | cells cs =>
            obtain ⟨h1, h2⟩ := onTrue_inv hw
            simp only [Bool.and_eq_true, decide_eq_true_eq] at h1
            simp only
            rw [if_pos ⟨h1.1.1, h1.1.2, h1.2⟩]
            exact ⟨_, _, rfl, h2⟩
          | map _ _ => exact hw.elim
    | _ => exact hw.elim
  | nilck x =>
    simp only [wpEv, ev] at hw ⊢
    generalize rdX s x = v at hw ⊢
    cases v with
    | ptr p => cases p with
      | none => exact hw.elim
      | some p => exact ⟨_, _, rfl, hw⟩
    | rptr cs => exact ⟨_, _, rfl, hw⟩
    | func f l => exact ⟨_, _, rfl, hw⟩
    | _ => exact hw.elim
  | eqv neq plan x y =>
    simp only [wpEv, ev] at hw ⊢
    generalize rdX s x = v at hw ⊢
    generalize rdX s y = u at hw ⊢
    cases v <;> cases u <;> first | exact False.elim hw | skip
    obtain ⟨b, h1, h2⟩ := onSome_inv hw
    simp only [h1]
    exact ⟨_, _, rfl, h2⟩
  | un op x =>
    simp only [wpEv, ev] at hw ⊢
    generalize rdX s x = v at hw ⊢
    cases op <;> cases v <;> first | exact False.elim hw | exact ⟨_, _, rfl, hw⟩
  | cvi k x =>
    simp only [wpEv, ev] at hw ⊢
    generalize rdX s x = v at hw ⊢
    cases v <;> first | exact False.elim hw | exact ⟨_, _, rfl, hw⟩
  | cvsb x =>
    simp only [wpEv, ev] at hw ⊢
    generalize rdX s x = v at hw ⊢
    cases v <;> first | exact False.elim hw | exact ⟨_, _, rfl, hw⟩
  | cvid x =>
    simp only [wpEv, ev] at hw ⊢
    generalize rdX s x = v at hw ⊢
    cases v <;> first | exact False.elim hw | exact ⟨_, _, rfl, hw⟩
  | lens x =>
    simp only [wpEv, ev] at hw ⊢
    generalize rdX s x = v at hw ⊢
    cases v <;> first | exact False.elim hw | exact ⟨_, _, rfl, hw⟩
  | lenl x =>
    simp only [wpEv, ev] at hw ⊢
    generalize rdX s x = v at hw ⊢
    cases v <;> first | exact False.elim hw | exact ⟨_, _, rfl, hw⟩
  | cvbs x =>
    simp only [wpEv, ev] at hw ⊢
    generalize rdX s x = v at hw ⊢
    cases v <;> first | exact False.elim hw | skip
    obtain ⟨l, h1, h2⟩ := hw
    simp only [h1]
    exact ⟨_, _, rfl, h2⟩
  | slstr x lo hi =>
    simp only [wpEv, ev] at hw ⊢
    generalize rdX s x = v at hw ⊢
    cases v <;> first | exact False.elim hw | skip
    obtain ⟨l, h1, hw⟩ := onSome_inv hw
    obtain ⟨u, h2, h3, h4⟩ := onSome_inv hw
    simp only [h1, h2]
    rw [if_pos h3]
    exact ⟨_, _, rfl, h4⟩
  | slsl sz x lo hi =>
    simp only [wpEv, ev] at hw ⊢
    generalize rdX s x = v at hw ⊢
    cases v <;> first | exact False.elim hw | skip
    obtain ⟨l, h1, hw⟩ := onSome_inv hw
    obtain ⟨u, h2, h5, h3, h4⟩ := onSome_inv hw
    simp only [h1, h2]
    rw [if_pos ⟨h5, h3⟩]
    exact ⟨_, _, rfl, h4⟩
  | fld off x =>
    simp only [wpEv, ev] at hw ⊢
    generalize rdX s x = v at hw ⊢
    cases v with
    | ptr p => cases p with
      | none => exact hw.elim
      | some p => exact ⟨_, _, rfl, hw⟩
    | rptr cs => exact ⟨_, _, rfl, hw⟩
    | _ => exact hw.elim
  | fldv off g x =>
    simp only [wpEv, ev] at hw ⊢
    generalize rdX s x = v at hw ⊢
    cases v <;> first | exact False.elim hw | skip
    obtain ⟨a, h1, h2⟩ := onSome_inv hw
    simp only [h1]
    exact ⟨_, _, rfl, h2⟩
  | ixa sz x i =>
    simp only [wpEv, ev] at hw ⊢
    generalize rdX s x = v at hw ⊢
    generalize rdX s i = u at hw ⊢
    cases v <;> cases u <;> first | exact False.elim hw | skip
    obtain ⟨h0, h1, c, h2, h3⟩ := hw
    simp only
    rw [if_pos ⟨h0, h1⟩, h2]
    exact ⟨_, _, rfl, h3⟩
  | ixarr n sz x i =>
    simp only [wpEv, ev] at hw ⊢
    generalize rdX s x = v at hw ⊢
    generalize rdX s i = u at hw ⊢
    cases v with
    | ptr p => cases p with
      | none => exact hw.elim
      | some p =>
        cases u <;> first | exact False.elim hw | skip
        simp only at hw ⊢
        rw [if_pos hw.1]
        exact ⟨_, _, rfl, hw.2⟩
    | _ => exact hw.elim
  | ixs x i =>
    simp only [wpEv, ev] at hw ⊢
    generalize rdX s x = v at hw ⊢
    generalize rdX s i = u at hw ⊢
    cases v <;> cases u <;> first | exact False.elim hw | skip
    obtain ⟨h0, c, h2, h3⟩ := hw
    simp only
    rw [if_pos h0, h2]
    exact ⟨_, _, rfl, h3⟩
  | ext x i =>
    simp only [wpEv, ev] at hw ⊢
    generalize rdX s x = v at hw ⊢
    cases v <;> first | exact False.elim hw | skip
    obtain ⟨a, h1, h2⟩ := onSome_inv hw
    simp only [h1]
    exact ⟨_, _, rfl, h2⟩
  | app sz bytes x y =>
    simp only [wpEv, ev] at hw ⊢
    generalize rdX s x = v at hw ⊢
    generalize rdX s y = u at hw ⊢
    cases v <;> cases u <;> first | exact False.elim hw | skip
    obtain ⟨h1, h2, ⟨h3, h4⟩, h5⟩ := hw
    simp only
    rw [if_pos h1, if_pos ⟨h2, h3, h4⟩]
    exact ⟨_, _, rfl, h5⟩
  | apps bytes x y =>
    simp only [wpEv, ev] at hw ⊢
    generalize rdX s x = v at hw ⊢
    generalize rdX s y = u at hw ⊢
    cases v <;> cases u <;> first | exact False.elim hw | skip
    obtain ⟨h1, ⟨h3, h4⟩, h5⟩ := hw
    simp only
    rw [if_pos h1, if_pos ⟨h3, h4⟩]
    exact ⟨_, _, rfl, h5⟩
  | mk sz bytes z n =>
    simp only [wpEv, ev] at hw ⊢
    generalize rdX s n = v at hw ⊢
    cases v with
    | int k j =>
      cases k <;> first | exact False.elim hw | skip
      obtain ⟨h1, h2, h3⟩ := onTrue_inv hw
      simp only
      rw [if_pos ⟨h2.1, h2.2.1, h2.2.2, h1⟩]
      exact ⟨_, _, rfl, h3⟩
    | _ => exact hw.elim

end Go.Proofs.Ytjlcnnijpmijhaa.V

/- A small logic of values over the model, part 27: states that are told slot by slot; the weakest precondition of code, reckoned. -/
namespace Go.Proofs.Ytjlcnnijpmijhaa.V

/-- A state: what was written last stands first. -/
structure Sy where
  base : List AV
  ups : List (Nat × AV)
  h : List HObj

def look (t : Nat) (d : AV) : List (Nat × AV) → AV
  | [] => d
  | (i, a) :: r => match Nat.beq i t with
    | true => a
    | false => look t d r

def nthD : List AV → Nat → AV
  | [], _ => .undef
  | a :: _, 0 => a
  | _ :: r, n + 1 => nthD r n

def Sy.get (σ : Sy) (t : Nat) : AV := look t (nthD σ.base t) σ.ups

def Sy.rd (σ : Sy) : VX → AV
  | .tmp t => σ.get t
  | .cst a => a

def Sy.stripped (σ : Sy) : List Nat → List (Nat × AV) → List (Nat × AV)
  | [], l => l
  | i :: T, l => (i, (σ.get i).strip) :: σ.stripped T l

def Sy.app (σ : Sy) (dst : Option Nat) (d : SD) : Sy :=
  ⟨σ.base, match dst with
    | some t => (t, d.x) :: σ.stripped d.T σ.ups
    | none => σ.stripped d.T σ.ups, boxL d.b σ.h⟩

/-- The slots of N as a list. -/
def Sy.st (N : Nat) (σ : Sy) : St := ⟨(List.range N).map σ.get, σ.h⟩

def Sy.ok (N : Nat) (σ : Sy) : Prop := ∀ i, N ≤ i → σ.get i = .undef

theorem nthD_eq (l : List AV) (n : Nat) : nthD l n = l.getD n .undef := by
  induction l generalizing n with
  | nil => rfl
  | cons a r ih =>
    cases n with
    | zero => rfl
    | succ n => exact ih n

theorem look_cons (t : Nat) (d : AV) (i : Nat) (a : AV) (r : List (Nat × AV)) : look t d ((i, a) :: r) = if i = t then a else look t d r := by
  rw [look]
  by_cases h : i = t
  · rw [if_pos h, show Nat.beq i t = true from Nat.beq_eq.mpr h]
  · rw [if_neg h]
    have : Nat.beq i t = false := by
      cases hb : Nat.beq i t with
      | false => rfl
      | true => exact absurd (Nat.eq_of_beq_eq_true hb) h
    rw [this]

theorem Sy.st_length (N : Nat) (σ : Sy) : (σ.st N).t.length = N := by simp [Sy.st]

theorem Sy.st_getD {N : Nat} {σ : Sy} (h : σ.ok N) (i : Nat) : (σ.st N).t.getD i .undef = σ.get i := by
  rw [Sy.st, List.getD_eq_getElem?_getD, List.getElem?_map]
  rcases Nat.lt_or_ge i N with hi | hi
  · simp [List.getElem?_range hi]
  · rw [List.getElem?_eq_none (by simpa using hi), h i hi]; rfl

theorem Sy.st_fs {N : Nat} {σ : Sy} (h : σ.ok N) : (σ.st N).fs = ⟨σ.get, fun i => σ.h[i]?⟩ := FS.ext' (fun i => Sy.st_getD h i) (fun _ => rfl)

theorem Sy.rd_eq (σ : Sy) (x : VX) : σ.rd x = rdX σ.get x := by cases x <;> rfl

theorem look_stripped (σ : Sy) (d : AV) (t : Nat) (l : List (Nat × AV)) : ∀ (T : List Nat), look t d (σ.stripped T l) = if t ∈ T then (σ.get t).strip else look t d l
  | [] => by simp [Sy.stripped]
  | i :: T => by
    rw [Sy.stripped, look_cons, look_stripped σ d t l T]
    by_cases h : i = t
    · subst h; simp
    · have h2 : ¬ t = i := fun e => h e.symm
      simp [h, h2]

theorem Sy.app_get (σ : Sy) (dst : Option Nat) (d : SD) (i : Nat) : (σ.app dst d).get i = if dst = some i then d.x else if i ∈ d.T then (σ.get i).strip else σ.get i := by
  unfold Sy.app Sy.get
  cases dst with
  | none =>
    simp only [look_stripped]
    simp only [reduceCtorEq, ↓reduceIte]
    rfl
  | some t =>
    simp only [look_cons, look_stripped, Option.some.injEq]
    rfl

theorem Sy.app_ok {N : Nat} {σ : Sy} {dst : Option Nat} {d : SD} (h : σ.ok N) (hd : ∀ t, dst = some t → t < N) : (σ.app dst d).ok N := by
  intro i hi
  rw [Sy.app_get, if_neg, h i hi]
  · split <;> rfl
  · intro e
    have := hd i e
    omega

theorem St.ext' {a b : St} (h1 : a.t = b.t) (h2 : a.h = b.h) : a = b := by
  cases a; cases b
  simp only at h1 h2
  rw [h1, h2]

theorem Sy.app_st {N : Nat} {σ : Sy} {dst : Option Nat} {d : SD} (h : σ.ok N) (_hd : ∀ t, dst = some t → t < N) : (σ.st N).app dst d = (σ.app dst d).st N := by
  refine St.ext' (List.ext_getElem? fun i => ?_) rfl
  rcases Nat.lt_or_ge i N with hi | hi
  · have e1 : ((σ.app dst d).st N).t[i]? = some ((σ.app dst d).get i) := by
      simp [Sy.st, List.getElem?_range hi]
    have hl : i < ((σ.st N).app dst d).t.length := by rw [St.app_length, Sy.st_length]; exact hi
    have e2 : ((σ.st N).app dst d).t.getD i .undef = ((σ.st N).app dst d).t[i] := by rw [List.getD_eq_getElem?_getD, List.getElem?_eq_getElem hl]; rfl
    rw [e1, List.getElem?_eq_getElem hl, ← e2]
    congr 1
    rw [Sy.app_get]
    show (putL dst d.x (stripT d.T (σ.st N).t)).getD i .undef = _
    have hs : (stripT d.T (σ.st N).t).getD i .undef = if i ∈ d.T then (σ.get i).strip else σ.get i := by
      rw [stripT_getD, Sy.st_getD h]
    cases hdst : dst with
    | none => simp only [putL, reduceCtorEq, ↓reduceIte]; exact hs
    | some t =>
      simp only [putL, Option.some.injEq]
      rw [List.getD_eq_getElem?_getD, List.getElem?_set]
      by_cases hti : t = i
      · subst hti
        rw [if_pos rfl, if_pos rfl, if_pos (by rw [stripT_length, Sy.st_length]; exact hi)]
        rfl
      · rw [if_neg hti, if_neg hti, ← List.getD_eq_getElem?_getD]
        exact hs
  · rw [List.getElem?_eq_none (by rw [St.app_length, Sy.st_length]; exact hi), List.getElem?_eq_none (by rw [Sy.st_length]; exact hi)]

/-- What holds of a state's list. -/
def QS (N : Nat) (Q : VE → Sy → Prop) : VE → St → Prop := fun x S => ∃ σ : Sy, S = σ.st N ∧ σ.ok N ∧ Q x σ

def VloopS (P : Program) (L : Nat → Bool) (N h0 : Nat) (c : VC) (Q : VE → Sy → Prop) (σ : Sy) : Prop := σ.ok N → Vloop P L N h0 c (QS N Q) (σ.st N)

def nodupB : List Nat → Bool
  | [] => true
  | a :: l => !(l.any fun b => Nat.beq a b) && nodupB l

theorem nodupB_spec : ∀ {l : List Nat}, nodupB l = true → l.Nodup
  | [], _ => .nil
  | a :: l, h => by
    simp only [nodupB, Bool.and_eq_true, Bool.not_eq_true'] at h
    refine List.nodup_cons.2 ⟨fun hm => ?_, nodupB_spec h.2⟩
    have : l.any (fun b => Nat.beq a b) = true := List.any_eq_true.2 ⟨a, hm, Nat.beq_refl a⟩
    rw [h.1] at this
    cases this

/-- A contract that knows of no box, and arguments that know of none. -/
def PCallN (P : Program) (f : Nat) (args : List AV) (ret : AV) : Prop := (∀ a, a ∈ args → NP (fun _ => False) a) ∧ PCall P f args ret

/-- What a slot's Bool is, is known. -/
def Sy.know (σ : Sy) (t : Nat) (b : Bool) : Sy :=
  match σ with
  | ⟨base, ups, h⟩ => ⟨base, (t, .bool b) :: ups, h⟩

theorem Sy.know_get {σ : Sy} {t : Nat} {b : Bool} (h : σ.get t = .bool b) : (σ.know t b).get = σ.get := by
  funext i
  show look i (nthD σ.base i) ((t, .bool b) :: σ.ups) = σ.get i
  rw [look_cons]
  split
  · rename_i e
    rw [← e, h]
  · rfl

/-- The guard: done, or not. -/
def wpGuard (g : Option (Nat × Bool)) (σ : Sy) (on off : Sy → Prop) : Prop :=
  match g with
  | none => on σ
  | some (t, want) => match σ.get t with
    | .bool b => (b = want → on (σ.know t want)) ∧ (b ≠ want → off (σ.know t !want))
    | .tup [] => off σ
    | _ => False

/-- A call by contract. -/
def wpPC (P : Program) (σ : Sy) (f : VX) (args : List VX) (K : SD → Prop) : Prop :=
  match σ.rd f with
  | .func g [] => onTrue (nodupB (argTmps args)) (∃ ret, PCallN P g (args.map σ.rd) ret ∧ K ⟨argTmps args, ret, none⟩)
  | _ => False

def wpHC (P : Program) (σ : Sy) (f : VX) (args : List VX) (K : SD → List HObj → Prop) : Prop :=
  match σ.rd f with
  | .func g [] => onTrue (nodupB (argTmps args)) (∃ ret h', VCall P g (args.map σ.rd) σ.h ret h' ∧ K ⟨argTmps args, ret, none⟩ h')
  | _ => False

/-- A call that knows of one box: its first argument points to it. -/
def wpBC (P : Program) (σ : Sy) (f : VX) (args : List VX) (K : SD → Prop) : Prop :=
  match σ.rd f with
  | .func g [] => onTrue (nodupB (argTmps args)) (match args.map σ.rd with
    | .ptr (some (i, off)) :: rest => match σ.h[i]? with
      | some ob => ∃ ret ob', (∀ a, a ∈ rest → NP (fun _ => False) a) ∧ NPo (fun _ => False) ob ∧ NPo (fun _ => False) ob' ∧ NP (fun _ => False) ret ∧ VCall P g (.ptr (some (0, off)) :: rest) [ob] ret [ob'] ∧ K ⟨argTmps args, ret, some (i, ob')⟩
      | none => False
    | _ => False)
  | _ => False

def forceN (n : Nat) (K : Nat → Prop) : Prop :=
  match n with
  | 0 => K 0
  | 1 => K 1
  | 2 => K 2
  | 3 => K 3
  | 4 => K 4
  | 5 => K 5
  | 6 => K 6
  | 7 => K 7
  | 8 => K 8
  | 9 => K 9
  | 10 => K 10
  | 11 => K 11
  | 12 => K 12
  | 13 => K 13
  | 14 => K 14
  | 15 => K 15
  | n => K n

theorem forceN_inv {n : Nat} {K : Nat → Prop} (h : forceN n K) : K n := by
  unfold forceN at h
  split at h <;> exact h

def forceAV (x : AV) (K : AV → Prop) : Prop :=
  match x with
  | .agg cs => forceL cs fun cs => K (.agg cs)
  | .tup vs => forceL vs fun vs => K (.tup vs)
  | .iface t v => force1 v fun v => K (.iface t v)
  | .ptr (some (i, o)) => forceN i fun i => forceN o fun o => K (.ptr (some (i, o)))
  | x => force1 x K

def forceT (σ : Sy) (ups : List (Nat × AV)) : List Nat → (List (Nat × AV) → Prop) → Prop
  | [], K => K ups
  | i :: T, K => force1 (σ.get i).strip fun a => forceT σ ups T fun l => K ((i, a) :: l)

def forceH : List HObj → (List HObj → Prop) → Prop
  | [], K => K []
  | o :: l, K => forceH l fun l => match o with
    | .cells cs => K (.cells cs :: l)
    | .map a b => K (.map a b :: l)

def forceB (b : Option (Nat × HObj)) (h : List HObj) (K : List HObj → Prop) : Prop :=
  match b with
  | none => K h
  | some (i, .cells cs) => forceL cs fun cs => forceH (boxL (some (i, .cells cs)) h) K
  | some (i, .map a b) => forceH (boxL (some (i, .map a b)) h) K

def wpPut (σ : Sy) (dst : Option Nat) (d : SD) (K : Sy → Prop) : Prop :=
  match σ with
  | ⟨base, ups, h⟩ => forceAV d.x fun x => forceT ⟨base, ups, h⟩ ups d.T fun l => forceB d.b h fun h =>
    match dst with
    | some t => K ⟨base, (t, x) :: l, h⟩
    | none => K ⟨base, l, h⟩

theorem forceAV_inv {x : AV} {K : AV → Prop} (h : forceAV x K) : K x := by
  cases x with
  | agg cs => exact forceL_inv (K := fun cs => K (.agg cs)) h
  | tup cs => exact forceL_inv (K := fun cs => K (.tup cs)) h
  | iface t v => exact force1_inv (K := fun v => K (.iface t v)) h
  | ptr p => cases p with
    | none => exact h
    | some p => 
      unfold forceAV at h
      exact forceN_inv (K := fun o => K (.ptr (some (p.1, o)))) (forceN_inv (n := p.1) (K := fun i => forceN p.2 fun o => K (.ptr (some (i, o)))) h)
  | _ => exact h

theorem forceT_inv {σ : Sy} {ups : List (Nat × AV)} : ∀ {T : List Nat} {K : List (Nat × AV) → Prop}, forceT σ ups T K → K (σ.stripped T ups)
  | [], _K, h => h
  | i :: _T, K, h => forceT_inv (K := fun l => K ((i, (σ.get i).strip) :: l)) (force1_inv h)

theorem forceH_inv : ∀ {l : List HObj} {K : List HObj → Prop}, forceH l K → K l
  | [], K, h => h
  | o :: l, K, h => by
    have := forceH_inv (l := l) h
    cases o <;> exact this

theorem forceB_inv {b : Option (Nat × HObj)} {h : List HObj} {K : List HObj → Prop} (hh : forceB b h K) : K (boxL b h) := by
  match b with
  | none => exact hh
  | some (i, .cells cs) => exact forceH_inv (forceL_inv hh)
  | some (i, .map a b) => exact forceH_inv hh

theorem wpPut_inv {σ : Sy} {dst : Option Nat} {d : SD} {K : Sy → Prop} (h : wpPut σ dst d K) : K (σ.app dst d) := by
  obtain ⟨base, ups, hp⟩ := σ
  unfold wpPut at h
  have h1 := forceAV_inv h
  have h2 := forceT_inv h1
  have h3 := forceB_inv h2
  unfold Sy.app
  cases dst <;> exact h3

/-- One operation, then what stands behind it ('next'). -/
def wpOp (P : Program) (L : Nat → Bool) (o : VOper) (next : Sy → Prop) (σ : Sy) : Prop := wpGuard o.guard σ
    (fun σ => match o.call with
      | none => wpEv (o.fl L) σ.get (match σ with | ⟨_, _, h⟩ => h) o.op fun x b => wpPut σ o.dst ⟨takes (o.fl L) o.op, x, b⟩ next
      | some (f, args) => (wpPC P σ f args fun d => wpPut σ o.dst d next) ∨
          ((wpHC P σ f args fun d h' => wpPut σ o.dst d fun σ' => forceH h' fun h' => match σ' with | ⟨base, ups, _⟩ => next ⟨base, ups, h'⟩) ∨
          wpBC P σ f args fun d => wpPut σ o.dst d next))
    (fun σ => wpPut σ o.dst ⟨[], .tup [], none⟩ next)

def wpOps (P : Program) (L : Nat → Bool) (os : List VOper) : (Sy → Prop) → Sy → Prop :=
  List.rec (motive := fun _ => (Sy → Prop) → Sy → Prop) (fun K σ => K σ) (fun o _ next K σ => wpOp P L o (next K) σ) os

def wpDrOp (P : Program) (L : Nat → Bool) (o : VOper) (next : (Sy → List (List Res) → List (List Res) → Prop) → Sy → Prop) (K : Sy → List (List Res) → List (List Res) → Prop) (σ : Sy) : Prop := wpGuard o.guard σ
    (fun σ => match o.call with
      | none => wpEv (o.fl L) σ.get (match σ with | ⟨_, _, h⟩ => h) o.op fun x b => wpPut σ o.dst ⟨takes (o.fl L) o.op, x, b⟩ (next fun σ'' ws rs => K σ'' (wrL o.dst ⟨takes (o.fl L) o.op, x, b⟩ :: ws) (rdL o σ.get σ.h.length :: rs))
      | some (f, args) => (wpPC P σ f args fun d => wpPut σ o.dst d (next fun σ'' ws rs => K σ'' (wrL o.dst d :: ws) (rdL o σ.get σ.h.length :: rs))) ∨ (False ∨
          wpBC P σ f args fun d => wpPut σ o.dst d (next fun σ'' ws rs => K σ'' (wrL o.dst d :: ws) (rdL o σ.get σ.h.length :: rs))))
    (fun σ => wpPut σ o.dst ⟨[], .tup [], none⟩ (next fun σ'' ws rs => K σ'' (wrL o.dst ⟨[], .tup [], none⟩ :: ws) (rdL o σ.get σ.h.length :: rs)))

def wpDr (P : Program) (L : Nat → Bool) (os : List VOper) : (Sy → List (List Res) → List (List Res) → Prop) → Sy → Prop :=
  List.rec (motive := fun _ => (Sy → List (List Res) → List (List Res) → Prop) → Sy → Prop) (fun K σ => K σ [] []) (fun o _ next K σ => wpDrOp P L o next K σ) os

def thenS (k : Sy → Prop) (Q : VE → Sy → Prop) : VE → Sy → Prop
  | .normal, σ => k σ
  | .exit i, σ => Q (.exit i) σ
  | .ret, σ => Q .ret σ

def blockS (id : Nat) (Q : VE → Sy → Prop) : VE → Sy → Prop
  | .exit i, σ => match Nat.beq i id with
    | true => Q .normal σ
    | false => Q (.exit i) σ
  | .normal, σ => Q .normal σ
  | .ret, σ => Q .ret σ

/-- Behind a drawn region. -/
def drQ (ops : List VOper) (K : Sy → Prop) (σ : Sy) (ws rs : List (List Res)) : Prop := drawOk (befores ops []) ws rs = true ∧ K σ

def wpCond (z : VX) (x y : (VE → Sy → Prop) → Sy → Prop) (Q : VE → Sy → Prop) (σ : Sy) : Prop :=
  match σ.rd z with
  | .bool b => (b = true → x Q σ) ∧ (b = false → y Q σ)
  | _ => False

def wpV (P : Program) (L : Nat → Bool) (N h0 : Nat) (c : VC) : (VE → Sy → Prop) → Sy → Prop :=
  VC.rec (motive := fun _ => (VE → Sy → Prop) → Sy → Prop)
    (fun Q σ => Q .normal σ)
    (fun ops Q σ => wpOps P L ops (Q .normal) σ)
    (fun ops Q σ => wpDr P L ops (drQ ops (Q .normal)) σ)
    (fun _ _ x y Q σ => x (thenS (y Q) Q) σ)
    (fun z _ _ x y Q σ => wpCond z x y Q σ)
    (fun id _ x Q σ => x (blockS id Q) σ)
    (fun c _ Q σ => VloopS P L N h0 c Q σ)
    (fun id Q σ => Q (.exit id) σ)
    (fun Q σ => Q .ret σ) c

end Go.Proofs.Ytjlcnnijpmijhaa.V

/- A small logic of values over the model, part 28: what is reckoned holds; from reckoning to a contract. -/
namespace Go.Proofs.Ytjlcnnijpmijhaa.V

section
variable {P : Program} {L : Nat → Bool} {N h0 : Nat}

theorem wpGuard_inv {o : VOper} {σ : Sy} {on off : Sy → Prop} (h : wpGuard o.guard σ on off) :
    ∃ σ1 : Sy, σ1.get = σ.get ∧ σ1.h = σ.h ∧ ((o.on σ1.get ∧ on σ1) ∨ ∃ t want, o.guard = some (t, want) ∧ offV want (σ1.get t) = true ∧ off σ1) := by
  unfold wpGuard at h
  unfold VOper.on
  split at h
  · rename_i hg
    rw [hg]
    exact ⟨σ, rfl, rfl, .inl ⟨trivial, h⟩⟩
  · rename_i t want hg
    rw [hg]
    split at h
    · rename_i b hb
      by_cases hbw : b = want
      · rw [hbw] at hb
        exact ⟨σ.know t want, Sy.know_get hb, rfl, .inl ⟨show (σ.know t want).get t = _ by rw [Sy.know_get hb, hb], h.1 hbw⟩⟩
      · have e : b = !want := by cases b <;> cases want <;> simp_all
        rw [e] at hb
        exact ⟨σ.know t !want, Sy.know_get hb, rfl, .inr ⟨t, want, rfl, by rw [Sy.know_get hb, hb]; simp [offV], h.2 hbw⟩⟩
    · rename_i hb
      exact ⟨σ, rfl, rfl, .inr ⟨t, want, rfl, by rw [hb]; rfl, h⟩⟩
    · exact h.elim

theorem Sy.st_congr {σ σ1 : Sy} (h1 : σ1.get = σ.get) (h2 : σ1.h = σ.h) : σ.st N = σ1.st N := by
  unfold Sy.st
  rw [h1, h2]

theorem Sy.ok_congr {σ σ1 : Sy} (h1 : σ1.get = σ.get) (h : σ.ok N) : σ1.ok N := fun i hi => by rw [h1]; exact h i hi

theorem rd_fun (σ : Sy) : σ.rd = rdX σ.get := funext σ.rd_eq

theorem wpPC_inv {σ : Sy} {f : VX} {args : List VX} {K : SD → Prop} (h : wpPC P σ f args K) : ∃ g ret, rdX σ.get f = .func g [] ∧ (argTmps args).Nodup ∧ (∀ v, v ∈ args → NP (fun _ => False) (rdX σ.get v)) ∧ PCall P g (args.map (rdX σ.get)) ret ∧ K ⟨argTmps args, ret, none⟩ := by
  unfold wpPC at h
  split at h
  · rename_i g hg
    obtain ⟨h1, ret, h2, h3⟩ := onTrue_inv h
    rw [rd_fun] at h2 hg
    exact ⟨g, ret, hg, nodupB_spec h1, fun v hv => h2.1 _ (List.mem_map.2 ⟨v, hv, rfl⟩), h2.2, h3⟩
  · exact h.elim

theorem wpBC_inv {σ : Sy} {f : VX} {args : List VX} {K : SD → Prop} (h : wpBC P σ f args K) : ∃ g ret i off rest ob ob', rdX σ.get f = .func g [] ∧ (argTmps args).Nodup ∧ args.map (rdX σ.get) = .ptr (some (i, off)) :: rest ∧ σ.h[i]? = some ob ∧ (∀ a, a ∈ rest → NP (fun _ => False) a) ∧
    NPo (fun _ => False) ob ∧ NPo (fun _ => False) ob' ∧ NP (fun _ => False) ret ∧ VCall P g (.ptr (some (0, off)) :: rest) [ob] ret [ob'] ∧ K ⟨argTmps args, ret, some (i, ob')⟩ := by
  unfold wpBC at h
  split at h
  · rename_i g hg
    obtain ⟨h1, h2⟩ := onTrue_inv h
    split at h2
    · rename_i i off rest hm
      split at h2
      · rename_i ob hb
        obtain ⟨ret, ob', k1, k2, k3, k4, k5, k6⟩ := h2
        rw [rd_fun] at hg hm
        exact ⟨g, ret, i, off, rest, ob, ob', hg, nodupB_spec h1, hm, hb, k1, k2, k3, k4, k5, k6⟩
      · exact h2.elim
    · exact h2.elim
  · exact h.elim

theorem wpOps_sound : ∀ {os : List VOper} {K : Sy → Prop} {σ : Sy}, wpOps P L os K σ → σ.ok N → (∀ o, o ∈ os → ∀ t, o.dst = some t → t < N) → ∃ σ', VSeq P L os (σ.st N) (σ'.st N) ∧ σ'.ok N ∧ K σ'
  | [], K, σ, h, hok, _ => ⟨σ, .nil _, hok, h⟩
  | o :: os, K, σ0, h, hok, hd => by
    have hd0 := hd o (by simp)
    have hd1 : ∀ o', o' ∈ os → ∀ t, o'.dst = some t → t < N := fun o' ho' => hd o' (by simp [ho'])
    replace h : wpOp P L o (wpOps P L os K) σ0 := h
    unfold wpOp at h
    obtain ⟨σ, e1, e2, hh⟩ := wpGuard_inv h
    rw [Sy.st_congr e1 e2]
    replace hok := Sy.ok_congr e1 hok
    rcases hh with ⟨hon, h1⟩ | ⟨t, want, hg, hb, h1⟩
    · split at h1
      · rename_i hc
        obtain ⟨x, b, h2, h3⟩ := wpEv_sound h1
        obtain ⟨σ', k1, k2, k3⟩ := wpOps_sound (wpPut_inv h3) (Sy.app_ok hok hd0) hd1
        refine ⟨σ', .cons o os _ ⟨takes (o.fl L) o.op, x, b⟩ _ ?_ ?_, k2, k3⟩
        · rw [Sy.st_fs hok]
          exact .ev x b hc hon h2
        · rw [Sy.app_st hok hd0]
          exact k1
      · rename_i f args hc
        rcases h1 with h1 | h1
        · obtain ⟨g, ret, h2, h3, h4, h5, h6⟩ := wpPC_inv h1
          obtain ⟨σ', k1, k2, k3⟩ := wpOps_sound (wpPut_inv h6) (Sy.app_ok hok hd0) hd1
          refine ⟨σ', .cons o os _ ⟨argTmps args, ret, none⟩ _ ?_ ?_, k2, k3⟩
          · rw [Sy.st_fs hok]
            exact .pcall f args g ret hc hon h2 h3 h4 h5
          · rw [Sy.app_st hok hd0]
            exact k1
        rcases h1 with h1 | h1
        · unfold wpHC at h1
          split at h1
          · rename_i g hg
            obtain ⟨h2, ret, h', h3, h4⟩ := onTrue_inv h1
            have h4 := forceH_inv (wpPut_inv h4)
            have hget : (⟨σ.base, (σ.app o.dst ⟨argTmps args, ret, none⟩).ups, h'⟩ : Sy).get = (σ.app o.dst ⟨argTmps args, ret, none⟩).get := rfl
            have hok' : (⟨σ.base, (σ.app o.dst ⟨argTmps args, ret, none⟩).ups, h'⟩ : Sy).ok N := by
              intro i hi
              rw [hget]
              exact Sy.app_ok hok hd0 i hi
            obtain ⟨σ', k1, k2, k3⟩ := wpOps_sound h4 hok' hd1
            rw [rd_fun] at hg h3
            refine ⟨σ', .hcall o os _ _ f args g ret h' hc ?_ ?_ (nodupB_spec h2) ?_ ?_, k2, k3⟩
            · rw [Sy.st_fs hok]; exact hon
            · rw [Sy.st_fs hok]; exact hg
            · rw [Sy.st_fs hok]; exact h3
            · have e : (⟨putL o.dst ret (stripT (argTmps args) (σ.st N).t), h'⟩ : St) = (⟨σ.base, (σ.app o.dst ⟨argTmps args, ret, none⟩).ups, h'⟩ : Sy).st N := by
                refine St.ext' ?_ rfl
                have := congrArg St.t (Sy.app_st (d := ⟨argTmps args, ret, none⟩) hok hd0)
                exact this
              rw [e]
              exact k1
          · exact h1.elim
        · obtain ⟨g, ret, i, off, rest, ob, ob', b1, b2, b3, b4, b5, b6, b7, b8, b9, b10⟩ := wpBC_inv h1
          obtain ⟨σ', k1, k2, k3⟩ := wpOps_sound (wpPut_inv b10) (Sy.app_ok hok hd0) hd1
          refine ⟨σ', .cons o os _ ⟨argTmps args, ret, some (i, ob')⟩ _ ?_ ?_, k2, k3⟩
          · rw [Sy.st_fs hok]
            exact .bcall f args g ret i off rest ob ob' hc hon b1 b2 b3 b4 b5 b6 b7 b8 b9
          · rw [Sy.app_st hok hd0]
            exact k1
    · obtain ⟨σ', k1, k2, k3⟩ := wpOps_sound (wpPut_inv h1) (Sy.app_ok hok hd0) hd1
      refine ⟨σ', .cons o os _ ⟨[], .tup [], none⟩ _ ?_ ?_, k2, k3⟩
      · rw [Sy.st_fs hok]
        exact .off t want hg hb
      · rw [Sy.app_st hok hd0]
        exact k1

theorem wpDr_sound : ∀ {os : List VOper} {K : Sy → List (List Res) → List (List Res) → Prop} {σ : Sy}, wpDr P L os K σ → σ.ok N → (∀ o, o ∈ os → ∀ t, o.dst = some t → t < N) →
    ∃ σ' ds rs, VRun P L os (σ.st N) ds rs (σ'.st N) ∧ σ'.ok N ∧ K σ' (ds.map fun p => wrL p.1 p.2) rs
  | [], K, σ, h, hok, _ => ⟨σ, [], [], .nil _, hok, h⟩
  | o :: os, K, σ0, h, hok, hd => by
    have hd0 := hd o (by simp)
    have hd1 : ∀ o', o' ∈ os → ∀ t, o'.dst = some t → t < N := fun o' ho' => hd o' (by simp [ho'])
    replace h : wpDrOp P L o (wpDr P L os) K σ0 := h
    unfold wpDrOp at h
    obtain ⟨σ, e1, e2, hh⟩ := wpGuard_inv h
    rw [Sy.st_congr e1 e2]
    replace hok := Sy.ok_congr e1 hok
    have hrd : rdL o (σ.st N).fs.sl (σ.st N).h.length = rdL o σ.get σ.h.length := by rw [Sy.st_fs hok]; rfl
    rcases hh with ⟨hon, h1⟩ | ⟨t, want, hg, hb, h1⟩
    · split at h1
      · rename_i hc
        obtain ⟨x, b, h2, h3⟩ := wpEv_sound h1
        obtain ⟨σ', ds, rs, k1, k2, k3⟩ := wpDr_sound (wpPut_inv h3) (Sy.app_ok hok hd0) hd1
        refine ⟨σ', _, _, .cons o os _ ⟨takes (o.fl L) o.op, x, b⟩ ds rs _ ?_ ?_, k2, by rw [hrd]; exact k3⟩
        · rw [Sy.st_fs hok]
          exact .ev x b hc hon h2
        · rw [Sy.app_st hok hd0]
          exact k1
      · rename_i f args hc
        rcases h1 with h1 | h1 | h1
        · obtain ⟨g, ret, h2, h3, h4, h5, h6⟩ := wpPC_inv h1
          obtain ⟨σ', ds, rs, k1, k2, k3⟩ := wpDr_sound (wpPut_inv h6) (Sy.app_ok hok hd0) hd1
          refine ⟨σ', _, _, .cons o os _ ⟨argTmps args, ret, none⟩ ds rs _ ?_ ?_, k2, by rw [hrd]; exact k3⟩
          · rw [Sy.st_fs hok]
            exact .pcall f args g ret hc hon h2 h3 h4 h5
          · rw [Sy.app_st hok hd0]
            exact k1
        · exact h1.elim
        · obtain ⟨g, ret, i, off, rest, ob, ob', b1, b2, b3, b4, b5, b6, b7, b8, b9, b10⟩ := wpBC_inv h1
          obtain ⟨σ', ds, rs, k1, k2, k3⟩ := wpDr_sound (wpPut_inv b10) (Sy.app_ok hok hd0) hd1
          refine ⟨σ', _, _, .cons o os _ ⟨argTmps args, ret, some (i, ob')⟩ ds rs _ ?_ ?_, k2, by rw [hrd]; exact k3⟩
          · rw [Sy.st_fs hok]
            exact .bcall f args g ret i off rest ob ob' hc hon b1 b2 b3 b4 b5 b6 b7 b8 b9
          · rw [Sy.app_st hok hd0]
            exact k1
    · obtain ⟨σ', ds, rs, k1, k2, k3⟩ := wpDr_sound (wpPut_inv h1) (Sy.app_ok hok hd0) hd1
      refine ⟨σ', _, _, .cons o os _ ⟨[], .tup [], none⟩ ds rs _ ?_ ?_, k2, by rw [hrd]; exact k3⟩
      · rw [Sy.st_fs hok]
        exact .off t want hg hb
      · rw [Sy.app_st hok hd0]
        exact k1

theorem Vwp.of_reg {l : List VOper} {Q : VE → St → Prop} {S : St} (h : dstOk N l = true → Vwp P L N h0 (.reg l) Q S) : Vwp P L N h0 (.reg l) Q S := by
  intro hN hk c0 hc
  obtain ⟨id, ops, rfl, h1, h2⟩ := comp_reg hc
  exact h h2 hN hk _ hc

theorem Vwp.of_dreg {l : List VOper} {Q : VE → St → Prop} {S : St} (h : dstOk N l = true → Vwp P L N h0 (.dreg l) Q S) : Vwp P L N h0 (.dreg l) Q S := by
  intro hN hk c0 hc
  obtain ⟨id, ops, rfl, h1, h2, h3⟩ := comp_dreg hc
  exact h h2 hN hk _ hc

theorem wpV_sound : ∀ {c : VC} {Q : VE → Sy → Prop} {σ : Sy}, wpV P L N h0 c Q σ → σ.ok N → Vwp P L N h0 c (QS N Q) (σ.st N)
  | .skip, Q, σ, h, hok => Vwp.skip ⟨σ, rfl, hok, h⟩
  | .ret, Q, σ, h, hok => Vwp.ret ⟨σ, rfl, hok, h⟩
  | .exit id, Q, σ, h, hok => Vwp.exit ⟨σ, rfl, hok, h⟩
  | .reg l, Q, σ, h, hok => Vwp.of_reg fun hd => by
    obtain ⟨σ', h1, h2, h3⟩ := wpOps_sound (N := N) h hok (dstOk_spec hd)
    exact Vwp.reg h1 ⟨σ', rfl, h2, h3⟩
  | .dreg l, Q, σ, h, hok => Vwp.of_dreg fun hd => by
    obtain ⟨σ', ds, rs, h1, h2, h3, h4⟩ := wpDr_sound (N := N) h hok (dstOk_spec hd)
    exact Vwp.dreg h1 h3 ⟨σ', rfl, h2, h4⟩
  | .seq a b, Q, σ, h, hok => by
    refine Vwp.seq ((wpV_sound (c := a) h hok).mono fun x S hx => ?_)
    obtain ⟨σ', rfl, h1, h2⟩ := hx
    cases x with
    | normal => exact wpV_sound (c := b) h2 h1
    | exit i => exact ⟨σ', rfl, h1, h2⟩
    | ret => exact ⟨σ', rfl, h1, h2⟩
  | .cond z x y, Q, σ, h, hok => by
    replace h : wpCond z (wpV P L N h0 x) (wpV P L N h0 y) Q σ := h
    unfold wpCond at h
    split at h
    · rename_i b hb
      refine Vwp.cond (b := b) (by rw [Sy.st_fs hok, ← Sy.rd_eq]; exact hb) (fun e => wpV_sound (c := x) (h.1 e) hok) (fun e => wpV_sound (c := y) (h.2 e) hok)
    · exact h.elim
  | .block id c, Q, σ, h, hok => by
    refine Vwp.block ((wpV_sound (c := c) h hok).mono fun x S hx => ?_)
    obtain ⟨σ', rfl, h1, h2⟩ := hx
    cases x with
    | normal => exact ⟨σ', rfl, h1, h2⟩
    | ret => exact ⟨σ', rfl, h1, h2⟩
    | exit i =>
      simp only [blockS] at h2
      simp only [blockQ]
      split at h2
      · rename_i e
        rw [if_pos (Nat.eq_of_beq_eq_true e)]
        exact ⟨σ', rfl, h1, h2⟩
      · rename_i e
        rw [if_neg (fun he => by rw [he, Nat.beq_refl] at e; cases e)]
        exact ⟨σ', rfl, h1, h2⟩
  | .loop c, Q, σ, h, hok => Vwp.loop (h hok)

/-- A loop's round. -/
theorem VloopS.round {c : VC} {Q : VE → Sy → Prop} {σ : Sy} (h : wpV P L N h0 c (thenS (VloopS P L N h0 c Q) Q) σ) : VloopS P L N h0 c Q σ := by
  intro hok
  refine Vloop.round ((wpV_sound h hok).mono fun x S hx => ?_)
  obtain ⟨σ', rfl, h1, h2⟩ := hx
  cases x with
  | normal => exact h2 h1
  | exit i => exact ⟨σ', rfl, h1, h2⟩
  | ret => exact ⟨σ', rfl, h1, h2⟩

/-- The slots that are told: each is known no better than it was. -/
def WkU (σ : Sy) : List (Nat × AV) → Prop
  | [] => True
  | (i, a) :: r => Wk (σ.get i) a ∧ WkU σ r

theorem WkU.look {σ : Sy} {t : Nat} : ∀ {l : List (Nat × AV)}, WkU σ l → Wk (σ.get t) (look t .undef l)
  | [], _ => .undef _
  | (i, a) :: r, h => by
    rw [look_cons]
    by_cases e : i = t
    · rw [if_pos e, ← e]; exact h.1
    · rw [if_neg e]; exact WkU.look h.2

theorem WkL.of {as bs : List AV} (h : as.length = bs.length) (hw : ∀ i, i < as.length → Wk (as.getD i .undef) (bs.getD i .undef)) : WkL as bs := by
  induction as generalizing bs with
  | nil => cases bs with
    | nil => exact .nil
    | cons b bs => simp at h
  | cons a as ih => cases bs with
    | nil => simp at h
    | cons b bs =>
      refine .cons _ _ _ _ (hw 0 (by simp)) (ih (by simpa using h) fun i hi => ?_)
      simpa using hw (i + 1) (by simpa using hi)

theorem WkU.st {σ : Sy} {l : List (Nat × AV)} {h : List HObj} (hok : σ.ok N) (hw : WkU σ l) (hok' : (⟨[], l, h⟩ : Sy).ok N) : WkL (σ.st N).t ((⟨[], l, h⟩ : Sy).st N).t := by
  refine WkL.of (by rw [Sy.st_length, Sy.st_length]) fun i hi => ?_
  rw [Sy.st_getD hok, Sy.st_getD hok']
  exact hw.look

def upsOk (N : Nat) : List (Nat × AV) → Bool
  | [] => true
  | (i, _) :: r => Nat.blt i N && upsOk N r

theorem upsOk_spec {l : List (Nat × AV)} {h : List HObj} (hu : upsOk N l = true) : (⟨[], l, h⟩ : Sy).ok N := by
  intro i hi
  show V.look i .undef l = .undef
  induction l with
  | nil => rfl
  | cons p r ih =>
    obtain ⟨j, a⟩ := p
    simp only [upsOk, Bool.and_eq_true] at hu
    rw [look_cons, if_neg, ih hu.2]
    intro e
    have : j < N := by simpa using hu.1
    omega

/-- A loop from a state that tells no more than what matters. -/
theorem VloopS.weak {c : VC} {Q : VE → Sy → Prop} {σ : Sy} {l : List (Nat × AV)} (hu : upsOk N l = true) (hw : WkU σ l) (hk : h0 ≤ σ.h.length) (h : VloopS P L N h0 c Q ⟨[], l, σ.h⟩) : VloopS P L N h0 c Q σ := by
  intro hok
  exact Vloop.weak (ex := []) (WkU.st hok hw (upsOk_spec hu)) (by simp [Sy.st]) hk (.inl rfl) (h (upsOk_spec hu))

/-- The same, boxes let go. -/
theorem VloopS.weakBox {c : VC} {Q : VE → Sy → Prop} {σ : Sy} {l : List (Nat × AV)} {h : List HObj} {ex : List HObj} (hu : upsOk N l = true) (hw : WkU σ l) (hh : σ.h = h ++ ex) (hk : h0 ≤ h.length)
    (hn1 : ∀ p, p ∈ l → NP (fun i => i < h.length) p.2) (hn2 : ∀ o, o ∈ h → NPo (fun i => i < h.length) o) (hl : VloopS P L N h0 c Q ⟨[], l, h⟩) : VloopS P L N h0 c Q σ := by
  intro hok
  refine Vloop.weak (ex := ex) (WkU.st (h := h) hok hw (upsOk_spec hu)) hh hk (.inr ⟨fun a ha => ?_, hn2⟩) (hl (upsOk_spec hu))
  obtain ⟨i, hi, rfl⟩ := List.mem_map.1 ha
  show NP _ (V.look i .undef l)
  clear ha hi hl hu hw
  induction l with
  | nil => exact .undef
  | cons p r ih =>
    obtain ⟨j, a⟩ := p
    rw [look_cons]
    split
    · exact hn1 (j, a) (by simp)
    · exact ih fun p hp => hn1 p (by simp [hp])

theorem VloopS.mono {c : VC} {Q Q' : VE → Sy → Prop} {σ : Sy} (hq : ∀ x σ, Q x σ → Q' x σ) (h : VloopS P L N h0 c Q σ) : VloopS P L N h0 c Q' σ := by
  intro hok hN hk c0 hc a w fr pi own hr hs hd
  refine (h hok hN hk c0 hc a w fr pi own hr hs hd).mono fun e a w hh => hh.mono fun x S hx => ?_
  obtain ⟨σ', h1, h2, h3⟩ := hx
  exact ⟨σ', h1, h2, hq _ _ h3⟩

end

/-! ### functions -/

def rvS (σ : Sy) : RV → Option AV
  | .tmp t => some (σ.get t)
  | .cell a g => match σ.get a with
    | .ptr (some (i, off)) => match σ.h[i]? with
      | some (.cells cs) => ldCells cs off g
      | _ => none
    | _ => none

def rvsS (σ : Sy) : List RV → Option (List AV)
  | [] => some []
  | r :: l => (rvS σ r).bind fun a => (rvsS σ l).map fun as => a :: as

theorem rvsS_eq {N : Nat} {σ : Sy} (h : σ.ok N) (l : List RV) : rvAVs (σ.st N) l = rvsS σ l := by
  induction l with
  | nil => rfl
  | cons r l ih =>
    rw [rvAVs, rvsS, ih]
    congr 1
    cases r with
    | tmp t => simp only [rvAV, rvS, Sy.st_getD h]
    | cell a g => simp only [rvAV, rvS, Sy.st_getD h]; rfl

/-- Where a function comes to its end with this. -/
def retS (rs : List RV) (ret : AV) : VE → Sy → Prop
  | .exit _, _ => False
  | .normal, σ => onSome (rvsS σ rs) fun xs => retAV xs = ret
  | .ret, σ => onSome (rvsS σ rs) fun xs => retAV xs = ret

/-- What is known of a function of the program. -/
def fnC (P : Program) (f : Nat) : Option (Nat × VC × List RV) :=
  match callable P f with
  | false => none
  | true => (P.funcs[f]?).bind fun fn => fn.body.bind fun c => (comp P fn.ntmps c).bind fun vc => (resRV P fn.results.toList).bind fun rs => if nodupB (rvTmps rs) then some (fn.ntmps, vc, rs) else none

theorem fnC_inv {P : Program} {f N : Nat} {vc : VC} {rs : List RV} (h : fnC P f = some (N, vc, rs)) : ∃ fn c, callable P f = true ∧ P.funcs[f]? = some fn ∧ fn.body = some c ∧ fn.ntmps = N ∧ comp P fn.ntmps c = some vc ∧ resRV P fn.results.toList = some rs ∧ (rvTmps rs).Nodup := by
  unfold fnC at h
  split at h
  · cases h
  · rename_i hc
    obtain ⟨fn, h1, h⟩ := Option.bind_eq_some_iff.1 h
    obtain ⟨c, h2, h⟩ := Option.bind_eq_some_iff.1 h
    obtain ⟨vc', h3, h⟩ := Option.bind_eq_some_iff.1 h
    obtain ⟨rs', h4, h⟩ := Option.bind_eq_some_iff.1 h
    split at h
    · rename_i hn
      cases h
      exact ⟨fn, c, hc, h1, h2, rfl, h3, h4, nodupB_spec hn⟩
    · cases h

theorem nthD_ge {l : List AV} {n : Nat} (h : l.length ≤ n) : nthD l n = .undef := by
  rw [nthD_eq, List.getD_eq_getElem?_getD, List.getElem?_eq_none h]; rfl

theorem args_ok {N : Nat} {args : List AV} {h : List HObj} (ha : args.length ≤ N) : (⟨args, [], h⟩ : Sy).ok N := fun i hi => nthD_ge (l := args) (by omega)

theorem args_st {N : Nat} {args : List AV} {h : List HObj} (ha : args.length ≤ N) : (⟨args, [], h⟩ : Sy).st N = ⟨args ++ List.replicate (N - args.length) .undef, h⟩ := by
  refine St.ext' (List.ext_getElem? fun i => ?_) rfl
  have hg : ∀ i, (⟨args, [], h⟩ : Sy).get i = args.getD i .undef := fun i => nthD_eq args i
  rcases Nat.lt_or_ge i N with hi | hi
  · simp only [Sy.st, List.getElem?_map, List.getElem?_range hi, Option.map_some, hg]
    rcases Nat.lt_or_ge i args.length with h1 | h1
    · rw [List.getElem?_append_left h1, List.getD_eq_getElem?_getD, List.getElem?_eq_getElem h1]; rfl
    · rw [List.getElem?_append_right h1, List.getD_eq_getElem?_getD, List.getElem?_eq_none h1, List.getElem?_replicate, if_pos (by omega)]; rfl
  · rw [List.getElem?_eq_none (by rw [Sy.st_length]; exact hi), List.getElem?_eq_none (by simp; omega)]

/-- From reckoning to a contract that knows of no box. -/
theorem PCallN.of {P : Program} (L : Nat → Bool) {f N : Nat} {vc : VC} {rs : List RV} (hf : fnC P f = some (N, vc, rs)) {args : List AV} {ret : AV} (ha : args.length ≤ N) (hargs : ∀ a, a ∈ args → NP (fun _ => False) a) (hret : NP (fun _ => False) ret)
    (hw : wpV P L N 0 vc (retS rs ret) ⟨args, [], []⟩) : PCallN P f args ret := by
  obtain ⟨fn, c, h1, h2, h3, rfl, h4, h5, h6⟩ := fnC_inv hf
  refine ⟨hargs, PCall.of (L := L) h1 h2 h3 h4 h5 h6 ha hret ?_⟩
  have := wpV_sound hw (args_ok ha)
  rw [args_st ha] at this
  refine this.mono fun x S hx => ?_
  obtain ⟨σ', rfl, k1, k2⟩ := hx
  cases x with
  | exit i => exact k2.elim
  | normal =>
    obtain ⟨xs, q1, q2⟩ := onSome_inv k2
    exact ⟨.inl rfl, xs, by rw [rvsS_eq k1]; exact q1, q2⟩
  | ret =>
    obtain ⟨xs, q1, q2⟩ := onSome_inv k2
    exact ⟨.inr rfl, xs, by rw [rvsS_eq k1]; exact q1, q2⟩

/-- The same with boxes: those of the caller stay, those that were made are let go. -/
def retH (rs : List RV) (_h : List HObj) (ret : AV) (h' : List HObj) : VE → Sy → Prop
  | .exit _, _ => False
  | .normal, σ => (∃ ex, σ.h = h' ++ ex) ∧ onSome (rvsS σ rs) fun xs => retAV xs = ret
  | .ret, σ => (∃ ex, σ.h = h' ++ ex) ∧ onSome (rvsS σ rs) fun xs => retAV xs = ret

theorem VCall.ofS {P : Program} (L : Nat → Bool) {f N : Nat} {vc : VC} {rs : List RV} (hf : fnC P f = some (N, vc, rs)) {args : List AV} {h : List HObj} {ret : AV} {h' : List HObj} (ha : args.length ≤ N) (hlen : h.length ≤ h'.length)
    (hret : NP (fun i => i < h'.length) ret) (hnpo : ∀ (i : Nat) (o : HObj), h'[i]? = some o → h[i]? = some o ∨ NPo (fun i => i < h'.length) o)
    (hw : wpV P L N h.length vc (retH rs h ret h') ⟨args, [], h⟩) : VCall P f args h ret h' := by
  obtain ⟨fn, c, h1, h2, h3, rfl, h4, h5, h6⟩ := fnC_inv hf
  refine VCall.of (L := L) h1 h2 h3 h4 h5 h6 ha hlen ?_
  have := wpV_sound hw (args_ok ha)
  rw [args_st ha] at this
  refine this.mono fun x S hx => ?_
  obtain ⟨σ', rfl, k1, k2⟩ := hx
  cases x with
  | exit i => exact k2.elim
  | normal =>
    obtain ⟨⟨ex, q0⟩, k2⟩ := k2
    obtain ⟨xs, q1, q2⟩ := onSome_inv k2
    exact ⟨⟨xs, by rw [rvsS_eq k1]; exact q1, q2.symm⟩, ⟨ex, q0⟩, hlen, hret, hnpo⟩
  | ret =>
    obtain ⟨⟨ex, q0⟩, k2⟩ := k2
    obtain ⟨xs, q1, q2⟩ := onSome_inv k2
    exact ⟨⟨xs, by rw [rvsS_eq k1]; exact q1, q2.symm⟩, ⟨ex, q0⟩, hlen, hret, hnpo⟩

end Go.Proofs.Ytjlcnnijpmijhaa.V

/- A small logic of values over the model, part 29: bytes, texts, numbers; what a proof by reckoning needs often. -/
namespace Go.Proofs.Ytjlcnnijpmijhaa.V

/-- Bytes, as the cells of a slice. -/
def bs (l : List UInt8) : List (List AV) := l.map fun b => [.int .u8 b.toNat]

/-- A text. -/
def st (l : List UInt8) : ByteArray := ⟨l.toArray⟩

theorem bs_len (l : List UInt8) : (bs l).length = l.length := by simp [bs]
theorem st_size (l : List UInt8) : (st l).size = l.length := by simp [st, ByteArray.size]
theorem bs_app (a b : List UInt8) : bs a ++ bs b = bs (a ++ b) := by simp [bs]
theorem bs_take (l : List UInt8) (n : Nat) : (bs l).take n = bs (l.take n) := by simp [bs, List.map_take]
theorem bs_drop (l : List UInt8) (n : Nat) : (bs l).drop n = bs (l.drop n) := by simp [bs, List.map_drop]
theorem bs_st (l : List UInt8) : bytesAV (st l) = bs l := by simp [bytesAV, bs, st]
theorem bs_get {l : List UInt8} {i : Nat} (h : i < l.length) : (bs l)[i]? = some [.int .u8 (l[i].toNat : Int)] := by simp [bs, h]
theorem st_of (s : ByteArray) : s = st s.data.toList := by cases s; simp [st]
theorem st_inj {a b : ByteArray} (h : a.data.toList = b.data.toList) : a = b := by
  cases a with
  | mk x => cases b with
    | mk y => exact congrArg ByteArray.mk (Array.ext' h)

theorem st_cut (l : List UInt8) (a b : Nat) : (st l).extract a b = st ((l.drop a).take (b - a)) := by
  apply st_inj
  rw [ByteArray.data_extract, Array.toList_extract]
  simp [st, List.extract]

theorem toBytes_bs (l : List UInt8) : toBytes (bs l) = some l := by
  induction l with
  | nil => rfl
  | cons a l ih =>
    show (toBytes (bs l)).map _ = _
    rw [ih]
    simp

theorem w_u64 (n : Int) : IntKind.u64.wrap n = n % 18446744073709551616 := by simp [IntKind.wrap, IntKind.bits, IntKind.signed]

theorem take_snoc {α : Type} (l : List α) (k : Nat) (h : k < l.length) : l.take (k + 1) = l.take k ++ [l[k]] := by
  rw [List.take_add_one, List.getElem?_eq_getElem h]; rfl

theorem np_nil {ok : Nat → Prop} : ∀ a, a ∈ ([] : List AV) → NP ok a := by simp
theorem np_cons {ok : Nat → Prop} {a : AV} {l : List AV} (h : NP ok a) (hl : ∀ x, x ∈ l → NP ok x) : ∀ x, x ∈ a :: l → NP ok x := by
  intro x hx
  rcases List.mem_cons.1 hx with rfl | hx
  · exact h
  · exact hl x hx
theorem np_bs {ok : Nat → Prop} {sz : Nat} {nl : Option Bool} {own : Bool} (l : List UInt8) : NP ok (.sl sz nl own (bs l)) := by
  refine .sl _ _ _ _ fun x hx a ha => ?_
  simp only [bs, List.mem_map] at hx
  obtain ⟨b, _, rfl⟩ := hx
  simp only [List.mem_singleton] at ha
  subst ha
  exact .int _ _
theorem np_nilsl {ok : Nat → Prop} {sz : Nat} {nl : Option Bool} {own : Bool} : NP ok (.sl sz nl own []) := .sl _ _ _ _ (by simp)

theorem Wk.eq {a b : AV} (h : a = b) : Wk a b := h ▸ .refl a

theorem sl_eq {sz : Nat} {nl : Option Bool} {own : Bool} {xs ys : List (List AV)} (h : xs = ys) : AV.sl sz nl own xs = AV.sl sz nl own ys := congrArg _ h
theorem int_eq {k : IntKind} {a b : Int} (h : a = b) : AV.int k a = AV.int k b := congrArg _ h
theorem bool_eq {a b : Bool} (h : a = b) : AV.bool a = AV.bool b := congrArg _ h
theorem str_eq {a b : ByteArray} (h : a = b) : AV.str a = AV.str b := congrArg _ h
theorem tup2 {a a' b b' : AV} (h1 : a = a') (h2 : b = b') : AV.tup [a, b] = AV.tup [a', b'] := by rw [h1, h2]
theorem tup3 {a a' b b' c c' : AV} (h1 : a = a') (h2 : b = b') (h3 : c = c') : AV.tup [a, b, c] = AV.tup [a', b', c'] := by rw [h1, h2, h3]
theorem agg2 {a a' b b' : AV} (h1 : a = a') (h2 : b = b') : AV.agg [a, b] = AV.agg [a', b'] := by rw [h1, h2]
theorem agg3 {a a' b b' c c' : AV} (h1 : a = a') (h2 : b = b') (h3 : c = c') : AV.agg [a, b, c] = AV.agg [a', b', c'] := by rw [h1, h2, h3]

/-- Cut out of bytes. -/
theorem cut_bs {l : List UInt8} {i j : Int} {a b : Nat} (hi : i = a) (hj : j = b) (_h : b ≤ l.length) : ((bs l).drop i.toNat).take (j.toNat - i.toNat) = bs ((l.drop a).take (b - a)) := by
  subst hi hj
  rw [bs_drop, bs_take]
  simp

/-- Which moves carry ownership. -/
def tr (l : List Nat) : Nat → Bool := fun d => l.any fun i => Nat.beq i d

theorem cond_t {b : Bool} {A B : Prop} (hb : b = true) (h : A) : (b = true → A) ∧ (b = false → B) := ⟨fun _ => h, fun e => by rw [hb] at e; cases e⟩
theorem cond_f {b : Bool} {A B : Prop} (hb : b = false) (h : B) : (b = true → A) ∧ (b = false → B) := ⟨fun e => by rw [hb] at e; (cases e), fun _ => h⟩

end Go.Proofs.Ytjlcnnijpmijhaa.V

/- A small logic of values over the model, part 30: contracts that are used where more, or less, is known. -/
namespace Go.Proofs.Ytjlcnnijpmijhaa.V

theorem Rep.nil_split {w : World} {fr pi : Nat → Nat} {sz : Nat} {own : Bool} {xs : List (List AV)} {v : Value} {O : List Nat} (h : Rep w fr pi (.sl sz none own xs) v O) :
    (xs = [] ∧ Rep w fr pi (.sl sz (some true) own []) v O) ∨ Rep w fr pi (.sl sz (some false) own xs) v O := by
  cases h with
  | slnil _ _ _ h0 => exact .inl ⟨rfl, .slnil _ _ _ (by simp)⟩
  | slempty _ _ ad cap h0 => exact .inr (.slempty _ _ ad cap (by simp))
  | sl _ _ _ b o cap vs h0 h1 h2 h3 h4 => exact .inr (.sl _ _ _ b o cap vs (by simp) h1 h2 h3 h4)
  | slown _ _ _ b o cap vs h0 h1 h2 h3 h4 h5 => exact .inr (.slown _ _ _ b o cap vs (by simp) h1 h2 h3 h4 h5)

/-- One slot is told otherwise. -/
theorem Rel.refine {w : World} {fr pi : Nat → Nat} {own : Res → List Nat} {args : List AV} {h : List HObj} {tm : Array Value} (hr : Rel w fr pi own (FS.of args h) tm) {i : Nat} {a : AV} (hi : i < args.length)
    (ha : Rep w fr pi a (tm.getD i Go.undef) (own (.slot i))) (hn : NP (FS.of args h).has a) : Rel w fr pi own (FS.of (args.set i a) h) tm := by
  have hget : ∀ j, (args.set i a).getD j .undef = if i = j then a else args.getD j .undef := by
    intro j
    rw [List.getD_eq_getElem?_getD, List.getElem?_set]
    split
    · rename_i e
      subst e
      first | rfl | (rw [if_pos hi]; rfl)
    · rw [← List.getD_eq_getElem?_getD]
  refine ⟨fun j => ?_, fun j => ?_, hr.box, hr.boxnp, hr.nobox, hr.nd, hr.dj, hr.live⟩
  · show Rep w fr pi ((args.set i a).getD j .undef) _ _
    rw [hget]
    split
    · rename_i e
      subst e
      exact ha
    · exact hr.slot j
  · show NP _ ((args.set i a).getD j .undef)
    rw [hget]
    split
    · exact hn
    · exact hr.slotnp j

/-- Whether a slice is nil may be asked. -/
theorem PCall.splitNil {P : Program} {f : Nat} {args : List AV} {ret : AV} (i : Nat) {sz : Nat} {own : Bool} {xs : List (List AV)} (hi : args[i]? = some (.sl sz none own xs))
    (ht : xs = [] → PCall P f (args.set i (.sl sz (some true) own [])) ret) (hf : PCall P f (args.set i (.sl sz (some false) own xs)) ret) : PCall P f args ret := by
  refine ⟨hf.1, hf.2.1, fun w fr pi own0 vals hl hr => ?_⟩
  have hlt : i < args.length := by
    rcases Nat.lt_or_ge i args.length with h1 | h1
    · exact h1
    · simp [List.getElem?_eq_none h1] at hi
  have hs : (FS.of args []).sl i = .sl sz none own xs := by
    show args.getD i .undef = _
    rw [List.getD_eq_getElem?_getD, hi]; rfl
  have h1 := hr.slot i
  have h2 := hr.slotnp i
  rw [hs] at h1 h2
  rcases h1.nil_split with ⟨e, h3⟩ | h3
  · exact (ht e).2.2 w fr pi own0 vals (by simpa using hl) (hr.refine hlt h3 (.sl _ _ _ _ (by simp)))
  · exact hf.2.2 w fr pi own0 vals (by simpa using hl) (hr.refine hlt h3 (.sl _ _ _ _ h2.sl_inv))

/-- A contract that asks less than is known. -/
theorem PCall.weakArgs {P : Program} {f : Nat} {args args' : List AV} {ret : AV} (h : WkL args args') (hc : PCall P f args' ret) : PCall P f args ret := by
  refine ⟨hc.1, hc.2.1, fun w fr pi own vals hl hr => ?_⟩
  have hr0 : Rel w fr pi own (St.fs ⟨args, []⟩) vals.toArray := hr
  obtain ⟨own', h1, h2⟩ := hr0.weak (S0 := ⟨args', []⟩) h (ex := []) rfl (.inl rfl)
  have h3 : Rel w fr pi own' (FS.of args' []) vals.toArray := h1
  refine (hc.2.2 w fr pi own' vals (by rw [hl, h.length]) h3).mono fun e w' hp => ?_
  obtain ⟨v, fr', pi', own2, k1, k2, k3⟩ := hp
  refine ⟨v, fr', pi', own2, k1, k2, k3.step.mono (fun b _ ⟨r, hr⟩ => ⟨r, h2 r b hr⟩), fun r b hb => ?_, k3.pi⟩
  rcases k3.fresh r b hb with ⟨r', hr'⟩ | h'
  · exact .inl ⟨r', h2 r' b hr'⟩
  · exact .inr h'

/-- A contract's result, told less of. -/
theorem PCall.weakRet {P : Program} {f : Nat} {args : List AV} {ret ret' : AV} (h : Wk ret ret') (hc : PCall P f args ret) : PCall P f args ret' := by
  refine ⟨hc.1, hc.2.1, fun w fr pi own vals hl hr => ?_⟩
  refine (hc.2.2 w fr pi own vals hl hr).mono fun e w' hp => ?_
  obtain ⟨v, fr', pi', own2, k1, k2, k3⟩ := hp
  have hr0 : Rel w' fr' pi' own2 (St.fs ⟨[ret], []⟩) #[v] := k2
  obtain ⟨own', h1, h2⟩ := hr0.weak (S0 := ⟨[ret'], []⟩) (.cons _ _ _ _ h .nil) (ex := []) rfl (.inl rfl)
  exact ⟨v, fr', pi', own', k1, h1, k3.step, fun r b hb => k3.fresh r b (h2 r b hb), k3.pi⟩

theorem PCallN.weakRet {P : Program} {f : Nat} {args : List AV} {ret ret' : AV} (h : Wk ret ret') (hc : PCallN P f args ret) : PCallN P f args ret' := ⟨hc.1, hc.2.weakRet h⟩

theorem PCallN.weakArgs {P : Program} {f : Nat} {args args' : List AV} {ret : AV} (h : WkL args args') (hn : ∀ a, a ∈ args → NP (fun _ => False) a) (hc : PCallN P f args' ret) : PCallN P f args ret := ⟨hn, hc.2.weakArgs h⟩

theorem PCallN.splitNil {P : Program} {f : Nat} {args : List AV} {ret : AV} (i : Nat) {sz : Nat} {own : Bool} {xs : List (List AV)} (hi : args[i]? = some (.sl sz none own xs)) (hn : ∀ a, a ∈ args → NP (fun _ => False) a)
    (ht : xs = [] → PCallN P f (args.set i (.sl sz (some true) own [])) ret) (hf : PCallN P f (args.set i (.sl sz (some false) own xs)) ret) : PCallN P f args ret :=
  ⟨hn, PCall.splitNil i hi (fun e => (ht e).2) hf.2⟩

theorem call_p {P : Program} {f : Nat} {args : List AV} {ret : AV} {K : AV → Prop} {B : Prop} (h : PCallN P f args ret) (k : K ret) : (∃ ret, PCallN P f args ret ∧ K ret) ∨ B := .inl ⟨ret, h, k⟩
theorem call_d {P : Program} {f : Nat} {args : List AV} {ret : AV} {K : AV → Prop} {B : Prop} (h : PCallN P f args ret) (k : K ret) : (∃ ret, PCallN P f args ret ∧ K ret) ∨ B := .inl ⟨ret, h, k⟩
theorem call_h {P : Program} {f : Nat} {args : List AV} {h : List HObj} {ret : AV} {h' : List HObj} {A B : Prop} {K : AV → List HObj → Prop} (hc : VCall P f args h ret h') (k : K ret h') : A ∨ ((∃ ret h', VCall P f args h ret h' ∧ K ret h') ∨ B) := .inr (.inl ⟨ret, h', hc, k⟩)
theorem call_b {P : Program} {f : Nat} {off : Nat} {rest : List AV} {ob : HObj} {ret : AV} {ob' : HObj} {A B : Prop} {K : AV → HObj → Prop} (h1 : ∀ a, a ∈ rest → NP (fun _ => False) a) (h2 : NPo (fun _ => False) ob) (h3 : NPo (fun _ => False) ob') (h4 : NP (fun _ => False) ret)
    (hc : VCall P f (.ptr (some (0, off)) :: rest) [ob] ret [ob']) (k : K ret ob') : A ∨ (B ∨ (∃ ret ob', (∀ a, a ∈ rest → NP (fun _ => False) a) ∧ NPo (fun _ => False) ob ∧ NPo (fun _ => False) ob' ∧ NP (fun _ => False) ret ∧ VCall P f (.ptr (some (0, off)) :: rest) [ob] ret [ob'] ∧ K ret ob')) := .inr (.inr ⟨ret, ob', h1, h2, h3, h4, hc, k⟩)
theorem guard_t {b w : Bool} {A B : Prop} (h : b = w) (k : A) : (b = w → A) ∧ (b ≠ w → B) := ⟨fun _ => k, fun e => absurd h e⟩
theorem guard_f {b w : Bool} {A B : Prop} (h : b ≠ w) (k : B) : (b = w → A) ∧ (b ≠ w → B) := ⟨fun e => absurd e h, fun _ => k⟩

end Go.Proofs.Ytjlcnnijpmijhaa.V

/- A small logic of values over the model, part 31: what an argument is, of which a claim's row speaks. -/
namespace Go.Proofs.Ytjlcnnijpmijhaa.V

mutual
/-- The cells that a value of a plain type may have. -/
inductive Shape (P : Program) : TypeId → List AV → Prop
  | bool (t : TypeId) (b : Bool) : P.underlying t = some .bool → Shape P t [.bool b]
  | int (t : TypeId) (k : IntKind) (n : Int) : P.underlying t = some (.int k) → (Lit.int k n).wf = true → Shape P t [.int k n]
  | str (t : TypeId) (s : ByteArray) : P.underlying t = some .string → s.size ≤ maxLen → Shape P t [.str s]
  | slnil (t e : TypeId) : P.underlying t = some (.slice e) → Shape P t [.sl (P.cellsOf e) (some true) false []]
  | sl (t e : TypeId) (xs : List (List AV)) : P.underlying t = some (.slice e) → (∀ x, x ∈ xs → Shape P e x) → xs.length ≤ maxLen → Shape P t [.sl (P.cellsOf e) (some false) false xs]
  | struct (t : TypeId) (fs : Array Field) (as : List AV) : P.underlying t = some (.struct fs) → Shapes P (fs.toList.map (·.type)) as → Shape P t as
/-- Cells one behind the other. -/
inductive Shapes (P : Program) : List TypeId → List AV → Prop
  | nil : Shapes P [] []
  | cons (t : TypeId) (ts : List TypeId) (as bs : List AV) : Shape P t as → Shapes P ts bs → Shapes P (t :: ts) (as ++ bs)
end

def contig (P : Program) (n : Nat) : List Field → Option Nat
  | [] => some n
  | f :: r => if f.offset = n then contig P (n + P.cellsOf f.type) r else none

/-- Is it a plain type: of Bools, numbers, texts, slices, structs? -/
def plainB (P : Program) : Nat → TypeId → Bool
  | 0, _ => false
  | n + 1, t => match P.underlying t with
    | some .bool => true
    | some (.int _) => true
    | some .string => true
    | some (.slice e) => decide (P.cellsOf e ≠ 0) && plainB P n e
    | some (.struct fs) => decide (contig P 0 fs.toList = some (P.cellsOf t)) && fs.toList.all fun f => plainB P n f.type
    | _ => false

mutual
theorem Shape.one {P : Program} : ∀ {t : TypeId} {as : List AV}, Shape P t as → as.all AV.one = true
  | _, _, .bool .. => rfl
  | _, _, .int .. => rfl
  | _, _, .str .. => rfl
  | _, _, .slnil .. => rfl
  | _, _, .sl .. => rfl
  | _, _, .struct _ _ _ _ h => Shapes.one h
theorem Shapes.one {P : Program} : ∀ {ts : List TypeId} {as : List AV}, Shapes P ts as → as.all AV.one = true
  | _, _, .nil => rfl
  | _, _, .cons _ _ _ _ h1 h2 => by rw [List.all_append, Shape.one h1, Shapes.one h2]; rfl
end

mutual
theorem Shape.np {P : Program} : ∀ {t : TypeId} {as : List AV}, Shape P t as → ∀ a, a ∈ as → NP (fun _ => False) a
  | _, _, .bool _ b _ => np_cons (.bool _) np_nil
  | _, _, .int .. => np_cons (.int _ _) np_nil
  | _, _, .str .. => np_cons (.str _) np_nil
  | _, _, .slnil .. => np_cons np_nilsl np_nil
  | _, _, .sl _ e xs _ h _ => np_cons (.sl _ _ _ _ fun x hx a ha => Shape.np (h x hx) a ha) np_nil
  | _, _, .struct _ _ _ _ h => Shapes.np h
theorem Shapes.np {P : Program} : ∀ {ts : List TypeId} {as : List AV}, Shapes P ts as → ∀ a, a ∈ as → NP (fun _ => False) a
  | _, _, .nil => np_nil
  | _, _, .cons _ _ _ _ h1 h2 => fun a ha => by
    rcases List.mem_append.1 ha with ha | ha
    · exact Shape.np h1 a ha
    · exact Shapes.np h2 a ha
end

theorem Reps.app0 {w : World} {fr pi : Nat → Nat} : ∀ {as : List AV} {vs : List Value}, Reps w fr pi as vs [] → ∀ {bs : List AV} {us : List Value}, Reps w fr pi bs us [] → Reps w fr pi (as ++ bs) (vs ++ us) []
  | [], _, h, _, _, h' => by cases h; exact h'
  | a :: as, _, h, _, _, h' => by
    obtain ⟨v, vs', rfl, h1, h2⟩ := h.cons_inv0
    exact .cons _ _ [] _ _ [] h1 (Reps.app0 h2 h')

theorem add_add (a : Addr) (m n : Nat) : (a.add m).add n = a.add (m + n) := by
  unfold Addr.add
  by_cases hm : m = 0
  · subst hm; simp
  · by_cases hn : n = 0
    · subst hn; simp
    · rw [if_neg hn, if_neg hm, if_neg (by omega)]
      simp [Nat.add_assoc]

theorem mapM_some {α β : Type} {f : α → Option β} : ∀ {l : List α} {r : List β}, l.mapM f = some r → r.length = l.length ∧ ∀ (i : Nat) (x : α), l[i]? = some x → f x = r[i]?
  | [], r, h => by simp at h; subst h; simp
  | a :: l, r, h => by
    simp only [List.mapM_cons, Option.bind_eq_bind, Option.pure_def, Option.bind_eq_some_iff, Option.some.injEq] at h
    obtain ⟨b, h1, bs, h2, rfl⟩ := h
    obtain ⟨k1, k2⟩ := mapM_some h2
    refine ⟨by simp [k1], fun i x hx => ?_⟩
    cases i with
    | zero => simp at hx; subst hx; simpa using h1
    | succ i => simpa using k2 i x (by simpa using hx)

theorem cells_get {w : World} {base : Nat} {a : Addr} {n : Nat} {cs : List Value} (h : w.cells? base a n = some cs) : cs.length = n ∧ ∀ (k : Nat) (v : Value), cs[k]? = some v → w.cell? (a.add k) = some v := by
  unfold World.cells? at h
  split at h
  · obtain ⟨h1, h2⟩ := mapM_some h
    rw [List.length_range] at h1
    refine ⟨h1, fun k v hk => ?_⟩
    have hlt : k < n := by
      rcases Nat.lt_or_ge k cs.length with h' | h'
      · omega
      · simp [List.getElem?_eq_none h'] at hk
    rw [h2 k k (by rw [List.getElem?_range hlt]), hk]
  · cases h

section
variable {H : Type} {enc : TypeId × Value → H} {P : Program} {w : World} {base : Nat} {spare : Nat → Bool} {held : Bool} {fr pi : Nat → Nat}

theorem cell_lt {w : World} {a : Addr} {v : Value} (hfr : ∀ b c el z, w.heap[b]? = some (.cells c el z) → c.size ≤ fr b) (h : w.cell? a = some v) : a.spot = none ∧ a.off < fr a.block := by
  unfold World.cell? at h
  split at h
  · rename_i c el z hc
    split at h
    · cases h
    · rename_i hs
      have hlt : a.off < c.size := by
        rcases Nat.lt_or_ge a.off c.size with h' | h'
        · exact h'
        · simp [Array.getElem?_eq_none h'] at h
      exact ⟨by simpa using hs, Nat.lt_of_lt_of_le hlt (hfr _ _ _ _ hc)⟩
  · cases h

/-- Elements one behind the other. -/
theorem elems_rep {e : TypeId} {a : Addr} {c : Nat} : ∀ (len : Nat), (∀ i, i < len → ∃ cs as, w.cells? base (a.add (i * c)) c = some cs ∧ Shape P e as ∧ Reps w fr pi as cs []) →
    ∃ (xs : List (List AV)) (vs : List Value), xs.length = len ∧ (∀ x, x ∈ xs → Shape P e x ∧ x.length = c) ∧ Reps w fr pi xs.flatten vs [] ∧ vs.length = len * c ∧ ∀ (k : Nat) (v : Value), vs[k]? = some v → w.cell? (a.add k) = some v
  | 0, _ => ⟨[], [], rfl, by simp, .nil, by simp, by simp⟩
  | len + 1, h => by
    obtain ⟨xs, vs, h1, h2, h3, h4, h5⟩ := elems_rep len fun i hi => h i (by omega)
    obtain ⟨cs, as, k1, k2, k3⟩ := h len (by omega)
    obtain ⟨q1, q2⟩ := cells_get k1
    refine ⟨xs ++ [as], vs ++ cs, by simp [h1], fun x hx => ?_, ?_, by rw [List.length_append, h4, q1, Nat.add_mul]; omega, fun k v hk => ?_⟩
    · rcases List.mem_append.1 hx with hx | hx
      · exact h2 x hx
      · simp at hx
        subst hx
        exact ⟨k2, by rw [k3.length, q1]⟩
    · rw [List.flatten_append]
      simpa using h3.app0 k3
    · rcases Nat.lt_or_ge k vs.length with hlt | hge
      · exact h5 k v (by rw [List.getElem?_append_left hlt] at hk; exact hk)
      · rw [List.getElem?_append_right hge] at hk
        have := q2 _ v hk
        rw [add_add] at this
        rw [← this]
        congr 2
        omega

theorem trod_rep (hfr : ∀ b c el z, w.heap[b]? = some (.cells c el z) → c.size ≤ fr b) : ∀ (n : Nat) (t : TypeId), plainB P n t = true → ∀ {fuel : Nat} {cs : List Value} {x : DataW H × List MemPlace},
    DataW.trod enc P w base spare held fuel t cs = some x → ∃ as, Shape P t as ∧ Reps w fr pi as cs []
  | 0, t, hp, _, _, _, _ => by cases hp
  | n + 1, t, hp, fuel, cs, x, h => by
    unfold plainB at hp
    split at hp
    · rename_i ht
      obtain ⟨b, rfl, _⟩ := DataW.trod_bool ht h
      exact ⟨_, .bool t b ht, .cons _ _ [] _ _ [] (.bool b) .nil⟩
    · rename_i k ht
      obtain ⟨i, rfl, _, hw⟩ := DataW.trod_int ht h
      exact ⟨_, .int t k i ht hw, .cons _ _ [] _ _ [] (.int k i) .nil⟩
    · rename_i ht
      obtain ⟨s, rfl, _, hs⟩ := DataW.trod_string ht h
      exact ⟨_, .str t s ht hs, .cons _ _ [] _ _ [] (.str s) .nil⟩
    · rename_i e ht
      simp only [Bool.and_eq_true, decide_eq_true_eq] at hp
      obtain ⟨hc, hp⟩ := hp
      rcases Deep.open_slice ht h with ⟨rfl, _⟩ | ⟨a, len, cap, m, n', D, Pl, rfl, hb, hl, hm, hmm, rfl, hx⟩
      · exact ⟨_, .slnil t e ht, .cons _ _ [] _ _ [] (.slnil _ _ _ (by simp)) .nil⟩
      · have hlm : len ≤ m := by rw [hmm]; split <;> omega
        obtain ⟨xs, vs, h1, h2, h3, h4, h5⟩ := elems_rep (w := w) (fr := fr) (pi := pi) (P := P) (base := base) (e := e) (a := a) (c := P.cellsOf e) len fun i hi => by
          obtain ⟨cs', q1, q2⟩ := hx i (by omega)
          obtain ⟨as, q3, q4⟩ := trod_rep hfr n e hp q2
          exact ⟨cs', as, q1, q3, q4⟩
        have hsh : Shape P t [.sl (P.cellsOf e) (some false) false xs] := .sl t e xs ht (fun x hx => (h2 x hx).1) (by rw [h1]; omega)
        refine ⟨_, hsh, .cons _ _ [] _ _ [] ?_ .nil⟩
        by_cases h0 : len = 0
        · subst h0
          have : xs = [] := List.eq_nil_of_length_eq_zero h1
          subst this
          exact .slempty _ _ a cap (by simp)
        · have hv0 : 0 < vs.length := by rw [h4]; exact Nat.mul_pos (by omega) (by omega)
          have hc0 := h5 0 _ (List.getElem?_eq_getElem hv0)
          rw [show a.add 0 = a by simp [Addr.add]] at hc0
          obtain ⟨hs, _⟩ := cell_lt hfr hc0
          obtain ⟨b, o, sp⟩ := a
          simp only at hs
          subst hs
          rw [← h1]
          refine .sl _ _ xs b o cap vs (by simp) (fun x hx => (h2 x hx).2) h3 (fun k v hk => ?_) (by omega)
          have hk' := h5 k v hk
          rw [addr_add] at hk'
          refine ⟨hk', (cell_lt hfr hk').2, ?_⟩
          refine ones_rep h3 ?_ v (List.mem_of_getElem? hk)
          rw [List.all_flatten]
          exact List.all_eq_true.2 fun x hx => (h2 x hx).1.one
    · rename_i fs ht
      simp only [Bool.and_eq_true, decide_eq_true_eq] at hp
      obtain ⟨hc, hp⟩ := hp
      obtain ⟨xs, n', rfl, rfl, hl, hlen, hf⟩ := DataW.trod_struct ht h
      have key : ∀ (l : List Field) (off : Nat), contig P off l = some (P.cellsOf t) → (∀ f, f ∈ l → plainB P n f.type = true) → (∀ f, f ∈ l → ∃ y, DataW.trod enc P w base spare held n' f.type ((cs.drop f.offset).take (P.cellsOf f.type)) = some y) →
          ∃ as, Shapes P (l.map (·.type)) as ∧ Reps w fr pi as (cs.drop off) [] := by
        intro l
        induction l with
        | nil =>
          intro off h1 _ _
          simp only [contig, Option.some.injEq] at h1
          refine ⟨[], .nil, ?_⟩
          rw [List.drop_eq_nil_of_le (by omega)]
          exact .nil
        | cons f l ih =>
          intro off h1 h2 h3
          simp only [contig] at h1
          split at h1
          · rename_i ho
            obtain ⟨as, q1, q2⟩ := ih _ h1 (fun g hg => h2 g (by simp [hg])) (fun g hg => h3 g (by simp [hg]))
            obtain ⟨y, hy⟩ := h3 f (by simp)
            obtain ⟨bs, r1, r2⟩ := trod_rep hfr n f.type (h2 f (by simp)) hy
            refine ⟨bs ++ as, .cons _ _ _ _ r1 q1, ?_⟩
            have e : cs.drop off = (cs.drop f.offset).take (P.cellsOf f.type) ++ cs.drop (off + P.cellsOf f.type) := by
              rw [ho, ← List.drop_drop, List.take_append_drop]
            rw [e]
            exact r2.app0 q2
          · cases h1
      obtain ⟨as, k1, k2⟩ := key fs.toList 0 hc (fun f hf' => by
        rw [List.all_eq_true] at hp
        exact hp f hf') (fun f hf' => by
        obtain ⟨i, hi⟩ := List.getElem?_of_mem hf'
        have hi' : fs[i]? = some f := by simpa using hi
        have hlt : i < xs.length := by
          rw [hlen]
          rcases Nat.lt_or_ge i fs.size with h' | h'
          · exact h'
          · simp [Array.getElem?_eq_none h'] at hi'
        exact ⟨xs[i], by rw [hf i f hi', List.getElem?_eq_getElem hlt]⟩)
      exact ⟨as, .struct t fs as ht k1, by simpa using k2⟩
    · cases hp

end
end Go.Proofs.Ytjlcnnijpmijhaa.V

/- A small logic of values over the model, part 32: from a contract to a claim's row: the law answers true, and what it was given reads as before. -/
namespace Go.Proofs.Ytjlcnnijpmijhaa.V
open Go.ChangeShapes Go.WideShapes Go.ChangeAt Go.RowKit

/-- What an argument of a type may be. -/
inductive Par (P : Program) : TypeId → AV → Prop
  | one (t : TypeId) (a : AV) : (∀ fs, P.underlying t ≠ some (.struct fs)) → Shape P t [a] → Par P t a
  | agg (t : TypeId) (fs : Array Field) (as : List AV) : P.underlying t = some (.struct fs) → Shape P t as → Par P t (.agg as)

inductive Pars (P : Program) : List TypeId → List AV → Prop
  | nil : Pars P [] []
  | cons (t : TypeId) (a : AV) (ts : List TypeId) (as : List AV) : Par P t a → Pars P ts as → Pars P (t :: ts) (a :: as)

theorem Pars.length {P : Program} : ∀ {ts : List TypeId} {as : List AV}, Pars P ts as → as.length = ts.length
  | _, _, .nil => rfl
  | _, _, .cons _ _ _ _ _ h => by simp [Pars.length h]

theorem Par.np {P : Program} {t : TypeId} {a : AV} (h : Par P t a) : NP (fun _ => False) a := by
  cases h with
  | one _ _ h => exact h.np a (by simp)
  | agg fs as _ h => exact .agg _ h.np

theorem Pars.np {P : Program} : ∀ {ts : List TypeId} {as : List AV}, Pars P ts as → ∀ a, a ∈ as → NP (fun _ => False) a
  | _, _, .nil => by simp
  | _, _, .cons _ _ _ _ h1 h2 => fun a ha => by
    rcases List.mem_cons.1 ha with rfl | ha
    · exact h1.np
    · exact Pars.np h2 a ha

section
variable {H : Type} {enc : TypeId × Value → H} {P : Program} {w : World} {base : Nat} {spare : Nat → Bool} {held : Bool} {fr pi : Nat → Nat}

theorem par_rep (hfr : ∀ b c el z, w.heap[b]? = some (.cells c el z) → c.size ≤ fr b) {n : Nat} {t : TypeId} (hp : plainB P n t = true) {r : Reach} {b0 : Nat} {v : Value} (hv : Value.okWide P w r b0 t v) {d : DataW H} {ps : List MemPlace}
    (h : DataW.Trod enc P w base spare held t v d ps) : ∃ a, Par P t a ∧ Rep w fr pi a v [] := by
  obtain ⟨fuel, h⟩ := h
  obtain ⟨as, h1, h2⟩ := trod_rep (w := w) (fr := fr) (pi := pi) hfr n t hp h
  have key : (∀ fs, P.underlying t ≠ some (.struct fs)) → (∀ cs, v ≠ .agg cs) → as.length = 1 → ∃ a, Par P t a ∧ Rep w fr pi a v [] := by
    intro hns hne hl
    obtain ⟨a, rfl⟩ := List.length_eq_one_iff.1 hl
    obtain ⟨u, vs, e, h3, h4⟩ := h2.cons_inv0
    have hc : v.cells = #[v] := by cases v <;> first | rfl | exact absurd rfl (hne _)
    rw [hc] at e
    simp only [List.cons.injEq] at e
    exact ⟨a, .one t a hns h1, e.1 ▸ h3⟩
  have noAgg : ∀ {k : TypeDesc}, P.underlying t = some k → (∀ fs, k ≠ .struct fs) → (∀ m e, k ≠ .array m e) → (∀ u ms, Cell.okWide P w r b0 t v → (k = .bool ∨ (∃ i, k = .int i) ∨ k = .string ∨ ∃ e, k = .slice e) → u = v → v ≠ .agg ms) := by
    intro k hk _ _ u ms hok hk2 _ e
    subst e
    unfold Cell.okWide at hok
    rw [hk] at hok
    rcases hk2 with rfl | ⟨i, rfl⟩ | rfl | ⟨e, rfl⟩ <;> simp [Cell.ok, hk] at hok
  cases h1 with
  | bool _ b ht => exact key (by rw [ht]; simp) (fun ms => noAgg ht (by simp) (by simp) v ms (by simpa [Value.okWide, ht] using hv) (by simp) rfl) rfl
  | int _ k i ht hw => exact key (by rw [ht]; simp) (fun ms => noAgg ht (by simp) (by simp) v ms (by simpa [Value.okWide, ht] using hv) (by simp) rfl) rfl
  | str _ s ht hw => exact key (by rw [ht]; simp) (fun ms => noAgg ht (by simp) (by simp) v ms (by simpa [Value.okWide, ht] using hv) (by simp) rfl) rfl
  | slnil _ e ht => exact key (by rw [ht]; simp) (fun ms => noAgg ht (by simp) (by simp) v ms (by simpa [Value.okWide, ht] using hv) (by simp) rfl) rfl
  | sl _ e xs ht hx hl => exact key (by rw [ht]; simp) (fun ms => noAgg ht (by simp) (by simp) v ms (by simpa [Value.okWide, ht] using hv) (by simp) rfl) rfl
  | struct _ fs _ ht hs =>
    simp only [Value.okWide, ht] at hv
    obtain ⟨cs, rfl, _, _⟩ := hv
    refine ⟨.agg as, .agg t fs as ht (.struct t fs as ht hs), ?_⟩
    have := Rep.agg (w := w) (fr := fr) (pi := pi) as cs.toList [] h2
    simpa using this

theorem pars_rep (hfr : ∀ b c el z, w.heap[b]? = some (.cells c el z) → c.size ≤ fr b) {n : Nat} {r : Reach} {b0 : Nat} : ∀ {ts : List TypeId} {vs : List Value} {ds : List (DataW H)} {ps : List MemPlace}, ts.all (plainB P n) = true →
    (∀ (j : Nat) t v, ts[j]? = some t → vs[j]? = some v → Value.okWide P w r b0 t v) → DataW.TrodAll enc P w base spare held ts vs ds ps → ∃ as, Pars P ts as ∧ Reps w fr pi as vs [] ∧ ds.length = ts.length
  | [], vs, ds, ps, _, _, h => by
    obtain ⟨rfl, rfl, _⟩ := trodAll_nil h
    exact ⟨[], .nil, .nil, rfl⟩
  | t :: ts, vs, ds, ps, hp, hv, h => by
    obtain ⟨v, vs, d, ds, p, q, rfl, rfl, rfl, h1, h2⟩ := trodAll_cons h
    simp only [List.all_cons, Bool.and_eq_true] at hp
    obtain ⟨a, k1, k2⟩ := par_rep (pi := pi) hfr hp.1 (hv 0 t v rfl rfl) h1
    obtain ⟨as, k3, k4, k5⟩ := pars_rep hfr hp.2 (fun j t v h1 h2 => hv (j + 1) t v h1 h2) h2
    exact ⟨a :: as, .cons _ _ _ _ k1 k3, .cons _ _ [] _ _ [] k2 k4, by simp [k5]⟩

theorem trodAll_below (hl : laidOutB P = true) {W W' : World} (hb : Go.RowKit.Below W.heap.size W W') : ∀ {ts : List TypeId} {vs : List Value} {ds : List (DataW H)} {ps : List MemPlace}, (∀ t, t ∈ ts → P.readableRec t = true ∧ t < P.types.size) →
    (∀ p, p ∈ ps → p.block < W.heap.size) → DataW.TrodAll enc P W 0 (fun _ => true) true ts vs ds ps → ∀ sp : Nat → Bool, (∀ p ∈ ps, sp p.block = true) → DataW.TrodAll enc P W' 0 sp true ts vs ds ps
  | [], vs, ds, ps, _, _, h, sp, hsp => by
    obtain ⟨rfl, rfl, rfl⟩ := trodAll_nil h
    exact rfl
  | t :: ts, vs, ds, ps, ht, hlt, h, sp, hsp => by
    obtain ⟨v, vs, d, ds, p, q, rfl, rfl, rfl, h1, h2⟩ := trodAll_cons h
    obtain ⟨hr, hrow⟩ := ht t (by simp)
    exact ⟨p, q, WideElems.Trod_stays hl hr hrow h1 (fun x hx => hb.same (hlt x (by simp [hx]))) (fun x hx => hsp x (by simp [hx])),
      trodAll_below hl hb (fun t' h' => ht t' (by simp [h'])) (fun x hx => hlt x (by simp [hx])) h2 sp (fun x hx => hsp x (by simp [hx])), rfl⟩

/-- The row's end: what was given reads as before, the result is a Bool. -/
theorem law_post (hl : laidOutB P = true) {f : Func} {s : ChangeSpec} {apart fresh handsOn again : Bool} {W W' : World} {args : Array Value} {b : Bool} {ds gs : List (DataW H)} {before : List MemPlace} {tb : TypeId}
    (hW : DataW.Whole enc P f.params.toList s.vars apart W args.toList ds gs before) (hvs : s.vars = []) (hr : f.resultTypes = #[tb]) (htb : P.underlying tb = some .bool) (hts : ∀ t, t ∈ f.params.toList → P.readableRec t = true ∧ t < P.types.size)
    (hs : (s.fn H ds).results = [.lit (.bool b)] ∧ (s.fn H ds).args = ds ∧ (s.fn H ds).vars = []) (hb : Go.RowKit.Below W.heap.size W W') : s.post enc P f apart fresh handsOn again W args (.bool b) W' := by
  have hW0 := hW
  obtain ⟨p, q, hA, hV, rfl, hz, hn⟩ := hW
  rw [hvs] at hV
  obtain ⟨rfl, rfl⟩ := trodVars_none hV
  rw [List.append_nil] at *
  have hlt : ∀ x ∈ p, x.block < W.heap.size := fun x hx => hW0.lt x hx
  have hold : ∀ x ∈ p, (fun b => decide (b < W.heap.size)) x.block = true := fun x hx => by simpa using hlt x hx
  have hres : ∀ (b' : Nat) (sp : Nat → Bool) (hd : Bool), DataW.TrodAll enc P W' b' sp hd f.resultTypes.toList ((Value.bool b).resultList f.resultTypes.size) (s.fn H ds).results [] := by
    intro b' sp hd
    rw [hr, hs.1]
    exact trodAll_mk1 (shut_bool htb b)
  have hargs : ∀ sp : Nat → Bool, (∀ x ∈ p, sp x.block = true) → DataW.TrodAll enc P W' 0 sp true f.params.toList args.toList (s.fn H ds).args p := by
    intro sp hsp
    rw [hs.2.1]
    exact trodAll_below hl hb hts hlt hA sp hsp
  have hvars : ∀ sp : Nat → Bool, DataW.TrodVars enc P W' sp s.vars (s.fn H ds).vars [] := by
    intro sp
    rw [hvs, hs.2.2]
    exact rfl
  refine ⟨ds, [], p, [], p, [], hW0, ?_, ?_, ?_, World.keptBut_mono (fun x hx => ⟨hx, Or.inr (Or.inl hx)⟩) (hb.frame (· ∈ p)), fun _ => ⟨?_, ?_⟩⟩
  · rw [List.append_nil]; exact hres _ _ _
  · rw [List.append_nil]; exact hargs _ hold
  · rw [List.append_nil]; exact hvars _
  · exact ok_one hr rfl (okWide_bool_mk htb b)
  · refine ⟨(s.fn H ds).results ++ (s.fn H ds).args, [], p, ⟨p, [], ?_, ?_, (List.append_nil p).symm, fun b' off hp => ?_, hn⟩, fun x hx _ => hx⟩
    · have := trodAll_append (hargs (fun _ => true) (fun _ _ => rfl)) (hres 0 (fun _ => true) true)
      simpa using this
    · rw [hvs]; exact rfl
    · rw [hb.frozen (hlt _ hp)]
      exact hz b' off hp

end

/-- From contracts to what a row asks. -/
theorem law_lifted {C : Checked} {os : Os} {f : FuncId} {fn : Func} {s : ChangeSpec} {tb : TypeId} (n : Nat) (H : Type) (enc : TypeId × Value → H) (own : ownKnob C.prog.godebug = none) (started : os.Started) (noInit : C.prog.inits.idxOf? f = none) (hfn : C.prog.funcs[f]? = some fn)
    (hl : laidOutB C.prog = true) (hvs : s.vars = []) (hr : fn.resultTypes = #[tb]) (htb : C.prog.underlying tb = some .bool)
    (hts : (fn.params.toList.all fun t => plainB C.prog n t && C.prog.readableRec t && decide (t < C.prog.types.size)) = true)
    (hs : ∀ ds : List (DataW H), ds.length = fn.params.toList.length → (s.fn H ds).results = [.lit (.bool true)] ∧ (s.fn H ds).args = ds ∧ (s.fn H ds).vars = [])
    (witness : ∃ (w : World) (tape : Tape) (i : Input), w.os = os ∧ (w.forCall tape i).Shaped C.prog ∧ i.vars = [] ∧ Input.okWide C.prog (w.forCall tape i) .any w.heap.size f i ∧
      s.pre6 enc C.prog fn [] false (w.forCall tape i).memory i.args ∧ ({} : Assume).holds C.prog (lone (Frame.enter C.prog f i.args .normal) [] (w.forCall tape i)))
    (hcl : callable C.prog f = true) (hc : ∀ as, Pars C.prog fn.params.toList as → PCall C.prog f as (.bool true)) :
    ReturnsInHanded {} C os f .any (s.pre6 enc C.prog fn [] false) (s.post enc C.prog fn false true false false) := by
  refine returnsInHanded_of_change own started noInit hfn witness ?_
  intro W base args ds gs before hval hW _ _
  have hW' := hW
  obtain ⟨p, q, hA, hV, rfl, hfz, hnd⟩ := hW
  rw [hvs] at hV
  obtain ⟨rfl, rfl⟩ := trodVars_none hV
  rw [List.all_eq_true] at hts
  have hplain : fn.params.toList.all (plainB C.prog n) = true := by
    rw [List.all_eq_true]
    intro t ht
    have := hts t ht
    simp only [Bool.and_eq_true] at this
    exact this.1.1
  have hread : ∀ t, t ∈ fn.params.toList → C.prog.readableRec t = true ∧ t < C.prog.types.size := by
    intro t ht
    have := hts t ht
    simp only [Bool.and_eq_true, decide_eq_true_eq] at this
    exact ⟨this.1.2, this.2⟩
  let fr : Nat → Nat := fun b => match W.heap[b]? with | some (.cells c _ _) => c.size | _ => 0
  have hfr : ∀ b c el z, W.heap[b]? = some (.cells c el z) → c.size ≤ fr b := by
    intro b c el z h
    show c.size ≤ (match W.heap[b]? with | some (.cells c _ _) => c.size | _ => 0)
    rw [h]
    exact Nat.le_refl _
  obtain ⟨as, h1, h2, h3⟩ := pars_rep (w := W) (fr := fr) (pi := fun _ => 0) (r := .any) (b0 := base) hfr hplain (fun j t v a b => hval j t v (by simpa using a) (by simpa using b)) hA
  have hrel : Rel W fr (fun _ => 0) (fun _ => []) (FS.of as []) args := by
    refine ⟨fun i => ?_, fun i => ?_, fun i o ho => ?_, fun i o ho => ?_, fun i _ => rfl, fun _ => List.nodup_nil, fun r r' b hb => by simp at hb, fun r b hb => by simp at hb⟩
    · show Rep W fr _ (as.getD i .undef) _ []
      rcases Nat.lt_or_ge i as.length with hi | hi
      · obtain ⟨v, O', k1, k2, k3⟩ := h2.get (List.getElem?_eq_getElem hi)
        have hO : O' = [] := List.eq_nil_iff_forall_not_mem.2 fun b hb => by simpa using k3 b hb
        rw [hO] at k2
        have e : args.getD i Go.undef = v := by
          rw [Array.getD_eq_getD_getElem?, show args[i]? = some v by simpa using k1]; rfl
        rw [e, List.getD_eq_getElem?_getD, List.getElem?_eq_getElem hi]
        exact k2
      · rw [List.getD_eq_getElem?_getD, List.getElem?_eq_none hi]
        exact .undef _
    · show NP _ (as.getD i .undef)
      rcases Nat.lt_or_ge i as.length with hi | hi
      · rw [List.getD_eq_getElem?_getD, List.getElem?_eq_getElem hi]
        exact (h1.np _ (List.getElem_mem hi)).mono (fun _ h => h.elim)
      · rw [List.getD_eq_getElem?_getD, List.getElem?_eq_none hi]
        exact .undef
    · simp [FS.of] at ho
    · simp [FS.of] at ho
  have hlen : args.toList.length = as.length := h2.length.symm
  have := (hc as h1).2.2 W fr (fun _ => 0) (fun _ => []) args.toList hlen (by simpa using hrel)
  rw [Array.toArray_toList] at this
  refine (this.calls hcl).mono fun e W' hp => ?_
  obtain ⟨v, fr', pi', own', rfl, k2, k3⟩ := hp
  have k4 := k2.slot 0
  have e0 : (FS.of [AV.bool true] []).sl 0 = .bool true := rfl
  have e1 : (#[v] : Array Value).getD 0 Go.undef = v := rfl
  rw [e0, e1] at k4
  have ev : v = .bool true := k4.bool_inv
  subst ev
  refine ⟨_, rfl, law_post hl hW' hvs hr htb hread (hs ds h3) (k3.step.below fun b _ ⟨r, hr⟩ => by simp at hr)⟩

end Go.Proofs.Ytjlcnnijpmijhaa.V

/- A small logic of values over the model, part 33: what arguments are, opened by their types. -/
namespace Go.Proofs.Ytjlcnnijpmijhaa.V

section
variable {P : Program} {t e : TypeId} {as : List AV}

theorem Shape.inv_bool (ht : P.underlying t = some .bool) (h : Shape P t as) : ∃ b, as = [.bool b] := by
  cases h with
  | bool _ b _ => exact ⟨b, rfl⟩
  | int _ _ _ h' => rw [ht] at h'; cases h'
  | str _ _ h' => rw [ht] at h'; cases h'
  | slnil _ _ h' => rw [ht] at h'; cases h'
  | sl _ _ _ h' => rw [ht] at h'; cases h'
  | struct _ _ _ h' => rw [ht] at h'; cases h'

theorem Shape.inv_int {k : IntKind} (ht : P.underlying t = some (.int k)) (h : Shape P t as) : ∃ n, as = [.int k n] ∧ (Lit.int k n).wf = true := by
  cases h with
  | bool _ b h' => rw [ht] at h'; cases h'
  | int _ k' n h' hw => rw [ht] at h'; cases h'; exact ⟨n, rfl, hw⟩
  | str _ _ h' => rw [ht] at h'; cases h'
  | slnil _ _ h' => rw [ht] at h'; cases h'
  | sl _ _ _ h' => rw [ht] at h'; cases h'
  | struct _ _ _ h' => rw [ht] at h'; cases h'

theorem Shape.inv_str (ht : P.underlying t = some .string) (h : Shape P t as) : ∃ s : List UInt8, as = [.str (st s)] ∧ s.length ≤ maxLen := by
  cases h with
  | bool _ b h' => rw [ht] at h'; cases h'
  | int _ _ _ h' => rw [ht] at h'; cases h'
  | str _ s h' hs => exact ⟨s.data.toList, by rw [← st_of], by rw [Array.length_toList]; exact hs⟩
  | slnil _ _ h' => rw [ht] at h'; cases h'
  | sl _ _ _ h' => rw [ht] at h'; cases h'
  | struct _ _ _ h' => rw [ht] at h'; cases h'

theorem Shape.inv_sl (ht : P.underlying t = some (.slice e)) (h : Shape P t as) : ∃ nl xs, as = [.sl (P.cellsOf e) (some nl) false xs] ∧ (∀ x, x ∈ xs → Shape P e x) ∧ xs.length ≤ maxLen ∧ (nl = true → xs = []) := by
  cases h with
  | bool _ b h' => rw [ht] at h'; cases h'
  | int _ _ _ h' => rw [ht] at h'; cases h'
  | str _ _ h' => rw [ht] at h'; cases h'
  | slnil _ _ h' => rw [ht] at h'; cases h'; exact ⟨true, [], rfl, by simp, Nat.zero_le _, by simp⟩
  | sl _ _ xs h' hx hl => rw [ht] at h'; cases h'; exact ⟨false, xs, rfl, hx, hl, by simp⟩
  | struct _ _ _ h' => rw [ht] at h'; cases h'

theorem Shape.inv_struct {fs : Array Field} (ht : P.underlying t = some (.struct fs)) (h : Shape P t as) : Shapes P (fs.toList.map (·.type)) as := by
  cases h with
  | bool _ b h' => rw [ht] at h'; cases h'
  | int _ _ _ h' => rw [ht] at h'; cases h'
  | str _ _ h' => rw [ht] at h'; cases h'
  | slnil _ _ h' => rw [ht] at h'; cases h'
  | sl _ _ _ h' => rw [ht] at h'; cases h'
  | struct _ _ _ h' hs => rw [ht] at h'; cases h'; exact hs

theorem Shapes.inv_nil (h : Shapes P [] as) : as = [] := by cases h; rfl
theorem Shapes.inv_cons {ts : List TypeId} (h : Shapes P (t :: ts) as) : ∃ a b, as = a ++ b ∧ Shape P t a ∧ Shapes P ts b := by
  cases h with
  | cons _ _ a b h1 h2 => exact ⟨a, b, rfl, h1, h2⟩

theorem bytes_of : ∀ (xs : List (List AV)), P.underlying e = some (.int .u8) → (∀ x, x ∈ xs → Shape P e x) → ∃ l : List UInt8, xs = bs l
  | [], _, _ => ⟨[], rfl⟩
  | x :: xs, he, h => by
    obtain ⟨l, rfl⟩ := bytes_of xs he fun y hy => h y (by simp [hy])
    obtain ⟨n, rfl, hw⟩ := (h x (by simp)).inv_int he
    simp [Lit.wf, IntKind.min, IntKind.max, IntKind.signed, IntKind.bits] at hw
    refine ⟨UInt8.ofNat n.toNat :: l, ?_⟩
    simp only [bs, List.map_cons, List.cons.injEq, and_true]
    simp only [AV.int.injEq, UInt8.toNat_ofNat', true_and]
    omega

theorem Par.inv {k : TypeDesc} (ht : P.underlying t = some k) (hk : ∀ fs, k ≠ .struct fs) {a : AV} (h : Par P t a) : Shape P t [a] := by
  cases h with
  | one _ _ h => exact h
  | agg fs _ h' => rw [ht] at h'; cases h'; exact absurd rfl (hk fs)

theorem Par.inv_bool (ht : P.underlying t = some .bool) {a : AV} (h : Par P t a) : ∃ b, a = .bool b := by
  obtain ⟨b, e⟩ := (h.inv ht (by simp)).inv_bool ht
  exact ⟨b, by simpa using e⟩

theorem Par.inv_int {k : IntKind} (ht : P.underlying t = some (.int k)) {a : AV} (h : Par P t a) : ∃ n, a = .int k n ∧ (Lit.int k n).wf = true := by
  obtain ⟨n, e, hw⟩ := (h.inv ht (by simp)).inv_int ht
  exact ⟨n, by simpa using e, hw⟩

theorem Par.inv_u8 (ht : P.underlying t = some (.int .u8)) {a : AV} (h : Par P t a) : ∃ n : UInt8, a = .int .u8 n.toNat := by
  obtain ⟨n, e, hw⟩ := h.inv_int ht
  simp [Lit.wf, IntKind.min, IntKind.max, IntKind.signed, IntKind.bits] at hw
  refine ⟨UInt8.ofNat n.toNat, e.trans (int_eq ?_)⟩
  simp only [UInt8.toNat_ofNat']
  omega

theorem Par.inv_i64 (ht : P.underlying t = some (.int .i64)) {a : AV} (h : Par P t a) : ∃ n : Int, a = .int .i64 n ∧ -9223372036854775808 ≤ n ∧ n ≤ 9223372036854775807 := by
  obtain ⟨n, e, hw⟩ := h.inv_int ht
  simp [Lit.wf, IntKind.min, IntKind.max, IntKind.signed, IntKind.bits] at hw
  exact ⟨n, e, hw.1, hw.2⟩

theorem Par.inv_u16 (ht : P.underlying t = some (.int .u16)) {a : AV} (h : Par P t a) : ∃ n : Nat, a = .int .u16 n ∧ n < 65536 := by
  obtain ⟨n, e, hw⟩ := h.inv_int ht
  simp [Lit.wf, IntKind.min, IntKind.max, IntKind.signed, IntKind.bits] at hw
  exact ⟨n.toNat, e.trans (int_eq (by omega)), by omega⟩

theorem Par.inv_str (ht : P.underlying t = some .string) {a : AV} (h : Par P t a) : ∃ s : List UInt8, a = .str (st s) ∧ s.length ≤ maxLen := by
  obtain ⟨s, e, hs⟩ := (h.inv ht (by simp)).inv_str ht
  exact ⟨s, by simpa using e, hs⟩

theorem Par.inv_sl (ht : P.underlying t = some (.slice e)) {a : AV} (h : Par P t a) : ∃ nl xs, a = .sl (P.cellsOf e) (some nl) false xs ∧ (∀ x, x ∈ xs → Shape P e x) ∧ xs.length ≤ maxLen ∧ (nl = true → xs = []) := by
  obtain ⟨nl, xs, e, h1⟩ := (h.inv ht (by simp)).inv_sl ht
  exact ⟨nl, xs, by simpa using e, h1⟩

theorem Par.inv_bytes (ht : P.underlying t = some (.slice e)) (he : P.underlying e = some (.int .u8)) (hc : P.cellsOf e = 1) {a : AV} (h : Par P t a) : ∃ nl l, a = .sl 1 (some nl) false (bs l) ∧ l.length ≤ maxLen ∧ (nl = true → l = []) := by
  obtain ⟨nl, xs, rfl, hx, hl, hn⟩ := h.inv_sl ht
  obtain ⟨l, rfl⟩ := bytes_of xs he hx
  rw [hc]
  exact ⟨nl, l, rfl, by rw [bs_len] at hl; exact hl, fun h => by simpa [bs] using hn h⟩

theorem Par.inv_struct {fs : Array Field} (ht : P.underlying t = some (.struct fs)) {a : AV} (h : Par P t a) : ∃ as, a = .agg as ∧ Shapes P (fs.toList.map (·.type)) as := by
  cases h with
  | one _ hn _ => exact absurd ht (hn fs)
  | agg fs as h' hs => rw [ht] at h'; cases h'; exact ⟨as, rfl, hs.inv_struct ht⟩

theorem Pars.inv_nil {as : List AV} (h : Pars P [] as) : as = [] := by cases h; rfl
theorem Pars.inv_cons {ts : List TypeId} {as : List AV} (h : Pars P (t :: ts) as) : ∃ a b, as = a :: b ∧ Par P t a ∧ Pars P ts b := by
  cases h with
  | cons _ a _ b h1 h2 => exact ⟨a, b, rfl, h1, h2⟩

end
end Go.Proofs.Ytjlcnnijpmijhaa.V

/- A small logic of values over the model, part 34: a contract that knows of some boxes is used where there are more: boxes get other numbers. -/
namespace Go.Proofs.Ytjlcnnijpmijhaa.V

mutual
/-- The second is the first, its boxes numbered otherwise. -/
inductive Rn (ρ : Nat → Nat) : AV → AV → Prop
  | refl (a : AV) : NP (fun _ => False) a → Rn ρ a a
  | ptr (id off : Nat) : Rn ρ (.ptr (some (id, off))) (.ptr (some (ρ id, off)))
  | iface (t : Nat) (a b : AV) : Rn ρ a b → Rn ρ (.iface t a) (.iface t b)
  | func (f : Nat) (as bs : List AV) : RnL ρ as bs → Rn ρ (.func f as) (.func f bs)
  | agg (as bs : List AV) : RnL ρ as bs → Rn ρ (.agg as) (.agg bs)
  | tup (as bs : List AV) : RnL ρ as bs → Rn ρ (.tup as) (.tup bs)
  | rptr (as bs : List AV) : RnL ρ as bs → Rn ρ (.rptr as) (.rptr bs)
  | sl (sz : Nat) (nl : Option Bool) (own : Bool) (xs ys : List (List AV)) : xs.map List.length = ys.map List.length → RnL ρ xs.flatten ys.flatten → Rn ρ (.sl sz nl own xs) (.sl sz nl own ys)
inductive RnL (ρ : Nat → Nat) : List AV → List AV → Prop
  | nil : RnL ρ [] []
  | cons (a b : AV) (as bs : List AV) : Rn ρ a b → RnL ρ as bs → RnL ρ (a :: as) (b :: bs)
end

theorem Rep.pi0 {w : World} {fr pi pi' : Nat → Nat} {a : AV} {v : Value} {O : List Nat} (h : Rep w fr pi a v O) (hn : NP (fun _ => False) a) : Rep w fr pi' a v O :=
  h.mono (Step.refl w fr (fun _ => False)) (fun _i hi => hi.elim) hn (fun _ _ h => h)

theorem NP.flat {ok : Nat → Prop} {sz : Nat} {nl : Option Bool} {own : Bool} {xs : List (List AV)} (h : NP ok (.sl sz nl own xs)) : ∀ a, a ∈ xs.flatten → NP ok a := by
  intro a ha
  obtain ⟨x, hx, hax⟩ := List.mem_flatten.1 ha
  exact h.sl_inv x hx a hax
theorem NP.iface_inv {ok : Nat → Prop} {t : Nat} {a : AV} (h : NP ok (.iface t a)) : NP ok a := by cases h; assumption
theorem NP.func_inv {ok : Nat → Prop} {f : Nat} {as : List AV} (h : NP ok (.func f as)) : ∀ a, a ∈ as → NP ok a := by cases h; assumption

theorem lens_len {xs ys : List (List AV)} (h : xs.map List.length = ys.map List.length) : xs.length = ys.length := by
  have := congrArg List.length h
  simpa using this
theorem lens_all {xs ys : List (List AV)} {sz : Nat} (h : xs.map List.length = ys.map List.length) (hx : ∀ x, x ∈ xs → x.length = sz) : ∀ y, y ∈ ys → y.length = sz := by
  intro y hy
  have : y.length ∈ xs.map List.length := by rw [h]; exact List.mem_map_of_mem hy
  obtain ⟨x, hx', e⟩ := List.mem_map.1 this
  rw [← e]
  exact hx x hx'

section
variable {w : World} {fr pi1 pi2 : Nat → Nat} {ρ : Nat → Nat} {ok : Nat → Prop}

mutual
theorem Rn.fwd (hpi : ∀ i, ok i → pi1 i = pi2 (ρ i)) : ∀ {a b : AV} {v : Value} {O : List Nat}, Rn ρ a b → NP ok a → Rep w fr pi1 a v O → Rep w fr pi2 b v O
  | _, _, _, _, .refl a hn, _, hr => hr.pi0 hn
  | _, _, _, _, .ptr id off, hn, hr => by
    cases hr
    rw [hpi id hn.ptr_inv]
    exact .ptr _ _
  | _, _, _, _, .iface t a b h, hn, hr => by
    cases hr with
    | iface _ _ v hr => exact .iface _ _ _ (Rn.fwd hpi h hn.iface_inv hr)
  | _, _, _, _, .func f as bs h, hn, hr => by
    cases hr with
    | func _ _ vs hr => exact .func _ _ _ (RnL.fwd hpi h hn.func_inv hr)
  | _, _, _, _, .agg as bs h, hn, hr => by
    cases hr with
    | agg _ vs _ hr => exact .agg _ _ _ (RnL.fwd hpi h hn.agg_inv hr)
  | _, _, _, _, .tup as bs h, hn, hr => by
    cases hr with
    | tup _ vs _ hr => exact .tup _ _ _ (RnL.fwd hpi h hn.tup_inv hr)
  | _, _, _, _, .rptr as bs h, hn, hr => by
    cases hr with
    | rptr _ b o vs hr hc => exact .rptr _ b o vs (RnL.fwd hpi h hn.rptr_inv hr) hc
  | _, _, _, _, .sl sz nl own xs ys hl h, hn, hr => by
    have e := lens_len hl
    cases hr with
    | slnil _ _ _ h0 =>
      have : ys = [] := List.eq_nil_of_length_eq_zero e.symm
      subst this
      exact .slnil _ _ _ h0
    | slempty _ _ ad cap h0 =>
      have : ys = [] := List.eq_nil_of_length_eq_zero e.symm
      subst this
      exact .slempty _ _ _ _ h0
    | sl _ _ _ b o cap vs h0 h1 h2 h3 h4 => rw [e]; exact .sl _ _ _ b o cap vs h0 (lens_all hl h1) (RnL.fwd hpi h hn.flat h2) h3 (by omega)
    | slown _ _ _ b o cap vs h0 h1 h2 h3 h4 h5 => rw [e]; exact .slown _ _ _ b o cap vs h0 (lens_all hl h1) (RnL.fwd hpi h hn.flat h2) h3 (by omega) (by rw [← e]; exact h5)
theorem RnL.fwd (hpi : ∀ i, ok i → pi1 i = pi2 (ρ i)) : ∀ {as bs : List AV} {vs : List Value} {O : List Nat}, RnL ρ as bs → (∀ a, a ∈ as → NP ok a) → Reps w fr pi1 as vs O → Reps w fr pi2 bs vs O
  | _, _, _, _, .nil, _, hr => by cases hr; exact .nil
  | _, _, _, _, .cons a b as bs h1 h2, hn, hr => by
    cases hr with
    | cons _ v O1 _ vs O2 r1 r2 => exact .cons _ _ _ _ _ _ (Rn.fwd hpi h1 (hn _ (by simp)) r1) (RnL.fwd hpi h2 (fun a ha => hn a (by simp [ha])) r2)
end

mutual
theorem Rn.back (hpi : ∀ i, ok i → pi1 i = pi2 (ρ i)) : ∀ {a b : AV} {v : Value} {O : List Nat}, Rn ρ a b → NP ok a → Rep w fr pi2 b v O → Rep w fr pi1 a v O
  | _, _, _, _, .refl a hn, _, hr => hr.pi0 hn
  | _, _, _, _, .ptr id off, hn, hr => by
    cases hr
    rw [← hpi id hn.ptr_inv]
    exact .ptr _ _
  | _, _, _, _, .iface t a b h, hn, hr => by
    cases hr with
    | iface _ _ v hr => exact .iface _ _ _ (Rn.back hpi h hn.iface_inv hr)
  | _, _, _, _, .func f as bs h, hn, hr => by
    cases hr with
    | func _ _ vs hr => exact .func _ _ _ (RnL.back hpi h hn.func_inv hr)
  | _, _, _, _, .agg as bs h, hn, hr => by
    cases hr with
    | agg _ vs _ hr => exact .agg _ _ _ (RnL.back hpi h hn.agg_inv hr)
  | _, _, _, _, .tup as bs h, hn, hr => by
    cases hr with
    | tup _ vs _ hr => exact .tup _ _ _ (RnL.back hpi h hn.tup_inv hr)
  | _, _, _, _, .rptr as bs h, hn, hr => by
    cases hr with
    | rptr _ b o vs hr hc => exact .rptr _ b o vs (RnL.back hpi h hn.rptr_inv hr) hc
  | _, _, _, _, .sl sz nl own xs ys hl h, hn, hr => by
    have e := lens_len hl
    cases hr with
    | slnil _ _ _ h0 =>
      have : xs = [] := List.eq_nil_of_length_eq_zero e
      subst this
      exact .slnil _ _ _ h0
    | slempty _ _ ad cap h0 =>
      have : xs = [] := List.eq_nil_of_length_eq_zero e
      subst this
      exact .slempty _ _ _ _ h0
    | sl _ _ _ b o cap vs h0 h1 h2 h3 h4 => rw [← e]; exact .sl _ _ _ b o cap vs h0 (lens_all hl.symm h1) (RnL.back hpi h hn.flat h2) h3 (by omega)
    | slown _ _ _ b o cap vs h0 h1 h2 h3 h4 h5 => rw [← e]; exact .slown _ _ _ b o cap vs h0 (lens_all hl.symm h1) (RnL.back hpi h hn.flat h2) h3 (by omega) (by rw [e]; exact h5)
theorem RnL.back (hpi : ∀ i, ok i → pi1 i = pi2 (ρ i)) : ∀ {as bs : List AV} {vs : List Value} {O : List Nat}, RnL ρ as bs → (∀ a, a ∈ as → NP ok a) → Reps w fr pi2 bs vs O → Reps w fr pi1 as vs O
  | _, _, _, _, .nil, _, hr => by cases hr; exact .nil
  | _, _, _, _, .cons a b as bs h1 h2, hn, hr => by
    cases hr with
    | cons _ v O1 _ vs O2 r1 r2 => exact .cons _ _ _ _ _ _ (Rn.back hpi h1 (hn _ (by simp)) r1) (RnL.back hpi h2 (fun a ha => hn a (by simp [ha])) r2)
end
end

mutual
theorem Rn.np' {ρ : Nat → Nat} : ∀ {a b : AV}, Rn ρ a b → ∀ {ok ok' : Nat → Prop}, (∀ i, ok i → ok' (ρ i)) → NP ok a → NP ok' b
  | _, _, .refl a hn, _, _, _, _ => hn.mono (fun _ h => h.elim)
  | _, _, .ptr id off, _, _, hok, hn => .ptr _ _ (hok _ hn.ptr_inv)
  | _, _, .iface t a b h, _, _, hok, hn => .iface _ _ (Rn.np' h hok hn.iface_inv)
  | _, _, .func f as bs h, _, _, hok, hn => .func _ _ (RnL.np' h hok hn.func_inv)
  | _, _, .agg as bs h, _, _, hok, hn => .agg _ (RnL.np' h hok hn.agg_inv)
  | _, _, .tup as bs h, _, _, hok, hn => .tup _ (RnL.np' h hok hn.tup_inv)
  | _, _, .rptr as bs h, _, _, hok, hn => .rptr _ (RnL.np' h hok hn.rptr_inv)
  | _, _, .sl sz nl own xs ys hl h, _, _, hok, hn => .sl _ _ _ _ (by
    have := RnL.np' h hok hn.flat
    exact fun x hx a ha => this a (List.mem_flatten.2 ⟨x, hx, ha⟩))
theorem RnL.np' {ρ : Nat → Nat} : ∀ {as bs : List AV}, RnL ρ as bs → ∀ {ok ok' : Nat → Prop}, (∀ i, ok i → ok' (ρ i)) → (∀ a, a ∈ as → NP ok a) → ∀ b, b ∈ bs → NP ok' b
  | _, _, .nil, _, _, _, _ => by simp
  | _, _, .cons a b as bs h1 h2, _, _, hok, hn => by
    have k1 := Rn.np' h1 hok (hn a (by simp))
    have k2 := RnL.np' h2 hok (fun y hy => hn y (by simp [hy]))
    intro x hx
    rcases List.mem_cons.1 hx with rfl | hx
    · exact k1
    · exact k2 x hx
end
theorem Rn.np {ρ : Nat → Nat} {ok ok' : Nat → Prop} (hok : ∀ i, ok i → ok' (ρ i)) {a b : AV} (h : Rn ρ a b) (hn : NP ok a) : NP ok' b := h.np' hok hn
theorem RnL.np {ρ : Nat → Nat} {ok ok' : Nat → Prop} (hok : ∀ i, ok i → ok' (ρ i)) {as bs : List AV} (h : RnL ρ as bs) (hn : ∀ a, a ∈ as → NP ok a) : ∀ b, b ∈ bs → NP ok' b := h.np' hok hn

theorem RnL.length {ρ : Nat → Nat} : ∀ {as bs : List AV}, RnL ρ as bs → as.length = bs.length
  | _, _, .nil => rfl
  | _, _, .cons _ _ _ _ _ h => by simp [RnL.length h]
theorem RnL.get {ρ : Nat → Nat} : ∀ {as bs : List AV}, RnL ρ as bs → ∀ i, Rn ρ (as.getD i .undef) (bs.getD i .undef)
  | _, _, .nil, i => by simp; exact .refl _ .undef
  | _, _, .cons a b as bs h1 h2, 0 => h1
  | _, _, .cons a b as bs h1 h2, i + 1 => by simpa using RnL.get h2 i

/-- Boxes' contents. -/
def RnO (ρ : Nat → Nat) : HObj → HObj → Prop
  | .cells as, .cells bs => RnL ρ as bs
  | .map ks xs, .map ks' xs' => RnL ρ ks ks' ∧ RnL ρ xs xs'
  | _, _ => False

theorem RnO.fwd {w : World} {fr pi1 pi2 : Nat → Nat} {ρ : Nat → Nat} {ok : Nat → Prop} (hpi : ∀ i, ok i → pi1 i = pi2 (ρ i)) {o o' : HObj} {b : Nat} {O : List Nat} (h : RnO ρ o o') (hn : NPo ok o) (hr : ORep w fr pi1 o b O) : ORep w fr pi2 o' b O := by
  cases o with
  | cells as => cases o' with
    | cells bs =>
      obtain ⟨vs, e, h1, h2, h3⟩ := hr
      exact ⟨vs, e, h1, RnL.fwd hpi h hn h2, h3⟩
    | map _ _ => exact h.elim
  | map ks xs => cases o' with
    | cells bs => exact h.elim
    | map ks' xs' =>
      obtain ⟨h0, es, clock, h1, h2, h3, h4⟩ := hr
      exact ⟨h0, es, clock, h1, RnL.fwd hpi h.1 hn.1 h2, RnL.fwd hpi h.2 hn.2 h3, h4⟩

theorem RnO.back {w : World} {fr pi1 pi2 : Nat → Nat} {ρ : Nat → Nat} {ok : Nat → Prop} (hpi : ∀ i, ok i → pi1 i = pi2 (ρ i)) {o o' : HObj} {b : Nat} {O : List Nat} (h : RnO ρ o o') (hn : NPo ok o) (hr : ORep w fr pi2 o' b O) : ORep w fr pi1 o b O := by
  cases o with
  | cells as => cases o' with
    | cells bs =>
      obtain ⟨vs, e, h1, h2, h3⟩ := hr
      exact ⟨vs, e, h1, RnL.back hpi h hn h2, h3⟩
    | map _ _ => exact h.elim
  | map ks xs => cases o' with
    | cells bs => exact h.elim
    | map ks' xs' =>
      obtain ⟨h0, es, clock, h1, h2, h3, h4⟩ := hr
      exact ⟨h0, es, clock, h1, RnL.back hpi h.1 hn.1 h2, RnL.back hpi h.2 hn.2 h3, h4⟩

theorem RnO.np {ρ : Nat → Nat} {ok ok' : Nat → Prop} (hok : ∀ i, ok i → ok' (ρ i)) {o o' : HObj} (h : RnO ρ o o') (hn : NPo ok o) : NPo ok' o' := by
  cases o with
  | cells as => cases o' with
    | cells bs => exact RnL.np hok h hn
    | map _ _ => exact h.elim
  | map ks xs => cases o' with
    | cells bs => exact h.elim
    | map ks' xs' => exact ⟨RnL.np hok h.1 hn.1, RnL.np hok h.2 hn.2⟩

theorem get_lt {α : Type} {l : List α} {i : Nat} {x : α} (h : l[i]? = some x) : i < l.length := by
  rcases Nat.lt_or_ge i l.length with h1 | h1
  · exact h1
  · simp [List.getElem?_eq_none h1] at h

/-- The number of a box behind the call. -/
def rnTo (ρ : Nat → Nat) (n N : Nat) (j : Nat) : Nat := if j < n then ρ j else N + (j - n)

/-- A contract, used among more boxes. -/
theorem VCall.frame {P : Program} {f : Nat} {args : List AV} {h : List HObj} {ret : AV} {h' : List HObj} (hc : VCall P f args h ret h') (ρ : Nat → Nat) {args' : List AV} {H : List HObj} {ret' : AV} {H' : List HObj}
    (ha : RnL ρ args args') (hna : ∀ a, a ∈ args → NP (fun i => i < h.length) a) (hno : ∀ (i : Nat) (o : HObj), h[i]? = some o → NPo (fun i => i < h.length) o)
    (hh : ∀ (j : Nat) (o : HObj), h[j]? = some o → ∃ o', H[ρ j]? = some o' ∧ RnO ρ o o') (hinj : ∀ i j, i < h.length → j < h.length → ρ i = ρ j → i = j)
    (hr : Rn (rnTo ρ h.length H.length) ret ret') (hl : H'.length = H.length + (h'.length - h.length)) (hk : ∀ i, i < H.length → (∀ j, j < h.length → ρ j ≠ i) → H'[i]? = H[i]?)
    (hh' : ∀ (j : Nat) (o : HObj), h'[j]? = some o → ∃ o', H'[rnTo ρ h.length H.length j]? = some o' ∧ RnO (rnTo ρ h.length H.length) o o') : VCall P f args' H ret' H' := by
  classical
  have hle := hc.2.1
  have hρ : ∀ j, j < h.length → ρ j < H.length := by
    intro j hj
    obtain ⟨o', h1, _⟩ := hh j _ (List.getElem?_eq_getElem hj)
    exact get_lt h1
  refine ⟨hc.1, by omega, fun w fr pi own vals hvl hrel => ?_⟩
  let own0 : Res → List Nat := fun r => match r with
    | .slot i => own (.slot i)
    | .box j => if j < h.length then own (.box (ρ j)) else []
  have hsub0 : ∀ r b, b ∈ own0 r → ∃ r', b ∈ own r' ∧ (∀ i, r = .slot i → r' = .slot i) ∧ (∀ j, r = .box j → j < h.length ∧ r' = .box (ρ j)) := by
    intro r b hb
    cases r with
    | slot i => exact ⟨_, hb, fun _ e => e, fun j e => by cases e⟩
    | box j =>
      simp only [own0] at hb
      split at hb
      · rename_i hj
        exact ⟨_, hb, (fun i e => by cases e), (fun j' e => by cases e; exact ⟨hj, rfl⟩)⟩
      · simp at hb
  have hrel0 : Rel w fr (pi ∘ ρ) own0 (FS.of args h) vals.toArray := by
    refine ⟨fun i => ?_, fun i => ?_, fun j o ho => ?_, fun j o ho => ?_, fun j hj => ?_, fun r => ?_, fun r r' b x1 x2 => ?_, fun r b hb => ?_⟩
    · refine Rn.back (ρ := ρ) (pi2 := pi) (ok := fun i => i < h.length) (fun _ _ => rfl) (ha.get i) ?_ (hrel.slot i)
      show NP _ (args.getD i .undef)
      rcases Nat.lt_or_ge i args.length with hi | hi
      · rw [List.getD_eq_getElem?_getD, List.getElem?_eq_getElem hi]; exact hna _ (List.getElem_mem hi)
      · rw [List.getD_eq_getElem?_getD, List.getElem?_eq_none hi]; exact .undef
    · show NP _ (args.getD i .undef)
      rcases Nat.lt_or_ge i args.length with hi | hi
      · rw [List.getD_eq_getElem?_getD, List.getElem?_eq_getElem hi]
        exact (hna _ (List.getElem_mem hi)).mono fun j hj => ⟨_, (List.getElem?_eq_getElem hj : h[j]? = _)⟩
      · rw [List.getD_eq_getElem?_getD, List.getElem?_eq_none hi]; exact .undef
    · have hj : h[j]? = some o := ho
      obtain ⟨o', h1, h2⟩ := hh j o hj
      obtain ⟨O, h3, h4⟩ := hrel.box (ρ j) o' h1
      exact ⟨O, RnO.back (ρ := ρ) (pi2 := pi) (ok := fun i => i < h.length) (fun _ _ => rfl) h2 (hno j o hj) h3, by simp only [own0]; rw [if_pos (get_lt hj)]; exact h4⟩
    · have hj : h[j]? = some o := ho
      exact (hno j o hj).mono fun i hi => ⟨_, (List.getElem?_eq_getElem hi : h[i]? = _)⟩
    · have hj' : h[j]? = none := hj
      have : ¬ j < h.length := fun hlt => by rw [List.getElem?_eq_getElem hlt] at hj'; cases hj'
      simp only [own0]
      rw [if_neg this]
    · cases r with
      | slot i => exact hrel.nd _
      | box j =>
        simp only [own0]
        split
        · exact hrel.nd _
        · simp
    · obtain ⟨q1, m1, m2, m3⟩ := hsub0 r b x1
      obtain ⟨q2, n1, n2, n3⟩ := hsub0 r' b x2
      have hq := hrel.dj q1 q2 b m1 n1
      subst hq
      cases r with
      | slot i =>
        have e1 := m2 i rfl
        cases r' with
        | slot i' => have e2 := n2 i' rfl; rw [e1] at e2; cases e2; rfl
        | box j' => have e2 := (n3 j' rfl).2; rw [e1] at e2; cases e2
      | box j =>
        have e1 := m3 j rfl
        cases r' with
        | slot i' => have e2 := n2 i' rfl; rw [e1.2] at e2; cases e2
        | box j' =>
          have e2 := n3 j' rfl
          have e3 := e1.2.symm.trans e2.2
          simp only [Res.box.injEq] at e3
          rw [hinj j j' e1.1 e2.1 e3]
    · obtain ⟨q, m, _⟩ := hsub0 r b hb
      exact hrel.live q b m
  have hvl0 : vals.length = args.length := by rw [hvl, ha.length]
  refine (hc.2.2 w fr (pi ∘ ρ) own0 vals hvl0 hrel0).mono fun e w' hp => ?_
  obtain ⟨v, fr', pi', own', rfl, k2, k3⟩ := hp
  let n := h.length
  let N := H.length
  let piR : Nat → Nat := fun i => if i < N then pi i else pi' (i - N + n)
  -- which of the callee's boxes it is
  have hinv : ∀ i, (∃ j, j < h'.length ∧ rnTo ρ n N j = i) ∨ (∀ j, j < h'.length → rnTo ρ n N j ≠ i) := fun i => by
    by_cases hx : ∃ j, j < h'.length ∧ rnTo ρ n N j = i
    · exact .inl hx
    · exact .inr fun j hj e => hx ⟨j, hj, e⟩
  have hinj' : ∀ i j, i < h'.length → j < h'.length → rnTo ρ n N i = rnTo ρ n N j → i = j := by
    intro i j hi hj e
    simp only [rnTo] at e
    split at e <;> split at e
    · exact hinj i j ‹_› ‹_› e
    · have := hρ i ‹_›; omega
    · have := hρ j ‹_›; omega
    · omega
  let ownR : Res → List Nat := fun r => match r with
    | .slot i => own' (.slot i)
    | .box i => if hx : ∃ j, j < h'.length ∧ rnTo ρ n N j = i then own' (.box hx.choose) else own (.box i)
  have hownR : ∀ j, j < h'.length → ownR (.box (rnTo ρ n N j)) = own' (.box j) := by
    intro j hj
    have hx : ∃ j', j' < h'.length ∧ rnTo ρ n N j' = rnTo ρ n N j := ⟨j, hj, rfl⟩
    simp only [ownR]
    rw [dif_pos hx, hinj' _ _ hx.choose_spec.1 hj hx.choose_spec.2]
  have hownR' : ∀ i, (∀ j, j < h'.length → rnTo ρ n N j ≠ i) → ownR (.box i) = own (.box i) := by
    intro i hi
    simp only [ownR]
    rw [dif_neg (fun ⟨j, hj, e⟩ => hi j hj e)]
  have hpiR : ∀ j, j < h'.length → pi' j = piR (rnTo ρ n N j) := by
    intro j hj
    simp only [piR, rnTo]
    by_cases h1 : j < n
    · rw [if_pos h1, if_pos (hρ j h1)]
      exact k3.pi j h1
    · rw [if_neg h1, if_neg (by omega)]
      congr 1
      omega
  have hsubA : ∀ b, (∃ r, b ∈ own0 r) → ∃ r, b ∈ own r := by
    rintro b ⟨r, hb⟩
    obtain ⟨q, m, _⟩ := hsub0 r b hb
    exact ⟨q, m⟩
  -- the caller's other boxes
  have hother : ∀ i, (∀ j, j < h'.length → rnTo ρ n N j ≠ i) → ∀ b, b ∈ own (.box i) → ¬ ∃ r, b ∈ own0 r := by
    rintro i hi b hb ⟨r, hr⟩
    obtain ⟨q, m1, m2, m3⟩ := hsub0 r b hr
    have := hrel.dj _ _ b hb m1
    cases r with
    | slot s => rw [m2 s rfl] at this; cases this
    | box j =>
      obtain ⟨hj, e⟩ := m3 j rfl
      rw [e] at this
      cases this
      refine hi j (by omega) ?_
      simp only [rnTo]
      rw [if_pos hj]
  have hfresh : ∀ r b, b ∈ own' r → (∃ r', b ∈ own0 r') ∨ w.heap.size ≤ b := k3.fresh
  have hdj : ∀ i, (∀ j, j < h'.length → rnTo ρ n N j ≠ i) → ∀ b, b ∈ own (.box i) → ∀ r, b ∉ own' r := by
    intro i hi b hb r hr
    rcases hfresh r b hr with h1 | h1
    · exact hother i hi b hb h1
    · have := hrel.live _ b hb
      omega
  have hsize := k3.step.size
  have hH' : ∀ i o, H'[i]? = some o → (∀ j, j < h'.length → rnTo ρ n N j ≠ i) → i < N ∧ H[i]? = some o := by
    intro i o hi hne
    have hlt := get_lt hi
    have hiN : i < N := by
      rcases Nat.lt_or_ge i N with h1 | h1
      · exact h1
      · exfalso
        refine hne (i - N + n) (by omega) ?_
        simp only [rnTo]
        rw [if_neg (by omega)]
        omega
    refine ⟨hiN, ?_⟩
    rw [← hk i hiN fun j hj e => hne j (by omega) (by simp only [rnTo]; rw [if_pos hj]; exact e)]
    exact hi
  have hhas : ∀ j, j < h'.length → (FS.of [ret'] H').has (rnTo ρ n N j) := by
    intro j hj
    obtain ⟨o', h1, _⟩ := hh' j _ (List.getElem?_eq_getElem hj)
    exact ⟨o', h1⟩
  have hhasN : ∀ i, i < N → (FS.of [ret'] H').has i := fun i hi => ⟨_, (List.getElem?_eq_getElem (by omega) : H'[i]? = _)⟩
  have hnpr : NP (fun i => i < h'.length) ret := (k2.slotnp 0).mono fun i ⟨o, ho⟩ => get_lt (show h'[i]? = some o from ho)
  have hnpo' : ∀ j o, h'[j]? = some o → NPo (fun i => i < h'.length) o := fun j o ho => (k2.boxnp j o ho).mono fun i ⟨o, ho⟩ => get_lt (show h'[i]? = some o from ho)
  refine ⟨v, fr', piR, ownR, rfl, ⟨fun i => ?_, fun i => ?_, fun i o ho => ?_, fun i o ho => ?_, fun i hi => ?_, fun r => ?_, fun r r' b x1 x2 => ?_, fun r b hb => ?_⟩, ⟨k3.step.mono fun b _ hb => hsubA b hb, fun r b hb => ?_, fun i hi => ?_⟩⟩
  · cases i with
    | zero => exact Rn.fwd (ok := fun i => i < h'.length) hpiR hr hnpr (k2.slot 0)
    | succ i =>
      have e : (FS.of [ret'] H').sl (i + 1) = .undef := by simp [FS.of, List.getD_eq_getElem?_getD]
      have e' : (FS.of [ret] h').sl (i + 1) = .undef := by simp [FS.of, List.getD_eq_getElem?_getD]
      have := k2.slot (i + 1)
      rw [e'] at this
      rw [e]
      cases hO : ownR (.slot (i + 1)) with
      | nil => exact .undef _
      | cons b r =>
        have hO' : own' (.slot (i + 1)) = b :: r := hO
        rw [hO'] at this
        cases this
  · cases i with
    | zero => exact Rn.np hhas hr hnpr
    | succ i =>
      have : (FS.of [ret'] H').sl (i + 1) = .undef := by simp [FS.of, List.getD_eq_getElem?_getD]
      rw [this]
      exact .undef
  · have ho' : H'[i]? = some o := ho
    rcases hinv i with ⟨j, hj, rfl⟩ | hne
    · obtain ⟨o2, h1, h2⟩ := hh' j _ (List.getElem?_eq_getElem hj)
      have e : o2 = o := Option.some.inj (h1.symm.trans ho')
      subst e
      obtain ⟨O, h3, h4⟩ := k2.box j _ (List.getElem?_eq_getElem hj : h'[j]? = _)
      exact ⟨O, by rw [← hpiR j hj]; exact RnO.fwd (ok := fun i => i < h'.length) hpiR h2 (hnpo' j _ (List.getElem?_eq_getElem hj)) h3, by rw [hownR j hj, ← hpiR j hj]; exact h4⟩
    · obtain ⟨hiN, hi⟩ := hH' i o ho' hne
      obtain ⟨O, h3, h4⟩ := hrel.box i o hi
      have epi : piR i = pi i := by simp only [piR]; rw [if_pos hiN]
      refine ⟨O, ?_, by rw [hownR' i hne, epi]; exact h4⟩
      rw [epi]
      refine h3.mono k3.step (ok := fun i => i < N) (fun i hi => by simp only [piR]; rw [if_pos hi]) ((hrel.boxnp i o hi).mono fun i ⟨o, ho⟩ => get_lt (show H[i]? = some o from ho)) (hrel.live (.box i) _ (by simp [h4])) (hother i hne _ (by simp [h4])) (fun x hx => hother i hne x (by simp [h4, hx]))
  · have ho' : H'[i]? = some o := ho
    rcases hinv i with ⟨j, hj, rfl⟩ | hne
    · obtain ⟨o2, h1, h2⟩ := hh' j _ (List.getElem?_eq_getElem hj)
      have e : o2 = o := Option.some.inj (h1.symm.trans ho')
      subst e
      exact RnO.np hhas h2 (hnpo' j _ (List.getElem?_eq_getElem hj))
    · obtain ⟨hiN, hi⟩ := hH' i o ho' hne
      exact (hrel.boxnp i o hi).mono fun i ⟨o, ho⟩ => hhasN i (get_lt (show H[i]? = some o from ho))
  · have hi' : H'[i]? = none := hi
    rcases hinv i with ⟨j, hj, rfl⟩ | hne
    · obtain ⟨o2, h1, h2⟩ := hh' j _ (List.getElem?_eq_getElem hj)
      have : H'[rnTo ρ n N j]? = some o2 := h1
      rw [hi'] at this
      cases this
    · rw [hownR' i hne]
      refine hrel.nobox i ?_
      show H[i]? = none
      refine List.getElem?_eq_none ?_
      rcases Nat.lt_or_ge i H.length with h1 | h1
      · rw [List.getElem?_eq_getElem (by omega)] at hi'; cases hi'
      · exact h1
  · cases r with
    | slot i => exact k2.nd _
    | box i =>
      rcases hinv i with ⟨j, hj, rfl⟩ | hne
      · rw [hownR j hj]; exact k2.nd _
      · rw [hownR' i hne]; exact hrel.nd _
  · cases r with
    | slot i =>
      cases r' with
      | slot i' => exact k2.dj _ _ b x1 x2
      | box i' =>
        exfalso
        rcases hinv i' with ⟨j, hj, rfl⟩ | hne
        · rw [hownR j hj] at x2
          have := k2.dj _ _ b x1 x2
          cases this
        · rw [hownR' i' hne] at x2
          exact hdj i' hne b x2 _ x1
    | box i =>
      cases r' with
      | slot i' =>
        exfalso
        rcases hinv i with ⟨j, hj, rfl⟩ | hne
        · rw [hownR j hj] at x1
          have := k2.dj _ _ b x1 x2
          cases this
        · rw [hownR' i hne] at x1
          exact hdj i hne b x1 _ x2
      | box i' =>
        rcases hinv i with ⟨j, hj, rfl⟩ | hne
        · rw [hownR j hj] at x1
          rcases hinv i' with ⟨j', hj', rfl⟩ | hne'
          · rw [hownR j' hj'] at x2
            have := k2.dj _ _ b x1 x2
            cases this
            rfl
          · rw [hownR' i' hne'] at x2
            exact absurd x1 (hdj i' hne' b x2 _)
        · rw [hownR' i hne] at x1
          rcases hinv i' with ⟨j', hj', rfl⟩ | hne'
          · rw [hownR j' hj'] at x2
            exact absurd x2 (hdj i hne b x1 _)
          · rw [hownR' i' hne'] at x2
            exact hrel.dj _ _ b x1 x2
  · cases r with
    | slot i => exact k2.live _ b hb
    | box i =>
      rcases hinv i with ⟨j, hj, rfl⟩ | hne
      · rw [hownR j hj] at hb; exact k2.live _ b hb
      · rw [hownR' i hne] at hb
        have := hrel.live _ b hb
        omega
  · have key : ∀ r, b ∈ own' r → (∃ r', b ∈ own r') ∨ w.heap.size ≤ b := by
      intro r hb
      rcases hfresh r b hb with h1 | h1
      · exact .inl (hsubA b h1)
      · exact .inr h1
    cases r with
    | slot i => exact key _ hb
    | box i =>
      rcases hinv i with ⟨j, hj, rfl⟩ | hne
      · rw [hownR j hj] at hb; exact key _ hb
      · rw [hownR' i hne] at hb; exact .inl ⟨_, hb⟩
  · simp only [piR]
    rw [if_pos hi]

/-- A contract of one box, used where it stands among others. -/
theorem VCall.at {P : Program} {f : Nat} {args : List AV} {o : HObj} {ret : AV} {o' : HObj} (hc : VCall P f args [o] ret [o']) (i : Nat) {args' : List AV} {H : List HObj} (ha : RnL (fun _ => i) args args') (hna : ∀ a, a ∈ args → NP (fun i => i < 1) a)
    (ho : NPo (fun _ => False) o) (ho' : NPo (fun _ => False) o') (hr : NP (fun _ => False) ret) (hH : H[i]? = some o) (hrn : ∀ {o : HObj} {ρ : Nat → Nat}, NPo (fun _ => False) o → RnO ρ o o) : VCall P f args' H ret (H.set i o') := by
  have hi := get_lt hH
  refine hc.frame (fun _ => i) ha hna (fun j q hq => ?_) (fun j q hq => ?_) (fun i j h1 h2 _ => by simp at h1 h2; omega) (.refl _ hr) (by simp) (fun k hk hne => ?_) (fun j q hq => ?_)
  · have e : q = o := by
      cases j with
      | zero => simpa using hq.symm
      | succ j => simp at hq
    subst e
    exact ho.mono (fun _ h => h.elim)
  · have e : q = o := by
      cases j with
      | zero => simpa using hq.symm
      | succ j => simp at hq
    subst e
    exact ⟨q, hH, hrn ho⟩
  · have := hne 0 (by simp)
    rw [List.getElem?_set_ne this]
  · have ej : j = 0 := by
      cases j with
      | zero => rfl
      | succ j => simp at hq
    subst ej
    have e : q = o' := by simpa using hq.symm
    subst e
    refine ⟨q, ?_, hrn ho'⟩
    simp only [rnTo, List.length_singleton, Nat.lt_one_iff, ↓reduceIte]
    rw [List.getElem?_set_self hi]

/-- A loop from a state that tells no more than what matters; its boxes told anew. -/
theorem VloopS.weakE {P : Program} {L : Nat → Bool} {N h0 : Nat} {c : VC} {Q : VE → Sy → Prop} {σ : Sy} {l : List (Nat × AV)} {h : List HObj} (hu : upsOk N l = true) (hw : WkU σ l) (hh : σ.h = h) (hk : h0 ≤ h.length) (hl : VloopS P L N h0 c Q ⟨[], l, h⟩) : VloopS P L N h0 c Q σ := by
  subst hh
  exact VloopS.weak hu hw hk hl

theorem npo1 {cs : List AV} (h : ∀ a, a ∈ cs → NP (fun i => i < 1) a) {h0 : List HObj} : ∀ (i : Nat) (o : HObj), ([HObj.cells cs])[i]? = some o → h0[i]? = some o ∨ NPo (fun i => i < ([HObj.cells cs] : List HObj).length) o := by
  intro i o hi
  cases i with
  | zero =>
    have : o = .cells cs := by simpa using hi.symm
    subst this
    exact .inr h
  | succ i => simp at hi

/-- Numbers, as the cells of a slice. -/
def ints (l : List Int) : List (List AV) := l.map fun x => [.int .i64 x]
theorem ints_len (l : List Int) : (ints l).length = l.length := by simp [ints]
theorem ints_app (a b : List Int) : ints a ++ ints b = ints (a ++ b) := by simp [ints]
theorem ints_get {l : List Int} {i : Nat} (h : i < l.length) : (ints l)[i]? = some [.int .i64 l[i]] := by simp [ints, h]
theorem ints_take (l : List Int) (n : Nat) : (ints l).take n = ints (l.take n) := by simp [ints, List.map_take]
theorem ints_drop (l : List Int) (n : Nat) : (ints l).drop n = ints (l.drop n) := by simp [ints, List.map_drop]
theorem np_ints {ok : Nat → Prop} {sz : Nat} {nl : Option Bool} {own : Bool} (l : List Int) : NP ok (.sl sz nl own (ints l)) := by
  refine .sl _ _ _ _ fun x hx a ha => ?_
  simp only [ints, List.mem_map] at hx
  obtain ⟨b, _, rfl⟩ := hx
  simp only [List.mem_singleton] at ha
  subst ha
  exact .int _ _

end Go.Proofs.Ytjlcnnijpmijhaa.V

/- A small logic of values over the model, part 35: where a loop is left, no more is told than what matters. -/
namespace Go.Proofs.Ytjlcnnijpmijhaa.V

/-- Told less of. -/
def exW (N : Nat) (Q : VE → Sy → Prop) : VE → Sy → Prop := fun x σ => ∃ (l : List (Nat × AV)) (h : List HObj), upsOk N l = true ∧ WkU σ l ∧ σ.h = h ∧ Q x ⟨[], l, h⟩

theorem VQ.exW {N h0 : Nat} {Q : VE → Sy → Prop} {w : World} {fr pi : Nat → Nat} {own : Res → List Nat} {e : Exit} {a : Act} {w' : World} (h : VQ N (QS N (exW N Q)) h0 w fr pi own e a w') : VQ N (QS N Q) h0 w fr pi own e a w' := by
  obtain ⟨x, S', fr', pi', own', k1, ⟨σ, rfl, hok, l, hb, hu, hw, rfl, hq⟩, k3, k4, k5, k6, k7, k8⟩ := h
  obtain ⟨own2, r1, r2⟩ := k5.weak (S0 := (⟨[], l, σ.h⟩ : Sy).st N) (WkU.st (h := σ.h) hok hw (upsOk_spec hu)) (ex := []) (by simp [Sy.st]) (.inl rfl)
  exact ⟨x, _, fr', pi', own2, k1, ⟨_, rfl, upsOk_spec hu, hq⟩, Sy.st_length _ _, k4, r1, k6, k7, k8.step, fun r b hb => k8.fresh r b (r2 r b hb), k8.pi⟩

theorem VloopS.exW {P : Program} {L : Nat → Bool} {N h0 : Nat} {c : VC} {Q : VE → Sy → Prop} {σ : Sy} (h : VloopS P L N h0 c (V.exW N Q) σ) : VloopS P L N h0 c Q σ := by
  intro hok hN hk c0 hc a w fr pi own hr hs hd
  exact (h hok hN hk c0 hc a w fr pi own hr hs hd).mono fun e a w hh => hh.exW

theorem ex_w {N : Nat} {Q : VE → Sy → Prop} {x : VE} {σ : Sy} {l : List (Nat × AV)} {h : List HObj} (hq : Q x ⟨[], l, h⟩) (hu : upsOk N l = true) (hw : WkU σ l) (hh : σ.h = h) : exW N Q x σ := ⟨l, h, hu, hw, hh, hq⟩

end Go.Proofs.Ytjlcnnijpmijhaa.V

/- A small logic of values over the model, part 36: functions without a body, for which the model stands in. -/
namespace Go.Proofs.Ytjlcnnijpmijhaa.V

theorem PCallN.ofExt {P : Program} {f : Nat} {fn : Func} {e : Array Value → Sem Value} (hf : P.funcs[f]? = some fn) (hname : (fn.name == "runtime.NumGoroutine") = false) (hb : fn.body.isNone = true) (hn : Extern.findNext fn = none) (he : Extern.find fn = some e) {args : List AV} {ret : AV}
    (hargs : ∀ a, a ∈ args → NP (fun _ => False) a) (hret : NP (fun _ => False) ret) (hrun : ∀ (w : World) (fr pi : Nat → Nat) (own : Res → List Nat) (vals : List Value), vals.length = args.length → Rel w fr pi own (FS.of args []) vals.toArray → ∃ v, (e vals.toArray).run P w = .ok v w ∧ Rep w fr pi ret v []) : PCallN P f args ret := by
  have hcl : callable P f = false := by
    unfold callable
    rw [hf]
    simp only [Bool.and_eq_false_iff]
    right
    cases h : fn.body with
    | none => rfl
    | some c => rw [h] at hb; cases hb
  have hk : known P f = true := by
    unfold known
    rw [hf]
    simp only [Bool.and_eq_true, Bool.or_eq_true]
    exact ⟨by rw [hname]; rfl, .inr ⟨by rw [hn]; rfl, by rw [he]; rfl⟩⟩
  refine ⟨hargs, hk, Nat.le_refl _, fun w fr pi own vals hl hrel => ?_⟩
  obtain ⟨v, h1, h2⟩ := hrun w fr pi own vals hl hrel
  unfold Runs
  rw [hcl]
  refine ⟨fn, e, v, w, hf, hname, hb, hn, he, h1, v, fr, pi, fun _ => [], rfl, ⟨fun i => ?_, fun i => ?_, fun i o ho => ?_, fun i o ho => ?_, fun i _ => rfl, fun _ => List.nodup_nil, fun r r' b hb => ?_, fun r b hb => ?_⟩, ⟨Step.refl _ _ _, fun r b hb => ?_, fun _ _ => rfl⟩⟩
  · cases i with
    | zero => exact h2
    | succ i =>
      have e : (FS.of [ret] []).sl (i + 1) = .undef := by simp [FS.of, List.getD_eq_getElem?_getD]
      rw [e]
      exact .undef _
  · cases i with
    | zero => exact hret.mono fun _ h => h.elim
    | succ i =>
      have e : (FS.of [ret] []).sl (i + 1) = .undef := by simp [FS.of, List.getD_eq_getElem?_getD]
      rw [e]
      exact .undef
  · simp [FS.of] at ho
  · simp [FS.of] at ho
  · simp at hb
  · simp at hb
  · simp at hb

theorem vals_two {w : World} {fr pi : Nat → Nat} {own : Res → List Nat} {a b : AV} {vals : List Value} (hl : vals.length = [a, b].length) (hr : Rel w fr pi own (FS.of [a, b] []) vals.toArray) : ∃ u v, vals = [u, v] ∧ Rep w fr pi a u (own (.slot 0)) ∧ Rep w fr pi b v (own (.slot 1)) := by
  match vals, hl, hr with
  | [u, v], _, hr => exact ⟨u, v, rfl, hr.slot 0, hr.slot 1⟩

/-! the order of bytes -/
open Go.Lib

theorem cb_val : ∀ a b : List UInt8, compareBytes a b = -1 ∨ compareBytes a b = 0 ∨ compareBytes a b = 1
  | [], [] => .inr (.inl rfl)
  | [], _ :: _ => .inl rfl
  | _ :: _, [] => .inr (.inr rfl)
  | a :: as, b :: bs => by
    unfold compareBytes
    split
    · exact .inl rfl
    · split
      · exact .inr (.inr rfl)
      · exact cb_val as bs

theorem cb_self : ∀ a : List UInt8, compareBytes a a = 0
  | [] => rfl
  | a :: as => by
    unfold compareBytes
    rw [if_neg (UInt8.lt_irrefl a), if_neg (UInt8.lt_irrefl a)]
    exact cb_self as

theorem cb_anti : ∀ a b : List UInt8, compareBytes b a = - compareBytes a b
  | [], [] => rfl
  | [], _ :: _ => rfl
  | _ :: _, [] => rfl
  | a :: as, b :: bs => by
    have ih := cb_anti as bs
    unfold compareBytes
    simp only [UInt8.lt_iff_toNat_lt]
    by_cases h1 : a.toNat < b.toNat
    · rw [if_pos h1, if_neg (by omega), if_pos h1]; rfl
    · rw [if_neg h1]
      by_cases h2 : b.toNat < a.toNat
      · simp only [h1, h2, ↓reduceIte]
      · simp only [h1, h2, ↓reduceIte, ih]

theorem cb_eq : ∀ {a b : List UInt8}, compareBytes a b = 0 → a = b
  | [], [], _ => rfl
  | [], _ :: _, h => by cases h
  | _ :: _, [], h => by cases h
  | a :: as, b :: bs, h => by
    unfold compareBytes at h
    simp only [UInt8.lt_iff_toNat_lt] at h
    by_cases h1 : a.toNat < b.toNat
    · rw [if_pos h1] at h; cases h
    · rw [if_neg h1] at h
      by_cases h2 : b.toNat < a.toNat
      · rw [if_pos h2] at h; cases h
      · rw [if_neg h2] at h
        rw [UInt8.toNat_inj.1 (by omega : a.toNat = b.toNat), cb_eq h]

theorem cb_less : ∀ a b : List UInt8, Op.bytesLess a b = decide (compareBytes a b < 0)
  | [], [] => rfl
  | [], _ :: _ => rfl
  | _ :: _, [] => rfl
  | a :: as, b :: bs => by
    have ih := cb_less as bs
    unfold Op.bytesLess compareBytes
    by_cases h1 : a < b
    · rw [if_pos h1, decide_eq_true h1]; rfl
    · rw [if_neg h1, decide_eq_false h1, Bool.false_or]
      by_cases h2 : b < a
      · rw [if_pos h2, beq_eq_false_iff_ne.2 (fun e => by subst e; exact UInt8.lt_irrefl a h2)]; rfl
      · rw [if_neg h2, ih]
        simp only [UInt8.lt_iff_toNat_lt] at h1 h2
        rw [UInt8.toNat_inj.1 (by omega : a.toNat = b.toNat), beq_self_eq_true, Bool.true_and]

theorem cb_trans : ∀ {a b c : List UInt8}, compareBytes a b < 0 → compareBytes b c < 0 → compareBytes a c < 0
  | [], [], _, h, _ => by cases h
  | [], _ :: _, [], _, h => by cases h
  | [], _ :: _, _ :: _, _, _ => show (-1 : Int) < 0 by decide
  | _ :: _, [], _, h, _ => by cases h
  | _ :: _, _ :: _, [], _, h => by cases h
  | a :: as, b :: bs, c :: cs, h, h' => by
    unfold compareBytes at h h' ⊢
    simp only [UInt8.lt_iff_toNat_lt] at h h' ⊢
    by_cases h1 : a.toNat < b.toNat
    · by_cases h2 : b.toNat < c.toNat
      · rw [if_pos (by omega)]; decide
      · rw [if_neg h2] at h'
        by_cases h3 : c.toNat < b.toNat
        · rw [if_pos h3] at h'; cases h'
        · rw [if_pos (by omega)]; decide
    · rw [if_neg h1] at h
      by_cases h4 : b.toNat < a.toNat
      · rw [if_pos h4] at h; cases h
      · rw [if_neg h4] at h
        by_cases h2 : b.toNat < c.toNat
        · rw [if_pos (by omega)]; decide
        · rw [if_neg h2] at h'
          by_cases h3 : c.toNat < b.toNat
          · rw [if_pos h3] at h'; cases h'
          · rw [if_neg h3] at h'
            rw [if_neg (by omega), if_neg (by omega)]
            exact cb_trans h h'

/-- Of numbers. -/
def sgn (a b : Int) : Int := if a < b then -1 else if a > b then 1 else 0

end Go.Proofs.Ytjlcnnijpmijhaa.V
