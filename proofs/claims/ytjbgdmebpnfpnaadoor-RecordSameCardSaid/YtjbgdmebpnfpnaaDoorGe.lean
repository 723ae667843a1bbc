/-
  May a batch be: the law RecordRight.
-/
import Derived.Test.YtjbgdmebpnfpnaaDoorFc
import Derived.Test.YtjbgdmebpnfpnaaDoorGd

/- A small logic of values over the model: boxes are lent to a call that looks at a variable alone. -/
namespace Go.Proofs.YtjbgdmebpnfpnaaDoor.V

/-- Boxes are lent to a call that looks at a variable alone. -/
theorem VCall.lendG {P : Program} {f g : Nat} {gvs : List Value} {args args' : List AV} {h h' : List HObj} {l : List (Nat × AV)} {ret : AV} (hp : VCall P f args' [.glob g gvs] ret [.glob g gvs]) (hna : ∀ a, a ∈ args' → NP (fun _ => False) a) (ha : AV.stripL args' = args') (hf : ret.flat = true)
    (hs : ShiftS ⟨args, [], .glob g gvs :: h⟩ ⟨[], l, .glob g gvs :: h'⟩) (hl : args'.length = args.length ∧ ∀ i, look i .undef l = nthD args' i) : VCall P f args (.glob g gvs :: h) ret (.glob g gvs :: h) := by
  refine ⟨hp.1, Nat.le_refl _, fun w fr pi own vals hlen hr => ?_⟩
  have hr0 : Rel w fr pi own ⟨(⟨args, [], .glob g gvs :: h⟩ : Sy).get, fun i => (HObj.glob g gvs :: h)[i]?⟩ vals.toArray := by
    have e : (⟨args, [], .glob g gvs :: h⟩ : Sy).get = fun i => args.getD i .undef := funext fun i => nthD_eq args i
    rw [e]
    exact hr
  obtain ⟨fr1, pi1, own1, q1, _⟩ := hs.2.2.2 w fr pi own vals.toArray hr0
  have hsl : ∀ i, (⟨[], l, .glob g gvs :: h'⟩ : Sy).get i = args'.getD i .undef := fun i => by
    rw [← nthD_eq]
    exact hl.2 i
  have hst : ∀ i, (args'.getD i .undef).strip = args'.getD i .undef := fun i => by
    have := congrArg (fun l => l.getD i AV.undef) ha
    simp only [AV.stripL_eq, List.getD_eq_getElem?_getD, List.getElem?_map] at this ⊢
    rcases Nat.lt_or_ge i args'.length with h' | h'
    · rw [List.getElem?_eq_getElem h'] at this ⊢
      exact this
    · rw [List.getElem?_eq_none h']; rfl
  have hr1 : Rel w fr1 pi1 (fun _ => []) (FS.of args' [.glob g gvs]) vals.toArray := by
    refine ⟨fun i => ?_, fun i => ?_, fun i o ho => ?_, fun i o ho => ?_, fun i _ => rfl, fun r => .nil, fun r r' b hb => ?_, fun r b hb => ?_⟩
    · have h1 := q1.slot i
      have e : (⟨(⟨[], l, .glob g gvs :: h'⟩ : Sy).get, fun i => (HObj.glob g gvs :: h')[i]?⟩ : FS).sl i = args'.getD i .undef := hsl i
      rw [e] at h1
      have h2 := h1.noOwn (hst i)
      rw [h2] at h1
      exact h1
    · show NP _ (args'.getD i .undef)
      rw [List.getD_eq_getElem?_getD]
      cases hi : args'[i]? with
      | none => exact .undef
      | some a => exact (hna a (List.mem_of_getElem? hi)).mono (fun _ h => h.elim)
    · match i with
      | 0 =>
        have : o = .glob g gvs := by simpa [FS.of] using ho.symm
        subst this
        obtain ⟨O, y1, _⟩ := q1.box 0 (.glob g gvs) rfl
        obtain ⟨_, y2⟩ := y1
        exact ⟨[], ⟨rfl, y2⟩, rfl⟩
      | i + 1 => simp [FS.of] at ho
    · match i with
      | 0 =>
        have : o = .glob g gvs := by simpa [FS.of] using ho.symm
        subst this
        trivial
      | i + 1 => simp [FS.of] at ho
    · simp at hb
    · simp at hb
  refine (hp.2.2 w fr1 pi1 (fun _ => []) vals (by rw [hl.1]; exact hlen) hr1).mono fun e w' hq => ?_
  obtain ⟨v, fr', pi', own', rfl, k1, k2⟩ := hq
  have hkept : ∀ b, b < w.heap.size → w'.heap[b]? = w.heap[b]? ∧ fr' b = fr1 b := fun b hb => k2.step.kept b hb (fun ⟨r, hr⟩ => by simp at hr)
  have st : Step w w' fr (fun b => if b < w.heap.size then fr b else fr' b) (fun _ => False) :=
    ⟨k2.step.os, k2.step.tape, k2.step.output, k2.step.size, fun b hb _ => ⟨(hkept b hb).1, if_pos hb⟩, fun b _ hx => hx.elim⟩
  have h0 := k1.slot 0
  have e0 : (FS.of [ret] [.glob g gvs]).sl 0 = ret := rfl
  have e1 : (#[v] : Array Value).getD 0 Go.undef = v := rfl
  rw [e0, e1] at h0
  let own2 : Res → List Nat := fun r => match r with
    | .slot _ => []
    | .box i => own (.box i)
  have hsub : ∀ r b, b ∈ own2 r → b ∈ own r := fun r b hb => by
    cases r with
    | slot i => simp [own2] at hb
    | box i => exact hb
  refine ⟨v, (fun b => if b < w.heap.size then fr b else fr' b), pi, own2, rfl, ⟨fun i => ?_, fun i => ?_, fun i o ho => ?_, fun i o ho => ?_, fun i hi => hr.nobox i hi, fun r => ?_, fun r r' b hb hb' => hr.dj r r' b (hsub r b hb) (hsub r' b hb'), fun r b hb => Nat.lt_of_lt_of_le (hr.live r b (hsub r b hb)) st.size⟩, ⟨st.mono (fun _ _ hx => hx.elim), fun r b hb => .inl ⟨r, hsub r b hb⟩, fun _ _ => rfl⟩⟩
  · cases i with
    | zero => exact h0.flat hf
    | succ n => exact .undef _
  · cases i with
    | zero =>
      show NP _ ret
      cases ret <;> first | (simp [AV.flat] at hf; done) | constructor
    | succ n => exact .undef
  · obtain ⟨O, y1, y2⟩ := hr.box i o ho
    exact ⟨O, y1.mono st (ok := (FS.of args (.glob g gvs :: h)).has) (fun _ _ => rfl) (hr.boxnp i o ho) (fun x hx => hr.live (.box i) x (by rw [y2]; exact hx)) (fun _ _ hx => hx), y2⟩
  · exact (hr.boxnp i o ho).mono fun _ hx => hx
  · cases r with
    | slot i => exact .nil
    | box i => exact hr.nd _

end Go.Proofs.YtjbgdmebpnfpnaaDoor.V

/- A small logic of values over the model: a contract's arguments told less of, deep within. -/
namespace Go.Proofs.YtjbgdmebpnfpnaaDoor.V

theorem WkFL.getD {B : Nat → Option (Nat × List (List AV))} : ∀ {xs ys : List AV}, WkFL B xs ys → ∀ i, WkF B (xs.getD i .undef) (ys.getD i .undef)
  | _, _, .nil, _ => .wk _ _ (.refl _)
  | _, _, .cons _ _ _ _ h1 _, 0 => h1
  | _, _, .cons _ _ _ _ _ h2, i + 1 => by simpa using WkFL.getD h2 i

theorem PCallN.letArgs {P : Program} {f : Nat} {args args' : List AV} {ret : AV} (hw : WkFL (fun _ => none) args args') (hn : ∀ a, a ∈ args → NP (fun _ => False) a) (h : PCallN P f args' ret) : PCallN P f args ret := by
  refine ⟨hn, h.2.1, h.2.2.1, fun w fr pi own vals hl hr => ?_⟩
  obtain ⟨fr2, own2, q1, q2⟩ := hr.shift (s' := FS.of args' []) (fun _ => none) (fun i => hw.getD i) (fun i sz xs h => by cases h) (fun i _ => by simp [FS.of]) (fun i o ho => by simp [FS.of] at ho) (fun i ⟨o, ho⟩ => by simp [FS.of] at ho)
  refine (h.2.2.2 w fr2 pi own2 vals (by rw [hl, hw.length]) q1).mono fun e w' hp => ?_
  obtain ⟨v, fr', pi', own', rfl, k1, k2⟩ := hp
  exact ⟨v, fr', pi', own', rfl, k1, Ext.trans ⟨q2.step, q2.fresh, fun i hi => absurd hi (Nat.not_lt_zero i)⟩ k2 (fun i hi => hi)⟩

end Go.Proofs.YtjbgdmebpnfpnaaDoor.V

/- A small logic of values over the model: a function's result out of a box: what the box owned is the result's own. -/
namespace Go.Proofs.YtjbgdmebpnfpnaaDoor.V

/-- What stands in a box, handed on altogether. -/
theorem mv_result {P : Program} {w : World} {fr pi : Nat → Nat} {own : Res → List Nat} {s : FS} {tm : Array Value} (h : Rel w fr pi own s tm) {i off : Nat} {cs : List AV} (hb : s.bx i = some (.cells cs)) {t : TypeId} {g : Option Nat} (hg : aggOf P t = some g) {r : AV × List AV} (hm : mvCells cs off g = some r) :
    ∃ v O, (loadVar t ⟨pi i, off, none⟩).run P w = .ok v w ∧ Rep w fr pi r.1 v O ∧ NP s.has r.1 ∧ O.Nodup ∧ ∀ b, b ∈ O → b ∈ own (.box i) := by
  have hnp0 : ∀ a, a ∈ cs → NP s.has a := h.boxnp i _ hb
  cases g with
  | none =>
    simp only [mvCells] at hm
    obtain ⟨c, hc, e⟩ := Option.map_eq_some_iff.1 hm
    cases e
    have hlt : off < cs.length := by
      rcases Nat.lt_or_ge off cs.length with h' | h'
      · exact h'
      · simp [List.getElem?_eq_none h'] at hc
    have hone : (cs.drop off).take 1 = [c] := by
      rw [List.getElem?_eq_getElem hlt] at hc
      rw [List.drop_eq_getElem_cons hlt, Option.some.inj hc]
      rfl
    obtain ⟨O2, us, own1, r1, r2, r3, r4, r5, _⟩ := h.moveOut hb (off := off) (n := 1) (by omega)
    rw [hone] at r1
    obtain ⟨v, rfl⟩ : ∃ v, us = [v] := by
      match us, r2 with
      | [v], _ => exact ⟨v, rfl⟩
    have hrep : Rep w fr pi c v O2 := by
      cases r1 with
      | cons _ _ O' _ _ O'' g1 g2 =>
        cases g2
        simpa using g1
    exact ⟨v, O2, (run_loadVar_V hg (vs := [v]) r3).2 v rfl rfl, hrep, hnp0 _ (List.mem_of_getElem? hc), r4, r5⟩
  | some n =>
    simp only [mvCells] at hm
    split at hm <;> try (cases hm; done)
    rename_i hle
    cases hm
    obtain ⟨O2, us, own1, r1, r2, r3, r4, r5, _⟩ := h.moveOut hb hle
    exact ⟨_, O2, (run_loadVar_V hg (vs := us) r3).1 n rfl r2, .agg _ _ _ r1, .agg _ (fun a ha => hnp0 a (List.mem_of_mem_drop (List.mem_of_mem_take ha))), r4, r5⟩

/-- From a body to a contract. -/
theorem PCall.ofMv {P : Program} {L : Nat → Bool} {f : Nat} {fn : Func} {c : Code} {vc : VC} {args : List AV} {ret : AV} {t : Nat} {g : Option Nat} (hc0 : callable P f = true) (hf : P.funcs[f]? = some fn) (hb : fn.body = some c)
    (hc : comp P fn.ntmps c = some vc) (hr : resRV P fn.results.toList = some [.cell t g]) (hargs : args.length ≤ fn.ntmps) (hnp : NP (fun _ => False) ret)
    (hw : Vwp P L fn.ntmps 0 vc (fun x S' => (x = .normal ∨ x = .ret) ∧ ∃ i off cs r, S'.t.getD t .undef = .ptr (some (i, off)) ∧ S'.h[i]? = some (.cells cs) ∧ mvCells cs off g = some r ∧ r.1 = ret) ⟨args ++ List.replicate (fn.ntmps - args.length) .undef, []⟩) : PCall P f args ret := by
  refine ⟨known_of hc0, Nat.le_refl _, fun w fr pi own vals hvl hrel => Runs.of hc0 ?_⟩
  have hN : (args ++ List.replicate (fn.ntmps - args.length) AV.undef).length = fn.ntmps := by simp; omega
  have hsz : (vals.toArray ++ Array.replicate (fn.ntmps - vals.toArray.size) Go.undef).size = fn.ntmps := by simp; omega
  have hfs : St.fs ⟨args ++ List.replicate (fn.ntmps - args.length) .undef, []⟩ = FS.of args [] := by
    refine FS.ext' (fun i => ?_) (fun i => rfl)
    show (args ++ List.replicate (fn.ntmps - args.length) AV.undef).getD i .undef = args.getD i .undef
    rw [List.getD_eq_getElem?_getD, List.getD_eq_getElem?_getD]
    rcases Nat.lt_or_ge i args.length with hi | hi
    · rw [List.getElem?_append_left hi]
    · rw [List.getElem?_append_right hi, List.getElem?_eq_none hi, List.getElem?_replicate]
      split <;> rfl
  have htm : ∀ i, (vals.toArray ++ Array.replicate (fn.ntmps - vals.toArray.size) Go.undef).getD i Go.undef = vals.toArray.getD i Go.undef := by
    intro i
    rw [Array.getD_eq_getD_getElem?, Array.getD_eq_getD_getElem?]
    rcases Nat.lt_or_ge i vals.toArray.size with hi | hi
    · rw [Array.getElem?_append_left hi]
    · rw [Array.getElem?_append_right hi, Array.getElem?_eq_none hi, Array.getElem?_replicate]
      split <;> rfl
  have hrel' : Rel w fr pi own (St.fs ⟨args ++ List.replicate (fn.ntmps - args.length) .undef, []⟩) (vals.toArray ++ Array.replicate (fn.ntmps - vals.toArray.size) Go.undef) := by
    rw [hfs]
    exact ⟨fun i => by rw [htm]; exact hrel.slot i, hrel.slotnp, hrel.box, hrel.boxnp, hrel.nobox, hrel.nd, hrel.dj, hrel.live⟩
  obtain ⟨ty, hres, hg⟩ : ∃ ty, fn.results.toList = [.cell t ty] ∧ aggOf P ty = some g := by
    match hl : fn.results.toList with
    | [] => rw [hl] at hr; simp [resRV] at hr
    | .tmp u :: l => rw [hl] at hr; simp [resRV] at hr
    | .cell u ty :: l =>
      rw [hl] at hr
      simp only [resRV, Option.bind_eq_some_iff, Option.map_eq_some_iff] at hr
      obtain ⟨g', h1, l', h2, h3⟩ := hr
      cases h3
      refine ⟨ty, ?_, h1⟩
      cases l with
      | nil => rfl
      | cons x l =>
        exfalso
        cases x with
        | tmp u => simp [resRV] at h2
        | cell u ty =>
          simp only [resRV, Option.bind_eq_some_iff, Option.map_eq_some_iff] at h2
          obtain ⟨_, _, _, _, h4⟩ := h2
          cases h4
  refine calls_of_wp hf hb ?_
  refine wp_mono (hw hN (Nat.zero_le _) c hc _ w fr pi own hrel' hsz rfl) fun e a' w' hh => ?_
  obtain ⟨x, S', fr', pi', own', rfl, ⟨k2, i, off, cs, r, m1, m2, m3, rfl⟩, k3, k4, k5, k6, k7, k8⟩ := hh
  obtain ⟨v, O, r1, r2, r3, r4, r5⟩ := mv_result (P := P) k5 (show S'.fs.bx i = some (.cells cs) from m2) hg m3
  have hv : a'.tmps.getD t Go.undef = .pointer (some ⟨pi' i, off, none⟩) := by
    have h1 := k5.slot t
    have e : S'.fs.sl t = .ptr (some (i, off)) := m1
    rw [e] at h1
    exact h1.ptr_inv.1
  have hm : (fn.results.mapM fun (rv : ResultVar) => (match rv with
      | .tmp t => pure (a'.tmps.getD t Go.undef)
      | .cell a t => do loadVar t (← asAddr (a'.tmps.getD a Go.undef)) : Sem Value)).run P w' = .ok #[v] w' := by
    have k1 : ((do loadVar ty (← asAddr (a'.tmps.getD t Go.undef)) : Sem Value)).run P w' = .ok v w' := by simp [hv, asAddr, r1]
    rw [Array.mapM_eq_mapM_toList, hres]
    simp only [Sem.run_map, List.mapM_cons, List.mapM_nil, Sem.run_bind, Result.andThen_ok, Sem.run_pure]
    simp only [Sem.run_bind] at k1
    rw [k1]
    rfl
  have hrun : (results fn a'.tmps).run P w' = .ok v w' := by
    unfold results
    rw [Sem.run_bind]
    exact (congrArg (fun q => Result.andThen q fun (a : Array Value) w' => Sem.run P (pure (if h : a.size = 1 then a[0] else Value.tuple a)) w') hm).trans rfl
  let own2 : Res → List Nat := fun r => match r with
    | .slot 0 => O
    | .slot _ => []
    | .box _ => []
  have hsub : ∀ r b, b ∈ own2 r → b ∈ own' (.box i) := by
    intro r b hb
    cases r with
    | slot j =>
      cases j with
      | zero => exact r5 b hb
      | succ j => simp [own2] at hb
    | box j => simp [own2] at hb
  have key : a'.defers = [] ∧ ∃ v, (results fn a'.tmps).run P w' = .ok v w' ∧ ∃ v_1 fr' pi' own', Ending.returned v = .returned v_1 ∧ Rel w' fr' pi' own' (FS.of [r.1] []) #[v_1] ∧ Ext w w' fr fr' pi pi' own own' (fun i => i < ([] : List HObj).length) := by
    refine ⟨k7, v, hrun, v, fr', pi', own2, rfl, ⟨fun j => ?_, fun j => ?_, fun j o ho => ?_, fun j o ho => ?_, fun j hj => rfl, fun q => ?_, fun q q' b x1 x2 => ?_, fun q b hb => ?_⟩, ?_⟩
    · cases j with
      | zero => exact r2
      | succ j =>
        have : (FS.of [r.1] []).sl (j + 1) = .undef := by simp [FS.of, List.getD_eq_getElem?_getD]
        rw [this]
        exact .undef _
    · cases j with
      | zero => exact hnp.mono (fun _ h => h.elim)
      | succ j =>
        have : (FS.of [r.1] []).sl (j + 1) = .undef := by simp [FS.of, List.getD_eq_getElem?_getD]
        rw [this]
        exact .undef
    · simp [FS.of] at ho
    · simp [FS.of] at ho
    · cases q with
      | slot j => cases j with
        | zero => exact r4
        | succ j => simp [own2]
      | box j => simp [own2]
    · cases q with
      | slot j => cases j with
        | succ j => simp [own2] at x1
        | zero => cases q' with
          | slot j => cases j with
            | zero => rfl
            | succ j => simp [own2] at x2
          | box j => simp [own2] at x2
      | box j => simp [own2] at x1
    · exact k5.live _ b (hsub q b hb)
    · exact ⟨k8.step, fun q b hb => k8.fresh _ b (hsub q b hb), k8.pi⟩
  rcases k2 with rfl | rfl
  · exact key
  · exact key

/-- Where a function comes to its end with this in its result's box. -/
def retM (t : Nat) (g : Option Nat) (ret : AV) : VE → Sy → Prop
  | .exit _, _ => False
  | .normal, σ => match σ.get t with
    | .ptr (some (i, off)) => match σ.h[i]? with
      | some (.cells cs) => onSome (mvCells cs off g) fun r => r.1 = ret
      | _ => False
    | _ => False
  | .ret, σ => match σ.get t with
    | .ptr (some (i, off)) => match σ.h[i]? with
      | some (.cells cs) => onSome (mvCells cs off g) fun r => r.1 = ret
      | _ => False
    | _ => False

theorem retM_inv {N : Nat} {t : Nat} {g : Option Nat} {ret : AV} {σ : Sy} (hok : σ.ok N) (h : (match σ.get t with
    | .ptr (some (i, off)) => match σ.h[i]? with
      | some (.cells cs) => onSome (mvCells cs off g) fun r => r.1 = ret
      | _ => False
    | _ => False)) : ∃ i off cs r, (σ.st N).t.getD t .undef = .ptr (some (i, off)) ∧ (σ.st N).h[i]? = some (.cells cs) ∧ mvCells cs off g = some r ∧ r.1 = ret := by
  split at h <;> try (exact h.elim)
  rename_i i off h1
  split at h <;> try (exact h.elim)
  rename_i cs h2
  obtain ⟨r, h3, h4⟩ := onSome_inv h
  exact ⟨i, off, cs, r, by rw [Sy.st_getD hok]; exact h1, h2, h3, h4⟩

theorem PCallN.ofMv {P : Program} (L : Nat → Bool) {f N : Nat} {vc : VC} {t : Nat} {g : Option Nat} (hf : fnC P f = some (N, vc, [.cell t g])) {args : List AV} {ret : AV} (ha : args.length ≤ N) (hargs : ∀ a, a ∈ args → NP (fun _ => False) a) (hret : NP (fun _ => False) ret)
    (hw : wpV P L N 0 vc (retM t g ret) ⟨args, [], []⟩) : PCallN P f args ret := by
  obtain ⟨fn, c, h1, h2, h3, rfl, h4, h5, h6⟩ := fnC_inv hf
  refine ⟨hargs, PCall.ofMv (L := L) h1 h2 h3 h4 h5 ha hret ?_⟩
  have := wpV_sound hw (args_ok ha)
  rw [args_st ha] at this
  refine this.mono fun x S hx => ?_
  obtain ⟨σ', rfl, k1, k2⟩ := hx
  cases x with
  | exit i => exact k2.elim
  | normal => exact ⟨.inl rfl, retM_inv k1 k2⟩
  | ret => exact ⟨.inr rfl, retM_inv k1 k2⟩

end Go.Proofs.YtjbgdmebpnfpnaaDoor.V

/- A batch is read as it was written: the law RecordBack. -/
namespace Go.Proofs.YtjbgdmebpnfpnaaDoor.V
open Go.IntWalk Go.Lib

theorem bat_enc {acts : List Act} {ws : List Wr} (hb : Bat acts ws) (N : Int) : (encB N ws).length ≤ 10 + acts.length * 8 := by
  rw [encB_len]
  have h1 := flat_len ws 8 fun w hw => by
    have := hb.small w hw
    rw [encW_len]
    cases w.gone <;> simp only <;> omega
  have h2 := hb.len
  have h3 : ws.length * 8 ≤ acts.length * 8 := Nat.mul_le_mul_right _ h2
  omega

theorem recordBackN (nl : Option Bool) (own : Bool) (n : Int) (hn : n ≤ 9223372036854775807) (acts : List Act) (hl : acts.length ≤ 9223372036854775807) : VCall Tryd.prog 8 [.int .i64 n, .sl 3 nl own (acts.map Act.c)] [G0] (.bool true) [G0] := by
  refine VCall.ofS (tr []) f8 (Nat.le_of_ble_eq_true rfl) (Nat.le_refl _) (.bool _) hob_G0 ?_
  refine call_h shortN ?_
  repeat (first | refine guard_t rfl ?_ | refine guard_f (by decide) ?_)
  by_cases h1 : acts.length ≤ 40
  · have e1 : decide ((((acts.map Act.c).length : Nat) : Int) > 40) = false := decide_eq_false (by rw [List.length_map]; omega)
    refine guard_t e1 ?_
    rw [e1]
    repeat (first | refine guard_t rfl ?_ | refine guard_f (by decide) ?_)
    by_cases h2 : acts = []
    · subst h2
      refine cond_t rfl ?_
      refine call_h shortN ?_
      exact ⟨⟨_, rfl⟩, rfl⟩
    · have hpos : 0 < acts.length := List.length_pos_iff.2 h2
      have hne := h2
      refine cond_f (by rw [List.length_map, beq_eq_false_iff_ne]; omega) ?_
      obtain ⟨ws, hb, hc⟩ := batchN acts (by omega)
      have hE := bat_enc hb
      have hwl := hb.len
      by_cases h3 : n < 1
      · refine cond_t (decide_eq_true h3) ?_
        refine call_p (hc 1 _ _) ?_
        refine call_p (recEncN none false 1 ws (by omega) (by have := hE 1; omega)) ?_
        have hr := hb.right 1 (Int.le_refl _) hne (by omega)
        have hd := decG none false (encB 1 ws) (by have := hE 1; omega) [bxS 1 ws]
        rw [gBatch_enc hr (by decide)] at hd
        refine call_h hd ?_
        have hr2 := rightN 1 ws (by omega)
        rw [hr] at hr2
        refine call_p hr2 ?_
        repeat (first | refine guard_t rfl ?_ | refine guard_f (by decide) ?_)
        refine call_p (encN none false 1 ws (by omega) (by have := hE 1; omega)) ?_
        repeat (first | refine guard_t rfl ?_ | refine guard_f (by decide) ?_)
        have hby := bytesN none none false true (encB 1 ws) (encB 1 ws) (by have := hE 1; omega)
        rw [decide_eq_true (rfl : encB 1 ws = encB 1 ws)] at hby
        refine call_p hby ?_
        repeat (first | refine guard_t rfl ?_ | refine guard_f (by decide) ?_)
        have hs1 := recSameN none none false false 1 1 ws ws (by omega)
        have hs2 := rSameN none none false false 1 1 ws ws (by omega) (fun w hw => by have := (hb.small w hw).2; omega)
        rw [decide_eq_true (⟨rfl, rfl⟩ : (1 : Int) = 1 ∧ ws = ws)] at hs1 hs2
        refine call_p hs1 ?_
        repeat (first | refine guard_t rfl ?_ | refine guard_f (by decide) ?_)
        refine call_p hs2 ?_
        exact ⟨⟨_, rfl⟩, rfl⟩
      · refine cond_f (decide_eq_false h3) ?_
        refine call_p (hc n _ _) ?_
        refine call_p (recEncN none false n ws (by omega) (by have := hE n; omega)) ?_
        have hr := hb.right n (by omega) hne (by omega)
        have hd := decG none false (encB n ws) (by have := hE n; omega) [bxS n ws]
        rw [gBatch_enc hr hn] at hd
        refine call_h hd ?_
        have hr2 := rightN n ws (by omega)
        rw [hr] at hr2
        refine call_p hr2 ?_
        repeat (first | refine guard_t rfl ?_ | refine guard_f (by decide) ?_)
        refine call_p (encN none false n ws (by omega) (by have := hE n; omega)) ?_
        repeat (first | refine guard_t rfl ?_ | refine guard_f (by decide) ?_)
        have hby := bytesN none none false true (encB n ws) (encB n ws) (by have := hE n; omega)
        rw [decide_eq_true (rfl : encB n ws = encB n ws)] at hby
        refine call_p hby ?_
        repeat (first | refine guard_t rfl ?_ | refine guard_f (by decide) ?_)
        have hs1 := recSameN none none false false n n ws ws (by omega)
        have hs2 := rSameN none none false false n n ws ws (by omega) (fun w hw => by have := (hb.small w hw).2; omega)
        rw [decide_eq_true (⟨rfl, rfl⟩ : (n : Int) = n ∧ ws = ws)] at hs1 hs2
        refine call_p hs1 ?_
        repeat (first | refine guard_t rfl ?_ | refine guard_f (by decide) ?_)
        refine call_p hs2 ?_
        exact ⟨⟨_, rfl⟩, rfl⟩
  · have e1 : decide ((((acts.map Act.c).length : Nat) : Int) > 40) = true := decide_eq_true (by rw [List.length_map]; omega)
    refine guard_f (by rw [e1]; decide) ?_
    rw [e1]
    repeat (first | refine guard_t rfl ?_ | refine guard_f (by decide) ?_)
    refine cond_t rfl ?_
    refine call_h shortN ?_
    exact ⟨⟨_, rfl⟩, rfl⟩

end Go.Proofs.YtjbgdmebpnfpnaaDoor.V

/- A batch's bytes turned, cut, or with more behind: the law RecordTurned. -/
namespace Go.Proofs.YtjbgdmebpnfpnaaDoor.V
open Go.IntWalk Go.Lib

theorem wkf_bsl {B : Nat → Option (Nat × List (List AV))} {sz id off len : Nat} {xs ys : List (List AV)} (hB : B id = some (sz, xs)) (hle : off + len ≤ xs.length) (h : (xs.drop off).take len = ys) : WkF B (.bsl sz id off len) (.sl sz none false ys) :=
  .bsl sz id off len xs ys none hB hle (by simp) (by rw [h]) (by rw [h]; exact WkFL.of _)

theorem bs_set (q : List UInt8) (k : Nat) (b : UInt8) : (bs q).set k [.int .u8 b.toNat] = bs (q.set k b) := by
  unfold bs
  rw [List.map_set]

/-- reads at a slice that lies in a box. -/
theorem readsB (q : List UInt8) (hq : q.length ≤ 100000) (n : Nat) (hn : n = q.length) : VCall Tryd.prog 10 [.bsl 1 1 0 n] [G0, .arr 1 (bs q)] (.bool true) [G0, .arr 1 (bs q)] := by
  subst hn
  refine VCall.lendG (h' := [.ro []]) (l := [(0, .sl 1 none false (bs q))]) (args' := [.sl 1 none false (bs q)]) (readsN none false q hq) (np_cons (np_bs _) np_nil) rfl rfl ?_ ⟨rfl, fun i => ?_⟩
  · refine ShiftS.fz (fzOf [(1, 1, bs q)]) ⟨wkf_bsl rfl (by rw [bs_len]; omega) (by rw [List.drop_zero, List.take_of_length_le (by rw [bs_len]; exact Nat.le_refl _)]), trivial⟩ (.same 0 _ _ _ rfl (.fz 1 _ _ _ _ rfl (.nil 2))) fun i sz xs h => ?_
    obtain ⟨rfl, rfl, rfl⟩ := fzOf_one h
    rfl
  · match i with
    | 0 => rfl
    | i + 1 => rfl

theorem recordTurnedT (nl nl' : Option Bool) (own own' : Bool) (acts : List Act) (hl : acts.length ≤ 9223372036854775807) (at_ : Nat) (hat : at_ < 65536) (b : UInt8) (more : List UInt8) (hm : more.length ≤ 9223372036854775807) :
    VCall Tryd.prog 4 [.sl 3 nl own (acts.map Act.c), .int .u16 at_, .int .u8 b.toNat, .bool true, .sl 1 nl' own' (bs more)] [G0] (.bool true) [G0] := by
  refine VCall.ofS (tr []) f4 (Nat.le_of_ble_eq_true rfl) (Nat.le_refl _) (.bool _) hob_G0 ?_
  refine call_h shortN ?_
  repeat (first | refine guard_t rfl ?_ | refine guard_f (by decide) ?_)
  by_cases h1 : acts.length ≤ 30
  case neg =>
    have e1 : decide ((((acts.map Act.c).length : Nat) : Int) > 30) = true := decide_eq_true (by rw [List.length_map]; omega)
    refine guard_f (by rw [e1]; decide) ?_
    rw [e1]
    repeat (first | refine guard_t rfl ?_ | refine guard_f (by decide) ?_)
    refine cond_t rfl ?_
    refine call_h shortN ?_
    exact ⟨⟨_, rfl⟩, rfl⟩
  have e1 : decide ((((acts.map Act.c).length : Nat) : Int) > 30) = false := decide_eq_false (by rw [List.length_map]; omega)
  refine guard_t e1 ?_
  rw [e1]
  repeat (first | refine guard_t rfl ?_ | refine guard_f (by decide) ?_)
  by_cases h2 : more.length ≤ 20
  case neg =>
    have e2 : decide ((((bs more).length : Nat) : Int) > 20) = true := decide_eq_true (by rw [bs_len]; omega)
    refine guard_f (by rw [e2]; decide) ?_
    rw [e2]
    repeat (first | refine guard_t rfl ?_ | refine guard_f (by decide) ?_)
    refine cond_t rfl ?_
    refine call_h shortN ?_
    exact ⟨⟨_, rfl⟩, rfl⟩
  have e2 : decide ((((bs more).length : Nat) : Int) > 20) = false := decide_eq_false (by rw [bs_len]; omega)
  refine guard_t e2 ?_
  rw [e2]
  repeat (first | refine guard_t rfl ?_ | refine guard_f (by decide) ?_)
  by_cases h3 : acts = []
  · subst h3
    refine cond_t rfl ?_
    refine call_h shortN ?_
    exact ⟨⟨_, rfl⟩, rfl⟩
  have hpos : 0 < acts.length := List.length_pos_iff.2 h3
  refine cond_f (by rw [List.length_map, beq_eq_false_iff_ne]; omega) ?_
  obtain ⟨ws, hb, hc⟩ := batchN acts (by omega)
  have hE := bat_enc hb 3
  have hwl := hb.len
  refine call_p (hc 3 _ _) ?_
  refine call_p (encN none false 3 ws (by omega) (by omega)) ?_
  have hg := gBatch_enc (hb.right 3 (by decide) h3 (by omega)) (by decide)
  have hp0 : 0 < (encB 3 ws).length := by rw [encB_len]; omega
  have hpl : (encB 3 ws).length ≤ 300 := by omega
  generalize encB 3 ws = p at hg hp0 hpl ⊢
  refine And.intro (by rw [bs_len]; omega) ?_
  have hw16 : IntKind.i64.wrap (at_ : Int) = at_ := i64_in _ (by omega)
  have hmod : (IntKind.i64.wrap (at_ : Int)).tmod (((bs p).length : Nat) : Int) = ((at_ % p.length : Nat) : Int) := by
    rw [hw16, bs_len, Int.tmod_eq_emod_of_nonneg (by omega)]
    omega
  have hlt : at_ % p.length < p.length := Nat.mod_lt _ hp0
  rw [hmod]
  generalize at_ % p.length = k at hlt ⊢
  refine call_p (joinN none nl' false false p more (by omega)) ?_
  refine cond_t rfl ?_
  have hq : ((bs (p ++ more)).drop (0 : Int).toNat).take ((k : Int).toNat - (0 : Int).toNat) = bs (p.take k) := by
    rw [bs_drop, bs_take]
    congr 1
    simp only [Int.toNat_natCast, Int.toNat_zero, List.drop_zero, Nat.sub_zero]
    rw [List.take_append_of_le_length (by omega)]
  refine And.intro (.inl rfl) (And.intro ⟨Int.le_refl _, Int.natCast_nonneg _, by rw [bs_len, List.length_append]; omega⟩ ?_)
  obtain ⟨bb, hbb, hd⟩ := gBatch_cut hg hlt
  have hlk : (p.take k).length ≤ 1000 := by rw [List.length_take]; omega
  have hdec := decN none false (p.take k) (by omega)
  rw [hd] at hdec
  refine call_h (by rw [hq]; exact hdec) ?_
  repeat (first | refine guard_t rfl ?_ | refine guard_f (by decide) ?_)
  have eb : decide ((bb : Int) ≤ (k : Int)) = true := decide_eq_true (by omega)
  refine guard_t eb ?_
  rw [eb]
  repeat (first | refine guard_t rfl ?_ | refine guard_f (by decide) ?_)
  refine And.intro (.inl rfl) (And.intro ⟨Int.le_refl _, Int.natCast_nonneg _, by rw [bs_len, List.length_append]; omega⟩ ?_)
  repeat (first | refine guard_t rfl ?_ | refine guard_f (by decide) ?_)
  refine call_h (by rw [hq]; exact readsG none false (p.take k) (by omega) _) ?_
  exact ⟨⟨_, rfl⟩, rfl⟩

theorem recordTurnedF (nl nl' : Option Bool) (own own' : Bool) (acts : List Act) (hl : acts.length ≤ 9223372036854775807) (at_ : Nat) (hat : at_ < 65536) (b : UInt8) (more : List UInt8) (hm : more.length ≤ 9223372036854775807) :
    VCall Tryd.prog 4 [.sl 3 nl own (acts.map Act.c), .int .u16 at_, .int .u8 b.toNat, .bool false, .sl 1 nl' own' (bs more)] [G0] (.bool true) [G0] := by
  refine VCall.ofS (tr [2000045]) f4 (Nat.le_of_ble_eq_true rfl) (Nat.le_refl _) (.bool _) hob_G0 ?_
  refine call_h shortN ?_
  repeat (first | refine guard_t rfl ?_ | refine guard_f (by decide) ?_)
  by_cases h1 : acts.length ≤ 30
  case neg =>
    have e1 : decide ((((acts.map Act.c).length : Nat) : Int) > 30) = true := decide_eq_true (by rw [List.length_map]; omega)
    refine guard_f (by rw [e1]; decide) ?_
    rw [e1]
    repeat (first | refine guard_t rfl ?_ | refine guard_f (by decide) ?_)
    refine cond_t rfl ?_
    refine call_h shortN ?_
    exact ⟨⟨_, rfl⟩, rfl⟩
  have e1 : decide ((((acts.map Act.c).length : Nat) : Int) > 30) = false := decide_eq_false (by rw [List.length_map]; omega)
  refine guard_t e1 ?_
  rw [e1]
  repeat (first | refine guard_t rfl ?_ | refine guard_f (by decide) ?_)
  by_cases h2 : more.length ≤ 20
  case neg =>
    have e2 : decide ((((bs more).length : Nat) : Int) > 20) = true := decide_eq_true (by rw [bs_len]; omega)
    refine guard_f (by rw [e2]; decide) ?_
    rw [e2]
    repeat (first | refine guard_t rfl ?_ | refine guard_f (by decide) ?_)
    refine cond_t rfl ?_
    refine call_h shortN ?_
    exact ⟨⟨_, rfl⟩, rfl⟩
  have e2 : decide ((((bs more).length : Nat) : Int) > 20) = false := decide_eq_false (by rw [bs_len]; omega)
  refine guard_t e2 ?_
  rw [e2]
  repeat (first | refine guard_t rfl ?_ | refine guard_f (by decide) ?_)
  by_cases h3 : acts = []
  · subst h3
    refine cond_t rfl ?_
    refine call_h shortN ?_
    exact ⟨⟨_, rfl⟩, rfl⟩
  have hpos : 0 < acts.length := List.length_pos_iff.2 h3
  refine cond_f (by rw [List.length_map, beq_eq_false_iff_ne]; omega) ?_
  obtain ⟨ws, hb, hc⟩ := batchN acts (by omega)
  have hE := bat_enc hb 3
  have hwl := hb.len
  refine call_p (hc 3 _ _) ?_
  refine call_p (encN none false 3 ws (by omega) (by omega)) ?_
  have hg := gBatch_enc (hb.right 3 (by decide) h3 (by omega)) (by decide)
  have hp0 : 0 < (encB 3 ws).length := by rw [encB_len]; omega
  have hpl : (encB 3 ws).length ≤ 300 := by omega
  generalize encB 3 ws = p at hg hp0 hpl ⊢
  refine And.intro (by rw [bs_len]; omega) ?_
  have hw16 : IntKind.i64.wrap (at_ : Int) = at_ := i64_in _ (by omega)
  have hmod : (IntKind.i64.wrap (at_ : Int)).tmod (((bs p).length : Nat) : Int) = ((at_ % p.length : Nat) : Int) := by
    rw [hw16, bs_len, Int.tmod_eq_emod_of_nonneg (by omega)]
    omega
  have hlt : at_ % p.length < p.length := Nat.mod_lt _ hp0
  rw [hmod]
  generalize at_ % p.length = k at hlt ⊢
  refine call_p ((joinN none nl' false false p more (by omega)).thaw rfl (by rw [bs_len, List.length_append]; omega) (bs_flat _)) ?_
  refine cond_f rfl ?_
  refine And.intro rfl (And.intro ⟨Int.natCast_nonneg _, by rw [bs_len, List.length_append]; omega⟩ ?_)
  have hkl : k < (p ++ more).length := by rw [List.length_append]; omega
  refine Exists.intro (0 + (k : Int).toNat) (Exists.intro 0 (Exists.intro [.int .u8 (((p ++ more)[k]).toNat : Int)] (And.intro ⟨rfl, by decide, by decide⟩ (And.intro ?_ ?_))))
  · rw [Nat.zero_add, Int.toNat_natCast]; exact bs_get hkl
  have hq : (bs (p ++ more)).set (0 + (k : Int).toNat) (splice [AV.int .u8 (((p ++ more)[k]).toNat : Int)] 0 (AV.int .u8 (b.toNat : Int)).strip.cells) = bs ((p ++ more).set k b) := by
    rw [Nat.zero_add, Int.toNat_natCast]
    show (bs (p ++ more)).set k [AV.int .u8 (b.toNat : Int)] = _
    rw [bs_set]
  have hrd := readsB ((p ++ more).set k b) (by rw [List.length_set, List.length_append]; omega) (bs (p ++ more)).length (by rw [bs_len, List.length_set])
  rw [← hq] at hrd
  refine call_h hrd ?_
  exact ⟨⟨_, rfl⟩, rfl⟩

theorem recordTurnedN (nl nl' : Option Bool) (own own' : Bool) (acts : List Act) (hl : acts.length ≤ 9223372036854775807) (at_ : Nat) (hat : at_ < 65536) (b : UInt8) (cut : Bool) (more : List UInt8) (hm : more.length ≤ 9223372036854775807) :
    VCall Tryd.prog 4 [.sl 3 nl own (acts.map Act.c), .int .u16 at_, .int .u8 b.toNat, .bool cut, .sl 1 nl' own' (bs more)] [G0] (.bool true) [G0] := by
  cases cut with
  | true => exact recordTurnedT nl nl' own own' acts hl at_ hat b more hm
  | false => exact recordTurnedF nl nl' own own' acts hl at_ hat b more hm

end Go.Proofs.YtjbgdmebpnfpnaaDoor.V

/- The reference's Right. -/
namespace Go.Proofs.YtjbgdmebpnfpnaaDoor.V
open Go.IntWalk Go.Lib

def rrAt (i : Nat) : List (Nat × AV) := [(1, .ptr (some (0, 0))), (3, .int .i64 i)]

/-- The last key of those. -/
def lastK (l : List Wr) (i : Nat) : List UInt8 := match i with
  | 0 => []
  | j + 1 => (l.getD j ⟨[], [], false⟩).key

theorem rrLoop (N : Int) (l : List Wr) (hl : l.length ≤ 1000000) (r0 : Bool) (R : VE → Sy → Prop) (hT : r0 = true → ∀ hb, R (.exit 0) ⟨[], [], hb⟩) (hF : r0 = false → ∀ hb, R .ret ⟨[], [(2, .bool false)], hb⟩) :
    ∀ (g i : Nat), i + g = l.length → r0 = fitsL (l.drop i) (lastK l i) → VloopS Tryd.prog (tr []) 74 0 c16b0 (exW 74 R) ⟨[], rrAt i, [bxS N l]⟩
  | 0, i, hg, he => by
    rw [List.drop_eq_nil_of_le (by omega)] at he
    refine VloopS.round ?_
    refine cond_f (by rw [List.length_map]; exact decide_eq_false (by omega)) ?_
    exact ex_w (hT he _) rfl trivial rfl
  | g + 1, i, hg, he => by
    have hlt : i < l.length := by omega
    have wi : IntKind.i64.wrap ((i : Int) + 1) = ((i + 1 : Nat) : Int) := by rw [i64_in _ (by omega)]; omega
    rw [List.drop_eq_getElem_cons hlt, fitsL] at he
    have hlk : lastK l (i + 1) = l[i].key := by
      show (l.getD i _).key = _
      rw [List.getD_eq_getElem?_getD, List.getElem?_eq_getElem hlt]; rfl
    have nx : fitsB l[i] (lastK l i) = true → VloopS Tryd.prog (tr []) 74 0 c16b0 (exW 74 R) ⟨[], rrAt (i + 1), [bxS N l]⟩ := fun hfb => rrLoop N l hl r0 R hT hF g (i + 1) (by omega) (by rw [he, hfb, Bool.true_and, hlk])
    have out : fitsB l[i] (lastK l i) = false → ∀ hb, R .ret ⟨[], [(2, .bool false)], hb⟩ := fun h => hF (by rw [he, h, Bool.false_and])
    refine VloopS.round ?_
    refine cond_t (by rw [List.length_map]; exact decide_eq_true (by omega)) ?_
    refine And.intro rfl (And.intro (Int.natCast_nonneg i) (Exists.intro l[i].c (And.intro (ws_get hlt) ?_)))
    generalize hw : l[i] = w at nx out
    obtain ⟨key, row, gone⟩ := w
    have fin : fitsB ⟨key, row, gone⟩ (lastK l i) = true → ∀ {σ : Sy} {e1 : HObj}, σ.get 1 = .ptr (some (0, 0)) → σ.get 3 = .int .i64 (IntKind.i64.wrap ((i : Int) + 1)) → σ.h = [bxS N l] ++ [e1] → VloopS Tryd.prog (tr []) 74 0 c16b0 (exW 74 R) σ := by
      intro hf σ e1 h1 h3 hh
      refine VloopS.weakBox (l := rrAt (i + 1)) (h := [bxS N l]) (ex := [e1]) rfl ⟨.eq h1, .eq (h3.trans (int_eq wi)), trivial⟩ hh (Nat.zero_le _) (fun q hq => ?_) (fun o ho => by rw [List.mem_singleton.1 ho]; exact bxS_np _ _) (nx hf)
      simp only [rrAt, List.mem_cons, List.not_mem_nil, or_false] at hq
      rcases hq with rfl | rfl
      · exact .ptr _ _ (by simp)
      · exact .int _ _
    clear nx
    by_cases h1 : key.length < 1
    · have e1 : decide (((st key).size : Int) < 1) = true := decide_eq_true (by rw [st_size]; omega)
      refine guard_f (by rw [e1]; decide) ?_
      rw [e1]
      repeat (first | refine guard_t rfl ?_ | refine guard_f (by decide) ?_)
      refine And.intro (by kernel_rfl) ?_
      refine cond_t rfl ?_
      exact ex_w (out (by unfold fitsB; rw [decide_eq_false (by rw [st_size]; simp only; omega)]; rfl) _) rfl ⟨.refl _, trivial⟩ rfl
    have e1 : decide (((st key).size : Int) < 1) = false := decide_eq_false (by rw [st_size]; omega)
    refine guard_t e1 ?_
    rw [e1]
    repeat (first | refine guard_t rfl ?_ | refine guard_f (by decide) ?_)
    have f1 : decide (((st key).size : Int) ≥ 1) = true := decide_eq_true (by rw [st_size]; omega)
    by_cases h2 : 4000 < key.length
    · have e2 : decide (((st key).size : Int) > 4000) = true := decide_eq_true (by rw [st_size]; omega)
      refine guard_f (by rw [e2]; decide) ?_
      rw [e2]
      repeat (first | refine guard_t rfl ?_ | refine guard_f (by decide) ?_)
      refine And.intro (by kernel_rfl) ?_
      refine cond_t rfl ?_
      exact ex_w (out (by unfold fitsB; rw [f1, decide_eq_false (show ¬ ((st key).size : Int) ≤ 4000 by rw [st_size]; omega)]; rfl) _) rfl ⟨.refl _, trivial⟩ rfl
    have e2 : decide (((st key).size : Int) > 4000) = false := decide_eq_false (by rw [st_size]; omega)
    refine guard_t e2 ?_
    rw [e2]
    repeat (first | refine guard_t rfl ?_ | refine guard_f (by decide) ?_)
    have f2 : decide (((st key).size : Int) ≤ 4000) = true := decide_eq_true (by rw [st_size]; omega)
    by_cases h3 : 4000 < row.length
    · have e3 : decide ((((bs row).length : Nat) : Int) > 4000) = true := decide_eq_true (by rw [bs_len]; omega)
      refine guard_f (by rw [e3]; decide) ?_
      rw [e3]
      repeat (first | refine guard_t rfl ?_ | refine guard_f (by decide) ?_)
      refine And.intro (by kernel_rfl) ?_
      refine cond_t rfl ?_
      exact ex_w (out (by unfold fitsB; rw [f1, f2, decide_eq_false (show ¬ (((bs row).length : Nat) : Int) ≤ 4000 by rw [bs_len]; omega)]; rfl) _) rfl ⟨.refl _, trivial⟩ rfl
    have e3 : decide ((((bs row).length : Nat) : Int) > 4000) = false := decide_eq_false (by rw [bs_len]; omega)
    refine guard_t e3 ?_
    rw [e3]
    repeat (first | refine guard_t rfl ?_ | refine guard_f (by decide) ?_)
    have f3 : decide ((((bs row).length : Nat) : Int) ≤ 4000) = true := decide_eq_true (by rw [bs_len]; omega)
    have ok : (gone = true → row = []) → sle key (lastK l i) = false → fitsB ⟨key, row, gone⟩ (lastK l i) = true := fun h5 h4 => by
      unfold fitsB
      rw [f1, f2, f3, h4]
      cases gone with
      | false => rfl
      | true => rw [h5 rfl]; rfl
    have bad : sle key (lastK l i) = true → fitsB ⟨key, row, gone⟩ (lastK l i) = false := fun h4 => by
      unfold fitsB
      rw [f1, f2, f3, h4]
      rfl
    cases gone with
    | false =>
      replace ok := ok (fun e => by cases e)
      refine guard_f (by show ¬ false = true; decide) ?_
      repeat (first | refine guard_t rfl ?_ | refine guard_f (by decide) ?_)
      -- the last key
      cases i with
      | zero =>
        refine guard_f (by decide) ?_
        repeat (first | refine guard_t rfl ?_ | refine guard_f (by decide) ?_)
        refine And.intro (by kernel_rfl) ?_
        refine cond_f rfl ?_
        exact fin (by
          refine ok ?_
          exact sle_nil (fun e => by rw [e] at h1; exact h1 (by decide))) rfl rfl rfl
      | succ j =>
        have hj : j < l.length := by omega
        have ej : decide (((j + 1 : Nat) : Int) > 0) = true := decide_eq_true (by omega)
        refine guard_t ej ?_
        rw [ej]
        repeat (first | refine guard_t rfl ?_ | refine guard_f (by decide) ?_)
        have wj : IntKind.i64.wrap (((j + 1 : Nat) : Int) - 1) = (j : Int) := by rw [i64_in _ (by omega)]; omega
        refine And.intro rfl (And.intro (by rw [wj]; omega) (Exists.intro l[j].c (And.intro (by rw [wj, Int.toNat_natCast]; exact ws_get hj) ?_)))
        repeat (first | refine guard_t rfl ?_ | refine guard_f (by decide) ?_)
        refine And.intro (by kernel_rfl) ?_
        have hlj : lastK l (j + 1) = l[j].key := by
          show (l.getD j _).key = _
          rw [List.getD_eq_getElem?_getD, List.getElem?_eq_getElem hj]; rfl
        cases hs : sle key l[j].key with
        | true =>
          refine cond_t hs ?_
          exact ex_w (out (bad (by rw [hlj]; exact hs)) _) rfl ⟨.refl _, trivial⟩ rfl
        | false =>
          refine cond_f hs ?_
          exact fin (ok (by rw [hlj]; exact hs)) rfl rfl rfl
    | true =>
      refine guard_t rfl ?_
      repeat (first | refine guard_t rfl ?_ | refine guard_f (by decide) ?_)
      by_cases h5 : row = []
      · subst h5
        replace ok := ok (fun _ => rfl)
        repeat (first | refine guard_t rfl ?_ | refine guard_f (by decide) ?_)
        -- the last key
        cases i with
        | zero =>
          refine guard_f (by decide) ?_
          repeat (first | refine guard_t rfl ?_ | refine guard_f (by decide) ?_)
          refine And.intro (by kernel_rfl) ?_
          refine cond_f rfl ?_
          exact fin (by
            refine ok ?_
            exact sle_nil (fun e => by rw [e] at h1; exact h1 (by decide))) rfl rfl rfl
        | succ j =>
          have hj : j < l.length := by omega
          have ej : decide (((j + 1 : Nat) : Int) > 0) = true := decide_eq_true (by omega)
          refine guard_t ej ?_
          rw [ej]
          repeat (first | refine guard_t rfl ?_ | refine guard_f (by decide) ?_)
          have wj : IntKind.i64.wrap (((j + 1 : Nat) : Int) - 1) = (j : Int) := by rw [i64_in _ (by omega)]; omega
          refine And.intro rfl (And.intro (by rw [wj]; omega) (Exists.intro l[j].c (And.intro (by rw [wj, Int.toNat_natCast]; exact ws_get hj) ?_)))
          repeat (first | refine guard_t rfl ?_ | refine guard_f (by decide) ?_)
          refine And.intro (by kernel_rfl) ?_
          have hlj : lastK l (j + 1) = l[j].key := by
            show (l.getD j _).key = _
            rw [List.getD_eq_getElem?_getD, List.getElem?_eq_getElem hj]; rfl
          cases hs : sle key l[j].key with
          | true =>
            refine cond_t hs ?_
            exact ex_w (out (bad (by rw [hlj]; exact hs)) _) rfl ⟨.refl _, trivial⟩ rfl
          | false =>
            refine cond_f hs ?_
            exact fin (ok (by rw [hlj]; exact hs)) rfl rfl rfl
      · have e5 : decide ((((bs row).length : Nat) : Int) > 0) = true := decide_eq_true (by rw [bs_len]; have := List.length_pos_iff.2 h5; omega)
        refine guard_f (by rw [e5]; decide) ?_
        rw [e5]
        repeat (first | refine guard_t rfl ?_ | refine guard_f (by decide) ?_)
        refine And.intro (by kernel_rfl) ?_
        refine cond_t rfl ?_
        exact ex_w (out (by unfold fitsB; rw [f1, f2, f3]; simp only [bs_len]; cases sle key (lastK l i) <;> simp [h5]) _) rfl ⟨.refl _, trivial⟩ rfl

theorem rRightN (N : Int) (l : List Wr) (hl : l.length ≤ 1000000) : PCallN Tryd.prog 16 [batAV none false N l] (.bool (rightB N l)) := by
  refine PCallN.of (tr []) f16 (Nat.le_of_ble_eq_true rfl) (np_cons (np_batAV _ _ _ _) np_nil) (.bool _) ?_
  unfold rightB
  simp only [List.length_map]
  by_cases h1 : N < 1
  · have e1 : decide (N < 1) = true := decide_eq_true h1
    refine guard_f (by rw [e1]; decide) ?_
    rw [e1]
    repeat (first | refine guard_t rfl ?_ | refine guard_f (by decide) ?_)
    refine cond_t rfl ?_
    refine bool_eq ?_
    rw [decide_eq_false (show ¬ N ≥ 1 by omega), Bool.false_and, Bool.and_false]
  have e1 : decide (N < 1) = false := decide_eq_false h1
  refine guard_t e1 ?_
  rw [e1]
  repeat (first | refine guard_t rfl ?_ | refine guard_f (by decide) ?_)
  by_cases h2 : l.length < 1
  · have e2 : decide ((((l.map Wr.c).length : Nat) : Int) < 1) = true := decide_eq_true (by rw [List.length_map]; omega)
    refine guard_f (by rw [e2]; decide) ?_
    rw [e2]
    repeat (first | refine guard_t rfl ?_ | refine guard_f (by decide) ?_)
    refine cond_t rfl ?_
    refine bool_eq ?_
    rw [decide_eq_false (show ¬ ((l.length : Nat) : Int) ≥ 1 by omega), Bool.false_and, Bool.and_false, Bool.and_false]
  have e2 : decide ((((l.map Wr.c).length : Nat) : Int) < 1) = false := decide_eq_false (by rw [List.length_map]; omega)
  refine guard_t e2 ?_
  rw [e2]
  repeat (first | refine guard_t rfl ?_ | refine guard_f (by decide) ?_)
  by_cases h3 : 64 < l.length
  · refine cond_t (decide_eq_true (by rw [List.length_map]; omega)) ?_
    refine bool_eq ?_
    rw [decide_eq_false (show ¬ ((l.length : Nat) : Int) ≤ 64 by omega), Bool.and_false, Bool.and_false, Bool.and_false]
  refine cond_f (decide_eq_false (by rw [List.length_map]; omega)) ?_
  rw [decide_eq_true (show N ≥ 1 by omega), decide_eq_true (show ((l.length : Nat) : Int) ≥ 1 by omega), decide_eq_true (show ((l.length : Nat) : Int) ≤ 64 by omega), Bool.and_self, Bool.and_self, Bool.and_true]
  refine VloopS.weakE (l := rrAt 0) (h := [bxS N l]) rfl ⟨.refl _, .refl _, trivial⟩ rfl (Nat.zero_le _) (VloopS.exW (rrLoop N l hl (fitsL l []) _ ?_ ?_ l.length 0 (by omega) rfl))
  · intro e hb
    exact bool_eq e.symm
  · intro e hb
    exact bool_eq e.symm

end Go.Proofs.YtjbgdmebpnfpnaaDoor.V

/- The law RecordRight: its batch. -/
namespace Go.Proofs.YtjbgdmebpnfpnaaDoor.V
open Go.IntWalk Go.Lib

structure RowA where
  nl : Bool
  l : List UInt8

def RowA.c (r : RowA) : List AV := [.sl 1 (some r.nl) false (bs r.l)]
theorem np_rows {ok : Nat → Prop} {nl : Option Bool} {own : Bool} (l : List RowA) : NP ok (.sl 1 nl own (l.map RowA.c)) := .sl _ _ _ _ fun x hx y hy => by
  obtain ⟨z, _, rfl⟩ := List.mem_map.1 hx
  rw [List.mem_singleton.1 hy]
  exact np_bs _
theorem rows_get {l : List RowA} {i : Nat} (h : i < l.length) : (l.map RowA.c)[i]? = some l[i].c := by simp [h]

def bools (l : List Bool) : List (List AV) := l.map fun b => [.bool b]
theorem bools_len (l : List Bool) : (bools l).length = l.length := by simp [bools]
theorem bools_get {l : List Bool} {i : Nat} (h : i < l.length) : (bools l)[i]? = some [.bool l[i]] := by simp [bools, h]
theorem np_bools {ok : Nat → Prop} {sz : Nat} {nl : Option Bool} {own : Bool} (l : List Bool) : NP ok (.sl sz nl own (bools l)) := by
  refine .sl _ _ _ _ fun x hx a ha => ?_
  simp only [bools, List.mem_map] at hx
  obtain ⟨b, _, rfl⟩ := hx
  simp only [List.mem_singleton] at ha
  subst ha
  exact .bool _

/-- One of the law's writes. -/
def rgW (keys : List (List UInt8)) (rows : List RowA) (gone : List Bool) (i : Nat) : Wr := ⟨keys.getD i [], (rows.getD i ⟨true, []⟩).l, gone.getD i false⟩
def rgL (keys : List (List UInt8)) (rows : List RowA) (gone : List Bool) (i : Nat) : List Wr := (List.range i).map (rgW keys rows gone)
theorem rgL_succ (keys : List (List UInt8)) (rows : List RowA) (gone : List Bool) (i : Nat) : rgL keys rows gone (i + 1) = rgL keys rows gone i ++ [rgW keys rows gone i] := by simp [rgL, List.range_succ]
theorem rgL_len (keys : List (List UInt8)) (rows : List RowA) (gone : List Bool) (i : Nat) : (rgL keys rows gone i).length = i := by simp [rgL]

section
variable (n : Int) (keys : List (List UInt8)) (nr ng : Option Bool) (or og : Bool) (rows : List RowA) (gone : List Bool) (at_ : Nat)

def rgAt (i : Nat) : List (Nat × AV) := [(1, .sl 1 none false (strs keys)), (2, .sl 1 none false (rows.map RowA.c)), (3, .sl 1 none false (bools gone)), (4, .int .u16 at_), (11, .ptr (some (1, 0))), (12, .int .i64 i)]

theorem rg_np (i : Nat) : ∀ q, q ∈ rgAt keys rows gone at_ i → NP (fun i => i < 2) q.2 := by
  intro q hq
  simp only [rgAt, List.mem_cons, List.not_mem_nil, or_false] at hq
  rcases hq with rfl | rfl | rfl | rfl | rfl | rfl
  · exact np_strs _
  · exact np_rows _
  · exact np_bools _
  · exact .int _ _
  · exact .ptr _ _ (by simp)
  · exact .int _ _

theorem rgLoop (hk : keys.length ≤ 100) (hr : rows.length ≤ 100) (R : VE → Sy → Prop) (hR : R (.exit 0) ⟨[], [(4, .int .u16 at_), (11, .ptr (some (1, 0)))], [G0, bx n (rgL keys rows gone keys.length)]⟩) :
    ∀ (g i : Nat), i + g = keys.length → VloopS Tryd.prog (tr [1000063]) 105 1 c5b0 (exW 105 R) ⟨[], rgAt keys rows gone at_ i, [G0, bx n (rgL keys rows gone i)]⟩
  | 0, i, hg => by
    have e : i = keys.length := by omega
    subst e
    refine VloopS.round ?_
    refine cond_f (by rw [strs_len]; exact decide_eq_false (by omega)) ?_
    exact ex_w hR rfl ⟨.refl _, .refl _, trivial⟩ rfl
  | g + 1, i, hg => by
    have hlt : i < keys.length := by omega
    have wi : IntKind.i64.wrap ((i : Int) + 1) = ((i + 1 : Nat) : Int) := by rw [i64_in _ (by omega)]; omega
    have nx := rgLoop hk hr R hR g (i + 1) (by omega)
    rw [rgL_succ] at nx
    have hacc : (rgL keys rows gone i).length ≤ 100 := by rw [rgL_len]; omega
    generalize rgL keys rows gone i = acc at nx hacc ⊢
    have hw : rgW keys rows gone i = ⟨keys[i], (rows.getD i ⟨true, []⟩).l, gone.getD i false⟩ := by
      unfold rgW
      rw [List.getD_eq_getElem?_getD, List.getElem?_eq_getElem hlt]; rfl
    generalize rgW keys rows gone i = w at nx hw
    have hnp : ∀ o, o ∈ [G0, bx n (acc ++ [w])] → NPo (fun i => i < 2) o := fun o ho => by
      simp only [List.mem_cons, List.not_mem_nil, or_false] at ho
      rcases ho with rfl | rfl
      · trivial
      · exact bx_np _ _
    -- behind the write
    have fin : ∀ {x : AV}, WkF (fun _ => none) x (.sl 1 none false (bs (rows.getD i ⟨true, []⟩).l)) → ∀ {σ : Sy} {b : HObj}, σ.get 1 = .sl 1 none false (strs keys) → σ.get 2 = .sl 1 none false (rows.map RowA.c) → σ.get 3 = .sl 1 none false (bools gone) → σ.get 4 = .int .u16 at_ → σ.get 11 = .ptr (some (1, 0)) → σ.get 12 = .int .i64 (IntKind.i64.wrap ((i : Int) + 1)) →
        σ.h = [G0, .cells [.int .i64 n, .sl 3 none true (acc.map Wr.c ++ [[.str (st keys[i]), x, .bool (gone.getD i false)]])], b] → VloopS Tryd.prog (tr [1000063]) 105 1 c5b0 (exW 105 R) σ := by
      intro x hx σ b h1 h2 h3 h4 h11 h12 hh
      refine VloopS.shift (σ' := ⟨[], rgAt keys rows gone at_ (i + 1), [G0, bx n (acc ++ [w]), b]⟩) (ShiftS.fz (fun _ => none) ⟨.wk _ _ (.eq h1), .wk _ _ (.eq h2), .wk _ _ (.eq h3), .wk _ _ (.eq h4), .wk _ _ (.eq h11), .wk _ _ (.eq (h12.trans (int_eq wi))), trivial⟩ (by rw [hh]; exact .same 0 _ _ _ rfl (.cells 1 _ _ _ _ rfl (.cons _ _ _ _ (.wk _ _ (.refl _)) (.cons _ _ _ _ (wk_app acc w (by rw [hw]; exact .cons _ _ _ _ (.wk _ _ (.refl _)) (.cons _ _ _ _ hx (.cons _ _ _ _ (.wk _ _ (.refl _)) .nil)))) .nil)) (.same 2 _ _ _ rfl (.nil 3)))) (fun i sz xs h => by cases h)) (by rw [hh]; show 1 ≤ 3; decide) ?_
      exact VloopS.weakBox (l := rgAt keys rows gone at_ (i + 1)) (h := [G0, bx n (acc ++ [w])]) (ex := [_]) rfl ⟨.refl _, .refl _, .refl _, .refl _, .refl _, .refl _, trivial⟩ rfl (by show 1 ≤ 2; decide) (rg_np keys rows gone at_ (i + 1)) hnp nx
    refine VloopS.round ?_
    refine cond_t (by rw [strs_len]; exact decide_eq_true (by omega)) ?_
    refine And.intro rfl (And.intro (Int.natCast_nonneg i) (Exists.intro _ (And.intro (strs_get hlt) ?_)))
    by_cases hgn : i < gone.length
    · have egd : gone.getD i false = gone[i] := by rw [List.getD_eq_getElem?_getD, List.getElem?_eq_getElem hgn]; rfl
      rw [egd] at fin
      have e1 : decide ((i : Int) < (((bools gone).length : Nat) : Int)) = true := decide_eq_true (by rw [bools_len]; omega)
      refine guard_t e1 ?_
      rw [e1]
      repeat (first | refine guard_t rfl ?_ | refine guard_f (by decide) ?_)
      refine And.intro rfl (And.intro (Int.natCast_nonneg i) (Exists.intro _ (And.intro (bools_get hgn) ?_)))
      repeat (first | refine guard_t rfl ?_ | refine guard_f (by decide) ?_)
      refine And.intro (by kernel_rfl) ?_
      by_cases hrw : i < rows.length
      · have erd : rows.getD i ⟨true, []⟩ = rows[i] := by rw [List.getD_eq_getElem?_getD, List.getElem?_eq_getElem hrw]; rfl
        rw [erd] at fin
        refine cond_t (by rw [List.length_map]; exact decide_eq_true (by omega)) ?_
        refine And.intro rfl (And.intro (Int.natCast_nonneg i) (Exists.intro _ (And.intro (rows_get hrw) ?_)))
        refine And.intro (.inl ⟨rfl, rfl⟩) (And.intro (.inl rfl) (And.intro (by simp only [List.length_map, List.length_cons, List.length_nil]; omega) ?_))
        exact fin (.wk _ _ (.nl _ _ _ _)) rfl rfl rfl rfl rfl rfl rfl
      · have erd : rows.getD i ⟨true, []⟩ = ⟨true, []⟩ := by rw [List.getD_eq_getElem?_getD, List.getElem?_eq_none (by omega)]; rfl
        rw [erd] at fin
        refine cond_f (by rw [List.length_map]; exact decide_eq_false (by omega)) ?_
        refine And.intro (.inl ⟨rfl, rfl⟩) (And.intro (.inl rfl) (And.intro (by simp only [List.length_map, List.length_cons, List.length_nil]; omega) ?_))
        exact fin (.wk _ _ (.nil _ _ _ _ _ (by simp))) rfl rfl rfl rfl rfl rfl rfl
    · have egd : gone.getD i false = false := by rw [List.getD_eq_getElem?_getD, List.getElem?_eq_none (by omega)]; rfl
      rw [egd] at fin
      have e1 : decide ((i : Int) < (((bools gone).length : Nat) : Int)) = false := decide_eq_false (by rw [bools_len]; omega)
      refine guard_f (by rw [e1]; decide) ?_
      rw [e1]
      repeat (first | refine guard_t rfl ?_ | refine guard_f (by decide) ?_)
      refine And.intro (by kernel_rfl) ?_
      by_cases hrw : i < rows.length
      · have erd : rows.getD i ⟨true, []⟩ = rows[i] := by rw [List.getD_eq_getElem?_getD, List.getElem?_eq_getElem hrw]; rfl
        rw [erd] at fin
        refine cond_t (by rw [List.length_map]; exact decide_eq_true (by omega)) ?_
        refine And.intro rfl (And.intro (Int.natCast_nonneg i) (Exists.intro _ (And.intro (rows_get hrw) ?_)))
        refine And.intro (.inl ⟨rfl, rfl⟩) (And.intro (.inl rfl) (And.intro (by simp only [List.length_map, List.length_cons, List.length_nil]; omega) ?_))
        exact fin (.wk _ _ (.nl _ _ _ _)) rfl rfl rfl rfl rfl rfl rfl
      · have erd : rows.getD i ⟨true, []⟩ = ⟨true, []⟩ := by rw [List.getD_eq_getElem?_getD, List.getElem?_eq_none (by omega)]; rfl
        rw [erd] at fin
        refine cond_f (by rw [List.length_map]; exact decide_eq_false (by omega)) ?_
        refine And.intro (.inl ⟨rfl, rfl⟩) (And.intro (.inl rfl) (And.intro (by simp only [List.length_map, List.length_cons, List.length_nil]; omega) ?_))
        exact fin (.wk _ _ (.nil _ _ _ _ _ (by simp))) rfl rfl rfl rfl rfl rfl rfl
end

end Go.Proofs.YtjbgdmebpnfpnaaDoor.V

/- May a batch be: the law RecordRight. -/
namespace Go.Proofs.YtjbgdmebpnfpnaaDoor.V
open Go.IntWalk Go.Lib

theorem rep_bs (k : Nat) : List.replicate k [AV.int .u8 0] = bs (List.replicate k 0) := by simp [bs]

def oneW (k : Nat) : Wr := ⟨[107], List.replicate k 0, false⟩
def twoW (k : Nat) : Wr := ⟨List.replicate k 0, [], false⟩

theorem one_right (k : Nat) : rightB 1 [oneW k] = decide ((k : Int) ≤ 4000) := by
  have h1 : sle (oneW k).key [] = false := sle_nil (by simp [oneW])
  have h2 : decide (((st (oneW k).key).size : Int) ≥ 1) = true := by rw [st_size]; rfl
  have h3 : decide (((st (oneW k).key).size : Int) ≤ 4000) = true := by rw [st_size]; rfl
  unfold rightB fitsL fitsL fitsB
  rw [h1, h2, h3]
  simp only [bs_len]
  show (((true && (true && (decide ((((List.replicate k (0 : UInt8)).length : Nat) : Int) ≤ 4000) && (true && true)))) && true) && (true && (true && true))) = _
  rw [List.length_replicate]
  cases decide ((k : Int) ≤ 4000) <;> rfl

theorem two_right (k : Nat) : rightB 1 [twoW k] = (decide ((k : Int) ≥ 1) && decide ((k : Int) ≤ 4000)) := by
  unfold rightB fitsL fitsL fitsB
  simp only [st_size]
  show (((decide ((((List.replicate k (0 : UInt8)).length : Nat) : Int) ≥ 1) && (decide ((((List.replicate k (0 : UInt8)).length : Nat) : Int) ≤ 4000) && (true && ((!sle (List.replicate k 0) []) && true)))) && true) && (true && (true && true))) = _
  rw [List.length_replicate]
  by_cases h : 1 ≤ k
  · have h1 : sle (List.replicate k 0) [] = false := sle_nil (fun e => by have := congrArg List.length e; simp at this; omega)
    rw [h1]
    cases decide ((k : Int) ≥ 1) <;> cases decide ((k : Int) ≤ 4000) <;> rfl
  · rw [decide_eq_false (show ¬ (k : Int) ≥ 1 by omega)]
    rfl

theorem oneN (k : Nat) : PCallN Tryd.prog 15 [.agg [.int .i64 1, .sl 3 (some false) false [[.str ⟨#[107]⟩, .sl 1 (some false) false (bs (List.replicate k 0)), .bool false]]]] (.bool (decide ((k : Int) ≤ 4000))) := by
  rw [← one_right]
  refine PCallN.letArgs (.cons _ _ _ _ (.agg _ _ (.cons _ _ _ _ (.wk _ _ (.refl _)) (.cons _ _ _ _ (.sl _ _ _ _ _ [(oneW k).c] (.inr rfl) rfl ?_) .nil))) .nil) ?_ (rightN 1 [oneW k] (by simp))
  · exact .cons _ _ _ _ (.wk _ _ (.refl _)) (.cons _ _ _ _ (.wk _ _ (.nl _ _ _ _)) (.cons _ _ _ _ (.wk _ _ (.refl _)) .nil))
  · refine np_cons (.agg _ (np_cons (.int _ _) (np_cons (.sl _ _ _ _ fun x hx a ha => ?_) np_nil))) np_nil
    rw [List.mem_singleton.1 hx] at ha
    exact np_cons (.str _) (np_cons (np_bs _) (np_cons (.bool _) np_nil)) a ha

theorem twoN (k : Nat) : PCallN Tryd.prog 15 [.agg [.int .i64 1, .sl 3 (some false) false [[.str (st (List.replicate k 0)), .sl 0 (some true) false [], .bool false]]]] (.bool (decide ((k : Int) ≥ 1) && decide ((k : Int) ≤ 4000))) := by
  rw [← two_right]
  refine PCallN.letArgs (.cons _ _ _ _ (.agg _ _ (.cons _ _ _ _ (.wk _ _ (.refl _)) (.cons _ _ _ _ (.sl _ _ _ _ _ [(twoW k).c] (.inr rfl) rfl ?_) .nil))) .nil) ?_ (rightN 1 [twoW k] (by simp))
  · exact .cons _ _ _ _ (.wk _ _ (.refl _)) (.cons _ _ _ _ (.wk _ _ (.nil _ _ _ _ _ (by simp))) (.cons _ _ _ _ (.wk _ _ (.refl _)) .nil))
  · refine np_cons (.agg _ (np_cons (.int _ _) (np_cons (.sl _ _ _ _ fun x hx a ha => ?_) np_nil))) np_nil
    rw [List.mem_singleton.1 hx] at ha
    exact np_cons (.str _) (np_cons np_nilsl (np_cons (.bool _) np_nil)) a ha

theorem recordRightN (n : Int) (keys : List (List UInt8)) (nk nr ng : Option Bool) (ok or og : Bool) (rows : List RowA) (gone : List Bool) (at_ : Nat) (hat : at_ < 65536) (hk : keys.length ≤ 9223372036854775807) (hr : rows.length ≤ 9223372036854775807) :
    VCall Tryd.prog 5 [.int .i64 n, .sl 1 nk ok (strs keys), .sl 1 nr or (rows.map RowA.c), .sl 1 ng og (bools gone), .int .u16 at_] [G0] (.bool true) [G0] := by
  refine VCall.ofS (tr [1000063]) f5 (Nat.le_of_ble_eq_true rfl) (Nat.le_refl _) (.bool _) hob_G0 ?_
  refine call_h shortN ?_
  repeat (first | refine guard_t rfl ?_ | refine guard_f (by decide) ?_)
  by_cases h1 : keys.length ≤ 70
  case neg =>
    have e1 : decide ((((strs keys).length : Nat) : Int) > 70) = true := decide_eq_true (by rw [strs_len]; omega)
    refine guard_f (by rw [e1]; decide) ?_
    rw [e1]
    repeat (first | refine guard_t rfl ?_ | refine guard_f (by decide) ?_)
    refine cond_t rfl ?_
    refine call_h shortN ?_
    exact ⟨⟨_, rfl⟩, rfl⟩
  have e1 : decide ((((strs keys).length : Nat) : Int) > 70) = false := decide_eq_false (by rw [strs_len]; omega)
  refine guard_t e1 ?_
  rw [e1]
  repeat (first | refine guard_t rfl ?_ | refine guard_f (by decide) ?_)
  by_cases h2 : rows.length ≤ 70
  case neg =>
    refine cond_t (decide_eq_true (by rw [List.length_map]; omega)) ?_
    refine call_h shortN ?_
    exact ⟨⟨_, rfl⟩, rfl⟩
  refine cond_f (decide_eq_false (by rw [List.length_map]; omega)) ?_
  refine VloopS.exW (VloopS.shift (σ' := ⟨[], rgAt keys rows gone at_ 0, [G0, bx n (rgL keys rows gone 0)]⟩) (ShiftS.fz (fun _ => none) ⟨.wk _ _ (.both _ _ _ _), .wk _ _ (.both _ _ _ _), .wk _ _ (.both _ _ _ _), .wk _ _ (.refl _), .wk _ _ (.refl _), .wk _ _ (.refl _), trivial⟩ (.same 0 _ _ _ rfl (.cells 1 _ _ _ _ rfl (.cons _ _ _ _ (.wk _ _ (.refl _)) (.cons _ _ _ _ (.wk _ _ (.nil _ _ _ _ _ (by simp))) .nil)) (.nil 2))) (fun i sz xs h => by cases h)) (by show 1 ≤ 2; decide) (rgLoop n keys rows gone at_ (by omega) (by omega) _ ?_ keys.length 0 (by omega)))
  have hl : (rgL keys rows gone keys.length).length ≤ 1000000 := by rw [rgL_len]; omega
  generalize rgL keys rows gone keys.length = ws at hl ⊢
  refine And.intro (by decide) ?_
  obtain ⟨k, hk, ek⟩ : ∃ k : Nat, k < 4200 ∧ IntKind.i64.wrap ((at_ : Int).tmod 4200) = (k : Int) := by
    refine ⟨at_ % 4200, Nat.mod_lt _ (by decide), ?_⟩
    rw [Int.tmod_eq_emod_of_nonneg (by omega), i64_in _ (by omega)]
    omega
  have erep : List.replicate (k : Int).toNat [AV.int .u8 0] = bs (List.replicate k 0) := by rw [Int.toNat_natCast]; exact rep_bs k
  refine And.intro ⟨by rw [ek]; exact Int.natCast_nonneg _, by rw [ek]; omega, by rw [ek]; omega⟩ ?_
  refine And.intro ⟨by rw [ek]; exact Int.natCast_nonneg _, by rw [ek]; omega, by rw [ek]; omega⟩ ?_
  refine Exists.intro (List.replicate k 0) (And.intro (by rw [ek, erep]; exact toBytes_bs _) ?_)
  have hr1 := rightN n ws hl
  have hr2 := rRightN n ws hl
  have hr3 := oneN k
  have hr4 := twoN k
  refine call_d hr1 ?_
  refine call_d hr2 ?_
  refine guard_t (beq_self_eq_true _) ?_
  rw [beq_self_eq_true, ek, erep]
  repeat (first | refine guard_t rfl ?_ | refine guard_f (by decide) ?_)
  refine call_d hr3 ?_
  repeat (first | refine guard_t rfl ?_ | refine guard_f (by decide) ?_)
  refine guard_t (beq_self_eq_true _) ?_
  rw [beq_self_eq_true]
  repeat (first | refine guard_t rfl ?_ | refine guard_f (by decide) ?_)
  refine call_d hr4 ?_
  repeat (first | refine guard_t rfl ?_ | refine guard_f (by decide) ?_)
  by_cases hk1 : 1 ≤ k
  · have e1 : decide ((k : Int) ≥ 1) = true := decide_eq_true (by omega)
    refine guard_t e1 ?_
    rw [e1]
    repeat (first | refine guard_t rfl ?_ | refine guard_f (by decide) ?_)
    refine And.intro (by kernel_rfl) ?_
    exact ⟨⟨_, rfl⟩, by show AV.bool ((true && decide ((k : Int) ≤ 4000)) == decide ((k : Int) ≤ 4000)) = AV.bool true; rw [Bool.true_and, beq_self_eq_true]⟩
  · have e1 : decide ((k : Int) ≥ 1) = false := decide_eq_false (by omega)
    refine guard_f (by rw [e1]; decide) ?_
    rw [e1]
    repeat (first | refine guard_t rfl ?_ | refine guard_f (by decide) ?_)
    refine And.intro (by kernel_rfl) ?_
    exact ⟨⟨_, rfl⟩, rfl⟩

end Go.Proofs.YtjbgdmebpnfpnaaDoor.V
