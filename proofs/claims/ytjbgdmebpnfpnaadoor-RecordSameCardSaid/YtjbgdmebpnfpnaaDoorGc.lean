/-
  Plain laws: a right batch's bytes are read as that batch; where they are cut, reading ends too soon.
-/
import Derived.Test.YtjbgdmebpnfpnaaDoorGb

/- The reference's Decode. -/
namespace Go.Proofs.YtjbgdmebpnfpnaaDoor.V
open Go.IntWalk Go.Lib

theorem gNum_short {p : List UInt8} {a n : Nat} {lo hi : Int} (h : p.length - a < n) : gNum p a n lo hi = .error (a, 3) := by unfold gNum; rw [if_pos h]
theorem gNum_bad {p : List UInt8} {a n : Nat} {lo hi : Int} (h : ¬ p.length - a < n) (h2 : ¬ (lo ≤ nv ((p.drop a).take n) ∧ nv ((p.drop a).take n) ≤ hi)) : gNum p a n lo hi = .error (a, 2) := by unfold gNum; rw [if_neg h, if_neg h2]
theorem gNum_ok {p : List UInt8} {a n : Nat} {lo hi : Int} (h : ¬ p.length - a < n) (h2 : lo ≤ nv ((p.drop a).take n) ∧ nv ((p.drop a).take n) ≤ hi) : gNum p a n lo hi = .ok (nv ((p.drop a).take n)) := by unfold gNum; rw [if_neg h, if_pos h2]

theorem nv_le (l : List UInt8) : nv l ≤ 9223372036854775807 := by
  unfold nv
  rw [IntKind.wrap_i64]
  omega

theorem nv_snoc {l : List UInt8} {b : UInt8} (h : (num l).toNat < 1099511627776) : (num (l ++ [b])).toNat = 256 * (num l).toNat + b.toNat := by
  have h1 := readStep (num l) b
  rw [← num_snoc, w_u64, w_u64, w_u64] at h1
  have := b.toNat_lt
  omega

theorem nv_one (b : UInt8) : nv [b] = (b.toNat : Int) := by
  have h := nv_snoc (l := []) (b := b) (by decide)
  have := b.toNat_lt
  unfold nv
  rw [List.nil_append] at h
  rw [h]
  have e : (num []).toNat = 0 := rfl
  rw [e, i64_in _ (by omega)]
  omega

theorem nv_two (a b : UInt8) : nv [a, b] = 256 * (a.toNat : Int) + b.toNat := by
  have h := nv_snoc (l := []) (b := a) (by decide)
  have e : (num []).toNat = 0 := rfl
  rw [List.nil_append, e] at h
  have h2 := nv_snoc (l := [a]) (b := b) (by have := a.toNat_lt; omega)
  have := b.toNat_lt
  have := a.toNat_lt
  unfold nv
  have e2 : [a, b] = [a] ++ [b] := rfl
  rw [e2, h2, h, i64_in _ (by omega)]
  omega

theorem cut_two {p : List UInt8} {a : Nat} (h : a + 2 ≤ p.length) : ∃ x y, (p.drop a).take 2 = [x, y] := by
  have hl : ((p.drop a).take 2).length = 2 := by rw [List.length_take, List.length_drop]; omega
  match (p.drop a).take 2, hl with
  | [x, y], _ => exact ⟨x, y, rfl⟩

theorem nv2_bound {p : List UInt8} {a : Nat} (h : a + 2 ≤ p.length) : 0 ≤ nv ((p.drop a).take 2) ∧ nv ((p.drop a).take 2) ≤ 65535 := by
  obtain ⟨x, y, e⟩ := cut_two h
  rw [e, nv_two]
  have := x.toNat_lt
  have := y.toNat_lt
  omega

/-- The number that two bytes tell. -/
theorem num2 {p : List UInt8} {a : Nat} (h : a + 2 ≤ p.length) : ∃ m : Nat, (num ((p.drop a).take 2)).toNat = m ∧ m ≤ 65535 ∧ nv ((p.drop a).take 2) = (m : Int) ∧ IntKind.i64.wrap (m : Int) = m := by
  have hb := nv2_bound h
  obtain ⟨x, y, e⟩ := cut_two h
  have h1 := nv_snoc (l := []) (b := x) (by decide)
  have e0 : (num []).toNat = 0 := rfl
  rw [List.nil_append, e0] at h1
  have h2 := nv_snoc (l := [x]) (b := y) (by have := x.toNat_lt; omega)
  have e2 : [x, y] = [x] ++ [y] := rfl
  have := x.toNat_lt
  have := y.toNat_lt
  refine ⟨256 * x.toNat + y.toNat, by rw [e, e2, h2, h1]; omega, by omega, by rw [e, nv_two]; omega, i64_in _ (by omega)⟩

theorem cut_one {p : List UInt8} {a : Nat} (h : a < p.length) : (p.drop a).take 1 = [p[a]] := by
  rw [List.drop_eq_getElem_cons h, List.take_succ_cons, List.take_zero]

/-- A slice's cells, cut. -/
theorem bs_cut (p : List UInt8) (a n : Nat) (u : Int) (hu : u = ((a + n : Nat) : Int)) : ((bs p).drop (a : Int).toNat).take (u.toNat - (a : Int).toNat) = bs ((p.drop a).take n) := by
  rw [hu, bs_drop, bs_take]
  congr 2
  omega

def zb : HObj := .cells [.int .i64 0, .sl 0 (some true) true []]
def zbs : HObj := .cells [.int .i64 0, .sl 0 (some true) false []]

def rfAt (p : List UInt8) (n a : Nat) (last : List UInt8) (i : Nat) : List (Nat × AV) := [(0, .sl 1 none false (bs p)), (2, .ptr (some (0, 0))), (5, .ptr (some (1, 0))), (6, .ptr (some (2, 0))), (7, .int .i64 n), (8, .int .i64 a), (9, .str (st last)), (10, .int .i64 i)]

theorem rf_np (p : List UInt8) (n a : Nat) (last : List UInt8) (i : Nat) : ∀ q, q ∈ rfAt p n a last i → NP (fun i => i < 3) q.2 := by
  intro q hq
  simp only [rfAt, List.mem_cons, List.not_mem_nil, or_false] at hq
  rcases hq with rfl | rfl | rfl | rfl | rfl | rfl | rfl | rfl
  · exact np_bs _
  · exact .ptr _ _ (by simp)
  · exact .ptr _ _ (by simp)
  · exact .ptr _ _ (by simp)
  · exact .int _ _
  · exact .int _ _
  · exact .str _
  · exact .int _ _

theorem bx_np {ok : Nat → Prop} (N : Int) (l : List Wr) : NPo ok (bx N l) := np_cons (.int _ _) (np_cons (np_ws _) np_nil)
theorem zb_np {ok : Nat → Prop} : NPo ok zb := np_cons (.int _ _) (np_cons np_nilsl np_nil)

theorem joinNil (l : List UInt8) (h : l.length ≤ 1000000) : PCallN Tryd.prog 11 [.sl 1 none false (bs l), .sl 0 (some true) true []] (.sl 1 none true (bs l)) := by
  have h1 := joinN none none false true l [] (by simpa using h)
  rw [List.append_nil] at h1
  exact PCallN.weakArgs (.cons _ _ _ _ (.refl _) (.cons _ _ _ _ (.nil 0 1 true true none (by simp)) .nil)) (np_cons (np_bs _) (np_cons np_nilsl np_nil)) h1

theorem WkFL.app {B : Nat → Option (Nat × List (List AV))} : ∀ {xs ys zs us : List AV}, WkFL B xs ys → WkFL B zs us → WkFL B (xs ++ zs) (ys ++ us)
  | _, _, _, _, .nil, h => h
  | _, _, _, _, .cons _ _ _ _ h1 h2, h => .cons _ _ _ _ h1 (WkFL.app h2 h)

/-- One more write behind the others. -/
theorem wk_app {B : Nat → Option (Nat × List (List AV))} (acc : List Wr) (w : Wr) {x : List AV} (h : WkFL B x w.c) : WkF B (.sl 3 none true (acc.map Wr.c ++ [x])) (.sl 3 none true ((acc ++ [w]).map Wr.c)) := by
  have hl := h.length
  refine .slo _ _ _ _ _ (.inl rfl) (by simp [hl]) ?_
  rw [List.map_append, List.flatten_append, List.flatten_append]
  refine (WkFL.of _).app ?_
  simpa using h

end Go.Proofs.YtjbgdmebpnfpnaaDoor.V

/- The reference's Decode: its loop. -/
namespace Go.Proofs.YtjbgdmebpnfpnaaDoor.V
open Go.IntWalk Go.Lib

theorem rfLoop (p : List UInt8) (hp : p.length ≤ 100000) (N : Int) (n : Nat) (hn : n ≤ 64) (R : VE → Sy → Prop) (r0 : Except (Nat × Int) (List Wr × Nat))
    (hOk : ∀ l a, r0 = .ok (l, a) → R (.exit 0) ⟨[], [(0, .sl 1 none false (bs p)), (2, .ptr (some (0, 0))), (5, .ptr (some (1, 0))), (6, .ptr (some (2, 0))), (8, .int .i64 (a : Nat))], [zb, zb, bx N l]⟩)
    (hErr : ∀ b e, r0 = .error (b, e) → ∀ ex, R .ret ⟨[], [(2, .ptr (some (0, 0))), (3, .int .i64 (b : Nat)), (4, .int .i64 e)], zbs :: ex⟩) :
    ∀ (g i a : Nat) (last : List UInt8) (acc : List Wr), i + g = n → acc.length = i → a ≤ p.length → (r0 = match gLoop p g a last with | .error (b, e, _) => .error (b, e) | .ok (l, a') => .ok (acc ++ l, a')) →
      VloopS Tryd.prog (tr [1000161]) 173 0 c21b0 (exW 173 R) ⟨[], rfAt p n a last i, [zb, zb, bx N acc]⟩
  | 0, i, a, last, acc, hg, _, ha, he => by
    refine VloopS.round ?_
    refine cond_f (decide_eq_false (by omega)) ?_
    exact ex_w (hOk acc a (by rw [he]; simp [gLoop])) rfl ⟨.refl _, .refl _, .refl _, .refl _, .refl _, trivial⟩ rfl
  | g + 1, i, a, last, acc, hg, hac, ha, he => by
    have eW : ∀ b e, gWrite p a last = .error (b, e) → ∀ ex, R .ret ⟨[], [(2, .ptr (some (0, 0))), (3, .int .i64 (b : Nat)), (4, .int .i64 e)], zbs :: ex⟩ := fun b e h => hErr b e (by rw [he, gLoop, h])
    have lw : ∀ x : Nat, x ≤ 200000 → IntKind.i64.wrap ((bs p).length - (x : Int)) = (p.length : Int) - x := fun x hx => by rw [bs_len, i64_in _ (by omega)]
    have aw : ∀ x y : Nat, x ≤ 200000 → y ≤ 200000 → IntKind.i64.wrap ((x : Int) + (y : Int)) = ((x + y : Nat) : Int) := fun x y hx hy => by rw [i64_in _ (by omega)]; omega
    refine VloopS.round ?_
    refine cond_t (decide_eq_true (by omega)) ?_
    by_cases h1 : p.length - a < 2
    · refine cond_t (by rw [lw a (by omega)]; exact decide_eq_true (by omega)) ?_
      exact ex_w (eW a 3 (by rw [gWrite, gBlob, gNum_short h1]) _) rfl ⟨.refl _, .refl _, .refl _, trivial⟩ rfl
    refine cond_f (by rw [lw a (by omega)]; exact decide_eq_false (by omega)) ?_
    have w2 : IntKind.i64.wrap ((a : Int) + 2) = ((a + 2 : Nat) : Int) := aw a 2 (by omega) (by omega)
    refine And.intro (.inl rfl) (And.intro ⟨Int.natCast_nonneg _, by rw [w2]; omega, by rw [w2, bs_len]; omega⟩ ?_)
    obtain ⟨k, k1, k2, k3, wk⟩ := num2 (p := p) (a := a) (by omega)
    refine call_p (by rw [bs_cut p a 2 _ w2]; exact readN _ _ _ (by simp; omega)) ?_
    rw [k1]
    by_cases h2 : 1 ≤ nv ((p.drop a).take 2) ∧ nv ((p.drop a).take 2) ≤ 4000
    case neg =>
      have eE := eW a 2 (by rw [gWrite, gBlob, gNum_bad h1 h2])
      rw [k3] at h2
      by_cases h3 : (k : Int) < 1
      · have hd : decide (IntKind.i64.wrap (k : Int) < 1) = true := by rw [wk]; exact decide_eq_true h3
        refine guard_f (by rw [hd]; decide) ?_
        repeat (first | refine guard_t rfl ?_ | refine guard_f (by decide) ?_)
        refine cond_t rfl ?_
        exact ex_w (eE _) rfl ⟨.refl _, .refl _, .refl _, trivial⟩ rfl
      · refine guard_t (by rw [wk]; exact decide_eq_false h3) ?_
        repeat (first | refine guard_t rfl ?_ | refine guard_f (by decide) ?_)
        refine cond_t (by rw [wk]; exact decide_eq_true (by omega)) ?_
        exact ex_w (eE _) rfl ⟨.refl _, .refl _, .refl _, trivial⟩ rfl
    have hgn := gNum_ok h1 h2
    rw [k3] at hgn h2
    refine guard_t (by rw [wk]; exact decide_eq_false (by omega)) ?_
    repeat (first | refine guard_t rfl ?_ | refine guard_f (by decide) ?_)
    refine cond_f (by rw [wk]; exact decide_eq_false (by omega)) ?_
    by_cases h3 : p.length - (a + 2) < k
    · refine cond_t (by rw [wk, w2, lw (a + 2) (by omega)]; exact decide_eq_true (by omega)) ?_
      exact ex_w (eW (a + 2) 3 (by rw [gWrite, gBlob, hgn]; simp only; rw [if_pos (by omega)]) _) rfl ⟨.refl _, .eq (int_eq w2), .refl _, trivial⟩ rfl
    refine cond_f (by rw [wk, w2, lw (a + 2) (by omega)]; exact decide_eq_false (by omega)) ?_
    rw [wk, w2]
    have wk2 : IntKind.i64.wrap (((a + 2 : Nat) : Int) + (k : Int)) = ((a + 2 + k : Nat) : Int) := aw (a + 2) k (by omega) (by omega)
    refine And.intro (.inl rfl) (And.intro ⟨Int.natCast_nonneg _, by rw [wk2]; omega, by rw [wk2, bs_len]; omega⟩ ?_)
    have hkey : gBlob p a 1 = .ok ((p.drop (a + 2)).take k) := by rw [gBlob, hgn]; simp only; rw [if_neg (by omega)]; rfl
    have hkl : ((p.drop (a + 2)).take k).length = k := by rw [List.length_take, List.length_drop]; omega
    generalize hq : (p.drop (a + 2)).take k = key at hkey hkl
    refine Exists.intro key (And.intro (by rw [bs_cut p (a + 2) k _ wk2, hq]; exact toBytes_bs _) ?_)
    cases h4 : sle key last with
    | true =>
      refine cond_t h4 ?_
      exact ex_w (eW (a + 2) 2 (by rw [gWrite, hkey]; simp only; rw [h4]) _) rfl ⟨.refl _, .refl _, .refl _, trivial⟩ rfl
    | false =>
    refine cond_f h4 ?_
    by_cases h5 : p.length - (a + 2 + k) < 1
    · refine cond_t (by rw [wk2, bs_len]; exact decide_eq_true (by omega)) ?_
      exact ex_w (eW (a + 2 + k) 3 (by rw [gWrite, hkey]; simp only; rw [h4]; simp only; rw [hkl, gNum_short h5]) _) rfl ⟨.refl _, .eq (int_eq wk2), .refl _, trivial⟩ rfl
    refine cond_f (by rw [wk2, bs_len]; exact decide_eq_false (by omega)) ?_
    rw [wk2]
    have hlt : a + 2 + k < p.length := by omega
    refine And.intro rfl (And.intro (Int.natCast_nonneg _) (Exists.intro _ (And.intro (bs_get (i := a + 2 + k) hlt) ?_)))
    have hn1 : nv ((p.drop (a + 2 + k)).take 1) = (p[a + 2 + k].toNat : Int) := by rw [cut_one hlt, nv_one]
    have hgt := bs_get (i := a + 2 + k) hlt
    generalize p[a + 2 + k] = gb at hn1 hgt
    by_cases h6 : (gb.toNat : Int) ≤ 1
    case neg =>
      refine cond_t (decide_eq_true (by omega)) ?_
      exact ex_w (eW (a + 2 + k) 2 (by rw [gWrite, hkey]; simp only; rw [h4]; simp only; rw [hkl, gNum_bad h5 (by rw [hn1]; omega)]) _) rfl ⟨.refl _, .refl _, .refl _, trivial⟩ rfl
    refine cond_f (decide_eq_false (by omega)) ?_
    have hg1 := gNum_ok (lo := 0) (hi := 1) h5 (by rw [hn1]; omega)
    rw [hn1] at hg1
    refine And.intro rfl (And.intro (Int.natCast_nonneg _) (Exists.intro _ (And.intro hgt ?_)))
    have wk3 : IntKind.i64.wrap (((a + 2 + k : Nat) : Int) + 1) = ((a + 2 + k + 1 : Nat) : Int) := aw (a + 2 + k) 1 (by omega) (by omega)
    have fin : ∀ w a', gWrite p a last = .ok (w, a') → w.key = key → a' ≤ p.length → VloopS Tryd.prog (tr [1000161]) 173 0 c21b0 (exW 173 R) ⟨[], rfAt p n a' key (i + 1), [zb, zb, bx N (acc ++ [w])]⟩ := by
      intro w a' hw hwk hle
      refine rfLoop p hp N n hn R r0 hOk hErr g (i + 1) a' key (acc ++ [w]) (by omega) (by simp; omega) hle ?_
      rw [he, gLoop, hw]
      simp only
      rw [hwk]
      cases gLoop p g a' key with
      | error e => rfl
      | ok q => simp
    have wki : IntKind.i64.wrap ((i : Int) + 1) = ((i + 1 : Nat) : Int) := aw i 1 (by omega) (by omega)
    have happ : ∀ w : Wr, acc.map Wr.c ++ [w.c] = (acc ++ [w]).map Wr.c := fun w => by simp
    have hnp : ∀ w : Wr, ∀ o, o ∈ [zb, zb, bx N (acc ++ [w])] → NPo (fun i => i < 3) o := fun w o ho => by
      simp only [List.mem_cons, List.not_mem_nil, or_false] at ho
      rcases ho with rfl | rfl | rfl
      · exact zb_np
      · exact zb_np
      · exact bx_np _ _
    by_cases h7 : gb.toNat = 1
    · have e1 : ((gb.toNat : Int) == 1) = true := by rw [h7]; rfl
      refine cond_f (by rw [e1]; rfl) ?_
      rw [e1]
      refine And.intro (.inl ⟨rfl, rfl⟩) (And.intro (.inl rfl) (And.intro (by simp only [List.length_map, List.length_cons, List.length_nil]; omega) ?_))
      have hw : gWrite p a last = .ok (⟨key, [], true⟩, a + 2 + k + 1) := by
        rw [gWrite, hkey]; simp only; rw [h4]; simp only; rw [hkl, hg1]; simp only
        rw [if_pos (by omega)]
      have nx := fin ⟨key, [], true⟩ _ hw rfl (by omega)
      refine VloopS.shift (σ' := ⟨[], rfAt p n (a + 2 + k + 1) key (i + 1), [zb, zb, bx N (acc ++ [⟨key, [], true⟩]), .cells [.str (st key), .sl 0 (some true) true [], .bool true]]⟩) (ShiftS.fz (fun _ => none) ⟨.wk _ _ (.refl _), .wk _ _ (.refl _), .wk _ _ (.refl _), .wk _ _ (.refl _), .wk _ _ (.refl _), .wk _ _ (.eq (int_eq wk3)), .wk _ _ (.refl _), .wk _ _ (.eq (int_eq wki)), trivial⟩ (.same 0 _ _ _ rfl (.same 1 _ _ _ rfl (.cells 2 _ _ _ _ rfl (.cons _ _ _ _ (.wk _ _ (.refl _)) (.cons _ _ _ _ ?_ .nil)) (.same 3 _ _ _ rfl (.nil 4))))) (fun i sz xs h => by cases h)) (Nat.zero_le _) ?_
      · exact wk_app acc ⟨key, [], true⟩ (.cons _ _ _ _ (.wk _ _ (.refl _)) (.cons _ _ _ _ (.wk _ _ (.nil _ _ _ _ _ (by simp))) (.cons _ _ _ _ (.wk _ _ (.refl _)) .nil)))
      · exact VloopS.weakBox (l := rfAt p n (a + 2 + k + 1) key (i + 1)) (h := [zb, zb, bx N (acc ++ [⟨key, [], true⟩])]) (ex := [_]) rfl ⟨.refl _, .refl _, .refl _, .refl _, .refl _, .refl _, .refl _, .refl _, trivial⟩ rfl (Nat.zero_le _) (rf_np _ _ _ _ _) (hnp _) nx
    · have e1 : ((gb.toNat : Int) == 1) = false := by rw [beq_eq_false_iff_ne]; omega
      refine cond_t (by rw [e1]; rfl) ?_
      rw [e1]
      have hge : ∀ e, gBlob p (a + 2 + k + 1) 0 = .error e → gWrite p a last = .error e := fun e h => by
        rw [gWrite, hkey]; simp only; rw [h4]; simp only; rw [hkl, hg1]; simp only
        rw [if_neg (by omega), h]
      by_cases h8 : p.length - (a + 2 + k + 1) < 2
      · refine cond_t (by rw [wk3, lw _ (by omega)]; exact decide_eq_true (by omega)) ?_
        exact ex_w (eW (a + 2 + k + 1) 3 (hge _ (by rw [gBlob, gNum_short h8])) _) rfl ⟨.refl _, .eq (int_eq wk3), .refl _, trivial⟩ rfl
      refine cond_f (by rw [wk3, lw _ (by omega)]; exact decide_eq_false (by omega)) ?_
      rw [wk3]
      have w4 : IntKind.i64.wrap (((a + 2 + k + 1 : Nat) : Int) + 2) = ((a + 2 + k + 1 + 2 : Nat) : Int) := aw _ 2 (by omega) (by omega)
      refine And.intro (.inl rfl) (And.intro ⟨Int.natCast_nonneg _, by rw [w4]; omega, by rw [w4, bs_len]; omega⟩ ?_)
      obtain ⟨m, m1, m2, m3, wm⟩ := num2 (p := p) (a := a + 2 + k + 1) (by omega)
      refine call_p (by rw [bs_cut p (a + 2 + k + 1) 2 _ w4]; exact readN _ _ _ (by simp; omega)) ?_
      rw [m1]
      by_cases h9 : 0 ≤ nv ((p.drop (a + 2 + k + 1)).take 2) ∧ nv ((p.drop (a + 2 + k + 1)).take 2) ≤ 4000
      case neg =>
        refine cond_t (by rw [wm]; exact decide_eq_true (by omega)) ?_
        exact ex_w (eW (a + 2 + k + 1) 2 (hge _ (by rw [gBlob, gNum_bad h8 h9])) _) rfl ⟨.refl _, .refl _, .refl _, trivial⟩ rfl
      have hgn2 := gNum_ok h8 h9
      rw [m3] at hgn2 h9
      refine cond_f (by rw [wm]; exact decide_eq_false (by omega)) ?_
      by_cases h10 : p.length - (a + 2 + k + 1 + 2) < m
      · refine cond_t (by rw [wm, w4, lw _ (by omega)]; exact decide_eq_true (by omega)) ?_
        exact ex_w (eW (a + 2 + k + 1 + 2) 3 (hge _ (by rw [gBlob, hgn2]; simp only; rw [if_pos (by omega)])) _) rfl ⟨.refl _, .eq (int_eq w4), .refl _, trivial⟩ rfl
      refine cond_f (by rw [wm, w4, lw _ (by omega)]; exact decide_eq_false (by omega)) ?_
      rw [wm, w4]
      have wm2 : IntKind.i64.wrap (((a + 2 + k + 1 + 2 : Nat) : Int) + (m : Int)) = ((a + 2 + k + 1 + 2 + m : Nat) : Int) := aw _ m (by omega) (by omega)
      refine And.intro (.inl rfl) (And.intro ⟨Int.natCast_nonneg _, by rw [wm2]; omega, by rw [wm2, bs_len]; omega⟩ ?_)
      have hrow : gBlob p (a + 2 + k + 1) 0 = .ok ((p.drop (a + 2 + k + 1 + 2)).take m) := by rw [gBlob, hgn2]; simp only; rw [if_neg (by omega)]; rfl
      have hrl : ((p.drop (a + 2 + k + 1 + 2)).take m).length = m := by rw [List.length_take, List.length_drop]; omega
      generalize hq2 : (p.drop (a + 2 + k + 1 + 2)).take m = row at hrow hrl
      refine call_p (by rw [bs_cut p (a + 2 + k + 1 + 2) m _ wm2, hq2]; exact joinNil row (by omega)) ?_
      refine And.intro (.inl ⟨rfl, rfl⟩) (And.intro (.inl rfl) (And.intro (by simp only [List.length_map, List.length_cons, List.length_nil]; omega) ?_))
      have hw : gWrite p a last = .ok (⟨key, row, false⟩, a + 2 + k + 1 + 2 + m) := by
        rw [gWrite, hkey]; simp only; rw [h4]; simp only; rw [hkl, hg1]; simp only
        rw [if_neg (by omega), hrow]; simp only; rw [hrl]
      have nx := fin ⟨key, row, false⟩ _ hw rfl (by omega)
      refine VloopS.shift (σ' := ⟨[], rfAt p n (a + 2 + k + 1 + 2 + m) key (i + 1), [zb, zb, bx N (acc ++ [⟨key, row, false⟩]), .cells [.str (st key), .sl 1 none true (bs row), .bool false]]⟩) (ShiftS.fz (fun _ => none) ⟨.wk _ _ (.refl _), .wk _ _ (.refl _), .wk _ _ (.refl _), .wk _ _ (.refl _), .wk _ _ (.refl _), .wk _ _ (.eq (int_eq wm2)), .wk _ _ (.refl _), .wk _ _ (.eq (int_eq wki)), trivial⟩ (.same 0 _ _ _ rfl (.same 1 _ _ _ rfl (.cells 2 _ _ _ _ rfl (.cons _ _ _ _ (.wk _ _ (.refl _)) (.cons _ _ _ _ ?_ .nil)) (.same 3 _ _ _ rfl (.nil 4))))) (fun i sz xs h => by cases h)) (Nat.zero_le _) ?_
      · exact wk_app acc ⟨key, row, false⟩ (WkFL.of _)
      · exact VloopS.weakBox (l := rfAt p n (a + 2 + k + 1 + 2 + m) key (i + 1)) (h := [zb, zb, bx N (acc ++ [⟨key, row, false⟩])]) (ex := [_]) rfl ⟨.refl _, .refl _, .refl _, .refl _, .refl _, .refl _, .refl _, .refl _, trivial⟩ rfl (Nat.zero_le _) (rf_np _ _ _ _ _) (hnp _) nx

end Go.Proofs.YtjbgdmebpnfpnaaDoor.V

/- The reference's Decode, as a contract; what any bytes are. -/
namespace Go.Proofs.YtjbgdmebpnfpnaaDoor.V
open Go.IntWalk Go.Lib

/-- What Decode returns. -/
def decRet : Except (Nat × Int) (Int × List Wr) → AV
  | .ok (N, l) => .tup [.agg [.int .i64 N, .sl 3 none false (l.map Wr.c)], .int .i64 ((0 : Nat) : Int), .int .i64 0]
  | .error (b, e) => .tup [.agg [.int .i64 0, .sl 3 none false (([] : List Wr).map Wr.c)], .int .i64 (b : Nat), .int .i64 e]

theorem decRet_np {ok : Nat → Prop} (r : Except (Nat × Int) (Int × List Wr)) : NP ok (decRet r) := by
  cases r <;> exact .tup _ (np_cons (.agg _ (np_cons (.int _ _) (np_cons (np_ws _) np_nil))) (np_cons (.int _ _) (np_cons (.int _ _) np_nil)))

theorem decErrWk (b e : Int) : Wk (.tup [.agg [.int .i64 0, .sl 0 (some true) false []], .int .i64 b, .int .i64 e]) (.tup [.agg [.int .i64 0, .sl 3 none false (([] : List Wr).map Wr.c)], .int .i64 b, .int .i64 e]) :=
  .tup _ _ (.cons _ _ _ _ (.agg _ _ (.cons _ _ _ _ (.refl _) (.cons _ _ _ _ (.nil _ _ _ _ _ (by simp)) .nil))) (.cons _ _ _ _ (.refl _) (.cons _ _ _ _ (.refl _) .nil)))

theorem decN (nl : Option Bool) (own : Bool) (p : List UInt8) (hp : p.length ≤ 100000) : VCall Tryd.prog 14 [.sl 1 nl own (bs p)] [G0] (decRet (gBatch p)) [G0] := by
  refine VCall.weakArgs (.cons _ _ _ _ (.both _ _ _ _) .nil) ?_
  cases h : gBatch p with
  | ok r => exact decOk hp h
  | error r => exact VCall.weakRet (decErrWk _ _) (decErr hp h)

theorem rDecN (nl : Option Bool) (own : Bool) (p : List UInt8) (hp : p.length ≤ 100000) : PCallN Tryd.prog 21 [.sl 1 nl own (bs p)] (decRet (gBatch p)) := by
  refine PCallN.weakArgs (.cons _ _ _ _ (.both _ _ _ _) .nil) (np_cons (np_bs _) np_nil) ?_
  have pe : ∀ b e, gBatch p = .error (b, e) → PCallN Tryd.prog 21 [.sl 1 none false (bs p)] (.tup [.agg [.int .i64 0, .sl 0 (some true) false []], .int .i64 (b : Nat), .int .i64 e]) → PCallN Tryd.prog 21 [.sl 1 none false (bs p)] (decRet (gBatch p)) := fun b e h k => by
    rw [h]
    exact PCallN.weakRet (decErrWk _ _) k
  have hA : ∀ a, a ∈ [AV.sl 1 none false (bs p)] → NP (fun _ => False) a := np_cons (np_bs _) np_nil
  have hE : ∀ b e : Int, NP (fun _ => False) (.tup [.agg [.int .i64 0, .sl 0 (some true) false []], .int .i64 b, .int .i64 e]) := fun b e => .tup _ (np_cons (.agg _ (np_cons (.int _ _) (np_cons np_nilsl np_nil))) (np_cons (.int _ _) (np_cons (.int _ _) np_nil)))
  have e8 : ((bs p).drop (0 : Int).toNat).take ((8 : Int).toNat - (0 : Int).toNat) = bs ((p.drop 0).take 8) := bs_cut p 0 8 8 rfl
  have e10 : ((bs p).drop (8 : Int).toNat).take ((10 : Int).toNat - (8 : Int).toNat) = bs ((p.drop 8).take 2) := bs_cut p 8 2 10 rfl
  by_cases h1 : p.length - 0 < 8
  · refine pe 0 3 (by unfold gBatch; rw [gNum_short h1]) (PCallN.of (tr [1000161]) f21 (Nat.le_of_ble_eq_true rfl) hA (hE _ _) ?_)
    refine cond_t (by rw [bs_len]; exact decide_eq_true (by omega)) ?_
    exact rfl
  by_cases h2 : 1 ≤ nv ((p.drop 0).take 8) ∧ nv ((p.drop 0).take 8) ≤ 9223372036854775807
  case neg =>
    refine pe 0 2 (by unfold gBatch; rw [gNum_bad h1 h2]) (PCallN.of (tr [1000161]) f21 (Nat.le_of_ble_eq_true rfl) hA (hE _ _) ?_)
    refine cond_f (by rw [bs_len]; exact decide_eq_false (by omega)) ?_
    refine And.intro (.inl rfl) (And.intro ⟨by decide, by decide, by rw [bs_len]; omega⟩ ?_)
    refine call_p (by rw [e8]; exact readN _ _ _ (by simp; omega)) ?_
    refine cond_t (decide_eq_true (by have := nv_le ((p.drop 0).take 8); show nv _ < 1; omega)) ?_
    exact rfl
  have hN := gNum_ok h1 h2
  generalize hNN : nv ((p.drop 0).take 8) = N at hN h2
  by_cases h3 : p.length - 8 < 2
  · refine pe 8 3 (by unfold gBatch; rw [hN]; simp only; rw [gNum_short h3]) (PCallN.of (tr [1000161]) f21 (Nat.le_of_ble_eq_true rfl) hA (hE _ _) ?_)
    refine cond_f (by rw [bs_len]; exact decide_eq_false (by omega)) ?_
    refine And.intro (.inl rfl) (And.intro ⟨by decide, by decide, by rw [bs_len]; omega⟩ ?_)
    refine call_p (by rw [e8]; exact readN _ _ _ (by simp; omega)) ?_
    refine cond_f (decide_eq_false (by show ¬ nv _ < 1; rw [hNN]; omega)) ?_
    refine cond_t (by rw [bs_len]; exact decide_eq_true (by omega)) ?_
    exact rfl
  obtain ⟨n, n1, n2, n3, wn⟩ := num2 (p := p) (a := 8) (by omega)
  by_cases h4 : 1 ≤ nv ((p.drop 8).take 2) ∧ nv ((p.drop 8).take 2) ≤ 64
  case neg =>
    refine pe 8 2 (by unfold gBatch; rw [hN]; simp only; rw [gNum_bad h3 h4]) (PCallN.of (tr [1000161]) f21 (Nat.le_of_ble_eq_true rfl) hA (hE _ _) ?_)
    refine cond_f (by rw [bs_len]; exact decide_eq_false (by omega)) ?_
    refine And.intro (.inl rfl) (And.intro ⟨by decide, by decide, by rw [bs_len]; omega⟩ ?_)
    refine call_p (by rw [e8]; exact readN _ _ _ (by simp; omega)) ?_
    refine cond_f (decide_eq_false (by show ¬ nv _ < 1; rw [hNN]; omega)) ?_
    refine cond_f (by rw [bs_len]; exact decide_eq_false (by omega)) ?_
    refine And.intro (.inl rfl) (And.intro ⟨by decide, by decide, by rw [bs_len]; omega⟩ ?_)
    refine call_p (by rw [e10]; exact readN _ _ _ (by simp; omega)) ?_
    rw [n1]
    rw [n3] at h4
    by_cases h5 : (n : Int) < 1
    · have hd : decide (IntKind.i64.wrap (n : Int) < 1) = true := by rw [wn]; exact decide_eq_true h5
      refine guard_f (by rw [hd]; decide) ?_
      repeat (first | refine guard_t rfl ?_ | refine guard_f (by decide) ?_)
      refine cond_t rfl ?_
      exact rfl
    · refine guard_t (by rw [wn]; exact decide_eq_false h5) ?_
      repeat (first | refine guard_t rfl ?_ | refine guard_f (by decide) ?_)
      refine cond_t (by rw [wn]; exact decide_eq_true (by omega)) ?_
      exact rfl
  have hn := gNum_ok h3 h4
  rw [n3] at hn h4
  cases hl : gLoop p n 10 [] with
  | error r =>
    obtain ⟨b, e, l'⟩ := r
    refine pe b e (by unfold gBatch; rw [hN]; simp only; rw [hn]; simp only; rw [Int.toNat_natCast, hl]) (PCallN.of (tr [1000161]) f21 (Nat.le_of_ble_eq_true rfl) hA (hE _ _) ?_)
    refine cond_f (by rw [bs_len]; exact decide_eq_false (by omega)) ?_
    refine And.intro (.inl rfl) (And.intro ⟨by decide, by decide, by rw [bs_len]; omega⟩ ?_)
    refine call_p (by rw [e8]; exact readN _ _ _ (by simp; omega)) ?_
    refine cond_f (decide_eq_false (by show ¬ nv _ < 1; rw [hNN]; omega)) ?_
    refine cond_f (by rw [bs_len]; exact decide_eq_false (by omega)) ?_
    refine And.intro (.inl rfl) (And.intro ⟨by decide, by decide, by rw [bs_len]; omega⟩ ?_)
    refine call_p (by rw [e10]; exact readN _ _ _ (by simp; omega)) ?_
    rw [n1]
    refine guard_t (by rw [wn]; exact decide_eq_false (by omega)) ?_
    repeat (first | refine guard_t rfl ?_ | refine guard_f (by decide) ?_)
    refine cond_f (by rw [wn]; exact decide_eq_false (by omega)) ?_
    refine VloopS.exW (VloopS.shift (σ' := ⟨[], rfAt p n 10 [] 0, [zb, zb, bx N []]⟩) (ShiftS.fz (fun _ => none) ⟨.wk _ _ (.refl _), .wk _ _ (.refl _), .wk _ _ (.refl _), .wk _ _ (.refl _), .wk _ _ (.eq (int_eq wn)), .wk _ _ (.refl _), .wk _ _ (.refl _), .wk _ _ (.refl _), trivial⟩ (.same 0 _ _ _ rfl (.same 1 _ _ _ rfl (.cells 2 _ _ _ _ rfl (.cons _ _ _ _ (.wk _ _ (.eq (int_eq hNN))) (.cons _ _ _ _ (.wk _ _ (.nil _ _ _ _ _ (by simp))) .nil)) (.nil 3)))) (fun i sz xs h => by cases h)) (Nat.zero_le _) (rfLoop p hp N n (by omega) _ (.error (b, e)) ?_ ?_ n 0 10 [] [] (by omega) rfl (by omega) (by rw [hl])))
    · intro l a h
      cases h
    · intro b' e' h ex
      cases h
      exact rfl
  | ok r =>
    obtain ⟨l, a⟩ := r
    have hle := gLoop_le hp _ _ _ _ _ (by omega) hl
    by_cases ha : a < p.length
    · refine pe a 2 (by unfold gBatch; rw [hN]; simp only; rw [hn]; simp only; rw [Int.toNat_natCast, hl]; simp only; rw [if_pos ha]) (PCallN.of (tr [1000161]) f21 (Nat.le_of_ble_eq_true rfl) hA (hE _ _) ?_)
      refine cond_f (by rw [bs_len]; exact decide_eq_false (by omega)) ?_
      refine And.intro (.inl rfl) (And.intro ⟨by decide, by decide, by rw [bs_len]; omega⟩ ?_)
      refine call_p (by rw [e8]; exact readN _ _ _ (by simp; omega)) ?_
      refine cond_f (decide_eq_false (by show ¬ nv _ < 1; rw [hNN]; omega)) ?_
      refine cond_f (by rw [bs_len]; exact decide_eq_false (by omega)) ?_
      refine And.intro (.inl rfl) (And.intro ⟨by decide, by decide, by rw [bs_len]; omega⟩ ?_)
      refine call_p (by rw [e10]; exact readN _ _ _ (by simp; omega)) ?_
      rw [n1]
      refine guard_t (by rw [wn]; exact decide_eq_false (by omega)) ?_
      repeat (first | refine guard_t rfl ?_ | refine guard_f (by decide) ?_)
      refine cond_f (by rw [wn]; exact decide_eq_false (by omega)) ?_
      refine VloopS.exW (VloopS.shift (σ' := ⟨[], rfAt p n 10 [] 0, [zb, zb, bx N []]⟩) (ShiftS.fz (fun _ => none) ⟨.wk _ _ (.refl _), .wk _ _ (.refl _), .wk _ _ (.refl _), .wk _ _ (.refl _), .wk _ _ (.eq (int_eq wn)), .wk _ _ (.refl _), .wk _ _ (.refl _), .wk _ _ (.refl _), trivial⟩ (.same 0 _ _ _ rfl (.same 1 _ _ _ rfl (.cells 2 _ _ _ _ rfl (.cons _ _ _ _ (.wk _ _ (.eq (int_eq hNN))) (.cons _ _ _ _ (.wk _ _ (.nil _ _ _ _ _ (by simp))) .nil)) (.nil 3)))) (fun i sz xs h => by cases h)) (Nat.zero_le _) (rfLoop p hp N n (by omega) _ (.ok (l, a)) ?_ ?_ n 0 10 [] [] (by omega) rfl (by omega) (by rw [hl]; simp)))
      · intro l2 a2 h
        cases h
        refine cond_t (by rw [bs_len]; exact decide_eq_true (by omega)) ?_
        exact rfl
      · intro b' e' h
        cases h
    · have hb : gBatch p = .ok (N, l) := by unfold gBatch; rw [hN]; simp only; rw [hn]; simp only; rw [Int.toNat_natCast, hl]; simp only; rw [if_neg ha]
      rw [hb]
      refine PCallN.of (tr [1000161]) f21 (Nat.le_of_ble_eq_true rfl) hA (decRet_np _) ?_
      refine cond_f (by rw [bs_len]; exact decide_eq_false (by omega)) ?_
      refine And.intro (.inl rfl) (And.intro ⟨by decide, by decide, by rw [bs_len]; omega⟩ ?_)
      refine call_p (by rw [e8]; exact readN _ _ _ (by simp; omega)) ?_
      refine cond_f (decide_eq_false (by show ¬ nv _ < 1; rw [hNN]; omega)) ?_
      refine cond_f (by rw [bs_len]; exact decide_eq_false (by omega)) ?_
      refine And.intro (.inl rfl) (And.intro ⟨by decide, by decide, by rw [bs_len]; omega⟩ ?_)
      refine call_p (by rw [e10]; exact readN _ _ _ (by simp; omega)) ?_
      rw [n1]
      refine guard_t (by rw [wn]; exact decide_eq_false (by omega)) ?_
      repeat (first | refine guard_t rfl ?_ | refine guard_f (by decide) ?_)
      refine cond_f (by rw [wn]; exact decide_eq_false (by omega)) ?_
      refine VloopS.exW (VloopS.shift (σ' := ⟨[], rfAt p n 10 [] 0, [zb, zb, bx N []]⟩) (ShiftS.fz (fun _ => none) ⟨.wk _ _ (.refl _), .wk _ _ (.refl _), .wk _ _ (.refl _), .wk _ _ (.refl _), .wk _ _ (.eq (int_eq wn)), .wk _ _ (.refl _), .wk _ _ (.refl _), .wk _ _ (.refl _), trivial⟩ (.same 0 _ _ _ rfl (.same 1 _ _ _ rfl (.cells 2 _ _ _ _ rfl (.cons _ _ _ _ (.wk _ _ (.eq (int_eq hNN))) (.cons _ _ _ _ (.wk _ _ (.nil _ _ _ _ _ (by simp))) .nil)) (.nil 3)))) (fun i sz xs h => by cases h)) (Nat.zero_le _) (rfLoop p hp N n (by omega) _ (.ok (l, a)) ?_ ?_ n 0 10 [] [] (by omega) rfl (by omega) (by rw [hl]; simp)))
      · intro l2 a2 h
        cases h
        refine cond_f (by rw [bs_len]; exact decide_eq_false (by omega)) ?_
        exact rfl
      · intro b' e' h
        cases h

end Go.Proofs.YtjbgdmebpnfpnaaDoor.V

/- Batches that are alike. -/
namespace Go.Proofs.YtjbgdmebpnfpnaaDoor.V
open Go.IntWalk Go.Lib

theorem st_list (l : List UInt8) : (st l).toList = l := by rw [ByteArray.toList_eq]; rfl
theorem st_beq (a b : List UInt8) : ((st a).toList == (st b).toList) = decide (a = b) := by
  rw [st_list, st_list, Bool.eq_iff_iff, beq_iff_eq, decide_eq_true_eq]

theorem ws_get {l : List Wr} {i : Nat} (h : i < l.length) : (l.map Wr.c)[i]? = some l[i].c := by simp [h]

def wrEq (x y : Wr) : Prop := x.key = y.key ∧ x.gone = y.gone ∧ x.row = y.row
theorem wrEq_iff (x y : Wr) : x = y ↔ (x.key = y.key ∧ x.gone = y.gone ∧ x.row = y.row) := by
  constructor
  · rintro rfl; exact ⟨rfl, rfl, rfl⟩
  · obtain ⟨a, b, c⟩ := x
    obtain ⟨a', b', c'⟩ := y
    rintro ⟨h1, h2, h3⟩
    cases h1; cases h2; cases h3; rfl

/-- bytes.Equal. -/
theorem bEqN (nl nl' : Option Bool) (own own' : Bool) (a b : List UInt8) : PCallN Tryd.prog 30 [.sl 1 nl own (bs a), .sl 1 nl' own' (bs b)] (.bool (decide (a = b))) := by
  refine PCallN.of (tr []) f30 (Nat.le_of_ble_eq_true rfl) (np_cons (np_bs _) (np_cons (np_bs _) np_nil)) (.bool _) ?_
  refine Exists.intro a (And.intro (toBytes_bs _) ?_)
  refine Exists.intro b (And.intro (toBytes_bs _) ?_)
  exact bool_eq (st_beq a b)

theorem np_wc {ok : Nat → Prop} (w : Wr) : NP ok (.agg w.c) := .agg _ w.np

theorem same1N (x y : Wr) : PCallN Tryd.prog 29 [.agg x.c, .agg y.c] (.bool (decide (x = y))) := by
  refine PCallN.of (tr []) f29 (Nat.le_of_ble_eq_true rfl) (np_cons (np_wc _) (np_cons (np_wc _) np_nil)) (.bool _) ?_
  have hst := st_beq x.key y.key
  by_cases h1 : x.key = y.key
  · have e1 : ((st x.key).toList == (st y.key).toList) = true := by rw [hst]; exact decide_eq_true h1
    refine guard_t e1 ?_
    rw [e1]
    repeat (first | refine guard_t rfl ?_ | refine guard_f (by decide) ?_)
    by_cases h2 : x.gone = y.gone
    · have e2 : (x.gone == y.gone) = true := by rw [h2]; exact beq_self_eq_true _
      refine guard_t e2 ?_
      rw [e2]
      repeat (first | refine guard_t rfl ?_ | refine guard_f (by decide) ?_)
      refine call_p (bEqN _ _ _ _ x.row y.row) ?_
      repeat (first | refine guard_t rfl ?_ | refine guard_f (by decide) ?_)
      refine bool_eq ?_
      rw [decide_eq_decide, wrEq_iff]
      exact ⟨fun h => ⟨h1, h2, h⟩, fun h => h.2.2⟩
    · have e2 : (x.gone == y.gone) = false := beq_eq_false_iff_ne.2 h2
      refine guard_f (by rw [e2]; decide) ?_
      rw [e2]
      repeat (first | refine guard_t rfl ?_ | refine guard_f (by decide) ?_)
      exact bool_eq (decide_eq_false (fun e => h2 (by rw [e]))).symm
  · have e1 : ((st x.key).toList == (st y.key).toList) = false := by rw [hst]; exact decide_eq_false h1
    refine guard_f (by rw [e1]; decide) ?_
    rw [e1]
    repeat (first | refine guard_t rfl ?_ | refine guard_f (by decide) ?_)
    exact bool_eq (decide_eq_false (fun e => h1 (by rw [e]))).symm

def eqAt (a b : List Wr) (i : Nat) : List (Nat × AV) := [(1, .sl 3 none false (b.map Wr.c)), (2, .func 29 []), (15, .sl 3 none false (a.map Wr.c)), (16, .int .i64 a.length), (17, .int .i64 i)]

theorem eq_np (a b : List Wr) (i : Nat) : ∀ p, p ∈ eqAt a b i → NP (fun i => i < ([] : List HObj).length) p.2 := by
  intro p hp
  simp only [eqAt, List.mem_cons, List.not_mem_nil, or_false] at hp
  rcases hp with rfl | rfl | rfl | rfl | rfl
  · exact np_ws _
  · exact .func _ _ (by simp)
  · exact np_ws _
  · exact .int _ _
  · exact .int _ _

theorem eqLoop (a b : List Wr) (hab : a.length = b.length) (hl : a.length ≤ 1000000) (R : VE → Sy → Prop) (hT : a = b → R (.exit 0) ⟨[], [], []⟩) (hF : a ≠ b → ∀ hb, R .ret ⟨[], [(6, .bool false)], hb⟩) :
    ∀ (g i : Nat), i + g = a.length → a.take i = b.take i → VloopS Tryd.prog (tr []) 32 0 c28b0 (exW 32 R) ⟨[], eqAt a b i, []⟩
  | 0, i, hg, he => by
    have e : a = b := by
      rw [List.take_of_length_le (by omega), List.take_of_length_le (by omega)] at he
      exact he
    refine VloopS.round ?_
    refine cond_f (decide_eq_false (by omega)) ?_
    exact ex_w (hT e) rfl trivial rfl
  | g + 1, i, hg, he => by
    have hlt : i < a.length := by omega
    have hlb : i < b.length := by omega
    refine VloopS.round ?_
    refine cond_t (decide_eq_true (by omega)) ?_
    refine And.intro rfl (And.intro (Int.natCast_nonneg i) (Exists.intro a[i].c (And.intro (ws_get hlt) ?_)))
    refine And.intro rfl (And.intro (Int.natCast_nonneg i) (Exists.intro b[i].c (And.intro (ws_get hlb) ?_)))
    refine call_p (same1N a[i] b[i]) ?_
    by_cases h : a[i] = b[i]
    · refine cond_f (by rw [decide_eq_true h]; rfl) ?_
      refine VloopS.weakBox (l := eqAt a b (i + 1)) (h := []) (ex := [.cells a[i].c, .cells b[i].c]) rfl ⟨.refl _, .refl _, .refl _, .refl _, .eq (int_eq ?_), trivial⟩ rfl (Nat.zero_le _) (eq_np a b (i + 1)) (by simp)
        (eqLoop a b hab hl R hT hF g (i + 1) (by omega) (by rw [take_snoc a i hlt, take_snoc b i hlb, he, h]))
      rw [i64_in _ (by omega)]; omega
    · refine cond_t (by rw [decide_eq_false h]; rfl) ?_
      exact ex_w (hF (fun e => h (by subst e; rfl)) _) rfl ⟨.refl _, trivial⟩ rfl

theorem eqFuncN (nl nl' : Option Bool) (own own' : Bool) (a b : List Wr) (hl : a.length ≤ 1000000) : PCallN Tryd.prog 28 [.sl 3 nl own (a.map Wr.c), .sl 3 nl' own' (b.map Wr.c), .func 29 []] (.bool (decide (a = b))) := by
  refine PCallN.of (tr []) f28 (Nat.le_of_ble_eq_true rfl) (np_cons (np_ws _) (np_cons (np_ws _) (np_cons (.func _ _ (by simp)) np_nil))) (.bool _) ?_
  by_cases hab : a.length = b.length
  · refine cond_f (by rw [List.length_map, List.length_map, hab]; exact bne_self_eq_false _) ?_
    refine VloopS.weakE (l := eqAt a b 0) rfl ⟨.both _ _ _ _, .refl _, .both _ _ _ _, .eq (int_eq (by rw [List.length_map])), .eq (int_eq rfl), trivial⟩ rfl (Nat.zero_le _) (VloopS.exW (eqLoop a b hab hl _ ?_ ?_ a.length 0 (by omega) rfl))
    · intro e
      exact bool_eq (decide_eq_true e).symm
    · intro e hb
      exact bool_eq (decide_eq_false e).symm
  · have hne : a ≠ b := fun e => hab (by rw [e])
    refine cond_t (by rw [List.length_map, List.length_map]; exact bne_iff_ne.2 (by omega)) ?_
    exact bool_eq (decide_eq_false hne).symm

def batAV (nl : Option Bool) (own : Bool) (N : Int) (l : List Wr) : AV := .agg [.int .i64 N, .sl 3 nl own (l.map Wr.c)]
theorem np_batAV {ok : Nat → Prop} (nl : Option Bool) (own : Bool) (N : Int) (l : List Wr) : NP ok (batAV nl own N l) := .agg _ (np_cons (.int _ _) (np_cons (np_ws _) np_nil))

theorem recSameN (nl nl' : Option Bool) (own own' : Bool) (N M : Int) (a b : List Wr) (hl : a.length ≤ 1000000) : PCallN Tryd.prog 17 [batAV nl own N a, batAV nl' own' M b] (.bool (decide (N = M ∧ a = b))) := by
  refine PCallN.of (tr []) f17 (Nat.le_of_ble_eq_true rfl) (np_cons (np_batAV _ _ _ _) (np_cons (np_batAV _ _ _ _) np_nil)) (.bool _) ?_
  by_cases h1 : N = M
  · have e1 : (N == M) = true := by rw [h1]; exact beq_self_eq_true _
    refine guard_t e1 ?_
    rw [e1]
    repeat (first | refine guard_t rfl ?_ | refine guard_f (by decide) ?_)
    refine call_p (eqFuncN _ _ _ _ a b hl) ?_
    repeat (first | refine guard_t rfl ?_ | refine guard_f (by decide) ?_)
    refine bool_eq ?_
    rw [decide_eq_decide]
    exact ⟨fun h => ⟨h1, h⟩, fun h => h.2⟩
  · have e1 : (N == M) = false := beq_eq_false_iff_ne.2 h1
    refine guard_f (by rw [e1]; decide) ?_
    rw [e1]
    repeat (first | refine guard_t rfl ?_ | refine guard_f (by decide) ?_)
    exact bool_eq (decide_eq_false (fun h => h1 h.1)).symm

/-! ### the reference's -/

def rsAt (i : Nat) : List (Nat × AV) := [(2, .ptr (some (0, 0))), (3, .ptr (some (1, 0))), (5, .int .i64 i)]

theorem rsLoop (N M : Int) (a b : List Wr) (hab : a.length = b.length) (hl : a.length ≤ 1000000) (hr : ∀ w, w ∈ a → w.row.length ≤ 1000000) (R : VE → Sy → Prop) (hT : a = b → ∀ hb, R (.exit 0) ⟨[], [], hb⟩) (hF : a ≠ b → ∀ hb, R .ret ⟨[], [(4, .bool false)], hb⟩) :
    ∀ (g i : Nat), i + g = a.length → a.take i = b.take i → VloopS Tryd.prog (tr []) 59 0 c18b0 (exW 59 R) ⟨[], rsAt i, [bxS N a, bxS M b]⟩
  | 0, i, hg, he => by
    have e : a = b := by
      rw [List.take_of_length_le (by omega), List.take_of_length_le (by omega)] at he
      exact he
    refine VloopS.round ?_
    refine cond_f (by rw [List.length_map]; exact decide_eq_false (by omega)) ?_
    exact ex_w (hT e _) rfl trivial rfl
  | g + 1, i, hg, he => by
    have hlt : i < a.length := by omega
    have hlb : i < b.length := by omega
    refine VloopS.round ?_
    refine cond_t (by rw [List.length_map]; exact decide_eq_true (by omega)) ?_
    refine And.intro rfl (And.intro (Int.natCast_nonneg i) (Exists.intro a[i].c (And.intro (ws_get hlt) ?_)))
    refine And.intro rfl (And.intro (Int.natCast_nonneg i) (Exists.intro b[i].c (And.intro (ws_get hlb) ?_)))
    refine And.intro (by kernel_rfl) ?_
    have hst := st_beq a[i].key b[i].key
    have out : ∀ hb, a[i] ≠ b[i] → R .ret ⟨[], [(4, .bool false)], hb⟩ := fun hb h => hF (fun e => h (by subst e; rfl)) hb
    by_cases h1 : a[i].key = b[i].key
    · have e1 : (!((st a[i].key).toList == (st b[i].key).toList)) = false := by rw [hst, decide_eq_true h1]; rfl
      refine guard_t e1 ?_
      rw [e1]
      repeat (first | refine guard_t rfl ?_ | refine guard_f (by decide) ?_)
      by_cases h2 : a[i].gone = b[i].gone
      · have e2 : (!(a[i].gone == b[i].gone)) = false := by rw [h2, beq_self_eq_true]; rfl
        refine guard_t e2 ?_
        rw [e2]
        repeat (first | refine guard_t rfl ?_ | refine guard_f (by decide) ?_)
        refine call_p (bytesN _ _ _ _ a[i].row b[i].row (hr _ (List.getElem_mem hlt))) ?_
        repeat (first | refine guard_t rfl ?_ | refine guard_f (by decide) ?_)
        by_cases h3 : a[i].row = b[i].row
        · refine cond_f (by rw [decide_eq_true h3]; rfl) ?_
          have e : a[i] = b[i] := (wrEq_iff _ _).2 ⟨h1, h2, h3⟩
          refine VloopS.weakBox (l := rsAt (i + 1)) (h := [bxS N a, bxS M b]) (ex := [.cells a[i].c, .cells b[i].c]) rfl ⟨.refl _, .refl _, .eq (int_eq ?_), trivial⟩ rfl (Nat.zero_le _) ?_ ?_
            (rsLoop N M a b hab hl hr R hT hF g (i + 1) (by omega) (by rw [take_snoc a i hlt, take_snoc b i hlb, he, e]))
          · rw [i64_in _ (by omega)]; omega
          · intro q hq
            simp only [rsAt, List.mem_cons, List.not_mem_nil, or_false] at hq
            rcases hq with rfl | rfl | rfl
            · exact .ptr _ _ (by simp)
            · exact .ptr _ _ (by simp)
            · exact .int _ _
          · intro o ho
            simp only [List.mem_cons, List.not_mem_nil, or_false] at ho
            rcases ho with rfl | rfl
            · exact np_cons (.int _ _) (np_cons (np_ws _) np_nil)
            · exact np_cons (.int _ _) (np_cons (np_ws _) np_nil)
        · refine cond_t (by rw [decide_eq_false h3]; rfl) ?_
          exact ex_w (out _ (fun e => h3 (by rw [e]))) rfl ⟨.refl _, trivial⟩ rfl
      · have e2 : (!(a[i].gone == b[i].gone)) = true := by rw [beq_eq_false_iff_ne.2 h2]; rfl
        refine guard_f (by rw [e2]; decide) ?_
        rw [e2]
        repeat (first | refine guard_t rfl ?_ | refine guard_f (by decide) ?_)
        refine cond_t rfl ?_
        exact ex_w (out _ (fun e => h2 (by rw [e]))) rfl ⟨.refl _, trivial⟩ rfl
    · have e1 : (!((st a[i].key).toList == (st b[i].key).toList)) = true := by rw [hst, decide_eq_false h1]; rfl
      refine guard_f (by rw [e1]; decide) ?_
      rw [e1]
      repeat (first | refine guard_t rfl ?_ | refine guard_f (by decide) ?_)
      refine cond_t rfl ?_
      exact ex_w (out _ (fun e => h1 (by rw [e]))) rfl ⟨.refl _, trivial⟩ rfl

theorem rSameN0 (N M : Int) (a b : List Wr) (hl : a.length ≤ 1000000) (hr : ∀ w, w ∈ a → w.row.length ≤ 1000000) : PCallN Tryd.prog 18 [batAV none false N a, batAV none false M b] (.bool (decide (N = M ∧ a = b))) := by
  refine PCallN.of (tr []) f18 (Nat.le_of_ble_eq_true rfl) (np_cons (np_batAV _ _ _ _) (np_cons (np_batAV _ _ _ _) np_nil)) (.bool _) ?_
  by_cases h1 : N = M
  · have e1 : (N != M) = false := by rw [h1]; exact bne_self_eq_false _
    refine guard_t e1 ?_
    rw [e1]
    repeat (first | refine guard_t rfl ?_ | refine guard_f (by decide) ?_)
    by_cases hab : a.length = b.length
    · refine cond_f (by rw [List.length_map, List.length_map, hab]; exact bne_self_eq_false _) ?_
      refine VloopS.weakE (l := rsAt 0) (h := [bxS N a, bxS M b]) rfl ⟨.refl _, .refl _, .eq (int_eq rfl), trivial⟩ rfl (Nat.zero_le _) (VloopS.exW (rsLoop N M a b hab hl hr _ ?_ ?_ a.length 0 (by omega) rfl))
      · intro e hb
        exact bool_eq (decide_eq_true ⟨h1, e⟩).symm
      · intro e hb
        exact bool_eq (decide_eq_false (fun h => e h.2)).symm
    · refine cond_t (by rw [List.length_map, List.length_map]; exact bne_iff_ne.2 (by omega)) ?_
      exact bool_eq (decide_eq_false (fun h => hab (by rw [h.2]))).symm
  · have e1 : (N != M) = true := bne_iff_ne.2 h1
    refine guard_f (by rw [e1]; decide) ?_
    rw [e1]
    repeat (first | refine guard_t rfl ?_ | refine guard_f (by decide) ?_)
    refine cond_t rfl ?_
    exact bool_eq (decide_eq_false (fun h => h1 h.1)).symm

theorem wk_bat (nl : Option Bool) (own : Bool) (N : Int) (l : List Wr) : Wk (batAV nl own N l) (batAV none false N l) := .agg _ _ (.cons _ _ _ _ (.refl _) (.cons _ _ _ _ (.both _ _ _ _) .nil))

theorem rSameN (nl nl' : Option Bool) (own own' : Bool) (N M : Int) (a b : List Wr) (hl : a.length ≤ 1000000) (hr : ∀ w, w ∈ a → w.row.length ≤ 1000000) : PCallN Tryd.prog 18 [batAV nl own N a, batAV nl' own' M b] (.bool (decide (N = M ∧ a = b))) :=
  PCallN.weakArgs (.cons _ _ _ _ (wk_bat _ _ _ _) (.cons _ _ _ _ (wk_bat _ _ _ _) .nil)) (np_cons (np_batAV _ _ _ _) (np_cons (np_batAV _ _ _ _) np_nil)) (rSameN0 N M a b hl hr)

/-! ### what any bytes are -/

theorem gBlob_len {p q : List UInt8} {a : Nat} {lo : Int} (h : gBlob p a lo = .ok q) : q.length ≤ p.length := by
  unfold gBlob at h
  split at h
  · cases h
  · split at h
    · cases h
    · cases h
      rw [List.length_take, List.length_drop]; omega

theorem gWrite_len {p last : List UInt8} {a a' : Nat} {w : Wr} (h : gWrite p a last = .ok (w, a')) : w.row.length ≤ p.length ∧ w.key.length ≤ p.length := by
  unfold gWrite at h
  split at h
  · cases h
  · rename_i key hk
    split at h
    · cases h
    · split at h
      · cases h
      · split at h
        · cases h
          exact ⟨Nat.zero_le _, gBlob_len hk⟩
        · split at h
          · cases h
          · rename_i row hr
            cases h
            exact ⟨gBlob_len hr, gBlob_len hk⟩

theorem gLoop_len {p : List UInt8} : ∀ (k a : Nat) (last : List UInt8) (l : List Wr) (a' : Nat), gLoop p k a last = .ok (l, a') → l.length = k ∧ ∀ w, w ∈ l → w.row.length ≤ p.length
  | 0, a, last, l, a', h => by
    rw [gLoop] at h
    cases h
    exact ⟨rfl, by simp⟩
  | k + 1, a, last, l, a', h => by
    rw [gLoop] at h
    cases hw : gWrite p a last with
    | error e => rw [hw] at h; cases h
    | ok r =>
      obtain ⟨w, a1⟩ := r
      rw [hw] at h
      simp only at h
      cases hl : gLoop p k a1 w.key with
      | error e => rw [hl] at h; cases h
      | ok q =>
        obtain ⟨l2, a2⟩ := q
        rw [hl] at h
        cases h
        obtain ⟨h1, h2⟩ := gLoop_len k a1 w.key l2 a' hl
        refine ⟨by simp [h1], fun x hx => ?_⟩
        rcases List.mem_cons.1 hx with rfl | hx
        · exact (gWrite_len hw).1
        · exact h2 x hx

theorem gBatch_len {p : List UInt8} {N : Int} {l : List Wr} (h : gBatch p = .ok (N, l)) : (l.length ≤ 64 ∧ 1 ≤ l.length) ∧ (∀ w, w ∈ l → w.row.length ≤ p.length) ∧ 1 ≤ N := by
  unfold gBatch at h
  split at h
  · cases h
  · rename_i N' hN
    split at h
    · cases h
    · rename_i n hn
      split at h
      · cases h
      · rename_i l' a hl
        split at h
        · cases h
        · cases h
          obtain ⟨h1, h2⟩ := gLoop_len _ _ _ _ _ hl
          have hb : 1 ≤ n ∧ n ≤ 64 := by
            unfold gNum at hn
            split at hn
            · cases hn
            · split at hn
              · rename_i hh
                cases hn
                exact hh
              · cases hn
          have hc : 1 ≤ N := by
            unfold gNum at hN
            split at hN
            · cases hN
            · split at hN
              · rename_i hh
                cases hN
                exact hh.1
              · cases hN
          exact ⟨by omega, h2, hc⟩

/-- What Decode's batch is. -/
def decB : Except (Nat × Int) (Int × List Wr) → Int × List Wr
  | .ok r => r
  | .error _ => (0, [])
def decAt : Except (Nat × Int) (Int × List Wr) → Int
  | .ok _ => ((0 : Nat) : Int)
  | .error r => (r.1 : Nat)
def decE : Except (Nat × Int) (Int × List Wr) → Int
  | .ok _ => 0
  | .error r => r.2

theorem decRet_eq (r : Except (Nat × Int) (Int × List Wr)) : decRet r = .tup [batAV none false (decB r).1 (decB r).2, .int .i64 (decAt r), .int .i64 (decE r)] := by
  cases r <;> rfl

theorem decB_len (p : List UInt8) : (decB (gBatch p)).2.length ≤ 64 ∧ ∀ w, w ∈ (decB (gBatch p)).2 → w.row.length ≤ p.length := by
  cases h : gBatch p with
  | error e => exact ⟨by simp [decB], by simp [decB]⟩
  | ok r => exact ⟨(gBatch_len h).1.1, (gBatch_len h).2.1⟩

theorem readsN (nl : Option Bool) (own : Bool) (p : List UInt8) (hp : p.length ≤ 100000) : VCall Tryd.prog 10 [.sl 1 nl own (bs p)] [G0] (.bool true) [G0] := by
  refine VCall.ofS (tr []) f10 (Nat.le_of_ble_eq_true rfl) (Nat.le_refl _) (.bool _) hob_G0 ?_
  have h1 := decN nl false p hp
  have h2 := rDecN nl false p hp
  have h3 := decB_len p
  rw [decRet_eq] at h1 h2
  generalize decB (gBatch p) = B at h1 h2 h3
  generalize decAt (gBatch p) = A at h1 h2
  generalize decE (gBatch p) = E at h1 h2
  obtain ⟨N, l⟩ := B
  simp only at h1 h2 h3
  have h4 := rSameN none none false false N N l l (by omega) (fun w hw => by have := h3.2 w hw; omega)
  rw [decide_eq_true (⟨rfl, rfl⟩ : N = N ∧ l = l)] at h4
  refine call_h h1 ?_
  refine call_p h2 ?_
  refine guard_t (beq_self_eq_true _) ?_
  rw [beq_self_eq_true]
  repeat (first | refine guard_t rfl ?_ | refine guard_f (by decide) ?_)
  refine guard_t (beq_self_eq_true _) ?_
  rw [beq_self_eq_true]
  repeat (first | refine guard_t rfl ?_ | refine guard_f (by decide) ?_)
  refine call_p h4 ?_
  exact ⟨⟨_, rfl⟩, rfl⟩

end Go.Proofs.YtjbgdmebpnfpnaaDoor.V

/- The law RecordReads. -/
namespace Go.Proofs.YtjbgdmebpnfpnaaDoor.V
open Go.IntWalk Go.Lib

def head12 : List UInt8 := [0, 0, 0, 0, 0, 0, 0, 9, 0, 2, 0, 1]

theorem recordReadsN (nl : Option Bool) (own : Bool) (p : List UInt8) : VCall Tryd.prog 3 [.sl 1 nl own (bs p)] [G0] (.bool true) [G0] := by
  refine VCall.ofS (tr []) f3 (Nat.le_of_ble_eq_true rfl) (Nat.le_refl _) (.bool _) hob_G0 ?_
  by_cases hp : p.length ≤ 200
  · refine cond_f (by rw [bs_len]; exact decide_eq_false (by omega)) ?_
    refine call_h shortN ?_
    repeat (first | refine guard_t rfl ?_ | refine guard_f (by decide) ?_)
    refine call_h (readsN _ _ p (by omega)) ?_
    repeat (first | refine guard_t rfl ?_ | refine guard_f (by decide) ?_)
    refine call_p (joinN (some false) _ true _ head12 p (by simp [head12]; omega)) ?_
    repeat (first | refine guard_t rfl ?_ | refine guard_f (by decide) ?_)
    refine call_h (readsN _ _ (head12 ++ p) (by simp [head12]; omega)) ?_
    repeat (first | refine guard_t rfl ?_ | refine guard_f (by decide) ?_)
    exact ⟨⟨_, rfl⟩, rfl⟩
  · refine cond_t (by rw [bs_len]; exact decide_eq_true (by omega)) ?_
    refine call_h shortN ?_
    exact ⟨⟨_, rfl⟩, rfl⟩

end Go.Proofs.YtjbgdmebpnfpnaaDoor.V

/- The reference's Encode. -/
namespace Go.Proofs.YtjbgdmebpnfpnaaDoor.V
open Go.IntWalk Go.Lib

/-- A write's bytes. -/
def encW (w : Wr) : List UInt8 := be w.key.length 2 ++ (w.key ++ (match w.gone with | true => [1] | false => 0 :: (be w.row.length 2 ++ w.row)))
/-- A batch's bytes. -/
def encB (N : Int) (l : List Wr) : List UInt8 := (be N 8 ++ be l.length 2) ++ l.flatMap encW

theorem u64_len (n : Nat) (h : n ≤ 1000000) : IntKind.u64.wrap (n : Int) = (n : Int) := u64_in _ (by omega)

def enAt (p : List UInt8) (i : Nat) : List (Nat × AV) := [(1, .ptr (some (0, 0))), (3, .sl 1 none true (bs p)), (4, .int .i64 i)]

theorem en_np (p : List UInt8) (i : Nat) : ∀ q, q ∈ enAt p i → NP (fun i => i < 1) q.2 := by
  intro q hq
  simp only [enAt, List.mem_cons, List.not_mem_nil, or_false] at hq
  rcases hq with rfl | rfl | rfl
  · exact .ptr _ _ (by simp)
  · exact np_bs _
  · exact .int _ _

theorem bxS_np {ok : Nat → Prop} (N : Int) (l : List Wr) : NPo ok (bxS N l) := np_cons (.int _ _) (np_cons (np_ws _) np_nil)

theorem enLoop (N : Int) (l : List Wr) (T : List UInt8) (hT : T.length ≤ 1000000) (R : VE → Sy → Prop) (hR : R (.exit 0) ⟨[], [(3, .sl 1 none true (bs T))], [bxS N l]⟩) :
    ∀ (g i : Nat) (p : List UInt8), i + g = l.length → l.length ≤ 1000000 → p ++ (l.drop i).flatMap encW = T → VloopS Tryd.prog (tr [2, 3, 28, 35, 41, 44, 47, 54, 58]) 59 0 c12b0 (exW 59 R) ⟨[], enAt p i, [bxS N l]⟩
  | 0, i, p, hg, hl, he => by
    rw [List.drop_eq_nil_of_le (by omega)] at he
    have he : p = T := by simpa using he
    subst he
    refine VloopS.round ?_
    refine cond_f (by rw [List.length_map]; exact decide_eq_false (by omega)) ?_
    exact ex_w hR rfl ⟨.refl _, trivial⟩ rfl
  | g + 1, i, p, hg, hl, he => by
    have hlt : i < l.length := by omega
    rw [List.drop_eq_getElem_cons hlt, List.flatMap_cons, ← List.append_assoc] at he
    have hlen : p.length + (encW l[i]).length ≤ 1000000 := by
      have := congrArg List.length he
      simp only [List.length_append] at this
      omega
    refine VloopS.round ?_
    refine cond_t (by rw [List.length_map]; exact decide_eq_true (by omega)) ?_
    refine And.intro rfl (And.intro (Int.natCast_nonneg i) (Exists.intro l[i].c (And.intro (ws_get hlt) ?_)))
    generalize l[i] = w at he hlen
    have wi : IntKind.i64.wrap ((i : Int) + 1) = ((i + 1 : Nat) : Int) := by rw [i64_in _ (by omega)]; omega
    have hkl : w.key.length ≤ 1000000 := by unfold encW at hlen; simp only [List.length_append] at hlen; omega
    have nx := enLoop N l T hT R hR g (i + 1) (p ++ encW w) (by omega) hl he
    have fin : ∀ {x : AV} {e : HObj}, x = .sl 1 none true (bs (p ++ encW w)) → ∀ {σ : Sy}, σ.get 1 = .ptr (some (0, 0)) → σ.get 3 = x → σ.get 4 = .int .i64 (IntKind.i64.wrap ((i : Int) + 1)) → σ.h = [bxS N l] ++ [e] → VloopS Tryd.prog (tr [2, 3, 28, 35, 41, 44, 47, 54, 58]) 59 0 c12b0 (exW 59 R) σ := by
      intro x e hx σ h1 h3 h4 hh
      refine VloopS.weakBox (l := enAt (p ++ encW w) (i + 1)) (h := [bxS N l]) (ex := [e]) rfl ⟨.eq h1, .eq (h3.trans hx), .eq (h4.trans (int_eq wi)), trivial⟩ hh (Nat.zero_le _) (en_np _ _) (fun o ho => by rw [List.mem_singleton.1 ho]; exact bxS_np _ _) nx
    have hrl : w.gone = false → w.row.length ≤ 1000000 ∧ p.length + w.key.length + w.row.length + 10 ≤ 1000010 := fun hg => by
      unfold encW at hlen
      rw [hg] at hlen
      simp only [List.length_append, List.length_cons] at hlen
      omega
    have hbe : be (IntKind.u64.wrap ((st w.key).size : Int)) 2 = be w.key.length 2 := by rw [st_size, u64_len _ hkl]
    refine call_p (numSN _ 2 (by decide)) ?_
    rw [hbe]
    have hpl : p.length ≤ 1000000 := by omega
    refine And.intro (.inl ⟨rfl, rfl⟩) (And.intro (.inl rfl) (And.intro (by rw [bs_len, bs_len, be_len]; omega) ?_))
    refine And.intro (.inl ⟨rfl, rfl⟩) (And.intro (by rw [List.length_append, bs_len, bs_len, be_len, st_size]; omega) ?_)
    cases hgo : w.gone with
    | true =>
      refine cond_t rfl ?_
      refine And.intro (.inl ⟨rfl, rfl⟩) (And.intro (.inl rfl) (And.intro (by simp only [List.length_append, bs_len, be_len, bs_st, List.length_cons, List.length_nil]; omega) ?_))
      refine fin ?_ rfl rfl rfl rfl
      refine sl_eq ?_
      show ((bs p ++ bs (be w.key.length 2)) ++ bytesAV (st w.key)) ++ [[AV.int .u8 1]] = _
      have e1 : [[AV.int .u8 1]] = bs [1] := rfl
      rw [e1, bs_st, bs_app, bs_app, bs_app]
      unfold encW
      rw [hgo]
      simp only [List.append_assoc]
    | false =>
      obtain ⟨hr1, hr2⟩ := hrl hgo
      refine cond_f rfl ?_
      refine And.intro (.inl ⟨rfl, rfl⟩) (And.intro (.inl rfl) (And.intro (by simp only [List.length_append, bs_len, be_len, bs_st, List.length_cons, List.length_nil]; omega) ?_))
      have hbr : be (IntKind.u64.wrap ((bs w.row).length : Int)) 2 = be w.row.length 2 := by rw [bs_len, u64_len _ hr1]
      refine call_p (numSN _ 2 (by decide)) ?_
      rw [hbr]
      refine And.intro (.inl ⟨rfl, rfl⟩) (And.intro (.inl rfl) (And.intro (by simp only [List.length_append, bs_len, be_len, bs_st, List.length_cons, List.length_nil]; omega) ?_))
      refine And.intro (.inl ⟨rfl, rfl⟩) (And.intro (.inl rfl) (And.intro (by simp only [List.length_append, bs_len, be_len, bs_st, List.length_cons, List.length_nil]; omega) ?_))
      refine fin ?_ rfl rfl rfl rfl
      refine sl_eq ?_
      show ((((bs p ++ bs (be w.key.length 2)) ++ bytesAV (st w.key)) ++ [[AV.int .u8 0]]) ++ bs (be w.row.length 2)) ++ bs w.row = _
      have e1 : [[AV.int .u8 0]] = bs [0] := rfl
      rw [e1, bs_st, bs_app, bs_app, bs_app, bs_app, bs_app]
      unfold encW
      rw [hgo]
      simp only [List.append_assoc, List.cons_append, List.nil_append]

theorem encB_len (N : Int) (l : List Wr) : (encB N l).length = 10 + (l.flatMap encW).length := by
  unfold encB
  rw [List.length_append, List.length_append, be_len, be_len]

theorem encN0 (N : Int) (l : List Wr) (hl : l.length ≤ 1000000) (hT : (encB N l).length ≤ 1000000) : PCallN Tryd.prog 12 [batAV none false N l] (.sl 1 none true (bs (encB N l))) := by
  refine PCallN.of (tr [2, 3, 28, 35, 41, 44, 47, 54, 58]) f12 (Nat.le_of_ble_eq_true rfl) (np_cons (np_batAV _ _ _ _) np_nil) (np_bs _) ?_
  refine call_d (numSN _ 8 (by decide)) ?_
  refine call_d (numSN _ 2 (by decide)) ?_
  have h8 : be (IntKind.u64.wrap N) 8 = be N 8 := be_u64 N
  have h2 : be (IntKind.u64.wrap ((l.map Wr.c).length : Int)) 2 = be l.length 2 := by rw [List.length_map, u64_len _ hl]
  rw [h8, h2]
  refine call_d (joinN none none true true (be N 8) (be l.length 2) (by rw [be_len, be_len]; decide)) ?_
  refine And.intro (by kernel_rfl) ?_
  refine VloopS.weakE (l := enAt (be N 8 ++ be l.length 2) 0) (h := [bxS N l]) rfl ⟨.refl _, .refl _, .eq (int_eq rfl), trivial⟩ rfl (Nat.zero_le _) (VloopS.exW (enLoop N l (encB N l) hT _ ?_ l.length 0 _ (by omega) hl rfl))
  exact sl_eq rfl

theorem encN (nl : Option Bool) (own : Bool) (N : Int) (l : List Wr) (hl : l.length ≤ 1000000) (hT : (encB N l).length ≤ 1000000) : PCallN Tryd.prog 12 [batAV nl own N l] (.sl 1 none true (bs (encB N l))) :=
  PCallN.weakArgs (.cons _ _ _ _ (wk_bat _ _ _ _) .nil) (np_cons (np_batAV _ _ _ _) np_nil) (encN0 N l hl hT)

end Go.Proofs.YtjbgdmebpnfpnaaDoor.V

/- Plain laws: a right batch's bytes are read as that batch; where they are cut, reading ends too soon. -/
namespace Go.Proofs.YtjbgdmebpnfpnaaDoor.V
open Go.IntWalk Go.Lib

theorem num_snoc_val (l : List UInt8) (b : UInt8) : ((num (l ++ [b])).toNat : Int) = (256 * (num l).toNat + b.toNat) % 18446744073709551616 := by
  have h := readStep (num l) b
  rw [← num_snoc, w_u64, w_u64, w_u64] at h
  omega

theorem byteAt_succ (n : Int) (m : Nat) : byteAt n (m + 1) = byteAt (n / 256) m := by
  unfold byteAt
  rw [Int.ediv_ediv_of_nonneg (by decide), show (2 : Int) ^ (8 * (m + 1)) = 256 * 2 ^ (8 * m) by rw [Nat.mul_add, Int.pow_add, Int.mul_comm]; rfl]

theorem be_snoc (n : Int) : ∀ m, be n (m + 1) = be (n / 256) m ++ [byteAt n 0]
  | 0 => rfl
  | m + 1 => by
    rw [be, be_snoc n m, be, byteAt_succ]
    rfl

theorem num_be_succ (n : Int) (m : Nat) : ((num (be n (m + 1))).toNat : Int) = (256 * (num (be (n / 256) m)).toNat + n % 256) % 18446744073709551616 := by
  rw [be_snoc, num_snoc_val, byteAt_toNat]
  simp

theorem num_be2 (n : Int) : ((num (be n 2)).toNat : Int) = n % 65536 := by
  have h0 : ∀ n : Int, ((num (be n 0)).toNat : Int) = 0 := fun n => rfl
  have h1 : ∀ n : Int, ((num (be n 1)).toNat : Int) = n % 256 := fun n => by rw [num_be_succ, h0]; omega
  rw [num_be_succ, h1]
  omega

theorem num_be8 (n : Int) : ((num (be n 8)).toNat : Int) = n % 18446744073709551616 := by
  have h2 : ∀ n : Int, ((num (be n 2)).toNat : Int) = n % 65536 := num_be2
  have h3 : ∀ n : Int, ((num (be n 3)).toNat : Int) = n % 16777216 := fun n => by rw [num_be_succ, h2]; omega
  have h4 : ∀ n : Int, ((num (be n 4)).toNat : Int) = n % 4294967296 := fun n => by rw [num_be_succ, h3]; omega
  have h5 : ∀ n : Int, ((num (be n 5)).toNat : Int) = n % 1099511627776 := fun n => by rw [num_be_succ, h4]; omega
  have h6 : ∀ n : Int, ((num (be n 6)).toNat : Int) = n % 281474976710656 := fun n => by rw [num_be_succ, h5]; omega
  have h7 : ∀ n : Int, ((num (be n 7)).toNat : Int) = n % 72057594037927936 := fun n => by rw [num_be_succ, h6]; omega
  rw [num_be_succ, h7]
  omega

theorem nv_be2 (n : Nat) (h : n ≤ 65535) : nv (be n 2) = (n : Int) := by
  unfold nv
  rw [num_be2, i64_in _ (by omega)]
  omega

theorem nv_be8 (n : Int) (h : 0 ≤ n) (h2 : n ≤ 9223372036854775807) : nv (be n 8) = n := by
  unfold nv
  rw [num_be8, i64_in _ (by omega)]
  omega

theorem cut_mid {α : Type} (A X B : List α) (n : Nat) (h : n = X.length) : ((A ++ (X ++ B)).drop A.length).take n = X := by
  subst h
  rw [List.drop_left, List.take_left]

theorem gNum_be2 (A B : List UInt8) (n : Nat) (lo hi : Int) (hn : n ≤ 65535) (h1 : lo ≤ n) (h2 : (n : Int) ≤ hi) : gNum (A ++ (be n 2 ++ B)) A.length 2 lo hi = .ok (n : Int) := by
  have e := cut_mid A (be n 2) B 2 (be_len _ _).symm
  rw [gNum_ok (by simp only [List.length_append, be_len]; omega) (by rw [e, nv_be2 n hn]; exact ⟨h1, h2⟩), e, nv_be2 n hn]

theorem gBlob_be (A q B : List UInt8) (lo : Int) (h1 : lo ≤ q.length) (h2 : q.length ≤ 4000) : gBlob (A ++ (be q.length 2 ++ (q ++ B))) A.length lo = .ok q := by
  unfold gBlob
  rw [gNum_be2 A (q ++ B) q.length lo 4000 (by omega) h1 (by omega)]
  simp only
  rw [if_neg (by simp only [List.length_append, be_len]; omega)]
  have e : A ++ (be q.length 2 ++ (q ++ B)) = (A ++ be q.length 2) ++ (q ++ B) := by simp
  have hl : A.length + 2 = (A ++ be (q.length : Int) 2).length := by rw [List.length_append, be_len]
  rw [e, hl, cut_mid _ q B _ (by simp)]

theorem fitsB_inv {w : Wr} {last : List UInt8} (h : fitsB w last = true) : (1 ≤ w.key.length ∧ w.key.length ≤ 4000) ∧ w.row.length ≤ 4000 ∧ sle w.key last = false ∧ (w.gone = true → w.row = []) := by
  unfold fitsB at h
  simp only [Bool.and_eq_true, decide_eq_true_eq, st_size, bs_len, Bool.not_eq_true', Bool.or_eq_true, beq_iff_eq] at h
  obtain ⟨h1, h2, h3, h4, h5⟩ := h
  refine ⟨⟨by omega, by omega⟩, by omega, h4, fun hg => ?_⟩
  rcases h5 with h5 | h5
  · rw [hg] at h5; cases h5
  · exact List.eq_nil_of_length_eq_zero (by omega)

theorem encW_len (w : Wr) : (encW w).length = 2 + w.key.length + (match w.gone with | true => 1 | false => 3 + w.row.length) := by
  unfold encW
  cases w.gone <;> simp only [List.length_append, be_len, List.length_cons, List.length_nil] <;> omega

theorem gWrite_enc (A B : List UInt8) (w : Wr) (last : List UInt8) (h : fitsB w last = true) : gWrite (A ++ (encW w ++ B)) A.length last = .ok (w, A.length + (encW w).length) := by
  obtain ⟨⟨h1, h2⟩, h3, h4, h5⟩ := fitsB_inv h
  obtain ⟨key, row, gone⟩ := w
  simp only at h1 h2 h3 h4 h5
  rw [encW_len]
  unfold gWrite
  cases gone with
  | true =>
    have hr := h5 rfl
    subst hr
    have e : A ++ (encW ⟨key, [], true⟩ ++ B) = A ++ (be key.length 2 ++ (key ++ (1 :: B))) := by simp [encW]
    rw [e, gBlob_be A key (1 :: B) 1 (by omega) h2]
    simp only
    rw [h4]
    simp only
    have e2 : A ++ (be key.length 2 ++ (key ++ (1 :: B))) = (A ++ (be key.length 2 ++ key)) ++ ([1] ++ B) := by simp
    have hl : A.length + 2 + key.length = (A ++ (be (key.length : Int) 2 ++ key)).length := by simp only [List.length_append, be_len]; omega
    have e3 := cut_mid (A ++ (be (key.length : Int) 2 ++ key)) [1] B 1 rfl
    have hn : nv [1] = 1 := by rw [nv_one]; rfl
    rw [hl, e2, gNum_ok (by simp only [List.length_append, be_len, List.length_cons, List.length_nil]; omega) (by rw [e3, hn]; decide), e3, hn]
    simp only
    rw [if_pos trivial, ← hl]
    congr 2
    omega
  | false =>
    have e : A ++ (encW ⟨key, row, false⟩ ++ B) = A ++ (be key.length 2 ++ (key ++ (0 :: (be row.length 2 ++ (row ++ B))))) := by simp [encW]
    rw [e, gBlob_be A key _ 1 (by omega) h2]
    simp only
    rw [h4]
    simp only
    have e2 : A ++ (be key.length 2 ++ (key ++ (0 :: (be row.length 2 ++ (row ++ B))))) = (A ++ (be key.length 2 ++ key)) ++ ([0] ++ (be row.length 2 ++ (row ++ B))) := by simp
    have hl : A.length + 2 + key.length = (A ++ (be (key.length : Int) 2 ++ key)).length := by simp only [List.length_append, be_len]; omega
    have e3 := cut_mid (A ++ (be (key.length : Int) 2 ++ key)) [0] (be row.length 2 ++ (row ++ B)) 1 rfl
    have hn : nv [0] = 0 := by rw [nv_one]; rfl
    rw [hl, e2, gNum_ok (by simp only [List.length_append, be_len, List.length_cons, List.length_nil]; omega) (by rw [e3, hn]; decide), e3, hn]
    simp only
    rw [if_neg (by decide)]
    have e4 : (A ++ (be key.length 2 ++ key)) ++ ([0] ++ (be row.length 2 ++ (row ++ B))) = ((A ++ (be key.length 2 ++ key)) ++ [0]) ++ (be row.length 2 ++ (row ++ B)) := by simp
    have hl2 : (A ++ (be (key.length : Int) 2 ++ key)).length + 1 = ((A ++ (be (key.length : Int) 2 ++ key)) ++ [0]).length := by simp only [List.length_append, List.length_cons, List.length_nil]
    rw [hl2, e4, gBlob_be _ row B 0 (by omega) h3]
    simp only
    congr 2
    simp only [List.length_append, be_len, List.length_cons, List.length_nil]
    omega

theorem gLoop_enc (B : List UInt8) : ∀ (ws : List Wr) (A last : List UInt8), fitsL ws last = true → gLoop (A ++ (ws.flatMap encW ++ B)) ws.length A.length last = .ok (ws, A.length + (ws.flatMap encW).length)
  | [], A, last, _ => by simp [gLoop]
  | w :: ws, A, last, h => by
    rw [fitsL, Bool.and_eq_true] at h
    have e : A ++ ((w :: ws).flatMap encW ++ B) = A ++ (encW w ++ (ws.flatMap encW ++ B)) := by simp
    rw [List.length_cons, gLoop, e, gWrite_enc A _ w last h.1]
    simp only
    have e2 : A ++ (encW w ++ (ws.flatMap encW ++ B)) = (A ++ encW w) ++ (ws.flatMap encW ++ B) := by simp
    have hl : A.length + (encW w).length = (A ++ encW w).length := by rw [List.length_append]
    rw [e2, hl, gLoop_enc B ws (A ++ encW w) w.key h.2]
    simp only
    congr 2
    simp only [List.length_append, List.flatMap_cons]
    omega

theorem rightB_inv {N : Int} {l : List Wr} (h : rightB N l = true) : fitsL l [] = true ∧ 1 ≤ N ∧ 1 ≤ l.length ∧ l.length ≤ 64 := by
  unfold rightB at h
  simp only [Bool.and_eq_true, decide_eq_true_eq, List.length_map] at h
  exact ⟨h.1, h.2.1, by omega, by omega⟩

/-- A right batch is read as it was written. -/
theorem gBatch_enc {N : Int} {l : List Wr} (h : rightB N l = true) (hN : N ≤ 9223372036854775807) : gBatch (encB N l) = .ok (N, l) := by
  obtain ⟨h1, h2, h3, h4⟩ := rightB_inv h
  have e1 := cut_mid [] (be N 8) (be l.length 2 ++ l.flatMap encW) 8 (be_len _ _).symm
  have eB : encB N l = [] ++ (be N 8 ++ (be l.length 2 ++ l.flatMap encW)) := by simp [encB]
  have eB2 : encB N l = be N 8 ++ (be l.length 2 ++ l.flatMap encW) := by simp [encB]
  have eB3 : encB N l = (be N 8 ++ be l.length 2) ++ (l.flatMap encW ++ []) := by simp [encB]
  have hlen := encB_len N l
  unfold gBatch
  rw [gNum_ok (by omega) (by rw [eB]; rw [show (0 : Nat) = ([] : List UInt8).length from rfl, e1, nv_be8 N (by omega) hN]; exact ⟨h2, hN⟩)]
  rw [show nv (((encB N l).drop 0).take 8) = N by rw [eB]; rw [show (0 : Nat) = ([] : List UInt8).length from rfl, e1, nv_be8 N (by omega) hN]]
  simp only
  have hn := gNum_be2 (be N 8) (l.flatMap encW) l.length 1 64 (by omega) (by omega) (by omega)
  rw [be_len, ← eB2] at hn
  rw [hn]
  simp only
  have hg := gLoop_enc [] l (be N 8 ++ be l.length 2) [] h1
  rw [← eB3, List.length_append, be_len, be_len] at hg
  rw [Int.toNat_natCast, hg]
  simp only
  rw [if_neg (by omega)]

/-! ### cut -/

theorem take_cut {p : List UInt8} {k a n : Nat} (h : a + n ≤ k) : (((p.take k).drop a).take n) = (p.drop a).take n := by
  rw [List.drop_take, List.take_take, Nat.min_eq_left (by omega)]

theorem gNum_inv {p : List UInt8} {a n : Nat} {lo hi x : Int} (h : gNum p a n lo hi = .ok x) : ¬ p.length - a < n ∧ (lo ≤ nv ((p.drop a).take n) ∧ nv ((p.drop a).take n) ≤ hi) ∧ x = nv ((p.drop a).take n) := by
  unfold gNum at h
  split at h
  · cases h
  · split at h
    · rename_i h1 h2
      cases h
      exact ⟨h1, h2, rfl⟩
    · cases h

theorem gNum_cut {p : List UInt8} {k a n : Nat} {lo hi x : Int} (h : gNum p a n lo hi = .ok x) (ha : a ≤ k) (h0 : 0 < n) : (a + n ≤ k → gNum (p.take k) a n lo hi = .ok x) ∧ (k < a + n → gNum (p.take k) a n lo hi = .error (a, 3)) := by
  obtain ⟨h1, h2, rfl⟩ := gNum_inv h
  refine ⟨fun hk => ?_, fun hk => gNum_short (by rw [List.length_take]; omega)⟩
  have e := take_cut (p := p) hk
  rw [← e] at h2 ⊢
  exact gNum_ok (by rw [List.length_take]; omega) h2

theorem gBlob_inv {p q : List UInt8} {a : Nat} {lo : Int} (h : gBlob p a lo = .ok q) : gNum p a 2 lo 4000 = .ok (q.length : Int) ∧ a + 2 + q.length ≤ p.length ∧ q = (p.drop (a + 2)).take q.length := by
  unfold gBlob at h
  split at h
  · cases h
  · rename_i n hn
    obtain ⟨h1, h2, h3⟩ := gNum_inv hn
    have hb := nv2_bound (p := p) (a := a) (by omega)
    split at h
    · cases h
    · rename_i h4
      cases h
      have hl : ((p.drop (a + 2)).take n.toNat).length = n.toNat := by rw [List.length_take, List.length_drop]; omega
      rw [hl]
      exact ⟨by rw [hn]; congr 1; omega, by omega, rfl⟩

theorem gBlob_cut {p q : List UInt8} {k a : Nat} {lo : Int} (h : gBlob p a lo = .ok q) (ha : a ≤ k) : (a + 2 + q.length ≤ k → gBlob (p.take k) a lo = .ok q) ∧ (k < a + 2 + q.length → ∃ b, b ≤ k ∧ gBlob (p.take k) a lo = .error (b, 3)) := by
  obtain ⟨h1, h2, h3⟩ := gBlob_inv h
  obtain ⟨c1, c2⟩ := gNum_cut h1 ha (by decide)
  refine ⟨fun hk => ?_, fun hk => ?_⟩
  · unfold gBlob
    rw [c1 (by omega)]
    simp only
    rw [if_neg (by rw [List.length_take]; omega), Int.toNat_natCast, take_cut (by omega), ← h3]
  · by_cases hk2 : a + 2 ≤ k
    · refine ⟨a + 2, hk2, ?_⟩
      unfold gBlob
      rw [c1 hk2]
      simp only
      rw [if_pos (by rw [List.length_take]; omega)]
    · refine ⟨a, ha, ?_⟩
      unfold gBlob
      rw [c2 (by omega)]

theorem gWrite_inv {p last : List UInt8} {a a' : Nat} {w : Wr} (h : gWrite p a last = .ok (w, a')) : gBlob p a 1 = .ok w.key ∧ sle w.key last = false ∧ ∃ g, gNum p (a + 2 + w.key.length) 1 0 1 = .ok g ∧
    ((g = 1 ∧ w = ⟨w.key, [], true⟩ ∧ a' = a + 2 + w.key.length + 1) ∨ (g ≠ 1 ∧ w = ⟨w.key, w.row, false⟩ ∧ gBlob p (a + 2 + w.key.length + 1) 0 = .ok w.row ∧ a' = a + 2 + w.key.length + 1 + 2 + w.row.length)) := by
  unfold gWrite at h
  split at h
  · cases h
  · rename_i key hk
    split at h
    · cases h
    · rename_i hs
      split at h
      · cases h
      · rename_i g hg
        split at h
        · rename_i h1
          cases h
          exact ⟨hk, hs, g, hg, .inl ⟨h1, rfl, rfl⟩⟩
        · rename_i h1
          split at h
          · cases h
          · rename_i row hr
            cases h
            exact ⟨hk, hs, g, hg, .inr ⟨h1, rfl, hr, rfl⟩⟩

theorem gWrite_cut {p last : List UInt8} {k a a' : Nat} {w : Wr} (h : gWrite p a last = .ok (w, a')) (ha : a ≤ k) : (a' ≤ k → gWrite (p.take k) a last = .ok (w, a')) ∧ (k < a' → ∃ b, b ≤ k ∧ gWrite (p.take k) a last = .error (b, 3)) := by
  obtain ⟨h1, h2, g, h3, h4⟩ := gWrite_inv h
  obtain ⟨c1, c2⟩ := gBlob_cut h1 ha
  by_cases hk1 : k < a + 2 + w.key.length
  · obtain ⟨b, hb, e⟩ := c2 hk1
    refine ⟨fun hk => ?_, fun _ => ⟨b, hb, by unfold gWrite; rw [e]⟩⟩
    rcases h4 with ⟨_, _, h5⟩ | ⟨_, _, _, h5⟩ <;> omega
  · have e1 := c1 (by omega)
    obtain ⟨d1, d2⟩ := gNum_cut h3 (k := k) (by omega) (by decide)
    by_cases hk2 : k < a + 2 + w.key.length + 1
    · refine ⟨fun hk => ?_, fun _ => ⟨a + 2 + w.key.length, by omega, by unfold gWrite; rw [e1]; simp only; rw [h2]; simp only; rw [d2 hk2]⟩⟩
      rcases h4 with ⟨_, _, h5⟩ | ⟨_, _, _, h5⟩ <;> omega
    · have e2 := d1 (by omega)
      rcases h4 with ⟨g1, g2, g3⟩ | ⟨g1, g2, g3, g4⟩
      · refine ⟨fun hk => ?_, fun hk => by omega⟩
        unfold gWrite
        rw [e1]; simp only; rw [h2]; simp only; rw [e2]; simp only
        rw [if_pos g1, ← g2, g3]
      · obtain ⟨f1, f2⟩ := gBlob_cut g3 (k := k) (by omega)
        refine ⟨fun hk => ?_, fun hk => ?_⟩
        · unfold gWrite
          rw [e1]; simp only; rw [h2]; simp only; rw [e2]; simp only
          rw [if_neg g1, f1 (by omega)]; simp only
          rw [← g2, g4]
        · obtain ⟨b, hb, e⟩ := f2 (by omega)
          refine ⟨b, hb, ?_⟩
          unfold gWrite
          rw [e1]; simp only; rw [h2]; simp only; rw [e2]; simp only
          rw [if_neg g1, e]

theorem gLoop_cut {p : List UInt8} {k : Nat} : ∀ (n a : Nat) (last : List UInt8) (l : List Wr) (a' : Nat), gLoop p n a last = .ok (l, a') → a ≤ k → (a' ≤ k → gLoop (p.take k) n a last = .ok (l, a')) ∧ (k < a' → ∃ b, b ≤ k ∧ ∃ l', gLoop (p.take k) n a last = .error (b, 3, l'))
  | 0, a, last, l, a', h, ha => by
    rw [gLoop] at h
    cases h
    exact ⟨fun _ => rfl, fun h => by omega⟩
  | n + 1, a, last, l, a', h, ha => by
    rw [gLoop] at h
    cases hw : gWrite p a last with
    | error e => rw [hw] at h; cases h
    | ok r =>
      obtain ⟨w, a1⟩ := r
      rw [hw] at h
      simp only at h
      cases hl : gLoop p n a1 w.key with
      | error e => rw [hl] at h; cases h
      | ok q =>
        obtain ⟨l2, a2⟩ := q
        rw [hl] at h
        cases h
        obtain ⟨c1, c2⟩ := gWrite_cut hw ha
        have hle : ∀ (n a : Nat) (last : List UInt8) (l : List Wr) (a' : Nat), gLoop p n a last = .ok (l, a') → a ≤ a' := by
          intro n
          induction n with
          | zero => intro a last l a' h; rw [gLoop] at h; cases h; exact Nat.le_refl _
          | succ n ih =>
            intro a last l a' h
            rw [gLoop] at h
            cases hw : gWrite p a last with
            | error e => rw [hw] at h; cases h
            | ok r =>
              obtain ⟨w, a1⟩ := r
              rw [hw] at h
              simp only at h
              cases hl : gLoop p n a1 w.key with
              | error e => rw [hl] at h; cases h
              | ok q =>
                obtain ⟨l2, a2⟩ := q
                rw [hl] at h
                cases h
                have := ih _ _ _ _ hl
                obtain ⟨_, _, _, _, h4⟩ := gWrite_inv hw
                rcases h4 with ⟨_, _, h5⟩ | ⟨_, _, _, h5⟩ <;> omega
        have h12 := hle _ _ _ _ _ hl
        by_cases hk : k < a1
        · obtain ⟨b, hb, e⟩ := c2 hk
          exact ⟨fun h => by omega, fun _ => ⟨b, hb, [], by rw [gLoop, e]⟩⟩
        · have e1 := c1 (by omega)
          obtain ⟨d1, d2⟩ := gLoop_cut (k := k) n a1 w.key l2 a' hl (by omega)
          refine ⟨fun hk => by rw [gLoop, e1]; simp only; rw [d1 hk], fun hk => ?_⟩
          obtain ⟨b, hb, l', e⟩ := d2 hk
          exact ⟨b, hb, w :: l', by rw [gLoop, e1]; simp only; rw [e]⟩

theorem gBatch_cut {p : List UInt8} {N : Int} {l : List Wr} {k : Nat} (h : gBatch p = .ok (N, l)) (hk : k < p.length) : ∃ b, b ≤ k ∧ gBatch (p.take k) = .error (b, 3) := by
  unfold gBatch at h
  split at h
  · cases h
  · rename_i N' hN
    obtain ⟨c1, c2⟩ := gNum_cut hN (k := k) (Nat.zero_le _) (by decide)
    split at h
    · cases h
    · rename_i n hn
      by_cases hk8 : k < 0 + 8
      · exact ⟨0, Nat.zero_le _, by unfold gBatch; rw [c2 hk8]⟩
      · have e1 := c1 (by omega)
        obtain ⟨d1, d2⟩ := gNum_cut hn (k := k) (by omega) (by decide)
        split at h
        · cases h
        · rename_i l' a hl
          split at h
          · cases h
          · rename_i hna
            cases h
            by_cases hk10 : k < 8 + 2
            · exact ⟨8, by omega, by unfold gBatch; rw [e1]; simp only; rw [d2 hk10]⟩
            · have e2 := d1 (by omega)
              obtain ⟨f1, f2⟩ := gLoop_cut n.toNat 10 [] l a hl (k := k) (by omega)
              obtain ⟨b, hb, l', e⟩ := f2 (by omega)
              exact ⟨b, hb, by unfold gBatch; rw [e1]; simp only; rw [e2]; simp only; rw [e]⟩

/-! ### batches of none, or of too many -/

theorem gBatch_many {N : Int} {l : List Wr} (hN : 1 ≤ N ∧ N ≤ 9223372036854775807) (hl : l.length = 0 ∨ 64 < l.length) (hl2 : l.length ≤ 65535) : gBatch (encB N l) = .error (8, 2) := by
  have e1 := cut_mid [] (be N 8) (be l.length 2 ++ l.flatMap encW) 8 (be_len _ _).symm
  have e2 := cut_mid (be N 8) (be l.length 2) (l.flatMap encW) 2 (be_len _ _).symm
  have eB : encB N l = [] ++ (be N 8 ++ (be l.length 2 ++ l.flatMap encW)) := by simp [encB]
  have eB2 : encB N l = be N 8 ++ (be l.length 2 ++ l.flatMap encW) := by simp [encB]
  have hlen := encB_len N l
  rw [be_len, ← eB2] at e2
  unfold gBatch
  rw [gNum_ok (by omega) (by rw [eB]; rw [show (0 : Nat) = ([] : List UInt8).length from rfl, e1, nv_be8 N (by omega) hN.2]; exact hN)]
  simp only
  rw [gNum_bad (by omega) (by rw [e2, nv_be2 _ hl2]; omega)]

end Go.Proofs.YtjbgdmebpnfpnaaDoor.V
