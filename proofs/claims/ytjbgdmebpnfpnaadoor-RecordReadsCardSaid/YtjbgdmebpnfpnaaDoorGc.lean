/-
  Batches that are alike.
-/
import Derived.Test.YtjbgdmebpnfpnaaDoorGb

/- The reference's Decode. -/
namespace Go.Proofs.YtjbgdmebpnfpnaaDoor.V
open Go.IntWalk Go.Lib

theorem gNum_short {p : List UInt8} {a n : Nat} {lo hi : Int} (h : p.length - a < n) : gNum p a n lo hi = .error (a, 3) := by unfold gNum; rw [if_pos h]
theorem gNum_bad {p : List UInt8} {a n : Nat} {lo hi : Int} (h : ¬ p.length - a < n) (h2 : ¬ (lo ≤ nv ((p.drop a).take n) ∧ nv ((p.drop a).take n) ≤ hi)) : gNum p a n lo hi = .error (a, 2) := by unfold gNum; rw [if_neg h, if_neg h2]
theorem gNum_ok {p : List UInt8} {a n : Nat} {lo hi : Int} (h : ¬ p.length - a < n) (h2 : lo ≤ nv ((p.drop a).take n) ∧ nv ((p.drop a).take n) ≤ hi) : gNum p a n lo hi = .ok (nv ((p.drop a).take n)) := by unfold gNum; rw [if_neg h, if_pos h2]

theorem nv_le (l : List UInt8) : nv l ≤ 9223372036854775807 := by
  unfold nv
  rw [IntKind.wrap_i64]
  omega

theorem nv_snoc {l : List UInt8} {b : UInt8} (h : (num l).toNat < 1099511627776) : (num (l ++ [b])).toNat = 256 * (num l).toNat + b.toNat := by
  have h1 := readStep (num l) b
  rw [← num_snoc, w_u64, w_u64, w_u64] at h1
  have := b.toNat_lt
  omega

theorem nv_one (b : UInt8) : nv [b] = (b.toNat : Int) := by
  have h := nv_snoc (l := []) (b := b) (by decide)
  have := b.toNat_lt
  unfold nv
  rw [List.nil_append] at h
  rw [h]
  have e : (num []).toNat = 0 := rfl
  rw [e, i64_in _ (by omega)]
  omega

theorem nv_two (a b : UInt8) : nv [a, b] = 256 * (a.toNat : Int) + b.toNat := by
  have h := nv_snoc (l := []) (b := a) (by decide)
  have e : (num []).toNat = 0 := rfl
  rw [List.nil_append, e] at h
  have h2 := nv_snoc (l := [a]) (b := b) (by have := a.toNat_lt; omega)
  have := b.toNat_lt
  have := a.toNat_lt
  unfold nv
  have e2 : [a, b] = [a] ++ [b] := rfl
  rw [e2, h2, h, i64_in _ (by omega)]
  omega

theorem cut_two {p : List UInt8} {a : Nat} (h : a + 2 ≤ p.length) : ∃ x y, (p.drop a).take 2 = [x, y] := by
  have hl : ((p.drop a).take 2).length = 2 := by rw [List.length_take, List.length_drop]; omega
  match (p.drop a).take 2, hl with
  | [x, y], _ => exact ⟨x, y, rfl⟩

theorem nv2_bound {p : List UInt8} {a : Nat} (h : a + 2 ≤ p.length) : 0 ≤ nv ((p.drop a).take 2) ∧ nv ((p.drop a).take 2) ≤ 65535 := by
  obtain ⟨x, y, e⟩ := cut_two h
  rw [e, nv_two]
  have := x.toNat_lt
  have := y.toNat_lt
  omega

/-- The number that two bytes tell. -/
theorem num2 {p : List UInt8} {a : Nat} (h : a + 2 ≤ p.length) : ∃ m : Nat, (num ((p.drop a).take 2)).toNat = m ∧ m ≤ 65535 ∧ nv ((p.drop a).take 2) = (m : Int) ∧ IntKind.i64.wrap (m : Int) = m := by
  have hb := nv2_bound h
  obtain ⟨x, y, e⟩ := cut_two h
  have h1 := nv_snoc (l := []) (b := x) (by decide)
  have e0 : (num []).toNat = 0 := rfl
  rw [List.nil_append, e0] at h1
  have h2 := nv_snoc (l := [x]) (b := y) (by have := x.toNat_lt; omega)
  have e2 : [x, y] = [x] ++ [y] := rfl
  have := x.toNat_lt
  have := y.toNat_lt
  refine ⟨256 * x.toNat + y.toNat, by rw [e, e2, h2, h1]; omega, by omega, by rw [e, nv_two]; omega, i64_in _ (by omega)⟩

theorem cut_one {p : List UInt8} {a : Nat} (h : a < p.length) : (p.drop a).take 1 = [p[a]] := by
  rw [List.drop_eq_getElem_cons h, List.take_succ_cons, List.take_zero]

/-- A slice's cells, cut. -/
theorem bs_cut (p : List UInt8) (a n : Nat) (u : Int) (hu : u = ((a + n : Nat) : Int)) : ((bs p).drop (a : Int).toNat).take (u.toNat - (a : Int).toNat) = bs ((p.drop a).take n) := by
  rw [hu, bs_drop, bs_take]
  congr 2
  omega

def zb : HObj := .cells [.int .i64 0, .sl 0 (some true) true []]
def zbs : HObj := .cells [.int .i64 0, .sl 0 (some true) false []]

def rfAt (p : List UInt8) (n a : Nat) (last : List UInt8) (i : Nat) : List (Nat × AV) := [(0, .sl 1 none false (bs p)), (2, .ptr (some (0, 0))), (5, .ptr (some (1, 0))), (6, .ptr (some (2, 0))), (7, .int .i64 n), (8, .int .i64 a), (9, .str (st last)), (10, .int .i64 i)]

theorem rf_np (p : List UInt8) (n a : Nat) (last : List UInt8) (i : Nat) : ∀ q, q ∈ rfAt p n a last i → NP (fun i => i < 3) q.2 := by
  intro q hq
  simp only [rfAt, List.mem_cons, List.not_mem_nil, or_false] at hq
  rcases hq with rfl | rfl | rfl | rfl | rfl | rfl | rfl | rfl
  · exact np_bs _
  · exact .ptr _ _ (by simp)
  · exact .ptr _ _ (by simp)
  · exact .ptr _ _ (by simp)
  · exact .int _ _
  · exact .int _ _
  · exact .str _
  · exact .int _ _

theorem bx_np {ok : Nat → Prop} (N : Int) (l : List Wr) : NPo ok (bx N l) := np_cons (.int _ _) (np_cons (np_ws _) np_nil)
theorem zb_np {ok : Nat → Prop} : NPo ok zb := np_cons (.int _ _) (np_cons np_nilsl np_nil)

theorem joinNil (l : List UInt8) (h : l.length ≤ 1000000) : PCallN Tryd.prog 11 [.sl 1 none false (bs l), .sl 0 (some true) true []] (.sl 1 none true (bs l)) := by
  have h1 := joinN none none false true l [] (by simpa using h)
  rw [List.append_nil] at h1
  exact PCallN.weakArgs (.cons _ _ _ _ (.refl _) (.cons _ _ _ _ (.nil 0 1 true true none (by simp)) .nil)) (np_cons (np_bs _) (np_cons np_nilsl np_nil)) h1

theorem WkFL.app {B : Nat → Option (Nat × List (List AV))} : ∀ {xs ys zs us : List AV}, WkFL B xs ys → WkFL B zs us → WkFL B (xs ++ zs) (ys ++ us)
  | _, _, _, _, .nil, h => h
  | _, _, _, _, .cons _ _ _ _ h1 h2, h => .cons _ _ _ _ h1 (WkFL.app h2 h)

/-- One more write behind the others. -/
theorem wk_app {B : Nat → Option (Nat × List (List AV))} (acc : List Wr) (w : Wr) {x : List AV} (h : WkFL B x w.c) : WkF B (.sl 3 none true (acc.map Wr.c ++ [x])) (.sl 3 none true ((acc ++ [w]).map Wr.c)) := by
  have hl := h.length
  refine .slo _ _ _ _ _ (.inl rfl) (by simp [hl]) ?_
  rw [List.map_append, List.flatten_append, List.flatten_append]
  refine (WkFL.of _).app ?_
  simpa using h

end Go.Proofs.YtjbgdmebpnfpnaaDoor.V

/- The reference's Decode: its loop. -/
namespace Go.Proofs.YtjbgdmebpnfpnaaDoor.V
open Go.IntWalk Go.Lib

theorem rfLoop (p : List UInt8) (hp : p.length ≤ 100000) (N : Int) (n : Nat) (hn : n ≤ 64) (R : VE → Sy → Prop) (r0 : Except (Nat × Int) (List Wr × Nat))
    (hOk : ∀ l a, r0 = .ok (l, a) → R (.exit 0) ⟨[], [(0, .sl 1 none false (bs p)), (2, .ptr (some (0, 0))), (5, .ptr (some (1, 0))), (6, .ptr (some (2, 0))), (8, .int .i64 (a : Nat))], [zb, zb, bx N l]⟩)
    (hErr : ∀ b e, r0 = .error (b, e) → ∀ ex, R .ret ⟨[], [(2, .ptr (some (0, 0))), (3, .int .i64 (b : Nat)), (4, .int .i64 e)], zbs :: ex⟩) :
    ∀ (g i a : Nat) (last : List UInt8) (acc : List Wr), i + g = n → acc.length = i → a ≤ p.length → (r0 = match gLoop p g a last with | .error (b, e, _) => .error (b, e) | .ok (l, a') => .ok (acc ++ l, a')) →
      VloopS Tryd.prog (tr [1000161]) 173 0 c21b0 (exW 173 R) ⟨[], rfAt p n a last i, [zb, zb, bx N acc]⟩
  | 0, i, a, last, acc, hg, _, ha, he => by
    refine VloopS.round ?_
    refine cond_f (decide_eq_false (by omega)) ?_
    exact ex_w (hOk acc a (by rw [he]; simp [gLoop])) rfl ⟨.refl _, .refl _, .refl _, .refl _, .refl _, trivial⟩ rfl
  | g + 1, i, a, last, acc, hg, hac, ha, he => by
    have eW : ∀ b e, gWrite p a last = .error (b, e) → ∀ ex, R .ret ⟨[], [(2, .ptr (some (0, 0))), (3, .int .i64 (b : Nat)), (4, .int .i64 e)], zbs :: ex⟩ := fun b e h => hErr b e (by rw [he, gLoop, h])
    have lw : ∀ x : Nat, x ≤ 200000 → IntKind.i64.wrap ((bs p).length - (x : Int)) = (p.length : Int) - x := fun x hx => by rw [bs_len, i64_in _ (by omega)]
    have aw : ∀ x y : Nat, x ≤ 200000 → y ≤ 200000 → IntKind.i64.wrap ((x : Int) + (y : Int)) = ((x + y : Nat) : Int) := fun x y hx hy => by rw [i64_in _ (by omega)]; omega
    refine VloopS.round ?_
    refine cond_t (decide_eq_true (by omega)) ?_
    by_cases h1 : p.length - a < 2
    · refine cond_t (by rw [lw a (by omega)]; exact decide_eq_true (by omega)) ?_
      exact ex_w (eW a 3 (by rw [gWrite, gBlob, gNum_short h1]) _) rfl ⟨.refl _, .refl _, .refl _, trivial⟩ rfl
    refine cond_f (by rw [lw a (by omega)]; exact decide_eq_false (by omega)) ?_
    have w2 : IntKind.i64.wrap ((a : Int) + 2) = ((a + 2 : Nat) : Int) := aw a 2 (by omega) (by omega)
    refine And.intro (.inl rfl) (And.intro ⟨Int.natCast_nonneg _, by rw [w2]; omega, by rw [w2, bs_len]; omega⟩ ?_)
    obtain ⟨k, k1, k2, k3, wk⟩ := num2 (p := p) (a := a) (by omega)
    refine call_p (by rw [bs_cut p a 2 _ w2]; exact readN _ _ _ (by simp; omega)) ?_
    rw [k1]
    by_cases h2 : 1 ≤ nv ((p.drop a).take 2) ∧ nv ((p.drop a).take 2) ≤ 4000
    case neg =>
      have eE := eW a 2 (by rw [gWrite, gBlob, gNum_bad h1 h2])
      rw [k3] at h2
      by_cases h3 : (k : Int) < 1
      · have hd : decide (IntKind.i64.wrap (k : Int) < 1) = true := by rw [wk]; exact decide_eq_true h3
        refine guard_f (by rw [hd]; decide) ?_
        repeat (first | refine guard_t rfl ?_ | refine guard_f (by decide) ?_)
        refine cond_t rfl ?_
        exact ex_w (eE _) rfl ⟨.refl _, .refl _, .refl _, trivial⟩ rfl
      · refine guard_t (by rw [wk]; exact decide_eq_false h3) ?_
        repeat (first | refine guard_t rfl ?_ | refine guard_f (by decide) ?_)
        refine cond_t (by rw [wk]; exact decide_eq_true (by omega)) ?_
        exact ex_w (eE _) rfl ⟨.refl _, .refl _, .refl _, trivial⟩ rfl
    have hgn := gNum_ok h1 h2
    rw [k3] at hgn h2
    refine guard_t (by rw [wk]; exact decide_eq_false (by omega)) ?_
    repeat (first | refine guard_t rfl ?_ | refine guard_f (by decide) ?_)
    refine cond_f (by rw [wk]; exact decide_eq_false (by omega)) ?_
    by_cases h3 : p.length - (a + 2) < k
    · refine cond_t (by rw [wk, w2, lw (a + 2) (by omega)]; exact decide_eq_true (by omega)) ?_
      exact ex_w (eW (a + 2) 3 (by rw [gWrite, gBlob, hgn]; simp only; rw [if_pos (by omega)]) _) rfl ⟨.refl _, .eq (int_eq w2), .refl _, trivial⟩ rfl
    refine cond_f (by rw [wk, w2, lw (a + 2) (by omega)]; exact decide_eq_false (by omega)) ?_
    rw [wk, w2]
    have wk2 : IntKind.i64.wrap (((a + 2 : Nat) : Int) + (k : Int)) = ((a + 2 + k : Nat) : Int) := aw (a + 2) k (by omega) (by omega)
    refine And.intro (.inl rfl) (And.intro ⟨Int.natCast_nonneg _, by rw [wk2]; omega, by rw [wk2, bs_len]; omega⟩ ?_)
    have hkey : gBlob p a 1 = .ok ((p.drop (a + 2)).take k) := by rw [gBlob, hgn]; simp only; rw [if_neg (by omega)]; rfl
    have hkl : ((p.drop (a + 2)).take k).length = k := by rw [List.length_take, List.length_drop]; omega
    generalize hq : (p.drop (a + 2)).take k = key at hkey hkl
    refine Exists.intro key (And.intro (by rw [bs_cut p (a + 2) k _ wk2, hq]; exact toBytes_bs _) ?_)
    cases h4 : sle key last with
    | true =>
      refine cond_t h4 ?_
      exact ex_w (eW (a + 2) 2 (by rw [gWrite, hkey]; simp only; rw [h4]) _) rfl ⟨.refl _, .refl _, .refl _, trivial⟩ rfl
    | false =>
    refine cond_f h4 ?_
    by_cases h5 : p.length - (a + 2 + k) < 1
    · refine cond_t (by rw [wk2, bs_len]; exact decide_eq_true (by omega)) ?_
      exact ex_w (eW (a + 2 + k) 3 (by rw [gWrite, hkey]; simp only; rw [h4]; simp only; rw [hkl, gNum_short h5]) _) rfl ⟨.refl _, .eq (int_eq wk2), .refl _, trivial⟩ rfl
    refine cond_f (by rw [wk2, bs_len]; exact decide_eq_false (by omega)) ?_
    rw [wk2]
    have hlt : a + 2 + k < p.length := by omega
    refine And.intro rfl (And.intro (Int.natCast_nonneg _) (Exists.intro _ (And.intro (bs_get (i := a + 2 + k) hlt) ?_)))
    have hn1 : nv ((p.drop (a + 2 + k)).take 1) = (p[a + 2 + k].toNat : Int) := by rw [cut_one hlt, nv_one]
    have hgt := bs_get (i := a + 2 + k) hlt
    generalize p[a + 2 + k] = gb at hn1 hgt
    by_cases h6 : (gb.toNat : Int) ≤ 1
    case neg =>
      refine cond_t (decide_eq_true (by omega)) ?_
      exact ex_w (eW (a + 2 + k) 2 (by rw [gWrite, hkey]; simp only; rw [h4]; simp only; rw [hkl, gNum_bad h5 (by rw [hn1]; omega)]) _) rfl ⟨.refl _, .refl _, .refl _, trivial⟩ rfl
    refine cond_f (decide_eq_false (by omega)) ?_
    have hg1 := gNum_ok (lo := 0) (hi := 1) h5 (by rw [hn1]; omega)
    rw [hn1] at hg1
    refine And.intro rfl (And.intro (Int.natCast_nonneg _) (Exists.intro _ (And.intro hgt ?_)))
    have wk3 : IntKind.i64.wrap (((a + 2 + k : Nat) : Int) + 1) = ((a + 2 + k + 1 : Nat) : Int) := aw (a + 2 + k) 1 (by omega) (by omega)
    have fin : ∀ w a', gWrite p a last = .ok (w, a') → w.key = key → a' ≤ p.length → VloopS Tryd.prog (tr [1000161]) 173 0 c21b0 (exW 173 R) ⟨[], rfAt p n a' key (i + 1), [zb, zb, bx N (acc ++ [w])]⟩ := by
      intro w a' hw hwk hle
      refine rfLoop p hp N n hn R r0 hOk hErr g (i + 1) a' key (acc ++ [w]) (by omega) (by simp; omega) hle ?_
      rw [he, gLoop, hw]
      simp only
      rw [hwk]
      cases gLoop p g a' key with
      | error e => rfl
      | ok q => simp
    have wki : IntKind.i64.wrap ((i : Int) + 1) = ((i + 1 : Nat) : Int) := aw i 1 (by omega) (by omega)
    have happ : ∀ w : Wr, acc.map Wr.c ++ [w.c] = (acc ++ [w]).map Wr.c := fun w => by simp
    have hnp : ∀ w : Wr, ∀ o, o ∈ [zb, zb, bx N (acc ++ [w])] → NPo (fun i => i < 3) o := fun w o ho => by
      simp only [List.mem_cons, List.not_mem_nil, or_false] at ho
      rcases ho with rfl | rfl | rfl
      · exact zb_np
      · exact zb_np
      · exact bx_np _ _
    by_cases h7 : gb.toNat = 1
    · have e1 : ((gb.toNat : Int) == 1) = true := by rw [h7]; rfl
      refine cond_f (by rw [e1]; rfl) ?_
      rw [e1]
      refine And.intro (.inl ⟨rfl, rfl⟩) (And.intro (.inl rfl) (And.intro (by simp only [List.length_map, List.length_cons, List.length_nil]; omega) ?_))
      have hw : gWrite p a last = .ok (⟨key, [], true⟩, a + 2 + k + 1) := by
        rw [gWrite, hkey]; simp only; rw [h4]; simp only; rw [hkl, hg1]; simp only
        rw [if_pos (by omega)]
      have nx := fin ⟨key, [], true⟩ _ hw rfl (by omega)
      refine VloopS.shift (σ' := ⟨[], rfAt p n (a + 2 + k + 1) key (i + 1), [zb, zb, bx N (acc ++ [⟨key, [], true⟩]), .cells [.str (st key), .sl 0 (some true) true [], .bool true]]⟩) (ShiftS.fz (fun _ => none) ⟨.wk _ _ (.refl _), .wk _ _ (.refl _), .wk _ _ (.refl _), .wk _ _ (.refl _), .wk _ _ (.refl _), .wk _ _ (.eq (int_eq wk3)), .wk _ _ (.refl _), .wk _ _ (.eq (int_eq wki)), trivial⟩ (.same 0 _ _ _ rfl (.same 1 _ _ _ rfl (.cells 2 _ _ _ _ rfl (.cons _ _ _ _ (.wk _ _ (.refl _)) (.cons _ _ _ _ ?_ .nil)) (.same 3 _ _ _ rfl (.nil 4))))) (fun i sz xs h => by cases h)) (Nat.zero_le _) ?_
      · exact wk_app acc ⟨key, [], true⟩ (.cons _ _ _ _ (.wk _ _ (.refl _)) (.cons _ _ _ _ (.wk _ _ (.nil _ _ _ _ _ (by simp))) (.cons _ _ _ _ (.wk _ _ (.refl _)) .nil)))
      · exact VloopS.weakBox (l := rfAt p n (a + 2 + k + 1) key (i + 1)) (h := [zb, zb, bx N (acc ++ [⟨key, [], true⟩])]) (ex := [_]) rfl ⟨.refl _, .refl _, .refl _, .refl _, .refl _, .refl _, .refl _, .refl _, trivial⟩ rfl (Nat.zero_le _) (rf_np _ _ _ _ _) (hnp _) nx
    · have e1 : ((gb.toNat : Int) == 1) = false := by rw [beq_eq_false_iff_ne]; omega
      refine cond_t (by rw [e1]; rfl) ?_
      rw [e1]
      have hge : ∀ e, gBlob p (a + 2 + k + 1) 0 = .error e → gWrite p a last = .error e := fun e h => by
        rw [gWrite, hkey]; simp only; rw [h4]; simp only; rw [hkl, hg1]; simp only
        rw [if_neg (by omega), h]
      by_cases h8 : p.length - (a + 2 + k + 1) < 2
      · refine cond_t (by rw [wk3, lw _ (by omega)]; exact decide_eq_true (by omega)) ?_
        exact ex_w (eW (a + 2 + k + 1) 3 (hge _ (by rw [gBlob, gNum_short h8])) _) rfl ⟨.refl _, .eq (int_eq wk3), .refl _, trivial⟩ rfl
      refine cond_f (by rw [wk3, lw _ (by omega)]; exact decide_eq_false (by omega)) ?_
      rw [wk3]
      have w4 : IntKind.i64.wrap (((a + 2 + k + 1 : Nat) : Int) + 2) = ((a + 2 + k + 1 + 2 : Nat) : Int) := aw _ 2 (by omega) (by omega)
      refine And.intro (.inl rfl) (And.intro ⟨Int.natCast_nonneg _, by rw [w4]; omega, by rw [w4, bs_len]; omega⟩ ?_)
      obtain ⟨m, m1, m2, m3, wm⟩ := num2 (p := p) (a := a + 2 + k + 1) (by omega)
      refine call_p (by rw [bs_cut p (a + 2 + k + 1) 2 _ w4]; exact readN _ _ _ (by simp; omega)) ?_
      rw [m1]
      by_cases h9 : 0 ≤ nv ((p.drop (a + 2 + k + 1)).take 2) ∧ nv ((p.drop (a + 2 + k + 1)).take 2) ≤ 4000
      case neg =>
        refine cond_t (by rw [wm]; exact decide_eq_true (by omega)) ?_
        exact ex_w (eW (a + 2 + k + 1) 2 (hge _ (by rw [gBlob, gNum_bad h8 h9])) _) rfl ⟨.refl _, .refl _, .refl _, trivial⟩ rfl
      have hgn2 := gNum_ok h8 h9
      rw [m3] at hgn2 h9
      refine cond_f (by rw [wm]; exact decide_eq_false (by omega)) ?_
      by_cases h10 : p.length - (a + 2 + k + 1 + 2) < m
      · refine cond_t (by rw [wm, w4, lw _ (by omega)]; exact decide_eq_true (by omega)) ?_
        exact ex_w (eW (a + 2 + k + 1 + 2) 3 (hge _ (by rw [gBlob, hgn2]; simp only; rw [if_pos (by omega)])) _) rfl ⟨.refl _, .eq (int_eq w4), .refl _, trivial⟩ rfl
      refine cond_f (by rw [wm, w4, lw _ (by omega)]; exact decide_eq_false (by omega)) ?_
      rw [wm, w4]
      have wm2 : IntKind.i64.wrap (((a + 2 + k + 1 + 2 : Nat) : Int) + (m : Int)) = ((a + 2 + k + 1 + 2 + m : Nat) : Int) := aw _ m (by omega) (by omega)
      refine And.intro (.inl rfl) (And.intro ⟨Int.natCast_nonneg _, by rw [wm2]; omega, by rw [wm2, bs_len]; omega⟩ ?_)
      have hrow : gBlob p (a + 2 + k + 1) 0 = .ok ((p.drop (a + 2 + k + 1 + 2)).take m) := by rw [gBlob, hgn2]; simp only; rw [if_neg (by omega)]; rfl
      have hrl : ((p.drop (a + 2 + k + 1 + 2)).take m).length = m := by rw [List.length_take, List.length_drop]; omega
      generalize hq2 : (p.drop (a + 2 + k + 1 + 2)).take m = row at hrow hrl
      refine call_p (by rw [bs_cut p (a + 2 + k + 1 + 2) m _ wm2, hq2]; exact joinNil row (by omega)) ?_
      refine And.intro (.inl ⟨rfl, rfl⟩) (And.intro (.inl rfl) (And.intro (by simp only [List.length_map, List.length_cons, List.length_nil]; omega) ?_))
      have hw : gWrite p a last = .ok (⟨key, row, false⟩, a + 2 + k + 1 + 2 + m) := by
        rw [gWrite, hkey]; simp only; rw [h4]; simp only; rw [hkl, hg1]; simp only
        rw [if_neg (by omega), hrow]; simp only; rw [hrl]
      have nx := fin ⟨key, row, false⟩ _ hw rfl (by omega)
      refine VloopS.shift (σ' := ⟨[], rfAt p n (a + 2 + k + 1 + 2 + m) key (i + 1), [zb, zb, bx N (acc ++ [⟨key, row, false⟩]), .cells [.str (st key), .sl 1 none true (bs row), .bool false]]⟩) (ShiftS.fz (fun _ => none) ⟨.wk _ _ (.refl _), .wk _ _ (.refl _), .wk _ _ (.refl _), .wk _ _ (.refl _), .wk _ _ (.refl _), .wk _ _ (.eq (int_eq wm2)), .wk _ _ (.refl _), .wk _ _ (.eq (int_eq wki)), trivial⟩ (.same 0 _ _ _ rfl (.same 1 _ _ _ rfl (.cells 2 _ _ _ _ rfl (.cons _ _ _ _ (.wk _ _ (.refl _)) (.cons _ _ _ _ ?_ .nil)) (.same 3 _ _ _ rfl (.nil 4))))) (fun i sz xs h => by cases h)) (Nat.zero_le _) ?_
      · exact wk_app acc ⟨key, row, false⟩ (WkFL.of _)
      · exact VloopS.weakBox (l := rfAt p n (a + 2 + k + 1 + 2 + m) key (i + 1)) (h := [zb, zb, bx N (acc ++ [⟨key, row, false⟩])]) (ex := [_]) rfl ⟨.refl _, .refl _, .refl _, .refl _, .refl _, .refl _, .refl _, .refl _, trivial⟩ rfl (Nat.zero_le _) (rf_np _ _ _ _ _) (hnp _) nx

end Go.Proofs.YtjbgdmebpnfpnaaDoor.V

/- The reference's Decode, as a contract; what any bytes are. -/
namespace Go.Proofs.YtjbgdmebpnfpnaaDoor.V
open Go.IntWalk Go.Lib

/-- What Decode returns. -/
def decRet : Except (Nat × Int) (Int × List Wr) → AV
  | .ok (N, l) => .tup [.agg [.int .i64 N, .sl 3 none false (l.map Wr.c)], .int .i64 ((0 : Nat) : Int), .int .i64 0]
  | .error (b, e) => .tup [.agg [.int .i64 0, .sl 3 none false (([] : List Wr).map Wr.c)], .int .i64 (b : Nat), .int .i64 e]

theorem decRet_np {ok : Nat → Prop} (r : Except (Nat × Int) (Int × List Wr)) : NP ok (decRet r) := by
  cases r <;> exact .tup _ (np_cons (.agg _ (np_cons (.int _ _) (np_cons (np_ws _) np_nil))) (np_cons (.int _ _) (np_cons (.int _ _) np_nil)))

theorem decErrWk (b e : Int) : Wk (.tup [.agg [.int .i64 0, .sl 0 (some true) false []], .int .i64 b, .int .i64 e]) (.tup [.agg [.int .i64 0, .sl 3 none false (([] : List Wr).map Wr.c)], .int .i64 b, .int .i64 e]) :=
  .tup _ _ (.cons _ _ _ _ (.agg _ _ (.cons _ _ _ _ (.refl _) (.cons _ _ _ _ (.nil _ _ _ _ _ (by simp)) .nil))) (.cons _ _ _ _ (.refl _) (.cons _ _ _ _ (.refl _) .nil)))

theorem decN (nl : Option Bool) (own : Bool) (p : List UInt8) (hp : p.length ≤ 100000) : VCall Tryd.prog 14 [.sl 1 nl own (bs p)] [G0] (decRet (gBatch p)) [G0] := by
  refine VCall.weakArgs (.cons _ _ _ _ (.both _ _ _ _) .nil) ?_
  cases h : gBatch p with
  | ok r => exact decOk hp h
  | error r => exact VCall.weakRet (decErrWk _ _) (decErr hp h)

theorem rDecN (nl : Option Bool) (own : Bool) (p : List UInt8) (hp : p.length ≤ 100000) : PCallN Tryd.prog 21 [.sl 1 nl own (bs p)] (decRet (gBatch p)) := by
  refine PCallN.weakArgs (.cons _ _ _ _ (.both _ _ _ _) .nil) (np_cons (np_bs _) np_nil) ?_
  have pe : ∀ b e, gBatch p = .error (b, e) → PCallN Tryd.prog 21 [.sl 1 none false (bs p)] (.tup [.agg [.int .i64 0, .sl 0 (some true) false []], .int .i64 (b : Nat), .int .i64 e]) → PCallN Tryd.prog 21 [.sl 1 none false (bs p)] (decRet (gBatch p)) := fun b e h k => by
    rw [h]
    exact PCallN.weakRet (decErrWk _ _) k
  have hA : ∀ a, a ∈ [AV.sl 1 none false (bs p)] → NP (fun _ => False) a := np_cons (np_bs _) np_nil
  have hE : ∀ b e : Int, NP (fun _ => False) (.tup [.agg [.int .i64 0, .sl 0 (some true) false []], .int .i64 b, .int .i64 e]) := fun b e => .tup _ (np_cons (.agg _ (np_cons (.int _ _) (np_cons np_nilsl np_nil))) (np_cons (.int _ _) (np_cons (.int _ _) np_nil)))
  have e8 : ((bs p).drop (0 : Int).toNat).take ((8 : Int).toNat - (0 : Int).toNat) = bs ((p.drop 0).take 8) := bs_cut p 0 8 8 rfl
  have e10 : ((bs p).drop (8 : Int).toNat).take ((10 : Int).toNat - (8 : Int).toNat) = bs ((p.drop 8).take 2) := bs_cut p 8 2 10 rfl
  by_cases h1 : p.length - 0 < 8
  · refine pe 0 3 (by unfold gBatch; rw [gNum_short h1]) (PCallN.of (tr [1000161]) f21 (Nat.le_of_ble_eq_true rfl) hA (hE _ _) ?_)
    refine cond_t (by rw [bs_len]; exact decide_eq_true (by omega)) ?_
    exact rfl
  by_cases h2 : 1 ≤ nv ((p.drop 0).take 8) ∧ nv ((p.drop 0).take 8) ≤ 9223372036854775807
  case neg =>
    refine pe 0 2 (by unfold gBatch; rw [gNum_bad h1 h2]) (PCallN.of (tr [1000161]) f21 (Nat.le_of_ble_eq_true rfl) hA (hE _ _) ?_)
    refine cond_f (by rw [bs_len]; exact decide_eq_false (by omega)) ?_
    refine And.intro (.inl rfl) (And.intro ⟨by decide, by decide, by rw [bs_len]; omega⟩ ?_)
    refine call_p (by rw [e8]; exact readN _ _ _ (by simp; omega)) ?_
    refine cond_t (decide_eq_true (by have := nv_le ((p.drop 0).take 8); show nv _ < 1; omega)) ?_
    exact rfl
  have hN := gNum_ok h1 h2
  generalize hNN : nv ((p.drop 0).take 8) = N at hN h2
  by_cases h3 : p.length - 8 < 2
  · refine pe 8 3 (by unfold gBatch; rw [hN]; simp only; rw [gNum_short h3]) (PCallN.of (tr [1000161]) f21 (Nat.le_of_ble_eq_true rfl) hA (hE _ _) ?_)
    refine cond_f (by rw [bs_len]; exact decide_eq_false (by omega)) ?_
    refine And.intro (.inl rfl) (And.intro ⟨by decide, by decide, by rw [bs_len]; omega⟩ ?_)
    refine call_p (by rw [e8]; exact readN _ _ _ (by simp; omega)) ?_
    refine cond_f (decide_eq_false (by show ¬ nv _ < 1; rw [hNN]; omega)) ?_
    refine cond_t (by rw [bs_len]; exact decide_eq_true (by omega)) ?_
    exact rfl
  obtain ⟨n, n1, n2, n3, wn⟩ := num2 (p := p) (a := 8) (by omega)
  by_cases h4 : 1 ≤ nv ((p.drop 8).take 2) ∧ nv ((p.drop 8).take 2) ≤ 64
  case neg =>
    refine pe 8 2 (by unfold gBatch; rw [hN]; simp only; rw [gNum_bad h3 h4]) (PCallN.of (tr [1000161]) f21 (Nat.le_of_ble_eq_true rfl) hA (hE _ _) ?_)
    refine cond_f (by rw [bs_len]; exact decide_eq_false (by omega)) ?_
    refine And.intro (.inl rfl) (And.intro ⟨by decide, by decide, by rw [bs_len]; omega⟩ ?_)
    refine call_p (by rw [e8]; exact readN _ _ _ (by simp; omega)) ?_
    refine cond_f (decide_eq_false (by show ¬ nv _ < 1; rw [hNN]; omega)) ?_
    refine cond_f (by rw [bs_len]; exact decide_eq_false (by omega)) ?_
    refine And.intro (.inl rfl) (And.intro ⟨by decide, by decide, by rw [bs_len]; omega⟩ ?_)
    refine call_p (by rw [e10]; exact readN _ _ _ (by simp; omega)) ?_
    rw [n1]
    rw [n3] at h4
    by_cases h5 : (n : Int) < 1
    · have hd : decide (IntKind.i64.wrap (n : Int) < 1) = true := by rw [wn]; exact decide_eq_true h5
      refine guard_f (by rw [hd]; decide) ?_
      repeat (first | refine guard_t rfl ?_ | refine guard_f (by decide) ?_)
      refine cond_t rfl ?_
      exact rfl
    · refine guard_t (by rw [wn]; exact decide_eq_false h5) ?_
      repeat (first | refine guard_t rfl ?_ | refine guard_f (by decide) ?_)
      refine cond_t (by rw [wn]; exact decide_eq_true (by omega)) ?_
      exact rfl
  have hn := gNum_ok h3 h4
  rw [n3] at hn h4
  cases hl : gLoop p n 10 [] with
  | error r =>
    obtain ⟨b, e, l'⟩ := r
    refine pe b e (by unfold gBatch; rw [hN]; simp only; rw [hn]; simp only; rw [Int.toNat_natCast, hl]) (PCallN.of (tr [1000161]) f21 (Nat.le_of_ble_eq_true rfl) hA (hE _ _) ?_)
    refine cond_f (by rw [bs_len]; exact decide_eq_false (by omega)) ?_
    refine And.intro (.inl rfl) (And.intro ⟨by decide, by decide, by rw [bs_len]; omega⟩ ?_)
    refine call_p (by rw [e8]; exact readN _ _ _ (by simp; omega)) ?_
    refine cond_f (decide_eq_false (by show ¬ nv _ < 1; rw [hNN]; omega)) ?_
    refine cond_f (by rw [bs_len]; exact decide_eq_false (by omega)) ?_
    refine And.intro (.inl rfl) (And.intro ⟨by decide, by decide, by rw [bs_len]; omega⟩ ?_)
    refine call_p (by rw [e10]; exact readN _ _ _ (by simp; omega)) ?_
    rw [n1]
    refine guard_t (by rw [wn]; exact decide_eq_false (by omega)) ?_
    repeat (first | refine guard_t rfl ?_ | refine guard_f (by decide) ?_)
    refine cond_f (by rw [wn]; exact decide_eq_false (by omega)) ?_
    refine VloopS.exW (VloopS.shift (σ' := ⟨[], rfAt p n 10 [] 0, [zb, zb, bx N []]⟩) (ShiftS.fz (fun _ => none) ⟨.wk _ _ (.refl _), .wk _ _ (.refl _), .wk _ _ (.refl _), .wk _ _ (.refl _), .wk _ _ (.eq (int_eq wn)), .wk _ _ (.refl _), .wk _ _ (.refl _), .wk _ _ (.refl _), trivial⟩ (.same 0 _ _ _ rfl (.same 1 _ _ _ rfl (.cells 2 _ _ _ _ rfl (.cons _ _ _ _ (.wk _ _ (.eq (int_eq hNN))) (.cons _ _ _ _ (.wk _ _ (.nil _ _ _ _ _ (by simp))) .nil)) (.nil 3)))) (fun i sz xs h => by cases h)) (Nat.zero_le _) (rfLoop p hp N n (by omega) _ (.error (b, e)) ?_ ?_ n 0 10 [] [] (by omega) rfl (by omega) (by rw [hl])))
    · intro l a h
      cases h
    · intro b' e' h ex
      cases h
      exact rfl
  | ok r =>
    obtain ⟨l, a⟩ := r
    have hle := gLoop_le hp _ _ _ _ _ (by omega) hl
    by_cases ha : a < p.length
    · refine pe a 2 (by unfold gBatch; rw [hN]; simp only; rw [hn]; simp only; rw [Int.toNat_natCast, hl]; simp only; rw [if_pos ha]) (PCallN.of (tr [1000161]) f21 (Nat.le_of_ble_eq_true rfl) hA (hE _ _) ?_)
      refine cond_f (by rw [bs_len]; exact decide_eq_false (by omega)) ?_
      refine And.intro (.inl rfl) (And.intro ⟨by decide, by decide, by rw [bs_len]; omega⟩ ?_)
      refine call_p (by rw [e8]; exact readN _ _ _ (by simp; omega)) ?_
      refine cond_f (decide_eq_false (by show ¬ nv _ < 1; rw [hNN]; omega)) ?_
      refine cond_f (by rw [bs_len]; exact decide_eq_false (by omega)) ?_
      refine And.intro (.inl rfl) (And.intro ⟨by decide, by decide, by rw [bs_len]; omega⟩ ?_)
      refine call_p (by rw [e10]; exact readN _ _ _ (by simp; omega)) ?_
      rw [n1]
      refine guard_t (by rw [wn]; exact decide_eq_false (by omega)) ?_
      repeat (first | refine guard_t rfl ?_ | refine guard_f (by decide) ?_)
      refine cond_f (by rw [wn]; exact decide_eq_false (by omega)) ?_
      refine VloopS.exW (VloopS.shift (σ' := ⟨[], rfAt p n 10 [] 0, [zb, zb, bx N []]⟩) (ShiftS.fz (fun _ => none) ⟨.wk _ _ (.refl _), .wk _ _ (.refl _), .wk _ _ (.refl _), .wk _ _ (.refl _), .wk _ _ (.eq (int_eq wn)), .wk _ _ (.refl _), .wk _ _ (.refl _), .wk _ _ (.refl _), trivial⟩ (.same 0 _ _ _ rfl (.same 1 _ _ _ rfl (.cells 2 _ _ _ _ rfl (.cons _ _ _ _ (.wk _ _ (.eq (int_eq hNN))) (.cons _ _ _ _ (.wk _ _ (.nil _ _ _ _ _ (by simp))) .nil)) (.nil 3)))) (fun i sz xs h => by cases h)) (Nat.zero_le _) (rfLoop p hp N n (by omega) _ (.ok (l, a)) ?_ ?_ n 0 10 [] [] (by omega) rfl (by omega) (by rw [hl]; simp)))
      · intro l2 a2 h
        cases h
        refine cond_t (by rw [bs_len]; exact decide_eq_true (by omega)) ?_
        exact rfl
      · intro b' e' h
        cases h
    · have hb : gBatch p = .ok (N, l) := by unfold gBatch; rw [hN]; simp only; rw [hn]; simp only; rw [Int.toNat_natCast, hl]; simp only; rw [if_neg ha]
      rw [hb]
      refine PCallN.of (tr [1000161]) f21 (Nat.le_of_ble_eq_true rfl) hA (decRet_np _) ?_
      refine cond_f (by rw [bs_len]; exact decide_eq_false (by omega)) ?_
      refine And.intro (.inl rfl) (And.intro ⟨by decide, by decide, by rw [bs_len]; omega⟩ ?_)
      refine call_p (by rw [e8]; exact readN _ _ _ (by simp; omega)) ?_
      refine cond_f (decide_eq_false (by show ¬ nv _ < 1; rw [hNN]; omega)) ?_
      refine cond_f (by rw [bs_len]; exact decide_eq_false (by omega)) ?_
      refine And.intro (.inl rfl) (And.intro ⟨by decide, by decide, by rw [bs_len]; omega⟩ ?_)
      refine call_p (by rw [e10]; exact readN _ _ _ (by simp; omega)) ?_
      rw [n1]
      refine guard_t (by rw [wn]; exact decide_eq_false (by omega)) ?_
      repeat (first | refine guard_t rfl ?_ | refine guard_f (by decide) ?_)
      refine cond_f (by rw [wn]; exact decide_eq_false (by omega)) ?_
      refine VloopS.exW (VloopS.shift (σ' := ⟨[], rfAt p n 10 [] 0, [zb, zb, bx N []]⟩) (ShiftS.fz (fun _ => none) ⟨.wk _ _ (.refl _), .wk _ _ (.refl _), .wk _ _ (.refl _), .wk _ _ (.refl _), .wk _ _ (.eq (int_eq wn)), .wk _ _ (.refl _), .wk _ _ (.refl _), .wk _ _ (.refl _), trivial⟩ (.same 0 _ _ _ rfl (.same 1 _ _ _ rfl (.cells 2 _ _ _ _ rfl (.cons _ _ _ _ (.wk _ _ (.eq (int_eq hNN))) (.cons _ _ _ _ (.wk _ _ (.nil _ _ _ _ _ (by simp))) .nil)) (.nil 3)))) (fun i sz xs h => by cases h)) (Nat.zero_le _) (rfLoop p hp N n (by omega) _ (.ok (l, a)) ?_ ?_ n 0 10 [] [] (by omega) rfl (by omega) (by rw [hl]; simp)))
      · intro l2 a2 h
        cases h
        refine cond_f (by rw [bs_len]; exact decide_eq_false (by omega)) ?_
        exact rfl
      · intro b' e' h
        cases h

end Go.Proofs.YtjbgdmebpnfpnaaDoor.V

/- Batches that are alike. -/
namespace Go.Proofs.YtjbgdmebpnfpnaaDoor.V
open Go.IntWalk Go.Lib

theorem st_list (l : List UInt8) : (st l).toList = l := by rw [ByteArray.toList_eq]; rfl
theorem st_beq (a b : List UInt8) : ((st a).toList == (st b).toList) = decide (a = b) := by
  rw [st_list, st_list, Bool.eq_iff_iff, beq_iff_eq, decide_eq_true_eq]

theorem ws_get {l : List Wr} {i : Nat} (h : i < l.length) : (l.map Wr.c)[i]? = some l[i].c := by simp [h]

def wrEq (x y : Wr) : Prop := x.key = y.key ∧ x.gone = y.gone ∧ x.row = y.row
theorem wrEq_iff (x y : Wr) : x = y ↔ (x.key = y.key ∧ x.gone = y.gone ∧ x.row = y.row) := by
  constructor
  · rintro rfl; exact ⟨rfl, rfl, rfl⟩
  · obtain ⟨a, b, c⟩ := x
    obtain ⟨a', b', c'⟩ := y
    rintro ⟨h1, h2, h3⟩
    cases h1; cases h2; cases h3; rfl

/-- bytes.Equal. -/
theorem bEqN (nl nl' : Option Bool) (own own' : Bool) (a b : List UInt8) : PCallN Tryd.prog 30 [.sl 1 nl own (bs a), .sl 1 nl' own' (bs b)] (.bool (decide (a = b))) := by
  refine PCallN.of (tr []) f30 (Nat.le_of_ble_eq_true rfl) (np_cons (np_bs _) (np_cons (np_bs _) np_nil)) (.bool _) ?_
  refine Exists.intro a (And.intro (toBytes_bs _) ?_)
  refine Exists.intro b (And.intro (toBytes_bs _) ?_)
  exact bool_eq (st_beq a b)

theorem np_wc {ok : Nat → Prop} (w : Wr) : NP ok (.agg w.c) := .agg _ w.np

theorem same1N (x y : Wr) : PCallN Tryd.prog 29 [.agg x.c, .agg y.c] (.bool (decide (x = y))) := by
  refine PCallN.of (tr []) f29 (Nat.le_of_ble_eq_true rfl) (np_cons (np_wc _) (np_cons (np_wc _) np_nil)) (.bool _) ?_
  have hst := st_beq x.key y.key
  by_cases h1 : x.key = y.key
  · have e1 : ((st x.key).toList == (st y.key).toList) = true := by rw [hst]; exact decide_eq_true h1
    refine guard_t e1 ?_
    rw [e1]
    repeat (first | refine guard_t rfl ?_ | refine guard_f (by decide) ?_)
    by_cases h2 : x.gone = y.gone
    · have e2 : (x.gone == y.gone) = true := by rw [h2]; exact beq_self_eq_true _
      refine guard_t e2 ?_
      rw [e2]
      repeat (first | refine guard_t rfl ?_ | refine guard_f (by decide) ?_)
      refine call_p (bEqN _ _ _ _ x.row y.row) ?_
      repeat (first | refine guard_t rfl ?_ | refine guard_f (by decide) ?_)
      refine bool_eq ?_
      rw [decide_eq_decide, wrEq_iff]
      exact ⟨fun h => ⟨h1, h2, h⟩, fun h => h.2.2⟩
    · have e2 : (x.gone == y.gone) = false := beq_eq_false_iff_ne.2 h2
      refine guard_f (by rw [e2]; decide) ?_
      rw [e2]
      repeat (first | refine guard_t rfl ?_ | refine guard_f (by decide) ?_)
      exact bool_eq (decide_eq_false (fun e => h2 (by rw [e]))).symm
  · have e1 : ((st x.key).toList == (st y.key).toList) = false := by rw [hst]; exact decide_eq_false h1
    refine guard_f (by rw [e1]; decide) ?_
    rw [e1]
    repeat (first | refine guard_t rfl ?_ | refine guard_f (by decide) ?_)
    exact bool_eq (decide_eq_false (fun e => h1 (by rw [e]))).symm

def eqAt (a b : List Wr) (i : Nat) : List (Nat × AV) := [(1, .sl 3 none false (b.map Wr.c)), (2, .func 29 []), (15, .sl 3 none false (a.map Wr.c)), (16, .int .i64 a.length), (17, .int .i64 i)]

theorem eq_np (a b : List Wr) (i : Nat) : ∀ p, p ∈ eqAt a b i → NP (fun i => i < ([] : List HObj).length) p.2 := by
  intro p hp
  simp only [eqAt, List.mem_cons, List.not_mem_nil, or_false] at hp
  rcases hp with rfl | rfl | rfl | rfl | rfl
  · exact np_ws _
  · exact .func _ _ (by simp)
  · exact np_ws _
  · exact .int _ _
  · exact .int _ _

theorem eqLoop (a b : List Wr) (hab : a.length = b.length) (hl : a.length ≤ 1000000) (R : VE → Sy → Prop) (hT : a = b → R (.exit 0) ⟨[], [], []⟩) (hF : a ≠ b → ∀ hb, R .ret ⟨[], [(6, .bool false)], hb⟩) :
    ∀ (g i : Nat), i + g = a.length → a.take i = b.take i → VloopS Tryd.prog (tr []) 32 0 c28b0 (exW 32 R) ⟨[], eqAt a b i, []⟩
  | 0, i, hg, he => by
    have e : a = b := by
      rw [List.take_of_length_le (by omega), List.take_of_length_le (by omega)] at he
      exact he
    refine VloopS.round ?_
    refine cond_f (decide_eq_false (by omega)) ?_
    exact ex_w (hT e) rfl trivial rfl
  | g + 1, i, hg, he => by
    have hlt : i < a.length := by omega
    have hlb : i < b.length := by omega
    refine VloopS.round ?_
    refine cond_t (decide_eq_true (by omega)) ?_
    refine And.intro rfl (And.intro (Int.natCast_nonneg i) (Exists.intro a[i].c (And.intro (ws_get hlt) ?_)))
    refine And.intro rfl (And.intro (Int.natCast_nonneg i) (Exists.intro b[i].c (And.intro (ws_get hlb) ?_)))
    refine call_p (same1N a[i] b[i]) ?_
    by_cases h : a[i] = b[i]
    · refine cond_f (by rw [decide_eq_true h]; rfl) ?_
      refine VloopS.weakBox (l := eqAt a b (i + 1)) (h := []) (ex := [.cells a[i].c, .cells b[i].c]) rfl ⟨.refl _, .refl _, .refl _, .refl _, .eq (int_eq ?_), trivial⟩ rfl (Nat.zero_le _) (eq_np a b (i + 1)) (by simp)
        (eqLoop a b hab hl R hT hF g (i + 1) (by omega) (by rw [take_snoc a i hlt, take_snoc b i hlb, he, h]))
      rw [i64_in _ (by omega)]; omega
    · refine cond_t (by rw [decide_eq_false h]; rfl) ?_
      exact ex_w (hF (fun e => h (by subst e; rfl)) _) rfl ⟨.refl _, trivial⟩ rfl

theorem eqFuncN (nl nl' : Option Bool) (own own' : Bool) (a b : List Wr) (hl : a.length ≤ 1000000) : PCallN Tryd.prog 28 [.sl 3 nl own (a.map Wr.c), .sl 3 nl' own' (b.map Wr.c), .func 29 []] (.bool (decide (a = b))) := by
  refine PCallN.of (tr []) f28 (Nat.le_of_ble_eq_true rfl) (np_cons (np_ws _) (np_cons (np_ws _) (np_cons (.func _ _ (by simp)) np_nil))) (.bool _) ?_
  by_cases hab : a.length = b.length
  · refine cond_f (by rw [List.length_map, List.length_map, hab]; exact bne_self_eq_false _) ?_
    refine VloopS.weakE (l := eqAt a b 0) rfl ⟨.both _ _ _ _, .refl _, .both _ _ _ _, .eq (int_eq (by rw [List.length_map])), .eq (int_eq rfl), trivial⟩ rfl (Nat.zero_le _) (VloopS.exW (eqLoop a b hab hl _ ?_ ?_ a.length 0 (by omega) rfl))
    · intro e
      exact bool_eq (decide_eq_true e).symm
    · intro e hb
      exact bool_eq (decide_eq_false e).symm
  · have hne : a ≠ b := fun e => hab (by rw [e])
    refine cond_t (by rw [List.length_map, List.length_map]; exact bne_iff_ne.2 (by omega)) ?_
    exact bool_eq (decide_eq_false hne).symm

def batAV (nl : Option Bool) (own : Bool) (N : Int) (l : List Wr) : AV := .agg [.int .i64 N, .sl 3 nl own (l.map Wr.c)]
theorem np_batAV {ok : Nat → Prop} (nl : Option Bool) (own : Bool) (N : Int) (l : List Wr) : NP ok (batAV nl own N l) := .agg _ (np_cons (.int _ _) (np_cons (np_ws _) np_nil))

theorem recSameN (nl nl' : Option Bool) (own own' : Bool) (N M : Int) (a b : List Wr) (hl : a.length ≤ 1000000) : PCallN Tryd.prog 17 [batAV nl own N a, batAV nl' own' M b] (.bool (decide (N = M ∧ a = b))) := by
  refine PCallN.of (tr []) f17 (Nat.le_of_ble_eq_true rfl) (np_cons (np_batAV _ _ _ _) (np_cons (np_batAV _ _ _ _) np_nil)) (.bool _) ?_
  by_cases h1 : N = M
  · have e1 : (N == M) = true := by rw [h1]; exact beq_self_eq_true _
    refine guard_t e1 ?_
    rw [e1]
    repeat (first | refine guard_t rfl ?_ | refine guard_f (by decide) ?_)
    refine call_p (eqFuncN _ _ _ _ a b hl) ?_
    repeat (first | refine guard_t rfl ?_ | refine guard_f (by decide) ?_)
    refine bool_eq ?_
    rw [decide_eq_decide]
    exact ⟨fun h => ⟨h1, h⟩, fun h => h.2⟩
  · have e1 : (N == M) = false := beq_eq_false_iff_ne.2 h1
    refine guard_f (by rw [e1]; decide) ?_
    rw [e1]
    repeat (first | refine guard_t rfl ?_ | refine guard_f (by decide) ?_)
    exact bool_eq (decide_eq_false (fun h => h1 h.1)).symm

/-! ### the reference's -/

def rsAt (i : Nat) : List (Nat × AV) := [(2, .ptr (some (0, 0))), (3, .ptr (some (1, 0))), (5, .int .i64 i)]

theorem rsLoop (N M : Int) (a b : List Wr) (hab : a.length = b.length) (hl : a.length ≤ 1000000) (hr : ∀ w, w ∈ a → w.row.length ≤ 1000000) (R : VE → Sy → Prop) (hT : a = b → ∀ hb, R (.exit 0) ⟨[], [], hb⟩) (hF : a ≠ b → ∀ hb, R .ret ⟨[], [(4, .bool false)], hb⟩) :
    ∀ (g i : Nat), i + g = a.length → a.take i = b.take i → VloopS Tryd.prog (tr []) 59 0 c18b0 (exW 59 R) ⟨[], rsAt i, [bxS N a, bxS M b]⟩
  | 0, i, hg, he => by
    have e : a = b := by
      rw [List.take_of_length_le (by omega), List.take_of_length_le (by omega)] at he
      exact he
    refine VloopS.round ?_
    refine cond_f (by rw [List.length_map]; exact decide_eq_false (by omega)) ?_
    exact ex_w (hT e _) rfl trivial rfl
  | g + 1, i, hg, he => by
    have hlt : i < a.length := by omega
    have hlb : i < b.length := by omega
    refine VloopS.round ?_
    refine cond_t (by rw [List.length_map]; exact decide_eq_true (by omega)) ?_
    refine And.intro rfl (And.intro (Int.natCast_nonneg i) (Exists.intro a[i].c (And.intro (ws_get hlt) ?_)))
    refine And.intro rfl (And.intro (Int.natCast_nonneg i) (Exists.intro b[i].c (And.intro (ws_get hlb) ?_)))
    refine And.intro (by kernel_rfl) ?_
    have hst := st_beq a[i].key b[i].key
    have out : ∀ hb, a[i] ≠ b[i] → R .ret ⟨[], [(4, .bool false)], hb⟩ := fun hb h => hF (fun e => h (by subst e; rfl)) hb
    by_cases h1 : a[i].key = b[i].key
    · have e1 : (!((st a[i].key).toList == (st b[i].key).toList)) = false := by rw [hst, decide_eq_true h1]; rfl
      refine guard_t e1 ?_
      rw [e1]
      repeat (first | refine guard_t rfl ?_ | refine guard_f (by decide) ?_)
      by_cases h2 : a[i].gone = b[i].gone
      · have e2 : (!(a[i].gone == b[i].gone)) = false := by rw [h2, beq_self_eq_true]; rfl
        refine guard_t e2 ?_
        rw [e2]
        repeat (first | refine guard_t rfl ?_ | refine guard_f (by decide) ?_)
        refine call_p (bytesN _ _ _ _ a[i].row b[i].row (hr _ (List.getElem_mem hlt))) ?_
        repeat (first | refine guard_t rfl ?_ | refine guard_f (by decide) ?_)
        by_cases h3 : a[i].row = b[i].row
        · refine cond_f (by rw [decide_eq_true h3]; rfl) ?_
          have e : a[i] = b[i] := (wrEq_iff _ _).2 ⟨h1, h2, h3⟩
          refine VloopS.weakBox (l := rsAt (i + 1)) (h := [bxS N a, bxS M b]) (ex := [.cells a[i].c, .cells b[i].c]) rfl ⟨.refl _, .refl _, .eq (int_eq ?_), trivial⟩ rfl (Nat.zero_le _) ?_ ?_
            (rsLoop N M a b hab hl hr R hT hF g (i + 1) (by omega) (by rw [take_snoc a i hlt, take_snoc b i hlb, he, e]))
          · rw [i64_in _ (by omega)]; omega
          · intro q hq
            simp only [rsAt, List.mem_cons, List.not_mem_nil, or_false] at hq
            rcases hq with rfl | rfl | rfl
            · exact .ptr _ _ (by simp)
            · exact .ptr _ _ (by simp)
            · exact .int _ _
          · intro o ho
            simp only [List.mem_cons, List.not_mem_nil, or_false] at ho
            rcases ho with rfl | rfl
            · exact np_cons (.int _ _) (np_cons (np_ws _) np_nil)
            · exact np_cons (.int _ _) (np_cons (np_ws _) np_nil)
        · refine cond_t (by rw [decide_eq_false h3]; rfl) ?_
          exact ex_w (out _ (fun e => h3 (by rw [e]))) rfl ⟨.refl _, trivial⟩ rfl
      · have e2 : (!(a[i].gone == b[i].gone)) = true := by rw [beq_eq_false_iff_ne.2 h2]; rfl
        refine guard_f (by rw [e2]; decide) ?_
        rw [e2]
        repeat (first | refine guard_t rfl ?_ | refine guard_f (by decide) ?_)
        refine cond_t rfl ?_
        exact ex_w (out _ (fun e => h2 (by rw [e]))) rfl ⟨.refl _, trivial⟩ rfl
    · have e1 : (!((st a[i].key).toList == (st b[i].key).toList)) = true := by rw [hst, decide_eq_false h1]; rfl
      refine guard_f (by rw [e1]; decide) ?_
      rw [e1]
      repeat (first | refine guard_t rfl ?_ | refine guard_f (by decide) ?_)
      refine cond_t rfl ?_
      exact ex_w (out _ (fun e => h1 (by rw [e]))) rfl ⟨.refl _, trivial⟩ rfl

theorem rSameN0 (N M : Int) (a b : List Wr) (hl : a.length ≤ 1000000) (hr : ∀ w, w ∈ a → w.row.length ≤ 1000000) : PCallN Tryd.prog 18 [batAV none false N a, batAV none false M b] (.bool (decide (N = M ∧ a = b))) := by
  refine PCallN.of (tr []) f18 (Nat.le_of_ble_eq_true rfl) (np_cons (np_batAV _ _ _ _) (np_cons (np_batAV _ _ _ _) np_nil)) (.bool _) ?_
  by_cases h1 : N = M
  · have e1 : (N != M) = false := by rw [h1]; exact bne_self_eq_false _
    refine guard_t e1 ?_
    rw [e1]
    repeat (first | refine guard_t rfl ?_ | refine guard_f (by decide) ?_)
    by_cases hab : a.length = b.length
    · refine cond_f (by rw [List.length_map, List.length_map, hab]; exact bne_self_eq_false _) ?_
      refine VloopS.weakE (l := rsAt 0) (h := [bxS N a, bxS M b]) rfl ⟨.refl _, .refl _, .eq (int_eq rfl), trivial⟩ rfl (Nat.zero_le _) (VloopS.exW (rsLoop N M a b hab hl hr _ ?_ ?_ a.length 0 (by omega) rfl))
      · intro e hb
        exact bool_eq (decide_eq_true ⟨h1, e⟩).symm
      · intro e hb
        exact bool_eq (decide_eq_false (fun h => e h.2)).symm
    · refine cond_t (by rw [List.length_map, List.length_map]; exact bne_iff_ne.2 (by omega)) ?_
      exact bool_eq (decide_eq_false (fun h => hab (by rw [h.2]))).symm
  · have e1 : (N != M) = true := bne_iff_ne.2 h1
    refine guard_f (by rw [e1]; decide) ?_
    rw [e1]
    repeat (first | refine guard_t rfl ?_ | refine guard_f (by decide) ?_)
    refine cond_t rfl ?_
    exact bool_eq (decide_eq_false (fun h => h1 h.1)).symm

theorem wk_bat (nl : Option Bool) (own : Bool) (N : Int) (l : List Wr) : Wk (batAV nl own N l) (batAV none false N l) := .agg _ _ (.cons _ _ _ _ (.refl _) (.cons _ _ _ _ (.both _ _ _ _) .nil))

theorem rSameN (nl nl' : Option Bool) (own own' : Bool) (N M : Int) (a b : List Wr) (hl : a.length ≤ 1000000) (hr : ∀ w, w ∈ a → w.row.length ≤ 1000000) : PCallN Tryd.prog 18 [batAV nl own N a, batAV nl' own' M b] (.bool (decide (N = M ∧ a = b))) :=
  PCallN.weakArgs (.cons _ _ _ _ (wk_bat _ _ _ _) (.cons _ _ _ _ (wk_bat _ _ _ _) .nil)) (np_cons (np_batAV _ _ _ _) (np_cons (np_batAV _ _ _ _) np_nil)) (rSameN0 N M a b hl hr)

/-! ### what any bytes are -/

theorem gBlob_len {p q : List UInt8} {a : Nat} {lo : Int} (h : gBlob p a lo = .ok q) : q.length ≤ p.length := by
  unfold gBlob at h
  split at h
  · cases h
  · split at h
    · cases h
    · cases h
      rw [List.length_take, List.length_drop]; omega

theorem gWrite_len {p last : List UInt8} {a a' : Nat} {w : Wr} (h : gWrite p a last = .ok (w, a')) : w.row.length ≤ p.length ∧ w.key.length ≤ p.length := by
  unfold gWrite at h
  split at h
  · cases h
  · rename_i key hk
    split at h
    · cases h
    · split at h
      · cases h
      · split at h
        · cases h
          exact ⟨Nat.zero_le _, gBlob_len hk⟩
        · split at h
          · cases h
          · rename_i row hr
            cases h
            exact ⟨gBlob_len hr, gBlob_len hk⟩

theorem gLoop_len {p : List UInt8} : ∀ (k a : Nat) (last : List UInt8) (l : List Wr) (a' : Nat), gLoop p k a last = .ok (l, a') → l.length = k ∧ ∀ w, w ∈ l → w.row.length ≤ p.length
  | 0, a, last, l, a', h => by
    rw [gLoop] at h
    cases h
    exact ⟨rfl, by simp⟩
  | k + 1, a, last, l, a', h => by
    rw [gLoop] at h
    cases hw : gWrite p a last with
    | error e => rw [hw] at h; cases h
    | ok r =>
      obtain ⟨w, a1⟩ := r
      rw [hw] at h
      simp only at h
      cases hl : gLoop p k a1 w.key with
      | error e => rw [hl] at h; cases h
      | ok q =>
        obtain ⟨l2, a2⟩ := q
        rw [hl] at h
        cases h
        obtain ⟨h1, h2⟩ := gLoop_len k a1 w.key l2 a' hl
        refine ⟨by simp [h1], fun x hx => ?_⟩
        rcases List.mem_cons.1 hx with rfl | hx
        · exact (gWrite_len hw).1
        · exact h2 x hx

theorem gBatch_len {p : List UInt8} {N : Int} {l : List Wr} (h : gBatch p = .ok (N, l)) : (l.length ≤ 64 ∧ 1 ≤ l.length) ∧ (∀ w, w ∈ l → w.row.length ≤ p.length) ∧ 1 ≤ N := by
  unfold gBatch at h
  split at h
  · cases h
  · rename_i N' hN
    split at h
    · cases h
    · rename_i n hn
      split at h
      · cases h
      · rename_i l' a hl
        split at h
        · cases h
        · cases h
          obtain ⟨h1, h2⟩ := gLoop_len _ _ _ _ _ hl
          have hb : 1 ≤ n ∧ n ≤ 64 := by
            unfold gNum at hn
            split at hn
            · cases hn
            · split at hn
              · rename_i hh
                cases hn
                exact hh
              · cases hn
          have hc : 1 ≤ N := by
            unfold gNum at hN
            split at hN
            · cases hN
            · split at hN
              · rename_i hh
                cases hN
                exact hh.1
              · cases hN
          exact ⟨by omega, h2, hc⟩

/-- What Decode's batch is. -/
def decB : Except (Nat × Int) (Int × List Wr) → Int × List Wr
  | .ok r => r
  | .error _ => (0, [])
def decAt : Except (Nat × Int) (Int × List Wr) → Int
  | .ok _ => ((0 : Nat) : Int)
  | .error r => (r.1 : Nat)
def decE : Except (Nat × Int) (Int × List Wr) → Int
  | .ok _ => 0
  | .error r => r.2

theorem decRet_eq (r : Except (Nat × Int) (Int × List Wr)) : decRet r = .tup [batAV none false (decB r).1 (decB r).2, .int .i64 (decAt r), .int .i64 (decE r)] := by
  cases r <;> rfl

theorem decB_len (p : List UInt8) : (decB (gBatch p)).2.length ≤ 64 ∧ ∀ w, w ∈ (decB (gBatch p)).2 → w.row.length ≤ p.length := by
  cases h : gBatch p with
  | error e => exact ⟨by simp [decB], by simp [decB]⟩
  | ok r => exact ⟨(gBatch_len h).1.1, (gBatch_len h).2.1⟩

theorem readsN (nl : Option Bool) (own : Bool) (p : List UInt8) (hp : p.length ≤ 100000) : VCall Tryd.prog 10 [.sl 1 nl own (bs p)] [G0] (.bool true) [G0] := by
  refine VCall.ofS (tr []) f10 (Nat.le_of_ble_eq_true rfl) (Nat.le_refl _) (.bool _) hob_G0 ?_
  have h1 := decN nl false p hp
  have h2 := rDecN nl false p hp
  have h3 := decB_len p
  rw [decRet_eq] at h1 h2
  generalize decB (gBatch p) = B at h1 h2 h3
  generalize decAt (gBatch p) = A at h1 h2
  generalize decE (gBatch p) = E at h1 h2
  obtain ⟨N, l⟩ := B
  simp only at h1 h2 h3
  have h4 := rSameN none none false false N N l l (by omega) (fun w hw => by have := h3.2 w hw; omega)
  rw [decide_eq_true (⟨rfl, rfl⟩ : N = N ∧ l = l)] at h4
  refine call_h h1 ?_
  refine call_p h2 ?_
  refine guard_t (beq_self_eq_true _) ?_
  rw [beq_self_eq_true]
  repeat (first | refine guard_t rfl ?_ | refine guard_f (by decide) ?_)
  refine guard_t (beq_self_eq_true _) ?_
  rw [beq_self_eq_true]
  repeat (first | refine guard_t rfl ?_ | refine guard_f (by decide) ?_)
  refine call_p h4 ?_
  exact ⟨⟨_, rfl⟩, rfl⟩

end Go.Proofs.YtjbgdmebpnfpnaaDoor.V
