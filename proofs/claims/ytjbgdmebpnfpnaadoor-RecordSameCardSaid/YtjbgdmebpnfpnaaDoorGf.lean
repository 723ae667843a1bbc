/-
  Two batches are the same, if nothing of them is another thing: the law RecordSame.
-/
import Derived.Test.YtjbgdmebpnfpnaaDoorGe

/- The reference's Batch: what it returns is the caller's own. -/
namespace Go.Proofs.YtjbgdmebpnfpnaaDoor.V
open Go.IntWalk Go.Lib

def rowAV : List UInt8 → AV
  | [] => .sl 0 (some true) true []
  | a :: r => .fsl 1 (bs (a :: r))
def rowZ : List UInt8 → AV
  | [] => .sl 0 (some true) false []
  | a :: r => .fsl 1 (bs (a :: r))
def cZ (w : Wr) : List AV := [.str (st w.key), rowZ w.row, .bool w.gone]
def wsZ : List Wr → AV
  | [] => .sl 0 (some true) true []
  | w :: l => .xsl 3 ((w :: l).map cZ)
theorem wsZ_ne {l : List Wr} (h : l ≠ []) : wsZ l = .xsl 3 (l.map cZ) := by
  cases l with
  | nil => exact absurd rfl h
  | cons w l => rfl
def bz (N : Int) (l : List Wr) : HObj := .cells [.int .i64 N, wsZ l]
def wbxZ (key : List UInt8) (s : List UInt8 × Bool) : HObj := .cells [.str (st key), rowAV s.1, .bool s.2]

theorem rowZ_np {ok : Nat → Prop} (l : List UInt8) : NP ok (rowZ l) := by
  cases l with
  | nil => exact np_nilsl
  | cons a r =>
    refine .fsl _ _ fun x hx y hy => ?_
    simp only [bs, List.mem_map] at hx
    obtain ⟨b, _, rfl⟩ := hx
    rw [List.mem_singleton.1 hy]
    exact .int _ _
theorem cZ_np {ok : Nat → Prop} (w : Wr) : ∀ a, a ∈ cZ w → NP ok a := np_cons (.str _) (np_cons (rowZ_np _) (np_cons (.bool _) np_nil))
theorem wsX_np {ok : Nat → Prop} (l : List Wr) : NP ok (.xsl 3 (l.map cZ)) := .xsl _ _ fun x hx y hy => by
  obtain ⟨z, _, rfl⟩ := List.mem_map.1 hx
  exact cZ_np z y hy
theorem bz_np {ok : Nat → Prop} (N : Int) (l : List Wr) : NPo ok (bz N l) := by
  refine np_cons (.int _ _) (np_cons ?_ np_nil)
  cases l with
  | nil => exact np_nilsl
  | cons w l => exact wsX_np _

theorem k2LoopZ (N : Int) (acts : List Act) (hl : acts.length ≤ 1000) (R : VE → Sy → Prop) (hR : R (.exit 0) ⟨[], [(1, .sl 3 none false (acts.map Act.c)), (4, .ptr (some (0, 0))), (5, .ptr (some (1, 0))), (6, .sl 1 none false (strs (acts.map keyOf)))], [zb, bx0 N]⟩) :
    ∀ (g i : Nat), i + g = acts.length → VloopS Tryd.prog (tr [6, 20, 1000064, 1000076, 1000079, 1000081]) 82 0 c13b2 (exW 82 R) ⟨[], k2At acts i, [zb, bx0 N]⟩
  | 0, i, hg => by
    refine VloopS.round ?_
    refine cond_f (by rw [List.length_map]; exact decide_eq_false (by omega)) ?_
    refine ex_w hR rfl ⟨.refl _, .refl _, .refl _, ?_, trivial⟩ rfl
    show Wk (.sl 1 none true (strs ((acts.take i).map keyOf))) _
    rw [List.take_of_length_le (by omega)]
    exact .both _ _ _ _
  | g + 1, i, hg => by
    have hlt : i < acts.length := by omega
    refine VloopS.round ?_
    refine cond_t (by rw [List.length_map]; exact decide_eq_true (by omega)) ?_
    refine And.intro rfl (And.intro (Int.natCast_nonneg i) (Exists.intro acts[i].c (And.intro (acts_get hlt) ?_)))
    refine And.intro (by decide) ?_
    refine Exists.intro (keyOf acts[i]) (And.intro rfl ?_)
    refine And.intro (.inl ⟨rfl, rfl⟩) (And.intro (.inl rfl) (And.intro (by rw [strs_len, List.length_map, List.length_take]; simp only [List.length_cons, List.length_nil]; omega) ?_))
    refine VloopS.weakE (l := k2At acts (i + 1)) (h := [zb, bx0 N]) rfl ⟨.refl _, .refl _, .refl _, .eq (sl_eq ?_), .eq (int_eq (by rw [i64_in _ (by omega)]; omega)), trivial⟩ rfl (Nat.zero_le _) (k2LoopZ N acts hl R hR g (i + 1) (by omega))
    rw [take_snoc acts i hlt, List.map_append, ← strs_app]
    rfl

theorem awLoopZ (N : Int) (acts : List Act) (hl : acts.length ≤ 1000) (all : List (List UInt8)) (i : Nat) (hi : i < all.length) (acc : List Wr) (R : VE → Sy → Prop)
    (hR : R (.exit 4) ⟨[], [(1, .sl 3 none false (acts.map Act.c)), (4, .ptr (some (0, 0))), (5, .ptr (some (1, 0))), (6, .sl 1 none false (strs (acts.map keyOf))), (8, .sl 1 none false (strs all)), (9, .int .i64 i), (10, .ptr (some (2, 0)))], [zb, bz N acc, wbxZ all[i] (actS all[i] acts)]⟩) :
    ∀ (g k : Nat), k + g = acts.length → VloopS Tryd.prog (tr [6, 20, 1000064, 1000076, 1000079, 1000081]) 82 0 c13b0 (exW 82 R) ⟨[], awAt acts all i k, [zb, bz N acc, wbxZ all[i] (actS all[i] (acts.take k))]⟩
  | 0, k, hg => by
    rw [List.take_of_length_le (by omega)]
    refine VloopS.round ?_
    refine cond_f (by rw [List.length_map]; exact decide_eq_false (by omega)) ?_
    exact ex_w hR rfl ⟨.refl _, .refl _, .refl _, .refl _, .refl _, .refl _, .refl _, trivial⟩ rfl
  | g + 1, k, hg => by
    have hlt : k < acts.length := by omega
    have nx := awLoopZ N acts hl all i hi acc R hR g (k + 1) (by omega)
    rw [take_snoc acts k hlt, actS_snoc] at nx
    have wk : IntKind.i64.wrap ((k : Int) + 1) = ((k + 1 : Nat) : Int) := by rw [i64_in _ (by omega)]; omega
    generalize actS all[i] (acts.take k) = s at nx ⊢
    have hgk : (strs (acts.map keyOf))[k]? = some [.str (st (keyOf acts[k]))] := by
      have := strs_get (l := acts.map keyOf) (i := k) (by rw [List.length_map]; exact hlt)
      simpa using this
    refine VloopS.round ?_
    refine cond_t (by rw [List.length_map]; exact decide_eq_true (by omega)) ?_
    refine And.intro rfl (And.intro (Int.natCast_nonneg k) (Exists.intro _ (And.intro hgk ?_)))
    refine And.intro rfl (And.intro (Int.natCast_nonneg i) (Exists.intro _ (And.intro (strs_get hi) ?_)))
    refine And.intro (by kernel_rfl) ?_
    by_cases he : keyOf acts[k] = all[i]
    · refine cond_t (by rw [st_beq]; exact decide_eq_true he) ?_
      refine And.intro rfl (And.intro (Int.natCast_nonneg k) (Exists.intro _ (And.intro (acts_get hlt) ?_)))
      refine And.intro rfl (And.intro (Int.natCast_nonneg k) (Exists.intro _ (And.intro (acts_get hlt) ?_)))
      refine And.intro (by kernel_rfl) ?_
      have es : actStep all[i] s acts[k] = ([acts[k].row], acts[k].gone) := by unfold actStep; rw [if_pos he]
      rw [es] at nx
      exact VloopS.weakE (l := awAt acts all i (k + 1)) (h := [zb, bz N acc, wbxZ all[i] ([acts[k].row], acts[k].gone)]) rfl ⟨.refl _, .refl _, .refl _, .refl _, .refl _, .refl _, .refl _, .eq (int_eq wk), trivial⟩ rfl (Nat.zero_le _) nx
    · refine cond_f (by rw [st_beq]; exact decide_eq_false he) ?_
      have es : actStep all[i] s acts[k] = s := by unfold actStep; rw [if_neg he]
      rw [es] at nx
      exact VloopS.weakE (l := awAt acts all i (k + 1)) (h := [zb, bz N acc, wbxZ all[i] s]) rfl ⟨.refl _, .refl _, .refl _, .refl _, .refl _, .refl _, .refl _, .eq (int_eq wk), trivial⟩ rfl (Nat.zero_le _) nx


theorem btLoopZ (N : Int) (acts : List Act) (hl : acts.length ≤ 1000) (all : List (List UInt8)) (ha : all.length ≤ 1000) (R : VE → Sy → Prop)
    (hR : R (.exit 2) ⟨[], [(4, .ptr (some (0, 0))), (5, .ptr (some (1, 0)))], [zb, bz N (all.map (wOf acts))]⟩) :
    ∀ (g i : Nat), i + g = all.length → VloopS Tryd.prog (tr [6, 20, 1000064, 1000076, 1000079, 1000081]) 82 0 c13b1 (exW 82 R) ⟨[], btAt acts all i, [zb, bz N ((all.take i).map (wOf acts))]⟩
  | 0, i, hg => by
    rw [List.take_of_length_le (by omega)]
    refine VloopS.round ?_
    refine cond_f (by rw [strs_len]; exact decide_eq_false (by omega)) ?_
    exact ex_w hR rfl ⟨.refl _, .refl _, trivial⟩ rfl
  | g + 1, i, hg => by
    have hlt : i < all.length := by omega
    have nx := btLoopZ N acts hl all ha R hR g (i + 1) (by omega)
    rw [take_snoc all i hlt, List.map_append, List.map_cons, List.map_nil] at nx
    have wi : IntKind.i64.wrap ((i : Int) + 1) = ((i + 1 : Nat) : Int) := by rw [i64_in _ (by omega)]; omega
    have hacc : ((all.take i).map (wOf acts)).length ≤ 1000 := by rw [List.length_map, List.length_take]; omega
    generalize (all.take i).map (wOf acts) = acc at nx hacc ⊢
    have hw : wOf acts all[i] = ⟨all[i], match (actS all[i] acts).2 with | true => [] | false => (actS all[i] acts).1, (actS all[i] acts).2⟩ := rfl
    refine VloopS.round ?_
    refine cond_t (by rw [strs_len]; exact decide_eq_true (by omega)) ?_
    refine And.intro rfl (And.intro (Int.natCast_nonneg i) (Exists.intro _ (And.intro (strs_get hlt) ?_)))
    refine VloopS.weakE (l := awAt acts all i 0) (h := [zb, bz N acc, wbxZ all[i] (actS all[i] (acts.take 0))]) rfl ⟨.refl _, .refl _, .refl _, .refl _, .refl _, .refl _, .refl _, .refl _, trivial⟩ rfl (Nat.zero_le _) (VloopS.exW (awLoopZ N acts hl all i hlt acc _ ?_ acts.length 0 (by omega)))
    generalize actS all[i] acts = s at hw ⊢
    obtain ⟨row, gone⟩ := s
    generalize wOf acts all[i] = w at hw nx
    have hnp : ∀ o, o ∈ [zb, bz N (acc ++ [w])] → NPo (fun i => i < 2) o := fun o ho => by
      simp only [List.mem_cons, List.not_mem_nil, or_false] at ho
      rcases ho with rfl | rfl
      · exact zb_np
      · exact bz_np _ _
    have fin : ∀ {x : AV} {b : HObj}, x = wsZ (acc ++ [w]) → ∀ {σ : Sy}, σ.get 1 = .sl 3 none false (acts.map Act.c) → σ.get 4 = .ptr (some (0, 0)) → σ.get 5 = .ptr (some (1, 0)) → σ.get 6 = .sl 1 none false (strs (acts.map keyOf)) → σ.get 8 = .sl 1 none false (strs all) → σ.get 9 = .int .i64 (IntKind.i64.wrap ((i : Int) + 1)) →
        σ.h = [zb, .cells [.int .i64 N, x], b] → VloopS Tryd.prog (tr [6, 20, 1000064, 1000076, 1000079, 1000081]) 82 0 c13b1 (exW 82 R) σ := by
      intro x b hx σ h1 h4 h5 h6 h8 h9 hh
      exact VloopS.weakBox (l := btAt acts all (i + 1)) (h := [zb, bz N (acc ++ [w])]) (ex := [b]) rfl ⟨.eq h1, .eq h4, .eq h5, .eq h6, .eq h8, .eq (h9.trans (int_eq wi)), trivial⟩ (by rw [hh, hx]; rfl) (Nat.zero_le _) (bt_np _ _ _) hnp nx
    have app : ∀ w0 acc', acc = w0 :: acc' → ∀ {c : List AV}, c = cZ w → AV.xsl 3 ((w0 :: acc').map cZ ++ [c]) = wsZ (acc ++ [w]) := fun w0 acc' e c hc => by
      rw [e, hc]
      show AV.xsl 3 ((w0 :: acc').map cZ ++ [cZ w]) = AV.xsl 3 ((w0 :: (acc' ++ [w])).map cZ)
      rw [List.map_cons, List.map_cons, List.map_append]
      rfl
    cases gone with
    | true =>
      refine cond_t rfl ?_
      cases hac : acc with
      | nil =>
        refine And.intro rfl (And.intro (.inl rfl) (And.intro Nat.zero_lt_one (And.intro (by simp only [List.length_cons, List.length_nil]; omega) ?_)))
        exact fin (by rw [hac, hw]; rfl) rfl rfl rfl rfl rfl rfl rfl
      | cons w0 acc' =>
        rw [hac] at hacc
        refine And.intro rfl (And.intro (.inl rfl) (And.intro (by simp only [List.length_map, List.length_cons, List.length_nil] at hacc ⊢; omega) ?_))
        exact fin (app w0 acc' hac (by rw [hw]; rfl)) rfl rfl rfl rfl rfl rfl rfl
    | false =>
      refine cond_f rfl ?_
      cases row with
      | nil =>
        cases hac : acc with
        | nil =>
          refine And.intro rfl (And.intro (.inl rfl) (And.intro Nat.zero_lt_one (And.intro (by simp only [List.length_cons, List.length_nil]; omega) ?_)))
          exact fin (by rw [hac, hw]; rfl) rfl rfl rfl rfl rfl rfl rfl
        | cons w0 acc' =>
          rw [hac] at hacc
          refine And.intro rfl (And.intro (.inl rfl) (And.intro (by simp only [List.length_map, List.length_cons, List.length_nil] at hacc ⊢; omega) ?_))
          exact fin (app w0 acc' hac (by rw [hw]; rfl)) rfl rfl rfl rfl rfl rfl rfl
      | cons r0 row' =>
        cases hac : acc with
        | nil =>
          refine And.intro rfl (And.intro (.inl rfl) (And.intro Nat.zero_lt_one (And.intro (by simp only [List.length_cons, List.length_nil]; omega) ?_)))
          exact fin (by rw [hac, hw]; rfl) rfl rfl rfl rfl rfl rfl rfl
        | cons w0 acc' =>
          rw [hac] at hacc
          refine And.intro rfl (And.intro (.inl rfl) (And.intro (by simp only [List.length_map, List.length_cons, List.length_nil] at hacc ⊢; omega) ?_))
          exact fin (app w0 acc' hac (by rw [hw]; rfl)) rfl rfl rfl rfl rfl rfl rfl

theorem batchZ (acts : List Act) (hl : acts.length ≤ 1000) : ∃ ws, Bat acts ws ∧ ∀ (N : Int) (nl : Option Bool) (own : Bool), PCallN Tryd.prog 13 [.int .i64 N, .sl 3 nl own (acts.map Act.c)] (batAV none false N ws) ∧ (acts ≠ [] → PCallN Tryd.prog 13 [.int .i64 N, .sl 3 nl own (acts.map Act.c)] (.agg [.int .i64 N, .xsl 3 (ws.map cZ)])) := by
  have h2 : ∀ x, x ∈ acts.map keyOf → x.length = 2 := fun x hx => by
    obtain ⟨a, _, rfl⟩ := List.mem_map.1 hx
    rfl
  obtain ⟨all, hr, hc⟩ := riseN (acts.map keyOf) (by rw [List.length_map]; exact hl) (fun x hx e => by have := h2 x hx; rw [e] at this; cases this)
  have hal : all.length ≤ acts.length := by have := hr.len; rwa [List.length_map] at this
  refine ⟨all.map (wOf acts), ⟨fun N hN hne h64 => ?_, fun w hw => ?_, by rw [List.length_map]; exact hal, fun hne e => ?_⟩, fun N nl own => ?_⟩
  · have hf := fits_of acts all [] (fun x hx => h2 x (hr.mem x hx)) hr.asc
    have hp : 0 < all.length := List.length_pos_iff.2 (hr.ne (fun e => hne (List.map_eq_nil_iff.1 e)))
    unfold rightB
    rw [hf, decide_eq_true (show N ≥ 1 from hN)]
    simp only [List.length_map]
    rw [decide_eq_true (show ((all.length : Nat) : Int) ≥ 1 by omega), decide_eq_true (show ((all.length : Nat) : Int) ≤ 64 by omega)]
    rfl
  · obtain ⟨k, hk, rfl⟩ := List.mem_map.1 hw
    refine ⟨h2 k (hr.mem k hk), ?_⟩
    have hl := actS_len k acts
    unfold wOf
    cases (actS k acts).2 with
    | true => exact Nat.zero_le _
    | false => exact hl
  · exact hr.ne (fun e => hne (List.map_eq_nil_iff.1 e)) (List.map_eq_nil_iff.1 e)
  · refine ⟨?_, fun hne => ?_⟩
    · refine PCallN.weakArgs (.cons _ _ _ _ (.refl _) (.cons _ _ _ _ (.both _ _ _ _) .nil)) (np_cons (.int _ _) (np_cons (np_acts _) np_nil)) ?_
      refine PCallN.of (tr [6, 20, 1000076]) f13 (Nat.le_of_ble_eq_true rfl) (np_cons (.int _ _) (np_cons (np_acts _) np_nil)) (np_batAV _ _ _ _) ?_
      refine VloopS.weakE (l := k2At acts 0) (h := [zb, bx0 N]) rfl ⟨.refl _, .refl _, .refl _, .nil _ _ _ _ _ (by simp), .refl _, trivial⟩ rfl (Nat.zero_le _) (VloopS.exW (k2Loop N acts hl _ ?_ acts.length 0 (by omega)))
      refine call_p (hc none false) ?_
      refine VloopS.exW (VloopS.shift (σ' := ⟨[], btAt acts all 0, [zb, bx N []]⟩) (ShiftS.fz (fun _ => none) ⟨.wk _ _ (.refl _), .wk _ _ (.refl _), .wk _ _ (.refl _), .wk _ _ (.refl _), .wk _ _ (.refl _), .wk _ _ (.refl _), trivial⟩ (.same 0 _ _ _ rfl (.cells 1 _ _ _ _ rfl (.cons _ _ _ _ (.wk _ _ (.refl _)) (.cons _ _ _ _ (.wk _ _ (.nil _ _ _ _ _ (by simp))) .nil)) (.nil 2))) (fun i sz xs h => by cases h)) (Nat.zero_le _) (btLoop N acts hl all (by omega) _ ?_ all.length 0 (by omega)))
      exact rfl
    · refine PCallN.weakArgs (.cons _ _ _ _ (.refl _) (.cons _ _ _ _ (.both _ _ _ _) .nil)) (np_cons (.int _ _) (np_cons (np_acts _) np_nil)) ?_
      refine PCallN.ofMv (tr [6, 20, 1000064, 1000076, 1000079, 1000081]) f13 (Nat.le_of_ble_eq_true rfl) (np_cons (.int _ _) (np_cons (np_acts _) np_nil)) (.agg _ (np_cons (.int _ _) (np_cons (wsX_np _) np_nil))) ?_
      refine VloopS.weakE (l := k2At acts 0) (h := [zb, bx0 N]) rfl ⟨.refl _, .refl _, .refl _, .nil _ _ _ _ _ (by simp), .refl _, trivial⟩ rfl (Nat.zero_le _) (VloopS.exW (k2LoopZ N acts hl _ ?_ acts.length 0 (by omega)))
      refine call_p (hc none false) ?_
      refine VloopS.weakE (l := btAt acts all 0) (h := [zb, bz N []]) rfl ⟨.refl _, .refl _, .refl _, .refl _, .refl _, .refl _, trivial⟩ rfl (Nat.zero_le _) (VloopS.exW (btLoopZ N acts hl all (by omega) _ ?_ all.length 0 (by omega)))
      have hwne : all.map (wOf acts) ≠ [] := fun e => hr.ne (fun e => hne (List.map_eq_nil_iff.1 e)) (List.map_eq_nil_iff.1 e)
      unfold bz
      rw [wsZ_ne hwne]
      exact rfl

end Go.Proofs.YtjbgdmebpnfpnaaDoor.V

/- Two batches are the same, if nothing of them is another thing: the law RecordSame. -/
namespace Go.Proofs.YtjbgdmebpnfpnaaDoor.V
open Go.IntWalk Go.Lib

theorem wk_cZ {B : Nat → Option (Nat × List (List AV))} (w : Wr) : WkFL B (cZ w) w.c := by
  refine .cons _ _ _ _ (.wk _ _ (.refl _)) (.cons _ _ _ _ ?_ (.cons _ _ _ _ (.wk _ _ (.refl _)) .nil))
  cases w.row with
  | nil => exact .wk _ _ (.nil _ _ _ _ _ (by simp))
  | cons a r => exact .fsl _ _ _ _ (by simp) rfl (WkFL.of _)
theorem wk_cZs {B : Nat → Option (Nat × List (List AV))} : ∀ l : List Wr, WkFL B (l.map cZ).flatten (l.map Wr.c).flatten
  | [] => .nil
  | w :: l => (wk_cZ w).app (wk_cZs l)
theorem cZ_len (w : Wr) : (cZ w).length = 3 := rfl
theorem cZ_lens (l : List Wr) : ∀ x, x ∈ l.map cZ → x.length = 3 := fun x hx => by
  obtain ⟨w, _, rfl⟩ := List.mem_map.1 hx
  rfl
theorem cZ_map_len (l : List Wr) : (l.map cZ).map List.length = (l.map Wr.c).map List.length := by
  induction l with
  | nil => rfl
  | cons w l ih => rw [List.map_cons, List.map_cons, List.map_cons, List.map_cons, ih]; rfl
theorem wk_xsl {B : Nat → Option (Nat × List (List AV))} (l : List Wr) : WkF B (.xsl 3 (l.map cZ)) (.sl 3 none false (l.map Wr.c)) := .xsl _ _ _ _ (by simp) (cZ_map_len l) (wk_cZs l)
/-- A slice of the box, told as writes. -/
theorem wk_bslz {B : Nat → Option (Nat × List (List AV))} {off len : Nat} {xs : List (List AV)} (hB : B 4 = some (3, xs)) (hle : off + len = xs.length) (l : List Wr) (h : (xs.drop off).take len = l.map cZ) : WkF B (.bsl 3 4 off len) (.sl 3 none false (l.map Wr.c)) :=
  .bsl _ _ _ _ _ _ _ hB (Nat.le_of_eq hle) (by simp) (by rw [h]; exact cZ_map_len l) (by rw [h]; exact wk_cZs l)

theorem wk_first {B : Nat → Option (Nat × List (List AV))} {n : Nat} {x : List AV} {w : Wr} {l : List Wr} (hn : n = (l.map cZ).length + 1) (hx : WkFL B x w.c) (hB : B 4 = some (3, x :: l.map cZ) := by rfl) : WkF B (.bsl 3 4 0 n) (.sl 3 none false ((w :: l).map Wr.c)) := by
  subst hn
  have e : ((x :: l.map cZ).drop 0).take ((l.map cZ).length + 1) = x :: l.map cZ := List.take_of_length_le (Nat.le_refl _)
  refine .bsl _ _ _ _ _ _ _ hB (by simp) (by simp) ?_ ?_
  · rw [e, List.map_cons, List.map_cons, List.map_cons, hx.length, cZ_map_len]
  · rw [e]
    exact hx.app (wk_cZs l)
theorem wk_snoc1 {B : Nat → Option (Nat × List (List AV))} (a : UInt8) (r : List UInt8) : WkF B (.sl 1 (some false) false (bs (a :: r) ++ [[.int .u8 1]])) (.sl 1 none false (bs ((a :: r) ++ [1]))) := by
  rw [← bs_app]
  exact .wk _ _ (.nl _ _ _ _)
theorem wk_tail {B : Nat → Option (Nat × List (List AV))} {w : Wr} {l : List Wr} (hB : B 4 = some (3, (w :: l).map cZ) := by rfl) : WkF B (.bsl 3 4 (0 + (1 : Int).toNat) (((((w :: l).map cZ).length : Nat) : Int).toNat - (1 : Int).toNat)) (.sl 3 none false (l.map Wr.c)) := by
  have e : (((w :: l).map cZ).drop (0 + (1 : Int).toNat)).take (((((w :: l).map cZ).length : Nat) : Int).toNat - (1 : Int).toNat) = l.map cZ := by
    show ((l.map cZ)).take _ = _
    exact List.take_of_length_le (by simp)
  refine .bsl _ _ _ _ _ _ _ hB (by simp; omega) (by simp) (by rw [e]; exact cZ_map_len l) (by rw [e]; exact wk_cZs l)

theorem rsame0 (na nb : Option Bool) (oa ob : Bool) (a b : List Act) (what : UInt8) (wa wb : List Wr)  (hane : a ≠ []) (hl1 : wa.length ≤ 1000000) (hrow : ∀ w, w ∈ wa → w.row.length ≤ 1000000)
    (hca : ∀ (N : Int) (nl : Option Bool) (own : Bool), PCallN Tryd.prog 13 [.int .i64 N, .sl 3 nl own (a.map Act.c)] (batAV none false N wa) ∧ (a ≠ [] → PCallN Tryd.prog 13 [.int .i64 N, .sl 3 nl own (a.map Act.c)] (.agg [.int .i64 N, .xsl 3 (wa.map cZ)])))
    (hcb : ∀ (N : Int) (nl : Option Bool) (own : Bool), PCallN Tryd.prog 13 [.int .i64 N, .sl 3 nl own (b.map Act.c)] (batAV none false N wb) ∧ (b ≠ [] → PCallN Tryd.prog 13 [.int .i64 N, .sl 3 nl own (b.map Act.c)] (.agg [.int .i64 N, .xsl 3 (wb.map cZ)])))
    (e1 : decide ((((a.map Act.c).length : Nat) : Int) > 30) = false) (e2 : decide ((((b.map Act.c).length : Nat) : Int) > 30) = false) (e3 : ((((a.map Act.c).length : Nat) : Int) == 0) = false) (k : Nat) (em : (what.toNat : Int).tmod 4 = (k : Int)) (hk : k = 0) :
    VCall Tryd.prog 7 [.sl 3 na oa (a.map Act.c), .sl 3 nb ob (b.map Act.c), .int .u8 what.toNat] [G0] (.bool true) [G0] := by
  refine VCall.ofS (tr [3000071]) f7 (Nat.le_of_ble_eq_true rfl) (Nat.le_refl _) (.bool _) hob_G0 ?_
  refine call_h shortN ?_
  repeat (first | refine guard_t rfl ?_ | refine guard_f (by decide) ?_)
  refine guard_t e1 ?_
  rw [e1]
  repeat (first | refine guard_t rfl ?_ | refine guard_f (by decide) ?_)
  refine guard_t e2 ?_
  rw [e2]
  repeat (first | refine guard_t rfl ?_ | refine guard_f (by decide) ?_)
  refine cond_f e3 ?_
  refine call_p (hca 2 _ _).1 ?_
  refine call_p (hcb 2 _ _).1 ?_
  refine call_p ((hca 2 _ _).2 hane) ?_
  refine And.intro (by decide) ?_
  refine cond_t (by rw [em, hk]; rfl) ?_
  refine Exists.intro ⟨[], [(7, .ptr (some (1, 0))), (8, .ptr (some (2, 0))), (9, .ptr (some (3, 0)))], [G0, bxS 2 wa, bxS 2 wb, bxS 3 (wa)]⟩ (And.intro (ShiftS.fz (fun _ => none) ⟨.wk _ _ (.refl _), .wk _ _ (.refl _), .wk _ _ (.refl _), trivial⟩ (.same 0 _ _ _ rfl (.same 1 _ _ _ rfl (.same 2 _ _ _ rfl (.cells 3 _ _ _ _ rfl (.cons _ _ _ _ (.wk _ _ (.refl _)) (.cons _ _ _ _ (wk_xsl wa) .nil)) (.nil 4))))) (fun i sz xs h => by cases h)) ?_)
  have q1 := recSameN none none false false 2 2 wa wb hl1
  have q2 := rSameN none none false false 2 2 wa wb hl1 hrow
  have q3 := recSameN none none false false 2 2 wa wa hl1
  have q4 := recSameN none none false false 2 3 wa (wa) hl1
  rw [decide_eq_true (⟨rfl, rfl⟩ : (2 : Int) = 2 ∧ wa = wa)] at q3
  rw [decide_eq_false (fun h => absurd h.1 (by decide))] at q4
  refine call_d q1 ?_
  refine call_d q2 ?_
  refine guard_t (beq_self_eq_true _) ?_
  rw [beq_self_eq_true]
  repeat (first | refine guard_t rfl ?_ | refine guard_f (by decide) ?_)
  refine call_d q3 ?_
  repeat (first | refine guard_t rfl ?_ | refine guard_f (by decide) ?_)
  refine call_d q4 ?_
  repeat (first | refine guard_t rfl ?_ | refine guard_f (by decide) ?_)
  refine And.intro (by kernel_rfl) ?_
  exact ⟨⟨_, rfl⟩, rfl⟩

theorem rsame1 (na nb : Option Bool) (oa ob : Bool) (a b : List Act) (what : UInt8) (wa wb : List Wr) (w0 : Wr) (wr : List Wr) (hwa : wa = w0 :: wr) (hpos : (0 : Int) < ((wa.map cZ).length : Nat)) (hane : a ≠ []) (hl1 : wa.length ≤ 1000000) (hrow : ∀ w, w ∈ wa → w.row.length ≤ 1000000)
    (hca : ∀ (N : Int) (nl : Option Bool) (own : Bool), PCallN Tryd.prog 13 [.int .i64 N, .sl 3 nl own (a.map Act.c)] (batAV none false N wa) ∧ (a ≠ [] → PCallN Tryd.prog 13 [.int .i64 N, .sl 3 nl own (a.map Act.c)] (.agg [.int .i64 N, .xsl 3 (wa.map cZ)])))
    (hcb : ∀ (N : Int) (nl : Option Bool) (own : Bool), PCallN Tryd.prog 13 [.int .i64 N, .sl 3 nl own (b.map Act.c)] (batAV none false N wb) ∧ (b ≠ [] → PCallN Tryd.prog 13 [.int .i64 N, .sl 3 nl own (b.map Act.c)] (.agg [.int .i64 N, .xsl 3 (wb.map cZ)])))
    (e1 : decide ((((a.map Act.c).length : Nat) : Int) > 30) = false) (e2 : decide ((((b.map Act.c).length : Nat) : Int) > 30) = false) (e3 : ((((a.map Act.c).length : Nat) : Int) == 0) = false) (k : Nat) (em : (what.toNat : Int).tmod 4 = (k : Int)) (hk : k = 1) :
    VCall Tryd.prog 7 [.sl 3 na oa (a.map Act.c), .sl 3 nb ob (b.map Act.c), .int .u8 what.toNat] [G0] (.bool true) [G0] := by
  subst hwa
  refine VCall.ofS (tr [3000071, 3000048]) f7 (Nat.le_of_ble_eq_true rfl) (Nat.le_refl _) (.bool _) hob_G0 ?_
  refine call_h shortN ?_
  repeat (first | refine guard_t rfl ?_ | refine guard_f (by decide) ?_)
  refine guard_t e1 ?_
  rw [e1]
  repeat (first | refine guard_t rfl ?_ | refine guard_f (by decide) ?_)
  refine guard_t e2 ?_
  rw [e2]
  repeat (first | refine guard_t rfl ?_ | refine guard_f (by decide) ?_)
  refine cond_f e3 ?_
  refine call_p (hca 2 _ _).1 ?_
  refine call_p (hcb 2 _ _).1 ?_
  refine call_p ((hca 2 _ _).2 hane) ?_
  refine And.intro (by decide) ?_
  refine cond_f (by rw [em, hk]; rfl) ?_
  refine cond_t (by rw [em, hk]; rfl) ?_
  refine Exists.intro ⟨[], [(7, .ptr (some (1, 0))), (8, .ptr (some (2, 0))), (9, .ptr (some (3, 0)))], [G0, bxS 2 (w0 :: wr), bxS 2 wb, .cells [.int .i64 2, .bsl 3 4 0 ((w0 :: wr).map cZ).length], .arr 3 ((w0 :: wr).map cZ)]⟩ (And.intro (ShiftS.trans (ShiftS.openCell (i := 3) (sz := 3) (c1 := [.int .i64 2]) (c3 := []) rfl) (ShiftS.wk [(7, .ptr (some (1, 0))), (8, .ptr (some (2, 0))), (9, .ptr (some (3, 0)))] ⟨.wk _ _ (.refl _), .wk _ _ (.refl _), .wk _ _ (.refl _), trivial⟩)) ?_)
  refine And.intro rfl (And.intro ⟨Int.le_refl _, hpos⟩ ?_)
  refine (Exists.intro 0 (Exists.intro 2 (Exists.intro (cZ w0) (And.intro ⟨rfl, rfl, cZ_lens (w0 :: wr)⟩ (And.intro rfl ?_)))))
  refine And.intro rfl (And.intro ⟨Int.le_refl _, hpos⟩ ?_)
  refine (Exists.intro 0 (Exists.intro 2 (Exists.intro (cZ w0) (And.intro ⟨rfl, by decide, by decide⟩ (And.intro rfl ?_)))))
  refine And.intro (by kernel_rfl) ?_
  refine Exists.intro ⟨[], [(7, .ptr (some (1, 0))), (8, .ptr (some (2, 0))), (9, .ptr (some (3, 0)))], [G0, bxS 2 (w0 :: wr), bxS 2 wb, bxS 2 (⟨w0.key, w0.row, !w0.gone⟩ :: wr), .ro []]⟩ (And.intro (ShiftS.fz (fzOf [(4, 3, cZ ⟨w0.key, w0.row, !w0.gone⟩ :: wr.map cZ)]) ⟨.wk _ _ (.refl _), .wk _ _ (.refl _), .wk _ _ (.refl _), trivial⟩ (.same 0 _ _ _ rfl (.same 1 _ _ _ rfl (.same 2 _ _ _ rfl (.cells 3 _ _ _ _ rfl (.cons _ _ _ _ (.wk _ _ (.refl _)) (.cons _ _ _ _ (wk_bslz rfl (by simp) (⟨w0.key, w0.row, !w0.gone⟩ :: wr) (List.take_of_length_le (Nat.le_refl _))) .nil)) (.fz 4 _ _ _ _ rfl (.nil 5)))))) (fun i sz xs h => by obtain ⟨rfl, rfl, rfl⟩ := fzOf_one h; rfl)) ?_)
  have q1 := recSameN none none false false 2 2 (w0 :: wr) wb hl1
  have q2 := rSameN none none false false 2 2 (w0 :: wr) wb hl1 hrow
  have q3 := recSameN none none false false 2 2 (w0 :: wr) (w0 :: wr) hl1
  have q4 := recSameN none none false false 2 2 (w0 :: wr) (⟨w0.key, w0.row, !w0.gone⟩ :: wr) hl1
  rw [decide_eq_true (⟨rfl, rfl⟩ : (2 : Int) = 2 ∧ (w0 :: wr) = (w0 :: wr))] at q3
  rw [decide_eq_false (fun h => absurd (congrArg Wr.gone (List.cons.inj h.2).1) (by show ¬ w0.gone = !w0.gone; cases w0.gone <;> decide))] at q4
  refine call_d q1 ?_
  refine call_d q2 ?_
  refine guard_t (beq_self_eq_true _) ?_
  rw [beq_self_eq_true]
  repeat (first | refine guard_t rfl ?_ | refine guard_f (by decide) ?_)
  refine call_d q3 ?_
  repeat (first | refine guard_t rfl ?_ | refine guard_f (by decide) ?_)
  refine call_d q4 ?_
  repeat (first | refine guard_t rfl ?_ | refine guard_f (by decide) ?_)
  refine And.intro (by kernel_rfl) ?_
  exact ⟨⟨_, rfl⟩, rfl⟩

theorem rsame2n (na nb : Option Bool) (oa ob : Bool) (a b : List Act) (what : UInt8) (wa wb : List Wr) (k0 : List UInt8) (g0 : Bool) (wr : List Wr) (hwa : wa = ⟨k0, [], g0⟩ :: wr) (hpos : (0 : Int) < ((wa.map cZ).length : Nat)) (hane : a ≠ []) (hl1 : wa.length ≤ 1000000) (hrow : ∀ w, w ∈ wa → w.row.length ≤ 1000000)
    (hca : ∀ (N : Int) (nl : Option Bool) (own : Bool), PCallN Tryd.prog 13 [.int .i64 N, .sl 3 nl own (a.map Act.c)] (batAV none false N wa) ∧ (a ≠ [] → PCallN Tryd.prog 13 [.int .i64 N, .sl 3 nl own (a.map Act.c)] (.agg [.int .i64 N, .xsl 3 (wa.map cZ)])))
    (hcb : ∀ (N : Int) (nl : Option Bool) (own : Bool), PCallN Tryd.prog 13 [.int .i64 N, .sl 3 nl own (b.map Act.c)] (batAV none false N wb) ∧ (b ≠ [] → PCallN Tryd.prog 13 [.int .i64 N, .sl 3 nl own (b.map Act.c)] (.agg [.int .i64 N, .xsl 3 (wb.map cZ)])))
    (e1 : decide ((((a.map Act.c).length : Nat) : Int) > 30) = false) (e2 : decide ((((b.map Act.c).length : Nat) : Int) > 30) = false) (e3 : ((((a.map Act.c).length : Nat) : Int) == 0) = false) (k : Nat) (em : (what.toNat : Int).tmod 4 = (k : Int)) (hk : k = 2) :
    VCall Tryd.prog 7 [.sl 3 na oa (a.map Act.c), .sl 3 nb ob (b.map Act.c), .int .u8 what.toNat] [G0] (.bool true) [G0] := by
  subst hwa
  refine VCall.ofS (tr [3000071, 3000060]) f7 (Nat.le_of_ble_eq_true rfl) (Nat.le_refl _) (.bool _) hob_G0 ?_
  refine call_h shortN ?_
  repeat (first | refine guard_t rfl ?_ | refine guard_f (by decide) ?_)
  refine guard_t e1 ?_
  rw [e1]
  repeat (first | refine guard_t rfl ?_ | refine guard_f (by decide) ?_)
  refine guard_t e2 ?_
  rw [e2]
  repeat (first | refine guard_t rfl ?_ | refine guard_f (by decide) ?_)
  refine cond_f e3 ?_
  refine call_p (hca 2 _ _).1 ?_
  refine call_p (hcb 2 _ _).1 ?_
  refine call_p ((hca 2 _ _).2 hane) ?_
  refine And.intro (by decide) ?_
  refine cond_f (by rw [em, hk]; rfl) ?_
  refine cond_f (by rw [em, hk]; rfl) ?_
  refine cond_t (by rw [em, hk]; rfl) ?_
  refine Exists.intro ⟨[], [(7, .ptr (some (1, 0))), (8, .ptr (some (2, 0))), (9, .ptr (some (3, 0)))], [G0, bxS 2 (⟨k0, [], g0⟩ :: wr), bxS 2 wb, .cells [.int .i64 2, .bsl 3 4 0 ((⟨k0, [], g0⟩ :: wr).map cZ).length], .arr 3 ((⟨k0, [], g0⟩ :: wr).map cZ)]⟩ (And.intro (ShiftS.trans (ShiftS.openCell (i := 3) (sz := 3) (c1 := [.int .i64 2]) (c3 := []) rfl) (ShiftS.wk [(7, .ptr (some (1, 0))), (8, .ptr (some (2, 0))), (9, .ptr (some (3, 0)))] ⟨.wk _ _ (.refl _), .wk _ _ (.refl _), .wk _ _ (.refl _), trivial⟩)) ?_)
  refine And.intro rfl (And.intro ⟨Int.le_refl _, hpos⟩ ?_)
  refine (Exists.intro 0 (Exists.intro 1 (Exists.intro (cZ ⟨k0, [], g0⟩) (And.intro ⟨rfl, rfl, cZ_lens (⟨k0, [], g0⟩ :: wr)⟩ (And.intro rfl ?_)))))
  refine And.intro (.inr ⟨rfl, rfl⟩) (And.intro (.inl rfl) (And.intro (by simp only [List.length_cons, List.length_nil]; omega) ?_))
  refine And.intro rfl (And.intro ⟨Int.le_refl _, hpos⟩ ?_)
  refine (Exists.intro 0 (Exists.intro 1 (Exists.intro (cZ ⟨k0, [], g0⟩) (And.intro ⟨rfl, by decide, by decide⟩ (And.intro rfl ?_)))))
  refine And.intro (by kernel_rfl) ?_
  refine Exists.intro ⟨[], [(7, .ptr (some (1, 0))), (8, .ptr (some (2, 0))), (9, .ptr (some (3, 0)))], [G0, bxS 2 (⟨k0, [], g0⟩ :: wr), bxS 2 wb, bxS 2 (⟨k0, [1], g0⟩ :: wr), .ro []]⟩ (And.intro (ShiftS.fz (fzOf [(4, 3, [.str (st k0), .sl 1 none false (bs [1]), .bool g0] :: wr.map cZ)]) ⟨.wk _ _ (.refl _), .wk _ _ (.refl _), .wk _ _ (.refl _), trivial⟩ (.same 0 _ _ _ rfl (.same 1 _ _ _ rfl (.same 2 _ _ _ rfl (.cells 3 _ _ _ _ rfl (.cons _ _ _ _ (.wk _ _ (.refl _)) (.cons _ _ _ _ (wk_first (by simp) (.cons _ _ _ _ (.wk _ _ (.refl _)) (.cons _ _ _ _ (.wk _ _ (.refl _)) (.cons _ _ _ _ (.wk _ _ (.refl _)) .nil)))) .nil)) (.fz 4 _ _ _ _ rfl (.nil 5)))))) (fun i sz xs h => by obtain ⟨rfl, rfl, rfl⟩ := fzOf_one h; rfl)) ?_)
  have q1 := recSameN none none false false 2 2 (⟨k0, [], g0⟩ :: wr) wb hl1
  have q2 := rSameN none none false false 2 2 (⟨k0, [], g0⟩ :: wr) wb hl1 hrow
  have q3 := recSameN none none false false 2 2 (⟨k0, [], g0⟩ :: wr) (⟨k0, [], g0⟩ :: wr) hl1
  have q4 := recSameN none none false false 2 2 (⟨k0, [], g0⟩ :: wr) (⟨k0, [1], g0⟩ :: wr) hl1
  rw [decide_eq_true (⟨rfl, rfl⟩ : (2 : Int) = 2 ∧ (⟨k0, [], g0⟩ :: wr) = (⟨k0, [], g0⟩ :: wr))] at q3
  rw [decide_eq_false (fun h => absurd (congrArg List.length (congrArg Wr.row (List.cons.inj h.2).1)) (by simp))] at q4
  refine call_d q1 ?_
  refine call_d q2 ?_
  refine guard_t (beq_self_eq_true _) ?_
  rw [beq_self_eq_true]
  repeat (first | refine guard_t rfl ?_ | refine guard_f (by decide) ?_)
  refine call_d q3 ?_
  repeat (first | refine guard_t rfl ?_ | refine guard_f (by decide) ?_)
  refine call_d q4 ?_
  repeat (first | refine guard_t rfl ?_ | refine guard_f (by decide) ?_)
  refine And.intro (by kernel_rfl) ?_
  exact ⟨⟨_, rfl⟩, rfl⟩

theorem rsame2c (na nb : Option Bool) (oa ob : Bool) (a b : List Act) (what : UInt8) (wa wb : List Wr) (k0 : List UInt8) (ra : UInt8) (rr : List UInt8) (g0 : Bool) (wr : List Wr) (hwa : wa = ⟨k0, ra :: rr, g0⟩ :: wr) (hpos : (0 : Int) < ((wa.map cZ).length : Nat)) (hane : a ≠ []) (hl1 : wa.length ≤ 1000000) (hrow : ∀ w, w ∈ wa → w.row.length ≤ 1000000)
    (hca : ∀ (N : Int) (nl : Option Bool) (own : Bool), PCallN Tryd.prog 13 [.int .i64 N, .sl 3 nl own (a.map Act.c)] (batAV none false N wa) ∧ (a ≠ [] → PCallN Tryd.prog 13 [.int .i64 N, .sl 3 nl own (a.map Act.c)] (.agg [.int .i64 N, .xsl 3 (wa.map cZ)])))
    (hcb : ∀ (N : Int) (nl : Option Bool) (own : Bool), PCallN Tryd.prog 13 [.int .i64 N, .sl 3 nl own (b.map Act.c)] (batAV none false N wb) ∧ (b ≠ [] → PCallN Tryd.prog 13 [.int .i64 N, .sl 3 nl own (b.map Act.c)] (.agg [.int .i64 N, .xsl 3 (wb.map cZ)])))
    (e1 : decide ((((a.map Act.c).length : Nat) : Int) > 30) = false) (e2 : decide ((((b.map Act.c).length : Nat) : Int) > 30) = false) (e3 : ((((a.map Act.c).length : Nat) : Int) == 0) = false) (k : Nat) (em : (what.toNat : Int).tmod 4 = (k : Int)) (hk : k = 2) :
    VCall Tryd.prog 7 [.sl 3 na oa (a.map Act.c), .sl 3 nb ob (b.map Act.c), .int .u8 what.toNat] [G0] (.bool true) [G0] := by
  subst hwa
  refine VCall.ofS (tr [3000071, 3000060, 1000068]) f7 (Nat.le_of_ble_eq_true rfl) (Nat.le_refl _) (.bool _) hob_G0 ?_
  refine call_h shortN ?_
  repeat (first | refine guard_t rfl ?_ | refine guard_f (by decide) ?_)
  refine guard_t e1 ?_
  rw [e1]
  repeat (first | refine guard_t rfl ?_ | refine guard_f (by decide) ?_)
  refine guard_t e2 ?_
  rw [e2]
  repeat (first | refine guard_t rfl ?_ | refine guard_f (by decide) ?_)
  refine cond_f e3 ?_
  refine call_p (hca 2 _ _).1 ?_
  refine call_p (hcb 2 _ _).1 ?_
  refine call_p ((hca 2 _ _).2 hane) ?_
  refine And.intro (by decide) ?_
  refine cond_f (by rw [em, hk]; rfl) ?_
  refine cond_f (by rw [em, hk]; rfl) ?_
  refine cond_t (by rw [em, hk]; rfl) ?_
  refine Exists.intro ⟨[], [(7, .ptr (some (1, 0))), (8, .ptr (some (2, 0))), (9, .ptr (some (3, 0)))], [G0, bxS 2 (⟨k0, ra :: rr, g0⟩ :: wr), bxS 2 wb, .cells [.int .i64 2, .bsl 3 4 0 ((⟨k0, ra :: rr, g0⟩ :: wr).map cZ).length], .arr 3 ((⟨k0, ra :: rr, g0⟩ :: wr).map cZ)]⟩ (And.intro (ShiftS.trans (ShiftS.openCell (i := 3) (sz := 3) (c1 := [.int .i64 2]) (c3 := []) rfl) (ShiftS.wk [(7, .ptr (some (1, 0))), (8, .ptr (some (2, 0))), (9, .ptr (some (3, 0)))] ⟨.wk _ _ (.refl _), .wk _ _ (.refl _), .wk _ _ (.refl _), trivial⟩)) ?_)
  refine And.intro rfl (And.intro ⟨Int.le_refl _, hpos⟩ ?_)
  refine (Exists.intro 0 (Exists.intro 1 (Exists.intro (cZ ⟨k0, ra :: rr, g0⟩) (And.intro ⟨rfl, rfl, cZ_lens (⟨k0, ra :: rr, g0⟩ :: wr)⟩ (And.intro rfl ?_)))))
  refine And.intro rfl (And.intro (.inl rfl) (And.intro Nat.zero_lt_one (And.intro (by have := hrow _ (List.mem_cons_self ..); simp only [List.length_cons, List.length_nil, bs_len] at this ⊢; omega) ?_)))
  refine And.intro rfl (And.intro ⟨Int.le_refl _, hpos⟩ ?_)
  refine (Exists.intro 0 (Exists.intro 1 (Exists.intro (cZ ⟨k0, ra :: rr, g0⟩) (And.intro ⟨rfl, by decide, by decide⟩ (And.intro rfl ?_)))))
  refine And.intro (by kernel_rfl) ?_
  refine Exists.intro ⟨[], [(7, .ptr (some (1, 0))), (8, .ptr (some (2, 0))), (9, .ptr (some (3, 0)))], [G0, bxS 2 (⟨k0, ra :: rr, g0⟩ :: wr), bxS 2 wb, bxS 2 (⟨k0, (ra :: rr) ++ [1], g0⟩ :: wr), .ro []]⟩ (And.intro (ShiftS.fz (fzOf [(4, 3, [.str (st k0), .sl 1 (some false) false (bs (ra :: rr) ++ [[.int .u8 1]]), .bool g0] :: wr.map cZ)]) ⟨.wk _ _ (.refl _), .wk _ _ (.refl _), .wk _ _ (.refl _), trivial⟩ (.same 0 _ _ _ rfl (.same 1 _ _ _ rfl (.same 2 _ _ _ rfl (.cells 3 _ _ _ _ rfl (.cons _ _ _ _ (.wk _ _ (.refl _)) (.cons _ _ _ _ (wk_first (by simp) (.cons _ _ _ _ (.wk _ _ (.refl _)) (.cons _ _ _ _ (wk_snoc1 ra rr) (.cons _ _ _ _ (.wk _ _ (.refl _)) .nil)))) .nil)) (.fz 4 _ _ _ _ rfl (.nil 5)))))) (fun i sz xs h => by obtain ⟨rfl, rfl, rfl⟩ := fzOf_one h; rfl)) ?_)
  have q1 := recSameN none none false false 2 2 (⟨k0, ra :: rr, g0⟩ :: wr) wb hl1
  have q2 := rSameN none none false false 2 2 (⟨k0, ra :: rr, g0⟩ :: wr) wb hl1 hrow
  have q3 := recSameN none none false false 2 2 (⟨k0, ra :: rr, g0⟩ :: wr) (⟨k0, ra :: rr, g0⟩ :: wr) hl1
  have q4 := recSameN none none false false 2 2 (⟨k0, ra :: rr, g0⟩ :: wr) (⟨k0, (ra :: rr) ++ [1], g0⟩ :: wr) hl1
  rw [decide_eq_true (⟨rfl, rfl⟩ : (2 : Int) = 2 ∧ (⟨k0, ra :: rr, g0⟩ :: wr) = (⟨k0, ra :: rr, g0⟩ :: wr))] at q3
  rw [decide_eq_false (fun h => absurd (congrArg List.length (congrArg Wr.row (List.cons.inj h.2).1)) (by simp))] at q4
  refine call_d q1 ?_
  refine call_d q2 ?_
  refine guard_t (beq_self_eq_true _) ?_
  rw [beq_self_eq_true]
  repeat (first | refine guard_t rfl ?_ | refine guard_f (by decide) ?_)
  refine call_d q3 ?_
  repeat (first | refine guard_t rfl ?_ | refine guard_f (by decide) ?_)
  refine call_d q4 ?_
  repeat (first | refine guard_t rfl ?_ | refine guard_f (by decide) ?_)
  refine And.intro (by kernel_rfl) ?_
  exact ⟨⟨_, rfl⟩, rfl⟩

theorem rsame3 (na nb : Option Bool) (oa ob : Bool) (a b : List Act) (what : UInt8) (wa wb : List Wr) (w0 : Wr) (wr : List Wr) (hwa : wa = w0 :: wr) (hpos1 : (1 : Int) ≤ ((wa.map cZ).length : Nat)) (hane : a ≠ []) (hl1 : wa.length ≤ 1000000) (hrow : ∀ w, w ∈ wa → w.row.length ≤ 1000000)
    (hca : ∀ (N : Int) (nl : Option Bool) (own : Bool), PCallN Tryd.prog 13 [.int .i64 N, .sl 3 nl own (a.map Act.c)] (batAV none false N wa) ∧ (a ≠ [] → PCallN Tryd.prog 13 [.int .i64 N, .sl 3 nl own (a.map Act.c)] (.agg [.int .i64 N, .xsl 3 (wa.map cZ)])))
    (hcb : ∀ (N : Int) (nl : Option Bool) (own : Bool), PCallN Tryd.prog 13 [.int .i64 N, .sl 3 nl own (b.map Act.c)] (batAV none false N wb) ∧ (b ≠ [] → PCallN Tryd.prog 13 [.int .i64 N, .sl 3 nl own (b.map Act.c)] (.agg [.int .i64 N, .xsl 3 (wb.map cZ)])))
    (e1 : decide ((((a.map Act.c).length : Nat) : Int) > 30) = false) (e2 : decide ((((b.map Act.c).length : Nat) : Int) > 30) = false) (e3 : ((((a.map Act.c).length : Nat) : Int) == 0) = false) (k : Nat) (em : (what.toNat : Int).tmod 4 = (k : Int)) (hk : k = 3) :
    VCall Tryd.prog 7 [.sl 3 na oa (a.map Act.c), .sl 3 nb ob (b.map Act.c), .int .u8 what.toNat] [G0] (.bool true) [G0] := by
  subst hwa
  refine VCall.ofS (tr [3000071, 3000036]) f7 (Nat.le_of_ble_eq_true rfl) (Nat.le_refl _) (.bool _) hob_G0 ?_
  refine call_h shortN ?_
  repeat (first | refine guard_t rfl ?_ | refine guard_f (by decide) ?_)
  refine guard_t e1 ?_
  rw [e1]
  repeat (first | refine guard_t rfl ?_ | refine guard_f (by decide) ?_)
  refine guard_t e2 ?_
  rw [e2]
  repeat (first | refine guard_t rfl ?_ | refine guard_f (by decide) ?_)
  refine cond_f e3 ?_
  refine call_p (hca 2 _ _).1 ?_
  refine call_p (hcb 2 _ _).1 ?_
  refine call_p ((hca 2 _ _).2 hane) ?_
  refine And.intro (by decide) ?_
  refine cond_f (by rw [em, hk]; rfl) ?_
  refine cond_f (by rw [em, hk]; rfl) ?_
  refine cond_f (by rw [em, hk]; rfl) ?_
  refine Exists.intro ⟨[], [(7, .ptr (some (1, 0))), (8, .ptr (some (2, 0))), (9, .ptr (some (3, 0)))], [G0, bxS 2 (w0 :: wr), bxS 2 wb, .cells [.int .i64 2, .bsl 3 4 0 ((w0 :: wr).map cZ).length], .arr 3 ((w0 :: wr).map cZ)]⟩ (And.intro (ShiftS.trans (ShiftS.openCell (i := 3) (sz := 3) (c1 := [.int .i64 2]) (c3 := []) rfl) (ShiftS.wk [(7, .ptr (some (1, 0))), (8, .ptr (some (2, 0))), (9, .ptr (some (3, 0)))] ⟨.wk _ _ (.refl _), .wk _ _ (.refl _), .wk _ _ (.refl _), trivial⟩)) ?_)
  refine And.intro rfl (And.intro ⟨by decide, hpos1, Int.le_refl _⟩ ?_)
  refine Exists.intro ⟨[], [(7, .ptr (some (1, 0))), (8, .ptr (some (2, 0))), (9, .ptr (some (3, 0)))], [G0, bxS 2 (w0 :: wr), bxS 2 wb, bxS 2 (wr), .ro []]⟩ (And.intro (ShiftS.fz (fzOf [(4, 3, (w0 :: wr).map cZ)]) ⟨.wk _ _ (.refl _), .wk _ _ (.refl _), .wk _ _ (.refl _), trivial⟩ (.same 0 _ _ _ rfl (.same 1 _ _ _ rfl (.same 2 _ _ _ rfl (.cells 3 _ _ _ _ rfl (.cons _ _ _ _ (.wk _ _ (.refl _)) (.cons _ _ _ _ (wk_tail) .nil)) (.fz 4 _ _ _ _ rfl (.nil 5)))))) (fun i sz xs h => by obtain ⟨rfl, rfl, rfl⟩ := fzOf_one h; rfl)) ?_)
  have q1 := recSameN none none false false 2 2 (w0 :: wr) wb hl1
  have q2 := rSameN none none false false 2 2 (w0 :: wr) wb hl1 hrow
  have q3 := recSameN none none false false 2 2 (w0 :: wr) (w0 :: wr) hl1
  have q4 := recSameN none none false false 2 2 (w0 :: wr) (wr) hl1
  rw [decide_eq_true (⟨rfl, rfl⟩ : (2 : Int) = 2 ∧ (w0 :: wr) = (w0 :: wr))] at q3
  rw [decide_eq_false (fun h => absurd (congrArg List.length h.2) (by simp))] at q4
  refine call_d q1 ?_
  refine call_d q2 ?_
  refine guard_t (beq_self_eq_true _) ?_
  rw [beq_self_eq_true]
  repeat (first | refine guard_t rfl ?_ | refine guard_f (by decide) ?_)
  refine call_d q3 ?_
  repeat (first | refine guard_t rfl ?_ | refine guard_f (by decide) ?_)
  refine call_d q4 ?_
  repeat (first | refine guard_t rfl ?_ | refine guard_f (by decide) ?_)
  refine And.intro (by kernel_rfl) ?_
  exact ⟨⟨_, rfl⟩, rfl⟩

end Go.Proofs.YtjbgdmebpnfpnaaDoor.V
