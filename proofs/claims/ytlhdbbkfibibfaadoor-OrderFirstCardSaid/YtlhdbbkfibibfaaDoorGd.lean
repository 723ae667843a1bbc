/-
  The law OrderFirst: nothing stands ahead of numbers, numbers ahead of texts.
-/
import Derived.Test.YtlhdbbkfibibfaaDoorGc

/- The law OrderFirst: nothing stands ahead of numbers, numbers ahead of texts. -/
namespace Go.Proofs.YtlhdbbkfibibfaaDoor.V
open Go.IntWalk Go.Lib

def kless (x y : List UInt8) : Bool := Op.bytesLess (ByteArray.mk x.toArray).toList (ByteArray.mk y.toArray).toList
def kequ (x y : List UInt8) : Bool := (ByteArray.mk x.toArray).toList == (ByteArray.mk y.toArray).toList

theorem one_cmp (u v : Va) (hu : u.right = true) (hv : v.right = true) (ou : u.ok) (ov : v.ok) : compareBytes (keys [u]) (keys [v]) = u.cmp v := by
  rw [keys_cmp [u] [v] (by intro w hw; rw [List.mem_singleton.1 hw]; exact ⟨hu, ou⟩) (by intro w hw; rw [List.mem_singleton.1 hw]; exact ⟨hv, ov⟩)]
  show (if u.cmp v ≠ 0 then u.cmp v else 0) = _
  by_cases h : u.cmp v = 0
  · simp [h]
  · simp [h]

theorem kless_one (u v : Va) (hu : u.right = true) (hv : v.right = true) (ou : u.ok) (ov : v.ok) : kless (keys [u]) (keys [v]) = decide (u.cmp v < 0) := by
  have := st_less (keys [u]) (keys [v])
  rw [one_cmp u v hu hv ou ov] at this
  exact this

theorem kequ_one (u v : Va) (hu : u.right = true) (hv : v.right = true) (ou : u.ok) (ov : v.ok) : kequ (keys [u]) (keys [v]) = decide (u.cmp v = 0) := by
  have := st_beq (keys [u]) (keys [v])
  refine Eq.trans this ?_
  rw [← one_cmp u v hu hv ou ov, decide_eq_decide]
  exact ⟨fun e => by rw [e, cb_self], cb_eq⟩

theorem ok_none : Va.ok ⟨0, 0, []⟩ := by unfold Va.ok; exact ⟨by decide, by decide⟩
theorem right_int (a : Int) : Va.right ⟨1, a, []⟩ = true := rfl
theorem right_text (s : List UInt8) (h : s.length ≤ 100) : Va.right ⟨2, 0, s⟩ = true := by
  show ((0 : Int) == 0 && decide ((s.length : Int) ≤ 200)) = true
  rw [decide_eq_true (by omega)]; rfl
theorem ok_text (s : List UInt8) : Va.ok ⟨2, 0, s⟩ := ⟨show (-9223372036854775808 : Int) ≤ 0 by decide, show (0 : Int) ≤ 9223372036854775807 by decide⟩
theorem cmp_int (a b : Int) : Va.cmp ⟨1, a, []⟩ ⟨1, b, []⟩ = sgn a b := by
  show (if sgn a b ≠ 0 then sgn a b else 0) = _
  by_cases h : sgn a b = 0
  · simp [h]
  · simp [h]
theorem cmp_text (s t : List UInt8) : Va.cmp ⟨2, 0, s⟩ ⟨2, 0, t⟩ = compareBytes s t := rfl
theorem small_one (v : Va) (h : v.s.length ≤ 200) : ∀ w, w ∈ [v] → w.s.length ≤ 200 := by
  intro w hw
  rw [List.mem_singleton.1 hw]; exact h

theorem np_first (a b : Int) (s t : List UInt8) {ok : Nat → Prop} : ∀ x, x ∈ [AV.int .i64 a, AV.int .i64 b, AV.str (st s), AV.str (st t)] → NP ok x := np_cons (.int _ _) (np_cons (.int _ _) (np_cons (.str _) (np_cons (.str _) np_nil)))

theorem orderFirstN (a b : Int) (s t : List UInt8) (ha : -9223372036854775808 ≤ a ∧ a ≤ 9223372036854775807) (hb : -9223372036854775808 ≤ b ∧ b ≤ 9223372036854775807) :
    PCallN Tryd.prog 5 [.int .i64 a, .int .i64 b, .str (st s), .str (st t)] (.bool true) := by
  refine PCallN.of (tr []) f5 (Nat.le_of_ble_eq_true rfl) (np_first a b s t) (.bool _) ?_
  refine call_p noughtN ?_
  repeat (first | refine guard_t rfl ?_ | refine guard_f (by decide) ?_)
  by_cases hs : s.length ≤ 100
  · have e1 : ¬ (((st s).size : Int) > 100) := by rw [st_size]; omega
    refine guard_t (decide_eq_false e1) ?_
    rw [decide_eq_false e1]
    repeat (first | refine guard_t rfl ?_ | refine guard_f (by decide) ?_)
    by_cases ht : t.length ≤ 100
    · have e2 : ¬ (((st t).size : Int) > 100) := by rw [st_size]; omega
      refine cond_f (decide_eq_false e2) ?_
      refine call_p (keyN _ _ [⟨0, 0, []⟩] (by decide) (small_one _ (by decide))) ?_
      refine Exists.intro (keys [⟨0, 0, []⟩]) (And.intro (toBytes_bs _) ?_)
      refine call_d (keyN _ _ [⟨1, a, []⟩] (by simp) (small_one _ (by simp))) ?_
      refine Exists.intro (keys [⟨1, a, []⟩]) (And.intro (toBytes_bs _) ?_)
      refine call_d (keyN _ _ [⟨1, b, []⟩] (by simp) (small_one _ (by simp))) ?_
      refine Exists.intro (keys [⟨1, b, []⟩]) (And.intro (toBytes_bs _) ?_)
      refine And.intro (by kernel_rfl) ?_
      refine call_d (keyN _ _ [⟨2, 0, s⟩] (by simp) (small_one _ (by show s.length ≤ 200; omega))) ?_
      refine Exists.intro (keys [⟨2, 0, s⟩]) (And.intro (toBytes_bs _) ?_)
      refine call_d (keyN _ _ [⟨2, 0, t⟩] (by simp) (small_one _ (by show t.length ≤ 200; omega))) ?_
      refine Exists.intro (keys [⟨2, 0, t⟩]) (And.intro (toBytes_bs _) ?_)
      refine And.intro (by kernel_rfl) ?_
      have rs := right_text s hs
      have rt := right_text t ht
      have h1 : kless (keys [⟨0, 0, []⟩]) (keys [⟨1, a, []⟩]) = true := by rw [kless_one _ _ rfl (right_int a) ok_none ha]; rfl
      have h2 : kless (keys [⟨1, a, []⟩]) (keys [⟨2, 0, s⟩]) = true := by rw [kless_one _ _ (right_int a) rs ha (ok_text s)]; rfl
      have h3 : kless (keys [⟨0, 0, []⟩]) (keys [⟨2, 0, s⟩]) = true := by rw [kless_one _ _ rfl rs ok_none (ok_text s)]; rfl
      have h4 : (kless (keys [⟨1, a, []⟩]) (keys [⟨1, b, []⟩]) == decide (a < b)) = true := by
        rw [kless_one _ _ (right_int a) (right_int b) ha hb, cmp_int, beq_iff_eq, decide_eq_decide]
        unfold sgn
        by_cases h : a < b
        · rw [if_pos h]; simp [h]
        · rw [if_neg h]
          by_cases h' : a > b
          · rw [if_pos h']; simp [h]
          · rw [if_neg h']; simp [h]
      have h5 : (kless (keys [⟨2, 0, s⟩]) (keys [⟨2, 0, t⟩]) == Op.bytesLess (st s).toList (st t).toList) = true := by
        rw [kless_one _ _ rs rt (ok_text s) (ok_text t), cmp_text, st_less]
        exact beq_self_eq_true _
      have h6 : (kequ (keys [⟨1, a, []⟩]) (keys [⟨1, b, []⟩]) == (a == b)) = true := by
        rw [kequ_one _ _ (right_int a) (right_int b) ha hb, cmp_int, beq_iff_eq]
        by_cases h : a = b
        · rw [decide_eq_true (sgn_zero.2 h), h]; exact (beq_self_eq_true b).symm
        · rw [decide_eq_false (fun e => h (sgn_zero.1 e))]; exact (beq_eq_false_iff_ne.2 h).symm
      have h7 : (kequ (keys [⟨2, 0, s⟩]) (keys [⟨2, 0, t⟩]) == ((st s).toList == (st t).toList)) = true := by
        rw [kequ_one _ _ rs rt (ok_text s) (ok_text t), cmp_text, st_beq, beq_iff_eq, decide_eq_decide]
        exact ⟨cb_eq, fun e => by rw [e, cb_self]⟩
      unfold kless at h1 h2 h3 h4 h5
      unfold kequ at h6 h7
      refine guard_t h1 ?_
      rw [h1]
      repeat (first | refine guard_t rfl ?_ | refine guard_f (by decide) ?_)
      refine guard_t h2 ?_
      rw [h2]
      repeat (first | refine guard_t rfl ?_ | refine guard_f (by decide) ?_)
      refine guard_t h3 ?_
      rw [h3]
      repeat (first | refine guard_t rfl ?_ | refine guard_f (by decide) ?_)
      refine guard_t h4 ?_
      rw [h4]
      repeat (first | refine guard_t rfl ?_ | refine guard_f (by decide) ?_)
      refine guard_t h5 ?_
      rw [h5]
      repeat (first | refine guard_t rfl ?_ | refine guard_f (by decide) ?_)
      refine guard_t h6 ?_
      rw [h6]
      repeat (first | refine guard_t rfl ?_ | refine guard_f (by decide) ?_)
      exact bool_eq h7
    · have e2 : (((st t).size : Int) > 100) := by rw [st_size]; omega
      refine cond_t (decide_eq_true e2) ?_
      refine call_p noughtN ?_
      exact bool_eq rfl
  · have e1 : (((st s).size : Int) > 100) := by rw [st_size]; omega
    refine guard_f (by rw [decide_eq_true e1]; decide) ?_
    rw [decide_eq_true e1]
    repeat (first | refine guard_t rfl ?_ | refine guard_f (by decide) ?_)
    refine cond_t rfl ?_
    refine call_p noughtN ?_
    exact bool_eq rfl

end Go.Proofs.YtlhdbbkfibibfaaDoor.V
