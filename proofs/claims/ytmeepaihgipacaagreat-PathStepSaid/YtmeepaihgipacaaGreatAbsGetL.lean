/-
The program in sight: ops.Get and ndjqref07.Get.
-/
import Derived.Test.YtmeepaihgipacaaGreatAbsGet
set_option linter.unusedVariables false
set_option linter.unusedSimpArgs false
namespace Go.Abs
open Go.Proofs

theorem bd_OGet : Tryz.prog.funcs[51]? = some Tryz.f51 := by kernel_rfl
theorem ok_OGet : fnOk Tryz.f51 = true := by kernel_rfl
theorem bd_RGet : Tryz.prog.funcs[28]? = some Tryz.f28 := by kernel_rfl
theorem ok_RGet : fnOk Tryz.f28 = true := by kernel_rfl
theorem bd_PGet1 : Tryz.prog.funcs[50]? = some Tryz.f50 := by kernel_rfl
theorem ok_PGet1 : fnOk Tryz.f50 = true := by kernel_rfl
theorem bd_PGet : Tryz.prog.funcs[23]? = some Tryz.f23 := by kernel_rfl
theorem ok_PGet : fnOk Tryz.f23 = true := by kernel_rfl

/-- What a path denotes. -/
def goJ : JV → List JV → JV × Int
  | v, [] => (v, 0)
  | v, s :: r => if (exJ v s).2.2 = 0 then goJ (exJ v s).1 r else (nullJ, (exJ v s).2.2)

theorem ostep2_run (v s : JV) (hs : StOk s) (hv : totJ v ≤ 1000) (hg : Good v) : callF E0 36 [encJ v, encJ s] = some [.p (encJ (exJ v s).1), .p (.v (.int .i64 (exJ v s).2.2))] := ostep_run v s _ _ _ (exists_run v s hs hv hg)

set_option maxRecDepth 100000 in
theorem oget_loop (ss : List JV) (hss : ∀ s ∈ ss, StOk s) (hlen : ss.length ≤ 1000) : ∀ (k i : Nat) (cv : JV) (env : Nat → AV) (h : AHeap) (n : Nat) (R : Option (Ex × St)), execF E0 (loopN Tryz.f51 0) ⟨env, h, n⟩ = R → ss.length - i = k → i ≤ ss.length → 3 ≤ n → Good cv → totJ cv ≤ 1000 →
    env 2 = .ptr 0 0 0 → env 4 = .ptr 2 0 0 → env 14 = encL ss → env 15 = .v (.int .i64 ss.length) → env 16 = .v (.int .i64 i) → h 0 = some ⟨true, 5, [cellsJ cv]⟩ → (∃ c0 c1 c2 c3 c4, h 2 = some ⟨true, 5, [[c0, c1, c2, c3, c4]]⟩) →
    ∃ env' h' n', (R = some (.exit 0, ⟨env', h', n'⟩) ∧ (∃ w, goJ cv (ss.drop i) = (w, 0) ∧ h' 0 = some ⟨true, 5, [cellsJ w]⟩) ∧ env' 2 = .ptr 0 0 0 ∧ env' 4 = .ptr 2 0 0 ∧ (∃ c0 c1 c2 c3 c4, h' 2 = some ⟨true, 5, [[c0, c1, c2, c3, c4]]⟩)) ∨
      (R = some (.ret, ⟨env', h', n'⟩) ∧ (∃ e, goJ cv (ss.drop i) = (nullJ, e) ∧ env' 5 = .v (.int .i64 e)) ∧ env' 4 = .ptr 2 0 0 ∧ h' 2 = some ⟨true, 5, [cellsJ nullJ]⟩) := by
  intro k
  induction k with
  | zero =>
    intro i cv env h n R hR hk hi hn hg ht h2 h4 h14 h15 h16 hh hr
    have hil : ¬ ((i : Int) < ss.length) := by omega
    simp only [loopN, Tryz.f51, loopsOf, List.append_nil, List.nil_append, List.getD_cons_zero] at hR
    rw [execF_loop] at hR
    simp only [symS, symO, symC, symP, symB, symR, symF, symM, symN, if_true, if_false, Nat.reduceEqDiff, Nat.reduceBEq, Nat.reduceAdd, Bool.false_eq_true, Bool.true_eq_false, reduceCtorEq, decide_true, decide_false, Nat.reduceLeDiff, and_self, and_true, true_and, some_is, lt01, h14, h15, h16, hil] at hR
    exact ⟨_, _, _, .inl ⟨hR.symm, ⟨cv, by rw [List.drop_eq_nil_of_le (by omega)]; rfl, hh⟩, by simp [fset_app, h2], by simp [fset_app, h4], hr⟩⟩
  | succ k ih =>
    intro i cv env h n R hR hk hi hn hg ht h2 h4 h14 h15 h16 hh hr
    have hil : ((i : Int) < ss.length) := by omega
    have hz : ((0 : Int) ≤ i ∧ (i : Int) < ss.length) := by omega
    have hw : IntKind.i64.wrap ((i : Int) + 1) = ((i + 1 : Nat) : Int) := by rw [wrap64 (by omega) (by omega)]; omega
    have hm : ss.getD i default ∈ ss := getD_memJ (by omega)
    have hst := ostep2_run cv _ (hss _ hm) ht hg
    have hd := drop_getD ss i default (by omega)
    have hnn := none_run
    obtain ⟨c0, c1, c2, c3, c4, hr⟩ := hr
    have q1 : ¬ (0 = n) := by omega
    have q2 : ¬ (2 = n) := by omega
    simp only [loopN, Tryz.f51, loopsOf, List.append_nil, List.nil_append, List.getD_cons_zero] at hR
    rw [execF_loop] at hR
    by_cases he : (exJ cv (ss.getD i default)).2.2 = 0
    · have hq : ((exJ cv (ss.getD i default)).2.2 != 0) = false := by rw [bne_eq_false_iff_eq]; exact he
      simp only [symS, symO, symC, symP, symB, symR, symF, symM, symN, if_true, if_false, Nat.reduceEqDiff, Nat.reduceBEq, Nat.reduceAdd, Bool.false_eq_true, Bool.true_eq_false, reduceCtorEq, decide_true, decide_false, Nat.reduceLeDiff, and_self, and_true, true_and, some_is, lt01, symL, h2, h4, h14, h15, h16, hh, hr, hil, hz, hw, Int.toNat_natCast, hst, hq, hnn, q1, q2] at hR
      obtain ⟨env', h', n', hp⟩ := ih (i + 1) (exJ cv (ss.getD i default)).1 _ _ _ _ hR (by omega) (by omega) (by omega) (exJ_good cv _ hg) (Nat.le_trans (exJ_tot cv _ hg) ht) (by simp [fset_app, h2]) (by simp [fset_app, h4]) (by simp [fset_app, h14]) (by simp [fset_app, h15]) (by simp [fset_app]) (by simp [fset_app]) ⟨c0, c1, c2, c3, c4, by simp only [fset_app, q2, Nat.reduceEqDiff, if_false, hr]⟩
      have hgo : goJ cv (ss.drop i) = goJ (exJ cv (ss.getD i default)).1 (ss.drop (i + 1)) := by rw [hd, goJ, if_pos he]
      rw [hgo]
      exact ⟨env', h', n', hp⟩
    · have hq : ((exJ cv (ss.getD i default)).2.2 != 0) = true := by rw [bne_iff_ne]; exact he
      simp only [symS, symO, symC, symP, symB, symR, symF, symM, symN, if_true, if_false, Nat.reduceEqDiff, Nat.reduceBEq, Nat.reduceAdd, Bool.false_eq_true, Bool.true_eq_false, reduceCtorEq, decide_true, decide_false, Nat.reduceLeDiff, and_self, and_true, true_and, some_is, lt01, symL, h2, h4, h14, h15, h16, hh, hr, hil, hz, hw, Int.toNat_natCast, hst, hq, hnn, q1, q2] at hR
      have hgo : goJ cv (ss.drop i) = (nullJ, (exJ cv (ss.getD i default)).2.2) := by rw [hd, goJ, if_neg he]
      exact ⟨_, _, _, .inr ⟨hR.symm, ⟨_, hgo, by simp [fset_app]⟩, by simp [fset_app, h4], by simp [fset_app]⟩⟩

/-- What a path denotes, of any value as a path. -/
def getPJ (v p : JV) : JV × Int := if p.kind = 5 then goJ v p.elems else (nullJ, 12)

set_option maxRecDepth 100000 in
theorem oget_run (v p : JV) (hg : Good v) (ht : totJ v ≤ 1000) (hp : totJ p ≤ 1000) (hss : ∀ s ∈ p.elems, StOk s) : callF E0 51 [encJ v, encJ p] = some [.p (encJ (getPJ v p).1), .p (.v (.int .i64 (getPJ v p).2))] := by
  rw [callF_fn bd_OGet ok_OGet]
  have hnn := none_run
  have hpl := totL_len p.elems
  have hpt := totJ_eq p
  by_cases h5 : p.kind = 5
  · have k5 : (p.kind != 5) = false := by rw [bne_eq_false_iff_eq]; exact h5
    have e : getPJ v p = goJ v p.elems := by unfold getPJ; rw [if_pos h5]
    rw [e]
    simp only [symS, symO, symC, symP, symB, symR, symF, symM, symN, if_true, if_false, Nat.reduceEqDiff, Nat.reduceBEq, Nat.reduceAdd, Bool.false_eq_true, Bool.true_eq_false, reduceCtorEq, decide_true, decide_false, Nat.reduceLeDiff, and_self, and_true, true_and, some_is, lt01, symL, Tryz.f51, k5, hnn]
    generalize hR : execF E0 (Code.loop _) _ = R
    obtain ⟨env', h', n', hq⟩ := oget_loop p.elems hss (by omega) _ 0 v _ _ _ _ hR rfl (Nat.zero_le _) (by simp) hg ht rfl rfl rfl rfl rfl rfl ⟨_, _, _, _, _, rfl⟩
    rw [List.drop_zero] at hq
    rcases hq with ⟨rfl, ⟨w, g1, g2⟩, g3, g4, c0, c1, c2, c3, c4, g5⟩ | ⟨rfl, ⟨e, g1, g2⟩, g4, g5⟩
    · rw [g1]
      simp only [symS, symO, symC, symP, symB, symR, symF, symM, symN, if_true, if_false, Nat.reduceEqDiff, Nat.reduceBEq, Nat.reduceAdd, Bool.false_eq_true, Bool.true_eq_false, reduceCtorEq, decide_true, decide_false, Nat.reduceLeDiff, and_self, and_true, true_and, some_is, lt01, g2, g3, g4, g5]
    · rw [g1]
      simp only [symS, symO, symC, symP, symB, symR, symF, symM, symN, if_true, if_false, Nat.reduceEqDiff, Nat.reduceBEq, Nat.reduceAdd, Bool.false_eq_true, Bool.true_eq_false, reduceCtorEq, decide_true, decide_false, Nat.reduceLeDiff, and_self, and_true, true_and, some_is, lt01, g2, g4, g5]
  · have k5 : (p.kind != 5) = true := by rw [bne_iff_ne]; exact h5
    have e : getPJ v p = (nullJ, 12) := by unfold getPJ; rw [if_neg h5]
    rw [e]
    simp only [symS, symO, symC, symP, symB, symR, symF, symM, symN, if_true, if_false, Nat.reduceEqDiff, Nat.reduceBEq, Nat.reduceAdd, Bool.false_eq_true, Bool.true_eq_false, reduceCtorEq, decide_true, decide_false, Nat.reduceLeDiff, and_self, and_true, true_and, some_is, lt01, symL, Tryz.f51, k5, hnn]

set_option maxRecDepth 100000 in
theorem rget_loop (p : JV) (hss : ∀ s ∈ p.elems, StOk s) (hlen : p.elems.length ≤ 1000) : ∀ (k i : Nat) (cv : JV) (env : Nat → AV) (h : AHeap) (n : Nat) (R : Option (Ex × St)), execF E0 (loopN Tryz.f28 0) ⟨env, h, n⟩ = R → p.elems.length - i = k → i ≤ p.elems.length → 3 ≤ n → Good cv → totJ cv ≤ 1000 →
    env 2 = .ptr 0 0 0 → env 3 = .ptr 1 0 0 → env 4 = .ptr 2 0 0 → env 6 = .v (.int .i64 i) → h 0 = some ⟨true, 5, [cellsJ cv]⟩ → h 1 = some ⟨true, 5, [cellsJ p]⟩ → (∃ c0 c1 c2 c3 c4, h 2 = some ⟨true, 5, [[c0, c1, c2, c3, c4]]⟩) →
    ∃ env' h' n', (R = some (.exit 0, ⟨env', h', n'⟩) ∧ (∃ w, goJ cv (p.elems.drop i) = (w, 0) ∧ h' 0 = some ⟨true, 5, [cellsJ w]⟩) ∧ env' 2 = .ptr 0 0 0 ∧ env' 4 = .ptr 2 0 0 ∧ (∃ c0 c1 c2 c3 c4, h' 2 = some ⟨true, 5, [[c0, c1, c2, c3, c4]]⟩)) ∨
      (R = some (.ret, ⟨env', h', n'⟩) ∧ (∃ e, goJ cv (p.elems.drop i) = (nullJ, e) ∧ env' 5 = .v (.int .i64 e)) ∧ env' 4 = .ptr 2 0 0 ∧ h' 2 = some ⟨true, 5, [[.v (.int .i64 0), .v (.int .i64 0), .v (.string .empty), .v (.slice none 0 0), .v (.slice none 0 0)]]⟩) := by
  intro k
  induction k with
  | zero =>
    intro i cv env h n R hR hk hi hn hg ht h2 h3 h4 h6 hh hh1 hr
    have hil : ¬ ((i : Int) < p.elems.length) := by omega
    simp only [loopN, Tryz.f28, loopsOf, List.append_nil, List.nil_append, List.getD_cons_zero] at hR
    rw [execF_loop] at hR
    simp only [symS, symO, symC, symP, symB, symR, symF, symM, symN, if_true, if_false, Nat.reduceEqDiff, Nat.reduceBEq, Nat.reduceAdd, Bool.false_eq_true, Bool.true_eq_false, reduceCtorEq, decide_true, decide_false, Nat.reduceLeDiff, and_self, and_true, true_and, some_is, lt01, h3, h6, hh1, hil] at hR
    exact ⟨_, _, _, .inl ⟨hR.symm, ⟨cv, by rw [List.drop_eq_nil_of_le (by omega)]; rfl, hh⟩, by simp [fset_app, h2], by simp [fset_app, h4], hr⟩⟩
  | succ k ih =>
    intro i cv env h n R hR hk hi hn hg ht h2 h3 h4 h6 hh hh1 hr
    have hil : ((i : Int) < p.elems.length) := by omega
    have hz : ((0 : Int) ≤ i ∧ (i : Int) < p.elems.length) := by omega
    have hw : IntKind.i64.wrap ((i : Int) + 1) = ((i + 1 : Nat) : Int) := by rw [wrap64 (by omega) (by omega)]; omega
    have hm : p.elems.getD i default ∈ p.elems := getD_memJ (by omega)
    have hst := part_run cv _ (hss _ hm) ht hg
    have hd := drop_getD p.elems i default (by omega)
    obtain ⟨c0, c1, c2, c3, c4, hr⟩ := hr
    have q1 : ¬ (0 = n) := by omega
    have q2 : ¬ (2 = n) := by omega
    have q3 : ¬ (1 = n) := by omega
    have hps : unord (befores (opsOf Tryz.f28 8).toList) 13 = [(0, 1), (0, 2), (0, 3), (1, 3), (2, 3), (0, 4), (0, 5), (8, 9), (0, 10), (1, 10), (2, 10), (3, 10), (4, 10), (5, 10), (6, 10), (7, 10), (8, 10), (9, 10), (9, 11)] := by decide +kernel
    simp only [loopN, Tryz.f28, loopsOf, List.append_nil, List.nil_append, List.getD_cons_zero] at hR
    rw [execF_loop] at hR
    by_cases he : (exJ cv (p.elems.getD i default)).2.2 = 0
    · have hq : ((exJ cv (p.elems.getD i default)).2.2 != 0) = false := by rw [bne_eq_false_iff_eq]; exact he
      simp only [symS, symO, symC, symP, symB, symR, symF, symM, symN, if_true, if_false, Nat.reduceEqDiff, Nat.reduceBEq, Nat.reduceAdd, Bool.false_eq_true, Bool.true_eq_false, reduceCtorEq, decide_true, decide_false, Nat.reduceLeDiff, and_self, and_true, true_and, some_is, lt01, symL, symD, h2, h3, h4, h6, hh, hh1, hr, hil, hz, hw, Int.toNat_natCast, hst, hq, q1, q2, q3] at hR
      split at hR
      · obtain ⟨env', h', n', hp⟩ := ih (i + 1) (exJ cv (p.elems.getD i default)).1 _ _ _ _ hR (by omega) (by omega) (by omega) (exJ_good cv _ hg) (Nat.le_trans (exJ_tot cv _ hg) ht) (by simp [fset_app, h2]) (by simp [fset_app, h3]) (by simp [fset_app, h4]) (by simp [fset_app]) (by simp [fset_app]) (by simp [fset_app, q3, hh1]) ⟨c0, c1, c2, c3, c4, by simp only [fset_app, q2, Nat.reduceEqDiff, if_false, hr]⟩
        have hgo : goJ cv (p.elems.drop i) = goJ (exJ cv (p.elems.getD i default)).1 (p.elems.drop (i + 1)) := by rw [hd, goJ, if_pos he]
        rw [hgo]
        exact ⟨env', h', n', hp⟩
      · rename_i hno
        refine absurd (traceOk_of (bs := befores (opsOf Tryz.f28 8).toList) _ hps rfl ?_) hno
        simp [clash, meets]
        try omega
    · have hq : ((exJ cv (p.elems.getD i default)).2.2 != 0) = true := by rw [bne_iff_ne]; exact he
      simp only [symS, symO, symC, symP, symB, symR, symF, symM, symN, if_true, if_false, Nat.reduceEqDiff, Nat.reduceBEq, Nat.reduceAdd, Bool.false_eq_true, Bool.true_eq_false, reduceCtorEq, decide_true, decide_false, Nat.reduceLeDiff, and_self, and_true, true_and, some_is, lt01, symL, symD, h2, h3, h4, h6, hh, hh1, hr, hil, hz, hw, Int.toNat_natCast, hst, hq, q1, q2, q3] at hR
      split at hR
      · have hgo : goJ cv (p.elems.drop i) = (nullJ, (exJ cv (p.elems.getD i default)).2.2) := by rw [hd, goJ, if_neg he]
        exact ⟨_, _, _, .inr ⟨hR.symm, ⟨_, hgo, by simp [fset_app]⟩, by simp [fset_app, h4], by simp [fset_app]⟩⟩
      · rename_i hno
        refine absurd (traceOk_of (bs := befores (opsOf Tryz.f28 8).toList) _ hps rfl ?_) hno
        simp [clash, meets]
        try omega

theorem vldA_two {v p : JV} (h : vldA [v, p] = true) : vldJ 0 v = true ∧ vldJ 0 p = true := by
  simp only [vldA, Bool.and_eq_true, and_true] at h
  exact ⟨h.1, h.2⟩
theorem steps_ok {p : JV} (hv : vldJ 0 p = true) (ho : p.Ok) (ht : totJ p ≤ 1000) : ∀ s ∈ p.elems, StOk s := fun s hs =>
  ⟨ho.elem s hs, fun h6 => (vld_obj (vld_elem hv hs) h6).1, Nat.le_trans (tot_mem hs) ht⟩
theorem step_ok {s : JV} (hv : vldJ 0 s = true) (ho : s.Ok) (ht : totJ s ≤ 1000) : StOk s := ⟨ho, fun h6 => (vld_obj hv h6).1, ht⟩

set_option maxRecDepth 100000 in
theorem rget_run (v p : JV) (ho : p.Ok) (ht : totJ v ≤ 1000) (hp : totJ p ≤ 1000) : callF E0 28 [encJ v, encJ p] = some [.p (encJ (okJ (vldA [v, p]) (getPJ v p).1)), .p (.v (.int .i64 (okE (vldA [v, p]) (getPJ v p).2)))] := by
  rw [callF_fn bd_RGet ok_RGet]
  have hall := valid7_run [v, p] (by simp) (by intro e he; simp at he; rcases he with rfl | rfl <;> assumption)
  have hpl := totL_len p.elems
  have hpt := totJ_eq p
  cases hb : vldA [v, p] with
  | false =>
    rw [hb] at hall
    have e1 : okJ false (getPJ v p).1 = nullJ := rfl
    have e2 : okE false (getPJ v p).2 = 1 := rfl
    rw [e1, e2]
    simp only [symS, symO, symC, symP, symB, symR, symF, symM, symN, if_true, if_false, Nat.reduceEqDiff, Nat.reduceBEq, Nat.reduceAdd, Bool.false_eq_true, Bool.true_eq_false, reduceCtorEq, decide_true, decide_false, Nat.reduceLeDiff, and_self, and_true, true_and, some_is, lt01, symL, Tryz.f28, hall, nullJ]
  | true =>
    rw [hb] at hall
    obtain ⟨hv1, hv2⟩ := vldA_two hb
    have e1 : ∀ x, okJ true x = x := fun x => rfl
    have e2 : ∀ x, okE true x = x := fun x => rfl
    by_cases h5 : p.kind = 5
    · have k5 : (p.kind != 5) = false := by rw [bne_eq_false_iff_eq]; exact h5
      have e : getPJ v p = goJ v p.elems := by unfold getPJ; rw [if_pos h5]
      rw [e, e1, e2]
      simp only [symS, symO, symC, symP, symB, symR, symF, symM, symN, if_true, if_false, Nat.reduceEqDiff, Nat.reduceBEq, Nat.reduceAdd, Bool.false_eq_true, Bool.true_eq_false, reduceCtorEq, decide_true, decide_false, Nat.reduceLeDiff, and_self, and_true, true_and, some_is, lt01, symL, Tryz.f28, k5, hall]
      generalize hR : execF E0 (Code.loop _) _ = R
      obtain ⟨env', h', n', hq⟩ := rget_loop p (steps_ok hv2 ho hp) (by omega) _ 0 v _ _ _ _ hR rfl (Nat.zero_le _) (by simp) (.inr hv1) ht rfl rfl rfl rfl rfl rfl ⟨_, _, _, _, _, rfl⟩
      rw [List.drop_zero] at hq
      rcases hq with ⟨rfl, ⟨w, g1, g2⟩, g3, g4, c0, c1, c2, c3, c4, g5⟩ | ⟨rfl, ⟨e, g1, g2⟩, g4, g5⟩
      · rw [g1]
        simp only [symS, symO, symC, symP, symB, symR, symF, symM, symN, if_true, if_false, Nat.reduceEqDiff, Nat.reduceBEq, Nat.reduceAdd, Bool.false_eq_true, Bool.true_eq_false, reduceCtorEq, decide_true, decide_false, Nat.reduceLeDiff, and_self, and_true, true_and, some_is, lt01, g2, g3, g4, g5]
      · rw [g1]
        simp only [symS, symO, symC, symP, symB, symR, symF, symM, symN, if_true, if_false, Nat.reduceEqDiff, Nat.reduceBEq, Nat.reduceAdd, Bool.false_eq_true, Bool.true_eq_false, reduceCtorEq, decide_true, decide_false, Nat.reduceLeDiff, and_self, and_true, true_and, some_is, lt01, g2, g4, g5, nullJ]
    · have k5 : (p.kind != 5) = true := by rw [bne_iff_ne]; exact h5
      have e : getPJ v p = (nullJ, 12) := by unfold getPJ; rw [if_neg h5]
      rw [e, e1, e2]
      simp only [symS, symO, symC, symP, symB, symR, symF, symM, symN, if_true, if_false, Nat.reduceEqDiff, Nat.reduceBEq, Nat.reduceAdd, Bool.false_eq_true, Bool.true_eq_false, reduceCtorEq, decide_true, decide_false, Nat.reduceLeDiff, and_self, and_true, true_and, some_is, lt01, symL, Tryz.f28, k5, hall, nullJ]

theorem fz_Get1 : E0.frz 50 = true := rfl
set_option maxRecDepth 100000 in
theorem pget1_run (v s w : JV) (e : Int) (h : callF E0 51 [encJ v, encJ s] = some [.p (encJ w), .p (.v (.int .i64 e))]) : callF E0 50 [.pptr (cellsJ v), .pptr (cellsJ s)] = some [.p (encJ w), .p (.v (.int .i64 e))] := by
  rw [callF_fn bd_PGet1 ok_PGet1]
  simp only [symS, symO, symC, symP, symB, symR, symF, symM, symN, if_true, if_false, Nat.reduceEqDiff, Nat.reduceBEq, Nat.reduceAdd, Bool.false_eq_true, Bool.true_eq_false, reduceCtorEq, decide_true, decide_false, Nat.reduceLeDiff, and_self, and_true, true_and, some_is, lt01, symL, Tryz.f50, h]

theorem goJ_tot : ∀ (ss : List JV) (v : JV), Good v → totJ (goJ v ss).1 ≤ totJ v
  | [], v, _ => Nat.le_refl _
  | s :: r, v, hg => by
    rw [goJ]
    split
    · exact Nat.le_trans (goJ_tot r _ (exJ_good v s hg)) (exJ_tot v s hg)
    · have hn : totJ nullJ = 1 := by decide
      have := totJ_eq v
      show totJ nullJ ≤ _
      omega
theorem goJ_ok : ∀ (ss : List JV) (v : JV), Good v → v.Ok → totJ v ≤ 1000 → (goJ v ss).1.Ok
  | [], v, _, h, _ => h
  | s :: r, v, hg, h, ht => by
    rw [goJ]
    split
    · exact goJ_ok r _ (exJ_good v s hg) (exJ_ok v s hg h ht) (Nat.le_trans (exJ_tot v s hg) ht)
    · exact nullJ_ok
theorem getPJ_tot (v p : JV) (hg : Good v) : totJ (getPJ v p).1 ≤ totJ v := by
  unfold getPJ
  split
  · exact goJ_tot _ _ hg
  · have hn : totJ nullJ = 1 := by decide
    have := totJ_eq v
    show totJ nullJ ≤ _
    omega
theorem getPJ_ok (v p : JV) (hg : Good v) (h : v.Ok) (ht : totJ v ≤ 1000) : (getPJ v p).1.Ok := by
  unfold getPJ
  split
  · exact goJ_ok _ _ hg h ht
  · exact nullJ_ok

set_option maxRecDepth 100000 in
theorem pget_run (v p : JV) (ho : p.Ok) (hv : totJ v ≤ 1000) (hs : totJ p ≤ 1000) :
    callF E0 23 [encJ v, encJ p] = some [.p (encJ (okJ (vldA [v, p]) (getPJ v p).1)), .p (.v (.int .i64 (okE (vldA [v, p]) (getPJ v p).2)))] := by
  rw [callF_fn bd_PGet ok_PGet]
  have hall := all_run [v, p] (by simp) (by intro e he; simp at he; rcases he with rfl | rfl <;> assumption)
  cases hb : vldA [v, p] with
  | false =>
    rw [hb] at hall
    have ha := apply_bad 50 [.pptr (cellsJ v), .pptr (cellsJ p)] [v, p] hall
    have e1 : okJ false (getPJ v p).1 = nullJ := rfl
    have e2 : okE false (getPJ v p).2 = 1 := rfl
    simp only [symS, symO, symC, symP, symB, symR, symF, symM, symN, if_true, if_false, Nat.reduceEqDiff, Nat.reduceBEq, Nat.reduceAdd, Bool.false_eq_true, Bool.true_eq_false, reduceCtorEq, decide_true, decide_false, Nat.reduceLeDiff, and_self, and_true, true_and, some_is, lt01, symL, Tryz.f23, fz_Get1, ha, e1, e2]
  | true =>
    rw [hb] at hall
    obtain ⟨hv1, hv2⟩ := vldA_two hb
    have hget := oget_run v p (.inr hv1) hv hs (steps_ok hv2 ho hs)
    have ha := apply_two 50 (cellsJ v) (cellsJ p) [v, p] _ _ hall (pget1_run v p _ _ hget) (by have := getPJ_tot v p (.inr hv1); omega) rfl rfl
    have e1 : okJ true (getPJ v p).1 = (getPJ v p).1 := rfl
    have e2 : okE true (getPJ v p).2 = (getPJ v p).2 := rfl
    simp only [symS, symO, symC, symP, symB, symR, symF, symM, symN, if_true, if_false, Nat.reduceEqDiff, Nat.reduceBEq, Nat.reduceAdd, Bool.false_eq_true, Bool.true_eq_false, reduceCtorEq, decide_true, decide_false, Nat.reduceLeDiff, and_self, and_true, true_and, some_is, lt01, symL, Tryz.f23, fz_Get1, ha, e1, e2]

end Go.Abs
