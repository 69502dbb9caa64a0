/-
The program in sight: ref02.Valid, ref07.valid.
-/
import Derived.Test.YtmeepaihgipacaaGreatAbsMeas
set_option linter.unusedVariables false
set_option linter.unusedSimpArgs false
namespace Go.Abs
open Go.Proofs

theorem bd_Valid2 : Tryz.prog.funcs[45]? = some Tryz.f45 := by kernel_rfl
theorem ok_Valid2 : fnOk Tryz.f45 = true := by kernel_rfl
theorem bd_valid7 : Tryz.prog.funcs[32]? = some Tryz.f32 := by kernel_rfl
theorem ok_valid7 : fnOk Tryz.f32 = true := by kernel_rfl

set_option maxRecDepth 100000 in
theorem valid2_run (v : JV) (hv : totJ v ≤ 1000) : callF E0 45 [encJ v] = some [.p (.v (.bool (vldJ 0 v)))] := by
  rw [callF_fn bd_Valid2 ok_Valid2]
  obtain ⟨n, b, h1, h2, h3⟩ := measure_run v hv 0 (by omega)
  have h3' : callF E0 82 [encJ v, .v (.int .i64 0)] = some (measRC (vldJ 0 v) n b) := h3
  have y1 : ((n : Int) ≤ 4096) := by omega
  have y2 : ((b : Int) ≤ 65536) := by omega
  cases hb : vldJ 0 v with
  | false =>
    rw [hb] at h3'
    simp only [Tryz.f45, symS, symO, symC, symP, symB, symR, if_true, if_false, Nat.reduceEqDiff, Nat.reduceBEq, Nat.reduceAdd, Bool.false_eq_true, Bool.true_eq_false, reduceCtorEq, decide_true, decide_false, h3', measRC]
  | true =>
    rw [hb] at h3'
    simp only [Tryz.f45, symS, symO, symC, symP, symB, symR, if_true, if_false, Nat.reduceEqDiff, Nat.reduceBEq, Nat.reduceAdd, Bool.false_eq_true, Bool.true_eq_false, reduceCtorEq, decide_true, decide_false, h3', measRC, y1, y2]

set_option maxRecDepth 100000 in
theorem valid7_loop (l : List JV) (hl : l.length ≤ 1000) (ht : ∀ e ∈ l, totJ e ≤ 1000) : ∀ (k i : Nat) (env : Nat → AV) (h : AHeap) (n : Nat) (R : Option (Ex × St)), execF E0 (loopN Tryz.f32 0) ⟨env, h, n⟩ = R → l.length - i = k → i ≤ l.length →
    env 0 = encL l → env 3 = .v (.int .i64 i) →
    ∃ x env', R = some (x, ⟨env', h, n⟩) ∧ ((x = .exit 0 ∧ vldA (l.drop i) = true) ∨ (x = .ret ∧ env' 2 = .v (.bool false) ∧ vldA (l.drop i) = false)) := by
  intro k
  induction k with
  | zero =>
    intro i env h n R hR hk hi h0 h3
    have hil : ¬ ((i : Int) < l.length) := by omega
    simp only [loopN, Tryz.f32, loopsOf, List.append_nil, List.nil_append, List.getD_cons_zero, execF_loop, symS, symO, symC, symP, symB, symR, if_true, if_false, Nat.reduceEqDiff, Nat.reduceBEq, Nat.reduceAdd, Bool.false_eq_true, Bool.true_eq_false, reduceCtorEq, decide_true, decide_false, h0, h3, hil] at hR
    exact ⟨_, _, hR.symm, .inl ⟨rfl, by rw [List.drop_eq_nil_of_le (by omega)]; rfl⟩⟩
  | succ k ih =>
    intro i env h n R hR hk hi h0 h3
    have hil : ((i : Int) < l.length) := by omega
    have hi0 : (0 : Int) ≤ i := by omega
    have hw : IntKind.i64.wrap ((i : Int) + 1) = ((i + 1 : Nat) : Int) := by rw [wrap64 (by omega) (by omega)]; omega
    have hdrop := drop_getD l i default (by omega)
    have hmem : l.getD i default ∈ l := by rw [List.getD_eq_getElem?_getD, List.getElem?_eq_getElem (by omega), Option.getD_some]; exact List.getElem_mem _
    have hval := valid2_run _ (ht _ hmem)
    simp only [hdrop, vldA]
    simp only [loopN, Tryz.f32, loopsOf, List.append_nil, List.nil_append, List.getD_cons_zero] at hR
    rw [execF_loop] at hR
    cases hv : vldJ 0 (l.getD i default) with
    | false =>
      rw [hv] at hval
      simp only [symS, symO, symC, symP, symB, symR, if_true, if_false, Nat.reduceEqDiff, Nat.reduceBEq, Nat.reduceAdd, Bool.false_eq_true, Bool.true_eq_false, reduceCtorEq, decide_true, decide_false, h0, h3, hil, hi0, and_self, Int.toNat_natCast, hval, hw] at hR
      exact ⟨_, _, hR.symm, .inr ⟨rfl, by simp only [fset_app, if_true], rfl⟩⟩
    | true =>
      rw [hv] at hval
      simp only [symS, symO, symC, symP, symB, symR, if_true, if_false, Nat.reduceEqDiff, Nat.reduceBEq, Nat.reduceAdd, Bool.false_eq_true, Bool.true_eq_false, reduceCtorEq, decide_true, decide_false, h0, h3, hil, hi0, and_self, Int.toNat_natCast, hval, hw] at hR
      obtain ⟨x, env', rfl, hp⟩ := ih (i + 1) _ _ _ _ hR (by omega) (by omega) (by simp only [fset_app, Nat.reduceEqDiff, if_false, h0]) (by simp only [fset_app, if_true])
      exact ⟨x, env', rfl, by rw [Bool.true_and]; exact hp⟩

set_option maxRecDepth 100000 in
theorem valid7_run (l : List JV) (hl : l.length ≤ 1000) (ht : ∀ e ∈ l, totJ e ≤ 1000) : callF E0 32 [encL l] = some [.p (.v (.bool (vldA l)))] := by
  rw [callF_fn bd_valid7 ok_valid7]
  simp only [Tryz.f32, symS, symO, symC, symP, symB, symR, if_true, if_false, Nat.reduceEqDiff, Nat.reduceBEq, Nat.reduceAdd, Bool.false_eq_true, Bool.true_eq_false, reduceCtorEq, decide_true, decide_false]
  generalize hR : execF E0 (Code.loop _) _ = R
  obtain ⟨x, env', rfl, hp⟩ := valid7_loop l hl ht _ 0 _ _ _ _ hR rfl (Nat.zero_le _) rfl rfl
  rw [List.drop_zero] at hp
  rcases hp with ⟨rfl, hp⟩ | ⟨rfl, h2, hp⟩
  · simp only [symS, symO, symC, symP, symB, symR, if_true, if_false, Nat.reduceEqDiff, hp]
  · simp only [symS, symO, symC, symP, symB, symR, if_true, if_false, Nat.reduceEqDiff, h2, hp]

end Go.Abs
