/-
The program in sight: vals.Valid, vals.All.
-/
import Derived.Test.YtmeepaihgipacaaGreatAbsFits
set_option linter.unusedVariables false
set_option linter.unusedSimpArgs false
namespace Go.Abs
open Go.Proofs

theorem bd_Valid : Tryz.prog.funcs[43]? = some Tryz.f43 := by kernel_rfl
theorem ok_Valid : fnOk Tryz.f43 = true := by kernel_rfl
theorem bd_All : Tryz.prog.funcs[55]? = some Tryz.f55 := by kernel_rfl
theorem ok_All : fnOk Tryz.f55 = true := by kernel_rfl
theorem al_meter (n : Nat) : allocO n (azero Tryz.prog 75) = some ⟨.ptr n 0 0, [(n, some (meterB 0 0))], 1⟩ := by rw [ze_meter]; rfl

set_option maxRecDepth 100000 in
theorem valid_run (v : JV) (hv : totJ v ≤ 1000) : callF E0 43 [encJ v] = some [.p (.v (.bool (vldJ 0 v)))] := by
  rw [callF_fn bd_Valid ok_Valid]
  obtain ⟨nodes, bytes, st, hb, _⟩ := fits_run v 1 0 0 0 (fset (fset (fun _ => none) 0 (some ⟨true, 5, [cellsJ v]⟩)) 1 (some (meterB 0 0))) 2 (by omega) rfl (by omega) (by omega) (by omega) hv
  have hb' : body E0 (execF E0) 77 [.ptr 1 0 0, encJ v, .v (.int .i64 0), .v (.bool true)] (fset (fset (fun _ => none) 0 (some ⟨true, 5, [cellsJ v]⟩)) 1 (some (meterB 0 0))) 2 = some ([.v (.bool (vldJ 0 v))], st) := hb
  simp only [Tryz.f43, symS, symO, symC, symP, symB, symR, if_true, if_false, Nat.reduceEqDiff, Nat.reduceBEq, Nat.reduceAdd, Bool.false_eq_true, Bool.true_eq_false, reduceCtorEq, decide_true, decide_false, al_meter, hb']

/-- Values that are all valid. -/
def vldA : List JV → Bool
  | [] => true
  | v :: r => vldJ 0 v && vldA r

set_option maxRecDepth 100000 in
theorem all_loop (l : List JV) (hl : l.length ≤ 1000) (ht : ∀ e ∈ l, totJ e ≤ 1000) : ∀ (k i : Nat) (env : Nat → AV) (h : AHeap) (n : Nat) (R : Option (Ex × St)), execF E0 (loopN Tryz.f55 0) ⟨env, h, n⟩ = R → l.length - i = k → i ≤ l.length →
    env 5 = encL l → env 6 = .v (.int .i64 l.length) → env 7 = .v (.int .i64 i) →
    ∃ x env' h' n', R = some (x, ⟨env', h', n'⟩) ∧ ((x = .exit 0 ∧ vldA (l.drop i) = true) ∨ (x = .ret ∧ env' 2 = .v (.bool false) ∧ vldA (l.drop i) = false)) := by
  intro k
  induction k with
  | zero =>
    intro i env h n R hR hk hi h5 h6 h7
    have hil : ¬ ((i : Int) < l.length) := by omega
    simp only [loopN, Tryz.f55, loopsOf, List.append_nil, List.nil_append, List.getD_cons_zero, execF_loop, symS, symO, symC, symP, symB, symR, if_true, if_false, Nat.reduceEqDiff, Nat.reduceBEq, Nat.reduceAdd, Bool.false_eq_true, Bool.true_eq_false, reduceCtorEq, decide_true, decide_false, h6, h7, hil] at hR
    exact ⟨_, _, _, _, hR.symm, .inl ⟨rfl, by rw [List.drop_eq_nil_of_le (by omega)]; rfl⟩⟩
  | succ k ih =>
    intro i env h n R hR hk hi h5 h6 h7
    have hil : ((i : Int) < l.length) := by omega
    have hi0 : (0 : Int) ≤ i := by omega
    have hw : IntKind.i64.wrap ((i : Int) + 1) = ((i + 1 : Nat) : Int) := by rw [wrap64 (by omega) (by omega)]; omega
    have hdrop := drop_getD l i default (by omega)
    have hmem : l.getD i default ∈ l := by rw [List.getD_eq_getElem?_getD, List.getElem?_eq_getElem (by omega), Option.getD_some]; exact List.getElem_mem _
    have hval := valid_run _ (ht _ hmem)
    simp only [hdrop, vldA]
    simp only [loopN, Tryz.f55, loopsOf, List.append_nil, List.nil_append, List.getD_cons_zero] at hR
    rw [execF_loop] at hR
    cases hv : vldJ 0 (l.getD i default) with
    | false =>
      rw [hv] at hval
      simp only [symS, symO, symC, symP, symB, symR, if_true, if_false, Nat.reduceEqDiff, Nat.reduceBEq, Nat.reduceAdd, Bool.false_eq_true, Bool.true_eq_false, reduceCtorEq, decide_true, decide_false, h5, h6, h7, hil, hi0, and_self, Int.toNat_natCast, al_Val, st_Val, hval, hw] at hR
      exact ⟨_, _, _, _, hR.symm, .inr ⟨rfl, by simp only [fset_app, if_true], rfl⟩⟩
    | true =>
      rw [hv] at hval
      simp only [symS, symO, symC, symP, symB, symR, if_true, if_false, Nat.reduceEqDiff, Nat.reduceBEq, Nat.reduceAdd, Bool.false_eq_true, Bool.true_eq_false, reduceCtorEq, decide_true, decide_false, h5, h6, h7, hil, hi0, and_self, Int.toNat_natCast, al_Val, st_Val, hval, hw] at hR
      obtain ⟨x, env', h', n', rfl, hp⟩ := ih (i + 1) _ _ _ _ hR (by omega) (by omega) (by simp only [fset_app, Nat.reduceEqDiff, if_false, h5]) (by simp only [fset_app, Nat.reduceEqDiff, if_false, h6]) (by simp only [fset_app, if_true])
      exact ⟨x, env', h', n', rfl, by rw [Bool.true_and]; exact hp⟩

set_option maxRecDepth 100000 in
theorem all_run (l : List JV) (hl : l.length ≤ 1000) (ht : ∀ e ∈ l, totJ e ≤ 1000) : callF E0 55 [encL l] = some [.p (.v (.bool (vldA l)))] := by
  rw [callF_fn bd_All ok_All]
  simp only [Tryz.f55, symS, symO, symC, symP, symB, symR, if_true, if_false, Nat.reduceEqDiff, Nat.reduceBEq, Nat.reduceAdd, Bool.false_eq_true, Bool.true_eq_false, reduceCtorEq, decide_true, decide_false]
  generalize hR : execF E0 (Code.loop _) _ = R
  obtain ⟨x, env', h', n', rfl, hp⟩ := all_loop l hl ht _ 0 _ _ _ _ hR rfl (Nat.zero_le _) rfl rfl rfl
  rw [List.drop_zero] at hp
  rcases hp with ⟨rfl, hp⟩ | ⟨rfl, h2, hp⟩
  · simp only [symS, symO, symC, symP, symB, symR, if_true, if_false, Nat.reduceEqDiff, Nat.reduceBEq, Nat.reduceAdd, Bool.false_eq_true, Bool.true_eq_false, reduceCtorEq, decide_true, decide_false, hp]
  · simp only [symS, symO, symC, symP, symB, symR, if_true, if_false, Nat.reduceEqDiff, Nat.reduceBEq, Nat.reduceAdd, Bool.false_eq_true, Bool.true_eq_false, reduceCtorEq, decide_true, decide_false, h2, hp]

end Go.Abs
