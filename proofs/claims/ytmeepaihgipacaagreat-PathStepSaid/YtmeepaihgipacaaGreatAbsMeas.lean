/-
The program in sight: what the second reference holds for valid.
-/
import Derived.Test.YtmeepaihgipacaaGreatAbsValid
set_option linter.unusedVariables false
set_option linter.unusedSimpArgs false
namespace Go.Abs
open Go.Proofs

theorem bd_measure : Tryz.prog.funcs[82]? = some Tryz.f82 := by kernel_rfl
theorem ok_measure : fnOk Tryz.f82 = true := by kernel_rfl

set_option maxRecDepth 100000 in
theorem measure_keys (v : JV) (hv : totJ v ≤ 1000) : ∀ (k i bytes : Nat) (env : Nat → AV) (h : AHeap) (n : Nat) (R : Option (Ex × St)), execF E0 (loopN Tryz.f82 0) ⟨env, h, n⟩ = R → v.keys.length - i = k → i ≤ v.keys.length → bytes + keysN (v.keys.drop i) ≤ 65536 →
    h 0 = some ⟨true, 5, [cellsJ v]⟩ → env 2 = .ptr 0 0 0 → env 8 = .v (.int .i64 bytes) → env 9 = .v (.int .i64 i) →
    ∃ x env', R = some (x, ⟨env', h, n⟩) ∧ ((x = .exit 0 ∧ keysOk (prevOf v.keys i) (v.keys.drop i) = true ∧ env' 1 = env 1 ∧ env' 2 = env 2 ∧ env' 7 = env 7 ∧ ∃ bytes' : Nat, env' 8 = .v (.int .i64 bytes') ∧ bytes' ≤ bytes + keysN (v.keys.drop i)) ∨
      (x = .ret ∧ env' 4 = .v (.int .i64 0) ∧ env' 5 = .v (.int .i64 0) ∧ env' 6 = .v (.bool false) ∧ keysOk (prevOf v.keys i) (v.keys.drop i) = false)) := by
  have htot := totJ_eq v
  have hkl := keysN_len v.keys
  intro k
  induction k with
  | zero =>
    intro i bytes env h n R hR hk hi hby hh h2 h8 h9
    have hil : ¬ ((i : Int) < v.keys.length) := by omega
    simp only [loopN, Tryz.f82, loopsOf, List.append_nil, List.nil_append, List.cons_append, List.getD_cons_zero, execF_loop, symS, symO, symC, symP, symB, symR, if_true, if_false, Nat.reduceEqDiff, Nat.reduceBEq, Nat.reduceAdd, Bool.false_eq_true, Bool.true_eq_false, reduceCtorEq, decide_true, decide_false, hh, h2, h9, hil] at hR
    refine ⟨_, _, hR.symm, .inl ⟨rfl, by rw [List.drop_eq_nil_of_le (by omega)]; rfl, ?_, ?_, ?_, bytes, ?_, by omega⟩⟩ <;> simp only [fset_app, Nat.reduceEqDiff, if_false, h8]
  | succ k ih =>
    intro i bytes env h n R hR hk hi hby hh h2 h8 h9
    have hil : ((i : Int) < v.keys.length) := by omega
    have hi0 : (0 : Int) ≤ i := by omega
    have hw : IntKind.i64.wrap ((i : Int) + 1) = ((i + 1 : Nat) : Int) := by rw [wrap64 (by omega) (by omega)]; omega
    have hmem : v.keys.getD i .empty ∈ v.keys := by rw [List.getD_eq_getElem?_getD, List.getElem?_eq_getElem (by omega), Option.getD_some]; exact List.getElem_mem _
    have hsz := keysN_mem hmem
    have hlen : ¬ (4096 < ((v.keys.getD i .empty).size : Int)) := by omega
    have hval := validR_run (v.keys.getD i .empty) (by omega)
    have hdrop := drop_getD v.keys i .empty (by omega)
    rw [hdrop, keysN] at hby
    have hw2 : IntKind.i64.wrap ((bytes : Int) + ((v.keys.getD i .empty).size : Int)) = ((bytes + (v.keys.getD i .empty).size : Nat) : Int) := by rw [wrap64 (by omega) (by omega)]; omega
    have hprev : prevOf v.keys (i + 1) = some (v.keys.getD i .empty) := by simp [prevOf]
    simp only [loopN, Tryz.f82, loopsOf, List.append_nil, List.nil_append, List.cons_append, List.getD_cons_zero] at hR
    rw [execF_loop] at hR
    rw [hdrop, keysOk, keysN]
    cases hc : (codesOf (v.keys.getD i .empty)).isSome with
    | false =>
      rw [hc] at hval
      simp only [symS, symO, symC, symP, symB, symR, if_true, if_false, Nat.reduceEqDiff, Nat.reduceBEq, Nat.reduceAdd, Bool.false_eq_true, Bool.true_eq_false, reduceCtorEq, decide_true, decide_false, hh, h2, h8, h9, hil, hi0, and_self, Int.toNat_natCast, hlen, hval] at hR
      exact ⟨_, _, hR.symm, .inr ⟨rfl, by simp only [fset_app, Nat.reduceEqDiff, if_false, if_true], by simp only [fset_app, Nat.reduceEqDiff, if_false, if_true], by simp only [fset_app, if_true], by simp⟩⟩
    | true =>
      rw [hc] at hval
      by_cases hz : i = 0
      · subst hz
        have hn : ¬ ((0 : Int) < ((0 : Nat) : Int)) := by omega
        have hp : prevOf v.keys 0 = none := rfl
        simp only [symS, symO, symC, symP, symB, symR, if_true, if_false, Nat.reduceEqDiff, Nat.reduceBEq, Nat.reduceAdd, Bool.false_eq_true, Bool.true_eq_false, reduceCtorEq, decide_true, decide_false, hh, h2, h8, h9, hil, hi0, and_self, Int.toNat_natCast, hlen, hval, hn, hw, hw2] at hR
        obtain ⟨x, env', rfl, hq⟩ := ih (0 + 1) (bytes + (v.keys.getD 0 .empty).size) _ _ _ _ hR (by omega) (by omega) (by omega) hh (by simp only [fset_app, Nat.reduceEqDiff, if_false, if_true, h2]) (by simp only [fset_app, Nat.reduceEqDiff, if_false, if_true]) (by simp only [fset_app, Nat.reduceEqDiff, if_false, if_true])
        rw [hprev] at hq
        refine ⟨x, env', rfl, ?_⟩
        rw [hp, ltP, Bool.true_and, Bool.true_and]
        rcases hq with ⟨q1, q2, q3, q4, q5, b', q6, q7⟩ | hq
        · refine .inl ⟨q1, q2, ?_, ?_, ?_, b', q6, by omega⟩
          · rw [q3]; simp only [fset_app, Nat.reduceEqDiff, if_false]
          · rw [q4]; simp only [fset_app, Nat.reduceEqDiff, if_false]
          · rw [q5]; simp only [fset_app, Nat.reduceEqDiff, if_false]
        · exact .inr hq
      · have hn : (0 : Int) < (i : Int) := by omega
        have hp : prevOf v.keys i = some (v.keys.getD (i - 1) .empty) := by simp [prevOf, hz]
        have hw1 : IntKind.i64.wrap ((i : Int) - 1) = ((i - 1 : Nat) : Int) := by rw [wrap64 (by omega) (by omega)]; omega
        have hj0 : (0 : Int) ≤ ((i - 1 : Nat) : Int) := by omega
        have hj1 : ((i - 1 : Nat) : Int) < v.keys.length := by omega
        cases hsl : sless (v.keys.getD (i - 1) .empty) (v.keys.getD i .empty) with
        | true =>
          simp only [symS, symO, symC, symP, symB, symR, if_true, if_false, Nat.reduceEqDiff, Nat.reduceBEq, Nat.reduceAdd, Bool.false_eq_true, Bool.true_eq_false, reduceCtorEq, decide_true, decide_false, hh, h2, h8, h9, hil, hi0, and_self, Int.toNat_natCast, hlen, hval, hn, hw, hw1, hw2, hj0, hj1, hsl] at hR
          obtain ⟨x, env', rfl, hq⟩ := ih (i + 1) (bytes + (v.keys.getD i .empty).size) _ _ _ _ hR (by omega) (by omega) (by omega) hh (by simp only [fset_app, Nat.reduceEqDiff, if_false, if_true, h2]) (by simp only [fset_app, Nat.reduceEqDiff, if_false, if_true]) (by simp only [fset_app, Nat.reduceEqDiff, if_false, if_true])
          rw [hprev] at hq
          refine ⟨x, env', rfl, ?_⟩
          rw [hp, ltP, hsl, Bool.true_and, Bool.true_and]
          rcases hq with ⟨q1, q2, q3, q4, q5, b', q6, q7⟩ | hq
          · refine .inl ⟨q1, q2, ?_, ?_, ?_, b', q6, by omega⟩
            · rw [q3]; simp only [fset_app, Nat.reduceEqDiff, if_false]
            · rw [q4]; simp only [fset_app, Nat.reduceEqDiff, if_false]
            · rw [q5]; simp only [fset_app, Nat.reduceEqDiff, if_false]
          · exact .inr hq
        | false =>
          simp only [symS, symO, symC, symP, symB, symR, if_true, if_false, Nat.reduceEqDiff, Nat.reduceBEq, Nat.reduceAdd, Bool.false_eq_true, Bool.true_eq_false, reduceCtorEq, decide_true, decide_false, hh, h2, h8, h9, hil, hi0, and_self, Int.toNat_natCast, hlen, hval, hn, hw, hw1, hw2, hj0, hj1, hsl] at hR
          exact ⟨_, _, hR.symm, .inr ⟨rfl, by simp only [fset_app, Nat.reduceEqDiff, if_false, if_true], by simp only [fset_app, Nat.reduceEqDiff, if_false, if_true], by simp only [fset_app, if_true], by rw [hp]; simp only [ltP, hsl, Bool.and_false, Bool.false_and]⟩⟩

def measRC (ok : Bool) (n b : Nat) : List RC := if ok then [.p (.v (.int .i64 n)), .p (.v (.int .i64 b)), .p (.v (.bool true))] else [.p (.v (.int .i64 0)), .p (.v (.int .i64 0)), .p (.v (.bool false))]

/-- What measure answers. -/
def Measures (v : JV) : Prop := ∀ around : Nat, around ≤ 100 → ∃ n b : Nat, n ≤ totJ v ∧ b ≤ totJ v ∧ callF E0 82 [encJ v, .v (.int .i64 around)] = some (measRC (vldJ around v) n b)

set_option maxRecDepth 100000 in
theorem measure_elems (v : JV) (hm : ∀ e ∈ v.elems, Measures e) (around : Nat) (har0 : v.elems = [] ∨ around + 1 ≤ 100) : ∀ (k i nodes bytes : Nat) (env : Nat → AV) (h : AHeap) (n : Nat) (R : Option (Ex × St)), execF E0 (loopN Tryz.f82 1) ⟨env, h, n⟩ = R → v.elems.length - i = k → i ≤ v.elems.length → v.elems.length ≤ 1000 → nodes + totL (v.elems.drop i) ≤ 4096 → bytes + totL (v.elems.drop i) ≤ 65536 →
    h 0 = some ⟨true, 5, [cellsJ v]⟩ → env 1 = .v (.int .i64 around) → env 2 = .ptr 0 0 0 → env 7 = .v (.int .i64 nodes) → env 8 = .v (.int .i64 bytes) → env 10 = .v (.int .i64 i) →
    ∃ x env', R = some (x, ⟨env', h, n⟩) ∧ ((x = .exit 2 ∧ vldL (around + 1) (v.elems.drop i) = true ∧ ∃ nodes' bytes' : Nat, env' 7 = .v (.int .i64 nodes') ∧ env' 8 = .v (.int .i64 bytes') ∧ nodes' ≤ nodes + totL (v.elems.drop i) ∧ bytes' ≤ bytes + totL (v.elems.drop i)) ∨
      (x = .ret ∧ env' 4 = .v (.int .i64 0) ∧ env' 5 = .v (.int .i64 0) ∧ env' 6 = .v (.bool false) ∧ vldL (around + 1) (v.elems.drop i) = false)) := by
  intro k
  induction k with
  | zero =>
    intro i nodes bytes env h n R hR hk hi hel hno hby hh h1 h2 h7 h8 h10
    have hil : ¬ ((i : Int) < v.elems.length) := by omega
    simp only [loopN, Tryz.f82, loopsOf, List.append_nil, List.nil_append, List.cons_append, List.getD_cons_zero, List.getD_cons_succ, execF_loop, symS, symO, symC, symP, symB, symR, if_true, if_false, Nat.reduceEqDiff, Nat.reduceBEq, Nat.reduceAdd, Bool.false_eq_true, Bool.true_eq_false, reduceCtorEq, decide_true, decide_false, hh, h2, h10, hil] at hR
    refine ⟨_, _, hR.symm, .inl ⟨rfl, by rw [List.drop_eq_nil_of_le (by omega)]; rfl, nodes, bytes, ?_, ?_, by omega, by omega⟩⟩ <;> simp only [fset_app, Nat.reduceEqDiff, if_false, h7, h8]
  | succ k ih =>
    intro i nodes bytes env h n R hR hk hi hel hno hby hh h1 h2 h7 h8 h10
    have hil : ((i : Int) < v.elems.length) := by omega
    have har : around + 1 ≤ 100 := har0.resolve_left (fun h => by rw [h] at hil; simp at hil; omega)
    have hi0 : (0 : Int) ≤ i := by omega
    have hw : IntKind.i64.wrap ((i : Int) + 1) = ((i + 1 : Nat) : Int) := by rw [wrap64 (by omega) (by omega)]; omega
    have hw2 : IntKind.i64.wrap ((around : Int) + 1) = ((around + 1 : Nat) : Int) := by rw [wrap64 (by omega) (by omega)]; omega
    have hdrop := drop_getD v.elems i default (by omega)
    have hmem : v.elems.getD i default ∈ v.elems := by rw [List.getD_eq_getElem?_getD, List.getElem?_eq_getElem (by omega), Option.getD_some]; exact List.getElem_mem _
    rw [hdrop, totL] at hno hby
    obtain ⟨n1, b1, g1, g2, g3⟩ := hm _ hmem (around + 1) har
    simp only [loopN, Tryz.f82, loopsOf, List.append_nil, List.nil_append, List.cons_append, List.getD_cons_zero, List.getD_cons_succ] at hR
    rw [execF_loop] at hR
    simp only [hdrop, totL, vldL]
    cases hv : vldJ (around + 1) (v.elems.getD i default) with
    | false =>
      rw [hv] at g3
      have z1 : IntKind.i64.wrap ((nodes : Int) + 0) = (nodes : Int) := by rw [wrap64 (by omega) (by omega)]; omega
      have z2 : IntKind.i64.wrap ((bytes : Int) + 0) = (bytes : Int) := by rw [wrap64 (by omega) (by omega)]; omega
      simp only [symS, symO, symC, symP, symB, symR, if_true, if_false, Nat.reduceEqDiff, Nat.reduceBEq, Nat.reduceAdd, Bool.false_eq_true, Bool.true_eq_false, reduceCtorEq, decide_true, decide_false, hh, h1, h2, h7, h8, h10, hil, hi0, and_self, Int.toNat_natCast, hw2, g3, measRC, z1, z2] at hR
      exact ⟨_, _, hR.symm, .inr ⟨rfl, by simp only [fset_app, Nat.reduceEqDiff, if_false, if_true], by simp only [fset_app, Nat.reduceEqDiff, if_false, if_true], by simp only [fset_app, if_true], rfl⟩⟩
    | true =>
      rw [hv] at g3
      have z1 : IntKind.i64.wrap ((nodes : Int) + n1) = ((nodes + n1 : Nat) : Int) := by rw [wrap64 (by omega) (by omega)]; omega
      have z2 : IntKind.i64.wrap ((bytes : Int) + b1) = ((bytes + b1 : Nat) : Int) := by rw [wrap64 (by omega) (by omega)]; omega
      have y1 : ¬ (4096 < ((nodes + n1 : Nat) : Int)) := by omega
      have y2 : ¬ (65536 < ((bytes + b1 : Nat) : Int)) := by omega
      simp only [symS, symO, symC, symP, symB, symR, if_true, if_false, Nat.reduceEqDiff, Nat.reduceBEq, Nat.reduceAdd, Bool.false_eq_true, Bool.true_eq_false, reduceCtorEq, decide_true, decide_false, hh, h1, h2, h7, h8, h10, hil, hi0, and_self, Int.toNat_natCast, hw, hw2, g3, measRC, z1, z2, y1, y2] at hR
      obtain ⟨x, env', rfl, hq⟩ := ih (i + 1) (nodes + n1) (bytes + b1) _ _ _ _ hR (by omega) (by omega) hel (by omega) (by omega) hh (by simp only [fset_app, Nat.reduceEqDiff, if_false, if_true, h1]) (by simp only [fset_app, Nat.reduceEqDiff, if_false, if_true, h2]) (by simp only [fset_app, Nat.reduceEqDiff, if_false, if_true]) (by simp only [fset_app, Nat.reduceEqDiff, if_false, if_true]) (by simp only [fset_app, Nat.reduceEqDiff, if_false, if_true])
      refine ⟨x, env', rfl, ?_⟩
      rcases hq with ⟨q1, q2, n', b', q3, q4, q5, q6⟩ | hq
      · exact .inl ⟨q1, by rw [q2]; rfl, n', b', q3, q4, by omega, by omega⟩
      · exact .inr ⟨hq.1, hq.2.1, hq.2.2.1, hq.2.2.2.1, by rw [hq.2.2.2.2]; rfl⟩

set_option maxRecDepth 100000 in
set_option maxHeartbeats 4000000 in
theorem measure_step (v : JV) (hv : totJ v ≤ 1000) (hm : ∀ e ∈ v.elems, Measures e) : Measures v := by
  intro around har
  rw [callF_fn bd_measure ok_measure]
  have htot := totJ_eq v
  have hkl := keysN_len v.keys
  have hel := totL_len v.elems
  have hU := validR_run v.str (by omega)
  have hs4 : ¬ (4096 < (v.str.size : Int)) := by omega
  have he4 : ¬ (1024 < (v.elems.length : Int)) := by omega
  by_cases q0 : v.kind < 0
  · have hvl : vldJ around v = false := by rw [vldJ_eq, decide_eq_false (by omega : ¬ 0 ≤ v.kind)]; rfl
    refine ⟨0, 0, by omega, by omega, ?_⟩
    simp only [Tryz.f82, symS, symO, symC, symP, symB, symR, if_true, if_false, Nat.reduceEqDiff, Nat.reduceBEq, Nat.reduceAdd, Bool.false_eq_true, Bool.true_eq_false, reduceCtorEq, decide_true, decide_false, q0, hvl, measRC]
  by_cases q6 : 6 < v.kind
  · have hvl : vldJ around v = false := by rw [vldJ_eq, decide_eq_false (by omega : ¬ v.kind ≤ 6), Bool.and_false]; rfl
    refine ⟨0, 0, by omega, by omega, ?_⟩
    simp only [Tryz.f82, symS, symO, symC, symP, symB, symR, if_true, if_false, Nat.reduceEqDiff, Nat.reduceBEq, Nat.reduceAdd, Bool.false_eq_true, Bool.true_eq_false, reduceCtorEq, decide_true, decide_false, q0, q6, hvl, measRC]
  by_cases qc3 : v.kind = 3
  · have k0 : ¬ v.kind < 0 := by omega
    have k6x : ¬ 6 < v.kind := by omega
    have k3 : (v.kind != 3) = false := by rw [bne_eq_false_iff_eq]; omega
    have k3' : (v.kind == 3) = true := by rw [beq_iff_eq]; omega
    have k4 : (v.kind != 4) = true := by rw [bne_iff_ne]; omega
    have k4' : (v.kind == 4) = false := by rw [beq_eq_false_iff_ne]; omega
    have k6 : (v.kind != 6) = true := by rw [bne_iff_ne]; omega
    have k6' : (v.kind == 6) = false := by rw [beq_eq_false_iff_ne]; omega
    have k5 : v.kind < 5 := by omega
    have k5g : ¬ (5 : Int) ≤ v.kind := by omega
    have k5' : decide (5 ≤ v.kind) = false := by exact decide_eq_false (by omega)
    have k6e := k6'
    by_cases tS : ¬ v.str = ⟨#[]⟩
    · have xS : decide (v.str = ⟨#[]⟩) = false := by exact decide_eq_false tS
      have hvl : vldJ around v = false := by rw [vldJ_eq, show formJ v = false from by simp only [formJ, k3', k4', k6', k5', xS, Bool.or_self, Bool.false_and, Bool.and_false], Bool.and_false]; rfl
      refine ⟨0, 0, by omega, by omega, ?_⟩
      simp only [Tryz.f82, symS, symO, symC, symP, symB, symR, if_true, if_false, Nat.reduceEqDiff, Nat.reduceBEq, Nat.reduceAdd, Bool.false_eq_true, Bool.true_eq_false, reduceCtorEq, decide_true, decide_false, k0, k6x, k3, k4, k6, k5, k6e, k5g, xS, hvl, measRC]
    · rw [Decidable.not_not] at tS
      have xS : decide (v.str = ⟨#[]⟩) = true := by exact decide_eq_true tS
      by_cases tK : (0 : Int) < v.keys.length
      · have xK : v.keys.isEmpty = false := by cases h : v.keys with
          | nil => rw [h] at tK; exact absurd tK (by decide)
          | cons => rfl
        have hvl : vldJ around v = false := by rw [vldJ_eq, show formJ v = false from by simp only [formJ, k3', k4', k6', k5', xK, Bool.or_self, Bool.false_and, Bool.and_false], Bool.and_false]; rfl
        refine ⟨0, 0, by omega, by omega, ?_⟩
        simp only [Tryz.f82, symS, symO, symC, symP, symB, symR, if_true, if_false, Nat.reduceEqDiff, Nat.reduceBEq, Nat.reduceAdd, Bool.false_eq_true, Bool.true_eq_false, reduceCtorEq, decide_true, decide_false, k0, k6x, k3, k4, k6, k5, k6e, k5g, xS, tK, hvl, measRC]
      · have xK : v.keys.isEmpty = true := by cases h : v.keys with
          | nil => rfl
          | cons a r => rw [h, List.length_cons] at tK; omega
        by_cases tE : (0 : Int) < v.elems.length
        · have xE : v.elems.isEmpty = false := by cases h : v.elems with
            | nil => rw [h] at tE; exact absurd tE (by decide)
            | cons => rfl
          have hvl : vldJ around v = false := by rw [vldJ_eq, show formJ v = false from by simp only [formJ, k3', k4', k6', k5', xE, Bool.or_self, Bool.false_and, Bool.and_false], Bool.and_false]; rfl
          refine ⟨0, 0, by omega, by omega, ?_⟩
          simp only [Tryz.f82, symS, symO, symC, symP, symB, symR, if_true, if_false, Nat.reduceEqDiff, Nat.reduceBEq, Nat.reduceAdd, Bool.false_eq_true, Bool.true_eq_false, reduceCtorEq, decide_true, decide_false, k0, k6x, k3, k4, k6, k5, k6e, k5g, xS, tK, tE, hvl, measRC]
        · have xE : v.elems.isEmpty = true := by cases h : v.elems with
            | nil => rfl
            | cons a r => rw [h, List.length_cons] at tE; omega
          cases hc : (codesOf v.str).isSome with
          | false =>
            rw [hc] at hU
            have hvl : vldJ around v = false := by rw [vldJ_eq, show formJ v = false from by simp only [formJ, hc, Bool.and_false, Bool.false_and], Bool.and_false]; rfl
            refine ⟨0, 0, by omega, by omega, ?_⟩
            simp only [Tryz.f82, symS, symO, symC, symP, symB, symR, if_true, if_false, Nat.reduceEqDiff, Nat.reduceBEq, Nat.reduceAdd, Bool.false_eq_true, Bool.true_eq_false, reduceCtorEq, decide_true, decide_false, k0, k6x, k3, k4, k6, k5, k6e, k5g, xS, tK, tE, hU, hs4, he4, hvl, measRC]
          | true =>
            rw [hc] at hU
            have hform : formJ v = true := by simp only [formJ, k3', k4', k6', k5', xS, xK, xE, hc, k6, Bool.true_or, Bool.or_true, Bool.false_or, Bool.and_true, Bool.true_and]
            have hem : v.elems = [] := List.isEmpty_iff.1 xE
            have hvl : vldJ around v = (formJ v && vldL (around + 1) v.elems) := by rw [vldJ_eq, decide_eq_true (by omega : 0 ≤ v.kind), decide_eq_true (by omega : v.kind ≤ 6), decide_eq_true k5, hem]; simp [vldL]
            simp only [Tryz.f82, symS, symO, symC, symP, symB, symR, if_true, if_false, Nat.reduceEqDiff, Nat.reduceBEq, Nat.reduceAdd, Bool.false_eq_true, Bool.true_eq_false, reduceCtorEq, decide_true, decide_false, k0, k6x, k3, k4, k6, k5, k6e, k5g, xS, tK, tE, hU, hs4, he4, hU]
            generalize hR : execF E0 (Code.loop _) _ = R
            obtain ⟨x, env1, rfl, hp⟩ := measure_keys v hv _ 0 v.str.size _ _ _ _ hR rfl (Nat.zero_le _) (by rw [List.drop_zero]; omega) rfl rfl rfl rfl
            rw [List.drop_zero, show prevOf v.keys 0 = none from rfl] at hp
            rcases hp with ⟨rfl, hkeys, e1, e2, e7, bytes1, e8, hb1⟩ | ⟨rfl, e4, e5, e6, hkeys⟩
            · simp only [fset_app, Nat.reduceEqDiff, if_true, if_false] at e1 e2 e7
              simp only [symS, symO, symC, symP, symB, symR, if_true, if_false, Nat.reduceEqDiff, Nat.reduceBEq, Nat.reduceAdd, Bool.false_eq_true, Bool.true_eq_false, reduceCtorEq, decide_true, decide_false]
              generalize hR2 : execF E0 (Code.loop _) _ = R2
              obtain ⟨x, env2, rfl, hq⟩ := measure_elems v hm around (.inl hem) _ 0 1 bytes1 _ _ _ _ hR2 rfl (Nat.zero_le _) (by omega) (by rw [List.drop_zero]; omega) (by rw [List.drop_zero]; omega) rfl (by simp only [fset_app, Nat.reduceEqDiff, if_false, e1]) (by simp only [fset_app, Nat.reduceEqDiff, if_false, e2]) (by simp only [fset_app, Nat.reduceEqDiff, if_false, e7]; rfl) (by simp only [fset_app, Nat.reduceEqDiff, if_false, e8]) rfl
              rw [List.drop_zero] at hq
              rcases hq with ⟨rfl, q2, n', b', q3, q4, q5, q6⟩ | ⟨rfl, q4, q5, q6, q7⟩
              · refine ⟨n', b', by omega, by omega, ?_⟩
                simp only [symS, symO, symC, symP, symB, symR, if_true, if_false, Nat.reduceEqDiff, Nat.reduceBEq, Nat.reduceAdd, Bool.false_eq_true, Bool.true_eq_false, reduceCtorEq, decide_true, decide_false, hvl, hform, q2, q3, q4, Bool.and_self, measRC]
              · refine ⟨0, 0, by omega, by omega, ?_⟩
                simp only [symS, symO, symC, symP, symB, symR, if_true, if_false, Nat.reduceEqDiff, Nat.reduceBEq, Nat.reduceAdd, Bool.false_eq_true, Bool.true_eq_false, reduceCtorEq, decide_true, decide_false, hvl, q4, q5, q6, q7, Bool.and_false, measRC]
            · rw [List.isEmpty_iff.1 xK] at hkeys
              cases hkeys
  by_cases qc4 : v.kind = 4
  · have k0 : ¬ v.kind < 0 := by omega
    have k6x : ¬ 6 < v.kind := by omega
    have k3 : (v.kind != 3) = true := by rw [bne_iff_ne]; omega
    have k3' : (v.kind == 3) = false := by rw [beq_eq_false_iff_ne]; omega
    have k4 : (v.kind != 4) = false := by rw [bne_eq_false_iff_eq]; omega
    have k4' : (v.kind == 4) = true := by rw [beq_iff_eq]; omega
    have k6 : (v.kind != 6) = true := by rw [bne_iff_ne]; omega
    have k6' : (v.kind == 6) = false := by rw [beq_eq_false_iff_ne]; omega
    have k5 : v.kind < 5 := by omega
    have k5g : ¬ (5 : Int) ≤ v.kind := by omega
    have k5' : decide (5 ≤ v.kind) = false := by exact decide_eq_false (by omega)
    have k6e := k6'
    by_cases tI : (v.int != 0) = true
    · have xI : (v.int == 0) = false := by rw [beq_eq_false_iff_ne]; exact bne_iff_ne.1 tI
      have hvl : vldJ around v = false := by rw [vldJ_eq, show formJ v = false from by simp only [formJ, k3', k4', k6', k5', xI, Bool.or_self, Bool.false_and, Bool.and_false], Bool.and_false]; rfl
      refine ⟨0, 0, by omega, by omega, ?_⟩
      simp only [Tryz.f82, symS, symO, symC, symP, symB, symR, if_true, if_false, Nat.reduceEqDiff, Nat.reduceBEq, Nat.reduceAdd, Bool.false_eq_true, Bool.true_eq_false, reduceCtorEq, decide_true, decide_false, k0, k6x, k3, k4, k6, k5, k6e, k5g, tI, hvl, measRC]
    · rw [Bool.not_eq_true] at tI
      have xI : (v.int == 0) = true := by rw [beq_iff_eq]; exact bne_eq_false_iff_eq.1 tI
      by_cases tK : (0 : Int) < v.keys.length
      · have xK : v.keys.isEmpty = false := by cases h : v.keys with
          | nil => rw [h] at tK; exact absurd tK (by decide)
          | cons => rfl
        have hvl : vldJ around v = false := by rw [vldJ_eq, show formJ v = false from by simp only [formJ, k3', k4', k6', k5', xK, Bool.or_self, Bool.false_and, Bool.and_false], Bool.and_false]; rfl
        refine ⟨0, 0, by omega, by omega, ?_⟩
        simp only [Tryz.f82, symS, symO, symC, symP, symB, symR, if_true, if_false, Nat.reduceEqDiff, Nat.reduceBEq, Nat.reduceAdd, Bool.false_eq_true, Bool.true_eq_false, reduceCtorEq, decide_true, decide_false, k0, k6x, k3, k4, k6, k5, k6e, k5g, tI, tK, hvl, measRC]
      · have xK : v.keys.isEmpty = true := by cases h : v.keys with
          | nil => rfl
          | cons a r => rw [h, List.length_cons] at tK; omega
        by_cases tE : (0 : Int) < v.elems.length
        · have xE : v.elems.isEmpty = false := by cases h : v.elems with
            | nil => rw [h] at tE; exact absurd tE (by decide)
            | cons => rfl
          have hvl : vldJ around v = false := by rw [vldJ_eq, show formJ v = false from by simp only [formJ, k3', k4', k6', k5', xE, Bool.or_self, Bool.false_and, Bool.and_false], Bool.and_false]; rfl
          refine ⟨0, 0, by omega, by omega, ?_⟩
          simp only [Tryz.f82, symS, symO, symC, symP, symB, symR, if_true, if_false, Nat.reduceEqDiff, Nat.reduceBEq, Nat.reduceAdd, Bool.false_eq_true, Bool.true_eq_false, reduceCtorEq, decide_true, decide_false, k0, k6x, k3, k4, k6, k5, k6e, k5g, tI, tK, tE, hvl, measRC]
        · have xE : v.elems.isEmpty = true := by cases h : v.elems with
            | nil => rfl
            | cons a r => rw [h, List.length_cons] at tE; omega
          cases hc : (codesOf v.str).isSome with
          | false =>
            rw [hc] at hU
            have hvl : vldJ around v = false := by rw [vldJ_eq, show formJ v = false from by simp only [formJ, hc, Bool.and_false, Bool.false_and], Bool.and_false]; rfl
            refine ⟨0, 0, by omega, by omega, ?_⟩
            simp only [Tryz.f82, symS, symO, symC, symP, symB, symR, if_true, if_false, Nat.reduceEqDiff, Nat.reduceBEq, Nat.reduceAdd, Bool.false_eq_true, Bool.true_eq_false, reduceCtorEq, decide_true, decide_false, k0, k6x, k3, k4, k6, k5, k6e, k5g, tI, tK, tE, hU, hs4, he4, hvl, measRC]
          | true =>
            rw [hc] at hU
            have hform : formJ v = true := by simp only [formJ, k3', k4', k6', k5', xI, xK, xE, hc, k6, Bool.true_or, Bool.or_true, Bool.false_or, Bool.and_true, Bool.true_and]
            have hem : v.elems = [] := List.isEmpty_iff.1 xE
            have hvl : vldJ around v = (formJ v && vldL (around + 1) v.elems) := by rw [vldJ_eq, decide_eq_true (by omega : 0 ≤ v.kind), decide_eq_true (by omega : v.kind ≤ 6), decide_eq_true k5, hem]; simp [vldL]
            simp only [Tryz.f82, symS, symO, symC, symP, symB, symR, if_true, if_false, Nat.reduceEqDiff, Nat.reduceBEq, Nat.reduceAdd, Bool.false_eq_true, Bool.true_eq_false, reduceCtorEq, decide_true, decide_false, k0, k6x, k3, k4, k6, k5, k6e, k5g, tI, tK, tE, hU, hs4, he4, hU]
            generalize hR : execF E0 (Code.loop _) _ = R
            obtain ⟨x, env1, rfl, hp⟩ := measure_keys v hv _ 0 v.str.size _ _ _ _ hR rfl (Nat.zero_le _) (by rw [List.drop_zero]; omega) rfl rfl rfl rfl
            rw [List.drop_zero, show prevOf v.keys 0 = none from rfl] at hp
            rcases hp with ⟨rfl, hkeys, e1, e2, e7, bytes1, e8, hb1⟩ | ⟨rfl, e4, e5, e6, hkeys⟩
            · simp only [fset_app, Nat.reduceEqDiff, if_true, if_false] at e1 e2 e7
              simp only [symS, symO, symC, symP, symB, symR, if_true, if_false, Nat.reduceEqDiff, Nat.reduceBEq, Nat.reduceAdd, Bool.false_eq_true, Bool.true_eq_false, reduceCtorEq, decide_true, decide_false]
              generalize hR2 : execF E0 (Code.loop _) _ = R2
              obtain ⟨x, env2, rfl, hq⟩ := measure_elems v hm around (.inl hem) _ 0 1 bytes1 _ _ _ _ hR2 rfl (Nat.zero_le _) (by omega) (by rw [List.drop_zero]; omega) (by rw [List.drop_zero]; omega) rfl (by simp only [fset_app, Nat.reduceEqDiff, if_false, e1]) (by simp only [fset_app, Nat.reduceEqDiff, if_false, e2]) (by simp only [fset_app, Nat.reduceEqDiff, if_false, e7]; rfl) (by simp only [fset_app, Nat.reduceEqDiff, if_false, e8]) rfl
              rw [List.drop_zero] at hq
              rcases hq with ⟨rfl, q2, n', b', q3, q4, q5, q6⟩ | ⟨rfl, q4, q5, q6, q7⟩
              · refine ⟨n', b', by omega, by omega, ?_⟩
                simp only [symS, symO, symC, symP, symB, symR, if_true, if_false, Nat.reduceEqDiff, Nat.reduceBEq, Nat.reduceAdd, Bool.false_eq_true, Bool.true_eq_false, reduceCtorEq, decide_true, decide_false, hvl, hform, q2, q3, q4, Bool.and_self, measRC]
              · refine ⟨0, 0, by omega, by omega, ?_⟩
                simp only [symS, symO, symC, symP, symB, symR, if_true, if_false, Nat.reduceEqDiff, Nat.reduceBEq, Nat.reduceAdd, Bool.false_eq_true, Bool.true_eq_false, reduceCtorEq, decide_true, decide_false, hvl, q4, q5, q6, q7, Bool.and_false, measRC]
            · rw [List.isEmpty_iff.1 xK] at hkeys
              cases hkeys
  by_cases qc6 : v.kind = 6
  · have k0 : ¬ v.kind < 0 := by omega
    have k6x : ¬ 6 < v.kind := by omega
    have k3 : (v.kind != 3) = true := by rw [bne_iff_ne]; omega
    have k3' : (v.kind == 3) = false := by rw [beq_eq_false_iff_ne]; omega
    have k4 : (v.kind != 4) = true := by rw [bne_iff_ne]; omega
    have k4' : (v.kind == 4) = false := by rw [beq_eq_false_iff_ne]; omega
    have k6 : (v.kind != 6) = false := by rw [bne_eq_false_iff_eq]; omega
    have k6' : (v.kind == 6) = true := by rw [beq_iff_eq]; omega
    have k5 : ¬ v.kind < 5 := by omega
    have k5g : (5 : Int) ≤ v.kind := by omega
    have k5' : decide (5 ≤ v.kind) = true := by exact decide_eq_true (by omega)
    have k6e := k6'
    by_cases tI : (v.int != 0) = true
    · have xI : (v.int == 0) = false := by rw [beq_eq_false_iff_ne]; exact bne_iff_ne.1 tI
      have hvl : vldJ around v = false := by rw [vldJ_eq, show formJ v = false from by simp only [formJ, k3', k4', k6', k5', xI, Bool.or_self, Bool.false_and, Bool.and_false], Bool.and_false]; rfl
      refine ⟨0, 0, by omega, by omega, ?_⟩
      simp only [Tryz.f82, symS, symO, symC, symP, symB, symR, if_true, if_false, Nat.reduceEqDiff, Nat.reduceBEq, Nat.reduceAdd, Bool.false_eq_true, Bool.true_eq_false, reduceCtorEq, decide_true, decide_false, k0, k6x, k3, k4, k6, k5, k6e, k5g, tI, hvl, measRC]
    · rw [Bool.not_eq_true] at tI
      have xI : (v.int == 0) = true := by rw [beq_iff_eq]; exact bne_eq_false_iff_eq.1 tI
      by_cases tS : ¬ v.str = ⟨#[]⟩
      · have xS : decide (v.str = ⟨#[]⟩) = false := by exact decide_eq_false tS
        have hvl : vldJ around v = false := by rw [vldJ_eq, show formJ v = false from by simp only [formJ, k3', k4', k6', k5', xS, Bool.or_self, Bool.false_and, Bool.and_false], Bool.and_false]; rfl
        refine ⟨0, 0, by omega, by omega, ?_⟩
        simp only [Tryz.f82, symS, symO, symC, symP, symB, symR, if_true, if_false, Nat.reduceEqDiff, Nat.reduceBEq, Nat.reduceAdd, Bool.false_eq_true, Bool.true_eq_false, reduceCtorEq, decide_true, decide_false, k0, k6x, k3, k4, k6, k5, k6e, k5g, tI, xS, hvl, measRC]
      · rw [Decidable.not_not] at tS
        have xS : decide (v.str = ⟨#[]⟩) = true := by exact decide_eq_true tS
        cases hc : (codesOf v.str).isSome with
        | false =>
          rw [hc] at hU
          have hvl : vldJ around v = false := by rw [vldJ_eq, show formJ v = false from by simp only [formJ, hc, Bool.and_false, Bool.false_and], Bool.and_false]; rfl
          refine ⟨0, 0, by omega, by omega, ?_⟩
          simp only [Tryz.f82, symS, symO, symC, symP, symB, symR, if_true, if_false, Nat.reduceEqDiff, Nat.reduceBEq, Nat.reduceAdd, Bool.false_eq_true, Bool.true_eq_false, reduceCtorEq, decide_true, decide_false, k0, k6x, k3, k4, k6, k5, k6e, k5g, tI, xS, hU, hs4, he4, hvl, measRC]
        | true =>
          rw [hc] at hU
          by_cases hL : v.keys.length = v.elems.length
          · have hL2 : ((v.keys.length : Int) != v.elems.length) = false := by rw [bne_eq_false_iff_eq]; omega
            by_cases q32 : 32 ≤ around
            · have q32' : (32 : Int) ≤ around := by omega
              have hvl : vldJ around v = false := by rw [vldJ_eq, decide_eq_false k5, decide_eq_false (by omega : ¬ around < 32)]; simp
              refine ⟨0, 0, by omega, by omega, ?_⟩
              simp only [Tryz.f82, symS, symO, symC, symP, symB, symR, if_true, if_false, Nat.reduceEqDiff, Nat.reduceBEq, Nat.reduceAdd, Bool.false_eq_true, Bool.true_eq_false, reduceCtorEq, decide_true, decide_false, k0, k6x, k3, k4, k6, k5, k6e, k5g, tI, xS, hU, hL2, hs4, he4, hU, q32', hvl, measRC]
            have q32' : ¬ (32 : Int) ≤ around := by omega
            have hform : formJ v = keysOk none v.keys := by simp only [formJ, k3', k4', k6', k5', xI, xS, hc, k6, hL, decide_true, Bool.true_or, Bool.or_true, Bool.false_or, Bool.and_true, Bool.true_and]
            have hvl : vldJ around v = (formJ v && vldL (around + 1) v.elems) := by rw [vldJ_eq, decide_eq_true (by omega : 0 ≤ v.kind), decide_eq_true (by omega : v.kind ≤ 6), decide_eq_false k5, decide_eq_true (by omega : around < 32)]; simp
            simp only [Tryz.f82, symS, symO, symC, symP, symB, symR, if_true, if_false, Nat.reduceEqDiff, Nat.reduceBEq, Nat.reduceAdd, Bool.false_eq_true, Bool.true_eq_false, reduceCtorEq, decide_true, decide_false, k0, k6x, k3, k4, k6, k5, k6e, k5g, tI, xS, hU, hL2, hs4, he4, hU, q32']
            generalize hR : execF E0 (Code.loop _) _ = R
            obtain ⟨x, env1, rfl, hp⟩ := measure_keys v hv _ 0 v.str.size _ _ _ _ hR rfl (Nat.zero_le _) (by rw [List.drop_zero]; omega) rfl rfl rfl rfl
            rw [List.drop_zero, show prevOf v.keys 0 = none from rfl] at hp
            rcases hp with ⟨rfl, hkeys, e1, e2, e7, bytes1, e8, hb1⟩ | ⟨rfl, e4, e5, e6, hkeys⟩
            · simp only [fset_app, Nat.reduceEqDiff, if_true, if_false] at e1 e2 e7
              simp only [symS, symO, symC, symP, symB, symR, if_true, if_false, Nat.reduceEqDiff, Nat.reduceBEq, Nat.reduceAdd, Bool.false_eq_true, Bool.true_eq_false, reduceCtorEq, decide_true, decide_false]
              generalize hR2 : execF E0 (Code.loop _) _ = R2
              obtain ⟨x, env2, rfl, hq⟩ := measure_elems v hm around (.inr (by omega)) _ 0 1 bytes1 _ _ _ _ hR2 rfl (Nat.zero_le _) (by omega) (by rw [List.drop_zero]; omega) (by rw [List.drop_zero]; omega) rfl (by simp only [fset_app, Nat.reduceEqDiff, if_false, e1]) (by simp only [fset_app, Nat.reduceEqDiff, if_false, e2]) (by simp only [fset_app, Nat.reduceEqDiff, if_false, e7]; rfl) (by simp only [fset_app, Nat.reduceEqDiff, if_false, e8]) rfl
              rw [List.drop_zero] at hq
              rcases hq with ⟨rfl, q2, n', b', q3, q4, q5, q6⟩ | ⟨rfl, q4, q5, q6, q7⟩
              · refine ⟨n', b', by omega, by omega, ?_⟩
                simp only [symS, symO, symC, symP, symB, symR, if_true, if_false, Nat.reduceEqDiff, Nat.reduceBEq, Nat.reduceAdd, Bool.false_eq_true, Bool.true_eq_false, reduceCtorEq, decide_true, decide_false, hvl, hform, hkeys, q2, q3, q4, Bool.and_self, measRC]
              · refine ⟨0, 0, by omega, by omega, ?_⟩
                simp only [symS, symO, symC, symP, symB, symR, if_true, if_false, Nat.reduceEqDiff, Nat.reduceBEq, Nat.reduceAdd, Bool.false_eq_true, Bool.true_eq_false, reduceCtorEq, decide_true, decide_false, hvl, q4, q5, q6, q7, Bool.and_false, measRC]
            · refine ⟨0, 0, by omega, by omega, ?_⟩
              simp only [symS, symO, symC, symP, symB, symR, if_true, if_false, Nat.reduceEqDiff, Nat.reduceBEq, Nat.reduceAdd, Bool.false_eq_true, Bool.true_eq_false, reduceCtorEq, decide_true, decide_false, hvl, hform, hkeys, e4, e5, e6, Bool.false_and, measRC]
          · have hL2 : ((v.keys.length : Int) != v.elems.length) = true := by rw [bne_iff_ne]; omega
            have hvl : vldJ around v = false := by rw [vldJ_eq, show formJ v = false from by simp only [formJ, k3', k4', k6', k5', k6, hL, decide_false, Bool.false_and, Bool.and_false, Bool.or_false], Bool.and_false]; rfl
            refine ⟨0, 0, by omega, by omega, ?_⟩
            simp only [Tryz.f82, symS, symO, symC, symP, symB, symR, if_true, if_false, Nat.reduceEqDiff, Nat.reduceBEq, Nat.reduceAdd, Bool.false_eq_true, Bool.true_eq_false, reduceCtorEq, decide_true, decide_false, k0, k6x, k3, k4, k6, k5, k6e, k5g, tI, xS, hU, hL2, hs4, he4, hvl, measRC]
  by_cases qlo : v.kind < 3
  · have k0 : ¬ v.kind < 0 := by omega
    have k6x : ¬ 6 < v.kind := by omega
    have k3 : (v.kind != 3) = true := by rw [bne_iff_ne]; omega
    have k3' : (v.kind == 3) = false := by rw [beq_eq_false_iff_ne]; omega
    have k4 : (v.kind != 4) = true := by rw [bne_iff_ne]; omega
    have k4' : (v.kind == 4) = false := by rw [beq_eq_false_iff_ne]; omega
    have k6 : (v.kind != 6) = true := by rw [bne_iff_ne]; omega
    have k6' : (v.kind == 6) = false := by rw [beq_eq_false_iff_ne]; omega
    have k5 : v.kind < 5 := by omega
    have k5g : ¬ (5 : Int) ≤ v.kind := by omega
    have k5' : decide (5 ≤ v.kind) = false := by exact decide_eq_false (by omega)
    have k6e := k6'
    by_cases tI : (v.int != 0) = true
    · have xI : (v.int == 0) = false := by rw [beq_eq_false_iff_ne]; exact bne_iff_ne.1 tI
      have hvl : vldJ around v = false := by rw [vldJ_eq, show formJ v = false from by simp only [formJ, k3', k4', k6', k5', xI, Bool.or_self, Bool.false_and, Bool.and_false], Bool.and_false]; rfl
      refine ⟨0, 0, by omega, by omega, ?_⟩
      simp only [Tryz.f82, symS, symO, symC, symP, symB, symR, if_true, if_false, Nat.reduceEqDiff, Nat.reduceBEq, Nat.reduceAdd, Bool.false_eq_true, Bool.true_eq_false, reduceCtorEq, decide_true, decide_false, k0, k6x, k3, k4, k6, k5, k6e, k5g, tI, hvl, measRC]
    · rw [Bool.not_eq_true] at tI
      have xI : (v.int == 0) = true := by rw [beq_iff_eq]; exact bne_eq_false_iff_eq.1 tI
      by_cases tS : ¬ v.str = ⟨#[]⟩
      · have xS : decide (v.str = ⟨#[]⟩) = false := by exact decide_eq_false tS
        have hvl : vldJ around v = false := by rw [vldJ_eq, show formJ v = false from by simp only [formJ, k3', k4', k6', k5', xS, Bool.or_self, Bool.false_and, Bool.and_false], Bool.and_false]; rfl
        refine ⟨0, 0, by omega, by omega, ?_⟩
        simp only [Tryz.f82, symS, symO, symC, symP, symB, symR, if_true, if_false, Nat.reduceEqDiff, Nat.reduceBEq, Nat.reduceAdd, Bool.false_eq_true, Bool.true_eq_false, reduceCtorEq, decide_true, decide_false, k0, k6x, k3, k4, k6, k5, k6e, k5g, tI, xS, hvl, measRC]
      · rw [Decidable.not_not] at tS
        have xS : decide (v.str = ⟨#[]⟩) = true := by exact decide_eq_true tS
        by_cases tK : (0 : Int) < v.keys.length
        · have xK : v.keys.isEmpty = false := by cases h : v.keys with
            | nil => rw [h] at tK; exact absurd tK (by decide)
            | cons => rfl
          have hvl : vldJ around v = false := by rw [vldJ_eq, show formJ v = false from by simp only [formJ, k3', k4', k6', k5', xK, Bool.or_self, Bool.false_and, Bool.and_false], Bool.and_false]; rfl
          refine ⟨0, 0, by omega, by omega, ?_⟩
          simp only [Tryz.f82, symS, symO, symC, symP, symB, symR, if_true, if_false, Nat.reduceEqDiff, Nat.reduceBEq, Nat.reduceAdd, Bool.false_eq_true, Bool.true_eq_false, reduceCtorEq, decide_true, decide_false, k0, k6x, k3, k4, k6, k5, k6e, k5g, tI, xS, tK, hvl, measRC]
        · have xK : v.keys.isEmpty = true := by cases h : v.keys with
            | nil => rfl
            | cons a r => rw [h, List.length_cons] at tK; omega
          by_cases tE : (0 : Int) < v.elems.length
          · have xE : v.elems.isEmpty = false := by cases h : v.elems with
              | nil => rw [h] at tE; exact absurd tE (by decide)
              | cons => rfl
            have hvl : vldJ around v = false := by rw [vldJ_eq, show formJ v = false from by simp only [formJ, k3', k4', k6', k5', xE, Bool.or_self, Bool.false_and, Bool.and_false], Bool.and_false]; rfl
            refine ⟨0, 0, by omega, by omega, ?_⟩
            simp only [Tryz.f82, symS, symO, symC, symP, symB, symR, if_true, if_false, Nat.reduceEqDiff, Nat.reduceBEq, Nat.reduceAdd, Bool.false_eq_true, Bool.true_eq_false, reduceCtorEq, decide_true, decide_false, k0, k6x, k3, k4, k6, k5, k6e, k5g, tI, xS, tK, tE, hvl, measRC]
          · have xE : v.elems.isEmpty = true := by cases h : v.elems with
              | nil => rfl
              | cons a r => rw [h, List.length_cons] at tE; omega
            cases hc : (codesOf v.str).isSome with
            | false =>
              rw [hc] at hU
              have hvl : vldJ around v = false := by rw [vldJ_eq, show formJ v = false from by simp only [formJ, hc, Bool.and_false, Bool.false_and], Bool.and_false]; rfl
              refine ⟨0, 0, by omega, by omega, ?_⟩
              simp only [Tryz.f82, symS, symO, symC, symP, symB, symR, if_true, if_false, Nat.reduceEqDiff, Nat.reduceBEq, Nat.reduceAdd, Bool.false_eq_true, Bool.true_eq_false, reduceCtorEq, decide_true, decide_false, k0, k6x, k3, k4, k6, k5, k6e, k5g, tI, xS, tK, tE, hU, hs4, he4, hvl, measRC]
            | true =>
              rw [hc] at hU
              have hform : formJ v = true := by simp only [formJ, k3', k4', k6', k5', xI, xS, xK, xE, hc, k6, Bool.true_or, Bool.or_true, Bool.false_or, Bool.and_true, Bool.true_and]
              have hem : v.elems = [] := List.isEmpty_iff.1 xE
              have hvl : vldJ around v = (formJ v && vldL (around + 1) v.elems) := by rw [vldJ_eq, decide_eq_true (by omega : 0 ≤ v.kind), decide_eq_true (by omega : v.kind ≤ 6), decide_eq_true k5, hem]; simp [vldL]
              simp only [Tryz.f82, symS, symO, symC, symP, symB, symR, if_true, if_false, Nat.reduceEqDiff, Nat.reduceBEq, Nat.reduceAdd, Bool.false_eq_true, Bool.true_eq_false, reduceCtorEq, decide_true, decide_false, k0, k6x, k3, k4, k6, k5, k6e, k5g, tI, xS, tK, tE, hU, hs4, he4, hU]
              generalize hR : execF E0 (Code.loop _) _ = R
              obtain ⟨x, env1, rfl, hp⟩ := measure_keys v hv _ 0 v.str.size _ _ _ _ hR rfl (Nat.zero_le _) (by rw [List.drop_zero]; omega) rfl rfl rfl rfl
              rw [List.drop_zero, show prevOf v.keys 0 = none from rfl] at hp
              rcases hp with ⟨rfl, hkeys, e1, e2, e7, bytes1, e8, hb1⟩ | ⟨rfl, e4, e5, e6, hkeys⟩
              · simp only [fset_app, Nat.reduceEqDiff, if_true, if_false] at e1 e2 e7
                simp only [symS, symO, symC, symP, symB, symR, if_true, if_false, Nat.reduceEqDiff, Nat.reduceBEq, Nat.reduceAdd, Bool.false_eq_true, Bool.true_eq_false, reduceCtorEq, decide_true, decide_false]
                generalize hR2 : execF E0 (Code.loop _) _ = R2
                obtain ⟨x, env2, rfl, hq⟩ := measure_elems v hm around (.inl hem) _ 0 1 bytes1 _ _ _ _ hR2 rfl (Nat.zero_le _) (by omega) (by rw [List.drop_zero]; omega) (by rw [List.drop_zero]; omega) rfl (by simp only [fset_app, Nat.reduceEqDiff, if_false, e1]) (by simp only [fset_app, Nat.reduceEqDiff, if_false, e2]) (by simp only [fset_app, Nat.reduceEqDiff, if_false, e7]; rfl) (by simp only [fset_app, Nat.reduceEqDiff, if_false, e8]) rfl
                rw [List.drop_zero] at hq
                rcases hq with ⟨rfl, q2, n', b', q3, q4, q5, q6⟩ | ⟨rfl, q4, q5, q6, q7⟩
                · refine ⟨n', b', by omega, by omega, ?_⟩
                  simp only [symS, symO, symC, symP, symB, symR, if_true, if_false, Nat.reduceEqDiff, Nat.reduceBEq, Nat.reduceAdd, Bool.false_eq_true, Bool.true_eq_false, reduceCtorEq, decide_true, decide_false, hvl, hform, q2, q3, q4, Bool.and_self, measRC]
                · refine ⟨0, 0, by omega, by omega, ?_⟩
                  simp only [symS, symO, symC, symP, symB, symR, if_true, if_false, Nat.reduceEqDiff, Nat.reduceBEq, Nat.reduceAdd, Bool.false_eq_true, Bool.true_eq_false, reduceCtorEq, decide_true, decide_false, hvl, q4, q5, q6, q7, Bool.and_false, measRC]
              · rw [List.isEmpty_iff.1 xK] at hkeys
                cases hkeys
  have k0 : ¬ v.kind < 0 := by omega
  have k6x : ¬ 6 < v.kind := by omega
  have k3 : (v.kind != 3) = true := by rw [bne_iff_ne]; omega
  have k3' : (v.kind == 3) = false := by rw [beq_eq_false_iff_ne]; omega
  have k4 : (v.kind != 4) = true := by rw [bne_iff_ne]; omega
  have k4' : (v.kind == 4) = false := by rw [beq_eq_false_iff_ne]; omega
  have k6 : (v.kind != 6) = true := by rw [bne_iff_ne]; omega
  have k6' : (v.kind == 6) = false := by rw [beq_eq_false_iff_ne]; omega
  have k5 : ¬ v.kind < 5 := by omega
  have k5g : (5 : Int) ≤ v.kind := by omega
  have k5' : decide (5 ≤ v.kind) = true := by exact decide_eq_true (by omega)
  have k6e := k6'
  by_cases tI : (v.int != 0) = true
  · have xI : (v.int == 0) = false := by rw [beq_eq_false_iff_ne]; exact bne_iff_ne.1 tI
    have hvl : vldJ around v = false := by rw [vldJ_eq, show formJ v = false from by simp only [formJ, k3', k4', k6', k5', xI, Bool.or_self, Bool.false_and, Bool.and_false], Bool.and_false]; rfl
    refine ⟨0, 0, by omega, by omega, ?_⟩
    simp only [Tryz.f82, symS, symO, symC, symP, symB, symR, if_true, if_false, Nat.reduceEqDiff, Nat.reduceBEq, Nat.reduceAdd, Bool.false_eq_true, Bool.true_eq_false, reduceCtorEq, decide_true, decide_false, k0, k6x, k3, k4, k6, k5, k6e, k5g, tI, hvl, measRC]
  · rw [Bool.not_eq_true] at tI
    have xI : (v.int == 0) = true := by rw [beq_iff_eq]; exact bne_eq_false_iff_eq.1 tI
    by_cases tS : ¬ v.str = ⟨#[]⟩
    · have xS : decide (v.str = ⟨#[]⟩) = false := by exact decide_eq_false tS
      have hvl : vldJ around v = false := by rw [vldJ_eq, show formJ v = false from by simp only [formJ, k3', k4', k6', k5', xS, Bool.or_self, Bool.false_and, Bool.and_false], Bool.and_false]; rfl
      refine ⟨0, 0, by omega, by omega, ?_⟩
      simp only [Tryz.f82, symS, symO, symC, symP, symB, symR, if_true, if_false, Nat.reduceEqDiff, Nat.reduceBEq, Nat.reduceAdd, Bool.false_eq_true, Bool.true_eq_false, reduceCtorEq, decide_true, decide_false, k0, k6x, k3, k4, k6, k5, k6e, k5g, tI, xS, hvl, measRC]
    · rw [Decidable.not_not] at tS
      have xS : decide (v.str = ⟨#[]⟩) = true := by exact decide_eq_true tS
      by_cases tK : (0 : Int) < v.keys.length
      · have xK : v.keys.isEmpty = false := by cases h : v.keys with
          | nil => rw [h] at tK; exact absurd tK (by decide)
          | cons => rfl
        have hvl : vldJ around v = false := by rw [vldJ_eq, show formJ v = false from by simp only [formJ, k3', k4', k6', k5', xK, Bool.or_self, Bool.false_and, Bool.and_false], Bool.and_false]; rfl
        refine ⟨0, 0, by omega, by omega, ?_⟩
        simp only [Tryz.f82, symS, symO, symC, symP, symB, symR, if_true, if_false, Nat.reduceEqDiff, Nat.reduceBEq, Nat.reduceAdd, Bool.false_eq_true, Bool.true_eq_false, reduceCtorEq, decide_true, decide_false, k0, k6x, k3, k4, k6, k5, k6e, k5g, tI, xS, tK, hvl, measRC]
      · have xK : v.keys.isEmpty = true := by cases h : v.keys with
          | nil => rfl
          | cons a r => rw [h, List.length_cons] at tK; omega
        cases hc : (codesOf v.str).isSome with
        | false =>
          rw [hc] at hU
          have hvl : vldJ around v = false := by rw [vldJ_eq, show formJ v = false from by simp only [formJ, hc, Bool.and_false, Bool.false_and], Bool.and_false]; rfl
          refine ⟨0, 0, by omega, by omega, ?_⟩
          simp only [Tryz.f82, symS, symO, symC, symP, symB, symR, if_true, if_false, Nat.reduceEqDiff, Nat.reduceBEq, Nat.reduceAdd, Bool.false_eq_true, Bool.true_eq_false, reduceCtorEq, decide_true, decide_false, k0, k6x, k3, k4, k6, k5, k6e, k5g, tI, xS, tK, hU, hs4, he4, hvl, measRC]
        | true =>
          rw [hc] at hU
          by_cases q32 : 32 ≤ around
          · have q32' : (32 : Int) ≤ around := by omega
            have hvl : vldJ around v = false := by rw [vldJ_eq, decide_eq_false k5, decide_eq_false (by omega : ¬ around < 32)]; simp
            refine ⟨0, 0, by omega, by omega, ?_⟩
            simp only [Tryz.f82, symS, symO, symC, symP, symB, symR, if_true, if_false, Nat.reduceEqDiff, Nat.reduceBEq, Nat.reduceAdd, Bool.false_eq_true, Bool.true_eq_false, reduceCtorEq, decide_true, decide_false, k0, k6x, k3, k4, k6, k5, k6e, k5g, tI, xS, tK, hU, hs4, he4, hU, q32', hvl, measRC]
          have q32' : ¬ (32 : Int) ≤ around := by omega
          have hform : formJ v = true := by simp only [formJ, k3', k4', k6', k5', xI, xS, xK, hc, k6, Bool.true_or, Bool.or_true, Bool.false_or, Bool.and_true, Bool.true_and]
          have hvl : vldJ around v = (formJ v && vldL (around + 1) v.elems) := by rw [vldJ_eq, decide_eq_true (by omega : 0 ≤ v.kind), decide_eq_true (by omega : v.kind ≤ 6), decide_eq_false k5, decide_eq_true (by omega : around < 32)]; simp
          simp only [Tryz.f82, symS, symO, symC, symP, symB, symR, if_true, if_false, Nat.reduceEqDiff, Nat.reduceBEq, Nat.reduceAdd, Bool.false_eq_true, Bool.true_eq_false, reduceCtorEq, decide_true, decide_false, k0, k6x, k3, k4, k6, k5, k6e, k5g, tI, xS, tK, hU, hs4, he4, hU, q32']
          generalize hR : execF E0 (Code.loop _) _ = R
          obtain ⟨x, env1, rfl, hp⟩ := measure_keys v hv _ 0 v.str.size _ _ _ _ hR rfl (Nat.zero_le _) (by rw [List.drop_zero]; omega) rfl rfl rfl rfl
          rw [List.drop_zero, show prevOf v.keys 0 = none from rfl] at hp
          rcases hp with ⟨rfl, hkeys, e1, e2, e7, bytes1, e8, hb1⟩ | ⟨rfl, e4, e5, e6, hkeys⟩
          · simp only [fset_app, Nat.reduceEqDiff, if_true, if_false] at e1 e2 e7
            simp only [symS, symO, symC, symP, symB, symR, if_true, if_false, Nat.reduceEqDiff, Nat.reduceBEq, Nat.reduceAdd, Bool.false_eq_true, Bool.true_eq_false, reduceCtorEq, decide_true, decide_false]
            generalize hR2 : execF E0 (Code.loop _) _ = R2
            obtain ⟨x, env2, rfl, hq⟩ := measure_elems v hm around (.inr (by omega)) _ 0 1 bytes1 _ _ _ _ hR2 rfl (Nat.zero_le _) (by omega) (by rw [List.drop_zero]; omega) (by rw [List.drop_zero]; omega) rfl (by simp only [fset_app, Nat.reduceEqDiff, if_false, e1]) (by simp only [fset_app, Nat.reduceEqDiff, if_false, e2]) (by simp only [fset_app, Nat.reduceEqDiff, if_false, e7]; rfl) (by simp only [fset_app, Nat.reduceEqDiff, if_false, e8]) rfl
            rw [List.drop_zero] at hq
            rcases hq with ⟨rfl, q2, n', b', q3, q4, q5, q6⟩ | ⟨rfl, q4, q5, q6, q7⟩
            · refine ⟨n', b', by omega, by omega, ?_⟩
              simp only [symS, symO, symC, symP, symB, symR, if_true, if_false, Nat.reduceEqDiff, Nat.reduceBEq, Nat.reduceAdd, Bool.false_eq_true, Bool.true_eq_false, reduceCtorEq, decide_true, decide_false, hvl, hform, q2, q3, q4, Bool.and_self, measRC]
            · refine ⟨0, 0, by omega, by omega, ?_⟩
              simp only [symS, symO, symC, symP, symB, symR, if_true, if_false, Nat.reduceEqDiff, Nat.reduceBEq, Nat.reduceAdd, Bool.false_eq_true, Bool.true_eq_false, reduceCtorEq, decide_true, decide_false, hvl, q4, q5, q6, q7, Bool.and_false, measRC]
          · rw [List.isEmpty_iff.1 xK] at hkeys
            cases hkeys

theorem measure_run (v : JV) (hv : totJ v ≤ 1000) : Measures v := by
  have key : ∀ (n : Nat) (v : JV), totJ v ≤ n → totJ v ≤ 1000 → Measures v := by
    intro n
    induction n with
    | zero => intro v h; have := totJ_eq v; omega
    | succ n ih =>
      intro v h h'
      refine measure_step v h' (fun e he => ih e ?_ ?_)
      · have h1 := totJ_eq v
        have h2 := totL_mem he
        omega
      · have h1 := totJ_eq v
        have h2 := totL_mem he
        omega
  exact key _ v (Nat.le_refl _) hv

end Go.Abs
