/-
The program in sight: the law PathStep answers true.
-/
import Derived.Test.YtmeepaihgipacaaGreatAbsSSt
set_option linter.unusedVariables false
set_option linter.unusedSimpArgs false
namespace Go.Abs
open Go.Proofs

theorem bd_PathStep : Tryz.prog.funcs[8]? = some Tryz.f8 := by kernel_rfl
theorem ok_PathStep : fnOk Tryz.f8 = true := by kernel_rfl

theorem exJ_tot2 (v s : JV) (hb : vldA [v, s] = true) : totJ (exJ v s).1 ≤ totJ v := exJ_tot v s (.inr (vldA_two hb).1)

/-- path.Step and its reference. -/
theorem step_both (v s : JV) (hv : totJ v ≤ 1000) (hs : totJ s ≤ 1000) (ov : v.Ok) (os : s.Ok) : ∃ (w : JV) (e : Int), w.Ok ∧ callF E0 12 [encJ v, encJ s] = some [.p (encJ w), .p (.v (.int .i64 e))] ∧ callF E0 13 [encJ v, encJ s] = some [.p (encJ w), .p (.v (.int .i64 e))] := by
  refine ⟨okJ (vldA [v, s]) (exJ v s).1, okE (vldA [v, s]) (exJ v s).2.2, ?_, ?_, ?_⟩
  · cases hb : vldA [v, s] with
    | false => exact nullJ_ok
    | true => exact exJ_ok v s (.inr (vldA_two hb).1) ov hv
  · exact pstep_run v s _ _ hv hs (fun hb => ostep2_run v s (step_ok (vldA_two hb).2 os hs) hv (.inr (vldA_two hb).1)) (fun hb => by have := exJ_tot2 v s hb; omega)
  · exact rstep_run v s _ _ hv hs (fun hb => part_run v s (step_ok (vldA_two hb).2 os hs) hv (.inr (vldA_two hb).1))

theorem get_both (v p : JV) (hv : totJ v ≤ 1000) (hp : totJ p ≤ 1000) (ov : v.Ok) (op : p.Ok) : ∃ (w : JV) (e : Int), w.Ok ∧ callF E0 23 [encJ v, encJ p] = some [.p (encJ w), .p (.v (.int .i64 e))] ∧ callF E0 28 [encJ v, encJ p] = some [.p (encJ w), .p (.v (.int .i64 e))] := by
  refine ⟨_, _, ?_, pget_run v p op hv hp, rget_run v p op hv hp⟩
  cases hb : vldA [v, p] with
  | false => exact nullJ_ok
  | true => exact getPJ_ok v p (.inr (vldA_two hb).1) ov hv

theorem bsV5 (nxt z a b c d e) : bsO nxt 5 5 z [(0, encJ a), (1, encJ b), (2, encJ c), (3, encJ d), (4, encJ e)] = some ⟨.sl nxt 0 5, [(nxt, some ⟨true, 5, [a, b, c, d, e].map cellsJ⟩)], 1⟩ := by
  unfold bsO
  rw [if_neg (by simp), afJ _ _ _ _ (by simp), afJ _ _ _ _ (by simp), afJ _ _ _ _ (by simp), afJ _ _ _ _ (by simp), afJ _ _ _ _ (by simp)]; rfl
theorem purS_V5 (h a b c d e) : purS 23 h 0 5 (some ⟨false, 5, [a, b, c, d, e].map cellsJ⟩) = some (encL [a, b, c, d, e]) := purS_J23 h [a, b, c, d, e]

set_option maxRecDepth 100000 in
theorem pathStep_run (v s p from_ to_ : JV) (hv : v.Ok) (hs : s.Ok) (hp : p.Ok) (hf : from_.Ok) (ht : to_.Ok) : callF E0 8 [encJ v, encJ s, encJ p, encJ from_, encJ to_] = some [.p (.v (.bool true))] := by
  rw [callF_fn bd_PathStep ok_PathStep]
  obtain ⟨sm, hsm, hsmall⟩ := small_run [v, s, p, from_, to_] (by simp) (by intro e he; simp at he; rcases he with rfl | rfl | rfl | rfl | rfl <;> assumption) 100 (by decide) (by decide)
  cases sm with
  | false => simp only [symS, symO, symC, symP, symB, symR, symF, symM, symN, if_true, if_false, Nat.reduceEqDiff, Nat.reduceBEq, Nat.reduceAdd, Bool.false_eq_true, Bool.true_eq_false, reduceCtorEq, decide_true, decide_false, Nat.reduceLeDiff, and_self, and_true, true_and, some_is, lt01, symL, Tryz.f8, bsV5, purS_V5, hsm, awk_nil]
  | true =>
    have hb := hsmall rfl
    have tv : totJ v ≤ 100 := by have := hb v (by simp); omega
    have ts : totJ s ≤ 100 := by have := hb s (by simp); omega
    have tp : totJ p ≤ 100 := by have := hb p (by simp); omega
    have tf : totJ from_ ≤ 100 := by have := hb from_ (by simp); omega
    have tt : totJ to_ ≤ 100 := by have := hb to_ (by simp); omega
    obtain ⟨w1, x1, o1, p1, q1⟩ := step_both v s (by omega) (by omega) hv hs
    obtain ⟨w2, x2, o2, p2, q2⟩ := get_both v p (by omega) (by omega) hv hp
    have p3 := psst_run from_ to_ (by omega) (by omega)
    have q3 := sstep2_run from_ to_ (by omega) (by omega)
    have s1 := same_run w1 o1
    have s2 := same_run w2 o2
    have s3 := same_run _ (sstJ_ok from_ to_ hf ht)
    have b1 : (x1 == x1) = true := beq_self_eq_true _
    have b2 : (x2 == x2) = true := beq_self_eq_true _
    have b3 : ((sstJ from_ to_).2 == (sstJ from_ to_).2) = true := beq_self_eq_true _
    simp only [symS, symO, symC, symP, symB, symR, symF, symM, symN, if_true, if_false, Nat.reduceEqDiff, Nat.reduceBEq, Nat.reduceAdd, Bool.false_eq_true, Bool.true_eq_false, reduceCtorEq, decide_true, decide_false, Nat.reduceLeDiff, and_self, and_true, true_and, some_is, lt01, symL, Tryz.f8, bsV5, purS_V5, hsm, p1, q1, p2, q2, p3, q3, s1, s2, s3, b1, b2, b3, awk_nil]

end Go.Abs
