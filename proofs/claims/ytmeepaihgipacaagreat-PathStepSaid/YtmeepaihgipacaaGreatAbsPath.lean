/-
The program in sight: path.Step, and the law PathSlices.
-/
import Derived.Test.YtmeepaihgipacaaGreatAbsStep
import Derived.Test.YtmeepaihgipacaaGreatAbsRval
set_option linter.unusedVariables false
set_option linter.unusedSimpArgs false
namespace Go.Abs
open Go.Proofs

theorem bd_OStep : Tryz.prog.funcs[36]? = some Tryz.f36 := by kernel_rfl
theorem ok_OStep : fnOk Tryz.f36 = true := by kernel_rfl
theorem bd_PStep1 : Tryz.prog.funcs[35]? = some Tryz.f35 := by kernel_rfl
theorem ok_PStep1 : fnOk Tryz.f35 = true := by kernel_rfl
theorem bd_apply : Tryz.prog.funcs[34]? = some Tryz.f34 := by kernel_rfl
theorem ok_apply : fnOk Tryz.f34 = true := by kernel_rfl
theorem bd_PStep : Tryz.prog.funcs[12]? = some Tryz.f12 := by kernel_rfl
theorem ok_PStep : fnOk Tryz.f12 = true := by kernel_rfl
theorem bd_RStep : Tryz.prog.funcs[13]? = some Tryz.f13 := by kernel_rfl
theorem ok_RStep : fnOk Tryz.f13 = true := by kernel_rfl
theorem bd_SStep : Tryz.prog.funcs[11]? = some Tryz.f11 := by kernel_rfl
theorem ok_SStep : fnOk Tryz.f11 = true := by kernel_rfl
theorem bd_PathSlices : Tryz.prog.funcs[3]? = some Tryz.f3 := by kernel_rfl
theorem ok_PathSlices : fnOk Tryz.f3 = true := by kernel_rfl

theorem fz_Step1 : E0.frz 35 = true := rfl
theorem ld_pJ (v : JV) : loadC true 5 (cellsJ v) = some ⟨encJ v, [], 0⟩ := ldJ v

set_option maxRecDepth 100000 in
theorem ostep_run (v s w : JV) (b : Bool) (e : Int) (h : callF E0 57 [encJ v, encJ s] = some [.p (encJ w), .p (.v (.bool b)), .p (.v (.int .i64 e))]) : callF E0 36 [encJ v, encJ s] = some [.p (encJ w), .p (.v (.int .i64 e))] := by
  rw [callF_fn bd_OStep ok_OStep]
  simp only [symS, symO, symC, symP, symB, symR, symF, symM, symN, if_true, if_false, Nat.reduceEqDiff, Nat.reduceBEq, Nat.reduceAdd, Bool.false_eq_true, Bool.true_eq_false, reduceCtorEq, decide_true, decide_false, Nat.reduceLeDiff, and_self, and_true, true_and, some_is, lt01, symL, Tryz.f36, h]

set_option maxRecDepth 100000 in
theorem pstep1_run (v s w : JV) (e : Int) (h : callF E0 36 [encJ v, encJ s] = some [.p (encJ w), .p (.v (.int .i64 e))]) : callF E0 35 [.pptr (cellsJ v), .pptr (cellsJ s)] = some [.p (encJ w), .p (.v (.int .i64 e))] := by
  rw [callF_fn bd_PStep1 ok_PStep1]
  simp only [symS, symO, symC, symP, symB, symR, symF, symM, symN, if_true, if_false, Nat.reduceEqDiff, Nat.reduceBEq, Nat.reduceAdd, Bool.false_eq_true, Bool.true_eq_false, reduceCtorEq, decide_true, decide_false, Nat.reduceLeDiff, and_self, and_true, true_and, some_is, lt01, symL, Tryz.f35, h]

set_option maxRecDepth 100000 in
theorem apply_bad (f : FuncId) (caps : List AV) (l : List JV) (hall : callF E0 55 [encL l] = some [.p (.v (.bool false))]) : callF E0 34 [.fn f caps, encL l] = some [.p (encJ nullJ), .p (.v (.int .i64 1))] := by
  rw [callF_fn bd_apply ok_apply]
  simp only [symS, symO, symC, symP, symB, symR, symF, symM, symN, if_true, if_false, Nat.reduceEqDiff, Nat.reduceBEq, Nat.reduceAdd, Bool.false_eq_true, Bool.true_eq_false, reduceCtorEq, decide_true, decide_false, Nat.reduceLeDiff, and_self, and_true, true_and, some_is, lt01, symL, Tryz.f34, hall, nullJ]

set_option maxRecDepth 100000 in
theorem apply_two (f : FuncId) (c d : List AV) (l : List JV) (w : JV) (e : Int) (hall : callF E0 55 [encL l] = some [.p (.v (.bool true))]) (hf : callF E0 f [.pptr c, .pptr d] = some [.p (encJ w), .p (.v (.int .i64 e))]) (hw : totJ w ≤ 1000000000) (hr : E0.ref f = false) (hp : E0.prim f = none) :
    callF E0 34 [.fn f [.pptr c, .pptr d], encL l] = some [.p (encJ w), .p (.v (.int .i64 e))] := by
  rw [callF_fn bd_apply ok_apply]
  have hcp := copy_run w hw
  rw [E0_ref] at hr
  rw [E0_prim] at hp
  simp only [symS, symO, symC, symP, symB, symR, symF, symM, symN, if_true, if_false, Nat.reduceEqDiff, Nat.reduceBEq, Nat.reduceAdd, Bool.false_eq_true, Bool.true_eq_false, reduceCtorEq, decide_true, decide_false, Nat.reduceLeDiff, and_self, and_true, true_and, some_is, lt01, symL, Tryz.f34, hall, hf, hcp, hr, hp]

set_option maxRecDepth 100000 in
theorem apply_three (f : FuncId) (c d g : List AV) (l : List JV) (w : JV) (e : Int) (hall : callF E0 55 [encL l] = some [.p (.v (.bool true))]) (hf : callF E0 f [.pptr c, .pptr d, .pptr g] = some [.p (encJ w), .p (.v (.int .i64 e))]) (hw : totJ w ≤ 1000000000) (hr : E0.ref f = false) (hp : E0.prim f = none) :
    callF E0 34 [.fn f [.pptr c, .pptr d, .pptr g], encL l] = some [.p (encJ w), .p (.v (.int .i64 e))] := by
  rw [callF_fn bd_apply ok_apply]
  have hcp := copy_run w hw
  rw [E0_ref] at hr
  rw [E0_prim] at hp
  simp only [symS, symO, symC, symP, symB, symR, symF, symM, symN, if_true, if_false, Nat.reduceEqDiff, Nat.reduceBEq, Nat.reduceAdd, Bool.false_eq_true, Bool.true_eq_false, reduceCtorEq, decide_true, decide_false, Nat.reduceLeDiff, and_self, and_true, true_and, some_is, lt01, symL, Tryz.f34, hall, hf, hcp, hr, hp]

/-- The answer of an operation on values that may be invalid. -/
def okJ (b : Bool) (w : JV) : JV := if b then w else nullJ
def okE (b : Bool) (e : Int) : Int := if b then e else 1

set_option maxRecDepth 100000 in
theorem pstep_run (v s w : JV) (e : Int) (hv : totJ v ≤ 1000) (hs : totJ s ≤ 1000) (h : vldA [v, s] = true → callF E0 36 [encJ v, encJ s] = some [.p (encJ w), .p (.v (.int .i64 e))]) (hw : vldA [v, s] = true → totJ w ≤ 1000000000) :
    callF E0 12 [encJ v, encJ s] = some [.p (encJ (okJ (vldA [v, s]) w)), .p (.v (.int .i64 (okE (vldA [v, s]) e)))] := by
  rw [callF_fn bd_PStep ok_PStep]
  have hall := all_run [v, s] (by simp) (by intro e he; simp at he; rcases he with rfl | rfl <;> assumption)
  cases hb : vldA [v, s] with
  | false =>
    rw [hb] at hall
    have ha := apply_bad 35 [.pptr (cellsJ v), .pptr (cellsJ s)] [v, s] hall
    have e1 : okJ false w = nullJ := rfl
    have e2 : okE false e = 1 := rfl
    simp only [symS, symO, symC, symP, symB, symR, symF, symM, symN, if_true, if_false, Nat.reduceEqDiff, Nat.reduceBEq, Nat.reduceAdd, Bool.false_eq_true, Bool.true_eq_false, reduceCtorEq, decide_true, decide_false, Nat.reduceLeDiff, and_self, and_true, true_and, some_is, lt01, symL, Tryz.f12, fz_Step1, ha, e1, e2]
  | true =>
    rw [hb] at hall
    have ha := apply_two 35 (cellsJ v) (cellsJ s) [v, s] w e hall (pstep1_run v s w e (h hb)) (hw hb) rfl rfl
    have e1 : okJ true w = w := rfl
    have e2 : okE true e = e := rfl
    simp only [symS, symO, symC, symP, symB, symR, symF, symM, symN, if_true, if_false, Nat.reduceEqDiff, Nat.reduceBEq, Nat.reduceAdd, Bool.false_eq_true, Bool.true_eq_false, reduceCtorEq, decide_true, decide_false, Nat.reduceLeDiff, and_self, and_true, true_and, some_is, lt01, symL, Tryz.f12, fz_Step1, ha, e1, e2]

set_option maxRecDepth 100000 in
theorem rstep_run (v s w : JV) (e : Int) (hv : totJ v ≤ 1000) (hs : totJ s ≤ 1000) (h : vldA [v, s] = true → callF E0 37 [encJ v, encJ s] = some [.p (encJ w), .p (.v (.int .i64 e))]) :
    callF E0 13 [encJ v, encJ s] = some [.p (encJ (okJ (vldA [v, s]) w)), .p (.v (.int .i64 (okE (vldA [v, s]) e)))] := by
  rw [callF_fn bd_RStep ok_RStep]
  have hall := valid7_run [v, s] (by simp) (by intro e he; simp at he; rcases he with rfl | rfl <;> assumption)
  cases hb : vldA [v, s] with
  | false =>
    rw [hb] at hall
    have e1 : okJ false w = nullJ := rfl
    have e2 : okE false e = 1 := rfl
    rw [e1, e2]
    simp only [symS, symO, symC, symP, symB, symR, symF, symM, symN, if_true, if_false, Nat.reduceEqDiff, Nat.reduceBEq, Nat.reduceAdd, Bool.false_eq_true, Bool.true_eq_false, reduceCtorEq, decide_true, decide_false, Nat.reduceLeDiff, and_self, and_true, true_and, some_is, lt01, symL, Tryz.f13, hall, nullJ]
  | true =>
    rw [hb] at hall
    have hh := h hb
    have e1 : okJ true w = w := rfl
    have e2 : okE true e = e := rfl
    simp only [symS, symO, symC, symP, symB, symR, symF, symM, symN, if_true, if_false, Nat.reduceEqDiff, Nat.reduceBEq, Nat.reduceAdd, Bool.false_eq_true, Bool.true_eq_false, reduceCtorEq, decide_true, decide_false, Nat.reduceLeDiff, and_self, and_true, true_and, some_is, lt01, symL, Tryz.f13, hall, hh, e1, e2]

/-- A slice step out of its bounds. -/
def mkSl (a b : JV) : JV := .mk 6 0 .empty slKeys [b, a]
theorem encS_two (h : AHeap) (a b : ByteArray) : purS 22 h 0 2 (some ⟨false, 1, rowS [a, b]⟩) = some (encS [a, b]) := purS_S22 h [a, b]

set_option maxRecDepth 100000 in
theorem sstep_run (a b : JV) (ha : totJ a ≤ 1000) (hb : totJ b ≤ 1000) : callF E0 11 [encJ a, encJ b] = some (
    if vldA [a, b] = true then (if (bndJ a && bndJ b) = true then [.p (encJ (mkSl a b)), .p (.v (.int .i64 0))] else [.p (encJ nullJ), .p (.v (.int .i64 12))]) else [.p (encJ nullJ), .p (.v (.int .i64 1))]) := by
  rw [callF_fn bd_SStep ok_SStep]
  have hall := valid7_run [a, b] (by simp) (by intro e he; simp at he; rcases he with rfl | rfl <;> assumption)
  have r1 := boundR_run a
  have r2 := boundR_run b
  cases hv : vldA [a, b] with
  | false =>
    rw [hv] at hall
    simp only [symS, symO, symC, symP, symB, symR, symF, symM, symN, if_true, if_false, Nat.reduceEqDiff, Nat.reduceBEq, Nat.reduceAdd, Bool.false_eq_true, Bool.true_eq_false, reduceCtorEq, decide_true, decide_false, Nat.reduceLeDiff, and_self, and_true, true_and, some_is, lt01, symL, Tryz.f11, hall, nullJ]
  | true =>
    rw [hv] at hall
    cases h1 : bndJ a with
    | false =>
      rw [h1] at r1
      simp only [symS, symO, symC, symP, symB, symR, symF, symM, symN, if_true, if_false, Nat.reduceEqDiff, Nat.reduceBEq, Nat.reduceAdd, Bool.false_eq_true, Bool.true_eq_false, reduceCtorEq, decide_true, decide_false, Nat.reduceLeDiff, and_self, and_true, true_and, some_is, lt01, symL, Tryz.f11, hall, r1, nullJ, Bool.false_and]
    | true =>
      rw [h1] at r1
      cases h2 : bndJ b with
      | false =>
        rw [h2] at r2
        simp only [symS, symO, symC, symP, symB, symR, symF, symM, symN, if_true, if_false, Nat.reduceEqDiff, Nat.reduceBEq, Nat.reduceAdd, Bool.false_eq_true, Bool.true_eq_false, reduceCtorEq, decide_true, decide_false, Nat.reduceLeDiff, and_self, and_true, true_and, some_is, lt01, symL, Tryz.f11, hall, r1, r2, nullJ, Bool.and_false]
      | true =>
        rw [h2] at r2
        simp only [symS, symO, symC, symP, symB, symR, symF, symM, symN, if_true, if_false, Nat.reduceEqDiff, Nat.reduceBEq, Nat.reduceAdd, Bool.false_eq_true, Bool.true_eq_false, reduceCtorEq, decide_true, decide_false, Nat.reduceLeDiff, and_self, and_true, true_and, some_is, lt01, symL, Tryz.f11, hall, r1, r2, mkSl, slKeys]

end Go.Abs
