/-
The program in sight: path.SliceStep.
-/
import Derived.Test.YtmeepaihgipacaaGreatAbsGetL
set_option linter.unusedVariables false
set_option linter.unusedSimpArgs false
namespace Go.Abs
open Go.Proofs

theorem bd_OSSt : Tryz.prog.funcs[54]? = some Tryz.f54 := by kernel_rfl
theorem ok_OSSt : fnOk Tryz.f54 = true := by kernel_rfl
theorem bd_PSSt1 : Tryz.prog.funcs[53]? = some Tryz.f53 := by kernel_rfl
theorem ok_PSSt1 : fnOk Tryz.f53 = true := by kernel_rfl
theorem bd_PSSt : Tryz.prog.funcs[29]? = some Tryz.f29 := by kernel_rfl
theorem ok_PSSt : fnOk Tryz.f29 = true := by kernel_rfl

set_option maxRecDepth 1000000 in
theorem obj_x (k1 n1 k2 n2 : Int) : callP EO (aexec EO 100) 88 [.psl 1 [[.v (.string ⟨#[115, 116, 97, 114, 116]⟩)], [.v (.string ⟨#[101, 110, 100]⟩)]], .psl 5 [[.v (.int .i64 k1), .v (.int .i64 n1), .v (.string .empty), .psl 0 [], .psl 0 []], [.v (.int .i64 k2), .v (.int .i64 n2), .v (.string .empty), .psl 0 [], .psl 0 []]]] =
    some [.p (.agg [.v (.int .i64 6), .v (.int .i64 0), .v (.string .empty), .psl 1 [[.v (.string ⟨#[101, 110, 100]⟩)], [.v (.string ⟨#[115, 116, 97, 114, 116]⟩)]], .psl 5 [[.v (.int .i64 k2), .v (.int .i64 n2), .v (.string .empty), .psl 0 [], .psl 0 []], [.v (.int .i64 k1), .v (.int .i64 n1), .v (.string .empty), .psl 0 [], .psl 0 []]]])] := by kernel_rfl

theorem obj_run (k1 n1 k2 n2 : Int) : runPrim EO 100 88 [.own 1 (rowS [⟨#[115, 116, 97, 114, 116]⟩, ⟨#[101, 110, 100]⟩]), .own 5 ([JV.mk k1 n1 .empty [] [], JV.mk k2 n2 .empty [] []].map cellsJ)] = some [.p (encJ (mkSl (.mk k1 n1 .empty [] []) (.mk k2 n2 .empty [] [])))] := obj_x k1 n1 k2 n2

theorem acallP_own2 {E : Env} {f : FuncId} {st : St} {b1 b2 s1 s2 : Nat} {e1 e2 e1' e2' : List (List AV)} {spec : List RC → Option (List RC)} (h1 : st.heap b1 = some ⟨true, s1, e1⟩) (h2 : st.heap b2 = some ⟨true, s2, e2⟩) (hb : b1 ≠ b2)
    (r1 : ∀ n h, rchB n h (some ⟨true, s1, e1⟩) = []) (r2 : ∀ n h, rchB n h (some ⟨true, s2, e2⟩) = []) (p1 : ∀ h, omap (omap (pur depth h)) e1 = some e1') (p2 : ∀ h, omap (omap (pur depth h)) e2 = some e2') :
    acallP E f [.sl b1 0 e1.length, .sl b2 0 e2.length] st (some spec) = (spec [.own s1 e1', .own s2 e2']).map (mapR st [(b1, none), (b2, none)]) := by
  have o1 : ownOf st.heap (.sl b1 0 e1.length) = some b1 := by simp [ownOf, h1]
  have o2 : ownOf st.heap (.sl b2 0 e2.length) = some b2 := by simp [ownOf, h2]
  have hown : [AV.sl b1 0 e1.length, AV.sl b2 0 e2.length].filterMap (ownOf st.heap) = [b1, b2] := by simp [o1, o2]
  have g1 : primReach st.heap (.sl b1 0 e1.length) = [] := by
    have := r1 depth st.heap
    unfold rchB at this
    simp only [primReach, o1, h1]
    exact this
  have g2 : primReach st.heap (.sl b2 0 e2.length) = [] := by
    have := r2 depth st.heap
    unfold rchB at this
    simp only [primReach, o2, h2]
    exact this
  have hfr : [AV.sl b1 0 e1.length, AV.sl b2 0 e2.length].flatMap (primReach st.heap) = [] := by simp [g1, g2]
  have hpa : primArgs st.heap [AV.sl b1 0 e1.length, AV.sl b2 0 e2.length] = some [.own s1 e1', .own s2 e2'] := by
    simp only [primArgs, o1, o2, h1, h2, p1, p2]
  have h5 : freezes st.heap [] = [] := rfl
  simp only [acallP, hown, hfr, h5, applyUpd_nil, hpa]
  simp [hb]

/-- A value that can be a bound. -/
theorem bnd_form {a : JV} (hv : vldJ 0 a = true) (hb : bndJ a = true) : a = .mk a.kind a.int .empty [] [] := by
  rw [vldJ_eq2] at hv
  simp only [Bool.and_eq_true] at hv
  have hf := hv.1.2
  unfold formJ at hf
  unfold bndJ at hb
  simp only [Bool.and_eq_true, Bool.or_eq_true, decide_eq_true_eq, beq_iff_eq] at hf hb
  obtain ⟨k, n, s, ks, es⟩ := a
  have e1 : s = ⟨#[]⟩ := by
    rcases hf.1.1.1.1.2 with h | h
    · change k = 4 at h
      change k = 0 ∨ k = 3 at hb
      omega
    · exact h
  have e2 : ks = [] := by
    rcases hf.1.1.1.2 with h | h
    · change k = 6 at h
      change k = 0 ∨ k = 3 at hb
      omega
    · change ks.isEmpty = true at h
      simpa using h
  have e3 : es = [] := by
    rcases hf.1.1.2 with h | h
    · change 5 ≤ k at h
      change k = 0 ∨ k = 3 at hb
      omega
    · change es.isEmpty = true at h
      simpa using h
  subst e1 e2 e3
  rfl

set_option maxRecDepth 100000 in
theorem osst_run (a b : JV) (ha : vldJ 0 a = true) (hb : vldJ 0 b = true) : callF E0 54 [encJ a, encJ b] = some (if (bndJ a && bndJ b) = true then [.p (encJ (mkSl a b)), .p (.v (.int .i64 0))] else [.p (encJ nullJ), .p (.v (.int .i64 12))]) := by
  rw [callF_fn bd_OSSt ok_OSSt]
  have r1 := boundO_run a
  have r2 := boundO_run b
  have hn := none_run
  cases h1 : bndJ a with
  | false =>
    rw [h1] at r1
    simp only [symS, symO, symC, symP, symB, symR, symF, symM, symN, if_true, if_false, Nat.reduceEqDiff, Nat.reduceBEq, Nat.reduceAdd, Bool.false_eq_true, Bool.true_eq_false, reduceCtorEq, decide_true, decide_false, Nat.reduceLeDiff, and_self, and_true, true_and, some_is, lt01, symL, Tryz.f54, r1, hn, Bool.false_and]
  | true =>
    rw [h1] at r1
    cases h2 : bndJ b with
    | false =>
      rw [h2] at r2
      simp only [symS, symO, symC, symP, symB, symR, symF, symM, symN, if_true, if_false, Nat.reduceEqDiff, Nat.reduceBEq, Nat.reduceAdd, Bool.false_eq_true, Bool.true_eq_false, reduceCtorEq, decide_true, decide_false, Nat.reduceLeDiff, and_self, and_true, true_and, some_is, lt01, symL, Tryz.f54, r1, r2, hn, Bool.and_false]
    | true =>
      rw [h2] at r2
      have hobj := obj_run a.kind a.int b.kind b.int
      rw [← bnd_form ha h1, ← bnd_form hb h2] at hobj
      have hca : ∀ st : St, st.heap 3 = some ⟨true, 1, rowS [⟨#[115, 116, 97, 114, 116]⟩, ⟨#[101, 110, 100]⟩]⟩ → st.heap 4 = some ⟨true, 5, [a, b].map cellsJ⟩ →
          acallP E0 88 [.sl 3 0 2, .sl 4 0 2] st (some (runPrim EO 100 88)) = (runPrim EO 100 88 [.own 1 (rowS [⟨#[115, 116, 97, 114, 116]⟩, ⟨#[101, 110, 100]⟩]), .own 5 ([a, b].map cellsJ)]).map (mapR st [(3, none), (4, none)]) := fun st g1 g2 =>
        acallP_own2 g1 g2 (by decide) (fun n h => rchB_S n h _ _ _) (fun n h => rchB_V n h _ _) (fun h => purS_rows 23 h _) (fun h => purJ_rows 23 h _)
      simp only [symS, symO, symC, symP, symB, symR, symF, symM, symN, if_true, if_false, Nat.reduceEqDiff, Nat.reduceBEq, Nat.reduceAdd, Bool.false_eq_true, Bool.true_eq_false, reduceCtorEq, decide_true, decide_false, Nat.reduceLeDiff, and_self, and_true, true_and, some_is, lt01, symL, Tryz.f54, r1, r2, hca, hobj]

theorem fz_SSt1 : E0.frz 53 = true := rfl
set_option maxRecDepth 100000 in
theorem psst1_run (a b w : JV) (e : Int) (h : callF E0 54 [encJ a, encJ b] = some [.p (encJ w), .p (.v (.int .i64 e))]) : callF E0 53 [.pptr (cellsJ a), .pptr (cellsJ b)] = some [.p (encJ w), .p (.v (.int .i64 e))] := by
  rw [callF_fn bd_PSSt1 ok_PSSt1]
  simp only [symS, symO, symC, symP, symB, symR, symF, symM, symN, if_true, if_false, Nat.reduceEqDiff, Nat.reduceBEq, Nat.reduceAdd, Bool.false_eq_true, Bool.true_eq_false, reduceCtorEq, decide_true, decide_false, Nat.reduceLeDiff, and_self, and_true, true_and, some_is, lt01, symL, Tryz.f53, h]

/-- What SliceStep answers. -/
def sstJ (a b : JV) : JV × Int := if vldA [a, b] = true then (if (bndJ a && bndJ b) = true then (mkSl a b, 0) else (nullJ, 12)) else (nullJ, 1)

theorem mkSl_tot (a b : JV) (ha : totJ a ≤ 1000) (hb : totJ b ≤ 1000) : totJ (mkSl a b) ≤ 3000 := by
  unfold mkSl
  rw [totJ_mk, slKeys_N]
  simp only [totL, ByteArray.size_empty]
  omega
theorem mkSl_ok (a b : JV) (ha : a.Ok) (hb : b.Ok) : (mkSl a b).Ok :=
  .mk 6 0 .empty slKeys [b, a] (by decide) (by decide) (by decide) (by simp) (by intro e he; simp at he; rcases he with rfl | rfl <;> assumption) (by decide)
theorem sstJ_ok (a b : JV) (ha : a.Ok) (hb : b.Ok) : (sstJ a b).1.Ok := by
  unfold sstJ
  split
  · split
    · exact mkSl_ok a b ha hb
    · exact nullJ_ok
  · exact nullJ_ok

set_option maxRecDepth 100000 in
theorem psst_run (a b : JV) (ha : totJ a ≤ 1000) (hb : totJ b ≤ 1000) : callF E0 29 [encJ a, encJ b] = some [.p (encJ (sstJ a b).1), .p (.v (.int .i64 (sstJ a b).2))] := by
  rw [callF_fn bd_PSSt ok_PSSt]
  have hall := all_run [a, b] (by simp) (by intro e he; simp at he; rcases he with rfl | rfl <;> assumption)
  cases hv : vldA [a, b] with
  | false =>
    rw [hv] at hall
    have hap := apply_bad 53 [.pptr (cellsJ a), .pptr (cellsJ b)] [a, b] hall
    have e1 : sstJ a b = (nullJ, 1) := by unfold sstJ; rw [hv]; rfl
    simp only [symS, symO, symC, symP, symB, symR, symF, symM, symN, if_true, if_false, Nat.reduceEqDiff, Nat.reduceBEq, Nat.reduceAdd, Bool.false_eq_true, Bool.true_eq_false, reduceCtorEq, decide_true, decide_false, Nat.reduceLeDiff, and_self, and_true, true_and, some_is, lt01, symL, Tryz.f29, fz_SSt1, hap, e1]
  | true =>
    rw [hv] at hall
    obtain ⟨hv1, hv2⟩ := vldA_two hv
    have hst := osst_run a b hv1 hv2
    cases hbb : (bndJ a && bndJ b) with
    | true =>
      rw [hbb] at hst
      simp only [if_true] at hst
      have e1 : sstJ a b = (mkSl a b, 0) := by unfold sstJ; rw [hv, hbb]; rfl
      have hap := apply_two 53 (cellsJ a) (cellsJ b) [a, b] _ _ hall (psst1_run a b _ _ hst) (by have := mkSl_tot a b ha hb; omega) rfl rfl
      simp only [symS, symO, symC, symP, symB, symR, symF, symM, symN, if_true, if_false, Nat.reduceEqDiff, Nat.reduceBEq, Nat.reduceAdd, Bool.false_eq_true, Bool.true_eq_false, reduceCtorEq, decide_true, decide_false, Nat.reduceLeDiff, and_self, and_true, true_and, some_is, lt01, symL, Tryz.f29, fz_SSt1, hap, e1]
    | false =>
      rw [hbb] at hst
      simp only [Bool.false_eq_true, if_false] at hst
      have e1 : sstJ a b = (nullJ, 12) := by unfold sstJ; rw [hv, hbb]; rfl
      have hap := apply_two 53 (cellsJ a) (cellsJ b) [a, b] _ _ hall (psst1_run a b _ _ hst) (by decide) rfl rfl
      simp only [symS, symO, symC, symP, symB, symR, symF, symM, symN, if_true, if_false, Nat.reduceEqDiff, Nat.reduceBEq, Nat.reduceAdd, Bool.false_eq_true, Bool.true_eq_false, reduceCtorEq, decide_true, decide_false, Nat.reduceLeDiff, and_self, and_true, true_and, some_is, lt01, symL, Tryz.f29, fz_SSt1, hap, e1]

theorem sstep2_run (a b : JV) (ha : totJ a ≤ 1000) (hb : totJ b ≤ 1000) : callF E0 11 [encJ a, encJ b] = some [.p (encJ (sstJ a b).1), .p (.v (.int .i64 (sstJ a b).2))] := by
  rw [sstep_run a b ha hb]
  unfold sstJ
  split
  · split <;> rfl
  · rfl

end Go.Abs
