/-
The program in sight: bounds of slices.
-/
import Derived.Test.YtmeepaihgipacaaGreatAbsUtf
import Derived.Test.YtmeepaihgipacaaGreatAbsLast
set_option linter.unusedVariables false
set_option linter.unusedSimpArgs false
namespace Go.Abs
open Go.Proofs

theorem bd_boundR : Tryz.prog.funcs[33]? = some Tryz.f33 := by kernel_rfl
theorem ok_boundR : fnOk Tryz.f33 = true := by kernel_rfl
theorem bd_boundO : Tryz.prog.funcs[87]? = some Tryz.f87 := by kernel_rfl
theorem ok_boundO : fnOk Tryz.f87 = true := by kernel_rfl

/-- What can be a bound. -/
def bndJ (v : JV) : Bool := v.kind == 0 || v.kind == 3

set_option maxRecDepth 100000 in
theorem boundR_run (v : JV) : callF E0 33 [encJ v] = some [.p (.v (.bool (bndJ v)))] := by
  rw [callF_fn bd_boundR ok_boundR]
  cases h0 : (v.kind == 0) with
  | true =>
    simp only [Tryz.f33, symS, symO, symC, symP, symB, symR, if_true, if_false, Nat.reduceEqDiff, Nat.reduceBEq, Nat.reduceAdd, Bool.false_eq_true, Bool.true_eq_false, reduceCtorEq, decide_true, decide_false, h0, bndJ, Bool.true_or]
  | false =>
    simp only [Tryz.f33, symS, symO, symC, symP, symB, symR, if_true, if_false, Nat.reduceEqDiff, Nat.reduceBEq, Nat.reduceAdd, Bool.false_eq_true, Bool.true_eq_false, reduceCtorEq, decide_true, decide_false, h0, bndJ, Bool.false_or]

set_option maxRecDepth 100000 in
theorem boundO_run (v : JV) : callF E0 87 [encJ v] = some [.p (.v (.bool (bndJ v)))] := by
  rw [callF_fn bd_boundO ok_boundO]
  cases h0 : (v.kind == 0) with
  | true =>
    simp only [Tryz.f87, symS, symO, symC, symP, symB, symR, if_true, if_false, Nat.reduceEqDiff, Nat.reduceBEq, Nat.reduceAdd, Bool.false_eq_true, Bool.true_eq_false, reduceCtorEq, decide_true, decide_false, h0, bndJ, Bool.true_or]
  | false =>
    simp only [Tryz.f87, symS, symO, symC, symP, symB, symR, if_true, if_false, Nat.reduceEqDiff, Nat.reduceBEq, Nat.reduceAdd, Bool.false_eq_true, Bool.true_eq_false, reduceCtorEq, decide_true, decide_false, h0, bndJ, Bool.false_or]

/-- The greater and the lesser one. -/
def mmK (f : Int → Int → Int) (other : Option Out) : AV → AV → Option Out
  | .v (.int k a), .v (.int _ b) => some ⟨.v (.int k (f a b)), [], 0⟩
  | _, _ => other
def mmF (P : Program) (o : Oper) (st : St) : Option Out := aop P o st
theorem mmK_int (f other k k' a b) : mmK f other (.v (.int k a)) (.v (.int k' b)) = some ⟨.v (.int k (f a b)), [], 0⟩ := rfl
def maxI (a b : Int) : Int := if a < b then b else a
def minI (a b : Int) : Int := if b < a then b else a
theorem aop_max (P d x y ats ty pos af g st) : aop P ⟨d, .call { callee := .builtin .max, args := #[x, y], argTypes := ats }, ty, pos, af, g⟩ st = mmK maxI (mmF P ⟨d, .call { callee := .builtin .max, args := #[x, y], argTypes := ats }, ty, pos, af, g⟩ st) (aevalO st.env x) (aevalO st.env y) := by
  unfold mmK
  split
  · rename_i k a k' b hx hy
    have hops : (Op.call { callee := .builtin .max, args := #[x, y], argTypes := ats }).operands = #[x, y] := rfl
    simp only [aop, apure, hops]
    rw [if_pos (by simp [hx, hy, scal])]
    have e : execOp (fun z => (scal (aevalO st.env z)).getD undef) ⟨d, .call { callee := .builtin .max, args := #[x, y], argTypes := ats }, ty, pos, af, g⟩ = pure (Next.value (.int k (maxI a b))) := by
      simp [execOp, resolve, invoke, builtin, hx, hy, scal, Builtin.max_, Builtin.max2, maxI]
    rw [e, prun_pure]
    rfl
  · rfl
theorem aop_min (P d x y ats ty pos af g st) : aop P ⟨d, .call { callee := .builtin .min, args := #[x, y], argTypes := ats }, ty, pos, af, g⟩ st = mmK minI (mmF P ⟨d, .call { callee := .builtin .min, args := #[x, y], argTypes := ats }, ty, pos, af, g⟩ st) (aevalO st.env x) (aevalO st.env y) := by
  unfold mmK
  split
  · rename_i k a k' b hx hy
    have hops : (Op.call { callee := .builtin .min, args := #[x, y], argTypes := ats }).operands = #[x, y] := rfl
    simp only [aop, apure, hops]
    rw [if_pos (by simp [hx, hy, scal])]
    have e : execOp (fun z => (scal (aevalO st.env z)).getD undef) ⟨d, .call { callee := .builtin .min, args := #[x, y], argTypes := ats }, ty, pos, af, g⟩ = pure (Next.value (.int k (minI a b))) := by
      simp [execOp, resolve, invoke, builtin, hx, hy, scal, Builtin.min_, Builtin.min2, minI]
    rw [e, prun_pure]
    rfl
  · rfl

theorem bd_placeR : Tryz.prog.funcs[96]? = some Tryz.f96 := by kernel_rfl
theorem ok_placeR : fnOk Tryz.f96 = true := by kernel_rfl

/-- A bound of a slice of n elements. -/
def plcJ (v : JV) (n miss : Int) : Int := let k := if v.kind = 3 then v.int else miss
  minI (maxI (if k < 0 then k + n else k) 0) n

set_option maxRecDepth 100000 in
theorem placeR_run (v : JV) (n miss : Int) (hi : -9223372036854775808 ≤ v.int) (hn : 0 ≤ n) (hn2 : n ≤ 100000) (hmi : -9223372036854775808 ≤ miss) : callF E0 96 [encJ v, .v (.int .i64 n), .v (.int .i64 miss)] = some [.p (.v (.int .i64 (plcJ v n miss)))] := by
  rw [callF_fn bd_placeR ok_placeR]
  by_cases h3 : v.kind = 3
  · have hk : (v.kind == 3) = true := by rw [beq_iff_eq]; exact h3
    by_cases hneg : v.int < 0
    · have hw : IntKind.i64.wrap (v.int + n) = v.int + n := wrap64 (by omega) (by omega)
      simp only [Tryz.f96, symS, symO, symC, symP, symB, symR, if_true, if_false, Nat.reduceEqDiff, Nat.reduceBEq, Nat.reduceAdd, Bool.false_eq_true, Bool.true_eq_false, reduceCtorEq, decide_true, decide_false, hk, hneg, hw, aop_max, aop_min, mmK_int, plcJ, h3, beq_self_eq_true]
    · simp only [Tryz.f96, symS, symO, symC, symP, symB, symR, if_true, if_false, Nat.reduceEqDiff, Nat.reduceBEq, Nat.reduceAdd, Bool.false_eq_true, Bool.true_eq_false, reduceCtorEq, decide_true, decide_false, hk, hneg, aop_max, aop_min, mmK_int, plcJ, h3, beq_self_eq_true]
  · have hk : (v.kind == 3) = false := by rw [beq_eq_false_iff_ne]; exact h3
    by_cases hneg : miss < 0
    · have hw : IntKind.i64.wrap (miss + n) = miss + n := wrap64 (by omega) (by omega)
      simp only [Tryz.f96, symS, symO, symC, symP, symB, symR, if_true, if_false, Nat.reduceEqDiff, Nat.reduceBEq, Nat.reduceAdd, Bool.false_eq_true, Bool.true_eq_false, reduceCtorEq, decide_true, decide_false, hk, hneg, hw, aop_max, aop_min, mmK_int, plcJ, h3, beq_self_eq_true]
    · simp only [Tryz.f96, symS, symO, symC, symP, symB, symR, if_true, if_false, Nat.reduceEqDiff, Nat.reduceBEq, Nat.reduceAdd, Bool.false_eq_true, Bool.true_eq_false, reduceCtorEq, decide_true, decide_false, hk, hneg, aop_max, aop_min, mmK_int, plcJ, h3, beq_self_eq_true]

theorem bd_BoundsR : Tryz.prog.funcs[61]? = some Tryz.f61 := by kernel_rfl
theorem ok_BoundsR : fnOk Tryz.f61 = true := by kernel_rfl

set_option maxRecDepth 100000 in
theorem boundsR_run (v : JV) (n : Int) (hl : v.elems.length = 2) (hi0 : -9223372036854775808 ≤ (v.elems.getD 0 default).int) (hi1 : -9223372036854775808 ≤ (v.elems.getD 1 default).int) (hn : 0 ≤ n) (hn2 : n ≤ 100000) :
    callF E0 61 [encJ v, .v (.int .i64 n)] = some [.p (.v (.int .i64 (plcJ (v.elems.getD 1 default) n 0))), .p (.v (.int .i64 (plcJ (v.elems.getD 0 default) n n)))] := by
  rw [callF_fn bd_BoundsR ok_BoundsR]
  have p1 := placeR_run (v.elems.getD 1 default) n 0 hi1 hn hn2 (by omega)
  have p0 := placeR_run (v.elems.getD 0 default) n n hi0 hn hn2 (by omega)
  have z0 : ((0 : Int) ≤ 0 ∧ (0 : Int) < v.elems.length) := by omega
  have z1 : ((0 : Int) ≤ 1 ∧ (1 : Int) < v.elems.length) := by omega
  have n0 : (0 : Int).toNat = 0 := rfl
  have n1 : (1 : Int).toNat = 1 := rfl
  simp only [Tryz.f61, symS, symO, symC, symP, symB, symR, if_true, if_false, Nat.reduceEqDiff, Nat.reduceBEq, Nat.reduceAdd, Bool.false_eq_true, Bool.true_eq_false, reduceCtorEq, decide_true, decide_false, z0, z1, and_self, n0, n1, p0, p1]

theorem bd_IsSlice : Tryz.prog.funcs[58]? = some Tryz.f58 := by kernel_rfl
theorem ok_IsSlice : fnOk Tryz.f58 = true := by kernel_rfl

/-- A step that is a slice. -/
def isSl (v : JV) : Bool := v.kind == 6 && decide (v.keys.length = 2) && decide (v.keys.getD 0 .empty = ⟨#[101, 110, 100]⟩) && decide (v.keys.getD 1 .empty = ⟨#[115, 116, 97, 114, 116]⟩) && bndJ (v.elems.getD 0 default) && bndJ (v.elems.getD 1 default)

set_option maxRecDepth 100000 in
theorem isSliceR_run (v : JV) (hl : v.kind = 6 → v.keys.length = v.elems.length) : callF E0 58 [encJ v] = some [.p (.v (.bool (isSl v)))] := by
  rw [callF_fn bd_IsSlice ok_IsSlice]
  have n0 : (0 : Int).toNat = 0 := rfl
  have n1 : (1 : Int).toNat = 1 := rfl
  by_cases h6 : v.kind = 6
  · have k6 : (v.kind != 6) = false := by rw [bne_eq_false_iff_eq]; exact h6
    have k6' : (v.kind == 6) = true := by rw [beq_iff_eq]; exact h6
    by_cases h2 : v.keys.length = 2
    · have k2 : ((v.keys.length : Int) != 2) = false := by rw [bne_eq_false_iff_eq]; omega
      have he := hl h6
      have z0 : ((0 : Int) ≤ 0 ∧ (0 : Int) < v.keys.length) := by omega
      have z1 : ((0 : Int) ≤ 1 ∧ (1 : Int) < v.keys.length) := by omega
      have y0 : ((0 : Int) ≤ 0 ∧ (0 : Int) < v.elems.length) := by omega
      have y1 : ((0 : Int) ≤ 1 ∧ (1 : Int) < v.elems.length) := by omega
      have b0 := boundR_run (v.elems.getD 0 default)
      have b1 := boundR_run (v.elems.getD 1 default)
      cases g0 : decide (v.keys.getD 0 .empty = ⟨#[101, 110, 100]⟩) with
      | false =>
        have hf : isSl v = false := by simp only [isSl, g0, Bool.and_false, Bool.false_and]
        simp only [Tryz.f58, symS, symO, symC, symP, symB, symR, if_true, if_false, Nat.reduceEqDiff, Nat.reduceBEq, Nat.reduceAdd, Bool.false_eq_true, Bool.true_eq_false, reduceCtorEq, decide_true, decide_false, k6, k2, z0, z1, and_self, n0, n1, g0, hf]
      | true =>
        cases g1 : decide (v.keys.getD 1 .empty = ⟨#[115, 116, 97, 114, 116]⟩) with
        | false =>
          have hf : isSl v = false := by simp only [isSl, g1, Bool.and_false, Bool.false_and]
          simp only [Tryz.f58, symS, symO, symC, symP, symB, symR, if_true, if_false, Nat.reduceEqDiff, Nat.reduceBEq, Nat.reduceAdd, Bool.false_eq_true, Bool.true_eq_false, reduceCtorEq, decide_true, decide_false, k6, k2, z0, z1, and_self, n0, n1, g0, g1, hf]
        | true =>
          have hf : isSl v = (bndJ (v.elems.getD 0 default) && bndJ (v.elems.getD 1 default)) := by simp only [isSl, g0, g1, k6', h2, decide_true, Bool.and_true, Bool.true_and]
          cases gb : bndJ (v.elems.getD 0 default) with
          | false =>
            rw [gb] at b0 hf
            simp only [Tryz.f58, symS, symO, symC, symP, symB, symR, if_true, if_false, Nat.reduceEqDiff, Nat.reduceBEq, Nat.reduceAdd, Bool.false_eq_true, Bool.true_eq_false, reduceCtorEq, decide_true, decide_false, k6, k2, z0, z1, y0, y1, and_self, n0, n1, g0, g1, b0, hf, Bool.false_and]
          | true =>
            rw [gb] at b0 hf
            simp only [Tryz.f58, symS, symO, symC, symP, symB, symR, if_true, if_false, Nat.reduceEqDiff, Nat.reduceBEq, Nat.reduceAdd, Bool.false_eq_true, Bool.true_eq_false, reduceCtorEq, decide_true, decide_false, k6, k2, z0, z1, y0, y1, and_self, n0, n1, g0, g1, b0, b1, hf, Bool.true_and]
    · have k2 : ((v.keys.length : Int) != 2) = true := by rw [bne_iff_ne]; omega
      have hf : isSl v = false := by simp only [isSl, h2, decide_false, Bool.and_false, Bool.false_and]
      simp only [Tryz.f58, symS, symO, symC, symP, symB, symR, if_true, if_false, Nat.reduceEqDiff, Nat.reduceBEq, Nat.reduceAdd, Bool.false_eq_true, Bool.true_eq_false, reduceCtorEq, decide_true, decide_false, k6, k2, hf]
  · have k6 : (v.kind != 6) = true := by rw [bne_iff_ne]; exact h6
    have k6' : (v.kind == 6) = false := by rw [beq_eq_false_iff_ne]; exact h6
    have hf : isSl v = false := by simp only [isSl, k6', Bool.and_false, Bool.false_and]
    simp only [Tryz.f58, symS, symO, symC, symP, symB, symR, if_true, if_false, Nat.reduceEqDiff, Nat.reduceBEq, Nat.reduceAdd, Bool.false_eq_true, Bool.true_eq_false, reduceCtorEq, decide_true, decide_false, k6, hf]

theorem bd_index7 : Tryz.prog.funcs[60]? = some Tryz.f60 := by kernel_rfl
theorem ok_index7 : fnOk Tryz.f60 = true := by kernel_rfl
theorem bd_placeO : Tryz.prog.funcs[92]? = some Tryz.f92 := by kernel_rfl
theorem ok_placeO : fnOk Tryz.f92 = true := by kernel_rfl

/-- The place of an index in n elements; it may lie outside of them. -/
def atI (i n : Int) : Int := if i < 0 then i + n else i

set_option maxRecDepth 100000 in
theorem placeO_run (i n : Int) (hi : -9223372036854775808 ≤ i) (hn : 0 ≤ n) : callF E0 92 [.v (.int .i64 i), .v (.int .i64 n)] = some [.p (.v (.int .i64 (if i < 0 then IntKind.i64.wrap (i + n) else i)))] := by
  rw [callF_fn bd_placeO ok_placeO]
  by_cases h : i < 0
  · simp only [Tryz.f92, symS, symO, symC, symP, symB, symR, if_true, if_false, Nat.reduceEqDiff, Nat.reduceBEq, Nat.reduceAdd, Bool.false_eq_true, Bool.true_eq_false, reduceCtorEq, decide_true, decide_false, h]
  · simp only [Tryz.f92, symS, symO, symC, symP, symB, symR, if_true, if_false, Nat.reduceEqDiff, Nat.reduceBEq, Nat.reduceAdd, Bool.false_eq_true, Bool.true_eq_false, reduceCtorEq, decide_true, decide_false, h]

set_option maxRecDepth 100000 in
theorem index7_run (i n : Int) (hi : -9223372036854775808 ≤ i) (hn : 0 ≤ n) (hn2 : n ≤ 100000) : callF E0 60 [.v (.int .i64 i), .v (.int .i64 n)] = some [.p (.v (.int .i64 (if atI i n < 0 ∨ n ≤ atI i n then -1 else atI i n)))] := by
  rw [callF_fn bd_index7 ok_index7]
  by_cases h : i < 0
  · have hw : IntKind.i64.wrap (i + n) = i + n := wrap64 (by omega) (by omega)
    have ha : atI i n = i + n := by unfold atI; rw [if_pos h]
    by_cases h1 : i + n < 0
    · simp only [Tryz.f60, symS, symO, symC, symP, symB, symR, if_true, if_false, Nat.reduceEqDiff, Nat.reduceBEq, Nat.reduceAdd, Bool.false_eq_true, Bool.true_eq_false, reduceCtorEq, decide_true, decide_false, h, hw, h1, ha, true_or]
    · have h2 : ¬ n ≤ i + n := by omega
      simp only [Tryz.f60, symS, symO, symC, symP, symB, symR, if_true, if_false, Nat.reduceEqDiff, Nat.reduceBEq, Nat.reduceAdd, Bool.false_eq_true, Bool.true_eq_false, reduceCtorEq, decide_true, decide_false, h, hw, h1, h2, ha, or_self]
  · have ha : atI i n = i := by unfold atI; rw [if_neg h]
    by_cases h2 : n ≤ i
    · simp only [Tryz.f60, symS, symO, symC, symP, symB, symR, if_true, if_false, Nat.reduceEqDiff, Nat.reduceBEq, Nat.reduceAdd, Bool.false_eq_true, Bool.true_eq_false, reduceCtorEq, decide_true, decide_false, h, h2, ha, or_true]
    · simp only [Tryz.f60, symS, symO, symC, symP, symB, symR, if_true, if_false, Nat.reduceEqDiff, Nat.reduceBEq, Nat.reduceAdd, Bool.false_eq_true, Bool.true_eq_false, reduceCtorEq, decide_true, decide_false, h, h2, ha, or_self]

end Go.Abs
