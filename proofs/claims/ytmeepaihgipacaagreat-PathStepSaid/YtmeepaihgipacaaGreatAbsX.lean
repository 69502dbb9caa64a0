/-
The program in sight, part X: how great a value is.
-/
import Derived.Test.YtmeepaihgipacaaGreatAbsW
set_option linter.unusedVariables false
set_option linter.unusedSimpArgs false
namespace Go.Abs
open Go.Proofs

theorem bd_Count : Tryz.prog.funcs[30]? = some Tryz.f30 := by kernel_rfl
theorem ok_Count : fnOk Tryz.f30 = true := by kernel_rfl
theorem bd_Small : Tryz.prog.funcs[9]? = some Tryz.f9 := by kernel_rfl
theorem ok_Small : fnOk Tryz.f9 = true := by kernel_rfl

def keysN : List ByteArray → Nat
  | [] => 0
  | k :: r => 1 + k.size + keysN r
mutual
/-- The number of values in a value, its strings and bytes. -/
def totJ : JV → Nat
  | .mk _ _ s ks es => 1 + s.size + keysN ks + totL es
def totL : List JV → Nat
  | [] => 0
  | v :: r => totJ v + totL r
end
theorem totJ_eq (v : JV) : totJ v = 1 + v.str.size + keysN v.keys + totL v.elems := by cases v; rfl

set_option maxRecDepth 100000 in
theorem count_keys (v : JV) (hv : v.Ok) (most : Int) (hm0 : 0 ≤ most) (hm : most ≤ 100) : ∀ (k i : Nat) (c : Int) (env : Nat → AV) (h : AHeap) (n : Nat) (R : Option (Ex × St)), execF E0 (loopN Tryz.f30 0) ⟨env, h, n⟩ = R → v.keys.length - i = k → i ≤ v.keys.length →
    1 ≤ c → c ≤ most + 1152921504606846977 → h 0 = some ⟨true, 5, [cellsJ v]⟩ → env 1 = .v (.int .i64 most) → env 2 = .ptr 0 0 0 → env 5 = .v (.int .i64 c) → env 6 = .v (.int .i64 i) →
    ∃ env' c', R = some (.exit 0, ⟨env', h, n⟩) ∧ env' 1 = .v (.int .i64 most) ∧ env' 2 = .ptr 0 0 0 ∧ env' 5 = .v (.int .i64 c') ∧ 1 ≤ c' ∧ c' ≤ most + 1152921504606846977 ∧ (c' ≤ most → c' = c + keysN (v.keys.drop i)) := by
  intro k
  induction k with
  | zero =>
    intro i c env h n R hR hk hi hc0 hc hh h1 h2 h5 h6
    have hil : ¬ ((i : Int) < v.keys.length) := by omega
    simp only [loopN, Tryz.f30, loopsOf, List.append_nil, List.nil_append, List.cons_append, List.getD_cons_zero, execF_loop, symS, symO, symC, symP, if_true, if_false, Nat.reduceEqDiff, Nat.reduceAdd, Nat.reduceBEq, Bool.false_eq_true, hh, h1, h2, h5, h6, decide_eq_true_eq, hil, decide_false, reduceCtorEq] at hR
    refine ⟨_, c, hR.symm, ?_, ?_, ?_, hc0, hc, fun _ => ?_⟩
    · simp only [fset_app, Nat.reduceEqDiff, if_false, h1]
    · simp only [fset_app, Nat.reduceEqDiff, if_false, h2]
    · simp only [fset_app, Nat.reduceEqDiff, if_false, h5]
    · rw [List.drop_eq_nil_of_le (by omega)]; simp [keysN]
  | succ k ih =>
    intro i c env h n R hR hk hi hc0 hc hh h1 h2 h5 h6
    have hil : ((i : Int) < v.keys.length) := by omega
    have hi0 : (0 : Int) ≤ i := by omega
    simp only [loopN, Tryz.f30, loopsOf, List.append_nil, List.nil_append, List.cons_append, List.getD_cons_zero] at hR
    rw [execF_loop] at hR
    by_cases hcm : c ≤ most
    · have hbig := hv.keys
      have hw : IntKind.i64.wrap ((i : Int) + 1) = ((i + 1 : Nat) : Int) := by rw [wrap64 (by omega) (by omega)]; omega
      have hmem : v.keys.getD i .empty ∈ v.keys := by rw [List.getD_eq_getElem?_getD, List.getElem?_eq_getElem (by omega), Option.getD_some]; exact List.getElem_mem _
      have hs := hv.key _ hmem
      have hw2 : IntKind.i64.wrap (1 + ((v.keys.getD i .empty).size : Int)) = 1 + ((v.keys.getD i .empty).size : Int) := wrap64 (by omega) (by omega)
      have hw3 : IntKind.i64.wrap (c + (1 + ((v.keys.getD i .empty).size : Int))) = c + (1 + ((v.keys.getD i .empty).size : Int)) := wrap64 (by omega) (by omega)
      simp only [symS, symO, symC, symP, if_true, if_false, Nat.reduceEqDiff, Nat.reduceAdd, Nat.reduceBEq, Bool.false_eq_true, hh, h1, h2, h5, h6, decide_eq_true_eq, hil, hi0, and_self, decide_true, hcm, reduceCtorEq, Int.toNat_natCast, hw, hw2, hw3] at hR
      obtain ⟨env', c', rfl, g1, g2, g5, gc0, gc, ge⟩ := ih (i + 1) (c + (1 + ((v.keys.getD i .empty).size : Int))) _ _ _ _ hR (by omega) (by omega) (by omega) (by omega) hh (by simp only [fset_app, Nat.reduceEqDiff, if_false, h1]) (by simp only [fset_app, Nat.reduceEqDiff, if_false, h2]) (by simp only [fset_app, Nat.reduceEqDiff, if_false, if_true]) (by simp only [fset_app, if_true])
      refine ⟨env', c', rfl, g1, g2, g5, gc0, gc, fun hle => ?_⟩
      rw [ge hle, drop_getD v.keys i .empty (by omega), keysN]
      omega
    · simp only [symS, symO, symC, symP, if_true, if_false, Nat.reduceEqDiff, Nat.reduceAdd, Nat.reduceBEq, Bool.false_eq_true, hh, h1, h2, h5, h6, decide_eq_true_eq, hil, decide_true, hcm, decide_false, reduceCtorEq] at hR
      refine ⟨_, c, hR.symm, ?_, ?_, ?_, hc0, hc, fun hle => absurd hle hcm⟩
      · simp only [fset_app, Nat.reduceEqDiff, if_false, h1]
      · simp only [fset_app, Nat.reduceEqDiff, if_false, h2]
      · simp only [fset_app, Nat.reduceEqDiff, if_false, h5]

/-- What Count answers. -/
def Counts (v : JV) : Prop := ∀ most : Int, 0 ≤ most → most ≤ 100 → ∃ c : Int, callF E0 30 [encJ v, .v (.int .i64 most)] = some [.p (.v (.int .i64 c))] ∧ 1 ≤ c ∧ c ≤ most + 1152921504606846977 ∧ (c ≤ most → c = totJ v)

set_option maxRecDepth 100000 in
theorem count_elems (v : JV) (hv : v.Ok) (hc : ∀ e ∈ v.elems, Counts e) (most : Int) (hm0 : 0 ≤ most) (hm : most ≤ 100) : ∀ (k i : Nat) (c : Int) (env : Nat → AV) (h : AHeap) (n : Nat) (R : Option (Ex × St)), execF E0 (loopN Tryz.f30 1) ⟨env, h, n⟩ = R → v.elems.length - i = k → i ≤ v.elems.length →
    1 ≤ c → c ≤ most + 1152921504606846977 → h 0 = some ⟨true, 5, [cellsJ v]⟩ → env 1 = .v (.int .i64 most) → env 2 = .ptr 0 0 0 → env 5 = .v (.int .i64 c) → env 7 = .v (.int .i64 i) →
    ∃ env' c', R = some (.exit 2, ⟨env', h, n⟩) ∧ env' 5 = .v (.int .i64 c') ∧ 1 ≤ c' ∧ c' ≤ most + 1152921504606846977 ∧ (c' ≤ most → c' = c + totL (v.elems.drop i)) := by
  intro k
  induction k with
  | zero =>
    intro i c env h n R hR hk hi hc0 hc hh h1 h2 h5 h7
    have hil : ¬ ((i : Int) < v.elems.length) := by omega
    simp only [loopN, Tryz.f30, loopsOf, List.append_nil, List.nil_append, List.cons_append, List.getD_cons_zero, List.getD_cons_succ, execF_loop, symS, symO, symC, symP, if_true, if_false, Nat.reduceEqDiff, Nat.reduceAdd, Nat.reduceBEq, Bool.false_eq_true, hh, h1, h2, h5, h7, decide_eq_true_eq, hil, decide_false, reduceCtorEq] at hR
    refine ⟨_, c, hR.symm, ?_, hc0, hc, fun _ => ?_⟩
    · simp only [fset_app, Nat.reduceEqDiff, if_false, h5]
    · rw [List.drop_eq_nil_of_le (by omega)]; simp [totL]
  | succ k ih =>
    intro i c env h n R hR hk hi hc0 hcb hh h1 h2 h5 h7
    have hil : ((i : Int) < v.elems.length) := by omega
    have hi0 : (0 : Int) ≤ i := by omega
    simp only [loopN, Tryz.f30, loopsOf, List.append_nil, List.nil_append, List.cons_append, List.getD_cons_zero, List.getD_cons_succ] at hR
    rw [execF_loop] at hR
    by_cases hcm : c ≤ most
    · have hbig := hv.elems
      have hw : IntKind.i64.wrap ((i : Int) + 1) = ((i + 1 : Nat) : Int) := by rw [wrap64 (by omega) (by omega)]; omega
      have hmem : v.elems.getD i default ∈ v.elems := by rw [List.getD_eq_getElem?_getD, List.getElem?_eq_getElem (by omega), Option.getD_some]; exact List.getElem_mem _
      obtain ⟨r, hr, hr1, hr2, hr3⟩ := hc _ hmem (most - c) (by omega) (by omega)
      have hw2 : IntKind.i64.wrap (most - c) = most - c := wrap64 (by omega) (by omega)
      have hw3 : IntKind.i64.wrap (c + r) = c + r := wrap64 (by omega) (by omega)
      simp only [symS, symO, symC, symP, if_true, if_false, Nat.reduceEqDiff, Nat.reduceAdd, Nat.reduceBEq, Bool.false_eq_true, hh, h1, h2, h5, h7, decide_eq_true_eq, hil, hi0, and_self, decide_true, hcm, reduceCtorEq, Int.toNat_natCast, hw, hw2, hw3, hr] at hR
      obtain ⟨env', c', rfl, g5, gc0, gc, ge⟩ := ih (i + 1) (c + r) _ _ _ _ hR (by omega) (by omega) (by omega) (by omega) hh (by simp only [fset_app, Nat.reduceEqDiff, if_false, h1]) (by simp only [fset_app, Nat.reduceEqDiff, if_false, h2]) (by simp only [fset_app, Nat.reduceEqDiff, if_false, if_true]) (by simp only [fset_app, if_true])
      refine ⟨env', c', rfl, g5, gc0, gc, fun hle => ?_⟩
      have h9 := ge hle
      have h10 := hr3 (by omega)
      rw [h9, drop_getD v.elems i default (by omega), totL]
      omega
    · simp only [symS, symO, symC, symP, if_true, if_false, Nat.reduceEqDiff, Nat.reduceAdd, Nat.reduceBEq, Bool.false_eq_true, hh, h1, h2, h5, h7, decide_eq_true_eq, hil, decide_true, hcm, decide_false, reduceCtorEq] at hR
      refine ⟨_, c, hR.symm, ?_, hc0, hcb, fun hle => absurd hle hcm⟩
      simp only [fset_app, Nat.reduceEqDiff, if_false, h5]

set_option maxRecDepth 100000 in
theorem count_run (v : JV) (hv : v.Ok) : Counts v := by
  have key : ∀ v : JV, v.Ok → (∀ e ∈ v.elems, Counts e) → Counts v := by
    intro v hv ih most hm0 hm
    have hs := hv.str
    have hw : IntKind.i64.wrap (1 + (v.str.size : Int)) = 1 + (v.str.size : Int) := wrap64 (by omega) (by omega)
    rw [callF_fn bd_Count ok_Count]
    simp only [Tryz.f30, symS, symO, symC, symP, if_true, if_false, Nat.reduceEqDiff, Nat.reduceAdd, Nat.reduceBEq, Bool.false_eq_true, reduceCtorEq, hw]
    generalize hR : execF E0 (Code.loop _) _ = R
    obtain ⟨env1, c1, rfl, g1, g2, g5, gc0, gc, ge⟩ := count_keys v hv most hm0 hm _ 0 (1 + (v.str.size : Int)) _ _ _ _ hR rfl (Nat.zero_le _) (by omega) (by omega) rfl rfl rfl rfl rfl
    simp only [symS, symO, symC, symP, if_true, if_false, Nat.reduceEqDiff, Nat.reduceAdd, Nat.reduceBEq, Bool.false_eq_true, reduceCtorEq]
    generalize hR2 : execF E0 (Code.loop _) _ = R2
    obtain ⟨env2, c2, rfl, k5, kc0, kc, ke⟩ := count_elems v hv ih most hm0 hm _ 0 c1 _ _ _ _ hR2 rfl (Nat.zero_le _) gc0 gc rfl (by simp only [fset_app, Nat.reduceEqDiff, if_false, g1]) (by simp only [fset_app, Nat.reduceEqDiff, if_false, g2]) (by simp only [fset_app, Nat.reduceEqDiff, if_false, g5]) rfl
    simp only [symS, symO, symC, symP, if_true, if_false, Nat.reduceEqDiff, Nat.reduceAdd, Nat.reduceBEq, Bool.false_eq_true, reduceCtorEq, k5]
    refine ⟨c2, rfl, kc0, kc, fun hle => ?_⟩
    have h1 := ke hle
    rw [List.drop_zero] at h1 ge
    have h2 := ge (by omega)
    rw [totJ_eq]
    omega
  induction hv with
  | mk k n s ks es hs hk hks hl he hr ih => exact key _ (.mk k n s ks es hs hk hks hl he hr) ih

set_option maxRecDepth 100000 in
theorem small_loop (l : List JV) (hbig : l.length < 1152921504606846976) (hc : ∀ e ∈ l, Counts e) (most : Int) (hm0 : 0 ≤ most) (hm : most ≤ 100) : ∀ (k i : Nat) (env : Nat → AV) (h : AHeap) (n : Nat) (R : Option (Ex × St)), execF E0 (loopN Tryz.f9 0) ⟨env, h, n⟩ = R → l.length - i = k → i ≤ l.length →
    env 0 = .v (.int .i64 most) → env 1 = encL l → env 5 = .v (.int .i64 i) →
    ∃ x env', R = some (x, ⟨env', h, n⟩) ∧ ((x = .ret ∧ env' 4 = .v (.bool false)) ∨ (x = .exit 0 ∧ ∀ e ∈ l.drop i, (totJ e : Int) ≤ most)) := by
  intro k
  induction k with
  | zero =>
    intro i env h n R hR hk hi h0 h1 h5
    have hil : ¬ ((i : Int) < l.length) := by omega
    simp only [loopN, Tryz.f9, loopsOf, List.append_nil, List.nil_append, List.getD_cons_zero, execF_loop, symS, symO, symC, symP, if_true, if_false, Nat.reduceEqDiff, Nat.reduceBEq, Bool.false_eq_true, h0, h1, h5, decide_eq_true_eq, hil] at hR
    exact ⟨_, _, hR.symm, .inr ⟨rfl, fun e he => by rw [List.drop_eq_nil_of_le (by omega)] at he; cases he⟩⟩
  | succ k ih =>
    intro i env h n R hR hk hi h0 h1 h5
    have hil : ((i : Int) < l.length) := by omega
    have hi0 : (0 : Int) ≤ i := by omega
    have hw : IntKind.i64.wrap ((i : Int) + 1) = ((i + 1 : Nat) : Int) := by rw [wrap64 (by omega) (by omega)]; omega
    have hmem : l.getD i default ∈ l := by rw [List.getD_eq_getElem?_getD, List.getElem?_eq_getElem (by omega), Option.getD_some]; exact List.getElem_mem _
    obtain ⟨r, hr, hr1, hr2, hr3⟩ := hc _ hmem most hm0 hm
    simp only [loopN, Tryz.f9, loopsOf, List.append_nil, List.nil_append, List.getD_cons_zero] at hR
    rw [execF_loop] at hR
    by_cases hrm : most < r
    · simp only [symS, symO, symC, symP, if_true, if_false, Nat.reduceEqDiff, Nat.reduceBEq, Bool.false_eq_true, h0, h1, h5, decide_eq_true_eq, hil, hi0, and_self, Int.toNat_natCast, decide_true, hw, hr, hrm] at hR
      exact ⟨_, _, hR.symm, .inl ⟨rfl, by simp only [fset_app, if_true]⟩⟩
    · simp only [symS, symO, symC, symP, if_true, if_false, Nat.reduceEqDiff, Nat.reduceBEq, Bool.false_eq_true, h0, h1, h5, decide_eq_true_eq, hil, hi0, and_self, Int.toNat_natCast, decide_true, hw, hr, hrm, decide_false] at hR
      obtain ⟨x, env', rfl, hp⟩ := ih (i + 1) _ _ _ _ hR (by omega) (by omega) (by simp only [fset_app, Nat.reduceEqDiff, if_false, h0]) (by simp only [fset_app, Nat.reduceEqDiff, if_false, h1]) (by simp only [fset_app, if_true])
      refine ⟨x, env', rfl, ?_⟩
      rcases hp with hp | ⟨hp1, hp2⟩
      · exact .inl hp
      · refine .inr ⟨hp1, fun e he => ?_⟩
        rw [drop_getD l i default (by omega)] at he
        rcases List.mem_cons.1 he with rfl | he
        · have := hr3 (by omega)
          omega
        · exact hp2 e he

set_option maxRecDepth 100000 in
theorem small_run (l : List JV) (hbig : l.length < 1152921504606846976) (hok : ∀ e ∈ l, e.Ok) (most : Int) (hm0 : 0 ≤ most) (hm : most ≤ 100) : ∃ b : Bool, callF E0 9 [.v (.int .i64 most), encL l] = some [.p (.v (.bool b))] ∧ (b = true → ∀ e ∈ l, (totJ e : Int) ≤ most) := by
  rw [callF_fn bd_Small ok_Small]
  simp only [Tryz.f9, symS, symO, symC, symP, if_true, if_false, Nat.reduceEqDiff, Nat.reduceBEq, Bool.false_eq_true]
  generalize hR : execF E0 (Code.loop _) _ = R
  obtain ⟨x, env', rfl, hp⟩ := small_loop l hbig (fun e he => count_run e (hok e he)) most hm0 hm _ 0 _ _ _ _ hR rfl (Nat.zero_le _) rfl rfl rfl
  rcases hp with ⟨rfl, hp⟩ | ⟨rfl, hp⟩
  · refine ⟨false, ?_, fun h => by cases h⟩
    simp only [symS, symO, symC, symP, if_true, if_false, Nat.reduceEqDiff, hp]
  · refine ⟨true, ?_, fun _ => hp⟩
    simp only [symS, symO, symC, symP, if_true, if_false, Nat.reduceEqDiff]

end Go.Abs
