/-
The program in sight: what is valid.
-/
import Derived.Test.YtmeepaihgipacaaGreatAbsForm
import Derived.Test.YtmeepaihgipacaaGreatAbsLast
set_option linter.unusedVariables false
set_option linter.unusedSimpArgs false
namespace Go.Abs
open Go.Proofs

theorem bd_fits : Tryz.prog.funcs[77]? = some Tryz.f77 := by kernel_rfl
theorem ok_fits : fnOk Tryz.f77 = true := by kernel_rfl
theorem fd_nodes : afield Tryz.prog 75 0 = some (0, 3) := by kernel_rfl
theorem fd_bytes : afield Tryz.prog 75 1 = some (1, 3) := by kernel_rfl
theorem ze_meter : azero Tryz.prog 75 = some [.v (.int .i64 0), .v (.int .i64 0)] := by kernel_rfl

mutual
/-- Whether a value that lies in n others is valid, but for its size. -/
def vldJ : Nat → JV → Bool
  | n, .mk k i s ks es => decide (0 ≤ k) && decide (k ≤ 6) && formJ (.mk k i s ks es) && (decide (k < 5) || (decide (n < 32) && vldL (n + 1) es))
def vldL : Nat → List JV → Bool
  | _, [] => true
  | n, v :: r => vldJ n v && vldL n r
end
theorem vldJ_eq (n : Nat) (v : JV) : vldJ n v = (decide (0 ≤ v.kind) && decide (v.kind ≤ 6) && formJ v && (decide (v.kind < 5) || (decide (n < 32) && vldL (n + 1) v.elems))) := by cases v; simp only [vldJ]; rfl

/-- The measure. -/
def meterB (nodes bytes : Nat) : Blk := ⟨true, 2, [[.v (.int .i64 nodes), .v (.int .i64 bytes)]]⟩

section
variable (nodes bytes : Nat) (n : Int)
theorem ldM0 (k : Nat) : loadB false k 0 0 (some (meterB nodes bytes)) = some ⟨.v (.int .i64 nodes), [], 0⟩ := rfl
theorem ldM1 (k : Nat) : loadB false k 0 1 (some (meterB nodes bytes)) = some ⟨.v (.int .i64 bytes), [], 0⟩ := rfl
theorem stM0 (b m : Nat) : storeB 1 b 0 0 (.v (.int .i64 (m : Int))) (some (meterB nodes bytes)) = some ⟨undefA, [(b, some (meterB m bytes))], 0⟩ := rfl
theorem stM1 (b m : Nat) : storeB 1 b 0 1 (.v (.int .i64 (m : Int))) (some (meterB nodes bytes)) = some ⟨undefA, [(b, some (meterB nodes m))], 0⟩ := rfl
end

/-- What fits answers. -/
def Fits (v : JV) : Prop := ∀ (b nodes bytes around : Nat) (h : AHeap) (nxt : Nat), b < nxt → h b = some (meterB nodes bytes) → nodes + totJ v ≤ 4096 → bytes + totJ v ≤ 65536 → around ≤ 100 → totJ v ≤ 1000 →
  ∃ (nodes' bytes' : Nat) (st' : St), body E0 (execF E0) 77 [.ptr b 0 0, encJ v, .v (.int .i64 around), .v (.bool true)] h nxt = some ([.v (.bool (vldJ around v))], st') ∧ st'.heap b = some (meterB nodes' bytes') ∧
    nodes' ≤ nodes + totJ v ∧ bytes' ≤ bytes + totJ v ∧ nxt ≤ st'.nxt ∧ ∀ c, c < nxt → c ≠ b → st'.heap c = h c

set_option maxRecDepth 100000 in
theorem fits_keys (v : JV) (b nodes : Nat) : ∀ (k i bytes : Nat) (env : Nat → AV) (h : AHeap) (n : Nat) (R : Option (Ex × St)), execF E0 (loopN Tryz.f77 0) ⟨env, h, n⟩ = R → v.keys.length - i = k → i ≤ v.keys.length → v.keys.length ≤ 65536 →
    bytes + keysN (v.keys.drop i) ≤ 65536 → h b = some (meterB nodes bytes) → env 0 = .ptr b 0 0 → env 63 = encS v.keys → env 64 = .v (.int .i64 v.keys.length) → env 65 = .v (.int .i64 i) →
    ∃ env' h' bytes', R = some (.exit 0, ⟨env', h', n⟩) ∧ h' b = some (meterB nodes bytes') ∧ bytes' ≤ bytes + keysN (v.keys.drop i) ∧ (∀ c, c ≠ b → h' c = h c) ∧ env' 0 = env 0 ∧ env' 2 = env 2 ∧ env' 3 = env 3 ∧ env' 5 = env 5 := by
  intro k
  induction k with
  | zero =>
    intro i bytes env h n R hR hk hi hkl hby hb h0 h63 h64 h65
    have hil : ¬ ((i : Int) < v.keys.length) := by omega
    simp only [loopN, Tryz.f77, loopsOf, List.append_nil, List.nil_append, List.cons_append, List.getD_cons_zero, execF_loop, symS, symO, symC, symP, symB, if_true, if_false, Nat.reduceEqDiff, Nat.reduceBEq, Bool.false_eq_true, Bool.true_eq_false, reduceCtorEq, decide_true, decide_false, h64, h65, hil] at hR
    refine ⟨_, _, bytes, hR.symm, hb, by omega, fun c _ => rfl, ?_⟩
    · simp only [fset_app, Nat.reduceEqDiff, if_false, and_self]
  | succ k ih =>
    intro i bytes env h n R hR hk hi hkl hby hb h0 h63 h64 h65
    have hil : ((i : Int) < v.keys.length) := by omega
    have hi0 : (0 : Int) ≤ i := by omega
    have hw : IntKind.i64.wrap ((i : Int) + 1) = ((i + 1 : Nat) : Int) := by rw [wrap64 (by omega) (by omega)]; omega
    have hdrop := drop_getD v.keys i .empty (by omega)
    rw [hdrop, keysN] at hby
    have hw2 : IntKind.i64.wrap ((bytes : Int) + ((v.keys.getD i .empty).size : Int)) = ((bytes + (v.keys.getD i .empty).size : Nat) : Int) := by rw [wrap64 (by omega) (by omega)]; omega
    simp only [loopN, Tryz.f77, loopsOf, List.append_nil, List.nil_append, List.cons_append, List.getD_cons_zero] at hR
    rw [execF_loop] at hR
    simp only [symS, symO, symC, symP, symB, if_true, if_false, Nat.reduceEqDiff, Nat.reduceBEq, Bool.false_eq_true, Bool.true_eq_false, reduceCtorEq, decide_true, decide_false, h0, h63, h64, h65, hil, hi0, and_self, Int.toNat_natCast, fd_bytes, hb, ldM1, hw, hw2, stM1] at hR
    obtain ⟨env', h', bytes', rfl, g1, g2, g3, g4, g5, g6, g7⟩ := ih (i + 1) (bytes + (v.keys.getD i .empty).size) _ _ _ _ hR (by omega) (by omega) hkl (by omega) (by simp only [fset_app, if_true]) (by simp only [fset_app, Nat.reduceEqDiff, if_false, h0]) (by simp only [fset_app, Nat.reduceEqDiff, if_false, h63]) (by simp only [fset_app, Nat.reduceEqDiff, if_false, h64]) (by simp only [fset_app, if_true])
    refine ⟨env', h', bytes', rfl, g1, ?_, fun c hc => ?_, ?_, ?_, ?_, ?_⟩
    · rw [hdrop, keysN]; omega
    · rw [g3 c hc, fset_ne _ _ _ _ hc]
    · rw [g4]; simp only [fset_app, Nat.reduceEqDiff, if_false]
    · rw [g5]; simp only [fset_app, Nat.reduceEqDiff, if_false]
    · rw [g6]; simp only [fset_app, Nat.reduceEqDiff, if_false]
    · rw [g7]; simp only [fset_app, Nat.reduceEqDiff, if_false]

def zeroB : Blk := ⟨true, 5, [[.v (.int .i64 0), .v (.int .i64 0), .v (.string .empty), .v (.slice none 0 0), .v (.slice none 0 0)]]⟩
theorem al_Val (n : Nat) : allocO n (azero Tryz.prog 25) = some ⟨.ptr n 0 0, [(n, some zeroB)], 1⟩ := by rw [ze_Val]; rfl
theorem st_Val (n : Nat) (v : JV) : storeB 5 n 0 0 (encJ v) (some zeroB) = some ⟨undefA, [(n, some ⟨true, 5, [cellsJ v]⟩)], 0⟩ := by
  unfold zeroB
  rw [storeB_some, if_pos ⟨rfl, by decide, rfl, by decide, encJ_flat v⟩, cellsJ_eq]
  rfl

set_option maxRecDepth 100000 in
theorem fits_elems (v : JV) (hf : ∀ e ∈ v.elems, Fits e) (ht : ∀ e ∈ v.elems, totJ e ≤ 1000) (b around : Nat) (har : around + 1 ≤ 100) : ∀ (k i nodes bytes : Nat) (env : Nat → AV) (h : AHeap) (n : Nat) (R : Option (Ex × St)), execF E0 (loopN Tryz.f77 1) ⟨env, h, n⟩ = R → v.elems.length - i = k → i ≤ v.elems.length → v.elems.length ≤ 4096 →
    nodes + totL (v.elems.drop i) ≤ 4096 → bytes + totL (v.elems.drop i) ≤ 65536 → b < n → h b = some (meterB nodes bytes) → env 0 = .ptr b 0 0 → env 2 = .v (.int .i64 around) → env 3 = .v (.bool true) → env 96 = encL v.elems → env 97 = .v (.int .i64 v.elems.length) → env 98 = .v (.int .i64 i) →
    ∃ x env' h' n' nodes' bytes', R = some (x, ⟨env', h', n'⟩) ∧ h' b = some (meterB nodes' bytes') ∧ nodes' ≤ nodes + totL (v.elems.drop i) ∧ bytes' ≤ bytes + totL (v.elems.drop i) ∧ n ≤ n' ∧ (∀ c, c < n → c ≠ b → h' c = h c) ∧
      ((x = .exit 2 ∧ vldL (around + 1) (v.elems.drop i) = true) ∨ (x = .ret ∧ env' 8 = .v (.bool false) ∧ vldL (around + 1) (v.elems.drop i) = false)) := by
  intro k
  induction k with
  | zero =>
    intro i nodes bytes env h n R hR hk hi hel hno hby hbn hb h0 h2 h3 h96 h97 h98
    have hil : ¬ ((i : Int) < v.elems.length) := by omega
    simp only [loopN, Tryz.f77, loopsOf, List.append_nil, List.nil_append, List.cons_append, List.getD_cons_zero, List.getD_cons_succ, execF_loop, symS, symO, symC, symP, symB, if_true, if_false, Nat.reduceEqDiff, Nat.reduceBEq, Bool.false_eq_true, Bool.true_eq_false, reduceCtorEq, decide_true, decide_false, h97, h98, hil] at hR
    exact ⟨_, _, _, _, nodes, bytes, hR.symm, hb, by omega, by omega, Nat.le_refl _, fun c _ _ => rfl, .inl ⟨rfl, by rw [List.drop_eq_nil_of_le (by omega)]; rfl⟩⟩
  | succ k ih =>
    intro i nodes bytes env h n R hR hk hi hel hno hby hbn hb h0 h2 h3 h96 h97 h98
    have hil : ((i : Int) < v.elems.length) := by omega
    have hi0 : (0 : Int) ≤ i := by omega
    have hw : IntKind.i64.wrap ((i : Int) + 1) = ((i + 1 : Nat) : Int) := by rw [wrap64 (by omega) (by omega)]; omega
    have hw2 : IntKind.i64.wrap ((around : Int) + 1) = ((around + 1 : Nat) : Int) := by rw [wrap64 (by omega) (by omega)]; omega
    have hdrop := drop_getD v.elems i default (by omega)
    rw [hdrop, totL] at hno hby
    have hmem : v.elems.getD i default ∈ v.elems := by rw [List.getD_eq_getElem?_getD, List.getElem?_eq_getElem (by omega), Option.getD_some]; exact List.getElem_mem _
    generalize hg : fset (fset h n (some zeroB)) n (some ⟨true, 5, [cellsJ (v.elems.getD i default)]⟩) = g at *
    have hgb : g b = some (meterB nodes bytes) := by rw [← hg, fset_ne _ _ _ _ (by omega), fset_ne _ _ _ _ (by omega)]; exact hb
    have hgn : g n = some ⟨true, 5, [cellsJ (v.elems.getD i default)]⟩ := by rw [← hg, fset_same]
    obtain ⟨nodes1, bytes1, st1, hcall, f1, f2, f3, f4, f5⟩ := hf _ hmem b nodes bytes (around + 1) g (n + 1) (by omega) hgb (by omega) (by omega) har (ht _ hmem)
    simp only [loopN, Tryz.f77, loopsOf, List.append_nil, List.nil_append, List.cons_append, List.getD_cons_zero, List.getD_cons_succ] at hR
    rw [execF_loop] at hR
    simp only [symS, symO, symC, symP, symB, symR, if_true, if_false, Nat.reduceEqDiff, Nat.reduceBEq, Bool.false_eq_true, Bool.true_eq_false, reduceCtorEq, decide_true, decide_false, h0, h2, h3, h96, h97, h98, hil, hi0, and_self, Int.toNat_natCast, al_Val, st_Val, hw, hw2, hg, hgn, hcall] at hR
    simp only [hdrop, totL, vldL]
    cases hv : vldJ (around + 1) (v.elems.getD i default) with
    | false =>
      simp only [hv, symS, symO, symC, symP, symB, symR, if_true, if_false, Nat.reduceEqDiff, Nat.reduceBEq, Bool.false_eq_true, Bool.true_eq_false, reduceCtorEq] at hR
      refine ⟨_, _, _, _, nodes1, bytes1, hR.symm, f1, by omega, by omega, by omega, fun c hc hcb => ?_, .inr ⟨rfl, by simp only [fset_app, if_true], rfl⟩⟩
      rw [f5 c (by omega) hcb, ← hg, fset_ne _ _ _ _ (by omega), fset_ne _ _ _ _ (by omega)]
    | true =>
      simp only [hv, symS, symO, symC, symP, symB, symR, if_true, if_false, Nat.reduceEqDiff, Nat.reduceBEq, Bool.false_eq_true, Bool.true_eq_false, reduceCtorEq, hw] at hR
      obtain ⟨x, env', h', n', nodes', bytes', rfl, g1, g2, g3, g4, g5, g6⟩ := ih (i + 1) nodes1 bytes1 _ _ _ _ hR (by omega) (by omega) hel (by omega) (by omega) (by omega) f1 (by simp only [fset_app, Nat.reduceEqDiff, if_false, h0]) (by simp only [fset_app, Nat.reduceEqDiff, if_false, h2]) (by simp only [fset_app, Nat.reduceEqDiff, if_false, h3]) (by simp only [fset_app, Nat.reduceEqDiff, if_false, h96]) (by simp only [fset_app, Nat.reduceEqDiff, if_false, h97]) (by simp only [fset_app, if_true])
      refine ⟨x, env', h', n', nodes', bytes', rfl, g1, by omega, by omega, by omega, fun c hc hcb => ?_, ?_⟩
      · rw [g5 c (by omega) hcb, f5 c (by omega) hcb, ← hg, fset_ne _ _ _ _ (by omega), fset_ne _ _ _ _ (by omega)]
      · rw [Bool.true_and]; exact g6

set_option maxRecDepth 100000 in
theorem fits_step (v : JV) (hf : ∀ e ∈ v.elems, Fits e) : Fits v := by
  intro b nodes bytes around h nxt hbn hb hno hby har htot
  have heq := totJ_eq v
  have hkl := keysN_len v.keys
  have hel := totL_len v.elems
  rw [body_fn bd_fits ok_fits]
  generalize hg : fset h nxt (some ⟨true, 5, [cellsJ v]⟩) = g
  have hgn : g nxt = some ⟨true, 5, [cellsJ v]⟩ := by rw [← hg, fset_same]
  have hgb : g b = some (meterB nodes bytes) := by rw [← hg, fset_ne _ _ _ _ (by omega)]; exact hb
  generalize hg1 : fset g b (some (meterB (nodes + 1) bytes)) = g1
  have hg1n : g1 nxt = some ⟨true, 5, [cellsJ v]⟩ := by rw [← hg1, fset_ne _ _ _ _ (by omega)]; exact hgn
  have hg1b : g1 b = some (meterB (nodes + 1) bytes) := by rw [← hg1, fset_same]
  have hold : ∀ c, c < nxt → c ≠ b → g1 c = h c := fun c hc hcb => by rw [← hg1, fset_ne _ _ _ _ hcb, ← hg, fset_ne _ _ _ _ (by omega)]
  have hw : IntKind.i64.wrap ((nodes : Int) + 1) = ((nodes + 1 : Nat) : Int) := by rw [wrap64 (by omega) (by omega)]; omega
  have hn : ¬ (4096 < ((nodes + 1 : Nat) : Int)) := by omega
  have hs4 : ¬ (4096 < (v.str.size : Int)) := by omega
  have hform := formed_run v htot
  by_cases q0 : v.kind < 0
  · have hv : vldJ around v = false := by rw [vldJ_eq, decide_eq_false (by omega : ¬ 0 ≤ v.kind)]; rfl
    simp only [Tryz.f77, symS, symO, symC, symP, symB, symR, if_true, if_false, Nat.reduceEqDiff, Nat.reduceBEq, Nat.reduceAdd, Bool.false_eq_true, Bool.true_eq_false, reduceCtorEq, decide_true, decide_false, fd_nodes, fd_bytes, hg, hgn, hgb, ldM0, hw, stM0, hg1, hg1n, hg1b, hn, q0, hv]
    exact ⟨nodes + 1, bytes, _, rfl, hg1b, by omega, by omega, by simp, hold⟩
  by_cases q6 : 6 < v.kind
  · have hv : vldJ around v = false := by rw [vldJ_eq, decide_eq_false (by omega : ¬ v.kind ≤ 6), Bool.and_false]; rfl
    simp only [Tryz.f77, symS, symO, symC, symP, symB, symR, if_true, if_false, Nat.reduceEqDiff, Nat.reduceBEq, Nat.reduceAdd, Bool.false_eq_true, Bool.true_eq_false, reduceCtorEq, decide_true, decide_false, fd_nodes, fd_bytes, hg, hgn, hgb, ldM0, hw, stM0, hg1, hg1n, hg1b, hn, q0, q6, hv]
    exact ⟨nodes + 1, bytes, _, rfl, hg1b, by omega, by omega, by simp, hold⟩
  have q04 : ∃ b4, (v.kind == 4) = b4 := ⟨_, rfl⟩
  cases hf0 : formJ v with
  | false =>
    have hv : vldJ around v = false := by rw [vldJ_eq, hf0, Bool.and_false]; rfl
    rw [hf0] at hform
    cases q4 : (v.kind == 4) with
    | true =>
      simp only [Tryz.f77, symS, symO, symC, symP, symB, symR, if_true, if_false, Nat.reduceEqDiff, Nat.reduceBEq, Nat.reduceAdd, Bool.false_eq_true, Bool.true_eq_false, reduceCtorEq, decide_true, decide_false, fd_nodes, fd_bytes, hg, hgn, hgb, ldM0, hw, stM0, hg1, hg1n, hg1b, hn, q0, q6, q4, hs4, hform, hv]
      exact ⟨nodes + 1, bytes, _, rfl, hg1b, by omega, by omega, by simp, hold⟩
    | false =>
      simp only [Tryz.f77, symS, symO, symC, symP, symB, symR, if_true, if_false, Nat.reduceEqDiff, Nat.reduceBEq, Nat.reduceAdd, Bool.false_eq_true, Bool.true_eq_false, reduceCtorEq, decide_true, decide_false, fd_nodes, fd_bytes, hg, hgn, hgb, ldM0, hw, stM0, hg1, hg1n, hg1b, hn, q0, q6, q4, hform, hv]
      exact ⟨nodes + 1, bytes, _, rfl, hg1b, by omega, by omega, by simp, hold⟩
  | true =>
    rw [hf0] at hform
    have hwb : IntKind.i64.wrap ((bytes : Int) + (v.str.size : Int)) = ((bytes + v.str.size : Nat) : Int) := by rw [wrap64 (by omega) (by omega)]; omega
    generalize hg2 : fset g1 b (some (meterB (nodes + 1) (bytes + v.str.size))) = g2
    have hg2n : g2 nxt = some ⟨true, 5, [cellsJ v]⟩ := by rw [← hg2, fset_ne _ _ _ _ (by omega)]; exact hg1n
    have hg2b : g2 b = some (meterB (nodes + 1) (bytes + v.str.size)) := by rw [← hg2, fset_same]
    have hold2 : ∀ c, c < nxt → c ≠ b → g2 c = h c := fun c hc hcb => by rw [← hg2, fset_ne _ _ _ _ hcb]; exact hold c hc hcb
    cases q4 : (v.kind == 4) with
    | true =>
      simp only [Tryz.f77, symS, symO, symC, symP, symB, symR, if_true, if_false, Nat.reduceEqDiff, Nat.reduceBEq, Nat.reduceAdd, Bool.false_eq_true, Bool.true_eq_false, reduceCtorEq, decide_true, decide_false, fd_nodes, fd_bytes, hg, hgn, hgb, ldM0, ldM1, hw, stM0, hg1, hg1n, hg1b, hn, q0, q6, q4, hs4, hform, hwb, stM1]
      rw [slow_last (by kernel_rfl) (by simp only [List.dropLast_singleton, List.dropLast, symS, symO, symC, symP, symB, symR, if_true, if_false, Nat.reduceEqDiff, Nat.reduceBEq, Nat.reduceAdd, Bool.false_eq_true, Bool.true_eq_false, reduceCtorEq, decide_true, decide_false, fd_nodes, fd_bytes, hg1n, hg1b, ldM1, hwb]; rfl) (by simp only [List.length_cons, List.length_nil, List.drop_succ_cons, List.drop_zero, Nat.reduceSub, symS, symO, symC, symP, symB, symR, if_true, if_false, Nat.reduceEqDiff, Nat.reduceBEq, Nat.reduceAdd, Bool.false_eq_true, Bool.true_eq_false, reduceCtorEq, decide_true, decide_false, fd_nodes, fd_bytes, hg1n, hg1b, stM1, hg2]; rfl) (by kernel_rfl)]
      simp only [symS, symO, symC, symP, symB, symR, if_true, if_false, Nat.reduceEqDiff, Nat.reduceBEq, Nat.reduceAdd, Bool.false_eq_true, Bool.true_eq_false, reduceCtorEq, decide_true, decide_false, fd_nodes, fd_bytes, hg2n, hg2b]
      generalize hR : execF E0 (Code.loop _) _ = R
      obtain ⟨env1, h1, bytes1, rfl, k1, k2, k3, e0, e2, e3, e5⟩ := fits_keys v b (nodes + 1) _ 0 (bytes + v.str.size) _ _ _ _ hR rfl (Nat.zero_le _) (by omega) (by rw [List.drop_zero]; omega) hg2b rfl rfl rfl rfl
      simp only [fset_app, Nat.reduceEqDiff, if_true, if_false] at e0 e2 e3 e5
      rw [List.drop_zero] at k2
      have k1n : h1 nxt = some ⟨true, 5, [cellsJ v]⟩ := by rw [k3 nxt (by omega)]; exact hg2n
      have hold3 : ∀ c, c < nxt → c ≠ b → h1 c = h c := fun c hc hcb => by rw [k3 c hcb]; exact hold2 c hc hcb
      have hb1 : ¬ (65536 < ((bytes1 : Nat) : Int)) := by omega
      by_cases q5 : v.kind < 5
      · have hv : vldJ around v = true := by rw [vldJ_eq, hf0, decide_eq_true (by omega : 0 ≤ v.kind), decide_eq_true (by omega : v.kind ≤ 6), decide_eq_true q5]; rfl
        simp only [symS, symO, symC, symP, symB, symR, if_true, if_false, Nat.reduceEqDiff, Nat.reduceBEq, Nat.reduceAdd, Bool.false_eq_true, Bool.true_eq_false, reduceCtorEq, decide_true, decide_false, fd_nodes, fd_bytes, e0, e2, e3, e5, k1, k1n, ldM1, hb1, q5, hv]
        exact ⟨nodes + 1, bytes1, _, rfl, k1, by omega, by omega, by simp, hold3⟩
      by_cases q32 : 32 ≤ around
      · have q32' : (32 : Int) ≤ around := by omega
        have hv : vldJ around v = false := by rw [vldJ_eq, decide_eq_false q5, decide_eq_false (by omega : ¬ around < 32)]; simp
        simp only [symS, symO, symC, symP, symB, symR, if_true, if_false, Nat.reduceEqDiff, Nat.reduceBEq, Nat.reduceAdd, Bool.false_eq_true, Bool.true_eq_false, reduceCtorEq, decide_true, decide_false, fd_nodes, fd_bytes, e0, e2, e3, e5, k1, k1n, ldM1, hb1, q5, q32', hv]
        exact ⟨nodes + 1, bytes1, _, rfl, k1, by omega, by omega, by simp, hold3⟩
      · have q32' : ¬ (32 : Int) ≤ around := by omega
        have hl : ¬ (1024 < (v.elems.length : Int)) := by omega
        have hv : vldJ around v = vldL (around + 1) v.elems := by rw [vldJ_eq, hf0, decide_eq_true (by omega : 0 ≤ v.kind), decide_eq_true (by omega : v.kind ≤ 6), decide_eq_false q5, decide_eq_true (by omega : around < 32)]; simp
        simp only [symS, symO, symC, symP, symB, symR, if_true, if_false, Nat.reduceEqDiff, Nat.reduceBEq, Nat.reduceAdd, Bool.false_eq_true, Bool.true_eq_false, reduceCtorEq, decide_true, decide_false, fd_nodes, fd_bytes, e0, e2, e3, e5, k1, k1n, ldM1, hb1, q5, q32', hl]
        generalize hR2 : execF E0 (Code.loop _) _ = R2
        obtain ⟨x, env2, h2, n2, nodes2, bytes2, rfl, m1, m2, m3, m4, m5, m6⟩ := fits_elems v hf (fun e he => by have := totL_mem he; omega) b around (by omega) _ 0 (nodes + 1) bytes1 _ _ _ _ hR2 rfl (Nat.zero_le _) (by omega) (by rw [List.drop_zero]; omega) (by rw [List.drop_zero]; omega) (by omega) k1
          (by simp only [fset_app, Nat.reduceEqDiff, if_false, e0]) (by simp only [fset_app, Nat.reduceEqDiff, if_false, e2]) (by simp only [fset_app, Nat.reduceEqDiff, if_false, e3]) rfl rfl rfl
        rw [List.drop_zero] at m2 m3 m6
        rcases m6 with ⟨rfl, m7⟩ | ⟨rfl, m7, m8⟩
        · simp only [symS, symO, symC, symP, symB, symR, if_true, if_false, Nat.reduceEqDiff, Nat.reduceBEq, Nat.reduceAdd, Bool.false_eq_true, Bool.true_eq_false, reduceCtorEq, decide_true, decide_false, fd_nodes, fd_bytes, hv, m7]
          exact ⟨nodes2, bytes2, _, rfl, m1, by omega, by omega, by dsimp only; omega, fun c hc hcb => (m5 c (by omega) hcb).trans (hold3 c hc hcb)⟩
        · simp only [symS, symO, symC, symP, symB, symR, if_true, if_false, Nat.reduceEqDiff, Nat.reduceBEq, Nat.reduceAdd, Bool.false_eq_true, Bool.true_eq_false, reduceCtorEq, decide_true, decide_false, fd_nodes, fd_bytes, hv, m7, m8]
          exact ⟨nodes2, bytes2, _, rfl, m1, by omega, by omega, by dsimp only; omega, fun c hc hcb => (m5 c (by omega) hcb).trans (hold3 c hc hcb)⟩
    | false =>
      simp only [Tryz.f77, symS, symO, symC, symP, symB, symR, if_true, if_false, Nat.reduceEqDiff, Nat.reduceBEq, Nat.reduceAdd, Bool.false_eq_true, Bool.true_eq_false, reduceCtorEq, decide_true, decide_false, fd_nodes, fd_bytes, hg, hgn, hgb, ldM0, ldM1, hw, stM0, hg1, hg1n, hg1b, hn, q0, q6, q4, hform, hwb, stM1]
      rw [slow_last (by kernel_rfl) (by simp only [List.dropLast_singleton, List.dropLast, symS, symO, symC, symP, symB, symR, if_true, if_false, Nat.reduceEqDiff, Nat.reduceBEq, Nat.reduceAdd, Bool.false_eq_true, Bool.true_eq_false, reduceCtorEq, decide_true, decide_false, fd_nodes, fd_bytes, hg1n, hg1b, ldM1, hwb]; rfl) (by simp only [List.length_cons, List.length_nil, List.drop_succ_cons, List.drop_zero, Nat.reduceSub, symS, symO, symC, symP, symB, symR, if_true, if_false, Nat.reduceEqDiff, Nat.reduceBEq, Nat.reduceAdd, Bool.false_eq_true, Bool.true_eq_false, reduceCtorEq, decide_true, decide_false, fd_nodes, fd_bytes, hg1n, hg1b, stM1, hg2]; rfl) (by kernel_rfl)]
      simp only [symS, symO, symC, symP, symB, symR, if_true, if_false, Nat.reduceEqDiff, Nat.reduceBEq, Nat.reduceAdd, Bool.false_eq_true, Bool.true_eq_false, reduceCtorEq, decide_true, decide_false, fd_nodes, fd_bytes, hg2n, hg2b]
      generalize hR : execF E0 (Code.loop _) _ = R
      obtain ⟨env1, h1, bytes1, rfl, k1, k2, k3, e0, e2, e3, e5⟩ := fits_keys v b (nodes + 1) _ 0 (bytes + v.str.size) _ _ _ _ hR rfl (Nat.zero_le _) (by omega) (by rw [List.drop_zero]; omega) hg2b rfl rfl rfl rfl
      simp only [fset_app, Nat.reduceEqDiff, if_true, if_false] at e0 e2 e3 e5
      rw [List.drop_zero] at k2
      have k1n : h1 nxt = some ⟨true, 5, [cellsJ v]⟩ := by rw [k3 nxt (by omega)]; exact hg2n
      have hold3 : ∀ c, c < nxt → c ≠ b → h1 c = h c := fun c hc hcb => by rw [k3 c hcb]; exact hold2 c hc hcb
      have hb1 : ¬ (65536 < ((bytes1 : Nat) : Int)) := by omega
      by_cases q5 : v.kind < 5
      · have hv : vldJ around v = true := by rw [vldJ_eq, hf0, decide_eq_true (by omega : 0 ≤ v.kind), decide_eq_true (by omega : v.kind ≤ 6), decide_eq_true q5]; rfl
        simp only [symS, symO, symC, symP, symB, symR, if_true, if_false, Nat.reduceEqDiff, Nat.reduceBEq, Nat.reduceAdd, Bool.false_eq_true, Bool.true_eq_false, reduceCtorEq, decide_true, decide_false, fd_nodes, fd_bytes, e0, e2, e3, e5, k1, k1n, ldM1, hb1, q5, hv]
        exact ⟨nodes + 1, bytes1, _, rfl, k1, by omega, by omega, by simp, hold3⟩
      by_cases q32 : 32 ≤ around
      · have q32' : (32 : Int) ≤ around := by omega
        have hv : vldJ around v = false := by rw [vldJ_eq, decide_eq_false q5, decide_eq_false (by omega : ¬ around < 32)]; simp
        simp only [symS, symO, symC, symP, symB, symR, if_true, if_false, Nat.reduceEqDiff, Nat.reduceBEq, Nat.reduceAdd, Bool.false_eq_true, Bool.true_eq_false, reduceCtorEq, decide_true, decide_false, fd_nodes, fd_bytes, e0, e2, e3, e5, k1, k1n, ldM1, hb1, q5, q32', hv]
        exact ⟨nodes + 1, bytes1, _, rfl, k1, by omega, by omega, by simp, hold3⟩
      · have q32' : ¬ (32 : Int) ≤ around := by omega
        have hl : ¬ (1024 < (v.elems.length : Int)) := by omega
        have hv : vldJ around v = vldL (around + 1) v.elems := by rw [vldJ_eq, hf0, decide_eq_true (by omega : 0 ≤ v.kind), decide_eq_true (by omega : v.kind ≤ 6), decide_eq_false q5, decide_eq_true (by omega : around < 32)]; simp
        simp only [symS, symO, symC, symP, symB, symR, if_true, if_false, Nat.reduceEqDiff, Nat.reduceBEq, Nat.reduceAdd, Bool.false_eq_true, Bool.true_eq_false, reduceCtorEq, decide_true, decide_false, fd_nodes, fd_bytes, e0, e2, e3, e5, k1, k1n, ldM1, hb1, q5, q32', hl]
        generalize hR2 : execF E0 (Code.loop _) _ = R2
        obtain ⟨x, env2, h2, n2, nodes2, bytes2, rfl, m1, m2, m3, m4, m5, m6⟩ := fits_elems v hf (fun e he => by have := totL_mem he; omega) b around (by omega) _ 0 (nodes + 1) bytes1 _ _ _ _ hR2 rfl (Nat.zero_le _) (by omega) (by rw [List.drop_zero]; omega) (by rw [List.drop_zero]; omega) (by omega) k1
          (by simp only [fset_app, Nat.reduceEqDiff, if_false, e0]) (by simp only [fset_app, Nat.reduceEqDiff, if_false, e2]) (by simp only [fset_app, Nat.reduceEqDiff, if_false, e3]) rfl rfl rfl
        rw [List.drop_zero] at m2 m3 m6
        rcases m6 with ⟨rfl, m7⟩ | ⟨rfl, m7, m8⟩
        · simp only [symS, symO, symC, symP, symB, symR, if_true, if_false, Nat.reduceEqDiff, Nat.reduceBEq, Nat.reduceAdd, Bool.false_eq_true, Bool.true_eq_false, reduceCtorEq, decide_true, decide_false, fd_nodes, fd_bytes, hv, m7]
          exact ⟨nodes2, bytes2, _, rfl, m1, by omega, by omega, by dsimp only; omega, fun c hc hcb => (m5 c (by omega) hcb).trans (hold3 c hc hcb)⟩
        · simp only [symS, symO, symC, symP, symB, symR, if_true, if_false, Nat.reduceEqDiff, Nat.reduceBEq, Nat.reduceAdd, Bool.false_eq_true, Bool.true_eq_false, reduceCtorEq, decide_true, decide_false, fd_nodes, fd_bytes, hv, m7, m8]
          exact ⟨nodes2, bytes2, _, rfl, m1, by omega, by omega, by dsimp only; omega, fun c hc hcb => (m5 c (by omega) hcb).trans (hold3 c hc hcb)⟩

theorem fits_run (v : JV) : Fits v := by
  have key : ∀ (n : Nat) (v : JV), totJ v ≤ n → Fits v := by
    intro n
    induction n with
    | zero => intro v h; have := totJ_eq v; omega
    | succ n ih =>
      intro v h
      refine fits_step v (fun e he => ih e ?_)
      have h1 := totJ_eq v
      have h2 := totL_mem he
      omega
  exact key _ v (Nat.le_refl _)

end Go.Abs
