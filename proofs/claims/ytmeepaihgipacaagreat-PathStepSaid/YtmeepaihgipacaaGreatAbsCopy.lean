/-
The program in sight: vals.Copy answers the value itself.
-/
import Derived.Test.YtmeepaihgipacaaGreatAbsDraw
import Derived.Test.YtmeepaihgipacaaGreatAbsForm
set_option linter.unusedVariables false
set_option linter.unusedSimpArgs false
namespace Go.Abs
open Go.Proofs

theorem bd_Copy : Tryz.prog.funcs[56]? = some Tryz.f56 := by kernel_rfl
theorem ok_Copy : fnOk Tryz.f56 = true := by kernel_rfl

theorem ard1_one (lv sz) (e : JV) : ard1 0 1 (some ⟨lv, sz, [e].map cellsJ⟩) = some [cellsJ e] := rfl
theorem cellsJ_wf (e : JV) : ∀ y ∈ [cellsJ e], y.length = 5 ∧ y.all AV.isCell = true := by
  intro y hy
  simp only [List.mem_singleton] at hy
  subst hy
  refine ⟨ln_cellsJ e, ?_⟩
  have := encJ_flat e
  unfold AV.flat at this
  rw [encJ_cells, ← cellsJ_eq] at this
  exact this

/-- What stands in a variable that a loop appends to, in memory from n0 on. -/
def OutAt (n0 : Nat) (h : AHeap) (nxt sz : Nat) (x : AV) (es : List (List AV)) : Prop :=
  (es = [] ∧ x = .v (.slice none 0 0)) ∨ ∃ b, es ≠ [] ∧ n0 ≤ b ∧ b < nxt ∧ x = .sl b 0 es.length ∧ h b = some ⟨true, sz, es⟩

theorem rowV_app (l : List JV) (e : JV) : rowV l ++ [cellsJ e] = rowV (l ++ [e]) := by simp [rowV]
theorem rowV_len (l : List JV) : (rowV l).length = l.length := by simp [rowV]
theorem take_succ_getD {α : Type} (l : List α) (i : Nat) (d : α) (h : i < l.length) : l.take (i + 1) = l.take i ++ [l.getD i d] := by
  rw [List.take_add_one, List.getElem?_eq_getElem h, List.getD_eq_getElem?_getD, List.getElem?_eq_getElem h]; rfl

set_option maxRecDepth 100000 in
theorem copy_loop (l : List JV) (hbig : l.length ≤ 1000000000) (hs : ∀ e ∈ l, callF E0 56 [encJ e] = some [.p (encJ e)]) (n0 : Nat) (hn0 : 2 ≤ n0) (a b c d : AV) : ∀ (k i : Nat) (env : Nat → AV) (h : AHeap) (n : Nat) (X : AV) (R : Option (Ex × St)), execF E0 (loopN Tryz.f56 0) ⟨env, h, n⟩ = R → l.length - i = k → i ≤ l.length → n0 ≤ n →
    env 1 = .ptr 0 0 0 → env 2 = .ptr 1 0 0 → env 13 = encL l → env 14 = .v (.int .i64 l.length) → env 15 = .v (.int .i64 i) → h 0 = some ⟨true, 5, [[a, b, c, d, X]]⟩ → OutAt n0 h n 5 X (rowV (l.take i)) →
    ∃ env' h' n' X', R = some (.exit 0, ⟨env', h', n'⟩) ∧ env' 1 = .ptr 0 0 0 ∧ env' 2 = .ptr 1 0 0 ∧ h' 0 = some ⟨true, 5, [[a, b, c, d, X']]⟩ ∧ OutAt n0 h' n' 5 X' (rowV l) ∧ ∀ k, 0 < k → k < n0 → h' k = h k := by
  intro k
  induction k with
  | zero =>
    intro i env h n X R hR hk hi hn h1 h2 h13 h14 h15 hh hX
    have hil : ¬ ((i : Int) < l.length) := by omega
    simp only [loopN, Tryz.f56, loopsOf, List.append_nil, List.nil_append, List.getD_cons_zero] at hR
    rw [execF_loop] at hR
    simp only [symS, symO, symC, symP, symB, symR, symF, symM, symN, if_true, if_false, Nat.reduceEqDiff, Nat.reduceBEq, Nat.reduceAdd, Bool.false_eq_true, Bool.true_eq_false, reduceCtorEq, decide_true, decide_false, Nat.reduceLeDiff, and_self, and_true, true_and, some_is, lt01, h14, h15, hil, decide_eq_true_eq] at hR
    have hil2 : i = l.length := by omega
    rw [hil2, List.take_length] at hX
    exact ⟨_, _, _, X, hR.symm, h1, h2, hh, hX, fun _ _ _ => rfl⟩
  | succ k ih =>
    intro i env h n X R hR hk hi hn h1 h2 h13 h14 h15 hh hX
    have hil : ((i : Int) < l.length) := by omega
    have hz : ((0 : Int) ≤ i ∧ (i : Int) < l.length) := by omega
    have hw : IntKind.i64.wrap ((i : Int) + 1) = ((i + 1 : Nat) : Int) := by rw [wrap64 (by omega) (by omega)]; omega
    have hm : l.getD i default ∈ l := by rw [List.getD_eq_getElem?_getD, List.getElem?_eq_getElem (by omega), Option.getD_some]; exact List.getElem_mem _
    have hsi := hs _ hm
    have q1 : ¬ (0 = n) := by omega
    have q2 : ¬ (0 = n + 1) := by omega
    have q3 : ¬ (0 = n + 2) := by omega
    have q4 : ¬ (n = n + 1) := by omega
    have q5 : ¬ (n + 1 = n + 2) := by omega
    have q6 : ¬ (n + 2 = 0) := by omega
    have q7 : ¬ (n + 1 = 0) := by omega
    have q8 : ¬ (n = 0) := by omega
    have q9 : n + 1 + 1 = n + 2 := rfl
    have hps : unord (befores (opsOf Tryz.f56 7).toList) 8 = [(0, 2), (1, 2), (0, 3), (1, 3), (0, 4), (1, 4)] := by decide +kernel
    simp only [loopN, Tryz.f56, loopsOf, List.append_nil, List.nil_append, List.getD_cons_zero] at hR
    rw [execF_loop] at hR
    have htk := take_succ_getD l i default (by omega)
    rcases hX with ⟨he, rfl⟩ | ⟨bb, hne, hb0, hbn, rfl, hbb⟩
    · have ha := fun (h : AHeap) (nxt : Nat) => apO_new (h := h) (nxt := nxt) (sz := 5) (by_ := 80) (d := .v (.slice none 0 0)) (.inr rfl) (by simp) (cellsJ_wf (l.getD i default)) (by unfold maxBytes; simp)
      simp only [symS, symO, symC, symP, symB, symR, symF, symM, symN, if_true, if_false, Nat.reduceEqDiff, Nat.reduceBEq, Nat.reduceAdd, Bool.false_eq_true, Bool.true_eq_false, reduceCtorEq, decide_true, decide_false, Nat.reduceLeDiff, and_self, and_true, true_and, some_is, lt01, symL, symD, h1, h2, h13, h14, h15, hh, hil, hz, hw, hsi, q1, q2, q3, q4, q5, q6, q7, q8, q9, Int.toNat_natCast, ap_V, ha, ard1_one, aread_sl, encJ_flat] at hR
      split at hR
      · have hi0 : i = 0 := by
          have : (rowV (l.take i)).length = 0 := by rw [he]; rfl
          rw [rowV_len, List.length_take] at this
          omega
        subst hi0
        obtain ⟨env', h', n', X', g1, g2, g3, g4, g5, g6⟩ := ih (0 + 1) _ _ _ _ _ hR (by omega) (by omega) (by omega) (by simp [fset_app, h1]) (by simp [fset_app, h2]) (by simp [fset_app, h13]) (by simp [fset_app, h14]) (by simp [fset_app])
          rfl (.inr ⟨n + 2, by rw [htk]; simp [rowV], by omega, by omega, by rw [htk]; simp [rowV], by rw [htk]; simp [fset_app, rowV]⟩)
        refine ⟨env', h', n', X', g1, g2, g3, g4, g5, fun k hk1 hk2 => ?_⟩
        rw [g6 k hk1 hk2]
        have r0 : ¬ (k = 0) := by omega
        have r1 : ¬ (k = n) := by omega
        have r2 : ¬ (k = n + 1) := by omega
        have r3 : ¬ (k = n + 2) := by omega
        simp only [fset_app, r0, r1, r2, r3, if_false]
      · rename_i hno
        refine absurd (traceOk_of (bs := befores (opsOf Tryz.f56 7).toList) _ hps rfl ?_) hno
        simp [clash, meets]
        try omega
    · have hes : (rowV (l.take i)).length = i := by rw [rowV_len, List.length_take]; omega
      have ha := fun (h : AHeap) (nxt : Nat) (hh : h bb = some ⟨true, 5, rowV (l.take i)⟩) => apO_end (h := h) (nxt := nxt) (sz := 5) (by_ := 80) hh (by simp) (cellsJ_wf (l.getD i default)) (by unfold maxBytes; rw [hes]; simp; omega)
      have p1 : ¬ (bb = 0) := by omega
      have p2 : ¬ (0 = bb) := by omega
      have p3 : ¬ (bb = n) := by omega
      have p4 : ¬ (bb = n + 1) := by omega
      have p5 : ¬ (n + 1 = bb) := by omega
      have p6 : ¬ (n + 2 = bb) := by omega
      rw [hes] at ha hh
      simp only [symS, symO, symC, symP, symB, symR, symF, symM, symN, if_true, if_false, Nat.reduceEqDiff, Nat.reduceBEq, Nat.reduceAdd, Bool.false_eq_true, Bool.true_eq_false, reduceCtorEq, decide_true, decide_false, Nat.reduceLeDiff, and_self, and_true, true_and, some_is, lt01, symL, symD, h1, h2, h13, h14, h15, hh, hil, hz, hw, hsi, q1, q2, q3, q4, q5, q6, q7, q8, q9, p1, p2, p3, p4, p5, p6, hbb, Int.toNat_natCast, ap_V, ha, ard1_one, aread_sl, encJ_flat] at hR
      split at hR
      · obtain ⟨env', h', n', X', g1, g2, g3, g4, g5, g6⟩ := ih (i + 1) _ _ _ _ _ hR (by omega) (by omega) (by omega) (by simp [fset_app, h1]) (by simp [fset_app, h2]) (by simp [fset_app, h13]) (by simp [fset_app, h14]) (by simp [fset_app])
          rfl (.inr ⟨n + 2, by rw [htk, ← rowV_app]; simp, by omega, by omega, by rw [htk, ← rowV_app]; simp [hes], by rw [htk, ← rowV_app]; simp [fset_app]⟩)
        refine ⟨env', h', n', X', g1, g2, g3, g4, g5, fun k hk1 hk2 => ?_⟩
        rw [g6 k hk1 hk2]
        have r0 : ¬ (k = 0) := by omega
        have r1 : ¬ (k = n) := by omega
        have r2 : ¬ (k = n + 1) := by omega
        have r3 : ¬ (k = n + 2) := by omega
        have r4 : ¬ (k = bb) := by omega
        simp only [fset_app, r0, r1, r2, r3, r4, if_false]
      · rename_i hno
        refine absurd (traceOk_of (bs := befores (opsOf Tryz.f56 7).toList) _ hps rfl ?_) hno
        simp [clash, meets]
        try omega

theorem rowS_len (l : List ByteArray) : (rowS l).length = l.length := by simp [rowS]
theorem totJ_elem {v e : JV} (h : e ∈ v.elems) : totJ e ≤ totJ v := by
  have := totL_mem h
  rw [totJ_eq v]
  omega
set_option maxRecDepth 100000 in
theorem copy_step (v : JV) (hk : v.keys.length ≤ 1000000000) (hbig : v.elems.length ≤ 1000000000) (hs : ∀ e ∈ v.elems, callF E0 56 [encJ e] = some [.p (encJ e)]) : callF E0 56 [encJ v] = some [.p (encJ v)] := by
  rw [callF_fn bd_Copy ok_Copy]
  have hcl := cloneSpec_S v.keys (by omega)
  have fin : ∀ (KA : AV) (env : Nat → AV) (h : AHeap) (n n0 : Nat) (X : AV), 2 ≤ n0 → env 1 = .ptr 0 0 0 → env 2 = .ptr 1 0 0 → h 0 = some ⟨true, 5, [[.v (.int .i64 v.kind), .v (.int .i64 v.int), .v (.string v.str), KA, X]]⟩ →
      h 1 = some ⟨true, 5, [[.v (.int .i64 0), .v (.int .i64 0), .v (.string .empty), .v (.slice none 0 0), .v (.slice none 0 0)]]⟩ → OutAt n0 h n 5 X (rowV v.elems) → KA.isCell = true →
      (∀ g : AHeap, (∀ k, 2 ≤ k → g k = (h k).map frozen) → pur 23 g KA = some (encS v.keys)) →
      resL E0 Tryz.f56.results.toList (execF E0 ((Code.region 9 (opsOf Tryz.f56 9) false).seq Code.ret) ⟨env, h, n⟩) = some [.p (encJ v)] := by
    intro KA env h n n0 X hn0 h1 h2 g0 g1 hX hKA hp
    have hpx : ∀ g : AHeap, (∀ k, 2 ≤ k → g k = (h k).map frozen) → pur 23 g X = some (encL v.elems) := by
      intro g hg
      rcases hX with ⟨he, rfl⟩ | ⟨b, hne, hb0, hbn, rfl, hbb⟩
      · have : v.elems = [] := by simpa [rowV] using he
        rw [this]
        rfl
      · have hgb : g b = some ⟨false, 5, v.elems.map cellsJ⟩ := by rw [hg b (by omega), hbb]; rfl
        rw [p3_sl, hgb, rowV_len, purS_J22]
    have hXc : X.isCell = true := by rcases hX with ⟨_, rfl⟩ | ⟨b, _, _, _, rfl, _⟩ <;> rfl
    have hfold := encJ_fold v
    have hag : ∀ k, 2 ≤ k → frzH (fset h 1 (some ⟨true, 5, [[.v (.int .i64 v.kind), .v (.int .i64 v.int), .v (.string v.str), KA, X]]⟩)) k = (h k).map frozen := fun k hk => by
      have : ¬ k = 1 := by omega
      simp only [frzH, fset, this, if_false]
    have p1 := hp _ hag
    have p2 := hpx _ hag
    simp only [opsOf, regOps, Tryz.f56, Nat.reduceEqDiff, if_false, if_true, List.nil_append, List.append_nil, List.headD_cons]
    simp only [symS, symO, symC, symP, symB, symR, symF, symM, symN, if_true, if_false, Nat.reduceEqDiff, Nat.reduceBEq, Nat.reduceAdd, Bool.false_eq_true, Bool.true_eq_false, reduceCtorEq, decide_true, decide_false, Nat.reduceLeDiff, and_self, and_true, true_and, some_is, lt01, h1, h2, g0, g1, hXc, hKA, p1, p2, hfold]
  cases hks : v.keys with
  | nil =>
    have e1 : outRC 1 (rowS v.keys) = .p .e0 := by rw [hks]; rfl
    rw [e1] at hcl
    simp only [symS, symO, symC, symP, symB, symR, symF, symM, symN, if_true, if_false, Nat.reduceEqDiff, Nat.reduceBEq, Nat.reduceAdd, Bool.false_eq_true, Bool.true_eq_false, reduceCtorEq, decide_true, decide_false, Nat.reduceLeDiff, and_self, and_true, true_and, some_is, lt01, symL, symD, Tryz.f56, hcl]
    generalize hR : execF E0 (Code.loop _) _ = R
    obtain ⟨env', h', n', X', rfl, g1, g2, g3, g4, g5⟩ := copy_loop v.elems hbig hs 2 (Nat.le_refl _) _ _ _ _ _ 0 _ _ _ _ _ hR rfl (Nat.zero_le _) (by simp) rfl rfl rfl rfl rfl rfl (.inl ⟨by simp [rowV], rfl⟩)
    have h1 := g5 1 (by omega) (by omega)
    simp only [blockF_exit, if_true, thenF_normal]
    exact fin .e0 env' h' n' 2 X' (Nat.le_refl _) g1 g2 g3 (by rw [h1]; simp [fset]) g4 rfl (fun g _ => by rw [hks]; rfl)
  | cons s r =>
    have e1 : outRC 1 (rowS v.keys) = .own 1 (rowS v.keys) := by rw [hks]; rfl
    rw [e1] at hcl
    simp only [symS, symO, symC, symP, symB, symR, symF, symM, symN, if_true, if_false, Nat.reduceEqDiff, Nat.reduceBEq, Nat.reduceAdd, Bool.false_eq_true, Bool.true_eq_false, reduceCtorEq, decide_true, decide_false, Nat.reduceLeDiff, and_self, and_true, true_and, some_is, lt01, symL, symD, Tryz.f56, hcl, mapR_o]
    generalize hR : execF E0 (Code.loop _) _ = R
    obtain ⟨env', h', n', X', rfl, g1, g2, g3, g4, g5⟩ := copy_loop v.elems hbig hs 3 (by omega) _ _ _ _ _ 0 _ _ _ _ _ hR rfl (Nat.zero_le _) (by simp) rfl rfl rfl rfl rfl rfl (.inl ⟨by simp [rowV], rfl⟩)
    have h1 := g5 1 (by omega) (by omega)
    have h2 := g5 2 (by omega) (by omega)
    simp only [blockF_exit, if_true, thenF_normal]
    exact fin (.sl 2 0 (rowS v.keys).length) env' h' n' 3 X' (by omega) g1 g2 g3 (by rw [h1]; simp [fset]) g4 rfl (fun g hg => by
      have : g 2 = some ⟨false, 1, rowS v.keys⟩ := by rw [hg 2 (Nat.le_refl _), h2]; simp [fset, frozen]
      rw [p3_sl, this, rowS_len, purS_S22])

theorem copy_all : ∀ (n : Nat) (v : JV), totJ v ≤ n → n ≤ 1000000000 → callF E0 56 [encJ v] = some [.p (encJ v)]
  | 0, v, h, _ => by have := totJ_eq v; omega
  | n + 1, v, h, hn => by
    have h1 := totJ_eq v
    have h2 := totL_len v.elems
    have h3 := keysN_len v.keys
    exact copy_step v (by omega) (by omega) (fun e he => copy_all n e (by have := totL_mem he; omega) (by omega))
theorem copy_run (v : JV) (h : totJ v ≤ 1000000000) : callF E0 56 [encJ v] = some [.p (encJ v)] := copy_all _ v (Nat.le_refl _) h

end Go.Abs
