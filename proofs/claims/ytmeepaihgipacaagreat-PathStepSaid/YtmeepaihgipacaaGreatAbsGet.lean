/-
The program in sight: what a step denotes, and what a path denotes.
-/
import Derived.Test.YtmeepaihgipacaaGreatAbsFind
import Derived.Test.YtmeepaihgipacaaGreatAbsLawA
set_option linter.unusedVariables false
set_option linter.unusedSimpArgs false
namespace Go.Abs
open Go.Proofs

/-! ### Valid values -/

mutual
theorem vldJ_mono : ∀ (n : Nat) (v : JV), vldJ (n + 1) v = true → vldJ n v = true
  | n, .mk k i s ks es, h => by
    simp only [vldJ, Bool.and_eq_true, Bool.or_eq_true, decide_eq_true_eq] at h ⊢
    exact ⟨h.1, h.2.imp id (fun h => ⟨by omega, vldL_mono (n + 1) es h.2⟩)⟩
theorem vldL_mono : ∀ (n : Nat) (l : List JV), vldL (n + 1) l = true → vldL n l = true
  | n, [], h => rfl
  | n, v :: r, h => by
    simp only [vldL, Bool.and_eq_true] at h ⊢
    exact ⟨vldJ_mono n v h.1, vldL_mono n r h.2⟩
end
theorem vldL_mem : ∀ {n : Nat} {l : List JV} {v : JV}, vldL n l = true → v ∈ l → vldJ n v = true
  | n, a :: l, v, h, hv => by
    simp only [vldL, Bool.and_eq_true] at h
    rcases List.mem_cons.1 hv with rfl | hv
    · exact h.1
    · exact vldL_mem h.2 hv
theorem vldL_of : ∀ {n : Nat} {l : List JV}, (∀ v ∈ l, vldJ n v = true) → vldL n l = true
  | n, [], _ => rfl
  | n, a :: l, h => by
    simp only [vldL, Bool.and_eq_true]
    exact ⟨h a (List.mem_cons_self ..), vldL_of fun v hv => h v (List.mem_cons_of_mem _ hv)⟩
theorem vldJ_eq2 (n : Nat) (v : JV) : vldJ n v = (decide (0 ≤ v.kind) && decide (v.kind ≤ 6) && formJ v && (decide (v.kind < 5) || (decide (n < 32) && vldL (n + 1) v.elems))) := by
  cases v; rfl
theorem vld_elem {v e : JV} (h : vldJ 0 v = true) (he : e ∈ v.elems) : vldJ 1 e = true := by
  rw [vldJ_eq2] at h
  simp only [Bool.and_eq_true, Bool.or_eq_true, decide_eq_true_eq] at h
  rcases h.2 with h5 | h5
  · have hf := h.1.2
    unfold formJ at hf
    simp only [Bool.and_eq_true, Bool.or_eq_true, decide_eq_true_eq] at hf
    have := hf.1.1.2
    rcases this with h6 | h6
    · omega
    · have : v.elems = [] := by simpa using h6
      rw [this] at he
      cases he
  · exact vldL_mem h5.2 he
theorem vld_obj {n : Nat} {v : JV} (h : vldJ n v = true) (h6 : v.kind = 6) : v.keys.length = v.elems.length ∧ SortS v.keys := by
  rw [vldJ_eq2] at h
  simp only [Bool.and_eq_true] at h
  have hf := h.1.2
  unfold formJ at hf
  simp only [Bool.and_eq_true, Bool.or_eq_true, decide_eq_true_eq] at hf
  rcases hf.2 with h7 | h7
  · rw [h6] at h7; simp at h7
  · exact ⟨h7.1, (keysOk_sort none _ h7.2).1⟩

/-- What a path may lead to. -/
def Good (v : JV) : Prop := v.kind = 4 ∨ vldJ 0 v = true
theorem good_null : Good nullJ := .inr (by decide +kernel)
theorem good_elem {v e : JV} (h : Good v) (h4 : ¬ v.kind = 4) (he : e ∈ v.elems) : Good e := .inr (vldJ_mono 0 e (vld_elem (h.resolve_left h4) he))
theorem good_arr {v : JV} (h : vldJ 0 v = true) (h5 : v.kind = 5) {l : List JV} (hl : ∀ e ∈ l, e ∈ v.elems) : vldJ 0 (arrJ l) = true := by
  rw [vldJ_eq2]
  have hk : (arrJ l).kind = 5 := rfl
  have he : (arrJ l).elems = l := rfl
  have hf : formJ (arrJ l) = true := by
    have hc : (codesOf .empty).isSome = true := by decide +kernel
    unfold formJ
    have e1 : (arrJ l).str = .empty := rfl
    have e2 : (arrJ l).keys = [] := rfl
    have e3 : (arrJ l).int = 0 := rfl
    rw [e1, e2, e3, he, hk, hc]
    rfl
  rw [hk, he, hf]
  have : vldL (0 + 1) l = true := vldL_of fun e hx => vld_elem h (hl e hx)
  rw [this]
  rfl

/-! ### One step -/

/-- A step that can be asked for. -/
structure StOk (s : JV) : Prop where
  ok : s.Ok
  lens : s.kind = 6 → s.keys.length = s.elems.length
  tot : totJ s ≤ 1000
theorem StOk.sl {s : JV} (h : StOk s) (hs : isSl s = true) : SlOk s := by
  have h1 := hs
  rw [isSl_eq] at h1
  simp only [Bool.and_eq_true, beq_iff_eq, decide_eq_true_eq] at h1
  have hk := h1.1.1.2
  have hl := h.lens h1.1.1.1
  have h2 : s.elems.length = 2 := by rw [← hl, hk]; rfl
  have hm : ∀ i, i < 2 → s.elems.getD i default ∈ s.elems := fun i hi => by
    rw [List.getD_eq_getElem?_getD, List.getElem?_eq_getElem (by omega), Option.getD_some]; exact List.getElem_mem _
  exact ⟨hs, h2, (h.ok.elem _ (hm 0 (by omega))).rng.1, (h.ok.elem _ (hm 1 (by omega))).rng.1⟩
theorem StOk.slice {s : JV} (h : StOk s) : callF E0 90 [encJ s] = some [.p (.v (.bool (isSl s)))] := sliceO_run s h.lens (by have := h.ok.keys; omega)
theorem StOk.isSlice {s : JV} (h : StOk s) : callF E0 58 [encJ s] = some [.p (.v (.bool (isSl s)))] := isSliceR_run s h.lens

/-- What a step denotes: the part, whether it exists, the error. -/
def exJ (v s : JV) : JV × Bool × Int :=
  if v.kind = 0 ∧ (s.kind = 4 ∨ s.kind = 3) then (nullJ, false, 0) else
  if v.kind = 6 ∧ s.kind = 4 then (memJ v s.str, hasS v.keys s.str, 0) else
  if v.kind = 5 ∧ s.kind = 3 then (if atI s.int v.elems.length < 0 ∨ (v.elems.length : Int) ≤ atI s.int v.elems.length then (nullJ, false, 0) else (v.elems.getD (atI s.int v.elems.length).toNat default, true, 0)) else
  if isSl s = true then slJ v s else (nullJ, false, 12)

theorem isSl_kind {s : JV} (h : ¬ s.kind = 6) : isSl s = false := by
  rw [isSl_eq, kf h]; rfl

theorem placeO_at (i n : Int) (hi : -9223372036854775808 ≤ i) (hn : 0 ≤ n) (hn2 : n ≤ 100000) : callF E0 92 [.v (.int .i64 i), .v (.int .i64 n)] = some [.p (.v (.int .i64 (atI i n)))] := by
  rw [placeO_run i n hi hn]
  unfold atI
  by_cases h : i < 0
  · rw [if_pos h, if_pos h, wrap64 (by omega) (by omega)]
  · rw [if_neg h, if_neg h]

set_option maxHeartbeats 8000000 in
set_option maxRecDepth 100000 in
theorem exists_run (v s : JV) (hs : StOk s) (hv : totJ v ≤ 1000) (hg : Good v) : callF E0 57 [encJ v, encJ s] = some [.p (encJ (exJ v s).1), .p (.v (.bool (exJ v s).2.1)), .p (.v (.int .i64 (exJ v s).2.2))] := by
  cases hsl : isSl s with
  | true =>
    have hk := (hs.sl hsl).kind
    have e : exJ v s = slJ v s := by
      unfold exJ
      rw [if_neg (by omega), if_neg (by omega), if_neg (by omega), if_pos hsl]
    rw [e]
    exact exists_slice v s (hs.sl hsl) (by omega)
  | false =>
    have hsr := hs.slice
    rw [hsl] at hsr
    have hn := none_run
    have hlen := totL_len v.elems
    have hklen := keysN_len v.keys
    have ht := totJ_eq v
    rw [callF_fn bd_exists ok_exists]
    by_cases s4 : s.kind = 4
    · have s4' := kt s4
      have s3' : (s.kind == 3) = false := kf (by omega)
      by_cases h0 : v.kind = 0
      · have k0 := kt h0
        have e : exJ v s = (nullJ, false, 0) := by unfold exJ; rw [if_pos ⟨h0, .inl s4⟩]
        simp only [symS, symO, symC, symP, symB, symR, symF, symM, symN, if_true, if_false, Nat.reduceEqDiff, Nat.reduceBEq, Nat.reduceAdd, Bool.false_eq_true, Bool.true_eq_false, reduceCtorEq, decide_true, decide_false, Nat.reduceLeDiff, and_self, and_true, true_and, some_is, lt01, symL, Tryz.f57, k0, s4', s3', hsr, hn, e]
      have k0 := kf h0
      by_cases h6 : v.kind = 6
      · have k6 := kt h6
        have hvl := vld_obj (hg.resolve_left (by omega)) h6
        have hget := getO_run v s.str (by omega) hvl.2 hvl.1
        have e : exJ v s = (memJ v s.str, hasS v.keys s.str, 0) := by unfold exJ; rw [if_neg (by omega), if_pos ⟨h6, s4⟩]
        simp only [symS, symO, symC, symP, symB, symR, symF, symM, symN, if_true, if_false, Nat.reduceEqDiff, Nat.reduceBEq, Nat.reduceAdd, Bool.false_eq_true, Bool.true_eq_false, reduceCtorEq, decide_true, decide_false, Nat.reduceLeDiff, and_self, and_true, true_and, some_is, lt01, symL, Tryz.f57, k0, k6, s4', s3', hsr, hn, hget, e]
      have k6 := kf h6
      have e : exJ v s = (nullJ, false, 12) := by unfold exJ; rw [if_neg (by omega), if_neg (by omega), if_neg (by omega), hsl]; rfl
      by_cases h5 : v.kind = 5
      · have k5 := kt h5
        have k4 : (v.kind == 4) = false := kf (by omega)
        simp only [symS, symO, symC, symP, symB, symR, symF, symM, symN, if_true, if_false, Nat.reduceEqDiff, Nat.reduceBEq, Nat.reduceAdd, Bool.false_eq_true, Bool.true_eq_false, reduceCtorEq, decide_true, decide_false, Nat.reduceLeDiff, and_self, and_true, true_and, some_is, lt01, symL, Tryz.f57, k0, k6, k5, k4, s4', s3', hsr, hn, e]
      have k5 := kf h5
      by_cases h4 : v.kind = 4
      · have k4 := kt h4
        simp only [symS, symO, symC, symP, symB, symR, symF, symM, symN, if_true, if_false, Nat.reduceEqDiff, Nat.reduceBEq, Nat.reduceAdd, Bool.false_eq_true, Bool.true_eq_false, reduceCtorEq, decide_true, decide_false, Nat.reduceLeDiff, and_self, and_true, true_and, some_is, lt01, symL, Tryz.f57, k0, k6, k5, k4, s4', s3', hsr, hn, e]
      · have k4 := kf h4
        simp only [symS, symO, symC, symP, symB, symR, symF, symM, symN, if_true, if_false, Nat.reduceEqDiff, Nat.reduceBEq, Nat.reduceAdd, Bool.false_eq_true, Bool.true_eq_false, reduceCtorEq, decide_true, decide_false, Nat.reduceLeDiff, and_self, and_true, true_and, some_is, lt01, symL, Tryz.f57, k0, k6, k5, k4, s4', s3', hsr, hn, e]
    have s4' := kf s4
    by_cases s3 : s.kind = 3
    · have s3' := kt s3
      by_cases h0 : v.kind = 0
      · have k0 := kt h0
        have e : exJ v s = (nullJ, false, 0) := by unfold exJ; rw [if_pos ⟨h0, .inr s3⟩]
        simp only [symS, symO, symC, symP, symB, symR, symF, symM, symN, if_true, if_false, Nat.reduceEqDiff, Nat.reduceBEq, Nat.reduceAdd, Bool.false_eq_true, Bool.true_eq_false, reduceCtorEq, decide_true, decide_false, Nat.reduceLeDiff, and_self, and_true, true_and, some_is, lt01, symL, Tryz.f57, k0, s4', s3', hsr, hn, e]
      have k0 := kf h0
      by_cases h5 : v.kind = 5
      · have k5 := kt h5
        have k6 : (v.kind == 6) = false := kf (by omega)
        have hpl := placeO_at s.int v.elems.length hs.ok.rng.1 (by omega) (by omega)
        by_cases hlo : atI s.int v.elems.length < 0
        · have e : exJ v s = (nullJ, false, 0) := by unfold exJ; rw [if_neg (by omega), if_neg (by omega), if_pos ⟨h5, s3⟩, if_pos (.inl hlo)]
          simp only [symS, symO, symC, symP, symB, symR, symF, symM, symN, if_true, if_false, Nat.reduceEqDiff, Nat.reduceBEq, Nat.reduceAdd, Bool.false_eq_true, Bool.true_eq_false, reduceCtorEq, decide_true, decide_false, Nat.reduceLeDiff, and_self, and_true, true_and, some_is, lt01, symL, Tryz.f57, k0, k6, k5, s4', s3', hsr, hn, hpl, hlo, e]
        · by_cases hhi : (v.elems.length : Int) ≤ atI s.int v.elems.length
          · have e : exJ v s = (nullJ, false, 0) := by unfold exJ; rw [if_neg (by omega), if_neg (by omega), if_pos ⟨h5, s3⟩, if_pos (.inr hhi)]
            simp only [symS, symO, symC, symP, symB, symR, symF, symM, symN, if_true, if_false, Nat.reduceEqDiff, Nat.reduceBEq, Nat.reduceAdd, Bool.false_eq_true, Bool.true_eq_false, reduceCtorEq, decide_true, decide_false, Nat.reduceLeDiff, and_self, and_true, true_and, some_is, lt01, symL, Tryz.f57, k0, k6, k5, s4', s3', hsr, hn, hpl, hlo, hhi, e]
          · have e : exJ v s = (v.elems.getD (atI s.int v.elems.length).toNat default, true, 0) := by unfold exJ; rw [if_neg (by omega), if_neg (by omega), if_pos ⟨h5, s3⟩, if_neg (by omega)]
            have hz : ((0 : Int) ≤ atI s.int v.elems.length ∧ atI s.int v.elems.length < v.elems.length) := by omega
            simp only [symS, symO, symC, symP, symB, symR, symF, symM, symN, if_true, if_false, Nat.reduceEqDiff, Nat.reduceBEq, Nat.reduceAdd, Bool.false_eq_true, Bool.true_eq_false, reduceCtorEq, decide_true, decide_false, Nat.reduceLeDiff, and_self, and_true, true_and, some_is, lt01, symL, Tryz.f57, k0, k6, k5, s4', s3', hsr, hn, hpl, hlo, hhi, hz, e]
      have k5 := kf h5
      have e : exJ v s = (nullJ, false, 12) := by unfold exJ; rw [if_neg (by omega), if_neg (by omega), if_neg (by omega), hsl]; rfl
      by_cases h6 : v.kind = 6
      · have k6 := kt h6
        have k4 : (v.kind == 4) = false := kf (by omega)
        simp only [symS, symO, symC, symP, symB, symR, symF, symM, symN, if_true, if_false, Nat.reduceEqDiff, Nat.reduceBEq, Nat.reduceAdd, Bool.false_eq_true, Bool.true_eq_false, reduceCtorEq, decide_true, decide_false, Nat.reduceLeDiff, and_self, and_true, true_and, some_is, lt01, symL, Tryz.f57, k0, k6, k5, k4, s4', s3', hsr, hn, e]
      have k6 := kf h6
      by_cases h4 : v.kind = 4
      · have k4 := kt h4
        simp only [symS, symO, symC, symP, symB, symR, symF, symM, symN, if_true, if_false, Nat.reduceEqDiff, Nat.reduceBEq, Nat.reduceAdd, Bool.false_eq_true, Bool.true_eq_false, reduceCtorEq, decide_true, decide_false, Nat.reduceLeDiff, and_self, and_true, true_and, some_is, lt01, symL, Tryz.f57, k0, k6, k5, k4, s4', s3', hsr, hn, e]
      · have k4 := kf h4
        simp only [symS, symO, symC, symP, symB, symR, symF, symM, symN, if_true, if_false, Nat.reduceEqDiff, Nat.reduceBEq, Nat.reduceAdd, Bool.false_eq_true, Bool.true_eq_false, reduceCtorEq, decide_true, decide_false, Nat.reduceLeDiff, and_self, and_true, true_and, some_is, lt01, symL, Tryz.f57, k0, k6, k5, k4, s4', s3', hsr, hn, e]
    have s3' := kf s3
    have e : exJ v s = (nullJ, false, 12) := by unfold exJ; rw [if_neg (by omega), if_neg (by omega), if_neg (by omega), hsl]; rfl
    by_cases h0 : v.kind = 0
    · have k0 := kt h0
      have k6 : (v.kind == 6) = false := kf (by omega)
      have k5 : (v.kind == 5) = false := kf (by omega)
      have k4 : (v.kind == 4) = false := kf (by omega)
      simp only [symS, symO, symC, symP, symB, symR, symF, symM, symN, if_true, if_false, Nat.reduceEqDiff, Nat.reduceBEq, Nat.reduceAdd, Bool.false_eq_true, Bool.true_eq_false, reduceCtorEq, decide_true, decide_false, Nat.reduceLeDiff, and_self, and_true, true_and, some_is, lt01, symL, Tryz.f57, k0, k6, k5, k4, s4', s3', hsr, hn, e]
    have k0 := kf h0
    by_cases h6 : v.kind = 6
    · have k6 := kt h6
      have k5 : (v.kind == 5) = false := kf (by omega)
      have k4 : (v.kind == 4) = false := kf (by omega)
      simp only [symS, symO, symC, symP, symB, symR, symF, symM, symN, if_true, if_false, Nat.reduceEqDiff, Nat.reduceBEq, Nat.reduceAdd, Bool.false_eq_true, Bool.true_eq_false, reduceCtorEq, decide_true, decide_false, Nat.reduceLeDiff, and_self, and_true, true_and, some_is, lt01, symL, Tryz.f57, k0, k6, k5, k4, s4', s3', hsr, hn, e]
    have k6 := kf h6
    by_cases h5 : v.kind = 5
    · have k5 := kt h5
      have k4 : (v.kind == 4) = false := kf (by omega)
      simp only [symS, symO, symC, symP, symB, symR, symF, symM, symN, if_true, if_false, Nat.reduceEqDiff, Nat.reduceBEq, Nat.reduceAdd, Bool.false_eq_true, Bool.true_eq_false, reduceCtorEq, decide_true, decide_false, Nat.reduceLeDiff, and_self, and_true, true_and, some_is, lt01, symL, Tryz.f57, k0, k6, k5, k4, s4', s3', hsr, hn, e]
    have k5 := kf h5
    by_cases h4 : v.kind = 4
    · have k4 := kt h4
      simp only [symS, symO, symC, symP, symB, symR, symF, symM, symN, if_true, if_false, Nat.reduceEqDiff, Nat.reduceBEq, Nat.reduceAdd, Bool.false_eq_true, Bool.true_eq_false, reduceCtorEq, decide_true, decide_false, Nat.reduceLeDiff, and_self, and_true, true_and, some_is, lt01, symL, Tryz.f57, k0, k6, k5, k4, s4', s3', hsr, hn, e]
    · have k4 := kf h4
      simp only [symS, symO, symC, symP, symB, symR, symF, symM, symN, if_true, if_false, Nat.reduceEqDiff, Nat.reduceBEq, Nat.reduceAdd, Bool.false_eq_true, Bool.true_eq_false, reduceCtorEq, decide_true, decide_false, Nat.reduceLeDiff, and_self, and_true, true_and, some_is, lt01, symL, Tryz.f57, k0, k6, k5, k4, s4', s3', hsr, hn, e]

set_option maxHeartbeats 8000000 in
set_option maxRecDepth 100000 in
theorem part_run (v s : JV) (hs : StOk s) (hv : totJ v ≤ 1000) (hg : Good v) : callF E0 37 [encJ v, encJ s] = some [.p (encJ (exJ v s).1), .p (.v (.int .i64 (exJ v s).2.2))] := by
  cases hsl : isSl s with
  | true =>
    have hk := (hs.sl hsl).kind
    have e : exJ v s = slJ v s := by
      unfold exJ
      rw [if_neg (by omega), if_neg (by omega), if_neg (by omega), if_pos hsl]
    rw [e]
    exact part_slice v s (hs.sl hsl) (by omega)
  | false =>
    have hsr := hs.isSlice
    rw [hsl] at hsr
    have hlen := totL_len v.elems
    have hklen := keysN_len v.keys
    have ht := totJ_eq v
    rw [callF_fn bd_part ok_part]
    by_cases s4 : s.kind = 4
    · have s4' := kt s4
      have s3' : (s.kind == 3) = false := kf (by omega)
      by_cases h0 : v.kind = 0
      · have k0 := kt h0
        have e : exJ v s = (nullJ, false, 0) := by unfold exJ; rw [if_pos ⟨h0, .inl s4⟩]
        simp only [symS, symO, symC, symP, symB, symR, symF, symM, symN, if_true, if_false, Nat.reduceEqDiff, Nat.reduceBEq, Nat.reduceAdd, Bool.false_eq_true, Bool.true_eq_false, reduceCtorEq, decide_true, decide_false, Nat.reduceLeDiff, and_self, and_true, true_and, some_is, lt01, symL, Tryz.f37, k0, s4', s3', hsr, nullJ, e]
      have k0 := kf h0
      by_cases h6 : v.kind = 6
      · have k6 := kt h6
        have hval := hg.resolve_left (show ¬ v.kind = 4 by omega)
        have hvl := vld_obj hval h6
        have hget := getR_run v s.str hv hval h6 hvl.2 hvl.1
        have e : exJ v s = (memJ v s.str, hasS v.keys s.str, 0) := by unfold exJ; rw [if_neg (by omega), if_pos ⟨h6, s4⟩]
        simp only [symS, symO, symC, symP, symB, symR, symF, symM, symN, if_true, if_false, Nat.reduceEqDiff, Nat.reduceBEq, Nat.reduceAdd, Bool.false_eq_true, Bool.true_eq_false, reduceCtorEq, decide_true, decide_false, Nat.reduceLeDiff, and_self, and_true, true_and, some_is, lt01, symL, Tryz.f37, k0, k6, s4', s3', hsr, hget, e]
      have k6 := kf h6
      have e : exJ v s = (nullJ, false, 12) := by unfold exJ; rw [if_neg (by omega), if_neg (by omega), if_neg (by omega), hsl]; rfl
      by_cases h5 : v.kind = 5
      · have k5 := kt h5
        have k4 : (v.kind == 4) = false := kf (by omega)
        simp only [symS, symO, symC, symP, symB, symR, symF, symM, symN, if_true, if_false, Nat.reduceEqDiff, Nat.reduceBEq, Nat.reduceAdd, Bool.false_eq_true, Bool.true_eq_false, reduceCtorEq, decide_true, decide_false, Nat.reduceLeDiff, and_self, and_true, true_and, some_is, lt01, symL, Tryz.f37, k0, k6, k5, k4, s4', s3', hsr, nullJ, e]
      have k5 := kf h5
      by_cases h4 : v.kind = 4
      · have k4 := kt h4
        simp only [symS, symO, symC, symP, symB, symR, symF, symM, symN, if_true, if_false, Nat.reduceEqDiff, Nat.reduceBEq, Nat.reduceAdd, Bool.false_eq_true, Bool.true_eq_false, reduceCtorEq, decide_true, decide_false, Nat.reduceLeDiff, and_self, and_true, true_and, some_is, lt01, symL, Tryz.f37, k0, k6, k5, k4, s4', s3', hsr, nullJ, e]
      · have k4 := kf h4
        simp only [symS, symO, symC, symP, symB, symR, symF, symM, symN, if_true, if_false, Nat.reduceEqDiff, Nat.reduceBEq, Nat.reduceAdd, Bool.false_eq_true, Bool.true_eq_false, reduceCtorEq, decide_true, decide_false, Nat.reduceLeDiff, and_self, and_true, true_and, some_is, lt01, symL, Tryz.f37, k0, k6, k5, k4, s4', s3', hsr, nullJ, e]
    have s4' := kf s4
    by_cases s3 : s.kind = 3
    · have s3' := kt s3
      by_cases h0 : v.kind = 0
      · have k0 := kt h0
        have e : exJ v s = (nullJ, false, 0) := by unfold exJ; rw [if_pos ⟨h0, .inr s3⟩]
        simp only [symS, symO, symC, symP, symB, symR, symF, symM, symN, if_true, if_false, Nat.reduceEqDiff, Nat.reduceBEq, Nat.reduceAdd, Bool.false_eq_true, Bool.true_eq_false, reduceCtorEq, decide_true, decide_false, Nat.reduceLeDiff, and_self, and_true, true_and, some_is, lt01, symL, Tryz.f37, k0, s4', s3', hsr, nullJ, e]
      have k0 := kf h0
      by_cases h5 : v.kind = 5
      · have k5 := kt h5
        have k6 : (v.kind == 6) = false := kf (by omega)
        have hpl := index7_run s.int v.elems.length hs.ok.rng.1 (by omega) (by omega)
        by_cases hout : atI s.int v.elems.length < 0 ∨ (v.elems.length : Int) ≤ atI s.int v.elems.length
        · have e : exJ v s = (nullJ, false, 0) := by unfold exJ; rw [if_neg (by omega), if_neg (by omega), if_pos ⟨h5, s3⟩, if_pos hout]
          rw [if_pos hout] at hpl
          have m1 : ¬ ((0 : Int) ≤ -1) := by decide
          simp only [symS, symO, symC, symP, symB, symR, symF, symM, symN, if_true, if_false, Nat.reduceEqDiff, Nat.reduceBEq, Nat.reduceAdd, Bool.false_eq_true, Bool.true_eq_false, reduceCtorEq, decide_true, decide_false, Nat.reduceLeDiff, and_self, and_true, true_and, some_is, lt01, symL, Tryz.f37, k0, k6, k5, s4', s3', hsr, nullJ, hpl, m1, e]
        · have e : exJ v s = (v.elems.getD (atI s.int v.elems.length).toNat default, true, 0) := by unfold exJ; rw [if_neg (by omega), if_neg (by omega), if_pos ⟨h5, s3⟩, if_neg hout]
          have hz : ((0 : Int) ≤ atI s.int v.elems.length ∧ atI s.int v.elems.length < v.elems.length) := by omega
          have hz0 := hz.1
          rw [if_neg hout] at hpl
          simp only [symS, symO, symC, symP, symB, symR, symF, symM, symN, if_true, if_false, Nat.reduceEqDiff, Nat.reduceBEq, Nat.reduceAdd, Bool.false_eq_true, Bool.true_eq_false, reduceCtorEq, decide_true, decide_false, Nat.reduceLeDiff, and_self, and_true, true_and, some_is, lt01, symL, Tryz.f37, k0, k6, k5, s4', s3', hsr, hpl, hz0, hz, e]
      have k5 := kf h5
      have e : exJ v s = (nullJ, false, 12) := by unfold exJ; rw [if_neg (by omega), if_neg (by omega), if_neg (by omega), hsl]; rfl
      by_cases h6 : v.kind = 6
      · have k6 := kt h6
        have k4 : (v.kind == 4) = false := kf (by omega)
        simp only [symS, symO, symC, symP, symB, symR, symF, symM, symN, if_true, if_false, Nat.reduceEqDiff, Nat.reduceBEq, Nat.reduceAdd, Bool.false_eq_true, Bool.true_eq_false, reduceCtorEq, decide_true, decide_false, Nat.reduceLeDiff, and_self, and_true, true_and, some_is, lt01, symL, Tryz.f37, k0, k6, k5, k4, s4', s3', hsr, nullJ, e]
      have k6 := kf h6
      by_cases h4 : v.kind = 4
      · have k4 := kt h4
        simp only [symS, symO, symC, symP, symB, symR, symF, symM, symN, if_true, if_false, Nat.reduceEqDiff, Nat.reduceBEq, Nat.reduceAdd, Bool.false_eq_true, Bool.true_eq_false, reduceCtorEq, decide_true, decide_false, Nat.reduceLeDiff, and_self, and_true, true_and, some_is, lt01, symL, Tryz.f37, k0, k6, k5, k4, s4', s3', hsr, nullJ, e]
      · have k4 := kf h4
        simp only [symS, symO, symC, symP, symB, symR, symF, symM, symN, if_true, if_false, Nat.reduceEqDiff, Nat.reduceBEq, Nat.reduceAdd, Bool.false_eq_true, Bool.true_eq_false, reduceCtorEq, decide_true, decide_false, Nat.reduceLeDiff, and_self, and_true, true_and, some_is, lt01, symL, Tryz.f37, k0, k6, k5, k4, s4', s3', hsr, nullJ, e]
    have s3' := kf s3
    have e : exJ v s = (nullJ, false, 12) := by unfold exJ; rw [if_neg (by omega), if_neg (by omega), if_neg (by omega), hsl]; rfl
    by_cases h0 : v.kind = 0
    · have k0 := kt h0
      have k6 : (v.kind == 6) = false := kf (by omega)
      have k5 : (v.kind == 5) = false := kf (by omega)
      have k4 : (v.kind == 4) = false := kf (by omega)
      simp only [symS, symO, symC, symP, symB, symR, symF, symM, symN, if_true, if_false, Nat.reduceEqDiff, Nat.reduceBEq, Nat.reduceAdd, Bool.false_eq_true, Bool.true_eq_false, reduceCtorEq, decide_true, decide_false, Nat.reduceLeDiff, and_self, and_true, true_and, some_is, lt01, symL, Tryz.f37, k0, k6, k5, k4, s4', s3', hsr, nullJ, e]
    have k0 := kf h0
    by_cases h6 : v.kind = 6
    · have k6 := kt h6
      have k5 : (v.kind == 5) = false := kf (by omega)
      have k4 : (v.kind == 4) = false := kf (by omega)
      simp only [symS, symO, symC, symP, symB, symR, symF, symM, symN, if_true, if_false, Nat.reduceEqDiff, Nat.reduceBEq, Nat.reduceAdd, Bool.false_eq_true, Bool.true_eq_false, reduceCtorEq, decide_true, decide_false, Nat.reduceLeDiff, and_self, and_true, true_and, some_is, lt01, symL, Tryz.f37, k0, k6, k5, k4, s4', s3', hsr, nullJ, e]
    have k6 := kf h6
    by_cases h5 : v.kind = 5
    · have k5 := kt h5
      have k4 : (v.kind == 4) = false := kf (by omega)
      simp only [symS, symO, symC, symP, symB, symR, symF, symM, symN, if_true, if_false, Nat.reduceEqDiff, Nat.reduceBEq, Nat.reduceAdd, Bool.false_eq_true, Bool.true_eq_false, reduceCtorEq, decide_true, decide_false, Nat.reduceLeDiff, and_self, and_true, true_and, some_is, lt01, symL, Tryz.f37, k0, k6, k5, k4, s4', s3', hsr, nullJ, e]
    have k5 := kf h5
    by_cases h4 : v.kind = 4
    · have k4 := kt h4
      simp only [symS, symO, symC, symP, symB, symR, symF, symM, symN, if_true, if_false, Nat.reduceEqDiff, Nat.reduceBEq, Nat.reduceAdd, Bool.false_eq_true, Bool.true_eq_false, reduceCtorEq, decide_true, decide_false, Nat.reduceLeDiff, and_self, and_true, true_and, some_is, lt01, symL, Tryz.f37, k0, k6, k5, k4, s4', s3', hsr, nullJ, e]
    · have k4 := kf h4
      simp only [symS, symO, symC, symP, symB, symR, symF, symM, symN, if_true, if_false, Nat.reduceEqDiff, Nat.reduceBEq, Nat.reduceAdd, Bool.false_eq_true, Bool.true_eq_false, reduceCtorEq, decide_true, decide_false, Nat.reduceLeDiff, and_self, and_true, true_and, some_is, lt01, symL, Tryz.f37, k0, k6, k5, k4, s4', s3', hsr, nullJ, e]

/-! ### What a step leads to -/

theorem slJ_tot (v s : JV) : totJ (slJ v s).1 ≤ totJ v := by
  have he := totJ_eq v
  have hn : totJ nullJ = 1 := by decide
  unfold slJ
  split
  · rw [hn]; omega
  · split
    · have h1 := totL_ansA v.elems (loN s v.elems.length) (hiN s v.elems.length)
      show totJ (arrJ _) ≤ _
      unfold arrJ
      rw [totJ_mk]
      simp only [keysN, ByteArray.size_empty]
      omega
    · split
      · split
        · rename_i l _
          have h1 := subS_size v.str l (loN s l.length) (hiN s l.length)
          have h2 : (if loN s l.length < hiN s l.length then subS v.str l (loN s l.length) (hiN s l.length) else ByteArray.empty).size ≤ v.str.size := by
            split
            · exact h1
            · simp
          show totJ (strJ _) ≤ _
          unfold strJ
          rw [totJ_mk]
          simp only [keysN, totL]
          omega
        · show totJ (strJ .empty) ≤ _
          unfold strJ
          rw [totJ_mk]
          simp only [keysN, totL, ByteArray.size_empty]
          omega
      · rw [hn]; omega

theorem getD_memJ {l : List JV} {i : Nat} (h : i < l.length) : l.getD i default ∈ l := by
  rw [List.getD_eq_getElem?_getD, List.getElem?_eq_getElem h, Option.getD_some]; exact List.getElem_mem _
theorem memJ_case (v : JV) (t : ByteArray) (hl : v.keys.length = v.elems.length) : memJ v t = nullJ ∨ memJ v t ∈ v.elems := by
  unfold memJ
  split
  · rename_i h
    simp only [hasS, Bool.and_eq_true, decide_eq_true_eq] at h
    exact .inr (getD_memJ (by omega))
  · exact .inl rfl
theorem tot_mem {v e : JV} (h : e ∈ v.elems) : totJ e ≤ totJ v := by
  have := totL_mem h
  have := totJ_eq v
  omega

/-- Of a step: a part that is there, or null, or a part of an array or of a string. -/
theorem exJ_case (v s : JV) (hg : Good v) : (exJ v s).1 = nullJ ∨ ((exJ v s).1 ∈ v.elems ∧ ¬ v.kind = 4) ∨ exJ v s = slJ v s := by
  unfold exJ
  split
  · exact .inl rfl
  · split
    · rename_i h
      have hvl := vld_obj (hg.resolve_left (by omega)) h.1
      rcases memJ_case v s.str hvl.1 with h1 | h1
      · exact .inl h1
      · exact .inr (.inl ⟨h1, by omega⟩)
    · split
      · rename_i h
        split
        · exact .inl rfl
        · rename_i h2
          exact .inr (.inl ⟨getD_memJ (by omega), by omega⟩)
      · split
        · exact .inr (.inr rfl)
        · exact .inl rfl

theorem exJ_tot (v s : JV) (hg : Good v) : totJ (exJ v s).1 ≤ totJ v := by
  rcases exJ_case v s hg with h | h | h
  · rw [h]
    have hn : totJ nullJ = 1 := by decide
    have := totJ_eq v
    omega
  · exact tot_mem h.1
  · rw [h]; exact slJ_tot v s
theorem exJ_ok (v s : JV) (hg : Good v) (hv : v.Ok) (ht : totJ v ≤ 1000) : (exJ v s).1.Ok := by
  rcases exJ_case v s hg with h | h | h
  · rw [h]; exact nullJ_ok
  · exact hv.elem _ h.1
  · rw [h]; exact (slJ_ok v s hv ht).1
theorem slJ_good (v s : JV) (hg : Good v) : Good (slJ v s).1 := by
  unfold slJ
  split
  · exact good_null
  · split
    · rename_i h5
      exact .inr (good_arr (hg.resolve_left (by omega)) h5 fun e he => mem_ansA he)
    · split
      · split
        · exact .inl rfl
        · exact .inl rfl
      · exact good_null
theorem exJ_good (v s : JV) (hg : Good v) : Good (exJ v s).1 := by
  rcases exJ_case v s hg with h | h | h
  · rw [h]; exact good_null
  · exact good_elem hg h.2 h.1
  · rw [h]; exact slJ_good v s hg

end Go.Abs
