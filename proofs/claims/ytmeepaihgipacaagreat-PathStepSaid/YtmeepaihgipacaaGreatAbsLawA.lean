/-
The program in sight: the law PathSlices answers true.
-/
import Derived.Test.YtmeepaihgipacaaGreatAbsPath
set_option linter.unusedVariables false
set_option linter.unusedSimpArgs false
namespace Go.Abs
open Go.Proofs

theorem totL_app : ∀ l r : List JV, totL (l ++ r) = totL l + totL r
  | [], r => by simp [totL]
  | v :: l, r => by simp [totL, totL_app l r]; omega
theorem totL_take (l : List JV) (b : Nat) : totL (l.take b) ≤ totL l := by
  have h := totL_app (l.take b) (l.drop b)
  rw [List.take_append_drop] at h
  omega
theorem totL_drop (l : List JV) (a : Nat) : totL (l.drop a) ≤ totL l := by
  have h := totL_app (l.take a) (l.drop a)
  rw [List.take_append_drop] at h
  omega
theorem totL_ansA (l : List JV) (a b : Nat) : totL (ansA l a b) ≤ totL l := by
  unfold ansA
  split
  · exact Nat.le_trans (totL_drop _ _) (totL_take _ _)
  · simp [totL]
theorem mem_ansA {l : List JV} {a b : Nat} {e : JV} (h : e ∈ ansA l a b) : e ∈ l := by
  unfold ansA at h
  split at h
  · exact List.mem_of_mem_take (List.mem_of_mem_drop h)
  · cases h
theorem subS_size (s : ByteArray) (l : List (Nat × Nat)) (a b : Nat) : (subS s l a b).size ≤ s.size := by
  unfold subS
  rw [ByteArray.size_extract]
  omega
theorem nullJ_ok : nullJ.Ok := .mk 0 0 .empty [] [] (by decide) (by decide) (by simp) (by decide) (by simp) (by decide)
theorem strJ_ok (s : ByteArray) (h : s.size < 1152921504606846976) : (strJ s).Ok := .mk 4 0 s [] [] h (by decide) (by simp) (by decide) (by simp) (by decide)
theorem arrJ_ok (l : List JV) (h : l.length < 1152921504606846976) (hl : ∀ e ∈ l, e.Ok) : (arrJ l).Ok := .mk 5 0 .empty [] l (by decide) (by decide) (by simp) h hl (by decide)
theorem totJ_mk (k n s ks es) : totJ (.mk k n s ks es) = 1 + s.size + keysN ks + totL es := totJ_eq _

theorem slJ_ok (v s : JV) (hv : v.Ok) (ht : totJ v ≤ 1000) : (slJ v s).1.Ok ∧ totJ (slJ v s).1 ≤ 1000000000 := by
  have he := totJ_eq v
  have hn : nullJ.Ok ∧ totJ nullJ ≤ 1000000000 := ⟨nullJ_ok, by decide⟩
  unfold slJ
  split
  · exact hn
  · split
    · have h1 := totL_ansA v.elems (loN s v.elems.length) (hiN s v.elems.length)
      have h2 := totL_len (ansA v.elems (loN s v.elems.length) (hiN s v.elems.length))
      refine ⟨arrJ_ok _ (by omega) (fun e he => hv.elem e (mem_ansA he)), ?_⟩
      unfold arrJ
      rw [totJ_mk]
      simp only [keysN, ByteArray.size_empty]
      omega
    · split
      · split
        · rename_i l _
          have h1 := subS_size v.str l (loN s l.length) (hiN s l.length)
          have h2 : (if loN s l.length < hiN s l.length then subS v.str l (loN s l.length) (hiN s l.length) else ByteArray.empty).size ≤ v.str.size := by
            split
            · exact h1
            · simp
          refine ⟨strJ_ok _ (by omega), ?_⟩
          unfold strJ
          rw [totJ_mk]
          simp only [keysN, totL]
          omega
        · exact ⟨strJ_ok _ (by decide), by decide⟩
      · exact hn

theorem vld_str {v : JV} (h : vldJ 0 v = true) : (codesOf v.str).isSome = true := by
  obtain ⟨k, n, s, ks, es⟩ := v
  simp only [vldJ, Bool.and_eq_true] at h
  have h1 := h.1.2
  unfold formJ at h1
  simp only [Bool.and_eq_true] at h1
  exact h1.1.2

theorem okJ_ok {b : Bool} {w : JV} (h : w.Ok) : (okJ b w).Ok := by cases b; exact nullJ_ok; exact h

/-- path.Step and its reference, at a slice step. -/
theorem step_slice (v k : JV) (hk : SlOk k) (hv : totJ v ≤ 1000) (hkt : totJ k ≤ 1000) (hok : v.Ok) : ∃ (w : JV) (e : Int), w.Ok ∧ callF E0 12 [encJ v, encJ k] = some [.p (encJ w), .p (.v (.int .i64 e))] ∧ callF E0 13 [encJ v, encJ k] = some [.p (encJ w), .p (.v (.int .i64 e))] := by
  obtain ⟨h1, h2⟩ := slJ_ok v k hok hv
  refine ⟨_, _, okJ_ok h1, pstep_run v k (slJ v k).1 (slJ v k).2.2 hv hkt (fun hh => ostep_run v k _ _ _ (exists_slice v k hk (by omega))) (fun _ => h2), ?_⟩
  exact rstep_run v k (slJ v k).1 (slJ v k).2.2 hv hkt (fun hh => part_slice v k hk (by omega))

theorem reach_agg (h : AHeap) (cs : List AV) : reach depth h (.agg cs) = cs.flatMap (reach 23 h) := rfl
theorem awk_nil : awakeSpec [] = some [.p (.v (.bool true))] := rfl
theorem slKeys_N : keysN slKeys = 10 := by decide

set_option maxRecDepth 100000 in
theorem pathSlices_run (v a b : JV) (s : ByteArray) (hv : v.Ok) (ha : a.Ok) (hb : b.Ok) : callF E0 3 [encJ v, encJ a, encJ b, .v (.string s)] = some [.p (.v (.bool true))] := by
  rw [callF_fn bd_PathSlices ok_PathSlices]
  obtain ⟨sm, hsm, hsmall⟩ := small_run [v, a, b] (by simp) (by intro e he; simp at he; rcases he with rfl | rfl | rfl <;> assumption) 100 (by decide) (by decide)
  cases sm with
  | false => simp only [symS, symO, symC, symP, symB, symR, symF, symM, symN, if_true, if_false, Nat.reduceEqDiff, Nat.reduceBEq, Nat.reduceAdd, Bool.false_eq_true, Bool.true_eq_false, reduceCtorEq, decide_true, decide_false, Nat.reduceLeDiff, and_self, and_true, true_and, some_is, lt01, symL, Tryz.f3, hsm, awk_nil]
  | true =>
    have ht := hsmall rfl
    have tv : totJ v ≤ 100 := by have := ht v (by simp); omega
    have ta : totJ a ≤ 100 := by have := ht a (by simp); omega
    have tb : totJ b ≤ 100 := by have := ht b (by simp); omega
    by_cases hs : (100 : Int) < s.size
    · simp only [symS, symO, symC, symP, symB, symR, symF, symM, symN, if_true, if_false, Nat.reduceEqDiff, Nat.reduceBEq, Nat.reduceAdd, Bool.false_eq_true, Bool.true_eq_false, reduceCtorEq, decide_true, decide_false, Nat.reduceLeDiff, and_self, and_true, true_and, some_is, lt01, symL, Tryz.f3, hsm, hs, awk_nil]
    · have hst := sstep_run a b (by omega) (by omega)
      cases hval : vldA [a, b] with
      | false =>
        rw [hval] at hst
        simp only [Bool.false_eq_true, if_false] at hst
        have e1 : ((1 : Int) != 0) = true := rfl
        simp only [symS, symO, symC, symP, symB, symR, symF, symM, symN, if_true, if_false, Nat.reduceEqDiff, Nat.reduceBEq, Nat.reduceAdd, Bool.false_eq_true, Bool.true_eq_false, reduceCtorEq, decide_true, decide_false, Nat.reduceLeDiff, and_self, and_true, true_and, some_is, lt01, symL, Tryz.f3, hsm, hs, hst, e1, awk_nil]
      | true =>
        rw [hval] at hst
        simp only [if_true] at hst
        cases hbd : (bndJ a && bndJ b) with
        | false =>
          rw [hbd] at hst
          simp only [Bool.false_eq_true, if_false] at hst
          have e1 : ((12 : Int) != 0) = true := rfl
          simp only [symS, symO, symC, symP, symB, symR, symF, symM, symN, if_true, if_false, Nat.reduceEqDiff, Nat.reduceBEq, Nat.reduceAdd, Bool.false_eq_true, Bool.true_eq_false, reduceCtorEq, decide_true, decide_false, Nat.reduceLeDiff, and_self, and_true, true_and, some_is, lt01, symL, Tryz.f3, hsm, hs, hst, e1, awk_nil]
        | true =>
          rw [hbd] at hst
          simp only [if_true] at hst
          simp only [Bool.and_eq_true] at hbd
          have hkt : totJ (mkSl a b) ≤ 1000 := by
            unfold mkSl
            rw [totJ_mk, slKeys_N]
            simp only [totL, ByteArray.size_empty]
            omega
          have hk : SlOk (mkSl a b) := by
            refine ⟨?_, rfl, hb.rng.1, ha.rng.1⟩
            rw [isSl_eq]
            have e1 : (mkSl a b).kind = 6 := rfl
            have e2 : (mkSl a b).keys = slKeys := rfl
            have e3 : (mkSl a b).elems.getD 0 default = b := rfl
            have e4 : (mkSl a b).elems.getD 1 default = a := rfl
            rw [e1, e2, e3, e4, hbd.1, hbd.2]
            simp
          have hts : totJ (strJ s) ≤ 1000 := by
            unfold strJ
            rw [totJ_mk]
            simp only [keysN, totL]
            omega
          obtain ⟨w1, x1, o1, p1, q1⟩ := step_slice v (mkSl a b) hk (by omega) hkt hv
          obtain ⟨w2, x2, o2, p2, q2⟩ := step_slice (strJ s) (mkSl a b) hk hts hkt (strJ_ok s (by omega))
          have s1 := same_run w1 o1
          have s2 := same_run w2 o2
          have b1 : (x1 == x1) = true := beq_self_eq_true _
          have b2 : (x2 == x2) = true := beq_self_eq_true _
          have e1 : ((0 : Int) != 0) = false := rfl
          have hfold : AV.agg [.v (.int .i64 4), .v (.int .i64 0), .v (.string s), .v (.slice none 0 0), .v (.slice none 0 0)] = AV.agg [.v (.int .i64 4), .v (.int .i64 0), .v (.string s), .v (.slice none 0 0), .v (.slice none 0 0)] := rfl
          have p2' := p2
          unfold strJ at p2 q2
          simp only [symS, symO, symC, symP, symB, symR, symF, symM, symN, if_true, if_false, Nat.reduceEqDiff, Nat.reduceBEq, Nat.reduceAdd, Bool.false_eq_true, Bool.true_eq_false, reduceCtorEq, decide_true, decide_false, Nat.reduceLeDiff, and_self, and_true, true_and, some_is, lt01, symL, Tryz.f3, hsm, hs, hst, e1, p1, q1, p2, q2, s1, s2, b1, b2, awk_nil, reach_agg]

end Go.Abs
