/-
The program in sight: what a slice step denotes.
-/
import Derived.Test.YtmeepaihgipacaaGreatAbsRun
set_option linter.unusedVariables false
set_option linter.unusedSimpArgs false
namespace Go.Abs
open Go.Proofs

theorem bd_List2 : Tryz.prog.funcs[62]? = some Tryz.f62 := by kernel_rfl
theorem ok_List2 : fnOk Tryz.f62 = true := by kernel_rfl
theorem bd_exists : Tryz.prog.funcs[57]? = some Tryz.f57 := by kernel_rfl
theorem ok_exists : fnOk Tryz.f57 = true := by kernel_rfl
theorem bd_part : Tryz.prog.funcs[37]? = some Tryz.f37 := by kernel_rfl
theorem ok_part : fnOk Tryz.f37 = true := by kernel_rfl

theorem aread_encL0 (h : AHeap) (P : Program) : aread h P (encL []) = some [] := rfl
theorem rowV_wf (l : List JV) : ∀ y ∈ rowV l, y.length = 5 ∧ y.all AV.isCell = true := by
  intro y hy
  obtain ⟨v, _, rfl⟩ := List.mem_map.1 hy
  exact cellsJ_wf v _ (by simp)
theorem aread_encV (h : AHeap) (P : Program) (l : List JV) : aread h P (encL l) = some (rowV l) := aread_encL h P l
theorem purS_V22 (h : AHeap) (l : List JV) : purS 22 h 0 (rowV l).length (some ⟨false, 5, rowV l⟩) = some (encL l) := by rw [rowV_len]; exact purS_J22 h l

set_option maxRecDepth 100000 in
theorem list_run (l : List JV) (hl : l.length ≤ 1000000000) : callF E0 62 [encL l] = some [.p (encJ (arrJ l))] := by
  rw [callF_fn bd_List2 ok_List2]
  cases hl0 : l with
  | nil => simp only [symS, symO, symC, symP, symB, symR, symF, symM, symN, if_true, if_false, Nat.reduceEqDiff, Nat.reduceBEq, Nat.reduceAdd, Bool.false_eq_true, Bool.true_eq_false, reduceCtorEq, decide_true, decide_false, Nat.reduceLeDiff, and_self, and_true, true_and, some_is, lt01, symL, Tryz.f62, ap_V, bsV0, aread_encL0, apO_none, apE_e0, arrJ]
  | cons v r =>
    rw [← hl0]
    have hne : rowV l ≠ [] := by rw [hl0]; simp [rowV]
    have ha := fun (h : AHeap) (nxt : Nat) => apO_new (h := h) (nxt := nxt) (sz := 5) (by_ := 80) (d := .e0) (.inl rfl) hne (rowV_wf l) (by rw [rowV_len]; unfold maxBytes; omega)
    simp only [symS, symO, symC, symP, symB, symR, symF, symM, symN, if_true, if_false, Nat.reduceEqDiff, Nat.reduceBEq, Nat.reduceAdd, Bool.false_eq_true, Bool.true_eq_false, reduceCtorEq, decide_true, decide_false, Nat.reduceLeDiff, and_self, and_true, true_and, some_is, lt01, symL, Tryz.f62, ap_V, bsV0, aread_encV, ha, arrJ, purS_V22]

theorem kt {x c : Int} (h : x = c) : (x == c) = true := by rw [beq_iff_eq]; exact h
theorem kf {x c : Int} (h : ¬ x = c) : (x == c) = false := by rw [beq_eq_false_iff_ne]; exact h

theorem plcJ_range (v : JV) (n m : Int) (hn : 0 ≤ n) : 0 ≤ plcJ v n m ∧ plcJ v n m ≤ n := by
  simp only [plcJ, minI, maxI]
  generalize (if v.kind = 3 then v.int else m) = k
  generalize (if k < 0 then k + n else k) = j
  split <;> split <;> omega

/-- The part of a list between two places. -/
def ansA (l : List JV) (a b : Nat) : List JV := if a < b then (l.take b).drop a else []
theorem ansA_max (l : List JV) (a b : Nat) : (l.take (max a b)).drop a = ansA l a b := by
  unfold ansA
  split
  · rw [Nat.max_eq_right (by omega)]
  · rw [Nat.max_eq_left (by omega)]
    exact List.drop_eq_nil_of_le (by rw [List.length_take]; omega)
theorem ansA_min (l : List JV) (a b : Nat) : (l.take b).drop (min a b) = ansA l a b := by
  unfold ansA
  split
  · rw [Nat.min_eq_left (by omega)]
  · rw [Nat.min_eq_right (by omega)]
    exact List.drop_eq_nil_of_le (by rw [List.length_take]; omega)

/-- The bounds of a slice step. -/
def loN (s : JV) (n : Nat) : Nat := (plcJ (s.elems.getD 1 default) n 0).toNat
def hiN (s : JV) (n : Nat) : Nat := (plcJ (s.elems.getD 0 default) n n).toNat
theorem loN_eq (s : JV) (n : Nat) : plcJ (s.elems.getD 1 default) n 0 = (loN s n : Int) := by
  have := plcJ_range (s.elems.getD 1 default) n 0 (by omega)
  unfold loN; omega
theorem hiN_eq (s : JV) (n : Nat) : plcJ (s.elems.getD 0 default) n n = (hiN s n : Int) := by
  have := plcJ_range (s.elems.getD 0 default) n n (by omega)
  unfold hiN; omega
theorem loN_le (s : JV) (n : Nat) : loN s n ≤ n := by
  have := plcJ_range (s.elems.getD 1 default) n 0 (by omega)
  unfold loN; omega
theorem hiN_le (s : JV) (n : Nat) : hiN s n ≤ n := by
  have := plcJ_range (s.elems.getD 0 default) n n (by omega)
  unfold hiN; omega

/-- A slice step that can be used. -/
structure SlOk (s : JV) : Prop where
  is : isSl s = true
  len : s.elems.length = 2
  i0 : -9223372036854775808 ≤ (s.elems.getD 0 default).int
  i1 : -9223372036854775808 ≤ (s.elems.getD 1 default).int
theorem SlOk.kind {s : JV} (h : SlOk s) : s.kind = 6 := by
  have := h.is
  rw [isSl_eq] at this
  simp only [Bool.and_eq_true, beq_iff_eq] at this
  exact this.1.1.1
theorem SlOk.keys {s : JV} (h : SlOk s) : s.keys = slKeys := by
  have := h.is
  rw [isSl_eq] at this
  simp only [Bool.and_eq_true, beq_iff_eq, decide_eq_true_eq] at this
  exact this.1.1.2
theorem SlOk.b0 {s : JV} (h : SlOk s) : bndJ (s.elems.getD 0 default) = true := by
  have := h.is
  rw [isSl_eq] at this
  simp only [Bool.and_eq_true] at this
  exact this.1.2
theorem SlOk.b1 {s : JV} (h : SlOk s) : bndJ (s.elems.getD 1 default) = true := by
  have := h.is
  rw [isSl_eq] at this
  simp only [Bool.and_eq_true] at this
  exact this.2
theorem SlOk.slice {s : JV} (h : SlOk s) : callF E0 90 [encJ s] = some [.p (.v (.bool true))] := by
  rw [sliceO_run s (fun _ => by rw [h.keys, h.len]; rfl) (by rw [h.keys]; decide), h.is]
theorem SlOk.isSlice {s : JV} (h : SlOk s) : callF E0 58 [encJ s] = some [.p (.v (.bool true))] := by
  rw [isSliceR_run s (fun _ => by rw [h.keys, h.len]; rfl), h.is]
theorem maxI_nat (a b : Nat) : maxI (a : Int) b = ((max a b : Nat) : Int) := by unfold maxI; split <;> omega
theorem minI_nat (a b : Nat) : minI (a : Int) b = ((min a b : Nat) : Int) := by unfold minI; split <;> omega
theorem SlOk.boundsO {s : JV} (h : SlOk s) (n : Nat) (hn : n ≤ 100000) : callF E0 93 [encJ s, .v (.int .i64 n)] = some [.p (.v (.int .i64 (loN s n))), .p (.v (.int .i64 (max (loN s n) (hiN s n) : Nat)))] := by
  rw [boundsO_run s n h.len h.b0 h.b1 h.i0 h.i1 (by omega) (by omega), loN_eq, hiN_eq, maxI_nat]
theorem SlOk.boundsR {s : JV} (h : SlOk s) (n : Nat) (hn : n ≤ 100000) : callF E0 61 [encJ s, .v (.int .i64 n)] = some [.p (.v (.int .i64 (loN s n))), .p (.v (.int .i64 (hiN s n)))] := by
  rw [boundsR_run s n h.len h.i0 h.i1 (by omega) (by omega), loN_eq, hiN_eq]

/-- What a slice step denotes, and the error. -/
def slJ (v s : JV) : JV × Bool × Int :=
  if v.kind = 0 then (nullJ, false, 0) else
  if v.kind = 5 then (arrJ (ansA v.elems (loN s v.elems.length) (hiN s v.elems.length)), true, 0) else
  if v.kind = 4 then match codesOf v.str with
    | some l => (strJ (if loN s l.length < hiN s l.length then subS v.str l (loN s l.length) (hiN s l.length) else .empty), true, 0)
    | none => (strJ .empty, true, 0)
  else (nullJ, false, 12)

set_option maxRecDepth 100000 in
theorem exists_slice (v s : JV) (hs : SlOk s) (hv : totJ v ≤ 100000) : callF E0 57 [encJ v, encJ s] = some [.p (encJ (slJ v s).1), .p (.v (.bool (slJ v s).2.1)), .p (.v (.int .i64 (slJ v s).2.2))] := by
  rw [callF_fn bd_exists ok_exists]
  have s4 : (s.kind == 4) = false := kf (by rw [hs.kind]; decide)
  have s3 : (s.kind == 3) = false := kf (by rw [hs.kind]; decide)
  have hsl := hs.slice
  have hn := none_run
  by_cases h0 : v.kind = 0
  · have k0 := kt h0
    have e : slJ v s = (nullJ, false, 0) := by unfold slJ; rw [if_pos h0]
    simp only [symS, symO, symC, symP, symB, symR, symF, symM, symN, if_true, if_false, Nat.reduceEqDiff, Nat.reduceBEq, Nat.reduceAdd, Bool.false_eq_true, Bool.true_eq_false, reduceCtorEq, decide_true, decide_false, Nat.reduceLeDiff, and_self, and_true, true_and, some_is, lt01, symL, Tryz.f57, k0, s4, s3, hsl, hn, e]
  have k0 := kf h0
  by_cases h5 : v.kind = 5
  · have k5 := kt h5
    have k6 : (v.kind == 6) = false := kf (by omega)
    have e : slJ v s = (arrJ (ansA v.elems (loN s v.elems.length) (hiN s v.elems.length)), true, 0) := by unfold slJ; rw [if_neg h0, if_pos h5]
    have hlen := totL_len v.elems
    have ht := totJ_eq v
    have hb := hs.boundsO v.elems.length (by omega)
    have hlo := loN_le s v.elems.length
    have hhi := hiN_le s v.elems.length
    have hcond : ((0 : Int) ≤ (loN s v.elems.length : Int) ∧ (loN s v.elems.length : Int) ≤ (max (loN s v.elems.length) (hiN s v.elems.length) : Nat) ∧ ((max (loN s v.elems.length) (hiN s v.elems.length) : Nat) : Int) ≤ (v.elems.length : Int)) := by omega
    have harr := arr_run (ansA v.elems (loN s v.elems.length) (hiN s v.elems.length))
    simp only [symS, symO, symC, symP, symB, symR, symF, symM, symN, if_true, if_false, Nat.reduceEqDiff, Nat.reduceBEq, Nat.reduceAdd, Bool.false_eq_true, Bool.true_eq_false, reduceCtorEq, decide_true, decide_false, Nat.reduceLeDiff, and_self, and_true, true_and, some_is, lt01, symL, Tryz.f57, k0, k5, k6, s4, s3, hsl, hn, hb, aop_slice3 el_Vals sz_Val, sl3_encL, hcond, reach_slL, pur_slL, Int.toNat_natCast, ansA_max, harr, e]
  have k5 := kf h5
  by_cases h4 : v.kind = 4
  · have k4 := kt h4
    have k6 : (v.kind == 6) = false := kf (by omega)
    cases hcl : codesOf v.str with
    | none =>
      have e : slJ v s = (strJ .empty, true, 0) := by unfold slJ; rw [if_neg h0, if_neg h5, if_pos h4, hcl]
      have ht := totJ_eq v
      have hcn := countU_run v.str (by omega)
      rw [hcl] at hcn
      have hcn' : callF E0 94 [.v (.string v.str)] = some [.p (.v (.int .i64 ((0 : Nat) : Int))), .p (.v (.bool false))] := hcn
      have hb := hs.boundsO 0 (by omega)
      have hsu := sliceU_none v.str (by omega) hcl (loN s 0) (max (loN s 0) (hiN s 0))
      have hst := str_run .empty
      simp only [symS, symO, symC, symP, symB, symR, symF, symM, symN, if_true, if_false, Nat.reduceEqDiff, Nat.reduceBEq, Nat.reduceAdd, Bool.false_eq_true, Bool.true_eq_false, reduceCtorEq, decide_true, decide_false, Nat.reduceLeDiff, and_self, and_true, true_and, some_is, lt01, symL, Tryz.f57, k0, k5, k6, k4, s4, s3, hsl, hn, hcn', hb, hsu, hst, e]
    | some l =>
      have e : slJ v s = (strJ (if loN s l.length < hiN s l.length then subS v.str l (loN s l.length) (hiN s l.length) else .empty), true, 0) := by unfold slJ; rw [if_neg h0, if_neg h5, if_pos h4, hcl]
      have ht := totJ_eq v
      have hcn := countU_run v.str (by omega)
      rw [hcl] at hcn
      have hcn' : callF E0 94 [.v (.string v.str)] = some [.p (.v (.int .i64 l.length)), .p (.v (.bool true))] := hcn
      have hll := (codes_len v.str v.str.size 0 l hcl).1
      have hb := hs.boundsO l.length (by omega)
      have hlo := loN_le s l.length
      have hhi := hiN_le s l.length
      have hsu := sliceU_run v.str (by omega) l hcl (loN s l.length) (max (loN s l.length) (hiN s l.length)) (by omega)
      have e2 : (if loN s l.length < max (loN s l.length) (hiN s l.length) then subS v.str l (loN s l.length) (max (loN s l.length) (hiN s l.length)) else ByteArray.empty) = (if loN s l.length < hiN s l.length then subS v.str l (loN s l.length) (hiN s l.length) else .empty) := by
        by_cases hlt : loN s l.length < hiN s l.length
        · rw [if_pos hlt, Nat.max_eq_right (by omega), if_pos hlt]
        · rw [if_neg hlt, Nat.max_eq_left (by omega), if_neg (by omega)]
      rw [e2] at hsu
      have hst := str_run (if loN s l.length < hiN s l.length then subS v.str l (loN s l.length) (hiN s l.length) else .empty)
      generalize (if loN s l.length < hiN s l.length then subS v.str l (loN s l.length) (hiN s l.length) else ByteArray.empty) = q at *
      simp only [symS, symO, symC, symP, symB, symR, symF, symM, symN, if_true, if_false, Nat.reduceEqDiff, Nat.reduceBEq, Nat.reduceAdd, Bool.false_eq_true, Bool.true_eq_false, reduceCtorEq, decide_true, decide_false, Nat.reduceLeDiff, and_self, and_true, true_and, some_is, lt01, symL, Tryz.f57, k0, k5, k6, k4, s4, s3, hsl, hn, hcn', hb, hsu, hst, e]
  have k4 := kf h4
  have e : slJ v s = (nullJ, false, 12) := by unfold slJ; rw [if_neg h0, if_neg h5, if_neg h4]
  by_cases h6 : v.kind = 6
  · have k6 := kt h6
    simp only [symS, symO, symC, symP, symB, symR, symF, symM, symN, if_true, if_false, Nat.reduceEqDiff, Nat.reduceBEq, Nat.reduceAdd, Bool.false_eq_true, Bool.true_eq_false, reduceCtorEq, decide_true, decide_false, Nat.reduceLeDiff, and_self, and_true, true_and, some_is, lt01, symL, Tryz.f57, k0, k5, k6, k4, s4, s3, hsl, hn, e]
  · have k6 := kf h6
    simp only [symS, symO, symC, symP, symB, symR, symF, symM, symN, if_true, if_false, Nat.reduceEqDiff, Nat.reduceBEq, Nat.reduceAdd, Bool.false_eq_true, Bool.true_eq_false, reduceCtorEq, decide_true, decide_false, Nat.reduceLeDiff, and_self, and_true, true_and, some_is, lt01, symL, Tryz.f57, k0, k5, k6, k4, s4, s3, hsl, hn, e]

set_option maxRecDepth 100000 in
theorem part_slice (v s : JV) (hs : SlOk s) (hv : totJ v ≤ 100000) : callF E0 37 [encJ v, encJ s] = some [.p (encJ (slJ v s).1), .p (.v (.int .i64 (slJ v s).2.2))] := by
  rw [callF_fn bd_part ok_part]
  have s4 : (s.kind == 4) = false := kf (by rw [hs.kind]; decide)
  have s3 : (s.kind == 3) = false := kf (by rw [hs.kind]; decide)
  have hsl := hs.isSlice
  by_cases h0 : v.kind = 0
  · have k0 := kt h0
    have e : slJ v s = (nullJ, false, 0) := by unfold slJ; rw [if_pos h0]
    simp only [symS, symO, symC, symP, symB, symR, symF, symM, symN, if_true, if_false, Nat.reduceEqDiff, Nat.reduceBEq, Nat.reduceAdd, Bool.false_eq_true, Bool.true_eq_false, reduceCtorEq, decide_true, decide_false, Nat.reduceLeDiff, and_self, and_true, true_and, some_is, lt01, symL, Tryz.f37, k0, s4, s3, hsl, e, nullJ]
  have k0 := kf h0
  by_cases h5 : v.kind = 5
  · have k5 := kt h5
    have k6 : (v.kind == 6) = false := kf (by omega)
    have e : slJ v s = (arrJ (ansA v.elems (loN s v.elems.length) (hiN s v.elems.length)), true, 0) := by unfold slJ; rw [if_neg h0, if_pos h5]
    have hlen := totL_len v.elems
    have ht := totJ_eq v
    have hb := hs.boundsR v.elems.length (by omega)
    have hlo := loN_le s v.elems.length
    have hhi := hiN_le s v.elems.length
    have hcond : ((0 : Int) ≤ (min (loN s v.elems.length) (hiN s v.elems.length) : Nat) ∧ ((min (loN s v.elems.length) (hiN s v.elems.length) : Nat) : Int) ≤ (hiN s v.elems.length : Int) ∧ (hiN s v.elems.length : Int) ≤ (v.elems.length : Int)) := by omega
    have hal : (ansA v.elems (loN s v.elems.length) (hiN s v.elems.length)).length ≤ 1000000000 := by
      unfold ansA
      split
      · rw [List.length_drop, List.length_take]; omega
      · simp
    have harr := list_run _ hal
    simp only [symS, symO, symC, symP, symB, symR, symF, symM, symN, if_true, if_false, Nat.reduceEqDiff, Nat.reduceBEq, Nat.reduceAdd, Bool.false_eq_true, Bool.true_eq_false, reduceCtorEq, decide_true, decide_false, Nat.reduceLeDiff, and_self, and_true, true_and, some_is, lt01, symL, Tryz.f37, k0, k5, k6, s4, s3, hsl, hb, aop_min, mmK_int, minI_nat, aop_slice2 el_Vals sz_Val, sl2_encL, hcond, Int.toNat_natCast, ansA_min, harr, e]
  have k5 := kf h5
  by_cases h4 : v.kind = 4
  · have k4 := kt h4
    have k6 : (v.kind == 6) = false := kf (by omega)
    cases hcl : codesOf v.str with
    | none =>
      have e : slJ v s = (strJ .empty, true, 0) := by unfold slJ; rw [if_neg h0, if_neg h5, if_pos h4, hcl]
      have ht := totJ_eq v
      have hcn := countR_run v.str (by omega)
      rw [hcl] at hcn
      have hcn' : callF E0 63 [.v (.string v.str)] = some [.p (.v (.int .i64 ((0 : Nat) : Int))), .p (.v (.bool false))] := hcn
      have hb := hs.boundsR 0 (by omega)
      have hsu := sliceR_none v.str (by omega) hcl (loN s 0) (hiN s 0)
      have hst := text_run .empty
      simp only [symS, symO, symC, symP, symB, symR, symF, symM, symN, if_true, if_false, Nat.reduceEqDiff, Nat.reduceBEq, Nat.reduceAdd, Bool.false_eq_true, Bool.true_eq_false, reduceCtorEq, decide_true, decide_false, Nat.reduceLeDiff, and_self, and_true, true_and, some_is, lt01, symL, Tryz.f37, k0, k5, k6, k4, s4, s3, hsl, hcn', hb, hsu, hst, e]
    | some l =>
      have e : slJ v s = (strJ (if loN s l.length < hiN s l.length then subS v.str l (loN s l.length) (hiN s l.length) else .empty), true, 0) := by unfold slJ; rw [if_neg h0, if_neg h5, if_pos h4, hcl]
      have ht := totJ_eq v
      have hcn := countR_run v.str (by omega)
      rw [hcl] at hcn
      have hcn' : callF E0 63 [.v (.string v.str)] = some [.p (.v (.int .i64 l.length)), .p (.v (.bool true))] := hcn
      have hll := (codes_len v.str v.str.size 0 l hcl).1
      have hb := hs.boundsR l.length (by omega)
      have hlo := loN_le s l.length
      have hhi := hiN_le s l.length
      have hsu := sliceR_run v.str (by omega) l hcl (loN s l.length) (hiN s l.length) (by omega)
      have hst := text_run (if loN s l.length < hiN s l.length then subS v.str l (loN s l.length) (hiN s l.length) else .empty)
      generalize (if loN s l.length < hiN s l.length then subS v.str l (loN s l.length) (hiN s l.length) else ByteArray.empty) = q at *
      simp only [symS, symO, symC, symP, symB, symR, symF, symM, symN, if_true, if_false, Nat.reduceEqDiff, Nat.reduceBEq, Nat.reduceAdd, Bool.false_eq_true, Bool.true_eq_false, reduceCtorEq, decide_true, decide_false, Nat.reduceLeDiff, and_self, and_true, true_and, some_is, lt01, symL, Tryz.f37, k0, k5, k6, k4, s4, s3, hsl, hcn', hb, hsu, hst, e]
  have k4 := kf h4
  have e : slJ v s = (nullJ, false, 12) := by unfold slJ; rw [if_neg h0, if_neg h5, if_neg h4]
  by_cases h6 : v.kind = 6
  · have k6 := kt h6
    simp only [symS, symO, symC, symP, symB, symR, symF, symM, symN, if_true, if_false, Nat.reduceEqDiff, Nat.reduceBEq, Nat.reduceAdd, Bool.false_eq_true, Bool.true_eq_false, reduceCtorEq, decide_true, decide_false, Nat.reduceLeDiff, and_self, and_true, true_and, some_is, lt01, symL, Tryz.f37, k0, k5, k6, k4, s4, s3, hsl, e, nullJ]
  · have k6 := kf h6
    simp only [symS, symO, symC, symP, symB, symR, symF, symM, symN, if_true, if_false, Nat.reduceEqDiff, Nat.reduceBEq, Nat.reduceAdd, Bool.false_eq_true, Bool.true_eq_false, reduceCtorEq, decide_true, decide_false, Nat.reduceLeDiff, and_self, and_true, true_and, some_is, lt01, symL, Tryz.f37, k0, k5, k6, k4, s4, s3, hsl, e, nullJ]

end Go.Abs
