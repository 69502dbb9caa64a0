/-
The program in sight: the bounds of a slice step, and whether a step is one.
-/
import Derived.Test.YtmeepaihgipacaaGreatAbsCell
set_option linter.unusedVariables false
set_option linter.unusedSimpArgs false
namespace Go.Abs
open Go.Proofs

theorem bd_bounds1 : Tryz.prog.funcs[118]? = some Tryz.f118 := by kernel_rfl
theorem ok_bounds1 : fnOk Tryz.f118 = true := by kernel_rfl
theorem bd_boundsO : Tryz.prog.funcs[93]? = some Tryz.f93 := by kernel_rfl
theorem ok_boundsO : fnOk Tryz.f93 = true := by kernel_rfl
theorem bd_EqS : Tryz.prog.funcs[117]? = some Tryz.f117 := by kernel_rfl
theorem ok_EqS : fnOk Tryz.f117 = true := by kernel_rfl
theorem bd_sliceO : Tryz.prog.funcs[90]? = some Tryz.f90 := by kernel_rfl
theorem ok_sliceO : fnOk Tryz.f90 = true := by kernel_rfl

theorem E0_frz1 : E0.frz 118 = true := rfl

set_option maxRecDepth 100000 in
theorem bounds1_run (v : JV) (n miss : Int) (hb : bndJ v = true) (hi : -9223372036854775808 ≤ v.int) (hn : 0 ≤ n) (hn2 : n ≤ 100000) (hmi : 0 ≤ miss) (hmi2 : miss ≤ n) : callF E0 118 [encJ v, .v (.int .i64 miss), .pptr [.v (.int .i64 n)]] = some [.p (.v (.int .i64 (plcJ v n miss)))] := by
  rw [callF_fn bd_bounds1 ok_bounds1]
  by_cases h0 : v.kind = 0
  · have hk : (v.kind == 0) = true := by rw [beq_iff_eq]; exact h0
    have hv : plcJ v n miss = miss := by
      have h3 : ¬ v.kind = 3 := by omega
      have h4 : ¬ miss < 0 := by omega
      have h5 : ¬ n < miss := by omega
      simp only [plcJ, h3, if_false, h4, maxI, minI, h5]
    simp only [symS, symO, symC, symP, symB, symR, symF, symM, symN, if_true, if_false, Nat.reduceEqDiff, Nat.reduceBEq, Nat.reduceAdd, Bool.false_eq_true, Bool.true_eq_false, reduceCtorEq, decide_true, decide_false, Nat.reduceLeDiff, and_self, and_true, true_and, some_is, lt01, Tryz.f118, hk, hv]
  · have hk : (v.kind == 0) = false := by rw [beq_eq_false_iff_ne]; exact h0
    have h3 : v.kind = 3 := by
      unfold bndJ at hb
      rw [hk, Bool.false_or, beq_iff_eq] at hb
      exact hb
    by_cases hneg : v.int < 0
    · have hw : IntKind.i64.wrap (v.int + n) = v.int + n := wrap64 (by omega) (by omega)
      have hp : plcJ v n miss = minI (maxI (v.int + n) 0) n := by simp only [plcJ, h3, if_true, hneg]
      simp only [symS, symO, symC, symP, symB, symR, symF, symM, symN, if_true, if_false, Nat.reduceEqDiff, Nat.reduceBEq, Nat.reduceAdd, Bool.false_eq_true, Bool.true_eq_false, reduceCtorEq, decide_true, decide_false, Nat.reduceLeDiff, and_self, and_true, true_and, some_is, lt01, Tryz.f118, hk, hneg, hw, aop_max, aop_min, mmK_int, hp]
    · have hp : plcJ v n miss = minI (maxI v.int 0) n := by simp only [plcJ, h3, if_true, hneg, if_false]
      simp only [symS, symO, symC, symP, symB, symR, symF, symM, symN, if_true, if_false, Nat.reduceEqDiff, Nat.reduceBEq, Nat.reduceAdd, Bool.false_eq_true, Bool.true_eq_false, reduceCtorEq, decide_true, decide_false, Nat.reduceLeDiff, and_self, and_true, true_and, some_is, lt01, Tryz.f118, hk, hneg, aop_max, aop_min, mmK_int, hp]

set_option maxRecDepth 100000 in
theorem boundsO_run (v : JV) (n : Int) (hl : v.elems.length = 2) (hb0 : bndJ (v.elems.getD 0 default) = true) (hb1 : bndJ (v.elems.getD 1 default) = true) (hi0 : -9223372036854775808 ≤ (v.elems.getD 0 default).int) (hi1 : -9223372036854775808 ≤ (v.elems.getD 1 default).int) (hn : 0 ≤ n) (hn2 : n ≤ 100000) :
    callF E0 93 [encJ v, .v (.int .i64 n)] = some [.p (.v (.int .i64 (plcJ (v.elems.getD 1 default) n 0))), .p (.v (.int .i64 (maxI (plcJ (v.elems.getD 1 default) n 0) (plcJ (v.elems.getD 0 default) n n))))] := by
  rw [callF_fn bd_boundsO ok_boundsO]
  have p1 := bounds1_run (v.elems.getD 1 default) n 0 hb1 hi1 hn hn2 (by omega) hn
  have p0 := bounds1_run (v.elems.getD 0 default) n n hb0 hi0 hn hn2 hn (by omega)
  have z0 : ((0 : Int) ≤ 0 ∧ (0 : Int) < v.elems.length) := by omega
  have z1 : ((0 : Int) ≤ 1 ∧ (1 : Int) < v.elems.length) := by omega
  have n0 : (0 : Int).toNat = 0 := rfl
  have n1 : (1 : Int).toNat = 1 := rfl
  simp only [symS, symO, symC, symP, symB, symR, symF, symM, symN, if_true, if_false, Nat.reduceEqDiff, Nat.reduceBEq, Nat.reduceAdd, Bool.false_eq_true, Bool.true_eq_false, reduceCtorEq, decide_true, decide_false, Nat.reduceLeDiff, and_self, and_true, true_and, some_is, lt01, Tryz.f93, E0_frz1, z0, z1, n0, n1, p0, p1, aop_max, mmK_int]

set_option maxRecDepth 100000 in
theorem eqS_loop (a b : List ByteArray) (hab : a.length = b.length) (hbig : a.length < 4611686018427387904) : ∀ (k i : Nat) (env : Nat → AV) (h : AHeap) (n : Nat) (R : Option (Ex × St)), execF E0 (loopN Tryz.f117 0) ⟨env, h, n⟩ = R → a.length - i = k → i ≤ a.length → env 0 = encS a → env 1 = encS b → env 12 = .v (.int .i64 a.length) → env 13 = .v (.int .i64 i) →
    ∃ x env', R = some (x, ⟨env', h, n⟩) ∧ ((x = .ret ∧ env' 4 = .v (.bool false) ∧ a.drop i ≠ b.drop i) ∨ (x = .exit 0 ∧ a.drop i = b.drop i)) := by
  intro k
  induction k with
  | zero =>
    intro i env h n R hR hk hi h0 h1 h12 h13
    have hil : ¬ ((i : Int) < a.length) := by omega
    simp only [loopN, Tryz.f117, loopsOf, List.append_nil, List.nil_append, List.getD_cons_zero] at hR
    rw [execF_loop] at hR
    simp only [symS, symO, symC, symP, symB, symR, symF, symM, symN, if_true, if_false, Nat.reduceEqDiff, Nat.reduceBEq, Nat.reduceAdd, Bool.false_eq_true, Bool.true_eq_false, reduceCtorEq, decide_true, decide_false, Nat.reduceLeDiff, and_self, and_true, true_and, some_is, lt01, h0, h1, h12, h13, hil, decide_eq_true_eq] at hR
    exact ⟨_, _, hR.symm, .inr ⟨rfl, by rw [List.drop_eq_nil_of_le (by omega), List.drop_eq_nil_of_le (by omega)]⟩⟩
  | succ k ih =>
    intro i env h n R hR hk hi h0 h1 h12 h13
    have hil : ((i : Int) < a.length) := by omega
    have hz : ((0 : Int) ≤ i ∧ (i : Int) < a.length) := by omega
    have hz' : ((0 : Int) ≤ i ∧ (i : Int) < b.length) := by omega
    have hw : IntKind.i64.wrap ((i : Int) + 1) = ((i + 1 : Nat) : Int) := by rw [wrap64 (by omega) (by omega)]; omega
    have hda := drop_getD a i .empty (by omega)
    have hdb := drop_getD b i .empty (by omega)
    simp only [loopN, Tryz.f117, loopsOf, List.append_nil, List.nil_append, List.getD_cons_zero] at hR
    rw [execF_loop] at hR
    by_cases heq : a.getD i .empty = b.getD i .empty
    · have hd : decide (a.getD i .empty = b.getD i .empty) = true := decide_eq_true heq
      simp only [symS, symO, symC, symP, symB, symR, symF, symM, symN, if_true, if_false, Nat.reduceEqDiff, Nat.reduceBEq, Nat.reduceAdd, Bool.false_eq_true, Bool.true_eq_false, reduceCtorEq, decide_true, decide_false, Nat.reduceLeDiff, and_self, and_true, true_and, some_is, lt01, h0, h1, h12, h13, hil, hz, hz', hw, Int.toNat_natCast, hd] at hR
      obtain ⟨x, env', rfl, hp⟩ := ih (i + 1) _ _ _ _ hR (by omega) (by omega) (by simp only [fset_app, Nat.reduceEqDiff, if_false, h0]) (by simp only [fset_app, Nat.reduceEqDiff, if_false, h1]) (by simp only [fset_app, Nat.reduceEqDiff, if_false, h12]) (by simp only [fset_app, if_true])
      refine ⟨x, env', rfl, ?_⟩
      rw [hda, hdb]
      rcases hp with ⟨h1, h2, h3⟩ | ⟨h1, h2⟩
      · exact .inl ⟨h1, h2, fun hh => h3 (List.cons.inj hh).2⟩
      · exact .inr ⟨h1, by rw [heq, h2]⟩
    · have hd : decide (a.getD i .empty = b.getD i .empty) = false := decide_eq_false heq
      simp only [symS, symO, symC, symP, symB, symR, symF, symM, symN, if_true, if_false, Nat.reduceEqDiff, Nat.reduceBEq, Nat.reduceAdd, Bool.false_eq_true, Bool.true_eq_false, reduceCtorEq, decide_true, decide_false, Nat.reduceLeDiff, and_self, and_true, true_and, some_is, lt01, h0, h1, h12, h13, hil, hz, hz', hw, Int.toNat_natCast, hd] at hR
      exact ⟨_, _, hR.symm, .inl ⟨rfl, by simp only [fset_app, if_true], by rw [hda, hdb]; exact fun hh => heq (List.cons.inj hh).1⟩⟩

set_option maxRecDepth 100000 in
theorem eqS_run (a b : List ByteArray) (hbig : a.length < 4611686018427387904) : callF E0 117 [encS a, encS b] = some [.p (.v (.bool (decide (a = b))))] := by
  rw [callF_fn bd_EqS ok_EqS]
  by_cases hl : a.length = b.length
  · have h2 : ((a.length : Int) != b.length) = false := by simp [hl]
    simp only [symS, symO, symC, symP, symB, symR, symF, symM, symN, if_true, if_false, Nat.reduceEqDiff, Nat.reduceBEq, Nat.reduceAdd, Bool.false_eq_true, Bool.true_eq_false, reduceCtorEq, decide_true, decide_false, Nat.reduceLeDiff, and_self, and_true, true_and, some_is, lt01, Tryz.f117, h2]
    generalize hR : execF E0 (Code.loop _) _ = R
    obtain ⟨x, env', rfl, hp⟩ := eqS_loop a b hl hbig _ 0 _ _ _ _ hR rfl (Nat.zero_le _) rfl rfl rfl rfl
    rcases hp with ⟨rfl, h3, h4⟩ | ⟨rfl, h4⟩
    · simp only [symS, symO, symC, symP, symB, symR, symF, symM, symN, if_true, if_false, Nat.reduceEqDiff, Nat.reduceBEq, Nat.reduceAdd, Bool.false_eq_true, Bool.true_eq_false, reduceCtorEq, decide_true, decide_false, Nat.reduceLeDiff, and_self, and_true, true_and, some_is, lt01, h3]
      rw [List.drop_zero, List.drop_zero] at h4
      simp only [h4, decide_false]
    · simp only [symS, symO, symC, symP, symB, symR, symF, symM, symN, if_true, if_false, Nat.reduceEqDiff, Nat.reduceBEq, Nat.reduceAdd, Bool.false_eq_true, Bool.true_eq_false, reduceCtorEq, decide_true, decide_false, Nat.reduceLeDiff, and_self, and_true, true_and, some_is, lt01]
      rw [List.drop_zero, List.drop_zero] at h4
      simp only [h4, decide_true]
  · have h2 : ((a.length : Int) != b.length) = true := by simp [bne_iff_ne]; omega
    have : ¬ a = b := fun hh => hl (by rw [hh])
    simp only [symS, symO, symC, symP, symB, symR, symF, symM, symN, if_true, if_false, Nat.reduceEqDiff, Nat.reduceBEq, Nat.reduceAdd, Bool.false_eq_true, Bool.true_eq_false, reduceCtorEq, decide_true, decide_false, Nat.reduceLeDiff, and_self, and_true, true_and, some_is, lt01, Tryz.f117, h2, this]

theorem ze_str : azero Tryz.prog 9 = some [.v (.string .empty)] := by kernel_rfl
theorem bsSt {P : Program} {t e : TypeId} (h1 : aelem P t = some e) (h2 : azero P e = some [.v (.string .empty)]) (h3 : asize P e = some 1) (d : Option Tmp) (len : Nat) (hl : len * 1 ≤ 16777216) (parts : Array (Nat × Operand)) (ty : TypeId) (pos : String) (af : Array Edge) (g : Option (Nat × Bool)) (st : St) :
    aop P ⟨d, .buildSlice t len parts, ty, pos, af, g⟩ st = bsO st.nxt 1 len [.v (.string .empty)] (parts.toList.map fun p => (p.1, aevalO st.env p.2)) := aop_bs h1 h2 h3 rfl (by decide) d len hl parts ty pos af g st
theorem bsStr (d : Option Tmp) (len : Nat) (hl : len ≤ 8) (parts : Array (Nat × Operand)) (ty : TypeId) (pos : String) (af : Array Edge) (g : Option (Nat × Bool)) (st : St) :
    aop Tryz.prog ⟨d, .buildSlice 22 len parts, ty, pos, af, g⟩ st = bsO st.nxt 1 len [.v (.string .empty)] (parts.toList.map fun p => (p.1, aevalO st.env p.2)) := bsSt el_Strs ze_str sz_str d len (by omega) parts ty pos af g st
theorem bsVal (d : Option Tmp) (len : Nat) (hl : len ≤ 8) (parts : Array (Nat × Operand)) (ty : TypeId) (pos : String) (af : Array Edge) (g : Option (Nat × Bool)) (st : St) :
    aop Tryz.prog ⟨d, .buildSlice 23 len parts, ty, pos, af, g⟩ st = bsO st.nxt 5 len [.v (.int .i64 0), .v (.int .i64 0), .v (.string .empty), .v (.slice none 0 0), .v (.slice none 0 0)] (parts.toList.map fun p => (p.1, aevalO st.env p.2)) := aop_bs el_Vals ze_Val sz_Val rfl (by decide) d len (by omega) parts ty pos af g st
theorem bsS2 (nxt z a b) : bsO nxt 1 2 [z] [(0, .v (.string a)), (1, .v (.string b))] = some ⟨.sl nxt 0 2, [(nxt, some ⟨true, 1, rowS [a, b]⟩)], 1⟩ := rfl
theorem setE0 (e e' : List AV) (r : List (List AV)) : (e :: r).set 0 e' = e' :: r := rfl
theorem setES (e e' : List AV) (r : List (List AV)) (i : Nat) : (e :: r).set (i + 1) e' = e :: r.set i e' := rfl
theorem afJ (es : List (List AV)) (i : Nat) (v : JV) (r : List (Nat × AV)) (h : i < es.length) : afill 5 es ((i, encJ v) :: r) = afill 5 (es.set i (cellsJ v)) r := by
  rw [afill_set 5 es i (encJ v) r rfl h (encJ_flat v), cellsJ_eq]; rfl
theorem bsV0 (nxt sz z) : bsO nxt sz 0 z [] = some ⟨.e0, [], 0⟩ := rfl
theorem bsV1 (nxt z a) : bsO nxt 5 1 z [(0, encJ a)] = some ⟨.sl nxt 0 1, [(nxt, some ⟨true, 5, [a].map cellsJ⟩)], 1⟩ := by
  unfold bsO
  rw [if_neg (by simp), afJ _ _ _ _ (by simp)]; rfl
theorem bsV2 (nxt z a b) : bsO nxt 5 2 z [(0, encJ a), (1, encJ b)] = some ⟨.sl nxt 0 2, [(nxt, some ⟨true, 5, [a, b].map cellsJ⟩)], 1⟩ := by
  unfold bsO
  rw [if_neg (by simp), afJ _ _ _ _ (by simp), afJ _ _ _ _ (by simp)]; rfl
theorem bsV3 (nxt z a b c) : bsO nxt 5 3 z [(0, encJ a), (1, encJ b), (2, encJ c)] = some ⟨.sl nxt 0 3, [(nxt, some ⟨true, 5, [a, b, c].map cellsJ⟩)], 1⟩ := by
  unfold bsO
  rw [if_neg (by simp), afJ _ _ _ _ (by simp), afJ _ _ _ _ (by simp), afJ _ _ _ _ (by simp)]; rfl
def rowV (l : List JV) : List (List AV) := l.map cellsJ
theorem rowV_fold (l : List JV) : l.map cellsJ = rowV l := rfl
theorem purS_S2 (h a b) : purS 23 h 0 2 (some ⟨false, 1, rowS [a, b]⟩) = some (encS [a, b]) := purS_S23 h [a, b]
theorem purS_S2' (h a b) : purS 22 h 0 2 (some ⟨false, 1, rowS [a, b]⟩) = some (encS [a, b]) := purS_S22 h [a, b]
theorem purS_V0 (h) : purS 23 h 0 0 (some ⟨false, 5, ([] : List JV).map cellsJ⟩) = some (encL []) := purS_J23 h []
theorem purS_V1 (h a) : purS 23 h 0 1 (some ⟨false, 5, [a].map cellsJ⟩) = some (encL [a]) := purS_J23 h [a]
theorem purS_V2 (h a b) : purS 23 h 0 2 (some ⟨false, 5, [a, b].map cellsJ⟩) = some (encL [a, b]) := purS_J23 h [a, b]
theorem purS_V3 (h a b c) : purS 23 h 0 3 (some ⟨false, 5, [a, b, c].map cellsJ⟩) = some (encL [a, b, c]) := purS_J23 h [a, b, c]
theorem purS_V1' (h a) : purS 22 h 0 1 (some ⟨false, 5, [a].map cellsJ⟩) = some (encL [a]) := purS_J22 h [a]
theorem purS_V2' (h a b) : purS 22 h 0 2 (some ⟨false, 5, [a, b].map cellsJ⟩) = some (encL [a, b]) := purS_J22 h [a, b]
theorem reach_slD (h b o n) : reach depth h (.sl b o n) = b :: rchB 23 h (h b) := by show reach (23 + 1) h _ = _; rw [reach]; cases h b <;> rfl
theorem reach_sl23 (h b o n) : reach 23 h (.sl b o n) = b :: rchB 22 h (h b) := by show reach (22 + 1) h _ = _; rw [reach]; cases h b <;> rfl
theorem rchB_V (n h lv) (l : List JV) : rchB n h (some ⟨lv, 5, l.map cellsJ⟩) = [] := by
  show (l.map cellsJ).flatMap _ = []
  rw [List.flatMap_eq_nil_iff]
  intro e he
  obtain ⟨v, _, rfl⟩ := List.mem_map.1 he
  exact rch_cellsJ n h v
theorem rchB_S (n h lv sz) (l : List ByteArray) : rchB n h (some ⟨lv, sz, rowS l⟩) = [] := by
  show (rowS l).flatMap _ = []
  rw [List.flatMap_eq_nil_iff]
  intro e he
  obtain ⟨v, _, rfl⟩ := List.mem_map.1 he
  simp [reach_v]
theorem rchB_I (n h lv sz) (l : List Int) : rchB n h (some ⟨lv, sz, rowI l⟩) = [] := by
  show (rowI l).flatMap _ = []
  rw [List.flatMap_eq_nil_iff]
  intro e he
  obtain ⟨v, _, rfl⟩ := List.mem_map.1 he
  simp [reach_v]

theorem symL : type_of% @bsStr ∧ type_of% @bsVal ∧ type_of% @bsS2 ∧ type_of% @bsV0 ∧ type_of% @bsV1 ∧ type_of% @bsV2 ∧ type_of% @bsV3 ∧ type_of% @purS_S2 ∧ type_of% @purS_S2' ∧ type_of% @purS_V0 ∧ type_of% @purS_V1 ∧ type_of% @purS_V2 ∧ type_of% @purS_V3 ∧ type_of% @purS_V1' ∧ type_of% @purS_V2' ∧ type_of% @reach_slD ∧ type_of% @reach_sl23 ∧ type_of% @rchB_V ∧ type_of% @rchB_S ∧ type_of% @rchB_I :=
  ⟨@bsStr, @bsVal, @bsS2, @bsV0, @bsV1, @bsV2, @bsV3, @purS_S2, @purS_S2', @purS_V0, @purS_V1, @purS_V2, @purS_V3, @purS_V1', @purS_V2', @reach_slD, @reach_sl23, @rchB_V, @rchB_S, @rchB_I⟩

/-- The keys of a slice step. -/
def slKeys : List ByteArray := [⟨#[101, 110, 100]⟩, ⟨#[115, 116, 97, 114, 116]⟩]
theorem isSl_eq (v : JV) : isSl v = (v.kind == 6 && decide (v.keys = slKeys) && bndJ (v.elems.getD 0 default) && bndJ (v.elems.getD 1 default)) := by
  have : (decide (v.keys.length = 2) && decide (v.keys.getD 0 .empty = ⟨#[101, 110, 100]⟩) && decide (v.keys.getD 1 .empty = ⟨#[115, 116, 97, 114, 116]⟩)) = decide (v.keys = slKeys) := by
    rw [Bool.eq_iff_iff]
    simp only [Bool.and_eq_true, decide_eq_true_eq]
    unfold slKeys
    rcases v.keys with _ | ⟨x, _ | ⟨y, _ | ⟨z, r⟩⟩⟩ <;> simp
  unfold isSl
  rw [← this]
  simp only [Bool.and_assoc]

set_option maxRecDepth 100000 in
theorem sliceO_run (v : JV) (hl : v.kind = 6 → v.keys.length = v.elems.length) (hk : v.keys.length < 4611686018427387904) : callF E0 90 [encJ v] = some [.p (.v (.bool (isSl v)))] := by
  rw [callF_fn bd_sliceO ok_sliceO, isSl_eq]
  have n0 : (0 : Int).toNat = 0 := rfl
  have n1 : (1 : Int).toNat = 1 := rfl
  by_cases h6 : v.kind = 6
  · have k6 : (v.kind == 6) = true := by rw [beq_iff_eq]; exact h6
    have he := eqS_run v.keys slKeys hk
    unfold slKeys at he
    by_cases hks : v.keys = slKeys
    · have hd : decide (v.keys = slKeys) = true := decide_eq_true hks
      have hd' : decide (v.keys = [⟨#[101, 110, 100]⟩, ⟨#[115, 116, 97, 114, 116]⟩]) = true := hd
      rw [hd'] at he
      have hlen : v.keys.length = 2 := by rw [hks]; rfl
      have := hl h6
      have y0 : ((0 : Int) ≤ 0 ∧ (0 : Int) < v.elems.length) := by omega
      have y1 : ((0 : Int) ≤ 1 ∧ (1 : Int) < v.elems.length) := by omega
      have b0 := boundO_run (v.elems.getD 0 default)
      have b1 := boundO_run (v.elems.getD 1 default)
      cases gb : bndJ (v.elems.getD 0 default) with
      | false =>
        rw [gb] at b0
        simp only [symS, symO, symC, symP, symB, symR, symF, symM, symN, if_true, if_false, Nat.reduceEqDiff, Nat.reduceBEq, Nat.reduceAdd, Bool.false_eq_true, Bool.true_eq_false, reduceCtorEq, decide_true, decide_false, Nat.reduceLeDiff, and_self, and_true, true_and, some_is, lt01, symL, Tryz.f90, k6, he, hd, y0, y1, n0, n1, b0, Bool.and_false, Bool.false_and]
      | true =>
        rw [gb] at b0
        simp only [symS, symO, symC, symP, symB, symR, symF, symM, symN, if_true, if_false, Nat.reduceEqDiff, Nat.reduceBEq, Nat.reduceAdd, Bool.false_eq_true, Bool.true_eq_false, reduceCtorEq, decide_true, decide_false, Nat.reduceLeDiff, and_self, and_true, true_and, some_is, lt01, symL, Tryz.f90, k6, he, hd, y0, y1, n0, n1, b0, b1, Bool.true_and]
    · have hd : decide (v.keys = slKeys) = false := decide_eq_false hks
      have hd' : decide (v.keys = [⟨#[101, 110, 100]⟩, ⟨#[115, 116, 97, 114, 116]⟩]) = false := hd
      rw [hd'] at he
      simp only [symS, symO, symC, symP, symB, symR, symF, symM, symN, if_true, if_false, Nat.reduceEqDiff, Nat.reduceBEq, Nat.reduceAdd, Bool.false_eq_true, Bool.true_eq_false, reduceCtorEq, decide_true, decide_false, Nat.reduceLeDiff, and_self, and_true, true_and, some_is, lt01, symL, Tryz.f90, k6, he, hd, Bool.and_false, Bool.false_and]
  · have k6 : (v.kind == 6) = false := by rw [beq_eq_false_iff_ne]; exact h6
    simp only [symS, symO, symC, symP, symB, symR, symF, symM, symN, if_true, if_false, Nat.reduceEqDiff, Nat.reduceBEq, Nat.reduceAdd, Bool.false_eq_true, Bool.true_eq_false, reduceCtorEq, decide_true, decide_false, Nat.reduceLeDiff, and_self, and_true, true_and, some_is, lt01, symL, Tryz.f90, k6, Bool.false_and]

end Go.Abs
