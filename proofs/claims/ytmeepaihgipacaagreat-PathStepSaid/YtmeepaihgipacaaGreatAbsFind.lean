/-
The program in sight: finding a member.
-/
import Derived.Test.YtmeepaihgipacaaGreatAbsPath
set_option linter.unusedVariables false
set_option linter.unusedSimpArgs false
namespace Go.Abs
open Go.Proofs

/-! ### The order of strings -/

theorem bl_eq : ∀ (x y : List UInt8), Op.bytesLess x y = decide (x < y)
  | [], [] => by simp [Op.bytesLess]
  | _ :: _, [] => by simp [Op.bytesLess]
  | [], _ :: _ => by simp [Op.bytesLess]
  | a :: x, b :: y => by
    rw [Op.bytesLess, bl_eq x y]
    simp only [List.cons_lt_cons_iff]
    by_cases h1 : a < b <;> by_cases h2 : a = b <;> by_cases h3 : x < y <;> simp [h1, h2, h3]
theorem sless_iff (r s : ByteArray) : sless r s = true ↔ r.toList < s.toList := by
  unfold sless
  rw [bl_eq, decide_eq_true_eq]
theorem sless_trans {a b c : ByteArray} (h1 : sless a b = true) (h2 : sless b c = true) : sless a c = true := by
  rw [sless_iff] at *
  exact List.lt_trans h1 h2
theorem sless_irrefl (a : ByteArray) : sless a a = false := by
  have := sless_tri a a
  simp at this
  cases h : sless a a with
  | false => rfl
  | true => rw [h] at this; simp at this

/-- In strictly ascending order. -/
def SortS (l : List ByteArray) : Prop := l.Pairwise fun a b => sless a b = true
theorem keysOk_sort : ∀ (p : Option ByteArray) (l : List ByteArray), keysOk p l = true → SortS l ∧ (∀ q, p = some q → ∀ k ∈ l, sless q k = true)
  | p, [], _ => ⟨List.Pairwise.nil, fun _ _ k hk => by cases hk⟩
  | p, k :: r, h => by
    simp only [keysOk, Bool.and_eq_true] at h
    obtain ⟨h1, h2⟩ := keysOk_sort (some k) r h.2
    refine ⟨List.Pairwise.cons (fun b hb => h2 k rfl b hb) h1, ?_⟩
    rintro q rfl x hx
    have h3 : sless q k = true := h.1.2
    rcases List.mem_cons.1 hx with rfl | hx
    · exact h3
    · exact sless_trans h3 (h2 k rfl x hx)

theorem sort_at {l : List ByteArray} (h : SortS l) {i j : Nat} (hij : i < j) (hj : j < l.length) : sless (l.getD i .empty) (l.getD j .empty) = true := by
  have := List.pairwise_iff_getElem.1 h i j (by omega) hj hij
  rw [List.getD_eq_getElem?_getD, List.getD_eq_getElem?_getD, List.getElem?_eq_getElem hj, List.getElem?_eq_getElem (by omega)]
  exact this

/-- How many keys come before a key. -/
def posS (l : List ByteArray) (t : ByteArray) : Nat := l.findIdx fun k => !sless k t
theorem posS_le (l : List ByteArray) (t : ByteArray) : posS l t ≤ l.length := List.findIdx_le_length
theorem posS_of {l : List ByteArray} {t : ByteArray} {i : Nat} (hi : i ≤ l.length) (h1 : ∀ k, k < i → sless (l.getD k .empty) t = true) (h2 : ∀ k, i ≤ k → k < l.length → sless (l.getD k .empty) t = false) : posS l t = i := by
  have gd : ∀ k, (hk : k < l.length) → l.getD k .empty = l[k] := fun k hk => by
    rw [List.getD_eq_getElem?_getD, List.getElem?_eq_getElem hk]; rfl
  unfold posS
  rcases Nat.lt_or_ge i l.length with hlt | hge
  · rw [List.findIdx_eq hlt]
    refine ⟨by have := h2 i (Nat.le_refl _) hlt; rw [gd i hlt] at this; simp [this], fun j hj => ?_⟩
    have := h1 j hj
    rw [gd j (by omega)] at this
    simp [this]
  · have hil : i = l.length := by omega
    rw [hil, List.findIdx_eq_length]
    intro x hx
    obtain ⟨k, hk, rfl⟩ := List.mem_iff_getElem.1 hx
    have := h1 k (by omega)
    rw [gd k hk] at this
    simp [this]

theorem bd_Search : Tryz.prog.funcs[134]? = some Tryz.f134 := by kernel_rfl
theorem ok_Search : fnOk Tryz.f134 = true := by kernel_rfl
theorem bd_Less : Tryz.prog.funcs[153]? = some Tryz.f153 := by kernel_rfl
theorem ok_Less : fnOk Tryz.f153 = true := by kernel_rfl
theorem bd_NaN1 : Tryz.prog.funcs[152]? = some Tryz.f152 := by kernel_rfl
theorem ok_NaN1 : fnOk Tryz.f152 = true := by kernel_rfl
theorem bd_NaN2 : Tryz.prog.funcs[154]? = some Tryz.f154 := by kernel_rfl
theorem ok_NaN2 : fnOk Tryz.f154 = true := by kernel_rfl
theorem bd_Find : Tryz.prog.funcs[106]? = some Tryz.f106 := by kernel_rfl
theorem ok_Find : fnOk Tryz.f106 = true := by kernel_rfl
theorem bd_GetO : Tryz.prog.funcs[91]? = some Tryz.f91 := by kernel_rfl
theorem ok_GetO : fnOk Tryz.f91 = true := by kernel_rfl
theorem bd_GetR : Tryz.prog.funcs[59]? = some Tryz.f59 := by kernel_rfl
theorem ok_GetR : fnOk Tryz.f59 = true := by kernel_rfl

set_option maxRecDepth 100000 in
theorem nan1_run (s : ByteArray) : callF E0 152 [.v (.string s)] = some [.p (.v (.bool false))] := by
  rw [callF_fn bd_NaN1 ok_NaN1]
  simp only [symS, symO, symC, symP, symB, symR, symF, symM, symN, if_true, if_false, Nat.reduceEqDiff, Nat.reduceBEq, Nat.reduceAdd, Bool.false_eq_true, Bool.true_eq_false, reduceCtorEq, decide_true, decide_false, Nat.reduceLeDiff, and_self, and_true, true_and, some_is, lt01, Tryz.f152, Bool.not_true]
set_option maxRecDepth 100000 in
theorem nan2_run (s : ByteArray) : callF E0 154 [.v (.string s)] = some [.p (.v (.bool false))] := by
  rw [callF_fn bd_NaN2 ok_NaN2]
  simp only [symS, symO, symC, symP, symB, symR, symF, symM, symN, if_true, if_false, Nat.reduceEqDiff, Nat.reduceBEq, Nat.reduceAdd, Bool.false_eq_true, Bool.true_eq_false, reduceCtorEq, decide_true, decide_false, Nat.reduceLeDiff, and_self, and_true, true_and, some_is, lt01, Tryz.f154, Bool.not_true]
set_option maxRecDepth 100000 in
theorem less_run (a b : ByteArray) : callF E0 153 [.v (.string a), .v (.string b)] = some [.p (.v (.bool (sless a b)))] := by
  rw [callF_fn bd_Less ok_Less]
  simp only [symS, symO, symC, symP, symB, symR, symF, symM, symN, if_true, if_false, Nat.reduceEqDiff, Nat.reduceBEq, Nat.reduceAdd, Bool.false_eq_true, Bool.true_eq_false, reduceCtorEq, decide_true, decide_false, Nat.reduceLeDiff, and_self, and_true, true_and, some_is, lt01, Tryz.f153, nan1_run]

theorem un_uint : Tryz.prog.underlying 91 = some (.int .u64) := by kernel_rfl
theorem shr1 (P t x y k') (a : Nat) : binO P .shr t x y (.v (.int .u64 (a : Int))) (.v (.int k' 1)) = some ⟨.v (.int .u64 ((a / 2 : Nat) : Int)), [], 0⟩ := by
  rw [bin_shr, if_neg (by decide), ← fdiv_nat]; rfl

set_option maxRecDepth 100000 in
theorem search_loop (l : List ByteArray) (t : ByteArray) (hl : l.length < 4611686018427387904) (hs : SortS l) : ∀ (m i j : Nat) (env : Nat → AV) (h : AHeap) (n : Nat) (R : Option (Ex × St)), execF E0 (loopN Tryz.f134 0) ⟨env, h, n⟩ = R → j - i ≤ m → i ≤ j → j ≤ l.length →
    (∀ k, k < i → sless (l.getD k .empty) t = true) → (∀ k, j ≤ k → k < l.length → sless (l.getD k .empty) t = false) →
    env 0 = encS l → env 1 = .v (.string t) → env 6 = .v (.int .i64 l.length) → env 7 = .v (.int .i64 i) → env 8 = .v (.int .i64 j) →
    ∃ env', R = some (.exit 0, ⟨env', h, n⟩) ∧ env' 0 = encS l ∧ env' 1 = .v (.string t) ∧ env' 6 = .v (.int .i64 l.length) ∧ env' 7 = .v (.int .i64 (posS l t)) := by
  intro m
  induction m with
  | zero =>
    intro i j env h n R hR hm hij hj hlo hhi h0 h1 h6 h7 h8
    have hii : i = j := by omega
    subst hii
    have hil : ¬ ((i : Int) < i) := by omega
    simp only [loopN, Tryz.f134, loopsOf, List.append_nil, List.nil_append, List.getD_cons_zero] at hR
    rw [execF_loop] at hR
    simp only [symS, symO, symC, symP, symB, symR, symF, symM, symN, if_true, if_false, Nat.reduceEqDiff, Nat.reduceBEq, Nat.reduceAdd, Bool.false_eq_true, Bool.true_eq_false, reduceCtorEq, decide_true, decide_false, Nat.reduceLeDiff, and_self, and_true, true_and, some_is, lt01, h7, h8, hil] at hR
    exact ⟨_, hR.symm, h0, h1, h6, by rw [posS_of hj hlo hhi]; exact h7⟩
  | succ m ih =>
    intro i j env h n R hR hm hij hj hlo hhi h0 h1 h6 h7 h8
    rcases Nat.eq_or_lt_of_le hij with hii | hlt
    · subst hii
      have hil : ¬ ((i : Int) < i) := by omega
      simp only [loopN, Tryz.f134, loopsOf, List.append_nil, List.nil_append, List.getD_cons_zero] at hR
      rw [execF_loop] at hR
      simp only [symS, symO, symC, symP, symB, symR, symF, symM, symN, if_true, if_false, Nat.reduceEqDiff, Nat.reduceBEq, Nat.reduceAdd, Bool.false_eq_true, Bool.true_eq_false, reduceCtorEq, decide_true, decide_false, Nat.reduceLeDiff, and_self, and_true, true_and, some_is, lt01, h7, h8, hil] at hR
      exact ⟨_, hR.symm, h0, h1, h6, by rw [posS_of hj hlo hhi]; exact h7⟩
    · have hil : ((i : Int) < j) := by omega
      have w1 : IntKind.i64.wrap ((i : Int) + j) = ((i + j : Nat) : Int) := by rw [wrap64 (by omega) (by omega)]; omega
      have w2 : IntKind.u64.wrap (((i + j : Nat)) : Int) = ((i + j : Nat) : Int) := by rw [IntKind.wrap_u64]; omega
      have w3 : IntKind.i64.wrap ((((i + j) / 2 : Nat)) : Int) = (((i + j) / 2 : Nat) : Int) := by rw [wrap64 (by omega) (by omega)]
      have w4 : IntKind.i64.wrap ((((i + j) / 2 : Nat) : Int) + 1) = (((i + j) / 2 + 1 : Nat) : Int) := by rw [wrap64 (by omega) (by omega)]; omega
      have hz : ((0 : Int) ≤ ((i + j) / 2 : Nat) ∧ (((i + j) / 2 : Nat) : Int) < l.length) := by omega
      have hrun := less_run (l.getD ((i + j) / 2) .empty) t
      simp only [loopN, Tryz.f134, loopsOf, List.append_nil, List.nil_append, List.getD_cons_zero] at hR
      rw [execF_loop] at hR
      cases hb : sless (l.getD ((i + j) / 2) .empty) t with
      | true =>
        rw [hb] at hrun
        simp only [symS, symO, symC, symP, symB, symR, symF, symM, symN, if_true, if_false, Nat.reduceEqDiff, Nat.reduceBEq, Nat.reduceAdd, Bool.false_eq_true, Bool.true_eq_false, reduceCtorEq, decide_true, decide_false, Nat.reduceLeDiff, and_self, and_true, true_and, some_is, lt01, h0, h1, h7, h8, hil, w1, cv_int un_int un_uint, cv_int un_uint un_int, w2, shr1, w3, hz, Int.toNat_natCast, hrun, w4] at hR
        exact ih ((i + j) / 2 + 1) j _ _ _ _ hR (by omega) (by omega) hj (fun k hk => by
          rcases Nat.lt_or_ge k ((i + j) / 2) with h9 | h9
          · exact sless_trans (sort_at hs h9 (by omega)) hb
          · have : k = (i + j) / 2 := by omega
            rw [this]; exact hb) hhi (by simp [fset_app, h0]) (by simp [fset_app, h1]) (by simp [fset_app, h6]) (by simp [fset_app]) (by simp [fset_app, h8])
      | false =>
        rw [hb] at hrun
        simp only [symS, symO, symC, symP, symB, symR, symF, symM, symN, if_true, if_false, Nat.reduceEqDiff, Nat.reduceBEq, Nat.reduceAdd, Bool.false_eq_true, Bool.true_eq_false, reduceCtorEq, decide_true, decide_false, Nat.reduceLeDiff, and_self, and_true, true_and, some_is, lt01, h0, h1, h7, h8, hil, w1, cv_int un_int un_uint, cv_int un_uint un_int, w2, shr1, w3, hz, Int.toNat_natCast, hrun, w4] at hR
        exact ih i ((i + j) / 2) _ _ _ _ hR (by omega) (by omega) (by omega) hlo (fun k hk hkl => by
          rcases Nat.eq_or_lt_of_le hk with h9 | h9
          · rw [← h9]; exact hb
          · cases h10 : sless (l.getD k .empty) t with
            | false => rfl
            | true => rw [sless_trans (sort_at hs h9 hkl) h10] at hb; cases hb) (by simp [fset_app, h0]) (by simp [fset_app, h1]) (by simp [fset_app, h6]) (by simp [fset_app, h7]) (by simp [fset_app])

/-- Whether a key is there. -/
def hasS (l : List ByteArray) (t : ByteArray) : Bool := decide (posS l t < l.length) && decide (l.getD (posS l t) .empty = t)

set_option maxRecDepth 100000 in
theorem search_run (l : List ByteArray) (t : ByteArray) (hl : l.length < 4611686018427387904) (hs : SortS l) : callF E0 134 [encS l, .v (.string t)] = some [.p (.v (.int .i64 (posS l t))), .p (.v (.bool (hasS l t)))] := by
  rw [callF_fn bd_Search ok_Search]
  simp only [symS, symO, symC, symP, symB, symR, symF, symM, symN, if_true, if_false, Nat.reduceEqDiff, Nat.reduceBEq, Nat.reduceAdd, Bool.false_eq_true, Bool.true_eq_false, reduceCtorEq, decide_true, decide_false, Nat.reduceLeDiff, and_self, and_true, true_and, some_is, lt01, Tryz.f134]
  generalize hR : execF E0 (Code.loop _) _ = R
  obtain ⟨env', rfl, g0, g1, g6, g7⟩ := search_loop l t hl hs l.length 0 l.length _ _ _ _ hR (by omega) (by omega) (by omega) (fun k hk => absurd hk (by omega)) (fun k hk hkl => absurd hk (by omega)) rfl rfl rfl rfl rfl
  by_cases hlt : posS l t < l.length
  · have h1 : ((posS l t : Int) < l.length) := by omega
    have hz : ((0 : Int) ≤ (posS l t : Int) ∧ (posS l t : Int) < l.length) := by omega
    cases he : decide (l.getD (posS l t) .empty = t) with
    | true =>
      have hh : hasS l t = true := by simp only [hasS, hlt, he, decide_true, Bool.and_self]
      simp only [symS, symO, symC, symP, symB, symR, symF, symM, symN, if_true, if_false, Nat.reduceEqDiff, Nat.reduceBEq, Nat.reduceAdd, Bool.false_eq_true, Bool.true_eq_false, reduceCtorEq, decide_true, decide_false, Nat.reduceLeDiff, and_self, and_true, true_and, some_is, lt01, g0, g1, g6, g7, h1, hz, Int.toNat_natCast, he, hh]
    | false =>
      have hh : hasS l t = false := by simp only [hasS, he, Bool.and_false]
      simp only [symS, symO, symC, symP, symB, symR, symF, symM, symN, if_true, if_false, Nat.reduceEqDiff, Nat.reduceBEq, Nat.reduceAdd, Bool.false_eq_true, Bool.true_eq_false, reduceCtorEq, decide_true, decide_false, Nat.reduceLeDiff, and_self, and_true, true_and, some_is, lt01, g0, g1, g6, g7, h1, hz, Int.toNat_natCast, he, hh, nan2_run]
  · have h1 : ¬ ((posS l t : Int) < l.length) := by omega
    have hh : hasS l t = false := by simp only [hasS, hlt, decide_false, Bool.false_and]
    simp only [symS, symO, symC, symP, symB, symR, symF, symM, symN, if_true, if_false, Nat.reduceEqDiff, Nat.reduceBEq, Nat.reduceAdd, Bool.false_eq_true, Bool.true_eq_false, reduceCtorEq, decide_true, decide_false, Nat.reduceLeDiff, and_self, and_true, true_and, some_is, lt01, g0, g1, g6, g7, h1, hh]

set_option maxRecDepth 100000 in
theorem find_run (v : JV) (t : ByteArray) (hl : v.keys.length < 4611686018427387904) (hs : SortS v.keys) : callF E0 106 [encJ v, .v (.string t)] = some [.p (.v (.int .i64 (posS v.keys t))), .p (.v (.bool (hasS v.keys t)))] := by
  rw [callF_fn bd_Find ok_Find]
  have h := search_run v.keys t hl hs
  simp only [symS, symO, symC, symP, symB, symR, symF, symM, symN, if_true, if_false, Nat.reduceEqDiff, Nat.reduceBEq, Nat.reduceAdd, Bool.false_eq_true, Bool.true_eq_false, reduceCtorEq, decide_true, decide_false, Nat.reduceLeDiff, and_self, and_true, true_and, some_is, lt01, Tryz.f106, h]

/-- A member, or null. -/
def memJ (v : JV) (t : ByteArray) : JV := if hasS v.keys t = true then v.elems.getD (posS v.keys t) default else nullJ

set_option maxRecDepth 100000 in
theorem getO_run (v : JV) (t : ByteArray) (hl : v.keys.length < 4611686018427387904) (hs : SortS v.keys) (hel : v.keys.length = v.elems.length) : callF E0 91 [encJ v, .v (.string t)] = some [.p (encJ (memJ v t)), .p (.v (.bool (hasS v.keys t)))] := by
  rw [callF_fn bd_GetO ok_GetO]
  have h := find_run v t hl hs
  cases hb : hasS v.keys t with
  | true =>
    rw [hb] at h
    have hlt : posS v.keys t < v.keys.length := by
      simp only [hasS, Bool.and_eq_true, decide_eq_true_eq] at hb
      exact hb.1
    have hz : ((0 : Int) ≤ (posS v.keys t : Int) ∧ (posS v.keys t : Int) < v.elems.length) := by omega
    have e : memJ v t = v.elems.getD (posS v.keys t) default := by unfold memJ; rw [if_pos hb]
    simp only [symS, symO, symC, symP, symB, symR, symF, symM, symN, if_true, if_false, Nat.reduceEqDiff, Nat.reduceBEq, Nat.reduceAdd, Bool.false_eq_true, Bool.true_eq_false, reduceCtorEq, decide_true, decide_false, Nat.reduceLeDiff, and_self, and_true, true_and, some_is, lt01, symL, Tryz.f91, h, hz, Int.toNat_natCast, e]
  | false =>
    rw [hb] at h
    have e : memJ v t = nullJ := by unfold memJ; rw [hb]; rfl
    simp only [symS, symO, symC, symP, symB, symR, symF, symM, symN, if_true, if_false, Nat.reduceEqDiff, Nat.reduceBEq, Nat.reduceAdd, Bool.false_eq_true, Bool.true_eq_false, reduceCtorEq, decide_true, decide_false, Nat.reduceLeDiff, and_self, and_true, true_and, some_is, lt01, symL, Tryz.f91, h, e, nullJ]

set_option maxRecDepth 100000 in
theorem getR_loop (v : JV) (t : ByteArray) (hl : v.keys.length < 4611686018427387904) (hs : SortS v.keys) (hel : v.keys.length = v.elems.length) : ∀ (k i : Nat) (env : Nat → AV) (h : AHeap) (n : Nat) (R : Option (Ex × St)), execF E0 (loopN Tryz.f59 0) ⟨env, h, n⟩ = R → v.keys.length - i = k → i ≤ v.keys.length →
    env 2 = .ptr 0 0 0 → env 4 = .ptr 1 0 0 → env 1 = .v (.string t) → env 6 = .v (.int .i64 i) → h 0 = some ⟨true, 5, [cellsJ v]⟩ → (∃ c0 c1 c2 c3 c4, h 1 = some ⟨true, 5, [[c0, c1, c2, c3, c4]]⟩) → (∀ q, q < i → ¬ v.keys.getD q .empty = t) →
    ∃ env' h', (R = some (.exit 0, ⟨env', h', n⟩) ∧ hasS v.keys t = false ∧ env' 4 = .ptr 1 0 0 ∧ (∃ c0 c1 c2 c3 c4, h' 1 = some ⟨true, 5, [[c0, c1, c2, c3, c4]]⟩)) ∨
      (R = some (.ret, ⟨env', h', n⟩) ∧ hasS v.keys t = true ∧ env' 4 = .ptr 1 0 0 ∧ env' 5 = .v (.bool true) ∧ h' 1 = some ⟨true, 5, [cellsJ (v.elems.getD (posS v.keys t) default)]⟩) := by
  intro k
  induction k with
  | zero =>
    intro i env h n R hR hk hi h2 h4 h1 h6 hh hr hno
    have hil : ¬ ((i : Int) < v.keys.length) := by omega
    simp only [loopN, Tryz.f59, loopsOf, List.append_nil, List.nil_append, List.getD_cons_zero] at hR
    rw [execF_loop] at hR
    simp only [symS, symO, symC, symP, symB, symR, symF, symM, symN, if_true, if_false, Nat.reduceEqDiff, Nat.reduceBEq, Nat.reduceAdd, Bool.false_eq_true, Bool.true_eq_false, reduceCtorEq, decide_true, decide_false, Nat.reduceLeDiff, and_self, and_true, true_and, some_is, lt01, h2, h4, h1, h6, hh, hil] at hR
    refine ⟨_, _, .inl ⟨hR.symm, ?_, by simp [fset_app, h4], hr⟩⟩
    cases hb : hasS v.keys t with
    | false => rfl
    | true =>
      simp only [hasS, Bool.and_eq_true, decide_eq_true_eq] at hb
      exact absurd hb.2 (hno _ (by omega))
  | succ k ih =>
    intro i env h n R hR hk hi h2 h4 h1 h6 hh hr hno
    have hil : ((i : Int) < v.keys.length) := by omega
    have hz : ((0 : Int) ≤ i ∧ (i : Int) < v.keys.length) := by omega
    have hz2 : ((0 : Int) ≤ i ∧ (i : Int) < v.elems.length) := by omega
    have hw : IntKind.i64.wrap ((i : Int) + 1) = ((i + 1 : Nat) : Int) := by rw [wrap64 (by omega) (by omega)]; omega
    obtain ⟨c0, c1, c2, c3, c4, hr⟩ := hr
    simp only [loopN, Tryz.f59, loopsOf, List.append_nil, List.nil_append, List.getD_cons_zero] at hR
    rw [execF_loop] at hR
    by_cases he : v.keys.getD i .empty = t
    · have hd : decide (v.keys.getD i .empty = t) = true := decide_eq_true he
      simp only [symS, symO, symC, symP, symB, symR, symF, symM, symN, if_true, if_false, Nat.reduceEqDiff, Nat.reduceBEq, Nat.reduceAdd, Bool.false_eq_true, Bool.true_eq_false, reduceCtorEq, decide_true, decide_false, Nat.reduceLeDiff, and_self, and_true, true_and, some_is, lt01, h2, h4, h1, h6, hh, hr, hil, hz, hz2, hw, Int.toNat_natCast, hd] at hR
      have hpos : posS v.keys t = i := posS_of (by omega) (fun q hq => by rw [← he]; exact sort_at hs hq (by omega)) (fun q hq hql => by
        rcases Nat.eq_or_lt_of_le hq with h9 | h9
        · rw [← h9, he]; exact sless_irrefl t
        · cases h10 : sless (v.keys.getD q .empty) t with
          | false => rfl
          | true =>
            have h11 := sort_at hs h9 hql
            rw [he] at h11
            have := sless_trans h10 h11
            rw [sless_irrefl] at this
            cases this)
      have hhas : hasS v.keys t = true := by
        simp only [hasS, hpos, hd, Bool.and_true, decide_eq_true_eq]
        omega
      refine ⟨_, _, .inr ⟨hR.symm, hhas, by simp [fset_app, h4], by simp [fset_app], ?_⟩⟩
      rw [hpos]
      simp [fset_app]
    · have hd : decide (v.keys.getD i .empty = t) = false := decide_eq_false he
      simp only [symS, symO, symC, symP, symB, symR, symF, symM, symN, if_true, if_false, Nat.reduceEqDiff, Nat.reduceBEq, Nat.reduceAdd, Bool.false_eq_true, Bool.true_eq_false, reduceCtorEq, decide_true, decide_false, Nat.reduceLeDiff, and_self, and_true, true_and, some_is, lt01, h2, h4, h1, h6, hh, hr, hil, hz, hz2, hw, Int.toNat_natCast, hd] at hR
      exact ih (i + 1) _ _ _ _ hR (by omega) (by omega) (by simp [fset_app, h2]) (by simp [fset_app, h4]) (by simp [fset_app, h1]) (by simp [fset_app]) hh ⟨c0, c1, c2, c3, c4, hr⟩ (fun q hq => by
        rcases Nat.lt_or_ge q i with h9 | h9
        · exact hno q h9
        · have : q = i := by omega
          rw [this]; exact he)

set_option maxRecDepth 100000 in
theorem getR_run (v : JV) (t : ByteArray) (ht : totJ v ≤ 1000) (hv : vldJ 0 v = true) (h6 : v.kind = 6) (hs : SortS v.keys) (hel : v.keys.length = v.elems.length) : callF E0 59 [encJ v, .v (.string t)] = some [.p (encJ (memJ v t)), .p (.v (.bool (hasS v.keys t)))] := by
  rw [callF_fn bd_GetR ok_GetR]
  have hval := valid2_run v ht
  rw [hv] at hval
  have k6 : (v.kind != 6) = false := by rw [bne_eq_false_iff_eq]; exact h6
  have hlen := keysN_len v.keys
  have htt := totJ_eq v
  simp only [symS, symO, symC, symP, symB, symR, symF, symM, symN, if_true, if_false, Nat.reduceEqDiff, Nat.reduceBEq, Nat.reduceAdd, Bool.false_eq_true, Bool.true_eq_false, reduceCtorEq, decide_true, decide_false, Nat.reduceLeDiff, and_self, and_true, true_and, some_is, lt01, symL, Tryz.f59, hval, k6]
  generalize hR : execF E0 (Code.loop _) _ = R
  obtain ⟨env', h', hp⟩ := getR_loop v t (by omega) hs hel _ 0 _ _ _ _ hR rfl (Nat.zero_le _) rfl rfl rfl rfl rfl ⟨_, _, _, _, _, rfl⟩ (fun q hq => absurd hq (by omega))
  rcases hp with ⟨rfl, g1, g4, c0, c1, c2, c3, c4, g5⟩ | ⟨rfl, g1, g4, g5, g6⟩
  · have e : memJ v t = nullJ := by unfold memJ; rw [g1]; rfl
    simp only [symS, symO, symC, symP, symB, symR, symF, symM, symN, if_true, if_false, Nat.reduceEqDiff, Nat.reduceBEq, Nat.reduceAdd, Bool.false_eq_true, Bool.true_eq_false, reduceCtorEq, decide_true, decide_false, Nat.reduceLeDiff, and_self, and_true, true_and, some_is, lt01, g1, g4, g5, e, nullJ]
  · have e : memJ v t = v.elems.getD (posS v.keys t) default := by unfold memJ; rw [if_pos g1]
    simp only [symS, symO, symC, symP, symB, symR, symF, symM, symN, if_true, if_false, Nat.reduceEqDiff, Nat.reduceBEq, Nat.reduceAdd, Bool.false_eq_true, Bool.true_eq_false, reduceCtorEq, decide_true, decide_false, Nat.reduceLeDiff, and_self, and_true, true_and, some_is, lt01, g1, g4, g5, g6, e]

end Go.Abs
