/-
The program in sight: the form of a value.
-/
import Derived.Test.YtmeepaihgipacaaGreatAbsUtf
set_option linter.unusedVariables false
set_option linter.unusedSimpArgs false
namespace Go.Abs
open Go.Proofs

theorem bd_formed : Tryz.prog.funcs[111]? = some Tryz.f111 := by kernel_rfl
theorem ok_formed : fnOk Tryz.f111 = true := by kernel_rfl

/-! ### The order of strings -/

theorem bytesLess_tri : ∀ a b : List UInt8, (Op.bytesLess a b || decide (a = b)) = !Op.bytesLess b a
  | [], [] => rfl
  | [], _ :: _ => rfl
  | _ :: _, [] => rfl
  | x :: a, y :: b => by
    have ih := bytesLess_tri a b
    simp only [Op.bytesLess]
    rcases UInt8.lt_or_lt_of_ne (a := x) (b := y) |> fun h => (if e : x = y then Or.inl e else Or.inr (h e)) with e | h | h
    · subst e
      have hx : decide (x < x) = false := decide_eq_false (UInt8.lt_irrefl x)
      simp only [hx, beq_self_eq_true, Bool.false_or, Bool.true_and, List.cons.injEq, true_and]
      exact ih
    · have h1 : decide (x < y) = true := decide_eq_true h
      have h2 : decide (y < x) = false := decide_eq_false (fun h' => UInt8.lt_irrefl x (UInt8.lt_trans h h'))
      have h3 : (y == x) = false := by rw [beq_eq_false_iff_ne]; intro e; subst e; exact UInt8.lt_irrefl _ h
      simp [h1, h2, h3]
    · have h1 : decide (y < x) = true := decide_eq_true h
      have h2 : decide (x < y) = false := decide_eq_false (fun h' => UInt8.lt_irrefl x (UInt8.lt_trans h' h))
      have h3 : (x == y) = false := by rw [beq_eq_false_iff_ne]; intro e; subst e; exact UInt8.lt_irrefl _ h
      have h4 : x ≠ y := by intro e; subst e; exact UInt8.lt_irrefl _ h
      simp [h1, h2, h3, h4]

theorem sless_tri (r s : ByteArray) : (sless r s || decide (r = s)) = !sless s r := by
  rw [← str_eq]
  have := bytesLess_tri r.toList s.toList
  unfold sless
  rw [← this]
  congr 1
  rw [Bool.eq_iff_iff]
  simp

def ltP : Option ByteArray → ByteArray → Bool
  | none, _ => true
  | some q, k => sless q k

/-- Keys: encodings, in strictly ascending order. -/
def keysOk : Option ByteArray → List ByteArray → Bool
  | _, [] => true
  | p, k :: r => (codesOf k).isSome && ltP p k && keysOk (some k) r

/-- The form of a value without its elements. -/
def formJ (v : JV) : Bool :=
  (v.kind == 3 || v.int == 0) && (v.kind == 4 || decide (v.str = ⟨#[]⟩)) && (v.kind == 6 || v.keys.isEmpty) && (decide (5 ≤ v.kind) || v.elems.isEmpty) && (codesOf v.str).isSome &&
    (v.kind != 6 || (decide (v.keys.length = v.elems.length) && keysOk none v.keys))

theorem keysN_mem : ∀ {l : List ByteArray} {k : ByteArray}, k ∈ l → k.size ≤ keysN l
  | a :: r, k, h => by
    rcases List.mem_cons.1 h with rfl | h
    · simp only [keysN]; omega
    · have := keysN_mem h; simp only [keysN]; omega
theorem keysN_len : ∀ l : List ByteArray, l.length ≤ keysN l
  | [] => Nat.le_refl _
  | a :: r => by have := keysN_len r; simp only [keysN, List.length_cons]; omega
theorem totL_len : ∀ l : List JV, l.length ≤ totL l
  | [] => Nat.le_refl _
  | v :: r => by have := totL_len r; have := totJ_eq v; simp only [totL, List.length_cons]; omega
theorem totL_mem : ∀ {l : List JV} {v : JV}, v ∈ l → totJ v ≤ totL l
  | a :: r, v, h => by
    rcases List.mem_cons.1 h with rfl | h
    · simp only [totL]; omega
    · have := totL_mem h; simp only [totL]; omega

def prevOf (ks : List ByteArray) (i : Nat) : Option ByteArray := if i = 0 then none else some (ks.getD (i - 1) .empty)

set_option maxRecDepth 100000 in
theorem formed_loop (v : JV) (hv : totJ v ≤ 4096) : ∀ (k i : Nat) (env : Nat → AV) (h : AHeap) (n : Nat) (R : Option (Ex × St)), execF E0 (loopN Tryz.f111 0) ⟨env, h, n⟩ = R → v.keys.length - i = k → i ≤ v.keys.length →
    h 0 = some ⟨true, 5, [cellsJ v]⟩ → env 1 = .ptr 0 0 0 → env 68 = encS v.keys → env 69 = .v (.int .i64 v.keys.length) → env 70 = .v (.int .i64 i) →
    ∃ x env', R = some (x, ⟨env', h, n⟩) ∧ ((x = .exit 0 ∧ keysOk (prevOf v.keys i) (v.keys.drop i) = true) ∨ (x = .ret ∧ env' 2 = .v (.bool false) ∧ keysOk (prevOf v.keys i) (v.keys.drop i) = false)) := by
  have htot := totJ_eq v
  have hkl := keysN_len v.keys
  intro k
  induction k with
  | zero =>
    intro i env h n R hR hk hi hh h1 h68 h69 h70
    have hil : ¬ ((i : Int) < v.keys.length) := by omega
    simp only [loopN, Tryz.f111, loopsOf, List.append_nil, List.nil_append, List.getD_cons_zero, execF_loop, symS, symO, symC, symP, symB, if_true, if_false, Nat.reduceEqDiff, Nat.reduceBEq, Bool.false_eq_true, Bool.true_eq_false, reduceCtorEq, decide_true, decide_false, h69, h70, hil] at hR
    exact ⟨_, _, hR.symm, .inl ⟨rfl, by rw [List.drop_eq_nil_of_le (by omega)]; rfl⟩⟩
  | succ k ih =>
    intro i env h n R hR hk hi hh h1 h68 h69 h70
    have hil : ((i : Int) < v.keys.length) := by omega
    have hi0 : (0 : Int) ≤ i := by omega
    have hw : IntKind.i64.wrap ((i : Int) + 1) = ((i + 1 : Nat) : Int) := by rw [wrap64 (by omega) (by omega)]; omega
    have hmem : v.keys.getD i .empty ∈ v.keys := by rw [List.getD_eq_getElem?_getD, List.getElem?_eq_getElem (by omega), Option.getD_some]; exact List.getElem_mem _
    have hsz := keysN_mem hmem
    have hlen : ¬ (4096 < ((v.keys.getD i .empty).size : Int)) := by omega
    have hval := validU_run (v.keys.getD i .empty) (by omega)
    have hdrop := drop_getD v.keys i .empty (by omega)
    have hprev : prevOf v.keys (i + 1) = some (v.keys.getD i .empty) := by simp [prevOf]
    simp only [loopN, Tryz.f111, loopsOf, List.append_nil, List.nil_append, List.getD_cons_zero] at hR
    rw [execF_loop] at hR
    rw [hdrop, keysOk]
    have next : ∀ (env2 : Nat → AV) (R : Option (Ex × St)), (codesOf (v.keys.getD i .empty)).isSome = true → ltP (prevOf v.keys i) (v.keys.getD i .empty) = true → execF E0 (loopN Tryz.f111 0) ⟨env2, h, n⟩ = R → env2 1 = .ptr 0 0 0 → env2 68 = encS v.keys → env2 69 = .v (.int .i64 v.keys.length) → env2 70 = .v (.int .i64 ((i + 1 : Nat) : Int)) →
        ∃ x env', R = some (x, ⟨env', h, n⟩) ∧ ((x = .exit 0 ∧ ((codesOf (v.keys.getD i .empty)).isSome && ltP (prevOf v.keys i) (v.keys.getD i .empty) && keysOk (some (v.keys.getD i .empty)) (v.keys.drop (i + 1))) = true) ∨ (x = .ret ∧ env' 2 = .v (.bool false) ∧ ((codesOf (v.keys.getD i .empty)).isSome && ltP (prevOf v.keys i) (v.keys.getD i .empty) && keysOk (some (v.keys.getD i .empty)) (v.keys.drop (i + 1))) = false)) := by
      intro env2 R hc hp hR2 e1 e68 e69 e70
      obtain ⟨x, env', rfl, hq⟩ := ih (i + 1) env2 h n R hR2 (by omega) (by omega) hh e1 e68 e69 e70
      rw [hprev] at hq
      refine ⟨x, env', rfl, ?_⟩
      rw [hc, hp, Bool.true_and, Bool.true_and]
      exact hq
    cases hc : (codesOf (v.keys.getD i .empty)).isSome with
    | false =>
      rw [hc] at hval
      simp only [symS, symO, symC, symP, symB, if_true, if_false, Nat.reduceEqDiff, Nat.reduceBEq, Bool.false_eq_true, Bool.true_eq_false, reduceCtorEq, decide_true, decide_false, h1, h68, h69, h70, hil, hi0, and_self, Int.toNat_natCast, hlen, hval] at hR
      exact ⟨_, _, hR.symm, .inr ⟨rfl, by simp only [fset_app, if_true], by simp⟩⟩
    | true =>
      rw [hc] at hval
      by_cases hz : i = 0
      · subst hz
        have hn : ¬ ((0 : Int) < ((0 : Nat) : Int)) := by omega
        simp only [symS, symO, symC, symP, symB, if_true, if_false, Nat.reduceEqDiff, Nat.reduceBEq, Bool.false_eq_true, Bool.true_eq_false, reduceCtorEq, decide_true, decide_false, h1, h68, h69, h70, hil, hi0, and_self, Int.toNat_natCast, hlen, hval, hn, hw] at hR
        have := next _ R hc rfl hR (by simp only [fset_app, Nat.reduceEqDiff, if_false, h1]) (by simp only [fset_app, Nat.reduceEqDiff, if_false, h68]) (by simp only [fset_app, Nat.reduceEqDiff, if_false, h69]) (by simp only [fset_app, if_true])
        rw [hc] at this
        exact this
      · have hn : (0 : Int) < (i : Int) := by omega
        have hp : prevOf v.keys i = some (v.keys.getD (i - 1) .empty) := by simp [prevOf, hz]
        have hw1 : IntKind.i64.wrap ((i : Int) - 1) = ((i - 1 : Nat) : Int) := by rw [wrap64 (by omega) (by omega)]; omega
        have hj0 : (0 : Int) ≤ ((i - 1 : Nat) : Int) := by omega
        have hj1 : ((i - 1 : Nat) : Int) < v.keys.length := by omega
        have htri := sless_tri (v.keys.getD i .empty) (v.keys.getD (i - 1) .empty)
        cases hsl : sless (v.keys.getD (i - 1) .empty) (v.keys.getD i .empty) with
        | true =>
          rw [hsl] at htri
          simp only [symS, symO, symC, symP, symB, if_true, if_false, Nat.reduceEqDiff, Nat.reduceBEq, Bool.false_eq_true, Bool.true_eq_false, reduceCtorEq, decide_true, decide_false, hh, h1, h68, h69, h70, hil, hi0, and_self, Int.toNat_natCast, hlen, hval, hn, hw, hw1, hj0, hj1, htri] at hR
          have := next _ R hc (by rw [hp]; exact hsl) hR (by simp only [fset_app, Nat.reduceEqDiff, if_false, h1]) (by simp only [fset_app, Nat.reduceEqDiff, if_false, h68]) (by simp only [fset_app, Nat.reduceEqDiff, if_false, h69]) (by simp only [fset_app, if_true])
          rw [hc] at this
          exact this
        | false =>
          rw [hsl] at htri
          simp only [symS, symO, symC, symP, symB, if_true, if_false, Nat.reduceEqDiff, Nat.reduceBEq, Bool.false_eq_true, Bool.true_eq_false, reduceCtorEq, decide_true, decide_false, hh, h1, h68, h69, h70, hil, hi0, and_self, Int.toNat_natCast, hlen, hval, hn, hw, hw1, hj0, hj1, htri] at hR
          exact ⟨_, _, hR.symm, .inr ⟨rfl, by simp only [fset_app, if_true], by rw [hp]; simp only [ltP, hsl, Bool.and_false, Bool.false_and]⟩⟩

set_option maxRecDepth 100000 in
set_option maxHeartbeats 4000000 in
theorem formed_run (v : JV) (hv : totJ v ≤ 1000) : callF E0 111 [encJ v] = some [.p (.v (.bool (formJ v)))] := by
  rw [callF_fn bd_formed ok_formed]
  have htot := totJ_eq v
  have hkl := keysN_len v.keys
  have hel := totL_len v.elems
  have hU := validU_run v.str (by omega)
  by_cases qc3 : v.kind = 3
  · have k3 : (v.kind != 3) = false := by rw [bne_eq_false_iff_eq]; omega
    have k3' : (v.kind == 3) = true := by rw [beq_iff_eq]; omega
    have k4 : (v.kind != 4) = true := by rw [bne_iff_ne]; omega
    have k4' : (v.kind == 4) = false := by rw [beq_eq_false_iff_ne]; omega
    have k6 : (v.kind != 6) = true := by rw [bne_iff_ne]; omega
    have k6' : (v.kind == 6) = false := by rw [beq_eq_false_iff_ne]; omega
    have k5 : v.kind < 5 := by omega
    have k5' : decide (5 ≤ v.kind) = false := by exact decide_eq_false (by omega)
    by_cases tS : ¬ v.str = ⟨#[]⟩
    · have xS : decide (v.str = ⟨#[]⟩) = false := by exact decide_eq_false tS
      have hf : formJ v = false := by simp only [formJ, k3', k4', k6', k5', xS, Bool.or_self, Bool.false_and, Bool.and_false]
      simp only [Tryz.f111, symS, symO, symC, symP, symB, if_true, if_false, Nat.reduceEqDiff, Nat.reduceBEq, Bool.false_eq_true, Bool.true_eq_false, reduceCtorEq, decide_true, decide_false, k3, k4, k5, k6, xS, hf]
    · rw [Decidable.not_not] at tS
      have xS : decide (v.str = ⟨#[]⟩) = true := by exact decide_eq_true tS
      by_cases tK : (0 : Int) < v.keys.length
      · have xK : v.keys.isEmpty = false := by cases h : v.keys with
          | nil => rw [h] at tK; simp at tK
          | cons => rfl
        have hf : formJ v = false := by simp only [formJ, k3', k4', k6', k5', xK, Bool.or_self, Bool.false_and, Bool.and_false]
        simp only [Tryz.f111, symS, symO, symC, symP, symB, if_true, if_false, Nat.reduceEqDiff, Nat.reduceBEq, Bool.false_eq_true, Bool.true_eq_false, reduceCtorEq, decide_true, decide_false, k3, k4, k5, k6, xS, tK, hf]
      · have xK : v.keys.isEmpty = true := by cases h : v.keys with
          | nil => rfl
          | cons a r => rw [h, List.length_cons] at tK; omega
        by_cases tE : (0 : Int) < v.elems.length
        · have xE : v.elems.isEmpty = false := by cases h : v.elems with
            | nil => rw [h] at tE; simp at tE
            | cons => rfl
          have hf : formJ v = false := by simp only [formJ, k3', k4', k6', k5', xE, Bool.or_self, Bool.false_and, Bool.and_false]
          simp only [Tryz.f111, symS, symO, symC, symP, symB, if_true, if_false, Nat.reduceEqDiff, Nat.reduceBEq, Bool.false_eq_true, Bool.true_eq_false, reduceCtorEq, decide_true, decide_false, k3, k4, k5, k6, xS, tK, tE, hf]
        · have xE : v.elems.isEmpty = true := by cases h : v.elems with
            | nil => rfl
            | cons a r => rw [h, List.length_cons] at tE; omega
          cases hc : (codesOf v.str).isSome with
          | false =>
            rw [hc] at hU
            have hf : formJ v = false := by simp only [formJ, hc, Bool.and_false, Bool.false_and]
            simp only [Tryz.f111, symS, symO, symC, symP, symB, if_true, if_false, Nat.reduceEqDiff, Nat.reduceBEq, Bool.false_eq_true, Bool.true_eq_false, reduceCtorEq, decide_true, decide_false, k3, k4, k5, k6, xS, tK, tE, hU, hf]
          | true =>
            rw [hc] at hU
            have hf : formJ v = true := by simp only [formJ, k3', k4', k6', k5', xS, xK, xE, hc, k6, Bool.true_or, Bool.or_true, Bool.false_or, Bool.and_true, Bool.true_and]
            simp only [Tryz.f111, symS, symO, symC, symP, symB, if_true, if_false, Nat.reduceEqDiff, Nat.reduceBEq, Bool.false_eq_true, Bool.true_eq_false, reduceCtorEq, decide_true, decide_false, k3, k4, k5, k6, xS, tK, tE, hU, hf]
  by_cases qc4 : v.kind = 4
  · have k3 : (v.kind != 3) = true := by rw [bne_iff_ne]; omega
    have k3' : (v.kind == 3) = false := by rw [beq_eq_false_iff_ne]; omega
    have k4 : (v.kind != 4) = false := by rw [bne_eq_false_iff_eq]; omega
    have k4' : (v.kind == 4) = true := by rw [beq_iff_eq]; omega
    have k6 : (v.kind != 6) = true := by rw [bne_iff_ne]; omega
    have k6' : (v.kind == 6) = false := by rw [beq_eq_false_iff_ne]; omega
    have k5 : v.kind < 5 := by omega
    have k5' : decide (5 ≤ v.kind) = false := by exact decide_eq_false (by omega)
    by_cases tI : (v.int != 0) = true
    · have xI : (v.int == 0) = false := by rw [beq_eq_false_iff_ne]; exact bne_iff_ne.1 tI
      have hf : formJ v = false := by simp only [formJ, k3', k4', k6', k5', xI, Bool.or_self, Bool.false_and, Bool.and_false]
      simp only [Tryz.f111, symS, symO, symC, symP, symB, if_true, if_false, Nat.reduceEqDiff, Nat.reduceBEq, Bool.false_eq_true, Bool.true_eq_false, reduceCtorEq, decide_true, decide_false, k3, k4, k5, k6, tI, hf]
    · rw [Bool.not_eq_true] at tI
      have xI : (v.int == 0) = true := by rw [beq_iff_eq]; exact bne_eq_false_iff_eq.1 tI
      by_cases tK : (0 : Int) < v.keys.length
      · have xK : v.keys.isEmpty = false := by cases h : v.keys with
          | nil => rw [h] at tK; simp at tK
          | cons => rfl
        have hf : formJ v = false := by simp only [formJ, k3', k4', k6', k5', xK, Bool.or_self, Bool.false_and, Bool.and_false]
        simp only [Tryz.f111, symS, symO, symC, symP, symB, if_true, if_false, Nat.reduceEqDiff, Nat.reduceBEq, Bool.false_eq_true, Bool.true_eq_false, reduceCtorEq, decide_true, decide_false, k3, k4, k5, k6, tI, tK, hf]
      · have xK : v.keys.isEmpty = true := by cases h : v.keys with
          | nil => rfl
          | cons a r => rw [h, List.length_cons] at tK; omega
        by_cases tE : (0 : Int) < v.elems.length
        · have xE : v.elems.isEmpty = false := by cases h : v.elems with
            | nil => rw [h] at tE; simp at tE
            | cons => rfl
          have hf : formJ v = false := by simp only [formJ, k3', k4', k6', k5', xE, Bool.or_self, Bool.false_and, Bool.and_false]
          simp only [Tryz.f111, symS, symO, symC, symP, symB, if_true, if_false, Nat.reduceEqDiff, Nat.reduceBEq, Bool.false_eq_true, Bool.true_eq_false, reduceCtorEq, decide_true, decide_false, k3, k4, k5, k6, tI, tK, tE, hf]
        · have xE : v.elems.isEmpty = true := by cases h : v.elems with
            | nil => rfl
            | cons a r => rw [h, List.length_cons] at tE; omega
          cases hc : (codesOf v.str).isSome with
          | false =>
            rw [hc] at hU
            have hf : formJ v = false := by simp only [formJ, hc, Bool.and_false, Bool.false_and]
            simp only [Tryz.f111, symS, symO, symC, symP, symB, if_true, if_false, Nat.reduceEqDiff, Nat.reduceBEq, Bool.false_eq_true, Bool.true_eq_false, reduceCtorEq, decide_true, decide_false, k3, k4, k5, k6, tI, tK, tE, hU, hf]
          | true =>
            rw [hc] at hU
            have hf : formJ v = true := by simp only [formJ, k3', k4', k6', k5', xI, xK, xE, hc, k6, Bool.true_or, Bool.or_true, Bool.false_or, Bool.and_true, Bool.true_and]
            simp only [Tryz.f111, symS, symO, symC, symP, symB, if_true, if_false, Nat.reduceEqDiff, Nat.reduceBEq, Bool.false_eq_true, Bool.true_eq_false, reduceCtorEq, decide_true, decide_false, k3, k4, k5, k6, tI, tK, tE, hU, hf]
  by_cases qc6 : v.kind = 6
  · have k3 : (v.kind != 3) = true := by rw [bne_iff_ne]; omega
    have k3' : (v.kind == 3) = false := by rw [beq_eq_false_iff_ne]; omega
    have k4 : (v.kind != 4) = true := by rw [bne_iff_ne]; omega
    have k4' : (v.kind == 4) = false := by rw [beq_eq_false_iff_ne]; omega
    have k6 : (v.kind != 6) = false := by rw [bne_eq_false_iff_eq]; omega
    have k6' : (v.kind == 6) = true := by rw [beq_iff_eq]; omega
    have k5 : ¬ v.kind < 5 := by omega
    have k5' : decide (5 ≤ v.kind) = true := by exact decide_eq_true (by omega)
    by_cases tI : (v.int != 0) = true
    · have xI : (v.int == 0) = false := by rw [beq_eq_false_iff_ne]; exact bne_iff_ne.1 tI
      have hf : formJ v = false := by simp only [formJ, k3', k4', k6', k5', xI, Bool.or_self, Bool.false_and, Bool.and_false]
      simp only [Tryz.f111, symS, symO, symC, symP, symB, if_true, if_false, Nat.reduceEqDiff, Nat.reduceBEq, Bool.false_eq_true, Bool.true_eq_false, reduceCtorEq, decide_true, decide_false, k3, k4, k5, k6, tI, hf]
    · rw [Bool.not_eq_true] at tI
      have xI : (v.int == 0) = true := by rw [beq_iff_eq]; exact bne_eq_false_iff_eq.1 tI
      by_cases tS : ¬ v.str = ⟨#[]⟩
      · have xS : decide (v.str = ⟨#[]⟩) = false := by exact decide_eq_false tS
        have hf : formJ v = false := by simp only [formJ, k3', k4', k6', k5', xS, Bool.or_self, Bool.false_and, Bool.and_false]
        simp only [Tryz.f111, symS, symO, symC, symP, symB, if_true, if_false, Nat.reduceEqDiff, Nat.reduceBEq, Bool.false_eq_true, Bool.true_eq_false, reduceCtorEq, decide_true, decide_false, k3, k4, k5, k6, tI, xS, hf]
      · rw [Decidable.not_not] at tS
        have xS : decide (v.str = ⟨#[]⟩) = true := by exact decide_eq_true tS
        cases hc : (codesOf v.str).isSome with
        | false =>
          rw [hc] at hU
          have hf : formJ v = false := by simp only [formJ, hc, Bool.and_false, Bool.false_and]
          simp only [Tryz.f111, symS, symO, symC, symP, symB, if_true, if_false, Nat.reduceEqDiff, Nat.reduceBEq, Bool.false_eq_true, Bool.true_eq_false, reduceCtorEq, decide_true, decide_false, k3, k4, k5, k6, tI, xS, hU, hf]
        | true =>
          rw [hc] at hU
          have hb1 : ¬ (1024 < (v.keys.length : Int)) := by omega
          by_cases hl : v.keys.length = v.elems.length
          · have hl2 : ((v.keys.length : Int) != v.elems.length) = false := by rw [bne_eq_false_iff_eq]; omega
            have hf : formJ v = keysOk none v.keys := by simp only [formJ, k3', k4', k6', k5', xI, xS, hc, k6, hl, decide_true, Bool.true_or, Bool.or_true, Bool.false_or, Bool.and_true, Bool.true_and]
            simp only [Tryz.f111, symS, symO, symC, symP, symB, if_true, if_false, Nat.reduceEqDiff, Nat.reduceBEq, Bool.false_eq_true, Bool.true_eq_false, reduceCtorEq, decide_true, decide_false, k3, k4, k5, k6, tI, xS, hU, hl2, hb1]
            generalize hR : execF E0 (Code.loop _) _ = R
            obtain ⟨x, env', rfl, hp⟩ := formed_loop v (by omega) _ 0 _ _ _ _ hR rfl (Nat.zero_le _) rfl rfl rfl rfl rfl
            rw [List.drop_zero, show prevOf v.keys 0 = none from rfl, ← hf] at hp
            rcases hp with ⟨rfl, hq⟩ | ⟨rfl, h2, hq⟩
            · simp only [symS, symO, symC, symP, symB, if_true, if_false, Nat.reduceEqDiff, Nat.reduceBEq, Bool.false_eq_true, Bool.true_eq_false, reduceCtorEq, decide_true, decide_false, hq]
            · simp only [symS, symO, symC, symP, symB, if_true, if_false, Nat.reduceEqDiff, Nat.reduceBEq, Bool.false_eq_true, Bool.true_eq_false, reduceCtorEq, decide_true, decide_false, h2, hq]
          · have hl2 : ((v.keys.length : Int) != v.elems.length) = true := by rw [bne_iff_ne]; omega
            have hf : formJ v = false := by simp only [formJ, k3', k4', k6', k5', k6, hl, decide_false, Bool.false_and, Bool.and_false, Bool.or_false]
            simp only [Tryz.f111, symS, symO, symC, symP, symB, if_true, if_false, Nat.reduceEqDiff, Nat.reduceBEq, Bool.false_eq_true, Bool.true_eq_false, reduceCtorEq, decide_true, decide_false, k3, k4, k5, k6, tI, xS, hU, hl2, hf]
  by_cases qlo : v.kind < 5
  · have k3 : (v.kind != 3) = true := by rw [bne_iff_ne]; omega
    have k3' : (v.kind == 3) = false := by rw [beq_eq_false_iff_ne]; omega
    have k4 : (v.kind != 4) = true := by rw [bne_iff_ne]; omega
    have k4' : (v.kind == 4) = false := by rw [beq_eq_false_iff_ne]; omega
    have k6 : (v.kind != 6) = true := by rw [bne_iff_ne]; omega
    have k6' : (v.kind == 6) = false := by rw [beq_eq_false_iff_ne]; omega
    have k5 : v.kind < 5 := by omega
    have k5' : decide (5 ≤ v.kind) = false := by exact decide_eq_false (by omega)
    by_cases tI : (v.int != 0) = true
    · have xI : (v.int == 0) = false := by rw [beq_eq_false_iff_ne]; exact bne_iff_ne.1 tI
      have hf : formJ v = false := by simp only [formJ, k3', k4', k6', k5', xI, Bool.or_self, Bool.false_and, Bool.and_false]
      simp only [Tryz.f111, symS, symO, symC, symP, symB, if_true, if_false, Nat.reduceEqDiff, Nat.reduceBEq, Bool.false_eq_true, Bool.true_eq_false, reduceCtorEq, decide_true, decide_false, k3, k4, k5, k6, tI, hf]
    · rw [Bool.not_eq_true] at tI
      have xI : (v.int == 0) = true := by rw [beq_iff_eq]; exact bne_eq_false_iff_eq.1 tI
      by_cases tS : ¬ v.str = ⟨#[]⟩
      · have xS : decide (v.str = ⟨#[]⟩) = false := by exact decide_eq_false tS
        have hf : formJ v = false := by simp only [formJ, k3', k4', k6', k5', xS, Bool.or_self, Bool.false_and, Bool.and_false]
        simp only [Tryz.f111, symS, symO, symC, symP, symB, if_true, if_false, Nat.reduceEqDiff, Nat.reduceBEq, Bool.false_eq_true, Bool.true_eq_false, reduceCtorEq, decide_true, decide_false, k3, k4, k5, k6, tI, xS, hf]
      · rw [Decidable.not_not] at tS
        have xS : decide (v.str = ⟨#[]⟩) = true := by exact decide_eq_true tS
        by_cases tK : (0 : Int) < v.keys.length
        · have xK : v.keys.isEmpty = false := by cases h : v.keys with
            | nil => rw [h] at tK; simp at tK
            | cons => rfl
          have hf : formJ v = false := by simp only [formJ, k3', k4', k6', k5', xK, Bool.or_self, Bool.false_and, Bool.and_false]
          simp only [Tryz.f111, symS, symO, symC, symP, symB, if_true, if_false, Nat.reduceEqDiff, Nat.reduceBEq, Bool.false_eq_true, Bool.true_eq_false, reduceCtorEq, decide_true, decide_false, k3, k4, k5, k6, tI, xS, tK, hf]
        · have xK : v.keys.isEmpty = true := by cases h : v.keys with
            | nil => rfl
            | cons a r => rw [h, List.length_cons] at tK; omega
          by_cases tE : (0 : Int) < v.elems.length
          · have xE : v.elems.isEmpty = false := by cases h : v.elems with
              | nil => rw [h] at tE; simp at tE
              | cons => rfl
            have hf : formJ v = false := by simp only [formJ, k3', k4', k6', k5', xE, Bool.or_self, Bool.false_and, Bool.and_false]
            simp only [Tryz.f111, symS, symO, symC, symP, symB, if_true, if_false, Nat.reduceEqDiff, Nat.reduceBEq, Bool.false_eq_true, Bool.true_eq_false, reduceCtorEq, decide_true, decide_false, k3, k4, k5, k6, tI, xS, tK, tE, hf]
          · have xE : v.elems.isEmpty = true := by cases h : v.elems with
              | nil => rfl
              | cons a r => rw [h, List.length_cons] at tE; omega
            cases hc : (codesOf v.str).isSome with
            | false =>
              rw [hc] at hU
              have hf : formJ v = false := by simp only [formJ, hc, Bool.and_false, Bool.false_and]
              simp only [Tryz.f111, symS, symO, symC, symP, symB, if_true, if_false, Nat.reduceEqDiff, Nat.reduceBEq, Bool.false_eq_true, Bool.true_eq_false, reduceCtorEq, decide_true, decide_false, k3, k4, k5, k6, tI, xS, tK, tE, hU, hf]
            | true =>
              rw [hc] at hU
              have hf : formJ v = true := by simp only [formJ, k3', k4', k6', k5', xI, xS, xK, xE, hc, k6, Bool.true_or, Bool.or_true, Bool.false_or, Bool.and_true, Bool.true_and]
              simp only [Tryz.f111, symS, symO, symC, symP, symB, if_true, if_false, Nat.reduceEqDiff, Nat.reduceBEq, Bool.false_eq_true, Bool.true_eq_false, reduceCtorEq, decide_true, decide_false, k3, k4, k5, k6, tI, xS, tK, tE, hU, hf]
  have k3 : (v.kind != 3) = true := by rw [bne_iff_ne]; omega
  have k3' : (v.kind == 3) = false := by rw [beq_eq_false_iff_ne]; omega
  have k4 : (v.kind != 4) = true := by rw [bne_iff_ne]; omega
  have k4' : (v.kind == 4) = false := by rw [beq_eq_false_iff_ne]; omega
  have k6 : (v.kind != 6) = true := by rw [bne_iff_ne]; omega
  have k6' : (v.kind == 6) = false := by rw [beq_eq_false_iff_ne]; omega
  have k5 : ¬ v.kind < 5 := by omega
  have k5' : decide (5 ≤ v.kind) = true := by exact decide_eq_true (by omega)
  by_cases tI : (v.int != 0) = true
  · have xI : (v.int == 0) = false := by rw [beq_eq_false_iff_ne]; exact bne_iff_ne.1 tI
    have hf : formJ v = false := by simp only [formJ, k3', k4', k6', k5', xI, Bool.or_self, Bool.false_and, Bool.and_false]
    simp only [Tryz.f111, symS, symO, symC, symP, symB, if_true, if_false, Nat.reduceEqDiff, Nat.reduceBEq, Bool.false_eq_true, Bool.true_eq_false, reduceCtorEq, decide_true, decide_false, k3, k4, k5, k6, tI, hf]
  · rw [Bool.not_eq_true] at tI
    have xI : (v.int == 0) = true := by rw [beq_iff_eq]; exact bne_eq_false_iff_eq.1 tI
    by_cases tS : ¬ v.str = ⟨#[]⟩
    · have xS : decide (v.str = ⟨#[]⟩) = false := by exact decide_eq_false tS
      have hf : formJ v = false := by simp only [formJ, k3', k4', k6', k5', xS, Bool.or_self, Bool.false_and, Bool.and_false]
      simp only [Tryz.f111, symS, symO, symC, symP, symB, if_true, if_false, Nat.reduceEqDiff, Nat.reduceBEq, Bool.false_eq_true, Bool.true_eq_false, reduceCtorEq, decide_true, decide_false, k3, k4, k5, k6, tI, xS, hf]
    · rw [Decidable.not_not] at tS
      have xS : decide (v.str = ⟨#[]⟩) = true := by exact decide_eq_true tS
      by_cases tK : (0 : Int) < v.keys.length
      · have xK : v.keys.isEmpty = false := by cases h : v.keys with
          | nil => rw [h] at tK; simp at tK
          | cons => rfl
        have hf : formJ v = false := by simp only [formJ, k3', k4', k6', k5', xK, Bool.or_self, Bool.false_and, Bool.and_false]
        simp only [Tryz.f111, symS, symO, symC, symP, symB, if_true, if_false, Nat.reduceEqDiff, Nat.reduceBEq, Bool.false_eq_true, Bool.true_eq_false, reduceCtorEq, decide_true, decide_false, k3, k4, k5, k6, tI, xS, tK, hf]
      · have xK : v.keys.isEmpty = true := by cases h : v.keys with
          | nil => rfl
          | cons a r => rw [h, List.length_cons] at tK; omega
        cases hc : (codesOf v.str).isSome with
        | false =>
          rw [hc] at hU
          have hf : formJ v = false := by simp only [formJ, hc, Bool.and_false, Bool.false_and]
          simp only [Tryz.f111, symS, symO, symC, symP, symB, if_true, if_false, Nat.reduceEqDiff, Nat.reduceBEq, Bool.false_eq_true, Bool.true_eq_false, reduceCtorEq, decide_true, decide_false, k3, k4, k5, k6, tI, xS, tK, hU, hf]
        | true =>
          rw [hc] at hU
          have hf : formJ v = true := by simp only [formJ, k3', k4', k6', k5', xI, xS, xK, hc, k6, Bool.true_or, Bool.or_true, Bool.false_or, Bool.and_true, Bool.true_and]
          simp only [Tryz.f111, symS, symO, symC, symP, symB, if_true, if_false, Nat.reduceEqDiff, Nat.reduceBEq, Bool.false_eq_true, Bool.true_eq_false, reduceCtorEq, decide_true, decide_false, k3, k4, k5, k6, tI, xS, tK, hU, hf]

end Go.Abs
