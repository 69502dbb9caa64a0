/-
The program in sight: strings as code points.
-/
import Derived.Test.YtmeepaihgipacaaGreatAbsDec
import Derived.Test.YtmeepaihgipacaaGreatAbsMem
set_option linter.unusedVariables false
set_option linter.unusedSimpArgs false
namespace Go.Abs
open Go.Proofs

theorem bd_CountU : Tryz.prog.funcs[94]? = some Tryz.f94 := by kernel_rfl
theorem ok_CountU : fnOk Tryz.f94 = true := by kernel_rfl
theorem bd_ValidU : Tryz.prog.funcs[140]? = some Tryz.f140 := by kernel_rfl
theorem ok_ValidU : fnOk Tryz.f140 = true := by kernel_rfl
theorem bd_SliceU : Tryz.prog.funcs[95]? = some Tryz.f95 := by kernel_rfl
theorem ok_SliceU : fnOk Tryz.f95 = true := by kernel_rfl
theorem bd_Runes : Tryz.prog.funcs[97]? = some Tryz.f97 := by kernel_rfl
theorem ok_Runes : fnOk Tryz.f97 = true := by kernel_rfl
theorem bd_ValidR : Tryz.prog.funcs[112]? = some Tryz.f112 := by kernel_rfl
theorem ok_ValidR : fnOk Tryz.f112 = true := by kernel_rfl
theorem bd_CountR : Tryz.prog.funcs[63]? = some Tryz.f63 := by kernel_rfl
theorem ok_CountR : fnOk Tryz.f63 = true := by kernel_rfl

theorem dec_pos {s : ByteArray} {i r n : Nat} (h : dec s i = some (r, n)) : 1 ≤ n ∧ n ≤ 4 ∧ i + n ≤ s.size ∧ r ≤ 1114111 := by
  unfold dec at h
  split at h
  · rename_i hi
    split at h
    · simp only [Option.some.injEq, Prod.mk.injEq] at h
      obtain ⟨rfl, rfl⟩ := h
      omega
    · split at h
      · rename_i m r0 least hl
        have hm : 1 ≤ m ∧ m ≤ 3 := by
          unfold lead at hl
          split at hl
          · simp only [Option.some.injEq, Prod.mk.injEq] at hl; omega
          · split at hl
            · simp only [Option.some.injEq, Prod.mk.injEq] at hl; omega
            · split at hl
              · simp only [Option.some.injEq, Prod.mk.injEq] at hl; omega
              · cases hl
        split at h
        · rename_i r' hr
          obtain ⟨_, _, h3⟩ := contR_bound s _ _ _ _ hr
          have h4 := h3 (by omega)
          split at h
          · cases h
          · rename_i hbad
            simp only [Option.some.injEq, Prod.mk.injEq] at h
            obtain ⟨rfl, rfl⟩ := h
            unfold isPoint at hbad
            omega
        · cases h
      · cases h
  · cases h

/-- The code points from a place on, with the numbers of their bytes. -/
def codes (s : ByteArray) : Nat → Nat → Option (List (Nat × Nat))
  | 0, i => if i < s.size then none else some []
  | k + 1, i => if i < s.size then match dec s i with
      | some (r, n) => (codes s k (i + n)).map fun l => (r, n) :: l
      | none => none
    else some []
def codesOf (s : ByteArray) : Option (List (Nat × Nat)) := codes s s.size 0

theorem codes_len (s : ByteArray) : ∀ (k i : Nat) (l : List (Nat × Nat)), codes s k i = some l → l.length ≤ k ∧ (l.length ≤ s.size - i)
  | 0, i, l, h => by
    simp only [codes] at h
    split at h
    · cases h
    · simp only [Option.some.injEq] at h; subst h; simp
  | k + 1, i, l, h => by
    simp only [codes] at h
    split at h
    · split at h
      · rename_i r n hd
        simp only [Option.map_eq_some_iff] at h
        obtain ⟨l', h1, rfl⟩ := h
        obtain ⟨h2, h3⟩ := codes_len s k _ l' h1
        obtain ⟨d1, d2, d3, d4⟩ := dec_pos hd
        simp only [List.length_cons]
        omega
      · cases h
    · simp only [Option.some.injEq] at h; subst h; simp

set_option maxRecDepth 100000 in
theorem countU_loop (s : ByteArray) (hs : s.size < 1152921504606846976) : ∀ (k i c : Nat) (env : Nat → AV) (h : AHeap) (n : Nat) (R : Option (Ex × St)), execF E0 (loopN Tryz.f94 0) ⟨env, h, n⟩ = R → s.size - i ≤ k → i ≤ s.size → c ≤ i →
    env 0 = .v (.string s) → env 4 = .v (.int .i64 c) → env 5 = .v (.int .i64 i) →
    ∃ x env', R = some (x, ⟨env', h, n⟩) ∧ match codes s k i with
      | some l => x = .exit 0 ∧ env' 4 = .v (.int .i64 ((c + l.length : Nat) : Int))
      | none => x = .ret ∧ env' 2 = .v (.int .i64 0) ∧ env' 3 = .v (.bool false) := by
  intro k
  induction k with
  | zero =>
    intro i c env h n R hR hk hi hc h0 h4 h5
    have hil : ¬ ((i : Int) < s.size) := by omega
    have hil' : ¬ (i < s.size) := by omega
    simp only [loopN, Tryz.f94, loopsOf, List.append_nil, List.nil_append, List.getD_cons_zero, execF_loop, symS, symO, symC, symP, symB, if_true, if_false, Nat.reduceEqDiff, Nat.reduceBEq, Bool.false_eq_true, Bool.true_eq_false, reduceCtorEq, decide_true, decide_false, h0, h5, hil] at hR
    refine ⟨_, _, hR.symm, ?_⟩
    simp only [codes, if_neg hil', fset_app, Nat.reduceEqDiff, if_false, h4, List.length_nil, Nat.add_zero]
    trivial
  | succ k ih =>
    intro i c env h n R hR hk hi hc h0 h4 h5
    by_cases hil' : i < s.size
    · have hil : ((i : Int) < s.size) := by omega
      have hd := decU_run s hs i (by omega)
      have hw : IntKind.i64.wrap ((c : Int) + 1) = ((c + 1 : Nat) : Int) := by rw [wrap64 (by omega) (by omega)]; omega
      simp only [loopN, Tryz.f94, loopsOf, List.append_nil, List.nil_append, List.getD_cons_zero] at hR
      rw [execF_loop] at hR
      simp only [codes, if_pos hil']
      cases hdec : dec s i with
      | none =>
        rw [hdec] at hd
        simp only [symS, symO, symC, symP, symB, if_true, if_false, Nat.reduceEqDiff, Nat.reduceBEq, Bool.false_eq_true, Bool.true_eq_false, reduceCtorEq, decide_true, decide_false, h0, h4, h5, hil, hd, decRC] at hR
        refine ⟨_, _, hR.symm, ?_⟩
        simp only [fset_app, Nat.reduceEqDiff, if_false, if_true]
        trivial
      | some p =>
        obtain ⟨r, w⟩ := p
        rw [hdec] at hd
        obtain ⟨d1, d2, d3, d4⟩ := dec_pos hdec
        have hw2 : IntKind.i64.wrap ((i : Int) + w) = ((i + w : Nat) : Int) := by rw [wrap64 (by omega) (by omega)]; omega
        simp only [symS, symO, symC, symP, symB, if_true, if_false, Nat.reduceEqDiff, Nat.reduceBEq, Nat.reduceLT, Bool.false_eq_true, Bool.true_eq_false, reduceCtorEq, decide_true, decide_false, h0, h4, h5, hil, hd, decRC, hw, hw2] at hR
        obtain ⟨x, env', rfl, hp⟩ := ih (i + w) (c + 1) _ _ _ _ hR (by omega) (by omega) (by omega) (by simp only [fset_app, Nat.reduceEqDiff, if_false, h0]) (by simp only [fset_app, Nat.reduceEqDiff, if_false, if_true]) (by simp only [fset_app, Nat.reduceEqDiff, if_false, if_true])
        refine ⟨x, env', rfl, ?_⟩
        dsimp only
        revert hp
        cases codes s k (i + w) with
        | none => exact id
        | some l =>
          simp only [Option.map_some, List.length_cons]
          rw [show c + 1 + l.length = c + (l.length + 1) by omega]
          exact id
    · have hil : ¬ ((i : Int) < s.size) := by omega
      simp only [loopN, Tryz.f94, loopsOf, List.append_nil, List.nil_append, List.getD_cons_zero, execF_loop, symS, symO, symC, symP, symB, if_true, if_false, Nat.reduceEqDiff, Nat.reduceBEq, Bool.false_eq_true, Bool.true_eq_false, reduceCtorEq, decide_true, decide_false, h0, h5, hil] at hR
      refine ⟨_, _, hR.symm, ?_⟩
      simp only [codes, if_neg hil', fset_app, Nat.reduceEqDiff, if_false, h4, List.length_nil, Nat.add_zero]
      trivial

def countRC : Option (List (Nat × Nat)) → List RC
  | some l => [.p (.v (.int .i64 l.length)), .p (.v (.bool true))]
  | none => [.p (.v (.int .i64 0)), .p (.v (.bool false))]

set_option maxRecDepth 100000 in
theorem countU_run (s : ByteArray) (hs : s.size < 1152921504606846976) : callF E0 94 [.v (.string s)] = some (countRC (codesOf s)) := by
  rw [callF_fn bd_CountU ok_CountU]
  simp only [Tryz.f94, symS, symO, symC, symP, symB, if_true, if_false, Nat.reduceEqDiff, Nat.reduceBEq, Bool.false_eq_true]
  generalize hR : execF E0 (Code.loop _) _ = R
  obtain ⟨x, env', rfl, hp⟩ := countU_loop s hs s.size 0 0 _ _ _ _ hR (by omega) (by omega) (by omega) rfl rfl rfl
  revert hp
  unfold codesOf
  cases codes s s.size 0 with
  | none =>
    rintro ⟨rfl, h2, h3⟩
    simp only [symS, symO, symC, symP, symB, if_true, if_false, Nat.reduceEqDiff, h2, h3, countRC]
  | some l =>
    rintro ⟨rfl, h4⟩
    simp only [symS, symO, symC, symP, symB, if_true, if_false, Nat.reduceEqDiff, h4, countRC]

set_option maxRecDepth 100000 in
theorem validU_run (s : ByteArray) (hs : s.size < 1152921504606846976) : callF E0 140 [.v (.string s)] = some [.p (.v (.bool (codesOf s).isSome))] := by
  rw [callF_fn bd_ValidU ok_ValidU]
  have h := countU_run s hs
  cases hc : codesOf s with
  | none =>
    rw [hc] at h
    simp only [Tryz.f140, symS, symO, symC, symP, symB, if_true, if_false, Nat.reduceEqDiff, Nat.reduceBEq, Nat.reduceLT, Bool.false_eq_true, h, countRC, Option.isSome]
  | some l =>
    rw [hc] at h
    simp only [Tryz.f140, symS, symO, symC, symP, symB, if_true, if_false, Nat.reduceEqDiff, Nat.reduceBEq, Nat.reduceLT, Bool.false_eq_true, h, countRC, Option.isSome]

theorem el_Ints : aelem Tryz.prog 85 = some 3 := by kernel_rfl
theorem ze_int : azero Tryz.prog 3 = some [.v (.int .i64 0)] := by kernel_rfl
theorem by_int : abytes Tryz.prog 3 = some 8 := by kernel_rfl
theorem bs_Ints (d : Option Tmp) (parts : Array (Nat × Operand)) (ty : TypeId) (pos : String) (af : Array Edge) (g : Option (Nat × Bool)) (st : St) :
    aop Tryz.prog ⟨d, .buildSlice 85 1 parts, ty, pos, af, g⟩ st = bsO st.nxt 1 1 [.v (.int .i64 0)] (parts.toList.map fun p => (p.1, aevalO st.env p.2)) := aop_bs el_Ints ze_int sz_int rfl (by decide) d 1 (by decide) parts ty pos af g st
theorem ap_Ints (d : Option Tmp) (x y : Operand) (ty : TypeId) (pos : String) (af : Array Edge) (g : Option (Nat × Bool)) (st : St) :
    aop Tryz.prog ⟨d, .call { callee := .builtin .append, args := #[x, y], argTypes := #[85, 85] }, ty, pos, af, g⟩ st = apO st.heap st.nxt 1 8 (aevalO st.env x) (aread st.heap Tryz.prog (aevalO st.env y)) := aop_append el_Ints ze_int sz_int by_int rfl (by decide) (by decide) d x y ty pos af g st

def runesI (l : List (Nat × Nat)) : List Int := l.map fun p => (p.1 : Int)

/-- A number is appended. -/
theorem append_int {h : AHeap} {nxt : Nat} {x : AV} {acc : List Int} (ho : OutRow h nxt 1 x (rowI acc)) (n : Int) (hlen : acc.length < 1099511627776) :
    ∃ c u, apO (fset h nxt (some ⟨true, 1, rowI [n]⟩)) (nxt + 1) 1 8 x (ard1 0 1 (some ⟨true, 1, rowI [n]⟩)) = some ⟨.sl (nxt + 1) 0 (acc.length + 1), c :: u, 1⟩ ∧
      OutRow (applyUpd (fset h nxt (some ⟨true, 1, rowI [n]⟩)) (c :: u)) (nxt + 1 + 1) 1 (.sl (nxt + 1) 0 (acc.length + 1)) (rowI (acc ++ [n])) := by
  have hr : ard1 0 1 (some ⟨true, 1, rowI [n]⟩) = some (rowI [n]) := rfl
  have hl1 : (rowI [n]).length = 1 := rfl
  have hout : ∀ g : AHeap, g (nxt + 1) = some ⟨true, 1, rowI (acc ++ [n])⟩ → OutRow g (nxt + 1 + 1) 1 (.sl (nxt + 1) 0 (acc.length + 1)) (rowI (acc ++ [n])) := by
    intro g hg
    refine .inr ⟨nxt + 1, by simp [rowI], by omega, by simp [rowI], hg⟩
  rw [hr]
  rcases ho with ⟨he, hx⟩ | ⟨b, hne, hb, rfl, hh⟩
  · have : acc = [] := by cases acc with | nil => rfl | cons => simp [rowI] at he
    subst this
    refine ⟨_, _, apO_new hx (by simp [rowI]) (rowI_wf _) (by rw [hl1]; decide), hout _ ?_⟩
    simp [applyUpd, fset]
  · have hb' : fset h nxt (some ⟨true, 1, rowI [n]⟩) b = some ⟨true, 1, rowI acc⟩ := by rw [fset_ne _ _ _ _ (by omega)]; exact hh
    have := apO_end (nxt := nxt + 1) (by_ := 8) hb' (xs := rowI [n]) (by simp [rowI]) (rowI_wf _) (by rw [hl1, rowI_len]; unfold maxBytes; omega)
    rw [rowI_len, hl1] at this
    rw [rowI_len]
    refine ⟨_, _, this, hout _ ?_⟩
    simp [applyUpd, fset, rowI_app]

set_option maxRecDepth 100000 in
theorem runes_loop (s : ByteArray) (hs : s.size < 1099511627776) : ∀ (k i : Nat) (acc : List Int) (env : Nat → AV) (h : AHeap) (n : Nat) (R : Option (Ex × St)), execF E0 (loopN Tryz.f97 0) ⟨env, h, n⟩ = R → s.size - i ≤ k → i ≤ s.size → acc.length ≤ i →
    env 0 = .v (.string s) → OutRow h n 1 (env 4) (rowI acc) → env 5 = .v (.int .i64 i) →
    ∃ x env' h' n', R = some (x, ⟨env', h', n'⟩) ∧ match codes s k i with
      | some l => x = .exit 0 ∧ OutRow h' n' 1 (env' 4) (rowI (acc ++ runesI l))
      | none => x = .ret ∧ env' 2 = .v (.slice none 0 0) ∧ env' 3 = .v (.bool false) := by
  intro k
  induction k with
  | zero =>
    intro i acc env h n R hR hk hi hc h0 h4 h5
    have hil : ¬ ((i : Int) < s.size) := by omega
    have hil' : ¬ (i < s.size) := by omega
    simp only [loopN, Tryz.f97, loopsOf, List.append_nil, List.nil_append, List.getD_cons_zero, execF_loop, symS, symO, symC, symP, symB, if_true, if_false, Nat.reduceEqDiff, Nat.reduceBEq, Bool.false_eq_true, Bool.true_eq_false, reduceCtorEq, decide_true, decide_false, h0, h5, hil] at hR
    refine ⟨_, _, _, _, hR.symm, ?_⟩
    simp only [codes, if_neg hil', fset_app, Nat.reduceEqDiff, if_false, runesI, List.map_nil, List.append_nil]
    exact ⟨trivial, h4⟩
  | succ k ih =>
    intro i acc env h n R hR hk hi hc h0 h4 h5
    by_cases hil' : i < s.size
    · have hil : ((i : Int) < s.size) := by omega
      have hd := decR_run s (by omega) i (by omega)
      simp only [loopN, Tryz.f97, loopsOf, List.append_nil, List.nil_append, List.getD_cons_zero] at hR
      rw [execF_loop] at hR
      simp only [codes, if_pos hil']
      cases hdec : dec s i with
      | none =>
        rw [hdec] at hd
        simp only [symS, symO, symC, symP, symB, if_true, if_false, Nat.reduceEqDiff, Nat.reduceBEq, Bool.false_eq_true, Bool.true_eq_false, reduceCtorEq, decide_true, decide_false, h0, h5, hil, hd, decRC] at hR
        refine ⟨_, _, _, _, hR.symm, ?_⟩
        simp only [fset_app, Nat.reduceEqDiff, if_false, if_true]
        trivial
      | some p =>
        obtain ⟨r, w⟩ := p
        rw [hdec] at hd
        obtain ⟨d1, d2, d3, d4⟩ := dec_pos hdec
        obtain ⟨c, u, ha, hout⟩ := append_int h4 (r : Int) (by omega)
        have hw2 : IntKind.i64.wrap ((i : Int) + w) = ((i + w : Nat) : Int) := by rw [wrap64 (by omega) (by omega)]; omega
        simp only [symS, symO, symC, symP, symB, if_true, if_false, Nat.reduceEqDiff, Nat.reduceBEq, Bool.false_eq_true, Bool.true_eq_false, reduceCtorEq, decide_true, decide_false, h0, h5, hil, hd, decRC, hw2, bs_Ints, ap_Ints, List.map_cons, List.map_nil, bsI1, aread_sl, ha] at hR
        obtain ⟨x, env', h', n', rfl, hp⟩ := ih (i + w) (acc ++ [(r : Int)]) _ _ _ _ hR (by omega) (by omega) (by simp; omega) (by simp only [fset_app, Nat.reduceEqDiff, if_false, h0]) (by simp only [fset_app, Nat.reduceEqDiff, if_false, if_true]; exact hout) (by simp only [fset_app, Nat.reduceEqDiff, if_false, if_true])
        refine ⟨x, env', h', n', rfl, ?_⟩
        dsimp only
        revert hp
        cases codes s k (i + w) with
        | none => exact id
        | some l =>
          simp only [Option.map_some, runesI, List.map_cons, List.append_assoc, List.cons_append, List.nil_append]
          exact id
    · have hil : ¬ ((i : Int) < s.size) := by omega
      simp only [loopN, Tryz.f97, loopsOf, List.append_nil, List.nil_append, List.getD_cons_zero, execF_loop, symS, symO, symC, symP, symB, if_true, if_false, Nat.reduceEqDiff, Nat.reduceBEq, Bool.false_eq_true, Bool.true_eq_false, reduceCtorEq, decide_true, decide_false, h0, h5, hil] at hR
      refine ⟨_, _, _, _, hR.symm, ?_⟩
      simp only [codes, if_neg hil', fset_app, Nat.reduceEqDiff, if_false, runesI, List.map_nil, List.append_nil]
      exact ⟨trivial, h4⟩

def runesRC : Option (List (Nat × Nat)) → List RC
  | some l => [outRC 1 (rowI (runesI l)), .p (.v (.bool true))]
  | none => [.p .e0, .p (.v (.bool false))]

set_option maxRecDepth 100000 in
theorem runes_run (s : ByteArray) (hs : s.size < 1099511627776) : callF E0 97 [.v (.string s)] = some (runesRC (codesOf s)) := by
  rw [callF_fn bd_Runes ok_Runes]
  simp only [Tryz.f97, symS, symO, symC, symP, symB, if_true, if_false, Nat.reduceEqDiff, Nat.reduceBEq, Bool.false_eq_true]
  generalize hR : execF E0 (Code.loop _) _ = R
  obtain ⟨x, env', h', n', rfl, hp⟩ := runes_loop s hs s.size 0 [] _ _ _ _ hR (by omega) (by omega) (by simp) rfl (.inl ⟨rfl, .inr rfl⟩) rfl
  revert hp
  unfold codesOf
  cases codes s s.size 0 with
  | none =>
    rintro ⟨rfl, h2, h3⟩
    simp only [symS, symO, symC, symP, symB, if_true, if_false, Nat.reduceEqDiff, h2, h3, runesRC]
    exact finish_out (nxt := 0) (sz := 1) (.inl ⟨rfl, .inr rfl⟩) (fun g => rfl) [.v (.bool false)] [.v (.bool false)] (by intro y hy; simp at hy; subst hy; rfl) (fun g => rfl)
  | some l =>
    rintro ⟨rfl, h4⟩
    simp only [symS, symO, symC, symP, symB, if_true, if_false, Nat.reduceEqDiff, runesRC]
    exact finish_out h4 (fun g => omap_rowI _ g) [.v (.bool true)] [.v (.bool true)] (by intro y hy; simp at hy; subst hy; rfl) (fun g => rfl)

theorem outRC_cases (sz : Nat) (es : List (List AV)) : (es = [] ∧ outRC sz es = .p .e0) ∨ (es ≠ [] ∧ outRC sz es = .own sz es) := by
  cases es with
  | nil => exact .inl ⟨rfl, rfl⟩
  | cons => exact .inr ⟨by simp, rfl⟩

set_option maxRecDepth 100000 in
theorem validR_run (s : ByteArray) (hs : s.size < 1099511627776) : callF E0 112 [.v (.string s)] = some [.p (.v (.bool (codesOf s).isSome))] := by
  rw [callF_fn bd_ValidR ok_ValidR]
  have h := runes_run s hs
  cases hc : codesOf s with
  | none =>
    rw [hc] at h
    simp only [Tryz.f112, symS, symO, symC, symP, symB, if_true, if_false, Nat.reduceEqDiff, Nat.reduceBEq, Bool.false_eq_true, h, runesRC, Option.isSome]
  | some l =>
    rw [hc] at h
    rcases outRC_cases 1 (rowI (runesI l)) with ⟨_, h1⟩ | ⟨_, h1⟩
    · simp only [Tryz.f112, symS, symO, symC, symP, symB, if_true, if_false, Nat.reduceEqDiff, Nat.reduceBEq, Bool.false_eq_true, h, runesRC, h1, Option.isSome]
    · simp only [Tryz.f112, symS, symO, symC, symP, symB, if_true, if_false, Nat.reduceEqDiff, Nat.reduceBEq, Bool.false_eq_true, h, runesRC, h1, mapR_op, Option.isSome]

set_option maxRecDepth 100000 in
theorem countR_run (s : ByteArray) (hs : s.size < 1099511627776) : callF E0 63 [.v (.string s)] = some (countRC (codesOf s)) := by
  rw [callF_fn bd_CountR ok_CountR]
  have h := runes_run s hs
  cases hc : codesOf s with
  | none =>
    rw [hc] at h
    simp only [Tryz.f63, symS, symO, symC, symP, symB, if_true, if_false, Nat.reduceEqDiff, Nat.reduceBEq, Bool.false_eq_true, h, runesRC, countRC, el_Ints]
    rfl
  | some l =>
    rw [hc] at h
    rcases outRC_cases 1 (rowI (runesI l)) with ⟨h0, h1⟩ | ⟨_, h1⟩
    · have : l = [] := by cases l with | nil => rfl | cons => simp [rowI, runesI] at h0
      subst this
      simp only [Tryz.f63, symS, symO, symC, symP, symB, if_true, if_false, Nat.reduceEqDiff, Nat.reduceBEq, Bool.false_eq_true, h, runesRC, h1, countRC, el_Ints]
      rfl
    · have hl : (rowI (runesI l)).length = l.length := by simp [rowI, runesI]
      simp only [Tryz.f63, symS, symO, symC, symP, symB, if_true, if_false, Nat.reduceEqDiff, Nat.reduceBEq, Bool.false_eq_true, h, runesRC, h1, mapR_op, countRC, el_Ints, hl]

end Go.Abs
