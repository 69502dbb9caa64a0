/-
An abstract interpreter, part Q: regions that draw their order.
-/
import Derived.Test.YtmeepaihgipacaaGreatAbsO
set_option linter.unusedVariables false
set_option linter.unusedSimpArgs false
namespace Go.Abs

/-! ### Changes that do not meet -/
section
variable {α : Type}
def app (f : Nat → α) (l : List (Nat × α)) : Nat → α := l.foldl (fun f p => fset f p.1 p.2) f

theorem app_no : ∀ (l : List (Nat × α)) (f : Nat → α) (k : Nat), (∀ p ∈ l, p.1 ≠ k) → app f l k = f k
  | [], _, _, _ => rfl
  | p :: r, f, k, h => by
    have := app_no r (fset f p.1 p.2) k (fun q hq => h q (List.mem_cons_of_mem _ hq))
    simp only [app, List.foldl_cons] at this ⊢
    rw [this, fset_ne]
    exact fun e => h p (List.mem_cons_self ..) e.symm

theorem app_yes : ∀ (l : List (Nat × α)) (f g : Nat → α) (k : Nat), (∃ p ∈ l, p.1 = k) → app f l k = app g l k
  | [], _, _, _, h => by obtain ⟨p, hp, _⟩ := h; cases hp
  | p :: r, f, g, k, h => by
    simp only [app, List.foldl_cons]
    by_cases h2 : ∃ q ∈ r, q.1 = k
    · exact app_yes r _ _ k h2
    · have h3 : ∀ q ∈ r, q.1 ≠ k := fun q hq e => h2 ⟨q, hq, e⟩
      have e1 := app_no r (fset f p.1 p.2) k h3
      have e2 := app_no r (fset g p.1 p.2) k h3
      simp only [app] at e1 e2
      rw [e1, e2]
      obtain ⟨q, hq, hk⟩ := h
      rcases List.mem_cons.1 hq with rfl | hq
      · rw [hk, fset_same, fset_same]
      · exact absurd hk (h3 q hq)

def foldU (U : Nat → List (Nat × α)) (L : Nat → Bool) : Nat → (Nat → α) → (Nat → α)
  | 0, f => f
  | n + 1, f => if L n then app (foldU U L n f) (U n) else foldU U L n f

theorem foldU_congr (U : Nat → List (Nat × α)) (L L' : Nat → Bool) (k : Nat) : ∀ (n : Nat) (f : Nat → α), (∀ i, i < n → (∃ p ∈ U i, p.1 = k) → L i = L' i) → foldU U L n f k = foldU U L' n f k
  | 0, f, _ => rfl
  | n + 1, f, h => by
    have ih := foldU_congr U L L' k n f (fun i hi => h i (by omega))
    have step : ∀ M : Nat → Bool, foldU U M (n + 1) f k = if M n = true then app (foldU U M n f) (U n) k else foldU U M n f k := fun M => by
      simp only [foldU]
      split <;> rfl
    rw [step, step]
    by_cases hk : ∃ p ∈ U n, p.1 = k
    · rw [h n (by omega) hk, ih, app_yes (U n) (foldU U L n f) (foldU U L' n f) k hk]
    · have h3 : ∀ q ∈ U n, q.1 ≠ k := fun q hq e => hk ⟨q, hq, e⟩
      rw [app_no _ _ _ h3, app_no _ _ _ h3, ih]
      simp

theorem foldU_add (U : Nat → List (Nat × α)) (L L' : Nat → Bool) (i : Nat) (hi : L i = false) (hi' : L' i = true) (hs : ∀ j, j ≠ i → L' j = L j) (k : Nat) : ∀ (n : Nat) (f : Nat → α), i < n →
    (∀ j, i < j → j < n → L j = true → ∀ p ∈ U i, ∀ q ∈ U j, p.1 ≠ q.1) → foldU U L' n f k = app (foldU U L n f) (U i) k
  | 0, f, h, _ => by omega
  | n + 1, f, h, hd => by
    by_cases e : i = n
    · subst e
      have e1 : foldU U L' (i + 1) f = app (foldU U L' i f) (U i) := by simp only [foldU, hi', if_true]
      have e2 : foldU U L (i + 1) f = foldU U L i f := by simp only [foldU, hi]; rfl
      have e3 : foldU U L' i f = foldU U L i f := funext fun k => foldU_congr U L' L k i f (fun j hj _ => hs j (by omega))
      rw [e1, e2, e3]
    · have hin : i < n := by omega
      have ih := fun k => foldU_add U L L' i hi hi' hs k n f hin (fun j h1 h2 => hd j h1 (by omega))
      have ihf : foldU U L' n f = app (foldU U L n f) (U i) := by
        have : ∀ k, foldU U L' n f k = app (foldU U L n f) (U i) k := fun k => foldU_add U L L' i hi hi' hs k n f hin (fun j h1 h2 => hd j h1 (by omega))
        exact funext this
      have hLn : L' n = L n := hs n (fun e' => e e'.symm)
      simp only [foldU, hLn]
      cases hl : L n with
      | false => simp only [Bool.false_eq_true, if_false]; rw [ihf]
      | true =>
        simp only [if_true]
        have hdis := hd n hin (by omega) hl
        rw [ihf]
        by_cases h1 : ∃ q ∈ U n, q.1 = k
        · have h2 : ∀ p ∈ U i, p.1 ≠ k := fun p hp e => by
            obtain ⟨q, hq, hk⟩ := h1
            exact hdis p hp q hq (e.trans hk.symm)
          rw [app_no (U i) _ k h2, app_yes (U n) _ (foldU U L n f) k h1]
        · have h2 : ∀ q ∈ U n, q.1 ≠ k := fun q hq e => h1 ⟨q, hq, e⟩
          rw [app_no (U n) _ k h2]
          by_cases h3 : ∃ p ∈ U i, p.1 = k
          · exact app_yes (U i) _ _ k h3
          · have h4 : ∀ p ∈ U i, p.1 ≠ k := fun p hp e => h3 ⟨p, hp, e⟩
            rw [app_no (U i) _ k h4, app_no (U i) _ k h4, app_no (U n) _ k h2]
end

/-! ### What must come before what -/
theorem befAux_spec : ∀ (l : List Oper) (acc : List (List Nat)), (befAux l acc).length = acc.length + l.length ∧ (∀ j, j < acc.length → (befAux l acc).getD j [] = acc.getD j []) ∧
    ∀ j, j < l.length → ∃ o, l[j]? = some o ∧ ∀ x ∈ (befAux l acc).getD (acc.length + j) [], ∃ e ∈ o.after, Region.binds .any e = true ∧ (x = e.on ∨ x ∈ (befAux l acc).getD e.on [])
  | [], acc => ⟨rfl, fun _ _ => rfl, fun j hj => absurd hj (by simp)⟩
  | o :: r, acc => by
    obtain ⟨h1, h2, h3⟩ := befAux_spec r (acc ++ [edgesOf acc o])
    simp only [List.length_append, List.length_cons, List.length_nil, Nat.zero_add] at h1 h2 h3
    have hpre : ∀ j, j < acc.length → (befAux r (acc ++ [edgesOf acc o])).getD j [] = acc.getD j [] := fun j hj => by
      rw [h2 j (by omega), List.getD_eq_getElem?_getD, List.getElem?_append_left hj, ← List.getD_eq_getElem?_getD]
    refine ⟨by simp only [befAux, List.length_cons]; omega, hpre, fun j hj => ?_⟩
    cases j with
    | zero =>
      refine ⟨o, rfl, fun x hx => ?_⟩
      simp only [befAux, Nat.add_zero] at hx ⊢
      rw [h2 acc.length (by omega), List.getD_eq_getElem?_getD, List.getElem?_append_right (Nat.le_refl _)] at hx
      simp only [Nat.sub_self, List.getElem?_cons_zero, Option.getD_some, edgesOf, List.mem_flatMap, List.mem_filter, List.mem_cons] at hx
      obtain ⟨e, ⟨he, hb⟩, hx⟩ := hx
      refine ⟨e, Array.mem_toList_iff.1 he, hb, ?_⟩
      rcases hx with hx | hx
      · exact .inl hx
      · right
        by_cases hlt : e.on < acc.length
        · rw [hpre _ hlt]; exact hx
        · rw [List.getD_eq_getElem?_getD, List.getElem?_eq_none (by omega)] at hx
          simp at hx
    | succ j =>
      obtain ⟨o', ho', hx'⟩ := h3 j (by simpa using hj)
      refine ⟨o', by simpa using ho', fun x hx => ?_⟩
      simp only [befAux] at hx ⊢
      refine hx' x ?_
      rwa [show acc.length + 1 + j = acc.length + (j + 1) by omega]

theorem befores_spec {l : List Oper} {j : Nat} {o : Oper} (ho : l[j]? = some o) : ∀ x ∈ (befores l).getD j [], ∃ e ∈ o.after, Region.binds .any e = true ∧ (x = e.on ∨ x ∈ (befores l).getD e.on []) := by
  have hj : j < l.length := (List.getElem?_eq_some_iff.1 ho).1
  obtain ⟨_, _, h3⟩ := befAux_spec l []
  obtain ⟨o', ho', hx⟩ := h3 j hj
  rw [ho] at ho'
  cases ho'
  simpa [befores] using hx

theorem meets_of {a b : List Nat} {x : Nat} (ha : x ∈ a) (hb : x ∈ b) : meets a b = true := by
  unfold meets
  exact List.any_eq_true.2 ⟨x, ha, by rw [List.contains_eq_mem]; exact decide_eq_true hb⟩

theorem drawOk_edges {ops : Array Oper} (h : drawOk ops = true) {j : Nat} {o : Oper} (ho : ops[j]? = some o) : ∀ e ∈ o.after, Region.binds .any e = true → e.on < j := by
  have hl : ops.toList[j]? = some o := by simpa using ho
  have hj : j < ops.toList.length := (List.getElem?_eq_some_iff.1 hl).1
  unfold drawOk at h
  have h1 := List.all_eq_true.1 h j (List.mem_range.2 hj)
  simp only [hl, Bool.and_eq_true] at h1
  intro e he hb
  have h2 := List.all_eq_true.1 h1.1 e (Array.mem_toList_iff.2 he)
  rw [hb] at h2
  simpa using h2

theorem drawOk_pair {ops : Array Oper} (h : drawOk ops = true) {i j : Nat} {oi oj : Oper} (hi : ops[i]? = some oi) (hj : ops[j]? = some oj) (hij : i < j)
    (hm : meets oi.dst.toList (looks ops oj) = true ∨ meets oi.dst.toList oj.dst.toList = true ∨ meets (looks ops oi) oj.dst.toList = true) : i ∈ (befores ops.toList).getD j [] := by
  have hli : ops.toList[i]? = some oi := by simpa using hi
  have hlj : ops.toList[j]? = some oj := by simpa using hj
  have hjl : j < ops.toList.length := (List.getElem?_eq_some_iff.1 hlj).1
  unfold drawOk at h
  have h1 := List.all_eq_true.1 h j (List.mem_range.2 hjl)
  simp only [hlj, Bool.and_eq_true] at h1
  have h2 := List.all_eq_true.1 h1.2 i (List.mem_range.2 hij)
  simp only [hli] at h2
  have h3 : (meets oi.dst.toList (looks ops oj) || meets oi.dst.toList oj.dst.toList || meets (looks ops oi) oj.dst.toList) = true := by
    rcases hm with h | h | h <;> simp [h]
  rw [h3] at h2
  have h4 : ((befores ops.toList).getD j []).contains i = true := by simpa using h2
  rw [List.contains_eq_mem] at h4
  exact of_decide_eq_true h4

theorem traceOk_pair {bs : List (List Nat)} {tr : Trace} (h : traceOk bs tr = true) {i j : Nat} (hj : j < tr.length) (hij : i < j)
    (hm : meets (tr.getD i ([], [])).2 (tr.getD j ([], [])).1 = true ∨ meets (tr.getD i ([], [])).2 (tr.getD j ([], [])).2 = true ∨ meets (tr.getD i ([], [])).1 (tr.getD j ([], [])).2 = true) : i ∈ bs.getD j [] := by
  unfold traceOk at h
  have h1 := List.all_eq_true.1 h j (List.mem_range.2 hj)
  have h2 := List.all_eq_true.1 h1 i (List.mem_range.2 hij)
  simp only at h2
  have h3 : (meets (tr.getD i ([], [])).2 (tr.getD j ([], [])).1 || meets (tr.getD i ([], [])).2 (tr.getD j ([], [])).2 || meets (tr.getD i ([], [])).1 (tr.getD j ([], [])).2) = true := by
    rcases hm with h | h | h <;> (rw [h]; simp only [Bool.true_or, Bool.or_true])
  rw [h3] at h2
  have h4 : (bs.getD j []).contains i = true := by simpa using h2
  rw [List.contains_eq_mem] at h4
  exact of_decide_eq_true h4

/-! ### Every order -/
theorem count_set : ∀ (l : List Bool) (i : Nat), l[i]? = some false → (l.set i true).count false + 1 = l.count false
  | [], i, h => by simp at h
  | b :: r, 0, h => by simp at h; subst h; simp
  | b :: r, i + 1, h => by
    have := count_set r i (by simpa using h)
    simp only [List.set_cons_succ, List.count_cons]
    omega

theorem wpAny_inv {P : Program} {ops : Array Oper} {Q : Exit → Act → World → Prop} (J : Array Bool → Act → World → Prop)
    (hstep : ∀ listed a w i, listed.size = ops.size → J listed a w → i ∈ Region.ready .any ops listed → wpOp P ops Q i (fun a' w' => J (listed.setIfInBounds i true) a' w') a w)
    (hend : ∀ listed a w, listed.size = ops.size → J listed a w → Region.ready .any ops listed = [] → Q .normal a w) :
    ∀ (fuel : Nat) (listed : Array Bool) (a : Act) (w : World), listed.size = ops.size → listed.toList.count false ≤ fuel → J listed a w → wpAny P .any ops Q fuel listed a w
  | 0, listed, a, w, hs, hc, hJ => by
    have hr : Region.ready .any ops listed = [] := by
      rw [List.eq_nil_iff_forall_not_mem]
      intro i hi
      obtain ⟨h1, o, ho, _⟩ := mem_ready.1 hi
      have hlt : i < listed.size := by rw [hs]; exact (Array.getElem?_eq_some_iff.1 ho).1
      have h2 : listed[i] = false := by
        rw [Array.getD_eq_getD_getElem?, Array.getElem?_eq_getElem hlt] at h1
        exact h1
      have h3 : 0 < listed.toList.count false := List.count_pos_iff.2 (by
        rw [← h2]
        exact Array.mem_toList_iff.2 (Array.getElem_mem hlt))
      omega
    exact ⟨hr, hend listed a w hs hJ hr⟩
  | fuel + 1, listed, a, w, hs, hc, hJ => by
    refine ⟨hend listed a w hs hJ, fun i hi => ?_⟩
    refine wpOp_mono (fun a' w' hJ' => wpAny_inv J hstep hend fuel _ a' w' (by simpa using hs) ?_ hJ') (hstep listed a w i hs hJ hi)
    obtain ⟨h1, o, ho, _⟩ := mem_ready.1 hi
    have hlt : i < listed.size := by rw [hs]; exact (Array.getElem?_eq_some_iff.1 ho).1
    have h2 : listed[i] = false := by
      rw [Array.getD_eq_getD_getElem?, Array.getElem?_eq_getElem hlt] at h1
      exact h1
    have h3 := count_set listed.toList i (by simp [hlt, h2])
    have h4 : (listed.setIfInBounds i true).toList = listed.toList.set i true := by simp
    rw [h4]
    omega

/-! ### The lexical run -/
structure LexRun (E : Env) (rec : Code → St → Option (Ex × St)) (ops : Array Oper) (l : List Oper) (st st' : St) (tr : Trace) (sts : Nat → St) (outs : Nat → Out) : Prop where
  first : sts 0 = st
  last : sts l.length = st'
  len : tr.length = l.length
  step : ∀ i, i < l.length → ∃ o, l[i]? = some o ∧ sts (i + 1) = (sts i).put o.dst (outs i) ∧
    ((guardA ops (sts i).env o = some true ∧ astep E rec o (sts i) = some (outs i) ∧ tr.getD i ([], []) = (ard o (sts i), (outs i).upd.map (·.1))) ∨
     (guardA ops (sts i).env o = some false ∧ outs i = skipOut))

theorem adraw_run {E : Env} {rec : Code → St → Option (Ex × St)} {ops : Array Oper} : ∀ (l : List Oper) (st st' : St) (tr0 tr : Trace), adraw E rec ops l st tr0 = some (st', tr) →
    ∃ tr1 sts outs, tr = tr0 ++ tr1 ∧ LexRun E rec ops l st st' tr1 sts outs
  | [], st, st', tr0, tr, h => by
    simp only [adraw, Option.some.injEq, Prod.mk.injEq] at h
    obtain ⟨rfl, rfl⟩ := h
    exact ⟨[], fun _ => st, fun _ => skipOut, by simp, rfl, rfl, rfl, fun i hi => absurd hi (by simp)⟩
  | o :: r, st, st', tr0, tr, h => by
    simp only [adraw] at h
    have build : ∀ (out : Out) (t1 : List Nat × List Nat) (tr1 : Trace) (sts : Nat → St) (outs : Nat → Out), LexRun E rec ops r (st.put o.dst out) st' tr1 sts outs →
        ((guardA ops st.env o = some true ∧ astep E rec o st = some out ∧ t1 = (ard o st, out.upd.map (·.1))) ∨ (guardA ops st.env o = some false ∧ out = skipOut)) →
        LexRun E rec ops (o :: r) st st' (t1 :: tr1) (fun | 0 => st | i + 1 => sts i) (fun | 0 => out | i + 1 => outs i) := by
      intro out t1 tr1 sts outs hr h0
      refine ⟨rfl, hr.last, by simp [hr.len], fun i hi => ?_⟩
      cases i with
      | zero =>
        refine ⟨o, rfl, hr.first, ?_⟩
        rcases h0 with ⟨h1, h2, h3⟩ | ⟨h1, h2⟩
        · exact .inl ⟨h1, h2, by simpa using h3⟩
        · exact .inr ⟨h1, h2⟩
      | succ i =>
        obtain ⟨o', g1, g2, g3⟩ := hr.step i (by simpa using hi)
        exact ⟨o', by simpa using g1, g2, by simpa using g3⟩
    split at h
    · rename_i hg
      split at h
      · rename_i out hout
        obtain ⟨tr1, sts, outs, rfl, hr⟩ := adraw_run r _ st' _ tr h
        exact ⟨_ :: tr1, _, _, by simp, build out (ard o st, out.upd.map (·.1)) tr1 sts outs hr (.inl ⟨hg, hout, rfl⟩)⟩
      · cases h
    · rename_i hg
      obtain ⟨tr1, sts, outs, rfl, hr⟩ := adraw_run r _ st' _ tr h
      exact ⟨_ :: tr1, _, _, by simp, build skipOut ([], []) tr1 sts outs hr (.inr ⟨hg, rfl⟩)⟩
    · cases h

def eUpd (l : List Oper) (outs : Nat → Out) (i : Nat) : List (Nat × AV) :=
  match (l[i]?).bind (·.dst) with
  | some d => [(d, (outs i).val)]
  | none => []

theorem lex_states {E : Env} {rec : Code → St → Option (Ex × St)} {ops : Array Oper} {l : List Oper} {st st' : St} {tr : Trace} {sts : Nat → St} {outs : Nat → Out} (h : LexRun E rec ops l st st' tr sts outs) : ∀ i, i ≤ l.length →
    (sts i).env = foldU (eUpd l outs) (fun _ => true) i st.env ∧ (sts i).heap = foldU (fun i => (outs i).upd) (fun _ => true) i st.heap ∧ st.nxt ≤ (sts i).nxt ∧ ∀ j, j < i → (sts j).nxt + (outs j).cnt ≤ (sts i).nxt
  | 0, _ => by rw [h.first]; exact ⟨rfl, rfl, Nat.le_refl _, fun j hj => absurd hj (by omega)⟩
  | i + 1, hi => by
    obtain ⟨h1, h2, h3, h4⟩ := lex_states h i (by omega)
    obtain ⟨o, ho, hs, _⟩ := h.step i (by omega)
    rw [hs]
    refine ⟨?_, ?_, by simp only [St.put]; omega, fun j hj => ?_⟩
    · simp only [St.put, putEnv, foldU, if_true, eUpd, ho, Option.bind_some]
      rw [h1]
      cases o.dst <;> rfl
    · simp only [St.put, foldU, if_true, h2]
      rfl
    · simp only [St.put]
      rcases Nat.lt_or_ge j i with h5 | h5
      · have := h4 j h5; omega
      · obtain rfl : j = i := by omega
        omega

end Go.Abs
