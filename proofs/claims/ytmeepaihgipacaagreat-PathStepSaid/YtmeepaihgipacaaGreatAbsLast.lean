/-
An abstract interpreter: regions with a drawn order of which only the last operation sets memory; functions on the caller's heap.
-/
import Derived.Test.YtmeepaihgipacaaGreatAbsMem
set_option linter.unusedVariables false
set_option linter.unusedSimpArgs false
namespace Go.Abs

/-- Everything must come before the last operation. -/
def lastAll (ops : Array Oper) : Bool := (List.range (ops.toList.length - 1)).all fun i => ((befores ops.toList).getD (ops.toList.length - 1) []).contains i

theorem adraw_app {E : Env} {rec : Rec} {ops : Array Oper} : ∀ {l r : List Oper} {st st1 : St} {tr tr1 : Trace}, adraw E rec ops l st tr = some (st1, tr1) → adraw E rec ops (l ++ r) st tr = adraw E rec ops r st1 tr1
  | [], r, st, st1, tr, tr1, h => by
    simp only [adraw, Option.some.injEq, Prod.mk.injEq] at h
    obtain ⟨rfl, rfl⟩ := h
    rfl
  | o :: l, r, st, st1, tr, tr1, h => by
    simp only [adraw] at h
    rw [List.cons_append]
    rw [adraw]
    split at h
    · split at h
      · exact adraw_app h
      · cases h
    · exact adraw_app h
    · cases h

theorem adraw_len {E : Env} {rec : Rec} {ops : Array Oper} : ∀ {l : List Oper} {st st1 : St} {tr tr1 : Trace}, adraw E rec ops l st tr = some (st1, tr1) → tr1.length = tr.length + l.length
  | [], st, st1, tr, tr1, h => by
    simp only [adraw, Option.some.injEq, Prod.mk.injEq] at h
    obtain ⟨rfl, rfl⟩ := h
    rfl
  | o :: l, st, st1, tr, tr1, h => by
    simp only [adraw] at h
    split at h
    · split at h
      · have := adraw_len h
        simp only [List.length_append, List.length_cons, List.length_nil] at this ⊢
        omega
      · cases h
    · have := adraw_len h
      simp only [List.length_append, List.length_cons, List.length_nil] at this ⊢
      omega
    · cases h

theorem slow_last {E : Env} {id : Nat} {ops : Array Oper} {st st1 st2 : St} (hall : lastAll ops = true) (h1 : runF E true ops ops.toList.dropLast st = some st1) (h2 : runF E false ops (ops.toList.drop (ops.toList.length - 1)) st1 = some st2)
    (hpl : (ops.toList.getLast?.map fun o => plain o.op) = some true) : slowF E id ops st = some (.normal, st2) := by
  obtain ⟨last, hlast, hplain⟩ : ∃ last, ops.toList.getLast? = some last ∧ plain last.op = true := by
    cases hl : ops.toList.getLast? with
    | none => rw [hl] at hpl; cases hpl
    | some o => rw [hl] at hpl; simp at hpl; exact ⟨o, rfl, hpl⟩
  obtain ⟨ys, hys⟩ := List.getLast?_eq_some_iff.1 hlast
  have hdl : ops.toList.dropLast = ys := by rw [hys]; simp
  have hsplit : ops.toList = ops.toList.dropLast ++ [last] := by rw [hdl]; exact hys
  have hlen : ops.toList.length = ops.toList.dropLast.length + 1 := by rw [hdl, hys]; simp
  have hdrop : ops.toList.drop (ops.toList.length - 1) = [last] := by rw [hys]; simp
  rw [hdrop] at h2
  have h1' : quietF E ops ops.toList.dropLast st = some st1 := h1
  obtain ⟨tr', g1, g2⟩ := quietF_draw (tr := []) h1' (fun p hp => by cases hp)
  have glen := adraw_len g1
  have h2' : areg E (execF E) ops [last] st1 = some st2 := h2
  unfold slowF
  rw [execF_draw0]
  conv => lhs; rw [hsplit]
  rw [adraw_app g1]
  simp only [areg] at h2'
  simp only [adraw]
  split at h2'
  · split at h2'
    · rename_i st' ho
      simp only [Option.some.injEq] at h2'
      subst h2'
      unfold aone at ho
      rw [refCall_plain hplain] at ho
      simp only [Option.map_eq_some_iff] at ho
      obtain ⟨out, ho1, rfl⟩ := ho
      simp only [ho1]
      have : traceOk (befores (ops.toList.dropLast ++ [last])) (tr' ++ [(ard last st1, out.upd.map (·.1))]) = true := by
        rw [← hsplit]
        have hq : ∀ i, i < tr'.length → ((tr' ++ [(ard last st1, out.upd.map (·.1))]).getD i ([], [])).2 = [] := by
          intro i hi
          rw [List.getD_eq_getElem?_getD, List.getElem?_append_left hi, List.getElem?_eq_getElem hi, Option.getD_some]
          exact g2 _ (List.getElem_mem hi)
        unfold traceOk
        simp only [List.all_eq_true, List.mem_range, List.length_append, List.length_cons, List.length_nil]
        intro j hj i hij
        rcases Nat.lt_or_ge j tr'.length with hj' | hj'
        · rw [hq i (by omega), hq j hj', (meets_nil _).1, (meets_nil _).1, (meets_nil _).2]
          rfl
        · have hjl : j = ops.toList.length - 1 := by
            simp only [List.length_nil, Nat.zero_add] at glen
            omega
          have := List.all_eq_true.1 hall i (List.mem_range.2 (by omega))
          rw [hjl, this, Bool.or_true]
      rw [if_pos this]
    · cases h2'
  · simp only [Option.some.injEq] at h2'
    subst h2'
    have : traceOk (befores (ops.toList.dropLast ++ [last])) (tr' ++ [([], [])]) = true := traceOk_quiet (fun p hp => by
      rcases List.mem_append.1 hp with hp | hp
      · exact g2 p hp
      · simp only [List.mem_singleton] at hp; subst hp; rfl)
    dsimp only
    rw [if_pos this]
  · cases h2'

/-- A function's body, on the caller's heap. -/
def bodyK (P : Program) (rs : List ResultVar) : Option (Ex × St) → Option (List AV × St)
  | some (.normal, st) => (omap (resultAV P st) rs).map fun r => (r, st)
  | some (.ret, st) => (omap (resultAV P st) rs).map fun r => (r, st)
  | _ => none
theorem body_fn {E : Env} {f : FuncId} {fn : Func} {args : List AV} {h : AHeap} {nxt : Nat} (hf : E.P.funcs[f]? = some fn) (hok : fnOk fn = true) : body E (execF E) f args h nxt = bodyK E.P fn.results.toList (execB E ⟨argEnv args, h, nxt⟩ fn.body) := by
  unfold body
  cases hc : fn.body with
  | none => unfold fnOk at hok; rw [hc] at hok; cases hok
  | some c =>
    simp only [hf, hc, hok, if_true, execB]
    rcases execF E c ⟨argEnv args, h, nxt⟩ with _ | ⟨e, st⟩
    · rfl
    · cases e <;> rfl
theorem bodyK_normal (P rs st) : bodyK P rs (some (.normal, st)) = (omap (resultAV P st) rs).map fun r => (r, st) := rfl
theorem bodyK_ret (P rs st) : bodyK P rs (some (.ret, st)) = (omap (resultAV P st) rs).map fun r => (r, st) := rfl
theorem bodyK_ite (P rs) {p : Prop} [Decidable p] (x y : Option (Ex × St)) : bodyK P rs (if p then x else y) = if p then bodyK P rs x else bodyK P rs y := by split <;> rfl
theorem mapS (f : List AV → List AV × St) (r : List AV) : (some r).map f = some (f r) := rfl
theorem refK_some (E ops l d st r st') : refK E false ops l d st (some (r, st')) = runF E false ops l ⟨putEnv st.env d (uncomps r), st'.heap, st'.nxt⟩ := rfl
theorem uncomps1 (x : AV) : uncomps [x] = x := rfl
theorem runK_slow (E ops l d st v u us c) : runK E true ops l d st (some ⟨v, u :: us, c⟩) = none := by simp [runK]
theorem drawK_none (E id ops st) : drawK E id ops st none = slowF E id ops st := rfl
theorem symR : type_of% @bodyK_normal ∧ type_of% @bodyK_ret ∧ type_of% @bodyK_ite ∧ type_of% @mapS ∧ type_of% @refK_some ∧ type_of% @uncomps1 ∧ type_of% @runK_slow ∧ type_of% @drawK_none := ⟨@bodyK_normal, @bodyK_ret, @bodyK_ite, @mapS, @refK_some, @uncomps1, @runK_slow, @drawK_none⟩
end Go.Abs
