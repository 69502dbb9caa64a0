/-
An abstract interpreter, part M: calls.
-/
import Derived.Test.YtmeepaihgipacaaGreatAbsL
set_option linter.unusedVariables false
set_option linter.unusedSimpArgs false
namespace Go.Abs

def exOf : Ex → Exit
  | .normal => .normal
  | .exit i => .exit i
  | .ret => .ret

/-- A run of code is sound. -/
def RecOk (P : Program) (rec : Code → St → Option (Ex × St)) : Prop :=
  ∀ (c : Code) (nt : Nat) (C : Ctx) (m : Map) (S : Nat → Prop) (w : World) (st : St) (a : Act) (x : Ex) (st' : St), rec c st = some (x, st') → codeDsts (fun d => decide (d < nt)) c = true →
    Rel C m S (fun b => b < st.nxt) w st.heap → EnvRel nt m S w a st.env → ∀ (Q : Exit → Act → World → Prop),
    (∀ a' w' m' S', Rel C m' S' (fun b => b < st'.nxt) w' st'.heap → EnvRel nt m' S' w' a' st'.env → Later C m m' S S' w w' → st.nxt ≤ st'.nxt → Q (exOf x) a' w') → c.wp P Q a w

section
variable {P : Program} {C : Ctx} {m : Map} {S D : Nat → Prop} {w : World} {st : St} {a : Act} {n : Nat}

def resF (tmps : Array Value) : ResultVar → Sem Value
  | .tmp t => pure (tmps.getD t undef)
  | .cell b t => do loadVar t (← asAddr (tmps.getD b undef))

theorem results_eq (fn : Func) (tmps : Array Value) : results fn tmps = (do let vs ← fn.results.mapM (resF tmps); pure (if h : vs.size = 1 then vs[0] else .tuple vs)) := rfl

theorem result_sound (R : Rel C m S D w st.heap) (he : EnvRel n m S w a st.env) {x : ResultVar} {y : AV} (h : resultAV P st x = some y) :
    ∃ v, (resF a.tmps x).run P w = .ok v w ∧ ARep m S w y v := by
  cases x with
  | tmp t =>
    simp only [resultAV, Option.some.injEq] at h
    subst h
    exact ⟨_, rfl, he.rep t⟩
  | cell b t =>
    simp only [resultAV] at h
    split at h
    · rename_i k bb i off hg hk hb
      split at h
      · rename_i blk hblk
        split at h
        · rename_i hc
          simp only [Option.some.injEq] at h
          subst h
          have hx := he.rep b
          rw [hb] at hx
          obtain ⟨B, sz, ct, hm, hv⟩ := hx.ptr_inv
          obtain ⟨v, h1, h2⟩ := at_load (P := P) (at_ptr R hblk hc.1 hm) hg hk (.inl ⟨rfl, hc.2, rfl⟩)
          refine ⟨v, ?_, h2⟩
          simp [resF, hv, asAddr, h1]
        · cases h
      · cases h
    · cases h

theorem results_list (R : Rel C m S D w st.heap) (he : EnvRel n m S w a st.env) : ∀ {l : List ResultVar} {r : List AV}, omap (resultAV P st) l = some r →
    ∃ us : List Value, (l.mapM (resF a.tmps)).run P w = .ok us w ∧ us.length = r.length ∧ ∀ i, i < r.length → ARep m S w (r.getD i undefA) (us.getD i undef)
  | [], r, h => by
    simp only [omap, Option.some.injEq] at h
    subst h
    exact ⟨[], rfl, rfl, fun i hi => absurd hi (by simp)⟩
  | x :: l, r, h => by
    simp only [omap] at h
    split at h
    · rename_i y hy
      split at h
      · rename_i l' hl
        simp only [Option.some.injEq] at h
        subst h
        obtain ⟨v, h1, h2⟩ := result_sound (P := P) R he hy
        obtain ⟨us, h3, h4, h5⟩ := results_list R he hl
        refine ⟨v :: us, ?_, by simp [h4], fun i hi => ?_⟩
        · simp only [List.mapM_cons, Sem.run_bind, h1, Result.andThen_ok, h3]
          rfl
        · cases i with
          | zero => simpa using h2
          | succ i => simpa using h5 i (by simpa using hi)
      · cases h
    · cases h

theorem results_sound (R : Rel C m S D w st.heap) (he : EnvRel n m S w a st.env) {fn : Func} {r : List AV} (h : omap (resultAV P st) fn.results.toList = some r) :
    ∃ us : Array Value, (results fn a.tmps).run P w = .ok (tupV us) w ∧ us.size = r.length ∧ ∀ i, i < r.length → ARep m S w (r.getD i undefA) (us.getD i undef) := by
  obtain ⟨us, h1, h2, h3⟩ := results_list (P := P) R he h
  refine ⟨us.toArray, ?_, by simpa using h2, fun i hi => by simpa [Array.getD_eq_getD_getElem?, List.getD_eq_getElem?_getD] using h3 i hi⟩
  rw [results_eq, Array.mapM_eq_mapM_toList]
  simp only [Sem.run_bind, Sem.run_map, h1, Result.andThen_ok]
  rfl

theorem argEnv_rep {args : List AV} {vs : Array Value} (hvs : vs.size = args.length) (hr : ∀ i, i < args.length → ARep m S w (args.getD i undefA) (vs.getD i undef)) (k t : Nat) : ARep m S w (argEnv args t) ((vs ++ Array.replicate k undef).getD t undef) := by
  unfold argEnv
  by_cases h : t < args.length
  · have := hr t h
    have e : (vs ++ Array.replicate k undef).getD t undef = vs.getD t undef := by
      rw [Array.getD_eq_getD_getElem?, Array.getD_eq_getD_getElem?, Array.getElem?_append_left (by omega)]
    rw [e]
    exact this
  · have e1 : args.getD t undefA = undefA := by
      rw [List.getD_eq_getElem?_getD, List.getElem?_eq_none (by omega)]
      rfl
    have e2 : (vs ++ Array.replicate k undef).getD t undef = undef := by
      rw [Array.getD_eq_getD_getElem?, Array.getElem?_append_right (by omega), Array.getElem?_replicate]
      split <;> rfl
    rw [e1, e2]
    exact .pure (.v _)

theorem body_sound {E : Env} {rec : Code → St → Option (Ex × St)} (hrec : RecOk E.P rec) {f : FuncId} {args : List AV} {h : AHeap} {nxt : Nat} {r : List AV} {st' : St} (hb : body E rec f args h nxt = some (r, st'))
    (R : Rel C m S (fun b => b < nxt) w h) (vs : Array Value) (hvs : vs.size = args.length) (hr : ∀ i, i < args.length → ARep m S w (args.getD i undefA) (vs.getD i undef)) :
    (∃ fn, E.P.funcs[f]? = some fn ∧ fn.body.isSome = true ∧ (fn.name == "runtime.NumGoroutine") = false) ∧
    Calls E.P f vs w (fun e w' => ∃ (us : Array Value) (m' : Map) (S' : Nat → Prop), e = .returned (tupV us) ∧ us.size = r.length ∧ (∀ i, i < r.length → ARep m' S' w' (r.getD i undefA) (us.getD i undef)) ∧ Rel C m' S' (fun b => b < st'.nxt) w' st'.heap ∧ Later C m m' S S' w w' ∧ nxt ≤ st'.nxt) := by
  unfold body at hb
  split at hb
  · rename_i fn hf
    split at hb
    · rename_i c hc
      split at hb
      · rename_i hok
        have hok' := hok
        unfold fnOk at hok
        rw [hc] at hok
        simp only [Bool.and_eq_true, Bool.not_eq_true'] at hok
        refine ⟨⟨fn, hf, by rw [hc]; rfl, hok.2⟩, ?_⟩
        refine calls_of_wp hf hc ?_
        have hE : EnvRel fn.ntmps m S w { tmps := vs ++ Array.replicate (fn.ntmps - vs.size) undef, defers := [] } (argEnv args) := ⟨rfl, by simp; omega, fun t => argEnv_rep hvs hr _ t⟩
        have fin : ∀ (x : Ex) (st1 : St), (x = .normal ∨ x = .ret) → rec c ⟨argEnv args, h, nxt⟩ = some (x, st1) → (omap (resultAV E.P st1) fn.results.toList).map (fun r => (r, st1)) = some (r, st') → c.wp E.P (bodyPost E.P fn (fun e w' => ∃ (us : Array Value) (m' : Map) (S' : Nat → Prop), e = .returned (tupV us) ∧ us.size = r.length ∧ (∀ i, i < r.length → ARep m' S' w' (r.getD i undefA) (us.getD i undef)) ∧ Rel C m' S' (fun b => b < st'.nxt) w' st'.heap ∧ Later C m m' S S' w w' ∧ nxt ≤ st'.nxt)) { tmps := vs ++ Array.replicate (fn.ntmps - vs.size) undef, defers := [] } w := by
          intro x st1 hx hr1 hres
          simp only [Option.map_eq_some_iff, Prod.mk.injEq] at hres
          obtain ⟨r', hr', rfl, rfl⟩ := hres
          refine hrec c fn.ntmps C m S w ⟨argEnv args, h, nxt⟩ _ x st1 hr1 hok.1 R hE _ ?_
          intro a' w' m' S' R' hE' L' hn'
          obtain ⟨us, g1, g2, g3⟩ := results_sound (P := E.P) R' hE' hr'
          rcases hx with rfl | rfl <;> exact ⟨hE'.defers, tupV us, g1, us, m', S', rfl, g2, g3, R', L', hn'⟩
        split at hb
        · rename_i st1 hr1; exact fin .normal st1 (.inl rfl) hr1 hb
        · rename_i st1 hr1; exact fin .ret st1 (.inr rfl) hr1 hb
        · cases hb
      · cases hb
    · cases hb
  · cases hb

/-- A call that works on no heap of the caller's. -/
theorem callP_sound {E : Env} {rec : Code → St → Option (Ex × St)} (hrec : RecOk E.P rec) {f : FuncId} {args : List AV} {rcs : List RC} (hc : callP E rec f args = some rcs) (S : Nat → Prop) (w : World) (hS : ∀ k, S k → k < w.heap.size)
    (vs : Array Value) (hvs : vs.size = args.length) (hr : ∀ i, i < args.length → PRep S w (args.getD i undefA) (vs.getD i undef)) :
    (∃ fn, E.P.funcs[f]? = some fn ∧ fn.body.isSome = true ∧ (fn.name == "runtime.NumGoroutine") = false) ∧ Calls E.P f vs w (CallPost (fun _ => False) S w rcs) := by
  unfold callP at hc
  split at hc
  · rename_i r st hb
    let C : Ctx := { w0 := w, S0 := S, L0 := fun _ => False }
    have R : Rel C (fun _ => none) S (fun b => b < 0) w (fun _ => none) :=
      ⟨Ext.refl _ _, fun _ h => h, hS, fun _ h => .inl h, fun b x hb => (by cases hb), fun b b' x x' y y' hb => (by cases hb), fun b y hb => (by cases hb)⟩
    obtain ⟨h1, h2⟩ := body_sound hrec hb R vs hvs (fun i hi => .pure (hr i hi))
    refine ⟨h1, h2.mono ?_⟩
    rintro e w' ⟨us, m', S', rfl, hus, hur, R', L', _⟩
    obtain ⟨S'', g1, g2, g3, g4⟩ := finish_sound R' rfl hc hus hur
    refine ⟨_, S'', rfl, R'.ext, fun k hk => g1 k (L'.ss k hk), fun k hk => ?_, g3, ?_⟩
    · rcases g2 k hk with h5 | h5
      · rcases R'.snew k h5 with h6 | h6 | h6
        · exact .inl h6
        · exact h6.elim
        · exact .inr (.inr h6)
      · exact .inr (.inr h5)
    · obtain ⟨us', k1, k2, k3, k4⟩ := g4
      refine ⟨us', k1, k2, fun i hi => ?_, k4⟩
      have := k3 i hi
      revert this
      generalize rcs.getD i default = rc
      cases rc with
      | p x => exact id
      | own sz es => rintro ⟨B, ct, arr, ty, q1, q2, q3, q4, q5, q6, q7, q8⟩; exact ⟨B, ct, arr, ty, q1, q2, q3, q4, q5, q6, .inr q7, q8⟩
  · cases hc

/-- The caller's heap behind a call. -/
theorem Rel.after {h : AHeap} (R : Rel C m S D w h) {L S' : Nat → Prop} {w' : World} (hx : Ext L w w') (hS : ∀ k, S k → S' k) (hS' : ∀ k, S' k → S k ∨ L k ∨ w.heap.size ≤ k) (hlt : ∀ k, S' k → k < w'.heap.size)
    (hL : ∀ k, L k → (C.L0 k ∨ C.w0.heap.size ≤ k) ∧ ¬ S k) (hlive : ∀ b x y, h b = some x → x.lv = true → m b = some y → ¬ L y.1) : Rel C m S' D w' h ∧ Later C m m S S' w w' := by
  have same : SameOn S w w' := fun k hk => hx.block k (R.slt k hk) (fun hl => (hL k hl).2 hk)
  refine ⟨⟨?_, fun k hk => hS k (R.s0 k hk), hlt, ?_, ?_, R.inj, R.dom⟩, fun _ _ h => h, hS, same⟩
  · exact R.ext.trans hx (fun i hi => (hL i hi).1)
  · intro k hk
    rcases hS' k hk with h1 | h1 | h1
    · exact R.snew k h1
    · exact (hL k h1).1.elim (fun h => .inr (.inl h)) (fun h => .inr (.inr h))
    · exact .inr (.inr (Nat.le_trans R.ext.size h1))
  · intro b x hb
    obtain ⟨B, ct, h1, h2, h3, h4⟩ := R.blk b x hb
    refine ⟨B, ct, h1, fun hlv => ⟨?_, (h2 hlv).2⟩, fun hlv => hS _ (h3 hlv), ?_⟩
    · intro hs
      rcases hS' B hs with h5 | h5 | h5
      · exact (h2 hlv).1 h5
      · exact hlive b x _ hb hlv h1 h5
      · exact absurd h4.lt (by omega)
    · refine h4.mono (fun _ _ h => h) hS same (hx.block B h4.lt ?_)
      intro hl
      cases hlv : x.lv with
      | true => exact hlive b x _ hb hlv h1 hl
      | false => exact (hL B hl).2 (h3 hlv)

/-- What a primitive promises. -/
def PrimOk (E : Env) : Prop := ∀ f spec, E.prim f = some spec →
  (∃ fn, E.P.funcs[f]? = some fn ∧ fn.body.isSome = true ∧ (fn.name == "runtime.NumGoroutine") = false) ∧
  ∀ args rcs, spec args = some rcs → ∀ (L S : Nat → Prop) (w : World) (vs : Array Value), (∀ k, S k → k < w.heap.size) → vs.size = args.length → (∀ i, i < args.length → RCRep S L w (args.getD i default) (vs.getD i undef)) →
    (∀ i j B l c l' c', i < args.length → j < args.length → i ≠ j → (args.getD i default).isOwn = true → (args.getD j default).isOwn = true → vs.getD i undef = .slice (some ⟨B, 0, none⟩) l c → vs.getD j undef ≠ .slice (some ⟨B, 0, none⟩) l' c') →
    Calls E.P f vs w (CallPost L S w rcs)

def StepGoal (P : Program) (C : Ctx) (m : Map) (S D : Nat → Prop) (w : World) (st : St) (a : Act) (o : Oper) (out : Out) : Prop :=
  ∀ (K : Act → World → Prop) (Q : Exit → Act → World → Prop),
    (∀ v w' m' S', Rel C m' S' (fun b => D b ∨ (st.nxt ≤ b ∧ b < st.nxt + out.cnt)) w' (applyUpd st.heap out.upd) → Later C m m' S S' w w' → ARep m' S' w' out.val v → K (a.put o.dst v) w') → o.wp P a w K Q

theorem StepGoal.of_op {o : Oper} {out : Out} (h : OpGoal P C m S D w st a o out) : StepGoal P C m S D w st a o out := by
  intro K Q hK
  obtain ⟨v, w', m', ⟨nx, h1, h2⟩, R', L', hr⟩ := h
  have := hK v w' m' S R' L' hr
  unfold Oper.wp
  rw [h1]
  rcases h2 with rfl | ⟨rfl, rfl⟩ <;> exact this

theorem exec_call {o : Oper} {x : Operand} {args : Array Operand} {ats : Array TypeId} {f : FuncId} {caps : Array Value} (hop : o.op = .call { callee := .value x, args := args, argTypes := ats }) (hx : a.eval x = .func (.func f) #[] caps)
    (hf : ∃ fn, P.funcs[f]? = some fn ∧ fn.body.isSome = true ∧ (fn.name == "runtime.NumGoroutine") = false) (w : World) : (execOp a.eval o).run P w = .ok (.enter f (args.map a.eval ++ caps)) w := by
  obtain ⟨fn, h1, h2, h3⟩ := hf
  have h2' : ¬ fn.body = none := by cases hb : fn.body <;> simp_all
  have h3' : ¬ fn.name = "runtime.NumGoroutine" := by simpa using h3
  simp only [execOp, hop]
  simp [resolve, Deferred.ofValue, hx, invoke, callFunc, h1, h2', h3']

theorem StepGoal.of_call {o : Oper} {out : Out} {x : Operand} {args : Array Operand} {ats : Array TypeId} {f : FuncId} {caps : Array Value} (hop : o.op = .call { callee := .value x, args := args, argTypes := ats }) (hx : a.eval x = .func (.func f) #[] caps)
    (hf : ∃ fn, P.funcs[f]? = some fn ∧ fn.body.isSome = true ∧ (fn.name == "runtime.NumGoroutine") = false)
    (h : Calls P f (args.map a.eval ++ caps) w (fun e w' => ∃ v m' S', e = .returned v ∧ Rel C m' S' (fun b => D b ∨ (st.nxt ≤ b ∧ b < st.nxt + out.cnt)) w' (applyUpd st.heap out.upd) ∧ Later C m m' S S' w w' ∧ ARep m' S' w' out.val v)) : StepGoal P C m S D w st a o out := by
  intro K Q hK
  unfold Oper.wp
  rw [exec_call hop hx hf w]
  refine h.mono ?_
  rintro e w' ⟨v, m', S', rfl, h1, h2, h3⟩
  exact hK v w' m' S' h1 h2 h3

theorem callee_sound (he : EnvRel n m S w a st.env) {x : Operand} {args : Array Operand} {ats : Array TypeId} {f : FuncId} {l : List AV} (h : calleeOf (aevalO st.env) { callee := .value x, args := args, argTypes := ats } = some (f, l)) :
    ∃ caps : Array Value, a.eval x = .func (.func f) #[] caps ∧ (args.map a.eval ++ caps).size = l.length ∧ ∀ i, i < l.length → ARep m S w (l.getD i undefA) ((args.map a.eval ++ caps).getD i undef) := by
  simp only [calleeOf] at h
  split at h
  · rename_i f' cs hf
    simp only [Option.some.injEq, Prod.mk.injEq] at h
    obtain ⟨rfl, rfl⟩ := h
    have hx := he.eval x
    rw [hf] at hx
    obtain ⟨caps, hv, hl, hr⟩ := hx.fn_inv
    refine ⟨caps, hv, by simp [hl], fun i hi => ?_⟩
    by_cases h1 : i < args.size
    · have := he.eval args[i]
      have e1 : (args.toList.map (aevalO st.env) ++ cs).getD i undefA = aevalO st.env args[i] := by
        rw [List.getD_eq_getElem?_getD, List.getElem?_append_left (by simpa using h1)]
        simp [h1]
      have e2 : (args.map a.eval ++ caps).getD i undef = a.eval args[i] := by
        rw [Array.getD_eq_getD_getElem?, Array.getElem?_append_left (by simpa using h1)]
        simp [h1]
      rw [e1, e2]
      exact this
    · have h2 : i - args.size < cs.length := by simp at hi; omega
      have := hr (i - args.size) h2
      have e1 : (args.toList.map (aevalO st.env) ++ cs).getD i undefA = cs.getD (i - args.size) undefA := by
        rw [List.getD_eq_getElem?_getD, List.getElem?_append_right (by simp; omega)]
        simp [List.getD_eq_getElem?_getD]
      have e2 : (args.map a.eval ++ caps).getD i undef = caps.getD (i - args.size) undef := by
        rw [Array.getD_eq_getD_getElem?, Array.getElem?_append_right (by simp; omega)]
        simp [Array.getD_eq_getD_getElem?]
      rw [e1, e2]
      exact this
  · cases h

/-- The results of a call, as one value. -/
theorem uncomps_rep {vs : List AV} {us : Array Value} (hl : us.size = vs.length) (hr : ∀ i, i < vs.length → ARep m S w (vs.getD i undefA) (us.getD i undef)) : ARep m S w (uncomps vs) (tupV us) := by
  unfold uncomps
  split
  · rename_i x
    have h1 : us.size = 1 := by simpa using hl
    have := hr 0 (by simp)
    have e : tupV us = us.getD 0 undef := by
      unfold tupV
      rw [dif_pos h1]
      simp [Array.getD_eq_getD_getElem?, Array.getElem?_eq_getElem (show 0 < us.size by omega)]
    rw [e]
    simpa using this
  · rename_i hne
    have h1 : us.size ≠ 1 := by
      intro h1
      rw [hl] at h1
      obtain ⟨x, hx⟩ := List.length_eq_one_iff.1 h1
      exact hne x hx
    have e : tupV us = .tuple us := by
      unfold tupV
      rw [dif_neg h1]
    rw [e]
    exact .tup _ _ hl hr

theorem applyUpd_append (h : AHeap) (l r : List (Nat × Option Blk)) : applyUpd h (l ++ r) = applyUpd (applyUpd h l) r := by simp [applyUpd]

theorem drops_apply : ∀ (l : List Nat) (g : AHeap) (b : Nat), applyUpd g (l.map fun b => (b, none)) b = if b ∈ l then none else g b
  | [], g, b => by simp [applyUpd]
  | c :: r, g, b => by
    have := drops_apply r (fset g c none) b
    simp only [applyUpd, List.map_cons, List.foldl_cons] at this ⊢
    rw [this]
    by_cases h1 : b ∈ r
    · simp [h1]
    · by_cases h2 : b = c
      · subst h2; simp [fset]
      · simp [h1, h2, fset]

/-- Some blocks are forgotten. -/
theorem Rel.drops {h : AHeap} (R : Rel C m S D w h) (l : List Nat) : Rel C m S D w (applyUpd h (l.map fun b => (b, none))) := by
  refine (R.change (fun _ _ h => h) rfl rfl rfl (Nat.le_refl _) (Nat.le_refl _) (fun _ _ => .inl rfl) (fun b x hb => ?_) ?_ R.dom).1
  · rw [drops_apply] at hb
    split at hb
    · cases hb
    · exact .inl ⟨hb, fun _ _ => rfl⟩
  · intro b b' x x' y y' hb hb' hl hl' hy hy' heq
    rw [drops_apply] at hb hb'
    split at hb
    · cases hb
    · split at hb'
      · cases hb'
      · exact R.inj b b' x x' y y' hb hb' hl hl' hy hy' heq

theorem primArgs_spec {h : AHeap} : ∀ {args : List AV} {l : List RC}, primArgs h args = some l → l.length = args.length ∧ ∀ i, i < args.length →
    (∃ b blk es, ownOf h (args.getD i undefA) = some b ∧ h b = some blk ∧ omap (omap (pur depth h)) blk.es = some es ∧ l.getD i default = .own blk.sz es) ∨
    (ownOf h (args.getD i undefA) = none ∧ ∃ y, pur depth h (args.getD i undefA) = some y ∧ l.getD i default = .p y)
  | [], l, hp => by
    simp only [primArgs, Option.some.injEq] at hp
    subst hp
    exact ⟨rfl, fun i hi => absurd hi (by simp)⟩
  | x :: r, l, hp => by
    simp only [primArgs] at hp
    split at hp
    · rename_i b l' ho hl'
      obtain ⟨h1, h2⟩ := primArgs_spec hl'
      split at hp
      · rename_i blk hb
        split at hp
        · rename_i es hes
          simp only [Option.some.injEq] at hp
          subst hp
          refine ⟨by simp [h1], fun i hi => ?_⟩
          cases i with
          | zero => exact .inl ⟨b, blk, es, ho, hb, hes, rfl⟩
          | succ i => simpa using h2 i (by simpa using hi)
        · cases hp
      · cases hp
    · rename_i l' ho hl'
      obtain ⟨h1, h2⟩ := primArgs_spec hl'
      split at hp
      · rename_i y hy
        simp only [Option.some.injEq] at hp
        subst hp
        refine ⟨by simp [h1], fun i hi => ?_⟩
        cases i with
        | zero => exact .inr ⟨ho, y, hy, rfl⟩
        | succ i => simpa using h2 i (by simpa using hi)
      · cases hp
    · cases hp

theorem acall_sound {E : Env} {rec : Code → St → Option (Ex × St)} (hrec : RecOk E.P rec) (hprim : PrimOk E) (R : Rel C m S D w st.heap) (he : EnvRel n m S w a st.env) {o : Oper} {out : Out} {x : Operand} {args : Array Operand} {ats : Array TypeId}
    (hop : o.op = .call { callee := .value x, args := args, argTypes := ats }) (hn : ∀ b, st.nxt ≤ b → b < st.nxt + out.cnt → ¬ D b) (h : acall E rec { callee := .value x, args := args, argTypes := ats } st = some out) : StepGoal E.P C m S D w st a o out := by
  unfold acall at h
  split at h
  · rename_i f l hcal
    obtain ⟨caps, hxv, hsz, hrep⟩ := callee_sound he hcal
    split at h
    · cases h
    · split at h
      · -- a primitive
        rename_i spec hspec
        simp only at h
        split at h
        · rename_i hchk
          simp only [Bool.and_eq_true, decide_eq_true_eq] at hchk
          obtain ⟨hdis, hnod⟩ := hchk
          split at h
          · rename_i pl hpl
            simp only [Option.map_eq_some_iff] at h
            obtain ⟨rcs, hrcs, rfl⟩ := h
            obtain ⟨hfn, hcontract⟩ := hprim f spec hspec
            obtain ⟨R1, L1⟩ := R.freezes (l.flatMap (primReach st.heap))
            obtain ⟨p1, p2⟩ := primArgs_spec hpl
            generalize hS1 : (fun k => S k ∨ memOf m st.heap (fun b => b ∈ l.flatMap (primReach st.heap) ∧ ∃ x, st.heap b = some x) k) = S1 at R1 L1
            generalize hh1 : applyUpd st.heap (freezes st.heap (l.flatMap (primReach st.heap))) = h1 at R1 hpl p2
            have hown : ∀ b, b ∈ l.filterMap (ownOf st.heap) → b ∉ l.flatMap (primReach st.heap) := fun b hb hb2 => by
              have h0 := List.all_eq_true.1 hdis b hb
              have h9 : (l.flatMap (primReach st.heap)).contains b = true := by rw [List.contains_eq_mem]; exact decide_eq_true hb2
              rw [h9] at h0
              cases h0
            have hh1b : ∀ b, b ∉ l.flatMap (primReach st.heap) → h1 b = st.heap b := fun b hb => by rw [← hh1, freezes_apply, if_neg hb]
            let L : Nat → Prop := memOf m st.heap (fun b => b ∈ l.filterMap (ownOf st.heap))
            have hLf : ∀ k, L k → ∃ b blk y, b ∈ l.filterMap (ownOf st.heap) ∧ h1 b = some blk ∧ blk.lv = true ∧ m b = some y ∧ y.1 = k := by
              rintro k ⟨b, blk, y, hb, hblk, hy, rfl⟩
              obtain ⟨c, hc, hco⟩ := List.mem_filterMap.1 hb
              obtain ⟨blk', _, hb', hlv⟩ := ownOf_some hco
              rw [hblk] at hb'
              cases hb'
              exact ⟨b, blk, y, hb, by rw [hh1b b (hown b hb)]; exact hblk, hlv, hy, rfl⟩
            have hLn : ∀ k, L k → (C.L0 k ∨ C.w0.heap.size ≤ k) ∧ ¬ S1 k := by
              intro k hk
              obtain ⟨b, blk, y, _, hb, hlv, hy, rfl⟩ := hLf k hk
              obtain ⟨_, _, g2, _⟩ := R1.get hb (B := y.1) (sz := y.2.1) (ct := y.2.2) hy
              exact ⟨(g2 hlv).2, (g2 hlv).1⟩
            have hrep1 : ∀ i, i < l.length → ARep m S1 w (l.getD i undefA) ((args.map a.eval ++ caps).getD i undef) := fun i hi => (hrep i hi).mono L1.ms L1.ss L1.same
            have ownEq : ∀ c b, ownOf h1 c = some b → c ∈ l → b ∈ l.filterMap (ownOf st.heap) := by
              intro c b hc hcl
              obtain ⟨blk, hce, hb, hlv⟩ := ownOf_some hc
              rw [← hh1, freezes_apply] at hb
              split at hb
              · simp only [Option.map_eq_some_iff] at hb
                obtain ⟨x0, _, rfl⟩ := hb
                cases hlv
              · refine List.mem_filterMap.2 ⟨c, hcl, ?_⟩
                rw [hce]
                simp [ownOf, hb, hlv]
            have hargs : ∀ i, i < pl.length → RCRep S1 L w (pl.getD i default) ((args.map a.eval ++ caps).getD i undef) := by
              intro i hi
              have hi' : i < l.length := by omega
              have hr1 := hrep1 i hi'
              rcases p2 i hi' with ⟨b, blk, es, q1, q2, q3, q4⟩ | ⟨q1, y, q2, q3⟩
              · rw [q4]
                obtain ⟨blk', hce, hb', hlv⟩ := ownOf_some q1
                rw [q2] at hb'
                cases hb'
                rw [hce] at hr1
                obtain ⟨B, sz, ct, cap, hm, hle, hcc, hv⟩ := hr1.sl_inv
                obtain ⟨rfl, hh, g2, g3⟩ := R1.get q2 hm
                obtain ⟨hnS, hnew⟩ := g2 hlv
                obtain ⟨arr, ty, k1, k2, k3, k4, k5⟩ := hh
                obtain ⟨o1, o2⟩ := omap_spec q3
                have hcap : cap = ct := by omega
                subst hcap
                have hin : ∀ i, i < blk.es.length → (es.getD i []).length = blk.sz ∧ ∀ j, j < blk.sz → pur depth h1 ((blk.es.getD i []).getD j undefA) = some ((es.getD i []).getD j undefA) := by
                  intro i hi
                  obtain ⟨r1, r2⟩ := omap_spec (o2 i [] [] hi)
                  have r3 := k4 _ (getD_mem blk.es i [] hi)
                  exact ⟨by omega, fun j hj => r2 j undefA undefA (by omega)⟩
                have hbl := ownEq _ _ q1 (getD_mem l i undefA hi')
                refine ⟨B, cap, arr, ty, by rw [hv, o1, Nat.zero_mul], k1, k2, by omega, ?_, ?_, ?_, hnS⟩
                · intro e he'
                  obtain ⟨q, hq, rfl⟩ := List.mem_iff_getElem.1 he'
                  have := (hin q (by omega)).1
                  simpa [List.getD_eq_getElem?_getD, List.getElem?_eq_getElem hq] using this
                · intro i' j hi' hj
                  exact pur_sound R1 depth ((hin i' (by omega)).2 j hj) (k5 i' j (by omega) hj)
                · exact ⟨b, blk, (B, blk.sz, cap), hbl, by rw [← hh1b b (hown b hbl)]; exact q2, hm, rfl⟩
              · rw [q3]
                exact pur_sound R1 depth q2 hr1
            have hdist : ∀ i j B l1 c1 l2 c2, i < pl.length → j < pl.length → i ≠ j → (pl.getD i default).isOwn = true → (pl.getD j default).isOwn = true → (args.map a.eval ++ caps).getD i undef = .slice (some ⟨B, 0, none⟩) l1 c1 → (args.map a.eval ++ caps).getD j undef ≠ .slice (some ⟨B, 0, none⟩) l2 c2 := by
              intro i j B l1 c1 l2 c2 hi hj hij ho1 ho2 hv1 hv2
              have own : ∀ i, i < pl.length → (pl.getD i default).isOwn = true → ∀ B l1 c1, (args.map a.eval ++ caps).getD i undef = .slice (some ⟨B, 0, none⟩) l1 c1 → ∃ b blk y, ownOf st.heap (l.getD i undefA) = some b ∧ h1 b = some blk ∧ blk.lv = true ∧ m b = some y ∧ y.1 = B := by
                intro i hi ho B l1 c1 hv
                rcases p2 i (by omega) with ⟨b, blk, es, q1, q2, q3, q4⟩ | ⟨q1, y, q2, q3⟩
                · obtain ⟨blk', hce, hb', hlv⟩ := ownOf_some q1
                  have hr1 := hrep1 i (by omega)
                  rw [hce] at hr1
                  obtain ⟨B', sz, ct, cap, hm, hle, hcc, hv'⟩ := hr1.sl_inv
                  rw [hv] at hv'
                  simp only [Value.slice.injEq, Option.some.injEq, Addr.mk.injEq] at hv'
                  have hbl := ownEq _ _ q1 (getD_mem l i undefA (by omega))
                  have hbs : st.heap b = some blk' := by rw [← hh1b b (hown b hbl)]; exact hb'
                  refine ⟨b, blk', _, ?_, hb', hlv, hm, hv'.1.1.symm⟩
                  rw [hce]
                  simp [ownOf, hbs, hlv]
                · rw [q3] at ho
                  cases ho
              obtain ⟨b1, x1, y1, e1, f1, g1, k1, r1⟩ := own i hi ho1 B l1 c1 hv1
              obtain ⟨b2, x2, y2, e2, f2, g2, k2, r2⟩ := own j hj ho2 B l2 c2 hv2
              have hb12 := R1.inj b1 b2 x1 x2 y1 y2 f1 f2 g1 g2 k1 k2 (r1.trans r2.symm)
              subst hb12
              -- one block at two places of the list: the list of owned blocks would hold it twice
              have key : ∀ (l : List AV) (i j : Nat), i < j → j < l.length → (l.filterMap (ownOf st.heap)).Nodup → ownOf st.heap (l.getD i undefA) = some b1 → ownOf st.heap (l.getD j undefA) ≠ some b1 := by
                intro l
                induction l with
                | nil => intro i j _ hj; simp at hj
                | cons c r ih =>
                  intro i j hij hj hnd h3 h4
                  obtain ⟨j', rfl⟩ : ∃ k, j = k + 1 := ⟨j - 1, by omega⟩
                  rw [List.getD_cons_succ] at h4
                  have hmem : b1 ∈ r.filterMap (ownOf st.heap) := List.mem_filterMap.2 ⟨_, getD_mem r j' undefA (by simpa using hj), h4⟩
                  cases i with
                  | zero =>
                    rw [List.getD_cons_zero] at h3
                    rw [List.filterMap_cons, h3] at hnd
                    exact (List.nodup_cons.1 hnd).1 hmem
                  | succ i' =>
                    rw [List.getD_cons_succ] at h3
                    refine ih i' j' (by omega) (by simpa using hj) ?_ h3 h4
                    rw [List.filterMap_cons] at hnd
                    split at hnd
                    · exact hnd
                    · exact (List.nodup_cons.1 hnd).2
              rcases Nat.lt_or_gt_of_ne hij with h5 | h5
              · exact key l i j h5 (by omega) hnod e1 e2
              · exact key l j i h5 (by omega) hnod e2 e1
            have hcalls := hcontract pl rcs hrcs L S1 w (args.map a.eval ++ caps) R1.slt (by omega) hargs hdist
            refine StepGoal.of_call hop hxv hfn (hcalls.mono ?_)
            rintro e w' ⟨v, S', rfl, hext, g1, g2, g3, us, hus, husz, husr, hcnt⟩
            have R2 := R1.drops (l.filterMap (ownOf st.heap))
            obtain ⟨R3, L3⟩ := R2.after hext g1 g2 g3 hLn (by
              intro b x y hb hlv hy hl
              rw [drops_apply] at hb
              split at hb
              · cases hb
              · rename_i hnb
                obtain ⟨b2, x2, y2, hb2, hx2, hlv2, hy2, heq⟩ := hLf _ hl
                exact hnb ((R1.inj b b2 x x2 y y2 hb hx2 hlv hlv2 hy hy2 heq.symm) ▸ hb2))
            have hNN : ∀ B, (L B ∨ w.heap.size ≤ B) → C.L0 B ∨ C.w0.heap.size ≤ B := fun B hB => hB.elim (fun h => (hLn B h).1) (fun h => .inr (Nat.le_trans R.ext.size h))
            obtain ⟨m', R4, hms, hml, hmr⟩ := mat_sound hNN rcs us.toList st.nxt m _ R3 (by simpa using husz) (fun i hi => by simpa [List.getD_eq_getElem?_getD, Array.getD_eq_getD_getElem?] using husr i hi) hcnt hn (by
              intro b x y B hb hlv hy ⟨i, sz, es, hi, hrc, len, ct, hv⟩ heq
              have h5 := husr i hi
              rw [hrc] at h5
              obtain ⟨B', ct', arr, ty, q1, q2, q3, q4, q5, q6, q7, q8⟩ := h5
              have hv' : us.getD i undef = .slice (some ⟨B, 0, none⟩) len ct := by simpa [List.getD_eq_getElem?_getD, Array.getD_eq_getD_getElem?] using hv
              rw [hv'] at q1
              simp only [Value.slice.injEq, Option.some.injEq, Addr.mk.injEq] at q1
              have hBB : B = B' := q1.1.1
              subst hBB
              rw [drops_apply] at hb
              split at hb
              · cases hb
              · rename_i hnb
                rcases q7 with q7 | q7
                · obtain ⟨b2, x2, y2, hb2, hx2, hlv2, hy2, heq2⟩ := hLf _ q7
                  exact hnb ((R1.inj b b2 x x2 y y2 hb hx2 hlv hlv2 hy hy2 (heq.trans heq2.symm)) ▸ hb2)
                · obtain ⟨_, hh, _, _⟩ := R1.get hb (B := y.1) (sz := y.2.1) (ct := y.2.2) hy
                  have := hh.lt
                  omega)
            refine ⟨v, m', S', rfl, ?_, ⟨hms, fun k hk => L3.ss k (L1.ss k hk), fun k hk => L3.same k (L1.ss k hk)⟩, ?_⟩
            · simp only [mapR, applyUpd_append, hh1]
              exact R4
            · rw [hus]
              exact uncomps_rep (by omega) (fun i hi => by
                have := hmr i (by omega)
                simpa [List.getD_eq_getElem?_getD, Array.getD_eq_getD_getElem?] using this)
          · cases h
        · cases h
      · -- a function with a body
        simp only at h
        split at h
        · rename_i pl hpl
          simp only [Option.map_eq_some_iff] at h
          obtain ⟨rcs, hrcs, rfl⟩ := h
          obtain ⟨R1, L1⟩ := R.freezes (l.flatMap (reach depth st.heap))
          obtain ⟨p1, p2⟩ := omap_spec hpl
          obtain ⟨hfn, hcalls⟩ := callP_sound hrec hrcs _ w R1.slt (args.map a.eval ++ caps) (by omega) (fun i hi => by
            have hi' : i < l.length := by omega
            exact pur_sound R1 depth (p2 i undefA undefA hi') ((hrep i hi').mono L1.ms L1.ss L1.same))
          refine StepGoal.of_call hop hxv hfn (hcalls.mono ?_)
          rintro e w' ⟨v, S', rfl, hext, g1, g2, g3, us, hus, husz, husr, hcnt⟩
          obtain ⟨R3, L3⟩ := R1.after hext g1 g2 g3 (fun k hk => hk.elim) (fun b x y hb hlv hy hl => hl)
          have hNN : ∀ B, (False ∨ w.heap.size ≤ B) → C.L0 B ∨ C.w0.heap.size ≤ B := fun B hB => hB.elim (fun h => h.elim) (fun h => .inr (Nat.le_trans R.ext.size h))
          obtain ⟨m', R4, hms, hml, hmr⟩ := mat_sound hNN rcs us.toList st.nxt m _ R3 (by simpa using husz) (fun i hi => by simpa [List.getD_eq_getElem?_getD, Array.getD_eq_getD_getElem?] using husr i hi) hcnt hn (by
            intro b x y B hb hlv hy ⟨i, sz, es, hi, hrc, len, ct, hv⟩ heq
            have h5 := husr i hi
            rw [hrc] at h5
            obtain ⟨B', ct', arr, ty, q1, q2, q3, q4, q5, q6, q7, q8⟩ := h5
            have hv' : us.getD i undef = .slice (some ⟨B, 0, none⟩) len ct := by simpa [List.getD_eq_getElem?_getD, Array.getD_eq_getD_getElem?] using hv
            rw [hv'] at q1
            simp only [Value.slice.injEq, Option.some.injEq, Addr.mk.injEq] at q1
            have hBB : B = B' := q1.1.1
            subst hBB
            rcases q7 with q7 | q7
            · exact q7
            · obtain ⟨_, hh, _, _⟩ := R1.get hb (B := y.1) (sz := y.2.1) (ct := y.2.2) hy
              have := hh.lt
              omega)
          refine ⟨v, m', S', rfl, ?_, ⟨hms, fun k hk => L3.ss k (L1.ss k hk), fun k hk => L3.same k (L1.ss k hk)⟩, ?_⟩
          · simp only [mapR, applyUpd_append]
            exact R4
          · rw [hus]
            exact uncomps_rep (by omega) (fun i hi => by
              have := hmr i (by omega)
              simpa [List.getD_eq_getElem?_getD, Array.getD_eq_getD_getElem?] using this)
        · cases h
  · cases h

theorem astep_sound {E : Env} {rec : Code → St → Option (Ex × St)} (hrec : RecOk E.P rec) (hprim : PrimOk E) (R : Rel C m S D w st.heap) (he : EnvRel n m S w a st.env) {o : Oper} {out : Out} (hn : ∀ b, st.nxt ≤ b → b < st.nxt + out.cnt → ¬ D b) (h : astep E rec o st = some out) : StepGoal E.P C m S D w st a o out := by
  unfold astep at h
  split at h
  · rename_i x args ats hop
    exact acall_sound hrec hprim R he hop hn h
  · rename_i f first caps hop
    split at h
    · split at h
      · rename_i hz
        simp only [Option.some.injEq] at h
        subst h
        have h0 : aop E.P o st = some ⟨.fn f (caps.toList.map (aevalO st.env)), [], 0⟩ := by simp only [aop, hop, if_pos hz]
        obtain ⟨v, w', m', ⟨nx, h1, h2⟩, R', L', hr⟩ := aop_sound R he (out := ⟨.fn f (caps.toList.map (aevalO st.env)), [], 0⟩) hn h0
        obtain ⟨R1, L1⟩ := R'.freezes ((caps.toList.map (aevalO st.env)).flatMap (reach depth st.heap))
        intro K Q hK
        have := hK v w' m' _ R1 (L'.trans L1) (hr.mono L1.ms L1.ss L1.same)
        unfold Oper.wp
        rw [h1]
        rcases h2 with rfl | ⟨rfl, rfl⟩ <;> exact this
      · cases h
    · exact .of_op (aop_sound R he hn h)
  · exact .of_op (aop_sound R he hn h)
end
end Go.Abs
