/-
An abstract interpreter, part U: rules for running code on values that are not known.
-/
import Derived.Test.YtmeepaihgipacaaGreatAbsT
set_option linter.unusedVariables false
set_option linter.unusedSimpArgs false
namespace Go.Abs

/-! ### Regions -/

noncomputable def runF (E : Env) (q : Bool) (ops : Array Oper) (l : List Oper) (st : St) : Option St :=
  match q with
  | true => quietF E ops l st
  | false => areg E (execF E) ops l st

def normO : Option St → Option (Ex × St)
  | some st => some (.normal, st)
  | none => none

noncomputable def drawK (E : Env) (id : Nat) (ops : Array Oper) (st : St) : Option St → Option (Ex × St)
  | some st' => some (.normal, st')
  | none => slowF E id ops st

theorem exec_region (E : Env) (id : Nat) (ops : Array Oper) (st : St) : execF E (.region id ops false) st = normO (runF E false ops ops.toList st) := by
  rw [execF_region]
  unfold runF
  cases areg E (execF E) ops ops.toList st <;> rfl

theorem exec_draw (E : Env) (id : Nat) (ops : Array Oper) (st : St) : execF E (.region id ops true) st = drawK E id ops st (runF E true ops ops.toList st) := by
  rw [execF_draw]
  unfold runF drawK
  cases quietF E ops ops.toList st <;> rfl

/-- What comes behind an operation. -/
noncomputable def runK (E : Env) (q : Bool) (ops : Array Oper) (l : List Oper) (d : Option Tmp) (st : St) : Option Out → Option St
  | some out => if q = true ∧ out.upd ≠ [] then none else runF E q ops l (st.put d out)
  | none => none

def plain : Op → Bool
  | .call { callee := .value _, .. } => false
  | .makeFunc .. => false
  | _ => true

theorem refCall_plain {E : Env} {rec : Rec} {o : Oper} {st : St} (h : plain o.op = true) : refCall E rec o st = none := by
  unfold refCall
  split
  · rename_i hop
    rw [hop] at h
    cases h
  · rfl

theorem astep_plain {E : Env} {rec : Rec} {o : Oper} {st : St} (h : plain o.op = true) : astep E rec o st = aop E.P o st := by
  unfold astep
  split
  · rename_i hop
    rw [hop] at h
    cases h
  · rename_i hop
    rw [hop] at h
    cases h
  · rfl

theorem run_nil (E : Env) (q : Bool) (ops : Array Oper) (st : St) : runF E q ops [] st = some st := by cases q <;> rfl

theorem run_op {E : Env} {q : Bool} {ops : Array Oper} {l : List Oper} {d : Option Tmp} {op : Op} {ty : TypeId} {pos : String} {af : Array Edge} {st : St} (h : plain op = true) :
    runF E q ops (⟨d, op, ty, pos, af, none⟩ :: l) st = runK E q ops l d st (aop E.P ⟨d, op, ty, pos, af, none⟩ st) := by
  cases q with
  | false =>
    show areg E (execF E) ops _ st = _
    simp only [areg, guardA]
    unfold aone
    rw [refCall_plain h]
    simp only [astep_plain (E := E) (rec := execF E) (o := ⟨d, op, ty, pos, af, none⟩) (st := st) h]
    cases aop E.P ⟨d, op, ty, pos, af, none⟩ st <;> rfl
  | true =>
    show quietF E ops _ st = _
    simp only [quietF, guardA, astep_plain (E := E) (rec := execF E) (o := ⟨d, op, ty, pos, af, none⟩) (st := st) h]
    cases aop E.P ⟨d, op, ty, pos, af, none⟩ st with
    | none => rfl
    | some out =>
      obtain ⟨v, u, c⟩ := out
      cases u with
      | nil => simp [runK, runF]
      | cons a b => simp [runK]

def makeO (E : Env) (f : FuncId) (caps : List AV) (h : AHeap) : Bool → Option Out
  | true => some ⟨.fn f caps, freezes h (caps.flatMap (reach depth h)), 0⟩
  | false => some ⟨.fn f caps, [], 0⟩
theorem run_make {E : Env} {q : Bool} {ops : Array Oper} {l : List Oper} {d : Option Tmp} {f : FuncId} {caps : Array Operand} {ty : TypeId} {pos : String} {af : Array Edge} {st : St} :
    runF E q ops (⟨d, .makeFunc (.func f) #[] caps, ty, pos, af, none⟩ :: l) st = runK E q ops l d st (makeO E f (caps.toList.map (aevalO st.env)) st.heap (E.frz f)) := by
  have ha : astep E (execF E) ⟨d, .makeFunc (.func f) #[] caps, ty, pos, af, none⟩ st = makeO E f (caps.toList.map (aevalO st.env)) st.heap (E.frz f) := by
    simp only [astep]
    cases E.frz f with
    | true => simp [makeO]
    | false => simp [makeO, aop]
  cases q with
  | false =>
    show areg E (execF E) ops _ st = _
    simp only [areg, guardA]
    unfold aone
    simp only [refCall, ha]
    cases makeO E f (caps.toList.map (aevalO st.env)) st.heap (E.frz f) <;> rfl
  | true =>
    show quietF E ops _ st = _
    simp only [quietF, guardA, ha]
    cases makeO E f (caps.toList.map (aevalO st.env)) st.heap (E.frz f) with
    | none => rfl
    | some out =>
      obtain ⟨v, u, c⟩ := out
      cases u with
      | nil => simp [runK, runF]
      | cons a b => simp [runK]

/-- A call of a function. -/
noncomputable def acallF (E : Env) (f : FuncId) (args : List AV) (st : St) : Option Out :=
  match E.prim f with
    | some spec =>
      let owns := args.filterMap (ownOf st.heap)
      let fr := args.flatMap (primReach st.heap)
      if owns.all (fun b => !fr.contains b) && decide owns.Nodup then
        match primArgs (applyUpd st.heap (freezes st.heap fr)) args with
        | some l => (spec l).map (mapR st (freezes st.heap fr ++ owns.map fun b => (b, none)))
        | none => none
      else none
    | none =>
      let upd := freezes st.heap (args.flatMap (reach depth st.heap))
      match omap (pur depth (applyUpd st.heap upd)) args with
      | some l => (callF E f l).map (mapR st upd)
      | none => none

noncomputable def refK (E : Env) (q : Bool) (ops : Array Oper) (l : List Oper) (d : Option Tmp) (st : St) : Option (List AV × St) → Option St
  | some (r, st') => if q = true then none else runF E q ops l ⟨putEnv st.env d (uncomps r), st'.heap, st'.nxt⟩
  | none => none

noncomputable def callK (E : Env) (q : Bool) (ops : Array Oper) (l : List Oper) (d : Option Tmp) (st : St) : Option (FuncId × List AV) → Option St
  | some (f, args) => if E.ref f then refK E q ops l d st (body E (execF E) f args st.heap st.nxt) else runK E q ops l d st (acallF E f args st)
  | none => none

theorem run_call {E : Env} {q : Bool} {ops : Array Oper} {l : List Oper} {d : Option Tmp} {x : Operand} {args : Array Operand} {ats : Array TypeId} {ty : TypeId} {pos : String} {af : Array Edge} {st : St} :
    runF E q ops (⟨d, .call { callee := .value x, args := args, argTypes := ats }, ty, pos, af, none⟩ :: l) st = callK E q ops l d st (calleeOf (aevalO st.env) { callee := .value x, args := args, argTypes := ats }) := by
  have hac : ∀ f l', calleeOf (aevalO st.env) { callee := .value x, args := args, argTypes := ats } = some (f, l') → acall E (execF E) { callee := .value x, args := args, argTypes := ats } st = if E.ref f then none else acallF E f l' st := by
    intro f l' hc
    unfold acall acallF
    rw [hc]
    rfl
  cases hc : calleeOf (aevalO st.env) { callee := .value x, args := args, argTypes := ats } with
  | none =>
    have h1 : acall E (execF E) { callee := .value x, args := args, argTypes := ats } st = none := by unfold acall; rw [hc]
    cases q with
    | false =>
      show areg E (execF E) ops _ st = _
      simp only [areg, guardA, aone, refCall, astep, hc, h1]
      rfl
    | true =>
      show quietF E ops _ st = _
      simp only [quietF, guardA, astep, h1]
      rfl
  | some p =>
    obtain ⟨f, l'⟩ := p
    have h1 := hac f l' hc
    cases hr : E.ref f with
    | true =>
      rw [hr, if_pos rfl] at h1
      cases q with
      | false =>
        show areg E (execF E) ops _ st = _
        simp only [areg, guardA, aone, refCall, hc, hr, if_true]
        simp only [callK, hr, if_true]
        cases body E (execF E) f l' st.heap st.nxt with
        | none => rfl
        | some z => obtain ⟨r, st'⟩ := z; simp [refK, runF]
      | true =>
        show quietF E ops _ st = _
        simp only [quietF, guardA, astep, h1, callK, hr, if_true]
        cases body E (execF E) f l' st.heap st.nxt with
        | none => rfl
        | some z => obtain ⟨r, st'⟩ := z; simp [refK]
    | false =>
      rw [hr, if_neg (by simp)] at h1
      cases q with
      | false =>
        show areg E (execF E) ops _ st = _
        simp only [areg, guardA, aone, refCall, hc, hr, astep, h1, callK]
        cases acallF E f l' st with
        | none => rfl
        | some z => simp [runK, runF]
      | true =>
        show quietF E ops _ st = _
        simp only [quietF, guardA, astep, h1, callK, hr]
        cases acallF E f l' st with
        | none => rfl
        | some z =>
          obtain ⟨v, u, c⟩ := z
          cases u with
          | nil => simp [runK, runF]
          | cons a b => simp [runK]

noncomputable def opK (E : Env) (q : Bool) (ops : Array Oper) (l : List Oper) (d : Option Tmp) (ty : TypeId) (pos : String) (af : Array Edge) (st : St) (op : Op) : Bool → Option St
  | true => runK E q ops l d st (aop E.P ⟨d, op, ty, pos, af, none⟩ st)
  | false => runF E q ops (⟨d, op, ty, pos, af, none⟩ :: l) st

theorem run_any (E : Env) (q : Bool) (ops : Array Oper) (l : List Oper) (d : Option Tmp) (op : Op) (ty : TypeId) (pos : String) (af : Array Edge) (st : St) :
    runF E q ops (⟨d, op, ty, pos, af, none⟩ :: l) st = opK E q ops l d ty pos af st op (plain op) := by
  cases h : plain op with
  | true => exact run_op h
  | false => rfl

theorem opK_true (E : Env) (q : Bool) (ops : Array Oper) (l : List Oper) (d : Option Tmp) (op : Op) (ty : TypeId) (pos : String) (af : Array Edge) (st : St) :
    opK E q ops l d ty pos af st op true = runK E q ops l d st (aop E.P ⟨d, op, ty, pos, af, none⟩ st) := rfl
theorem opK_call (E : Env) (q : Bool) (ops : Array Oper) (l : List Oper) (d : Option Tmp) (x : Operand) (args : Array Operand) (ats : Array TypeId) (ty : TypeId) (pos : String) (af : Array Edge) (st : St) :
    opK E q ops l d ty pos af st (.call { callee := .value x, args := args, argTypes := ats }) false = callK E q ops l d st (calleeOf (aevalO st.env) { callee := .value x, args := args, argTypes := ats }) := run_call
theorem opK_make (E : Env) (q : Bool) (ops : Array Oper) (l : List Oper) (d : Option Tmp) (f : FuncId) (caps : Array Operand) (ty : TypeId) (pos : String) (af : Array Edge) (st : St) :
    opK E q ops l d ty pos af st (.makeFunc (.func f) #[] caps) false = runK E q ops l d st (makeO E f (caps.toList.map (aevalO st.env)) st.heap (E.frz f)) := run_make
theorem applyUpd_nil' (h : AHeap) : applyUpd h [] = h := rfl

/-- The slot of a guard. -/
def gslot : List Oper → Nat → Option Tmp
  | [], _ => none
  | o :: _, 0 => o.dst
  | _ :: r, j + 1 => gslot r j
theorem gslot_zero (d op ty pos af g r) : gslot (⟨d, op, ty, pos, af, g⟩ :: r) 0 = d := rfl
theorem gslot_succ (o r j) : gslot (o :: r) (j + 1) = gslot r j := rfl
theorem gslot_eq (ops : Array Oper) (j : Nat) : (ops[j]?).bind (·.dst) = gslot ops.toList j := by
  have key : ∀ (l : List Oper) (j : Nat), (l[j]?).bind (·.dst) = gslot l j := by
    intro l
    induction l with
    | nil => intro j; rfl
    | cons o r ih => intro j; cases j with
      | zero => rfl
      | succ j => exact ih j
  rw [← key, Array.getElem?_toList]
def gval (env : Nat → AV) : Option Tmp → Option AV
  | some t => some (env t)
  | none => none
theorem gval_some (env t) : gval env (some t) = some (env t) := rfl
noncomputable def gK (E : Env) (q : Bool) (ops : Array Oper) (l : List Oper) (d : Option Tmp) (op : Op) (ty : TypeId) (pos : String) (af : Array Edge) (st : St) : Option Bool → Option St
  | some true => opK E q ops l d ty pos af st op (plain op)
  | some false => runF E q ops l ⟨putEnv st.env d undefA, st.heap, st.nxt⟩
  | none => none
theorem gK_true (E q ops l d op ty pos af st) : gK E q ops l d op ty pos af st (some true) = opK E q ops l d ty pos af st op (plain op) := rfl
theorem gK_false (E q ops l d op ty pos af st) : gK E q ops l d op ty pos af st (some false) = runF E q ops l ⟨putEnv st.env d undefA, st.heap, st.nxt⟩ := rfl
def gwO (want : Bool) : Option AV → Option Bool
  | some x => gwant want x
  | none => none
theorem gwO_true (b : Bool) : gwO true (some (.v (.bool b))) = some b := by cases b <;> rfl
theorem gwO_false (b : Bool) : gwO false (some (.v (.bool b))) = some (!b) := by cases b <;> rfl
theorem gwO_undef (w : Bool) : gwO w (some undefA) = some false := rfl

theorem run_guard (E : Env) (q : Bool) (ops : Array Oper) (l : List Oper) (d : Option Tmp) (op : Op) (ty : TypeId) (pos : String) (af : Array Edge) (j : Nat) (want : Bool) (st : St) :
    runF E q ops (⟨d, op, ty, pos, af, some (j, want)⟩ :: l) st = gK E q ops l d op ty pos af st (gwO want (gval st.env (gslot ops.toList j))) := by
  have hga : guardA ops st.env ⟨d, op, ty, pos, af, some (j, want)⟩ = gwO want (gval st.env (gslot ops.toList j)) := by
    simp only [guardA, gslot_eq]
    cases gslot ops.toList j <;> rfl
  have swapR : ∀ st, refCall E (execF E) ⟨d, op, ty, pos, af, some (j, want)⟩ st = refCall E (execF E) ⟨d, op, ty, pos, af, none⟩ st := fun st => rfl
  have swapP : aop E.P ⟨d, op, ty, pos, af, some (j, want)⟩ st = aop E.P ⟨d, op, ty, pos, af, none⟩ st := by
    have ha : apure E.P ⟨d, op, ty, pos, af, some (j, want)⟩ st.env = apure E.P ⟨d, op, ty, pos, af, none⟩ st.env := rfl
    unfold aop
    cases op <;> simp only [ha]
  have swapS : astep E (execF E) ⟨d, op, ty, pos, af, some (j, want)⟩ st = astep E (execF E) ⟨d, op, ty, pos, af, none⟩ st := by
    unfold astep
    split
    · rename_i hop
      simp only at hop
      subst hop
      rfl
    · rename_i hop
      simp only at hop
      subst hop
      simp only [swapP]
    · rename_i hop
      simp only at hop
      rw [swapP]
  cases hb : guardA ops st.env ⟨d, op, ty, pos, af, some (j, want)⟩ with
  | none =>
    rw [← hga, hb]
    cases q with
    | false => show areg E (execF E) ops _ st = _; simp only [areg, hb]; rfl
    | true => show quietF E ops _ st = _; simp only [quietF, hb]; rfl
  | some b =>
    rw [← hga, hb]
    cases b with
    | true =>
      rw [gK_true, ← run_any]
      have hb0 : guardA ops st.env ⟨d, op, ty, pos, af, none⟩ = some true := rfl
      cases q with
      | false =>
        show areg E (execF E) ops _ st = areg E (execF E) ops _ st
        simp only [areg, hb, hb0]
        have : aone E (execF E) ⟨d, op, ty, pos, af, some (j, want)⟩ st = aone E (execF E) ⟨d, op, ty, pos, af, none⟩ st := by
          unfold aone
          rw [swapR, swapS]
        rw [this]
      | true =>
        show quietF E ops _ st = quietF E ops _ st
        simp only [quietF, hb, hb0, swapS]
    | false =>
      rw [gK_false]
      cases q with
      | false =>
        show areg E (execF E) ops _ st = areg E (execF E) ops _ _
        simp only [areg, hb, St.put, skipOut, applyUpd_nil', Nat.add_zero]
      | true =>
        show quietF E ops _ st = quietF E ops _ _
        simp only [quietF, hb, St.put, skipOut, applyUpd_nil', Nat.add_zero]

theorem plain_eqs : (∀ x, plain (.move x) = true) ∧ (∀ x, plain (.assign x) = true) ∧ (∀ c x y, plain (.pick c x y) = true) ∧ (∀ t, plain (.alloc t) = true) ∧ (∀ t x, plain (.box t x) = true) ∧ (∀ t ps, plain (.build t ps) = true) ∧ (∀ t n ps, plain (.buildSlice t n ps) = true) ∧ (∀ t x, plain (.load t x) = true) ∧ (∀ t x y, plain (.store t x y) = true) ∧
    (∀ x, plain (.nilCheck x) = true) ∧ (∀ b t x y u, plain (.binOp b t x y u) = true) ∧ (∀ b t x, plain (.unOp b t x) = true) ∧ (∀ s d x, plain (.convert s d x) = true) ∧ (∀ f a b, plain (.makeFunc f a b) = false) ∧ (∀ t a b, plain (.makeSlice t a b) = true) ∧ (∀ t x a b c, plain (.slice t x a b c) = true) ∧ (∀ s x f, plain (.fieldAddr s x f) = true) ∧ (∀ s x f, plain (.field s x f) = true) ∧
    (∀ t x i, plain (.indexAddr t x i) = true) ∧ (∀ t x i, plain (.index t x i) = true) ∧ (∀ x i, plain (.extract x i) = true) ∧ (∀ b as ts, plain (.call { callee := .builtin b, args := as, argTypes := ts }) = true) ∧ (∀ x as ts, plain (.call { callee := .value x, args := as, argTypes := ts }) = false) := by
  refine ⟨?_, ?_, ?_, ?_, ?_, ?_, ?_, ?_, ?_, ?_, ?_, ?_, ?_, ?_, ?_, ?_, ?_, ?_, ?_, ?_, ?_, ?_, ?_⟩ <;> intros <;> rfl

/-! ### The state -/

theorem runK_val (E q ops l d env h n v c) : runK E q ops l d ⟨env, h, n⟩ (some ⟨v, [], c⟩) = runF E q ops l ⟨putEnv env d v, h, n + c⟩ := by
  simp [runK, St.put, applyUpd]
theorem runK_upd (E ops l d env h n v u us c) : runK E false ops l d ⟨env, h, n⟩ (some ⟨v, u :: us, c⟩) = runF E false ops l ⟨putEnv env d v, applyUpd h (u :: us), n + c⟩ := by
  simp [runK, St.put]
theorem runK_none (E q ops l d st) : runK E q ops l d st none = none := rfl
theorem runK_ite (E q ops l d st) {p : Prop} [Decidable p] (x y : Option Out) : runK E q ops l d st (if p then x else y) = if p then runK E q ops l d st x else runK E q ops l d st y := by split <;> rfl
theorem putEnv_some (env : Nat → AV) (d : Tmp) (x : AV) : putEnv env (some d) x = fset env d x := rfl
theorem putEnv_none (env : Nat → AV) (x : AV) : putEnv env none x = env := rfl
theorem fset_app {α : Type} (f : Nat → α) (k t : Nat) (x : α) : fset f k x t = if t = k then x else f t := rfl
theorem ev_tmp (env : Nat → AV) (t : Tmp) : aevalO env (.tmp t) = env t := rfl
theorem ev_const (env : Nat → AV) (x : Value) : aevalO env (.const x) = .v x := rfl
theorem ev_func (env : Nat → AV) (f : FuncId) : aevalO env (.func f) = .fn f [] := rfl
theorem applyUpd_nil (h : AHeap) : applyUpd h [] = h := rfl
theorem applyUpd_cons (h : AHeap) (p : Nat × Option Blk) (l : List (Nat × Option Blk)) : applyUpd h (p :: l) = applyUpd (fset h p.1 p.2) l := rfl
theorem normO_some (st : St) : normO (some st) = some (.normal, st) := rfl
theorem normO_none : normO none = none := rfl
theorem normO_ite {p : Prop} [Decidable p] (x y : Option St) : normO (if p then x else y) = if p then normO x else normO y := by split <;> rfl
theorem drawK_some (E id ops st st') : drawK E id ops st (some st') = some (.normal, st') := rfl
theorem thenF_normal (E : Env) (b : Code) (st : St) : thenF E b (some (.normal, st)) = execF E b st := rfl
theorem thenF_ret (E : Env) (b : Code) (st : St) : thenF E b (some (.ret, st)) = some (.ret, st) := rfl
theorem thenF_exit (E : Env) (b : Code) (i : Nat) (st : St) : thenF E b (some (.exit i, st)) = some (.exit i, st) := rfl
theorem thenF_none (E : Env) (b : Code) : thenF E b none = none := rfl
theorem thenF_ite (E : Env) (b : Code) {p : Prop} [Decidable p] (x y : Option (Ex × St)) : thenF E b (if p then x else y) = if p then thenF E b x else thenF E b y := by split <;> rfl
theorem blockF_normal (i : Nat) (st : St) : blockF i (some (.normal, st)) = some (.normal, st) := rfl
theorem blockF_ret (i : Nat) (st : St) : blockF i (some (.ret, st)) = some (.ret, st) := rfl
theorem blockF_exit (i j : Nat) (st : St) : blockF i (some (.exit j, st)) = some (if j = i then .normal else .exit j, st) := rfl
theorem blockF_none (i : Nat) : blockF i none = none := rfl
theorem blockF_ite (i : Nat) {p : Prop} [Decidable p] (x y : Option (Ex × St)) : blockF i (if p then x else y) = if p then blockF i x else blockF i y := by split <;> rfl
theorem tt_bool (t : Bool) : tt (.v (.bool t)) = (t = true) := rfl
theorem ff_bool (t : Bool) : ff (.v (.bool t)) = (t = false) := rfl
/-- Both branches of a condition. -/
theorem exec_cond_bool {E : Env} {x : Operand} {a b : Code} {st : St} {t : Bool} (h : aevalO st.env x = .v (.bool t)) : execF E (.cond x a b) st = if t = true then execF E a st else execF E b st := by
  rw [execF_cond, h]
  cases t <;> simp [tt, ff]

noncomputable def condF (E : Env) (a b : Code) (st : St) : AV → Option (Ex × St)
  | .v (.bool t) => if t = true then execF E a st else execF E b st
  | _ => none
theorem exec_cond (E : Env) (x : Operand) (a b : Code) (st : St) : execF E (.cond x a b) st = condF E a b st (aevalO st.env x) := by
  unfold condF
  split
  · rename_i t ht; exact exec_cond_bool ht
  · rename_i hne
    rw [execF_cond]
    have h1 : ¬ tt (aevalO st.env x) := by
      intro h
      unfold tt at h
      split at h
      · rename_i t ht; exact hne t ht
      · exact h
    have h2 : ¬ ff (aevalO st.env x) := by
      intro h
      unfold ff at h
      split at h
      · rename_i t ht; exact hne t ht
      · exact h
    rw [if_neg h1, if_neg h2]
theorem condF_bool (E a b st t) : condF E a b st (.v (.bool t)) = if t = true then execF E a st else execF E b st := rfl

/-! ### Operations -/

def outV : Option AV → Option Out
  | some r => some ⟨r, [], 0⟩
  | none => none
theorem outV_some (r : AV) : outV (some r) = some ⟨r, [], 0⟩ := rfl

theorem aop_move (P d x ty pos af g st) : aop P ⟨d, .move x, ty, pos, af, g⟩ st = some ⟨aevalO st.env x, [], 0⟩ := rfl
theorem aop_assign (P d x ty pos af g st) : aop P ⟨d, .assign x, ty, pos, af, g⟩ st = some ⟨aevalO st.env x, [], 0⟩ := rfl
def pickO : AV → AV → AV → Option Out
  | .v (.bool t), x, y => some ⟨if t then x else y, [], 0⟩
  | _, _, _ => none
theorem aop_pick (P d c x y ty pos af g st) : aop P ⟨d, .pick c x y, ty, pos, af, g⟩ st = pickO (aevalO st.env c) (aevalO st.env x) (aevalO st.env y) := by
  simp only [aop]
  unfold pickO
  split
  · rename_i hc; rw [hc]
  · rename_i hc
    split
    · rename_i hc2; exact absurd hc2 (hc _)
    · rfl
theorem pickO_bool (t : Bool) (x y : AV) : pickO (.v (.bool t)) x y = some ⟨if t then x else y, [], 0⟩ := rfl
theorem ite_bool (c : Prop) [Decidable c] (p q : Bool) : (if c then AV.v (.bool p) else AV.v (.bool q)) = .v (.bool (if c then p else q)) := by split <;> rfl
theorem ite_int (c : Prop) [Decidable c] (k : IntKind) (p q : Int) : (if c then AV.v (.int k p) else AV.v (.int k q)) = .v (.int k (if c then p else q)) := by split <;> rfl
theorem ite_str (c : Prop) [Decidable c] (p q : ByteArray) : (if c then AV.v (.string p) else AV.v (.string q)) = .v (.string (if c then p else q)) := by split <;> rfl

def bin0 (P : Program) (b : BinOp) (t : TypeId) (x y : Operand) : AV → AV → Option Out
  | .v p, .v q => match prun P (do eqGuard b t x y p q; binOp b t p q) with
    | some r => some ⟨.v r, [], 0⟩
    | none => none
  | _, _ => none

def binO (P : Program) (b : BinOp) (t : TypeId) (x y : Operand) (p q : AV) : Option Out := match nilEq P b t p q with
  | some r => some ⟨.v (.bool r), [], 0⟩
  | none => bin0 P b t x y p q

theorem prun_bind {P : Program} {α β : Type} (s : Sem α) (f : α → Sem β) : prun P (s >>= f) = (prun P s).bind fun a => prun P (f a) := by
  induction s with
  | pure a => rfl
  | program k ih => exact ih P
  | mark m k ih => exact ih
  | _ => rfl

theorem prun_pure {P : Program} {α : Type} (a : α) : prun P (pure a : Sem α) = some a := rfl

theorem aop_bin (P d b t x y u ty pos af g st) : aop P ⟨d, .binOp b t x y u, ty, pos, af, g⟩ st = binO P b t x y (aevalO st.env x) (aevalO st.env y) := by
  have hops : (Op.binOp b t x y u).operands = #[x, y] := rfl
  simp only [aop, apure, hops, binO]
  cases nilEq P b t (aevalO st.env x) (aevalO st.env y) with
  | some r => rfl
  | none =>
  simp only
  rcases hx : aevalO st.env x with p | _ | _ | _ | _ | _ | _ | _ | _ <;> try (simp [hx, scal, bin0]; done)
  rcases hy : aevalO st.env y with q | _ | _ | _ | _ | _ | _ | _ | _ <;> try (simp [hx, hy, scal, bin0]; done)
  rw [if_pos (by simp [hx, hy, scal])]
  have e : execOp (fun z => (scal (aevalO st.env z)).getD undef) ⟨d, .binOp b t x y u, ty, pos, af, g⟩ = ((do eqGuard b t x y p q; binOp b t p q) >>= fun r => pure (Next.value r)) := by
    simp only [execOp, hx, hy, scal, Option.getD_some]
  rw [e, prun_bind]
  simp only [bin0]
  cases prun P (do eqGuard b t x y p q; binOp b t p q) <;> rfl

theorem str_eq (r s : ByteArray) : (r.toList == s.toList) = decide (r = s) := by
  rw [Bool.eq_iff_iff]
  simp only [beq_iff_eq, decide_eq_true_eq, ByteArray.toList_eq]
  exact ⟨fun h => ByteArray.ext (Array.ext' h), fun h => by rw [h]⟩

section
variable (P : Program) (t : TypeId) (x y : Operand) (k : IntKind) (a b : Int) (r s : ByteArray)
theorem bin_add : binO P .add t x y (.v (.int k a)) (.v (.int k b)) = some ⟨.v (.int k (k.wrap (a + b))), [], 0⟩ := by simp [binO, bin0, nilEq, eqGuard, binOp, Op.intArith, prun_pure]
theorem bin_sub : binO P .sub t x y (.v (.int k a)) (.v (.int k b)) = some ⟨.v (.int k (k.wrap (a - b))), [], 0⟩ := by simp [binO, bin0, nilEq, eqGuard, binOp, Op.intArith, prun_pure]
theorem bin_mul : binO P .mul t x y (.v (.int k a)) (.v (.int k b)) = some ⟨.v (.int k (k.wrap (a * b))), [], 0⟩ := by simp [binO, bin0, nilEq, eqGuard, binOp, Op.intArith, prun_pure]
theorem bin_eql : binO P .eql t x y (.v (.int k a)) (.v (.int k b)) = some ⟨.v (.bool (a == b)), [], 0⟩ := by simp [binO, bin0, nilEq, eqGuard, binOp, Op.intCmp, prun_pure]
theorem bin_neq : binO P .neq t x y (.v (.int k a)) (.v (.int k b)) = some ⟨.v (.bool (a != b)), [], 0⟩ := by simp [binO, bin0, nilEq, eqGuard, binOp, Op.intCmp, prun_pure]
theorem bin_lss : binO P .lss t x y (.v (.int k a)) (.v (.int k b)) = some ⟨.v (.bool (decide (a < b))), [], 0⟩ := by simp [binO, bin0, nilEq, eqGuard, binOp, Op.intCmp, prun_pure]
theorem bin_leq : binO P .leq t x y (.v (.int k a)) (.v (.int k b)) = some ⟨.v (.bool (decide (a ≤ b))), [], 0⟩ := by simp [binO, bin0, nilEq, eqGuard, binOp, Op.intCmp, prun_pure]
theorem bin_gtr : binO P .gtr t x y (.v (.int k a)) (.v (.int k b)) = some ⟨.v (.bool (decide (b < a))), [], 0⟩ := by simp [binO, bin0, nilEq, eqGuard, binOp, Op.intCmp, prun_pure]
theorem bin_geq : binO P .geq t x y (.v (.int k a)) (.v (.int k b)) = some ⟨.v (.bool (decide (b ≤ a))), [], 0⟩ := by simp [binO, bin0, nilEq, eqGuard, binOp, Op.intCmp, prun_pure]
theorem bin_seql : binO P .eql t x y (.v (.string r)) (.v (.string s)) = some ⟨.v (.bool (decide (r = s))), [], 0⟩ := by rw [← str_eq]; simp [binO, bin0, nilEq, eqGuard, binOp, Op.stringOp, prun_pure]
theorem bin_sneq : binO P .neq t x y (.v (.string r)) (.v (.string s)) = some ⟨.v (.bool (!decide (r = s))), [], 0⟩ := by rw [← str_eq]; simp [binO, bin0, nilEq, eqGuard, binOp, Op.stringOp, prun_pure]
end

def unO (P : Program) (b : UnOp) : AV → Option Out
  | .v p => match prun P (Op.unary b p) with
    | some r => some ⟨.v r, [], 0⟩
    | none => none
  | _ => none
theorem aop_un (P d b t x ty pos af g st) : aop P ⟨d, .unOp b t x, ty, pos, af, g⟩ st = unO P b (aevalO st.env x) := by
  have hops : (Op.unOp b t x).operands = #[x] := rfl
  simp only [aop, apure, hops]
  rcases hx : aevalO st.env x with p | _ | _ | _ | _ | _ | _ | _ | _ <;> try (simp [hx, scal, unO]; done)
  rw [if_pos (by simp [hx, scal])]
  have e : execOp (fun z => (scal (aevalO st.env z)).getD undef) ⟨d, .unOp b t x, ty, pos, af, g⟩ = ((Op.unary b p) >>= fun r => pure (Next.value r)) := by
    simp only [execOp, hx, scal, Option.getD_some]
  rw [e, prun_bind]
  simp only [unO]
  cases prun P (Op.unary b p) <;> rfl
theorem un_not (P : Program) (b : Bool) : unO P .not (.v (.bool b)) = some ⟨.v (.bool (!b)), [], 0⟩ := rfl

def loadC (g : Bool) (n : Nat) (cs : List AV) : Option Out :=
  if g then (if n ≤ cs.length then some ⟨.agg (cs.take n), [], 0⟩ else none) else match cs with | c :: _ => some ⟨c, [], 0⟩ | [] => none
def loadB (g : Bool) (n i off : Nat) : Option Blk → Option Out
  | some blk => if i < blk.es.length then loadC g n ((blk.es.getD i []).drop off) else none
  | none => none
def loadO (h : AHeap) : Option Bool → Option Nat → AV → Option Out
  | some g, some n, .pptr cs => loadC g n cs
  | some g, some n, .ptr b i off => loadB g n i off (h b)
  | _, _, _ => none
theorem aop_load (P d t x ty pos af g st) : aop P ⟨d, .load t x, ty, pos, af, g⟩ st = loadO st.heap (aisAgg P t) (asize P t) (aevalO st.env x) := by
  simp only [aop]
  unfold loadO
  cases aisAgg P t with
  | none => simp
  | some gg =>
    cases asize P t with
    | none => simp
    | some n =>
      rcases hx : aevalO st.env x with _ | _ | _ | _ | _ | _ | _ | ⟨b, i, off⟩ | _ <;> simp only [loadC] <;> try rfl
      unfold loadB
      cases st.heap b with
      | none => rfl
      | some blk =>
        simp only
        by_cases hi : i < blk.es.length
        · simp only [hi, if_true, loadC]
          rfl
        · simp only [hi, if_false]
theorem loadO_pptr (h g n cs) : loadO h (some g) (some n) (.pptr cs) = loadC g n cs := rfl
theorem loadO_ptr (h g n b i off) : loadO h (some g) (some n) (.ptr b i off) = loadB g n i off (h b) := rfl
theorem loadB_some (g n i off blk) : loadB g n i off (some blk) = if i < blk.es.length then loadC g n ((blk.es.getD i []).drop off) else none := rfl
theorem loadC_cell (n c cs) : loadC false n (c :: cs) = some ⟨c, [], 0⟩ := rfl
theorem loadC_agg (n cs) : loadC true n cs = if n ≤ cs.length then some ⟨.agg (cs.take n), [], 0⟩ else none := rfl

def storeB (n b i off : Nat) (y : AV) : Option Blk → Option Out
  | some blk => if blk.lv = true ∧ i < blk.es.length ∧ y.cells.length = n ∧ off + n ≤ blk.sz ∧ y.flat then
          some ⟨undefA, [(b, some { blk with es := blk.es.set i (splice (blk.es.getD i []) off y.cells) })], 0⟩ else none
  | none => none
def storeO (h : AHeap) : Option Nat → AV → AV → Option Out
  | some n, .ptr b i off, y => storeB n b i off y (h b)
  | _, _, _ => none
theorem aop_store (P d t x y ty pos af g st) : aop P ⟨d, .store t x y, ty, pos, af, g⟩ st = storeO st.heap (asize P t) (aevalO st.env x) (aevalO st.env y) := by
  simp only [aop]
  unfold storeO
  cases asize P t with
  | none => rfl
  | some n =>
    rcases hx : aevalO st.env x with _ | _ | _ | _ | _ | _ | _ | ⟨b, i, off⟩ | _ <;> try rfl
theorem storeO_ptr (h n b i off y) : storeO h (some n) (.ptr b i off) y = storeB n b i off y (h b) := rfl
theorem storeB_some (n b i off y lv sz es) : storeB n b i off y (some ⟨lv, sz, es⟩) = if lv = true ∧ i < es.length ∧ y.cells.length = n ∧ off + n ≤ sz ∧ y.flat then
          some ⟨undefA, [(b, some ⟨lv, sz, es.set i (splice (es.getD i []) off y.cells)⟩)], 0⟩ else none := rfl

def faN (off : Nat) : Option Nat → AV → Option Out
  | some n, x => if n = 0 then none else match x with
        | .ptr b i o => some ⟨.ptr b i (o + off), [], 0⟩
        | .pptr cs => if off < cs.length then some ⟨.pptr (cs.drop off), [], 0⟩ else none
        | _ => none
  | none, _ => none
def faO (P : Program) : Option (Nat × TypeId) → AV → Option Out
  | some (off, ft), x => faN off (asize P ft) x
  | none, _ => none
theorem aop_fieldAddr (P d s x f ty pos af g st) : aop P ⟨d, .fieldAddr s x f, ty, pos, af, g⟩ st = faO P (afield P s f) (aevalO st.env x) := by
  simp only [aop]
  unfold faO
  rcases afield P s f with _ | ⟨off, ft⟩
  · rfl
  · simp only [faN]
    cases asize P ft <;> rfl
theorem faO_some (P off ft x) : faO P (some (off, ft)) x = faN off (asize P ft) x := rfl
theorem faN_ptr (off n b i o) : faN off (some (n + 1)) (.ptr b i o) = some ⟨.ptr b i (o + off), [], 0⟩ := rfl
theorem faN_pptr (off n cs) : faN off (some (n + 1)) (.pptr cs) = if off < cs.length then some ⟨.pptr (cs.drop off), [], 0⟩ else none := rfl

def iaB (sz b o len : Nat) (n : Int) : Option Blk → Option Out
  | some blk => if blk.sz = sz ∧ 0 ≤ n ∧ n < len then some ⟨.ptr b (o + n.toNat) 0, [], 0⟩ else none
  | none => none
def iaN (h : AHeap) (n : Int) : Option Nat → AV → Option Out
  | some sz, .psl sz' es => if sz' = sz ∧ 0 < sz ∧ 0 ≤ n ∧ n < es.length then some ⟨.pptr (es.getD n.toNat []), [], 0⟩ else none
  | some sz, .sl b o len => iaB sz b o len n (h b)
  | _, _ => none
def iaO (P : Program) (h : AHeap) : Option TypeId → Option Int → AV → Option Out
  | some e, some n, x => iaN h n (asize P e) x
  | _, _, _ => none
theorem aop_indexAddr (P d t x i ty pos af g st) : aop P ⟨d, .indexAddr t x i, ty, pos, af, g⟩ st = iaO P st.heap (aelem P t) (aint (aevalO st.env i)) (aevalO st.env x) := by
  simp only [aop]
  unfold iaO
  cases aelem P t with
  | none => simp
  | some e =>
    cases aint (aevalO st.env i) with
    | none => simp
    | some n =>
      simp only
      unfold iaN
      cases asize P e with
      | none => simp
      | some sz =>
        rcases hx : aevalO st.env x with _ | _ | _ | _ | _ | _ | _ | _ | ⟨b, o, len⟩ <;> simp only
        unfold iaB
        cases st.heap b <;> rfl
theorem iaO_some (P h e n x) : iaO P h (some e) (some n) x = iaN h n (asize P e) x := rfl
theorem iaN_psl (h n sz sz' es) : iaN h n (some sz) (.psl sz' es) = if sz' = sz ∧ 0 < sz ∧ 0 ≤ n ∧ n < es.length then some ⟨.pptr (es.getD n.toNat []), [], 0⟩ else none := rfl
theorem iaN_sl (h n sz b o len) : iaN h n (some sz) (.sl b o len) = iaB sz b o len n (h b) := rfl
theorem iaB_some (sz b o len n blk) : iaB sz b o len n (some blk) = if blk.sz = sz ∧ 0 ≤ n ∧ n < len then some ⟨.ptr b (o + n.toNat) 0, [], 0⟩ else none := rfl
theorem aint_int (k n) : aint (.v (.int k n)) = some n := rfl

def extO (i : Nat) : AV → Option Out
  | .tup vs => if i < vs.length then some ⟨vs.getD i undefA, [], 0⟩ else none
  | _ => none
theorem aop_extract (P d x i ty pos af g st) : aop P ⟨d, .extract x i, ty, pos, af, g⟩ st = extO i (aevalO st.env x) := by
  simp only [aop]
  cases aevalO st.env x <;> rfl
theorem extO_tup (i vs) : extO i (.tup vs) = if i < vs.length then some ⟨vs.getD i undefA, [], 0⟩ else none := rfl

theorem ext0 (x : AV) (r : List AV) : extO 0 (.tup (x :: r)) = some ⟨x, [], 0⟩ := by simp [extO]
theorem extS (i : Nat) (x : AV) (r : List AV) : extO (i + 1) (.tup (x :: r)) = extO i (.tup r) := by simp [extO]

def nilO : AV → Option Out
  | .ptr b i off => some ⟨.ptr b i off, [], 0⟩
  | .pptr cs => some ⟨.pptr cs, [], 0⟩
  | _ => none
theorem aop_nilCheck (P d x ty pos af g st) : aop P ⟨d, .nilCheck x, ty, pos, af, g⟩ st = nilO (aevalO st.env x) := by
  simp only [aop]
  cases aevalO st.env x <;> rfl
theorem nilO_ptr (b i off) : nilO (.ptr b i off) = some ⟨.ptr b i off, [], 0⟩ := rfl
theorem nilO_pptr (cs) : nilO (.pptr cs) = some ⟨.pptr cs, [], 0⟩ := rfl

def boxO (nxt : Nat) (x : AV) : Option Out := if x.flat then some ⟨.ptr nxt 0 0, newBlk nxt x.cells.length [x.cells], 1⟩ else none
theorem aop_box (P d e x ty pos af g st) : aop P ⟨d, .box e x, ty, pos, af, g⟩ st = boxO st.nxt (aevalO st.env x) := rfl
def allocO (nxt : Nat) : Option (List AV) → Option Out
  | some cs => some ⟨.ptr nxt 0 0, newBlk nxt cs.length [cs], 1⟩
  | none => none
theorem aop_alloc (P d e ty pos af g st) : aop P ⟨d, .alloc e, ty, pos, af, g⟩ st = allocO st.nxt (azero P e) := by
  simp only [aop, allocO]
  cases azero P e <;> rfl
theorem allocO_some (n cs) : allocO n (some cs) = some ⟨.ptr n 0 0, newBlk n cs.length [cs], 1⟩ := rfl
theorem aop_makeFunc (P d f caps ty pos af g st) : aop P ⟨d, .makeFunc (.func f) #[] caps, ty, pos, af, g⟩ st = some ⟨.fn f (caps.toList.map (aevalO st.env)), [], 0⟩ := rfl

/-- The length of a slice. -/
def lenA : AV → Option Nat
  | .psl _ es => some es.length
  | .sl _ _ n => some n
  | .e0 => some 0
  | _ => none
def lenS (P : Program) (t ty : TypeId) : AV → Option Out
  | .v p => match prun P (Builtin.len_ #[t] ty #[p]) with
    | some r => some ⟨.v r, [], 0⟩
    | none => none
  | _ => none
def lenK (P : Program) (t ty : TypeId) (x : AV) : Option TypeId → Option Nat → Option Out
  | some _, some n => some ⟨.v (.int .i64 n), [], 0⟩
  | _, some _ => none
  | _, none => lenS P t ty x
theorem aop_len (P t d x ty pos af g st) : aop P ⟨d, .call { callee := .builtin .len, args := #[x], argTypes := #[t] }, ty, pos, af, g⟩ st = lenK P t ty (aevalO st.env x) (aelem P t) (lenA (aevalO st.env x)) := by
  have hops : (Op.call { callee := .builtin .len, args := #[x], argTypes := #[t] }).operands = #[x] := rfl
  have pure : (apure P ⟨d, .call { callee := .builtin .len, args := #[x], argTypes := #[t] }, ty, pos, af, g⟩ st.env).map (fun r => (⟨r, [], 0⟩ : Out)) = lenS P t ty (aevalO st.env x) := by
    unfold apure
    simp only [hops]
    cases hx : aevalO st.env x with
    | v p =>
      rw [if_pos (by simp [hx, scal])]
      have e : execOp (fun z => (scal (aevalO st.env z)).getD undef) ⟨d, .call { callee := .builtin .len, args := #[x], argTypes := #[t] }, ty, pos, af, g⟩ = ((Builtin.len_ #[t] ty #[p]) >>= fun r => pure (Next.value r)) := by
        simp [execOp, resolve, invoke, builtin, hx, scal]
      rw [e, prun_bind]
      simp only [lenS]
      cases prun P (Builtin.len_ #[t] ty #[p]) <;> rfl
    | _ => simp [hx, scal, lenS]
  cases hx : aevalO st.env x with
  | psl sz es => simp only [aop, List.map_cons, List.map_nil, hx, lenA]; cases aelem P t <;> rfl
  | sl b o n => simp only [aop, List.map_cons, List.map_nil, hx, lenA]; cases aelem P t <;> rfl
  | e0 => simp only [aop, List.map_cons, List.map_nil, hx, lenA]; cases aelem P t <;> rfl
  | _ =>
    rw [hx] at pure
    simp only [aop, List.map_cons, List.map_nil, hx, lenA]
    rw [pure]
    cases aelem P t <;> rfl
theorem lenK_some (P t ty x e n) : lenK P t ty x (some e) (some n) = some ⟨.v (.int .i64 n), [], 0⟩ := rfl
theorem lenK_none (P t ty x) : lenK P t ty x none none = lenS P t ty x := rfl
theorem lenA_v (x : Value) : lenA (.v x) = none := rfl
theorem len_str {P : Program} {t : TypeId} (ht : P.underlying t = some .string) (ty : TypeId) (s : ByteArray) : lenS P t ty (.v (.string s)) = some ⟨.v (.int .i64 s.size), [], 0⟩ := by
  have : prun P (Builtin.len_ #[t] ty #[.string s]) = some (.int .i64 s.size) := by
    have hu : prun P (underlying t) = some .string := by
      show prun P (program >>= _) = _
      rw [prun_bind]
      show prun P (match P.underlying t with | some d => pure d | none => stuck "no such type") = _
      rw [ht]
      rfl
    simp [Builtin.len_, prun_bind, hu, prun_pure, goInt]
  simp only [lenS, this]

end Go.Abs
