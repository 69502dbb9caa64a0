/-
An abstract interpreter: regions with a drawn order, in which more than one operation sets memory.
-/
import Derived.Test.YtmeepaihgipacaaGreatAbsClone
set_option linter.unusedVariables false
set_option linter.unusedSimpArgs false
namespace Go.Abs
open Go.Proofs

def clash (a b : List Nat × List Nat) : Bool := meets a.2 b.1 || meets a.2 b.2 || meets a.1 b.2

/-- The pairs that the edges leave open. -/
def unord (bs : List (List Nat)) (n : Nat) : List (Nat × Nat) :=
  (List.range n).flatMap fun j => ((List.range j).filter fun i => !(bs.getD j []).contains i).map fun i => (i, j)

theorem traceOk_of {bs : List (List Nat)} {tr : Trace} {n : Nat} (ps : List (Nat × Nat)) (hps : unord bs n = ps) (hn : tr.length = n) (h : ∀ p ∈ ps, clash (tr.getD p.1 ([], [])) (tr.getD p.2 ([], [])) = false) : traceOk bs tr = true := by
  unfold traceOk
  simp only [List.all_eq_true, List.mem_range]
  intro j hj i hij
  cases hb : (bs.getD j []).contains i with
  | true => rw [Bool.or_true]
  | false =>
    have hm : (i, j) ∈ ps := by
      rw [← hps, ← hn]
      unfold unord
      refine List.mem_flatMap.2 ⟨j, List.mem_range.2 hj, List.mem_map.2 ⟨i, List.mem_filter.2 ⟨List.mem_range.2 hij, ?_⟩, rfl⟩⟩
      rw [hb]; rfl
    have := h _ hm
    unfold clash at this
    rw [this]
    rfl

def ardP (op : Op) (env : Nat → AV) : List Nat := match op with
  | .move _ | .assign _ => []
  | op => op.operands.toList.flatMap fun x => (aevalO env x).direct

noncomputable def adK (E : Env) (ops : Array Oper) (l : List Oper) (d : Option Tmp) (rd : List Nat) (tr : Trace) (st : St) : Option Out → Option (St × Trace)
  | some out => adraw E (execF E) ops l (st.put d out) (tr ++ [(rd, out.upd.map (·.1))])
  | none => none
noncomputable def adC (E : Env) (ops : Array Oper) (l : List Oper) (d : Option Tmp) (tr : Trace) (st : St) : Option (FuncId × List AV) → Option (St × Trace)
  | some (f, args) => if E.ref f = true then none else adK E ops l d (args.flatMap (reach (depth + 1) st.heap)) tr st (acallF E f args st)
  | none => none
noncomputable def adO (E : Env) (ops : Array Oper) (l : List Oper) (d : Option Tmp) (ty : TypeId) (pos : String) (af : Array Edge) (tr : Trace) (st : St) (op : Op) : Bool → Option (St × Trace)
  | true => adK E ops l d (ardP op st.env) tr st (aop E.P ⟨d, op, ty, pos, af, none⟩ st)
  | false => adraw E (execF E) ops (⟨d, op, ty, pos, af, none⟩ :: l) st tr

theorem adr_nil (E : Env) (ops : Array Oper) (st : St) (tr : Trace) : adraw E (execF E) ops [] st tr = some (st, tr) := rfl
theorem adr_any (E : Env) (ops : Array Oper) (l : List Oper) (d : Option Tmp) (op : Op) (ty : TypeId) (pos : String) (af : Array Edge) (st : St) (tr : Trace) :
    adraw E (execF E) ops (⟨d, op, ty, pos, af, none⟩ :: l) st tr = adO E ops l d ty pos af tr st op (plain op) := by
  cases h : plain op with
  | false => rfl
  | true =>
    have hard : ard ⟨d, op, ty, pos, af, none⟩ st = ardP op st.env := by
      unfold ard ardP
      cases op <;> first | rfl | (rename_i c; obtain ⟨callee, args, ats⟩ := c; cases callee <;> first | rfl | (simp [plain] at h)) | (simp [plain] at h)
    simp only [adraw, guardA, astep_plain (E := E) (rec := execF E) (o := ⟨d, op, ty, pos, af, none⟩) (st := st) h, hard, adO, adK]
    cases aop E.P ⟨d, op, ty, pos, af, none⟩ st <;> rfl
theorem adO_true (E ops l d ty pos af tr st op) : adO E ops l d ty pos af tr st op true = adK E ops l d (ardP op st.env) tr st (aop E.P ⟨d, op, ty, pos, af, none⟩ st) := rfl
theorem adO_call (E : Env) (ops : Array Oper) (l : List Oper) (d : Option Tmp) (x : Operand) (args : Array Operand) (ats : Array TypeId) (ty : TypeId) (pos : String) (af : Array Edge) (st : St) (tr : Trace) :
    adO E ops l d ty pos af tr st (.call { callee := .value x, args := args, argTypes := ats }) false = adC E ops l d tr st (calleeOf (aevalO st.env) { callee := .value x, args := args, argTypes := ats }) := by
  have hac : ∀ f l', calleeOf (aevalO st.env) { callee := .value x, args := args, argTypes := ats } = some (f, l') → acall E (execF E) { callee := .value x, args := args, argTypes := ats } st = if E.ref f then none else acallF E f l' st := by
    intro f l' hc
    unfold acall acallF
    rw [hc]
    rfl
  unfold adO
  cases hc : calleeOf (aevalO st.env) { callee := .value x, args := args, argTypes := ats } with
  | none =>
    have h1 : acall E (execF E) { callee := .value x, args := args, argTypes := ats } st = none := by unfold acall; rw [hc]
    simp only [adraw, guardA, astep, h1]
    rfl
  | some p =>
    obtain ⟨f, l'⟩ := p
    have h1 := hac f l' hc
    simp only [adraw, guardA, astep, h1, adC, ard, hc]
    cases hr : E.ref f with
    | true => simp
    | false =>
      simp only [Bool.false_eq_true, if_false, adK]
      cases acallF E f l' st <;> rfl
theorem adK_some (E ops l d rd tr env h n v u c) : adK E ops l d rd tr ⟨env, h, n⟩ (some ⟨v, u, c⟩) = adraw E (execF E) ops l ⟨putEnv env d v, applyUpd h u, n + c⟩ (tr ++ [(rd, u.map (·.1))]) := rfl
theorem adK_none (E ops l d rd tr st) : adK E ops l d rd tr st none = none := rfl
theorem adC_some (E ops l d tr st f args) : adC E ops l d tr st (some (f, args)) = if E.ref f = true then none else adK E ops l d (args.flatMap (reach (depth + 1) st.heap)) tr st (acallF E f args st) := rfl
noncomputable def slK (ops : Array Oper) : Option (St × Trace) → Option (Ex × St)
  | some (st', tr) => if traceOk (befores ops.toList) tr = true then some (.normal, st') else none
  | none => none
theorem slowF_eq (E id ops st) : slowF E id ops st = slK ops (adraw E (execF E) ops ops.toList st []) := by
  unfold slowF
  rw [execF_draw0]
  unfold slK
  rcases adraw E (execF E) ops ops.toList st [] with _ | ⟨st', tr⟩ <;> rfl
theorem slK_some (ops st tr) : slK ops (some (st, tr)) = if traceOk (befores ops.toList) tr = true then some (.normal, st) else none := rfl
theorem tapp_cons (x : List Nat × List Nat) (l r : Trace) : (x :: l) ++ r = x :: (l ++ r) := rfl
theorem tapp_nil (r : Trace) : ([] : Trace) ++ r = r := rfl
theorem umap_cons (p : Nat × Option Blk) (l : List (Nat × Option Blk)) : (p :: l).map (fun x => x.1) = p.1 :: l.map (fun x => x.1) := rfl
theorem umap_nil : ([] : List (Nat × Option Blk)).map (fun x => x.1) = [] := rfl
theorem ofm_cons (f : Operand → List Nat) (x : Operand) (r : List Operand) : (x :: r).flatMap f = f x ++ r.flatMap f := List.flatMap_cons
theorem ofm_nil (f : Operand → List Nat) : ([] : List Operand).flatMap f = [] := rfl
theorem dir_ptr (b i o) : (AV.ptr b i o).direct = [b] := rfl
theorem dir_sl (b o n) : (AV.sl b o n).direct = [b] := rfl
theorem dir_v (x) : (AV.v x).direct = [] := rfl
theorem dir_agg (x) : (AV.agg x).direct = [] := rfl
theorem dir_e0 : AV.e0.direct = [] := rfl
theorem dir_psl (sz es) : (AV.psl sz es).direct = [] := rfl
theorem dir_pptr (cs) : (AV.pptr cs).direct = [] := rfl
theorem dir_fn (f cs) : (AV.fn f cs).direct = [] := rfl
theorem dir_tup (cs) : (AV.tup cs).direct = [] := rfl
theorem dir_encJ (v) : (encJ v).direct = [] := rfl
theorem dir_rawL (v) : (rawL v).direct = [] := rfl
theorem dir_rawS (v) : (rawS v).direct = [] := rfl
theorem dir_encL (l) : (encL l).direct = [] := by cases l <;> rfl
theorem dir_encS (l) : (encS l).direct = [] := by cases l <;> rfl
section
variable (env : Nat → AV)
theorem rd_move (x) : ardP (.move x) env = [] := rfl
theorem rd_assign (x) : ardP (.assign x) env = [] := rfl
theorem rd_load (t x) : ardP (.load t x) env = (aevalO env x).direct ++ [] := by simp [ardP, Op.operands]
theorem rd_store (t x y) : ardP (.store t x y) env = (aevalO env x).direct ++ ((aevalO env y).direct ++ []) := by simp [ardP, Op.operands]
theorem rd_fieldAddr (s x f) : ardP (.fieldAddr s x f) env = (aevalO env x).direct ++ [] := by simp [ardP, Op.operands]
theorem rd_field (s x f) : ardP (.field s x f) env = (aevalO env x).direct ++ [] := by simp [ardP, Op.operands]
theorem rd_indexAddr (t x i) : ardP (.indexAddr t x i) env = (aevalO env x).direct ++ ((aevalO env i).direct ++ []) := by simp [ardP, Op.operands]
theorem rd_bs0 (t n) : ardP (.buildSlice t n #[]) env = [] := by simp [ardP, Op.operands]
theorem rd_bs1 (t n i x) : ardP (.buildSlice t n #[(i, x)]) env = (aevalO env x).direct ++ [] := by simp [ardP, Op.operands]
theorem rd_bs2 (t n i x j y) : ardP (.buildSlice t n #[(i, x), (j, y)]) env = (aevalO env x).direct ++ ((aevalO env y).direct ++ []) := by simp [ardP, Op.operands]
theorem rd_b1 (b x ts) : ardP (.call { callee := .builtin b, args := #[x], argTypes := ts }) env = (aevalO env x).direct ++ [] := by simp [ardP, Op.operands, Call.operands]
theorem rd_b2 (b x y ts) : ardP (.call { callee := .builtin b, args := #[x, y], argTypes := ts }) env = (aevalO env x).direct ++ ((aevalO env y).direct ++ []) := by simp [ardP, Op.operands, Call.operands]
theorem rd_bin (b t x y u) : ardP (.binOp b t x y u) env = (aevalO env x).direct ++ ((aevalO env y).direct ++ []) := by simp [ardP, Op.operands]
theorem rd_un (b t x) : ardP (.unOp b t x) env = (aevalO env x).direct ++ [] := by simp [ardP, Op.operands]
theorem rd_extract (x i) : ardP (.extract x i) env = (aevalO env x).direct ++ [] := by simp [ardP, Op.operands]
theorem rd_build0 (t) : ardP (.build t #[]) env = [] := by simp [ardP, Op.operands]
theorem rd_build1 (t i x) : ardP (.build t #[(i, x)]) env = (aevalO env x).direct ++ [] := by simp [ardP, Op.operands]
theorem rd_build2 (t i x j y) : ardP (.build t #[(i, x), (j, y)]) env = (aevalO env x).direct ++ ((aevalO env y).direct ++ []) := by simp [ardP, Op.operands]
end
theorem nappn (l : List Nat) : l ++ [] = l := List.append_nil l
theorem reach_ptrP (h b i o) : reach (depth + 1) h (.ptr b i o) = b :: rchB depth h (h b) := reach_ptr depth h b i o
theorem reach_slP (h b o n) : reach (depth + 1) h (.sl b o n) = b :: rchB depth h (h b) := by rw [reach]; cases h b <;> rfl

theorem symD : type_of% @adr_nil ∧ type_of% @adr_any ∧ type_of% @adO_true ∧ type_of% @adO_call ∧ type_of% @adK_some ∧ type_of% @adK_none ∧ type_of% @adC_some ∧ type_of% @slowF_eq ∧ type_of% @slK_some ∧ type_of% @tapp_cons ∧ type_of% @tapp_nil ∧ type_of% @umap_cons ∧ type_of% @umap_nil ∧ type_of% @dir_ptr ∧ type_of% @dir_sl ∧ type_of% @dir_v ∧ type_of% @dir_agg ∧ type_of% @dir_e0 ∧ type_of% @dir_psl ∧ type_of% @dir_pptr ∧ type_of% @dir_fn ∧ type_of% @dir_tup ∧ type_of% @dir_encJ ∧ type_of% @dir_rawL ∧ type_of% @dir_rawS ∧ type_of% @dir_encL ∧ type_of% @dir_encS ∧ type_of% @rd_move ∧ type_of% @rd_assign ∧ type_of% @rd_load ∧ type_of% @rd_store ∧ type_of% @rd_fieldAddr ∧ type_of% @rd_field ∧ type_of% @rd_indexAddr ∧ type_of% @rd_bs0 ∧ type_of% @rd_bs1 ∧ type_of% @rd_bs2 ∧ type_of% @rd_b1 ∧ type_of% @rd_b2 ∧ type_of% @rd_bin ∧ type_of% @rd_un ∧ type_of% @rd_extract ∧ type_of% @rd_build0 ∧ type_of% @rd_build1 ∧ type_of% @rd_build2 ∧ type_of% @nappn ∧ type_of% @reach_ptrP ∧ type_of% @reach_slP :=
  ⟨@adr_nil, @adr_any, @adO_true, @adO_call, @adK_some, @adK_none, @adC_some, @slowF_eq, @slK_some, @tapp_cons, @tapp_nil, @umap_cons, @umap_nil, @dir_ptr, @dir_sl, @dir_v, @dir_agg, @dir_e0, @dir_psl, @dir_pptr, @dir_fn, @dir_tup, @dir_encJ, @dir_rawL, @dir_rawS, @dir_encL, @dir_encS, @rd_move, @rd_assign, @rd_load, @rd_store, @rd_fieldAddr, @rd_field, @rd_indexAddr, @rd_bs0, @rd_bs1, @rd_bs2, @rd_b1, @rd_b2, @rd_bin, @rd_un, @rd_extract, @rd_build0, @rd_build1, @rd_build2, @nappn, @reach_ptrP, @reach_slP⟩

/-- The operations of a region of a function. -/
def regOps (id : Nat) : Code → List (Array Oper)
  | .region k ops _ => if k = id then [ops] else []
  | .seq a b => regOps id a ++ regOps id b
  | .cond _ a b => regOps id a ++ regOps id b
  | .block _ b => regOps id b
  | .loop b => regOps id b
  | _ => []
def opsOf (fn : Func) (id : Nat) : Array Oper := match fn.body with
  | some c => (regOps id c).headD #[]
  | none => #[]
end Go.Abs
