/-
An abstract interpreter for the model's code, part B: regions, calls, code.
-/
import Derived.Test.YtmeepaihgipacaaGreatAbsA
set_option linter.unusedVariables false
set_option linter.unusedSimpArgs false
namespace Go.Abs

/-- A part of a result, or an argument of a primitive: a value without places; or a slice over memory that is the receiver's own. -/
inductive RC where
  | p (x : AV)
  | own (sz : Nat) (es : List (List AV))

structure Env where
  P : Program
  /-- functions that work on the caller's abstract heap -/
  ref : FuncId → Bool
  /-- functions that are taken by a contract: their arguments (slices of the caller's own are used up), their results -/
  prim : FuncId → Option (List RC → Option (List RC))
  /-- closures: what they capture is written no more once they are made -/
  frz : FuncId → Bool

inductive Ex where
  | normal
  | exit (id : Nat)
  | ret

def depth : Nat := 24

def omap {α β : Type} (f : α → Option β) : List α → Option (List β)
  | [] => some []
  | x :: r => match f x with
    | some y => match omap f r with
      | some l => some (y :: l)
      | none => none
    | none => none

/-- Slices without elements are all alike. -/
def can : AV → AV
  | .e0 => .psl 0 []
  | .psl sz es => if es.isEmpty then .psl 0 [] else .psl sz es
  | .v x => match x with
    | .slice none 0 0 => .psl 0 []
    | x => .v x
  | x => x

/-- What a value is without places: every block that it leads to must be one that is written no more. -/
def pur : Nat → AHeap → AV → Option AV
  | 0, _, _ => none
  | n + 1, h, x => match x with
    | .v y => some (can (.v y))
    | .e0 => some (.psl 0 [])
    | .psl sz es => some (can (.psl sz es))
    | .pptr cs => some (.pptr cs)
    | .agg cs => (omap (pur n h) cs).map .agg
    | .fn f cs => (omap (pur n h) cs).map (.fn f)
    | .tup _ | .top => none
    | .ptr b i off => match h b with
      | some blk => if blk.lv = false ∧ i < blk.es.length then (omap (pur n h) ((blk.es.getD i []).drop off)).map .pptr else none
      | none => none
    | .sl b o len => match h b with
      | some blk => if blk.lv = false ∧ o + len ≤ blk.es.length then (omap (omap (pur n h)) ((blk.es.drop o).take len)).map fun es => can (.psl blk.sz es) else none
      | none => none

/-- The blocks that a value leads to. -/
def reach : Nat → AHeap → AV → List Nat
  | 0, _, _ => []
  | n + 1, h, x => match x with
    | .v _ | .e0 | .psl _ _ | .pptr _ | .top => []
    | .agg cs | .fn _ cs | .tup cs => cs.flatMap (reach n h)
    | .ptr b _ _ | .sl b _ _ => b :: (match h b with
      | some blk => blk.es.flatMap fun e => e.flatMap (reach n h)
      | none => [])

def frozen (blk : Blk) : Blk := { blk with lv := false }

/-- The blocks of a list, written no more. -/
def liveB (h : AHeap) (b : Nat) : Bool := match h b with
  | some blk => blk.lv
  | none => false
def freezes (h : AHeap) (l : List Nat) : List (Nat × Option Blk) := (l.filter (liveB h)).map fun b => (b, (h b).map frozen)

def ownOf (h : AHeap) : AV → Option Nat
  | .sl b 0 len => match h b with
    | some blk => if blk.lv = true ∧ len = blk.es.length then some b else none
    | none => none
  | _ => none

def comps : AV → List AV
  | .tup vs => vs
  | x => [x]

def uncomps : List AV → AV
  | [x] => x
  | l => .tup l

/-- What a function hands back to a caller that does not share its heap. -/
def RC.isOwn : RC → Bool
  | .own _ _ => true
  | _ => false

def ownCount (l : List RC) : Nat := (l.filter RC.isOwn).length

def endHeap (h : AHeap) (ob : Option Nat) : AHeap := fun b => if ob = some b then none else (h b).map frozen

/-- A slice that is nil, or empty without room. -/
def topE : AV → Bool
  | .e0 => true
  | .v (.slice none 0 0) => true
  | _ => false

def finishOne (h : AHeap) (ob : Option Nat) (c : AV) : Option RC :=
  match ownOf h c with
  | some b => if ob = some b then (match h b with
      | some blk => (omap (omap (pur depth (endHeap h ob))) blk.es).map (RC.own blk.sz)
      | none => none) else none
  | none => if topE c then some (.p .e0) else (pur depth (endHeap h ob) c).map RC.p

def finish (h : AHeap) (r : List AV) : Option (List RC) :=
  match omap (finishOne h (r.findSome? (ownOf h))) r with
  | some l => if ownCount l ≤ 1 then some l else none
  | none => none

def mat : List RC → Nat → List AV × List (Nat × Option Blk) × Nat
  | [], _ => ([], [], 0)
  | .p x :: r, n => let (vs, u, c) := mat r n; (x :: vs, u, c)
  | .own sz es :: r, n => let (vs, u, c) := mat r (n + 1); (.sl n 0 es.length :: vs, (n, some ⟨true, sz, es⟩) :: u, c + 1)

/-- The arguments of a primitive: slices of the caller's own are handed over. -/
def primArgs (h : AHeap) : List AV → Option (List RC)
  | [] => some []
  | x :: r => match ownOf h x, primArgs h r with
    | some b, some l => match h b with
      | some blk => match omap (omap (pur depth h)) blk.es with
        | some es => some (.own blk.sz es :: l)
        | none => none
      | none => none
    | none, some l => match pur depth h x with
      | some y => some (.p y :: l)
      | none => none
    | _, none => none

/-- What is frozen when a primitive is called: all but the rows that are handed over. -/
def primReach (h : AHeap) (x : AV) : List Nat :=
  match ownOf h x with
  | some b => match h b with
    | some blk => blk.es.flatMap fun e => e.flatMap (reach depth h)
    | none => []
  | none => reach depth h x

/-- For each operation those that must come before it. -/
def edgesOf (acc : List (List Nat)) (o : Oper) : List Nat := (o.after.toList.filter fun e => Region.binds .any e).flatMap fun e => e.on :: acc.getD e.on []

def befAux : List Oper → List (List Nat) → List (List Nat)
  | [], acc => acc
  | o :: r, acc => befAux r (acc ++ [edgesOf acc o])

def befores (ops : List Oper) : List (List Nat) := befAux ops []

def meets (a b : List Nat) : Bool := a.any fun x => b.contains x

/-- The slots that an operation names. -/
def looks (ops : Array Oper) (o : Oper) : List Nat :=
  (o.op.operands.toList.filterMap fun | .tmp t => some t | _ => none) ++ (match o.guard with | some (g, _) => ((ops[g]?).bind (·.dst)).toList | none => [])

def drawOk (ops : Array Oper) : Bool :=
  let l := ops.toList
  let bs := befores l
  (List.range l.length).all fun j => match l[j]? with
    | some oj => (oj.after.toList.all fun e => !Region.binds .any e || decide (e.on < j)) && (List.range j).all fun i => match l[i]? with
      | some oi => !(meets oi.dst.toList (looks ops oj) || meets oi.dst.toList oj.dst.toList || meets (looks ops oi) oj.dst.toList) || (bs.getD j []).contains i
      | none => true
    | none => true

def codeDsts (ok : Nat → Bool) : Code → Bool
  | .region _ ops draw => (ops.all fun o => match o.dst with | some d => ok d | none => true) && (!draw || drawOk ops)
  | .seq a b => codeDsts ok a && codeDsts ok b
  | .cond _ a b => codeDsts ok a && codeDsts ok b
  | .block _ b => codeDsts ok b
  | .loop b => codeDsts ok b
  | _ => true

def fnOk (fn : Func) : Bool := (match fn.body with | some c => codeDsts (fun d => decide (d < fn.ntmps)) c | none => false) && !(fn.name == "runtime.NumGoroutine")

def resultAV (P : Program) (st : St) : ResultVar → Option AV
  | .tmp t => some (st.env t)
  | .cell a t => match aisAgg P t, asize P t, st.env a with
    | some true, some n, .ptr b i off => match st.heap b with
      | some blk => if i < blk.es.length ∧ n ≤ ((blk.es.getD i []).drop off).length then some (.agg (((blk.es.getD i []).drop off).take n)) else none
      | none => none
    | _, _, _ => none

def argEnv (args : List AV) : Nat → AV := fun t => args.getD t undefA

/-- A function's body on a heap: its results, the heap behind it. -/
def body (E : Env) (rec : Code → St → Option (Ex × St)) (f : FuncId) (args : List AV) (h : AHeap) (nxt : Nat) : Option (List AV × St) :=
  match E.P.funcs[f]? with
  | some fn => match fn.body with
    | some c => if fnOk fn then (match rec c ⟨argEnv args, h, nxt⟩ with
        | some (.normal, st) | some (.ret, st) => (omap (resultAV E.P st) fn.results.toList).map fun r => (r, st)
        | _ => none) else none
    | none => none
  | none => none

def callP (E : Env) (rec : Code → St → Option (Ex × St)) (f : FuncId) (args : List AV) : Option (List RC) :=
  match body E rec f args (fun _ => none) 0 with
  | some (r, st) => finish st.heap r
  | none => none

def calleeOf (ev : Operand → AV) (c : Call) : Option (FuncId × List AV) :=
  match c.callee with
  | .value x => match ev x with
    | .fn f caps => some (f, c.args.toList.map ev ++ caps)
    | _ => none
  | _ => none

def mapR (st : St) (upd : List (Nat × Option Blk)) (rcs : List RC) : Out :=
  let m := mat rcs st.nxt
  ⟨uncomps m.1, upd ++ m.2.1, m.2.2⟩

/-- A call of a function that does not work on the caller's heap. -/
def acall (E : Env) (rec : Code → St → Option (Ex × St)) (c : Call) (st : St) : Option Out :=
  match calleeOf (aevalO st.env) c with
  | some (f, args) => if E.ref f then none else match E.prim f with
    | some spec =>
      let owns := args.filterMap (ownOf st.heap)
      let fr := args.flatMap (primReach st.heap)
      if owns.all (fun b => !fr.contains b) && decide owns.Nodup then
        match primArgs (applyUpd st.heap (freezes st.heap fr)) args with
        | some l => (spec l).map (mapR st (freezes st.heap fr ++ owns.map fun b => (b, none)))
        | none => none
      else none
    | none =>
      let upd := freezes st.heap (args.flatMap (reach depth st.heap))
      match omap (pur depth (applyUpd st.heap upd)) args with
      | some l => (callP E rec f l).map (mapR st upd)
      | none => none
  | none => none

def astep (E : Env) (rec : Code → St → Option (Ex × St)) (o : Oper) (st : St) : Option Out :=
  match o.op with
  | .call { callee := .value x, args, argTypes } => acall E rec { callee := .value x, args, argTypes } st
  | .makeFunc (.func f) first caps => if E.frz f = true then
      (if first.size = 0 then some ⟨.fn f (caps.toList.map (aevalO st.env)), freezes st.heap ((caps.toList.map (aevalO st.env)).flatMap (reach depth st.heap)), 0⟩ else none)
      else aop E.P o st
  | _ => aop E.P o st

def putEnv (env : Nat → AV) (dst : Option Tmp) (x : AV) : Nat → AV := match dst with | some d => fset env d x | none => env

def St.put (st : St) (dst : Option Tmp) (out : Out) : St :=
  { env := putEnv st.env dst out.val, heap := applyUpd st.heap out.upd, nxt := st.nxt + out.cnt }

def skipOut : Out := ⟨undefA, [], 0⟩

def gwant (want : Bool) : AV → Option Bool
  | .v (.bool b) => some (b == want)
  | .v (.tuple _) => some false
  | _ => none

def guardA (ops : Array Oper) (env : Nat → AV) (o : Oper) : Option Bool :=
  match o.guard with
  | none => some true
  | some (j, want) => match (ops[j]?).bind (·.dst) with
    | some t => gwant want (env t)
    | none => none

/-- A call on the caller's heap. -/
def refCall (E : Env) (rec : Code → St → Option (Ex × St)) (o : Oper) (st : St) : Option (Option (AV × AHeap × Nat)) :=
  match o.op with
  | .call { callee := .value x, args, argTypes } => match calleeOf (aevalO st.env) { callee := .value x, args, argTypes } with
    | some (f, l) => if E.ref f then some ((body E rec f l st.heap st.nxt).map fun (r, st') => (uncomps r, st'.heap, st'.nxt)) else none
    | none => none
  | _ => none

/-- One operation, in a region without a drawn order. -/
def aone (E : Env) (rec : Code → St → Option (Ex × St)) (o : Oper) (st : St) : Option St :=
  match refCall E rec o st with
  | some (some (x, h, n)) => some { env := putEnv st.env o.dst x, heap := h, nxt := n }
  | some none => none
  | none => (astep E rec o st).map (st.put o.dst)

def areg (E : Env) (rec : Code → St → Option (Ex × St)) (ops : Array Oper) : List Oper → St → Option St
  | [], st => some st
  | o :: r, st => match guardA ops st.env o with
    | some true => match aone E rec o st with
      | some st' => areg E rec ops r st'
      | none => none
    | some false => areg E rec ops r (st.put o.dst skipOut)
    | none => none

/-- The blocks that stand in a value itself. -/
def AV.direct : AV → List Nat
  | .ptr b _ _ | .sl b _ _ => [b]
  | _ => []

def ard (o : Oper) (st : St) : List Nat :=
  match o.op with
  | .call { callee := .value x, args, argTypes } => match calleeOf (aevalO st.env) { callee := .value x, args, argTypes } with
    | some (_, l) => l.flatMap (reach (depth + 1) st.heap)
    | none => []
  | .makeFunc (.func _) _ caps => (caps.toList.map (aevalO st.env)).flatMap (reach (depth + 1) st.heap)
  | .move _ | .assign _ => []
  | op => op.operands.toList.flatMap fun x => (aevalO st.env x).direct

abbrev Trace := List (List Nat × List Nat)

def adraw (E : Env) (rec : Code → St → Option (Ex × St)) (ops : Array Oper) : List Oper → St → Trace → Option (St × Trace)
  | [], st, tr => some (st, tr)
  | o :: r, st, tr => match guardA ops st.env o with
    | some true => match astep E rec o st with
      | some out => adraw E rec ops r (st.put o.dst out) (tr ++ [(ard o st, out.upd.map (·.1))])
      | none => none
    | some false => adraw E rec ops r (st.put o.dst skipOut) (tr ++ [([], [])])
    | none => none

def traceOk (bs : List (List Nat)) (tr : Trace) : Bool :=
  (List.range tr.length).all fun j => (List.range j).all fun i =>
    let a := tr.getD i ([], []); let b := tr.getD j ([], [])
    !(meets a.2 b.1 || meets a.2 b.2 || meets a.1 b.2) || (bs.getD j []).contains i

def aexec (E : Env) : Nat → Code → St → Option (Ex × St)
  | 0, _, _ => none
  | n + 1, c, st => match c with
    | .skip => some (.normal, st)
    | .label _ => some (.normal, st)
    | .seq a b => match aexec E n a st with
      | some (.normal, st') => aexec E n b st'
      | r => r
    | .cond x a b => match aevalO st.env x with
      | .v (.bool t) => aexec E n (if t then a else b) st
      | _ => none
    | .block id b => match aexec E n b st with
      | some (.exit j, st') => some (if j = id then .normal else .exit j, st')
      | r => r
    | .loop b => match aexec E n b st with
      | some (.normal, st') => aexec E n (.loop b) st'
      | r => r
    | .exit id => some (.exit id, st)
    | .ret => some (.ret, st)
    | .region _ ops draw =>
      if draw then
        match adraw E (aexec E n) ops ops.toList st [] with
          | some (st', tr) => if traceOk (befores ops.toList) tr then some (.normal, st') else none
          | none => none
      else (areg E (aexec E n) ops ops.toList st).map fun st' => (.normal, st')
    | _ => none

/-- f, called with values without places. -/
def Runs (E : Env) (f : FuncId) (args : List AV) (r : List RC) : Prop := ∃ n, callP E (aexec E n) f args = some r

end Go.Abs
