/-
An abstract interpreter for the model's code, part A: abstract values, abstract heap, the interpreter itself.
No program in sight: everything holds for any program P.
-/
import Derived.WalkKit
import Derived.Orders
set_option linter.unusedVariables false
set_option linter.unusedSimpArgs false
namespace Go.Abs

/-- Abstract values. `v`: a value that has the same meaning in every world (numbers, bools, strings, nil). `psl`, `pptr`: memory that is only read. `ptr`, `sl`: places in the abstract heap. `top`: anything. -/
inductive AV where
  | v (x : Value)
  | e0
  | agg (cs : List AV)
  | psl (sz : Nat) (es : List (List AV))
  | pptr (cs : List AV)
  | fn (f : FuncId) (caps : List AV)
  | tup (vs : List AV)
  | ptr (b i off : Nat)
  | sl (b o len : Nat)
  | top

def undefA : AV := .v undef
instance : Inhabited AV := ⟨undefA⟩

/-- A block of the abstract heap: elements of `sz` cells each; `lv`: it may still be written. -/
structure Blk where
  lv : Bool
  sz : Nat
  es : List (List AV)

abbrev AHeap := Nat → Option Blk

structure St where
  env : Nat → AV
  heap : AHeap
  nxt : Nat

def fset {α : Type} (f : Nat → α) (k : Nat) (x : α) : Nat → α := fun t => if t = k then x else f t
theorem fset_same {α : Type} (f : Nat → α) (k : Nat) (x : α) : fset f k x k = x := by simp [fset]
theorem fset_ne {α : Type} (f : Nat → α) (k t : Nat) (x : α) (h : t ≠ k) : fset f k x t = f t := by simp [fset, h]

/-- What an operation yields: its value, the blocks that it sets (new ones too), how many numbers it has used up. -/
structure Out where
  val : AV
  upd : List (Nat × Option Blk)
  cnt : Nat

def applyUpd (h : AHeap) (l : List (Nat × Option Blk)) : AHeap := l.foldl (fun h p => fset h p.1 p.2) h

def AV.cells : AV → List AV
  | .agg cs => cs
  | x => [x]

/-- One cell: no struct, no tuple. -/
def AV.isCell : AV → Bool
  | .v x => x.oneCell'
  | .agg _ | .tup _ | .top => false
  | _ => true

/-- One value of one cell, or a struct of such. -/
def AV.flat (x : AV) : Bool := x.cells.all AV.isCell

def aevalO (env : Nat → AV) : Operand → AV
  | .tmp t => env t
  | .const x => .v x
  | .global g => .v (.pointer (some ⟨g, 0, none⟩))
  | .func f => .fn f []

/-- A computation that looks at no memory. -/
def prun (P : Program) {α : Type} : Sem α → Option α
  | .pure a => some a
  | .program k => prun P (k P)
  | .mark _ k => prun P k
  | _ => none

theorem prun_run {P : Program} {α : Type} {s : Sem α} {a : α} (h : prun P s = some a) (w : World) : s.run P w = .ok a w := by
  induction s with
  | pure b => simp only [prun, Option.some.injEq] at h; subst h; rfl
  | program k ih => exact ih P h
  | mark m k ih => exact ih h
  | _ => simp [prun] at h

def azero (P : Program) (t : TypeId) : Option (List AV) := ((P.info? t).bind (·.zero)).map fun z => z.cells.toList.map .v
def asize (P : Program) (t : TypeId) : Option Nat := (P.info? t).map (·.size)
def abytes (P : Program) (t : TypeId) : Option Nat := (P.info? t).map (·.bytes)
def aelem (P : Program) (t : TypeId) : Option TypeId := match P.underlying t with | some (.slice e) => some e | _ => none
def aisAgg (P : Program) (t : TypeId) : Option Bool := (P.underlying t).map fun | .struct _ | .array _ _ => true | _ => false
/-- The place and the size of a field; no field of size 0. -/
def afield (P : Program) (t : TypeId) (f : Nat) : Option (Nat × TypeId) :=
  match P.underlying t with
  | some (.struct fs) => (fs[f]?).map fun x => (x.offset, x.type)
  | _ => none

def aint : AV → Option Int
  | .v (.int _ n) => some n
  | _ => none

def bint : Option Operand → (Operand → AV) → Option (Option Int)
  | none, _ => some none
  | some x, ev => (aint (ev x)).map some

/-- The elements of a slice that can be read. -/
def aread (h : AHeap) (P : Program) : AV → Option (List (List AV))
  | .e0 => some []
  | .v (.slice _ 0 _) => some []
  | .psl _ es => some es
  | .sl b o len => match h b with
    | some blk => if o + len ≤ blk.es.length then some ((blk.es.drop o).take len) else none
    | none => none
  | _ => none

def afill (sz : Nat) (es : List (List AV)) : List (Nat × AV) → Option (List (List AV))
  | [] => some es
  | (i, x) :: r => if x.cells.length = sz ∧ i < es.length ∧ x.flat then afill sz (es.set i x.cells) r else none

def splice (cs : List AV) (off : Nat) (xs : List AV) : List AV := cs.take off ++ xs ++ cs.drop (off + xs.length)

def aplaces (P : Program) (t : TypeId) : Option (List (Nat × Nat)) :=
  match P.underlying t with
  | some (.struct fields) => fields.toList.mapM (fun f => (P.info? f.type).map fun i => (f.offset, i.size))
  | _ => none

def abuild (places : List (Nat × Nat)) (cs : List AV) : List (Nat × AV) → Option (List AV)
  | [] => some cs
  | (i, x) :: r => match places[i]? with
    | some (off, sz) => if x.cells.length = sz ∧ off + sz ≤ cs.length ∧ x.flat then abuild places (splice cs off x.cells) r else none
    | none => none

def scal : AV → Option Value
  | .v x => some x
  | _ => none

/-- An operation on plain values alone. -/
def apure (P : Program) (o : Oper) (env : Nat → AV) : Option AV :=
  if o.op.operands.all fun x => (scal (aevalO env x)).isSome then
    match prun P (execOp (fun x => (scal (aevalO env x)).getD undef) o) with
    | some (.value x) => some (.v x)
    | _ => none
  else none

def newBlk (nxt : Nat) (sz : Nat) (es : List (List AV)) : List (Nat × Option Blk) := [(nxt, some ⟨true, sz, es⟩)]

/-- A slice, compared with nil. -/
def nilB : BinOp → Option TypeDesc → Bool → Option Bool
  | .eql, some (.slice _), r => some r
  | .neq, some (.slice _), r => some (!r)
  | _, _, _ => none
def nilEq (P : Program) (b : BinOp) (t : TypeId) : AV → AV → Option Bool
  | .psl _ (_ :: _), .v (.slice none 0 0) => nilB b (P.underlying t) false
  | .v (.slice A _ _), .v (.slice none 0 0) => nilB b (P.underlying t) A.isNone
  | .sl _ _ _, .v (.slice none 0 0) => nilB b (P.underlying t) false
  | _, _ => none

def maxBytes : Nat := 140737488355328

/-- Rows of one byte each. -/
def abytesOf : List (List AV) → Option (List UInt8)
  | [] => some []
  | [.v (.int .u8 n)] :: r => (abytesOf r).map fun l => UInt8.ofNat n.toNat :: l
  | _ => none

/-- One operation that is no call of a function. -/
def aop (P : Program) (o : Oper) (st : St) : Option Out :=
  let ev := aevalO st.env
  match o.op with
  | .move x | .assign x => some ⟨ev x, [], 0⟩
  | .pick c a b => match ev c with
    | .v (.bool t) => some ⟨if t then ev a else ev b, [], 0⟩
    | _ => none
  | .alloc t => (azero P t).map fun cs => ⟨.ptr st.nxt 0 0, newBlk st.nxt cs.length [cs], 1⟩
  | .box _ x => if (ev x).flat then some ⟨.ptr st.nxt 0 0, newBlk st.nxt (ev x).cells.length [(ev x).cells], 1⟩ else none
  | .build t parts => match aplaces P t, azero P t with
    | some pl, some z => (abuild pl z (parts.toList.map fun p => (p.1, ev p.2))).map fun cs => ⟨.agg cs, [], 0⟩
    | _, _ => none
  | .buildSlice t len parts => match aelem P t with
    | some e => match azero P e, asize P e with
      | some z, some sz => if z.length = sz ∧ len * sz ≤ 16777216 ∧ 0 < sz then
          if len = 0 ∧ parts.size = 0 then some ⟨.e0, [], 0⟩ else
          (afill sz (List.replicate len z) (parts.toList.map fun p => (p.1, ev p.2))).map fun es => ⟨.sl st.nxt 0 len, newBlk st.nxt sz es, 1⟩ else none
      | _, _ => none
    | none => none
  | .load t x => match aisAgg P t, asize P t with
    | some g, some n =>
      let cs? : Option (List AV) := match ev x with
        | .pptr cs => some cs
        | .ptr b i off => match st.heap b with
          | some blk => if i < blk.es.length then some ((blk.es.getD i []).drop off) else none
          | none => none
        | _ => none
      match cs? with
      | some cs => if g then (if n ≤ cs.length then some ⟨.agg (cs.take n), [], 0⟩ else none) else
          match cs with | c :: _ => some ⟨c, [], 0⟩ | [] => none
      | none => none
    | _, _ => none
  | .store t x y => match asize P t, ev x with
    | some n, .ptr b i off => match st.heap b with
      | some blk => if blk.lv = true ∧ i < blk.es.length ∧ (ev y).cells.length = n ∧ off + n ≤ blk.sz ∧ (ev y).flat then
          some ⟨undefA, [(b, some { blk with es := blk.es.set i (splice (blk.es.getD i []) off (ev y).cells) })], 0⟩ else none
      | none => none
    | _, _ => none
  | .nilCheck x => match ev x with
    | .ptr b i off => some ⟨.ptr b i off, [], 0⟩
    | .pptr cs => some ⟨.pptr cs, [], 0⟩
    | _ => none
  | .makeFunc (.func f) first caps => if first.size = 0 then some ⟨.fn f (caps.toList.map ev), [], 0⟩ else none
  | .makeSlice t l c => match aelem P t, ev l, ev c with
    | some e, .v (.int .i64 n), .v (.int .i64 m) => match azero P e, asize P e, abytes P e with
      | some z, some sz, some by_ => if z.length = sz ∧ 0 < sz ∧ 0 ≤ n ∧ n ≤ m ∧ m ≤ 140737488355328 ∧ by_ * m ≤ 281474976710656 then
          some ⟨.sl st.nxt 0 n.toNat, newBlk st.nxt sz (List.replicate n.toNat z), 1⟩ else none
      | _, _, _ => none
    | _, _, _ => none
  | .slice t x lo hi mx => match ev x with
    | .v (.string _) => (apure P o st.env).map fun r => ⟨r, [], 0⟩
    | _ => match aelem P t, bint lo ev, bint hi ev, bint mx ev with
      | some e, some lo, some hi, some mx => match asize P e with
        | some sz =>
          let l := lo.getD 0
          match ev x with
          | .psl sz' es =>
            let h := hi.getD es.length
            if (sz' = sz ∨ es.length = 0) ∧ 0 ≤ l ∧ l ≤ h ∧ h ≤ es.length ∧ h ≤ mx.getD es.length ∧ mx.getD es.length ≤ es.length ∧ (hi = none → mx = none) then
              some ⟨if mx = some 0 then .e0 else .psl sz ((es.take h.toNat).drop l.toNat), [], 0⟩ else none
          | .e0 => if l = 0 ∧ hi.getD 0 = 0 ∧ mx.getD 0 = 0 ∧ (hi = none → mx = none) then some ⟨.e0, [], 0⟩ else none
          | .v (.slice none 0 0) => if l = 0 ∧ hi.getD 0 = 0 ∧ mx.getD 0 = 0 ∧ (hi = none → mx = none) then some ⟨.e0, [], 0⟩ else none
          | .sl b off len => match st.heap b with
            | some blk =>
              let h := hi.getD len
              match mx with
              | none => if blk.sz = sz ∧ 0 ≤ l ∧ l ≤ h ∧ off + h ≤ blk.es.length ∧ off + len ≤ blk.es.length then
                some ⟨if l = h ∧ l ≠ 0 then .psl sz [] else .sl b (off + l.toNat) (h - l).toNat, [], 0⟩ else none
              | some m => if hi.isSome = true ∧ blk.sz = sz ∧ 0 ≤ l ∧ l ≤ h ∧ h ≤ m ∧ m ≤ len ∧ off + len ≤ blk.es.length then some ⟨.top, [], 0⟩ else none
            | none => none
          | _ => none
        | none => none
      | _, _, _, _ => none
  | .fieldAddr s x f => match afield P s f with
    | some (off, ft) => match asize P ft with
      | some n => if n = 0 then none else match ev x with
        | .ptr b i o => some ⟨.ptr b i (o + off), [], 0⟩
        | .pptr cs => if off < cs.length then some ⟨.pptr (cs.drop off), [], 0⟩ else none
        | _ => none
      | none => none
    | none => none
  | .field s x f => match afield P s f with
    | some (off, ft) => match aisAgg P ft, asize P ft, ev x with
      | some g, some n, .agg cs => if off + n ≤ cs.length then (if g then some ⟨.agg ((cs.drop off).take n), [], 0⟩ else if n = 1 then some ⟨cs.getD off undefA, [], 0⟩ else none) else none
      | _, _, _ => none
    | none => none
  | .indexAddr t x i => match aelem P t, aint (ev i) with
    | some e, some n => match asize P e with
      | some sz => match ev x with
        | .psl sz' es => if sz' = sz ∧ 0 < sz ∧ 0 ≤ n ∧ n < es.length then some ⟨.pptr (es.getD n.toNat []), [], 0⟩ else none
        | .sl b o len => match st.heap b with
          | some blk => if blk.sz = sz ∧ 0 ≤ n ∧ n < len then some ⟨.ptr b (o + n.toNat) 0, [], 0⟩ else none
          | none => none
        | _ => none
      | none => none
    | _, _ => none
  | .extract x i => match ev x with
    | .tup vs => if i < vs.length then some ⟨vs.getD i undefA, [], 0⟩ else none
    | _ => none
  | .call { callee := .builtin .len, args, argTypes } => match args.toList.map ev, argTypes.toList with
    | [.psl _ es], [t] => if (aelem P t).isSome then some ⟨.v (.int .i64 es.length), [], 0⟩ else none
    | [.sl _ _ len], [t] => if (aelem P t).isSome then some ⟨.v (.int .i64 len), [], 0⟩ else none
    | [.e0], [t] => if (aelem P t).isSome then some ⟨.v (.int .i64 0), [], 0⟩ else none
    | _, _ => (apure P o st.env).map fun r => ⟨r, [], 0⟩
  | .call { callee := .builtin .append, args, argTypes } => match args.toList.map ev, argTypes.toList with
    | [d, s], [t, u] => if t ≠ u then none else match aelem P t with
      | some e => match azero P e, asize P e, abytes P e, aread st.heap P s with
        | some z, some sz, some by_, some xs =>
          if ¬ (z.length = sz ∧ 0 < sz ∧ 0 < by_ ∧ (∀ x ∈ xs, x.length = sz ∧ x.all AV.isCell)) then none else
          match xs with
          | [] => match d with
            | .e0 | .v (.slice none 0 0) => some ⟨d, [], 0⟩
            | .sl b 0 len => match st.heap b with
              | some blk => if blk.lv = true ∧ blk.sz = sz ∧ len ≤ blk.es.length then some ⟨d, [], 0⟩ else none
              | none => none
            | _ => none
          | x :: r => match d with
            | .e0 | .v (.slice none 0 0) => if xs.length * by_ ≤ maxBytes then some ⟨.sl st.nxt 0 xs.length, newBlk st.nxt sz xs, 1⟩ else none
            | .sl b 0 len => match st.heap b with
              | some blk =>
                if ¬ (blk.lv = true ∧ blk.sz = sz ∧ len ≤ blk.es.length ∧ (len + xs.length) * by_ ≤ maxBytes) then none else
                if len = blk.es.length then
                  some ⟨.sl st.nxt 0 (len + xs.length), [(b, none), (st.nxt, some ⟨true, sz, blk.es ++ xs⟩)], 1⟩
                else if len + xs.length ≤ blk.es.length then
                  some ⟨.sl b 0 (len + xs.length), [(b, some { blk with es := blk.es.take len ++ xs ++ blk.es.drop (len + xs.length) })], 0⟩
                else none
              | none => none
            | _ => none
        | _, _, _, _ => none
      | none => none
    | _, _ => none
  | .call { callee := .builtin .copy, args, argTypes } => match args.toList.map ev, argTypes.toList with
    | [.sl b o len, s], [t, u] => if t ≠ u then none else match aelem P t with
      | some e => match asize P e, aread st.heap P s, st.heap b with
        | some sz, some xs, some blk =>
          if blk.lv = true ∧ blk.sz = sz ∧ 0 < sz ∧ o + len ≤ blk.es.length ∧ (∀ x ∈ xs, x.length = sz ∧ x.all AV.isCell) then
            let n := min xs.length len
            some ⟨.v (.int .i64 n), [(b, some { blk with es := blk.es.take o ++ xs.take n ++ blk.es.drop (o + n) })], 0⟩ else none
        | _, _, _ => none
      | none => none
    | _, _ => none
  | .call { callee := .builtin .clear, args, argTypes } => match args.toList.map ev, argTypes.toList with
    | [.sl b o len], [t] => match aelem P t with
      | some e => match azero P e, asize P e, st.heap b with
        | some z, some sz, some blk =>
          if blk.lv = true ∧ blk.sz = sz ∧ z.length = sz ∧ 0 < sz ∧ o + len ≤ blk.es.length ∧ z.all AV.isCell then
            some ⟨.v noResult, [(b, some { blk with es := blk.es.take o ++ List.replicate len z ++ blk.es.drop (o + len) })], 0⟩ else none
        | _, _, _ => none
      | none => none
    | [.psl _ []], [t] => if (aelem P t).isSome then some ⟨.v noResult, [], 0⟩ else none
    | _, _ => none
  | .call { callee := .builtin .max, .. } | .call { callee := .builtin .min, .. } => (apure P o st.env).map fun r => ⟨r, [], 0⟩
  | .convert src dst x => match ev x with
    | .v _ => (apure P o st.env).map fun r => ⟨r, [], 0⟩
    | y => match P.underlying src, P.underlying dst with
      | some (.slice e), some .string => match P.underlying e, aread st.heap P y with
        | some (.int .u8), some xs => (abytesOf xs).map fun bs => ⟨.v (.string ⟨bs.toArray⟩), [], 0⟩
        | _, _ => none
      | _, _ => none
  | .binOp b t x y _ => match nilEq P b t (ev x) (ev y) with
    | some r => some ⟨.v (.bool r), [], 0⟩
    | none => (apure P o st.env).map fun r => ⟨r, [], 0⟩
  | .unOp .. | .index .. => (apure P o st.env).map fun r => ⟨r, [], 0⟩
  | _ => none

end Go.Abs
