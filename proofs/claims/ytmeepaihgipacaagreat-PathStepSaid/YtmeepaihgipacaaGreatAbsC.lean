/-
An abstract interpreter, part C: what it means that a value, a heap, a frame are represented in a world; how this lives on.
-/
import Derived.Test.YtmeepaihgipacaaGreatAbsB
set_option linter.unusedVariables false
set_option linter.unusedSimpArgs false
namespace Go.Abs

/-- A value that leads to memory in S alone. -/
inductive PRep (S : Nat → Prop) (w : World) : AV → Value → Prop
  | v (x : Value) : PRep S w (.v x) x
  | e0 (A : Option Addr) : PRep S w .e0 (.slice A 0 0)
  | agg (cs : List AV) (vs : Array Value) (hl : vs.size = cs.length) (h : ∀ i, i < cs.length → PRep S w (cs.getD i undefA) (vs.getD i undef)) : PRep S w (.agg cs) (.agg vs)
  | psl0 (sz : Nat) (A : Option Addr) (cap : Nat) : PRep S w (.psl sz []) (.slice A 0 cap)
  | psl (sz : Nat) (es : List (List AV)) (a : Addr) (cap : Nat) (us : Nat → Nat → Value) (hpos : 0 < es.length) (hcap : es.length ≤ cap) (hS : S a.block) (hsp : a.spot = none)
      (hsz : ∀ e ∈ es, e.length = sz) (hc : ∀ i j, i < es.length → j < sz → w.cell? ⟨a.block, a.off + i * sz + j, none⟩ = some (us i j))
      (h : ∀ i j, i < es.length → j < sz → PRep S w ((es.getD i []).getD j undefA) (us i j)) : PRep S w (.psl sz es) (.slice (some a) es.length cap)
  | pptr (cs : List AV) (a : Addr) (us : Nat → Value) (hS : S a.block) (hsp : a.spot = none) (hc : ∀ j, j < cs.length → w.cell? ⟨a.block, a.off + j, none⟩ = some (us j))
      (h : ∀ j, j < cs.length → PRep S w (cs.getD j undefA) (us j)) : PRep S w (.pptr cs) (.pointer (some a))
  | fn (f : FuncId) (cs : List AV) (vs : Array Value) (hl : vs.size = cs.length) (h : ∀ i, i < cs.length → PRep S w (cs.getD i undefA) (vs.getD i undef)) : PRep S w (.fn f cs) (.func (.func f) #[] vs)

def SameOn (S : Nat → Prop) (w w' : World) : Prop := ∀ k, S k → w'.heap[k]? = w.heap[k]?

theorem cell_same {w w' : World} {a : Addr} (h : w'.heap[a.block]? = w.heap[a.block]?) : w'.cell? a = w.cell? a := World.cell?_of_block h

theorem PRep.mono {S S' : Nat → Prop} {w w' : World} {x : AV} {v : Value} (h : PRep S w x v) (hS : ∀ k, S k → S' k) (hw : SameOn S w w') : PRep S' w' x v := by
  induction h with
  | v x => exact .v x
  | e0 A => exact .e0 A
  | agg cs vs hl h ih => exact .agg cs vs hl ih
  | psl0 sz A cap => exact .psl0 sz A cap
  | psl sz es a cap us hpos hcap hSa hsp hsz hc h ih => exact .psl sz es a cap us hpos hcap (hS _ hSa) hsp hsz (fun i j hi hj => (cell_same (a := ⟨a.block, _, none⟩) (hw _ hSa)).trans (hc i j hi hj)) ih
  | pptr cs a us hSa hsp hc h ih => exact .pptr cs a us (hS _ hSa) hsp (fun j hj => (cell_same (a := ⟨a.block, _, none⟩) (hw _ hSa)).trans (hc j hj)) ih
  | fn f cs vs hl h ih => exact .fn f cs vs hl ih

abbrev Map := Nat → Option (Nat × Nat × Nat)

inductive ARep (m : Map) (S : Nat → Prop) (w : World) : AV → Value → Prop
  | pure {x : AV} {v : Value} (h : PRep S w x v) : ARep m S w x v
  | agg (cs : List AV) (vs : Array Value) (hl : vs.size = cs.length) (h : ∀ i, i < cs.length → ARep m S w (cs.getD i undefA) (vs.getD i undef)) : ARep m S w (.agg cs) (.agg vs)
  | fn (f : FuncId) (cs : List AV) (vs : Array Value) (hl : vs.size = cs.length) (h : ∀ i, i < cs.length → ARep m S w (cs.getD i undefA) (vs.getD i undef)) : ARep m S w (.fn f cs) (.func (.func f) #[] vs)
  | tup (cs : List AV) (vs : Array Value) (hl : vs.size = cs.length) (h : ∀ i, i < cs.length → ARep m S w (cs.getD i undefA) (vs.getD i undef)) : ARep m S w (.tup cs) (.tuple vs)
  | ptr (b i off B sz ct : Nat) (hm : m b = some (B, sz, ct)) : ARep m S w (.ptr b i off) (.pointer (some ⟨B, i * sz + off, none⟩))
  | top (v : Value) : ARep m S w .top v
  | sl (b o len cap B sz ct : Nat) (hm : m b = some (B, sz, ct)) (hl : len ≤ cap) (hc : o + cap = ct) : ARep m S w (.sl b o len) (.slice (some ⟨B, o * sz, none⟩) len cap)

def MSub (m m' : Map) : Prop := ∀ b y, m b = some y → m' b = some y

theorem ARep.mono {m m' : Map} {S S' : Nat → Prop} {w w' : World} {x : AV} {v : Value} (h : ARep m S w x v) (hm : MSub m m') (hS : ∀ k, S k → S' k) (hw : SameOn S w w') : ARep m' S' w' x v := by
  induction h with
  | pure h => exact .pure (h.mono hS hw)
  | agg cs vs hl h ih => exact .agg cs vs hl ih
  | fn f cs vs hl h ih => exact .fn f cs vs hl ih
  | tup cs vs hl h ih => exact .tup cs vs hl ih
  | ptr b i off B sz ct hb => exact .ptr b i off B sz ct (hm _ _ hb)
  | top v => exact .top v
  | sl b o len cap B sz ct hb hl hc => exact .sl b o len cap B sz ct (hm _ _ hb) hl hc

section
variable {m : Map} {S : Nat → Prop} {w : World}
theorem ARep.v_inv {x v : Value} (h : ARep m S w (.v x) v) : v = x := by
  cases h with
  | pure h => cases h; rfl
theorem ARep.e0_inv {v : Value} (h : ARep m S w .e0 v) : ∃ A, v = .slice A 0 0 := by
  cases h with
  | pure h => cases h with | e0 A => exact ⟨A, rfl⟩
theorem ARep.agg_inv {cs : List AV} {v : Value} (h : ARep m S w (.agg cs) v) : ∃ vs : Array Value, v = .agg vs ∧ vs.size = cs.length ∧ ∀ i, i < cs.length → ARep m S w (cs.getD i undefA) (vs.getD i undef) := by
  cases h with
  | pure h => cases h with | agg cs vs hl h => exact ⟨vs, rfl, hl, fun i hi => .pure (h i hi)⟩
  | agg cs vs hl h => exact ⟨vs, rfl, hl, h⟩
theorem ARep.tup_inv {cs : List AV} {v : Value} (h : ARep m S w (.tup cs) v) : ∃ vs : Array Value, v = .tuple vs ∧ vs.size = cs.length ∧ ∀ i, i < cs.length → ARep m S w (cs.getD i undefA) (vs.getD i undef) := by
  cases h with
  | pure h => cases h
  | tup cs vs hl h => exact ⟨vs, rfl, hl, h⟩
theorem ARep.fn_inv {f : FuncId} {cs : List AV} {v : Value} (h : ARep m S w (.fn f cs) v) : ∃ vs : Array Value, v = .func (.func f) #[] vs ∧ vs.size = cs.length ∧ ∀ i, i < cs.length → ARep m S w (cs.getD i undefA) (vs.getD i undef) := by
  cases h with
  | pure h => cases h with | fn f cs vs hl h => exact ⟨vs, rfl, hl, fun i hi => .pure (h i hi)⟩
  | fn f cs vs hl h => exact ⟨vs, rfl, hl, h⟩
theorem ARep.psl_inv {sz : Nat} {es : List (List AV)} {v : Value} (h : ARep m S w (.psl sz es) v) : PRep S w (.psl sz es) v := by
  cases h with
  | pure h => exact h
theorem ARep.pptr_inv {cs : List AV} {v : Value} (h : ARep m S w (.pptr cs) v) : ∃ (a : Addr) (us : Nat → Value), v = .pointer (some a) ∧ S a.block ∧ a.spot = none ∧ (∀ j, j < cs.length → w.cell? ⟨a.block, a.off + j, none⟩ = some (us j)) ∧ ∀ j, j < cs.length → PRep S w (cs.getD j undefA) (us j) := by
  cases h with
  | pure h => cases h with | pptr cs a us hS hsp hc h => exact ⟨a, us, rfl, hS, hsp, hc, h⟩
theorem ARep.ptr_inv {b i off : Nat} {v : Value} (h : ARep m S w (.ptr b i off) v) : ∃ B sz ct, m b = some (B, sz, ct) ∧ v = .pointer (some ⟨B, i * sz + off, none⟩) := by
  cases h with
  | pure h => cases h
  | ptr b i off B sz ct hm => exact ⟨B, sz, ct, hm, rfl⟩
theorem ARep.sl_inv {b o len : Nat} {v : Value} (h : ARep m S w (.sl b o len) v) : ∃ B sz ct cap, m b = some (B, sz, ct) ∧ len ≤ cap ∧ o + cap = ct ∧ v = .slice (some ⟨B, o * sz, none⟩) len cap := by
  cases h with
  | pure h => cases h
  | sl b o len cap B sz ct hm hl hc => exact ⟨B, sz, ct, cap, hm, hl, hc, rfl⟩
/-- A readable slice, whatever it is. -/
theorem PRep.psl_inv {sz : Nat} {es : List (List AV)} {v : Value} (h : PRep S w (.psl sz es) v) : ∃ A cap, v = .slice A es.length cap ∧ es.length ≤ cap := by
  cases h with
  | psl0 sz A cap => exact ⟨A, cap, rfl, by simp⟩
  | psl sz es a cap us hpos hcap => exact ⟨_, cap, rfl, hcap⟩
end

/-- Below the start nothing has turned but for the blocks in L. -/
structure Ext (L : Nat → Prop) (w w' : World) : Prop where
  os : w'.os = w.os
  tape : w'.tape = w.tape
  output : w'.output = w.output
  size : w.heap.size ≤ w'.heap.size
  drawn : w.drawn ≤ w'.drawn
  block : ∀ k, k < w.heap.size → ¬ L k → w'.heap[k]? = w.heap[k]?

theorem Ext.refl (L : Nat → Prop) (w : World) : Ext L w w := ⟨rfl, rfl, rfl, Nat.le_refl _, Nat.le_refl _, fun _ _ _ => rfl⟩
theorem Ext.trans {L L' : Nat → Prop} {a b c : World} (h : Ext L a b) (k : Ext L' b c) (hL : ∀ i, L' i → L i ∨ a.heap.size ≤ i) : Ext L a c :=
  ⟨k.os.trans h.os, k.tape.trans h.tape, k.output.trans h.output, Nat.le_trans h.size k.size, Nat.le_trans h.drawn k.drawn,
    fun i hi hn => (k.block i (Nat.lt_of_lt_of_le hi h.size) (fun hl => (hL i hl).elim hn (fun h => absurd hi (Nat.not_lt_of_le h)))).trans (h.block i hi hn)⟩

structure Ctx where
  w0 : World
  S0 : Nat → Prop
  L0 : Nat → Prop

/-- Block B of the world holds x. -/
def Holds (m : Map) (S : Nat → Prop) (w : World) (B ct : Nat) (x : Blk) : Prop :=
  ∃ (arr : Array Value) (ty : TypeId), w.heap[B]? = some (.cells arr ty (0, 0)) ∧ arr.size = ct * x.sz ∧ x.es.length ≤ ct ∧ (∀ e ∈ x.es, e.length = x.sz) ∧
    ∀ i j, i < x.es.length → j < x.sz → ARep m S w ((x.es.getD i []).getD j undefA) (arr.getD (i * x.sz + j) undef)

theorem Holds.mono {m m' : Map} {S S' : Nat → Prop} {w w' : World} {B ct : Nat} {x : Blk} (h : Holds m S w B ct x) (hm : MSub m m') (hS : ∀ k, S k → S' k) (hw : SameOn S w w') (hB : w'.heap[B]? = w.heap[B]?) : Holds m' S' w' B ct x := by
  obtain ⟨arr, ty, h1, h2, h3, h4, h5⟩ := h
  exact ⟨arr, ty, hB.trans h1, h2, h3, h4, fun i j hi hj => (h5 i j hi hj).mono hm hS hw⟩

theorem Holds.lt {m : Map} {S : Nat → Prop} {w : World} {B ct : Nat} {x : Blk} (h : Holds m S w B ct x) : B < w.heap.size := by
  obtain ⟨arr, ty, h1, _⟩ := h
  exact (Array.getElem?_eq_some_iff.1 h1).1

/-- The abstract heap h is represented in w by m; S: the memory that is not written any more. -/
structure Rel (C : Ctx) (m : Map) (S : Nat → Prop) (D : Nat → Prop) (w : World) (h : AHeap) : Prop where
  ext : Ext C.L0 C.w0 w
  s0 : ∀ k, C.S0 k → S k
  slt : ∀ k, S k → k < w.heap.size
  snew : ∀ k, S k → C.S0 k ∨ C.L0 k ∨ C.w0.heap.size ≤ k
  blk : ∀ b x, h b = some x → ∃ B ct, m b = some (B, x.sz, ct) ∧ (x.lv = true → ¬ S B ∧ (C.L0 B ∨ C.w0.heap.size ≤ B)) ∧ (x.lv = false → S B) ∧ Holds m S w B ct x
  inj : ∀ b b' x x' y y', h b = some x → h b' = some x' → x.lv = true → x'.lv = true → m b = some y → m b' = some y' → y.1 = y'.1 → b = b'
  dom : ∀ b y, m b = some y → D b

/-- The frame; it has room for n slots at least. -/
structure EnvRel (n : Nat) (m : Map) (S : Nat → Prop) (w : World) (a : Act) (env : Nat → AV) : Prop where
  defers : a.defers = []
  size : n ≤ a.tmps.size
  rep : ∀ t, ARep m S w (env t) (a.tmps.getD t undef)

theorem EnvRel.mono {n : Nat} {m m' : Map} {S S' : Nat → Prop} {w w' : World} {a : Act} {env : Nat → AV} (h : EnvRel n m S w a env) (hm : MSub m m') (hS : ∀ k, S k → S' k) (hw : SameOn S w w') : EnvRel n m' S' w' a env :=
  ⟨h.defers, h.size, fun t => (h.rep t).mono hm hS hw⟩

theorem EnvRel.put {n : Nat} {m : Map} {S : Nat → Prop} {w : World} {a : Act} {env : Nat → AV} (h : EnvRel n m S w a env) (dst : Option Tmp) (hd : ∀ d, dst = some d → d < n) (x : AV) (v : Value) (hv : ARep m S w x v) :
    EnvRel n m S w (a.put dst v) (putEnv env dst x) := by
  cases dst with
  | none => exact h
  | some d =>
    have hlt : d < a.tmps.size := Nat.lt_of_lt_of_le (hd d rfl) h.size
    refine ⟨h.defers, by simpa [Act.put] using h.size, fun t => ?_⟩
    simp only [Act.put, putEnv, fset]
    by_cases e : t = d
    · subst e
      rw [if_pos rfl]
      simpa [Array.getD_eq_getD_getElem?, Array.getElem?_setIfInBounds, hlt] using hv
    · rw [if_neg e]
      have := h.rep t
      have e' : ¬ d = t := fun h => e h.symm
      simpa [Array.getD_eq_getD_getElem?, Array.getElem?_setIfInBounds, e'] using this

theorem EnvRel.eval {n : Nat} {m : Map} {S : Nat → Prop} {w : World} {a : Act} {env : Nat → AV} (h : EnvRel n m S w a env) (x : Operand) : ARep m S w (aevalO env x) (a.eval x) := by
  cases x with
  | tmp t => exact h.rep t
  | const v => exact .pure (.v _)
  | global g => exact .pure (.v _)
  | func f => exact .pure (.fn f [] #[] rfl (fun i hi => absurd hi (by simp)))

/-- What changes from one state to a later one. -/
structure Later (C : Ctx) (m m' : Map) (S S' : Nat → Prop) (w w' : World) : Prop where
  ms : MSub m m'
  ss : ∀ k, S k → S' k
  same : SameOn S w w'

theorem Later.refl (C : Ctx) (m : Map) (S : Nat → Prop) (w : World) : Later C m m S S w w := ⟨fun _ _ h => h, fun _ h => h, fun _ _ => rfl⟩
theorem Later.trans {C : Ctx} {m m' m'' : Map} {S S' S'' : Nat → Prop} {w w' w'' : World} (h : Later C m m' S S' w w') (k : Later C m' m'' S' S'' w' w'') : Later C m m'' S S'' w w'' :=
  ⟨fun b y hb => k.ms b y (h.ms b y hb), fun i hi => k.ss i (h.ss i hi), fun i hi => (k.same i (h.ss i hi)).trans (h.same i hi)⟩

/-- The one law on a changed heap. -/
theorem Rel.change {C : Ctx} {m m' : Map} {S : Nat → Prop} {D D' : Nat → Prop} {w w' : World} {h h' : AHeap} (R : Rel C m S D w h)
    (hm : MSub m m') (hos : w'.os = w.os) (htape : w'.tape = w.tape) (hout : w'.output = w.output) (hsize : w.heap.size ≤ w'.heap.size) (hdrawn : w.drawn ≤ w'.drawn)
    (hframe : ∀ k, k < w.heap.size → w'.heap[k]? = w.heap[k]? ∨ ∃ b x y, h b = some x ∧ x.lv = true ∧ m b = some y ∧ y.1 = k)
    (hblk : ∀ b x, h' b = some x → (h b = some x ∧ ∀ y, m b = some y → w'.heap[y.1]? = w.heap[y.1]?) ∨
      ∃ B ct, m' b = some (B, x.sz, ct) ∧ (x.lv = true → ¬ S B ∧ (C.L0 B ∨ C.w0.heap.size ≤ B)) ∧ (x.lv = false → S B) ∧ Holds m' S w' B ct x)
    (hinj : ∀ b b' x x' y y', h' b = some x → h' b' = some x' → x.lv = true → x'.lv = true → m' b = some y → m' b' = some y' → y.1 = y'.1 → b = b')
    (hdom : ∀ b y, m' b = some y → D' b) : Rel C m' S D' w' h' ∧ Later C m m' S S w w' := by
  have live : ∀ b x y, h b = some x → x.lv = true → m b = some y → ¬ S y.1 ∧ (C.L0 y.1 ∨ C.w0.heap.size ≤ y.1) := by
    intro b x y hb hl hy
    obtain ⟨B, ct, h1, h2, _⟩ := R.blk b x hb
    rw [hy] at h1
    cases h1
    exact h2 hl
  have same : SameOn S w w' := by
    intro k hk
    rcases hframe k (R.slt k hk) with h1 | ⟨b, x, y, hb, hl, hy, rfl⟩
    · exact h1
    · exact absurd hk (live b x y hb hl hy).1
  refine ⟨⟨?_, R.s0, fun k hk => Nat.lt_of_lt_of_le (R.slt k hk) hsize, R.snew, ?_, hinj, hdom⟩, hm, fun _ h => h, same⟩
  · refine ⟨hos.trans R.ext.os, htape.trans R.ext.tape, hout.trans R.ext.output, Nat.le_trans R.ext.size hsize, Nat.le_trans R.ext.drawn hdrawn, fun k hk hn => ?_⟩
    rcases hframe k (Nat.lt_of_lt_of_le hk R.ext.size) with h1 | ⟨b, x, y, hb, hl, hy, rfl⟩
    · exact h1.trans (R.ext.block k hk hn)
    · rcases (live b x y hb hl hy).2 with h2 | h2
      · exact absurd h2 hn
      · omega
  · intro b x hb
    rcases hblk b x hb with ⟨h1, h2⟩ | h1
    · obtain ⟨B, ct, h3, h4, h5, h6⟩ := R.blk b x h1
      exact ⟨B, ct, hm _ _ h3, h4, h5, h6.mono hm (fun _ h => h) same (h2 _ h3)⟩
    · exact h1

end Go.Abs
