/-
An abstract interpreter, part D: the operations that are no calls of functions are sound.
-/
import Derived.Test.YtmeepaihgipacaaGreatAbsC
set_option linter.unusedVariables false
set_option linter.unusedSimpArgs false
namespace Go.Abs

section
variable {P : Program}
theorem asize_run {t : TypeId} {n : Nat} (h : asize P t = some n) (w : World) : (sizeOf t).run P w = .ok n w := by
  simp only [asize, Option.map_eq_some_iff] at h
  obtain ⟨i, hi, rfl⟩ := h
  simp [sizeOf, typeInfo, hi]
theorem azero_run {t : TypeId} {cs : List AV} (h : azero P t = some cs) : ∃ z : Value, cs = z.cells.toList.map .v ∧ ∀ w : World, (zeroValue t).run P w = .ok z w := by
  simp only [azero, Option.map_eq_some_iff, Option.bind_eq_some_iff] at h
  obtain ⟨z, ⟨i, hi, hz⟩, rfl⟩ := h
  exact ⟨z, rfl, fun w => by simp [zeroValue, typeInfo, hi, hz]⟩
theorem aelem_und {t e : TypeId} (h : aelem P t = some e) : P.underlying t = some (.slice e) := by
  unfold aelem at h
  split at h
  · rename_i e' he; simp only [Option.some.injEq] at h; subst h; exact he
  · cases h
theorem und_run {t : TypeId} {d : TypeDesc} (h : P.underlying t = some d) (w : World) : (underlying t).run P w = .ok d w := by simp [underlying, h]
theorem aisAgg_run {t : TypeId} {g : Bool} (h : aisAgg P t = some g) (w : World) : (isAgg t).run P w = .ok g w := by
  simp only [aisAgg, Option.map_eq_some_iff] at h
  obtain ⟨d, hd, rfl⟩ := h
  simp only [isAgg]
  simp only [Sem.run_bind, und_run hd]
  cases d <;> rfl
theorem afield_und {s : TypeId} {f off : Nat} {ft : TypeId} (h : afield P s f = some (off, ft)) : ∃ fs x, P.underlying s = some (.struct fs) ∧ fs[f]? = some x ∧ x.offset = off ∧ x.type = ft := by
  unfold afield at h
  split at h
  · rename_i fs hs
    simp only [Option.map_eq_some_iff, Prod.mk.injEq] at h
    obtain ⟨x, hx, h1, h2⟩ := h
    exact ⟨fs, x, hs, hx, h1, h2⟩
  · cases h
end

/-- The operation yields v, in w'. -/
def Yields (P : Program) (o : Oper) (a : Act) (w : World) (v : Value) (w' : World) : Prop :=
  ∃ nx, (execOp a.eval o).run P w = .ok nx w' ∧ (nx = .value v ∨ (nx = .skip ∧ v = undef))

def OpGoal (P : Program) (C : Ctx) (m : Map) (S D : Nat → Prop) (w : World) (st : St) (a : Act) (o : Oper) (out : Out) : Prop :=
  ∃ v w' m', Yields P o a w v w' ∧ Rel C m' S (fun b => D b ∨ (st.nxt ≤ b ∧ b < st.nxt + out.cnt)) w' (applyUpd st.heap out.upd) ∧ Later C m m' S S w w' ∧ ARep m' S w' out.val v

theorem Rel.weaken {C : Ctx} {m : Map} {S D D' : Nat → Prop} {w : World} {h : AHeap} (R : Rel C m S D w h) (hD : ∀ b, D b → D' b) : Rel C m S D' w h :=
  ⟨R.ext, R.s0, R.slt, R.snew, R.blk, R.inj, fun b y hb => hD b (R.dom b y hb)⟩

section
variable {P : Program} {C : Ctx} {m : Map} {S D : Nat → Prop} {w : World} {st : St} {a : Act} {o : Oper}

theorem OpGoal.same (R : Rel C m S D w st.heap) {x : AV} {v : Value} (hy : Yields P o a w v w) (hx : ARep m S w x v) : OpGoal P C m S D w st a o ⟨x, [], 0⟩ :=
  ⟨v, w, m, hy, R.weaken (fun _ h => .inl h), Later.refl C m S w, hx⟩

theorem heap_alloc (w : World) (ob : Obj) (k : Nat) (h : k < w.heap.size) : (w.alloc ob).heap[k]? = w.heap[k]? := Go.RowKit.Below.heap_alloc w ob k h
theorem heap_new (w : World) (ob : Obj) : (w.alloc ob).heap[w.heap.size]? = some ob := heap_alloc_new w ob

/-- A new block. -/
theorem Rel.new {h : AHeap} (R : Rel C m S D w h) (nxt : Nat) (hn : ¬ D nxt) (w' : World) (arr : Array Value) (ty : TypeId) (sz ct : Nat) (es : List (List AV))
    (hos : w'.os = w.os) (htape : w'.tape = w.tape) (hout : w'.output = w.output) (hdrawn : w.drawn ≤ w'.drawn) (hheap : w'.heap = w.heap.push (.cells arr ty))
    (hsz : arr.size = ct * sz) (hct : es.length ≤ ct) (hes : ∀ e ∈ es, e.length = sz) (hc : ∀ i j, i < es.length → j < sz → ARep m S w ((es.getD i []).getD j undefA) (arr.getD (i * sz + j) undef)) :
    Rel C (fset m nxt (some (w.heap.size, sz, ct))) S (fun b => D b ∨ (nxt ≤ b ∧ b < nxt + 1)) w' (fset h nxt (some ⟨true, sz, es⟩)) ∧ Later C m (fset m nxt (some (w.heap.size, sz, ct))) S S w w' := by
  have hmn : m nxt = none := by
    cases e : m nxt with
    | none => rfl
    | some y => exact absurd (R.dom _ _ e) hn
  have hms : MSub m (fset m nxt (some (w.heap.size, sz, ct))) := fun b y hb => by
    rw [fset_ne]
    · exact hb
    · rintro rfl; rw [hmn] at hb; cases hb
  have hold : ∀ k, k < w.heap.size → w'.heap[k]? = w.heap[k]? := fun k hk => by rw [hheap, Array.getElem?_push, if_neg (by omega)]
  have hlt : ∀ b x y, h b = some x → m b = some y → y.1 < w.heap.size := fun b x y hb hy => by
    obtain ⟨B, ct', h1, _, _, h4⟩ := R.blk b x hb
    rw [hy] at h1
    cases h1
    exact h4.lt
  refine R.change hms hos htape hout (by rw [hheap]; simp) hdrawn (fun k hk => .inl (hold k hk)) ?_ ?_ ?_
  · intro b x hb
    by_cases e : b = nxt
    · subst e
      rw [fset_same] at hb
      cases hb
      refine .inr ⟨w.heap.size, ct, fset_same _ _ _, fun _ => ⟨fun hs => absurd (R.slt _ hs) (Nat.lt_irrefl _), .inr R.ext.size⟩, fun h => (Bool.noConfusion h), ?_⟩
      refine ⟨arr, ty, by rw [hheap]; simp, hsz, hct, hes, fun i j hi hj => (hc i j hi hj).mono hms (fun _ h => h) (fun k hk => hold k (R.slt k hk))⟩
    · rw [fset_ne _ _ _ _ e] at hb
      exact .inl ⟨hb, fun y hy => hold _ (hlt b x y hb hy)⟩
  · intro b b' x x' y y' hb hb' hl hl' hy hy' heq
    by_cases e : b = nxt
    · by_cases e' : b' = nxt
      · rw [e, e']
      · subst e
        rw [fset_same] at hy
        rw [fset_ne _ _ _ _ e'] at hb' hy'
        cases hy
        have := hlt b' x' y' hb' hy'
        simp only at heq
        omega
    · by_cases e' : b' = nxt
      · subst e'
        rw [fset_same] at hy'
        rw [fset_ne _ _ _ _ e] at hb hy
        cases hy'
        have := hlt b x y hb hy
        simp only at heq
        omega
      · rw [fset_ne _ _ _ _ e] at hb hy
        rw [fset_ne _ _ _ _ e'] at hb' hy'
        exact R.inj b b' x x' y y' hb hb' hl hl' hy hy' heq
  · intro b y hb
    by_cases e : b = nxt
    · exact .inr ⟨by omega, by omega⟩
    · rw [fset_ne _ _ _ _ e] at hb
      exact .inl (R.dom b y hb)

theorem OpGoal.new (R : Rel C m S D w st.heap) (hn : ¬ D st.nxt) (w' : World) (arr : Array Value) (ty : TypeId) (sz ct : Nat) (es : List (List AV)) (x : AV) (v : Value)
    (hy : Yields P o a w v w') (hos : w'.os = w.os) (htape : w'.tape = w.tape) (hout : w'.output = w.output) (hdrawn : w.drawn ≤ w'.drawn) (hheap : w'.heap = w.heap.push (.cells arr ty))
    (hsz : arr.size = ct * sz) (hct : es.length ≤ ct) (hes : ∀ e ∈ es, e.length = sz) (hc : ∀ i j, i < es.length → j < sz → ARep m S w ((es.getD i []).getD j undefA) (arr.getD (i * sz + j) undef))
    (hx : ∀ m', m' st.nxt = some (w.heap.size, sz, ct) → ARep m' S w' x v) : OpGoal P C m S D w st a o ⟨x, newBlk st.nxt sz es, 1⟩ := by
  obtain ⟨R', L'⟩ := R.new st.nxt hn w' arr ty sz ct es hos htape hout hdrawn hheap hsz hct hes hc
  exact ⟨v, w', _, hy, R', L', hx _ (fset_same _ _ _)⟩

/-- The cells of a value. -/
theorem ARep.cells {x : AV} {v : Value} (h : ARep m S w x v) (hf : x.flat = true) : v.cells.size = x.cells.length ∧ ∀ j, j < x.cells.length → ARep m S w (x.cells.getD j undefA) (v.cells.getD j undef) := by
  have one : ∀ {x : AV} {v : Value}, ARep m S w x v → x.cells = [x] → v.cells = #[v] → v.cells.size = x.cells.length ∧ ∀ j, j < x.cells.length → ARep m S w (x.cells.getD j undefA) (v.cells.getD j undef) := by
    intro x v h h1 h2
    rw [h1, h2]
    refine ⟨rfl, fun j hj => ?_⟩
    obtain rfl : j = 0 := by simp at hj; omega
    exact h
  cases x with
  | agg cs => obtain ⟨vs, rfl, h1, h2⟩ := h.agg_inv; exact ⟨h1, h2⟩
  | tup vs => simp [AV.flat, AV.cells, AV.isCell] at hf
  | top => simp [AV.flat, AV.cells, AV.isCell] at hf
  | v y =>
    have e := h.v_inv
    subst e
    refine one h rfl ?_
    have : v.oneCell' = true := by simpa [AV.flat, AV.cells, AV.isCell] using hf
    cases v <;> first | rfl | simp [Value.oneCell'] at this
  | e0 => obtain ⟨A, rfl⟩ := h.e0_inv; exact one h rfl rfl
  | psl sz es => obtain ⟨A, cap, rfl, _⟩ := h.psl_inv.psl_inv; exact one h rfl rfl
  | pptr cs => obtain ⟨a, us, rfl, _⟩ := h.pptr_inv; exact one h rfl rfl
  | fn f cs => obtain ⟨vs, rfl, _⟩ := h.fn_inv; exact one h rfl rfl
  | ptr b i off => obtain ⟨B, sz, ct, _, rfl⟩ := h.ptr_inv; exact one h rfl rfl
  | sl b off len => obtain ⟨B, sz, ct, cap, _, _, _, rfl⟩ := h.sl_inv; exact one h rfl rfl

theorem ARep.oneCell {x : AV} {v : Value} (h : ARep m S w x v) (hx : x.isCell = true) : v.oneCell' = true := by
  cases x with
  | agg cs => simp [AV.isCell] at hx
  | tup vs => simp [AV.isCell] at hx
  | top => simp [AV.isCell] at hx
  | v y => rw [h.v_inv]; exact hx
  | e0 => obtain ⟨A, rfl⟩ := h.e0_inv; rfl
  | psl sz es => obtain ⟨A, cap, rfl, _⟩ := h.psl_inv.psl_inv; rfl
  | pptr cs => obtain ⟨a, us, rfl, _⟩ := h.pptr_inv; rfl
  | fn f cs => obtain ⟨vs, rfl, _⟩ := h.fn_inv; rfl
  | ptr b i off => obtain ⟨B, sz, ct, _, rfl⟩ := h.ptr_inv; rfl
  | sl b off len => obtain ⟨B, sz, ct, cap, _, _, _, rfl⟩ := h.sl_inv; rfl
end
end Go.Abs
