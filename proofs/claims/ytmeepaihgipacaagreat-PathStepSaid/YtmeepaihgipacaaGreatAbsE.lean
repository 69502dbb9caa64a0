/-
An abstract interpreter, part E: one law for each kind of operation.
-/
import Derived.Test.YtmeepaihgipacaaGreatAbsD
set_option linter.unusedVariables false
set_option linter.unusedSimpArgs false
namespace Go.Abs

section
variable {P : Program} {C : Ctx} {m : Map} {S D : Nat → Prop} {w : World} {st : St} {a : Act} {o : Oper} {n : Nat} {out : Out}

theorem op_move {x : Operand} (R : Rel C m S D w st.heap) (he : EnvRel n m S w a st.env) (hop : o.op = .move x ∨ o.op = .assign x) (h : aop P o st = some out) : OpGoal P C m S D w st a o out := by
  rcases hop with hop | hop
  · simp only [aop, hop, Option.some.injEq] at h
    subst h
    exact .same R ⟨_, by simp only [execOp, hop]; rfl, .inl rfl⟩ (he.eval x)
  · simp only [aop, hop, Option.some.injEq] at h
    subst h
    exact .same R ⟨_, by simp only [execOp, hop]; rfl, .inl rfl⟩ (he.eval x)

theorem op_pick {c x y : Operand} (R : Rel C m S D w st.heap) (he : EnvRel n m S w a st.env) (hop : o.op = .pick c x y) (h : aop P o st = some out) : OpGoal P C m S D w st a o out := by
  simp only [aop, hop] at h
  split at h
  · rename_i t ht
    simp only [Option.some.injEq] at h
    subst h
    have hc := he.eval c
    rw [ht] at hc
    have hcv := hc.v_inv
    refine .same R ⟨_, by simp only [execOp, hop, hcv]; rfl, .inl rfl⟩ ?_
    cases t
    · exact he.eval y
    · exact he.eval x
  · cases h

theorem op_apure {r : AV} (R : Rel C m S D w st.heap) (he : EnvRel n m S w a st.env) (hsel : ∀ cs b, o.op ≠ .select cs b) (h : apure P o st.env = some r) : OpGoal P C m S D w st a o ⟨r, [], 0⟩ := by
  unfold apure at h
  split at h
  · rename_i hall
    split at h
    · rename_i x hx
      simp only [Option.some.injEq] at h
      subst h
      have e : execOp a.eval o = execOp (fun x => (scal (aevalO st.env x)).getD undef) o := by
        refine execOp_congr o hsel (fun y hy => ?_)
        have hs := (Array.all_eq_true'.1 hall) y hy
        have hr := he.eval y
        cases hv : aevalO st.env y with
        | v z => rw [hv] at hr; rw [hr.v_inv]; rfl
        | _ => rw [hv] at hs; simp [scal] at hs
      refine .same R ⟨_, ?_, .inl rfl⟩ (.pure (.v x))
      rw [e]
      exact prun_run hx w
    · cases h
  · cases h

theorem op_alloc {t : TypeId} (R : Rel C m S D w st.heap) (hn : ∀ b, st.nxt ≤ b → b < st.nxt + out.cnt → ¬ D b) (hop : o.op = .alloc t) (h : aop P o st = some out) : OpGoal P C m S D w st a o out := by
  simp only [aop, hop, Option.map_eq_some_iff] at h
  obtain ⟨cs, hcs, rfl⟩ := h
  obtain ⟨z, rfl, hz⟩ := azero_run hcs
  refine .new R (hn st.nxt (Nat.le_refl _) (by simp)) (w.alloc (.cells z.cells t)) z.cells t (z.cells.toList.map AV.v).length 1 [z.cells.toList.map AV.v] _ (.pointer (some ⟨w.heap.size, 0, none⟩)) ⟨_, ?_, .inl rfl⟩ rfl rfl rfl (Nat.le_refl _) rfl (by simp) (by simp) (by simp) ?_ ?_
  · simp only [execOp, hop, Instr.alloc, Sem.run_bind, hz]
    simp [newVar, newRow, hz]
  · intro i j hi hj
    obtain rfl : i = 0 := by simp at hi; omega
    have hj' : j < z.cells.size := by simpa using hj
    simp only [List.getD_eq_getElem?_getD, List.getElem?_cons_zero, Option.getD_some, List.getElem?_map, Nat.zero_mul, Nat.zero_add, Array.getD_eq_getD_getElem?]
    simp [hj']
    exact .pure (.v _)
  · intro m' hm
    have := ARep.ptr (m := m') (S := S) (w := w.alloc (.cells z.cells t)) st.nxt 0 0 _ _ _ hm
    simpa using this

theorem op_box {t : TypeId} {x : Operand} (R : Rel C m S D w st.heap) (he : EnvRel n m S w a st.env) (hn : ∀ b, st.nxt ≤ b → b < st.nxt + out.cnt → ¬ D b) (hop : o.op = .box t x) (h : aop P o st = some out) : OpGoal P C m S D w st a o out := by
  simp only [aop, hop] at h
  split at h
  · rename_i hf
    simp only [Option.some.injEq] at h
    subst h
    obtain ⟨h1, h2⟩ := (he.eval x).cells hf
    refine .new R (hn st.nxt (Nat.le_refl _) (by simp)) (w.alloc (.cells (a.eval x).cells t)) (a.eval x).cells t _ 1 _ _ (.pointer (some ⟨w.heap.size, 0, none⟩)) ⟨_, ?_, .inl rfl⟩ rfl rfl rfl (Nat.le_refl _) rfl (by simpa using h1) (by simp) (by simp) ?_ ?_
    · simp only [execOp, hop, Instr.box]
      simp [newVar, newRow]
    · intro i j hi hj
      obtain rfl : i = 0 := by simp at hi; omega
      simpa using h2 j hj
    · intro m' hm
      have := ARep.ptr (m := m') (S := S) (w := w.alloc (.cells (a.eval x).cells t)) st.nxt 0 0 _ _ _ hm
      simpa using this
  · cases h

theorem op_nilCheck {x : Operand} (R : Rel C m S D w st.heap) (he : EnvRel n m S w a st.env) (hop : o.op = .nilCheck x) (h : aop P o st = some out) : OpGoal P C m S D w st a o out := by
  have hx := he.eval x
  simp only [aop, hop] at h
  split at h
  · rename_i b i off hb
    simp only [Option.some.injEq] at h
    subst h
    rw [hb] at hx
    have hx' := hx
    obtain ⟨B, sz, ct, hm, hv⟩ := hx.ptr_inv
    rw [hv] at hx'
    exact .same R ⟨_, by simp only [execOp, hop, hv]; rfl, .inl rfl⟩ hx'
  · rename_i cs hb
    simp only [Option.some.injEq] at h
    subst h
    rw [hb] at hx
    have hx' := hx
    obtain ⟨ad, us, hv, _⟩ := hx.pptr_inv
    rw [hv] at hx'
    exact .same R ⟨_, by simp only [execOp, hop, hv]; rfl, .inl rfl⟩ hx'
  · cases h

theorem op_makeFunc {f : FuncId} {first caps : Array Operand} (R : Rel C m S D w st.heap) (he : EnvRel n m S w a st.env) (hop : o.op = .makeFunc (.func f) first caps) (h : aop P o st = some out) : OpGoal P C m S D w st a o out := by
  simp only [aop, hop] at h
  split at h
  · rename_i hf
    simp only [Option.some.injEq] at h
    subst h
    have e0 : first = #[] := Array.eq_empty_of_size_eq_zero hf
    subst e0
    refine .same R (v := .func (.func f) #[] (caps.map a.eval)) ⟨_, by simp only [execOp, hop, Instr.makeFunc]; simp, .inl rfl⟩ ?_
    refine .fn f _ _ (by simp) (fun i hi => ?_)
    have hi' : i < caps.size := by simpa using hi
    have := he.eval caps[i]
    simpa [List.getD_eq_getElem?_getD, Array.getD_eq_getD_getElem?, hi'] using this
  · cases h

theorem op_extract {x : Operand} {i : Nat} (R : Rel C m S D w st.heap) (he : EnvRel n m S w a st.env) (hop : o.op = .extract x i) (h : aop P o st = some out) : OpGoal P C m S D w st a o out := by
  have hx := he.eval x
  simp only [aop, hop] at h
  split at h
  · rename_i vs hb
    split at h
    · rename_i hi
      simp only [Option.some.injEq] at h
      subst h
      rw [hb] at hx
      obtain ⟨us, hv, hl, hr⟩ := hx.tup_inv
      have hi' : i < us.size := by omega
      refine .same R (v := us.getD i undef) ⟨_, ?_, .inl rfl⟩ (hr i hi)
      simp only [execOp, hop, hv, Instr.extract]
      simp [Array.getElem?_eq_getElem hi', Array.getD_eq_getD_getElem?]
    · cases h
  · cases h

theorem op_fieldAddr {s : TypeId} {x : Operand} {f : Nat} (R : Rel C m S D w st.heap) (he : EnvRel n m S w a st.env) (hop : o.op = .fieldAddr s x f) (h : aop P o st = some out) : OpGoal P C m S D w st a o out := by
  have hx := he.eval x
  simp only [aop, hop] at h
  split at h
  · rename_i off ft hf
    obtain ⟨fs, fl, h1, h2, h3, h4⟩ := afield_und hf
    subst h3 h4
    split at h
    · rename_i k hk
      split at h
      · cases h
      · rename_i hk0
        have run : ∀ ad : Addr, (fieldPlace ad fl).run P w = .ok (ad.add fl.offset) w := fun ad => by
          simp [fieldPlace, asize_run hk, hk0]
        split at h
        · rename_i b i off hb
          simp only [Option.some.injEq] at h
          subst h
          rw [hb] at hx
          obtain ⟨B, sz, ct, hm, hv⟩ := hx.ptr_inv
          refine .same R (v := .pointer (some ⟨B, i * sz + (off + fl.offset), none⟩)) ⟨_, ?_, .inl rfl⟩ (.ptr b i _ B sz ct hm)
          simp only [execOp, hop, hv, Instr.fieldAt, Sem.run_bind, und_run h1]
          simp only [Result.andThen_ok, h2]
          simp [Instr.sureAddr, run, Addr.add]
          split
          · rename_i e; simp [e]
          · simp [Nat.add_assoc]
        · rename_i cs hb
          split at h
          · rename_i hlt
            simp only [Option.some.injEq] at h
            subst h
            rw [hb] at hx
            obtain ⟨ad, us, hv, hS, hsp, hc, hr⟩ := hx.pptr_inv
            have hadd : ad.add fl.offset = ⟨ad.block, ad.off + fl.offset, none⟩ := by
              unfold Addr.add
              split
              · rename_i e; cases ad; simp_all
              · rfl
            refine .same R (v := .pointer (some ⟨ad.block, ad.off + fl.offset, none⟩)) ⟨_, ?_, .inl rfl⟩ (.pure (.pptr _ _ (fun j => us (fl.offset + j)) hS rfl (fun j hj => ?_) (fun j hj => ?_)))
            · simp only [execOp, hop, hv, Instr.fieldAt, Sem.run_bind, und_run h1]
              simp only [Result.andThen_ok, h2]
              simp [Instr.sureAddr, run, hadd]
            · have := hc (fl.offset + j) (by simp at hj; omega)
              rw [← Nat.add_assoc] at this
              exact this
            · have := hr (fl.offset + j) (by simp at hj; omega)
              simpa [List.getD_eq_getElem?_getD, List.getElem?_drop] using this
          · cases h
        · cases h
    · cases h
  · cases h
end
end Go.Abs
