/-
An abstract interpreter, part G: the operations on memory.
-/
import Derived.Test.YtmeepaihgipacaaGreatAbsF
set_option linter.unusedVariables false
set_option linter.unusedSimpArgs false
namespace Go.Abs

theorem getD_drop {α : Type} (l : List α) (k j : Nat) (d : α) : (l.drop k).getD j d = l.getD (k + j) d := by simp only [List.getD_eq_getElem?_getD, List.getElem?_drop]
theorem getD_take {α : Type} (l : List α) (k j : Nat) (d : α) (h : j < k) : (l.take k).getD j d = l.getD j d := by simp only [List.getD_eq_getElem?_getD, List.getElem?_take_of_lt h]
theorem getD_mem {α : Type} (l : List α) (j : Nat) (d : α) (h : j < l.length) : l.getD j d ∈ l := by
  rw [List.getD_eq_getElem?_getD, List.getElem?_eq_getElem h]
  exact List.getElem_mem h
theorem getD_set {α : Type} (l : List α) (k j : Nat) (x d : α) (hk : k < l.length) : (l.set k x).getD j d = if j = k then x else l.getD j d := by
  simp only [List.getD_eq_getElem?_getD, List.getElem?_set]
  by_cases h : k = j
  · subst h; simp [hk]
  · rw [if_neg h, if_neg (fun e => h e.symm)]
theorem getD_splice' {α : Type} (l xs : List α) (p q : Nat) (d : α) (hp : p + xs.length ≤ l.length) : (l.take p ++ xs ++ l.drop (p + xs.length)).getD q d = if p ≤ q ∧ q < p + xs.length then xs.getD (q - p) d else l.getD q d := by
  have hl : (l.take p).length = p := by simp; omega
  simp only [List.getD_eq_getElem?_getD, List.append_assoc]
  by_cases h1 : q < p
  · rw [if_neg (by omega), List.getElem?_append_left (by omega), List.getElem?_take_of_lt h1]
  · rw [List.getElem?_append_right (by omega), hl]
    by_cases h2 : q < p + xs.length
    · rw [if_pos ⟨by omega, h2⟩, List.getElem?_append_left (by omega)]
    · rw [if_neg (by omega), List.getElem?_append_right (by omega), List.getElem?_drop]
      have : p + xs.length + (q - p - xs.length) = q := by omega
      rw [this]

section
variable {P : Program} {C : Ctx} {m : Map} {S D : Nat → Prop} {w : World} {st : St} {a : Act} {o : Oper} {n : Nat} {out : Out}

/-- Cells that can be loaded at an address. -/
def At (m : Map) (S : Nat → Prop) (w : World) (ad : Addr) (cs : List AV) : Prop := ∀ j, j < cs.length → ∃ u, w.cell? (ad.add j) = some u ∧ ARep m S w (cs.getD j undefA) u

theorem at_load {t : TypeId} {ad : Addr} {cs : List AV} {g : Bool} {k : Nat} (hat : At m S w ad cs) (hg : aisAgg P t = some g) (hk : asize P t = some k) {x : AV}
    (hx : (g = true ∧ k ≤ cs.length ∧ x = .agg (cs.take k)) ∨ (g = false ∧ ∃ c r, cs = c :: r ∧ x = c)) : ∃ v, (loadVar t ad).run P w = .ok v w ∧ ARep m S w x v := by
  rcases hx with ⟨rfl, hkl, rfl⟩ | ⟨rfl, c, r, rfl, rfl⟩
  · refine ⟨.agg ((List.range k).map fun j => (w.cell? (ad.add j)).getD undef).toArray, ?_, ?_⟩
    · simp only [loadVar, Sem.run_bind, aisAgg_run hg, Result.andThen_ok, if_true]
      simp only [Sem.run_bind, asize_run hk, Result.andThen_ok]
      rw [run_loadCells w ad k (fun j => (w.cell? (ad.add j)).getD undef) (fun j hj => by
        obtain ⟨u, hu, _⟩ := hat j (by omega)
        rw [hu]; rfl)]
      rfl
    · refine .agg _ _ (by simp [Nat.min_eq_left hkl]) (fun i hi => ?_)
      have hi' : i < k := by simp at hi; omega
      obtain ⟨u, hu, hr⟩ := hat i (by omega)
      rw [getD_take _ _ _ _ hi']
      simpa [Array.getD_eq_getD_getElem?, hi', hu] using hr
  · obtain ⟨u, hu, hr⟩ := hat 0 (by simp)
    refine ⟨u, ?_, by simpa using hr⟩
    simp only [loadVar, Sem.run_bind, aisAgg_run hg, Result.andThen_ok]
    rw [show ad.add 0 = ad from by simp [Addr.add]] at hu
    simp [hu]

theorem at_ptr (R : Rel C m S D w st.heap) {b i off : Nat} {blk : Blk} (hb : st.heap b = some blk) (hi : i < blk.es.length) {B sz ct : Nat} (hm : m b = some (B, sz, ct)) : At m S w ⟨B, i * sz + off, none⟩ ((blk.es.getD i []).drop off) := by
  obtain ⟨rfl, hh, _⟩ := R.get hb hm
  intro j hj
  have hlen : (blk.es.getD i []).length = blk.sz := by
    obtain ⟨_, _, _, _, _, h4, _⟩ := hh
    exact h4 _ (getD_mem _ _ _ hi)
  have hj' : off + j < blk.sz := by simp only [List.length_drop] at hj; omega
  obtain ⟨u, hu, hr⟩ := hh.cell i (off + j) hi hj'
  refine ⟨u, ?_, by rw [getD_drop]; exact hr⟩
  rw [Addr.add_lit, Nat.add_assoc]
  exact hu

theorem at_pptr {ad : Addr} {us : Nat → Value} {cs : List AV} (hsp : ad.spot = none) (hc : ∀ j, j < cs.length → w.cell? ⟨ad.block, ad.off + j, none⟩ = some (us j)) (hr : ∀ j, j < cs.length → PRep S w (cs.getD j undefA) (us j)) : At m S w ad cs := by
  intro j hj
  refine ⟨us j, ?_, .pure (hr j hj)⟩
  have : ad.add j = ⟨ad.block, ad.off + j, none⟩ := by
    cases ad
    simp only at hsp
    subst hsp
    exact Addr.add_lit _ _ _
  rw [this]
  exact hc j hj

theorem op_load {t : TypeId} {x : Operand} (R : Rel C m S D w st.heap) (he : EnvRel n m S w a st.env) (hop : o.op = .load t x) (h : aop P o st = some out) : OpGoal P C m S D w st a o out := by
  have hx := he.eval x
  simp only [aop, hop] at h
  split at h
  · rename_i g k hg hk
    have key : ∀ (ad : Addr) (cs : List AV), a.eval x = .pointer (some ad) → At m S w ad cs → (if g then (if k ≤ cs.length then some (⟨.agg (cs.take k), [], 0⟩ : Out) else none) else match cs with | c :: _ => some ⟨c, [], 0⟩ | [] => none) = some out → OpGoal P C m S D w st a o out := by
      intro ad cs hv hat hout
      have fin : ∀ y, out = ⟨y, [], 0⟩ → ((g = true ∧ k ≤ cs.length ∧ y = .agg (cs.take k)) ∨ (g = false ∧ ∃ c r, cs = c :: r ∧ y = c)) → OpGoal P C m S D w st a o out := by
        rintro y rfl hy
        obtain ⟨v, h1, h2⟩ := at_load hat hg hk hy
        refine .same R ⟨_, ?_, .inl rfl⟩ h2
        simp only [execOp, hop, hv, Instr.loadAt]
        simp [Instr.sureAddr, h1]
      cases g with
      | true =>
        simp only [if_true] at hout
        split at hout
        · rename_i hle
          simp only [Option.some.injEq] at hout
          exact fin _ hout.symm (.inl ⟨rfl, hle, rfl⟩)
        · cases hout
      | false =>
        simp only [Bool.false_eq_true, if_false] at hout
        cases cs with
        | nil => cases hout
        | cons c r =>
          simp only [Option.some.injEq] at hout
          exact fin _ hout.symm (.inr ⟨rfl, c, r, rfl, rfl⟩)
    split at h
    · rename_i cs hcs
      split at hcs
      · rename_i cs' hb
        simp only [Option.some.injEq] at hcs
        subst hcs
        rw [hb] at hx
        obtain ⟨ad, us, hv, hS, hsp, hc, hr⟩ := hx.pptr_inv
        exact key ad _ hv (at_pptr hsp hc hr) h
      · rename_i b i off hb
        split at hcs
        · rename_i blk hblk
          split at hcs
          · rename_i hi
            simp only [Option.some.injEq] at hcs
            subst hcs
            rw [hb] at hx
            obtain ⟨B, sz, ct, hm, hv⟩ := hx.ptr_inv
            exact key _ _ hv (at_ptr R hblk hi hm) h
          · cases hcs
        · cases hcs
      · cases hcs
    · cases h
  · cases h

theorem op_indexAddr {t : TypeId} {x y : Operand} (R : Rel C m S D w st.heap) (he : EnvRel n m S w a st.env) (hop : o.op = .indexAddr t x y) (h : aop P o st = some out) : OpGoal P C m S D w st a o out := by
  have hx := he.eval x
  have hy := he.eval y
  simp only [aop, hop] at h
  split at h
  · rename_i e k hel hin
    split at h
    · rename_i sz hsz
      have hyv : ∃ kd, a.eval y = .int kd k := by
        unfold aint at hin
        split at hin
        · rename_i kd q hq
          simp only [Option.some.injEq] at hin
          subst hin
          rw [hq] at hy
          exact ⟨kd, hy.v_inv⟩
        · cases hin
      obtain ⟨kd, hyv⟩ := hyv
      have run : ∀ (ad : Addr) (len cap : Nat), a.eval x = .slice (some ad) len cap → 0 ≤ k → k < len → (execOp a.eval o).run P w = .ok (.value (.pointer (some (ad.add (k.toNat * sz))))) w := by
        intro ad len cap hv h0 h1
        simp only [execOp, hop, hv, hyv, Instr.indexAt]
        simp [asIntOf, und_run (aelem_und hel), h0, h1, asize_run hsz]
      split at h
      · rename_i sz' es hb
        split at h
        · rename_i hc
          obtain ⟨rfl, hpos, h0, h1⟩ := hc
          simp only [Option.some.injEq] at h
          subst h
          rw [hb] at hx
          have hp := hx.psl_inv
          generalize hv : a.eval x = v at hp
          have hkl : k.toNat < es.length := by omega
          cases hp with
          | psl0 => simp at hkl
          | psl _ _ ad cap us hp' hcap hS hsp hsz' hcell hr =>
            have hadd : ad.add (k.toNat * sz') = ⟨ad.block, ad.off + k.toNat * sz', none⟩ := by
              cases ad
              simp only at hsp
              subst hsp
              exact Addr.add_lit _ _ _
            have hlen : (es.getD k.toNat []).length = sz' := hsz' _ (getD_mem _ _ _ hkl)
            refine .same R ⟨_, run ad _ cap hv h0 h1, .inl rfl⟩ ?_
            rw [hadd]
            exact .pure (.pptr _ _ (fun j => us k.toNat j) hS rfl (fun j hj => hcell _ j hkl (by omega)) (fun j hj => hr _ j hkl (by omega)))
        · cases h
      · rename_i b off len hb
        split at h
        · rename_i blk hblk
          split at h
          · rename_i hc
            obtain ⟨hs2, h0, h1⟩ := hc
            simp only [Option.some.injEq] at h
            subst h
            rw [hb] at hx
            obtain ⟨B, sz2, ct, cap, hm, hl, hcc, hv⟩ := hx.sl_inv
            obtain ⟨e2, _⟩ := R.get hblk hm
            have e3 : sz2 = sz := e2.trans hs2
            subst e3
            refine .same R ⟨_, run _ _ cap hv h0 h1, .inl rfl⟩ ?_
            rw [Addr.add_lit, ← Nat.add_mul]
            exact .ptr b (off + k.toNat) 0 B sz2 ct hm
          · cases h
        · cases h
      · cases h
    · cases h
  · cases h

theorem op_field {s : TypeId} {x : Operand} {f : Nat} (R : Rel C m S D w st.heap) (he : EnvRel n m S w a st.env) (hop : o.op = .field s x f) (h : aop P o st = some out) : OpGoal P C m S D w st a o out := by
  have hx := he.eval x
  simp only [aop, hop] at h
  split at h
  · rename_i off ft hf
    obtain ⟨fs, fl, h1, h2, h3, h4⟩ := afield_und hf
    subst h3 h4
    split at h
    · rename_i g k cs hg hk hb
      split at h
      · rename_i hle
        rw [hb] at hx
        obtain ⟨vs, hv, hl, hr⟩ := hx.agg_inv
        have head : (execOp a.eval o).run P w = ((part fl.type vs fl.offset).run P w).andThen fun v w => .ok (.value v) w := by
          simp only [execOp, hop, hv, Instr.field, Sem.run_bind, und_run h1]
          simp only [Result.andThen_ok, h2]
          simp [asAgg]
        split at h
        · rename_i hgt
          subst hgt
          simp only [Option.some.injEq] at h
          subst h
          refine .same R (v := .agg (vs.extract fl.offset (fl.offset + k))) ⟨_, ?_, .inl rfl⟩ ?_
          · rw [head]
            simp [part, aisAgg_run hg, asize_run hk]
          · refine .agg _ _ (by simp; omega) (fun i hi => ?_)
            have hi' : i < k := by simp at hi; omega
            have := hr (fl.offset + i) (by omega)
            rw [getD_take _ _ _ _ hi', getD_drop]
            have hlt : fl.offset + i < vs.size := by omega
            have : (vs.extract fl.offset (fl.offset + k)).getD i undef = vs.getD (fl.offset + i) undef := by
              simp [Array.getD_eq_getD_getElem?, Array.getElem?_extract, hlt]
              split
              · rfl
              · omega
            rw [this]
            assumption
        · rename_i hgf
          split at h
          · rename_i hk1
            subst hk1
            simp only [Option.some.injEq] at h
            subst h
            have hlt : fl.offset < vs.size := by omega
            refine .same R (v := vs.getD fl.offset undef) ⟨_, ?_, .inl rfl⟩ (hr _ (by omega))
            rw [head]
            have hgf' : g = false := by simpa using hgf
            subst hgf'
            simp [part, aisAgg_run hg, Array.getElem?_eq_getElem hlt, Array.getD_eq_getD_getElem?]
          · cases h
      · cases h
    · cases h
  · cases h

theorem op_store {t : TypeId} {x y : Operand} (R : Rel C m S D w st.heap) (he : EnvRel n m S w a st.env) (hop : o.op = .store t x y) (h : aop P o st = some out) : OpGoal P C m S D w st a o out := by
  have hx := he.eval x
  have hy := he.eval y
  simp only [aop, hop] at h
  split at h
  · rename_i k b i off hk hb
    split at h
    · rename_i blk hblk
      split at h
      · rename_i hc
        obtain ⟨hl, hi, hlen, hoff, hflat⟩ := hc
        simp only [Option.some.injEq] at h
        subst h
        rw [hb] at hx
        obtain ⟨B, sz, ct, hm, hv⟩ := hx.ptr_inv
        obtain ⟨e2, hh, _⟩ := R.get hblk hm
        subst e2
        obtain ⟨hc1, hc2⟩ := hy.cells hflat
        obtain ⟨arr, ty, ha, hasz, hct, hes, hrep⟩ := hh
        have hone : ∀ u ∈ (a.eval y).cells.toList, u.oneCell' = true := by
          intro u hu
          obtain ⟨q, hq, rfl⟩ := List.mem_iff_getElem.1 hu
          have hq' : q < (a.eval y).cells.size := by simpa using hq
          have h3 := hc2 q (by omega)
          have h4 : ((aevalO st.env y).cells.getD q undefA).isCell = true := List.all_eq_true.1 hflat _ (getD_mem _ _ _ (by omega))
          have := h3.oneCell h4
          simpa [Array.getD_eq_getD_getElem?, hq'] using this
        have hp : i * blk.sz + off + (a.eval y).cells.toList.length ≤ arr.size := by
          have h1 : i * blk.sz + blk.sz ≤ ct * blk.sz := by
            have := Nat.mul_le_mul_right blk.sz (show i + 1 ≤ ct by omega)
            rwa [Nat.add_mul, Nat.one_mul] at this
          simp only [Array.length_toList]
          omega
        have hst := run_storeCells_at P B (i * blk.sz + off) ty (a.eval y).cells.toList 0 arr w ha (by simpa using hp) hone
        simp only [Nat.add_zero] at hst
        have hvl : (a.eval y).cells.toList.length = k := by simp only [Array.length_toList]; omega
        have hsp := fun q => getD_splice arr (i * blk.sz + off) q (a.eval y).cells.toList hp
        obtain ⟨R', L'⟩ := R.set hblk hl hm ha ((arr.toList.take (i * blk.sz + off) ++ (a.eval y).cells.toList ++ arr.toList.drop (i * blk.sz + off + (a.eval y).cells.toList.length)).toArray)
          (blk.es.set i (splice (blk.es.getD i []) off (aevalO st.env y).cells)) (by simp; simp at hp; omega) hasz (by simpa using hct)
          (by
            intro e he'
            obtain ⟨q, hq, rfl⟩ := List.mem_iff_getElem.1 he'
            have hq' : q < blk.es.length := by simpa using hq
            rw [List.getElem_set]
            split
            · have := hes _ (getD_mem blk.es i [] hi)
              simp only [splice, List.length_append, List.length_take, List.length_drop]
              omega
            · exact hes _ (List.getElem_mem _))
          (by
            intro i' j hi' hj
            have hi2 : i' < blk.es.length := by simpa using hi'
            rw [hsp, getD_set _ _ _ _ _ hi, hvl]
            have hel : (blk.es.getD i []).length = blk.sz := hes _ (getD_mem _ _ _ hi)
            by_cases e : i' = i
            · subst e
              rw [if_pos rfl]
              unfold splice
              rw [getD_splice' _ _ _ _ _ (by omega)]
              by_cases h1 : off ≤ j ∧ j < off + (aevalO st.env y).cells.length
              · rw [if_pos h1, if_pos (by omega)]
                have := hc2 (j - off) (by omega)
                have e3 : i' * blk.sz + j - (i' * blk.sz + off) = j - off := by omega
                rw [e3]
                simpa [Array.getD_eq_getD_getElem?, List.getD_eq_getElem?_getD] using this
              · rw [if_neg h1, if_neg (by omega)]
                exact hrep i' j hi2 hj
            · rw [if_neg e, if_neg]
              · exact hrep i' j hi2 hj
              · rcases Nat.lt_or_gt_of_ne e with h1 | h1
                · have := idx_lt h1 hj; omega
                · have : i * blk.sz + blk.sz ≤ i' * blk.sz := by
                    have := Nat.mul_le_mul_right blk.sz (show i + 1 ≤ i' from h1)
                    rwa [Nat.add_mul, Nat.one_mul] at this
                  omega)
        refine ⟨undef, _, m, ⟨.skip, ?_, .inr ⟨rfl, rfl⟩⟩, ?_, L', .pure (.v _)⟩
        · simp only [execOp, hop, hv, Instr.storeAt]
          have hsz : (a.eval y).cells.size = k := by omega
          simp [Instr.sureAddr, storeVar, asize_run hk, hsz, hst]
        · have : ({ blk with es := blk.es.set i (splice (blk.es.getD i []) off (aevalO st.env y).cells) } : Blk) = ⟨true, blk.sz, blk.es.set i (splice (blk.es.getD i []) off (aevalO st.env y).cells)⟩ := by rw [← hl]
          simp only [applyUpd, List.foldl_cons, List.foldl_nil, this]
          exact R'.weaken (fun _ h => .inl h)
      · cases h
    · cases h
  · cases h
end
end Go.Abs
