/-
An abstract interpreter, part I: copy, clear, make, literals, slice expressions; all operations.
-/
import Derived.Test.YtmeepaihgipacaaGreatAbsH
set_option linter.unusedVariables false
set_option linter.unusedSimpArgs false
namespace Go.Abs

section
variable {P : Program} {C : Ctx} {m : Map} {S D : Nat → Prop} {w : World} {st : St} {a : Act} {o : Oper} {n : Nat} {out : Out}

theorem op_copy {args : Array Operand} {ats : Array TypeId} (R : Rel C m S D w st.heap) (he : EnvRel n m S w a st.env)
    (hop : o.op = .call { callee := .builtin .copy, args := args, argTypes := ats }) (h : aop P o st = some out) : OpGoal P C m S D w st a o out := by
  simp only [aop, hop] at h
  split at h
  · rename_i b off len s t u hm1 hm2
    obtain ⟨p, q, rfl, hp, hq⟩ := two_args hm1
    obtain rfl := two_types hm2
    split at h
    · cases h
    · rename_i htu
      have htu' : t = u := Classical.byContradiction htu
      subst htu'
      split at h
      · rename_i e hel
        split at h
        · rename_i sz xs blk hsz hrd hblk
          split at h
          · rename_i hchk
            obtain ⟨hlv, hbsz, hpos, hle, hxs⟩ := hchk
            simp only [Option.some.injEq] at h
            subst h
            have hsv := he.eval q
            rw [hq] at hsv
            have hdv := he.eval p
            rw [hp] at hdv
            obtain ⟨B, sz2, ct, cap2, hm, hl, hcc, hv⟩ := hdv.sl_inv
            obtain ⟨e2, hh, hlive, _⟩ := R.get hblk hm
            subst e2
            subst hbsz
            have ht := aelem_und hel
            have hxl : ∀ e ∈ xs, e.length = blk.sz := fun e he => (hxs e he).1
            obtain ⟨arr, ty, ha, hasz, hct, hes, hrep⟩ := hh
            obtain ⟨A, cap, hsv1, hcap, hcells⟩ := aread_sound (P := P) R hsv hrd hxl hpos
            obtain ⟨vs, hv1, hv2⟩ := hcells (min xs.length len) (Nat.min_le_left _ _)
            have hone : ∀ v ∈ vs, v.oneCell' = true := hv2.mem (fun x hx => hxs x (List.mem_of_mem_take hx))
            have hlen : (xs.take (min xs.length len)).length = min xs.length len := by simp
            obtain ⟨o1, o2, o3, o4, o5⟩ := over (B := B) (ty := ty) (p := off) hasz hct hes hrep hv2 (fun e he => hxl e (List.mem_of_mem_take he)) (by omega) (by rw [hlen]; omega)
            rw [hlen] at o3 o4 o5
            have hst := run_storeCells_at P B (off * blk.sz) ty vs 0 arr w ha (by simpa using o1) hone
            simp only [Nat.add_zero] at hst
            obtain ⟨R', L'⟩ := R.set hblk hlv hm ha _ _ o2 hasz o3 o4 o5
            refine ⟨_, _, m, ⟨_, ?_, .inl rfl⟩, ?_, L', .pure (.v _)⟩
            · simp only [execOp, hop]
              rw [hsv1] at hv1
              have hcp : (Builtin.copy_ #[t, t] o.type #[.slice (some ⟨B, off * blk.sz, none⟩) len cap2, .slice A xs.length cap]).run P w = .ok (.int .i64 (min xs.length len : Nat)) (w.setRow B ((arr.toList.take (off * blk.sz) ++ vs ++ arr.toList.drop (off * blk.sz + vs.length)).toArray)) := by
                simp only [Builtin.copy_]
                simp [und_run ht, Builtin.lenOf, asize_run hsz, goInt, Nat.min_def] at hv1 ⊢
                simp [hv1, hst]
              simp [resolve, invoke, builtin, hv, hsv1, hcp]
            · have hbk : ({ blk with es := blk.es.take off ++ xs.take (min xs.length len) ++ blk.es.drop (off + min xs.length len) } : Blk) = ⟨true, blk.sz, blk.es.take off ++ xs.take (min xs.length len) ++ blk.es.drop (off + min xs.length len)⟩ := by rw [← hlv]
              simp only [applyUpd, List.foldl_cons, List.foldl_nil, hbk]
              exact R'.weaken (fun _ h => .inl h)
          · cases h
        · cases h
      · cases h
  · cases h

/-- A part laid into a row of cells. -/
theorem fold_set (off : Nat) : ∀ (l : List Value) (k : Nat) (cells : Array Value), off + k + l.length ≤ cells.size →
    ((l.zipIdx k).foldl (fun cs x => cs.setIfInBounds (off + x.2) x.1) cells).size = cells.size ∧
      ∀ q, ((l.zipIdx k).foldl (fun cs x => cs.setIfInBounds (off + x.2) x.1) cells).getD q undef = if off + k ≤ q ∧ q < off + k + l.length then l.getD (q - off - k) undef else cells.getD q undef
  | [], k, cells, _ => ⟨rfl, fun q => by rw [if_neg (by simp)]; rfl⟩
  | v :: r, k, cells, h => by
    simp only [List.length_cons] at h
    obtain ⟨h1, h2⟩ := fold_set off r (k + 1) (cells.setIfInBounds (off + k) v) (by simp; omega)
    simp only [List.zipIdx_cons, List.foldl_cons]
    refine ⟨by rw [h1]; simp, fun q => ?_⟩
    rw [h2]
    simp only [List.length_cons]
    by_cases e : q = off + k
    · subst e
      rw [if_neg (by omega), if_pos (by omega)]
      have h0 : off + k - off - k = 0 := by omega
      rw [h0]
      simp [Array.getD_eq_getD_getElem?, Array.getElem?_setIfInBounds, show off + k < cells.size by omega]
    · by_cases h3 : off + (k + 1) ≤ q ∧ q < off + (k + 1) + r.length
      · rw [if_pos h3, if_pos (by omega)]
        have : q - off - k = (q - off - (k + 1)) + 1 := by omega
        rw [this, List.getD_cons_succ]
      · rw [if_neg h3, if_neg (by omega)]
        have e' : ¬ off + k = q := fun h => e h.symm
        simp [Array.getD_eq_getD_getElem?, Array.getElem?_setIfInBounds, e']

theorem fill_one (place : Nat → Option (Nat × Nat)) (cells : Array Value) (i : Nat) (v : Value) (rest : List (Nat × Value)) {off size : Nat} (hp : place i = some (off, size)) (hs : v.cells.size = size) (hb : off + size ≤ cells.size) :
    ∃ cells' : Array Value, Instr.fill place cells ((i, v) :: rest) = Instr.fill place cells' rest ∧ cells'.size = cells.size ∧ ∀ q, cells'.getD q undef = if off ≤ q ∧ q < off + size then v.cells.getD (q - off) undef else cells.getD q undef := by
  obtain ⟨h1, h2⟩ := fold_set off v.cells.toList 0 cells (by simp; omega)
  refine ⟨_, ?_, h1, fun q => ?_⟩
  · rw [Instr.fill]
    simp only [hp]
    rw [if_neg (by simp; omega)]
    congr 1
    rw [← Array.foldl_toList, Array.toList_zipIdx]
  · rw [h2 q]
    simp only [Nat.add_zero, Array.length_toList, hs, Nat.sub_zero]
    split
    · simp [Array.getD_eq_getD_getElem?, List.getD_eq_getElem?_getD]
    · rfl

theorem fill_elems (sz : Nat) (hm : True) : ∀ (parts : List (Nat × Operand)) (es : List (List AV)) (cells : Array Value) (es' : List (List AV)) (env : Nat → AV) (a : Act), (∀ x, ARep m S w (aevalO env x) (a.eval x)) →
    Flat m S w sz es cells.toList → (∀ e ∈ es, e.length = sz) → afill sz es (parts.map fun p => (p.1, aevalO env p.2)) = some es' →
    ∃ cells' : Array Value, Instr.fill (fun i => some (i * sz, sz)) cells (parts.map fun p => (p.1, a.eval p.2)) = some cells' ∧ Flat m S w sz es' cells'.toList ∧ (∀ e ∈ es', e.length = sz) ∧ es'.length = es.length
  | [], es, cells, es', env, a, he, hf, hl, h => by
    simp only [List.map_nil, afill, Option.some.injEq] at h
    subst h
    exact ⟨cells, rfl, hf, hl, rfl⟩
  | (i, x) :: r, es, cells, es', env, a, he, hf, hl, h => by
    simp only [List.map_cons, afill] at h
    split at h
    · rename_i hc
      obtain ⟨h1, h2, h3⟩ := hc
      obtain ⟨c1, c2⟩ := (he x).cells h3
      have hcs : cells.size = es.length * sz := by simpa using hf.len
      have hb : i * sz + sz ≤ cells.size := by
        rw [hcs]
        have := Nat.mul_le_mul_right sz (show i + 1 ≤ es.length from h2)
        rwa [Nat.add_mul, Nat.one_mul] at this
      obtain ⟨cells1, f1, f2, f3⟩ := fill_one (fun i => some (i * sz, sz)) cells i (a.eval x) (r.map fun p => (p.1, a.eval p.2)) rfl (by omega) hb
      obtain ⟨cells', g1, g2, g3, g4⟩ := fill_elems sz hm r (es.set i (aevalO env x).cells) cells1 es' env a he (by
        refine ⟨by simp [f2, hcs], fun i' j hi' hj => ?_⟩
        have hi2 : i' < es.length := by simpa using hi'
        have e1 : cells1.toList.getD (i' * sz + j) undef = cells1.getD (i' * sz + j) undef := by simp [Array.getD_eq_getD_getElem?, List.getD_eq_getElem?_getD]
        rw [e1, f3, getD_set _ _ _ _ _ h2]
        by_cases e : i' = i
        · subst e
          rw [if_pos rfl, if_pos ⟨by omega, by omega⟩]
          have := c2 j (by omega)
          rwa [show i' * sz + j - i' * sz = j by omega]
        · rw [if_neg e, if_neg]
          · have := hf.rep i' j hi2 hj
            simpa [Array.getD_eq_getD_getElem?, List.getD_eq_getElem?_getD] using this
          · rcases Nat.lt_or_gt_of_ne e with h4 | h4
            · have := idx_lt h4 hj; omega
            · have : i * sz + sz ≤ i' * sz := by
                have := Nat.mul_le_mul_right sz (show i + 1 ≤ i' from h4)
                rwa [Nat.add_mul, Nat.one_mul] at this
              omega) (by
        intro e he'
        obtain ⟨q, hq, rfl⟩ := List.mem_iff_getElem.1 he'
        rw [List.getElem_set]
        split
        · exact h1
        · exact hl _ (List.getElem_mem _)) h
      refine ⟨cells', ?_, g2, g3, by simpa using g4⟩
      rw [← g1, ← f1]
      rfl
    · cases h

theorem fill_struct (places : List (Nat × Nat)) : ∀ (parts : List (Nat × Operand)) (cs : List AV) (cells : Array Value) (cs' : List AV) (env : Nat → AV) (a : Act), (∀ x, ARep m S w (aevalO env x) (a.eval x)) →
    cells.size = cs.length → (∀ j, j < cs.length → ARep m S w (cs.getD j undefA) (cells.getD j undef)) → abuild places cs (parts.map fun p => (p.1, aevalO env p.2)) = some cs' →
    ∃ cells' : Array Value, Instr.fill (fun i => places[i]?) cells (parts.map fun p => (p.1, a.eval p.2)) = some cells' ∧ cells'.size = cs'.length ∧ ∀ j, j < cs'.length → ARep m S w (cs'.getD j undefA) (cells'.getD j undef)
  | [], cs, cells, cs', env, a, he, hsz, hr, h => by
    simp only [List.map_nil, abuild, Option.some.injEq] at h
    subst h
    exact ⟨cells, rfl, hsz, hr⟩
  | (i, x) :: r, cs, cells, cs', env, a, he, hsz, hr, h => by
    simp only [List.map_cons, abuild] at h
    split at h
    · rename_i off sz hp
      split at h
      · rename_i hc
        obtain ⟨h1, h2, h3⟩ := hc
        obtain ⟨c1, c2⟩ := (he x).cells h3
        obtain ⟨cells1, f1, f2, f3⟩ := fill_one (fun i => places[i]?) cells i (a.eval x) (r.map fun p => (p.1, a.eval p.2)) hp (by omega) (by omega)
        obtain ⟨cells', g1, g2, g3⟩ := fill_struct places r (splice cs off (aevalO env x).cells) cells1 cs' env a he (by rw [f2, hsz]; simp [splice]; omega) (by
          intro j hj
          have hj2 : j < cs.length := by simp [splice] at hj; omega
          unfold splice
          rw [f3, getD_splice' _ _ _ _ _ (by omega), h1]
          split
          · exact c2 _ (by omega)
          · exact hr j hj2) h
        exact ⟨cells', by rw [← g1, ← f1]; rfl, g2, g3⟩
      · cases h
    · cases h

theorem zero_flat {e : TypeId} {zv : Value} {z : List AV} {sz : Nat} (hz : z = zv.cells.toList.map .v) (hl : z.length = sz) (hpos : 0 < sz) (k : Nat) (arr : Array Value) (harr : arr = (Array.range (k * sz)).map (zv.cells[· % zv.cells.size]!)) :
    Flat m S w sz (List.replicate k z) arr.toList := by
  have hs : zv.cells.size = sz := by rw [hz] at hl; simpa using hl
  subst harr
  refine ⟨by simp, fun i j hi hj => ?_⟩
  have hi' : i < k := by simpa using hi
  have h1 : (i * sz + j) % sz = j := by rw [Nat.mul_comm, Nat.mul_add_mod, Nat.mod_eq_of_lt hj]
  have hlt := idx_lt hi' hj
  have hjz : j < zv.cells.size := by omega
  have e1 : ((Array.range (k * sz)).map (zv.cells[· % zv.cells.size]!)).toList.getD (i * sz + j) undef = zv.cells[j] := by
    simp [List.getD_eq_getElem?_getD, hlt, hs, h1]
    exact getElem!_pos zv.cells j hjz
  have e2 : ((List.replicate k z).getD i []).getD j undefA = .v zv.cells[j] := by
    have e0 : (List.replicate k z).getD i [] = z := by simp [List.getD_eq_getElem?_getD, List.getElem?_replicate, hi']
    rw [e0, hz]
    simp [List.getD_eq_getElem?_getD, hjz]
  rw [e1, e2]
  exact .pure (.v _)

theorem op_clear {args : Array Operand} {ats : Array TypeId} (R : Rel C m S D w st.heap) (he : EnvRel n m S w a st.env)
    (hop : o.op = .call { callee := .builtin .clear, args := args, argTypes := ats }) (h : aop P o st = some out) : OpGoal P C m S D w st a o out := by
  simp only [aop, hop] at h
  split at h
  · rename_i b off len t hm1 hm2
    obtain ⟨p, rfl, hp⟩ := one_arg hm1
    obtain rfl := one_type hm2
    split at h
    · rename_i e hel
      split at h
      · rename_i z sz blk hz hsz hblk
        split at h
        · rename_i hchk
          obtain ⟨hlv, hbsz, hzl, hpos, hle, hzc⟩ := hchk
          simp only [Option.some.injEq] at h
          subst h
          have hdv := he.eval p
          rw [hp] at hdv
          obtain ⟨B, sz2, ct, cap2, hm, hl, hcc, hv⟩ := hdv.sl_inv
          obtain ⟨e2, hh, hlive, _⟩ := R.get hblk hm
          subst e2
          subst hbsz
          have ht := aelem_und hel
          obtain ⟨zv, hzv, hzrun⟩ := azero_run hz
          obtain ⟨arr, ty, ha, hasz, hct, hes, hrep⟩ := hh
          have hzs : zv.cells.size = blk.sz := by rw [hzv] at hzl; simpa using hzl
          have hfl : Flat m S w blk.sz (List.replicate len z) (Builtin.zeroCells zv.cells len).toList := zero_flat (e := e) hzv hzl hpos len _ (by simp [Builtin.zeroCells, hzs])
          have hone : ∀ v ∈ (Builtin.zeroCells zv.cells len).toList, v.oneCell' = true := hfl.mem (fun x hx => by
            obtain rfl := List.eq_of_mem_replicate hx
            exact ⟨hzl, hzc⟩)
          obtain ⟨o1, o2, o3, o4, o5⟩ := over (B := B) (ty := ty) (p := off) hasz hct hes hrep hfl (fun e he => by obtain rfl := List.eq_of_mem_replicate he; exact hzl) (by omega) (by simp; omega)
          rw [List.length_replicate] at o3 o4 o5
          have hst := run_storeCells_at P B (off * blk.sz) ty _ 0 arr w ha (by simpa using o1) hone
          simp only [Nat.add_zero] at hst
          obtain ⟨R', L'⟩ := R.set hblk hlv hm ha _ _ o2 hasz o3 o4 o5
          refine ⟨_, _, m, ⟨_, ?_, .inl rfl⟩, ?_, L', .pure (.v _)⟩
          · have hcl : (Builtin.clear_ #[t] o.type #[.slice (some ⟨B, off * blk.sz, none⟩) len cap2]).run P w = .ok noResult (w.setRow B ((arr.toList.take (off * blk.sz) ++ (Builtin.zeroCells zv.cells len).toList ++ arr.toList.drop (off * blk.sz + (Builtin.zeroCells zv.cells len).toList.length)).toArray)) := by
              rcases Nat.eq_zero_or_pos len with h0 | h0
              · subst h0
                have hz0 : (Builtin.zeroCells zv.cells 0).toList = [] := by simp [Builtin.zeroCells]
                simp only [hz0, List.append_nil, List.length_nil, Nat.add_zero, List.take_append_drop, Array.toArray_toList]
                rw [setRow_self w B arr ty (0, 0) ha]
                simp only [Builtin.clear_]
                simp [und_run ht, noResult]
              · simp only [Builtin.clear_]
                have hne : len ≠ 0 := by omega
                obtain ⟨len', rfl⟩ : ∃ k, len = k + 1 := ⟨len - 1, by omega⟩
                simp [und_run ht, noResult, hzrun, hst]
            simp only [execOp, hop]
            simp [resolve, invoke, builtin, hv, hcl]
          · have hbk : ({ blk with es := blk.es.take off ++ List.replicate len z ++ blk.es.drop (off + len) } : Blk) = ⟨true, blk.sz, blk.es.take off ++ List.replicate len z ++ blk.es.drop (off + len)⟩ := by rw [← hlv]
            simp only [applyUpd, List.foldl_cons, List.foldl_nil, hbk]
            exact R'.weaken (fun _ h => .inl h)
        · cases h
      · cases h
    · cases h
  · rename_i sz0 tp hm1 hm2
    obtain ⟨p, rfl, hp⟩ := one_arg hm1
    obtain rfl := one_type hm2
    split at h
    · rename_i hel
      simp only [Option.some.injEq] at h
      subst h
      obtain ⟨e, hel⟩ := Option.isSome_iff_exists.1 hel
      have hdv := he.eval p
      rw [hp] at hdv
      obtain ⟨A, cap, hv, _⟩ := hdv.psl_inv.psl_inv
      refine .same R (v := noResult) ⟨_, ?_, .inl rfl⟩ (.pure (.v _))
      have hcl : (Builtin.clear_ #[tp] o.type #[.slice A 0 cap]).run P w = .ok noResult w := by
        simp only [Builtin.clear_]
        cases A <;> simp [und_run (aelem_und hel), noResult]
      simp only [execOp, hop]
      simp [resolve, invoke, builtin, hv, hcl]
    · cases h
  · cases h

theorem op_build {t : TypeId} {parts : Array (Nat × Operand)} (R : Rel C m S D w st.heap) (he : EnvRel n m S w a st.env) (hop : o.op = .build t parts) (h : aop P o st = some out) : OpGoal P C m S D w st a o out := by
  simp only [aop, hop] at h
  split at h
  · rename_i pl z hpl hz
    simp only [Option.map_eq_some_iff] at h
    obtain ⟨cs, hcs, rfl⟩ := h
    obtain ⟨zv, hzv, hzrun⟩ := azero_run hz
    obtain ⟨cells', h1, h2, h3⟩ := fill_struct (m := m) (S := S) (w := w) pl parts.toList z zv.cells cs st.env a he.eval (by rw [hzv]; simp) (by
      intro j hj
      rw [hzv] at hj ⊢
      have hj' : j < zv.cells.size := by simpa using hj
      simp [List.getD_eq_getElem?_getD, Array.getD_eq_getD_getElem?, hj']
      exact .pure (.v _)) hcs
    refine .same R (v := .agg cells') ⟨_, ?_, .inl rfl⟩ (.agg _ _ h2 h3)
    unfold aplaces at hpl
    split at hpl
    · rename_i fields hu
      have hzi : ∃ it, P.info? t = some it ∧ it.zero = some zv := by
        have := hzrun w
        simp only [zeroValue, Sem.run_bind, typeInfo] at this
        cases hi : P.info? t with
        | none => simp [hi] at this
        | some it =>
          cases hz' : it.zero with
          | none => simp [hi, hz'] at this
          | some z' => simp [hi, hz'] at this; exact ⟨it, rfl, by rw [this] at hz'; exact hz'⟩
      obtain ⟨it, hit, hiz⟩ := hzi
      have hb : P.built t (parts.map fun p => (p.1, a.eval p.2)).toList = some cells' := by
        simp only [Program.built, hit, hu, hiz, hpl]
        simpa using h1
      simp only [execOp, hop, Sem.run_bind, run_build w t _ cells' hb]
      rfl
    · cases hpl
  · cases h

theorem Rel.grow {h : AHeap} (R : Rel C m S D w h) {w' : World} (hx : Ext (fun _ => False) w w') : Rel C m S D w' h ∧ Later C m m S S w w' := by
  have same : SameOn S w w' := fun k hk => hx.block k (R.slt k hk) (fun hl => hl)
  refine ⟨⟨R.ext.trans hx (fun i hi => hi.elim), R.s0, fun k hk => Nat.lt_of_lt_of_le (R.slt k hk) hx.size, R.snew, ?_, R.inj, R.dom⟩, fun _ _ h => h, fun _ h => h, same⟩
  intro b x hb
  obtain ⟨B, ct, h1, h2, h3, h4⟩ := R.blk b x hb
  exact ⟨B, ct, h1, h2, h3, h4.mono (fun _ _ h => h) (fun _ h => h) same (hx.block B h4.lt (fun hl => hl))⟩

theorem op_buildSlice {t : TypeId} {len : Nat} {parts : Array (Nat × Operand)} (R : Rel C m S D w st.heap) (he : EnvRel n m S w a st.env) (hn : ∀ b, st.nxt ≤ b → b < st.nxt + out.cnt → ¬ D b) (hop : o.op = .buildSlice t len parts) (h : aop P o st = some out) : OpGoal P C m S D w st a o out := by
  simp only [aop, hop] at h
  split at h
  · rename_i e hel
    split at h
    · rename_i z sz hz hsz
      split at h
      · rename_i hc
        obtain ⟨hzl, hbig, hpos⟩ := hc
        split at h
        · rename_i hzero
          obtain ⟨rfl, hps⟩ := hzero
          simp only [Option.some.injEq] at h
          subst h
          have hp0 : parts = #[] := Array.eq_empty_of_size_eq_zero hps
          subst hp0
          have hrun : (execOp a.eval o).run P w = .ok (.value (.slice (some ⟨w.heap.size, 0, none⟩) 0 0)) (w.alloc (.cells #[] e)) := by
            simp only [execOp, hop]
            have e0 : ((Array.range 0).map fun _ => (default : Value)) = #[] := by simp
            simp [Instr.buildSlice, Sem.run_bind, und_run (aelem_und hel), asize_run hsz, newRow, Instr.fill]
            rw [e0]
          have hext : Ext (fun _ => False) w (w.alloc (.cells #[] e)) := by
            refine ⟨rfl, rfl, rfl, ?_, Nat.le_refl _, fun k hk _ => ?_⟩
            · show w.heap.size ≤ (w.heap.push _).size
              rw [Array.size_push]; omega
            · show (w.heap.push _)[k]? = _
              rw [Array.getElem?_push, if_neg (Nat.ne_of_lt hk)]
          obtain ⟨R', L'⟩ := R.grow hext
          exact ⟨_, _, m, ⟨_, hrun, .inl rfl⟩, R'.weaken (fun b hb => .inl hb), L', .pure (.e0 _)⟩
        simp only [Option.map_eq_some_iff] at h
        obtain ⟨es, hes, rfl⟩ := h
        obtain ⟨zv, hzv, hzrun⟩ := azero_run hz
        have hzs : zv.cells.size = sz := by rw [hzv] at hzl; simpa using hzl
        have hfl := zero_flat (m := m) (S := S) (w := w) (e := e) hzv hzl hpos len _ rfl
        obtain ⟨cells', h1, h2, h3, h4⟩ := fill_elems (m := m) (S := S) (w := w) sz trivial parts.toList _ _ es st.env a he.eval hfl (fun e he => by obtain rfl := List.eq_of_mem_replicate he; exact hzl) hes
        rw [List.length_replicate] at h4
        have hcs : cells'.size = es.length * sz := by simpa using h2.len
        refine .new R (hn st.nxt (Nat.le_refl _) (Nat.lt_succ_self _)) (w.alloc (.cells cells' e)) cells' e sz len es _ (.slice (some ⟨w.heap.size, 0, none⟩) len len) ⟨_, ?_, .inl rfl⟩ rfl rfl rfl (Nat.le_refl _) rfl (by rw [hcs, h4]) (by omega) h3 (fun i j hi hj => ?_) (fun m' hm' => ?_)
        · have hbig' : ¬ 16777216 < len * sz := by omega
          have hrun : (Instr.buildSlice t len (parts.map fun p => (p.1, a.eval p.2))).run P w = .ok (.slice (some ⟨w.heap.size, 0, none⟩) len len) (w.alloc (.cells cells' e)) := by
            have h1' : Instr.fill (fun i => some (i * sz, sz)) ((Array.range (len * sz)).map (zv.cells[· % zv.cells.size]!)) (parts.map fun p => (p.1, a.eval p.2)).toList = some cells' := by simpa using h1
            simp only [Instr.buildSlice, Sem.run_bind, und_run (aelem_und hel), Result.andThen_ok, asize_run hsz]
            rcases Nat.eq_zero_or_pos (len * sz) with h0 | h0
            · rw [h0] at h1' ⊢
              have e0 : ∀ z : Array Value, (Array.range 0).map (z[· % z.size]!) = #[] := fun z => by simp
              rw [e0] at h1'
              simp [e0, newRow]
              simp at h1'
              rw [h1']
              simp
            · have hne : len * sz ≠ 0 := by omega
              simp [hbig', hne, hzrun, newRow]
              simp at h1'
              rw [h1']
              simp
          simp only [execOp, hop, Sem.run_bind, hrun]
          rfl
        · have := h2.rep i j hi hj
          simpa [Array.getD_eq_getD_getElem?, List.getD_eq_getElem?_getD] using this
        · have := ARep.sl (m := m') (S := S) (w := w.alloc (.cells cells' e)) st.nxt 0 len len _ _ _ hm' (Nat.le_refl _) (Nat.zero_add _)
          simpa using this
      · cases h
    · cases h
  · cases h
end
end Go.Abs
