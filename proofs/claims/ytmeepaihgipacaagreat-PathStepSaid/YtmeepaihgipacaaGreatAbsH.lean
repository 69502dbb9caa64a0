/-
An abstract interpreter, part H: len, append, copy, clear.
-/
import Derived.Test.YtmeepaihgipacaaGreatAbsG
set_option linter.unusedVariables false
set_option linter.unusedSimpArgs false
namespace Go.Abs

theorem getD_over {α : Type} (l xs : List α) (p q : Nat) (d : α) (hp : p ≤ l.length) : (l.take p ++ xs ++ l.drop (p + xs.length)).getD q d = if p ≤ q ∧ q < p + xs.length then xs.getD (q - p) d else l.getD q d := by
  have hl : (l.take p).length = p := by simp; omega
  simp only [List.getD_eq_getElem?_getD, List.append_assoc]
  by_cases h1 : q < p
  · rw [if_neg (by omega), List.getElem?_append_left (by omega), List.getElem?_take_of_lt h1]
  · rw [List.getElem?_append_right (by omega), hl]
    by_cases h2 : q < p + xs.length
    · rw [if_pos ⟨by omega, h2⟩, List.getElem?_append_left (by omega)]
    · rw [if_neg (by omega), List.getElem?_append_right (by omega), List.getElem?_drop]
      have : p + xs.length + (q - p - xs.length) = q := by omega
      rw [this]

theorem Flat.append {m : Map} {S : Nat → Prop} {w : World} {sz : Nat} {xs ys : List (List AV)} {us vs : List Value} (h : Flat m S w sz xs us) (k : Flat m S w sz ys vs) : Flat m S w sz (xs ++ ys) (us ++ vs) := by
  refine ⟨by rw [List.length_append, h.len, k.len, List.length_append, Nat.add_mul], fun i j hi hj => ?_⟩
  by_cases h1 : i < xs.length
  · have h2 := idx_lt h1 hj
    have h3 := h.rep i j h1 hj
    have e1 : (xs ++ ys).getD i [] = xs.getD i [] := by simp only [List.getD_eq_getElem?_getD, List.getElem?_append_left h1]
    have e2 : (us ++ vs).getD (i * sz + j) undef = us.getD (i * sz + j) undef := by simp only [List.getD_eq_getElem?_getD, List.getElem?_append_left (show i * sz + j < us.length by rw [h.len]; exact h2)]
    rw [e1, e2]
    exact h3
  · have h1' : xs.length ≤ i := by omega
    have hle : xs.length * sz ≤ i * sz := Nat.mul_le_mul_right sz h1'
    have h3 := k.rep (i - xs.length) j (by simp at hi; omega) hj
    have e1 : (xs ++ ys).getD i [] = ys.getD (i - xs.length) [] := by simp only [List.getD_eq_getElem?_getD, List.getElem?_append_right h1']
    have e2 : (us ++ vs).getD (i * sz + j) undef = vs.getD ((i - xs.length) * sz + j) undef := by
      rw [Nat.sub_mul]
      simp only [List.getD_eq_getElem?_getD, List.getElem?_append_right (show us.length ≤ i * sz + j by rw [h.len]; omega)]
      rw [h.len, show i * sz + j - xs.length * sz = i * sz - xs.length * sz + j by omega]
    rw [e1, e2]
    exact h3

theorem Flat.mono {m m' : Map} {S S' : Nat → Prop} {w w' : World} {sz : Nat} {xs : List (List AV)} {vs : List Value} (h : Flat m S w sz xs vs) (hm : MSub m m') (hS : ∀ k, S k → S' k) (hw : SameOn S w w') : Flat m' S' w' sz xs vs :=
  ⟨h.len, fun i j hi hj => (h.rep i j hi hj).mono hm hS hw⟩

section
variable {P : Program} {C : Ctx} {m : Map} {S D : Nat → Prop} {w : World} {st : St} {a : Act} {o : Oper} {n : Nat} {out : Out}

/-- Elements laid over a row. -/
theorem over {B ct p : Nat} {x : Blk} {arr : Array Value} {ty : TypeId} {xs : List (List AV)} {vs : List Value} (hasz : arr.size = ct * x.sz) (hct : x.es.length ≤ ct) (hes : ∀ e ∈ x.es, e.length = x.sz)
    (hrep : ∀ i j, i < x.es.length → j < x.sz → ARep m S w ((x.es.getD i []).getD j undefA) (arr.getD (i * x.sz + j) undef)) (hf : Flat m S w x.sz xs vs) (hxs : ∀ e ∈ xs, e.length = x.sz) (hp : p ≤ x.es.length) (hpc : p + xs.length ≤ ct) :
    p * x.sz + vs.length ≤ arr.size ∧ (arr.toList.take (p * x.sz) ++ vs ++ arr.toList.drop (p * x.sz + vs.length)).toArray.size = arr.size ∧ (x.es.take p ++ xs ++ x.es.drop (p + xs.length)).length ≤ ct ∧
      (∀ e ∈ x.es.take p ++ xs ++ x.es.drop (p + xs.length), e.length = x.sz) ∧
      ∀ i j, i < (x.es.take p ++ xs ++ x.es.drop (p + xs.length)).length → j < x.sz → ARep m S w (((x.es.take p ++ xs ++ x.es.drop (p + xs.length)).getD i []).getD j undefA)
        ((arr.toList.take (p * x.sz) ++ vs ++ arr.toList.drop (p * x.sz + vs.length)).toArray.getD (i * x.sz + j) undef) := by
  have h1 : p * x.sz + vs.length ≤ arr.size := by
    rw [hf.len, hasz, ← Nat.add_mul]
    exact Nat.mul_le_mul_right _ hpc
  refine ⟨h1, by simp; omega, by simp; omega, ?_, ?_⟩
  · intro e he
    simp only [List.mem_append] at he
    rcases he with (he | he) | he
    · exact hes _ (List.mem_of_mem_take he)
    · exact hxs _ he
    · exact hes _ (List.mem_of_mem_drop he)
  · intro i j hi hj
    rw [getD_splice arr _ _ _ h1, getD_over _ _ _ _ _ hp, hf.len]
    by_cases h2 : p ≤ i ∧ i < p + xs.length
    · have hlt := idx_lt (show i < p + xs.length from h2.2) hj
      have hle : p * x.sz ≤ i * x.sz := Nat.mul_le_mul_right _ h2.1
      rw [Nat.add_mul] at hlt
      rw [if_pos h2, if_pos ⟨by omega, hlt⟩]
      have := hf.rep (i - p) j (by omega) hj
      rw [Nat.sub_mul] at this
      rwa [show i * x.sz + j - p * x.sz = i * x.sz - p * x.sz + j by omega]
    · rw [if_neg h2, if_neg]
      · refine hrep i j ?_ hj
        by_cases h3 : i < x.es.length
        · exact h3
        · exfalso
          simp at hi
          omega
      · rintro ⟨h3, h4⟩
        rw [← Nat.add_mul] at h4
        rcases Nat.lt_or_ge i p with h5 | h5
        · have := idx_lt h5 hj; omega
        · have : (p + xs.length) * x.sz ≤ i * x.sz := Nat.mul_le_mul_right _ (by omega)
          omega

theorem op_len {args : Array Operand} {ats : Array TypeId} (R : Rel C m S D w st.heap) (he : EnvRel n m S w a st.env) (hop : o.op = .call { callee := .builtin .len, args := args, argTypes := ats }) (h : aop P o st = some out) : OpGoal P C m S D w st a o out := by
  simp only [aop, hop] at h
  have sl : ∀ (x : Operand) (t : TypeId) (A : Option Addr) (k cap : Nat), args.toList.map (aevalO st.env) = [aevalO st.env x] → args = #[x] → ats.toList = [t] → a.eval x = .slice A k cap → (aelem P t).isSome = true → OpGoal P C m S D w st a o ⟨.v (.int .i64 k), [], 0⟩ := by
    intro x t A k cap _ hargs hats hv hel
    obtain ⟨e, hel⟩ := Option.isSome_iff_exists.1 hel
    have hats' : ats = #[t] := by cases ats; simp_all
    subst hargs hats'
    refine .same R (v := .int .i64 k) ⟨_, ?_, .inl rfl⟩ (.pure (.v _))
    simp only [execOp, hop]
    simp [resolve, invoke, builtin, Builtin.len_, und_run (aelem_und hel), hv, goInt]
  have one : ∀ y, args.toList.map (aevalO st.env) = [y] → ∃ x, args = #[x] ∧ aevalO st.env x = y := by
    intro y hy
    obtain ⟨l⟩ := args
    match l, hy with
    | [x], hy => simp at hy; exact ⟨x, rfl, hy⟩
  split at h
  · rename_i hm1 hm2
    obtain ⟨x, hx, hy⟩ := one _ hm1
    split at h
    · rename_i hel
      simp only [Option.some.injEq] at h
      subst h
      have := he.eval x
      rw [hy] at this
      obtain ⟨A, cap, hv, _⟩ := this.psl_inv.psl_inv
      exact sl x _ A _ cap (by rw [hm1, hy]) hx hm2 hv hel
    · cases h
  · rename_i hm1 hm2
    obtain ⟨x, hx, hy⟩ := one _ hm1
    split at h
    · rename_i hel
      simp only [Option.some.injEq] at h
      subst h
      have := he.eval x
      rw [hy] at this
      obtain ⟨B, sz, ct, cap, _, _, _, hv⟩ := this.sl_inv
      exact sl x _ _ _ cap (by rw [hm1, hy]) hx hm2 hv hel
    · cases h
  · rename_i hm1 hm2
    obtain ⟨x, hx, hy⟩ := one _ hm1
    split at h
    · rename_i hel
      simp only [Option.some.injEq] at h
      subst h
      have := he.eval x
      rw [hy] at this
      obtain ⟨A, hv⟩ := this.e0_inv
      exact sl x _ A 0 0 (by rw [hm1, hy]) hx hm2 hv hel
    · cases h
  · simp only [Option.map_eq_some_iff] at h
    obtain ⟨r, hr, rfl⟩ := h
    exact op_apure R he (fun cs b => by rw [hop]; simp) hr

theorem two_args {args : Array Operand} {env : Nat → AV} {x y : AV} (h : args.toList.map (aevalO env) = [x, y]) : ∃ p q, args = #[p, q] ∧ aevalO env p = x ∧ aevalO env q = y := by
  obtain ⟨l⟩ := args
  match l, h with
  | [p, q], h => simp at h; exact ⟨p, q, rfl, h.1, h.2⟩
theorem two_types {ats : Array TypeId} {t u : TypeId} (h : ats.toList = [t, u]) : ats = #[t, u] := by cases ats; simp_all
theorem one_arg {args : Array Operand} {env : Nat → AV} {x : AV} (h : args.toList.map (aevalO env) = [x]) : ∃ p, args = #[p] ∧ aevalO env p = x := by
  obtain ⟨l⟩ := args
  match l, h with
  | [p], h => simp at h; exact ⟨p, rfl, h⟩
theorem one_type {ats : Array TypeId} {t : TypeId} (h : ats.toList = [t]) : ats = #[t] := by cases ats; simp_all

theorem Rel.drew {h : AHeap} (R : Rel C m S D w h) : Rel C m S D w.drew h ∧ Later C m m S S w w.drew :=
  R.change (fun _ _ h => h) rfl rfl rfl (Nat.le_refl _) (Nat.le_succ _) (fun _ _ => .inl rfl) (fun b x hb => .inl ⟨hb, fun _ _ => rfl⟩) R.inj R.dom

theorem abytes_info {e : TypeId} {sz by_ : Nat} (h1 : asize P e = some sz) (h2 : abytes P e = some by_) : ∃ i, P.info? e = some i ∧ i.size = sz ∧ i.bytes = by_ := by
  simp only [asize, abytes, Option.map_eq_some_iff] at h1 h2
  obtain ⟨i, hi, rfl⟩ := h1
  obtain ⟨i', hi', rfl⟩ := h2
  rw [hi] at hi'
  cases hi'
  exact ⟨i, hi, rfl, rfl⟩

/-- append where there is room. -/
theorem run_append_stay {t e ty : TypeId} {i : TypeInfo} (ht : P.underlying t = some (.slice e)) (hi : P.info? e = some i) (base : Option Addr) (sLen sCap : Nat) (A : Option Addr) (k c : Nat) (news : Array Value)
    (hf : (Builtin.firstCells i.size k (.slice A k c)).run P w = .ok news w) (hroom : sLen + k ≤ sCap) (w' : World) (hst : ∀ ad, base = some ad → (storeCells (ad.add (sLen * i.size)) news.toList).run P w = .ok () w') (hno : base = none → w' = w) :
    (Builtin.append_ #[t, t] ty #[.slice base sLen sCap, .slice A k c]).run P w = .ok (.slice base (sLen + k) sCap) w' := by
  cases base with
  | none => rw [hno rfl]; simp [Builtin.append_, run_underlying ht, sizeOf, typeInfo, hi, Builtin.lenOf, hroom, hf]
  | some ad => simp [Builtin.append_, run_underlying ht, sizeOf, typeInfo, hi, Builtin.lenOf, hroom, hf, hst ad rfl]

/-- append where there is none. -/
theorem run_append_new {t e ty : TypeId} {i : TypeInfo} {z : Value} (ht : P.underlying t = some (.slice e)) (hi : P.info? e = some i) (hz : i.zero = some z) (base : Option Addr) (sLen sCap : Nat) (A : Option Addr) (k c : Nat) (olds news : Array Value)
    (hfo : (Builtin.firstCells i.size sLen (.slice base sLen sCap)).run P w.drew = .ok olds w.drew) (hf : (Builtin.firstCells i.size k (.slice A k c)).run P w.drew = .ok news w.drew)
    (hg : sCap < sLen + k) (h63 : ((sLen + k : Nat) : Int) ≤ 9223372036854775807) (hfit : Builtin.nextslicecap (sLen + k) sCap * i.bytes ≤ 281474976710656) :
    (Builtin.append_ #[t, t] ty #[.slice base sLen sCap, .slice A k c]).run P w =
      .ok (.slice (some ⟨w.heap.size, 0, none⟩) (sLen + k) (grownCap w (sLen + k) sCap e)) (w.drew.alloc (.cells (olds ++ news ++ Builtin.zeroCells z.cells (grownCap w (sLen + k) sCap e - (sLen + k))) e)) := by
  have hn : ¬ (sLen + k ≤ sCap) := by omega
  have h63' : ¬ (9223372036854775807 < ((sLen : Int) + (k : Int))) := by omega
  have h48' : ¬ (281474976710656 < Builtin.nextslicecap (sLen + k) sCap * i.bytes) := by omega
  simp [Builtin.append_, run_underlying ht, sizeOf, typeInfo, zeroValue, hi, hz, Builtin.lenOf, hn, h63', h48', Question.forced, hf, hfo, newRow, grownCap]

theorem op_append {args : Array Operand} {ats : Array TypeId} (R : Rel C m S D w st.heap) (he : EnvRel n m S w a st.env) (hn : ∀ b, st.nxt ≤ b → b < st.nxt + out.cnt → ¬ D b)
    (hop : o.op = .call { callee := .builtin .append, args := args, argTypes := ats }) (h : aop P o st = some out) : OpGoal P C m S D w st a o out := by
  simp only [aop, hop] at h
  split at h
  · rename_i d s t u hm1 hm2
    obtain ⟨p, q, rfl, hp, hq⟩ := two_args hm1
    obtain rfl := two_types hm2
    split at h
    · cases h
    · rename_i htu
      have htu' : t = u := Classical.byContradiction htu
      subst htu'
      split at h
      · rename_i e hel
        split at h
        · rename_i z sz by_ xs hz hsz hby hrd
          split at h
          · cases h
          · rename_i hchk
            have hchk' := Classical.byContradiction hchk
            obtain ⟨hzl, hpos, hbpos, hxs⟩ := hchk'
            obtain ⟨i, hi, hisz, hiby⟩ := abytes_info hsz hby
            obtain ⟨zv, hzv, hzrun⟩ := azero_run hz
            have hiz : i.zero = some zv := by
              have := hzrun w
              simp only [zeroValue, Sem.run_bind, typeInfo, hi] at this
              cases hiz : i.zero with
              | none => simp [hi, hiz] at this
              | some z' => simp [hi, hiz] at this; rw [this]
            have hzs : zv.cells.size = sz := by rw [hzv] at hzl; simpa using hzl
            have ht := aelem_und hel
            have hxl : ∀ e ∈ xs, e.length = sz := fun e he => (hxs e he).1
            have hxs' : ∀ x ∈ xs, x.length = sz ∧ x.all AV.isCell = true := fun e he => (hxs e he)
            have hsv := he.eval q
            rw [hq] at hsv
            obtain ⟨A, cap, hsv1, hcap, hcells⟩ := aread_sound (P := P) R hsv hrd hxl hpos
            have hdv := he.eval p
            rw [hp] at hdv
            have exec : ∀ v w', (Builtin.append_ #[t, t] o.type #[a.eval p, a.eval q]).run P w = .ok v w' → Yields P o a w v w' := by
              intro v w' hr
              refine ⟨_, ?_, .inl rfl⟩
              simp only [execOp, hop]
              simp [resolve, invoke, builtin, hr]
            -- a new row
            have grown : ∀ (base : Option Addr) (sLen sCap : Nat) (olds : List (List AV)), a.eval p = .slice base sLen sCap → olds.length = sLen → (∀ x ∈ olds, x.length = sz) →
                (∃ vs : List Value, (Builtin.firstCells sz sLen (.slice base sLen sCap)).run P w.drew = .ok vs.toArray w.drew ∧ Flat m S w.drew sz olds vs) → sCap < sLen + xs.length → (sLen + xs.length) * by_ ≤ maxBytes →
                ∃ (w' : World) (arr : Array Value) (ct : Nat), Yields P o a w (.slice (some ⟨w.heap.size, 0, none⟩) (sLen + xs.length) ct) w' ∧ w'.os = w.os ∧ w'.tape = w.tape ∧ w'.output = w.output ∧ w.drawn ≤ w'.drawn ∧ w'.heap = w.heap.push (.cells arr e) ∧
                  arr.size = ct * sz ∧ sLen + xs.length ≤ ct ∧ ∀ i j, i < (olds ++ xs).length → j < sz → ARep m S w (((olds ++ xs).getD i []).getD j undefA) (arr.getD (i * sz + j) undef) := by
              intro base sLen sCap olds hv hol hox hof hg hb
              obtain ⟨us, hu1, hu2⟩ := hof
              obtain ⟨R', L'⟩ := R.drew
              have hsv' := hsv.mono (fun _ _ h => h) (fun _ h => h) L'.same
              obtain ⟨A', cap', hsv1', hcap', hcells'⟩ := aread_sound (P := P) R' hsv' hrd hxl hpos
              obtain ⟨vs, hv1, hv2⟩ := hcells' xs.length (Nat.le_refl _)
              rw [List.take_of_length_le (Nat.le_refl _)] at hv2
              rw [hsv1'] at hv1
              have hneed : sLen + xs.length ≤ maxBytes := Nat.le_trans (Nat.le_mul_of_pos_right _ hbpos) hb
              unfold maxBytes at hneed hb
              have hge := grownCap_ge w (sLen + xs.length) sCap e
              refine ⟨w.drew.alloc (.cells (us.toArray ++ vs.toArray ++ Builtin.zeroCells zv.cells (grownCap w (sLen + xs.length) sCap e - (sLen + xs.length))) e), us.toArray ++ vs.toArray ++ Builtin.zeroCells zv.cells (grownCap w (sLen + xs.length) sCap e - (sLen + xs.length)), grownCap w (sLen + xs.length) sCap e, exec _ _ ?_, rfl, rfl, rfl, Nat.le_succ _, rfl, ?_, hge, ?_⟩
              · rw [hv, hsv1']
                refine run_append_new ht hi hiz base sLen sCap A' xs.length cap' us.toArray vs.toArray (by rw [hisz]; exact hu1) (by rw [hisz]; exact hv1) hg (by omega) (growslice_fits hg (by rw [hiby]; exact hb))
              · simp only [Array.size_append, List.size_toArray, size_zeroCells, hzs, hu2.len, hv2.len, hol]
                rw [← Nat.add_mul, ← Nat.add_mul]
                congr 1
                omega
              · intro i j hi' hj
                have hfl := hu2.append hv2
                have := hfl.rep i j hi' hj
                have hlt : i * sz + j < (us ++ vs).length := by
                  rw [hfl.len]
                  exact idx_lt hi' hj
                have e1 : (us.toArray ++ vs.toArray ++ Builtin.zeroCells zv.cells (grownCap w (sLen + xs.length) sCap e - (sLen + xs.length))).getD (i * sz + j) undef = (us ++ vs).getD (i * sz + j) undef := by
                  rw [Array.getD_eq_getD_getElem?, List.getD_eq_getElem?_getD, Array.getElem?_append_left (by simpa using hlt)]
                  simp
                rw [e1]
                exact this.mono (fun _ _ h => h) (fun _ h => h) (fun _ _ => rfl)
            have empty_dest : (aevalO st.env p = .e0 ∨ aevalO st.env p = .v (.slice none 0 0)) → ∃ A0, a.eval p = .slice A0 0 0 := by
              rintro (h0 | h0)
              · have := he.eval p
                rw [h0] at this
                exact this.e0_inv
              · have := he.eval p
                rw [h0] at this
                exact ⟨none, this.v_inv⟩
            have stay0 : ∀ base sLen sCap, a.eval p = .slice base sLen sCap → sLen ≤ sCap → (∀ ad, base = some ad → True) → xs = [] → OpGoal P C m S D w st a o ⟨d, [], 0⟩ := by
              intro base sLen sCap hv hle _ hnil
              subst hnil
              refine .same R (v := .slice base sLen sCap) (exec _ _ ?_) (by rw [← hv]; exact hdv)
              obtain ⟨vs, hv1, hv2⟩ := hcells 0 (Nat.le_refl _)
              have hvs : vs = [] := List.eq_nil_of_length_eq_zero (by simpa using hv2.len)
              subst hvs
              rw [hv, hsv1]
              rw [hsv1] at hv1
              exact run_append_stay ht hi base sLen sCap A 0 cap #[] (by rw [hisz]; exact hv1) (by simpa using hle) w (fun ad _ => rfl) (fun _ => rfl)
            -- a new row onto nothing
            have fresh : (aevalO st.env p = .e0 ∨ aevalO st.env p = .v (.slice none 0 0)) → 0 < xs.length → xs.length * by_ ≤ maxBytes → ¬ D st.nxt → OpGoal P C m S D w st a o ⟨.sl st.nxt 0 xs.length, newBlk st.nxt sz xs, 1⟩ := by
              intro h0 hlen hb hnD
              obtain ⟨A0, hA0⟩ := empty_dest h0
              have hfo : ∃ vs : List Value, (Builtin.firstCells sz 0 (.slice A0 0 0)).run P w.drew = .ok vs.toArray w.drew ∧ Flat m S w.drew sz [] vs := by
                refine ⟨[], ?_, Flat.nil _ _ _ _⟩
                cases A0 <;> simp [Builtin.firstCells, loadCells, loadCellsFrom]
              obtain ⟨w', arr, ct, hy, h1, h2, h3, h4, h5, h6, h7, h8⟩ := grown A0 0 0 [] hA0 rfl (by simp) hfo (by omega) (by simpa using hb)
              simp only [Nat.zero_add, List.nil_append] at hy h7 h8
              refine .new R hnD w' arr e sz ct xs _ _ hy h1 h2 h3 h4 h5 h6 h7 hxl h8 (fun m' hm' => ?_)
              have := ARep.sl (m := m') (S := S) (w := w') st.nxt 0 xs.length ct _ _ _ hm' h7 (Nat.zero_add _)
              simpa using this
            split at h
            · -- nothing is appended
              split at h
              · simp only [Option.some.injEq] at h
                subst h
                obtain ⟨A0, hA0⟩ := empty_dest (.inl hp)
                exact stay0 A0 0 0 hA0 (Nat.le_refl _) (fun _ _ => trivial) rfl
              · simp only [Option.some.injEq] at h
                subst h
                obtain ⟨A0, hA0⟩ := empty_dest (.inr hp)
                exact stay0 A0 0 0 hA0 (Nat.le_refl _) (fun _ _ => trivial) rfl
              · rename_i b len
                split at h
                · rename_i blk hblk
                  split at h
                  · simp only [Option.some.injEq] at h
                    subst h
                    obtain ⟨B, sz2, ct, cap2, hm, hl, hcc, hv⟩ := hdv.sl_inv
                    exact stay0 _ len cap2 hv hl (fun _ _ => trivial) rfl
                  · cases h
                · cases h
              · cases h
            · rename_i x0 r0
              have hlen : 0 < (x0 :: r0).length := by simp
              split at h
              · split at h
                · rename_i hb
                  simp only [Option.some.injEq] at h
                  subst h
                  exact fresh (.inl hp) hlen hb (hn _ (Nat.le_refl _) (Nat.lt_succ_self _))
                · cases h
              · split at h
                · rename_i hb
                  simp only [Option.some.injEq] at h
                  subst h
                  exact fresh (.inr hp) hlen hb (hn _ (Nat.le_refl _) (Nat.lt_succ_self _))
                · cases h
              · rename_i b len
                split at h
                · rename_i blk hblk
                  split at h
                  · cases h
                  · rename_i hchk2
                    have hchk2' := Classical.byContradiction hchk2
                    obtain ⟨hlv, hbsz, hle, hb⟩ := hchk2'
                    obtain ⟨B, sz2, ct, cap2, hm, hl, hcc, hv⟩ := hdv.sl_inv
                    obtain ⟨e2, hh, hlive, _⟩ := R.get hblk hm
                    have e3 : sz2 = sz := e2.trans hbsz
                    subst e3
                    have hcc' : cap2 = ct := by omega
                    subst hcc'
                    rw [Nat.zero_mul] at hv
                    obtain ⟨arr, ty, ha, hasz, hct, hes, hrep⟩ := hh
                    obtain ⟨vs, hv1, hv2⟩ := hcells (x0 :: r0).length (Nat.le_refl _)
                    rw [List.take_of_length_le (Nat.le_refl _)] at hv2
                    rw [hsv1] at hv1
                    have hone := hv2.mem hxs'
                    rw [e2] at hv2 hxl
                    have inplace : len + (x0 :: r0).length ≤ cap2 → Yields P o a w (.slice (some ⟨B, 0, none⟩) (len + (x0 :: r0).length) cap2) (w.setRow B ((arr.toList.take (len * blk.sz) ++ vs ++ arr.toList.drop (len * blk.sz + vs.length)).toArray)) := by
                      intro hroom
                      obtain ⟨o1, _⟩ := over (B := B) (ty := ty) hasz hct hes hrep hv2 hxl hle hroom
                      have hst := run_storeCells_at P B (len * blk.sz) ty vs 0 arr w ha (by simpa using o1) hone
                      simp only [Nat.add_zero] at hst
                      refine exec _ _ ?_
                      rw [hv, hsv1]
                      refine run_append_stay ht hi (some ⟨B, 0, none⟩) len cap2 A _ cap vs.toArray (by rw [hisz]; exact hv1) hroom _ (fun ad had => ?_) (fun h => by cases h)
                      cases had
                      rw [Addr.add_lit, Nat.zero_add, hisz, e2]
                      exact hst
                    split at h
                    · -- onto the end
                      rename_i hend
                      simp only [Option.some.injEq] at h
                      subst h
                      have hnD := hn st.nxt (Nat.le_refl _) (Nat.lt_succ_self _)
                      have hnb : b ≠ st.nxt := by
                        rintro rfl
                        exact hnD (R.dom _ _ hm)
                      have hes' : blk.es.take len ++ (x0 :: r0) ++ blk.es.drop (len + (x0 :: r0).length) = blk.es ++ (x0 :: r0) := by
                        rw [List.take_of_length_le (by omega), List.drop_eq_nil_of_le (by omega), List.append_nil]
                      by_cases hroom : len + (x0 :: r0).length ≤ cap2
                      · obtain ⟨o1, o2, o3, o4, o5⟩ := over (B := B) (ty := ty) hasz hct hes hrep hv2 hxl hle hroom
                        rw [hes'] at o3 o4 o5
                        have hmv := hm
                        rw [e2] at hmv
                        obtain ⟨R', L'⟩ := R.move hblk hlv hmv st.nxt hnD ha _ (blk.es ++ (x0 :: r0)) o2 hasz o3 o4 o5
                        refine ⟨_, _, _, inplace hroom, ?_, L', ?_⟩
                        · rw [e2]
                          exact R'
                        · have := ARep.sl (m := fset m st.nxt (some (B, blk.sz, cap2))) (S := S) (w := w.setRow B ((arr.toList.take (len * blk.sz) ++ vs ++ arr.toList.drop (len * blk.sz + vs.length)).toArray)) st.nxt 0 (len + (x0 :: r0).length) cap2 B blk.sz cap2 (fset_same _ _ _) hroom (Nat.zero_add _)
                          simpa using this
                      · obtain ⟨Rd, Ld⟩ := R.drew
                        have hdv' : ARep m S w.drew (.sl b 0 len) (a.eval p) := hdv.mono (fun _ _ h => h) (fun _ h => h) Ld.same
                        have hrd' : aread st.heap P (.sl b 0 len) = some blk.es := by
                          simp only [aread, hblk]
                          rw [if_pos (by omega), List.drop_zero, hend, List.take_of_length_le (Nat.le_refl _)]
                        obtain ⟨A0, cap0, hA0, hcap0, hcells0⟩ := aread_sound (P := P) Rd hdv' hrd' (fun e he => (hes e he).trans e2.symm) hpos
                        rw [hA0] at hv
                        simp only [Value.slice.injEq] at hv
                        obtain ⟨hv4, hv5, hv6⟩ := hv
                        subst hv4 hv6
                        obtain ⟨us, hu1, hu2⟩ := hcells0 len (by omega)
                        rw [List.take_of_length_le (by omega)] at hu2
                        rw [hA0, hv5] at hu1
                        obtain ⟨w', arr', ct', hy, h1, h2, h3, h4, h5, h6, h7, h8⟩ := grown _ len cap0 blk.es (by rw [hA0, hv5]) hv5 (fun e he => (hes e he).trans e2.symm) ⟨us, hu1, hu2⟩ (by omega) hb
                        -- the old block is dropped, a new one is made
                        have Rk : Rel C m S D w (fset st.heap b none) := by
                          refine (R.change (fun _ _ h => h) rfl rfl rfl (Nat.le_refl _) (Nat.le_refl _) (fun _ _ => .inl rfl) (fun b' x hb' => ?_) ?_ R.dom).1
                          · by_cases e' : b' = b
                            · rw [e', fset_same] at hb'; cases hb'
                            · rw [fset_ne _ _ _ _ e'] at hb'
                              exact .inl ⟨hb', fun _ _ => rfl⟩
                          · intro b1 b2 x1 x2 y1 y2 g1 g2 l1 l2 m1 m2 heq
                            by_cases e1 : b1 = b
                            · rw [e1, fset_same] at g1; cases g1
                            · by_cases e2 : b2 = b
                              · rw [e2, fset_same] at g2; cases g2
                              · rw [fset_ne _ _ _ _ e1] at g1
                                rw [fset_ne _ _ _ _ e2] at g2
                                exact R.inj b1 b2 x1 x2 y1 y2 g1 g2 l1 l2 m1 m2 heq
                        obtain ⟨R', L'⟩ := Rk.new st.nxt hnD w' arr' e sz2 ct' (blk.es ++ (x0 :: r0)) h1 h2 h3 h4 h5 h6 (by simp only [List.length_append]; omega) (by
                          intro y hy
                          rcases List.mem_append.1 hy with h9 | h9
                          · exact (hes y h9).trans e2.symm
                          · exact (hxs y h9).1) h8
                        refine ⟨_, w', _, hy, R', L', ?_⟩
                        have := ARep.sl (m := fset m st.nxt (some (w.heap.size, sz2, ct'))) (S := S) (w := w') st.nxt 0 (len + (x0 :: r0).length) ct' _ _ _ (fset_same _ _ _) h7 (Nat.zero_add _)
                        simpa using this
                    · split at h
                      · -- over what is there
                        rename_i hfit
                        simp only [Option.some.injEq] at h
                        subst h
                        have hroom : len + (x0 :: r0).length ≤ cap2 := by omega
                        obtain ⟨o1, o2, o3, o4, o5⟩ := over (B := B) (ty := ty) hasz hct hes hrep hv2 hxl hle hroom
                        have hmv := hm
                        rw [e2] at hmv
                        obtain ⟨R', L'⟩ := R.set hblk hlv hmv ha _ _ o2 hasz o3 o4 o5
                        refine ⟨_, _, _, inplace hroom, ?_, L', ?_⟩
                        · have hbk : ({ blk with es := blk.es.take len ++ (x0 :: r0) ++ blk.es.drop (len + (x0 :: r0).length) } : Blk) = ⟨true, blk.sz, blk.es.take len ++ (x0 :: r0) ++ blk.es.drop (len + (x0 :: r0).length)⟩ := by rw [← hlv]
                          simp only [applyUpd, List.foldl_cons, List.foldl_nil, hbk]
                          exact R'.weaken (fun _ h => .inl h)
                        · have := ARep.sl (m := m) (S := S) (w := w.setRow B ((arr.toList.take (len * blk.sz) ++ vs ++ arr.toList.drop (len * blk.sz + vs.length)).toArray)) b 0 (len + (x0 :: r0).length) cap2 B sz2 cap2 hm hroom (Nat.zero_add _)
                          simpa using this
                      · cases h
                · cases h
              · cases h
        · cases h
      · cases h
  · cases h
end
end Go.Abs
