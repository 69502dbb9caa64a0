/-
An abstract interpreter, part N: regions without a drawn order; what an operation looks at.
-/
import Derived.Test.YtmeepaihgipacaaGreatAbsM
set_option linter.unusedVariables false
set_option linter.unusedSimpArgs false
namespace Go.Abs

section
variable {P : Program} {C : Ctx} {m : Map} {S D : Nat → Prop} {w : World} {st : St} {a : Act} {n : Nat}

theorem guard_sound {ops : Array Oper} {o : Oper} {b : Bool} (he : EnvRel n m S w a st.env) (h : guardA ops st.env o = some b) : Region.wanted o (yielded ops a.tmps) = b := by
  unfold guardA at h
  unfold Region.wanted
  split at h
  · rename_i hg
    simp only [Option.some.injEq] at h
    rw [hg]
    exact h
  · rename_i j want hg
    rw [hg]
    split at h
    · rename_i t ht
      have hrep := he.rep t
      have get : ∀ x : Value, st.env t = .v x → x ≠ undef → a.tmps[t]? = some x := by
        intro x hx hne
        rw [hx] at hrep
        have hv := hrep.v_inv
        rw [Array.getD_eq_getD_getElem?] at hv
        cases h1 : a.tmps[t]? with
        | none => rw [h1] at hv; exact absurd hv.symm hne
        | some y => rw [h1] at hv; simp at hv; rw [hv]
      unfold gwant at h
      split at h
      · rename_i b' hb
        simp only [Option.some.injEq] at h
        subst h
        have hlt := get _ hb (by intro h; cases h)
        simp only [yielded, ht, Option.bind_some, hlt]
        simp
      · rename_i vs hb
        simp only [Option.some.injEq] at h
        subst h
        rw [hb] at hrep
        have hv := hrep.v_inv
        rw [Array.getD_eq_getD_getElem?] at hv
        have : yielded ops a.tmps j = none := by
          cases h1 : a.tmps[t]? with
          | none => simp only [yielded, ht, Option.bind_some, h1]
          | some y => rw [h1] at hv; simp at hv; subst hv; simp only [yielded, ht, Option.bind_some, h1]
        show (yielded ops a.tmps j == some want) = false
        rw [this]
        rfl
      · cases h
    · cases h

theorem refCall_sound {E : Env} {rec : Code → St → Option (Ex × St)} (hrec : RecOk E.P rec) (R : Rel C m S (fun b => b < st.nxt) w st.heap) (he : EnvRel n m S w a st.env) {o : Oper} {x : AV} {h' : AHeap} {nx : Nat} (h : refCall E rec o st = some (some (x, h', nx)))
    (K : Act → World → Prop) (Q : Exit → Act → World → Prop) (hK : ∀ v w' m' S', Rel C m' S' (fun b => b < nx) w' h' → Later C m m' S S' w w' → ARep m' S' w' x v → st.nxt ≤ nx → K (a.put o.dst v) w') : o.wp E.P a w K Q := by
  unfold refCall at h
  split at h
  · rename_i y args ats hop
    split at h
    · rename_i f l hcal
      split at h
      · simp only [Option.some.injEq, Option.map_eq_some_iff] at h
        obtain ⟨⟨r, st'⟩, hb, heq⟩ := h
        simp only [Prod.mk.injEq] at heq
        obtain ⟨rfl, rfl, rfl⟩ := heq
        obtain ⟨caps, hxv, hsz, hrep⟩ := callee_sound he hcal
        let C' : Ctx := { w0 := w, S0 := S, L0 := memOf m st.heap (fun b => ∃ x, st.heap b = some x ∧ x.lv = true) }
        have R' : Rel C' m S (fun b => b < st.nxt) w st.heap := by
          refine ⟨Ext.refl _ _, fun _ h => h, R.slt, fun _ h => .inl h, ?_, R.inj, R.dom⟩
          intro b x hb
          obtain ⟨B, ct, h1, h2, h3, h4⟩ := R.blk b x hb
          exact ⟨B, ct, h1, fun hl => ⟨(h2 hl).1, .inl ⟨b, x, _, ⟨x, hb, hl⟩, hb, h1, rfl⟩⟩, h3, h4⟩
        have hL : ∀ k, C'.L0 k → (C.L0 k ∨ C.w0.heap.size ≤ k) ∧ ¬ S k := by
          rintro k ⟨b, x, y, ⟨x', hx', hl⟩, hb, hy, rfl⟩
          rw [hb] at hx'
          cases hx'
          obtain ⟨_, _, g2, _⟩ := R.get hb (B := y.1) (sz := y.2.1) (ct := y.2.2) hy
          exact ⟨(g2 hl).2, (g2 hl).1⟩
        obtain ⟨hfn, hcalls⟩ := body_sound hrec hb R' (args.map a.eval ++ caps) hsz hrep
        unfold Oper.wp
        rw [exec_call hop hxv hfn w]
        refine hcalls.mono ?_
        rintro e w' ⟨us, m', S', rfl, hus, hur, R1, L1, hnx⟩
        refine hK _ w' m' S' ?_ ⟨L1.ms, L1.ss, L1.same⟩ (uncomps_rep hus hur) hnx
        refine ⟨R.ext.trans R1.ext (fun i hi => (hL i hi).1), fun k hk => L1.ss k (R.s0 k hk), R1.slt, ?_, ?_, R1.inj, R1.dom⟩
        · intro k hk
          rcases R1.snew k hk with h1 | h1 | h1
          · exact R.snew k h1
          · exact .inr (hL k h1).1
          · exact .inr (.inr (Nat.le_trans R.ext.size h1))
        · intro b x hb
          obtain ⟨B, ct, h1, h2, h3, h4⟩ := R1.blk b x hb
          refine ⟨B, ct, h1, fun hl => ⟨(h2 hl).1, ?_⟩, h3, h4⟩
          rcases (h2 hl).2 with h5 | h5
          · exact (hL B h5).1
          · exact .inr (Nat.le_trans R.ext.size h5)
      · cases h
    · cases h
  · cases h

theorem areg_sound {E : Env} {rec : Code → St → Option (Ex × St)} (hrec : RecOk E.P rec) (hprim : PrimOk E) {ops : Array Oper} {Q : Exit → Act → World → Prop} : ∀ (l : List Oper) (m : Map) (S : Nat → Prop) (w : World) (st : St) (a : Act) (st' : St), areg E rec ops l st = some st' →
    (∀ o ∈ l, ∀ d, o.dst = some d → d < n) → Rel C m S (fun b => b < st.nxt) w st.heap → EnvRel n m S w a st.env →
    (∀ a' w' m' S', Rel C m' S' (fun b => b < st'.nxt) w' st'.heap → EnvRel n m' S' w' a' st'.env → Later C m m' S S' w w' → st.nxt ≤ st'.nxt → Q .normal a' w') → wpList E.P ops Q l a w
  | [], m, S, w, st, a, st', h, _, R, he, hQ => by
    simp only [areg, Option.some.injEq] at h
    subst h
    exact hQ a w m S R he (Later.refl C m S w) (Nat.le_refl _)
  | o :: r, m, S, w, st, a, st', h, hd, R, he, hQ => by
    simp only [areg] at h
    unfold wpList
    split at h
    · rename_i hg
      rw [if_pos (guard_sound he hg)]
      left
      split at h
      · rename_i st1 h1
        unfold aone at h1
        split at h1
        · rename_i x hp nx hrc
          simp only [Option.some.injEq] at h1
          subst h1
          refine refCall_sound hrec R he hrc _ _ (fun v w' m' S' R' L' hr hnx => ?_)
          refine areg_sound hrec hprim r m' S' w' _ _ st' h (fun o ho => hd o (List.mem_cons_of_mem _ ho)) R' ((he.mono L'.ms L'.ss L'.same).put o.dst (hd o (List.mem_cons_self ..)) x v hr) ?_
          intro a' w2 m2 S2 R2 he2 L2 hn2
          exact hQ a' w2 m2 S2 R2 he2 (L'.trans L2) (Nat.le_trans hnx hn2)
        · cases h1
        · simp only [Option.map_eq_some_iff] at h1
          obtain ⟨out, hout, rfl⟩ := h1
          refine astep_sound hrec hprim R he (fun b hb _ => by omega) hout _ _ (fun v w' m' S' R' L' hr => ?_)
          refine areg_sound hrec hprim r m' S' w' _ _ st' h (fun o ho => hd o (List.mem_cons_of_mem _ ho)) (R'.weaken (fun b hb => by simp only [St.put]; omega)) ((he.mono L'.ms L'.ss L'.same).put o.dst (hd o (List.mem_cons_self ..)) out.val v hr) ?_
          intro a' w2 m2 S2 R2 he2 L2 hn2
          exact hQ a' w2 m2 S2 R2 he2 (L'.trans L2) (by simp only [St.put] at hn2; omega)
      · cases h
    · rename_i hg
      have := guard_sound he hg
      rw [if_neg (by rw [this]; simp)]
      refine areg_sound hrec hprim r m S w _ _ st' h (fun o ho => hd o (List.mem_cons_of_mem _ ho)) (R.weaken (fun b hb => by simp only [St.put, skipOut]; omega)) (he.put o.dst (hd o (List.mem_cons_self ..)) undefA undef (.pure (.v _))) ?_
      intro a' w2 m2 S2 R2 he2 L2 hn2
      exact hQ a' w2 m2 S2 R2 he2 L2 (by simp only [St.put, skipOut] at hn2; omega)
    · cases h
end

/-! ### What an operation looks at -/

theorem reach_succ (h : AHeap) : ∀ (n : Nat) (x : AV) (b : Nat), b ∈ reach n h x → b ∈ reach (n + 1) h x
  | 0, x, b, hb => by simp [reach] at hb
  | n + 1, x, b, hb => by
    cases x with
    | v y => simp [reach] at hb
    | e0 => simp [reach] at hb
    | psl sz es => simp [reach] at hb
    | pptr cs => simp [reach] at hb
    | top => simp [reach] at hb
    | agg cs =>
      simp only [reach, List.mem_flatMap] at hb ⊢
      obtain ⟨c, hc, hb⟩ := hb
      exact ⟨c, hc, reach_succ h n c b hb⟩
    | fn f cs =>
      simp only [reach, List.mem_flatMap] at hb ⊢
      obtain ⟨c, hc, hb⟩ := hb
      exact ⟨c, hc, reach_succ h n c b hb⟩
    | tup cs =>
      simp only [reach, List.mem_flatMap] at hb ⊢
      obtain ⟨c, hc, hb⟩ := hb
      exact ⟨c, hc, reach_succ h n c b hb⟩
    | ptr b' i off =>
      rw [reach] at hb ⊢
      rw [List.mem_cons] at hb ⊢
      rcases hb with hb | hb
      · exact .inl hb
      · right
        cases hbk : h b' with
        | none => rw [hbk] at hb; simp at hb
        | some blk =>
          rw [hbk] at hb
          simp only [List.mem_flatMap] at hb ⊢
          obtain ⟨e, he, c, hc, hb⟩ := hb
          exact ⟨e, he, c, hc, reach_succ h n c b hb⟩
    | sl b' o len =>
      rw [reach] at hb ⊢
      rw [List.mem_cons] at hb ⊢
      rcases hb with hb | hb
      · exact .inl hb
      · right
        cases hbk : h b' with
        | none => rw [hbk] at hb; simp at hb
        | some blk =>
          rw [hbk] at hb
          simp only [List.mem_flatMap] at hb ⊢
          obtain ⟨e, he, c, hc, hb⟩ := hb
          exact ⟨e, he, c, hc, reach_succ h n c b hb⟩

theorem flatMap_congr' {α β : Type} {l : List α} {f g : α → List β} (h : ∀ x ∈ l, f x = g x) : l.flatMap f = l.flatMap g := by
  induction l with
  | nil => rfl
  | cons x r ih => rw [List.flatMap_cons, List.flatMap_cons, h x (List.mem_cons_self ..), ih (fun y hy => h y (List.mem_cons_of_mem _ hy))]

theorem reach_local {h g : AHeap} : ∀ (n : Nat) (x : AV), (∀ b ∈ reach n h x, g b = h b) → reach n g x = reach n h x
  | 0, x, _ => rfl
  | n + 1, x, hl => by
    cases x with
    | v y => rfl
    | e0 => rfl
    | psl sz es => rfl
    | pptr cs => rfl
    | top => rfl
    | agg cs => exact flatMap_congr' (fun c hc => reach_local n c (fun b hb => hl b (List.mem_flatMap.2 ⟨c, hc, hb⟩)))
    | fn f cs => exact flatMap_congr' (fun c hc => reach_local n c (fun b hb => hl b (List.mem_flatMap.2 ⟨c, hc, hb⟩)))
    | tup cs => exact flatMap_congr' (fun c hc => reach_local n c (fun b hb => hl b (List.mem_flatMap.2 ⟨c, hc, hb⟩)))
    | ptr b' i off =>
      have h1 := hl b' (by rw [reach]; exact List.mem_cons_self ..)
      simp only [reach, h1]
      congr 1
      cases hbk : h b' with
      | none => rfl
      | some blk =>
        refine flatMap_congr' (fun e he => flatMap_congr' (fun c hc => reach_local n c (fun b hb => hl b ?_)))
        rw [reach, hbk]
        exact List.mem_cons_of_mem _ (List.mem_flatMap.2 ⟨e, he, List.mem_flatMap.2 ⟨c, hc, hb⟩⟩)
    | sl b' o len =>
      have h1 := hl b' (by rw [reach]; exact List.mem_cons_self ..)
      simp only [reach, h1]
      congr 1
      cases hbk : h b' with
      | none => rfl
      | some blk =>
        refine flatMap_congr' (fun e he => flatMap_congr' (fun c hc => reach_local n c (fun b hb => hl b ?_)))
        rw [reach, hbk]
        exact List.mem_cons_of_mem _ (List.mem_flatMap.2 ⟨e, he, List.mem_flatMap.2 ⟨c, hc, hb⟩⟩)

theorem omap_congr {α β : Type} {f g : α → Option β} : ∀ {l : List α}, (∀ x ∈ l, f x = g x) → omap f l = omap g l
  | [], _ => rfl
  | x :: r, h => by simp only [omap, h x (List.mem_cons_self ..), omap_congr (fun y hy => h y (List.mem_cons_of_mem _ hy))]

theorem pur_local {h hf gf : AHeap} (hes : ∀ b, (hf b).map Blk.es = (h b).map Blk.es) : ∀ (n : Nat) (x : AV), (∀ b ∈ reach n h x, gf b = hf b) → pur n gf x = pur n hf x
  | 0, x, _ => rfl
  | n + 1, x, hl => by
    cases x with
    | v y => rfl
    | e0 => rfl
    | psl sz es => rfl
    | pptr cs => rfl
    | top => rfl
    | tup cs => rfl
    | agg cs => simp only [pur, omap_congr (fun c hc => pur_local hes n c (fun b hb => hl b (List.mem_flatMap.2 ⟨c, hc, hb⟩)))]
    | fn f cs => simp only [pur, omap_congr (fun c hc => pur_local hes n c (fun b hb => hl b (List.mem_flatMap.2 ⟨c, hc, hb⟩)))]
    | ptr b' i off =>
      have h1 := hl b' (by rw [reach]; exact List.mem_cons_self ..)
      simp only [pur, h1]
      cases hbk : hf b' with
      | none => rfl
      | some blk =>
        obtain ⟨blk2, h2, h3⟩ : ∃ k, h b' = some k ∧ k.es = blk.es := by
          have := hes b'
          rw [hbk] at this
          simp only [Option.map_some] at this
          cases h2 : h b' with
          | none => rw [h2] at this; cases this
          | some k => rw [h2] at this; simp at this; exact ⟨k, rfl, this.symm⟩
        have : ∀ c ∈ (blk.es.getD i []).drop off, pur n gf c = pur n hf c := fun c hc => by
          refine pur_local hes n c (fun b hb => hl b ?_)
          rw [reach, h2]
          simp only [h3]
          by_cases hi : i < blk.es.length
          · exact List.mem_cons_of_mem _ (List.mem_flatMap.2 ⟨_, getD_mem blk.es i [] hi, List.mem_flatMap.2 ⟨c, List.mem_of_mem_drop hc, hb⟩⟩)
          · have : blk.es.getD i [] = [] := by rw [List.getD_eq_getElem?_getD, List.getElem?_eq_none (by omega)]; rfl
            rw [this] at hc
            simp at hc
        simp only [omap_congr this]
    | sl b' o len =>
      have h1 := hl b' (by rw [reach]; exact List.mem_cons_self ..)
      simp only [pur, h1]
      cases hbk : hf b' with
      | none => rfl
      | some blk =>
        obtain ⟨blk2, h2, h3⟩ : ∃ k, h b' = some k ∧ k.es = blk.es := by
          have := hes b'
          rw [hbk] at this
          simp only [Option.map_some] at this
          cases h2 : h b' with
          | none => rw [h2] at this; cases this
          | some k => rw [h2] at this; simp at this; exact ⟨k, rfl, this.symm⟩
        have : ∀ e ∈ (blk.es.drop o).take len, omap (pur n gf) e = omap (pur n hf) e := fun e he => omap_congr (fun c hc => by
          refine pur_local hes n c (fun b hb => hl b ?_)
          rw [reach, h2]
          simp only [h3]
          exact List.mem_cons_of_mem _ (List.mem_flatMap.2 ⟨e, List.mem_of_mem_drop (List.mem_of_mem_take he), List.mem_flatMap.2 ⟨c, hc, hb⟩⟩))
        simp only [omap_congr this]

theorem aread_local {h g : AHeap} {P : Program} {x : AV} (hl : ∀ b ∈ x.direct, g b = h b) : aread g P x = aread h P x := by
  unfold aread
  split <;> first | rfl | (rename_i b o len; rw [hl b (by simp [AV.direct])])

theorem freezes_local {h g : AHeap} {l : List Nat} (hl : ∀ b ∈ l, g b = h b) : freezes g l = freezes h l := by
  unfold freezes
  have h1 : l.filter (liveB g) = l.filter (liveB h) := List.filter_congr (fun b hb => by unfold liveB; rw [hl b hb])
  rw [h1]
  exact List.map_congr_left (fun b hb => by rw [hl b (List.mem_filter.1 hb).1])

theorem ownOf_local {h g : AHeap} {x : AV} (hl : ∀ b ∈ reach (depth + 1) h x, g b = h b) : ownOf g x = ownOf h x := by
  unfold ownOf
  split
  · rename_i b len
    rw [hl b (by rw [reach]; exact List.mem_cons_self ..)]
  · rfl

theorem apure_local {P : Program} {o : Oper} {e f : Nat → AV} (hsel : ∀ cs b, o.op ≠ .select cs b) (h : ∀ x ∈ o.op.operands, aevalO f x = aevalO e x) : apure P o f = apure P o e := by
  unfold apure
  have h1 : (o.op.operands.all fun x => (scal (aevalO f x)).isSome) = (o.op.operands.all fun x => (scal (aevalO e x)).isSome) := by
    rw [Bool.eq_iff_iff, Array.all_eq_true', Array.all_eq_true']
    constructor
    · intro g x hx; rw [← h x hx]; exact g x hx
    · intro g x hx; rw [h x hx]; exact g x hx
  have h2 : execOp (fun x => (scal (aevalO f x)).getD undef) o = execOp (fun x => (scal (aevalO e x)).getD undef) o := execOp_congr o hsel (fun x hx => by rw [h x hx])
  rw [h1, h2]
end Go.Abs
