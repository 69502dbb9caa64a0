/-
An abstract interpreter, part R: it is sound.
-/
import Derived.Test.YtmeepaihgipacaaGreatAbsQ
set_option linter.unusedVariables false
set_option linter.unusedSimpArgs false
namespace Go.Abs

section
variable {C : Ctx} {n : Nat}

/-- The number of a block belongs to what has been done. -/
def Done (nxt : Nat) (N : Nat) (sts : Nat → St) (outs : Nat → Out) (L : Nat → Bool) (b : Nat) : Prop := b < nxt ∨ ∃ i, i < N ∧ L i = true ∧ (sts i).nxt ≤ b ∧ b < (sts i).nxt + (outs i).cnt

theorem looks_eval {ops : Array Oper} {o : Oper} {e f : Nat → AV} (h : ∀ t ∈ looks ops o, f t = e t) : (∀ x ∈ o.op.operands, aevalO f x = aevalO e x) ∧ guardA ops f o = guardA ops e o := by
  constructor
  · intro x hx
    cases x with
    | tmp t => exact h t (List.mem_append_left _ (List.mem_filterMap.2 ⟨.tmp t, Array.mem_toList_iff.2 hx, rfl⟩))
    | _ => rfl
  · unfold guardA
    cases hg : o.guard with
    | none => rfl
    | some p =>
      obtain ⟨j, want⟩ := p
      simp only
      cases ht : (ops[j]?).bind (·.dst) with
      | none => rfl
      | some t =>
        have : f t = e t := h t (by
          unfold looks
          rw [hg]
          exact List.mem_append_right _ (by simp [ht]))
        simp only [this]

theorem draw_sound {E : Env} {rec : Code → St → Option (Ex × St)} (hrec : RecOk E.P rec) (hprim : PrimOk E) (hmix : E.P.follows .mixedOrders = true) {ops : Array Oper} (hok : drawOk ops = true) {id : Nat} {m : Map} {S : Nat → Prop} {w : World} {st st' : St} {tr : Trace} {a : Act} (hrun : adraw E rec ops ops.toList st [] = some (st', tr))
    (htr : traceOk (befores ops.toList) tr = true) (hd : ∀ o ∈ ops.toList, ∀ d, o.dst = some d → d < n) (R : Rel C m S (fun b => b < st.nxt) w st.heap) (he : EnvRel n m S w a st.env) {Q : Exit → Act → World → Prop}
    (hQ : ∀ a' w' m' S', Rel C m' S' (fun b => b < st'.nxt) w' st'.heap → EnvRel n m' S' w' a' st'.env → Later C m m' S S' w w' → st.nxt ≤ st'.nxt → Q .normal a' w') : (Code.region id ops true).wp E.P Q a w := by
  obtain ⟨tr1, sts, outs, htr1, run⟩ := adraw_run _ _ _ _ _ hrun
  rw [List.nil_append] at htr1
  subst htr1
  have hN : ops.toList.length = ops.size := by simp
  have hst := lex_states run
  have hnx : ∀ j i, j < i → i ≤ ops.toList.length → (sts j).nxt + (outs j).cnt ≤ (sts i).nxt := fun j i hji hi => (hst i hi).2.2.2 j hji
  let hp : (Nat → Bool) → AHeap := fun L => foldU (fun i => (outs i).upd) L ops.toList.length st.heap
  let tm : (Nat → Bool) → Nat → AV := fun L => foldU (eUpd ops.toList outs) L ops.toList.length st.env
  let lst : Array Bool → Nat → Bool := fun listed i => listed.getD i true
  let J : Array Bool → Act → World → Prop := fun listed a' w' =>
    (∀ j, j < ops.toList.length → lst listed j = true → ∀ i ∈ (befores ops.toList).getD j [], lst listed i = true) ∧
    ∃ m' S', Rel C m' S' (Done st.nxt ops.toList.length sts outs (lst listed)) w' (hp (lst listed)) ∧ EnvRel n m' S' w' a' (tm (lst listed)) ∧ Later C m m' S S' w w'
  refine wp_region_any hmix ?_
  have Rd := R.drew
  refine wpAny_inv J ?_ ?_ ops.size (Array.replicate ops.size false) a { w with drawn := w.drawn + 1 } (by simp) (by simp [List.count_replicate]) ?_
  · -- one more operation
    rintro listed a' w' i hls ⟨hcl, m', S', R', he', L'⟩ hready
    obtain ⟨hunl, o, ho, hedges⟩ := mem_ready.1 hready
    have hil : i < ops.size := (Array.getElem?_eq_some_iff.1 ho).1
    have hi : i < ops.toList.length := by omega
    have hol : ops.toList[i]? = some o := by simpa using ho
    have hLi : lst listed i = false := hunl
    have hgt : ∀ j, listed.getD j false = true → lst listed j = true := fun j hj => by
      simp only [lst, Array.getD_eq_getD_getElem?] at hj ⊢
      cases h1 : listed[j]? with
      | none => rfl
      | some b => rw [h1] at hj; simpa using hj
    have hbef : ∀ x ∈ (befores ops.toList).getD i [], lst listed x = true := by
      intro x hx
      obtain ⟨e, he1, hb, hx⟩ := befores_spec hol x hx
      have h1 := hgt _ (hedges e he1 hb)
      rcases hx with rfl | hx
      · exact h1
      · have hlt : e.on < ops.toList.length := by have := drawOk_edges hok ho e he1 hb; omega
        exact hcl e.on hlt h1 x hx
    have hafter : ∀ j, i < j → j < ops.toList.length → i ∈ (befores ops.toList).getD j [] → lst listed j = false := by
      intro j hij hj hm
      cases h1 : lst listed j with
      | false => rfl
      | true => rw [hcl j hj h1 i hm] at hLi; cases hLi
    obtain ⟨o', ho', hput, hcase⟩ := run.step i hi
    rw [hol] at ho'
    cases ho'
    -- what it looks at is as it was in the order of the text
    have look : ∀ t ∈ looks ops o, tm (lst listed) t = (sts i).env t := by
      intro t ht
      rw [(hst i (by omega)).1]
      have ext : foldU (eUpd ops.toList outs) (fun _ => true) i st.env t = foldU (eUpd ops.toList outs) (fun j => decide (j < i)) ops.toList.length st.env t := by
        have : ∀ k, k ≤ ops.toList.length → i ≤ k → foldU (eUpd ops.toList outs) (fun j => decide (j < i)) k st.env t = foldU (eUpd ops.toList outs) (fun _ => true) i st.env t := by
          intro k
          induction k with
          | zero => intro _ hik; obtain rfl : i = 0 := (by omega); rfl
          | succ k ih =>
            intro hk hik
            rcases Nat.lt_or_ge k i with h1 | h1
            · obtain rfl : i = k + 1 := by omega
              exact foldU_congr _ _ _ t (k + 1) _ (fun j hj _ => by simp; omega)
            · simp only [foldU]
              rw [if_neg (by simp; omega)]
              exact ih (by omega) h1
        exact (this _ (Nat.le_refl _) (by omega)).symm
      rw [ext]
      refine foldU_congr _ _ _ t _ _ (fun j hj hp => ?_)
      obtain ⟨p, hp1, hp2⟩ := hp
      have hdst : ∃ oj, ops[j]? = some oj ∧ oj.dst = some t := by
        unfold eUpd at hp1
        cases hoj : ops.toList[j]? with
        | none => rw [hoj] at hp1; simp at hp1
        | some oj =>
          rw [hoj] at hp1
          cases hd' : oj.dst with
          | none => simp [hd'] at hp1
          | some d => simp [hd'] at hp1; subst hp1; exact ⟨oj, by simpa using hoj, by rw [hd', ← hp2]⟩
      obtain ⟨oj, hoj, hdj⟩ := hdst
      rcases Nat.lt_trichotomy j i with h1 | h1 | h1
      · rw [hbef j (drawOk_pair hok hoj ho h1 (.inl (meets_of (x := t) (by simp [hdj]) ht)))]
        simp [h1]
      · subst h1; rw [hLi]; simp
      · rw [hafter j h1 hj (drawOk_pair hok ho hoj h1 (.inr (.inr (meets_of (x := t) ht (by simp [hdj])))))]
        simp; omega
    obtain ⟨lookE, lookG⟩ := looks_eval look
    -- the new list
    have hset : ∀ j, j ≠ i → lst (listed.setIfInBounds i true) j = lst listed j := fun j hj => getD_set_ne true (fun e => hj e.symm)
    have hseti : lst (listed.setIfInBounds i true) i = true := by
      simp [lst, Array.getD_eq_getD_getElem?, Array.getElem?_setIfInBounds, show i < listed.size by omega]
    have tmNew : ∀ x : AV, (outs i).val = x → tm (lst (listed.setIfInBounds i true)) = putEnv (tm (lst listed)) o.dst x := by
      rintro x rfl
      funext t
      have := foldU_add (eUpd ops.toList outs) (lst listed) (lst (listed.setIfInBounds i true)) i hLi hseti hset t ops.toList.length st.env hi (by
        intro j hij hj hLj p hp q hq heq
        unfold eUpd at hp hq
        rw [hol] at hp
        cases hoj : ops.toList[j]? with
        | none => rw [hoj] at hq; simp at hq
        | some oj =>
          rw [hoj] at hq
          cases hd1 : o.dst with
          | none => simp [hd1] at hp
          | some d1 =>
            cases hd2 : oj.dst with
            | none => simp [hd2] at hq
            | some d2 =>
              simp [hd1] at hp
              simp [hd2] at hq
              subst hp hq
              simp only at heq
              have := hafter j hij hj (drawOk_pair hok ho (by simpa using hoj) hij (.inr (.inl (meets_of (x := d1) (by simp [hd1]) (by simp [hd2, heq])))))
              rw [this] at hLj
              cases hLj)
      simp only [tm]
      rw [this]
      unfold eUpd
      rw [hol]
      simp only [Option.bind_some, putEnv]
      cases o.dst <;> rfl
    have clNew : ∀ j, j < ops.toList.length → lst (listed.setIfInBounds i true) j = true → ∀ x ∈ (befores ops.toList).getD j [], lst (listed.setIfInBounds i true) x = true := by
      intro j hj hLj x hx
      by_cases e : x = i
      · rw [e]; exact hseti
      · rw [hset x e]
        by_cases e' : j = i
        · exact hbef x (e' ▸ hx)
        · rw [hset j e'] at hLj
          exact hcl j hj hLj x hx
    unfold wpOp
    rw [ho]
    simp only
    rcases hcase with ⟨hg, hs, htri⟩ | ⟨hg, hs⟩
    · -- it is carried out
      rw [if_pos (guard_sound (st := ⟨tm (lst listed), hp (lst listed), 0⟩) he' (by show guardA ops (tm (lst listed)) o = some _; rw [lookG]; exact hg))]
      left
      have keyOf : ∀ (j : Nat) (b : Nat), j < ops.toList.length → (∃ p ∈ (outs j).upd, p.1 = b) → b ∈ (tr.getD j ([], [])).2 := by
        intro j b hj ⟨p, hp1, hp2⟩
        obtain ⟨oj, _, _, hc⟩ := run.step j hj
        rcases hc with ⟨_, _, h3⟩ | ⟨_, h3⟩
        · rw [h3]
          exact List.mem_map.2 ⟨p, hp1, hp2⟩
        · rw [h3] at hp1; simp [skipOut] at hp1
      have lookH : ∀ b, (b ∈ (tr.getD i ([], [])).1 ∨ b ∈ (tr.getD i ([], [])).2) → hp (lst listed) b = (sts i).heap b := by
        intro b hb
        rw [(hst i (by omega)).2.1]
        have ext : foldU (fun i => (outs i).upd) (fun _ => true) i st.heap b = foldU (fun i => (outs i).upd) (fun j => decide (j < i)) ops.toList.length st.heap b := by
          have : ∀ k, k ≤ ops.toList.length → i ≤ k → foldU (fun i => (outs i).upd) (fun j => decide (j < i)) k st.heap b = foldU (fun i => (outs i).upd) (fun _ => true) i st.heap b := by
            intro k
            induction k with
            | zero => intro _ hik; obtain rfl : i = 0 := (by omega); rfl
            | succ k ih =>
              intro hk hik
              rcases Nat.lt_or_ge k i with h1 | h1
              · obtain rfl : i = k + 1 := by omega
                exact foldU_congr _ _ _ b (k + 1) _ (fun j hj _ => by simp; omega)
              · simp only [foldU]
                rw [if_neg (by simp; omega)]
                exact ih (by omega) h1
          exact (this _ (Nat.le_refl _) (by omega)).symm
        rw [ext]
        refine foldU_congr _ _ _ b _ _ (fun j hj hp => ?_)
        have hkj := keyOf j b hj hp
        rcases Nat.lt_trichotomy j i with h1 | h1 | h1
        · have hm : meets (tr.getD j ([], [])).2 (tr.getD i ([], [])).1 = true ∨ meets (tr.getD j ([], [])).2 (tr.getD i ([], [])).2 = true ∨ meets (tr.getD j ([], [])).1 (tr.getD i ([], [])).2 = true := by
            rcases hb with hb | hb
            · exact .inl (meets_of hkj hb)
            · exact .inr (.inl (meets_of hkj hb))
          rw [hbef j (traceOk_pair htr (by rw [run.len]; exact hi) h1 hm)]
          simp [h1]
        · subst h1; rw [hLi]; simp
        · have hm : meets (tr.getD i ([], [])).2 (tr.getD j ([], [])).1 = true ∨ meets (tr.getD i ([], [])).2 (tr.getD j ([], [])).2 = true ∨ meets (tr.getD i ([], [])).1 (tr.getD j ([], [])).2 = true := by
            rcases hb with hb | hb
            · exact .inr (.inr (meets_of hb hkj))
            · exact .inr (.inl (meets_of hb hkj))
          rw [hafter j h1 hj (traceOk_pair htr (by rw [run.len]; exact hj) h1 hm)]
          simp; omega
      have hs' : astep E rec o ⟨tm (lst listed), hp (lst listed), (sts i).nxt⟩ = some (outs i) := by
        rw [← hs]
        refine astep_local lookE (fun b hb => lookH b (.inl ?_)) rfl
        rw [htri]
        exact hb
      have hfresh : ∀ b, (sts i).nxt ≤ b → b < (sts i).nxt + (outs i).cnt → ¬ Done st.nxt ops.toList.length sts outs (lst listed) b := by
        rintro b h1 h2 (h3 | ⟨j, hj, hLj, h3, h4⟩)
        · have := (hst i (by omega)).2.2.1; omega
        · rcases Nat.lt_trichotomy j i with h5 | h5 | h5
          · have := hnx j i h5 (by omega); omega
          · subst h5; rw [hLi] at hLj; cases hLj
          · have := hnx i j h5 (by omega); omega
      refine astep_sound hrec hprim (D := Done st.nxt ops.toList.length sts outs (lst listed)) (st := ⟨tm (lst listed), hp (lst listed), (sts i).nxt⟩) R' he' hfresh hs' _ _ (fun v w2 m2 S2 R2 L2 hr2 => ?_)
      refine ⟨clNew, m2, S2, ?_, ?_, L'.trans L2⟩
      · have hheap : hp (lst (listed.setIfInBounds i true)) = applyUpd (hp (lst listed)) (outs i).upd := by
          funext b
          have := foldU_add (fun i => (outs i).upd) (lst listed) (lst (listed.setIfInBounds i true)) i hLi hseti hset b ops.toList.length st.heap hi (by
            intro j hij hj hLj p hp1 q hq heq
            have k1 := keyOf i p.1 hi ⟨p, hp1, rfl⟩
            have k2 := keyOf j q.1 hj ⟨q, hq, rfl⟩
            rw [← heq] at k2
            have := hafter j hij hj (traceOk_pair htr (by rw [run.len]; exact hj) hij (.inr (.inl (meets_of k1 k2))))
            rw [this] at hLj
            cases hLj)
          exact this
        rw [hheap]
        refine R2.weaken (fun b hb => ?_)
        rcases hb with (hb | ⟨j, hj, hLj, h3, h4⟩) | hb
        · exact .inl hb
        · exact .inr ⟨j, hj, by rw [hset j (fun e => by rw [e, hLi] at hLj; cases hLj)]; exact hLj, h3, h4⟩
        · exact .inr ⟨i, hi, hseti, hb⟩
      · rw [tmNew _ rfl]
        exact (he'.mono L2.ms L2.ss L2.same).put o.dst (hd o (List.mem_of_getElem? hol)) _ v hr2
    · -- it is passed over
      have hwf := guard_sound (st := ⟨tm (lst listed), hp (lst listed), 0⟩) he' (by show guardA ops (tm (lst listed)) o = some _; rw [lookG]; exact hg)
      rw [if_neg (by rw [hwf]; simp)]
      refine ⟨clNew, m', S', ?_, ?_, L'⟩
      · have hheap : hp (lst (listed.setIfInBounds i true)) = hp (lst listed) := by
          funext b
          refine foldU_congr _ _ _ b _ _ (fun j hj hpj => ?_)
          by_cases e : j = i
          · subst e
            obtain ⟨p, hp1, _⟩ := hpj
            simp only [hs, skipOut] at hp1
            cases hp1
          · exact hset j e
        rw [hheap]
        refine R'.weaken (fun b hb => ?_)
        rcases hb with hb | ⟨j, hj, hLj, h3, h4⟩
        · exact .inl hb
        · exact .inr ⟨j, hj, by rw [hset j (fun e => by rw [e, hLi] at hLj; cases hLj)]; exact hLj, h3, h4⟩
      · rw [tmNew undefA (by rw [hs]; rfl)]
        exact he'.put o.dst (hd o (List.mem_of_getElem? hol)) undefA undef (.pure (.v _))
  · -- all is done
    rintro listed a' w' hls ⟨hcl, m', S', R', he', L'⟩ hnone
    have hall : ∀ i, i < ops.toList.length → lst listed i = true := by
      intro i
      induction i using Nat.strongRecOn with
      | _ i ih =>
        intro hi
        cases h1 : lst listed i with
        | true => rfl
        | false =>
          exfalso
          have hil : i < ops.size := by omega
          have : i ∈ Region.ready .any ops listed := mem_ready.2 ⟨h1, ops[i], Array.getElem?_eq_getElem hil, fun e he hb => by
            have hlt := drawOk_edges hok (Array.getElem?_eq_getElem hil) e he hb
            have h2 := ih e.on hlt (by omega)
            have h3 : e.on < listed.size := by omega
            simp only [lst, Array.getD_eq_getD_getElem?, Array.getElem?_eq_getElem h3] at h2 ⊢
            exact h2⟩
          rw [hnone] at this
          cases this
    have hlast := hst ops.toList.length (Nat.le_refl _)
    rw [run.last] at hlast
    have h1 : hp (lst listed) = st'.heap := by
      rw [hlast.2.1]
      funext b
      exact foldU_congr _ _ _ b _ _ (fun j hj _ => hall j hj)
    have h2 : tm (lst listed) = st'.env := by
      rw [hlast.1]
      funext t
      exact foldU_congr _ _ _ t _ _ (fun j hj _ => hall j hj)
    rw [h1] at R'
    rw [h2] at he'
    refine hQ a' w' m' S' (R'.weaken (fun b hb => ?_)) he' L' hlast.2.2.1
    rcases hb with hb | ⟨j, hj, _, h3, h4⟩
    · have := hlast.2.2.1; omega
    · have := hlast.2.2.2 j hj; omega
  · -- nothing is done yet
    have hL0 : ∀ j, j < ops.toList.length → lst (Array.replicate ops.size false) j = false := fun j hj => by
      simp [lst, Array.getD_eq_getD_getElem?, Array.getElem?_replicate, show j < ops.size by omega]
    have h1 : hp (lst (Array.replicate ops.size false)) = st.heap := by
      have : ∀ k, k ≤ ops.toList.length → foldU (fun i => (outs i).upd) (lst (Array.replicate ops.size false)) k st.heap = st.heap := by
        intro k
        induction k with
        | zero => intro _; rfl
        | succ k ih => intro hk; simp only [foldU]; rw [hL0 k (by omega)]; simpa using ih (by omega)
      exact this _ (Nat.le_refl _)
    have h2 : tm (lst (Array.replicate ops.size false)) = st.env := by
      have : ∀ k, k ≤ ops.toList.length → foldU (eUpd ops.toList outs) (lst (Array.replicate ops.size false)) k st.env = st.env := by
        intro k
        induction k with
        | zero => intro _; rfl
        | succ k ih => intro hk; simp only [foldU]; rw [hL0 k (by omega)]; simpa using ih (by omega)
      exact this _ (Nat.le_refl _)
    refine ⟨fun j hj hLj => (by rw [hL0 j hj] at hLj; cases hLj), m, S, ?_, ?_, Rd.2⟩
    · rw [h1]
      exact Rd.1.weaken (fun b hb => .inl hb)
    · rw [h2]
      exact he.mono (fun _ _ h => h) (fun _ h => h) (fun _ _ => rfl)

end

theorem dsts_region {P : Nat → Bool} {id : Nat} {ops : Array Oper} {draw : Bool} (h : codeDsts P (.region id ops draw) = true) : ∀ o ∈ ops.toList, ∀ d, o.dst = some d → P d = true := by
  intro o ho d hd
  simp only [codeDsts, Bool.and_eq_true, Array.all_eq_true'] at h
  have := h.1 o (Array.mem_toList_iff.1 ho)
  rw [hd] at this
  exact this

def RoundsOk (P : Program) (n : Nat) (rec : Code → St → Option (Ex × St)) : Prop :=
  ∀ (c : Code) (nt : Nat) (C : Ctx) (m : Map) (S : Nat → Prop) (w : World) (st : St) (a : Act) (x : Ex) (st' : St), rec (.loop c) st = some (x, st') → codeDsts (fun d => decide (d < nt)) c = true →
    Rel C m S (fun b => b < st.nxt) w st.heap → EnvRel nt m S w a st.env → ∀ (Q : Exit → Act → World → Prop),
    (∀ a' w' m' S', Rel C m' S' (fun b => b < st'.nxt) w' st'.heap → EnvRel nt m' S' w' a' st'.env → Later C m m' S S' w w' → st.nxt ≤ st'.nxt → Q (exOf x) a' w') → Code.rounds P c Q n a w

theorem aexec_both {E : Env} (hprim : PrimOk E) (hmix : E.P.follows .mixedOrders = true) : ∀ n, RecOk E.P (aexec E n) ∧ RoundsOk E.P n (aexec E n)
  | 0 => ⟨by intro c nt C m S w st a x st' h; simp [aexec] at h, by intro c nt C m S w st a x st' h; simp [aexec] at h⟩
  | n + 1 => by
    obtain ⟨ih, ihr⟩ := aexec_both hprim hmix n
    have hround : RoundsOk E.P (n + 1) (aexec E (n + 1)) := by
      intro c nt C m S w st a x st' h hds R he Q hQ
      rw [rounds_succ]
      simp only [aexec] at h
      split at h
      · rename_i st1 h1
        refine ih c nt C m S w st a _ _ h1 hds R he _ (fun a1 w1 m1 S1 R1 he1 L1 hn1 => ?_)
        exact ihr c nt C m1 S1 w1 st1 a1 x st' h hds R1 he1 Q (fun a2 w2 m2 S2 R2 he2 L2 hn2 => hQ a2 w2 m2 S2 R2 he2 (L1.trans L2) (Nat.le_trans hn1 hn2))
      · rename_i h1
        refine ih c nt C m S w st a x st' h hds R he _ (fun a1 w1 m1 S1 R1 he1 L1 hn1 => ?_)
        have := hQ a1 w1 m1 S1 R1 he1 L1 hn1
        cases x with
        | normal => exact absurd h (h1 _)
        | exit i => exact this
        | ret => exact this
    refine ⟨?_, hround⟩
    intro c nt C m S w st a x st' h hds R he Q hQ
    have keep : some (Ex.normal, st) = some (x, st') → Q .normal a w := by
      intro h
      simp only [Option.some.injEq, Prod.mk.injEq] at h
      obtain ⟨rfl, rfl⟩ := h
      exact hQ a w m S R he (Later.refl C m S w) (Nat.le_refl _)
    cases c with
    | skip => exact wp_skip (keep (by simpa only [aexec] using h))
    | label l => exact wp_label (keep (by simpa only [aexec] using h))
    | seq c1 c2 =>
      simp only [codeDsts, Bool.and_eq_true] at hds
      simp only [aexec] at h
      refine wp_seq ?_
      split at h
      · rename_i st1 h1
        refine ih c1 nt C m S w st a _ _ h1 hds.1 R he _ (fun a1 w1 m1 S1 R1 he1 L1 hn1 => ?_)
        exact ih c2 nt C m1 S1 w1 st1 a1 x st' h hds.2 R1 he1 Q (fun a2 w2 m2 S2 R2 he2 L2 hn2 => hQ a2 w2 m2 S2 R2 he2 (L1.trans L2) (Nat.le_trans hn1 hn2))
      · rename_i h1
        refine ih c1 nt C m S w st a x st' h hds.1 R he _ (fun a1 w1 m1 S1 R1 he1 L1 hn1 => ?_)
        have := hQ a1 w1 m1 S1 R1 he1 L1 hn1
        cases x with
        | normal => exact absurd h (h1 _)
        | exit i => exact this
        | ret => exact this
    | cond y c1 c2 =>
      simp only [codeDsts, Bool.and_eq_true] at hds
      simp only [aexec] at h
      split at h
      · rename_i t ht
        refine wp_cond (t := t) ?_ ?_
        · have := he.eval y
          rw [ht] at this
          exact this.v_inv
        · cases t
          · exact ih c2 nt C m S w st a x st' h hds.2 R he Q hQ
          · exact ih c1 nt C m S w st a x st' h hds.1 R he Q hQ
      · cases h
    | block id c1 =>
      simp only [codeDsts] at hds
      simp only [aexec] at h
      refine wp_block ?_
      split at h
      · rename_i j st1 h1
        simp only [Option.some.injEq, Prod.mk.injEq] at h
        obtain ⟨rfl, rfl⟩ := h
        refine ih c1 nt C m S w st a _ _ h1 hds R he _ (fun a1 w1 m1 S1 R1 he1 L1 hn1 => ?_)
        have := hQ a1 w1 m1 S1 R1 he1 L1 hn1
        show if j = id then Q .normal a1 w1 else Q (.exit j) a1 w1
        split at this <;> rename_i hj <;> simp only [hj, if_true, if_false] <;> exact this
      · rename_i h1
        refine ih c1 nt C m S w st a x st' h hds R he _ (fun a1 w1 m1 S1 R1 he1 L1 hn1 => ?_)
        have := hQ a1 w1 m1 S1 R1 he1 L1 hn1
        cases x with
        | normal => exact this
        | exit i => exact absurd h (h1 _ _)
        | ret => exact this
    | loop c1 =>
      exact wp_loop_rounds (n + 1) (hround c1 nt C m S w st a x st' h (by simpa only [codeDsts] using hds) R he Q hQ)
    | exit id =>
      simp only [aexec, Option.some.injEq, Prod.mk.injEq] at h
      obtain ⟨rfl, rfl⟩ := h
      exact wp_exit (hQ a w m S R he (Later.refl C m S w) (Nat.le_refl _))
    | ret =>
      simp only [aexec, Option.some.injEq, Prod.mk.injEq] at h
      obtain ⟨rfl, rfl⟩ := h
      exact wp_ret (hQ a w m S R he (Later.refl C m S w) (Nat.le_refl _))
    | region id ops draw =>
      have hd : ∀ o ∈ ops.toList, ∀ d, o.dst = some d → d < nt := fun o ho d hd => by simpa using dsts_region hds o ho d hd
      simp only [aexec] at h
      split at h
      · rename_i hdraw
        subst hdraw
        have hok : drawOk ops = true := by
          simp only [codeDsts, Bool.and_eq_true, Bool.not_true, Bool.false_or] at hds
          exact hds.2
        split at h
        · rename_i st1 tr h1
          split at h
          · rename_i htr
            simp only [Option.some.injEq, Prod.mk.injEq] at h
            obtain ⟨rfl, rfl⟩ := h
            exact draw_sound ih hprim hmix hok h1 htr hd R he hQ
          · cases h
        · cases h
      · rename_i hdraw
        simp only [Bool.not_eq_true] at hdraw
        subst hdraw
        simp only [Option.map_eq_some_iff, Prod.mk.injEq] at h
        obtain ⟨st1, h1, rfl, rfl⟩ := h
        exact wp_region_list (areg_sound ih hprim _ m S w st a st1 h1 hd R he hQ)
    | _ => simp [aexec] at h

theorem aexec_ok {E : Env} (hprim : PrimOk E) (hmix : E.P.follows .mixedOrders = true) (n : Nat) : RecOk E.P (aexec E n) := (aexec_both hprim hmix n).1

end Go.Abs
