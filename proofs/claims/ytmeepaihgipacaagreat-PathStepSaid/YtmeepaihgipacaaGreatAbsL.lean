/-
An abstract interpreter, part L: the results of a call, at its end and in the caller.
-/
import Derived.Test.YtmeepaihgipacaaGreatAbsK
set_option linter.unusedVariables false
set_option linter.unusedSimpArgs false
namespace Go.Abs

/-- A part of a result, in a world; `N`: where memory that is the receiver's own may lie. -/
def RCRep (S N : Nat → Prop) (w : World) : RC → Value → Prop
  | .p x, v => PRep S w x v
  | .own sz es, v => ∃ B ct arr ty, v = .slice (some ⟨B, 0, none⟩) es.length ct ∧ w.heap[B]? = some (.cells arr ty (0, 0)) ∧ arr.size = ct * sz ∧ es.length ≤ ct ∧ (∀ e ∈ es, e.length = sz) ∧
      (∀ i j, i < es.length → j < sz → PRep S w ((es.getD i []).getD j undefA) (arr.getD (i * sz + j) undef)) ∧ N B ∧ ¬ S B

def tupV (us : Array Value) : Value := if h : us.size = 1 then us[0] else .tuple us

instance : Inhabited RC := ⟨.p undefA⟩

/-- The results in the caller's sight. -/
def Res (S N : Nat → Prop) (w : World) (rcs : List RC) (v : Value) : Prop :=
  ∃ us : Array Value, v = tupV us ∧ us.size = rcs.length ∧ (∀ i, i < rcs.length → RCRep S N w (rcs.getD i default) (us.getD i undef)) ∧ ownCount rcs ≤ 1

/-- What a call brings that works on no heap of the caller's but for the rows in L, which it is handed. -/
def CallPost (L S : Nat → Prop) (w : World) (rcs : List RC) (e : Ending) (w' : World) : Prop :=
  ∃ v S', e = .returned v ∧ Ext L w w' ∧ (∀ k, S k → S' k) ∧ (∀ k, S' k → S k ∨ L k ∨ w.heap.size ≤ k) ∧ (∀ k, S' k → k < w'.heap.size) ∧ Res S' (fun k => L k ∨ w.heap.size ≤ k) w' rcs v

section
variable {P : Program} {C : Ctx} {m : Map} {S D : Nat → Prop} {w : World} {h : AHeap}

theorem ownOf_some {c : AV} {b : Nat} (hc : ownOf h c = some b) : ∃ blk, c = .sl b 0 blk.es.length ∧ h b = some blk ∧ blk.lv = true := by
  unfold ownOf at hc
  split at hc
  · rename_i b' len
    split at hc
    · rename_i blk hb
      split at hc
      · rename_i hl
        simp only [Option.some.injEq] at hc
        subst hc
        exact ⟨blk, by rw [← hl.2], hb, hl.1⟩
      · cases hc
    · cases hc
  · cases hc

theorem finish_sound (R : Rel C m S D w h) (hL : C.L0 = fun _ => False) {r : List AV} {rcs : List RC} (hf : finish h r = some rcs) {us : Array Value} (hus : us.size = r.length) (hr : ∀ i, i < r.length → ARep m S w (r.getD i undefA) (us.getD i undef)) :
    ∃ S', (∀ k, S k → S' k) ∧ (∀ k, S' k → S k ∨ C.w0.heap.size ≤ k) ∧ (∀ k, S' k → k < w.heap.size) ∧ Res S' (fun k => C.w0.heap.size ≤ k) w rcs (tupV us) := by
  unfold finish at hf
  split at hf
  · rename_i l hl
    split at hf
    · rename_i hcount
      simp only [Option.some.injEq] at hf
      subst hf
      generalize hob : r.findSome? (ownOf h) = ob at hl
      obtain ⟨h1, h2⟩ := omap_spec hl
      have RE : Rel C m (fun k => S k ∨ memOf m h (fun b => ob ≠ some b) k) D w (endHeap h ob) := by
        refine R.freeze _ _ ?_ ?_ ?_
        · intro b x' hb'
          unfold endHeap at hb'
          split at hb'
          · cases hb'
          · rename_i hne
            simp only [Option.map_eq_some_iff] at hb'
            obtain ⟨x, hx, rfl⟩ := hb'
            exact ⟨x, hx, rfl, rfl, .inl ⟨hne, rfl⟩⟩
        · rintro k ⟨b, x, y, _, hb, hy, rfl⟩
          obtain ⟨_, _, g2, g3⟩ := R.get hb (B := y.1) (sz := y.2.1) (ct := y.2.2) hy
          cases hlv : x.lv with
          | true => exact (g2 hlv).2.elim .inl (fun h => .inr (.inl h))
          | false => exact .inr (.inr (g3 hlv))
        · intro b x hb hlv
          unfold endHeap at hb
          split at hb
          · cases hb
          · simp only [Option.map_eq_some_iff] at hb
            obtain ⟨x0, _, rfl⟩ := hb
            cases hlv
      refine ⟨_, fun _ h => .inl h, ?_, RE.slt, us, rfl, by omega, fun i hi => ?_, hcount⟩
      · rintro k (hk | ⟨b, x, y, _, hb, hy, rfl⟩)
        · exact .inl hk
        · obtain ⟨_, _, g2, g3⟩ := R.get hb (B := y.1) (sz := y.2.1) (ct := y.2.2) hy
          cases hlv : x.lv with
          | true =>
            rcases (g2 hlv).2 with g4 | g4
            · rw [hL] at g4; exact g4.elim
            · exact .inr g4
          | false => exact .inl (g3 hlv)
      · have h3 := h2 i undefA default (by omega)
        have h4 := hr i (by omega)
        have h4' : ARep m (fun k => S k ∨ memOf m h (fun b => ob ≠ some b) k) w (r.getD i undefA) (us.getD i undef) := h4.mono (fun _ _ h => h) (fun _ h => .inl h) (fun _ _ => rfl)
        unfold finishOne at h3
        split at h3
        · rename_i b hown
          obtain ⟨blk, hc, hb, hlv⟩ := ownOf_some hown
          split at h3
          · rename_i hob'
            rw [hb] at h3
            simp only [Option.map_eq_some_iff] at h3
            obtain ⟨es', hes', h5⟩ := h3
            rw [← h5]
            rw [hc] at h4
            obtain ⟨B, sz, ct, cap, hm, hle, hcc, hv⟩ := h4.sl_inv
            obtain ⟨rfl, hh, g2, g3⟩ := R.get hb hm
            obtain ⟨hnS, hnew⟩ := g2 hlv
            obtain ⟨arr, ty, k1, k2, k3, k4, k5⟩ := hh
            obtain ⟨o1, o2⟩ := omap_spec hes'
            have hcap : cap = ct := by omega
            subst hcap
            have hin : ∀ i, i < blk.es.length → (es'.getD i []).length = blk.sz ∧ ∀ j, j < blk.sz → pur depth (endHeap h ob) ((blk.es.getD i []).getD j undefA) = some ((es'.getD i []).getD j undefA) := by
              intro i hi
              obtain ⟨q1, q2⟩ := omap_spec (o2 i [] [] hi)
              have q3 := k4 _ (getD_mem blk.es i [] hi)
              exact ⟨by omega, fun j hj => q2 j undefA undefA (by omega)⟩
            refine ⟨B, cap, arr, ty, ?_, k1, k2, by omega, ?_, ?_, ?_, ?_⟩
            · rw [hv, o1, Nat.zero_mul]
            · intro e he
              obtain ⟨q, hq, rfl⟩ := List.mem_iff_getElem.1 he
              have := (hin q (by omega)).1
              simpa [List.getD_eq_getElem?_getD, List.getElem?_eq_getElem hq] using this
            · intro i' j hi' hj
              have q4 := (k5 i' j (by omega) hj).mono (S' := fun k => S k ∨ memOf m h (fun b => ob ≠ some b) k) (w' := w) (fun _ _ h => h) (fun _ h => .inl h) (fun _ _ => rfl)
              exact pur_sound RE depth ((hin i' (by omega)).2 j hj) q4
            · rcases hnew with g4 | g4
              · rw [hL] at g4; exact g4.elim
              · exact g4
            · rintro (g4 | ⟨b2, x2, y2, hl2, hb2, hy2, heq⟩)
              · exact hnS g4
              · obtain ⟨_, _, p2, p3⟩ := R.get hb2 (B := y2.1) (sz := y2.2.1) (ct := y2.2.2) hy2
                cases hlv2 : x2.lv with
                | true =>
                  have := R.inj b2 b x2 blk y2 _ hb2 hb hlv2 hlv hy2 hm heq
                  exact hl2 (this ▸ hob')
                | false => exact hnS (heq ▸ p3 hlv2)
          · cases h3
        · split at h3
          · rename_i htop
            simp only [Option.some.injEq] at h3
            rw [← h3]
            unfold topE at htop
            split at htop
            · rename_i hc
              rw [hc] at h4'
              obtain ⟨A, hA⟩ := h4'.e0_inv
              rw [hA]
              exact .e0 A
            · rename_i hc
              rw [hc] at h4'
              rw [h4'.v_inv]
              exact .e0 none
            · cases htop
          · simp only [Option.map_eq_some_iff] at h3
            obtain ⟨y, hy, h5⟩ := h3
            rw [← h5]
            exact pur_sound RE depth hy h4'
    · cases hf
  · cases hf

/-- A block that has come from a callee. -/
theorem Rel.adopt (R : Rel C m S D w h) (nxt : Nat) (hn : ¬ D nxt) {B ct sz : Nat} {es : List (List AV)} {arr : Array Value} {ty : TypeId} (ha : w.heap[B]? = some (.cells arr ty (0, 0))) (hsz : arr.size = ct * sz) (hct : es.length ≤ ct) (hes : ∀ e ∈ es, e.length = sz)
    (hc : ∀ i j, i < es.length → j < sz → PRep S w ((es.getD i []).getD j undefA) (arr.getD (i * sz + j) undef)) (hnS : ¬ S B) (hB : C.L0 B ∨ C.w0.heap.size ≤ B) (hother : ∀ b x y, h b = some x → x.lv = true → m b = some y → y.1 ≠ B) :
    Rel C (fset m nxt (some (B, sz, ct))) S (fun b => D b ∨ (nxt ≤ b ∧ b < nxt + 1)) w (fset h nxt (some ⟨true, sz, es⟩)) ∧ MSub m (fset m nxt (some (B, sz, ct))) := by
  have hmn : m nxt = none := by
    cases e : m nxt with
    | none => rfl
    | some y => exact absurd (R.dom _ _ e) hn
  have hms : MSub m (fset m nxt (some (B, sz, ct))) := fun b y hb => by
    rw [fset_ne]
    · exact hb
    · rintro rfl; rw [hmn] at hb; cases hb
  refine ⟨(R.change hms rfl rfl rfl (Nat.le_refl _) (Nat.le_refl _) (fun _ _ => .inl rfl) ?_ ?_ ?_).1, hms⟩
  · intro b x hb
    by_cases e : b = nxt
    · subst e
      rw [fset_same] at hb
      cases hb
      exact .inr ⟨B, ct, fset_same _ _ _, fun _ => ⟨hnS, hB⟩, fun h => Bool.noConfusion h, arr, ty, ha, hsz, hct, hes, fun i j hi hj => .pure (hc i j hi hj)⟩
    · rw [fset_ne _ _ _ _ e] at hb
      exact .inl ⟨hb, fun _ _ => rfl⟩
  · intro b b' x x' y y' hb hb' hl hl' hy hy' heq
    by_cases e : b = nxt
    · by_cases e' : b' = nxt
      · rw [e, e']
      · subst e
        rw [fset_same] at hy
        rw [fset_ne _ _ _ _ e'] at hb' hy'
        cases hy
        exact absurd heq.symm (hother b' x' y' hb' hl' hy')
    · by_cases e' : b' = nxt
      · subst e'
        rw [fset_same] at hy'
        rw [fset_ne _ _ _ _ e] at hb hy
        cases hy'
        exact absurd heq (hother b x y hb hl hy)
      · rw [fset_ne _ _ _ _ e] at hb hy
        rw [fset_ne _ _ _ _ e'] at hb' hy'
        exact R.inj b b' x x' y y' hb hb' hl hl' hy hy' heq
  · intro b y hb
    by_cases e : b = nxt
    · exact .inr ⟨by omega, by omega⟩
    · rw [fset_ne _ _ _ _ e] at hb
      exact .inl (R.dom b y hb)

def RC.pval : RC → AV
  | .p x => x
  | _ => undefA

theorem mat_pure : ∀ (l : List RC) (n : Nat), ownCount l = 0 → mat l n = (l.map RC.pval, [], 0)
  | [], _, _ => rfl
  | .p x :: r, n, h => by
    have : ownCount r = 0 := by simpa [ownCount, RC.isOwn] using h
    simp [mat, mat_pure r n this, RC.pval]
  | .own sz es :: r, n, h => by simp [ownCount, RC.isOwn] at h

/-- The results, taken into the caller's heap. -/
theorem mat_sound {N : Nat → Prop} (hN : ∀ B, N B → C.L0 B ∨ C.w0.heap.size ≤ B) : ∀ (l : List RC) (us : List Value) (nxt : Nat) (m : Map) (h : AHeap), Rel C m S D w h → us.length = l.length → (∀ i, i < l.length → RCRep S N w (l.getD i default) (us.getD i undef)) → ownCount l ≤ 1 → (∀ b, nxt ≤ b → b < nxt + (mat l nxt).2.2 → ¬ D b) →
    (∀ b x y B, h b = some x → x.lv = true → m b = some y → (∃ i sz es, i < l.length ∧ l.getD i default = .own sz es ∧ ∃ len ct, us.getD i undef = .slice (some ⟨B, 0, none⟩) len ct) → y.1 ≠ B) →
    ∃ m', Rel C m' S (fun b => D b ∨ (nxt ≤ b ∧ b < nxt + (mat l nxt).2.2)) w (applyUpd h (mat l nxt).2.1) ∧ MSub m m' ∧ (mat l nxt).1.length = l.length ∧ ∀ i, i < l.length → ARep m' S w ((mat l nxt).1.getD i undefA) (us.getD i undef)
  | [], us, nxt, m, h, R, hl, hr, hc, hn, ho => ⟨m, R.weaken (fun _ h => .inl h), fun _ _ h => h, rfl, fun i hi => absurd hi (by simp)⟩
  | .p x :: r, us, nxt, m, h, R, hl, hr, hc, hn, ho => by
    obtain ⟨u, us', rfl⟩ : ∃ u us', us = u :: us' := by
      cases us with
      | nil => simp at hl
      | cons u us' => exact ⟨u, us', rfl⟩
    obtain ⟨m', g1, g2, g3, g4⟩ := mat_sound hN r us' nxt m h R (by simpa using hl) (fun i hi => by simpa using hr (i + 1) (by simpa using hi)) (by simpa [ownCount, RC.isOwn] using hc) hn
      (fun b x y B hb hlv hy ⟨i, sz, es, hi, h1, h2⟩ => ho b x y B hb hlv hy ⟨i + 1, sz, es, by simpa using hi, by simpa using h1, by simpa using h2⟩)
    refine ⟨m', g1, g2, by simp [mat, g3], fun i hi => ?_⟩
    cases i with
    | zero =>
      have := hr 0 (by simp)
      simp only [List.getD_cons_zero] at this
      simp only [mat, List.getD_cons_zero]
      exact .pure this
    | succ i =>
      simp only [mat, List.getD_cons_succ]
      exact g4 i (by simpa using hi)
  | .own sz es :: r, us, nxt, m, h, R, hl, hr, hc, hn, ho => by
    obtain ⟨u, us', rfl⟩ : ∃ u us', us = u :: us' := by
      cases us with
      | nil => simp at hl
      | cons u us' => exact ⟨u, us', rfl⟩
    have hc0 : ownCount r = 0 := by
      have : ownCount (.own sz es :: r) = ownCount r + 1 := by
        unfold ownCount
        rw [List.filter_cons_of_pos rfl]
        rfl
      omega
    have h0 := hr 0 (by simp)
    simp only [List.getD_cons_zero] at h0
    obtain ⟨B, ct, arr, ty, rfl, k1, k2, k3, k4, k5, k6, k7⟩ := h0
    obtain ⟨R', hms⟩ := R.adopt nxt (hn nxt (Nat.le_refl _) (by simp only [mat]; omega)) k1 k2 k3 k4 k5 k7 (hN _ k6) (fun b x y hb hlv hy => ho b x y B hb hlv hy ⟨0, sz, es, by simp, by simp, _, _, by simp; exact ⟨rfl, rfl⟩⟩)
    have hm0 := mat_pure r (nxt + 1) hc0
    refine ⟨fset m nxt (some (B, sz, ct)), ?_, hms, by simp [mat, hm0], fun i hi => ?_⟩
    · simp only [mat, hm0, Nat.zero_add]
      exact R'
    · cases i with
      | zero =>
        simp only [mat, hm0, List.getD_cons_zero]
        have := ARep.sl (m := fset m nxt (some (B, sz, ct))) (S := S) (w := w) nxt 0 es.length ct B sz ct (fset_same _ _ _) k3 (Nat.zero_add _)
        simpa using this
      | succ i =>
        have h1 := hr (i + 1) (by simpa using hi)
        simp only [List.getD_cons_succ] at h1
        simp only [mat, hm0, List.getD_cons_succ]
        have hi' : i < r.length := by simpa using hi
        have hp : r.getD i default = .p (RC.pval (r.getD i default)) := by
          cases hrc : r.getD i default with
          | p x => rfl
          | own s2 e2 =>
            exfalso
            have hmem : r.getD i default ∈ r := getD_mem _ _ _ hi'
            rw [hrc] at hmem
            have : RC.own s2 e2 ∈ r.filter RC.isOwn := List.mem_filter.2 ⟨hmem, rfl⟩
            have hlen := List.length_pos_of_mem this
            unfold ownCount at hc0
            omega
        have e1 : (r.map RC.pval).getD i undefA = RC.pval (r.getD i default) := by
          simp [List.getD_eq_getElem?_getD, List.getElem?_eq_getElem hi']
        rw [e1]
        rw [hp] at h1
        exact .pure h1
end
end Go.Abs
