/-
An abstract interpreter, part K: values without places; memory that is written no more; what a call hands back.
-/
import Derived.Test.YtmeepaihgipacaaGreatAbsJ
set_option linter.unusedVariables false
set_option linter.unusedSimpArgs false
namespace Go.Abs

theorem omap_spec {α β : Type} {f : α → Option β} : ∀ {l : List α} {l' : List β}, omap f l = some l' → l'.length = l.length ∧ ∀ (i : Nat) (d : α) (d' : β), i < l.length → f (l.getD i d) = some (l'.getD i d')
  | [], l', h => by
    simp only [omap, Option.some.injEq] at h
    subst h
    exact ⟨rfl, fun i d d' hi => absurd hi (by simp)⟩
  | x :: r, l', h => by
    simp only [omap] at h
    split at h
    · rename_i y hy
      split at h
      · rename_i l hl
        simp only [Option.some.injEq] at h
        subst h
        obtain ⟨h1, h2⟩ := omap_spec hl
        refine ⟨by simp [h1], fun i d d' hi => ?_⟩
        cases i with
        | zero => simpa using hy
        | succ i => simpa using h2 i d d' (by simpa using hi)
      · cases h
    · cases h

theorem PRep.can {S : Nat → Prop} {w : World} {x : AV} {v : Value} (h : PRep S w x v) : PRep S w (can x) v := by
  unfold Abs.can
  split
  · cases h with
    | e0 A => exact .psl0 _ _ _
  · rename_i sz es
    split
    · rename_i he
      have : es = [] := List.isEmpty_iff.1 he
      subst this
      cases h with
      | psl0 _ A cap => exact .psl0 _ _ _
      | psl _ _ _ _ _ hp => simp at hp
    · exact h
  · split
    · cases h with
      | v x => exact .psl0 _ _ _
    · exact h
  · exact h

section
variable {P : Program} {C : Ctx} {m : Map} {S D : Nat → Prop} {w : World} {h : AHeap}

/-- What has no places any more. -/
theorem pur_sound (R : Rel C m S D w h) : ∀ (n : Nat) {x y : AV} {v : Value}, pur n h x = some y → ARep m S w x v → PRep S w y v
  | 0, x, y, v, hp, _ => by simp [pur] at hp
  | n + 1, x, y, v, hp, hx => by
    cases x with
    | v z => simp only [pur, Option.some.injEq] at hp; subst hp; rw [hx.v_inv]; exact (PRep.v z).can
    | e0 => simp only [pur, Option.some.injEq] at hp; subst hp; obtain ⟨A, rfl⟩ := hx.e0_inv; exact .psl0 _ _ _
    | psl sz es => simp only [pur, Option.some.injEq] at hp; subst hp; exact hx.psl_inv.can
    | pptr cs =>
      simp only [pur, Option.some.injEq] at hp
      subst hp
      cases hx with
      | pure h => exact h
    | tup vs => simp [pur] at hp
    | top => simp [pur] at hp
    | agg cs =>
      simp only [pur, Option.map_eq_some_iff] at hp
      obtain ⟨ys, hys, rfl⟩ := hp
      obtain ⟨h1, h2⟩ := omap_spec hys
      obtain ⟨vs, rfl, hl, hr⟩ := hx.agg_inv
      exact .agg _ _ (by omega) (fun i hi => pur_sound R n (h2 i undefA undefA (by omega)) (hr i (by omega)))
    | fn f cs =>
      simp only [pur, Option.map_eq_some_iff] at hp
      obtain ⟨ys, hys, rfl⟩ := hp
      obtain ⟨h1, h2⟩ := omap_spec hys
      obtain ⟨vs, rfl, hl, hr⟩ := hx.fn_inv
      exact .fn _ _ _ (by omega) (fun i hi => pur_sound R n (h2 i undefA undefA (by omega)) (hr i (by omega)))
    | ptr b i off =>
      simp only [pur] at hp
      split at hp
      · rename_i blk hb
        split at hp
        · rename_i hc
          simp only [Option.map_eq_some_iff] at hp
          obtain ⟨ys, hys, rfl⟩ := hp
          obtain ⟨h1, h2⟩ := omap_spec hys
          obtain ⟨B, sz, ct, hm, rfl⟩ := hx.ptr_inv
          obtain ⟨rfl, hh, _, hS⟩ := R.get hb hm
          have hlen : (blk.es.getD i []).length = blk.sz := by
            obtain ⟨_, _, _, _, _, h4, _⟩ := hh
            exact h4 _ (getD_mem _ _ _ hc.2)
          refine .pptr _ _ (fun j => (w.cell? ⟨B, i * blk.sz + (off + j), none⟩).getD undef) (hS hc.1) rfl (fun j hj => ?_) (fun j hj => ?_)
          · obtain ⟨u, hu, _⟩ := hh.cell i (off + j) hc.2 (by rw [h1] at hj; simp only [List.length_drop] at hj; omega)
            rw [hu]
            rw [← Nat.add_assoc] at hu
            exact hu
          · obtain ⟨u, hu, hr⟩ := hh.cell i (off + j) hc.2 (by rw [h1] at hj; simp only [List.length_drop] at hj; omega)
            rw [hu]
            have h3 := h2 j undefA undefA (by omega)
            rw [getD_drop] at h3
            exact pur_sound R n h3 hr
        · cases hp
      · cases hp
    | sl b o len =>
      simp only [pur] at hp
      split at hp
      · rename_i blk hb
        split at hp
        · rename_i hc
          simp only [Option.map_eq_some_iff] at hp
          obtain ⟨ys, hys, rfl⟩ := hp
          obtain ⟨h1, h2⟩ := omap_spec hys
          obtain ⟨B, sz, ct, cap, hm, hl, hcc, rfl⟩ := hx.sl_inv
          obtain ⟨rfl, hh, _, hS⟩ := R.get hb hm
          have hlen : ys.length = len := by rw [h1]; simp; omega
          rcases Nat.eq_zero_or_pos len with h0 | h0
          · subst h0
            have : ys = [] := List.eq_nil_of_length_eq_zero hlen
            subst this
            exact (PRep.psl0 _ _ _).can
          · have hes : ∀ e ∈ blk.es, e.length = blk.sz := by
              obtain ⟨_, _, _, _, _, h4, _⟩ := hh
              exact h4
            have hel : ∀ i, i < len → ((blk.es.drop o).take len).getD i [] = blk.es.getD (o + i) [] := fun i hi => by rw [getD_take _ _ _ _ hi, getD_drop]
            have hin : ∀ i, i < len → (ys.getD i []).length = blk.sz ∧ ∀ j, j < blk.sz → pur n h ((blk.es.getD (o + i) []).getD j undefA) = some ((ys.getD i []).getD j undefA) := by
              intro i hi
              have h3 := h2 i [] [] (by simp; omega)
              rw [hel i hi] at h3
              obtain ⟨h4, h5⟩ := omap_spec h3
              have h6 := hes _ (getD_mem blk.es (o + i) [] (by omega))
              exact ⟨by omega, fun j hj => h5 j undefA undefA (by omega)⟩
            rw [← hlen]
            refine PRep.can (.psl _ ys ⟨B, o * blk.sz, none⟩ cap (fun i j => (w.cell? ⟨B, (o + i) * blk.sz + j, none⟩).getD undef) (by omega) (by omega) (hS hc.1) rfl ?_ (fun i j hi hj => ?_) (fun i j hi hj => ?_))
            · intro e he
              obtain ⟨q, hq, rfl⟩ := List.mem_iff_getElem.1 he
              have := (hin q (by omega)).1
              simpa [List.getD_eq_getElem?_getD, List.getElem?_eq_getElem hq] using this
            · obtain ⟨u, hu, _⟩ := hh.cell (o + i) j (by omega) hj
              rw [hu]
              rw [Nat.add_mul] at hu
              exact hu
            · obtain ⟨u, hu, hr⟩ := hh.cell (o + i) j (by omega) hj
              rw [hu]
              exact pur_sound R n ((hin i (by omega)).2 j hj) hr
        · cases hp
      · cases hp

/-- Memory of some blocks. -/
def memOf (m : Map) (h : AHeap) (l : Nat → Prop) : Nat → Prop := fun k => ∃ b x y, l b ∧ h b = some x ∧ m b = some y ∧ y.1 = k

/-- Some blocks are written no more, some are forgotten. -/
theorem Rel.freeze (R : Rel C m S D w h) (l : Nat → Prop) (h' : AHeap) (hf : ∀ b x', h' b = some x' → ∃ x, h b = some x ∧ x.sz = x'.sz ∧ x.es = x'.es ∧ ((l b ∧ x'.lv = false) ∨ (¬ l b ∧ x'.lv = x.lv)))
    (hnew : ∀ k, memOf m h l k → C.L0 k ∨ C.w0.heap.size ≤ k ∨ S k) (hkeep : ∀ b x, h' b = some x → x.lv = true → ∀ y, m b = some y → ¬ memOf m h l y.1) : Rel C m (fun k => S k ∨ memOf m h l k) D w h' := by
  refine ⟨R.ext, fun k hk => .inl (R.s0 k hk), ?_, ?_, ?_, ?_, R.dom⟩
  · rintro k (hk | ⟨b, x, y, hl, hb, hy, rfl⟩)
    · exact R.slt k hk
    · exact (R.get hb (B := y.1) (sz := y.2.1) (ct := y.2.2) hy).2.1.lt
  · rintro k (hk | hk)
    · exact R.snew k hk
    · rcases hnew k hk with h1 | h1 | h1
      · exact .inr (.inl h1)
      · exact .inr (.inr h1)
      · exact R.snew k h1
  · intro b x' hb'
    obtain ⟨x, hb, e1, e2, e3⟩ := hf b x' hb'
    obtain ⟨B, ct, h1, h2, h3, h4⟩ := R.blk b x hb
    refine ⟨B, ct, by rw [← e1]; exact h1, fun hlv => ?_, fun hlv => ?_, ?_⟩
    · rcases e3 with ⟨_, e3⟩ | ⟨hnl, e3⟩
      · rw [e3] at hlv; cases hlv
      · obtain ⟨g1, g2⟩ := h2 (by rw [← e3]; exact hlv)
        refine ⟨?_, g2⟩
        rintro (g3 | g3)
        · exact g1 g3
        · exact hkeep b x' hb' hlv _ h1 g3
    · rcases e3 with ⟨hl, _⟩ | ⟨hnl, e3⟩
      · exact .inr ⟨b, x, _, hl, hb, h1, rfl⟩
      · exact .inl (h3 (by rw [← e3]; exact hlv))
    · obtain ⟨arr, ty, g1, g2, g3, g4, g5⟩ := h4
      refine ⟨arr, ty, g1, by rw [← e1]; exact g2, by rw [← e2]; exact g3, by rw [← e1, ← e2]; exact g4, ?_⟩
      rw [← e1, ← e2]
      exact fun i j hi hj => (g5 i j hi hj).mono (fun _ _ h => h) (fun _ h => .inl h) (fun _ _ => rfl)
  · intro b1 b2 x1 x2 y1 y2 g1 g2 l1 l2 m1 m2 heq
    have live : ∀ b x', h' b = some x' → x'.lv = true → ∃ x, h b = some x ∧ x.lv = true := by
      intro b x' hb' hlv
      obtain ⟨x, hb, _, _, e3⟩ := hf b x' hb'
      rcases e3 with ⟨_, e3⟩ | ⟨_, e3⟩
      · rw [e3] at hlv; cases hlv
      · exact ⟨x, hb, by rw [← e3]; exact hlv⟩
    obtain ⟨x1', k1, k1'⟩ := live b1 x1 g1 l1
    obtain ⟨x2', k2, k2'⟩ := live b2 x2 g2 l2
    exact R.inj b1 b2 x1' x2' y1 y2 k1 k2 k1' k2' m1 m2 heq

theorem froz_apply (h : AHeap) : ∀ (l : List Nat) (g : AHeap) (b : Nat), applyUpd g (l.map fun b => (b, (h b).map frozen)) b = if b ∈ l then (h b).map frozen else g b
  | [], g, b => by simp [applyUpd]
  | c :: r, g, b => by
    have := froz_apply h r (fset g c ((h c).map frozen)) b
    simp only [applyUpd, List.map_cons, List.foldl_cons] at this ⊢
    rw [this]
    by_cases h1 : b ∈ r
    · simp [h1]
    · by_cases h2 : b = c
      · subst h2; simp [h1, fset]
      · simp [h1, h2, fset]

theorem freezes_apply2 (h : AHeap) (l : List Nat) (g : AHeap) (b : Nat) (hg : ∀ c ∈ l, g c = h c) : applyUpd g (freezes h l) b = if b ∈ l then (h b).map frozen else g b := by
  unfold freezes
  rw [froz_apply]
  by_cases h1 : b ∈ l
  · rw [if_pos h1]
    by_cases h2 : liveB h b = true
    · rw [if_pos (List.mem_filter.2 ⟨h1, h2⟩)]
    · rw [if_neg (fun h3 => h2 (List.mem_filter.1 h3).2), hg b h1]
      unfold liveB at h2
      cases hb : h b with
      | none => rfl
      | some blk =>
        rw [hb] at h2
        obtain ⟨lv, sz, es⟩ := blk
        simp only [Bool.not_eq_true] at h2
        subst h2
        rfl
  · rw [if_neg h1, if_neg (fun h3 => h1 (List.mem_filter.1 h3).1)]

theorem freezes_apply (h : AHeap) (l : List Nat) (b : Nat) : applyUpd h (freezes h l) b = if b ∈ l then (h b).map frozen else h b := freezes_apply2 h l h b (fun _ _ => rfl)

/-- The blocks of a list, written no more. -/
theorem Rel.freezes (R : Rel C m S D w h) (l : List Nat) : Rel C m (fun k => S k ∨ memOf m h (fun b => b ∈ l ∧ ∃ x, h b = some x) k) D w (applyUpd h (freezes h l)) ∧ Later C m m S (fun k => S k ∨ memOf m h (fun b => b ∈ l ∧ ∃ x, h b = some x) k) w w := by
  refine ⟨R.freeze _ _ ?_ ?_ ?_, ⟨fun _ _ h => h, fun _ h => .inl h, fun _ _ => rfl⟩⟩
  · intro b x' hb'
    rw [freezes_apply] at hb'
    split at hb'
    · rename_i hl
      simp only [Option.map_eq_some_iff] at hb'
      obtain ⟨x, hx, rfl⟩ := hb'
      exact ⟨x, hx, rfl, rfl, .inl ⟨⟨hl, x, hx⟩, rfl⟩⟩
    · rename_i hl
      exact ⟨x', hb', rfl, rfl, .inr ⟨fun g => hl g.1, rfl⟩⟩
  · rintro k ⟨b, x, y, _, hb, hy, rfl⟩
    obtain ⟨_, _, h2, h3⟩ := R.get hb (B := y.1) (sz := y.2.1) (ct := y.2.2) hy
    cases hlv : x.lv with
    | true => exact (h2 hlv).2.elim .inl (fun h => .inr (.inl h))
    | false => exact .inr (.inr (h3 hlv))
  · rintro b x hb hlv y hy ⟨b2, x2, y2, ⟨hl2, _⟩, hb2, hy2, heq⟩
    rw [freezes_apply] at hb
    split at hb
    · simp only [Option.map_eq_some_iff] at hb
      obtain ⟨x0, _, rfl⟩ := hb
      cases hlv
    · rename_i hnl
      obtain ⟨_, _, g2, g3⟩ := R.get hb2 (B := y2.1) (sz := y2.2.1) (ct := y2.2.2) hy2
      cases hlv2 : x2.lv with
      | true => exact hnl ((R.inj b b2 x x2 y y2 hb hb2 hlv hlv2 hy hy2 heq.symm) ▸ hl2)
      | false =>
        obtain ⟨_, _, k2, _⟩ := R.get hb (B := y.1) (sz := y.2.1) (ct := y.2.2) hy
        exact (k2 hlv).1 (heq ▸ g3 hlv2)

end
end Go.Abs
