/-
An abstract interpreter, part F: rows of cells: read, written.
-/
import Derived.Test.YtmeepaihgipacaaGreatAbsE
set_option linter.unusedVariables false
set_option linter.unusedSimpArgs false
namespace Go.Abs

theorem idx_lt {i i' j sz : Nat} (h : i < i') (hj : j < sz) : i * sz + j < i' * sz := by
  have : (i + 1) * sz ≤ i' * sz := Nat.mul_le_mul_right sz h
  rw [Nat.add_mul] at this
  omega

/-- Cells that hold elements, one after another. -/
structure Flat (m : Map) (S : Nat → Prop) (w : World) (sz : Nat) (xs : List (List AV)) (vs : List Value) : Prop where
  len : vs.length = xs.length * sz
  rep : ∀ i j, i < xs.length → j < sz → ARep m S w ((xs.getD i []).getD j undefA) (vs.getD (i * sz + j) undef)

theorem Flat.nil (m : Map) (S : Nat → Prop) (w : World) (sz : Nat) : Flat m S w sz [] [] := ⟨by simp, fun i j hi => absurd hi (by simp)⟩

theorem Flat.mem {m : Map} {S : Nat → Prop} {w : World} {sz : Nat} {xs : List (List AV)} {vs : List Value} (h : Flat m S w sz xs vs) (hx : ∀ x ∈ xs, x.length = sz ∧ x.all AV.isCell = true) : ∀ v ∈ vs, v.oneCell' = true := by
  intro v hv
  obtain ⟨q, hq, rfl⟩ := List.mem_iff_getElem.1 hv
  have hl := h.len
  have hsz : 0 < sz := by
    rcases Nat.eq_zero_or_pos sz with h0 | h0
    · subst h0; omega
    · exact h0
  have h1 : q / sz < xs.length := (Nat.div_lt_iff_lt_mul hsz).2 (by omega)
  have h2 : q % sz < sz := Nat.mod_lt _ hsz
  have h3 := h.rep (q / sz) (q % sz) h1 h2
  have h4 : q / sz * sz + q % sz = q := by rw [Nat.mul_comm]; exact Nat.div_add_mod q sz
  rw [h4] at h3
  have hm : xs.getD (q / sz) [] ∈ xs := by
    rw [List.getD_eq_getElem?_getD, List.getElem?_eq_getElem h1]
    exact List.getElem_mem h1
  obtain ⟨h5, h6⟩ := hx _ hm
  have h7 : ((xs.getD (q / sz) []).getD (q % sz) undefA).isCell = true := by
    have : q % sz < (xs.getD (q / sz) []).length := by omega
    rw [List.getD_eq_getElem?_getD, List.getElem?_eq_getElem this]
    exact List.all_eq_true.1 h6 _ (List.getElem_mem this)
  have h8 := h3.oneCell h7
  simpa [List.getD_eq_getElem?_getD, List.getElem?_eq_getElem hq] using h8

section
variable {P : Program} {C : Ctx} {m : Map} {S D : Nat → Prop} {w : World} {h : AHeap}

theorem Rel.get (R : Rel C m S D w h) {b : Nat} {x : Blk} (hb : h b = some x) {B sz ct : Nat} (hm : m b = some (B, sz, ct)) : sz = x.sz ∧ Holds m S w B ct x ∧ (x.lv = true → ¬ S B ∧ (C.L0 B ∨ C.w0.heap.size ≤ B)) ∧ (x.lv = false → S B) := by
  obtain ⟨B', ct', h1, h2, h3, h4⟩ := R.blk b x hb
  rw [hm] at h1
  cases h1
  exact ⟨rfl, h4, h2, h3⟩

theorem Holds.cell {B ct : Nat} {x : Blk} (hh : Holds m S w B ct x) (i j : Nat) (hi : i < x.es.length) (hj : j < x.sz) : ∃ u, w.cell? ⟨B, i * x.sz + j, none⟩ = some u ∧ ARep m S w ((x.es.getD i []).getD j undefA) u := by
  obtain ⟨arr, ty, h1, h2, h3, h4, h5⟩ := hh
  have hlt : i * x.sz + j < arr.size := by
    have := idx_lt (show i < ct by omega) hj
    omega
  refine ⟨arr[i * x.sz + j], ?_, ?_⟩
  · simp [World.cell?, h1, Array.getElem?_eq_getElem hlt]
  · have := h5 i j hi hj
    rwa [Array.getD_eq_getD_getElem?, Array.getElem?_eq_getElem hlt] at this

/-- The first cells of a slice that can be read. -/
theorem aread_sound (R : Rel C m S D w h) {x : AV} {v : Value} (hx : ARep m S w x v) {xs : List (List AV)} {sz : Nat} (hr : aread h P x = some xs) (hsz : ∀ e ∈ xs, e.length = sz) (hpos : 0 < sz) :
    ∃ A cap, v = .slice A xs.length cap ∧ xs.length ≤ cap ∧ ∀ k, k ≤ xs.length → ∃ vs : List Value, (Builtin.firstCells sz k v).run P w = .ok vs.toArray w ∧ Flat m S w sz (xs.take k) vs := by
  have empty : ∀ (A : Option Addr) (cap : Nat), ∀ k, k ≤ ([] : List (List AV)).length → ∃ vs : List Value, (Builtin.firstCells sz k (.slice A 0 cap)).run P w = .ok vs.toArray w ∧ Flat m S w sz (([] : List (List AV)).take k) vs := by
    intro A cap k hk
    obtain rfl : k = 0 := by simpa using hk
    refine ⟨[], ?_, by simpa using Flat.nil m S w sz⟩
    cases A with
    | none => rfl
    | some ad => simp [Builtin.firstCells, loadCells, loadCellsFrom]
  have cells : ∀ (ad : Addr) (cap : Nat) (us : Nat → Nat → Value), (∀ i j, i < xs.length → j < sz → w.cell? (ad.add (i * sz + j)) = some (us i j) ∧ ARep m S w ((xs.getD i []).getD j undefA) (us i j)) →
      ∀ k, k ≤ xs.length → ∃ vs : List Value, (Builtin.firstCells sz k (.slice (some ad) xs.length cap)).run P w = .ok vs.toArray w ∧ Flat m S w sz (xs.take k) vs := by
    intro ad cap us hc k hk
    refine ⟨(List.range (k * sz)).map fun q => us (q / sz) (q % sz), ?_, ⟨by simp [Nat.min_eq_left hk], fun i j hi hj => ?_⟩⟩
    · simp only [Builtin.firstCells]
      refine run_loadCells w ad (k * sz) (fun q => us (q / sz) (q % sz)) (fun q hq => ?_)
      have h1 : q / sz < xs.length := Nat.lt_of_lt_of_le ((Nat.div_lt_iff_lt_mul hpos).2 hq) hk
      have := (hc (q / sz) (q % sz) h1 (Nat.mod_lt _ hpos)).1
      rwa [show q / sz * sz + q % sz = q from by rw [Nat.mul_comm]; exact Nat.div_add_mod q sz] at this
    · have hik : i < k := by simp at hi; omega
      have hlt : i * sz + j < k * sz := idx_lt hik hj
      have h1 : (i * sz + j) / sz = i := by rw [Nat.mul_comm, Nat.mul_add_div hpos, Nat.div_eq_of_lt hj, Nat.add_zero]
      have h2 : (i * sz + j) % sz = j := by rw [Nat.mul_comm, Nat.mul_add_mod, Nat.mod_eq_of_lt hj]
      have h3 := (hc i j (by omega) hj).2
      rw [List.getD_eq_getElem?_getD (l := (List.range (k * sz)).map _), List.getElem?_map, List.getElem?_range hlt]
      simp only [Option.map_some, Option.getD_some, h1, h2]
      have hx3 : (xs.take k).getD i [] = xs.getD i [] := by simp only [List.getD_eq_getElem?_getD, List.getElem?_take_of_lt hik]
      rw [hx3]
      exact h3
  unfold aread at hr
  split at hr
  · simp only [Option.some.injEq] at hr; subst hr
    obtain ⟨A, rfl⟩ := hx.e0_inv
    exact ⟨A, 0, rfl, Nat.le_refl _, empty A 0⟩
  · simp only [Option.some.injEq] at hr; subst hr
    have := hx.v_inv; subst this
    exact ⟨_, _, rfl, Nat.zero_le _, empty _ _⟩
  · rename_i sz' es
    simp only [Option.some.injEq] at hr; subst hr
    have hp := hx.psl_inv
    cases hp with
    | psl0 _ A cap => exact ⟨A, cap, rfl, Nat.zero_le _, empty A cap⟩
    | psl _ _ ad cap us hp' hcap hS hsp hsz' hc hh =>
      have e : sz' = sz := by
        obtain ⟨e0, he0⟩ := List.exists_mem_of_length_pos hp'
        rw [← hsz' e0 he0, ← hsz e0 he0]
      subst e
      refine ⟨some ad, cap, rfl, hcap, cells ad cap us (fun i j hi hj => ⟨?_, .pure (hh i j hi hj)⟩)⟩
      have hadd : ad.add (i * sz' + j) = ⟨ad.block, ad.off + i * sz' + j, none⟩ := by
        unfold Addr.add
        split
        · rename_i e; cases ad; simp_all <;> omega
        · simp [Nat.add_assoc]
      rw [hadd]
      exact hc i j hi hj
  · rename_i b o len
    split at hr
    · rename_i blk hb
      split at hr
      · rename_i hle
        simp only [Option.some.injEq] at hr
        obtain ⟨B, sz', ct, cap, hm, hl, hcc, rfl⟩ := hx.sl_inv
        obtain ⟨e, hh, _⟩ := R.get hb hm
        have hlen : xs.length = len := by rw [← hr]; simp; omega
        have hget : ∀ i, i < xs.length → xs.getD i [] = blk.es.getD (o + i) [] := fun i hi => by
          rw [← hr, List.getD_eq_getElem?_getD, List.getElem?_take_of_lt (by omega), List.getElem?_drop, ← List.getD_eq_getElem?_getD]
        rcases Nat.eq_zero_or_pos len with h0 | h0
        · subst h0
          have hxs : xs = [] := List.eq_nil_of_length_eq_zero hlen
          subst hxs
          exact ⟨_, cap, rfl, Nat.zero_le _, empty _ cap⟩
        · have e2 : blk.sz = sz := by
            have hlt : 0 < xs.length := by omega
            have hm1 : xs.getD 0 [] ∈ xs := by
              rw [List.getD_eq_getElem?_getD, List.getElem?_eq_getElem hlt]
              exact List.getElem_mem hlt
            have h1 := hsz _ hm1
            rw [hget 0 hlt] at h1
            obtain ⟨_, _, _, _, _, h4, _⟩ := hh
            have hlt2 : o + 0 < blk.es.length := by omega
            have hm2 : blk.es.getD (o + 0) [] ∈ blk.es := by
              rw [List.getD_eq_getElem?_getD, List.getElem?_eq_getElem hlt2]
              exact List.getElem_mem hlt2
            rw [← h4 _ hm2, h1]
          subst e
          rw [e2, ← hlen]
          have hcell : ∀ i j, i < xs.length → j < sz → ∃ u, w.cell? ⟨B, (o + i) * sz + j, none⟩ = some u ∧ ARep m S w ((xs.getD i []).getD j undefA) u := fun i j hi hj => by
            obtain ⟨u, hu, hr⟩ := hh.cell (o + i) j (by omega) (by omega)
            rw [e2] at hu
            exact ⟨u, hu, by rw [hget i hi]; exact hr⟩
          refine ⟨_, cap, rfl, by omega, cells ⟨B, o * sz, none⟩ cap (fun i j => ((w.cell? ⟨B, (o + i) * sz + j, none⟩).getD undef)) (fun i j hi hj => ?_)⟩
          obtain ⟨u, hu, hr⟩ := hcell i j hi hj
          have hadd : (⟨B, o * sz, none⟩ : Addr).add (i * sz + j) = ⟨B, (o + i) * sz + j, none⟩ := by
            rw [Addr.add_lit, Nat.add_mul, Nat.add_assoc]
          rw [hadd, hu]
          exact ⟨rfl, hr⟩
      · cases hr
    · cases hr
  · cases hr

/-- What a row of cells is behind a run of stores. -/
theorem getD_splice (arr : Array Value) (p q : Nat) (vs : List Value) (hp : p + vs.length ≤ arr.size) :
    (arr.toList.take p ++ vs ++ arr.toList.drop (p + vs.length)).toArray.getD q undef = if p ≤ q ∧ q < p + vs.length then vs.getD (q - p) undef else arr.getD q undef := by
  have hl : (arr.toList.take p).length = p := by simp; omega
  simp only [Array.getD_eq_getD_getElem?, List.getElem?_toArray, List.getD_eq_getElem?_getD, List.append_assoc]
  by_cases h1 : q < p
  · rw [if_neg (by omega), List.getElem?_append_left (by omega), List.getElem?_take_of_lt h1]
    simp
  · rw [List.getElem?_append_right (by omega), hl]
    by_cases h2 : q < p + vs.length
    · rw [if_pos ⟨by omega, h2⟩, List.getElem?_append_left (by omega)]
    · rw [if_neg (by omega), List.getElem?_append_right (by omega), List.getElem?_drop]
      have : p + vs.length + (q - p - vs.length) = q := by omega
      rw [this]
      simp

theorem setRow_other (w : World) (g k : Nat) (cs : Array Value) (h : k ≠ g) : (w.setRow g cs).heap[k]? = w.heap[k]? := by
  simp only [World.setRow, Array.getElem?_modify]
  rw [if_neg (fun e => h e.symm)]

theorem setRow_same (w : World) (g : Nat) (cs arr : Array Value) (ty : TypeId) (h : w.heap[g]? = some (.cells arr ty (0, 0))) : (w.setRow g cs).heap[g]? = some (.cells cs ty (0, 0)) := by
  simp [World.setRow, Array.getElem?_modify, h]

/-- A live block is written: under its own number, or under a new one. -/
theorem Rel.set (R : Rel C m S D w h) {b : Nat} {x : Blk} (hb : h b = some x) (hl : x.lv = true) {B sz ct : Nat} (hm : m b = some (B, sz, ct))
    {arr : Array Value} {ty : TypeId} (ha : w.heap[B]? = some (.cells arr ty (0, 0))) (arr' : Array Value) (es' : List (List AV)) (hs : arr'.size = arr.size) (hsz : arr.size = ct * sz) (hct : es'.length ≤ ct) (hes : ∀ e ∈ es', e.length = sz)
    (hc : ∀ i j, i < es'.length → j < sz → ARep m S w ((es'.getD i []).getD j undefA) (arr'.getD (i * sz + j) undef)) :
    Rel C m S D (w.setRow B arr') (fset h b (some ⟨true, sz, es'⟩)) ∧ Later C m m S S w (w.setRow B arr') := by
  obtain ⟨e, hh, hlive, _⟩ := R.get hb hm
  obtain ⟨hnS, hL⟩ := hlive hl
  have same : SameOn S w (w.setRow B arr') := fun k hk => setRow_other w B k arr' (fun e => hnS (e ▸ hk))
  refine R.change (fun _ _ h => h) rfl rfl rfl (by simp [World.setRow]) (Nat.le_refl _) (fun k hk => ?_) (fun b' x' hb' => ?_) ?_ R.dom
  · by_cases hkB : k = B
    · exact .inr ⟨b, x, _, hb, hl, hm, hkB.symm⟩
    · exact .inl (setRow_other w B k arr' hkB)
  · by_cases e' : b' = b
    · subst e'
      rw [fset_same] at hb'
      cases hb'
      exact .inr ⟨B, ct, hm, fun _ => ⟨hnS, hL⟩, fun h => Bool.noConfusion h, arr', ty, setRow_same w B arr' arr ty ha, by rw [hs]; exact hsz, hct, hes, fun i j hi hj => (hc i j hi hj).mono (fun _ _ h => h) (fun _ h => h) same⟩
    · rw [fset_ne _ _ _ _ e'] at hb'
      refine .inl ⟨hb', fun y hy => setRow_other w B y.1 arr' (fun hy1 => ?_)⟩
      obtain ⟨B', ct', h1, h2, h3, _⟩ := R.blk b' x' hb'
      rw [hy] at h1
      cases h1
      simp only at hy1
      subst hy1
      cases hlv : x'.lv with
      | true => exact e' (R.inj b' b x' x _ _ hb' hb hlv hl hy hm rfl)
      | false => exact hnS (h3 hlv)
  · intro b1 b2 x1 x2 y1 y2 h1 h2 l1 l2 m1 m2 heq
    have conv : ∀ b' x', fset h b (some ⟨true, sz, es'⟩) b' = some x' → x'.lv = true → ∃ x'', h b' = some x'' ∧ x''.lv = true := by
      intro b' x' hb' hl'
      by_cases e' : b' = b
      · exact ⟨x, e' ▸ hb, hl⟩
      · rw [fset_ne _ _ _ _ e'] at hb'
        exact ⟨x', hb', hl'⟩
    obtain ⟨x1', g1, g1'⟩ := conv b1 x1 h1 l1
    obtain ⟨x2', g2, g2'⟩ := conv b2 x2 h2 l2
    exact R.inj b1 b2 x1' x2' y1 y2 g1 g2 g1' g2' m1 m2 heq

/-- .. under a new number; the old one is gone. -/
theorem Rel.move (R : Rel C m S D w h) {b : Nat} {x : Blk} (hb : h b = some x) (hl : x.lv = true) {B sz ct : Nat} (hm : m b = some (B, sz, ct)) (nxt : Nat) (hn : ¬ D nxt)
    {arr : Array Value} {ty : TypeId} (ha : w.heap[B]? = some (.cells arr ty (0, 0))) (arr' : Array Value) (es' : List (List AV)) (hs : arr'.size = arr.size) (hsz : arr.size = ct * sz) (hct : es'.length ≤ ct) (hes : ∀ e ∈ es', e.length = sz)
    (hc : ∀ i j, i < es'.length → j < sz → ARep m S w ((es'.getD i []).getD j undefA) (arr'.getD (i * sz + j) undef)) :
    Rel C (fset m nxt (some (B, sz, ct))) S (fun k => D k ∨ (nxt ≤ k ∧ k < nxt + 1)) (w.setRow B arr') (fset (fset h b none) nxt (some ⟨true, sz, es'⟩)) ∧ Later C m (fset m nxt (some (B, sz, ct))) S S w (w.setRow B arr') := by
  obtain ⟨e, hh, hlive, _⟩ := R.get hb hm
  obtain ⟨hnS, hL⟩ := hlive hl
  have same : SameOn S w (w.setRow B arr') := fun k hk => setRow_other w B k arr' (fun e => hnS (e ▸ hk))
  have hmn : m nxt = none := by
    cases e : m nxt with
    | none => rfl
    | some y => exact absurd (R.dom _ _ e) hn
  have hbn : b ≠ nxt := by rintro rfl; rw [hmn] at hm; cases hm
  have hms : MSub m (fset m nxt (some (B, sz, ct))) := fun b' y hb => by
    rw [fset_ne]
    · exact hb
    · rintro rfl; rw [hmn] at hb; cases hb
  refine R.change hms rfl rfl rfl (by simp [World.setRow]) (Nat.le_refl _) (fun k hk => ?_) (fun b' x' hb' => ?_) ?_ ?_
  · by_cases hkB : k = B
    · exact .inr ⟨b, x, _, hb, hl, hm, hkB.symm⟩
    · exact .inl (setRow_other w B k arr' hkB)
  · by_cases en : b' = nxt
    · subst en
      rw [fset_same] at hb'
      cases hb'
      exact .inr ⟨B, ct, fset_same _ _ _, fun _ => ⟨hnS, hL⟩, fun h => Bool.noConfusion h, arr', ty, setRow_same w B arr' arr ty ha, by rw [hs]; exact hsz, hct, hes, fun i j hi hj => (hc i j hi hj).mono hms (fun _ h => h) same⟩
    · rw [fset_ne _ _ _ _ en] at hb'
      by_cases e' : b' = b
      · rw [e', fset_same] at hb'; cases hb'
      · rw [fset_ne _ _ _ _ e'] at hb'
        refine .inl ⟨hb', fun y hy => setRow_other w B y.1 arr' (fun hy1 => ?_)⟩
        obtain ⟨B', ct', h1, h2, h3, _⟩ := R.blk b' x' hb'
        rw [hy] at h1
        cases h1
        simp only at hy1
        subst hy1
        cases hlv : x'.lv with
        | true => exact e' (R.inj b' b x' x _ _ hb' hb hlv hl hy hm rfl)
        | false => exact hnS (h3 hlv)
  · intro b1 b2 x1 x2 y1 y2 h1 h2 l1 l2 m1 m2 heq
    have conv : ∀ b' x' y', fset (fset h b none) nxt (some ⟨true, sz, es'⟩) b' = some x' → x'.lv = true → fset m nxt (some (B, sz, ct)) b' = some y' → (b' = nxt ∧ y'.1 = B) ∨ (b' ≠ nxt ∧ b' ≠ b ∧ h b' = some x' ∧ m b' = some y') := by
      intro b' x' y' hb' hl' hy'
      by_cases en : b' = nxt
      · subst en
        rw [fset_same] at hy'
        cases hy'
        exact .inl ⟨rfl, rfl⟩
      · rw [fset_ne _ _ _ _ en] at hb' hy'
        by_cases e' : b' = b
        · rw [e', fset_same] at hb'; cases hb'
        · rw [fset_ne _ _ _ _ e'] at hb'
          exact .inr ⟨en, e', hb', hy'⟩
    rcases conv b1 x1 y1 h1 l1 m1 with ⟨e1, f1⟩ | ⟨n1, d1, g1, k1⟩
    · rcases conv b2 x2 y2 h2 l2 m2 with ⟨e2, f2⟩ | ⟨n2, d2, g2, k2⟩
      · rw [e1, e2]
      · exact absurd (R.inj b2 b x2 x y2 _ g2 hb l2 hl k2 hm (by rw [← heq, f1])) d2
    · rcases conv b2 x2 y2 h2 l2 m2 with ⟨e2, f2⟩ | ⟨n2, d2, g2, k2⟩
      · exact absurd (R.inj b1 b x1 x y1 _ g1 hb l1 hl k1 hm (by rw [heq, f2])) d1
      · exact R.inj b1 b2 x1 x2 y1 y2 g1 g2 l1 l2 k1 k2 heq
  · intro b' y hb'
    by_cases en : b' = nxt
    · exact .inr ⟨by omega, by omega⟩
    · rw [fset_ne _ _ _ _ en] at hb'
      exact .inl (R.dom b' y hb')
end
end Go.Abs
