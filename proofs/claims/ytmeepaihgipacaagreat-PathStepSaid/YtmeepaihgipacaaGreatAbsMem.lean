/-
An abstract interpreter: rules for making slices.
-/
import Derived.Test.YtmeepaihgipacaaGreatAbsS
set_option linter.unusedVariables false
set_option linter.unusedSimpArgs false
namespace Go.Abs

/-- A row of values of one cell. -/
def bs1 (nxt : Nat) (xs : List AV) : Option Out :=
  if xs.all (fun x => x.isCell) then some ⟨.sl nxt 0 xs.length, [(nxt, some ⟨true, 1, xs.map fun x => [x]⟩)], 1⟩ else none

theorem cell_flat {x : AV} (h : x.isCell = true) : x.cells = [x] ∧ x.flat = true := by
  cases x <;> first | exact ⟨rfl, by simp [AV.flat, AV.cells, h]⟩ | cases h

theorem afill_set (sz : Nat) (es : List (List AV)) (i : Nat) (x : AV) (r : List (Nat × AV)) (h1 : x.cells.length = sz) (h2 : i < es.length) (h3 : x.flat = true) : afill sz es ((i, x) :: r) = afill sz (es.set i x.cells) r := by
  simp [afill, h1, h2, h3]

section
variable {P : Program} {t e : TypeId} {z : List AV} {sz by_ : Nat}

/-- The rows of a composite literal. -/
def bsO (nxt sz len : Nat) (z : List AV) (l : List (Nat × AV)) : Option Out :=
  if len = 0 ∧ l.length = 0 then some ⟨.e0, [], 0⟩ else
  (afill sz (List.replicate len z) l).map fun es => ⟨.sl nxt 0 len, newBlk nxt sz es, 1⟩

theorem aop_bs (h1 : aelem P t = some e) (h2 : azero P e = some z) (h3 : asize P e = some sz) (hz : z.length = sz) (hs : 0 < sz) (d : Option Tmp) (len : Nat) (hl : len * sz ≤ 16777216) (parts : Array (Nat × Operand)) (ty : TypeId) (pos : String) (af : Array Edge) (g : Option (Nat × Bool)) (st : St) :
    aop P ⟨d, .buildSlice t len parts, ty, pos, af, g⟩ st = bsO st.nxt sz len z (parts.toList.map fun p => (p.1, aevalO st.env p.2)) := by
  simp only [aop, h1, h2, h3]
  rw [if_pos ⟨hz, hl, hs⟩]
  unfold bsO
  have : parts.size = (parts.toList.map fun p => (p.1, aevalO st.env p.2)).length := by simp
  rw [this]

/-- What append makes. -/
def apN (h : AHeap) (nxt sz by_ : Nat) (xs : List (List AV)) : AV → Option Out
  | .e0 | .v (.slice none 0 0) => if xs.length * by_ ≤ maxBytes then some ⟨.sl nxt 0 xs.length, newBlk nxt sz xs, 1⟩ else none
  | .sl b 0 len => match h b with
              | some blk =>
                if ¬ (blk.lv = true ∧ blk.sz = sz ∧ len ≤ blk.es.length ∧ (len + xs.length) * by_ ≤ maxBytes) then none else
                if len = blk.es.length then
                  some ⟨.sl nxt 0 (len + xs.length), [(b, none), (nxt, some ⟨true, sz, blk.es ++ xs⟩)], 1⟩
                else if len + xs.length ≤ blk.es.length then
                  some ⟨.sl b 0 (len + xs.length), [(b, some { blk with es := blk.es.take len ++ xs ++ blk.es.drop (len + xs.length) })], 0⟩
                else none
              | none => none
  | _ => none
def apE (h : AHeap) (sz : Nat) : AV → Option Out
  | .e0 => some ⟨.e0, [], 0⟩
  | .v (.slice none 0 0) => some ⟨.v (.slice none 0 0), [], 0⟩
  | .sl b 0 len => match h b with
              | some blk => if blk.lv = true ∧ blk.sz = sz ∧ len ≤ blk.es.length then some ⟨.sl b 0 len, [], 0⟩ else none
              | none => none
  | _ => none
def apO (h : AHeap) (nxt sz by_ : Nat) (d : AV) : Option (List (List AV)) → Option Out
  | some [] => apE h sz d
  | some (x :: r) => if ∀ y ∈ x :: r, y.length = sz ∧ y.all AV.isCell then apN h nxt sz by_ (x :: r) d else none
  | none => none

theorem aop_append (h1 : aelem P t = some e) (h2 : azero P e = some z) (h3 : asize P e = some sz) (h4 : abytes P e = some by_) (hz : z.length = sz) (hs : 0 < sz) (hb : 0 < by_) (d : Option Tmp) (x y : Operand) (ty : TypeId) (pos : String) (af : Array Edge) (g : Option (Nat × Bool)) (st : St) :
    aop P ⟨d, .call { callee := .builtin .append, args := #[x, y], argTypes := #[t, t] }, ty, pos, af, g⟩ st = apO st.heap st.nxt sz by_ (aevalO st.env x) (aread st.heap P (aevalO st.env y)) := by
  simp only [aop, List.map_cons, List.map_nil, h1, h2, h3, h4]
  cases hr : aread st.heap P (aevalO st.env y) with
  | none => simp [apO]
  | some xs =>
    cases xs with
    | nil =>
      simp only [apO, apE]
      simp only [ne_eq, not_true_eq_false, if_false]
      rw [if_neg (by simp [hz, hs, hb])]
      rcases hd : aevalO st.env x with p | _ | _ | _ | _ | _ | _ | _ | ⟨b, o, len⟩ <;> try rfl
      · cases p <;> try rfl
        rename_i a l c
        cases a <;> try rfl
        cases l <;> try rfl
        cases c <;> rfl
      · cases o <;> try rfl
    | cons a r =>
      simp only [apO, apN]
      simp only [ne_eq, not_true_eq_false, if_false]
      by_cases hw : ∀ y ∈ a :: r, y.length = sz ∧ y.all AV.isCell = true
      · rw [if_neg (by simp only [hz, hs, hb, true_and, Decidable.not_not]; exact hw), if_pos hw]
        rcases hd : aevalO st.env x with p | _ | _ | _ | _ | _ | _ | _ | ⟨b, o, len⟩ <;> rfl
      · rw [if_pos (fun hh => hw hh.2.2.2), if_neg hw]
end

theorem apO_new {h : AHeap} {nxt sz by_ : Nat} {xs : List (List AV)} {d : AV} (hd : d = .e0 ∨ d = .v (.slice none 0 0)) (hne : xs ≠ []) (hw : ∀ y ∈ xs, y.length = sz ∧ y.all AV.isCell = true) (hb : xs.length * by_ ≤ maxBytes) :
    apO h nxt sz by_ d (some xs) = some ⟨.sl nxt 0 xs.length, [(nxt, some ⟨true, sz, xs⟩)], 1⟩ := by
  cases xs with
  | nil => exact absurd rfl hne
  | cons x r =>
    simp only [apO]
    rw [if_pos hw]
    rcases hd with rfl | rfl <;> simp only [apN] <;> rw [if_pos hb] <;> rfl

theorem apO_end {h : AHeap} {nxt sz by_ b : Nat} {es xs : List (List AV)} (hh : h b = some ⟨true, sz, es⟩) (hne : xs ≠ []) (hw : ∀ y ∈ xs, y.length = sz ∧ y.all AV.isCell = true) (hb : (es.length + xs.length) * by_ ≤ maxBytes) :
    apO h nxt sz by_ (.sl b 0 es.length) (some xs) = some ⟨.sl nxt 0 (es.length + xs.length), [(b, none), (nxt, some ⟨true, sz, es ++ xs⟩)], 1⟩ := by
  cases xs with
  | nil => exact absurd rfl hne
  | cons x r =>
    simp only [apO]
    rw [if_pos hw]
    simp only [apN, hh]
    rw [if_neg (by simp only [true_and, Decidable.not_not, Nat.le_refl]; exact hb)]
    simp

theorem apO_none {h : AHeap} {nxt sz by_ : Nat} {d : AV} : apO h nxt sz by_ d (some []) = apE h sz d := rfl
theorem apE_sl {h : AHeap} {sz b : Nat} {es : List (List AV)} (hh : h b = some ⟨true, sz, es⟩) : apE h sz (.sl b 0 es.length) = some ⟨.sl b 0 es.length, [], 0⟩ := by simp [apE, hh]

/-! ### Reading -/

theorem aread_rawL (h : AHeap) (P : Program) (l : List JV) : aread h P (rawL l) = some (l.map cellsJ) := rfl
theorem aread_rawS (h : AHeap) (P : Program) (l : List ByteArray) : aread h P (rawS l) = some (l.map fun s => [.v (.string s)]) := rfl
theorem aread_encL (h : AHeap) (P : Program) (l : List JV) : aread h P (encL l) = some (l.map cellsJ) := by cases l <;> rfl
theorem aread_encS (h : AHeap) (P : Program) (l : List ByteArray) : aread h P (encS l) = some (l.map fun s => [.v (.string s)]) := by cases l <;> rfl
def ard1 (o len : Nat) : Option Blk → Option (List (List AV))
  | some blk => if o + len ≤ blk.es.length then some ((blk.es.drop o).take len) else none
  | none => none
theorem aread_sl (h : AHeap) (P : Program) (b o len : Nat) : aread h P (.sl b o len) = ard1 o len (h b) := rfl
theorem aread_e0 (h : AHeap) (P : Program) : aread h P .e0 = some [] := rfl
theorem aread_nil (h : AHeap) (P : Program) (c : Nat) : aread h P (.v (.slice none 0 c)) = some [] := rfl
theorem aread_psl (h : AHeap) (P : Program) (sz : Nat) (es : List (List AV)) : aread h P (.psl sz es) = some es := rfl
theorem ard1_all (lv : Bool) (sz : Nat) (es : List (List AV)) : ard1 0 es.length (some ⟨lv, sz, es⟩) = some es := by simp [ard1]

/-! ### Numbers as rows -/

def rowI (l : List Int) : List (List AV) := l.map fun n => [.v (.int .i64 n)]
theorem rowI_wf (l : List Int) : ∀ y ∈ rowI l, y.length = 1 ∧ y.all AV.isCell = true := by
  intro y hy
  obtain ⟨n, _, rfl⟩ := List.mem_map.1 hy
  exact ⟨rfl, rfl⟩
theorem rowI_len (l : List Int) : (rowI l).length = l.length := by simp [rowI]
theorem rowI_app (l r : List Int) : rowI l ++ rowI r = rowI (l ++ r) := by simp [rowI]

/-- What stands in a variable that a loop appends to. -/
def OutRow (h : AHeap) (nxt sz : Nat) (x : AV) (es : List (List AV)) : Prop :=
  (es = [] ∧ (x = .e0 ∨ x = .v (.slice none 0 0))) ∨ ∃ b, es ≠ [] ∧ b < nxt ∧ x = .sl b 0 es.length ∧ h b = some ⟨true, sz, es⟩

/-- What a function hands back of such a variable. -/
def outRC (sz : Nat) (es : List (List AV)) : RC := if es.isEmpty then .p .e0 else .own sz es

theorem finish_out {h : AHeap} {nxt sz : Nat} {x : AV} {es : List (List AV)} (ho : OutRow h nxt sz x es) (hes : ∀ g : AHeap, omap (omap (pur depth g)) es = some es) (r l : List AV) (hr : ∀ y ∈ r, plainAV y = true) (hp : ∀ g : AHeap, omap (pur depth g) r = some l) : finish h (x :: r) = some (outRC sz es :: l.map RC.p) := by
  have hplain : ∀ y, plainAV y = true → ownOf h y = none := fun y hy => by cases y <;> first | rfl | cases hy
  have htop : ∀ y, plainAV y = true → topE y = false := fun y hy => by cases y <;> first | rfl | cases hy | (simpa [plainAV] using hy)
  have h1 : ∀ r : List AV, (∀ y ∈ r, plainAV y = true) → r.findSome? (ownOf h) = none := fun r hx => List.findSome?_eq_none_iff.2 fun y hm => hplain y (hx y hm)
  have h2 : ∀ (ob : Option Nat) (r l : List AV), (∀ y ∈ r, plainAV y = true) → (∀ g : AHeap, omap (pur depth g) r = some l) → omap (finishOne h ob) r = some (l.map RC.p) := by
    intro ob r
    induction r with
    | nil => intro l _ hp; have := hp h; simp only [omap, Option.some.injEq] at this; subst this; rfl
    | cons y r ih =>
      intro l hx hp
      have hp' := hp (endHeap h ob)
      simp only [omap] at hp'
      split at hp'
      · rename_i z hz
        split at hp'
        · rename_i l' hl'
          simp only [Option.some.injEq] at hp'
          subst hp'
          have h3 := hx y (List.mem_cons_self ..)
          have hg : ∀ g : AHeap, omap (pur depth g) r = some l' := by
            intro g
            have hq := hp g
            simp only [omap] at hq
            split at hq
            · split at hq
              · rename_i l2 hl2
                simp only [Option.some.injEq, List.cons.injEq] at hq
                rw [hl2, hq.2]
              · cases hq
            · cases hq
          simp only [omap, ih l' (fun y hy => hx y (List.mem_cons_of_mem _ hy)) hg, finishOne, hplain y h3, htop y h3, hz]
          rfl
        · cases hp'
      · cases hp'
  have h3 : ∀ l : List AV, ownCount (l.map RC.p) = 0 := by
    intro l
    induction l with
    | nil => rfl
    | cons x l ih => simp only [ownCount, List.map_cons, List.filter_cons, RC.isOwn] at ih ⊢; exact ih
  rcases ho with ⟨rfl, hx⟩ | ⟨b, hne, _, rfl, hb⟩
  · have ho : ownOf h x = none ∧ topE x = true := by rcases hx with rfl | rfl <;> exact ⟨rfl, rfl⟩
    have hf : finishOne h none x = some (.p .e0) := by simp [finishOne, ho.1, ho.2]
    unfold finish
    rw [show (x :: r).findSome? (ownOf h) = none from by rw [List.findSome?_cons, ho.1]; exact h1 r hr]
    simp only [omap, hf, h2 none r l hr hp]
    have : ownCount (RC.p AV.e0 :: l.map RC.p) ≤ 1 := by
      have := h3 l
      simp only [ownCount, List.filter_cons, RC.isOwn] at this ⊢
      simp only [Bool.false_eq_true, if_false]
      omega
    rw [if_pos this]
    rfl
  · have ho : ownOf h (.sl b 0 es.length) = some b := by simp [ownOf, hb]
    have hf : finishOne h (some b) (.sl b 0 es.length) = some (.own sz es) := by
      simp only [finishOne, ho, if_true, hb, hes]
      rfl
    unfold finish
    rw [show (AV.sl b 0 es.length :: r).findSome? (ownOf h) = some b from by rw [List.findSome?_cons, ho]]
    simp only [omap, hf, h2 (some b) r l hr hp]
    have : ownCount (RC.own sz es :: l.map RC.p) ≤ 1 := by
      have := h3 l
      simp only [ownCount, List.filter_cons, RC.isOwn, if_true, List.length_cons] at this ⊢
      omega
    rw [if_pos this]
    cases es with
    | nil => exact absurd rfl hne
    | cons => rfl

theorem omap_rowI (l : List Int) (g : AHeap) : omap (omap (pur depth g)) (rowI l) = some (rowI l) := by
  induction l with
  | nil => rfl
  | cons n l ih =>
    have : rowI (n :: l) = [AV.v (.int .i64 n)] :: rowI l := rfl
    rw [this]
    simp only [omap, ih, pur_int]

theorem bsI1 (nxt : Nat) (n : Int) : bsO nxt 1 1 [.v (.int .i64 0)] [(0, .v (.int .i64 n))] = some ⟨.sl nxt 0 1, [(nxt, some ⟨true, 1, rowI [n]⟩)], 1⟩ := rfl
theorem mapR_op (st sz es y) : mapR st [] [.own sz es, .p y] = ⟨.tup [.sl st.nxt 0 es.length, y], [(st.nxt, some ⟨true, sz, es⟩)], 1⟩ := rfl
theorem mapR_o (st sz es) : mapR st [] [.own sz es] = ⟨.sl st.nxt 0 es.length, [(st.nxt, some ⟨true, sz, es⟩)], 1⟩ := rfl

end Go.Abs
