/-
The program in sight: what the reading of an argument tells: an argument of the type api.Value represents a value.
-/
import Derived.Test.YtmeepaihgipacaaGreatAbsX
import Derived.DataReads
import Derived.WideShapes
import Derived.OpenShut
set_option linter.unusedVariables false
set_option linter.unusedSimpArgs false
namespace Go.Abs
open Go.Proofs Go.ChangeShapes Go.RowKit

theorem mapM_at {α β : Type} {f : α → Option β} {l : List α} {r : List β} (h : l.mapM f = some r) : r.length = l.length ∧ ∀ i, (hi : i < l.length) → (hr : i < r.length) → f l[i] = some r[i] := by
  induction l generalizing r with
  | nil => simp at h; subst h; exact ⟨rfl, fun i hi => absurd hi (by simp)⟩
  | cons a l ih =>
    rw [List.mapM_cons] at h
    cases ha : f a with
    | none => rw [ha] at h; simp at h
    | some b =>
      rw [ha] at h
      cases hl : l.mapM f with
      | none => rw [hl] at h; simp at h
      | some r' =>
        rw [hl] at h
        simp at h
        subst h
        obtain ⟨h1, h2⟩ := ih hl
        refine ⟨by simp [h1], fun i hi hr => ?_⟩
        cases i with
        | zero => simpa using ha
        | succ i => simpa using h2 i (by simpa using hi) (by simpa using hr)

section
variable {H : Type} {enc : TypeId × Value → H} {P : Program} {w : World} {base : Nat} {sp : Nat → Bool} {held : Bool}

theorem trod_int {fuel : Nat} {t : TypeId} {k : IntKind} {c : Value} {x : DataW H × List MemPlace} (ht : P.underlying t = some (.int k)) (h : DataW.trod enc P w base sp held fuel t [c] = some x) : ∃ n, c = .int k n ∧ (Lit.int k n).wf = true ∧ x.1 = .lit (.int k n) := by
  cases fuel with
  | zero => simp [DataW.trod] at h
  | succ fuel =>
    unfold DataW.trod at h
    rw [ht] at h
    cases c <;> simp at h
    obtain ⟨⟨rfl, h1⟩, rfl⟩ := h
    exact ⟨_, rfl, h1, rfl⟩

theorem trod_str {fuel : Nat} {t : TypeId} {c : Value} {x : DataW H × List MemPlace} (ht : P.underlying t = some .string) (h : DataW.trod enc P w base sp held fuel t [c] = some x) : ∃ s, c = .string s ∧ x.1 = .lit (.string s.data.toList) := by
  cases fuel with
  | zero => simp [DataW.trod] at h
  | succ fuel =>
    unfold DataW.trod at h
    rw [ht] at h
    cases c <;> simp at h
    obtain ⟨_, rfl⟩ := h
    exact ⟨_, rfl, rfl⟩

/-- A slice that is read: nil, or rows. -/
theorem trod_slice {fuel : Nat} {t e : TypeId} {c : Value} {x : DataW H × List MemPlace} (ht : P.underlying t = some (.slice e)) (h : DataW.trod enc P w base sp held fuel t [c] = some x) :
    c = .slice none 0 0 ∨ ∃ (a : Addr) (len cap f : Nat) (elems rest : List (DataW H × List MemPlace)), fuel = f + 1 ∧ c = .slice (some a) len cap ∧ len ≤ cap ∧ elems.length = len ∧ x.1 = .slice (elems.map (·.1)) (rest.map (·.1)) ∧
      ∀ i, (hi : i < elems.length) → ∃ cs, cs.length = P.cellsOf e ∧ (∀ j, j < P.cellsOf e → w.cell? ((a.add (i * P.cellsOf e)).add j) = cs[j]?) ∧ DataW.trod enc P w base sp held f e cs = some elems[i] := by
  cases fuel with
  | zero => simp [DataW.trod] at h
  | succ fuel =>
    unfold DataW.trod at h
    rw [ht] at h
    cases c with
    | slice A len cap =>
      cases A with
      | none =>
        cases len <;> cases cap <;> simp at h
        exact .inl rfl
      | some a =>
        right
        simp only at h
        split at h
        · rename_i hc
          rw [Option.bind_eq_some_iff] at h
          obtain ⟨elems, he, h⟩ := h
          rw [Option.map_eq_some_iff] at h
          obtain ⟨rest, hrest, rfl⟩ := h
          obtain ⟨h1, h2⟩ := mapM_at he
          rw [List.length_range] at h1
          refine ⟨a, len, cap, fuel, elems, rest, rfl, rfl, hc.2.1, h1, rfl, fun i hi => ?_⟩
          have h3 := h2 i (by rw [List.length_range]; omega) hi
          rw [List.getElem_range, Option.bind_eq_some_iff] at h3
          obtain ⟨cs, hcs, h4⟩ := h3
          obtain ⟨_, h5, h6⟩ := World.cells?_some hcs
          exact ⟨cs, h5, h6, h4⟩
        · cases h
    | _ => simp at h

theorem wts_all {e : TypeId} {x : Nat} : ∀ {l : List (DataW H)} {d : DataW H}, d ∈ l → x ∈ d.weights P e → x ∈ DataW.weightsAll P e l
  | [], d, hd, _ => by cases hd
  | a :: l, d, hd, hx => by
    rw [DataW.weightsAll, List.mem_append]
    rcases List.mem_cons.1 hd with rfl | hd
    · exact .inl hx
    · exact .inr (wts_all hd hx)

theorem wts_slice {t e : TypeId} (ht : P.underlying t = some (.slice e)) (es rs : List (DataW H)) : (DataW.slice es rs).weights P t = (es.length + rs.length) * P.bytesOf e :: (DataW.weightsAll P e es ++ DataW.weightsAll P e rs) := by
  rw [DataW.weights, ht]
end

theorem addr_row {a : Addr} (hsp : a.spot = none) (i j : Nat) : (a.add i).add j = ⟨a.block, a.off + i + j, none⟩ := by
  obtain ⟨b, o, s⟩ := a
  simp only at hsp
  subst hsp
  unfold Addr.add
  by_cases hi : i = 0 <;> by_cases hj : j = 0 <;> simp [hi, hj]

/-- The memory of a world. -/
def AllS (w : World) : Nat → Prop := fun k => k < w.heap.size

theorem cell_lt {w : World} {a : Addr} {v : Value} (h : w.cell? a = some v) : a.block < w.heap.size := by
  unfold World.cell? at h
  split at h
  · rename_i hb
    exact (Array.getElem?_eq_some_iff.1 hb).1
  · cases h

/-- A row of rows, as a value. -/
theorem rep_rows {w : World} {a : Addr} {len cap sz : Nat} (hsz : 0 < sz) (es : List (List AV)) (hes : es.length = len) (hrow : ∀ e ∈ es, e.length = sz) (hcap : len ≤ cap)
    (hc : ∀ i, i < len → ∃ cs : List Value, cs.length = sz ∧ (∀ j, j < sz → w.cell? ((a.add (i * sz)).add j) = cs[j]?) ∧ ∀ j, j < sz → PRep (AllS w) w ((es.getD i []).getD j undefA) (cs.getD j undef)) : PRep (AllS w) w (can (.psl sz es)) (.slice (some a) len cap) := by
  cases hl : len with
  | zero =>
    have : es = [] := List.eq_nil_of_length_eq_zero (by omega)
    subst this
    exact .psl0 0 _ _
  | succ m =>
    have hcan : can (.psl sz es) = .psl sz es := by
      rcases can_raw (sz := sz) (es := es) with ⟨h1, _⟩ | ⟨_, h1⟩
      · subst h1; simp at hes; omega
      · exact h1
    rw [hcan, ← hl, ← hes]
    obtain ⟨cs0, g1, g2, _⟩ := hc 0 (by omega)
    have g3 := g2 0 hsz
    rw [List.getElem?_eq_getElem (by omega)] at g3
    have hsp : a.spot = none := by
      have := World.cell?_spot g3
      simpa [Addr.add] using this
    have hblk : a.block < w.heap.size := by
      have := cell_lt g3
      simpa [Addr.add] using this
    refine .psl sz es a cap (fun i j => if h : i < len then ((Classical.choose (hc i h)).getD j undef) else undef) (by omega) (by omega) hblk hsp hrow (fun i j hi hj => ?_) (fun i j hi hj => ?_)
    · have hi' : i < len := by omega
      obtain ⟨k1, k2, k3⟩ := Classical.choose_spec (hc i hi')
      have k4 := k2 j hj
      rw [addr_row hsp] at k4
      have gen : ∀ cs : List Value, j < cs.length → cs[j]? = some (cs.getD j undef) := fun cs h => by
        rw [List.getD_eq_getElem?_getD, List.getElem?_eq_getElem h]; rfl
      rw [k4]
      simp only [hi', dite_true]
      exact gen _ (by omega)
    · have hi' : i < len := by omega
      obtain ⟨k1, k2, k3⟩ := Classical.choose_spec (hc i hi')
      simp only [hi', dite_true]
      exact k3 j hj

/-! ### Values -/

theorem tu_Val : ∃ fs, Tryz.prog.underlying 25 = some (.struct fs) ∧ fs.toList.map (fun f => (f.type, f.offset)) = [(3, 0), (2, 1), (9, 2), (22, 3), (23, 4)] := ⟨_, Tryz.underlying25, by kernel_rfl⟩
theorem tu_int : Tryz.prog.underlying 3 = some (.int .i64) := by kernel_rfl
theorem tu_i64 : Tryz.prog.underlying 2 = some (.int .i64) := by kernel_rfl
theorem tu_str : Tryz.prog.underlying 9 = some .string := by kernel_rfl
theorem tu_Strs : Tryz.prog.underlying 22 = some (.slice 9) := by kernel_rfl
theorem tu_Vals : Tryz.prog.underlying 23 = some (.slice 25) := by kernel_rfl
theorem co_Val : Tryz.prog.cellsOf 25 = 5 := by kernel_rfl
theorem co_int : Tryz.prog.cellsOf 3 = 1 := by kernel_rfl
theorem co_i64 : Tryz.prog.cellsOf 2 = 1 := by kernel_rfl
theorem co_str : Tryz.prog.cellsOf 9 = 1 := by kernel_rfl
theorem co_Strs : Tryz.prog.cellsOf 22 = 1 := by kernel_rfl
theorem co_Vals : Tryz.prog.cellsOf 23 = 1 := by kernel_rfl
theorem bo_str : Tryz.prog.bytesOf 9 = 16 := by kernel_rfl
theorem bo_Val : Tryz.prog.bytesOf 25 = 80 := by kernel_rfl

section
variable {H : Type} {enc : TypeId × Value → H} {w : World} {base : Nat} {sp : Nat → Bool} {held : Bool}

/-- The parts of a struct. -/
theorem mapM_five {β : Type} {fs : List Field} {a b c d e : TypeId × Nat} (hfs : fs.map (fun f => (f.type, f.offset)) = [a, b, c, d, e]) {g : TypeId → Nat → Option β} {r : List β} (h : fs.mapM (fun f => g f.type f.offset) = some r) :
    ∃ x0 x1 x2 x3 x4, r = [x0, x1, x2, x3, x4] ∧ g a.1 a.2 = some x0 ∧ g b.1 b.2 = some x1 ∧ g c.1 c.2 = some x2 ∧ g d.1 d.2 = some x3 ∧ g e.1 e.2 = some x4 := by
  match fs, hfs with
  | [f0, f1, f2, f3, f4], hfs =>
    simp only [List.map_cons, List.map_nil, List.cons.injEq, and_true] at hfs
    obtain ⟨rfl, rfl, rfl, rfl, rfl⟩ := hfs
    obtain ⟨h1, h2⟩ := mapM_at h
    match r, h1 with
    | [x0, x1, x2, x3, x4], _ =>
      exact ⟨x0, x1, x2, x3, x4, rfl, h2 0 (by simp) (by simp), h2 1 (by simp) (by simp), h2 2 (by simp) (by simp), h2 3 (by simp) (by simp), h2 4 (by simp) (by simp)⟩

theorem list5 {cs : List Value} (h : cs.length = 5) : ∃ c0 c1 c2 c3 c4, cs = [c0, c1, c2, c3, c4] := by
  match cs, h with
  | [c0, c1, c2, c3, c4], _ => exact ⟨c0, c1, c2, c3, c4, rfl⟩

theorem trod_struct {fuel : Nat} {cs : List Value} {x : DataW H × List MemPlace} (h : DataW.trod enc Tryz.prog w base sp held fuel 25 cs = some x) :
    ∃ (f : Nat) (c0 c1 c2 c3 c4 : Value) (x0 x1 x2 x3 x4 : DataW H × List MemPlace), fuel = f + 1 ∧ cs = [c0, c1, c2, c3, c4] ∧ x.1 = .agg [x0.1, x1.1, x2.1, x3.1, x4.1] ∧ DataW.trod enc Tryz.prog w base sp held f 3 [c0] = some x0 ∧ DataW.trod enc Tryz.prog w base sp held f 2 [c1] = some x1 ∧
      DataW.trod enc Tryz.prog w base sp held f 9 [c2] = some x2 ∧ DataW.trod enc Tryz.prog w base sp held f 22 [c3] = some x3 ∧ DataW.trod enc Tryz.prog w base sp held f 23 [c4] = some x4 := by
  cases fuel with
  | zero => simp [DataW.trod] at h
  | succ fuel =>
    obtain ⟨fs, hu, hfs⟩ := tu_Val
    unfold DataW.trod at h
    rw [hu] at h
    simp only at h
    split at h
    · rename_i hlen
      rw [co_Val] at hlen
      obtain ⟨c0, c1, c2, c3, c4, rfl⟩ := list5 hlen
      · rw [Option.map_eq_some_iff] at h
        obtain ⟨r, hr, rfl⟩ := h
        obtain ⟨x0, x1, x2, x3, x4, rfl, g0, g1, g2, g3, g4⟩ := mapM_five hfs (g := fun t o => DataW.trod enc Tryz.prog w base sp held fuel t (([c0, c1, c2, c3, c4].drop o).take (Tryz.prog.cellsOf t))) hr
        simp only [co_int, co_i64, co_str, co_Strs, co_Vals] at g0 g1 g2 g3 g4
        exact ⟨fuel, c0, c1, c2, c3, c4, x0, x1, x2, x3, x4, rfl, rfl, rfl, g0, g1, g2, g3, g4⟩
    · cases h

theorem wts_five (d0 d1 d2 d3 d4 : DataW H) : (DataW.agg [d0, d1, d2, d3, d4]).weights Tryz.prog 25 = d0.weights Tryz.prog 3 ++ (d1.weights Tryz.prog 2 ++ (d2.weights Tryz.prog 9 ++ (d3.weights Tryz.prog 22 ++ (d4.weights Tryz.prog 23 ++ [])))) := by
  obtain ⟨fs, hu, hfs⟩ := tu_Val
  have hty : fs.toList.map (·.type) = [3, 2, 9, 22, 23] := by
    have := congrArg (List.map Prod.fst) hfs
    rw [List.map_map] at this
    exact this
  rw [DataW.weights, hu]
  simp only [hty, DataW.weightsEach]

theorem strs_read {f : Nat} {c : Value} {x : DataW H × List MemPlace} (h : DataW.trod enc Tryz.prog w base sp held f 22 [c] = some x) (hw : ∀ n ∈ x.1.weights Tryz.prog 22, n ≤ reachBytes) :
    ∃ ks : List ByteArray, ks.length < 1152921504606846976 ∧ (∀ k ∈ ks, k.size < 1152921504606846976) ∧ PRep (AllS w) w (encS ks) c := by
  have hre : reachBytes < 1152921504606846976 := by decide
  rcases trod_slice tu_Strs h with rfl | ⟨a, len, cap, f', elems, rest, rfl, rfl, hcap, hlen, hx, hel⟩
  · exact ⟨[], by decide, by simp, .psl0 0 _ _⟩
  · rw [hx, wts_slice tu_Strs, bo_str] at hw
    have hl := hw _ (List.mem_cons_self ..)
    rw [List.length_map, List.length_map] at hl
    have each : ∀ i, (hi : i < elems.length) → ∃ s : ByteArray, s.size < 1152921504606846976 ∧ ∃ cs : List Value, cs.length = 1 ∧ (∀ j, j < 1 → w.cell? ((a.add (i * 1)).add j) = cs[j]?) ∧ cs = [.string s] := by
      intro i hi
      obtain ⟨cs, g1, g2, g3⟩ := hel i hi
      rw [co_str] at g1 g2
      match cs, g1 with
      | [c], _ =>
        obtain ⟨s, rfl, hs⟩ := trod_str tu_str g3
        refine ⟨s, ?_, [.string s], rfl, g2, rfl⟩
        have hm : (elems[i]).1 ∈ elems.map (·.1) := List.mem_map.2 ⟨_, List.getElem_mem _, rfl⟩
        have := hw s.data.toList.length (List.mem_cons_of_mem _ (List.mem_append.2 (.inl (wts_all hm (by rw [hs]; simp [DataW.weights])))))
        rw [Array.length_toList] at this
        show s.data.size < _
        omega
    let ks : List ByteArray := (List.range elems.length).map fun i => if h : i < elems.length then Classical.choose (each i h) else .empty
    have hks : ks.length = len := by simp [ks, hlen]
    have hget : ∀ i, (hi : i < elems.length) → ks[i]? = some (Classical.choose (each i hi)) := fun i hi => by
      simp only [ks, List.getElem?_map, List.getElem?_range hi, Option.map_some, hi, dite_true]
    refine ⟨ks, by omega, fun k hk => ?_, ?_⟩
    · obtain ⟨i, hi, rfl⟩ := List.mem_iff_getElem.1 hk
      have hi' : i < elems.length := by omega
      have := hget i hi'
      rw [List.getElem?_eq_getElem hi] at this
      simp only [Option.some.injEq] at this
      rw [this]
      exact (Classical.choose_spec (each i hi')).1
    · refine rep_rows (sz := 1) (by decide) _ (by simp [hks]) (fun e he => by obtain ⟨s, _, rfl⟩ := List.mem_map.1 he; rfl) hcap (fun i hi => ?_)
      have hi' : i < elems.length := by omega
      obtain ⟨_, cs, k1, k2, k3⟩ := Classical.choose_spec (each i hi')
      refine ⟨cs, k1, k2, fun j hj => ?_⟩
      obtain rfl : j = 0 := by omega
      have h5 : (ks.map fun s => [AV.v (.string s)]).getD i [] = [AV.v (.string (Classical.choose (each i hi')))] := by
        rw [List.getD_eq_getElem?_getD, List.getElem?_map, hget i hi']; rfl
      rw [h5, k3]
      exact .v _

theorem val_read : ∀ (fuel : Nat) (cs : List Value) (x : DataW H × List MemPlace), DataW.trod enc Tryz.prog w base sp held fuel 25 cs = some x → (∀ n ∈ x.1.weights Tryz.prog 25, n ≤ reachBytes) →
    ∃ v : JV, v.Ok ∧ cs.length = 5 ∧ ∀ j, j < 5 → PRep (AllS w) w ((cellsJ v).getD j undefA) (cs.getD j undef) := by
  have hre : reachBytes < 1152921504606846976 := by decide
  intro fuel
  induction fuel using Nat.strongRecOn with
  | _ fuel ih =>
    intro cs x h hw
    obtain ⟨f, c0, c1, c2, c3, c4, x0, x1, x2, x3, x4, rfl, rfl, hx, g0, g1, g2, g3, g4⟩ := trod_struct h
    rw [hx, wts_five] at hw
    obtain ⟨k, rfl, wk, e0⟩ := trod_int tu_int g0
    obtain ⟨n, rfl, wn, e1⟩ := trod_int tu_i64 g1
    obtain ⟨s, rfl, e2⟩ := trod_str tu_str g2
    have hs : s.size < 1152921504606846976 := by
      have := hw s.data.toList.length (by simp [e2, DataW.weights])
      rw [Array.length_toList] at this
      show s.data.size < _
      omega
    obtain ⟨ks, hk1, hk2, hk3⟩ := strs_read g3 (fun n hn => hw n (by simp only [List.mem_append]; exact .inr (.inr (.inr (.inl hn)))))
    have hwe : ∀ n ∈ x4.1.weights Tryz.prog 23, n ≤ reachBytes := fun n hn => hw n (by simp only [List.mem_append]; exact .inr (.inr (.inr (.inr (.inl hn)))))
    obtain ⟨es, hl, he, hr⟩ : ∃ es : List JV, es.length < 1152921504606846976 ∧ (∀ e ∈ es, e.Ok) ∧ PRep (AllS w) w (encL es) c4 := by
      rcases trod_slice tu_Vals g4 with rfl | ⟨a, len, cap, f', elems, rest, rfl, rfl, hcap, hlen, hx4, hel⟩
      · exact ⟨[], by decide, by simp, .psl0 0 _ _⟩
      · rw [hx4, wts_slice tu_Vals, bo_Val] at hwe
        have hl := hwe _ (List.mem_cons_self ..)
        rw [List.length_map, List.length_map] at hl
        have each : ∀ i, (hi : i < elems.length) → ∃ v : JV, v.Ok ∧ ∃ cs : List Value, cs.length = 5 ∧ (∀ j, j < 5 → w.cell? ((a.add (i * 5)).add j) = cs[j]?) ∧ ∀ j, j < 5 → PRep (AllS w) w ((cellsJ v).getD j undefA) (cs.getD j undef) := by
          intro i hi
          obtain ⟨cs, q1, q2, q3⟩ := hel i hi
          rw [co_Val] at q1 q2
          have hm : (elems[i]).1 ∈ elems.map (·.1) := List.mem_map.2 ⟨_, List.getElem_mem _, rfl⟩
          obtain ⟨v, v1, v2, v3⟩ := ih f' (by omega) cs _ q3 (fun n hn => hwe n (List.mem_cons_of_mem _ (List.mem_append.2 (.inl (wts_all hm hn)))))
          exact ⟨v, v1, cs, v2, q2, v3⟩
        let es : List JV := (List.range elems.length).map fun i => if h : i < elems.length then Classical.choose (each i h) else default
        have hes : es.length = len := by simp [es, hlen]
        have hget : ∀ i, (hi : i < elems.length) → es[i]? = some (Classical.choose (each i hi)) := fun i hi => by
          simp only [es, List.getElem?_map, List.getElem?_range hi, Option.map_some, hi, dite_true]
        refine ⟨es, by omega, fun e he => ?_, ?_⟩
        · obtain ⟨i, hi, rfl⟩ := List.mem_iff_getElem.1 he
          have hi' : i < elems.length := by omega
          have := hget i hi'
          rw [List.getElem?_eq_getElem hi] at this
          simp only [Option.some.injEq] at this
          rw [this]
          exact (Classical.choose_spec (each i hi')).1
        · refine rep_rows (sz := 5) (by decide) _ (by simp [hes]) (fun e he => by obtain ⟨s, _, rfl⟩ := List.mem_map.1 he; rw [cellsJ_eq]; rfl) hcap (fun i hi => ?_)
          have hi' : i < elems.length := by omega
          obtain ⟨_, cs, k1, k2, k3⟩ := Classical.choose_spec (each i hi')
          refine ⟨cs, k1, k2, fun j hj => ?_⟩
          have h5 : (es.map cellsJ).getD i [] = cellsJ (Classical.choose (each i hi')) := by
            rw [List.getD_eq_getElem?_getD, List.getElem?_map, hget i hi']; rfl
          rw [h5]
          exact k3 j hj
    have hrng : -9223372036854775808 ≤ n ∧ n ≤ 9223372036854775807 := by
      exact bounds_i64 wn
    refine ⟨.mk k n s ks es, .mk k n s ks es hs hk1 hk2 hl he hrng, rfl, fun j hj => ?_⟩
    rw [cellsJ_eq]
    match j, hj with
    | 0, _ => exact .v _
    | 1, _ => exact .v _
    | 2, _ => exact .v _
    | 3, _ => exact hk3
    | 4, _ => exact hr
end

end Go.Abs
