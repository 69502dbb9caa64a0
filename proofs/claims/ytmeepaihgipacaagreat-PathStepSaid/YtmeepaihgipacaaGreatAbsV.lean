/-
An abstract interpreter, part V: values of JSON, and calls on values that are not known.
-/
import Derived.Test.YtmeepaihgipacaaGreatAbsU
set_option linter.unusedVariables false
set_option linter.unusedSimpArgs false
namespace Go.Abs

/-! ### Values -/

inductive JV where
  | mk (kind int : Int) (str : ByteArray) (keys : List ByteArray) (elems : List JV)

namespace JV
def kind : JV → Int | mk k _ _ _ _ => k
def int : JV → Int | mk _ n _ _ _ => n
def str : JV → ByteArray | mk _ _ s _ _ => s
def keys : JV → List ByteArray | mk _ _ _ ks _ => ks
def elems : JV → List JV | mk _ _ _ _ es => es
end JV

def encS (l : List ByteArray) : AV := can (.psl 1 (l.map fun s => [.v (.string s)]))

mutual
def cellsJ : JV → List AV
  | .mk k n s ks es => [.v (.int .i64 k), .v (.int .i64 n), .v (.string s), encS ks, can (.psl 5 (cellsL es))]
def cellsL : List JV → List (List AV)
  | [] => []
  | v :: r => cellsJ v :: cellsL r
end

theorem cellsL_map : ∀ l : List JV, cellsL l = l.map cellsJ
  | [] => rfl
  | v :: r => by rw [cellsL, cellsL_map r]; rfl

def rawL (l : List JV) : AV := .psl 5 (l.map cellsJ)
def rawS (l : List ByteArray) : AV := .psl 1 (l.map fun s => [.v (.string s)])
def encL (l : List JV) : AV := can (rawL l)
def encJ (v : JV) : AV := .agg [.v (.int .i64 v.kind), .v (.int .i64 v.int), .v (.string v.str), encS v.keys, encL v.elems]

theorem cellsJ_eq (v : JV) : cellsJ v = [.v (.int .i64 v.kind), .v (.int .i64 v.int), .v (.string v.str), encS v.keys, encL v.elems] := by
  cases v
  simp only [cellsJ, cellsL_map]
  rfl

theorem encJ_cells (v : JV) : (encJ v).cells = [.v (.int .i64 v.kind), .v (.int .i64 v.int), .v (.string v.str), encS v.keys, encL v.elems] := rfl
theorem encJ_fold (v : JV) : AV.agg [.v (.int .i64 v.kind), .v (.int .i64 v.int), .v (.string v.str), encS v.keys, encL v.elems] = encJ v := rfl

theorem can_raw {sz : Nat} {es : List (List AV)} : (es = [] ∧ can (.psl sz es) = .psl 0 []) ∨ (es ≠ [] ∧ can (.psl sz es) = .psl sz es) := by
  cases es with
  | nil => exact .inl ⟨rfl, rfl⟩
  | cons a r => exact .inr ⟨by simp, rfl⟩

theorem can_psl_isCell {sz : Nat} {es : List (List AV)} : (can (.psl sz es)).isCell = true ∧ (can (.psl sz es)).cells = [can (.psl sz es)] := by
  rcases can_raw (sz := sz) (es := es) with ⟨_, h⟩ | ⟨_, h⟩ <;> rw [h] <;> exact ⟨rfl, rfl⟩

theorem encJ_flat (v : JV) : (encJ v).flat = true := by
  have h1 := (can_psl_isCell (sz := 1) (es := v.keys.map fun s => [.v (.string s)])).1
  have h2 := (can_psl_isCell (sz := 5) (es := v.elems.map cellsJ)).1
  simp only [AV.flat, encJ_cells, List.all_cons, List.all_nil, Bool.and_true, Bool.and_eq_true]
  exact ⟨rfl, rfl, rfl, h1, h2⟩
theorem encS_flat (l : List ByteArray) : (encS l).flat = true := by
  obtain ⟨h1, h2⟩ := can_psl_isCell (sz := 1) (es := l.map fun s => [.v (.string s)])
  show ((encS l).cells.all AV.isCell) = true
  rw [show (encS l).cells = [encS l] from h2, List.all_cons, List.all_nil, Bool.and_true]
  exact h1
theorem encL_flat (l : List JV) : (encL l).flat = true := by
  obtain ⟨h1, h2⟩ := can_psl_isCell (sz := 5) (es := l.map cellsJ)
  show ((encL l).cells.all AV.isCell) = true
  rw [show (encL l).cells = [encL l] from h2, List.all_cons, List.all_nil, Bool.and_true]
  exact h1
theorem encS_cells (l : List ByteArray) : (encS l).cells = [encS l] := can_psl_isCell.2
theorem encL_cells (l : List JV) : (encL l).cells = [encL l] := can_psl_isCell.2
theorem int_flat (k : IntKind) (n : Int) : (AV.v (.int k n)).flat = true := rfl
theorem bool_flat (b : Bool) : (AV.v (.bool b)).flat = true := rfl
theorem str_flat (s : ByteArray) : (AV.v (.string s)).flat = true := rfl
theorem int_cells (k : IntKind) (n : Int) : (AV.v (.int k n)).cells = [.v (.int k n)] := rfl
theorem bool_cells (b : Bool) : (AV.v (.bool b)).cells = [.v (.bool b)] := rfl
theorem str_cells (s : ByteArray) : (AV.v (.string s)).cells = [.v (.string s)] := rfl
theorem nil_cells : (AV.v (.slice none 0 0)).cells = [.v (.slice none 0 0)] := rfl
theorem nil_flat : (AV.v (.slice none 0 0)).flat = true := rfl

theorem boxJ (n : Nat) (v : JV) : boxO n (encJ v) = some ⟨.ptr n 0 0, [(n, some ⟨true, 5, [cellsJ v]⟩)], 1⟩ := by
  unfold boxO
  rw [if_pos (encJ_flat v), cellsJ_eq]
  rfl
theorem newBlk1 (n sz es) : newBlk n sz es = [(n, some ⟨true, sz, es⟩)] := rfl

/-- No string and no list in it is without measure. -/
inductive JV.Ok : JV → Prop
  | mk (k n : Int) (s : ByteArray) (ks : List ByteArray) (es : List JV) (hs : s.size < 1152921504606846976) (hk : ks.length < 1152921504606846976) (hks : ∀ x ∈ ks, x.size < 1152921504606846976) (hl : es.length < 1152921504606846976) (he : ∀ e ∈ es, JV.Ok e) (hr : -9223372036854775808 ≤ n ∧ n ≤ 9223372036854775807) : JV.Ok (.mk k n s ks es)
theorem JV.Ok.str {v : JV} (h : v.Ok) : v.str.size < 1152921504606846976 := by cases h; assumption
theorem JV.Ok.keys {v : JV} (h : v.Ok) : v.keys.length < 1152921504606846976 := by cases h; assumption
theorem JV.Ok.key {v : JV} (h : v.Ok) : ∀ x ∈ v.keys, x.size < 1152921504606846976 := by cases h; assumption
theorem JV.Ok.elems {v : JV} (h : v.Ok) : v.elems.length < 1152921504606846976 := by cases h; assumption
theorem JV.Ok.rng {v : JV} (h : v.Ok) : -9223372036854775808 ≤ v.int ∧ v.int ≤ 9223372036854775807 := by cases h; assumption
theorem JV.Ok.elem {v : JV} (h : v.Ok) : ∀ e ∈ v.elems, e.Ok := by cases h; assumption

section
variable (v : JV) (lv : Bool) (n : Nat)
theorem ldJ : loadC true 5 (cellsJ v) = some ⟨encJ v, [], 0⟩ := by rw [cellsJ_eq]; rfl
theorem ldB : loadB true 5 0 0 (some ⟨lv, 5, [cellsJ v]⟩) = some ⟨encJ v, [], 0⟩ := by rw [cellsJ_eq]; rfl
theorem ldB0 : loadB false n 0 0 (some ⟨lv, 5, [cellsJ v]⟩) = some ⟨.v (.int .i64 v.kind), [], 0⟩ := by rw [cellsJ_eq]; rfl
theorem ldB1 : loadB false n 0 1 (some ⟨lv, 5, [cellsJ v]⟩) = some ⟨.v (.int .i64 v.int), [], 0⟩ := by rw [cellsJ_eq]; rfl
theorem ldB2 : loadB false n 0 2 (some ⟨lv, 5, [cellsJ v]⟩) = some ⟨.v (.string v.str), [], 0⟩ := by rw [cellsJ_eq]; rfl
theorem ldB3 : loadB false n 0 3 (some ⟨lv, 5, [cellsJ v]⟩) = some ⟨encS v.keys, [], 0⟩ := by rw [cellsJ_eq]; rfl
theorem ldB4 : loadB false n 0 4 (some ⟨lv, 5, [cellsJ v]⟩) = some ⟨encL v.elems, [], 0⟩ := by rw [cellsJ_eq]; rfl
theorem faJ0 : faN 0 (some 1) (.pptr (cellsJ v)) = some ⟨.pptr (cellsJ v), [], 0⟩ := by rw [cellsJ_eq]; rfl
theorem faJ1 : faN 1 (some 1) (.pptr (cellsJ v)) = some ⟨.pptr [.v (.int .i64 v.int), .v (.string v.str), encS v.keys, encL v.elems], [], 0⟩ := by rw [cellsJ_eq]; rfl
theorem faJ2 : faN 2 (some 1) (.pptr (cellsJ v)) = some ⟨.pptr [.v (.string v.str), encS v.keys, encL v.elems], [], 0⟩ := by rw [cellsJ_eq]; rfl
theorem faJ3 : faN 3 (some 1) (.pptr (cellsJ v)) = some ⟨.pptr [encS v.keys, encL v.elems], [], 0⟩ := by rw [cellsJ_eq]; rfl
theorem faJ4 : faN 4 (some 1) (.pptr (cellsJ v)) = some ⟨.pptr [encL v.elems], [], 0⟩ := by rw [cellsJ_eq]; rfl
theorem ldJ0 : loadC false n (cellsJ v) = some ⟨.v (.int .i64 v.kind), [], 0⟩ := by rw [cellsJ_eq]; rfl
theorem faB (off b i o : Nat) : faN off (some 1) (.ptr b i o) = some ⟨.ptr b i (o + off), [], 0⟩ := rfl
end
theorem alen_cons (x : AV) (r : List AV) : (x :: r).length = r.length + 1 := rfl
theorem alen_nil : ([] : List AV).length = 0 := rfl
theorem rlen_cons (x : List AV) (r : List (List AV)) : (x :: r).length = r.length + 1 := rfl
theorem rlen_nil : ([] : List (List AV)).length = 0 := rfl
theorem atake_zero (l : List AV) : l.take 0 = [] := rfl
theorem atake_succ (n : Nat) (x : AV) (l : List AV) : (x :: l).take (n + 1) = x :: l.take n := rfl
theorem adrop_zero (l : List AV) : l.drop 0 = l := rfl
theorem adrop_succ (n : Nat) (x : AV) (l : List AV) : (x :: l).drop (n + 1) = l.drop n := rfl
theorem agetD_zero (x : AV) (l : List AV) (d : AV) : (x :: l).getD 0 d = x := rfl
theorem agetD_succ (n : Nat) (x : AV) (l : List AV) (d : AV) : (x :: l).getD (n + 1) d = l.getD n d := rfl
theorem rgetD_zero (x : List AV) (l : List (List AV)) (d : List AV) : (x :: l).getD 0 d = x := rfl
theorem rgetD_succ (n : Nat) (x : List AV) (l : List (List AV)) (d : List AV) : (x :: l).getD (n + 1) d = l.getD n d := rfl
theorem amap_cons (f : Operand → AV) (x : Operand) (r : List Operand) : (x :: r).map f = f x :: r.map f := rfl
theorem amap_nil (f : Operand → AV) : ([] : List Operand).map f = [] := rfl

/-! ### Slices -/

theorem lenA_encS (l : List ByteArray) : lenA (encS l) = some l.length := by
  unfold encS
  rcases can_raw (sz := 1) (es := l.map fun s => [.v (.string s)]) with ⟨h0, h⟩ | ⟨_, h⟩ <;> rw [h]
  · simp at h0; subst h0; rfl
  · simp [lenA]
theorem lenA_encL (l : List JV) : lenA (encL l) = some l.length := by
  unfold encL rawL
  rcases can_raw (sz := 5) (es := l.map cellsJ) with ⟨h0, h⟩ | ⟨_, h⟩ <;> rw [h]
  · simp at h0; subst h0; rfl
  · simp [lenA]
theorem lenA_rawL (l : List JV) : lenA (rawL l) = some l.length := by simp [lenA, rawL]
theorem lenA_rawS (l : List ByteArray) : lenA (rawS l) = some l.length := by simp [lenA, rawS]
theorem lenA_psl (sz es) : lenA (.psl sz es) = some es.length := rfl
theorem lenA_sl (b o n) : lenA (.sl b o n) = some n := rfl
theorem lenA_e0 : lenA .e0 = some 0 := rfl

instance : Inhabited JV := ⟨.mk 0 0 .empty [] []⟩

theorem ia_rawL (h : AHeap) (n : Int) (l : List JV) : iaN h n (some 5) (rawL l) = if 0 ≤ n ∧ n < l.length then some ⟨.pptr (cellsJ (l.getD n.toNat default)), [], 0⟩ else none := by
  unfold rawL
  rw [iaN_psl]
  by_cases hc : 0 ≤ n ∧ n < l.length
  · rw [if_pos hc, if_pos ⟨rfl, by omega, hc.1, by simpa using hc.2⟩]
    have hi : n.toNat < l.length := by omega
    simp [List.getD_eq_getElem?_getD, List.getElem?_eq_getElem hi]
  · rw [if_neg hc, if_neg (fun hh => hc ⟨hh.2.2.1, by simpa using hh.2.2.2⟩)]
theorem ia_rawS (h : AHeap) (n : Int) (l : List ByteArray) : iaN h n (some 1) (rawS l) = if 0 ≤ n ∧ n < l.length then some ⟨.pptr [.v (.string (l.getD n.toNat .empty))], [], 0⟩ else none := by
  unfold rawS
  rw [iaN_psl]
  by_cases hc : 0 ≤ n ∧ n < l.length
  · rw [if_pos hc, if_pos ⟨rfl, by omega, hc.1, by simpa using hc.2⟩]
    have hi : n.toNat < l.length := by omega
    simp [List.getD_eq_getElem?_getD, List.getElem?_eq_getElem hi]
  · rw [if_neg hc, if_neg (fun hh => hc ⟨hh.2.2.1, by simpa using hh.2.2.2⟩)]
theorem ia_encL (h : AHeap) (n : Int) (l : List JV) : iaN h n (some 5) (encL l) = if 0 ≤ n ∧ n < l.length then some ⟨.pptr (cellsJ (l.getD n.toNat default)), [], 0⟩ else none := by
  rw [← ia_rawL h n l]
  cases l with
  | nil =>
    show iaN h n (some 5) (.psl 0 []) = iaN h n (some 5) (.psl 5 [])
    rw [iaN_psl, iaN_psl, if_neg (by simp), if_neg (by simp)]
  | cons => rfl
theorem ia_encS (h : AHeap) (n : Int) (l : List ByteArray) : iaN h n (some 1) (encS l) = if 0 ≤ n ∧ n < l.length then some ⟨.pptr [.v (.string (l.getD n.toNat .empty))], [], 0⟩ else none := by
  rw [← ia_rawS h n l]
  cases l with
  | nil =>
    show iaN h n (some 1) (.psl 0 []) = iaN h n (some 1) (.psl 1 [])
    rw [iaN_psl, iaN_psl, if_neg (by simp), if_neg (by simp)]
  | cons => rfl

/-! ### Calls -/

theorem pur_can (n : Nat) (h : AHeap) (sz : Nat) (es : List (List AV)) : pur (n + 1) h (can (.psl sz es)) = some (can (.psl sz es)) := by
  rcases can_raw (sz := sz) (es := es) with ⟨_, h1⟩ | ⟨h0, h1⟩ <;> rw [h1]
  · rfl
  · rw [← h1]; simp only [h1]; unfold pur; simp only; rw [h1]
theorem reach_can (n : Nat) (h : AHeap) (sz : Nat) (es : List (List AV)) : reach n h (can (.psl sz es)) = [] := by
  rcases can_raw (sz := sz) (es := es) with ⟨_, h1⟩ | ⟨h0, h1⟩ <;> rw [h1] <;> cases n <;> rfl
theorem pur_encS (h : AHeap) (l : List ByteArray) : pur depth h (encS l) = some (encS l) := pur_can 23 h _ _
theorem pur_encL (h : AHeap) (l : List JV) : pur depth h (encL l) = some (encL l) := pur_can 23 h _ _
theorem pur_rawS (h : AHeap) (l : List ByteArray) : pur depth h (rawS l) = some (encS l) := rfl
theorem pur_rawL (h : AHeap) (l : List JV) : pur depth h (rawL l) = some (encL l) := rfl
theorem pur_int (h : AHeap) (k : IntKind) (n : Int) : pur depth h (.v (.int k n)) = some (.v (.int k n)) := rfl
theorem pur_bool (h : AHeap) (b : Bool) : pur depth h (.v (.bool b)) = some (.v (.bool b)) := rfl
theorem pur_str (h : AHeap) (s : ByteArray) : pur depth h (.v (.string s)) = some (.v (.string s)) := rfl
theorem pur_encJ (h : AHeap) (v : JV) : pur depth h (encJ v) = some (encJ v) := by
  show (omap (pur 23 h) _).map AV.agg = _
  have h1 : pur 23 h (encS v.keys) = some (encS v.keys) := pur_can 22 h _ _
  have h2 : pur 23 h (encL v.elems) = some (encL v.elems) := pur_can 22 h _ _
  simp only [omap, h1, h2]
  rfl
theorem reach_v (h : AHeap) (n : Nat) (x : Value) : reach n h (.v x) = [] := by cases n <;> rfl
theorem reach_encS (n : Nat) (h : AHeap) (l : List ByteArray) : reach n h (encS l) = [] := reach_can ..
theorem reach_encL (n : Nat) (h : AHeap) (l : List JV) : reach n h (encL l) = [] := reach_can ..
theorem reach_rawS (n : Nat) (h : AHeap) (l : List ByteArray) : reach n h (rawS l) = [] := by cases n <;> rfl
theorem reach_rawL (n : Nat) (h : AHeap) (l : List JV) : reach n h (rawL l) = [] := by cases n <;> rfl
theorem reach_e0 (n : Nat) (h : AHeap) : reach n h .e0 = [] := by cases n <;> rfl
theorem reach_psl (n : Nat) (h : AHeap) (sz es) : reach n h (.psl sz es) = [] := by cases n <;> rfl
theorem reach_encJ (n : Nat) (h : AHeap) (v : JV) : reach n h (encJ v) = [] := by
  cases n with
  | zero => rfl
  | succ n =>
    show [_, _, _, _, _].flatMap (reach n h) = []
    simp [reach_v, reach_encS, reach_encL]

/-- A call on values without places. -/
noncomputable def acallU (E : Env) (f : FuncId) (st : St) (args : List AV) : List Nat → Option Out
  | fr => let upd := freezes st.heap fr
      match omap (pur depth (applyUpd st.heap upd)) args with
      | some l => (callF E f l).map (mapR st upd)
      | none => none
theorem acallF_plain {E : Env} {f : FuncId} {args : List AV} {st : St} (h : E.prim f = none) : acallF E f args st = acallU E f st args (args.flatMap (reach depth st.heap)) := by
  unfold acallF
  rw [h]
  rfl
noncomputable def acallP (E : Env) (f : FuncId) (args : List AV) (st : St) : Option (List RC → Option (List RC)) → Option Out
  | some spec =>
      let owns := args.filterMap (ownOf st.heap)
      let fr := args.flatMap (primReach st.heap)
      if owns.all (fun b => !fr.contains b) && decide owns.Nodup then
        match primArgs (applyUpd st.heap (freezes st.heap fr)) args with
        | some l => (spec l).map (mapR st (freezes st.heap fr ++ owns.map fun b => (b, none)))
        | none => none
      else none
  | none => acallU E f st args (args.flatMap (reach depth st.heap))
theorem acallF_eq (E f args st) : acallF E f args st = acallP E f args st (E.prim f) := by
  unfold acallF acallP acallU
  cases E.prim f <;> rfl
theorem acallP_zero (E f st) (spec : List RC → Option (List RC)) : acallP E f [] st (some spec) = (spec []).map (mapR st []) := rfl
theorem own_can (h : AHeap) (sz : Nat) (es : List (List AV)) : ownOf h (can (.psl sz es)) = none := by
  rcases can_raw (sz := sz) (es := es) with ⟨_, h1⟩ | ⟨h0, h1⟩ <;> rw [h1] <;> rfl
theorem acallP_can (E f st) (sz : Nat) (es : List (List AV)) (spec : List RC → Option (List RC)) : acallP E f [can (.psl sz es)] st (some spec) = (spec [.p (can (.psl sz es))]).map (mapR st []) := by
  have h1 : ∀ h, primReach h (can (.psl sz es)) = [] := fun h => by unfold primReach; rw [own_can]; exact reach_can ..
  have h2 : [can (.psl sz es)].filterMap (ownOf st.heap) = [] := by simp [own_can]
  have h3 : [can (.psl sz es)].flatMap (primReach st.heap) = [] := by simp [h1]
  have h4 : ∀ h, primArgs h [can (.psl sz es)] = some [.p (can (.psl sz es))] := fun h => by simp only [primArgs, own_can]; rw [show pur depth h (can (.psl sz es)) = some (can (.psl sz es)) from pur_can 23 h _ _]
  have h5 : freezes st.heap [] = [] := rfl
  simp only [acallP, h2, h3, h4, h5]
  rfl
theorem acallP_encS (E f st) (l : List ByteArray) (spec : List RC → Option (List RC)) : acallP E f [encS l] st (some spec) = (spec [.p (encS l)]).map (mapR st []) := acallP_can ..
theorem acallP_encL (E f st) (l : List JV) (spec : List RC → Option (List RC)) : acallP E f [encL l] st (some spec) = (spec [.p (encL l)]).map (mapR st []) := acallP_can ..
theorem acallP_none (E f args st) : acallP E f args st none = acallU E f st args (args.flatMap (reach depth st.heap)) := rfl
theorem fm_cons (f : AV → List Nat) (x : AV) (r : List AV) : (x :: r).flatMap f = f x ++ r.flatMap f := List.flatMap_cons
theorem fm_nil (f : AV → List Nat) : ([] : List AV).flatMap f = [] := rfl
theorem nil_app (l : List Nat) : [] ++ l = l := rfl
noncomputable def acallV (E : Env) (f : FuncId) (st : St) : Option (List AV) → Option Out
  | some l => (callF E f l).map (mapR st [])
  | none => none
theorem acallU_nil (E f st args) : acallU E f st args [] = acallV E f st (omap (pur depth st.heap) args) := by
  unfold acallU acallV
  have h0 : freezes st.heap [] = [] := rfl
  simp only [h0, applyUpd_nil]
noncomputable def acallY (E : Env) (f : FuncId) (st : St) (upd : List (Nat × Option Blk)) : Option (List AV) → Option Out
  | some l => (callF E f l).map (mapR st upd)
  | none => none
theorem acallY_some (E f st u l) : acallY E f st u (some l) = (callF E f l).map (mapR st u) := rfl
noncomputable def acallX (E : Env) (f : FuncId) (st : St) (args : List AV) (upd : List (Nat × Option Blk)) : Option Out := acallY E f st upd (omap (pur depth (applyUpd st.heap upd)) args)
theorem acallU_cons (E f st args b r) : acallU E f st args (b :: r) = acallX E f st args (freezes st.heap (b :: r)) := by
  unfold acallU acallX acallY
  rfl
theorem acallX_nil (E f st args) : acallX E f st args [] = acallV E f st (omap (pur depth st.heap) args) := by
  unfold acallX acallV acallY
  simp only [applyUpd_nil]
theorem acallX_cons (E f st args u us) : acallX E f st args (u :: us) = acallY E f st (u :: us) (omap (pur depth (applyUpd st.heap (u :: us))) args) := rfl
theorem makeO_true (E f caps h) : makeO E f caps h true = some ⟨.fn f caps, freezes h (caps.flatMap (reach depth h)), 0⟩ := rfl
theorem makeO_false (E f caps h) : makeO E f caps h false = some ⟨.fn f caps, [], 0⟩ := rfl
def frzC (h : AHeap) (b : Nat) (r : List Nat) : Bool → List (Nat × Option Blk)
  | true => (b, (h b).map frozen) :: freezes h r
  | false => freezes h r
theorem frz_nil (h) : freezes h [] = [] := rfl
theorem frz_cons (h b r) : freezes h (b :: r) = frzC h b r (liveB h b) := by
  unfold freezes frzC
  cases hb : liveB h b
  · rw [List.filter_cons_of_neg (by rw [hb]; decide)]; rfl
  · rw [List.filter_cons_of_pos hb]; rfl
theorem frzC_true (h b r) : frzC h b r true = (b, (h b).map frozen) :: freezes h r := rfl
theorem frzC_false (h b r) : frzC h b r false = freezes h r := rfl
def lvO : Option Blk → Bool
  | some blk => blk.lv
  | none => false
theorem liveB_eq (h b) : liveB h b = lvO (h b) := rfl
theorem lvO_some (lv sz es) : lvO (some ⟨lv, sz, es⟩) = lv := rfl
theorem map_frozen (lv sz es) : (some (⟨lv, sz, es⟩ : Blk)).map frozen = some ⟨false, sz, es⟩ := rfl
def rchB (n : Nat) (h : AHeap) : Option Blk → List Nat
  | some blk => blk.es.flatMap fun e => e.flatMap (reach n h)
  | none => []
theorem reach_ptr (n h b i o) : reach (n + 1) h (.ptr b i o) = b :: rchB n h (h b) := by rw [reach]; cases h b <;> rfl
theorem reach_ptrD (h b i o) : reach depth h (.ptr b i o) = b :: rchB 23 h (h b) := reach_ptr 23 h b i o
theorem rchB_one (n h lv sz cs) : rchB n h (some ⟨lv, sz, [cs]⟩) = cs.flatMap (reach n h) ++ [] := rfl
theorem rch_cellsJ (n h) (v : JV) : (cellsJ v).flatMap (reach n h) = [] := by
  rw [cellsJ_eq]; simp [reach_v, reach_encS, reach_encL]
theorem purI_ptr (h : AHeap) (b sz : Nat) (k : IntKind) (z : Int) (hb : h b = some ⟨false, sz, [[.v (.int k z)]]⟩) : pur depth h (.ptr b 0 0) = some (.pptr [.v (.int k z)]) := by
  show pur (23 + 1) h _ = _
  rw [pur]; simp only [hb]; rfl
theorem purJ_cells (n : Nat) (h : AHeap) (v : JV) : omap (pur (n + 1) h) (cellsJ v) = some (cellsJ v) := by
  have h1 : pur (n + 1) h (encS v.keys) = some (encS v.keys) := pur_can n h _ _
  have h2 : pur (n + 1) h (encL v.elems) = some (encL v.elems) := pur_can n h _ _
  rw [cellsJ_eq]
  simp only [omap, h1, h2]
  rfl
theorem purJ_ptr (h : AHeap) (b sz : Nat) (v : JV) (hb : h b = some ⟨false, sz, [cellsJ v]⟩) : pur depth h (.ptr b 0 0) = some (.pptr (cellsJ v)) := by
  show pur (23 + 1) h _ = _
  rw [pur]; simp only [hb, List.length_cons, List.length_nil]
  rw [if_pos ⟨trivial, by decide⟩]
  show (omap (pur 23 h) (cellsJ v)).map AV.pptr = _
  rw [purJ_cells 22]; rfl
theorem pur_pptr (h : AHeap) (cs : List AV) : pur depth h (.pptr cs) = some (.pptr cs) := rfl
theorem reach_pptr (n : Nat) (h : AHeap) (cs) : reach n h (.pptr cs) = [] := by cases n <;> rfl
def fnM (f : FuncId) : Option (List AV) → Option AV
  | some cs => some (.fn f cs)
  | none => none
theorem pur_fn (h : AHeap) (f : FuncId) (cs : List AV) : pur depth h (.fn f cs) = fnM f (omap (pur 23 h) cs) := by
  show pur (23 + 1) h _ = _
  rw [pur]; cases omap (pur 23 h) cs <;> rfl
theorem fnM_some (f cs) : fnM f (some cs) = some (.fn f cs) := rfl
theorem reach_fn (h : AHeap) (f : FuncId) (cs : List AV) : reach depth h (.fn f cs) = cs.flatMap (reach 23 h) := rfl
theorem purJ_ptr3 (h : AHeap) (b sz : Nat) (v : JV) (hb : h b = some ⟨false, sz, [cellsJ v]⟩) : pur 23 h (.ptr b 0 0) = some (.pptr (cellsJ v)) := by
  show pur (22 + 1) h _ = _
  rw [pur]; simp only [hb, List.length_cons, List.length_nil]
  rw [if_pos ⟨trivial, by decide⟩]
  show (omap (pur 22 h) (cellsJ v)).map AV.pptr = _
  rw [purJ_cells 21]; rfl
theorem purI_ptr3 (h : AHeap) (b sz : Nat) (k : IntKind) (z : Int) (hb : h b = some ⟨false, sz, [[.v (.int k z)]]⟩) : pur 23 h (.ptr b 0 0) = some (.pptr [.v (.int k z)]) := by
  show pur (22 + 1) h _ = _
  rw [pur]; simp only [hb]; rfl
theorem reach_ptr3 (h b i o) : reach 23 h (.ptr b i o) = b :: rchB 22 h (h b) := reach_ptr 22 h b i o
theorem pur3_pptr (h : AHeap) (cs : List AV) : pur 23 h (.pptr cs) = some (.pptr cs) := rfl
theorem mapR_pu (st u us x) : mapR st (u :: us) [.p x] = ⟨x, u :: us, 0⟩ := by simp [mapR, mat, uncomps]
theorem mapR_ppu (st u us x y) : mapR st (u :: us) [.p x, .p y] = ⟨.tup [x, y], u :: us, 0⟩ := by simp [mapR, mat, uncomps]
theorem symF : type_of% @acallU_cons ∧ type_of% @acallX_nil ∧ type_of% @acallX_cons ∧ type_of% @acallY_some ∧ type_of% @makeO_true ∧ type_of% @makeO_false ∧ type_of% @frz_nil ∧ type_of% @frz_cons ∧ type_of% @frzC_true ∧ type_of% @frzC_false ∧ type_of% @liveB_eq ∧ type_of% @lvO_some ∧ type_of% @map_frozen ∧ type_of% @reach_ptrD ∧ type_of% @rchB_one ∧ type_of% @rch_cellsJ ∧ type_of% @purI_ptr ∧ type_of% @purJ_ptr ∧ type_of% @pur_pptr ∧ type_of% @reach_pptr ∧ type_of% @pur_fn ∧ type_of% @fnM_some ∧ type_of% @reach_fn ∧ type_of% @purJ_ptr3 ∧ type_of% @purI_ptr3 ∧ type_of% @reach_ptr3 ∧ type_of% @pur3_pptr ∧ type_of% @mapR_pu ∧ type_of% @mapR_ppu :=
  ⟨@acallU_cons, @acallX_nil, @acallX_cons, @acallY_some, @makeO_true, @makeO_false, @frz_nil, @frz_cons, @frzC_true, @frzC_false, @liveB_eq, @lvO_some, @map_frozen, @reach_ptrD, @rchB_one, @rch_cellsJ, @purI_ptr, @purJ_ptr, @pur_pptr, @reach_pptr, @pur_fn, @fnM_some, @reach_fn, @purJ_ptr3, @purI_ptr3, @reach_ptr3, @pur3_pptr, @mapR_pu, @mapR_ppu⟩
theorem acallV_some (E f st l) : acallV E f st (some l) = (callF E f l).map (mapR st []) := rfl
theorem omap_cons {α β : Type} (f : α → Option β) (x : α) (r : List α) : omap f (x :: r) = match f x with | some y => (match omap f r with | some l => some (y :: l) | none => none) | none => none := rfl
theorem omap_nil {α β : Type} (f : α → Option β) : omap f [] = some [] := rfl
theorem mapR_p (st x) : mapR st [] [.p x] = ⟨x, [], 0⟩ := rfl
theorem mapR_pp (st x y) : mapR st [] [.p x, .p y] = ⟨.tup [x, y], [], 0⟩ := rfl
theorem mapR_ppp (st x y z) : mapR st [] [.p x, .p y, .p z] = ⟨.tup [x, y, z], [], 0⟩ := rfl
theorem map_some' {α β : Type} (f : α → β) (x : α) : (some x).map f = some (f x) := rfl
theorem map_ite {α β : Type} (f : α → β) {p : Prop} [Decidable p] (x y : Option α) : (if p then x else y).map f = if p then x.map f else y.map f := by split <;> rfl
theorem callee_func (env : Nat → AV) (f : FuncId) (args : Array Operand) (ats : Array TypeId) : calleeOf (aevalO env) { callee := .value (.func f), args := args, argTypes := ats } = some (f, args.toList.map (aevalO env)) := by
  simp [calleeOf, aevalO]
def calleeX (as : List AV) : AV → Option (FuncId × List AV)
  | .fn f caps => some (f, as ++ caps)
  | _ => none
theorem callee_tmp (env : Nat → AV) (t : Tmp) (args : Array Operand) (ats : Array TypeId) : calleeOf (aevalO env) { callee := .value (.tmp t), args := args, argTypes := ats } = calleeX (args.toList.map (aevalO env)) (env t) := by
  simp only [calleeOf, aevalO]
  cases env t <;> rfl
theorem calleeX_fn (as f caps) : calleeX as (.fn f caps) = some (f, as ++ caps) := rfl
theorem callK_some (E q ops l d st f args) : callK E q ops l d st (some (f, args)) = if E.ref f then refK E q ops l d st (body E (execF E) f args st.heap st.nxt) else runK E q ops l d st (acallF E f args st) := rfl

/-- A function on values without places. -/
def resL (E : Env) (rs : List ResultVar) : Option (Ex × St) → Option (List RC)
  | some (.normal, st) | some (.ret, st) => match omap (resultAV E.P st) rs with
    | some r => finish st.heap r
    | none => none
  | _ => none
noncomputable def execB (E : Env) (st : St) : Option Code → Option (Ex × St)
  | some c => execF E c st
  | none => none
theorem execB_some (E : Env) (st : St) (c : Code) : execB E st (some c) = execF E c st := rfl
theorem callF_fn {E : Env} {f : FuncId} {fn : Func} {args : List AV} (hf : E.P.funcs[f]? = some fn) (hok : fnOk fn = true) : callF E f args = resL E fn.results.toList (execB E ⟨argEnv args, fun _ => none, 0⟩ fn.body) := by
  unfold callF callP body
  cases hc : fn.body with
  | none => unfold fnOk at hok; rw [hc] at hok; cases hok
  | some c =>
    simp only [hf, hc, hok, if_true, execB]
    rcases execF E c ⟨argEnv args, fun _ => none, 0⟩ with _ | ⟨e, st⟩
    · rfl
    · cases e with
      | normal => simp only [resL]; cases omap (resultAV E.P st) fn.results.toList <;> rfl
      | ret => simp only [resL]; cases omap (resultAV E.P st) fn.results.toList <;> rfl
      | exit i => rfl
def resK (h : AHeap) : Option (List AV) → Option (List RC)
  | some r => finish h r
  | none => none
theorem resL_normal (E rs st) : resL E rs (some (.normal, st)) = resK st.heap (omap (resultAV E.P st) rs) := by
  simp only [resL]; cases omap (resultAV E.P st) rs <;> rfl
theorem resL_ret (E rs st) : resL E rs (some (.ret, st)) = resK st.heap (omap (resultAV E.P st) rs) := by
  simp only [resL]; cases omap (resultAV E.P st) rs <;> rfl
theorem resK_some (h r) : resK h (some r) = finish h r := rfl
theorem resL_ite (E rs) {p : Prop} [Decidable p] (x y : Option (Ex × St)) : resL E rs (if p then x else y) = if p then resL E rs x else resL E rs y := by split <;> rfl
theorem res_tmp (P : Program) (st : St) (t : Tmp) : resultAV P st (.tmp t) = some (st.env t) := rfl

/-- The loops of a piece of code, the outer ones first. -/
def loopsOf : Code → List Code
  | .seq a b => loopsOf a ++ loopsOf b
  | .cond _ a b => loopsOf a ++ loopsOf b
  | .block _ b => loopsOf b
  | .loop b => .loop b :: loopsOf b
  | _ => []
def loopN (fn : Func) (k : Nat) : Code := match fn.body with
  | some c => (loopsOf c).getD k .skip
  | none => .skip
theorem argEnv1 (a : AV) : argEnv [a] = fset (fun _ => undefA) 0 a := by
  funext t; unfold argEnv fset; rcases t with _ | _ <;> simp
theorem argEnv2 (a b : AV) : argEnv [a, b] = fset (fset (fun _ => undefA) 1 b) 0 a := by
  funext t; unfold argEnv fset; rcases t with _ | _ | _ <;> simp
theorem argEnv3 (a b c : AV) : argEnv [a, b, c] = fset (fset (fset (fun _ => undefA) 2 c) 1 b) 0 a := by
  funext t; unfold argEnv fset; rcases t with _ | _ | _ | _ <;> simp
theorem argEnv4 (a b c d : AV) : argEnv [a, b, c, d] = fset (fset (fset (fset (fun _ => undefA) 3 d) 2 c) 1 b) 0 a := by
  funext t; unfold argEnv fset; rcases t with _ | _ | _ | _ | _ <;> simp
theorem argEnv5 (a b c d e : AV) : argEnv [a, b, c, d, e] = fset (fset (fset (fset (fset (fun _ => undefA) 4 e) 3 d) 2 c) 1 b) 0 a := by
  funext t; unfold argEnv fset; rcases t with _ | _ | _ | _ | _ | _ <;> simp
theorem argEnv0 : argEnv [] = (fun _ => undefA) := by
  funext t; simp [argEnv]

/-- What a function hands back, without rows of its own. -/
def plainAV : AV → Bool
  | .sl _ _ _ => false
  | x => !topE x
theorem finish_one {h : AHeap} {x y : AV} (hx : plainAV x = true) (hp : pur depth (fun b => (h b).map frozen) x = some y) : finish h [x] = some [.p y] := by
  have ho : ownOf h x = none := by cases x <;> first | rfl | cases hx
  have ht : topE x = false := by cases x <;> first | rfl | cases hx | (simpa [plainAV] using hx)
  have he : endHeap h none = fun b => (h b).map frozen := by funext b; simp [endHeap]
  simp only [finish, List.findSome?, ho, omap, finishOne, he, hp, ht]
  rfl
theorem finish_two {h : AHeap} {x y x' y' : AV} (hx : plainAV x = true) (hx' : plainAV x' = true) (hp : pur depth (fun b => (h b).map frozen) x = some y) (hp' : pur depth (fun b => (h b).map frozen) x' = some y') : finish h [x, x'] = some [.p y, .p y'] := by
  have ho : ownOf h x = none := by cases x <;> first | rfl | cases hx
  have ho' : ownOf h x' = none := by cases x' <;> first | rfl | cases hx'
  have ht : topE x = false := by cases x <;> first | rfl | cases hx | (simpa [plainAV] using hx)
  have ht' : topE x' = false := by cases x' <;> first | rfl | cases hx' | (simpa [plainAV] using hx')
  have he : endHeap h none = fun b => (h b).map frozen := by funext b; simp [endHeap]
  simp only [finish, List.findSome?, ho, ho', omap, finishOne, he, hp, hp', ht, ht']
  rfl

theorem fin_bool (h : AHeap) (b : Bool) : finish h [.v (.bool b)] = some [.p (.v (.bool b))] := finish_one rfl rfl
theorem fin_int (h : AHeap) (k : IntKind) (n : Int) : finish h [.v (.int k n)] = some [.p (.v (.int k n))] := finish_one rfl rfl
theorem fin_str (h : AHeap) (s : ByteArray) : finish h [.v (.string s)] = some [.p (.v (.string s))] := finish_one rfl rfl
theorem fin_encJ (h : AHeap) (v : JV) : finish h [encJ v] = some [.p (encJ v)] := finish_one rfl (pur_encJ _ v)
theorem fin_JE (h : AHeap) (v : JV) (k : IntKind) (n : Int) : finish h [encJ v, .v (.int k n)] = some [.p (encJ v), .p (.v (.int k n))] := finish_two rfl rfl (pur_encJ _ v) rfl
theorem fin_JB (h : AHeap) (v : JV) (b : Bool) : finish h [encJ v, .v (.bool b)] = some [.p (encJ v), .p (.v (.bool b))] := finish_two rfl rfl (pur_encJ _ v) rfl


/-! ### The rules together -/

theorem symS : type_of% @execF_seq ∧ type_of% @exec_region ∧ type_of% @exec_draw ∧ type_of% @run_nil ∧ type_of% @run_any ∧ type_of% @run_guard ∧ type_of% @gslot_zero ∧ type_of% @gslot_succ ∧ type_of% @gval_some ∧ type_of% @gK_true ∧ type_of% @gK_false ∧ type_of% @gwO_true ∧ type_of% @gwO_false ∧ type_of% @gwO_undef ∧ type_of% @Bool.not_true ∧ type_of% @Bool.not_false ∧ type_of% @opK_true ∧ type_of% @opK_call ∧ type_of% @opK_make ∧ type_of% @plain_eqs ∧ type_of% @runK_val ∧ type_of% @runK_upd ∧ type_of% @runK_ite ∧ type_of% @runK_none ∧
    type_of% @putEnv_some ∧ type_of% @putEnv_none ∧ type_of% @ev_const ∧ type_of% @ev_tmp ∧ type_of% @ev_func ∧ type_of% @fset_app ∧ type_of% @applyUpd_nil ∧ type_of% @applyUpd_cons ∧ type_of% @normO_some ∧ type_of% @normO_ite ∧ type_of% @drawK_some ∧
    type_of% @thenF_normal ∧ type_of% @thenF_ret ∧ type_of% @thenF_exit ∧ type_of% @thenF_ite ∧ type_of% @blockF_normal ∧ type_of% @blockF_ret ∧ type_of% @blockF_exit ∧ type_of% @blockF_ite ∧ type_of% @exec_cond ∧ type_of% @condF_bool ∧
    type_of% @execF_ret ∧ type_of% @execF_skip ∧ type_of% @execF_exit ∧ type_of% @execF_label ∧ type_of% @execF_block ∧ type_of% @resL_ite ∧ type_of% @resL_normal ∧ type_of% @resL_ret ∧ type_of% @resK_some ∧ type_of% @res_tmp ∧ type_of% @omap_cons ∧ type_of% @omap_nil ∧ type_of% @execB_some :=
  ⟨@execF_seq, @exec_region, @exec_draw, @run_nil, @run_any, @run_guard, @gslot_zero, @gslot_succ, @gval_some, @gK_true, @gK_false, @gwO_true, @gwO_false, @gwO_undef, @Bool.not_true, @Bool.not_false, @opK_true, @opK_call, @opK_make, @plain_eqs, @runK_val, @runK_upd, @runK_ite, @runK_none, @putEnv_some, @putEnv_none, @ev_const, @ev_tmp, @ev_func, @fset_app, @applyUpd_nil, @applyUpd_cons, @normO_some, @normO_ite, @drawK_some,
    @thenF_normal, @thenF_ret, @thenF_exit, @thenF_ite, @blockF_normal, @blockF_ret, @blockF_exit, @blockF_ite, @exec_cond, @condF_bool, @execF_ret, @execF_skip, @execF_exit, @execF_label, @execF_block, @resL_ite, @resL_normal, @resL_ret, @resK_some, @res_tmp, @omap_cons, @omap_nil, @execB_some⟩

theorem symO : type_of% @aop_move ∧ type_of% @aop_assign ∧ type_of% @aop_pick ∧ type_of% @pickO_bool ∧ type_of% @aop_bin ∧ type_of% @bin_add ∧ type_of% @bin_sub ∧ type_of% @bin_mul ∧ type_of% @bin_eql ∧ type_of% @bin_neq ∧ type_of% @bin_lss ∧ type_of% @bin_leq ∧ type_of% @bin_gtr ∧ type_of% @bin_geq ∧ type_of% @bin_seql ∧ type_of% @bin_sneq ∧
    type_of% @aop_load ∧ type_of% @loadO_pptr ∧ type_of% @loadO_ptr ∧ type_of% @loadC_cell ∧ type_of% @aop_store ∧ type_of% @storeO_ptr ∧ type_of% @storeB_some ∧ type_of% @aop_fieldAddr ∧ type_of% @faO_some ∧
    type_of% @aop_indexAddr ∧ type_of% @iaO_some ∧ type_of% @iaN_sl ∧ type_of% @iaB_some ∧ type_of% @aint_int ∧ type_of% @aop_extract ∧ type_of% @ext0 ∧ type_of% @extS ∧ type_of% @aop_nilCheck ∧ type_of% @nilO_ptr ∧ type_of% @nilO_pptr ∧ type_of% @aop_box ∧ type_of% @aop_alloc ∧ type_of% @allocO_some ∧ type_of% @aop_makeFunc ∧
    type_of% @ia_rawL ∧ type_of% @ia_rawS ∧ type_of% @ia_encL ∧ type_of% @ia_encS ∧ type_of% @lenA_encS ∧ type_of% @lenA_encL ∧ type_of% @lenA_rawL ∧ type_of% @lenA_rawS ∧ type_of% @lenA_psl ∧ type_of% @lenA_sl ∧ type_of% @lenA_e0 ∧ type_of% @lenA_v ∧ type_of% @aop_un ∧ type_of% @un_not ∧ type_of% @boxJ ∧ type_of% @newBlk1 ∧ type_of% @ldJ ∧ type_of% @ldB ∧ type_of% @ldB0 ∧ type_of% @ldB1 ∧ type_of% @ldB2 ∧ type_of% @ldB3 ∧ type_of% @ldB4 ∧ type_of% @faJ0 ∧ type_of% @faJ1 ∧ type_of% @faJ2 ∧ type_of% @faJ3 ∧ type_of% @faJ4 ∧ type_of% @ldJ0 ∧ type_of% @faB ∧ type_of% @alen_cons ∧ type_of% @alen_nil ∧ type_of% @rlen_cons ∧ type_of% @rlen_nil ∧ type_of% @atake_zero ∧ type_of% @atake_succ ∧ type_of% @adrop_zero ∧ type_of% @adrop_succ ∧ type_of% @agetD_zero ∧ type_of% @agetD_succ ∧ type_of% @rgetD_zero ∧ type_of% @rgetD_succ ∧ type_of% @amap_cons ∧ type_of% @amap_nil ∧ type_of% @aop_len ∧ type_of% @lenK_some ∧ type_of% @lenK_none :=
  ⟨@aop_move, @aop_assign, @aop_pick, @pickO_bool, @aop_bin, @bin_add, @bin_sub, @bin_mul, @bin_eql, @bin_neq, @bin_lss, @bin_leq, @bin_gtr, @bin_geq, @bin_seql, @bin_sneq, @aop_load, @loadO_pptr, @loadO_ptr, @loadC_cell, @aop_store, @storeO_ptr, @storeB_some, @aop_fieldAddr, @faO_some,
    @aop_indexAddr, @iaO_some, @iaN_sl, @iaB_some, @aint_int, @aop_extract, @ext0, @extS, @aop_nilCheck, @nilO_ptr, @nilO_pptr, @aop_box, @aop_alloc, @allocO_some, @aop_makeFunc, @ia_rawL, @ia_rawS, @ia_encL, @ia_encS, @lenA_encS, @lenA_encL, @lenA_rawL, @lenA_rawS, @lenA_psl, @lenA_sl, @lenA_e0, @lenA_v, @aop_un, @un_not, @boxJ, @newBlk1, @ldJ, @ldB, @ldB0, @ldB1, @ldB2, @ldB3, @ldB4, @faJ0, @faJ1, @faJ2, @faJ3, @faJ4, @ldJ0, @faB, @alen_cons, @alen_nil, @rlen_cons, @rlen_nil, @atake_zero, @atake_succ, @adrop_zero, @adrop_succ, @agetD_zero, @agetD_succ, @rgetD_zero, @rgetD_succ, @amap_cons, @amap_nil, @aop_len, @lenK_some, @lenK_none⟩

theorem symC : type_of% @callee_func ∧ type_of% @callee_tmp ∧ type_of% @calleeX_fn ∧ type_of% @callK_some ∧ type_of% @acallU_nil ∧ type_of% @acallF_eq ∧ type_of% @acallP_none ∧ type_of% @acallP_zero ∧ type_of% @acallP_encS ∧ type_of% @acallP_encL ∧ type_of% @fm_cons ∧ type_of% @fm_nil ∧ type_of% @nil_app ∧ type_of% @acallV_some ∧ type_of% @mapR_p ∧ type_of% @mapR_pp ∧ type_of% @mapR_ppp ∧ type_of% @map_some' ∧ type_of% @map_ite ∧
    type_of% @reach_v ∧ type_of% @reach_encS ∧ type_of% @reach_encL ∧ type_of% @reach_rawS ∧ type_of% @reach_rawL ∧ type_of% @reach_e0 ∧ type_of% @reach_psl ∧ type_of% @reach_encJ ∧ type_of% @pur_encS ∧ type_of% @pur_encL ∧ type_of% @pur_rawS ∧ type_of% @pur_rawL ∧ type_of% @pur_int ∧ type_of% @pur_bool ∧ type_of% @pur_str ∧ type_of% @pur_encJ ∧
    type_of% @fin_bool ∧ type_of% @fin_int ∧ type_of% @fin_str ∧ type_of% @fin_encJ ∧ type_of% @fin_JE ∧ type_of% @fin_JB ∧ type_of% @argEnv0 ∧ type_of% @argEnv1 ∧ type_of% @argEnv2 ∧ type_of% @argEnv3 ∧ type_of% @argEnv4 ∧ type_of% @argEnv5 :=
  ⟨@callee_func, @callee_tmp, @calleeX_fn, @callK_some, @acallU_nil, @acallF_eq, @acallP_none, @acallP_zero, @acallP_encS, @acallP_encL, @fm_cons, @fm_nil, @nil_app, @acallV_some, @mapR_p, @mapR_pp, @mapR_ppp, @map_some', @map_ite, @reach_v, @reach_encS, @reach_encL, @reach_rawS, @reach_rawL, @reach_e0, @reach_psl, @reach_encJ, @pur_encS, @pur_encL, @pur_rawS, @pur_rawL, @pur_int, @pur_bool, @pur_str, @pur_encJ,
    @fin_bool, @fin_int, @fin_str, @fin_encJ, @fin_JE, @fin_JB, @argEnv0, @argEnv1, @argEnv2, @argEnv3, @argEnv4, @argEnv5⟩

end Go.Abs
