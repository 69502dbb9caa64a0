/-
An abstract interpreter: rules for values that stand in memory, for results that stand in memory, for slices of slices.
-/
import Derived.Test.YtmeepaihgipacaaGreatAbsBnd
set_option linter.unusedVariables false
set_option linter.unusedSimpArgs false
namespace Go.Abs
open Go.Proofs

/-! ### Results in cells -/

def rcB (n i off : Nat) : Option Blk → Option AV
  | some blk => if i < blk.es.length ∧ n ≤ ((blk.es.getD i []).drop off).length then some (.agg (((blk.es.getD i []).drop off).take n)) else none
  | none => none
def rcA (n : Nat) (h : AHeap) : AV → Option AV
  | .ptr b i off => rcB n i off (h b)
  | _ => none
def rcK (h : AHeap) (x : AV) : Option Bool → Option Nat → Option AV
  | some true, some n => rcA n h x
  | _, _ => none
theorem res_cell (P : Program) (st : St) (a : Tmp) (t : TypeId) : resultAV P st (.cell a t) = rcK st.heap (st.env a) (aisAgg P t) (asize P t) := by
  simp only [resultAV]
  unfold rcK rcA rcB
  rcases aisAgg P t with _ | g
  · rfl
  · cases g with
    | false => rfl
    | true =>
      rcases asize P t with _ | n
      · rfl
      · cases st.env a <;> rfl
theorem rcK_ok (h x n) : rcK h x (some true) (some n) = rcA n h x := rfl
theorem rcA_ptr (n h b i off) : rcA n h (.ptr b i off) = rcB n i off (h b) := rfl
theorem rcB_J (lv sz) (v : JV) : rcB 5 0 0 (some ⟨lv, sz, [cellsJ v]⟩) = some (encJ v) := by rw [cellsJ_eq]; rfl
theorem rcB_A (lv sz a b c d e) : rcB 5 0 0 (some ⟨lv, sz, [[a, b, c, d, e]]⟩) = some (.agg [a, b, c, d, e]) := rfl

/-! ### One cell -/

theorem ic_int (k n) : (AV.v (.int k n)).isCell = true := rfl
theorem ic_str (s) : (AV.v (.string s)).isCell = true := rfl
theorem ic_bool (b) : (AV.v (.bool b)).isCell = true := rfl
theorem ic_nil : (AV.v (.slice none 0 0)).isCell = true := rfl
theorem ic_e0 : AV.e0.isCell = true := rfl
theorem ic_psl (sz es) : (AV.psl sz es).isCell = true := rfl
theorem ic_sl (b o n) : (AV.sl b o n).isCell = true := rfl
theorem ic_rawL (l) : (rawL l).isCell = true := rfl
theorem ic_rawS (l) : (rawS l).isCell = true := rfl
theorem ic_encL (l) : (encL l).isCell = true := can_psl_isCell.1
theorem ic_encS (l) : (encS l).isCell = true := can_psl_isCell.1
theorem cl_e0 : AV.e0.cells = [.e0] := rfl
theorem cl_psl (sz es) : (AV.psl sz es).cells = [.psl sz es] := rfl
theorem cl_sl (b o n) : (AV.sl b o n).cells = [.sl b o n] := rfl
theorem cl_rawL (l) : (rawL l).cells = [rawL l] := rfl
theorem cl_rawS (l) : (rawS l).cells = [rawS l] := rfl
theorem cl_agg (cs) : (AV.agg cs).cells = cs := rfl
theorem fl_e0 : AV.e0.flat = true := rfl
theorem fl_psl (sz es) : (AV.psl sz es).flat = true := rfl
theorem fl_sl (b o n) : (AV.sl b o n).flat = true := rfl
theorem fl_rawL (l) : (rawL l).flat = true := rfl
theorem fl_rawS (l) : (rawS l).flat = true := rfl
theorem fl_agg (a b c d e) : (AV.agg [a, b, c, d, e]).flat = (a.isCell && (b.isCell && (c.isCell && (d.isCell && e.isCell)))) := by
  simp [AV.flat, AV.cells]
theorem ln_encJ (v : JV) : (encJ v).cells.length = 5 := rfl
theorem ln_cellsJ (v : JV) : (cellsJ v).length = 5 := by rw [cellsJ_eq]; rfl

/-! ### Writing -/

theorem rset1 (a x : List AV) : ([a] : List (List AV)).set 0 x = [x] := rfl
theorem spl_JJ (w v : JV) : splice (cellsJ w) 0 (encJ v).cells = cellsJ v := by rw [cellsJ_eq, cellsJ_eq, encJ_cells]; rfl
theorem spl_AJ (a b c d e : AV) (v : JV) : splice [a, b, c, d, e] 0 (encJ v).cells = cellsJ v := by rw [cellsJ_eq, encJ_cells]; rfl
theorem spl_JA (w : JV) (a b c d e : AV) : splice (cellsJ w) 0 [a, b, c, d, e] = [a, b, c, d, e] := by rw [cellsJ_eq]; rfl
theorem spl_AA (a b c d e a' b' c' d' e' : AV) : splice [a', b', c', d', e'] 0 [a, b, c, d, e] = [a, b, c, d, e] := rfl
theorem spl_0 (a b c d e x : AV) : splice [a, b, c, d, e] 0 [x] = [x, b, c, d, e] := rfl
theorem spl_1 (a b c d e x : AV) : splice [a, b, c, d, e] 1 [x] = [a, x, c, d, e] := rfl
theorem spl_2 (a b c d e x : AV) : splice [a, b, c, d, e] 2 [x] = [a, b, x, d, e] := rfl
theorem spl_3 (a b c d e x : AV) : splice [a, b, c, d, e] 3 [x] = [a, b, c, x, e] := rfl
theorem spl_4 (a b c d e x : AV) : splice [a, b, c, d, e] 4 [x] = [a, b, c, d, x] := rfl
theorem spl_J3 (v : JV) (x : AV) : splice (cellsJ v) 3 [x] = [.v (.int .i64 v.kind), .v (.int .i64 v.int), .v (.string v.str), x, encL v.elems] := by rw [cellsJ_eq]; rfl
theorem spl_J4 (v : JV) (x : AV) : splice (cellsJ v) 4 [x] = [.v (.int .i64 v.kind), .v (.int .i64 v.int), .v (.string v.str), encS v.keys, x] := by rw [cellsJ_eq]; rfl

/-! ### Reading -/

theorem lda (lv sz a b c d e) : loadB true 5 0 0 (some ⟨lv, sz, [[a, b, c, d, e]]⟩) = some ⟨.agg [a, b, c, d, e], [], 0⟩ := rfl
theorem lda0 (n lv sz a b c d e) : loadB false n 0 0 (some ⟨lv, sz, [[a, b, c, d, e]]⟩) = some ⟨a, [], 0⟩ := rfl
theorem lda1 (n lv sz a b c d e) : loadB false n 0 1 (some ⟨lv, sz, [[a, b, c, d, e]]⟩) = some ⟨b, [], 0⟩ := rfl
theorem lda2 (n lv sz a b c d e) : loadB false n 0 2 (some ⟨lv, sz, [[a, b, c, d, e]]⟩) = some ⟨c, [], 0⟩ := rfl
theorem lda3 (n lv sz a b c d e) : loadB false n 0 3 (some ⟨lv, sz, [[a, b, c, d, e]]⟩) = some ⟨d, [], 0⟩ := rfl
theorem lda4 (n lv sz a b c d e) : loadB false n 0 4 (some ⟨lv, sz, [[a, b, c, d, e]]⟩) = some ⟨e, [], 0⟩ := rfl
theorem ldi (n lv sz a) : loadB false n 0 0 (some ⟨lv, sz, [[a]]⟩) = some ⟨a, [], 0⟩ := rfl
theorem boxI (n : Nat) (k : IntKind) (z : Int) : boxO n (.v (.int k z)) = some ⟨.ptr n 0 0, [(n, some ⟨true, 1, [[.v (.int k z)]]⟩)], 1⟩ := rfl
theorem boxA (n : Nat) (a b c d e : AV) : boxO n (.agg [a, b, c, d, e]) = if (AV.agg [a, b, c, d, e]).flat = true then some ⟨.ptr n 0 0, [(n, some ⟨true, 5, [[a, b, c, d, e]]⟩)], 1⟩ else none := rfl

/-! ### Building -/

def bdK (pl : Option (List (Nat × Nat))) (z : Option (List AV)) (ps : List (Nat × AV)) : Option Out :=
  match pl, z with
    | some pl, some z => (abuild pl z ps).map fun cs => ⟨.agg cs, [], 0⟩
    | _, _ => none
theorem aop_build (P d t parts ty pos af g st) : aop P ⟨d, .build t parts, ty, pos, af, g⟩ st = bdK (aplaces P t) (azero P t) (parts.toList.map fun p => (p.1, aevalO st.env p.2)) := by
  simp only [aop]
  unfold bdK
  rcases aplaces P t with _ | pl
  · rfl
  · rcases azero P t with _ | z <;> rfl
def bd5 (cs : List AV) (ps : List (Nat × AV)) : Option Out := (abuild [(0, 1), (1, 1), (2, 1), (3, 1), (4, 1)] cs ps).map fun cs => ⟨.agg cs, [], 0⟩
theorem bdK_5 (z ps) : bdK (some [(0, 1), (1, 1), (2, 1), (3, 1), (4, 1)]) (some z) ps = bd5 z ps := rfl
theorem bd5_nil (cs) : bd5 cs [] = some ⟨.agg cs, [], 0⟩ := rfl
theorem cells1 {x : AV} (h : x.isCell = true) : x.cells = [x] := (cell_flat h).1
section
variable (a b c d e x : AV) (ps : List (Nat × AV)) (h : x.isCell = true)
include h
theorem bd5_0 : bd5 [a, b, c, d, e] ((0, x) :: ps) = bd5 [x, b, c, d, e] ps := by
  have h1 := cells1 h; have h2 := (cell_flat h).2
  simp [bd5, abuild, h1, h2, splice]
theorem bd5_1 : bd5 [a, b, c, d, e] ((1, x) :: ps) = bd5 [a, x, c, d, e] ps := by
  have h1 := cells1 h; have h2 := (cell_flat h).2
  simp [bd5, abuild, h1, h2, splice]
theorem bd5_2 : bd5 [a, b, c, d, e] ((2, x) :: ps) = bd5 [a, b, x, d, e] ps := by
  have h1 := cells1 h; have h2 := (cell_flat h).2
  simp [bd5, abuild, h1, h2, splice]
theorem bd5_3 : bd5 [a, b, c, d, e] ((3, x) :: ps) = bd5 [a, b, c, x, e] ps := by
  have h1 := cells1 h; have h2 := (cell_flat h).2
  simp [bd5, abuild, h1, h2, splice]
theorem bd5_4 : bd5 [a, b, c, d, e] ((4, x) :: ps) = bd5 [a, b, c, d, x] ps := by
  have h1 := cells1 h; have h2 := (cell_flat h).2
  simp [bd5, abuild, h1, h2, splice]
end
theorem pmap_cons (f : Nat × Operand → Nat × AV) (x r) : (x :: r).map f = f x :: r.map f := rfl
theorem pmap_nil (f : Nat × Operand → Nat × AV) : [].map f = [] := rfl

/-! ### Values without places -/

def aggM : Option (List AV) → Option AV
  | some cs => some (.agg cs)
  | none => none
theorem pur_agg (h cs) : pur depth h (.agg cs) = aggM (omap (pur 23 h) cs) := by
  show pur (23 + 1) h _ = _
  rw [pur]; cases omap (pur 23 h) cs <;> rfl
theorem aggM_some (cs) : aggM (some cs) = some (.agg cs) := rfl
theorem p3_int (h k n) : pur 23 h (.v (.int k n)) = some (.v (.int k n)) := rfl
theorem p3_str (h s) : pur 23 h (.v (.string s)) = some (.v (.string s)) := rfl
theorem p3_bool (h b) : pur 23 h (.v (.bool b)) = some (.v (.bool b)) := rfl
theorem p3_nil (h) : pur 23 h (.v (.slice none 0 0)) = some (.psl 0 []) := rfl
theorem p3_e0 (h) : pur 23 h .e0 = some (.psl 0 []) := rfl
theorem p3_encL (h l) : pur 23 h (encL l) = some (encL l) := pur_can 22 h _ _
theorem p3_encS (h l) : pur 23 h (encS l) = some (encS l) := pur_can 22 h _ _
theorem p3_rawL (h l) : pur 23 h (rawL l) = some (encL l) := rfl
theorem p3_rawS (h l) : pur 23 h (rawS l) = some (encS l) := rfl
theorem p3_pslnil (h) : pur 23 h (.psl 0 []) = some (.psl 0 []) := rfl
theorem pur_nil (h) : pur depth h (.v (.slice none 0 0)) = some (.psl 0 []) := rfl
theorem pur_e0 (h) : pur depth h .e0 = some (.psl 0 []) := rfl
theorem pur_pslnil (h) : pur depth h (.psl 0 []) = some (.psl 0 []) := rfl
def purS (n : Nat) (h : AHeap) (o len : Nat) : Option Blk → Option AV
  | some blk => if blk.lv = false ∧ o + len ≤ blk.es.length then (omap (omap (pur n h)) ((blk.es.drop o).take len)).map fun es => can (.psl blk.sz es) else none
  | none => none
theorem p3_sl (h b o len) : pur 23 h (.sl b o len) = purS 22 h o len (h b) := by
  show pur (22 + 1) h _ = _
  rw [pur]; cases h b <;> rfl
theorem pur_sl (h b o len) : pur depth h (.sl b o len) = purS 23 h o len (h b) := by
  show pur (23 + 1) h _ = _
  rw [pur]; cases h b <;> rfl
theorem purJ_rows (n : Nat) (h : AHeap) : ∀ l : List JV, omap (omap (pur (n + 1) h)) (l.map cellsJ) = some (l.map cellsJ)
  | [] => rfl
  | v :: l => by simp only [List.map_cons, omap, purJ_cells n h v, purJ_rows n h l]
def rowS (l : List ByteArray) : List (List AV) := l.map fun s => [.v (.string s)]
theorem purS_rows (n : Nat) (h : AHeap) : ∀ l : List ByteArray, omap (omap (pur (n + 1) h)) (rowS l) = some (rowS l)
  | [] => rfl
  | v :: l => by
    have := purS_rows n h l
    simp only [rowS, List.map_cons, omap] at this ⊢
    rw [this]; rfl
theorem purS_J (n : Nat) (h : AHeap) (l : List JV) : purS (n + 1) h 0 l.length (some ⟨false, 5, l.map cellsJ⟩) = some (encL l) := by
  have e : ((l.map cellsJ).drop 0).take l.length = l.map cellsJ := by rw [List.drop_zero, List.take_of_length_le (by simp)]
  simp only [purS]
  rw [if_pos ⟨trivial, by simp⟩, e, purJ_rows]; rfl
theorem purS_J22 (h : AHeap) (l : List JV) : purS 22 h 0 l.length (some ⟨false, 5, l.map cellsJ⟩) = some (encL l) := purS_J 21 h l
theorem purS_J23 (h : AHeap) (l : List JV) : purS 23 h 0 l.length (some ⟨false, 5, l.map cellsJ⟩) = some (encL l) := purS_J 22 h l
theorem purS_S (n : Nat) (h : AHeap) (l : List ByteArray) : purS (n + 1) h 0 l.length (some ⟨false, 1, rowS l⟩) = some (encS l) := by
  have e : ((rowS l).drop 0).take l.length = rowS l := by rw [List.drop_zero, List.take_of_length_le (by simp [rowS])]
  simp only [purS]
  rw [if_pos ⟨trivial, by simp [rowS]⟩, e, purS_rows]; rfl
theorem purS_S22 (h : AHeap) (l : List ByteArray) : purS 22 h 0 l.length (some ⟨false, 1, rowS l⟩) = some (encS l) := purS_S 21 h l
theorem purS_S23 (h : AHeap) (l : List ByteArray) : purS 23 h 0 l.length (some ⟨false, 1, rowS l⟩) = some (encS l) := purS_S 22 h l

theorem fold_1 (k n s ks es) : AV.agg [.v (.int .i64 k), .v (.int .i64 n), .v (.string s), encS ks, encL es] = encJ (.mk k n s ks es) := rfl
theorem fold_2 (k n s es) : AV.agg [.v (.int .i64 k), .v (.int .i64 n), .v (.string s), .psl 0 [], encL es] = encJ (.mk k n s [] es) := rfl
theorem fold_3 (k n s ks) : AV.agg [.v (.int .i64 k), .v (.int .i64 n), .v (.string s), encS ks, .psl 0 []] = encJ (.mk k n s ks []) := rfl
theorem fold_4 (k n s) : AV.agg [.v (.int .i64 k), .v (.int .i64 n), .v (.string s), .psl 0 [], .psl 0 []] = encJ (.mk k n s [] []) := rfl

/-! ### What is handed back -/

def frzH (h : AHeap) : AHeap := fun b => (h b).map frozen
theorem frzH_app (h b) : frzH h b = (h b).map frozen := rfl
def finB : Option (List AV) → Option (List RC)
  | some l => some (l.map RC.p)
  | none => none
theorem finB_some (l) : finB (some l) = some (l.map RC.p) := rfl
theorem fin_gen {h : AHeap} {r : List AV} (hx : r.all plainAV = true) (hp : (omap (pur depth (frzH h)) r).isSome = true) : finish h r = finB (omap (pur depth (frzH h)) r) := by
  cases hl : omap (pur depth (frzH h)) r with
  | none => rw [hl] at hp; cases hp
  | some l => exact finish_all (fun x hm => List.all_eq_true.1 hx x hm) hl
theorem fin_A2 {h : AHeap} {cs : List AV} {y z : AV} (h1 : plainAV y = true) {l : List AV} (hp : omap (pur depth (frzH h)) [.agg cs, y] = some l) : finish h [.agg cs, y] = some (l.map RC.p) :=
  finish_all (fun x hm => by simp at hm; rcases hm with rfl | rfl <;> first | rfl | exact h1) hp
theorem some_is {α : Type} (x : α) : (some x).isSome = true := rfl
theorem all_c (x r) : (x :: r : List AV).all plainAV = (plainAV x && r.all plainAV) := rfl
theorem all_n : ([] : List AV).all plainAV = true := rfl
theorem pl_agg (cs) : plainAV (.agg cs) = true := rfl
theorem pl_encJ (v) : plainAV (encJ v) = true := rfl
theorem pl_int (k n) : plainAV (.v (.int k n)) = true := rfl
theorem pl_bool (b) : plainAV (.v (.bool b)) = true := rfl
theorem pl_str (s) : plainAV (.v (.string s)) = true := rfl
theorem rp_cons (x r) : (x :: r : List AV).map RC.p = RC.p x :: r.map RC.p := rfl
theorem rp_nil : ([] : List AV).map RC.p = [] := rfl

theorem jv_kind (k n s ks es) : (JV.mk k n s ks es).kind = k := rfl
theorem jv_int (k n s ks es) : (JV.mk k n s ks es).int = n := rfl
theorem jv_str (k n s ks es) : (JV.mk k n s ks es).str = s := rfl
theorem jv_keys (k n s ks es) : (JV.mk k n s ks es).keys = ks := rfl
theorem jv_elems (k n s ks es) : (JV.mk k n s ks es).elems = es := rfl

def purP (n : Nat) (h : AHeap) (i off : Nat) : Option Blk → Option AV
  | some blk => if blk.lv = false ∧ i < blk.es.length then (omap (pur n h) ((blk.es.getD i []).drop off)).map .pptr else none
  | none => none
theorem pur_ptrD (h b i off) : pur depth h (.ptr b i off) = purP 23 h i off (h b) := by
  show pur (23 + 1) h _ = _
  rw [pur]; cases h b <;> rfl
theorem pur_ptr23 (h b i off) : pur 23 h (.ptr b i off) = purP 22 h i off (h b) := by
  show pur (22 + 1) h _ = _
  rw [pur]; cases h b <;> rfl
theorem purP_I22 (h sz k z) : purP 22 h 0 0 (some ⟨false, sz, [[.v (.int k z)]]⟩) = some (.pptr [.v (.int k z)]) := rfl
theorem purP_I23 (h sz k z) : purP 23 h 0 0 (some ⟨false, sz, [[.v (.int k z)]]⟩) = some (.pptr [.v (.int k z)]) := rfl
theorem purP_J (n : Nat) (h : AHeap) (sz : Nat) (v : JV) : purP (n + 1) h 0 0 (some ⟨false, sz, [cellsJ v]⟩) = some (.pptr (cellsJ v)) := by
  simp only [purP, List.length_cons, List.length_nil]
  rw [if_pos ⟨trivial, by decide⟩]
  show (omap (pur (n + 1) h) (cellsJ v)).map AV.pptr = _
  rw [purJ_cells n]; rfl
theorem purP_J22 (h sz) (v : JV) : purP 22 h 0 0 (some ⟨false, sz, [cellsJ v]⟩) = some (.pptr (cellsJ v)) := purP_J 21 h sz v
theorem purP_J23 (h sz) (v : JV) : purP 23 h 0 0 (some ⟨false, sz, [cellsJ v]⟩) = some (.pptr (cellsJ v)) := purP_J 22 h sz v
theorem frozen_eq (lv sz es) : frozen ⟨lv, sz, es⟩ = ⟨false, sz, es⟩ := rfl
theorem aapp_cons (x : AV) (l r : List AV) : (x :: l) ++ r = x :: (l ++ r) := rfl
theorem aapp_nil (r : List AV) : [] ++ r = r := rfl
theorem capp (b : Nat) (l r : List Nat) : (b :: l) ++ r = b :: (l ++ r) := rfl
theorem pl_Val : aplaces Tryz.prog 25 = some [(0, 1), (1, 1), (2, 1), (3, 1), (4, 1)] := by kernel_rfl

theorem symM : type_of% @res_cell ∧ type_of% @rcK_ok ∧ type_of% @rcA_ptr ∧ type_of% @rcB_J ∧ type_of% @rcB_A ∧ type_of% @ic_int ∧ type_of% @ic_str ∧ type_of% @ic_bool ∧ type_of% @ic_nil ∧ type_of% @ic_e0 ∧ type_of% @ic_psl ∧ type_of% @ic_sl ∧ type_of% @ic_rawL ∧ type_of% @ic_rawS ∧ type_of% @ic_encL ∧ type_of% @ic_encS ∧ type_of% @cl_e0 ∧ type_of% @cl_psl ∧ type_of% @cl_sl ∧ type_of% @cl_rawL ∧ type_of% @cl_rawS ∧ type_of% @cl_agg ∧ type_of% @fl_e0 ∧ type_of% @fl_psl ∧ type_of% @fl_sl ∧ type_of% @fl_rawL ∧ type_of% @fl_rawS ∧ type_of% @fl_agg ∧ type_of% @ln_encJ ∧ type_of% @ln_cellsJ ∧ type_of% @rset1 ∧ type_of% @spl_JJ ∧ type_of% @spl_AJ ∧ type_of% @spl_JA ∧ type_of% @spl_AA ∧ type_of% @spl_0 ∧ type_of% @spl_1 ∧ type_of% @spl_2 ∧ type_of% @spl_3 ∧ type_of% @spl_4 ∧ type_of% @spl_J3 ∧ type_of% @spl_J4 ∧ type_of% @lda ∧ type_of% @lda0 ∧ type_of% @lda1 ∧ type_of% @lda2 ∧ type_of% @lda3 ∧ type_of% @lda4 ∧ type_of% @ldi ∧ type_of% @boxI ∧ type_of% @boxA ∧ type_of% @int_cells ∧ type_of% @bool_cells ∧ type_of% @str_cells ∧ type_of% @nil_cells ∧ type_of% @encS_cells ∧ type_of% @encL_cells ∧ type_of% @int_flat ∧ type_of% @bool_flat ∧ type_of% @str_flat ∧ type_of% @nil_flat ∧ type_of% @encS_flat ∧ type_of% @encL_flat ∧ type_of% @encJ_flat :=
  ⟨@res_cell, @rcK_ok, @rcA_ptr, @rcB_J, @rcB_A, @ic_int, @ic_str, @ic_bool, @ic_nil, @ic_e0, @ic_psl, @ic_sl, @ic_rawL, @ic_rawS, @ic_encL, @ic_encS, @cl_e0, @cl_psl, @cl_sl, @cl_rawL, @cl_rawS, @cl_agg, @fl_e0, @fl_psl, @fl_sl, @fl_rawL, @fl_rawS, @fl_agg, @ln_encJ, @ln_cellsJ, @rset1, @spl_JJ, @spl_AJ, @spl_JA, @spl_AA, @spl_0, @spl_1, @spl_2, @spl_3, @spl_4, @spl_J3, @spl_J4, @lda, @lda0, @lda1, @lda2, @lda3, @lda4, @ldi, @boxI, @boxA, @int_cells, @bool_cells, @str_cells, @nil_cells, @encS_cells, @encL_cells, @int_flat, @bool_flat, @str_flat, @nil_flat, @encS_flat, @encL_flat, @encJ_flat⟩
theorem symN : type_of% @aop_build ∧ type_of% @bdK_5 ∧ type_of% @bd5_nil ∧ type_of% @bd5_0 ∧ type_of% @bd5_1 ∧ type_of% @bd5_2 ∧ type_of% @bd5_3 ∧ type_of% @bd5_4 ∧ type_of% @pmap_cons ∧ type_of% @pmap_nil ∧ type_of% @pur_agg ∧ type_of% @aggM_some ∧ type_of% @p3_int ∧ type_of% @p3_str ∧ type_of% @p3_bool ∧ type_of% @p3_nil ∧ type_of% @p3_e0 ∧ type_of% @p3_encL ∧ type_of% @p3_encS ∧ type_of% @p3_rawL ∧ type_of% @p3_rawS ∧ type_of% @p3_pslnil ∧ type_of% @pur_nil ∧ type_of% @pur_e0 ∧ type_of% @pur_pslnil ∧ type_of% @p3_sl ∧ type_of% @pur_sl ∧ type_of% @purS_J22 ∧ type_of% @purS_J23 ∧ type_of% @purS_S22 ∧ type_of% @purS_S23 ∧ type_of% @fold_1 ∧ type_of% @fold_2 ∧ type_of% @fold_3 ∧ type_of% @fold_4 ∧ type_of% @frzH_app ∧ type_of% @finB_some ∧ type_of% @fin_gen ∧ type_of% @all_c ∧ type_of% @all_n ∧ type_of% @pl_agg ∧ type_of% @pl_encJ ∧ type_of% @pl_int ∧ type_of% @pl_bool ∧ type_of% @pl_str ∧ type_of% @rp_cons ∧ type_of% @rp_nil ∧ type_of% @pl_Val ∧ type_of% @ze_Val ∧ type_of% @Bool.and_true ∧ type_of% @jv_kind ∧ type_of% @jv_int ∧ type_of% @jv_str ∧ type_of% @jv_keys ∧ type_of% @jv_elems ∧ type_of% @capp ∧ type_of% @frozen_eq ∧ type_of% @aapp_cons ∧ type_of% @aapp_nil ∧ type_of% @pur_ptrD ∧ type_of% @pur_ptr23 ∧ type_of% @purP_I22 ∧ type_of% @purP_I23 ∧ type_of% @purP_J22 ∧ type_of% @purP_J23 :=
  ⟨@aop_build, @bdK_5, @bd5_nil, @bd5_0, @bd5_1, @bd5_2, @bd5_3, @bd5_4, @pmap_cons, @pmap_nil, @pur_agg, @aggM_some, @p3_int, @p3_str, @p3_bool, @p3_nil, @p3_e0, @p3_encL, @p3_encS, @p3_rawL, @p3_rawS, @p3_pslnil, @pur_nil, @pur_e0, @pur_pslnil, @p3_sl, @pur_sl, @purS_J22, @purS_J23, @purS_S22, @purS_S23, @fold_1, @fold_2, @fold_3, @fold_4, @frzH_app, @finB_some, @fin_gen, @all_c, @all_n, @pl_agg, @pl_encJ, @pl_int, @pl_bool, @pl_str, @rp_cons, @rp_nil, @pl_Val, @ze_Val, @Bool.and_true, @jv_kind, @jv_int, @jv_str, @jv_keys, @jv_elems, @capp, @frozen_eq, @aapp_cons, @aapp_nil, @pur_ptrD, @pur_ptr23, @purP_I22, @purP_I23, @purP_J22, @purP_J23⟩

/-! ### First uses -/

theorem bd_none : Tryz.prog.funcs[66]? = some Tryz.f66 := by kernel_rfl
theorem ok_none : fnOk Tryz.f66 = true := by kernel_rfl
theorem bd_Arr : Tryz.prog.funcs[81]? = some Tryz.f81 := by kernel_rfl
theorem ok_Arr : fnOk Tryz.f81 = true := by kernel_rfl

def nullJ : JV := .mk 0 0 .empty [] []
def arrJ (l : List JV) : JV := .mk 5 0 .empty [] l
def strJ (s : ByteArray) : JV := .mk 4 0 s [] []
def numJ (n : Int) : JV := .mk 3 n .empty [] []

theorem lt01 : (0 : Nat) < 1 := Nat.zero_lt_one
set_option maxRecDepth 100000 in
theorem none_run : callF E0 66 [] = some [.p (encJ nullJ)] := by
  rw [callF_fn bd_none ok_none]
  simp only [symS, symO, symC, symP, symB, symR, symF, symM, symN, if_true, if_false, Nat.reduceEqDiff, Nat.reduceBEq, Nat.reduceAdd, Bool.false_eq_true, Bool.true_eq_false, reduceCtorEq, decide_true, decide_false, Nat.reduceLeDiff, and_self, and_true, true_and, some_is, lt01, Tryz.f66, nullJ]
set_option maxRecDepth 100000 in
theorem arr_run (l : List JV) : callF E0 81 [encL l] = some [.p (encJ (arrJ l))] := by
  rw [callF_fn bd_Arr ok_Arr]
  simp only [symS, symO, symC, symP, symB, symR, symF, symM, symN, if_true, if_false, Nat.reduceEqDiff, Nat.reduceBEq, Nat.reduceAdd, Bool.false_eq_true, Bool.true_eq_false, reduceCtorEq, decide_true, decide_false, Nat.reduceLeDiff, and_self, and_true, true_and, some_is, lt01, Tryz.f81, arrJ]

theorem bd_Str : Tryz.prog.funcs[80]? = some Tryz.f80 := by kernel_rfl
theorem ok_Str : fnOk Tryz.f80 = true := by kernel_rfl
theorem bd_Num : Tryz.prog.funcs[79]? = some Tryz.f79 := by kernel_rfl
theorem ok_Num : fnOk Tryz.f79 = true := by kernel_rfl
theorem bd_Text : Tryz.prog.funcs[65]? = some Tryz.f65 := by kernel_rfl
theorem ok_Text : fnOk Tryz.f65 = true := by kernel_rfl
theorem bd_Num2 : Tryz.prog.funcs[83]? = some Tryz.f83 := by kernel_rfl
theorem ok_Num2 : fnOk Tryz.f83 = true := by kernel_rfl

set_option maxRecDepth 100000 in
theorem str_run (s : ByteArray) : callF E0 80 [.v (.string s)] = some [.p (encJ (strJ s))] := by
  rw [callF_fn bd_Str ok_Str]
  simp only [symS, symO, symC, symP, symB, symR, symF, symM, symN, if_true, if_false, Nat.reduceEqDiff, Nat.reduceBEq, Nat.reduceAdd, Bool.false_eq_true, Bool.true_eq_false, reduceCtorEq, decide_true, decide_false, Nat.reduceLeDiff, and_self, and_true, true_and, some_is, lt01, Tryz.f80, strJ]
set_option maxRecDepth 100000 in
theorem text_run (s : ByteArray) : callF E0 65 [.v (.string s)] = some [.p (encJ (strJ s))] := by
  rw [callF_fn bd_Text ok_Text]
  simp only [symS, symO, symC, symP, symB, symR, symF, symM, symN, if_true, if_false, Nat.reduceEqDiff, Nat.reduceBEq, Nat.reduceAdd, Bool.false_eq_true, Bool.true_eq_false, reduceCtorEq, decide_true, decide_false, Nat.reduceLeDiff, and_self, and_true, true_and, some_is, lt01, Tryz.f65, strJ]
set_option maxRecDepth 100000 in
theorem num_run (n : Int) : callF E0 79 [.v (.int .i64 n)] = some [.p (encJ (numJ n))] := by
  rw [callF_fn bd_Num ok_Num]
  simp only [symS, symO, symC, symP, symB, symR, symF, symM, symN, if_true, if_false, Nat.reduceEqDiff, Nat.reduceBEq, Nat.reduceAdd, Bool.false_eq_true, Bool.true_eq_false, reduceCtorEq, decide_true, decide_false, Nat.reduceLeDiff, and_self, and_true, true_and, some_is, lt01, Tryz.f79, numJ]
set_option maxRecDepth 100000 in
theorem num2_run (n : Int) : callF E0 83 [.v (.int .i64 n)] = some [.p (encJ (numJ n))] := by
  rw [callF_fn bd_Num2 ok_Num2]
  simp only [symS, symO, symC, symP, symB, symR, symF, symM, symN, if_true, if_false, Nat.reduceEqDiff, Nat.reduceBEq, Nat.reduceAdd, Bool.false_eq_true, Bool.true_eq_false, reduceCtorEq, decide_true, decide_false, Nat.reduceLeDiff, and_self, and_true, true_and, some_is, lt01, Tryz.f83, numJ]

end Go.Abs
