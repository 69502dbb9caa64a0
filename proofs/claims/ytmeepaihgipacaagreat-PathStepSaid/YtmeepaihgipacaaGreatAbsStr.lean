/-
The program in sight: slices of strings by code points.
-/
import Derived.Test.YtmeepaihgipacaaGreatAbsEnc
set_option linter.unusedVariables false
set_option linter.unusedSimpArgs false
namespace Go.Abs
open Go.Proofs

/-! ### Slicing -/

def slF (P : Program) (o : Oper) (st : St) : Option Out := aop P o st
/-- A slice with two bounds. -/
def sl2 (other : Option Out) (h : AHeap) (sz : Nat) : AV → AV → AV → Option Out
  | .psl sz' es, .v (.int _ a), .v (.int _ b) => if (sz' = sz ∨ es.length = 0) ∧ 0 ≤ a ∧ a ≤ b ∧ b ≤ es.length then some ⟨.psl sz ((es.take b.toNat).drop a.toNat), [], 0⟩ else none
  | .sl bb off len, .v (.int _ a), .v (.int _ b) => match h bb with
    | some blk => if blk.sz = sz ∧ 0 ≤ a ∧ a ≤ b ∧ off + b ≤ blk.es.length ∧ off + len ≤ blk.es.length then some ⟨if a = b ∧ a ≠ 0 then .psl sz [] else .sl bb (off + a.toNat) (b - a).toNat, [], 0⟩ else none
    | none => none
  | _, _, _ => other
theorem aop_slice2 {P : Program} {t e : TypeId} {sz : Nat} (h1 : aelem P t = some e) (h2 : asize P e = some sz) (d x lo hi ty pos af g st) :
    aop P ⟨d, .slice t x (some lo) (some hi) none, ty, pos, af, g⟩ st = sl2 (slF P ⟨d, .slice t x (some lo) (some hi) none, ty, pos, af, g⟩ st) st.heap sz (aevalO st.env x) (aevalO st.env lo) (aevalO st.env hi) := by
  unfold sl2
  split
  · rename_i sz' es k a k' b hx hl hh
    simp only [aop, hx, hl, hh, bint, aint, h1, h2, Option.map_some, Option.getD_some, Option.getD_none]
    by_cases hc : (sz' = sz ∨ es.length = 0) ∧ 0 ≤ a ∧ a ≤ b ∧ b ≤ es.length
    · rw [if_pos hc, if_pos ⟨hc.1, hc.2.1, hc.2.2.1, hc.2.2.2, hc.2.2.2, Int.le_refl _, fun h => by cases h⟩]
      simp
    · rw [if_neg hc, if_neg (fun h => hc ⟨h.1, h.2.1, h.2.2.1, h.2.2.2.1⟩)]
  · rename_i bb off len k a k' b hx hl hh
    simp only [aop, hx, hl, hh, bint, aint, h1, h2, Option.map_some, Option.getD_some, Option.getD_none]
    cases st.heap bb with
    | none => rfl
    | some blk => simp
  · rfl
def sl3 (other : Option Out) (sz : Nat) : AV → AV → AV → AV → Option Out
  | .psl sz' es, .v (.int _ a), .v (.int _ b), .v (.int _ m) => if (sz' = sz ∨ es.length = 0) ∧ 0 ≤ a ∧ a ≤ b ∧ b ≤ es.length ∧ b ≤ m ∧ m ≤ es.length then some ⟨if m = 0 then .e0 else .psl sz ((es.take b.toNat).drop a.toNat), [], 0⟩ else none
  | _, _, _, _ => other
theorem aop_slice3 {P : Program} {t e : TypeId} {sz : Nat} (h1 : aelem P t = some e) (h2 : asize P e = some sz) (d x lo hi mx ty pos af g st) :
    aop P ⟨d, .slice t x (some lo) (some hi) (some mx), ty, pos, af, g⟩ st = sl3 (slF P ⟨d, .slice t x (some lo) (some hi) (some mx), ty, pos, af, g⟩ st) sz (aevalO st.env x) (aevalO st.env lo) (aevalO st.env hi) (aevalO st.env mx) := by
  unfold sl3
  split
  · rename_i sz' es k a k' b k'' m hx hl hh hm
    simp only [aop, hx, hl, hh, hm, bint, aint, h1, h2, Option.map_some, Option.getD_some, Option.getD_none]
    by_cases hc : (sz' = sz ∨ es.length = 0) ∧ 0 ≤ a ∧ a ≤ b ∧ b ≤ es.length ∧ b ≤ m ∧ m ≤ es.length
    · rw [if_pos hc, if_pos ⟨hc.1, hc.2.1, hc.2.2.1, hc.2.2.2.1, hc.2.2.2.2.1, hc.2.2.2.2.2, fun h => by cases h⟩]
      simp
    · rw [if_neg hc, if_neg (fun h => hc ⟨h.1, h.2.1, h.2.2.1, h.2.2.2.1, h.2.2.2.2.1, h.2.2.2.2.2.1⟩)]
  · rfl

theorem rowV_take (l : List JV) (a b : Nat) : ((l.map cellsJ).take b).drop a = ((l.take b).drop a).map cellsJ := by rw [List.map_drop, List.map_take]
/-- A part of a list, as a value. -/
def slL (l : List JV) (a b : Int) : AV := if b = 0 then .e0 else rawL ((l.take b.toNat).drop a.toNat)
theorem sl2_encL (other h) (l : List JV) (k k' a b) : sl2 other h 5 (encL l) (.v (.int k a)) (.v (.int k' b)) = if 0 ≤ a ∧ a ≤ b ∧ b ≤ l.length then some ⟨rawL ((l.take b.toNat).drop a.toNat), [], 0⟩ else none := by
  cases l with
  | nil =>
    show (if ((0 = 5 ∨ (0 : Nat) = 0) ∧ 0 ≤ a ∧ a ≤ b ∧ b ≤ ((0 : Nat) : Int)) then _ else _) = _
    simp [rawL]
  | cons v r =>
    show (if ((5 = 5 ∨ _) ∧ 0 ≤ a ∧ a ≤ b ∧ b ≤ (((v :: r).map cellsJ).length : Int)) then _ else _) = _
    rw [List.length_map]
    simp only [true_or, true_and, rawL, rowV_take]
theorem sl3_encL (other) (l : List JV) (k k' k'' a b) : sl3 other 5 (encL l) (.v (.int k a)) (.v (.int k' b)) (.v (.int k'' b)) = if 0 ≤ a ∧ a ≤ b ∧ b ≤ l.length then some ⟨slL l a b, [], 0⟩ else none := by
  cases l with
  | nil =>
    show (if ((0 = 5 ∨ (0 : Nat) = 0) ∧ 0 ≤ a ∧ a ≤ b ∧ b ≤ ((0 : Nat) : Int) ∧ b ≤ b ∧ b ≤ ((0 : Nat) : Int)) then _ else _) = _
    have : ((0 = 5 ∨ (0 : Nat) = 0) ∧ 0 ≤ a ∧ a ≤ b ∧ b ≤ ((0 : Nat) : Int) ∧ b ≤ b ∧ b ≤ ((0 : Nat) : Int)) ↔ (0 ≤ a ∧ a ≤ b ∧ b ≤ (([] : List JV).length : Int)) := by
      simp
    by_cases hc : 0 ≤ a ∧ a ≤ b ∧ b ≤ (([] : List JV).length : Int)
    · rw [if_pos (this.2 hc), if_pos hc]; simp [slL, rawL]
    · rw [if_neg (fun h => hc (this.1 h)), if_neg hc]
  | cons v r =>
    show (if ((5 = 5 ∨ _) ∧ 0 ≤ a ∧ a ≤ b ∧ b ≤ (((v :: r).map cellsJ).length : Int) ∧ b ≤ b ∧ b ≤ (((v :: r).map cellsJ).length : Int)) then _ else _) = _
    rw [List.length_map]
    by_cases hc : 0 ≤ a ∧ a ≤ b ∧ b ≤ ((v :: r).length : Int)
    · rw [if_pos hc, if_pos ⟨.inl rfl, hc.1, hc.2.1, hc.2.2, Int.le_refl _, hc.2.2⟩]; simp only [slL, rawL, rowV_take]
    · rw [if_neg hc, if_neg (fun h => hc ⟨h.2.1, h.2.2.1, h.2.2.2.1⟩)]
theorem pur_slL (h) (l : List JV) (a b : Int) : pur depth h (slL l a b) = some (encL ((l.take b.toNat).drop a.toNat)) := by
  unfold slL
  by_cases hb : b = 0
  · subst hb
    rw [if_pos rfl]
    have : (l.take (0 : Int).toNat).drop a.toNat = [] := by simp
    rw [this]; rfl
  · rw [if_neg hb, pur_rawL]
theorem reach_slL (n h) (l : List JV) (a b : Int) : reach n h (slL l a b) = [] := by
  unfold slL
  split
  · exact reach_e0 ..
  · exact reach_rawL ..

theorem sl2_str {P : Program} {t : TypeId} (ht : P.underlying t = some .string) (d x lo hi ty pos af g st) (s : ByteArray) (k k' : IntKind) (a b : Int) (hx : aevalO st.env x = .v (.string s)) (hl : aevalO st.env lo = .v (.int k a)) (hh : aevalO st.env hi = .v (.int k' b)) (h0 : 0 ≤ a) (h1 : a ≤ b) (h2 : b ≤ s.size) :
    aop P ⟨d, .slice t x (some lo) (some hi) none, ty, pos, af, g⟩ st = some ⟨.v (.string (s.extract a.toNat b.toNat)), [], 0⟩ := by
  have hops : (Op.slice t x (some lo) (some hi) none).operands = #[x, lo, hi] := by simp [Op.operands]
  simp only [aop, hx, apure, hops]
  rw [if_pos (by simp [hx, hl, hh, scal])]
  have h3 : a ≤ max b 0 := by omega
  have e : prun P (Instr.sliceAt t (.string s) (some (.int k a)) (some (.int k' b)) none) = some (.string (s.extract a.toNat b.toNat)) := by
    have hb1 : 0 ≤ b := by omega
    have hu := prun_und ht
    simp only [Instr.sliceAt, prun_bind, hu, Option.bind_some, Instr.slice]
    simp [prun_bind, hu, prun_pure, Instr.sliceBounds, Instr.sliceBound, asIntOf, h0, hb1, h2, h3]
  have e2 : execOp (fun z => (scal (aevalO st.env z)).getD undef) ⟨d, .slice t x (some lo) (some hi) none, ty, pos, af, g⟩ = ((Instr.sliceAt t (.string s) (some (.int k a)) (some (.int k' b)) none) >>= fun r => pure (Next.value r)) := by
    simp only [execOp, hx, hl, hh, scal, Option.getD_some, Option.map_some, Option.map_none]
  rw [e2, prun_bind, e]
  rfl
theorem un_str : Tryz.prog.underlying 9 = some .string := by kernel_rfl

/-! ### Codes -/

/-- Code points that stand one behind another. -/
def Chain (s : ByteArray) : Nat → List (Nat × Nat) → Prop
  | _, [] => True
  | i, (r, n) :: l => dec s i = some (r, n) ∧ Chain s (i + n) l
def sumN : List (Nat × Nat) → Nat
  | [] => 0
  | (_, n) :: l => n + sumN l
theorem sumN_app : ∀ l r : List (Nat × Nat), sumN (l ++ r) = sumN l + sumN r
  | [], r => by simp [sumN]
  | (_, n) :: l, r => by simp [sumN, sumN_app l r]; omega
theorem codes_chain (s : ByteArray) : ∀ (k i : Nat) (l : List (Nat × Nat)), codes s k i = some l → Chain s i l
  | 0, i, l, h => by
    simp only [codes] at h
    split at h
    · cases h
    · simp only [Option.some.injEq] at h; subst h; trivial
  | k + 1, i, l, h => by
    simp only [codes] at h
    split at h
    · split at h
      · rename_i r n hd
        simp only [Option.map_eq_some_iff] at h
        obtain ⟨l', h1, rfl⟩ := h
        exact ⟨hd, codes_chain s k (i + n) l' h1⟩
      · cases h
    · simp only [Option.some.injEq] at h; subst h; trivial
theorem chain_drop (s : ByteArray) : ∀ (l : List (Nat × Nat)) (i k : Nat), Chain s i l → Chain s (i + sumN (l.take k)) (l.drop k)
  | l, i, 0, h => by simpa [sumN] using h
  | [], i, k + 1, h => by simp [Chain]
  | (r, n) :: l, i, k + 1, h => by
    have := chain_drop s l (i + n) k h.2
    simp only [List.take_succ_cons, sumN, List.drop_succ_cons]
    rwa [← Nat.add_assoc]
theorem chain_take (s : ByteArray) : ∀ (l : List (Nat × Nat)) (i k : Nat), Chain s i l → Chain s i (l.take k)
  | l, i, 0, h => by simp [Chain]
  | [], i, k + 1, h => by simp [Chain]
  | (r, n) :: l, i, k + 1, h => ⟨h.1, chain_take s l (i + n) k h.2⟩
theorem chain_at (s : ByteArray) (l : List (Nat × Nat)) (i k : Nat) (h : Chain s i l) (hk : k < l.length) : dec s (i + sumN (l.take k)) = some (l.getD k (0, 0)) := by
  have h1 := chain_drop s l i k h
  rw [drop_getD l k (0, 0) hk] at h1
  exact h1.1
theorem chain_bound (s : ByteArray) : ∀ (l : List (Nat × Nat)) (i : Nat), Chain s i l → i ≤ s.size → i + sumN l ≤ s.size
  | [], i, _, hi => by simpa [sumN] using hi
  | (r, n) :: l, i, h, hi => by
    have h1 := dec_pos h.1
    have h2 := chain_bound s l (i + n) h.2 (by omega)
    simp only [sumN]; omega
theorem sumN_take_succ (l : List (Nat × Nat)) (k : Nat) (hk : k < l.length) : sumN (l.take (k + 1)) = sumN (l.take k) + (l.getD k (0, 0)).2 := by
  rw [take_succ_getD l k (0, 0) hk, sumN_app]
  simp [sumN]
theorem sumN_take_le (l : List (Nat × Nat)) : ∀ (a b : Nat), a ≤ b → sumN (l.take a) ≤ sumN (l.take b) := by
  intro a b hab
  have : l.take b = l.take a ++ (l.drop a).take (b - a) := by
    have h := (List.take_append_drop a (l.take b)).symm
    rw [List.take_take, Nat.min_eq_left hab, List.drop_take] at h
    exact h
  rw [this, sumN_app]; omega

/-- The part of a string from the code point a on, up to the code point b. -/
def subS (s : ByteArray) (l : List (Nat × Nat)) (a b : Nat) : ByteArray := s.extract (sumN (l.take a)) (sumN (l.take b))

set_option maxRecDepth 100000 in
theorem sliceU_loop (s : ByteArray) (hs : s.size < 1099511627776) (l : List (Nat × Nat)) (hl : Chain s 0 l) (a b : Nat) (hab : a < b) (hb : b ≤ l.length) (hll : l.length < 1099511627776) : ∀ (k i : Nat) (env : Nat → AV) (h : AHeap) (n : Nat) (R : Option (Ex × St)), execF E0 (loopN Tryz.f95 0) ⟨env, h, n⟩ = R → b - i = k → i ≤ b →
    env 0 = .v (.string s) → env 1 = .v (.int .i64 a) → env 10 = .v (.int .i64 (sumN (l.take i))) → env 11 = .v (.int .i64 (if i ≤ a then 0 else sumN (l.take a) : Nat)) → env 31 = .v (.int .i64 b) → env 32 = .v (.int .i64 i) →
    ∃ env', R = some (.exit 0, ⟨env', h, n⟩) ∧ env' 0 = .v (.string s) ∧ env' 10 = .v (.int .i64 (sumN (l.take b))) ∧ env' 11 = .v (.int .i64 (sumN (l.take a))) := by
  intro k
  induction k with
  | zero =>
    intro i env h n R hR hk hi h0 h1 h10 h11 h31 h32
    have hil : ¬ ((i : Int) < b) := by omega
    have hib : i = b := by omega
    subst hib
    have hna : ¬ i ≤ a := by omega
    rw [if_neg hna] at h11
    simp only [loopN, Tryz.f95, loopsOf, List.append_nil, List.nil_append, List.getD_cons_zero] at hR
    rw [execF_loop] at hR
    simp only [symS, symO, symC, symP, symB, symR, symF, symM, symN, if_true, if_false, Nat.reduceEqDiff, Nat.reduceBEq, Nat.reduceAdd, Bool.false_eq_true, Bool.true_eq_false, reduceCtorEq, decide_true, decide_false, Nat.reduceLeDiff, and_self, and_true, true_and, some_is, lt01, h31, h32, hil] at hR
    exact ⟨_, hR.symm, h0, h10, h11⟩
  | succ k ih =>
    intro i env h n R hR hk hi h0 h1 h10 h11 h31 h32
    have hil : ((i : Int) < b) := by omega
    have hd := chain_at s l 0 i hl (by omega)
    rw [Nat.zero_add] at hd
    have hp := dec_pos (s := s) (i := sumN (l.take i)) (r := (l.getD i (0, 0)).1) (n := (l.getD i (0, 0)).2) hd
    have hbd := chain_bound s l 0 hl (Nat.zero_le _)
    have hrun := decU_run s (by omega) (sumN (l.take i)) (by omega)
    rw [hd] at hrun
    have hrun' : callF E0 119 [.v (.string s), .v (.int .i64 (sumN (l.take i)))] = some [.p (.v (.int .i64 (l.getD i (0, 0)).1)), .p (.v (.int .i64 (l.getD i (0, 0)).2)), .p (.v (.bool true))] := hrun
    have hw : IntKind.i64.wrap ((i : Int) + 1) = ((i + 1 : Nat) : Int) := by rw [wrap64 (by omega) (by omega)]; omega
    have hw2 : IntKind.i64.wrap ((sumN (l.take i) : Int) + ((l.getD i (0, 0)).2 : Int)) = ((sumN (l.take (i + 1)) : Nat) : Int) := by rw [sumN_take_succ l i (by omega), wrap64 (by omega) (by omega)]; omega
    simp only [loopN, Tryz.f95, loopsOf, List.append_nil, List.nil_append, List.getD_cons_zero] at hR
    rw [execF_loop] at hR
    by_cases hia : i = a
    · subst hia
      have hq : ((i : Int) == (i : Int)) = true := beq_self_eq_true _
      simp only [symS, symO, symC, symP, symB, symR, symF, symM, symN, if_true, if_false, Nat.reduceEqDiff, Nat.reduceBEq, Nat.reduceAdd, Bool.false_eq_true, Bool.true_eq_false, reduceCtorEq, decide_true, decide_false, Nat.reduceLeDiff, and_self, and_true, true_and, some_is, lt01, h0, h1, h10, h11, h31, h32, hil, hq, hrun', hw, hw2] at hR
      obtain ⟨env', rfl, g1, g2, g3⟩ := ih (i + 1) _ _ _ _ hR (by omega) (by omega) (by simp [fset_app, h0]) (by simp [fset_app, h1]) (by simp [fset_app]) (by
        have : ¬ (i + 1 ≤ i) := by omega
        simp only [fset_app, Nat.reduceEqDiff, if_false, if_true, this]) (by simp [fset_app, h31]) (by simp [fset_app])
      exact ⟨env', rfl, g1, g2, g3⟩
    · have hq : ((i : Int) == (a : Int)) = false := by rw [beq_eq_false_iff_ne]; omega
      simp only [symS, symO, symC, symP, symB, symR, symF, symM, symN, if_true, if_false, Nat.reduceEqDiff, Nat.reduceBEq, Nat.reduceAdd, Bool.false_eq_true, Bool.true_eq_false, reduceCtorEq, decide_true, decide_false, Nat.reduceLeDiff, and_self, and_true, true_and, some_is, lt01, h0, h1, h10, h11, h31, h32, hil, hq, hrun', hw, hw2] at hR
      obtain ⟨env', rfl, g1, g2, g3⟩ := ih (i + 1) _ _ _ _ hR (by omega) (by omega) (by simp [fset_app, h0]) (by simp [fset_app, h1]) (by simp [fset_app]) (by
        simp only [fset_app, Nat.reduceEqDiff, if_false, h11]
        by_cases hle : i ≤ a
        · rw [if_pos hle, if_pos (by omega)]
        · rw [if_neg hle, if_neg (by omega)]) (by simp [fset_app, h31]) (by simp [fset_app])
      exact ⟨env', rfl, g1, g2, g3⟩

set_option maxRecDepth 100000 in
theorem sliceU_none (s : ByteArray) (hs : s.size < 1099511627776) (hl : codesOf s = none) (a b : Nat) : callF E0 95 [.v (.string s), .v (.int .i64 a), .v (.int .i64 b)] = some [.p (.v (.string .empty)), .p (.v (.bool false))] := by
  rw [callF_fn bd_SliceU ok_SliceU]
  have hc := countU_run s (by omega)
  rw [hl] at hc
  have hc' : callF E0 94 [.v (.string s)] = some [.p (.v (.int .i64 0)), .p (.v (.bool false))] := hc
  have he : (ByteArray.empty) = ⟨#[]⟩ := rfl
  simp only [symS, symO, symC, symP, symB, symR, symF, symM, symN, if_true, if_false, Nat.reduceEqDiff, Nat.reduceBEq, Nat.reduceAdd, Bool.false_eq_true, Bool.true_eq_false, reduceCtorEq, decide_true, decide_false, Nat.reduceLeDiff, and_self, and_true, true_and, some_is, lt01, Tryz.f95, hc', he]

set_option maxRecDepth 100000 in
theorem sliceU_run (s : ByteArray) (hs : s.size < 1099511627776) (l : List (Nat × Nat)) (hl : codesOf s = some l) (a b : Nat) (hb : b ≤ l.length) : callF E0 95 [.v (.string s), .v (.int .i64 a), .v (.int .i64 b)] = some [.p (.v (.string (if a < b then subS s l a b else .empty))), .p (.v (.bool true))] := by
  rw [callF_fn bd_SliceU ok_SliceU]
  have hc := countU_run s (by omega)
  rw [hl] at hc
  have hc' : callF E0 94 [.v (.string s)] = some [.p (.v (.int .i64 l.length)), .p (.v (.bool true))] := hc
  have hlen := (codes_len s s.size 0 l hl).1
  have hch := codes_chain s s.size 0 l hl
  have hmx : maxI (a : Int) 0 = a := by unfold maxI; rw [if_neg (by omega)]
  have hmn : minI (b : Int) l.length = b := by unfold minI; rw [if_neg (by omega)]
  by_cases hab : a < b
  · have hab1 : ¬ ((b : Int) ≤ a) := by omega
    have hbd := chain_bound s l 0 hch (Nat.zero_le _)
    have hle := sumN_take_le l a b (by omega)
    have hle2 := sumN_take_le l b l.length hb
    rw [List.take_length] at hle2
    have hsl := fun d x lo hi ty pos af g st hx hl hh => sl2_str un_str d x lo hi ty pos af g st s .i64 .i64 (sumN (l.take a)) (sumN (l.take b)) hx hl hh (by omega) (by omega) (by omega)
    simp only [symS, symO, symC, symP, symB, symR, symF, symM, symN, if_true, if_false, Nat.reduceEqDiff, Nat.reduceBEq, Nat.reduceAdd, Bool.false_eq_true, Bool.true_eq_false, reduceCtorEq, decide_true, decide_false, Nat.reduceLeDiff, and_self, and_true, true_and, some_is, lt01, Tryz.f95, hc', aop_max, aop_min, mmK_int, hmx, hmn, hab1, hab]
    generalize hR : execF E0 (Code.loop _) _ = R
    obtain ⟨env', rfl, g0, g10, g11⟩ := sliceU_loop s hs l hch a b hab hb (by omega) _ 0 _ _ _ _ hR rfl (Nat.zero_le _) rfl rfl rfl (by rw [if_pos (Nat.zero_le _)]; rfl) rfl rfl
    have hsl' := fun (d : Option Tmp) (ty : TypeId) (pos : String) (af : Array Edge) (g : Option (Nat × Bool)) (env : Nat → AV) (h : AHeap) (n : Nat) (e1 : env 50 = .v (.string s)) (e2 : env 51 = .v (.int .i64 (sumN (l.take a)))) (e3 : env 52 = .v (.int .i64 (sumN (l.take b)))) => hsl d (.tmp 50) (.tmp 51) (.tmp 52) ty pos af g ⟨env, h, n⟩ e1 e2 e3
    simp only [symS, symO, symC, symP, symB, symR, symF, symM, symN, if_true, if_false, Nat.reduceEqDiff, Nat.reduceBEq, Nat.reduceAdd, Bool.false_eq_true, Bool.true_eq_false, reduceCtorEq, decide_true, decide_false, Nat.reduceLeDiff, and_self, and_true, true_and, some_is, lt01, g0, g10, g11, hsl', Int.toNat_natCast, subS, hab]
  · have hab1 : ((b : Int) ≤ a) := by omega
    have he : (ByteArray.empty) = ⟨#[]⟩ := rfl
    simp only [symS, symO, symC, symP, symB, symR, symF, symM, symN, if_true, if_false, Nat.reduceEqDiff, Nat.reduceBEq, Nat.reduceAdd, Bool.false_eq_true, Bool.true_eq_false, reduceCtorEq, decide_true, decide_false, Nat.reduceLeDiff, and_self, and_true, true_and, some_is, lt01, Tryz.f95, hc', aop_max, aop_min, mmK_int, hmx, hmn, hab1, hab, he]

end Go.Abs
