/-
The program in sight: ndjqref01.FromRunes and ndjqref01.Slice.
-/
import Derived.Test.YtmeepaihgipacaaGreatAbsStr
set_option linter.unusedVariables false
set_option linter.unusedSimpArgs false
namespace Go.Abs
open Go.Proofs

theorem bd_FromRunes : Tryz.prog.funcs[98]? = some Tryz.f98 := by kernel_rfl
theorem ok_FromRunes : fnOk Tryz.f98 = true := by kernel_rfl
theorem bd_SliceR : Tryz.prog.funcs[64]? = some Tryz.f64 := by kernel_rfl
theorem ok_SliceR : fnOk Tryz.f64 = true := by kernel_rfl

def encI (l : List Int) : AV := can (.psl 1 (rowI l))
theorem lenA_encI (l : List Int) : lenA (encI l) = some l.length := by
  cases l with
  | nil => rfl
  | cons a r => show some ((rowI (a :: r)).length) = _; rw [rowI_len]
theorem ia_encI (h : AHeap) (n : Int) (l : List Int) : iaN h n (some 1) (encI l) = if 0 ≤ n ∧ n < l.length then some ⟨.pptr [.v (.int .i64 (l.getD n.toNat 0))], [], 0⟩ else none := by
  cases l with
  | nil =>
    show iaN h n (some 1) (.psl 0 []) = _
    rw [iaN_psl, if_neg (by simp), if_neg (by simp)]
  | cons a r =>
    show iaN h n (some 1) (.psl 1 (rowI (a :: r))) = _
    rw [iaN_psl, rowI_len]
    by_cases hc : 0 ≤ n ∧ n < ((a :: r).length : Int)
    · rw [if_pos hc, if_pos ⟨rfl, by omega, hc.1, hc.2⟩]
      have hi : n.toNat < (a :: r).length := by omega
      simp only [rowI, List.getD_eq_getElem?_getD, List.getElem?_map, List.getElem?_eq_getElem hi, Option.map_some, Option.getD_some]
    · rw [if_neg hc, if_neg (fun hh => hc ⟨hh.2.2.1, hh.2.2.2⟩)]
theorem ap_Byt (d : Option Tmp) (x y : Operand) (ty : TypeId) (pos : String) (af : Array Edge) (g : Option (Nat × Bool)) (st : St) :
    aop Tryz.prog ⟨d, .call { callee := .builtin .append, args := #[x, y], argTypes := #[106, 106] }, ty, pos, af, g⟩ st = apO st.heap st.nxt 1 1 (aevalO st.env x) (aread st.heap Tryz.prog (aevalO st.env y)) := aop_append el_Bytes ze_u8 sz_u8 by_u8 rfl (by decide) (by decide) d x y ty pos af g st

theorem ard1_rowB (lv sz) (l : List Nat) (n : Nat) (hn : n = l.length) : ard1 0 n (some ⟨lv, sz, rowB l⟩) = some (rowB l) := by
  subst hn
  rw [← rowB_len]
  exact ard1_all lv sz _

set_option maxRecDepth 100000 in
theorem fromRunes_loop (s : ByteArray) (hs : s.size < 1099511627776) (cs : List (Nat × Nat)) (hcs : cs.length < 1099511627776) (i0 : Nat) (hi0 : i0 ≤ s.size) (hch : Chain s i0 cs) : ∀ (k i : Nat) (env : Nat → AV) (h : AHeap) (n : Nat) (X : AV) (R : Option (Ex × St)), execF E0 (loopN Tryz.f98 0) ⟨env, h, n⟩ = R → cs.length - i = k → i ≤ cs.length →
    env 0 = encI (runesI cs) → env 4 = X → OutRow h n 1 X (rowB (bytesAt s i0 (sumN (cs.take i)))) → env 5 = .v (.int .i64 i) →
    ∃ env' h' n' X', R = some (.exit 0, ⟨env', h', n'⟩) ∧ env' 4 = X' ∧ OutRow h' n' 1 X' (rowB (bytesAt s i0 (sumN cs))) := by
  intro k
  induction k with
  | zero =>
    intro i env h n X R hR hk hi h0 h4 hX h5
    have hil : ¬ ((i : Int) < cs.length) := by omega
    have hlen : (runesI cs).length = cs.length := by simp [runesI]
    simp only [loopN, Tryz.f98, loopsOf, List.append_nil, List.nil_append, List.getD_cons_zero] at hR
    rw [execF_loop] at hR
    simp only [symS, symO, symC, symP, symB, symR, symF, symM, symN, if_true, if_false, Nat.reduceEqDiff, Nat.reduceBEq, Nat.reduceAdd, Bool.false_eq_true, Bool.true_eq_false, reduceCtorEq, decide_true, decide_false, Nat.reduceLeDiff, and_self, and_true, true_and, some_is, lt01, h0, h4, h5, lenA_encI, hlen, el_Ints, hil] at hR
    have hil2 : i = cs.length := by omega
    rw [hil2, List.take_length] at hX
    exact ⟨_, _, _, X, hR.symm, h4, hX⟩
  | succ k ih =>
    intro i env h n X R hR hk hi h0 h4 hX h5
    have hil : ((i : Int) < cs.length) := by omega
    have hz : ((0 : Int) ≤ i ∧ (i : Int) < cs.length) := by omega
    have hlen : (runesI cs).length = cs.length := by simp [runesI]
    have hget : (runesI cs).getD i 0 = ((cs.getD i (0, 0)).1 : Int) := by
      simp only [runesI, List.getD_eq_getElem?_getD, List.getElem?_map, List.getElem?_eq_getElem (show i < cs.length by omega), Option.map_some, Option.getD_some]
    have hd := chain_at s cs i0 i hch (by omega)
    have hp := dec_pos (s := s) (r := (cs.getD i (0, 0)).1) (n := (cs.getD i (0, 0)).2) hd
    have hrun := encode_run s _ (cs.getD i (0, 0)).1 (cs.getD i (0, 0)).2 hd
    have hbd := chain_bound s cs i0 hch hi0
    have hle := sumN_take_le cs i cs.length (by omega)
    rw [List.take_length] at hle
    have hw : IntKind.i64.wrap ((i : Int) + 1) = ((i + 1 : Nat) : Int) := by rw [wrap64 (by omega) (by omega)]; omega
    have htk := sumN_take_succ cs i (by omega)
    have happ := bytesAt_app s (sumN (cs.take i)) i0 (cs.getD i (0, 0)).2
    rw [← htk] at happ
    have hne : rowB (bytesAt s (i0 + sumN (cs.take i)) (cs.getD i (0, 0)).2) ≠ [] := by
      intro hh
      have := congrArg List.length hh
      rw [rowB_len, bytesAt_len] at this
      simp only [List.length_nil] at this
      omega
    have hard := fun lv => ard1_rowB lv 1 (bytesAt s (i0 + sumN (cs.take i)) (cs.getD i (0, 0)).2) (rowB (bytesAt s (i0 + sumN (cs.take i)) (cs.getD i (0, 0)).2)).length (rowB_len _)
    simp only [loopN, Tryz.f98, loopsOf, List.append_nil, List.nil_append, List.getD_cons_zero] at hR
    rw [execF_loop] at hR
    have e2 : rowB (bytesAt s i0 (sumN (cs.take i))) ++ rowB (bytesAt s (i0 + sumN (cs.take i)) (cs.getD i (0, 0)).2) = rowB (bytesAt s i0 (sumN (cs.take (i + 1)))) := by rw [rowB_app, happ]
    rcases hX with ⟨he, hx⟩ | ⟨b, hne0, hbn, rfl, hbb⟩
    · have hX' : X = .e0 ∨ X = .v (.slice none 0 0) := hx
      have ha := fun (h : AHeap) (nxt : Nat) => apO_new (h := h) (nxt := nxt) (sz := 1) (by_ := 1) (d := X) hX' hne (rowB_wf _) (by rw [rowB_len, bytesAt_len]; unfold maxBytes; omega)
      simp only [symS, symO, symC, symP, symB, symR, symF, symM, symN, if_true, if_false, Nat.reduceEqDiff, Nat.reduceBEq, Nat.reduceAdd, Bool.false_eq_true, Bool.true_eq_false, reduceCtorEq, decide_true, decide_false, Nat.reduceLeDiff, and_self, and_true, true_and, some_is, lt01, h0, h4, h5, lenA_encI, ia_encI, hlen, hget, el_Ints, hil, hz, Int.toNat_natCast, hrun, mapR_op, ap_Byt, aread_sl, hard, ha, hw] at hR
      rw [he, List.nil_append] at e2
      obtain ⟨env', h', n', X', rfl, g1, g2⟩ := ih (i + 1) _ _ _ _ _ hR (by omega) (by omega) (by simp [fset_app, h0]) rfl (.inr ⟨n + 1, by rw [← e2]; exact hne, by omega, by rw [← e2]; simp [fset_app], by rw [← e2]; simp [fset_app]⟩) (by simp [fset_app])
      exact ⟨env', h', n', X', rfl, g1, g2⟩
    · have ha := fun (h : AHeap) (nxt : Nat) (hh : h b = some ⟨true, 1, rowB (bytesAt s i0 (sumN (cs.take i)))⟩) => apO_end (h := h) (nxt := nxt) (sz := 1) (by_ := 1) hh hne (rowB_wf _) (by rw [rowB_len, rowB_len, bytesAt_len, bytesAt_len]; unfold maxBytes; omega)
      have q1 : ¬ (b = n) := by omega
      simp only [symS, symO, symC, symP, symB, symR, symF, symM, symN, if_true, if_false, Nat.reduceEqDiff, Nat.reduceBEq, Nat.reduceAdd, Bool.false_eq_true, Bool.true_eq_false, reduceCtorEq, decide_true, decide_false, Nat.reduceLeDiff, and_self, and_true, true_and, some_is, lt01, h0, h4, h5, lenA_encI, ia_encI, hlen, hget, el_Ints, hil, hz, Int.toNat_natCast, hrun, mapR_op, ap_Byt, aread_sl, hard, ha, hbb, q1, hw] at hR
      rw [e2] at hR
      obtain ⟨env', h', n', X', rfl, g1, g2⟩ := ih (i + 1) _ _ _ _ _ hR (by omega) (by omega) (by simp [fset_app, h0]) rfl (.inr ⟨n + 1, by rw [← e2]; exact fun hh => hne0 (List.append_eq_nil_iff.1 hh).1, by omega, by rw [← e2]; simp [fset_app], by simp [fset_app]⟩) (by simp [fset_app])
      exact ⟨env', h', n', X', rfl, g1, g2⟩

theorem abytes_rowB : ∀ l : List Nat, abytesOf (rowB l) = some (l.map fun (b : Nat) => UInt8.ofNat b)
  | [] => rfl
  | b :: l => by
    have : rowB (b :: l) = [AV.v (.int .u8 (b : Int))] :: rowB l := rfl
    rw [this]
    simp only [abytesOf, abytes_rowB l, Option.map_some, List.map_cons, Int.toNat_natCast]

theorem bytes_extract (s : ByteArray) : ∀ (n i : Nat), i + n ≤ s.size → (bytesAt s i n).map (fun (b : Nat) => UInt8.ofNat b) = (s.data.toList.drop i).take n
  | 0, i, _ => by simp [bytesAt]
  | n + 1, i, h => by
    have hi : i < s.data.toList.length := by simp; omega
    rw [bytesAt, List.map_cons, bytes_extract s n (i + 1) (by omega), List.drop_eq_getElem_cons hi, List.take_succ_cons]
    congr 1
    unfold byteAt
    rw [Array.getD_eq_getD_getElem?, Array.getElem?_eq_getElem (by simpa using hi)]
    simp

theorem extract_data (s : ByteArray) (a b : Nat) : (s.extract a b).data.toList = (s.data.toList.take b).drop a := by
  simp [ByteArray.extract, ByteArray.copySlice, List.drop_take]

theorem bytes_sub (s : ByteArray) (i n : Nat) (h : i + n ≤ s.size) : (⟨((bytesAt s i n).map fun (b : Nat) => UInt8.ofNat b).toArray⟩ : ByteArray) = s.extract i (i + n) := by
  apply ByteArray.ext
  apply Array.ext'
  show ((bytesAt s i n).map fun (b : Nat) => UInt8.ofNat b) = _
  rw [bytes_extract s n i h, extract_data, List.drop_take]
  congr 1
  omega

theorem un_Byts : Tryz.prog.underlying 106 = some (.slice 5) := by kernel_rfl
theorem cv_row (st : St) (x : AV) (l : List Nat) (hx : ∀ y, x ≠ .v y) (hr : aread st.heap Tryz.prog x = some (rowB l)) : cvO Tryz.prog 106 9 st x = some ⟨.v (.string ⟨(l.map fun (b : Nat) => UInt8.ofNat b).toArray⟩), [], 0⟩ := by
  unfold cvO
  cases x with
  | v y => exact absurd rfl (hx y)
  | _ => simp only [un_Byts, un_str, un_u8, hr, abytes_rowB, Option.map_some]

set_option maxRecDepth 100000 in
theorem fromRunes_run (s : ByteArray) (hs : s.size < 1099511627776) (cs : List (Nat × Nat)) (hcs : cs.length < 1099511627776) (i0 : Nat) (hi0 : i0 ≤ s.size) (hch : Chain s i0 cs) (hne : cs ≠ []) : callF E0 98 [encI (runesI cs)] = some [.p (.v (.string (s.extract i0 (i0 + sumN cs)))), .p (.v (.bool true))] := by
  rw [callF_fn bd_FromRunes ok_FromRunes]
  simp only [symS, symO, symC, symP, symB, symR, symF, symM, symN, if_true, if_false, Nat.reduceEqDiff, Nat.reduceBEq, Nat.reduceAdd, Bool.false_eq_true, Bool.true_eq_false, reduceCtorEq, decide_true, decide_false, Nat.reduceLeDiff, and_self, and_true, true_and, some_is, lt01, Tryz.f98]
  generalize hR : execF E0 (Code.loop _) _ = R
  obtain ⟨env', h', n', X', rfl, g4, gX⟩ := fromRunes_loop s hs cs hcs i0 hi0 hch _ 0 _ _ _ _ _ hR rfl (Nat.zero_le _) rfl rfl (.inl ⟨rfl, .inr rfl⟩) rfl
  have hbd := chain_bound s cs i0 hch hi0
  have hpos : 0 < sumN cs := by
    cases cs with
    | nil => exact absurd rfl hne
    | cons c r =>
      have := dec_pos (s := s) (i := i0) (r := c.1) (n := c.2) hch.1
      show 0 < c.2 + sumN r
      omega
  rcases gX with ⟨he, _⟩ | ⟨b, hne0, hbn, rfl, hbb⟩
  · exfalso
    have := congrArg List.length he
    rw [rowB_len, bytesAt_len] at this
    simp only [List.length_nil] at this
    omega
  · have hr : ∀ st : St, st.heap = h' → aread st.heap Tryz.prog (.sl b 0 (rowB (bytesAt s i0 (sumN cs))).length) = some (rowB (bytesAt s i0 (sumN cs))) := by
      intro st hst
      rw [hst, aread_sl, hbb, ard1_all]
    have hcv := fun (env : Nat → AV) => cv_row ⟨env, h', n'⟩ _ (bytesAt s i0 (sumN cs)) (fun y hy => by cases hy) (hr _ rfl)
    rw [bytes_sub s i0 (sumN cs) hbd] at hcv
    simp only [symS, symO, symC, symP, symB, symR, symF, symM, symN, if_true, if_false, Nat.reduceEqDiff, Nat.reduceBEq, Nat.reduceAdd, Bool.false_eq_true, Bool.true_eq_false, reduceCtorEq, decide_true, decide_false, Nat.reduceLeDiff, and_self, and_true, true_and, some_is, lt01, g4, hcv]

theorem encI_drop (l : List Int) (a n : Nat) (h : a + n ≤ l.length) (hh : AHeap) (sz : Nat) : purS 23 hh a n (some ⟨false, 1, rowI l⟩) = some (encI ((l.drop a).take n)) := by
  have e1 : ((rowI l).drop a).take n = rowI ((l.drop a).take n) := by simp [rowI, List.map_drop, List.map_take]
  have e2 : omap (omap (pur 23 hh)) (rowI ((l.drop a).take n)) = some (rowI ((l.drop a).take n)) := by
    generalize (l.drop a).take n = r
    induction r with
    | nil => rfl
    | cons n l ih =>
      have : rowI (n :: l) = [AV.v (.int .i64 n)] :: rowI l := rfl
      rw [this]
      simp only [omap, ih, p3_int]
  simp only [purS]
  rw [if_pos ⟨trivial, by rw [rowI_len]; omega⟩, e1, e2]
  rfl

set_option maxRecDepth 100000 in
theorem sliceR_none (s : ByteArray) (hs : s.size < 1099511627776) (hl : codesOf s = none) (a b : Nat) : callF E0 64 [.v (.string s), .v (.int .i64 a), .v (.int .i64 b)] = some [.p (.v (.string .empty)), .p (.v (.bool false))] := by
  rw [callF_fn bd_SliceR ok_SliceR]
  have hc := runes_run s hs
  rw [hl] at hc
  have hc' : callF E0 97 [.v (.string s)] = some [.p .e0, .p (.v (.bool false))] := hc
  have he : (ByteArray.empty) = ⟨#[]⟩ := rfl
  simp only [symS, symO, symC, symP, symB, symR, symF, symM, symN, if_true, if_false, Nat.reduceEqDiff, Nat.reduceBEq, Nat.reduceAdd, Bool.false_eq_true, Bool.true_eq_false, reduceCtorEq, decide_true, decide_false, Nat.reduceLeDiff, and_self, and_true, true_and, some_is, lt01, Tryz.f64, hc', he]

set_option maxRecDepth 100000 in
theorem sliceR_run (s : ByteArray) (hs : s.size < 1099511627776) (l : List (Nat × Nat)) (hl : codesOf s = some l) (a b : Nat) (hb : b ≤ l.length) : callF E0 64 [.v (.string s), .v (.int .i64 a), .v (.int .i64 b)] = some [.p (.v (.string (if a < b then subS s l a b else .empty))), .p (.v (.bool true))] := by
  rw [callF_fn bd_SliceR ok_SliceR]
  have hc := runes_run s hs
  rw [hl] at hc
  have hlen := (codes_len s s.size 0 l hl).1
  have hch := codes_chain s s.size 0 l hl
  have hmx : maxI (a : Int) 0 = a := by unfold maxI; rw [if_neg (by omega)]
  have hmn : minI (b : Int) l.length = b := by unfold minI; rw [if_neg (by omega)]
  have hrl : (runesI l).length = l.length := by simp [runesI]
  cases hl0 : l with
  | nil =>
    have hc' : callF E0 97 [.v (.string s)] = some [.p .e0, .p (.v (.bool true))] := by rw [hc, hl0]; rfl
    have hb0 : b = 0 := by rw [hl0] at hb; simpa using hb
    subst hb0
    have hab : ¬ (a < 0) := by omega
    have hab1 : (((0 : Nat) : Int) ≤ a) := by omega
    have hmn' : minI ((0 : Nat) : Int) ((0 : Nat) : Int) = ((0 : Nat) : Int) := rfl
    have he : (ByteArray.empty) = ⟨#[]⟩ := rfl
    simp only [symS, symO, symC, symP, symB, symR, symF, symM, symN, if_true, if_false, Nat.reduceEqDiff, Nat.reduceBEq, Nat.reduceAdd, Bool.false_eq_true, Bool.true_eq_false, reduceCtorEq, decide_true, decide_false, Nat.reduceLeDiff, and_self, and_true, true_and, some_is, lt01, Tryz.f64, hc', aop_max, aop_min, mmK_int, hmx, el_Ints, hmn', hab, hab1, he]
  | cons c r =>
    rw [← hl0]
    have hown : outRC 1 (rowI (runesI l)) = .own 1 (rowI (runesI l)) := by rw [hl0]; rfl
    have hc' : callF E0 97 [.v (.string s)] = some [.own 1 (rowI (runesI l)), .p (.v (.bool true))] := by rw [hc, ← hown]; rfl
    by_cases hab : a < b
    · have hab1 : ¬ ((b : Int) ≤ a) := by omega
      have hab2 : ¬ ((a : Int) = b ∧ (a : Int) ≠ 0) := by omega
      have hfr := fromRunes_run s hs ((l.drop a).take (b - a)) (by rw [List.length_take, List.length_drop]; omega) (sumN (l.take a)) (by
        have := chain_bound s l 0 hch (Nat.zero_le _)
        have h2 := sumN_take_le l a l.length (by omega)
        rw [List.take_length] at h2
        omega) (by
        have := chain_take s _ _ (b - a) (chain_drop s l 0 a hch)
        rwa [Nat.zero_add] at this) (by
        intro hh
        have := congrArg List.length hh
        rw [List.length_take, List.length_drop, List.length_nil] at this
        omega)
      have hsum : sumN (l.take a) + sumN ((l.drop a).take (b - a)) = sumN (l.take b) := by
        have h := (List.take_append_drop a (l.take b)).symm
        rw [List.take_take, Nat.min_eq_left (by omega), List.drop_take] at h
        rw [← sumN_app, ← h]
      rw [hsum] at hfr
      have henc : encI ((runesI l).drop a |>.take (b - a)) = encI (runesI ((l.drop a).take (b - a))) := by simp [runesI, List.map_drop, List.map_take]
      have hpu := fun (hh : AHeap) => encI_drop (runesI l) a (b - a) (by rw [hrl]; omega) hh 0
      rw [henc] at hpu
      have hcond : (True ∧ (0 : Int) ≤ a ∧ (a : Int) ≤ b ∧ ((0 : Nat) : Int) + (b : Int) ≤ (rowI (runesI l)).length ∧ 0 + (rowI (runesI l)).length ≤ (rowI (runesI l)).length) := by
        rw [rowI_len, hrl]; exact ⟨trivial, by omega, by omega, by omega, by omega⟩
      have hsl : ∀ (other : Option Out) (h : AHeap), h 0 = some ⟨true, 1, rowI (runesI l)⟩ → sl2 other h 1 (.sl 0 0 (rowI (runesI l)).length) (.v (.int .i64 a)) (.v (.int .i64 b)) = some ⟨.sl 0 a (b - a), [], 0⟩ := by
        intro other h hh
        simp only [sl2, hh]
        rw [if_pos hcond, if_neg hab2]
        have z1 : 0 + (a : Int).toNat = a := by omega
        have z2 : ((b : Int) - a).toNat = b - a := by omega
        rw [z1, z2]
      have e1 : ((rowI (runesI l)).length : Int) = (l.length : Int) := by rw [rowI_len, hrl]
      simp only [symS, symO, symC, symP, symB, symR, symF, symM, symN, if_true, if_false, Nat.reduceEqDiff, Nat.reduceBEq, Nat.reduceAdd, Bool.false_eq_true, Bool.true_eq_false, reduceCtorEq, decide_true, decide_false, Nat.reduceLeDiff, and_self, and_true, true_and, some_is, lt01, symL, Tryz.f64, hc', mapR_op, aop_max, aop_min, mmK_int, hmx, el_Ints, e1, hmn, hab, hab1, aop_slice2 el_Ints sz_int, hsl, hpu, hfr, subS]
    · have hab1 : ((b : Int) ≤ a) := by omega
      have he : (ByteArray.empty) = ⟨#[]⟩ := rfl
      have e1 : ((rowI (runesI l)).length : Int) = (l.length : Int) := by rw [rowI_len, hrl]
      simp only [symS, symO, symC, symP, symB, symR, symF, symM, symN, if_true, if_false, Nat.reduceEqDiff, Nat.reduceBEq, Nat.reduceAdd, Bool.false_eq_true, Bool.true_eq_false, reduceCtorEq, decide_true, decide_false, Nat.reduceLeDiff, and_self, and_true, true_and, some_is, lt01, Tryz.f64, hc', mapR_op, aop_max, aop_min, mmK_int, hmx, el_Ints, e1, hmn, hab, hab1, he]

end Go.Abs
