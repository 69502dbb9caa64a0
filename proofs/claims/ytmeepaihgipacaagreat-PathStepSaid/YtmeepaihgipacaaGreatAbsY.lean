/-
The program in sight, part Y: UTF-8.
-/
import Derived.Test.YtmeepaihgipacaaGreatAbsX
import Derived.Test.YtmeepaihgipacaaGreatAbsS
set_option linter.unusedVariables false
set_option linter.unusedSimpArgs false
namespace Go.Abs
open Go.Proofs

theorem bd_next : Tryz.prog.funcs[143]? = some Tryz.f143 := by kernel_rfl
theorem ok_next : fnOk Tryz.f143 = true := by kernel_rfl
theorem bd_point : Tryz.prog.funcs[144]? = some Tryz.f144 := by kernel_rfl
theorem ok_point : fnOk Tryz.f144 = true := by kernel_rfl
theorem bd_size : Tryz.prog.funcs[145]? = some Tryz.f145 := by kernel_rfl
theorem ok_size : fnOk Tryz.f145 = true := by kernel_rfl
theorem bd_DecodeU : Tryz.prog.funcs[119]? = some Tryz.f119 := by kernel_rfl
theorem ok_DecodeU : fnOk Tryz.f119 = true := by kernel_rfl
theorem bd_DecodeR : Tryz.prog.funcs[120]? = some Tryz.f120 := by kernel_rfl
theorem ok_DecodeR : fnOk Tryz.f120 = true := by kernel_rfl

theorem und_str : Tryz.prog.underlying 9 = some .string := by kernel_rfl
theorem und_int : Tryz.prog.underlying 3 = some (.int .i64) := by kernel_rfl
theorem und_u8 : Tryz.prog.underlying 5 = some (.int .u8) := by kernel_rfl
theorem ix_str (s : ByteArray) (n : Int) (h0 : 0 ≤ n) (h1 : n < s.size) : idxO Tryz.prog 9 (.v (.string s)) (.v (.int .i64 n)) = some ⟨.v (.int .u8 (byteAt s n.toNat)), [], 0⟩ := idx_str und_str s n h0 h1
theorem cv_u8 (st : St) (n : Int) : cvO Tryz.prog 5 3 st (.v (.int .u8 n)) = some ⟨.v (.int .i64 (IntKind.i64.wrap n)), [], 0⟩ := cv_int und_u8 und_int st _ n

/-- A byte that continues an encoding. -/
def cont (s : ByteArray) (i : Nat) : Prop := i < s.size ∧ 128 ≤ byteAt s i ∧ byteAt s i < 192
instance (s : ByteArray) (i : Nat) : Decidable (cont s i) := by unfold cont; infer_instance

set_option maxRecDepth 100000 in
theorem next_run (s : ByteArray) (i : Nat) : callF E0 143 [.v (.string s), .v (.int .i64 i)] = some [.p (.v (.int .i64 (if cont s i then ((byteAt s i % 64 : Nat) : Int) else 0))), .p (.v (.bool (decide (cont s i))))] := by
  rw [callF_fn bd_next ok_next]
  have hb := byteAt_lt s i
  obtain ⟨a1, _, _, _, a2⟩ := and_all _ hb
  have e1 : band .u8 (byteAt s i : Int) 192 = ((byteAt s i &&& 192 : Nat) : Int) := band_u8 hb (m := 192) (by decide)
  have e2 : band .u8 (byteAt s i : Int) 63 = ((byteAt s i % 64 : Nat) : Int) := by rw [← a1]; exact band_u8 hb (m := 63) (by decide)
  have e3 : IntKind.i64.wrap ((byteAt s i % 64 : Nat) : Int) = ((byteAt s i % 64 : Nat) : Int) := wrap64 (by omega) (by omega)
  have hi0 : (0 : Int) ≤ i := by omega
  by_cases hi : (i : Int) < s.size
  · have hn : ¬ ((s.size : Int) ≤ i) := by omega
    by_cases hc : cont s i
    · have e4 : (((byteAt s i &&& 192 : Nat) : Int) != 128) = false := by rw [a2.2 hc.2]; rfl
      simp only [Tryz.f143, symS, symO, symC, symP, symB, if_true, if_false, Nat.reduceEqDiff, Nat.reduceBEq, Bool.false_eq_true, reduceCtorEq, hn, hi, hi0, decide_false, ix_str, cv_u8, Int.toNat_natCast, e1, e2, e3, e4, hc, decide_true]
    · have e4 : (((byteAt s i &&& 192 : Nat) : Int) != 128) = true := by
        rw [bne_iff_ne]
        intro h
        exact hc ⟨by omega, a2.1 (by omega)⟩
      simp only [Tryz.f143, symS, symO, symC, symP, symB, if_true, if_false, Nat.reduceEqDiff, Nat.reduceBEq, Bool.false_eq_true, reduceCtorEq, hn, hi, hi0, decide_false, ix_str, cv_u8, Int.toNat_natCast, e1, e2, e3, e4, hc, decide_true]
  · have hn : ((s.size : Int) ≤ i) := by omega
    have hc : ¬ cont s i := fun h => hi (by have := h.1; omega)
    simp only [Tryz.f143, symS, symO, symC, symP, symB, if_true, if_false, Nat.reduceEqDiff, Nat.reduceBEq, Bool.false_eq_true, Bool.true_eq_false, reduceCtorEq, hn, decide_true, hc, decide_false]

/-- A code point. -/
def isPoint (r : Int) : Prop := 0 ≤ r ∧ r ≤ 1114111 ∧ (r < 55296 ∨ 57343 < r)
instance (r : Int) : Decidable (isPoint r) := by unfold isPoint; infer_instance

set_option maxRecDepth 100000 in
theorem point_run (r : Int) : callF E0 144 [.v (.int .i64 r)] = some [.p (.v (.bool (decide (isPoint r))))] := by
  rw [callF_fn bd_point ok_point]
  by_cases h1 : 0 ≤ r
  · by_cases h2 : r ≤ 1114111
    · by_cases h3 : r < 55296
      · have hp : isPoint r := ⟨h1, h2, .inl h3⟩
        simp only [Tryz.f144, symS, symO, symC, symP, symB, if_true, if_false, Nat.reduceEqDiff, Nat.reduceBEq, Bool.false_eq_true, Bool.true_eq_false, reduceCtorEq, h1, h2, h3, decide_true, hp]
      · by_cases h4 : 57343 < r
        · have hp : isPoint r := ⟨h1, h2, .inr h4⟩
          simp only [Tryz.f144, symS, symO, symC, symP, symB, if_true, if_false, Nat.reduceEqDiff, Nat.reduceBEq, Bool.false_eq_true, Bool.true_eq_false, reduceCtorEq, h1, h2, h3, h4, decide_true, decide_false, hp]
        · have hp : ¬ isPoint r := fun h => h.2.2.elim h3 h4
          simp only [Tryz.f144, symS, symO, symC, symP, symB, if_true, if_false, Nat.reduceEqDiff, Nat.reduceBEq, Bool.false_eq_true, Bool.true_eq_false, reduceCtorEq, h1, h2, h3, h4, decide_true, decide_false, hp]
    · have hp : ¬ isPoint r := fun h => h2 h.2.1
      simp only [Tryz.f144, symS, symO, symC, symP, symB, if_true, if_false, Nat.reduceEqDiff, Nat.reduceBEq, Bool.false_eq_true, Bool.true_eq_false, reduceCtorEq, h1, h2, decide_true, decide_false, hp]
  · have hp : ¬ isPoint r := fun h => h1 h.1
    simp only [Tryz.f144, symS, symO, symC, symP, symB, if_true, if_false, Nat.reduceEqDiff, Nat.reduceBEq, Bool.false_eq_true, Bool.true_eq_false, reduceCtorEq, h1, decide_true, decide_false, hp]

end Go.Abs
