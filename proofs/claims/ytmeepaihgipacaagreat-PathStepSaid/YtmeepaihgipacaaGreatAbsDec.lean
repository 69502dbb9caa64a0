/-
The program in sight: decoding UTF-8, twice.
-/
import Derived.Test.YtmeepaihgipacaaGreatAbsY
set_option linter.unusedVariables false
set_option linter.unusedSimpArgs false
namespace Go.Abs
open Go.Proofs

/-- Some bytes that continue an encoding. -/
def contR (s : ByteArray) : Nat → Nat → Nat → Option Nat
  | _, 0, r => some r
  | j, m + 1, r => if cont s j then contR s (j + 1) m (r * 64 + byteAt s j % 64) else none

theorem contR_bound (s : ByteArray) : ∀ (m j r r' : Nat), contR s j m r = some r' → r * 64 ^ m ≤ r' ∧ r' < (r + 1) * 64 ^ m ∧ (0 < m → j + m ≤ s.size)
  | 0, j, r, r', h => by
    simp only [contR, Option.some.injEq] at h
    subst h
    exact ⟨by simp, by simp, fun h => absurd h (by omega)⟩
  | m + 1, j, r, r', h => by
    simp only [contR] at h
    split at h
    · rename_i hc
      obtain ⟨h1, h2, h3⟩ := contR_bound s m (j + 1) _ r' h
      have hx : byteAt s j % 64 < 64 := Nat.mod_lt _ (by decide)
      have hp : 0 < 64 ^ m := Nat.pow_pos (by decide)
      refine ⟨?_, ?_, fun _ => ?_⟩
      · rw [Nat.pow_succ]
        calc r * (64 ^ m * 64) = r * 64 * 64 ^ m := by rw [Nat.mul_comm (64 ^ m) 64, Nat.mul_assoc]
          _ ≤ (r * 64 + byteAt s j % 64) * 64 ^ m := Nat.mul_le_mul_right _ (by omega)
          _ ≤ r' := h1
      · rw [Nat.pow_succ]
        calc r' < (r * 64 + byteAt s j % 64 + 1) * 64 ^ m := h2
          _ ≤ (r + 1) * 64 * 64 ^ m := Nat.mul_le_mul_right _ (by omega)
          _ = (r + 1) * (64 ^ m * 64) := by rw [Nat.mul_comm (64 ^ m) 64, Nat.mul_assoc]
      · rcases Nat.eq_zero_or_pos m with h0 | h0
        · subst h0; have := hc.1; omega
        · have := h3 h0; omega
    · cases h

/-- The length, the first bits and the least code point of an encoding with some first byte. -/
def lead (b : Nat) : Option (Nat × Nat × Nat) :=
  if 192 ≤ b ∧ b < 224 then some (1, b - 192, 128) else if 224 ≤ b ∧ b < 240 then some (2, b - 224, 2048) else if 240 ≤ b ∧ b < 248 then some (3, b - 240, 65536) else none

/-- The code point at a place and the number of its bytes. -/
def dec (s : ByteArray) (i : Nat) : Option (Nat × Nat) :=
  if i < s.size then
    if byteAt s i < 128 then some (byteAt s i, 1) else match lead (byteAt s i) with
    | some (m, r0, least) => match contR s (i + 1) m r0 with
      | some r => if r < least ∨ ¬ isPoint r then none else some (r, m + 1)
      | none => none
    | none => none
  else none

def decRC : Option (Nat × Nat) → List RC
  | some (r, n) => [.p (.v (.int .i64 r)), .p (.v (.int .i64 n)), .p (.v (.bool true))]
  | none => [.p (.v (.int .i64 0)), .p (.v (.int .i64 0)), .p (.v (.bool false))]

theorem pow_small {m : Nat} (hm : m ≤ 5) : 64 ^ (6 - m) ≤ 68719476736 := by
  have : 64 ^ (6 - m) ≤ 64 ^ 6 := Nat.pow_le_pow_right (by decide) (by omega)
  omega

set_option maxRecDepth 100000 in
theorem decU_loop (s : ByteArray) (hs : s.size < 1152921504606846976) (i : Nat) (hi : i < s.size) : ∀ (m k r : Nat) (env : Nat → AV) (h : AHeap) (n : Nat) (R : Option (Ex × St)), execF E0 (loopN Tryz.f119 0) ⟨env, h, n⟩ = R → k + m ≤ 5 → r < 64 ^ (6 - m) →
    env 0 = .v (.string s) → env 1 = .v (.int .i64 i) → env 8 = .v (.int .i64 ((k + m : Nat) : Int)) → env 9 = .v (.int .i64 r) → env 11 = .v (.int .i64 k) →
    ∃ x env', R = some (x, ⟨env', h, n⟩) ∧ match contR s (i + k) m r with
      | some r' => x = .exit 1 ∧ env' 8 = env 8 ∧ env' 10 = env 10 ∧ env' 9 = .v (.int .i64 r')
      | none => x = .ret ∧ env' 4 = .v (.int .i64 0) ∧ env' 5 = .v (.int .i64 0) ∧ env' 6 = .v (.bool false) := by
  intro m
  induction m with
  | zero =>
    intro k r env h n R hR hm hr h0 h1 h8 h9 h11
    have hkk : ¬ ((k : Int) < (k : Int)) := by omega
    simp only [loopN, Tryz.f119, loopsOf, List.append_nil, List.nil_append, List.getD_cons_zero, execF_loop, symS, symO, symC, symP, symB, if_true, if_false, Nat.reduceEqDiff, Nat.reduceBEq, Bool.false_eq_true, h0, h1, h8, h11, decide_eq_true_eq, hkk, decide_false, reduceCtorEq] at hR
    refine ⟨_, _, hR.symm, ?_⟩
    simp only [contR, fset_app, Nat.reduceEqDiff, if_false, h9]
    trivial
  | succ m ih =>
    intro k r env h n R hR hm hr h0 h1 h8 h9 h11
    have hkk : ((k : Int) < ((k + (m + 1) : Nat) : Int)) := by omega
    have hw : IntKind.i64.wrap ((i : Int) + k) = ((i + k : Nat) : Int) := by rw [wrap64 (by omega) (by omega)]; omega
    have hw1 : IntKind.i64.wrap ((k : Int) + 1) = ((k + 1 : Nat) : Int) := by rw [wrap64 (by omega) (by omega)]; omega
    have hn := next_run s (i + k)
    have hp5 := pow_small (m := m + 1) (by omega)
    have hw2 : IntKind.i64.wrap ((r : Int) * 64) = ((r * 64 : Nat) : Int) := by rw [wrap64 (by omega) (by omega)]; omega
    have hx : byteAt s (i + k) % 64 < 64 := Nat.mod_lt _ (by decide)
    have hb : bor .i64 ((r * 64 : Nat) : Int) ((byteAt s (i + k) % 64 : Nat) : Int) = ((r * 64 + byteAt s (i + k) % 64 : Nat) : Int) := bor_six (by omega) hx
    simp only [loopN, Tryz.f119, loopsOf, List.append_nil, List.nil_append, List.getD_cons_zero] at hR
    rw [execF_loop] at hR
    by_cases hc : cont s (i + k)
    · rw [if_pos hc] at hn
      simp only [symS, symO, symC, symP, symB, if_true, if_false, Nat.reduceEqDiff, Nat.reduceBEq, Nat.reduceAdd, Bool.false_eq_true, h0, h1, h8, h9, h11, decide_eq_true_eq, hkk, decide_true, reduceCtorEq, hw, hn, hc, hw2, hb, hw1] at hR
      have hr' : r * 64 + byteAt s (i + k) % 64 < 64 ^ (6 - m) := by
        have : 64 ^ (6 - m) = 64 ^ (6 - (m + 1)) * 64 := by rw [← Nat.pow_succ]; congr 1; omega
        omega
      obtain ⟨x, env', rfl, hp⟩ := ih (k + 1) (r * 64 + byteAt s (i + k) % 64) _ _ _ _ hR (by omega) hr' (by simp only [fset_app, Nat.reduceEqDiff, if_false, h0]) (by simp only [fset_app, Nat.reduceEqDiff, if_false, h1])
        (by simp only [fset_app, Nat.reduceEqDiff, if_false, h8]; congr 3; omega) (by simp only [fset_app, Nat.reduceEqDiff, if_false, if_true]) (by simp only [fset_app, if_true])
      refine ⟨x, env', rfl, ?_⟩
      simp only [contR, if_pos hc]
      rw [show i + (k + 1) = i + k + 1 by omega] at hp
      revert hp
      cases contR s (i + k + 1) m (r * 64 + byteAt s (i + k) % 64) with
      | none => exact id
      | some r' =>
        simp only [fset_app, Nat.reduceEqDiff, if_false]
        exact id
    · rw [if_neg hc] at hn
      simp only [symS, symO, symC, symP, symB, if_true, if_false, Nat.reduceEqDiff, Nat.reduceBEq, Nat.reduceAdd, Bool.false_eq_true, h0, h1, h8, h9, h11, decide_eq_true_eq, hkk, decide_true, reduceCtorEq, hw, hn, hc, decide_false] at hR
      refine ⟨_, _, hR.symm, ?_⟩
      simp only [contR, if_neg hc, fset_app, Nat.reduceEqDiff, if_false, if_true]
      trivial

set_option maxRecDepth 100000 in
theorem decU_run (s : ByteArray) (hs : s.size < 1152921504606846976) (i : Nat) (hi : i < 1152921504606846976) : callF E0 119 [.v (.string s), .v (.int .i64 i)] = some (decRC (dec s i)) := by
  rw [callF_fn bd_DecodeU ok_DecodeU]
  have hi0 : ¬ ((i : Int) < 0) := by omega
  have hi0' : (0 : Int) ≤ i := by omega
  have hb := byteAt_lt s i
  have hcv : IntKind.i64.wrap (byteAt s i : Int) = (byteAt s i : Int) := wrap64 (by omega) (by omega)
  by_cases hin : i < s.size
  · have h1 : ¬ ((s.size : Int) ≤ i) := by omega
    have h2 : (i : Int) < s.size := by omega
    by_cases h128 : byteAt s i < 128
    · have h3 : (byteAt s i : Int) < 128 := by omega
      simp only [Tryz.f119, symS, symO, symC, symP, symB, if_true, if_false, Nat.reduceEqDiff, Nat.reduceBEq, Bool.false_eq_true, Bool.true_eq_false, reduceCtorEq, hi0, hi0', h1, h2, h3, decide_true, decide_false, ix_str, cv_u8, Int.toNat_natCast, hcv]
      simp only [dec, if_pos hin, if_pos h128, decRC]
      rfl
    · have h3 : ¬ (byteAt s i : Int) < 128 := by omega
      obtain ⟨a1, a2, a3, a4, _⟩ := and_all _ hb
      have e31 : band .i64 (byteAt s i : Int) 31 = ((byteAt s i &&& 31 : Nat) : Int) := band_byte hb (m := 31) (by decide)
      have e15 : band .i64 (byteAt s i : Int) 15 = ((byteAt s i &&& 15 : Nat) : Int) := band_byte hb (m := 15) (by decide)
      have e7 : band .i64 (byteAt s i : Int) 7 = ((byteAt s i &&& 7 : Nat) : Int) := band_byte hb (m := 7) (by decide)
      by_cases hA : 192 ≤ byteAt s i ∧ byteAt s i < 224
      · have g1 : (192 : Int) ≤ byteAt s i := by omega
        have g2 : (byteAt s i : Int) < 224 := by omega
        have hlead : lead (byteAt s i) = some (1, byteAt s i - 192, 128) := by unfold lead; rw [if_pos hA]
        simp only [Tryz.f119, symS, symO, symC, symP, symB, if_true, if_false, Nat.reduceEqDiff, Nat.reduceBEq, Bool.false_eq_true, Bool.true_eq_false, reduceCtorEq, hi0, hi0', h1, h2, h3, decide_true, decide_false, ix_str, cv_u8, Int.toNat_natCast, hcv, g1, g2, e31, a2 hA.1 hA.2]
        generalize hR : execF E0 (Code.loop _) _ = R
        obtain ⟨x, env', rfl, hp⟩ := decU_loop s hs i hin 1 1 (byteAt s i - 192) _ _ _ _ hR (by decide) (by simp; omega) rfl rfl rfl rfl rfl
        simp only [dec, if_pos hin, if_neg h128, hlead]
        revert hp
        cases contR s (i + 1) 1 (byteAt s i - 192) with
        | none =>
          rintro ⟨rfl, g4, g5, g6⟩
          simp only [symS, symO, symC, symP, symB, if_true, if_false, Nat.reduceEqDiff, Nat.reduceBEq, Bool.false_eq_true, Bool.true_eq_false, reduceCtorEq, decide_true, decide_false, g4, g5, g6]
          rfl
        | some r =>
          rintro ⟨rfl, g8, g10, g9⟩
          simp only [fset_app, Nat.reduceEqDiff, if_true, if_false] at g8 g10
          have hpt := point_run r
          by_cases hl : r < 128
          · have hl' : (r : Int) < 128 := by omega
            simp only [symS, symO, symC, symP, symB, if_true, if_false, Nat.reduceEqDiff, Nat.reduceBEq, Bool.false_eq_true, Bool.true_eq_false, reduceCtorEq, decide_true, decide_false, g8, g9, g10, hl', hpt, hl, true_or]
            rfl
          · have hl' : ¬ (r : Int) < 128 := by omega
            by_cases hpo : isPoint r
            · simp only [symS, symO, symC, symP, symB, if_true, if_false, Nat.reduceEqDiff, Nat.reduceBEq, Bool.false_eq_true, Bool.true_eq_false, reduceCtorEq, decide_true, decide_false, g8, g9, g10, hl', hpt, hl, hpo, not_true, or_false]
              rfl
            · simp only [symS, symO, symC, symP, symB, if_true, if_false, Nat.reduceEqDiff, Nat.reduceBEq, Bool.false_eq_true, Bool.true_eq_false, reduceCtorEq, decide_true, decide_false, g8, g9, g10, hl', hpt, hl, hpo, not_false_eq_true, or_true]
              rfl
      · by_cases hB : 224 ≤ byteAt s i ∧ byteAt s i < 240
        · have g1 : (192 : Int) ≤ byteAt s i := by omega
          have g2 : ¬ (byteAt s i : Int) < 224 := by omega
          have g3 : (224 : Int) ≤ byteAt s i := by omega
          have g4 : (byteAt s i : Int) < 240 := by omega
          have hlead : lead (byteAt s i) = some (2, byteAt s i - 224, 2048) := by unfold lead; rw [if_neg hA, if_pos hB]
          simp only [Tryz.f119, symS, symO, symC, symP, symB, if_true, if_false, Nat.reduceEqDiff, Nat.reduceBEq, Bool.false_eq_true, Bool.true_eq_false, reduceCtorEq, hi0, hi0', h1, h2, h3, decide_true, decide_false, ix_str, cv_u8, Int.toNat_natCast, hcv, g1, g2, g3, g4, e15, a3 hB.1 hB.2]
          generalize hR : execF E0 (Code.loop _) _ = R
          obtain ⟨x, env', rfl, hp⟩ := decU_loop s hs i hin 2 1 (byteAt s i - 224) _ _ _ _ hR (by decide) (by simp; omega) rfl rfl rfl rfl rfl
          simp only [dec, if_pos hin, if_neg h128, hlead]
          revert hp
          cases contR s (i + 1) 2 (byteAt s i - 224) with
          | none =>
            rintro ⟨rfl, g4, g5, g6⟩
            simp only [symS, symO, symC, symP, symB, if_true, if_false, Nat.reduceEqDiff, Nat.reduceBEq, Bool.false_eq_true, Bool.true_eq_false, reduceCtorEq, decide_true, decide_false, g4, g5, g6]
            rfl
          | some r =>
            rintro ⟨rfl, g8, g10, g9⟩
            simp only [fset_app, Nat.reduceEqDiff, if_true, if_false] at g8 g10
            have hpt := point_run r
            by_cases hl : r < 2048
            · have hl' : (r : Int) < 2048 := by omega
              simp only [symS, symO, symC, symP, symB, if_true, if_false, Nat.reduceEqDiff, Nat.reduceBEq, Bool.false_eq_true, Bool.true_eq_false, reduceCtorEq, decide_true, decide_false, g8, g9, g10, hl', hpt, hl, true_or]
              rfl
            · have hl' : ¬ (r : Int) < 2048 := by omega
              by_cases hpo : isPoint r
              · simp only [symS, symO, symC, symP, symB, if_true, if_false, Nat.reduceEqDiff, Nat.reduceBEq, Bool.false_eq_true, Bool.true_eq_false, reduceCtorEq, decide_true, decide_false, g8, g9, g10, hl', hpt, hl, hpo, not_true, or_false]
                rfl
              · simp only [symS, symO, symC, symP, symB, if_true, if_false, Nat.reduceEqDiff, Nat.reduceBEq, Bool.false_eq_true, Bool.true_eq_false, reduceCtorEq, decide_true, decide_false, g8, g9, g10, hl', hpt, hl, hpo, not_false_eq_true, or_true]
                rfl
        · by_cases hC : 240 ≤ byteAt s i ∧ byteAt s i < 248
          · have g1 : (192 : Int) ≤ byteAt s i := by omega
            have g2 : ¬ (byteAt s i : Int) < 224 := by omega
            have g3 : (224 : Int) ≤ byteAt s i := by omega
            have g4 : ¬ (byteAt s i : Int) < 240 := by omega
            have g5 : (240 : Int) ≤ byteAt s i := by omega
            have g6 : (byteAt s i : Int) < 248 := by omega
            have hlead : lead (byteAt s i) = some (3, byteAt s i - 240, 65536) := by unfold lead; rw [if_neg hA, if_neg hB, if_pos hC]
            simp only [Tryz.f119, symS, symO, symC, symP, symB, if_true, if_false, Nat.reduceEqDiff, Nat.reduceBEq, Bool.false_eq_true, Bool.true_eq_false, reduceCtorEq, hi0, hi0', h1, h2, h3, decide_true, decide_false, ix_str, cv_u8, Int.toNat_natCast, hcv, g1, g2, g3, g4, g5, g6, e7, a4 hC.1 hC.2]
            generalize hR : execF E0 (Code.loop _) _ = R
            obtain ⟨x, env', rfl, hp⟩ := decU_loop s hs i hin 3 1 (byteAt s i - 240) _ _ _ _ hR (by decide) (by simp; omega) rfl rfl rfl rfl rfl
            simp only [dec, if_pos hin, if_neg h128, hlead]
            revert hp
            cases contR s (i + 1) 3 (byteAt s i - 240) with
            | none =>
              rintro ⟨rfl, g4, g5, g6⟩
              simp only [symS, symO, symC, symP, symB, if_true, if_false, Nat.reduceEqDiff, Nat.reduceBEq, Bool.false_eq_true, Bool.true_eq_false, reduceCtorEq, decide_true, decide_false, g4, g5, g6]
              rfl
            | some r =>
              rintro ⟨rfl, g8, g10, g9⟩
              simp only [fset_app, Nat.reduceEqDiff, if_true, if_false] at g8 g10
              have hpt := point_run r
              by_cases hl : r < 65536
              · have hl' : (r : Int) < 65536 := by omega
                simp only [symS, symO, symC, symP, symB, if_true, if_false, Nat.reduceEqDiff, Nat.reduceBEq, Bool.false_eq_true, Bool.true_eq_false, reduceCtorEq, decide_true, decide_false, g8, g9, g10, hl', hpt, hl, true_or]
                rfl
              · have hl' : ¬ (r : Int) < 65536 := by omega
                by_cases hpo : isPoint r
                · simp only [symS, symO, symC, symP, symB, if_true, if_false, Nat.reduceEqDiff, Nat.reduceBEq, Bool.false_eq_true, Bool.true_eq_false, reduceCtorEq, decide_true, decide_false, g8, g9, g10, hl', hpt, hl, hpo, not_true, or_false]
                  rfl
                · simp only [symS, symO, symC, symP, symB, if_true, if_false, Nat.reduceEqDiff, Nat.reduceBEq, Bool.false_eq_true, Bool.true_eq_false, reduceCtorEq, decide_true, decide_false, g8, g9, g10, hl', hpt, hl, hpo, not_false_eq_true, or_true]
                  rfl
          · have hlead : lead (byteAt s i) = none := by unfold lead; rw [if_neg hA, if_neg hB, if_neg hC]
            have g2 : ¬ (byteAt s i : Int) < 224 ∨ ¬ (192 : Int) ≤ byteAt s i := by omega
            have g4 : ¬ (byteAt s i : Int) < 240 ∨ ¬ (224 : Int) ≤ byteAt s i := by omega
            simp only [dec, if_pos hin, if_neg h128, hlead, decRC]
            by_cases q1 : (192 : Int) ≤ byteAt s i
            · have q2 : ¬ (byteAt s i : Int) < 224 := by omega
              have q3 : (224 : Int) ≤ byteAt s i := by omega
              have q4 : ¬ (byteAt s i : Int) < 240 := by omega
              have q5 : (240 : Int) ≤ byteAt s i := by omega
              have q6 : ¬ (byteAt s i : Int) < 248 := by omega
              simp only [Tryz.f119, symS, symO, symC, symP, symB, if_true, if_false, Nat.reduceEqDiff, Nat.reduceBEq, Bool.false_eq_true, Bool.true_eq_false, reduceCtorEq, hi0, hi0', h1, h2, h3, decide_true, decide_false, ix_str, cv_u8, Int.toNat_natCast, hcv, q1, q2, q3, q4, q5, q6]
            · have q3 : ¬ (224 : Int) ≤ byteAt s i := by omega
              have q5 : ¬ (240 : Int) ≤ byteAt s i := by omega
              simp only [Tryz.f119, symS, symO, symC, symP, symB, if_true, if_false, Nat.reduceEqDiff, Nat.reduceBEq, Bool.false_eq_true, Bool.true_eq_false, reduceCtorEq, hi0, hi0', h1, h2, h3, decide_true, decide_false, ix_str, cv_u8, Int.toNat_natCast, hcv, q1, q3, q5]
  · have h1 : ((s.size : Int) ≤ i) := by omega
    simp only [Tryz.f119, symS, symO, symC, symP, symB, if_true, if_false, Nat.reduceEqDiff, Nat.reduceBEq, Bool.false_eq_true, Bool.true_eq_false, reduceCtorEq, hi0, h1, decide_true, decide_false, dec, if_neg hin, decRC]

/-- The number of bytes of an encoding, and 0 if there is none. -/
def sizeN (r : Int) : Int := if r < 0 ∨ 1114111 < r ∨ (55296 ≤ r ∧ r < 57344) then 0 else if r < 128 then 1 else if r < 2048 then 2 else if r < 65536 then 3 else 4

set_option maxRecDepth 100000 in
theorem size_run (r : Int) : callF E0 145 [.v (.int .i64 r)] = some [.p (.v (.int .i64 (sizeN r)))] := by
  rw [callF_fn bd_size ok_size]
  by_cases h1 : r < 0
  · have hz : sizeN r = 0 := by unfold sizeN; rw [if_pos (.inl h1)]
    simp only [Tryz.f145, symS, symO, symC, symP, symB, if_true, if_false, Nat.reduceEqDiff, Nat.reduceBEq, Bool.false_eq_true, Bool.true_eq_false, reduceCtorEq, decide_true, decide_false, h1, hz]
  by_cases h2 : 1114111 < r
  · have hz : sizeN r = 0 := by unfold sizeN; rw [if_pos (.inr (.inl h2))]
    simp only [Tryz.f145, symS, symO, symC, symP, symB, if_true, if_false, Nat.reduceEqDiff, Nat.reduceBEq, Bool.false_eq_true, Bool.true_eq_false, reduceCtorEq, decide_true, decide_false, h1, h2, hz]
  by_cases h3 : 55296 ≤ r
  · by_cases h4 : r < 57344
    · have hz : sizeN r = 0 := by unfold sizeN; rw [if_pos (.inr (.inr ⟨h3, h4⟩))]
      simp only [Tryz.f145, symS, symO, symC, symP, symB, if_true, if_false, Nat.reduceEqDiff, Nat.reduceBEq, Bool.false_eq_true, Bool.true_eq_false, reduceCtorEq, decide_true, decide_false, h1, h2, h3, h4, hz]
    · have g1 : ¬ r < 128 := by omega
      have g2 : ¬ r < 2048 := by omega
      by_cases g3 : r < 65536
      · have hz : sizeN r = 3 := by unfold sizeN; rw [if_neg (by omega), if_neg g1, if_neg g2, if_pos g3]
        simp only [Tryz.f145, symS, symO, symC, symP, symB, if_true, if_false, Nat.reduceEqDiff, Nat.reduceBEq, Bool.false_eq_true, Bool.true_eq_false, reduceCtorEq, decide_true, decide_false, h1, h2, h3, h4, g1, g2, g3, hz]
      · have hz : sizeN r = 4 := by unfold sizeN; rw [if_neg (by omega), if_neg g1, if_neg g2, if_neg g3]
        simp only [Tryz.f145, symS, symO, symC, symP, symB, if_true, if_false, Nat.reduceEqDiff, Nat.reduceBEq, Bool.false_eq_true, Bool.true_eq_false, reduceCtorEq, decide_true, decide_false, h1, h2, h3, h4, g1, g2, g3, hz]
  by_cases g1 : r < 128
  · have hz : sizeN r = 1 := by unfold sizeN; rw [if_neg (by omega), if_pos g1]
    simp only [Tryz.f145, symS, symO, symC, symP, symB, if_true, if_false, Nat.reduceEqDiff, Nat.reduceBEq, Bool.false_eq_true, Bool.true_eq_false, reduceCtorEq, decide_true, decide_false, h1, h2, h3, g1, hz]
  by_cases g2 : r < 2048
  · have hz : sizeN r = 2 := by unfold sizeN; rw [if_neg (by omega), if_neg g1, if_pos g2]
    simp only [Tryz.f145, symS, symO, symC, symP, symB, if_true, if_false, Nat.reduceEqDiff, Nat.reduceBEq, Bool.false_eq_true, Bool.true_eq_false, reduceCtorEq, decide_true, decide_false, h1, h2, h3, g1, g2, hz]
  · have g3 : r < 65536 := by omega
    have hz : sizeN r = 3 := by unfold sizeN; rw [if_neg (by omega), if_neg g1, if_neg g2, if_pos g3]
    simp only [Tryz.f145, symS, symO, symC, symP, symB, if_true, if_false, Nat.reduceEqDiff, Nat.reduceBEq, Bool.false_eq_true, Bool.true_eq_false, reduceCtorEq, decide_true, decide_false, h1, h2, h3, g1, g2, g3, hz]

set_option maxRecDepth 100000 in
theorem decR_loop (s : ByteArray) (hs : s.size < 1152921504606846976) (i : Nat) (hi : i < s.size) : ∀ (m k r : Nat) (env : Nat → AV) (h : AHeap) (n : Nat) (R : Option (Ex × St)), execF E0 (loopN Tryz.f120 0) ⟨env, h, n⟩ = R → k + m ≤ 5 → i + k + m ≤ s.size → r < 64 ^ (6 - m) →
    env 0 = .v (.string s) → env 1 = .v (.int .i64 i) → env 8 = .v (.int .i64 ((k + m : Nat) : Int)) → env 9 = .v (.int .i64 r) → env 10 = .v (.int .i64 k) →
    ∃ x env', R = some (x, ⟨env', h, n⟩) ∧ match contR s (i + k) m r with
      | some r' => x = .exit 1 ∧ env' 8 = env 8 ∧ env' 9 = .v (.int .i64 r')
      | none => x = .ret ∧ env' 4 = .v (.int .i64 0) ∧ env' 5 = .v (.int .i64 0) ∧ env' 6 = .v (.bool false) := by
  intro m
  induction m with
  | zero =>
    intro k r env h n R hR hm hsz hr h0 h1 h8 h9 h10
    have hkk : ¬ ((k : Int) < (k : Int)) := by omega
    simp only [loopN, Tryz.f120, loopsOf, List.append_nil, List.nil_append, List.getD_cons_zero, execF_loop, symS, symO, symC, symP, symB, if_true, if_false, Nat.reduceEqDiff, Nat.reduceBEq, Bool.false_eq_true, Bool.true_eq_false, reduceCtorEq, decide_true, decide_false, h0, h1, h8, h10, decide_eq_true_eq, hkk] at hR
    refine ⟨_, _, hR.symm, ?_⟩
    simp only [contR, fset_app, Nat.reduceEqDiff, if_false, h9]
    trivial
  | succ m ih =>
    intro k r env h n R hR hm hsz hr h0 h1 h8 h9 h10
    have hkk : ((k : Int) < ((k + (m + 1) : Nat) : Int)) := by omega
    have hw : IntKind.i64.wrap ((i : Int) + k) = ((i + k : Nat) : Int) := by rw [wrap64 (by omega) (by omega)]; omega
    have hw1 : IntKind.i64.wrap ((k : Int) + 1) = ((k + 1 : Nat) : Int) := by rw [wrap64 (by omega) (by omega)]; omega
    have hp5 := pow_small (m := m + 1) (by omega)
    have hw2 : IntKind.i64.wrap ((r : Int) * 64) = ((r * 64 : Nat) : Int) := by rw [wrap64 (by omega) (by omega)]; omega
    have hx : byteAt s (i + k) % 64 < 64 := Nat.mod_lt _ (by decide)
    have hb : bor .i64 ((r * 64 : Nat) : Int) ((byteAt s (i + k) % 64 : Nat) : Int) = ((r * 64 + byteAt s (i + k) % 64 : Nat) : Int) := bor_six (by omega) hx
    have hby := byteAt_lt s (i + k)
    obtain ⟨a1, _, _, _, _⟩ := and_all _ hby
    have e63 : band .i64 (byteAt s (i + k) : Int) 63 = ((byteAt s (i + k) % 64 : Nat) : Int) := by rw [← a1]; exact band_byte hby (m := 63) (by decide)
    have hcv : IntKind.i64.wrap (byteAt s (i + k) : Int) = (byteAt s (i + k) : Int) := wrap64 (by omega) (by omega)
    have hi0 : (0 : Int) ≤ ((i + k : Nat) : Int) := by omega
    have hi1 : ((i + k : Nat) : Int) < s.size := by omega
    simp only [loopN, Tryz.f120, loopsOf, List.append_nil, List.nil_append, List.getD_cons_zero] at hR
    rw [execF_loop] at hR
    by_cases hc1 : (byteAt s (i + k) : Int) < 128
    · have hc : ¬ cont s (i + k) := fun h => by have := h.2.1; omega
      simp only [symS, symO, symC, symP, symB, if_true, if_false, Nat.reduceEqDiff, Nat.reduceBEq, Bool.false_eq_true, Bool.true_eq_false, reduceCtorEq, decide_true, decide_false, h0, h1, h8, h9, h10, decide_eq_true_eq, hkk, hw, ix_str, cv_u8, hi0, hi1, Int.toNat_natCast, hcv, hc1] at hR
      refine ⟨_, _, hR.symm, ?_⟩
      simp only [contR, if_neg hc, fset_app, Nat.reduceEqDiff, if_false, if_true]
      trivial
    · by_cases hc2 : (192 : Int) ≤ byteAt s (i + k)
      · have hc : ¬ cont s (i + k) := fun h => by have := h.2.2; omega
        simp only [symS, symO, symC, symP, symB, if_true, if_false, Nat.reduceEqDiff, Nat.reduceBEq, Bool.false_eq_true, Bool.true_eq_false, reduceCtorEq, decide_true, decide_false, h0, h1, h8, h9, h10, decide_eq_true_eq, hkk, hw, ix_str, cv_u8, hi0, hi1, Int.toNat_natCast, hcv, hc1, hc2] at hR
        refine ⟨_, _, hR.symm, ?_⟩
        simp only [contR, if_neg hc, fset_app, Nat.reduceEqDiff, if_false, if_true]
        trivial
      · have hc : cont s (i + k) := ⟨by omega, by omega, by omega⟩
        simp only [symS, symO, symC, symP, symB, if_true, if_false, Nat.reduceEqDiff, Nat.reduceBEq, Bool.false_eq_true, Bool.true_eq_false, reduceCtorEq, decide_true, decide_false, h0, h1, h8, h9, h10, decide_eq_true_eq, hkk, hw, ix_str, cv_u8, hi0, hi1, Int.toNat_natCast, hcv, hc1, hc2, e63, hw2, hb, hw1] at hR
        have hr' : r * 64 + byteAt s (i + k) % 64 < 64 ^ (6 - m) := by
          have : 64 ^ (6 - m) = 64 ^ (6 - (m + 1)) * 64 := by rw [← Nat.pow_succ]; congr 1; omega
          omega
        obtain ⟨x, env', rfl, hp⟩ := ih (k + 1) (r * 64 + byteAt s (i + k) % 64) _ _ _ _ hR (by omega) (by omega) hr' (by simp only [fset_app, Nat.reduceEqDiff, if_false, h0]) (by simp only [fset_app, Nat.reduceEqDiff, if_false, h1])
          (by simp only [fset_app, Nat.reduceEqDiff, if_false, h8]; congr 3; omega) (by simp only [fset_app, Nat.reduceEqDiff, if_false, if_true]) (by simp only [fset_app, if_true])
        refine ⟨x, env', rfl, ?_⟩
        simp only [contR, if_pos hc]
        rw [show i + (k + 1) = i + k + 1 by omega] at hp
        revert hp
        cases contR s (i + k + 1) m (r * 64 + byteAt s (i + k) % 64) with
        | none => exact id
        | some r' =>
          simp only [fset_app, Nat.reduceEqDiff, if_false]
          exact id

set_option maxRecDepth 100000 in
theorem decR_run (s : ByteArray) (hs : s.size < 1152921504606846976) (i : Nat) (hi : i < 1152921504606846976) : callF E0 120 [.v (.string s), .v (.int .i64 i)] = some (decRC (dec s i)) := by
  rw [callF_fn bd_DecodeR ok_DecodeR]
  have hi0 : ¬ ((i : Int) < 0) := by omega
  have hi0' : (0 : Int) ≤ i := by omega
  have hb := byteAt_lt s i
  have hcv : IntKind.i64.wrap (byteAt s i : Int) = (byteAt s i : Int) := wrap64 (by omega) (by omega)
  have hwl : IntKind.i64.wrap ((s.size : Int) - i) = (s.size : Int) - i := wrap64 (by omega) (by omega)
  by_cases hin : i < s.size
  · have h1 : ¬ ((s.size : Int) ≤ i) := by omega
    have h2 : (i : Int) < s.size := by omega
    by_cases h128 : byteAt s i < 128
    · have h3 : (byteAt s i : Int) < 128 := by omega
      simp only [Tryz.f120, symS, symO, symC, symP, symB, if_true, if_false, Nat.reduceEqDiff, Nat.reduceBEq, Bool.false_eq_true, Bool.true_eq_false, reduceCtorEq, decide_true, decide_false, hi0, hi0', h1, h2, h3, ix_str, cv_u8, Int.toNat_natCast, hcv, hwl]
      simp only [dec, if_pos hin, if_pos h128, decRC]
      rfl
    · have h3 : ¬ (byteAt s i : Int) < 128 := by omega
      obtain ⟨a1, a2, a3, a4, _⟩ := and_all _ hb
      have e31 : band .i64 (byteAt s i : Int) 31 = ((byteAt s i &&& 31 : Nat) : Int) := band_byte hb (m := 31) (by decide)
      have e15 : band .i64 (byteAt s i : Int) 15 = ((byteAt s i &&& 15 : Nat) : Int) := band_byte hb (m := 15) (by decide)
      have e7 : band .i64 (byteAt s i : Int) 7 = ((byteAt s i &&& 7 : Nat) : Int) := band_byte hb (m := 7) (by decide)
      by_cases hA : 192 ≤ byteAt s i ∧ byteAt s i < 224
      · have g1 : (192 : Int) ≤ byteAt s i := by omega
        have g2 : (byteAt s i : Int) < 224 := by omega
        have hlead : lead (byteAt s i) = some (1, byteAt s i - 192, 128) := by unfold lead; rw [if_pos hA]
        simp only [dec, if_pos hin, if_neg h128, hlead]
        have hbd := contR_bound s 1 (i + 1) (byteAt s i - 192)
        by_cases hlen : (s.size : Int) - i < 2
        · have hno : contR s (i + 1) 1 (byteAt s i - 192) = none := by
            cases hcr : contR s (i + 1) 1 (byteAt s i - 192) with
            | none => rfl
            | some r' => have := (hbd r' hcr).2.2 (by decide); omega
          simp only [Tryz.f120, symS, symO, symC, symP, symB, if_true, if_false, Nat.reduceEqDiff, Nat.reduceBEq, Bool.false_eq_true, Bool.true_eq_false, reduceCtorEq, decide_true, decide_false, hi0, hi0', h1, h2, h3, ix_str, cv_u8, Int.toNat_natCast, hcv, hwl, g1, g2, e31, a2 hA.1 hA.2, hlen, hno]
          rfl
        · simp only [Tryz.f120, symS, symO, symC, symP, symB, if_true, if_false, Nat.reduceEqDiff, Nat.reduceBEq, Bool.false_eq_true, Bool.true_eq_false, reduceCtorEq, decide_true, decide_false, hi0, hi0', h1, h2, h3, ix_str, cv_u8, Int.toNat_natCast, hcv, hwl, g1, g2, e31, a2 hA.1 hA.2, hlen]
          generalize hR : execF E0 (Code.loop _) _ = R
          obtain ⟨x, env', rfl, hp⟩ := decR_loop s hs i hin 1 1 (byteAt s i - 192) _ _ _ _ hR (by decide) (by omega) (by simp; omega) rfl rfl rfl rfl rfl
          revert hp
          revert hbd
          cases contR s (i + 1) 1 (byteAt s i - 192) with
          | none =>
            rintro _ ⟨rfl, g4, g5, g6⟩
            simp only [symS, symO, symC, symP, symB, if_true, if_false, Nat.reduceEqDiff, Nat.reduceBEq, Bool.false_eq_true, Bool.true_eq_false, reduceCtorEq, decide_true, decide_false, g4, g5, g6]
            rfl
          | some r =>
            rintro hbd ⟨rfl, g8, g9⟩
            obtain ⟨hb1, hb2, _⟩ := hbd r rfl
            simp only [fset_app, Nat.reduceEqDiff, if_true, if_false] at g8
            have hsz := size_run r
            by_cases hbad : r < 128 ∨ ¬ isPoint r
            · have hz : (sizeN r != 2) = true := by
                rw [bne_iff_ne]
                intro h
                unfold sizeN at h
                unfold isPoint at hbad
                split at h
                · omega
                · split at h
                  · omega
                  · split at h
                    · omega
                    · split at h <;> omega
              simp only [symS, symO, symC, symP, symB, if_true, if_false, Nat.reduceEqDiff, Nat.reduceBEq, Bool.false_eq_true, Bool.true_eq_false, reduceCtorEq, decide_true, decide_false, g8, g9, hsz, hz, hbad]
              rfl
            · have hz : (sizeN r != 2) = false := by
                rw [bne_eq_false_iff_eq]
                unfold isPoint at hbad
                unfold sizeN
                split
                · omega
                · split
                  · omega
                  · split
                    · omega
                    · split <;> omega
              simp only [symS, symO, symC, symP, symB, if_true, if_false, Nat.reduceEqDiff, Nat.reduceBEq, Bool.false_eq_true, Bool.true_eq_false, reduceCtorEq, decide_true, decide_false, g8, g9, hsz, hz, hbad]
              rfl
      · by_cases hB : 224 ≤ byteAt s i ∧ byteAt s i < 240
        · have g1 : (192 : Int) ≤ byteAt s i := by omega
          have g2 : ¬ (byteAt s i : Int) < 224 := by omega
          have g3 : (224 : Int) ≤ byteAt s i := by omega
          have g4 : (byteAt s i : Int) < 240 := by omega
          have hlead : lead (byteAt s i) = some (2, byteAt s i - 224, 2048) := by unfold lead; rw [if_neg hA, if_pos hB]
          simp only [dec, if_pos hin, if_neg h128, hlead]
          have hbd := contR_bound s 2 (i + 1) (byteAt s i - 224)
          by_cases hlen : (s.size : Int) - i < 3
          · have hno : contR s (i + 1) 2 (byteAt s i - 224) = none := by
              cases hcr : contR s (i + 1) 2 (byteAt s i - 224) with
              | none => rfl
              | some r' => have := (hbd r' hcr).2.2 (by decide); omega
            simp only [Tryz.f120, symS, symO, symC, symP, symB, if_true, if_false, Nat.reduceEqDiff, Nat.reduceBEq, Bool.false_eq_true, Bool.true_eq_false, reduceCtorEq, decide_true, decide_false, hi0, hi0', h1, h2, h3, ix_str, cv_u8, Int.toNat_natCast, hcv, hwl, g1, g2, g3, g4, e15, a3 hB.1 hB.2, hlen, hno]
            rfl
          · simp only [Tryz.f120, symS, symO, symC, symP, symB, if_true, if_false, Nat.reduceEqDiff, Nat.reduceBEq, Bool.false_eq_true, Bool.true_eq_false, reduceCtorEq, decide_true, decide_false, hi0, hi0', h1, h2, h3, ix_str, cv_u8, Int.toNat_natCast, hcv, hwl, g1, g2, g3, g4, e15, a3 hB.1 hB.2, hlen]
            generalize hR : execF E0 (Code.loop _) _ = R
            obtain ⟨x, env', rfl, hp⟩ := decR_loop s hs i hin 2 1 (byteAt s i - 224) _ _ _ _ hR (by decide) (by omega) (by simp; omega) rfl rfl rfl rfl rfl
            revert hp
            revert hbd
            cases contR s (i + 1) 2 (byteAt s i - 224) with
            | none =>
              rintro _ ⟨rfl, g4, g5, g6⟩
              simp only [symS, symO, symC, symP, symB, if_true, if_false, Nat.reduceEqDiff, Nat.reduceBEq, Bool.false_eq_true, Bool.true_eq_false, reduceCtorEq, decide_true, decide_false, g4, g5, g6]
              rfl
            | some r =>
              rintro hbd ⟨rfl, g8, g9⟩
              obtain ⟨hb1, hb2, _⟩ := hbd r rfl
              simp only [fset_app, Nat.reduceEqDiff, if_true, if_false] at g8
              have hsz := size_run r
              by_cases hbad : r < 2048 ∨ ¬ isPoint r
              · have hz : (sizeN r != 3) = true := by
                  rw [bne_iff_ne]
                  intro h
                  unfold sizeN at h
                  unfold isPoint at hbad
                  split at h
                  · omega
                  · split at h
                    · omega
                    · split at h
                      · omega
                      · split at h <;> omega
                simp only [symS, symO, symC, symP, symB, if_true, if_false, Nat.reduceEqDiff, Nat.reduceBEq, Bool.false_eq_true, Bool.true_eq_false, reduceCtorEq, decide_true, decide_false, g8, g9, hsz, hz, hbad]
                rfl
              · have hz : (sizeN r != 3) = false := by
                  rw [bne_eq_false_iff_eq]
                  unfold isPoint at hbad
                  unfold sizeN
                  split
                  · omega
                  · split
                    · omega
                    · split
                      · omega
                      · split <;> omega
                simp only [symS, symO, symC, symP, symB, if_true, if_false, Nat.reduceEqDiff, Nat.reduceBEq, Bool.false_eq_true, Bool.true_eq_false, reduceCtorEq, decide_true, decide_false, g8, g9, hsz, hz, hbad]
                rfl
        · by_cases hC : 240 ≤ byteAt s i ∧ byteAt s i < 248
          · have g1 : (192 : Int) ≤ byteAt s i := by omega
            have g2 : ¬ (byteAt s i : Int) < 224 := by omega
            have g3 : (224 : Int) ≤ byteAt s i := by omega
            have g4 : ¬ (byteAt s i : Int) < 240 := by omega
            have g5 : (240 : Int) ≤ byteAt s i := by omega
            have g6 : (byteAt s i : Int) < 248 := by omega
            have hlead : lead (byteAt s i) = some (3, byteAt s i - 240, 65536) := by unfold lead; rw [if_neg hA, if_neg hB, if_pos hC]
            simp only [dec, if_pos hin, if_neg h128, hlead]
            have hbd := contR_bound s 3 (i + 1) (byteAt s i - 240)
            by_cases hlen : (s.size : Int) - i < 4
            · have hno : contR s (i + 1) 3 (byteAt s i - 240) = none := by
                cases hcr : contR s (i + 1) 3 (byteAt s i - 240) with
                | none => rfl
                | some r' => have := (hbd r' hcr).2.2 (by decide); omega
              simp only [Tryz.f120, symS, symO, symC, symP, symB, if_true, if_false, Nat.reduceEqDiff, Nat.reduceBEq, Bool.false_eq_true, Bool.true_eq_false, reduceCtorEq, decide_true, decide_false, hi0, hi0', h1, h2, h3, ix_str, cv_u8, Int.toNat_natCast, hcv, hwl, g1, g2, g3, g4, g5, g6, e7, a4 hC.1 hC.2, hlen, hno]
              rfl
            · simp only [Tryz.f120, symS, symO, symC, symP, symB, if_true, if_false, Nat.reduceEqDiff, Nat.reduceBEq, Bool.false_eq_true, Bool.true_eq_false, reduceCtorEq, decide_true, decide_false, hi0, hi0', h1, h2, h3, ix_str, cv_u8, Int.toNat_natCast, hcv, hwl, g1, g2, g3, g4, g5, g6, e7, a4 hC.1 hC.2, hlen]
              generalize hR : execF E0 (Code.loop _) _ = R
              obtain ⟨x, env', rfl, hp⟩ := decR_loop s hs i hin 3 1 (byteAt s i - 240) _ _ _ _ hR (by decide) (by omega) (by simp; omega) rfl rfl rfl rfl rfl
              revert hp
              revert hbd
              cases contR s (i + 1) 3 (byteAt s i - 240) with
              | none =>
                rintro _ ⟨rfl, g4, g5, g6⟩
                simp only [symS, symO, symC, symP, symB, if_true, if_false, Nat.reduceEqDiff, Nat.reduceBEq, Bool.false_eq_true, Bool.true_eq_false, reduceCtorEq, decide_true, decide_false, g4, g5, g6]
                rfl
              | some r =>
                rintro hbd ⟨rfl, g8, g9⟩
                obtain ⟨hb1, hb2, _⟩ := hbd r rfl
                simp only [fset_app, Nat.reduceEqDiff, if_true, if_false] at g8
                have hsz := size_run r
                by_cases hbad : r < 65536 ∨ ¬ isPoint r
                · have hz : (sizeN r != 4) = true := by
                    rw [bne_iff_ne]
                    intro h
                    unfold sizeN at h
                    unfold isPoint at hbad
                    split at h
                    · omega
                    · split at h
                      · omega
                      · split at h
                        · omega
                        · split at h <;> omega
                  simp only [symS, symO, symC, symP, symB, if_true, if_false, Nat.reduceEqDiff, Nat.reduceBEq, Bool.false_eq_true, Bool.true_eq_false, reduceCtorEq, decide_true, decide_false, g8, g9, hsz, hz, hbad]
                  rfl
                · have hz : (sizeN r != 4) = false := by
                    rw [bne_eq_false_iff_eq]
                    unfold isPoint at hbad
                    unfold sizeN
                    split
                    · omega
                    · split
                      · omega
                      · split
                        · omega
                        · split <;> omega
                  simp only [symS, symO, symC, symP, symB, if_true, if_false, Nat.reduceEqDiff, Nat.reduceBEq, Bool.false_eq_true, Bool.true_eq_false, reduceCtorEq, decide_true, decide_false, g8, g9, hsz, hz, hbad]
                  rfl
          · have hlead : lead (byteAt s i) = none := by unfold lead; rw [if_neg hA, if_neg hB, if_neg hC]
            simp only [dec, if_pos hin, if_neg h128, hlead, decRC]
            by_cases q1 : (192 : Int) ≤ byteAt s i
            · have q2 : ¬ (byteAt s i : Int) < 224 := by omega
              have q3 : (224 : Int) ≤ byteAt s i := by omega
              have q4 : ¬ (byteAt s i : Int) < 240 := by omega
              have q5 : (240 : Int) ≤ byteAt s i := by omega
              have q6 : ¬ (byteAt s i : Int) < 248 := by omega
              simp only [Tryz.f120, symS, symO, symC, symP, symB, if_true, if_false, Nat.reduceEqDiff, Nat.reduceBEq, Bool.false_eq_true, Bool.true_eq_false, reduceCtorEq, decide_true, decide_false, hi0, hi0', h1, h2, h3, ix_str, cv_u8, Int.toNat_natCast, hcv, hwl, q1, q2, q3, q4, q5, q6]
            · have q3 : ¬ (224 : Int) ≤ byteAt s i := by omega
              have q5 : ¬ (240 : Int) ≤ byteAt s i := by omega
              simp only [Tryz.f120, symS, symO, symC, symP, symB, if_true, if_false, Nat.reduceEqDiff, Nat.reduceBEq, Bool.false_eq_true, Bool.true_eq_false, reduceCtorEq, decide_true, decide_false, hi0, hi0', h1, h2, h3, ix_str, cv_u8, Int.toNat_natCast, hcv, hwl, q1, q3, q5]
  · have h1 : ((s.size : Int) ≤ i) := by omega
    simp only [Tryz.f120, symS, symO, symC, symP, symB, if_true, if_false, Nat.reduceEqDiff, Nat.reduceBEq, Bool.false_eq_true, Bool.true_eq_false, reduceCtorEq, decide_true, decide_false, hi0, h1, dec, if_neg hin, decRC]

end Go.Abs
