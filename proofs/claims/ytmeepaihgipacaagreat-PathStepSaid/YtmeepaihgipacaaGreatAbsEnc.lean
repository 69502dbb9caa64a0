/-
The program in sight: ndjqref01.Encode gives the bytes back that ndjqref01.Decode reads.
-/
import Derived.Test.YtmeepaihgipacaaGreatAbsCopy
set_option linter.unusedVariables false
set_option linter.unusedSimpArgs false
namespace Go.Abs
open Go.Proofs

theorem bd_Encode : Tryz.prog.funcs[121]? = some Tryz.f121 := by kernel_rfl
theorem ok_Encode : fnOk Tryz.f121 = true := by kernel_rfl

theorem fdiv_nat (a b : Nat) : ((a : Int)).fdiv (b : Int) = ((a / b : Nat) : Int) := by
  rw [Int.fdiv_eq_ediv_of_nonneg _ (by omega)]; rfl
theorem shr6 (P t x y k') (a : Nat) : binO P .shr t x y (.v (.int .i64 (a : Int))) (.v (.int k' 6)) = some ⟨.v (.int .i64 ((a / 64 : Nat) : Int)), [], 0⟩ := by
  rw [bin_shr, if_neg (by decide), ← fdiv_nat]; rfl
theorem shr12 (P t x y k') (a : Nat) : binO P .shr t x y (.v (.int .i64 (a : Int))) (.v (.int k' 12)) = some ⟨.v (.int .i64 ((a / 4096 : Nat) : Int)), [], 0⟩ := by
  rw [bin_shr, if_neg (by decide), ← fdiv_nat]; rfl
theorem shr18 (P t x y k') (a : Nat) : binO P .shr t x y (.v (.int .i64 (a : Int))) (.v (.int k' 18)) = some ⟨.v (.int .i64 ((a / 262144 : Nat) : Int)), [], 0⟩ := by
  rw [bin_shr, if_neg (by decide), ← fdiv_nat]; rfl
theorem band63 {a : Nat} (ha : a < 1152921504606846976) : band .i64 (a : Int) 63 = ((a % 64 : Nat) : Int) := by
  unfold band
  have e : (BitVec.ofInt IntKind.i64.bits (a : Int) &&& BitVec.ofInt IntKind.i64.bits (63 : Int)).toNat = a % 64 := by
    rw [BitVec.toNat_and, show IntKind.i64.bits = 64 from rfl, BitVec.ofInt_natCast, show (63 : Int) = ((63 : Nat) : Int) from rfl, BitVec.ofInt_natCast, BitVec.toNat_ofNat, BitVec.toNat_ofNat, Nat.mod_eq_of_lt (by omega), Nat.mod_eq_of_lt (by omega)]
    exact Nat.and_two_pow_sub_one_eq_mod a 6
  rw [e, IntKind.wrap_i64]
  omega
theorem bor_pow {i r x : Nat} (hx : x < 2 ^ i) (hr : 2 ^ i * r + x < 1152921504606846976) : bor .i64 ((2 ^ i * r : Nat) : Int) x = ((2 ^ i * r + x : Nat) : Int) := by
  unfold bor
  have e : (BitVec.ofInt IntKind.i64.bits ((2 ^ i * r : Nat) : Int) ||| BitVec.ofInt IntKind.i64.bits (x : Int)).toNat = 2 ^ i * r + x := by
    rw [BitVec.toNat_or, show IntKind.i64.bits = 64 from rfl, BitVec.ofInt_natCast, BitVec.ofInt_natCast, BitVec.toNat_ofNat, BitVec.toNat_ofNat, Nat.mod_eq_of_lt (by omega), Nat.mod_eq_of_lt (by omega)]
    exact (Nat.two_pow_add_eq_or_of_lt hx r).symm
  rw [e, IntKind.wrap_i64]
  omega
theorem bor192 {x : Nat} (hx : x < 32) : bor .i64 192 (x : Int) = ((192 + x : Nat) : Int) := bor_pow (i := 6) (r := 3) (by omega) (by omega)
theorem bor128 {x : Nat} (hx : x < 64) : bor .i64 128 (x : Int) = ((128 + x : Nat) : Int) := bor_pow (i := 6) (r := 2) (by omega) (by omega)
theorem bor224 {x : Nat} (hx : x < 16) : bor .i64 224 (x : Int) = ((224 + x : Nat) : Int) := bor_pow (i := 4) (r := 14) (by omega) (by omega)
theorem bor240 {x : Nat} (hx : x < 8) : bor .i64 240 (x : Int) = ((240 + x : Nat) : Int) := bor_pow (i := 3) (r := 30) (by omega) (by omega)
theorem wrap8 {x : Nat} (hx : x < 256) : IntKind.u8.wrap (x : Int) = (x : Int) := by rw [IntKind.wrap_u8]; omega

/-- Rows of bytes. -/
def rowB (l : List Nat) : List (List AV) := l.map fun (b : Nat) => [.v (.int .u8 (b : Int))]
theorem rowB_len (l : List Nat) : (rowB l).length = l.length := by simp [rowB]
theorem rowB_app (l r : List Nat) : rowB l ++ rowB r = rowB (l ++ r) := by simp [rowB]
theorem rowB_wf (l : List Nat) : ∀ y ∈ rowB l, y.length = 1 ∧ y.all AV.isCell = true := by
  intro y hy
  obtain ⟨n, _, rfl⟩ := List.mem_map.1 hy
  exact ⟨rfl, rfl⟩
theorem omap_rowB (l : List Nat) (g : AHeap) : omap (omap (pur depth g)) (rowB l) = some (rowB l) := by
  induction l with
  | nil => rfl
  | cons n l ih =>
    have : rowB (n :: l) = [AV.v (.int .u8 (n : Int))] :: rowB l := rfl
    rw [this]
    simp only [omap, ih, pur_int]

theorem el_Bytes : aelem Tryz.prog 106 = some 5 := by kernel_rfl
theorem sz_u8 : asize Tryz.prog 5 = some 1 := by kernel_rfl
theorem ze_u8 : azero Tryz.prog 5 = some [.v (.int .u8 0)] := by kernel_rfl
theorem by_u8 : abytes Tryz.prog 5 = some 1 := by kernel_rfl
theorem un_int : Tryz.prog.underlying 3 = some (.int .i64) := by kernel_rfl
theorem un_u8 : Tryz.prog.underlying 5 = some (.int .u8) := by kernel_rfl
theorem bsByt (d : Option Tmp) (len : Nat) (hl : len ≤ 8) (parts : Array (Nat × Operand)) (ty : TypeId) (pos : String) (af : Array Edge) (g : Option (Nat × Bool)) (st : St) :
    aop Tryz.prog ⟨d, .buildSlice 106 len parts, ty, pos, af, g⟩ st = bsO st.nxt 1 len [.v (.int .u8 0)] (parts.toList.map fun p => (p.1, aevalO st.env p.2)) := aop_bs el_Bytes ze_u8 sz_u8 rfl (by decide) d len (by omega) parts ty pos af g st
theorem bsB1 (nxt z) (a : Nat) : bsO nxt 1 1 [z] [(0, .v (.int .u8 (a : Int)))] = some ⟨.sl nxt 0 1, [(nxt, some ⟨true, 1, rowB [a]⟩)], 1⟩ := rfl
theorem bsB2 (nxt z) (a b : Nat) : bsO nxt 1 2 [z] [(0, .v (.int .u8 (a : Int))), (1, .v (.int .u8 (b : Int)))] = some ⟨.sl nxt 0 2, [(nxt, some ⟨true, 1, rowB [a, b]⟩)], 1⟩ := rfl
theorem bsB3 (nxt z) (a b c : Nat) : bsO nxt 1 3 [z] [(0, .v (.int .u8 (a : Int))), (1, .v (.int .u8 (b : Int))), (2, .v (.int .u8 (c : Int)))] = some ⟨.sl nxt 0 3, [(nxt, some ⟨true, 1, rowB [a, b, c]⟩)], 1⟩ := rfl
theorem bsB4 (nxt z) (a b c d : Nat) : bsO nxt 1 4 [z] [(0, .v (.int .u8 (a : Int))), (1, .v (.int .u8 (b : Int))), (2, .v (.int .u8 (c : Int))), (3, .v (.int .u8 (d : Int)))] = some ⟨.sl nxt 0 4, [(nxt, some ⟨true, 1, rowB [a, b, c, d]⟩)], 1⟩ := rfl

theorem fin_row {h : AHeap} {b n : Nat} {l : List Nat} {t : Bool} (hb : h b = some ⟨true, 1, rowB l⟩) (hn : n = l.length) (hne : l ≠ []) : finish h [.sl b 0 n, .v (.bool t)] = some [.own 1 (rowB l), .p (.v (.bool t))] := by
  have hne' : rowB l ≠ [] := by simpa [rowB] using hne
  have h1 := finish_out (h := h) (nxt := b + 1) (sz := 1) (x := .sl b 0 n) (es := rowB l) (.inr ⟨b, hne', by omega, by rw [rowB_len, hn], hb⟩) (omap_rowB l) [.v (.bool t)] [.v (.bool t)] (fun y hy => by simp at hy; subst hy; rfl) (fun g => rfl)
  rw [h1]
  cases l with
  | nil => exact absurd rfl hne
  | cons => rfl

set_option maxRecDepth 100000 in
theorem encode1 (r : Nat) (h : r < 128) : callF E0 121 [.v (.int .i64 r)] = some [.own 1 (rowB [r]), .p (.v (.bool true))] := by
  rw [callF_fn bd_Encode ok_Encode]
  have hs := size_run r
  have hz : sizeN (r : Int) = 1 := by unfold sizeN; rw [if_neg (by omega), if_pos (by omega)]
  rw [hz] at hs
  simp only [symS, symO, symC, symP, symB, symR, symF, symM, symN, if_true, if_false, Nat.reduceEqDiff, Nat.reduceBEq, Nat.reduceAdd, Bool.false_eq_true, Bool.true_eq_false, reduceCtorEq, decide_true, decide_false, Nat.reduceLeDiff, and_self, and_true, true_and, some_is, lt01, Tryz.f121, hs, cv_int un_int un_u8, wrap8 (show r < 256 by omega), bsByt, bsB1, beq_self_eq_true]
  exact fin_row (by simp [fset]) rfl (by simp)

set_option maxRecDepth 100000 in
theorem encode2 (r : Nat) (h : 128 ≤ r) (h2 : r < 2048) : callF E0 121 [.v (.int .i64 r)] = some [.own 1 (rowB [192 + r / 64, 128 + r % 64]), .p (.v (.bool true))] := by
  rw [callF_fn bd_Encode ok_Encode]
  have hs := size_run r
  have hz : sizeN (r : Int) = 2 := by unfold sizeN; rw [if_neg (by omega), if_neg (by omega), if_pos (by omega)]
  rw [hz] at hs
  have e1 : ((2 : Int) == 1) = false := rfl
  simp only [symS, symO, symC, symP, symB, symR, symF, symM, symN, if_true, if_false, Nat.reduceEqDiff, Nat.reduceBEq, Nat.reduceAdd, Bool.false_eq_true, Bool.true_eq_false, reduceCtorEq, decide_true, decide_false, Nat.reduceLeDiff, and_self, and_true, true_and, some_is, lt01, Tryz.f121, hs, e1, cv_int un_int un_u8, shr6, band63 (show r < 1152921504606846976 by omega), bor192 (show r / 64 < 32 by omega), bor128 (show r % 64 < 64 by omega), wrap8 (show 192 + r / 64 < 256 by omega), wrap8 (show 128 + r % 64 < 256 by omega), bsByt, bsB2, beq_self_eq_true]
  exact fin_row (by simp [fset]) rfl (by simp)

set_option maxRecDepth 100000 in
theorem encode3 (r : Nat) (h : 2048 ≤ r) (h2 : r < 65536) (h3 : r < 55296 ∨ 57343 < r) : callF E0 121 [.v (.int .i64 r)] = some [.own 1 (rowB [224 + r / 4096, 128 + r / 64 % 64, 128 + r % 64]), .p (.v (.bool true))] := by
  rw [callF_fn bd_Encode ok_Encode]
  have hs := size_run r
  have hz : sizeN (r : Int) = 3 := by unfold sizeN; rw [if_neg (by omega), if_neg (by omega), if_neg (by omega), if_pos (by omega)]
  rw [hz] at hs
  have e1 : ((3 : Int) == 1) = false := rfl
  have e2 : ((3 : Int) == 2) = false := rfl
  simp only [symS, symO, symC, symP, symB, symR, symF, symM, symN, if_true, if_false, Nat.reduceEqDiff, Nat.reduceBEq, Nat.reduceAdd, Bool.false_eq_true, Bool.true_eq_false, reduceCtorEq, decide_true, decide_false, Nat.reduceLeDiff, and_self, and_true, true_and, some_is, lt01, Tryz.f121, hs, e1, e2, cv_int un_int un_u8, shr6, shr12, band63 (show r < 1152921504606846976 by omega), band63 (show r / 64 < 1152921504606846976 by omega), bor224 (show r / 4096 < 16 by omega), bor128 (show r % 64 < 64 by omega), bor128 (show r / 64 % 64 < 64 by omega), wrap8 (show 224 + r / 4096 < 256 by omega), wrap8 (show 128 + r % 64 < 256 by omega), wrap8 (show 128 + r / 64 % 64 < 256 by omega), bsByt, bsB3, beq_self_eq_true]
  exact fin_row (by simp [fset]) rfl (by simp)

set_option maxRecDepth 100000 in
theorem encode4 (r : Nat) (h : 65536 ≤ r) (h2 : r ≤ 1114111) : callF E0 121 [.v (.int .i64 r)] = some [.own 1 (rowB [240 + r / 262144, 128 + r / 4096 % 64, 128 + r / 64 % 64, 128 + r % 64]), .p (.v (.bool true))] := by
  rw [callF_fn bd_Encode ok_Encode]
  have hs := size_run r
  have hz : sizeN (r : Int) = 4 := by unfold sizeN; rw [if_neg (by omega), if_neg (by omega), if_neg (by omega), if_neg (by omega)]
  rw [hz] at hs
  have e1 : ((4 : Int) == 1) = false := rfl
  have e2 : ((4 : Int) == 2) = false := rfl
  have e3 : ((4 : Int) == 3) = false := rfl
  simp only [symS, symO, symC, symP, symB, symR, symF, symM, symN, if_true, if_false, Nat.reduceEqDiff, Nat.reduceBEq, Nat.reduceAdd, Bool.false_eq_true, Bool.true_eq_false, reduceCtorEq, decide_true, decide_false, Nat.reduceLeDiff, and_self, and_true, true_and, some_is, lt01, Tryz.f121, hs, e1, e2, e3, cv_int un_int un_u8, shr6, shr12, shr18, band63 (show r < 1152921504606846976 by omega), band63 (show r / 64 < 1152921504606846976 by omega), band63 (show r / 4096 < 1152921504606846976 by omega), bor240 (show r / 262144 < 8 by omega), bor128 (show r % 64 < 64 by omega), bor128 (show r / 64 % 64 < 64 by omega), bor128 (show r / 4096 % 64 < 64 by omega), wrap8 (show 240 + r / 262144 < 256 by omega), wrap8 (show 128 + r % 64 < 256 by omega), wrap8 (show 128 + r / 64 % 64 < 256 by omega), wrap8 (show 128 + r / 4096 % 64 < 256 by omega), bsByt, bsB4, beq_self_eq_true]
  exact fin_row (by simp [fset]) rfl (by simp)

/-- n bytes from a place on. -/
def bytesAt (s : ByteArray) : Nat → Nat → List Nat
  | _, 0 => []
  | i, n + 1 => byteAt s i :: bytesAt s (i + 1) n
theorem bytesAt_len (s : ByteArray) : ∀ n i, (bytesAt s i n).length = n
  | 0, _ => rfl
  | n + 1, i => by rw [bytesAt, List.length_cons, bytesAt_len s n]
theorem bytesAt_app (s : ByteArray) : ∀ n i m, bytesAt s i n ++ bytesAt s (i + n) m = bytesAt s i (n + m)
  | 0, i, m => by simp [bytesAt]
  | n + 1, i, m => by
    have := bytesAt_app s n (i + 1) m
    rw [bytesAt, List.cons_append, show i + (n + 1) = i + 1 + n by omega, this, show n + 1 + m = (n + m) + 1 by omega, bytesAt]

theorem encode_run (s : ByteArray) (i r n : Nat) (h : dec s i = some (r, n)) : callF E0 121 [.v (.int .i64 r)] = some [.own 1 (rowB (bytesAt s i n)), .p (.v (.bool true))] := by
  unfold dec at h
  split at h
  · rename_i hi
    split at h
    · rename_i hb
      simp only [Option.some.injEq, Prod.mk.injEq] at h
      obtain ⟨rfl, rfl⟩ := h
      exact encode1 _ hb
    · rename_i hb
      split at h
      · rename_i m r0 least hl
        unfold lead at hl
        have h256 := byteAt_lt s i
        split at hl
        · rename_i hc
          simp only [Option.some.injEq, Prod.mk.injEq] at hl
          obtain ⟨rfl, rfl, rfl⟩ := hl
          simp only [contR] at h
          by_cases c1 : cont s (i + 1)
          · simp only [c1, if_true] at h
            split at h
            · cases h
            · rename_i hbad
              simp only [Option.some.injEq, Prod.mk.injEq] at h
              obtain ⟨rfl, rfl⟩ := h
              unfold cont at c1
              unfold isPoint at hbad
              rw [encode2 _ (by omega) (by omega)]
              have e1 : 192 + ((byteAt s i - 192) * 64 + byteAt s (i + 1) % 64) / 64 = byteAt s i := by omega
              have e2 : 128 + ((byteAt s i - 192) * 64 + byteAt s (i + 1) % 64) % 64 = byteAt s (i + 1) := by omega
              rw [e1, e2]; rfl
          · simp only [c1, if_false] at h
            cases h
        · split at hl
          · rename_i hc
            simp only [Option.some.injEq, Prod.mk.injEq] at hl
            obtain ⟨rfl, rfl, rfl⟩ := hl
            simp only [contR] at h
            by_cases c1 : cont s (i + 1)
            · by_cases c2 : cont s (i + 1 + 1)
              · simp only [c1, c2, if_true] at h
                split at h
                · cases h
                · rename_i hbad
                  simp only [Option.some.injEq, Prod.mk.injEq] at h
                  obtain ⟨rfl, rfl⟩ := h
                  unfold cont at c1 c2
                  unfold isPoint at hbad
                  rw [encode3 _ (by omega) (by omega) (by omega)]
                  have e1 : 224 + (((byteAt s i - 224) * 64 + byteAt s (i + 1) % 64) * 64 + byteAt s (i + 1 + 1) % 64) / 4096 = byteAt s i := by omega
                  have e2 : 128 + (((byteAt s i - 224) * 64 + byteAt s (i + 1) % 64) * 64 + byteAt s (i + 1 + 1) % 64) / 64 % 64 = byteAt s (i + 1) := by omega
                  have e3 : 128 + (((byteAt s i - 224) * 64 + byteAt s (i + 1) % 64) * 64 + byteAt s (i + 1 + 1) % 64) % 64 = byteAt s (i + 1 + 1) := by omega
                  rw [e1, e2, e3]; rfl
              · simp only [c1, c2, if_false, if_true] at h
                cases h
            · simp only [c1, if_false] at h
              cases h
          · split at hl
            · rename_i hc
              simp only [Option.some.injEq, Prod.mk.injEq] at hl
              obtain ⟨rfl, rfl, rfl⟩ := hl
              simp only [contR] at h
              by_cases c1 : cont s (i + 1)
              · by_cases c2 : cont s (i + 1 + 1)
                · by_cases c3 : cont s (i + 1 + 1 + 1)
                  · simp only [c1, c2, c3, if_true] at h
                    split at h
                    · cases h
                    · rename_i hbad
                      simp only [Option.some.injEq, Prod.mk.injEq] at h
                      obtain ⟨rfl, rfl⟩ := h
                      unfold cont at c1 c2 c3
                      unfold isPoint at hbad
                      rw [encode4 _ (by omega) (by omega)]
                      have e1 : 240 + ((((byteAt s i - 240) * 64 + byteAt s (i + 1) % 64) * 64 + byteAt s (i + 1 + 1) % 64) * 64 + byteAt s (i + 1 + 1 + 1) % 64) / 262144 = byteAt s i := by omega
                      have e2 : 128 + ((((byteAt s i - 240) * 64 + byteAt s (i + 1) % 64) * 64 + byteAt s (i + 1 + 1) % 64) * 64 + byteAt s (i + 1 + 1 + 1) % 64) / 4096 % 64 = byteAt s (i + 1) := by omega
                      have e3 : 128 + ((((byteAt s i - 240) * 64 + byteAt s (i + 1) % 64) * 64 + byteAt s (i + 1 + 1) % 64) * 64 + byteAt s (i + 1 + 1 + 1) % 64) / 64 % 64 = byteAt s (i + 1 + 1) := by omega
                      have e4 : 128 + ((((byteAt s i - 240) * 64 + byteAt s (i + 1) % 64) * 64 + byteAt s (i + 1 + 1) % 64) * 64 + byteAt s (i + 1 + 1 + 1) % 64) % 64 = byteAt s (i + 1 + 1 + 1) := by omega
                      rw [e1, e2, e3, e4]; rfl
                  · simp only [c1, c2, c3, if_false, if_true] at h
                    cases h
                · simp only [c1, c2, if_false, if_true] at h
                  cases h
              · simp only [c1, if_false] at h
                cases h
            · cases hl
      · cases h
  · cases h

end Go.Abs
