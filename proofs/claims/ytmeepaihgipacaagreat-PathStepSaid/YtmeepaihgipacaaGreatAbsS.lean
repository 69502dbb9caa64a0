/-
An abstract interpreter, part S: rules for bits, bytes and strings.
-/
import Derived.Test.YtmeepaihgipacaaGreatAbsV
set_option linter.unusedVariables false
set_option linter.unusedSimpArgs false
namespace Go.Abs

theorem prun_und {P : Program} {t : TypeId} {d : TypeDesc} (h : P.underlying t = some d) : prun P (underlying t) = some d := by
  show prun P (program >>= _) = _
  rw [prun_bind]
  show prun P (match P.underlying t with | some d => pure d | none => stuck "no such type") = _
  rw [h]
  rfl

def band (k : IntKind) (a b : Int) : Int := k.wrap (BitVec.ofInt k.bits a &&& BitVec.ofInt k.bits b).toNat
def bor (k : IntKind) (a b : Int) : Int := k.wrap (BitVec.ofInt k.bits a ||| BitVec.ofInt k.bits b).toNat
theorem bin_and (P t x y k a b) : binO P .and t x y (.v (.int k a)) (.v (.int k b)) = some ⟨.v (.int k (band k a b)), [], 0⟩ := by simp [binO, bin0, nilEq, eqGuard, binOp, Op.intBits, prun_pure, band]
theorem bin_or (P t x y k a b) : binO P .or t x y (.v (.int k a)) (.v (.int k b)) = some ⟨.v (.int k (bor k a b)), [], 0⟩ := by simp [binO, bin0, nilEq, eqGuard, binOp, Op.intBits, prun_pure, bor]
theorem bin_shl (P t x y k k' a b) : binO P .shl t x y (.v (.int k a)) (.v (.int k' b)) = if b < 0 then binO P .shl t x y (.v (.int k a)) (.v (.int k' b)) else some ⟨.v (.int k (k.wrap (a * 2 ^ (min b.toNat k.bits)))), [], 0⟩ := by
  split
  · rfl
  · rename_i h
    simp [binO, bin0, nilEq, eqGuard, binOp, Op.shift, prun_pure, h]
theorem bin_shr (P t x y k k' a b) : binO P .shr t x y (.v (.int k a)) (.v (.int k' b)) = if b < 0 then binO P .shr t x y (.v (.int k a)) (.v (.int k' b)) else some ⟨.v (.int k (a.fdiv (2 ^ (min b.toNat k.bits)))), [], 0⟩ := by
  split
  · rfl
  · rename_i h
    simp [binO, bin0, nilEq, eqGuard, binOp, Op.shift, prun_pure, h]
theorem bin_shl6 (P t x y k' a) : binO P .shl t x y (.v (.int .i64 a)) (.v (.int k' 6)) = some ⟨.v (.int .i64 (IntKind.i64.wrap (a * 64))), [], 0⟩ := by
  rw [bin_shl, if_neg (by decide)]; rfl

/-- Comparing strings. -/
def sless (r s : ByteArray) : Bool := Op.bytesLess r.toList s.toList
theorem bin_slss (P t x y r s) : binO P .lss t x y (.v (.string r)) (.v (.string s)) = some ⟨.v (.bool (sless r s)), [], 0⟩ := by simp [binO, bin0, nilEq, eqGuard, binOp, Op.stringOp, prun_pure, sless]
theorem bin_sleq (P t x y r s) : binO P .leq t x y (.v (.string r)) (.v (.string s)) = some ⟨.v (.bool (sless r s || decide (r = s))), [], 0⟩ := by rw [← str_eq]; simp [binO, bin0, nilEq, eqGuard, binOp, Op.stringOp, prun_pure, sless]
theorem bin_sgtr (P t x y r s) : binO P .gtr t x y (.v (.string r)) (.v (.string s)) = some ⟨.v (.bool (!(sless r s || decide (r = s)))), [], 0⟩ := by rw [← str_eq]; simp [binO, bin0, nilEq, eqGuard, binOp, Op.stringOp, prun_pure, sless]
theorem bin_sgeq (P t x y r s) : binO P .geq t x y (.v (.string r)) (.v (.string s)) = some ⟨.v (.bool (!sless r s)), [], 0⟩ := by simp [binO, bin0, nilEq, eqGuard, binOp, Op.stringOp, prun_pure, sless]

/-- A byte of a string. -/
def byteAt (s : ByteArray) (i : Nat) : Nat := (s.data.getD i 0).toNat
theorem byteAt_lt (s : ByteArray) (i : Nat) : byteAt s i < 256 := (s.data.getD i 0).toNat_lt

def idxO (P : Program) (t : TypeId) : AV → AV → Option Out
  | .v p, .v q => match prun P (Instr.index t p q) with
    | some r => some ⟨.v r, [], 0⟩
    | none => none
  | _, _ => none
theorem aop_index (P d t x y ty pos af g st) : aop P ⟨d, .index t x y, ty, pos, af, g⟩ st = idxO P t (aevalO st.env x) (aevalO st.env y) := by
  have hops : (Op.index t x y).operands = #[x, y] := rfl
  simp only [aop, apure, hops]
  rcases hx : aevalO st.env x with p | _ | _ | _ | _ | _ | _ | _ | _ <;> try (simp [hx, scal, idxO]; done)
  rcases hy : aevalO st.env y with q | _ | _ | _ | _ | _ | _ | _ | _ <;> try (simp [hx, hy, scal, idxO]; done)
  rw [if_pos (by simp [hx, hy, scal])]
  have e : execOp (fun z => (scal (aevalO st.env z)).getD undef) ⟨d, .index t x y, ty, pos, af, g⟩ = ((Instr.index t p q) >>= fun r => pure (Next.value r)) := by
    simp only [execOp, hx, hy, scal, Option.getD_some]
  rw [e, prun_bind]
  simp only [idxO]
  cases prun P (Instr.index t p q) <;> rfl
theorem idx_str {P : Program} {t : TypeId} (ht : P.underlying t = some .string) (s : ByteArray) (n : Int) (h0 : 0 ≤ n) (h1 : n < s.size) : idxO P t (.v (.string s)) (.v (.int .i64 n)) = some ⟨.v (.int .u8 (byteAt s n.toNat)), [], 0⟩ := by
  have hi : n.toNat < s.size := by omega
  have e : prun P (Instr.index t (.string s) (.int .i64 n)) = some (.int .u8 (byteAt s n.toNat)) := by
    have h1 : s[n.toNat]? = some (s.data.getD n.toNat 0) := by
      rw [getElem?_pos s n.toNat hi]
      rw [Array.getD_eq_getD_getElem?, Array.getElem?_eq_getElem (by simpa using hi)]
      rfl
    simp [Instr.index, asIntOf, prun_bind, prun_und ht, prun_pure, h0, h1, byteAt]
  simp only [idxO, e]

def cvO (P : Program) (src dst : TypeId) (st : St) : AV → Option Out
  | .v p => match prun P (convert src dst p) with
    | some r => some ⟨.v r, [], 0⟩
    | none => none
  | y => match P.underlying src, P.underlying dst with
      | some (.slice e), some .string => match P.underlying e, aread st.heap P y with
        | some (.int .u8), some xs => (abytesOf xs).map fun bs => ⟨.v (.string ⟨bs.toArray⟩), [], 0⟩
        | _, _ => none
      | _, _ => none
theorem aop_convert (P d src dst x ty pos af g st) : aop P ⟨d, .convert src dst x, ty, pos, af, g⟩ st = cvO P src dst st (aevalO st.env x) := by
  have hops : (Op.convert src dst x).operands = #[x] := rfl
  rcases hx : aevalO st.env x with p | _ | _ | _ | _ | _ | _ | _ | _ <;> simp only [aop, hx, cvO] <;> try rfl
  · simp only [apure, hops]
    rw [if_pos (by simp [hx, scal])]
    have e : execOp (fun z => (scal (aevalO st.env z)).getD undef) ⟨d, .convert src dst x, ty, pos, af, g⟩ = ((convert src dst p) >>= fun r => pure (Next.value r)) := by
      simp only [execOp, hx, scal, Option.getD_some]
    rw [e, prun_bind]
    cases prun P (convert src dst p) <;> rfl
theorem cv_int {P : Program} {src dst : TypeId} {k k' : IntKind} (hs : P.underlying src = some (.int k')) (hd : P.underlying dst = some (.int k)) (st : St) (k'' : IntKind) (n : Int) : cvO P src dst st (.v (.int k'' n)) = some ⟨.v (.int k (k.wrap n)), [], 0⟩ := by
  have : prun P (convert src dst (.int k'' n)) = some (.int k (k.wrap n)) := by
    simp [convert, prun_bind, prun_und hs, prun_und hd, Conv.intToInt, prun_pure]
  simp only [cvO, this]

/-! ### Bits as numbers -/

theorem band_byte {b m : Nat} (hb : b < 256) (hm : m < 256) : band .i64 b m = ((b &&& m : Nat) : Int) := by
  unfold band
  have e : (BitVec.ofInt IntKind.i64.bits (b : Int) &&& BitVec.ofInt IntKind.i64.bits (m : Int)).toNat = b &&& m := by
    rw [BitVec.toNat_and, show IntKind.i64.bits = 64 from rfl, BitVec.ofInt_natCast, BitVec.ofInt_natCast, BitVec.toNat_ofNat, BitVec.toNat_ofNat, Nat.mod_eq_of_lt (by omega), Nat.mod_eq_of_lt (by omega)]
  rw [e, IntKind.wrap_i64]
  have : b &&& m ≤ b := Nat.and_le_left
  omega
theorem band_u8 {b m : Nat} (hb : b < 256) (hm : m < 256) : band .u8 b m = ((b &&& m : Nat) : Int) := by
  unfold band
  have e : (BitVec.ofInt IntKind.u8.bits (b : Int) &&& BitVec.ofInt IntKind.u8.bits (m : Int)).toNat = b &&& m := by
    rw [BitVec.toNat_and, show IntKind.u8.bits = 8 from rfl, BitVec.ofInt_natCast, BitVec.ofInt_natCast, BitVec.toNat_ofNat, BitVec.toNat_ofNat, Nat.mod_eq_of_lt (by omega), Nat.mod_eq_of_lt (by omega)]
  rw [e, IntKind.wrap_u8]
  have : b &&& m ≤ b := Nat.and_le_left
  omega
theorem bor_six {r x : Nat} (hr : r < 1152921504606846976 / 64) (hx : x < 64) : bor .i64 ((r * 64 : Nat) : Int) x = ((r * 64 + x : Nat) : Int) := by
  unfold bor
  have e : (BitVec.ofInt IntKind.i64.bits ((r * 64 : Nat) : Int) ||| BitVec.ofInt IntKind.i64.bits (x : Int)).toNat = r * 64 + x := by
    rw [BitVec.toNat_or, show IntKind.i64.bits = 64 from rfl, BitVec.ofInt_natCast, BitVec.ofInt_natCast, BitVec.toNat_ofNat, BitVec.toNat_ofNat, Nat.mod_eq_of_lt (by omega), Nat.mod_eq_of_lt (by omega)]
    have := Nat.two_pow_add_eq_or_of_lt (i := 6) (b := x) (by simpa using hx) r
    rw [Nat.mul_comm r 64]
    exact this.symm
  rw [e, IntKind.wrap_i64]
  omega

set_option maxRecDepth 100000 in
theorem and_all : ∀ b < 256, (b &&& 63 = b % 64) ∧ (192 ≤ b → b < 224 → b &&& 31 = b - 192) ∧ (224 ≤ b → b < 240 → b &&& 15 = b - 224) ∧ (240 ≤ b → b < 248 → b &&& 7 = b - 240) ∧ (b &&& 192 = 128 ↔ (128 ≤ b ∧ b < 192)) := by decide

theorem finish_all {h : AHeap} {r l : List AV} (hx : ∀ x ∈ r, plainAV x = true) (hp : omap (pur depth (fun b => (h b).map frozen)) r = some l) : finish h r = some (l.map RC.p) := by
  have ho : ∀ x, plainAV x = true → ownOf h x = none := fun x hx => by cases x <;> first | rfl | cases hx
  have ht : ∀ x, plainAV x = true → topE x = false := fun x hx => by cases x <;> first | rfl | cases hx | (simpa [plainAV] using hx)
  have he : endHeap h none = fun b => (h b).map frozen := by funext b; simp [endHeap]
  have h1 : ∀ r : List AV, (∀ x ∈ r, plainAV x = true) → r.findSome? (ownOf h) = none := fun r hx => List.findSome?_eq_none_iff.2 fun x hm => ho x (hx x hm)
  have h2 : ∀ (r l : List AV), (∀ x ∈ r, plainAV x = true) → omap (pur depth (fun b => (h b).map frozen)) r = some l → omap (finishOne h none) r = some (l.map RC.p) := by
    intro r
    induction r with
    | nil => intro l _ hp; simp only [omap, Option.some.injEq] at hp; subst hp; rfl
    | cons x r ih =>
      intro l hx hp
      simp only [omap] at hp
      split at hp
      · rename_i y hy
        split at hp
        · rename_i l' hl'
          simp only [Option.some.injEq] at hp
          subst hp
          have h3 := hx x (List.mem_cons_self ..)
          simp only [omap, ih l' (fun y hy => hx y (List.mem_cons_of_mem _ hy)) hl', finishOne, ho x h3, ht x h3, he, hy]
          rfl
        · cases hp
      · cases hp
  have h3 : ∀ l : List AV, ownCount (l.map RC.p) = 0 := by
    intro l
    induction l with
    | nil => rfl
    | cons x l ih => simp only [ownCount, List.map_cons, List.filter_cons, RC.isOwn] at ih ⊢; exact ih
  unfold finish
  rw [h1 r hx, h2 r l hx hp]
  simp [h3]
theorem fin_IB (h : AHeap) (k : IntKind) (n : Int) (b : Bool) : finish h [.v (.int k n), .v (.bool b)] = some [.p (.v (.int k n)), .p (.v (.bool b))] := finish_all (l := [_, _]) (by intro x hx; simp at hx; rcases hx with rfl | rfl <;> rfl) rfl
theorem fin_II (h : AHeap) (k k' : IntKind) (n n' : Int) : finish h [.v (.int k n), .v (.int k' n')] = some [.p (.v (.int k n)), .p (.v (.int k' n'))] := finish_all (l := [_, _]) (by intro x hx; simp at hx; rcases hx with rfl | rfl <;> rfl) rfl
theorem fin_SB (h : AHeap) (s : ByteArray) (b : Bool) : finish h [.v (.string s), .v (.bool b)] = some [.p (.v (.string s)), .p (.v (.bool b))] := finish_all (l := [_, _]) (by intro x hx; simp at hx; rcases hx with rfl | rfl <;> rfl) rfl
theorem fin_IIB (h : AHeap) (k k' : IntKind) (n n' : Int) (b : Bool) : finish h [.v (.int k n), .v (.int k' n'), .v (.bool b)] = some [.p (.v (.int k n)), .p (.v (.int k' n')), .p (.v (.bool b))] := finish_all (l := [_, _, _]) (by intro x hx; simp at hx; rcases hx with rfl | rfl | rfl <;> rfl) rfl
theorem fin_JBE (h : AHeap) (v : JV) (b : Bool) (k : IntKind) (n : Int) : finish h [encJ v, .v (.bool b), .v (.int k n)] = some [.p (encJ v), .p (.v (.bool b)), .p (.v (.int k n))] := finish_all (l := [encJ v, .v (.bool b), .v (.int k n)]) (by intro x hx; simp at hx; rcases hx with rfl | rfl | rfl <;> rfl) (by simp only [omap, pur_encJ, pur_bool, pur_int])

theorem symB : type_of% @bin_and ∧ type_of% @bin_or ∧ type_of% @bin_shl6 ∧ type_of% @bin_slss ∧ type_of% @bin_sleq ∧ type_of% @bin_sgtr ∧ type_of% @bin_sgeq ∧ type_of% @aop_index ∧ type_of% @aop_convert ∧ type_of% @fin_IB ∧ type_of% @fin_II ∧ type_of% @fin_SB ∧ type_of% @fin_IIB ∧ type_of% @fin_JBE :=
  ⟨@bin_and, @bin_or, @bin_shl6, @bin_slss, @bin_sleq, @bin_sgtr, @bin_sgeq, @aop_index, @aop_convert, @fin_IB, @fin_II, @fin_SB, @fin_IIB, @fin_JBE⟩
end Go.Abs
