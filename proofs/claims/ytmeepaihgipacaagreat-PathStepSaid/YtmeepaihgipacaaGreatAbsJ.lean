/-
An abstract interpreter, part J: make, slice expressions; all operations.
-/
import Derived.Test.YtmeepaihgipacaaGreatAbsI
import Derived.Lib.SliceRun
set_option linter.unusedVariables false
set_option linter.unusedSimpArgs false
namespace Go.Abs

section
variable {P : Program} {C : Ctx} {m : Map} {S D : Nat → Prop} {w : World} {st : St} {a : Act} {o : Oper} {n : Nat} {out : Out}

theorem op_makeSlice {t : TypeId} {x y : Operand} (R : Rel C m S D w st.heap) (he : EnvRel n m S w a st.env) (hn : ∀ b, st.nxt ≤ b → b < st.nxt + out.cnt → ¬ D b) (hop : o.op = .makeSlice t x y) (h : aop P o st = some out) : OpGoal P C m S D w st a o out := by
  have hx := he.eval x
  have hy := he.eval y
  simp only [aop, hop] at h
  split at h
  · rename_i e l c hel hl hc
    split at h
    · rename_i z sz by_ hz hsz hby
      split at h
      · rename_i hchk
        obtain ⟨hzl, hpos, h0, h1, h2, h3⟩ := hchk
        simp only [Option.some.injEq] at h
        subst h
        rw [hl] at hx
        rw [hc] at hy
        have hxv := hx.v_inv
        have hyv := hy.v_inv
        obtain ⟨zv, hzv, hzrun⟩ := azero_run hz
        obtain ⟨i, hi, hisz, hiby⟩ := abytes_info hsz hby
        have hzs : zv.cells.size = sz := by rw [hzv] at hzl; simpa using hzl
        have hfl := zero_flat (m := m) (S := S) (w := w) (e := e) hzv hzl hpos c.toNat _ rfl
        have wl : IntKind.i64.wrap l = l := by simp [IntKind.wrap, IntKind.bits, IntKind.signed]; omega
        have wc : IntKind.i64.wrap c = c := by simp [IntKind.wrap, IntKind.bits, IntKind.signed]; omega
        refine .new R (hn st.nxt (Nat.le_refl _) (Nat.lt_succ_self _)) (w.alloc (.cells ((Array.range (c.toNat * sz)).map (zv.cells[· % zv.cells.size]!)) e)) _ e sz c.toNat (List.replicate l.toNat z) _ (.slice (some ⟨w.heap.size, 0, none⟩) l.toNat c.toNat) ⟨_, ?_, .inl rfl⟩ rfl rfl rfl (Nat.le_refl _) rfl (by simp) (by simp; omega) (fun e he => by obtain rfl := List.eq_of_mem_replicate he; exact hzl) (fun i j hi hj => ?_) (fun m' hm' => ?_)
        · have t1 : ¬ (c < 0) := by omega
          have t2 : ¬ (281474976710656 < (i.bytes : Int) * c) := by rw [hiby]; omega
          have t3 : ¬ (l < 0) := by omega
          have t4 : ¬ (c < l) := by omega
          have hrun : (Instr.makeSlice t (.int .i64 l) (.int .i64 c)).run P w = .ok (.slice (some ⟨w.heap.size, 0, none⟩) l.toNat c.toNat) (w.alloc (.cells ((Array.range (c.toNat * sz)).map (zv.cells[· % zv.cells.size]!)) e)) := by
            rcases Nat.eq_zero_or_pos c.toNat with e0 | e0
            · simp [Instr.makeSlice, und_run (aelem_und hel), asInt, asIntOf, typeInfo, hi, wl, wc, t1, t2, t3, t4, asize_run hsz, e0, newRow]
              congr 2
              rw [show Array.range 0 = #[] from rfl]; simp
            · have hne : c.toNat * sz ≠ 0 := Nat.mul_ne_zero (by omega) (by omega)
              have hne1 : ¬ c.toNat = 0 := by omega
              have hne2 : ¬ sz = 0 := by omega
              have hne3 : ¬ c ≤ 0 := by omega
              simp [Instr.makeSlice, und_run (aelem_und hel), asInt, asIntOf, typeInfo, hi, wl, wc, t1, t2, t3, t4, asize_run hsz, hne1, hne2, hne3, hzrun, newRow]
              intro h9; exact absurd h9 hne
          simp only [execOp, hop, hxv, hyv, Sem.run_bind, hrun]
          rfl
        · have hlt : i < c.toNat := by simp at hi; omega
          have := hfl.rep i j (by simpa using hlt) hj
          have e1 : (List.replicate l.toNat z).getD i [] = (List.replicate c.toNat z).getD i [] := by
            have hlt2 : i < l.toNat := by simpa using hi
            simp [List.getD_eq_getElem?_getD, List.getElem?_replicate, hlt, hlt2]
          rw [e1]
          have e2 : ∀ (arr : Array Value) (q : Nat), arr.toList.getD q undef = arr.getD q undef := fun arr q => by simp [List.getD_eq_getElem?_getD, Array.getD_eq_getD_getElem?]
          rw [e2] at this
          exact this
        · have := ARep.sl (m := m') (S := S) (w := w.alloc (.cells ((Array.range (c.toNat * sz)).map (zv.cells[· % zv.cells.size]!)) e)) st.nxt 0 l.toNat c.toNat _ _ _ hm' (by omega) (Nat.zero_add _)
          simpa using this
      · cases h
    · cases h
  · cases h

/-- A bound of a slice expression. -/
theorem bint_eval (he : EnvRel n m S w a st.env) {x : Option Operand} {r : Option Int} (h : bint x (aevalO st.env) = some r) : (x.map a.eval = none ∧ r = none) ∨ ∃ k i, x.map a.eval = some (.int k i) ∧ r = some i := by
  cases x with
  | none => simp only [bint, Option.some.injEq] at h; exact .inl ⟨rfl, h.symm⟩
  | some y =>
    simp only [bint, Option.map_eq_some_iff] at h
    obtain ⟨i, hi, rfl⟩ := h
    unfold aint at hi
    split at hi
    · rename_i k j hj
      simp only [Option.some.injEq] at hi
      subst hi
      have := he.eval y
      rw [hj] at this
      exact .inr ⟨k, j, by simp [this.v_inv], rfl⟩
    · cases hi

theorem run_sliceBound {k : IntKind} {i : Int} {y : Nat} {code : BoundsCode} (h0 : 0 ≤ i) (h1 : i ≤ y) (w : World) : (Instr.sliceBound (.int k i) y code).run P w = .ok i.toNat w := by
  simp [Instr.sliceBound, asIntOf, h0, h1]

theorem run_slice {t e : TypeId} {sz : Nat} (hel : aelem P t = some e) (hsz : asize P e = some sz) (A : Option Addr) (len cap : Nat) {lo hi mx : Option Value} {l h : Int} {mv : Nat}
    (hlo : (lo = none ∧ l = 0) ∨ ∃ k, lo = some (.int k l)) (hhi : (hi = none ∧ h = len ∧ mx = none) ∨ ∃ k, hi = some (.int k h)) (hmx : (mx = none ∧ mv = cap) ∨ ∃ k, mx = some (.int k mv)) (h0 : 0 ≤ l) (h1 : l ≤ h) (h2 : h ≤ mv) (h3 : mv ≤ cap) (w : World) :
    (Instr.sliceAt t (.slice A len cap) lo hi mx).run P w = .ok (.slice (if mv = l.toNat then A else A.map (·.add (l.toNat * sz))) (h - l).toNat (mv - l.toNat)) w := by
  have sb : ∀ {k : IntKind} {i : Int} {y : Nat} {code : BoundsCode}, 0 ≤ i → i ≤ y → (Instr.sliceBound (.int k i) y code).run P w = .ok i.toNat w := fun a b => run_sliceBound a b w
  have hh : h = (h.toNat : Int) := by omega
  have hr : (Instr.sliceBounds true len cap lo hi mx).run P w = .ok (l.toNat, h.toNat, mv) w := by
    rcases hmx with ⟨rfl, rfl⟩ | ⟨k3, rfl⟩
    · rcases hhi with ⟨rfl, rfl, _⟩ | ⟨k2, rfl⟩
      · rcases hlo with ⟨rfl, rfl⟩ | ⟨k1, rfl⟩
        · simp [Instr.sliceBounds]
        · simp [Instr.sliceBounds, sb h0 h1]
      · rcases hlo with ⟨rfl, rfl⟩ | ⟨k1, rfl⟩
        · simp [Instr.sliceBounds, sb (show 0 ≤ h by omega) h2]
        · simp [Instr.sliceBounds, sb (show 0 ≤ h by omega) h2, sb h0 (show l ≤ (h.toNat : Int) by omega)]
    · rcases hhi with ⟨rfl, rfl, hm⟩ | ⟨k2, rfl⟩
      · cases hm
      · have hm3 := sb (k := k3) (code := .slice3Acap) (show (0 : Int) ≤ mv by omega) (show (mv : Int) ≤ cap by omega)
        rw [Int.toNat_natCast] at hm3
        rcases hlo with ⟨rfl, rfl⟩ | ⟨k1, rfl⟩
        · simp [Instr.sliceBounds, hm3, sb (show 0 ≤ h by omega) h2]
        · simp [Instr.sliceBounds, hm3, sb (show 0 ≤ h by omega) h2, sb h0 (show l ≤ (h.toNat : Int) by omega)]
  have hs : (h - l).toNat = h.toNat - l.toNat := by omega
  rw [hs]
  simp [Instr.sliceAt, und_run (aelem_und hel), Instr.slice, hr, asize_run hsz]

theorem op_slice {t : TypeId} {x : Operand} {lo hi mx : Option Operand} (R : Rel C m S D w st.heap) (he : EnvRel n m S w a st.env) (hop : o.op = .slice t x lo hi mx) (h : aop P o st = some out) : OpGoal P C m S D w st a o out := by
  have hx := he.eval x
  simp only [aop, hop] at h
  split at h
  · simp only [Option.map_eq_some_iff] at h
    obtain ⟨r, hr, rfl⟩ := h
    exact op_apure R he (fun cs b => by rw [hop]; simp) hr
  · split at h
    · rename_i e lo' hi' mx' hel hlo hhi hmx
      have blo := bint_eval he hlo
      have bhi := bint_eval he hhi
      have bmx := bint_eval he hmx
      split at h
      · rename_i sz hsz
        have exec : ∀ (A : Option Addr) (len cap : Nat) (hv : a.eval x = .slice A len cap) (h : Int) (mv : Nat) (hh : h = hi'.getD len) (hm : (mv : Int) = mx'.getD cap) (h0 : 0 ≤ lo'.getD 0) (h1 : lo'.getD 0 ≤ h) (h2 : h ≤ mv) (h3 : mv ≤ cap) (h4 : hi' = none → mx' = none),
            Yields P o a w (.slice (if mv = (lo'.getD 0).toNat then A else A.map (·.add ((lo'.getD 0).toNat * sz))) (h - lo'.getD 0).toNat (mv - (lo'.getD 0).toNat)) w := by
          intro A len cap hv h mv hh hm h0 h1 h2 h3 h4
          have := run_slice (P := P) hel hsz A len cap (lo := lo.map a.eval) (hi := hi.map a.eval) (mx := mx.map a.eval) (l := lo'.getD 0) (h := h) (mv := mv)
            (by rcases blo with ⟨e1, rfl⟩ | ⟨k, i, e1, rfl⟩
                · exact .inl ⟨e1, rfl⟩
                · exact .inr ⟨k, e1⟩)
            (by rcases bhi with ⟨e1, rfl⟩ | ⟨k, i, e1, rfl⟩
                · refine .inl ⟨e1, hh, ?_⟩
                  rcases bmx with ⟨e2, rfl⟩ | ⟨k2, i2, e2, rfl⟩
                  · exact e2
                  · exact absurd (h4 rfl) (by simp)
                · exact .inr ⟨k, by rw [e1, hh]; rfl⟩)
            (by rcases bmx with ⟨e1, rfl⟩ | ⟨k, i, e1, rfl⟩
                · simp only [Option.getD_none] at hm
                  exact .inl ⟨e1, by omega⟩
                · simp only [Option.getD_some] at hm
                  exact .inr ⟨k, by rw [e1, hm]⟩) h0 h1 h2 h3 w
          refine ⟨_, ?_, .inl rfl⟩
          simp only [execOp, hop, hv, Sem.run_bind, this]
          rfl
        split at h
        · rename_i sz' es hb
          split at h
          · rename_i hc
            obtain ⟨hsz0, h0, h1, h2, h3, h4, h5⟩ := hc
            simp only [Option.some.injEq] at h
            subst h
            rw [hb] at hx
            have hp := hx.psl_inv
            obtain ⟨A, cap, hv, hcap⟩ := hp.psl_inv
            generalize hhv : hi'.getD (es.length : Int) = hv2 at *
            obtain ⟨mv, hmv, hmv1, hmv2⟩ : ∃ mv : Nat, (mv : Int) = mx'.getD cap ∧ hv2 ≤ mv ∧ mv ≤ cap := by
              cases hmx' : mx' with
              | none => exact ⟨cap, by simp, by omega, Nat.le_refl _⟩
              | some mm =>
                rw [hmx'] at h3 h4
                simp only [Option.getD_some] at h3 h4 ⊢
                exact ⟨mm.toNat, by omega, by omega, by omega⟩
            refine .same R (exec A es.length cap hv hv2 mv hhv.symm hmv h0 h1 hmv1 hmv2 h5) ?_
            split
            · rename_i hm0
              rw [hm0] at hmv
              simp only [Option.getD_some] at hmv
              have : (hv2 - lo'.getD 0).toNat = 0 := by omega
              rw [this]
              have : mv - (lo'.getD 0).toNat = 0 := by omega
              rw [this]
              exact .pure (.e0 _)
            · rcases Nat.eq_zero_or_pos (hv2 - lo'.getD 0).toNat with e0 | e0
              · rw [e0]
                have : (es.take hv2.toNat).drop (lo'.getD 0).toNat = [] := List.drop_eq_nil_of_le (by simp; omega)
                rw [this]
                exact .pure (.psl0 _ _ _)
              · have hlen : ((es.take hv2.toNat).drop (lo'.getD 0).toNat).length = (hv2 - lo'.getD 0).toNat := by simp; omega
                rw [if_neg (by omega), ← hlen]
                rw [hv] at hp
                have hesp : 0 < es.length := by omega
                obtain rfl : sz' = sz := hsz0.resolve_right (by omega)
                generalize hes : es = es2 at hp hesp
                cases hp with
                | psl0 => simp at hesp
                | psl _ _ ad cap us hp' hcap hS hsp hsz' hcell hr =>
                  subst hes
                  have hadd : ad.add ((lo'.getD 0).toNat * sz') = ⟨ad.block, ad.off + (lo'.getD 0).toNat * sz', none⟩ := by
                    cases ad
                    simp only at hsp
                    subst hsp
                    exact Addr.add_lit _ _ _
                  rw [Option.map_some, hadd]
                  have hget : ∀ i, i < ((es.take hv2.toNat).drop (lo'.getD 0).toNat).length → ((es.take hv2.toNat).drop (lo'.getD 0).toNat).getD i [] = es.getD ((lo'.getD 0).toNat + i) [] := fun i hi => by
                    rw [getD_drop, getD_take _ _ _ _ (by rw [hlen] at hi; omega)]
                  refine .pure (.psl sz' _ _ _ (fun i j => us ((lo'.getD 0).toNat + i) j) (by omega) (by rw [hlen]; omega) hS rfl (fun e he => hsz' e (List.mem_of_mem_take (List.mem_of_mem_drop he))) (fun i j hi hj => ?_) (fun i j hi hj => ?_))
                  · have := hcell ((lo'.getD 0).toNat + i) j (by rw [hlen] at hi; omega) hj
                    rw [Nat.add_mul, ← Nat.add_assoc ad.off] at this
                    exact this
                  · rw [hget i hi]
                    exact hr _ j (by rw [hlen] at hi; omega) hj
          · cases h
        · rename_i hb
          split at h
          · rename_i hc
            obtain ⟨h0, h1, h2, h5⟩ := hc
            simp only [Option.some.injEq] at h
            subst h
            rw [hb] at hx
            obtain ⟨A, hv⟩ := hx.e0_inv
            have := exec A 0 0 hv 0 0 (by simpa using h1.symm) (by simpa using h2.symm) (by omega) (by omega) (by omega) (by omega) h5
            refine .same R this ?_
            have e1 : ((0 : Int) - lo'.getD 0).toNat = 0 := by omega
            rw [e1, Nat.zero_sub]
            exact .pure (.e0 _)
          · cases h
        · rename_i hb
          split at h
          · rename_i hc
            obtain ⟨h0, h1, h2, h5⟩ := hc
            simp only [Option.some.injEq] at h
            subst h
            rw [hb] at hx
            have hv := hx.v_inv
            have := exec none 0 0 hv 0 0 (by simpa using h1.symm) (by simpa using h2.symm) (by omega) (by omega) (by omega) (by omega) h5
            refine .same R this ?_
            have e1 : ((0 : Int) - lo'.getD 0).toNat = 0 := by omega
            rw [e1, Nat.zero_sub]
            exact .pure (.e0 _)
          · cases h
        · rename_i b off len hb
          split at h
          · rename_i blk hblk
            rw [hb] at hx
            obtain ⟨B, sz2, ct, cap, hm, hl, hcc, hv⟩ := hx.sl_inv
            obtain ⟨e2, hh, _⟩ := R.get hblk hm
            have hct : blk.es.length ≤ ct := by obtain ⟨_, _, _, _, hq, _⟩ := hh; exact hq
            cases mx' with
            | some mm =>
              simp only at h
              split at h
              · rename_i hc
                obtain ⟨hhi1, hbsz, h0, h1, h2, h3, h4⟩ := hc
                simp only [Option.some.injEq] at h
                subst h
                have hy := exec _ len cap hv (hi'.getD len) mm.toNat rfl (by simp only [Option.getD_some]; omega) h0 h1 (by omega) (by omega) (fun hn => by rw [hn] at hhi1; cases hhi1)
                exact .same R hy (.top _)
              · cases h
            | none =>
            simp only at h
            split at h
            · rename_i hc
              obtain ⟨hbsz, h0, h1, h2, h3⟩ := hc
              simp only [Option.some.injEq] at h
              subst h
              have e3 : sz2 = sz := e2.trans hbsz
              subst e3
              have hy := exec _ len cap hv (hi'.getD len) cap rfl rfl h0 h1 (by omega) (Nat.le_refl _) (fun _ => rfl)
              refine .same R hy ?_
              split
              · rename_i hlh
                have : (hi'.getD (len : Int) - lo'.getD 0).toNat = 0 := by omega
                rw [this]
                exact .pure (.psl0 _ _ _)
              · rename_i hlh
                by_cases hl0 : lo'.getD 0 = 0
                · rw [hl0]
                  simp only [Int.toNat_zero, Nat.zero_mul, Nat.add_zero, Int.sub_zero, Nat.sub_zero]
                  have e5 : (if cap = 0 then some (⟨B, off * sz2, none⟩ : Addr) else Option.map (fun x : Addr => x.add 0) (some ⟨B, off * sz2, none⟩)) = some ⟨B, off * sz2, none⟩ := by
                    split
                    · rfl
                    · simp [Addr.add]
                  rw [e5]
                  exact .sl b off _ cap B sz2 ct hm (by omega) hcc
                · have hlt : (lo'.getD 0).toNat < (hi'.getD (len : Int)).toNat := by omega
                  rw [if_neg (by omega), Option.map_some, Addr.add_lit, ← Nat.add_mul]
                  exact .sl b _ _ _ B sz2 ct hm (by omega) (by omega)
            · cases h
          · cases h
        · cases h
      · cases h
    · cases h

/-- Every operation that the interpreter takes is sound. -/
theorem abytes_len : ∀ {xs : List (List AV)} {bs : List UInt8}, abytesOf xs = some bs → bs.length = xs.length ∧ (∀ e ∈ xs, e.length = 1) ∧ ∀ i, i < xs.length → ∃ k, (xs.getD i []).getD 0 undefA = .v (.int .u8 k) ∧ bs.getD i 0 = UInt8.ofNat k.toNat
  | [], bs, h => by
    simp only [abytesOf, Option.some.injEq] at h
    subst h
    exact ⟨rfl, fun e he => (by cases he), fun i hi => absurd hi (by simp)⟩
  | x :: r, bs, h => by
    unfold abytesOf at h
    split at h
    · cases ‹x :: r = []›
    · rename_i k r' heq
      cases heq
      simp only [Option.map_eq_some_iff] at h
      obtain ⟨l, hl, rfl⟩ := h
      obtain ⟨h1, h2, h3⟩ := abytes_len hl
      refine ⟨by simp [h1], fun e he => ?_, fun i hi => ?_⟩
      · rcases List.mem_cons.1 he with rfl | he
        · rfl
        · exact h2 e he
      · cases i with
        | zero => exact ⟨k, rfl, rfl⟩
        | succ i => simpa using h3 i (by simpa using hi)
    · cases h

theorem run_toString {P : Program} {w : World} {f : Value → ByteArray → Sem (ForInStep ByteArray)} (hf : ∀ n s, f (.int .u8 n) s = pure (ForInStep.yield (s.push (UInt8.ofNat n.toNat)))) : ∀ (vs : List Value) (bs : List UInt8) (s : ByteArray), vs.length = bs.length → (∀ i, i < vs.length → ∃ k, vs.getD i undef = .int .u8 k ∧ bs.getD i 0 = UInt8.ofNat k.toNat) →
    (forIn vs s f : Sem ByteArray).run P w = .ok ⟨s.data ++ bs.toArray⟩ w
  | [], bs, s, hl, _ => by
    obtain rfl : bs = [] := List.eq_nil_of_length_eq_zero (by simpa using hl.symm)
    simp
  | v :: r, bs, s, hl, h => by
    cases bs with
    | nil => cases hl
    | cons b bs =>
      obtain ⟨k, h1, h2⟩ := h 0 (by simp)
      simp only [List.getD_cons_zero] at h1 h2
      subst h1 h2
      have ih := run_toString (P := P) (w := w) hf r bs (s.push (UInt8.ofNat k.toNat)) (by simpa using hl) (fun i hi => by simpa using h (i + 1) (by simpa using hi))
      rw [List.forIn_cons, hf]
      simp only [pure_bind]
      rw [ih]
      simp [ByteArray.push]

theorem op_convert {src dst : TypeId} {x : Operand} (R : Rel C m S D w st.heap) (he : EnvRel n m S w a st.env) (hop : o.op = .convert src dst x) (h : aop P o st = some out) : OpGoal P C m S D w st a o out := by
  have hx := he.eval x
  simp only [aop, hop] at h
  split at h
  · simp only [Option.map_eq_some_iff] at h
    obtain ⟨r, hr, rfl⟩ := h
    exact op_apure R he (fun cs b => by rw [hop]; simp) hr
  · split at h
    · rename_i e hsrc hdst
      split at h
      · rename_i xs hel hxs
        simp only [Option.map_eq_some_iff] at h
        obtain ⟨bs, hbs, rfl⟩ := h
        obtain ⟨h1, h2, h3⟩ := abytes_len hbs
        obtain ⟨A, cap, hv, hcap, hcells⟩ := aread_sound (P := P) R hx hxs h2 (by decide)
        obtain ⟨vs, hrun, hflat⟩ := hcells xs.length (Nat.le_refl _)
        rw [List.take_length] at hflat
        have hlen := hflat.len
        refine .same R (v := .string ⟨bs.toArray⟩) ⟨_, ?_, .inl rfl⟩ (.pure (.v _))
        have hb : (Conv.bytesToString (.slice A xs.length cap)).run P w = .ok (.string ⟨bs.toArray⟩) w := by
          cases A with
          | none =>
            have : vs = [] := by
              have := hrun
              rw [hv] at this
              simp [Builtin.firstCells] at this
              exact this
            have hz : xs.length = 0 := by rw [this] at hlen; simpa using hlen.symm
            obtain rfl : bs = [] := List.eq_nil_of_length_eq_zero (by omega)
            simp [Conv.bytesToString]
            rfl
          | some ad =>
            rw [hv] at hrun
            simp only [Builtin.firstCells, Nat.mul_one] at hrun
            have hl := fun f hf => run_toString (P := P) (w := w) (f := f) hf vs bs .empty (by omega) (fun i hi => by
              obtain ⟨k, g1, g2⟩ := h3 i (by omega)
              have := hflat.rep i 0 (by omega) (by decide)
              rw [g1] at this
              have hvi := this.v_inv
              rw [Nat.mul_one, Nat.add_zero] at hvi
              exact ⟨k, hvi, g2⟩)
            simp only [Conv.bytesToString, Sem.run_bind, hrun, Result.andThen]
            rw [List.forIn_toArray, hl _ (fun n s => rfl)]
            simp
        simp only [execOp, hop, hv]
        simp [convert, run_underlying hsrc, run_underlying hdst, run_underlying hel, hb]
      · cases h
    · cases h

theorem run_nilB {w : World} {b : BinOp} {t : TypeId} {A : Option Addr} {l c : Nat} {r : Bool} (h : nilB b (P.underlying t) A.isNone = some r) (x y : Operand) :
    (do eqGuard b t x y (.slice A l c) (.slice none 0 0); binOp b t (.slice A l c) (.slice none 0 0) : Sem Value).run P w = .ok (.bool r) w := by
  unfold nilB at h
  split at h
  · rename_i hu
    simp only [Option.some.injEq] at h
    subst h
    simp [eqGuard, Go.Lib.run_eql_slice_nil w _ _ A l c 0 0 hu]
  · rename_i hu
    simp only [Option.some.injEq] at h
    subst h
    have := Go.Lib.run_equalIn_slice_nil w 9999 t _ A l c 0 0 hu
    simp [eqGuard, binOp, Op.equal, Op.maxDepth, this]
  · cases h

theorem op_bin {b : BinOp} {t u : TypeId} {x y : Operand} (R : Rel C m S D w st.heap) (he : EnvRel n m S w a st.env) (hop : o.op = .binOp b t x y u) (h : aop P o st = some out) : OpGoal P C m S D w st a o out := by
  simp only [aop, hop] at h
  split at h
  · rename_i r hr
    simp only [Option.some.injEq] at h
    subst h
    have hx := he.eval x
    have hy := he.eval y
    have key : ∃ A l c, a.eval x = .slice A l c ∧ a.eval y = .slice none 0 0 ∧ nilB b (P.underlying t) A.isNone = some r := by
      unfold nilEq at hr
      split at hr
      · rename_i h1 h2
        rw [h1] at hx
        rw [h2] at hy
        have hp := hx.psl_inv
        revert hp
        generalize a.eval x = vx
        intro hp
        cases hp with
        | psl _ _ ad cap us => exact ⟨_, _, _, rfl, hy.v_inv, hr⟩
      · rename_i h1 h2
        rw [h1] at hx
        rw [h2] at hy
        exact ⟨_, _, _, hx.v_inv, hy.v_inv, hr⟩
      · rename_i h1 h2
        rw [h1] at hx
        rw [h2] at hy
        obtain ⟨B, sz, ct, cap, _, _, _, hv⟩ := hx.sl_inv
        exact ⟨_, _, _, hv, hy.v_inv, hr⟩
      · cases hr
    obtain ⟨A, l, c, h1, h2, h3⟩ := key
    have hrun : (execOp a.eval o).run P w = .ok (.value (.bool r)) w := by
      have := run_nilB (w := w) (l := l) (c := c) h3 x y
      simp only [execOp, hop, h1, h2]
      simp only [Sem.run_bind] at this ⊢
      revert this
      cases Sem.run P (eqGuard b t x y (Value.slice A l c) (Value.slice none 0 0)) w <;> simp only [Result.andThen] <;> intro this
      · rw [this]; rfl
      all_goals cases this
    exact ⟨_, w, m, ⟨_, hrun, .inl rfl⟩, R.weaken (fun b hb => .inl hb), Later.refl C m S w, .pure (.v _)⟩
  · simp only [Option.map_eq_some_iff] at h
    obtain ⟨r, hr, rfl⟩ := h
    exact op_apure R he (by rw [hop]; simp) hr

theorem aop_sound (R : Rel C m S D w st.heap) (he : EnvRel n m S w a st.env) (hn : ∀ b, st.nxt ≤ b → b < st.nxt + out.cnt → ¬ D b) (h : aop P o st = some out) : OpGoal P C m S D w st a o out := by
  have ap : ∀ r : Option AV, (apure P o st.env).map (fun r => (⟨r, [], 0⟩ : Out)) = some out → (∀ cs b, o.op ≠ .select cs b) → OpGoal P C m S D w st a o out := by
    intro r h hs
    simp only [Option.map_eq_some_iff] at h
    obtain ⟨r, hr, rfl⟩ := h
    exact op_apure R he hs hr
  cases hop : o.op with
  | move x => exact op_move R he (.inl hop) h
  | assign x => exact op_move R he (.inr hop) h
  | pick c x y => exact op_pick R he hop h
  | alloc t => exact op_alloc R hn hop h
  | box t x => exact op_box R he hn hop h
  | build t parts => exact op_build R he hop h
  | buildSlice t len parts => exact op_buildSlice R he hn hop h
  | load t x => exact op_load R he hop h
  | store t x y => exact op_store R he hop h
  | nilCheck x => exact op_nilCheck R he hop h
  | makeFunc fn first caps =>
    cases fn with
    | func f => exact op_makeFunc R he hop h
    | _ => simp only [aop, hop] at h; cases h
  | makeSlice t x y => exact op_makeSlice R he hn hop h
  | slice t x lo hi mx => exact op_slice R he hop h
  | fieldAddr s x f => exact op_fieldAddr R he hop h
  | field s x f => exact op_field R he hop h
  | indexAddr t x y => exact op_indexAddr R he hop h
  | extract x i => exact op_extract R he hop h
  | binOp => exact op_bin R he hop h
  | unOp => exact ap none (by simpa only [aop, hop] using h) (by rw [hop]; simp)
  | convert src dst x => exact op_convert R he hop h
  | index => exact ap none (by simpa only [aop, hop] using h) (by rw [hop]; simp)
  | call c =>
    obtain ⟨callee, args, ats⟩ := c
    cases callee with
    | builtin b =>
      cases b with
      | len => exact op_len R he hop h
      | append => exact op_append R he hn hop h
      | copy => exact op_copy R he hop h
      | clear => exact op_clear R he hop h
      | max => exact ap none (by simpa only [aop, hop] using h) (by rw [hop]; simp)
      | min => exact ap none (by simpa only [aop, hop] using h) (by rw [hop]; simp)
      | _ => simp only [aop, hop] at h; cases h
    | _ => simp only [aop, hop] at h; cases h
  | _ => simp only [aop, hop] at h; cases h
end
end Go.Abs
