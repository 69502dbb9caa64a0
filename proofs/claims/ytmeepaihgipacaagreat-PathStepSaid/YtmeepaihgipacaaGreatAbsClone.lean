/-
The program in sight: slices.Clone keeps its contract.
-/
import Derived.Test.YtmeepaihgipacaaGreatAbsOps
set_option linter.unusedVariables false
set_option linter.unusedSimpArgs false
namespace Go.Abs
open Go.Proofs

/-- Without contracts. -/
noncomputable def E1 : Env := ⟨Tryz.prog, fun _ => false, fun _ => none, fun _ => false⟩
theorem E1_P : E1.P = Tryz.prog := rfl
theorem E1_ref (f : Nat) : E1.ref f = false := rfl
theorem E1_prim (f : Nat) : E1.prim f = none := rfl
theorem E1_frz (f : Nat) : E1.frz f = false := rfl

theorem bd_CloneS : Tryz.prog.funcs[89]? = some Tryz.f89 := by kernel_rfl
theorem ok_CloneS : fnOk Tryz.f89 = true := by kernel_rfl
theorem bd_CloneV : Tryz.prog.funcs[67]? = some Tryz.f67 := by kernel_rfl
theorem ok_CloneV : fnOk Tryz.f67 = true := by kernel_rfl
theorem un_Strs : Tryz.prog.underlying 22 = some (.slice 9) := by kernel_rfl
theorem un_Vals : Tryz.prog.underlying 23 = some (.slice 25) := by kernel_rfl
theorem by_str : abytes Tryz.prog 9 = some 16 := by kernel_rfl
theorem by_Val : abytes Tryz.prog 25 = some 80 := by kernel_rfl

theorem nil_psl (P : Program) (t : TypeId) (x y : Operand) (sz : Nat) (e : List AV) (r : List (List AV)) {el : TypeId} (h : P.underlying t = some (.slice el)) : binO P .eql t x y (.psl sz (e :: r)) (.v (.slice none 0 0)) = some ⟨.v (.bool false), [], 0⟩ := by
  simp [binO, nilEq, nilB, h]
theorem nil_v (P : Program) (t : TypeId) (x y : Operand) (A : Option Addr) (n c : Nat) {el : TypeId} (h : P.underlying t = some (.slice el)) : binO P .eql t x y (.v (.slice A n c)) (.v (.slice none 0 0)) = some ⟨.v (.bool A.isNone), [], 0⟩ := by
  simp [binO, nilEq, nilB, h]
theorem ap_S (d : Option Tmp) (x y : Operand) (ty : TypeId) (pos : String) (af : Array Edge) (g : Option (Nat × Bool)) (st : St) :
    aop Tryz.prog ⟨d, .call { callee := .builtin .append, args := #[x, y], argTypes := #[22, 22] }, ty, pos, af, g⟩ st = apO st.heap st.nxt 1 16 (aevalO st.env x) (aread st.heap Tryz.prog (aevalO st.env y)) := aop_append el_Strs ze_str sz_str by_str rfl (by decide) (by decide) d x y ty pos af g st
theorem ap_V (d : Option Tmp) (x y : Operand) (ty : TypeId) (pos : String) (af : Array Edge) (g : Option (Nat × Bool)) (st : St) :
    aop Tryz.prog ⟨d, .call { callee := .builtin .append, args := #[x, y], argTypes := #[23, 23] }, ty, pos, af, g⟩ st = apO st.heap st.nxt 5 80 (aevalO st.env x) (aread st.heap Tryz.prog (aevalO st.env y)) := aop_append el_Vals ze_Val sz_Val by_Val rfl (by decide) (by decide) d x y ty pos af g st
theorem aread_v0 (h : AHeap) (P : Program) (A : Option Addr) (c : Nat) : aread h P (.v (.slice A 0 c)) = some [] := rfl
theorem apE_e0 (h sz) : apE h sz .e0 = some ⟨.e0, [], 0⟩ := rfl
theorem fin_e0 (h : AHeap) : finish h [.e0] = some [.p .e0] := rfl
theorem fin_nil (h : AHeap) : finish h [.v (.slice none 0 0)] = some [.p .e0] := rfl
theorem iso_none : (none : Option Addr).isNone = true := rfl
theorem iso_some (a : Addr) : (some a).isNone = false := rfl

set_option maxRecDepth 100000 in
theorem cloneS_nil (A : Option Addr) (c : Nat) : callF E1 89 [.v (.slice A 0 c)] = some [.p .e0] := by
  rw [callF_fn bd_CloneS ok_CloneS]
  cases A with
  | none => simp only [symS, symO, symC, symP, symB, symR, symF, symM, symN, if_true, if_false, Nat.reduceEqDiff, Nat.reduceBEq, Nat.reduceAdd, Bool.false_eq_true, Bool.true_eq_false, reduceCtorEq, decide_true, decide_false, Nat.reduceLeDiff, and_self, and_true, true_and, some_is, lt01, Tryz.f89, E1_P, nil_v _ _ _ _ _ _ _ un_Strs, iso_none, fin_nil]
  | some a => simp only [symS, symO, symC, symP, symB, symR, symF, symM, symN, if_true, if_false, Nat.reduceEqDiff, Nat.reduceBEq, Nat.reduceAdd, Bool.false_eq_true, Bool.true_eq_false, reduceCtorEq, decide_true, decide_false, Nat.reduceLeDiff, and_self, and_true, true_and, some_is, lt01, Tryz.f89, E1_P, nil_v _ _ _ _ _ _ _ un_Strs, iso_some, symL, bsV0, ap_S, aread_v0, apO_none, apE_e0, fin_e0]

set_option maxRecDepth 100000 in
theorem cloneV_nil (A : Option Addr) (c : Nat) : callF E1 67 [.v (.slice A 0 c)] = some [.p .e0] := by
  rw [callF_fn bd_CloneV ok_CloneV]
  cases A with
  | none => simp only [symS, symO, symC, symP, symB, symR, symF, symM, symN, if_true, if_false, Nat.reduceEqDiff, Nat.reduceBEq, Nat.reduceAdd, Bool.false_eq_true, Bool.true_eq_false, reduceCtorEq, decide_true, decide_false, Nat.reduceLeDiff, and_self, and_true, true_and, some_is, lt01, Tryz.f67, E1_P, nil_v _ _ _ _ _ _ _ un_Vals, iso_none, fin_nil]
  | some a => simp only [symS, symO, symC, symP, symB, symR, symF, symM, symN, if_true, if_false, Nat.reduceEqDiff, Nat.reduceBEq, Nat.reduceAdd, Bool.false_eq_true, Bool.true_eq_false, reduceCtorEq, decide_true, decide_false, Nat.reduceLeDiff, and_self, and_true, true_and, some_is, lt01, Tryz.f67, E1_P, nil_v _ _ _ _ _ _ _ un_Vals, iso_some, symL, bsV0, ap_V, aread_v0, apO_none, apE_e0, fin_e0]

/-- A row is handed back. -/
theorem fin_own {h : AHeap} {b sz : Nat} {es es' : List (List AV)} (hb : h b = some ⟨true, sz, es⟩) (hp : omap (omap (pur depth (endHeap h (some b)))) es = some es') : finish h [.sl b 0 es.length] = some [.own sz es'] := by
  have ho : ownOf h (.sl b 0 es.length) = some b := by simp [ownOf, hb]
  have hf : finishOne h (some b) (.sl b 0 es.length) = some (.own sz es') := by
    simp only [finishOne, ho, if_true, hb, hp]
    rfl
  unfold finish
  rw [show [AV.sl b 0 es.length].findSome? (ownOf h) = some b from by rw [List.findSome?_cons, ho]]
  simp only [omap, hf]
  rfl

theorem omap_mono {α β : Type} {f g : α → Option β} (h : ∀ x y, f x = some y → g x = some y) : ∀ {l : List α} {r : List β}, omap f l = some r → omap g l = some r
  | [], r, hr => hr
  | x :: l, r, hr => by
    simp only [omap] at hr ⊢
    split at hr
    · rename_i y hy
      split at hr
      · rename_i l' hl
        rw [h x y hy, omap_mono h hl]
        exact hr
      · cases hr
    · cases hr

/-- What has no places is the same on every heap. -/
theorem pur_pure : ∀ (n : Nat) (h : AHeap) (x y : AV), pur n (fun _ => none) x = some y → pur n h x = some y
  | 0, h, x, y, hp => by simp [pur] at hp
  | n + 1, h, x, y, hp => by
    cases x with
    | agg cs =>
      rw [pur] at hp ⊢
      simp only [Option.map_eq_some_iff] at hp ⊢
      obtain ⟨cs', h1, h2⟩ := hp
      exact ⟨cs', omap_mono (fun x y => pur_pure n h x y) h1, h2⟩
    | fn f cs =>
      rw [pur] at hp ⊢
      simp only [Option.map_eq_some_iff] at hp ⊢
      obtain ⟨cs', h1, h2⟩ := hp
      exact ⟨cs', omap_mono (fun x y => pur_pure n h x y) h1, h2⟩
    | ptr b i o => simp [pur] at hp
    | sl b o l => simp [pur] at hp
    | _ => simpa only [pur] using hp

theorem cloneOk_wf {sz : Nat} {es : List (List AV)} (h : cloneOk sz es = true) : (∀ y ∈ es, y.length = sz ∧ y.all AV.isCell = true) ∧ es.length ≤ 4294967296 := by
  unfold cloneOk at h
  simp only [Bool.and_eq_true, List.all_eq_true, beq_iff_eq, decide_eq_true_eq] at h
  exact ⟨fun y hy => ⟨(h.1 y hy).1, by simpa using (h.1 y hy).2⟩, h.2⟩

set_option maxRecDepth 100000 in
theorem cloneS_cons (e : List AV) (r es' : List (List AV)) (h1 : cloneOk 1 (e :: r) = true) (h2 : omap (omap (pur depth fun _ => none)) (e :: r) = some es') : callF E1 89 [.psl 1 (e :: r)] = some [.own 1 es'] := by
  rw [callF_fn bd_CloneS ok_CloneS]
  obtain ⟨w1, w2⟩ := cloneOk_wf h1
  have ha := fun (h : AHeap) (nxt : Nat) => apO_new (h := h) (nxt := nxt) (by_ := 16) (.inl rfl) (by simp) w1 (by unfold maxBytes; omega)
  simp only [symS, symO, symC, symP, symB, symR, symF, symM, symN, if_true, if_false, Nat.reduceEqDiff, Nat.reduceBEq, Nat.reduceAdd, Bool.false_eq_true, Bool.true_eq_false, reduceCtorEq, decide_true, decide_false, Nat.reduceLeDiff, and_self, and_true, true_and, some_is, lt01, Tryz.f89, E1_P, nil_psl _ _ _ _ _ _ _ un_Strs, symL, bsV0, ap_S, aread_psl, ha]
  exact fin_own (by simp [fset]) (omap_mono (fun x y => omap_mono (fun x y => pur_pure depth _ x y)) h2)

set_option maxRecDepth 100000 in
theorem cloneV_cons (e : List AV) (r es' : List (List AV)) (h1 : cloneOk 5 (e :: r) = true) (h2 : omap (omap (pur depth fun _ => none)) (e :: r) = some es') : callF E1 67 [.psl 5 (e :: r)] = some [.own 5 es'] := by
  rw [callF_fn bd_CloneV ok_CloneV]
  obtain ⟨w1, w2⟩ := cloneOk_wf h1
  have ha := fun (h : AHeap) (nxt : Nat) => apO_new (h := h) (nxt := nxt) (by_ := 80) (.inl rfl) (by simp) w1 (by unfold maxBytes; omega)
  simp only [symS, symO, symC, symP, symB, symR, symF, symM, symN, if_true, if_false, Nat.reduceEqDiff, Nat.reduceBEq, Nat.reduceAdd, Bool.false_eq_true, Bool.true_eq_false, reduceCtorEq, decide_true, decide_false, Nat.reduceLeDiff, and_self, and_true, true_and, some_is, lt01, Tryz.f67, E1_P, nil_psl _ _ _ _ _ _ _ un_Vals, symL, bsV0, ap_V, aread_psl, ha]
  exact fin_own (by simp [fset]) (omap_mono (fun x y => omap_mono (fun x y => pur_pure depth _ x y)) h2)

theorem prog_mix : Tryz.prog.follows .mixedOrders = true := by kernel_rfl
theorem E1_ok : PrimOk E1 := fun f spec h => by cases h

theorem callPost_mono {L S : Nat → Prop} {w : World} {rcs : List RC} {e : Ending} {w' : World} (h : CallPost (fun _ => False) S w rcs e w') : CallPost L S w rcs e w' := by
  obtain ⟨v, S', h1, h2, h3, h4, h5, us, k1, k2, k3, k4⟩ := h
  refine ⟨v, S', h1, ⟨h2.os, h2.tape, h2.output, h2.size, h2.drawn, fun k hk _ => h2.block k hk (fun hl => hl)⟩, h3, fun k hk => ?_, h5, us, k1, k2, fun i hi => ?_, k4⟩
  · rcases h4 k hk with h | h | h
    · exact .inl h
    · exact h.elim
    · exact .inr (.inr h)
  · have := k3 i hi
    revert this
    generalize rcs.getD i default = rc
    cases rc with
    | p x => exact id
    | own sz es =>
      rintro ⟨B, ct, arr, ty, q1, q2, q3, q4, q5, q6, q7, q8⟩
      exact ⟨B, ct, arr, ty, q1, q2, q3, q4, q5, q6, q7.elim (fun h => h.elim) .inr, q8⟩

/-- A function that is run without contracts keeps the contract that its runs show. -/
theorem calls_of_callF {f : FuncId} {args : List AV} {rcs : List RC} (h : callF E1 f args = some rcs) (L S : Nat → Prop) (w : World) (hS : ∀ k, S k → k < w.heap.size) (vs : Array Value) (hvs : vs.size = args.length) (hr : ∀ i, i < args.length → PRep S w (args.getD i undefA) (vs.getD i undef)) :
    (∃ fn, E1.P.funcs[f]? = some fn ∧ fn.body.isSome = true ∧ (fn.name == "runtime.NumGoroutine") = false) ∧ Calls E1.P f vs w (CallPost L S w rcs) := by
  obtain ⟨n, hn⟩ := callF_runs h
  obtain ⟨g1, g2⟩ := callP_sound (aexec_ok E1_ok prog_mix n) hn S w hS vs hvs hr
  exact ⟨g1, g2.mono fun e w' h => callPost_mono h⟩

theorem clone_prim {f : FuncId} {sz : Nat} (h0 : ∀ A c, callF E1 f [.v (.slice A 0 c)] = some [.p .e0]) (h1 : ∀ e r es', cloneOk sz (e :: r) = true → omap (omap (pur depth fun _ => none)) (e :: r) = some es' → callF E1 f [.psl sz (e :: r)] = some [.own sz es']) :
    (∃ fn, E1.P.funcs[f]? = some fn ∧ fn.body.isSome = true ∧ (fn.name == "runtime.NumGoroutine") = false) ∧
    ∀ args rcs, cloneSpec sz args = some rcs → ∀ (L S : Nat → Prop) (w : World) (vs : Array Value), (∀ k, S k → k < w.heap.size) → vs.size = args.length → (∀ i, i < args.length → RCRep S L w (args.getD i default) (vs.getD i undef)) → Calls E1.P f vs w (CallPost L S w rcs) := by
  have hex : ∃ fn, E1.P.funcs[f]? = some fn ∧ fn.body.isSome = true ∧ (fn.name == "runtime.NumGoroutine") = false :=
    (calls_of_callF (h0 none 0) (fun _ => False) (fun _ => False) ⟨#[], default, default, default, default⟩ (fun _ h => h.elim) #[.slice none 0 0] rfl (fun i hi => by
      obtain rfl : i = 0 := by simp at hi; exact hi
      exact .v _)).1
  refine ⟨hex, ?_⟩
  intro args rcs hs L S w vs hS hvs hr
  unfold cloneSpec at hs
  split at hs
  · rename_i sz' es
    have hr0 := hr 0 (by simp)
    have hr0' : PRep S w (.psl sz' es) (vs.getD 0 undef) := hr0
    split at hs
    · rename_i he
      simp only [Option.some.injEq] at hs
      subst hs
      obtain rfl : es = [] := by simpa using he
      obtain ⟨A, cap, hv, _⟩ := hr0'.psl_inv
      refine (calls_of_callF (h0 A cap) L S w hS vs hvs (fun i hi => ?_)).2
      obtain rfl : i = 0 := by simp at hi; exact hi
      rw [hv]
      exact .v _
    · rename_i hne
      split at hs
      · rename_i hc
        obtain ⟨rfl, hok⟩ := hc
        simp only [Option.map_eq_some_iff] at hs
        obtain ⟨es', hes', rfl⟩ := hs
        cases es with
        | nil => exact absurd rfl hne
        | cons e r =>
          refine (calls_of_callF (h1 e r es' hok hes') L S w hS vs hvs (fun i hi => ?_)).2
          obtain rfl : i = 0 := by simp at hi; exact hi
          exact hr0'
      · cases hs
  · cases hs

theorem cloneS_prim : type_of% (clone_prim cloneS_nil cloneS_cons) := clone_prim cloneS_nil cloneS_cons
theorem cloneV_prim : type_of% (clone_prim cloneV_nil cloneV_cons) := clone_prim cloneV_nil cloneV_cons

/-! ### In use -/

theorem cloneSpec_S (l : List ByteArray) (h : l.length ≤ 4294967296) : cloneSpec 1 [.p (encS l)] = some [outRC 1 (rowS l)] := by
  cases l with
  | nil => rfl
  | cons s r =>
    have e1 : encS (s :: r) = .psl 1 (rowS (s :: r)) := rfl
    rw [e1]
    have e2 : cloneOk 1 (rowS (s :: r)) = true := by
      unfold cloneOk rowS
      simp only [Bool.and_eq_true, List.all_eq_true, decide_eq_true_eq, List.length_map]
      refine ⟨fun y hy => ?_, h⟩
      obtain ⟨t, _, rfl⟩ := List.mem_map.1 hy
      exact ⟨rfl, fun x hx => by simp at hx; subst hx; rfl⟩
    have e3 : omap (omap (pur depth fun _ => none)) (rowS (s :: r)) = some (rowS (s :: r)) := purS_rows 23 _ _
    have e4 : ¬ ((rowS (s :: r)).isEmpty = true) := by simp [rowS]
    have e5 : outRC 1 (rowS (s :: r)) = .own 1 (rowS (s :: r)) := rfl
    simp only [cloneSpec, e2, e3, e4, if_false, and_self, if_true, Option.map_some, e5, Bool.false_eq_true]
theorem cloneSpec_L (l : List JV) (h : l.length ≤ 4294967296) : cloneSpec 5 [.p (encL l)] = some [outRC 5 (rowV l)] := by
  cases l with
  | nil => rfl
  | cons s r =>
    have e1 : encL (s :: r) = .psl 5 (rowV (s :: r)) := rfl
    rw [e1]
    have e2 : cloneOk 5 (rowV (s :: r)) = true := by
      unfold cloneOk rowV
      simp only [Bool.and_eq_true, List.all_eq_true, decide_eq_true_eq, List.length_map]
      refine ⟨fun y hy => ?_, h⟩
      obtain ⟨t, _, rfl⟩ := List.mem_map.1 hy
      have := encJ_flat t
      exact ⟨by rw [beq_iff_eq]; exact ln_cellsJ t, fun c hc => by
        have h3 : (encJ t).cells.all AV.isCell = true := this
        rw [encJ_cells, ← cellsJ_eq] at h3
        exact List.all_eq_true.1 h3 c hc⟩
    have e3 : omap (omap (pur depth fun _ => none)) (rowV (s :: r)) = some (rowV (s :: r)) := purJ_rows 23 _ _
    have e4 : ¬ ((rowV (s :: r)).isEmpty = true) := by simp [rowV]
    have e5 : outRC 5 (rowV (s :: r)) = .own 5 (rowV (s :: r)) := rfl
    simp only [cloneSpec, e2, e3, e4, if_false, and_self, if_true, Option.map_some, e5, Bool.false_eq_true]

end Go.Abs
