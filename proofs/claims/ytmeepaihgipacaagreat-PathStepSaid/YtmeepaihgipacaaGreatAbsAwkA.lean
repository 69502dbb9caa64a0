/-
The program in sight: the sanity check awake answers true: run by the kernel; all contracts that E0 takes hold.
-/
import Derived.Test.YtmeepaihgipacaaGreatAbsClone
import Derived.Test.YtmeepaihgipacaaGreatAbsCmp
set_option linter.unusedVariables false
set_option linter.unusedSimpArgs false
namespace Go.Abs
open Go.Proofs

/-- The functions of the library that work on a row of the caller's are run on its heap. -/
noncomputable def EA : Env := ⟨Tryz.prog,
  fun f => f == 77 || f == 68 || f == 99 || f == 122 || f == 71 || f == 108,
  fun f => if (f == 89) = true then some (cloneSpec 1) else if (f == 67) = true then some (cloneSpec 5) else none,
  fun f => f == 50 || f == 39 || f == 118⟩

def isTrueRC : Option (List RC) → Bool
  | some [.p (.v (.bool true))] => true
  | _ => false
theorem isTrueRC_eq {x : Option (List RC)} (h : isTrueRC x = true) : x = some [.p (.v (.bool true))] := by
  unfold isTrueRC at h
  split at h
  · rfl
  · cases h

set_option maxRecDepth 1000000 in
theorem awake_chk : isTrueRC (callP EA (aexec EA 100) 10 []) = true := by decide +kernel

theorem clone_case {f : FuncId} {spec : List RC → Option (List RC)} (h : (if (f == 89) = true then some (cloneSpec 1) else if (f == 67) = true then some (cloneSpec 5) else none) = some spec) :
    (∃ fn, E1.P.funcs[f]? = some fn ∧ fn.body.isSome = true ∧ (fn.name == "runtime.NumGoroutine") = false) ∧
    ∀ args rcs, spec args = some rcs → ∀ (L S : Nat → Prop) (w : World) (vs : Array Value), (∀ k, S k → k < w.heap.size) → vs.size = args.length → (∀ i, i < args.length → RCRep S L w (args.getD i default) (vs.getD i undef)) → Calls E1.P f vs w (CallPost L S w rcs) := by
  split at h
  · rename_i hf
    simp only [Option.some.injEq] at h
    subst h
    rw [beq_iff_eq] at hf
    subst hf
    exact cloneS_prim
  · split at h
    · rename_i hf
      simp only [Option.some.injEq] at h
      subst h
      rw [beq_iff_eq] at hf
      subst hf
      exact cloneV_prim
    · cases h

theorem EA_ok : PrimOk EA := fun f spec h => by
  obtain ⟨h1, h2⟩ := clone_case h
  exact ⟨h1, fun args rcs hs L S w vs hS hv hr _ => h2 args rcs hs L S w vs hS hv hr⟩

theorem awake_calls (L S : Nat → Prop) (w : World) (hS : ∀ k, S k → k < w.heap.size) :
    (∃ fn, EA.P.funcs[10]? = some fn ∧ fn.body.isSome = true ∧ (fn.name == "runtime.NumGoroutine") = false) ∧ Calls EA.P 10 #[] w (CallPost L S w [.p (.v (.bool true))]) := by
  obtain ⟨g1, g2⟩ := callP_sound (aexec_ok EA_ok prog_mix 100) (isTrueRC_eq awake_chk) S w hS #[] rfl (fun i hi => absurd hi (by simp))
  exact ⟨g1, g2.mono fun e w' h => callPost_mono h⟩

theorem EO_ok : PrimOk EO := fun f spec h => by
  have h' : (if (f == 103) = true then some cmpSpec else none) = some spec := h
  split at h'
  · rename_i hf
    rw [beq_iff_eq] at hf
    simp only [Option.some.injEq] at h'
    subst hf
    subst h'
    exact ⟨cmp_prim.1, fun args rcs hs L S w vs hS hv hr _ => cmp_prim.2 args rcs hs L S w vs hS hv hr⟩
  · cases h'

theorem weak_rep {S L : Nat → Prop} {w : World} (hL : ∀ B ct arr ty, w.heap[B]? = some (.cells arr ty ct) → L B → B < w.heap.size) {rc : RC} {v : Value} (h : RCRep S L w rc v) : PRep (fun k => S k ∨ (L k ∧ k < w.heap.size)) w rc.weak v := by
  cases rc with
  | p x => exact PRep.mono h (fun k hk => .inl hk) (fun _ _ => rfl)
  | own sz es =>
    obtain ⟨B, ct, arr, ty, rfl, q2, q3, q4, q5, q6, q7, q8⟩ := h
    show PRep _ w (can (.psl sz es)) _
    rcases can_raw (sz := sz) (es := es) with ⟨h1, h2⟩ | ⟨h1, h2⟩
    · rw [h2]; subst h1; exact .psl0 _ _ _
    · rw [h2]
      have hlt := (Array.getElem?_eq_some_iff.1 q2).1
      have hidx : ∀ i j, i < es.length → j < sz → i * sz + j < arr.size := fun i j hi hj => by
        rw [q3]
        exact Nat.lt_of_lt_of_le (idx_lt hi hj) (Nat.mul_le_mul_right _ q4)
      refine .psl sz es ⟨B, 0, none⟩ ct (fun i j => arr.getD (i * sz + j) undef) (List.length_pos_iff.2 h1) q4 (.inr ⟨q7, hlt⟩) rfl q5 (fun i j hi hj => ?_) (fun i j hi hj => (q6 i j hi hj).mono (fun k hk => .inl hk) (fun _ _ => rfl))
      have := hidx i j hi hj
      simp only [World.cell?, q2, Nat.zero_add]
      rw [Array.getD_eq_getD_getElem?, Array.getElem?_eq_getElem this]
      simp

theorem runPrim_ok {EX : Env} (hX : PrimOk EX) (hmix : EX.P.follows .mixedOrders = true) {n : Nat} {f : FuncId} {args : List RC} {rcs : List RC} (hs : runPrim EX n f args = some rcs) (L S : Nat → Prop) (w : World) (vs : Array Value) (hS : ∀ k, S k → k < w.heap.size) (hv : vs.size = args.length) (hr : ∀ i, i < args.length → RCRep S L w (args.getD i default) (vs.getD i undef)) :
    Calls EX.P f vs w (CallPost L S w rcs) := by
  have hx := callP_sound (aexec_ok hX hmix n) hs (fun k => S k ∨ (L k ∧ k < w.heap.size)) w (fun k hk => hk.elim (hS k) (fun h => h.2)) vs (by simpa using hv) (fun i hi => by
    have hi' : i < args.length := by simpa using hi
    have e : (args.map RC.weak).getD i undefA = (args.getD i default).weak := by
      rw [List.getD_eq_getElem?_getD, List.getElem?_map, List.getD_eq_getElem?_getD, List.getElem?_eq_getElem hi']
      rfl
    rw [e]
    exact weak_rep (fun B ct arr ty hb _ => (Array.getElem?_eq_some_iff.1 hb).1) (hr i hi'))
  refine hx.2.mono ?_
  rintro e w' ⟨v, S', h1, h2, h3, h4, h5, us, k1, k2, k3, k4⟩
  refine ⟨v, S', h1, ⟨h2.os, h2.tape, h2.output, h2.size, h2.drawn, fun k hk _ => h2.block k hk (fun hl => hl)⟩, fun k hk => h3 k (.inl hk), fun k hk => ?_, h5, us, k1, k2, fun i hi => ?_, k4⟩
  · rcases h4 k hk with (h | h) | h | h
    · exact .inl h
    · exact .inr (.inl h.1)
    · exact h.elim
    · exact .inr (.inr h)
  · have := k3 i hi
    revert this
    generalize rcs.getD i default = rc
    cases rc with
    | p x => exact id
    | own sz es =>
      rintro ⟨B, ct, arr, ty, q1, q2, q3, q4, q5, q6, q7, q8⟩
      exact ⟨B, ct, arr, ty, q1, q2, q3, q4, q5, q6, q7.elim (fun h => h.elim) .inr, q8⟩

theorem bd_Obj : Tryz.prog.funcs[88]? = some Tryz.f88 := by kernel_rfl
theorem ok_Obj : fnOk Tryz.f88 = true := by kernel_rfl
theorem nm_Obj : Tryz.f88.body.isSome = true ∧ (Tryz.f88.name == "runtime.NumGoroutine") = false := by
  constructor <;> kernel_rfl

/-- All that E0 takes by contract holds. -/
theorem E0_ok : PrimOk E0 := fun f spec h => by
  rw [E0_prim] at h
  by_cases ha : (f == 10) = true
  · rw [beq_iff_eq] at ha
    subst ha
    have hs : awakeSpec = spec := by
      have : some awakeSpec = some spec := h
      simpa using this
    subst hs
    refine ⟨(awake_calls (fun _ => False) (fun _ => False) ⟨#[], default, default, default, default⟩ (fun _ h => h.elim)).1, ?_⟩
    intro args rcs hs L S w vs hS hv hr _
    unfold awakeSpec at hs
    split at hs
    · simp only [Option.some.injEq] at hs
      subst hs
      have : vs = #[] := Array.eq_empty_of_size_eq_zero (by simpa using hv)
      subst this
      exact (awake_calls L S w hS).2
    · cases hs
  · by_cases ho : (f == 88) = true
    · rw [beq_iff_eq] at ho
      subst ho
      have hs : runPrim EO 100 88 = spec := by
        have : some (runPrim EO 100 88) = some spec := h
        simpa using this
      subst hs
      exact ⟨⟨_, bd_Obj, nm_Obj.1, nm_Obj.2⟩, fun args rcs hs L S w vs hS hv hr _ => runPrim_ok EO_ok prog_mix hs L S w vs hS hv hr⟩
    by_cases hc : (f == 103) = true
    · rw [beq_iff_eq] at hc
      subst hc
      have hs : cmpSpec = spec := by
        have : some cmpSpec = some spec := h
        simpa using this
      subst hs
      exact ⟨cmp_prim.1, fun args rcs hs L S w vs hS hv hr _ => cmp_prim.2 args rcs hs L S w vs hS hv hr⟩
    have h' : (if (f == 89) = true then some (cloneSpec 1) else if (f == 67) = true then some (cloneSpec 5) else none) = some spec := by
      rw [if_neg ha, if_neg ho, if_neg hc] at h
      exact h
    obtain ⟨h1, h2⟩ := clone_case h'
    exact ⟨h1, fun args rcs hs L S w vs hS hv hr _ => h2 args rcs hs L S w vs hS hv hr⟩

end Go.Abs
