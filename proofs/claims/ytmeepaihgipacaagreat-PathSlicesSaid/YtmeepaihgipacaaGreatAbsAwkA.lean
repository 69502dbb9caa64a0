/-
The program in sight: the sanity check awake answers true: run by the kernel; all contracts that E0 takes hold.
-/
import Derived.Test.YtmeepaihgipacaaGreatAbsClone
set_option linter.unusedVariables false
set_option linter.unusedSimpArgs false
namespace Go.Abs
open Go.Proofs

/-- The functions of the library that work on a row of the caller's are run on its heap. -/
noncomputable def EA : Env := ⟨Tryz.prog,
  fun f => f == 77 || f == 68 || f == 99 || f == 122 || f == 71 || f == 108,
  fun f => if (f == 89) = true then some (cloneSpec 1) else if (f == 67) = true then some (cloneSpec 5) else none,
  fun f => f == 50 || f == 39 || f == 118⟩

def isTrueRC : Option (List RC) → Bool
  | some [.p (.v (.bool true))] => true
  | _ => false
theorem isTrueRC_eq {x : Option (List RC)} (h : isTrueRC x = true) : x = some [.p (.v (.bool true))] := by
  unfold isTrueRC at h
  split at h
  · rfl
  · cases h

set_option maxRecDepth 1000000 in
theorem awake_chk : isTrueRC (callP EA (aexec EA 100) 10 []) = true := by decide +kernel

theorem clone_case {f : FuncId} {spec : List RC → Option (List RC)} (h : (if (f == 89) = true then some (cloneSpec 1) else if (f == 67) = true then some (cloneSpec 5) else none) = some spec) :
    (∃ fn, E1.P.funcs[f]? = some fn ∧ fn.body.isSome = true ∧ (fn.name == "runtime.NumGoroutine") = false) ∧
    ∀ args rcs, spec args = some rcs → ∀ (L S : Nat → Prop) (w : World) (vs : Array Value), (∀ k, S k → k < w.heap.size) → vs.size = args.length → (∀ i, i < args.length → RCRep S L w (args.getD i default) (vs.getD i undef)) → Calls E1.P f vs w (CallPost L S w rcs) := by
  split at h
  · rename_i hf
    simp only [Option.some.injEq] at h
    subst h
    rw [beq_iff_eq] at hf
    subst hf
    exact cloneS_prim
  · split at h
    · rename_i hf
      simp only [Option.some.injEq] at h
      subst h
      rw [beq_iff_eq] at hf
      subst hf
      exact cloneV_prim
    · cases h

theorem EA_ok : PrimOk EA := fun f spec h => by
  obtain ⟨h1, h2⟩ := clone_case h
  exact ⟨h1, fun args rcs hs L S w vs hS hv hr _ => h2 args rcs hs L S w vs hS hv hr⟩

theorem awake_calls (L S : Nat → Prop) (w : World) (hS : ∀ k, S k → k < w.heap.size) :
    (∃ fn, EA.P.funcs[10]? = some fn ∧ fn.body.isSome = true ∧ (fn.name == "runtime.NumGoroutine") = false) ∧ Calls EA.P 10 #[] w (CallPost L S w [.p (.v (.bool true))]) := by
  obtain ⟨g1, g2⟩ := callP_sound (aexec_ok EA_ok prog_mix 100) (isTrueRC_eq awake_chk) S w hS #[] rfl (fun i hi => absurd hi (by simp))
  exact ⟨g1, g2.mono fun e w' h => callPost_mono h⟩

/-- All that E0 takes by contract holds. -/
theorem E0_ok : PrimOk E0 := fun f spec h => by
  rw [E0_prim] at h
  by_cases ha : (f == 10) = true
  · rw [beq_iff_eq] at ha
    subst ha
    have hs : awakeSpec = spec := by
      have : some awakeSpec = some spec := h
      simpa using this
    subst hs
    refine ⟨(awake_calls (fun _ => False) (fun _ => False) ⟨#[], default, default, default, default⟩ (fun _ h => h.elim)).1, ?_⟩
    intro args rcs hs L S w vs hS hv hr _
    unfold awakeSpec at hs
    split at hs
    · simp only [Option.some.injEq] at hs
      subst hs
      have : vs = #[] := Array.eq_empty_of_size_eq_zero (by simpa using hv)
      subst this
      exact (awake_calls L S w hS).2
    · cases hs
  · have h' : (if (f == 89) = true then some (cloneSpec 1) else if (f == 67) = true then some (cloneSpec 5) else none) = some spec := by
      rw [if_neg ha] at h
      exact h
    obtain ⟨h1, h2⟩ := clone_case h'
    exact ⟨h1, fun args rcs hs L S w vs hS hv hr _ => h2 args rcs hs L S w vs hS hv hr⟩

end Go.Abs
