/-
The program in sight: strings.Compare keeps its contract (the walks are the shelf's, laid by its tool).
-/
import Derived.Test.YtmeepaihgipacaaGreatAbsW
import Derived.Lib.Strings
import Derived.Lib.Slices
import Derived.Lib.Walk
import Derived.Lib.Bytealg
set_option linter.unusedVariables false
set_option linter.unusedSimpArgs false
namespace Go.Proofs

set_option maxHeartbeats 1000000 in
set_option maxRecDepth 100000 in
theorem Tryz.bytealg_CompareString (a b : ByteArray) (w : World) :
    Calls Tryz.prog 132 #[.string a, .string b] w fun e w' => e = .returned (.int .i64 (Lib.compareBytes a.data.toList b.data.toList)) ∧ w' = w := by
  go_enter Tryz.func132, Tryz.ntmps132
  go_wp2
  rw [run_callFunc_extern Tryz.func151 (by kernel_rfl) (by kernel_rfl) (by kernel_rfl) (e := Extern.BytealgCompare.compare) (by kernel_rfl), Lib.run_compareString]
  simp only [Result.andThen]
  rw [Oper.upon_value]
  go_wp2
  go_ret
  exact ⟨rfl, rfl⟩

set_option maxHeartbeats 1000000 in
theorem Tryz.strings_Compare (a b : ByteArray) (w : World) :
    Calls Tryz.prog 103 #[.string a, .string b] w fun e w' => e = .returned (.int .i64 (Lib.compareBytes a.data.toList b.data.toList)) ∧ w' = w := by
  go_enter Tryz.func103, Tryz.ntmps103
  go_wp2_with (go_at_call 132; refine (Tryz.bytealg_CompareString _ _ _).mono ?_; rintro e w' ⟨rfl, rfl⟩)
  go_ret
  exact ⟨rfl, rfl⟩

end Go.Proofs

namespace Go.Abs
open Go.Proofs

theorem bd_Cmp : Tryz.prog.funcs[103]? = some Tryz.f103 := by kernel_rfl
theorem ok_Cmp : fnOk Tryz.f103 = true := by kernel_rfl
theorem nm_Cmp : Tryz.f103.body.isSome = true ∧ (Tryz.f103.name == "runtime.NumGoroutine") = false := by
  constructor <;> kernel_rfl

theorem cmp_prim :
    (∃ fn, Tryz.prog.funcs[103]? = some fn ∧ fn.body.isSome = true ∧ (fn.name == "runtime.NumGoroutine") = false) ∧
    ∀ args rcs, cmpSpec args = some rcs → ∀ (L S : Nat → Prop) (w : World) (vs : Array Value), (∀ k, S k → k < w.heap.size) → vs.size = args.length → (∀ i, i < args.length → RCRep S L w (args.getD i default) (vs.getD i undef)) → Calls Tryz.prog 103 vs w (CallPost L S w rcs) := by
  refine ⟨⟨_, bd_Cmp, nm_Cmp.1, nm_Cmp.2⟩, ?_⟩
  intro args rcs hs L S w vs hS hv hr
  unfold cmpSpec at hs
  split at hs
  · rename_i a b
    simp only [Option.some.injEq] at hs
    subst hs
    have h0 : PRep S w (.v (.string a)) (vs.getD 0 undef) := hr 0 (by simp)
    have h1 : PRep S w (.v (.string b)) (vs.getD 1 undef) := hr 1 (by simp)
    have e0 : vs.getD 0 undef = .string a := by
      generalize vs.getD 0 undef = u at h0
      cases h0; rfl
    have e1 : vs.getD 1 undef = .string b := by
      generalize vs.getD 1 undef = u at h1
      cases h1; rfl
    have hvs : vs = #[.string a, .string b] := by
      have hsz : vs.size = 2 := by simpa using hv
      apply Array.ext
      · simpa using hsz
      · intro i h2 h3
        have : vs.getD i undef = vs[i] := by rw [Array.getD_eq_getD_getElem?, Array.getElem?_eq_getElem h2]; exact Option.getD_some
        rw [← this]
        match i, h3 with
        | 0, _ => exact e0
        | 1, _ => exact e1
    subst hvs
    refine (Tryz.strings_Compare a b w).mono ?_
    rintro e w' ⟨rfl, rfl⟩
    refine ⟨_, S, rfl, Ext.refl _ _, fun _ h => h, fun _ h => .inl h, hS, #[_], rfl, rfl, fun i hi => ?_, Nat.zero_le _⟩
    obtain rfl : i = 0 := by simp at hi; exact hi
    exact .v _
  · cases hs

end Go.Abs
