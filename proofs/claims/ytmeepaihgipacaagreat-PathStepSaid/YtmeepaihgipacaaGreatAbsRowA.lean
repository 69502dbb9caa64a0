/-
The row of PathSlices: its frame around the runs of the abstract interpreter.
-/
import Derived.Test.YtmeepaihgipacaaGreatAbsLawA
import Derived.Test.YtmeepaihgipacaaGreatAbsAwkA
import Derived.Test.YtmeepaihgipacaaGreatAbsRead
import Derived.Test.YtmeepaihgipacaaGreatRows
import Derived.OpenShut
import Derived.Carry
set_option linter.unusedVariables false
set_option linter.unusedSimpArgs false
namespace Go.Abs
open Go.Proofs Go.RowKit

theorem prep_J {w : World} {v : JV} {cs : Array Value} (hl : cs.toList.length = 5) (h : ∀ j, j < 5 → PRep (AllS w) w ((cellsJ v).getD j undefA) (cs.toList.getD j undef)) : PRep (AllS w) w (encJ v) (.agg cs) := by
  have e : encJ v = .agg (cellsJ v) := by rw [cellsJ_eq]; rfl
  rw [e]
  refine .agg _ _ (by rw [ln_cellsJ]; simpa using hl) (fun i hi => ?_)
  rw [ln_cellsJ] at hi
  have := h i hi
  rwa [show cs.toList.getD i undef = cs.getD i undef from by simp [List.getD_eq_getElem?_getD, Array.getD_eq_getD_getElem?]] at this

/-- A law that answers true on all values leaves the memory below as it was. -/
theorem law_calls {f : FuncId} {args : List AV} (h : callF E0 f args = some [.p (.v (.bool true))]) (w : World) (vs : Array Value) (hvs : vs.size = args.length) (hr : ∀ i, i < args.length → PRep (AllS w) w (args.getD i undefA) (vs.getD i undef)) :
    Calls Tryz.prog f vs w fun e w' => e = .returned (.bool true) ∧ Below w.heap.size w w' := by
  obtain ⟨n, hn⟩ := callF_runs h
  refine (callP_sound (aexec_ok E0_ok prog_mix n) hn (AllS w) w (fun _ h => h) vs hvs hr).2.mono ?_
  rintro e w' ⟨v, S', rfl, hx, _, _, _, us, rfl, hus, hur, _⟩
  have h0 := hur 0 (by simp)
  have hv : us.getD 0 undef = .bool true := by
    have h1 : PRep S' w' (.v (.bool true)) (us.getD 0 undef) := h0
    generalize us.getD 0 undef = u at h1
    cases h1
    rfl
  have hs : us.size = 1 := by simpa using hus
  have h7 : us[0]'(by omega) = .bool true := by
    have h8 : us.getD 0 undef = us[0]'(by omega) := by
      rw [Array.getD_eq_getD_getElem?, Array.getElem?_eq_getElem (by omega)]
      exact Option.getD_some
    rw [← h8]
    exact hv
  have h9 : tupV us = .bool true := by
    unfold tupV
    rw [dif_pos hs]
    exact h7
  exact ⟨by rw [h9], ⟨hx.os, hx.tape, hx.output, hx.size, fun k hk => hx.block k hk (fun hl => hl)⟩⟩

end Go.Abs
