/-
  NARROWER THAN 'FOR EVERY INPUT', by the rows' own cells (each row's printed sentence says how): PathSlices: loops · PathDelete: loops · PathSet: loops · PathEmpty: loops · PathAll: loops · PathStep: loops.
  DERIVED. THE GIVEN ROWS OF THIS SEAT. 6 by the template 'for every input the law returns true; each argument reads behind the call as it read before'; 0 by the template 'total and deterministic' (their statements: YtmeepaihgipacaaGreatTotals.lean).
  GIVEN WITH THE SEED: the statements are not yours to turn. If you find one false, say at which input.
  Laid BY PROGRAM, IN A SANDBOX (cutbox-rows.mjs): the forced cells as the released guide's own fill.sh prints them over the translation a28422fada772656… (all of the seat's roots in one cut). By AI agents, Wed Nov 11 2026. No macro, syntax, notation, axiom, sorry.
-/
import Derived.Test.YtmeepaihgipacaaGreatChecked
import GoSem.Claim
import GoSem.ClaimJoined
import GoSem.ClaimMapViews
import Derived.JoinedTies
import Derived.KernelRfl
namespace Go.Proofs.YtmeepaihgipacaaGreat
/- THE CELL 'sum', in the pinned program and in every row, IS THE sha256 OF THE DUMP (.gsa) THAT YtmeepaihgipacaaGreatProg.lean LOADS. Nothing in Lean hashes anything: it is a label: what it is worth is what the hold of that sum in a sandbox is worth. -/
noncomputable def Tryz.pinned : Pinned := { name := "ytmeepaihgipacaagreat", sum := "a28422fada772656188d496db44ac435cc34eb3163eaeca1db148b32e28ba99b", checked := Tryz.checked }
namespace Rows
def none {H : Type} : Left H := { results := [], args := [] }

/-- 'ndjqlaw07.PathSlices': WHATEVER THE INPUT: true; the input reads as it did. -/
def pathSlicesSpec : ChangeSpec := { name := "pathSlices", fn := fun _ => fun
  | [d1, d2, d3, d4] => { results := [.lit (.bool true)], args := [d1, d2, d3, d4] }
  | _ => none }
def pathSlicesRow : OpenClaim := { program := "ytmeepaihgipacaagreat", sum := "a28422fada772656188d496db44ac435cc34eb3163eaeca1db148b32e28ba99b", func := "ndjq/ndjqlaw07.PathSlices", spec := "pathSlices", inPlace := ["internal/bytealg.abigen_runtime_cmpstring", "slices.overlaps[ndjq/api.Value]"], unfollowed := true, recurses := true, loops := true, apart := false }
def PathSlicesSaid : Prop := pathSlicesRow.holds Tryz.pinned (OpenSpec.ofChange pathSlicesSpec)

/-- ITS FALSE NEIGHBOUR: 'it returns false'. Refute it at one input. -/
def pathSlicesWrong : ChangeSpec := { name := "pathSlices", fn := fun _ => fun
  | [d1, d2, d3, d4] => { results := [.lit (.bool false)], args := [d1, d2, d3, d4] }
  | _ => none }
def PathSlicesWrongFalsely : Prop := pathSlicesRow.holds Tryz.pinned (OpenSpec.ofChange pathSlicesWrong)

/-- 'ndjqlaw07.PathDelete': WHATEVER THE INPUT: true; the input reads as it did. -/
def pathDeleteSpec : ChangeSpec := { name := "pathDelete", fn := fun _ => fun
  | [d1, d2] => { results := [.lit (.bool true)], args := [d1, d2] }
  | _ => none }
def pathDeleteRow : OpenClaim := { program := "ytmeepaihgipacaagreat", sum := "a28422fada772656188d496db44ac435cc34eb3163eaeca1db148b32e28ba99b", func := "ndjq/ndjqlaw07.PathDelete", spec := "pathDelete", inPlace := ["internal/bytealg.abigen_runtime_cmpstring", "slices.overlaps[ndjq/api.Value]"], unfollowed := true, recurses := true, loops := true, apart := false }
def PathDeleteSaid : Prop := pathDeleteRow.holds Tryz.pinned (OpenSpec.ofChange pathDeleteSpec)

/-- ITS FALSE NEIGHBOUR: 'it returns false'. Refute it at one input. -/
def pathDeleteWrong : ChangeSpec := { name := "pathDelete", fn := fun _ => fun
  | [d1, d2] => { results := [.lit (.bool false)], args := [d1, d2] }
  | _ => none }
def PathDeleteWrongFalsely : Prop := pathDeleteRow.holds Tryz.pinned (OpenSpec.ofChange pathDeleteWrong)

/-- 'ndjqlaw07.PathSet': WHATEVER THE INPUT: true; the input reads as it did. -/
def pathSetSpec : ChangeSpec := { name := "pathSet", fn := fun _ => fun
  | [d1, d2, d3] => { results := [.lit (.bool true)], args := [d1, d2, d3] }
  | _ => none }
def pathSetRow : OpenClaim := { program := "ytmeepaihgipacaagreat", sum := "a28422fada772656188d496db44ac435cc34eb3163eaeca1db148b32e28ba99b", func := "ndjq/ndjqlaw07.PathSet", spec := "pathSet", inPlace := ["internal/bytealg.abigen_runtime_cmpstring", "slices.overlaps[ndjq/api.Value]", "slices.overlaps[string]"], unfollowed := true, recurses := true, loops := true, apart := false }
def PathSetSaid : Prop := pathSetRow.holds Tryz.pinned (OpenSpec.ofChange pathSetSpec)

/-- ITS FALSE NEIGHBOUR: 'it returns false'. Refute it at one input. -/
def pathSetWrong : ChangeSpec := { name := "pathSet", fn := fun _ => fun
  | [d1, d2, d3] => { results := [.lit (.bool false)], args := [d1, d2, d3] }
  | _ => none }
def PathSetWrongFalsely : Prop := pathSetRow.holds Tryz.pinned (OpenSpec.ofChange pathSetWrong)

/-- 'ndjqlaw07.PathEmpty': WHATEVER THE INPUT: true; the input reads as it did. -/
def pathEmptySpec : ChangeSpec := { name := "pathEmpty", fn := fun _ => fun
  | [d1, d2] => { results := [.lit (.bool true)], args := [d1, d2] }
  | _ => none }
def pathEmptyRow : OpenClaim := { program := "ytmeepaihgipacaagreat", sum := "a28422fada772656188d496db44ac435cc34eb3163eaeca1db148b32e28ba99b", func := "ndjq/ndjqlaw07.PathEmpty", spec := "pathEmpty", inPlace := ["internal/bytealg.abigen_runtime_cmpstring", "slices.overlaps[ndjq/api.Value]", "slices.overlaps[string]"], unfollowed := true, recurses := true, loops := true, apart := false }
def PathEmptySaid : Prop := pathEmptyRow.holds Tryz.pinned (OpenSpec.ofChange pathEmptySpec)

/-- ITS FALSE NEIGHBOUR: 'it returns false'. Refute it at one input. -/
def pathEmptyWrong : ChangeSpec := { name := "pathEmpty", fn := fun _ => fun
  | [d1, d2] => { results := [.lit (.bool false)], args := [d1, d2] }
  | _ => none }
def PathEmptyWrongFalsely : Prop := pathEmptyRow.holds Tryz.pinned (OpenSpec.ofChange pathEmptyWrong)

/-- 'ndjqlaw07.PathAll': WHATEVER THE INPUT: true; the input reads as it did. -/
def pathAllSpec : ChangeSpec := { name := "pathAll", fn := fun _ => fun
  | [d1, d2] => { results := [.lit (.bool true)], args := [d1, d2] }
  | _ => none }
def pathAllRow : OpenClaim := { program := "ytmeepaihgipacaagreat", sum := "a28422fada772656188d496db44ac435cc34eb3163eaeca1db148b32e28ba99b", func := "ndjq/ndjqlaw07.PathAll", spec := "pathAll", inPlace := ["internal/bytealg.abigen_runtime_cmpstring", "slices.overlaps[ndjq/api.Value]", "slices.overlaps[string]"], unfollowed := true, recurses := true, loops := true, apart := false }
def PathAllSaid : Prop := pathAllRow.holds Tryz.pinned (OpenSpec.ofChange pathAllSpec)

/-- ITS FALSE NEIGHBOUR: 'it returns false'. Refute it at one input. -/
def pathAllWrong : ChangeSpec := { name := "pathAll", fn := fun _ => fun
  | [d1, d2] => { results := [.lit (.bool false)], args := [d1, d2] }
  | _ => none }
def PathAllWrongFalsely : Prop := pathAllRow.holds Tryz.pinned (OpenSpec.ofChange pathAllWrong)

/-- 'ndjqlaw07.PathStep': WHATEVER THE INPUT: true; the input reads as it did. -/
def pathStepSpec : ChangeSpec := { name := "pathStep", fn := fun _ => fun
  | [d1, d2, d3, d4, d5] => { results := [.lit (.bool true)], args := [d1, d2, d3, d4, d5] }
  | _ => none }
def pathStepRow : OpenClaim := { program := "ytmeepaihgipacaagreat", sum := "a28422fada772656188d496db44ac435cc34eb3163eaeca1db148b32e28ba99b", func := "ndjq/ndjqlaw07.PathStep", spec := "pathStep", inPlace := ["internal/bytealg.abigen_runtime_cmpstring", "slices.overlaps[ndjq/api.Value]"], unfollowed := true, recurses := true, loops := true, apart := false }
def PathStepSaid : Prop := pathStepRow.holds Tryz.pinned (OpenSpec.ofChange pathStepSpec)

/-- ITS FALSE NEIGHBOUR: 'it returns false'. Refute it at one input. -/
def pathStepWrong : ChangeSpec := { name := "pathStep", fn := fun _ => fun
  | [d1, d2, d3, d4, d5] => { results := [.lit (.bool false)], args := [d1, d2, d3, d4, d5] }
  | _ => none }
def PathStepWrongFalsely : Prop := pathStepRow.holds Tryz.pinned (OpenSpec.ofChange pathStepWrong)

/- THE SECOND FORM. 'bulk': how many values and letters a reading holds, each counted each time it is reached (what is shared counts as often as it is met; a slice's spare places count too). A statement '..UptoSaid' is the law's where the arguments, and the package variables that the reading takes, are together of bulk at most 1048576: NARROWER than '..Said'. Prove '..Said' where nothing that the law and all that it calls make is longer than what came in: it says more and counts as full. Else prove '..UptoSaid'. A law counts once. -/
mutual
def uptoBulk {H : Type} : DataW H → Nat
  | .lit (.string bytes) => bytes.length + 1
  | .lit _ => 1
  | .nil => 1
  | .ptr d => uptoBulk d + 1
  | .slice elems spare => uptoBulkAll elems + uptoBulkAll spare + 1
  | .agg parts => uptoBulkAll parts + 1
  | .iface _ d => uptoBulk d + 1
  | .map entries => uptoBulkEntries entries + 1
  | .held _ => 1
def uptoBulkAll {H : Type} : List (DataW H) → Nat
  | [] => 0
  | d :: r => uptoBulk d + uptoBulkAll r
def uptoBulkEntries {H : Type} : List (Lit × DataW H) → Nat
  | [] => 0
  | x :: r => uptoBulkEntry x + uptoBulkEntries r
def uptoBulkEntry {H : Type} : Lit × DataW H → Nat
  | (.string bytes, d) => bytes.length + uptoBulk d + 1
  | (_, d) => uptoBulk d + 1
 end
def uptoSmall : (H : Type) → List (DataW H) → Bool := fun _ ds => decide (uptoBulkAll ds ≤ 1048576)
def OpenSpec.upto (s : _root_.Go.ChangeSpec) : _root_.Go.OpenSpec := { _root_.Go.OpenSpec.ofChange s with cond := some uptoSmall }

/-- 'ndjqlaw07.PathSlices', WHERE WHAT IT READS IS OF BULK AT MOST 1048576: true; the input reads as it did. -/
def pathSlicesUptoRow : OpenClaim := { program := "ytmeepaihgipacaagreat", sum := "a28422fada772656188d496db44ac435cc34eb3163eaeca1db148b32e28ba99b", func := "ndjq/ndjqlaw07.PathSlices", spec := "pathSlices", inPlace := ["internal/bytealg.abigen_runtime_cmpstring", "slices.overlaps[ndjq/api.Value]"], unfollowed := true, recurses := true, loops := true, apart := false, narrowed := true }
def PathSlicesUptoSaid : Prop := pathSlicesUptoRow.holds Tryz.pinned (OpenSpec.upto pathSlicesSpec)

/-- 'ndjqlaw07.PathDelete', WHERE WHAT IT READS IS OF BULK AT MOST 1048576: true; the input reads as it did. -/
def pathDeleteUptoRow : OpenClaim := { program := "ytmeepaihgipacaagreat", sum := "a28422fada772656188d496db44ac435cc34eb3163eaeca1db148b32e28ba99b", func := "ndjq/ndjqlaw07.PathDelete", spec := "pathDelete", inPlace := ["internal/bytealg.abigen_runtime_cmpstring", "slices.overlaps[ndjq/api.Value]"], unfollowed := true, recurses := true, loops := true, apart := false, narrowed := true }
def PathDeleteUptoSaid : Prop := pathDeleteUptoRow.holds Tryz.pinned (OpenSpec.upto pathDeleteSpec)

/-- 'ndjqlaw07.PathSet', WHERE WHAT IT READS IS OF BULK AT MOST 1048576: true; the input reads as it did. -/
def pathSetUptoRow : OpenClaim := { program := "ytmeepaihgipacaagreat", sum := "a28422fada772656188d496db44ac435cc34eb3163eaeca1db148b32e28ba99b", func := "ndjq/ndjqlaw07.PathSet", spec := "pathSet", inPlace := ["internal/bytealg.abigen_runtime_cmpstring", "slices.overlaps[ndjq/api.Value]", "slices.overlaps[string]"], unfollowed := true, recurses := true, loops := true, apart := false, narrowed := true }
def PathSetUptoSaid : Prop := pathSetUptoRow.holds Tryz.pinned (OpenSpec.upto pathSetSpec)

/-- 'ndjqlaw07.PathEmpty', WHERE WHAT IT READS IS OF BULK AT MOST 1048576: true; the input reads as it did. -/
def pathEmptyUptoRow : OpenClaim := { program := "ytmeepaihgipacaagreat", sum := "a28422fada772656188d496db44ac435cc34eb3163eaeca1db148b32e28ba99b", func := "ndjq/ndjqlaw07.PathEmpty", spec := "pathEmpty", inPlace := ["internal/bytealg.abigen_runtime_cmpstring", "slices.overlaps[ndjq/api.Value]", "slices.overlaps[string]"], unfollowed := true, recurses := true, loops := true, apart := false, narrowed := true }
def PathEmptyUptoSaid : Prop := pathEmptyUptoRow.holds Tryz.pinned (OpenSpec.upto pathEmptySpec)

/-- 'ndjqlaw07.PathAll', WHERE WHAT IT READS IS OF BULK AT MOST 1048576: true; the input reads as it did. -/
def pathAllUptoRow : OpenClaim := { program := "ytmeepaihgipacaagreat", sum := "a28422fada772656188d496db44ac435cc34eb3163eaeca1db148b32e28ba99b", func := "ndjq/ndjqlaw07.PathAll", spec := "pathAll", inPlace := ["internal/bytealg.abigen_runtime_cmpstring", "slices.overlaps[ndjq/api.Value]", "slices.overlaps[string]"], unfollowed := true, recurses := true, loops := true, apart := false, narrowed := true }
def PathAllUptoSaid : Prop := pathAllUptoRow.holds Tryz.pinned (OpenSpec.upto pathAllSpec)

/-- 'ndjqlaw07.PathStep', WHERE WHAT IT READS IS OF BULK AT MOST 1048576: true; the input reads as it did. -/
def pathStepUptoRow : OpenClaim := { program := "ytmeepaihgipacaagreat", sum := "a28422fada772656188d496db44ac435cc34eb3163eaeca1db148b32e28ba99b", func := "ndjq/ndjqlaw07.PathStep", spec := "pathStep", inPlace := ["internal/bytealg.abigen_runtime_cmpstring", "slices.overlaps[ndjq/api.Value]"], unfollowed := true, recurses := true, loops := true, apart := false, narrowed := true }
def PathStepUptoSaid : Prop := pathStepUptoRow.holds Tryz.pinned (OpenSpec.upto pathStepSpec)

end Rows
end Go.Proofs.YtmeepaihgipacaaGreat
