/-
The program in sight, part W: types, functions, the environment.
-/
import Derived.Test.YtmeepaihgipacaaGreatAbsV
import Derived.Test.YtmeepaihgipacaaGreatChecked
import Derived.Lib.Bytealg
set_option linter.unusedVariables false
set_option linter.unusedSimpArgs false
namespace Go.Abs
open Go.Proofs

/-- What is taken by a contract. -/
def cloneOk (sz : Nat) (es : List (List AV)) : Bool := es.all (fun y => y.length == sz && y.all AV.isCell) && decide (es.length ≤ 4294967296)
/-- slices.Clone: rows of the caller's own. -/
def cloneSpec (sz : Nat) : List RC → Option (List RC)
  | [.p (.psl sz' es)] => if es.isEmpty then some [.p .e0] else if sz' = sz ∧ cloneOk sz es = true then (omap (omap (pur depth fun _ => none)) es).map fun es' => [.own sz es'] else none
  | _ => none
def awakeSpec : List RC → Option (List RC)
  | [] => some [.p (.v (.bool true))]
  | _ => none
/-- A function that is run in an environment of its own; rows that are handed over are only read. -/
def RC.weak : RC → AV
  | .p x => x
  | .own sz es => can (.psl sz es)
def runPrim (E : Env) (n : Nat) (f : FuncId) : List RC → Option (List RC) := fun args => callP E (aexec E n) f (args.map RC.weak)
/-- strings.Compare. -/
def cmpSpec : List RC → Option (List RC)
  | [.p (.v (.string a)), .p (.v (.string b))] => some [.p (.v (.int .i64 (Go.Lib.compareBytes a.data.toList b.data.toList)))]
  | _ => none
/-- For vals.Obj: the sorting of the members' names works on the caller's row. -/
noncomputable def EO : Env := ⟨Tryz.prog, fun f => f == 115 || f == 142 || f == 158, fun f => if (f == 103) = true then some cmpSpec else none, fun _ => false⟩
noncomputable def primOf : FuncId → Option (List RC → Option (List RC)) := fun f =>
  if (f == 89) = true then some (cloneSpec 1) else if (f == 67) = true then some (cloneSpec 5) else
  if (f == 10) = true then some awakeSpec else if (f == 88) = true then some (runPrim EO 100 88) else if (f == 103) = true then some cmpSpec else none
noncomputable def frzOf (f : Nat) : Bool := f == 35 || f == 50 || f == 47 || f == 39 || f == 53 || f == 118
noncomputable def E0 : Env := ⟨Tryz.prog, fun f => f == 77, primOf, frzOf⟩
theorem E0_P : E0.P = Tryz.prog := rfl
theorem E0_ref (f : Nat) : E0.ref f = (f == 77) := rfl
theorem E0_frz (f : Nat) : E0.frz f = frzOf f := rfl
theorem E0_prim (f : Nat) : E0.prim f = if (f == 89) = true then some (cloneSpec 1) else if (f == 67) = true then some (cloneSpec 5) else
  if (f == 10) = true then some awakeSpec else if (f == 88) = true then some (runPrim EO 100 88) else if (f == 103) = true then some cmpSpec else none := rfl

theorem el_Strs : aelem Tryz.prog 22 = some 9 := by kernel_rfl
theorem el_Vals : aelem Tryz.prog 23 = some 25 := by kernel_rfl
theorem el_str : aelem Tryz.prog 9 = none := by kernel_rfl
theorem sz_str : asize Tryz.prog 9 = some 1 := by kernel_rfl
theorem sz_int : asize Tryz.prog 3 = some 1 := by kernel_rfl
theorem sz_i64 : asize Tryz.prog 2 = some 1 := by kernel_rfl
theorem sz_Val : asize Tryz.prog 25 = some 5 := by kernel_rfl
theorem sz_Strs : asize Tryz.prog 22 = some 1 := by kernel_rfl
theorem sz_Vals : asize Tryz.prog 23 = some 1 := by kernel_rfl
theorem ag_str : aisAgg Tryz.prog 9 = some false := by kernel_rfl
theorem ag_int : aisAgg Tryz.prog 3 = some false := by kernel_rfl
theorem ag_i64 : aisAgg Tryz.prog 2 = some false := by kernel_rfl
theorem ag_Val : aisAgg Tryz.prog 25 = some true := by kernel_rfl
theorem ag_Strs : aisAgg Tryz.prog 22 = some false := by kernel_rfl
theorem ag_Vals : aisAgg Tryz.prog 23 = some false := by kernel_rfl
theorem fd_Kind : afield Tryz.prog 25 0 = some (0, 3) := by kernel_rfl
theorem fd_Int : afield Tryz.prog 25 1 = some (1, 2) := by kernel_rfl
theorem fd_Str : afield Tryz.prog 25 2 = some (2, 9) := by kernel_rfl
theorem fd_Keys : afield Tryz.prog 25 3 = some (3, 22) := by kernel_rfl
theorem fd_Elems : afield Tryz.prog 25 4 = some (4, 23) := by kernel_rfl
theorem ln_str (ty : TypeId) (s : ByteArray) : lenS Tryz.prog 9 ty (.v (.string s)) = some ⟨.v (.int .i64 s.size), [], 0⟩ := len_str (by kernel_rfl) ty s
theorem ze_Val : azero Tryz.prog 25 = some [.v (.int .i64 0), .v (.int .i64 0), .v (.string .empty), .v (.slice none 0 0), .v (.slice none 0 0)] := by kernel_rfl

theorem symP : type_of% @E0_P ∧ type_of% @E0_ref ∧ type_of% @E0_prim ∧ type_of% @el_Strs ∧ type_of% @el_Vals ∧ type_of% @el_str ∧ type_of% @sz_str ∧ type_of% @sz_int ∧ type_of% @sz_i64 ∧ type_of% @sz_Val ∧ type_of% @sz_Strs ∧ type_of% @sz_Vals ∧ type_of% @ag_str ∧ type_of% @ag_int ∧ type_of% @ag_i64 ∧ type_of% @ag_Val ∧ type_of% @ag_Strs ∧ type_of% @ag_Vals ∧
    type_of% @fd_Kind ∧ type_of% @fd_Int ∧ type_of% @fd_Str ∧ type_of% @fd_Keys ∧ type_of% @fd_Elems ∧ type_of% @ln_str ∧ type_of% @Nat.add_zero ∧ type_of% @Nat.zero_add :=
  ⟨@E0_P, @E0_ref, @E0_prim, @el_Strs, @el_Vals, @el_str, @sz_str, @sz_int, @sz_i64, @sz_Val, @sz_Strs, @sz_Vals, @ag_str, @ag_int, @ag_i64, @ag_Val, @ag_Strs, @ag_Vals, @fd_Kind, @fd_Int, @fd_Str, @fd_Keys, @fd_Elems, @ln_str, @Nat.add_zero, @Nat.zero_add⟩

theorem bd_Strings : Tryz.prog.funcs[38]? = some Tryz.f38 := by kernel_rfl
theorem ok_Strings : fnOk Tryz.f38 = true := by kernel_rfl
theorem bd_Same : Tryz.prog.funcs[14]? = some Tryz.f14 := by kernel_rfl
theorem ok_Same : fnOk Tryz.f14 = true := by kernel_rfl
theorem bd_Values : Tryz.prog.funcs[17]? = some Tryz.f17 := by kernel_rfl
theorem ok_Values : fnOk Tryz.f17 = true := by kernel_rfl

theorem wrap64 {z : Int} (h0 : -9223372036854775808 ≤ z) (h1 : z ≤ 9223372036854775807) : IntKind.i64.wrap z = z := by
  rw [IntKind.wrap_i64]; omega

set_option maxRecDepth 100000 in
theorem strings_loop (a b : List ByteArray) (hab : a.length = b.length) (hbig : a.length < 4611686018427387904) : ∀ (k i : Nat) (env : Nat → AV) (h : AHeap) (n : Nat) (R : Option (Ex × St)), execF E0 (loopN Tryz.f38 0) ⟨env, h, n⟩ = R → a.length - i = k → i ≤ a.length → env 0 = encS a → env 1 = encS b → env 5 = .v (.int .i64 i) →
    ∃ x env', R = some (x, ⟨env', h, n⟩) ∧ ((x = .ret ∧ env' 4 = .v (.bool false) ∧ a.drop i ≠ b.drop i) ∨ (x = .exit 0 ∧ a.drop i = b.drop i)) := by
  intro k
  induction k with
  | zero =>
    intro i env h n R hR hk hi h0 h1 h5
    have hil : ¬ ((i : Int) < a.length) := by omega
    simp only [loopN, Tryz.f38, loopsOf, List.append_nil, List.nil_append, List.getD_cons_zero, execF_loop, symS, symO, symC, symP, if_true, if_false, Nat.reduceEqDiff, Nat.reduceBEq, Bool.false_eq_true, h0, h1, h5, decide_eq_true_eq, hil] at hR
    exact ⟨_, _, hR.symm, .inr ⟨rfl, by rw [List.drop_eq_nil_of_le (by omega), List.drop_eq_nil_of_le (by omega)]⟩⟩
  | succ k ih =>
    intro i env h n R hR hk hi h0 h1 h5
    have hil : ((i : Int) < a.length) := by omega
    have hil' : ((i : Int) < b.length) := by omega
    have hi0 : (0 : Int) ≤ i := by omega
    have hw : IntKind.i64.wrap ((i : Int) + 1) = ((i + 1 : Nat) : Int) := by rw [wrap64 (by omega) (by omega)]; omega
    have hda : a.drop i = a.getD i .empty :: a.drop (i + 1) := by rw [List.getD_eq_getElem?_getD, List.getElem?_eq_getElem (by omega), Option.getD_some]; exact List.drop_eq_getElem_cons (by omega)
    have hdb : b.drop i = b.getD i .empty :: b.drop (i + 1) := by rw [List.getD_eq_getElem?_getD, List.getElem?_eq_getElem (by omega), Option.getD_some]; exact List.drop_eq_getElem_cons (by omega)
    simp only [loopN, Tryz.f38, loopsOf, List.append_nil, List.nil_append, List.getD_cons_zero] at hR
    rw [execF_loop] at hR
    simp only [symS, symO, symC, symP, if_true, if_false, Nat.reduceEqDiff, Nat.reduceBEq, Bool.false_eq_true, h0, h1, h5, decide_eq_true_eq, hil, hil', hi0, and_self, Int.toNat_natCast, decide_true, Bool.not_true, Bool.false_eq_true, hw] at hR
    by_cases heq : a.getD i .empty = b.getD i .empty
    · simp only [heq, decide_true, Bool.not_true, Bool.false_eq_true, if_false] at hR
      obtain ⟨x, env', rfl, hp⟩ := ih (i + 1) _ _ _ _ hR (by omega) (by omega) (by simp only [fset_app, Nat.reduceEqDiff, if_false, h0]) (by simp only [fset_app, Nat.reduceEqDiff, if_false, h1]) (by simp only [fset_app, if_true])
      refine ⟨x, env', rfl, ?_⟩
      rw [hda, hdb]
      rcases hp with ⟨h1, h2, h3⟩ | ⟨h1, h2⟩
      · exact .inl ⟨h1, h2, fun hh => h3 (List.cons.inj hh).2⟩
      · exact .inr ⟨h1, by rw [heq, h2]⟩
    · simp only [heq, decide_false, Bool.not_false, if_true] at hR
      exact ⟨_, _, hR.symm, .inl ⟨rfl, by simp only [fset_app, if_true], by rw [hda, hdb]; exact fun hh => heq (List.cons.inj hh).1⟩⟩

set_option maxRecDepth 100000 in
theorem strings_run (a b : List ByteArray) (hbig : a.length < 4611686018427387904) : callF E0 38 [encS a, encS b] = some [.p (.v (.bool (decide (a = b))))] := by
  rw [callF_fn bd_Strings ok_Strings]
  simp only [Tryz.f38, symS, symO, symC, symP, if_true, if_false, Nat.reduceEqDiff, Nat.reduceBEq, Bool.false_eq_true]
  by_cases hl : a.length = b.length
  · have h2 : ((a.length : Int) != b.length) = false := by simp [hl]
    simp only [h2, Bool.false_eq_true, if_false]
    generalize hR : execF E0 (Code.loop _) _ = R
    obtain ⟨x, env', rfl, hp⟩ := strings_loop a b hl hbig _ 0 _ _ _ _ hR rfl (Nat.zero_le _) rfl rfl rfl
    rcases hp with ⟨rfl, h3, h4⟩ | ⟨rfl, h4⟩
    · simp only [symS, h3, symC]
      rw [List.drop_zero, List.drop_zero] at h4
      simp only [h4, decide_false]
    · simp only [symS, symO, symC, symP, if_true, if_false, Nat.reduceEqDiff, Nat.reduceBEq, Bool.false_eq_true]
      rw [List.drop_zero, List.drop_zero] at h4
      simp only [h4, decide_true]
  · have h2 : ((a.length : Int) != b.length) = true := by simp [bne_iff_ne]; omega
    simp only [h2, if_true]
    have : a ≠ b := fun hh => hl (by rw [hh])
    simp only [this, decide_false]

theorem drop_getD {α : Type} (l : List α) (i : Nat) (d : α) (h : i < l.length) : l.drop i = l.getD i d :: l.drop (i + 1) := by
  rw [List.getD_eq_getElem?_getD, List.getElem?_eq_getElem h, Option.getD_some]
  exact List.drop_eq_getElem_cons h

set_option maxRecDepth 100000 in
theorem values_loop (l : List JV) (hbig : l.length < 1152921504606846976) (hs : ∀ e ∈ l, callF E0 14 [encJ e, encJ e] = some [.p (.v (.bool true))]) : ∀ (k i : Nat) (env : Nat → AV) (h : AHeap) (n : Nat) (R : Option (Ex × St)), execF E0 (loopN Tryz.f17 0) ⟨env, h, n⟩ = R → l.length - i = k → i ≤ l.length → env 0 = encL l → env 1 = encL l → env 5 = .v (.int .i64 i) →
    ∃ env', R = some (.exit 0, ⟨env', h, n⟩) := by
  intro k
  induction k with
  | zero =>
    intro i env h n R hR hk hi h0 h1 h5
    have hil : ¬ ((i : Int) < l.length) := by omega
    simp only [loopN, Tryz.f17, loopsOf, List.append_nil, List.nil_append, List.getD_cons_zero, execF_loop, symS, symO, symC, symP, if_true, if_false, Nat.reduceEqDiff, Nat.reduceBEq, Bool.false_eq_true, h0, h1, h5, decide_eq_true_eq, hil] at hR
    exact ⟨_, hR.symm⟩
  | succ k ih =>
    intro i env h n R hR hk hi h0 h1 h5
    have hil : ((i : Int) < l.length) := by omega
    have hi0 : (0 : Int) ≤ i := by omega
    have hw : IntKind.i64.wrap ((i : Int) + 1) = ((i + 1 : Nat) : Int) := by rw [wrap64 (by omega) (by omega)]; omega
    have hm : l.getD i default ∈ l := by rw [List.getD_eq_getElem?_getD, List.getElem?_eq_getElem (by omega), Option.getD_some]; exact List.getElem_mem _
    have hsi := hs _ hm
    simp only [loopN, Tryz.f17, loopsOf, List.append_nil, List.nil_append, List.getD_cons_zero] at hR
    rw [execF_loop] at hR
    simp only [symS, symO, symC, symP, if_true, if_false, Nat.reduceEqDiff, Nat.reduceBEq, Bool.false_eq_true, h0, h1, h5, decide_eq_true_eq, hil, hi0, and_self, Int.toNat_natCast, decide_true, Bool.not_true, Bool.false_eq_true, hw, hsi] at hR
    obtain ⟨env', rfl⟩ := ih (i + 1) _ _ _ _ hR (by omega) (by omega) (by simp only [fset_app, Nat.reduceEqDiff, if_false, h0]) (by simp only [fset_app, Nat.reduceEqDiff, if_false, h1]) (by simp only [fset_app, if_true])
    exact ⟨env', rfl⟩

set_option maxRecDepth 100000 in
theorem values_run (l : List JV) (hbig : l.length < 1152921504606846976) (hs : ∀ e ∈ l, callF E0 14 [encJ e, encJ e] = some [.p (.v (.bool true))]) : callF E0 17 [encL l, encL l] = some [.p (.v (.bool true))] := by
  rw [callF_fn bd_Values ok_Values]
  have h2 : ((l.length : Int) != l.length) = false := by simp
  simp only [Tryz.f17, symS, symO, symC, symP, if_true, if_false, Nat.reduceEqDiff, Nat.reduceBEq, Bool.false_eq_true, h2]
  generalize hR : execF E0 (Code.loop _) _ = R
  obtain ⟨env', rfl⟩ := values_loop l hbig hs _ 0 _ _ _ _ hR rfl (Nat.zero_le _) rfl rfl rfl
  simp only [symS, symO, symC, symP, if_true, if_false, Nat.reduceEqDiff]

set_option maxRecDepth 100000 in
theorem same_run (v : JV) (h : v.Ok) : callF E0 14 [encJ v, encJ v] = some [.p (.v (.bool true))] := by
  induction h with
  | mk k n s ks es hs hk hks hl he hr ih =>
    have h1 := values_run es hl ih
    have h2 := strings_run ks ks (by omega)
    generalize hv : JV.mk k n s ks es = v at *
    have e1 : v.keys = ks := by rw [← hv]; rfl
    have e2 : v.elems = es := by rw [← hv]; rfl
    rw [← e1] at h2
    rw [← e2] at h1
    rw [callF_fn bd_Same ok_Same]
    have hb : (v.kind == v.kind) = true := by simp
    have hb2 : (v.int == v.int) = true := by simp
    simp only [Tryz.f14, symS, symO, symC, symP, if_true, if_false, Nat.reduceEqDiff, Nat.reduceBEq, Nat.reduceAdd, Bool.false_eq_true, hb, hb2, decide_true, h1, h2, reduceCtorEq]

end Go.Abs
