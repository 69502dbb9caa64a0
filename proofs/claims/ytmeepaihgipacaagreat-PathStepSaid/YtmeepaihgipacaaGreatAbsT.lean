/-
An abstract interpreter, part T: without fuel.
-/
import Derived.Test.YtmeepaihgipacaaGreatAbsR
set_option linter.unusedVariables false
set_option linter.unusedSimpArgs false
namespace Go.Abs

abbrev Rec := Code → St → Option (Ex × St)

def RecLe (r s : Rec) : Prop := ∀ c st x, r c st = some x → s c st = some x

theorem body_mono {E : Env} {r s : Rec} (h : RecLe r s) {f : FuncId} {args : List AV} {hp : AHeap} {nx : Nat} {x : List AV × St} (hb : body E r f args hp nx = some x) : body E s f args hp nx = some x := by
  unfold body at hb ⊢
  split at hb
  · split at hb
    · rename_i c hc
      split at hb
      · rename_i hok
        simp only [hc, hok, if_true]
        split at hb
        · rename_i st' h1; rw [h _ _ _ h1]; exact hb
        · rename_i st' h1; rw [h _ _ _ h1]; exact hb
        · cases hb
      · cases hb
    · cases hb
  · cases hb

theorem callP_mono {E : Env} {r s : Rec} (h : RecLe r s) {f : FuncId} {args : List AV} {x : List RC} (hb : callP E r f args = some x) : callP E s f args = some x := by
  unfold callP at hb ⊢
  split at hb
  · rename_i h1
    rw [body_mono h h1]
    exact hb
  · cases hb

theorem acall_mono {E : Env} {r s : Rec} (h : RecLe r s) {c : Call} {st : St} {x : Out} (hb : acall E r c st = some x) : acall E s c st = some x := by
  unfold acall at hb ⊢
  split at hb
  · split at hb
    · cases hb
    · rename_i hr
      rw [if_neg hr]
      split at hb
      · exact hb
      · simp only at hb ⊢
        split at hb
        · rename_i l h2
          simp only [Option.map_eq_some_iff] at hb ⊢
          obtain ⟨y, h3, h4⟩ := hb
          exact ⟨y, callP_mono h h3, h4⟩
        · cases hb
  · cases hb

theorem astep_mono {E : Env} {r s : Rec} (h : RecLe r s) {o : Oper} {st : St} {x : Out} (hb : astep E r o st = some x) : astep E s o st = some x := by
  unfold astep at hb ⊢
  split at hb
  · exact acall_mono h hb
  · exact hb
  · exact hb

theorem refCall_mono {E : Env} {r s : Rec} (h : RecLe r s) {o : Oper} {st : St} : (∀ x, refCall E r o st = some (some x) → refCall E s o st = some (some x)) ∧ (refCall E r o st = none → refCall E s o st = none) := by
  unfold refCall
  split
  · split
    · split
      · refine ⟨fun x hx => ?_, fun hx => by cases hx⟩
        simp only [Option.some.injEq, Option.map_eq_some_iff] at hx ⊢
        obtain ⟨y, h1, h2⟩ := hx
        exact ⟨y, body_mono h h1, h2⟩
      · exact ⟨fun x hx => (by cases hx), fun _ => rfl⟩
    · exact ⟨fun x hx => (by cases hx), fun _ => rfl⟩
  · exact ⟨fun x hx => (by cases hx), fun _ => rfl⟩

theorem aone_mono {E : Env} {r s : Rec} (h : RecLe r s) {o : Oper} {st : St} {x : St} (hb : aone E r o st = some x) : aone E s o st = some x := by
  unfold aone at hb ⊢
  split at hb
  · rename_i h1
    rw [(refCall_mono h).1 _ h1]
    exact hb
  · cases hb
  · rename_i h1
    rw [(refCall_mono h).2 h1]
    simp only [Option.map_eq_some_iff] at hb ⊢
    obtain ⟨y, h1, h2⟩ := hb
    exact ⟨y, astep_mono h h1, h2⟩

theorem areg_mono {E : Env} {r s : Rec} (h : RecLe r s) {ops : Array Oper} : ∀ {l : List Oper} {st : St} {x : St}, areg E r ops l st = some x → areg E s ops l st = some x
  | [], st, x, hb => hb
  | o :: l, st, x, hb => by
    simp only [areg] at hb ⊢
    split at hb
    · split at hb
      · rename_i h1
        rw [aone_mono h h1]
        exact areg_mono h hb
      · cases hb
    · exact areg_mono h hb
    · cases hb

theorem adraw_mono {E : Env} {r s : Rec} (h : RecLe r s) {ops : Array Oper} : ∀ {l : List Oper} {st : St} {tr : Trace} {x : St × Trace}, adraw E r ops l st tr = some x → adraw E s ops l st tr = some x
  | [], st, tr, x, hb => hb
  | o :: l, st, tr, x, hb => by
    simp only [adraw] at hb ⊢
    split at hb
    · split at hb
      · rename_i h1
        rw [astep_mono h h1]
        exact adraw_mono h hb
      · cases hb
    · exact adraw_mono h hb
    · cases hb

theorem aexec_up {E : Env} : ∀ n, RecLe (aexec E n) (aexec E (n + 1))
  | 0 => fun c st x h => by simp [aexec] at h
  | n + 1 => fun c st x h => by
    have ih := aexec_up (E := E) n
    cases c with
    | seq a b =>
      rw [aexec] at h ⊢
      rcases h1 : aexec E n a st with _ | ⟨e, st1⟩
      · rw [h1] at h; cases h
      · rw [h1] at h
        rw [ih _ _ _ h1]
        cases e with
        | normal => exact ih _ _ _ h
        | exit i => exact h
        | ret => exact h
    | cond y a b =>
      rw [aexec] at h ⊢
      split at h
      · exact ih _ _ _ h
      · cases h
    | block id b =>
      rw [aexec] at h ⊢
      rcases h1 : aexec E n b st with _ | ⟨e, st1⟩
      · rw [h1] at h; cases h
      · rw [h1] at h
        rw [ih _ _ _ h1]
        exact h
    | loop b =>
      rw [aexec] at h ⊢
      rcases h1 : aexec E n b st with _ | ⟨e, st1⟩
      · rw [h1] at h; cases h
      · rw [h1] at h
        rw [ih _ _ _ h1]
        cases e with
        | normal => exact ih _ _ _ h
        | exit i => exact h
        | ret => exact h
    | region id ops draw =>
      rw [aexec] at h ⊢
      split at h
      · rename_i hd
        rw [if_pos hd]
        split at h
        · rename_i h1
          rw [adraw_mono ih h1]
          exact h
        · cases h
      · rename_i hd
        rw [if_neg hd]
        simp only [Option.map_eq_some_iff] at h ⊢
        obtain ⟨y, h1, h2⟩ := h
        exact ⟨y, areg_mono ih h1, h2⟩
    | _ => exact h

theorem aexec_le {E : Env} {n k : Nat} (h : n ≤ k) : RecLe (aexec E n) (aexec E k) := by
  induction k with
  | zero => obtain rfl : n = 0 := (by omega); exact fun _ _ _ h => h
  | succ k ih =>
    rcases Nat.lt_or_ge n (k + 1) with h1 | h1
    · exact fun c st x h => aexec_up k c st x (ih (by omega) c st x h)
    · obtain rfl : n = k + 1 := (by omega); exact fun _ _ _ h => h

/-- What code yields, with fuel enough. -/
noncomputable def execF (E : Env) : Rec := fun c st => open Classical in if h : ∃ r n, aexec E n c st = some r then some h.choose else none

theorem execF_iff {E : Env} {c : Code} {st : St} {r : Ex × St} : execF E c st = some r ↔ ∃ n, aexec E n c st = some r := by
  unfold execF
  constructor
  · intro h
    split at h
    · rename_i hh
      simp only [Option.some.injEq] at h
      exact h ▸ hh.choose_spec
    · cases h
  · rintro ⟨n, hn⟩
    have hh : ∃ r n, aexec E n c st = some r := ⟨r, n, hn⟩
    rw [dif_pos hh]
    obtain ⟨k, hk⟩ := hh.choose_spec
    have h1 := aexec_le (Nat.le_max_left n k) _ _ _ hn
    have h2 := aexec_le (Nat.le_max_right n k) _ _ _ hk
    rw [h1] at h2
    exact h2.symm

theorem execF_of {E : Env} (n : Nat) : RecLe (aexec E n) (execF E) := fun c st r h => execF_iff.2 ⟨n, h⟩

/-- What uses a run is served by fuel enough. -/
theorem body_lim {E : Env} {f : FuncId} {args : List AV} {hp : AHeap} {nx : Nat} {x : List AV × St} (hb : body E (execF E) f args hp nx = some x) : ∃ n, body E (aexec E n) f args hp nx = some x := by
  unfold body at hb
  split at hb
  · rename_i fn hf
    split at hb
    · rename_i c hc
      split at hb
      · rename_i hok
        split at hb
        · rename_i st' h1
          obtain ⟨n, hn⟩ := execF_iff.1 h1
          exact ⟨n, by unfold body; simp only [hf, hc, hok, if_true, hn]; exact hb⟩
        · rename_i st' h1
          obtain ⟨n, hn⟩ := execF_iff.1 h1
          exact ⟨n, by unfold body; simp only [hf, hc, hok, if_true, hn]; exact hb⟩
        · cases hb
      · cases hb
    · cases hb
  · cases hb

theorem callP_lim {E : Env} {f : FuncId} {args : List AV} {x : List RC} (hb : callP E (execF E) f args = some x) : ∃ n, callP E (aexec E n) f args = some x := by
  unfold callP at hb
  split at hb
  · rename_i h1
    obtain ⟨n, hn⟩ := body_lim h1
    exact ⟨n, by unfold callP; rw [hn]; exact hb⟩
  · cases hb

theorem acall_lim {E : Env} {c : Call} {st : St} {x : Out} (hb : acall E (execF E) c st = some x) : ∃ n, acall E (aexec E n) c st = some x := by
  unfold acall at hb
  split at hb
  · rename_i f args hcal
    split at hb
    · cases hb
    · rename_i hr
      split at hb
      · rename_i spec hs
        exact ⟨0, by unfold acall; rw [hcal]; simp only; rw [if_neg hr, hs]; exact hb⟩
      · rename_i hs
        simp only at hb
        split at hb
        · rename_i l h2
          simp only [Option.map_eq_some_iff] at hb
          obtain ⟨y, h3, h4⟩ := hb
          obtain ⟨n, hn⟩ := callP_lim h3
          exact ⟨n, by unfold acall; rw [hcal]; simp only; rw [if_neg hr, hs]; simp only; rw [h2]; simp only; rw [hn, ← h4]; rfl⟩
        · cases hb
  · cases hb

theorem astep_lim {E : Env} {o : Oper} {st : St} {x : Out} (hb : astep E (execF E) o st = some x) : ∃ n, astep E (aexec E n) o st = some x := by
  unfold astep at hb
  split at hb
  · rename_i hop
    obtain ⟨n, hn⟩ := acall_lim hb
    exact ⟨n, by unfold astep; rw [hop]; exact hn⟩
  · rename_i hop
    exact ⟨0, by unfold astep; rw [hop]; exact hb⟩
  · rename_i hop hop2
    refine ⟨0, ?_⟩
    unfold astep
    split
    · rename_i h1
      exact absurd h1 (hop _ _ _)
    · rename_i h1
      exact absurd h1 (hop2 _ _ _)
    · exact hb

theorem aone_lim {E : Env} {o : Oper} {st : St} {x : St} (hb : aone E (execF E) o st = some x) : ∃ n, aone E (aexec E n) o st = some x := by
  unfold aone at hb
  split at hb
  · rename_i y hh nn h1
    have : ∃ n, refCall E (aexec E n) o st = some (some (y, hh, nn)) := by
      unfold refCall at h1
      split at h1
      · rename_i hop
        split at h1
        · rename_i hcal
          split at h1
          · rename_i hr
            simp only [Option.some.injEq, Option.map_eq_some_iff] at h1
            obtain ⟨z, h2, h3⟩ := h1
            obtain ⟨n, hn⟩ := body_lim h2
            exact ⟨n, by unfold refCall; rw [hop]; simp only; rw [hcal]; simp only; rw [if_pos hr, hn, ← h3]; rfl⟩
          · cases h1
        · cases h1
      · cases h1
    obtain ⟨n, hn⟩ := this
    exact ⟨n, by unfold aone; rw [hn]; exact hb⟩
  · cases hb
  · rename_i h1
    simp only [Option.map_eq_some_iff] at hb
    obtain ⟨y, h2, h3⟩ := hb
    obtain ⟨n, hn⟩ := astep_lim h2
    refine ⟨n, ?_⟩
    unfold aone
    have h0 : refCall E (aexec E n) o st = none := by
      cases hc : refCall E (aexec E n) o st with
      | none => rfl
      | some z =>
        cases z with
        | some z => rw [(refCall_mono (execF_of n)).1 _ hc] at h1; cases h1
        | none =>
          unfold refCall at hc h1
          split at hc
          · split at hc
            · split at hc
              · rename_i hop _ _ _ hcal hr
                rw [hop] at h1
                simp only at h1
                rw [hcal] at h1
                simp only at h1
                rw [if_pos hr] at h1
                cases h1
              · cases hc
            · cases hc
          · cases hc
    rw [h0, hn, ← h3]
    rfl

theorem areg_lim {E : Env} {ops : Array Oper} : ∀ {l : List Oper} {st : St} {x : St}, areg E (execF E) ops l st = some x → ∃ n, areg E (aexec E n) ops l st = some x
  | [], st, x, hb => ⟨0, hb⟩
  | o :: l, st, x, hb => by
    simp only [areg] at hb
    split at hb
    · rename_i hg
      split at hb
      · rename_i st' h1
        obtain ⟨n, hn⟩ := aone_lim h1
        obtain ⟨k, hk⟩ := areg_lim hb
        refine ⟨max n k, ?_⟩
        simp only [areg, hg, aone_mono (aexec_le (Nat.le_max_left n k)) hn]
        exact areg_mono (aexec_le (Nat.le_max_right n k)) hk
      · cases hb
    · rename_i hg
      obtain ⟨k, hk⟩ := areg_lim hb
      exact ⟨k, by simp only [areg, hg]; exact hk⟩
    · cases hb

theorem adraw_lim {E : Env} {ops : Array Oper} : ∀ {l : List Oper} {st : St} {tr : Trace} {x : St × Trace}, adraw E (execF E) ops l st tr = some x → ∃ n, adraw E (aexec E n) ops l st tr = some x
  | [], st, tr, x, hb => ⟨0, hb⟩
  | o :: l, st, tr, x, hb => by
    simp only [adraw] at hb
    split at hb
    · rename_i hg
      split at hb
      · rename_i st' h1
        obtain ⟨n, hn⟩ := astep_lim h1
        obtain ⟨k, hk⟩ := adraw_lim hb
        refine ⟨max n k, ?_⟩
        simp only [adraw, hg, astep_mono (aexec_le (Nat.le_max_left n k)) hn]
        exact adraw_mono (aexec_le (Nat.le_max_right n k)) hk
      · cases hb
    · rename_i hg
      obtain ⟨k, hk⟩ := adraw_lim hb
      exact ⟨k, by simp only [adraw, hg]; exact hk⟩
    · cases hb

/-! ### Code -/

noncomputable def callF (E : Env) (f : FuncId) (args : List AV) : Option (List RC) := callP E (execF E) f args

theorem callF_runs {E : Env} {f : FuncId} {args : List AV} {r : List RC} (h : callF E f args = some r) : Runs E f args r := callP_lim h

/-- What comes behind. -/
noncomputable def thenF (E : Env) (b : Code) : Option (Ex × St) → Option (Ex × St)
  | some (.normal, st) => execF E b st
  | r => r

def blockF (id : Nat) : Option (Ex × St) → Option (Ex × St)
  | some (.exit j, st) => some (if j = id then .normal else .exit j, st)
  | r => r

theorem opt_ext {α : Type} {x y : Option α} (h1 : ∀ r, x = some r → y = some r) (h2 : ∀ r, y = some r → x = some r) : x = y := by
  cases x with
  | some r => exact (h1 r rfl).symm
  | none => cases y with
    | some r => exact (h2 r rfl)
    | none => rfl

theorem execF_skip (E : Env) (st : St) : execF E .skip st = some (.normal, st) := execF_iff.2 ⟨1, rfl⟩
theorem execF_label (E : Env) (l : Nat) (st : St) : execF E (.label l) st = some (.normal, st) := execF_iff.2 ⟨1, rfl⟩
theorem execF_exit (E : Env) (id : Nat) (st : St) : execF E (.exit id) st = some (.exit id, st) := execF_iff.2 ⟨1, rfl⟩
theorem execF_ret (E : Env) (st : St) : execF E .ret st = some (.ret, st) := execF_iff.2 ⟨1, rfl⟩

theorem two_steps {E : Env} {a b : Code} {st : St} {r : Ex × St} (h : thenF E b (execF E a st) = some r) : ∃ n, (match aexec E n a st with
      | some (.normal, st') => aexec E n b st'
      | r => r) = some r := by
  rcases h1 : execF E a st with _ | ⟨e, st1⟩
  · rw [h1] at h; cases h
  · rw [h1] at h
    obtain ⟨n, hn⟩ := execF_iff.1 h1
    cases e with
    | normal =>
      obtain ⟨k, hk⟩ := execF_iff.1 h
      refine ⟨max n k, ?_⟩
      rw [aexec_le (Nat.le_max_left n k) _ _ _ hn]
      exact aexec_le (Nat.le_max_right n k) _ _ _ hk
    | exit i => exact ⟨n, by rw [hn]; exact h⟩
    | ret => exact ⟨n, by rw [hn]; exact h⟩

theorem steps_two {E : Env} {a b : Code} {st : St} {r : Ex × St} {n : Nat} (h : (match aexec E n a st with
      | some (.normal, st') => aexec E n b st'
      | r => r) = some r) : thenF E b (execF E a st) = some r := by
  rcases h1 : aexec E n a st with _ | ⟨e, st1⟩
  · rw [h1] at h; cases h
  · rw [h1] at h
    rw [execF_of n _ _ _ h1]
    cases e with
    | normal => exact execF_of n _ _ _ h
    | exit i => exact h
    | ret => exact h

theorem execF_seq (E : Env) (a b : Code) (st : St) : execF E (.seq a b) st = thenF E b (execF E a st) := by
  refine opt_ext (fun r h => ?_) (fun r h => ?_)
  · obtain ⟨n, hn⟩ := execF_iff.1 h
    cases n with
    | zero => simp [aexec] at hn
    | succ n => simp only [aexec] at hn; exact steps_two hn
  · obtain ⟨n, hn⟩ := two_steps h
    exact execF_iff.2 ⟨n + 1, by simp only [aexec]; exact hn⟩

theorem execF_loop (E : Env) (b : Code) (st : St) : execF E (.loop b) st = thenF E (.loop b) (execF E b st) := by
  refine opt_ext (fun r h => ?_) (fun r h => ?_)
  · obtain ⟨n, hn⟩ := execF_iff.1 h
    cases n with
    | zero => simp [aexec] at hn
    | succ n => simp only [aexec] at hn; exact steps_two hn
  · obtain ⟨n, hn⟩ := two_steps h
    exact execF_iff.2 ⟨n + 1, by simp only [aexec]; exact hn⟩

theorem execF_block (E : Env) (id : Nat) (b : Code) (st : St) : execF E (.block id b) st = blockF id (execF E b st) := by
  have key : ∀ n, aexec E (n + 1) (.block id b) st = blockF id (aexec E n b st) := by
    intro n
    rw [aexec]
    rcases aexec E n b st with _ | ⟨e, st1⟩
    · rfl
    · cases e <;> rfl
  refine opt_ext (fun r h => ?_) (fun r h => ?_)
  · obtain ⟨n, hn⟩ := execF_iff.1 h
    cases n with
    | zero => simp [aexec] at hn
    | succ n =>
      rw [key] at hn
      rcases h1 : aexec E n b st with _ | x
      · rw [h1] at hn; cases hn
      · rw [execF_of n _ _ _ h1, ← h1]; exact hn
  · rcases h1 : execF E b st with _ | x
    · rw [h1] at h; cases h
    · obtain ⟨n, hn⟩ := execF_iff.1 h1
      exact execF_iff.2 ⟨n + 1, by rw [key, hn, ← h1]; exact h⟩

def tt : AV → Prop
  | .v (.bool t) => t = true
  | _ => False
def ff : AV → Prop
  | .v (.bool t) => t = false
  | _ => False
instance (x : AV) : Decidable (tt x) := by unfold tt; split <;> infer_instance
instance (x : AV) : Decidable (ff x) := by unfold ff; split <;> infer_instance

theorem execF_cond (E : Env) (x : Operand) (a b : Code) (st : St) : execF E (.cond x a b) st = if tt (aevalO st.env x) then execF E a st else if ff (aevalO st.env x) then execF E b st else none := by
  have key : ∀ n, aexec E (n + 1) (.cond x a b) st = if tt (aevalO st.env x) then aexec E n a st else if ff (aevalO st.env x) then aexec E n b st else none := by
    intro n
    simp only [aexec]
    split
    · rename_i t ht
      rw [ht]
      cases t <;> simp [tt, ff]
    · rename_i hne
      have h1 : ¬ tt (aevalO st.env x) := by
        intro h
        unfold tt at h
        split at h
        · rename_i t ht; exact hne t ht
        · exact h
      have h2 : ¬ ff (aevalO st.env x) := by
        intro h
        unfold ff at h
        split at h
        · rename_i t ht; exact hne t ht
        · exact h
      rw [if_neg h1, if_neg h2]
  refine opt_ext (fun r h => ?_) (fun r h => ?_)
  · obtain ⟨n, hn⟩ := execF_iff.1 h
    cases n with
    | zero => simp [aexec] at hn
    | succ n =>
      rw [key] at hn
      split at hn <;> rename_i h1 <;> simp only [h1, if_true, if_false]
      · exact execF_of n _ _ _ hn
      · split at hn <;> rename_i h2 <;> simp only [h2, if_true, if_false]
        · exact execF_of n _ _ _ hn
        · cases hn
  · split at h <;> rename_i h1
    · obtain ⟨n, hn⟩ := execF_iff.1 h
      exact execF_iff.2 ⟨n + 1, by rw [key, if_pos h1]; exact hn⟩
    · split at h <;> rename_i h2
      · obtain ⟨n, hn⟩ := execF_iff.1 h
        exact execF_iff.2 ⟨n + 1, by rw [key, if_neg h1, if_pos h2]; exact hn⟩
      · cases h

theorem execF_region (E : Env) (id : Nat) (ops : Array Oper) (st : St) : execF E (.region id ops false) st = (areg E (execF E) ops ops.toList st).map fun st' => (.normal, st') := by
  refine opt_ext (fun r h => ?_) (fun r h => ?_)
  · obtain ⟨n, hn⟩ := execF_iff.1 h
    cases n with
    | zero => simp [aexec] at hn
    | succ n =>
      simp only [aexec, Bool.false_eq_true, if_false, Option.map_eq_some_iff] at hn ⊢
      obtain ⟨y, h1, h2⟩ := hn
      exact ⟨y, areg_mono (execF_of n) h1, h2⟩
  · simp only [Option.map_eq_some_iff] at h
    obtain ⟨y, h1, h2⟩ := h
    obtain ⟨n, hn⟩ := areg_lim h1
    exact execF_iff.2 ⟨n + 1, by simp only [aexec, Bool.false_eq_true, if_false, hn, ← h2]; rfl⟩

/-- A region with a drawn order, one operation after another. -/
theorem execF_draw0 (E : Env) (id : Nat) (ops : Array Oper) (st : St) : execF E (.region id ops true) st = (match adraw E (execF E) ops ops.toList st [] with
          | some (st', tr) => if traceOk (befores ops.toList) tr then some (.normal, st') else none
          | none => none) := by
  refine opt_ext (fun r h => ?_) (fun r h => ?_)
  · obtain ⟨n, hn⟩ := execF_iff.1 h
    cases n with
    | zero => simp [aexec] at hn
    | succ n =>
      simp only [aexec, if_true] at hn
      split at hn
      · rename_i h1
        rw [adraw_mono (execF_of n) h1]
        exact hn
      · cases hn
  · split at h
    · rename_i h1
      obtain ⟨n, hn⟩ := adraw_lim h1
      exact execF_iff.2 ⟨n + 1, by simp only [aexec, if_true, hn]; exact h⟩
    · cases h

/-- The same for operations that set nothing. -/
noncomputable def quietF (E : Env) (ops : Array Oper) : List Oper → St → Option St
  | [], st => some st
  | o :: r, st => match guardA ops st.env o with
    | some true => match astep E (execF E) o st with
      | some out => match out.upd with
        | [] => quietF E ops r (st.put o.dst out)
        | _ => none
      | none => none
    | some false => quietF E ops r (st.put o.dst skipOut)
    | none => none

theorem quietF_draw {E : Env} {ops : Array Oper} : ∀ {l : List Oper} {st st' : St} {tr : Trace}, quietF E ops l st = some st' → (∀ p ∈ tr, p.2 = []) → ∃ tr', adraw E (execF E) ops l st tr = some (st', tr') ∧ ∀ p ∈ tr', p.2 = []
  | [], st, st', tr, h, ht => by
    simp only [quietF, Option.some.injEq] at h
    subst h
    exact ⟨tr, rfl, ht⟩
  | o :: r, st, st', tr, h, ht => by
    simp only [quietF] at h
    unfold adraw
    split at h
    · rename_i hg
      simp only [hg]
      split at h
      · rename_i out ho
        simp only [ho]
        split at h
        · rename_i hu
          refine quietF_draw h (fun p hp => ?_)
          rcases List.mem_append.1 hp with hp | hp
          · exact ht p hp
          · simp only [List.mem_singleton] at hp
            subst hp
            simp [hu]
        · cases h
      · cases h
    · rename_i hg
      simp only [hg]
      refine quietF_draw h (fun p hp => ?_)
      rcases List.mem_append.1 hp with hp | hp
      · exact ht p hp
      · simp only [List.mem_singleton] at hp
        subst hp
        rfl
    · cases h

theorem meets_nil (l : List Nat) : meets [] l = false ∧ meets l [] = false := ⟨rfl, by simp [meets]⟩

theorem traceOk_quiet {bs : List (List Nat)} {tr : Trace} (h : ∀ p ∈ tr, p.2 = []) : traceOk bs tr = true := by
  have hd : ∀ i, (tr.getD i ([], [])).2 = [] := fun i => by
    rw [List.getD_eq_getElem?_getD]
    cases hh : tr[i]? with
    | none => rfl
    | some p => exact h p (List.mem_of_getElem? hh)
  unfold traceOk
  simp only [List.all_eq_true]
  intro j _ i _
  rw [hd i, hd j, (meets_nil _).1, (meets_nil _).1, (meets_nil _).2]
  rfl

noncomputable def slowF (E : Env) (id : Nat) (ops : Array Oper) (st : St) : Option (Ex × St) := execF E (.region id ops true) st

theorem execF_draw (E : Env) (id : Nat) (ops : Array Oper) (st : St) : execF E (.region id ops true) st = match quietF E ops ops.toList st with
    | some st' => some (.normal, st')
    | none => slowF E id ops st := by
  split
  · rename_i st' h
    obtain ⟨tr', h1, h2⟩ := quietF_draw (tr := []) h (fun p hp => by cases hp)
    rw [execF_draw0, h1]
    simp only [traceOk_quiet h2, if_true]
  · rfl

end Go.Abs
