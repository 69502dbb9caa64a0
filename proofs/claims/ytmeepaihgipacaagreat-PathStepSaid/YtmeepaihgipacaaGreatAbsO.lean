/-
An abstract interpreter, part O: a step depends on what the operation looks at, alone.
-/
import Derived.Test.YtmeepaihgipacaaGreatAbsN
set_option linter.unusedVariables false
set_option linter.unusedSimpArgs false
namespace Go.Abs

theorem aop_local {P : Program} {o : Oper} {st g : St} (hd : ∀ x ∈ o.op.operands, aevalO g.env x = aevalO st.env x) (hh : ∀ x ∈ o.op.operands, ∀ b ∈ (aevalO st.env x).direct, g.heap b = st.heap b) (hn : g.nxt = st.nxt) : aop P o g = aop P o st := by
  have ap : (∀ cs b, o.op ≠ .select cs b) → apure P o g.env = apure P o st.env := fun hs => apure_local hs hd
  cases hop : o.op with
  | move x => simp only [aop, hop, hd x (by rw [hop]; simp [Op.operands])]
  | assign x => simp only [aop, hop, hd x (by rw [hop]; simp [Op.operands])]
  | pick c x y => simp only [aop, hop, hd c (by rw [hop]; simp [Op.operands]), hd x (by rw [hop]; simp [Op.operands]), hd y (by rw [hop]; simp [Op.operands])]
  | alloc t => simp only [aop, hop, hn]
  | box t x => simp only [aop, hop, hn, hd x (by rw [hop]; simp [Op.operands])]
  | build t parts =>
    have : (parts.toList.map fun p => (p.1, aevalO g.env p.2)) = parts.toList.map fun p => (p.1, aevalO st.env p.2) := List.map_congr_left (fun p hp => by
      rw [hd p.2 (by rw [hop]; simp only [Op.operands]; exact (List.mem_toArray).2 (List.mem_map.2 ⟨p, hp, rfl⟩))])
    simp only [aop, hop, this]
  | buildSlice t len parts =>
    have : (parts.toList.map fun p => (p.1, aevalO g.env p.2)) = parts.toList.map fun p => (p.1, aevalO st.env p.2) := List.map_congr_left (fun p hp => by
      rw [hd p.2 (by rw [hop]; simp only [Op.operands]; exact (List.mem_toArray).2 (List.mem_map.2 ⟨p, hp, rfl⟩))])
    simp only [aop, hop, this, hn]
  | load t x =>
    have e := hd x (by rw [hop]; simp [Op.operands])
    have hx := hh x (by rw [hop]; simp [Op.operands])
    simp only [aop, hop, e]
    revert hx
    generalize aevalO st.env x = y
    intro hx
    cases y <;> first | rfl | (rename_i b i off; simp only [hx b (by simp [AV.direct])])
  | store t x y =>
    have e := hd x (by rw [hop]; simp [Op.operands])
    have e2 := hd y (by rw [hop]; simp [Op.operands])
    have hx := hh x (by rw [hop]; simp [Op.operands])
    simp only [aop, hop, e, e2]
    revert hx
    generalize aevalO st.env x = z
    intro hx
    cases asize P t <;> cases z <;> first | rfl | (rename_i b i off; simp only [hx b (by simp [AV.direct])])
  | nilCheck x => simp only [aop, hop, hd x (by rw [hop]; simp [Op.operands])]
  | makeFunc fn first caps =>
    cases fn with
    | func f =>
      have : caps.toList.map (aevalO g.env) = caps.toList.map (aevalO st.env) := List.map_congr_left (fun x hx => hd x (by rw [hop]; simp only [Op.operands]; exact Array.mem_append.2 (.inr (Array.mem_toList_iff.1 hx))))
      simp only [aop, hop]
      split
      · simp only [this]
      · rfl
    | _ => simp only [aop, hop]
  | makeSlice t x y => simp only [aop, hop, hn, hd x (by rw [hop]; simp [Op.operands]), hd y (by rw [hop]; simp [Op.operands])]
  | slice t x lo hi mx =>
    have e := hd x (by rw [hop]; simp [Op.operands])
    have hx := hh x (by rw [hop]; simp [Op.operands])
    have e1 : bint lo (aevalO g.env) = bint lo (aevalO st.env) := by
      cases lo with
      | none => rfl
      | some y => simp only [bint, hd y (by rw [hop]; simp [Op.operands])]
    have e2 : bint hi (aevalO g.env) = bint hi (aevalO st.env) := by
      cases hi with
      | none => rfl
      | some y => simp only [bint, hd y (by rw [hop]; simp [Op.operands])]
    have e3 : bint mx (aevalO g.env) = bint mx (aevalO st.env) := by
      cases mx with
      | none => rfl
      | some y => simp only [bint, hd y (by rw [hop]; simp [Op.operands])]
    have e4 := ap (fun cs b => by rw [hop]; simp)
    simp only [aop, hop, e, e1, e2, e3, e4]
    revert hx
    generalize aevalO st.env x = z
    generalize bint lo (aevalO st.env) = b1
    generalize bint hi (aevalO st.env) = b2
    generalize bint mx (aevalO st.env) = b3
    generalize apure P o st.env = ap1
    intro hx
    by_cases hz : ∃ b i off, z = .sl b i off
    · obtain ⟨b, i, off, rfl⟩ := hz
      simp only [hx b (by simp [AV.direct])]
    · cases ha : aelem P t with
      | none => cases z <;> rfl
      | some e =>
        cases b1 <;> cases b2 <;> cases b3 <;> first | (cases z <;> rfl) | skip
        cases hs : asize P e with
        | none => cases z <;> simp only [hs]
        | some sz =>
          simp only [hs]
          cases z <;> first | rfl | (rename_i x; cases x <;> first | rfl | (rename_i A l c; cases A <;> cases l <;> cases c <;> rfl)) | exact absurd ⟨_, _, _, rfl⟩ hz
  | fieldAddr s x f => simp only [aop, hop, hd x (by rw [hop]; simp [Op.operands])]
  | field s x f => simp only [aop, hop, hd x (by rw [hop]; simp [Op.operands])]
  | indexAddr t x y =>
    have e := hd x (by rw [hop]; simp [Op.operands])
    have e2 := hd y (by rw [hop]; simp [Op.operands])
    have hx := hh x (by rw [hop]; simp [Op.operands])
    simp only [aop, hop, e, e2]
    revert hx
    generalize aevalO st.env x = z
    generalize aint (aevalO st.env y) = k
    intro hx
    by_cases hz : ∃ b i off, z = .sl b i off
    · obtain ⟨b, i, off, rfl⟩ := hz
      simp only [hx b (by simp [AV.direct])]
    · cases ha : aelem P t with
      | none => rfl
      | some e =>
        cases k with
        | none => rfl
        | some k =>
          simp only
          cases hs : asize P e with
          | none => rfl
          | some sz =>
            simp only
            cases z <;> first | rfl | exact absurd ⟨_, _, _, rfl⟩ hz
  | extract x i => simp only [aop, hop, hd x (by rw [hop]; simp [Op.operands])]
  | binOp b t x y u => simp only [aop, hop, hd x (by rw [hop]; simp [Op.operands]), hd y (by rw [hop]; simp [Op.operands]), ap (fun cs b => by rw [hop]; simp)]
  | unOp => simp only [aop, hop, ap (fun cs b => by rw [hop]; simp)]
  | convert src dst x =>
    have e := hd x (by rw [hop]; simp [Op.operands])
    have hx := hh x (by rw [hop]; simp [Op.operands])
    have ea : aread g.heap P (aevalO st.env x) = aread st.heap P (aevalO st.env x) := aread_local hx
    simp only [aop, hop, e, ap (fun cs b => by rw [hop]; simp)]
    revert ea
    generalize aevalO st.env x = y
    intro ea
    cases y <;> first | rfl | simp only [ea]
  | index => simp only [aop, hop, ap (fun cs b => by rw [hop]; simp)]
  | call c =>
    obtain ⟨callee, args, ats⟩ := c
    have ha : args.toList.map (aevalO g.env) = args.toList.map (aevalO st.env) := List.map_congr_left (fun x hx => hd x (by rw [hop]; simp only [Op.operands, Call.operands]; exact Array.mem_append.2 (.inr (Array.mem_toList_iff.1 hx))))
    have hb : ∀ y ∈ args.toList.map (aevalO st.env), ∀ b ∈ y.direct, g.heap b = st.heap b := fun y hy => by
      obtain ⟨x, hx, rfl⟩ := List.mem_map.1 hy
      exact hh x (by rw [hop]; simp only [Op.operands, Call.operands]; exact Array.mem_append.2 (.inr (Array.mem_toList_iff.1 hx)))
    cases callee with
    | builtin b =>
      cases b with
      | len => simp only [aop, hop, ha, ap (fun cs b => by rw [hop]; simp)]
      | append =>
        simp only [aop, hop, ha, hn]
        revert hb
        generalize args.toList.map (aevalO st.env) = l
        generalize ats.toList = tl
        intro hb
        by_cases hz : ∃ d s, l = [d, s]
        · obtain ⟨d, s, rfl⟩ := hz
          have h1 : aread g.heap P s = aread st.heap P s := aread_local (hb s (by simp))
          have h2 := hb d (by simp)
          rcases tl with _ | ⟨t, _ | ⟨u, _ | ⟨_, _⟩⟩⟩ <;> try rfl
          dsimp only
          rw [h1]
          by_cases htu : t ≠ u
          · simp only [if_pos htu]
          · simp only [if_neg htu]
            cases aelem P t with
            | none => rfl
            | some e =>
              dsimp only
              cases azero P e <;> try rfl
              cases asize P e <;> try rfl
              cases abytes P e <;> try rfl
              cases aread st.heap P s <;> try rfl
              rename_i z sz by_ xs
              dsimp only
              split
              · rfl
              · by_cases hd : ∃ b i off, d = .sl b i off
                · obtain ⟨b, i, off, rfl⟩ := hd
                  have h3 := h2 b (by simp [AV.direct])
                  cases i <;> cases xs <;> first | rfl | simp only [h3]
                · cases xs <;> cases d <;> first | rfl | (rename_i x; cases x <;> first | rfl | (rename_i A l c; cases A <;> cases l <;> cases c <;> rfl)) | exact absurd ⟨_, _, _, rfl⟩ hd
        · split
          · rename_i d s t u
            exact absurd ⟨d, s, rfl⟩ hz
          · rfl
      | copy =>
        simp only [aop, hop, ha, hn]
        revert hb
        generalize args.toList.map (aevalO st.env) = l
        generalize ats.toList = tl
        intro hb
        by_cases hz : ∃ b i off s, l = [.sl b i off, s]
        · obtain ⟨b, i, off, s, rfl⟩ := hz
          have h1 : aread g.heap P s = aread st.heap P s := aread_local (hb s (by simp))
          have h2 := hb (.sl b i off) (by simp) b (by simp [AV.direct])
          rcases tl with _ | ⟨t, _ | ⟨u, _ | ⟨_, _⟩⟩⟩ <;> try rfl
          simp only [h1, h2]
        · split
          · rename_i b o len s t u
            exact absurd ⟨b, o, len, s, rfl⟩ hz
          · rfl
      | clear =>
        simp only [aop, hop, ha, hn]
        revert hb
        generalize args.toList.map (aevalO st.env) = l
        generalize ats.toList = tl
        intro hb
        by_cases hz : ∃ b i off, l = [.sl b i off]
        · obtain ⟨b, i, off, rfl⟩ := hz
          have h2 := hb (.sl b i off) (by simp) b (by simp [AV.direct])
          rcases tl with _ | ⟨t, _ | ⟨_, _⟩⟩ <;> try rfl
          simp only [h2]
        · split
          · rename_i b o len t
            exact absurd ⟨b, o, len, rfl⟩ hz
          · rfl
          · rfl
      | max => simp only [aop, hop, ap (fun cs b => by rw [hop]; simp)]
      | min => simp only [aop, hop, ap (fun cs b => by rw [hop]; simp)]
      | _ => simp only [aop, hop]
    | _ => simp only [aop, hop]
  | _ => simp only [aop, hop]

theorem calleeOf_local {c : Call} {e f : Nat → AV} (h : ∀ x ∈ c.operands, aevalO f x = aevalO e x) : calleeOf (aevalO f) c = calleeOf (aevalO e) c := by
  have ha : c.args.toList.map (aevalO f) = c.args.toList.map (aevalO e) := List.map_congr_left (fun x hx => h x (by simp only [Call.operands]; exact Array.mem_append.2 (.inr (Array.mem_toList_iff.1 hx))))
  unfold calleeOf
  cases hc : c.callee with
  | value x => simp only [ha, h x (by simp [Call.operands, hc])]
  | _ => rfl

theorem acall_local {E : Env} {rec : Code → St → Option (Ex × St)} {c : Call} {st g : St} (hd : ∀ x ∈ c.operands, aevalO g.env x = aevalO st.env x) (hh : ∀ f l, calleeOf (aevalO st.env) c = some (f, l) → ∀ b ∈ l.flatMap (reach (depth + 1) st.heap), g.heap b = st.heap b) (hn : g.nxt = st.nxt) : acall E rec c g = acall E rec c st := by
  unfold acall
  rw [calleeOf_local hd]
  cases hc : calleeOf (aevalO st.env) c with
  | none => rfl
  | some p =>
    obtain ⟨f, l⟩ := p
    have hl := hh f l hc
    have hx : ∀ x ∈ l, ∀ b ∈ reach (depth + 1) st.heap x, g.heap b = st.heap b := fun x hx b hb => hl b (List.mem_flatMap.2 ⟨x, hx, hb⟩)
    have hr : ∀ x ∈ l, reach depth g.heap x = reach depth st.heap x := fun x hx' => reach_local depth x (fun b hb => hx x hx' b (reach_succ _ _ _ _ hb))
    have ho : ∀ x ∈ l, ownOf g.heap x = ownOf st.heap x := fun x hx' => ownOf_local (hx x hx')
    have hmapR : ∀ u, mapR g u = mapR st u := fun u => by funext r; simp only [mapR, hn]
    have hes : ∀ (R : List Nat) b, (applyUpd st.heap (freezes st.heap R) b).map Blk.es = (st.heap b).map Blk.es := fun R b => by
      rw [freezes_apply]
      split
      · cases st.heap b <;> rfl
      · rfl
    simp only
    split
    · rfl
    · cases hp : E.prim f with
      | none =>
        have hR : l.flatMap (reach depth g.heap) = l.flatMap (reach depth st.heap) := flatMap_congr' hr
        have hF : freezes g.heap (l.flatMap (reach depth st.heap)) = freezes st.heap (l.flatMap (reach depth st.heap)) := freezes_local (fun b hb => by
          obtain ⟨x, hx', hb⟩ := List.mem_flatMap.1 hb
          exact hx x hx' b (reach_succ _ _ _ _ hb))
        simp only [hR, hF]
        have hfr : ∀ c ∈ l.flatMap (reach depth st.heap), g.heap c = st.heap c := fun b hb => by
          obtain ⟨x, hx', hb⟩ := List.mem_flatMap.1 hb
          exact hx x hx' b (reach_succ _ _ _ _ hb)
        have hpur : omap (pur depth (applyUpd g.heap (freezes st.heap (l.flatMap (reach depth st.heap))))) l = omap (pur depth (applyUpd st.heap (freezes st.heap (l.flatMap (reach depth st.heap))))) l := omap_congr (fun x hx' => by
          refine pur_local (hes _) depth x (fun b hb => ?_)
          rw [freezes_apply2 _ _ _ _ hfr, freezes_apply]
          split
          · rfl
          · exact hx x hx' b (reach_succ _ _ _ _ hb))
        rw [hpur]
        simp only [hmapR]
      | some spec =>
        have hpr : ∀ x ∈ l, primReach g.heap x = primReach st.heap x := fun x hx' => by
          unfold primReach
          rw [ho x hx']
          cases hox : ownOf st.heap x with
          | none => exact hr x hx'
          | some b =>
            obtain ⟨blk, hce, hb, hlv⟩ := ownOf_some hox
            have hbx : g.heap b = st.heap b := hx x hx' b (by rw [hce, reach]; exact List.mem_cons_self ..)
            simp only [hbx, hb]
            exact flatMap_congr' (fun e he => flatMap_congr' (fun c hc => reach_local depth c (fun b' hb' => hx x hx' b' (by
              rw [hce, reach, hb]
              exact List.mem_cons_of_mem _ (List.mem_flatMap.2 ⟨e, he, List.mem_flatMap.2 ⟨c, hc, hb'⟩⟩)))))
        have hsub : ∀ x ∈ l, ∀ b ∈ primReach st.heap x, b ∈ reach (depth + 1) st.heap x := fun x hx' b hb => by
          unfold primReach at hb
          cases hox : ownOf st.heap x with
          | none => rw [hox] at hb; exact reach_succ _ _ _ _ hb
          | some b' =>
            obtain ⟨blk, hce, hb', hlv⟩ := ownOf_some hox
            rw [hox] at hb
            simp only [hb'] at hb
            rw [hce, reach, hb']
            exact List.mem_cons_of_mem _ hb
        have hR : l.flatMap (primReach g.heap) = l.flatMap (primReach st.heap) := flatMap_congr' hpr
        have hF : freezes g.heap (l.flatMap (primReach st.heap)) = freezes st.heap (l.flatMap (primReach st.heap)) := freezes_local (fun b hb => by
          obtain ⟨x, hx', hb⟩ := List.mem_flatMap.1 hb
          exact hx x hx' b (hsub x hx' b hb))
        have hO : l.filterMap (ownOf g.heap) = l.filterMap (ownOf st.heap) := by
          have : ∀ l' : List AV, (∀ x ∈ l', x ∈ l) → l'.filterMap (ownOf g.heap) = l'.filterMap (ownOf st.heap) := by
            intro l'
            induction l' with
            | nil => intro _; rfl
            | cons x r ih => intro h'; rw [List.filterMap_cons, List.filterMap_cons, ho x (h' x (List.mem_cons_self ..)), ih (fun y hy => h' y (List.mem_cons_of_mem _ hy))]
          exact this l (fun _ h => h)
        simp only [hR, hF, hO]
        have hfr : ∀ c ∈ l.flatMap (primReach st.heap), g.heap c = st.heap c := fun b hb => by
          obtain ⟨x, hx', hb⟩ := List.mem_flatMap.1 hb
          exact hx x hx' b (hsub x hx' b hb)
        have hA : ∀ l' : List AV, (∀ x ∈ l', x ∈ l) → primArgs (applyUpd g.heap (freezes st.heap (l.flatMap (primReach st.heap)))) l' = primArgs (applyUpd st.heap (freezes st.heap (l.flatMap (primReach st.heap)))) l' := by
          intro l'
          induction l' with
          | nil => intro _; rfl
          | cons x r ih =>
            intro h'
            have hxl := h' x (List.mem_cons_self ..)
            have hag : ∀ b ∈ reach (depth + 1) st.heap x, applyUpd g.heap (freezes st.heap (l.flatMap (primReach st.heap))) b = applyUpd st.heap (freezes st.heap (l.flatMap (primReach st.heap))) b := fun b hb => by
              rw [freezes_apply2 _ _ _ _ hfr, freezes_apply]
              split
              · rfl
              · exact hx x hxl b hb
            have ho' : ownOf (applyUpd g.heap (freezes st.heap (l.flatMap (primReach st.heap)))) x = ownOf (applyUpd st.heap (freezes st.heap (l.flatMap (primReach st.heap)))) x := by
              unfold ownOf
              split
              · rename_i b len
                rw [hag b (by rw [reach]; exact List.mem_cons_self ..)]
              · rfl
            simp only [primArgs, ho', ih (fun y hy => h' y (List.mem_cons_of_mem _ hy))]
            cases hox : ownOf (applyUpd st.heap (freezes st.heap (l.flatMap (primReach st.heap)))) x with
            | none =>
              simp only [pur_local (hes _) depth x (fun b hb => hag b (reach_succ _ _ _ _ hb))]
              cases primArgs (applyUpd st.heap (freezes st.heap (l.flatMap (primReach st.heap)))) r <;> rfl
            | some b =>
              obtain ⟨blk, hce, hb, hlv⟩ := ownOf_some hox
              have hbx := hag b (by rw [hce, reach]; exact List.mem_cons_self ..)
              obtain ⟨blk0, hb0, he0⟩ : ∃ k, st.heap b = some k ∧ k.es = blk.es := by
                have := hes (l.flatMap (primReach st.heap)) b
                rw [hb] at this
                cases h2 : st.heap b with
                | none => rw [h2] at this; cases this
                | some k => rw [h2] at this; simp at this; exact ⟨k, rfl, this.symm⟩
              have hp2 : omap (omap (pur depth (applyUpd g.heap (freezes st.heap (l.flatMap (primReach st.heap)))))) blk.es = omap (omap (pur depth (applyUpd st.heap (freezes st.heap (l.flatMap (primReach st.heap)))))) blk.es := omap_congr (fun e he => omap_congr (fun c hc => pur_local (hes _) depth c (fun b' hb' => hag b' (by
                rw [hce, reach, hb0]
                simp only [he0]
                exact List.mem_cons_of_mem _ (List.mem_flatMap.2 ⟨e, he, List.mem_flatMap.2 ⟨c, hc, hb'⟩⟩)))))
              cases primArgs (applyUpd st.heap (freezes st.heap (l.flatMap (primReach st.heap)))) r with
              | none => rfl
              | some l2 => simp only [hbx, hb, hp2]
        rw [hA l (fun _ h => h)]
        simp only [hmapR]

/-- A step depends on what the operation looks at, alone. -/
theorem astep_local {E : Env} {rec : Code → St → Option (Ex × St)} {o : Oper} {st g : St} (hd : ∀ x ∈ o.op.operands, aevalO g.env x = aevalO st.env x) (hh : ∀ b ∈ ard o st, g.heap b = st.heap b) (hn : g.nxt = st.nxt) : astep E rec o g = astep E rec o st := by
  unfold astep
  split
  · rename_i x args ats hop
    refine acall_local (fun y hy => hd y (by rw [hop]; exact hy)) (fun f l hc b hb => hh b ?_) hn
    unfold ard
    rw [hop]
    simp only [hc]
    exact hb
  · rename_i f first caps hop
    have hcap : caps.toList.map (aevalO g.env) = caps.toList.map (aevalO st.env) := List.map_congr_left (fun x hx => hd x (by rw [hop]; simp only [Op.operands]; exact Array.mem_append.2 (.inr (Array.mem_toList_iff.1 hx))))
    have hard : ard o st = (caps.toList.map (aevalO st.env)).flatMap (reach (depth + 1) st.heap) := by unfold ard; rw [hop]
    rw [hard] at hh
    have hx : ∀ x ∈ caps.toList.map (aevalO st.env), ∀ b ∈ reach (depth + 1) st.heap x, g.heap b = st.heap b := fun x hx b hb => hh b (List.mem_flatMap.2 ⟨x, hx, hb⟩)
    have hR : (caps.toList.map (aevalO st.env)).flatMap (reach depth g.heap) = (caps.toList.map (aevalO st.env)).flatMap (reach depth st.heap) := flatMap_congr' (fun x hx' => reach_local depth x (fun b hb => hx x hx' b (reach_succ _ _ _ _ hb)))
    have hF : freezes g.heap ((caps.toList.map (aevalO st.env)).flatMap (reach depth st.heap)) = freezes st.heap ((caps.toList.map (aevalO st.env)).flatMap (reach depth st.heap)) := freezes_local (fun b hb => by
      obtain ⟨x, hx', hb⟩ := List.mem_flatMap.1 hb
      exact hx x hx' b (reach_succ _ _ _ _ hb))
    have ha : aop E.P o g = aop E.P o st := by simp only [aop, hop, hcap]
    simp only [hcap, hR, hF, ha]
  · rename_i hno hno2
    by_cases hmv : (∃ x, o.op = .move x) ∨ ∃ x, o.op = .assign x
    · rcases hmv with ⟨x, hop⟩ | ⟨x, hop⟩
      · simp only [aop, hop, hd x (by rw [hop]; simp [Op.operands])]
      · simp only [aop, hop, hd x (by rw [hop]; simp [Op.operands])]
    refine aop_local hd (fun x hx b hb => hh b ?_) hn
    unfold ard
    split
    · rename_i x' args ats hop
      exact absurd hop (hno x' args ats)
    · rename_i hop
      exact absurd hop (hno2 _ _ _)
    · rename_i hop
      exact absurd (.inl ⟨_, hop⟩) hmv
    · rename_i hop
      exact absurd (.inr ⟨_, hop⟩) hmv
    · exact List.mem_flatMap.2 ⟨x, Array.mem_toList_iff.2 hx, hb⟩
end Go.Abs
