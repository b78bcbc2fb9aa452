import Derived.Test.YtmbagennmeahhaaBCall
namespace Go.BX
set_option linter.unusedSimpArgs false
set_option linter.unusedVariables false

/-! # One operation of a region, in its frame -/

variable {C : Ctx} {w : World} {U : Nat → Prop} {ι : Nat → Option Nat}
variable {ops : Array Oper} {i : Nat} {o : Oper} {fn : FuncId} {tmps : Array Value} {ds : List Deferred} {kd : CallKind} {ro : Option Nat}

theorem builtinM_sound (hC : TOk C) {H H' : AHeap} (hH : HRel C w U ι H) {b : Builtin} {ts : List TypeId} {ty : TypeId} {consts : Array Bool} {args : List AV} {vs : List Value} {r : AV} (ha : LsRel w U ι args vs) (h : builtinM C H b ts args = some (r, H')) :
    ∃ v w' ι', (Go.builtin b ts.toArray ty consts vs.toArray).run C.P w = .ok (.value v) w' ∧ BX.Leaves C w U ι H' r v w' U ι' ∧ Fresh H ι ι' ∧ ∀ d ds, args = d :: ds → b = .append → ∀ c, c < w.heap.size → (∀ b', foot d = some (some b') → (H.at_ b').isDead = false → ι b' ≠ some c) → w'.heap[c]? = w.heap[c]? := by
  unfold builtinM at h
  split at h
  · rename_i t t' d s
    obtain ⟨v, _, rfl, hv, h0⟩ := ha.cases_cons
    obtain ⟨v2, _, rfl, hv2, h02⟩ := h0.cases_cons
    obtain rfl := h02.cases_nil
    split at h
    · rename_i ik sz by_ zr eq hti
      obtain ⟨u, w', ι', hrun, hl, hf, hkept⟩ := appendZ_sound (ty := ty) hC hH hv hv2 hti h
      exact ⟨u, w', ι', by simp [Go.builtin, hrun], hl, hf, fun d' ds' e _ c hc _ => hkept c hc⟩
    · rename_i ti hni hti
      obtain ⟨u, w', ι', hrun, hl, hf, hkept⟩ := append_sound (ty := ty) hC hH hv hv2 hti (fun k e => by
        obtain ⟨kind, sz, by_, zr, eq⟩ := ti
        simp only at e
        subst e
        exact hni _ _ _ _ _ rfl) h
      exact ⟨u, w', ι', by simp [Go.builtin, hrun], hl, hf, fun d' ds' e _ => by cases e; exact hkept⟩
    · cases h
  · rename_i t t' d s
    obtain ⟨v, _, rfl, hv, h0⟩ := ha.cases_cons
    obtain ⟨v2, _, rfl, hv2, h02⟩ := h0.cases_cons
    obtain rfl := h02.cases_nil
    obtain ⟨u, w', hrun, hl⟩ := copy_sound (t' := t') (ty := ty) hC hH hv hv2 h
    exact ⟨u, w', ι, by simp [Go.builtin, hrun], hl, Fresh.refl _ _, fun _ _ _ e => by cases e⟩
  · cases h

/-- The guard. -/
theorem wanted_sound {T : Nat → AV} {nt : Nat} {ao : AO} (hs : stripOp nt ops o = some ao) (hT : ∀ t, t ∈ usesOf ops o → VRel w U ι (T t) (tmps.getD t undef)) {b : Bool} (h : wantedA T ao.guard = some b) : Region.wanted o (yielded ops tmps) = b := by
  unfold stripOp at hs
  split at hs
  · unfold Region.wanted
    cases hg : o.guard with
    | none => rw [hg] at hs; simp only [Option.some.injEq] at hs; subst hs; simp [wantedA] at h; subst h; rfl
    | some p =>
      obtain ⟨j, want⟩ := p
      rw [hg] at hs
      simp only at hs
      split at hs
      · rename_i t ht
        simp only [Option.some.injEq] at hs
        subst hs
        simp only [wantedA] at h
        have hv := hT t (by unfold usesOf; simp [hg, ht])
        have hy : yielded ops tmps j = match tmps[t]? with | some (.bool b) => some b | _ => none := by
          unfold yielded
          unfold dstOf at ht
          rw [ht]; rfl
        show (yielded ops tmps j == some want) = b
        rw [hy]
        have hget : tmps.getD t undef = (tmps[t]?).getD undef := by simp [Array.getD_eq_getD_getElem?]
        rw [hget] at hv
        generalize tmps[t]? = x at hv
        generalize T t = a at hv h
        cases x with
        | none =>
          simp only [Option.getD_none, undef] at hv
          cases hv <;> simp at h <;> subst h <;> rfl
        | some v =>
          simp only [Option.getD_some] at hv
          cases hv <;> simp at h <;> subst h <;> first | rfl | (rename_i b; cases b <;> cases want <;> rfl)
      · cases hs
  · cases hs

theorem evalL {a : Act} {c : Call} : (c.args.map a.eval) = (c.args.toList.map a.eval).toArray := Array.ext' (by simp)

/-- AN OPERATION WHOSE GUARD HOLDS. -/
theorem opRun_sound (hC : TOk C) {cl : Cl} (hs : SimCl C cl) {T : Nat → AV} {as as' : List ADef} {H H' : AHeap} {r : AV} (hH : HRel C w U ι H) (hT : TRel w U ι T tmps) (hD : DsRel w U ι as ds)
    (ho : ops[i]? = some o) (hw : Region.wanted o (yielded ops tmps) = true) (h : opRun C cl ro.isSome T as H o.op = some (r, as', H')) (rest : List Nat) (k : List Item) (cs : List Frame) :
    ∃ v w' ds' U' ι', Steps C.P (lone (rf fn tmps (.inRegion ops (i :: rest) :: k) ds kd ro) cs w) (lone (rf fn (putV tmps o.dst v) (.inRegion ops rest :: k) ds' kd ro) cs w') ∧
      BX.Leaves C w U ι H' r v w' U' ι' ∧ Fresh H ι ι' ∧ DsRel w' U' ι' as' ds' ∧ OpFacts C o.op T H H' ι ι' w w' ∧ (isDefer o.op = false → ds' = ds ∧ as' = as) := by
  let act : Act := { tmps := tmps, defers := ds }
  have keepD : ∀ {w' : World} {U' : Nat → Prop} {ι' : Nat → Option Nat}, Ext w U ι w' U' ι' → DsRel w' U' ι' as ds := fun he => hD.mono (fun hv => he.mono hH hv) he.map
  unfold opRun at h
  split at h
  · -- a call
    rename_i c hop
    have hnd : isDefer o.op = false := by rw [hop]; rfl
    split at h
    · rename_i v0 H0 hcall
      simp only [Option.some.injEq, Prod.mk.injEq] at h
      obtain ⟨rfl, rfl, rfl⟩ := h
      unfold opCall at hcall
      split at hcall
      · cases hcall
      · rename_i args hargs
        have ha := evs_sound (a := act) hT hargs
        have hmv : (c.args.map act.eval) = (c.args.toList.map act.eval).toArray := evalL
        split at hcall
        · -- a builtin
          rename_i b hcal
          unfold builtinA at hcall
          have hex : ∀ x w1, (Go.builtin b c.argTypes.toList.toArray o.type (c.args.map fun | .const _ => true | _ => false) (c.args.toList.map act.eval).toArray).run C.P w = .ok (.value x) w1 → (execOp act.eval o).run C.P w = .ok (.value x) w1 := by
            intro x w1 hx
            obtain ⟨dst, op, ty, pos, after, guard⟩ := o
            simp only at hop
            subst hop
            obtain ⟨callee, cargs, argTypes⟩ := c
            simp only at hcal
            subst hcal
            simp only [execOp, resolve, Sem.run_bind, Sem.run_pure, Result.andThen_ok, invoke]
            have e1 : argTypes.toList.toArray = argTypes := by simp
            rw [e1] at hx
            rw [← hx, ← hmv]
            rfl
          split at hcall
          · rename_i hin
            simp only [Option.map_eq_some_iff] at hcall
            obtain ⟨r', hr', he⟩ := hcall
            cases he
            obtain ⟨v, hv, hvr⟩ := builtinP_sound (ty := o.type) (consts := (c.args.map fun | .const _ => true | _ => false)) hC ha hr'
            refine ⟨v, w, ds, U, ι, .one (st_op_value ho hw (.inr hnd) (.inl (hex _ _ hv))), ⟨Ext.refl _ _ _, hH, hvr⟩, Fresh.refl _ _, hD, OpFacts.of_skip, fun _ => ⟨rfl, rfl⟩⟩
          · rename_i hin
            obtain ⟨v, w', ι', hv, hl, hfr', hkept⟩ := builtinM_sound (ty := o.type) (consts := (c.args.map fun | .const _ => true | _ => false)) hC hH ha hcall
            have hcls : cls C.pure o.op = .writer := by
              rw [hop]
              obtain ⟨callee, cargs, argTypes⟩ := c
              simp only at hcal
              subst hcal
              simp [cls, hin]
            refine ⟨v, w', ds, U, ι', .one (st_op_value ho hw (.inr hnd) (.inl (hex _ _ hv))), hl, hfr', keepD hl.ext, ⟨fun hc => absurd hcls hc, (fun hc => by rw [hcls] at hc; cases hc), fun t ht d hcl hcf => ?_⟩, fun _ => ⟨rfl, rfl⟩⟩
            obtain ⟨callee, cargs, argTypes⟩ := c
            simp only at hcal
            subst hcal
            rw [hop] at ht
            unfold fwT at ht
            split at ht
            · rename_i heq; cases heq
            · rename_i heq
              cases heq
              split at ht
              · rename_i t' rest hrest
                cases ht
                simp only [hrest, evs] at hargs
                split at hargs
                · rename_i v1 vs1 hv1 _
                  cases hargs
                  simp only [ev, Option.some.injEq] at hv1
                  subst hv1
                  exact hkept _ _ rfl rfl d hcl hcf
                · cases hargs
              · cases ht
            · cases ht
        · cases hcall
        · -- a function
          rename_i x hcal
          split at hcall
          · rename_i fv hfv
            have hfr := ev_sound (a := act) hT hfv
            unfold callV at hcall
            split at hcall
            · rename_i f first caps
              generalize hxv : act.eval x = xv at hfr
              cases hfr with
              | fn _ _ _ us zs hl1 hl2 hr1 hr2 =>
                have hall : LsRel w U ι (first ++ args ++ caps) (us ++ c.args.toList.map act.eval ++ zs) := LsRel.append (LsRel.append (show LsRel w U ι first us from ⟨hl1, hr1⟩) ha) ⟨hl2, hr2⟩
                have hinv := callF_sound hs hcall hH hall
                have hex : (execOp act.eval o).run C.P w = (callFunc f (us ++ c.args.toList.map act.eval ++ zs).toArray).run C.P w := by
                  obtain ⟨dst, op, ty, pos, after, guard⟩ := o
                  simp only at hop
                  subst hop
                  obtain ⟨callee, cargs, argTypes⟩ := c
                  simp only at hcal
                  subst hcal
                  simp only [execOp, resolve, Sem.run_bind, hxv, Deferred.ofValue, Sem.run_pure, Result.andThen_ok, invoke]
                  congr 2
                  apply Array.ext'
                  simp
                obtain ⟨v, w', ⟨U', ι', hl, hfr', hp⟩, hst⟩ := op_call (kd := kd) (fn := fn) ho hw (.inr hnd) hex hinv rest k cs
                refine ⟨v, w', ds, U', ι', hst, hl, hfr', keepD hl.ext, ⟨fun hc => ?_, fun hc => ?_, fun t ht => ?_⟩, fun _ => ⟨rfl, rfl⟩⟩
                rotate_right
                · exfalso
                  rw [hop] at ht
                  obtain ⟨callee, cargs, argTypes⟩ := c
                  simp only at hcal
                  subst hcal
                  simp [fwT] at ht
                · -- a reader: the function is pure
                  have hpure : C.pure f = true := by
                    rw [hop] at hc
                    obtain ⟨callee, cargs, argTypes⟩ := c
                    simp only at hcal
                    subst hcal
                    cases x with
                    | func g =>
                      simp only [ev, Option.some.injEq, AV.fn.injEq] at hfv
                      obtain ⟨rfl, _, _⟩ := hfv
                      by_cases hpp : C.pure g = true
                      · exact hpp
                      · simp [cls, hpp] at hc
                    | _ => simp [cls] at hc
                  obtain ⟨rfl, rfl, hall'⟩ := hp hpure
                  exact ⟨hall', Nat.le_refl _, fun _ _ => rfl, fun b c h => .inl h⟩
                · exfalso
                  rw [hop] at hc
                  obtain ⟨callee, cargs, argTypes⟩ := c
                  simp only at hcal
                  subst hcal
                  cases x <;> simp [cls] at hc
                  split at hc <;> cases hc
            · rename_i l
              generalize hxv : act.eval x = xv at hfr
              cases hfr with
              | yld _ lc hlc =>
                obtain ⟨f, ts, assign, body, hy, hgo⟩ := hs.round l args H _ _ hcall w U ι _ lc hH ha hlc
                have hex : (execOp act.eval o).run C.P w = .ok (.round lc f ts assign body) w := by
                  obtain ⟨dst, op, ty, pos, after, guard⟩ := o
                  simp only at hop
                  subst hop
                  obtain ⟨callee, cargs, argTypes⟩ := c
                  simp only at hcal
                  subst hcal
                  simp only [execOp, resolve, Sem.run_bind, hxv, Deferred.ofValue, Sem.run_pure, Result.andThen_ok, invoke]
                  rw [← hy, ← hmv]
                  congr 2
                  simp
                obtain ⟨v, w', ⟨U', ι', hl, hfr'⟩, hst⟩ := hgo (rf fn tmps (.inRegion ops (i :: rest) :: k) ds kd ro) cs
                have hf := @finish_rf fn tmps k ds kd ro ops i rest v
                rw [ho, Option.bind_some] at hf
                rw [hf] at hst
                have hcls : cls C.pure o.op = .writer := by
                  rw [hop]
                  obtain ⟨callee, cargs, argTypes⟩ := c
                  simp only at hcal
                  subst hcal
                  cases x <;> first | rfl | (simp [ev] at hfv)
                refine ⟨v, w', ds, U', ι', Steps.trans (.one (st_op_round ho hw (.inr hnd) hex)) hst, hl, hfr', keepD hl.ext, OpFacts.of_writer hcls (by
                  rw [hop]
                  obtain ⟨callee, cargs, argTypes⟩ := c
                  simp only at hcal
                  subst hcal
                  rfl), fun _ => ⟨rfl, rfl⟩⟩
            · cases hcall
          · cases hcall
    · cases h
  · -- a deferred call
    rename_i c hop
    split at h
    · cases h
    · rename_i hro
      have hro' : ro = none := by cases ro <;> simp at hro; rfl
      subst hro'
      split at h
      · rename_i x args hcal hargs
        split at h
        · rename_i f first caps hfv
          simp only [Option.some.injEq, Prod.mk.injEq] at h
          obtain ⟨rfl, rfl, rfl⟩ := h
          have ha := evs_sound (a := act) hT hargs
          have hfr := ev_sound (a := act) hT hfv
          have hmv : (c.args.map act.eval) = (c.args.toList.map act.eval).toArray := evalL
          have hcls : cls C.pure o.op = .writer := by rw [hop]; rfl
          generalize hxv : act.eval x = xv at hfr
          cases hfr with
            | fn _ _ _ us zs hl1 hl2 hr1 hr2 =>
              have hex : (execOp act.eval o).run C.P w = .ok (.defer { target := .fn (.func f) zs.toArray, args := us.toArray ++ (c.args.toList.map act.eval).toArray }) w := by
                obtain ⟨dst, op, ty, pos, after, guard⟩ := o
                simp only at hop
                subst hop
                obtain ⟨callee, cargs, argTypes⟩ := c
                simp only at hcal
                subst hcal
                simp only [execOp, resolve, Sem.run_bind, hxv, Deferred.ofValue, Sem.run_pure, Result.andThen_ok]
                rw [hmv]
              exact ⟨undef, w, _, U, ι, .one (st_op_defer ho hw hex), ⟨Ext.refl _ _ _, hH, .undef⟩, Fresh.refl _ _, .cons (.call (.fn _ _ _ us zs hl1 hl2 hr1 hr2) ha) hD, OpFacts.of_writer hcls (by rw [hop]; rfl), fun hc => by simp [hop, isDefer] at hc⟩
        · cases h
      · cases h
  · -- no call
    rename_i hnc hnd
    split at h
    · rename_i v0 H0 hp
      simp only [Option.some.injEq, Prod.mk.injEq] at h
      obtain ⟨rfl, rfl, rfl⟩ := h
      have hisd : isDefer o.op = false := by
        cases hop : o.op <;> first | rfl | exact absurd hop (hnd _)
      obtain ⟨v, w', ι', hex, hl, hfr', hf⟩ := prim_sound (ds := ds) hC hH hT hp
      exact ⟨v, w', ds, U, ι', .one (st_op_value ho hw (.inr hisd) hex), hl, hfr', keepD hl.ext, hf, fun _ => ⟨rfl, rfl⟩⟩
    · cases h

end Go.BX
