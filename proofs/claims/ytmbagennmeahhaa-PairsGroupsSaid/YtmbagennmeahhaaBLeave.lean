import Derived.Test.YtmbagennmeahhaaBExec
namespace Go.BX
set_option linter.unusedSimpArgs false
set_option linter.unusedVariables false

/-! # Leaving a frame; loops over functions -/

variable {C : Ctx} {w : World} {U : Nat → Prop} {ι : Nat → Option Nat}

theorem loadVar_of {t : TypeId} {H : AHeap} {p r : AV} {v u : Value} (hC : TOk C) (hH : HRel C w U ι H) (hp : VRel w U ι p v) (h : loadA C H t p = some r) : ∃ u, (do loadVar t (← asAddr v) : Sem Value).run C.P w = .ok u w ∧ VRel w U ι r u := by
  obtain ⟨u, hu, hr⟩ := load_sound hC hH hp h
  refine ⟨u, ?_, hr⟩
  unfold loadA at h
  split at h
  · cases h
  · split at h
    · cases hp with
      | ptr _ _ _ _ c hι => simpa [Instr.loadAt, Instr.sureAddr, asAddr, Sem.run_bind] using hu
    · cases hp with
      | vptr _ c o _ _ _ ys hk hU hc h1 hr => simpa [Instr.loadAt, Instr.sureAddr, asAddr, Sem.run_bind] using hu
    · cases h

def resF (tmps : Array Value) : ResultVar → Sem Value
  | .tmp t => pure (tmps.getD t undef)
  | .cell a t => do loadVar t (← asAddr (tmps.getD a undef))

theorem results_sound (hC : TOk C) {H : AHeap} (hH : HRel C w U ι H) {T : Nat → AV} {tmps : Array Value} (hT : TRel w U ι T tmps) : ∀ {rs : List ResultVar} {vs : List AV}, resultsA C T H rs = some vs →
    ∃ us, (rs.mapM (resF tmps)).run C.P w = .ok us w ∧ LsRel w U ι vs us := by
  intro rs
  induction rs with
  | nil => intro vs h; simp only [resultsA, Option.some.injEq] at h; subst h; exact ⟨[], by simp, LsRel.nil⟩
  | cons r rs ih =>
    intro vs h
    cases r with
    | tmp t =>
      simp only [resultsA, Option.map_eq_some_iff] at h
      obtain ⟨vs', h', rfl⟩ := h
      obtain ⟨us, hus, hr⟩ := ih h'
      exact ⟨tmps.getD t undef :: us, by simp only [List.mapM_cons, Sem.run_bind, resF, Sem.run_pure, Result.andThen_ok, hus], LsRel.cons (hT t) hr⟩
    | cell a t =>
      simp only [resultsA] at h
      split at h
      · rename_i v vs' hv hvs
        cases h
        obtain ⟨us, hus, hr⟩ := ih hvs
        obtain ⟨u, hu, hur⟩ := loadVar_of (u := undef) hC hH (hT a) hv
        refine ⟨u :: us, ?_, LsRel.cons hur hr⟩
        have hu' : (resF tmps (.cell a t)).run C.P w = .ok u w := hu
        simp only [List.mapM_cons, Sem.run_bind, hu', Sem.run_pure, Result.andThen_ok, hus]
      · cases h

theorem run_results (hC : TOk C) {H : AHeap} (hH : HRel C w U ι H) {T : Nat → AV} {tmps : Array Value} (hT : TRel w U ι T tmps) {fn : Func} {vs : List AV} (h : resultsA C T H fn.results.toList = some vs) :
    ∃ v, (results fn tmps).run C.P w = .ok v w ∧ VRel w U ι (oneOf vs) v := by
  obtain ⟨us, hus, hr⟩ := results_sound hC hH hT h
  have he : results fn tmps = (do let vs ← fn.results.mapM (resF tmps); pure (if h : vs.size = 1 then vs[0] else .tuple vs)) := by
    unfold results
    congr
  have hrun : (results fn tmps).run C.P w = .ok (if h : us.toArray.size = 1 then us.toArray[0] else .tuple us.toArray) w := by
    rw [he, Array.mapM_eq_mapM_toList]
    simp only [Sem.run_bind, map_eq_pure_bind]
    rw [hus]
    simp only [Result.andThen_ok, Sem.run_pure]
  refine ⟨_, hrun, ?_⟩
  have hl := hr.1
  rcases vs with _ | ⟨a, vs⟩
  · obtain rfl := hr.cases_nil
    exact .tuple [] [] rfl hr.2
  · obtain ⟨u, us', rfl, hu, hr'⟩ := hr.cases_cons
    rcases vs with _ | ⟨b, vs⟩
    · obtain rfl := hr'.cases_nil
      simpa [oneOf] using hu
    · obtain ⟨x, us'', rfl, hx, hr''⟩ := hr'.cases_cons
      have := VRel.tuple _ _ hr.1 hr.2
      simpa [oneOf] using this

theorem run_getLoop {P : Program} {c : Nat} {R : Loop} (h : w.heap[c]? = some (.loop R)) : (Instr.getLoop c).run P w = .ok R w := by
  simp [Instr.getLoop, getObj, Sem.run_bind, Sem.run, h]

theorem run_setLoop {P : Program} {c : Nat} {R R' : Loop} (h : w.heap[c]? = some (.loop R)) : (setObj c (.loop R')).run P w = .ok () (w.putObj c (.loop R')) := by
  simp only [setObj, Sem.run, h, World.putObj]

/-- The deferred calls are made. -/
theorem runDefers_sound {cl : Cl} (hs : SimCl C cl) (hn : NextMono cl) : ∀ {as : List ADef} {H H' : AHeap} {w : World} {U : Nat → Prop} {ι : Nat → Option Nat} {ds : List Deferred}, runDefers C cl as H = some H' → HRel C w U ι H → DsRel w U ι as ds →
    ∀ (fn : FuncId) (tmps : Array Value) (todo : List Item) (kd : CallKind) (cs : List Frame), ∃ w' U' ι', Steps C.P (lone { rf fn tmps todo ds kd none with mode := .returning } cs w) (lone { rf fn tmps todo [] kd none with mode := .returning } cs w') ∧
      Ext w U ι w' U' ι' ∧ HRel C w' U' ι' H' ∧ Fresh H ι ι' ∧ H.next ≤ H'.next := by
  intro as
  induction as with
  | nil =>
    intro H H' w U ι ds h hH hD fn tmps todo kd cs
    simp only [runDefers, Option.some.injEq] at h
    subst h
    cases hD
    exact ⟨w, U, ι, Steps.refl _ _, Ext.refl _ _ _, hH, Fresh.refl _ _, Nat.le_refl _⟩
  | cons a as ih =>
    intro H H' w U ι ds h hH hD fn tmps todo kd cs
    cases hD with
    | cons hd hds =>
      cases hd with
      | collected hb =>
        rename_i b c
        simp only [runDefers] at h
        split at h
        · rename_i hat
          have hbr := hH.blk b c hb
          rw [hat] at hbr
          have hbr' : w.heap[c]? = some (.deferred (some [])) := hbr
          obtain ⟨he, hh⟩ := set_rel (o' := .deferred none) (blk := .dead) hH hb (by rw [hat]; rfl) (by
            unfold World.shape?
            rw [World.putObj_heap_same (hH.dom b c hb).2, hbr']) (fun _ _ => trivial)
          obtain ⟨w', U', ι', hst, he', hh', hf', hn'⟩ := ih h hh (hds.mono (fun hv => he.mono hH hv) he.map) fn tmps todo kd cs
          have hrun : (Instr.takeDeferred c).run C.P w = .ok [] (w.putObj c (.deferred none)) := by
            simp only [Instr.takeDeferred, getObj, setObj, Sem.run_bind, Sem.run, hbr', Result.andThen_ok, World.putObj]
            rfl
          exact ⟨w', U', ι', Steps.head (st_collected hrun) hst, he.trans he', hh', hf', hn'⟩
        · cases h
      | call hv ha =>
        rename_i v args fv first' cap vs'
        cases hv with
        | any _ => simp [runDefers] at h
        | yld _ _ _ => simp [runDefers] at h
        | fn f fs cps us zs hl1 hl2 hr1 hr2 =>
          simp only [runDefers] at h
          split at h
          · cases h
          · rename_i hext
            have hext' : C.ext f = none := by simpa using hext
            split at h
            · rename_i r1 H1 hc
              have hall : LsRel w U ι (fs ++ args ++ cps) (us ++ vs' ++ zs) := LsRel.append (LsRel.append ⟨hl1, hr1⟩ ha) ⟨hl2, hr2⟩
              obtain ⟨hent, hgo⟩ := hs.callD f _ H r1 H1 hext' hc w U ι _ hH hall
              obtain ⟨v1, w1, ⟨U1, ι1, hl, hf1⟩, hst1⟩ := hgo { rf fn tmps todo _ kd none with mode := .returning } cs rfl
              have hn1 := hn.call _ _ _ _ _ hc
              obtain ⟨w', U', ι', hst, he', hh', hf', hn'⟩ := ih h hl.heap (hds.mono (fun hv => hl.ext.mono hH hv) hl.ext.map) fn tmps todo kd cs
              refine ⟨w', U', ι', Steps.head (step_defer (by simp) rfl rfl (f := f) (args := (us ++ vs' ++ zs).toArray) ?_) (hst1.trans hst), hl.ext.trans he', hh', fun b c hb => ?_, Nat.le_trans hn1 hn'⟩
              · simp only [invoke]
                rw [← hent]
                congr 2
                apply Array.ext'
                simp
              · rcases hf' b c hb with h | h
                · exact hf1 b c h
                · exact .inr (Nat.le_trans hn1 h)
            · cases h

theorem leave_sound (hC : TOk C) (hF : ∀ f fi, C.FT f = some fi → FIok C f fi) {cl : Cl} (hs : SimCl C cl) (hn : NextMono cl) {fr : AFr} {jump : Option AC} {jc : Option Code} {H H' : AHeap} {r : AV} (h : leaveA C cl fr jump H = some (r, H'))
    (hj : (jump = none ∧ jc = none) ∨ ∃ a c, jump = some a ∧ jc = some c ∧ jumpOk (some a) = true ∧ ∀ nt, CRel C.pure nt c a) {tmps : Array Value} {todo : List Item} {ds : List Deferred} {ro : Option Nat} {kd : CallKind} {cs : List Frame}
    (hret : isRetA jump = true → step C.P (lone (rf fr.fn tmps todo ds kd none) cs w) = .next (lone { rf fr.fn tmps todo ds kd none with mode := .returning } cs w))
    (hrnd : ∀ l v w' c0 cs', (Instr.endRound l jc).run C.P w = .ok v w' → step C.P (lone (rf fr.fn tmps todo ds .normal (some l)) (c0 :: cs') w) = .next (lone (c0.finish v) cs' w'))
    (hH : HRel C w U ι H) (hT : TRel w U ι fr.T tmps) (hD : DsRel w U ι fr.defers ds) (hro : RoRel ι fr.round ro) : Ends C fr.fn tmps todo ds kd ro cs w (Post C w U ι H H' r) := by
  unfold leaveA at h
  split at h
  · rename_i hr0
    rw [hr0] at hro
    cases ro with
    | some _ => exact hro.elim
    | none =>
      split at h
      · rename_i hir
        split at h
        · rename_i H1 hd
          split at h
          · rename_i fi hfi
            simp only [Option.map_eq_some_iff] at h
            obtain ⟨vs, hvs, he⟩ := h
            cases he
            obtain ⟨w', U', ι', hst, hext, hh, hf, hnx⟩ := runDefers_sound hs hn hd hH hD fr.fn tmps todo kd cs
            obtain ⟨fnn, c, hfn, _, _, _, hres, _⟩ := (hF _ _ hfi).fn
            rw [← hres] at hvs
            obtain ⟨v, hv, hvr⟩ := run_results hC hh (hT.mono (fun hv => hext.mono hH hv)) hvs
            exact ⟨v, w', ⟨U', ι', ⟨hext, hh, hvr⟩, hf⟩, tmps, todo, fnn, Steps.head (hret hir) hst, hfn, hv⟩
          · cases h
        · cases h
      · cases h
  · rename_i l hr0
    rw [hr0] at hro
    cases ro with
    | none => exact hro.elim
    | some c =>
      have hι : ι l = some c := hro
      split at h
      · rename_i L hL
        cases h
        have hb := hH.blk l c hι
        rw [hL] at hb
        obtain ⟨R, nt, hR, hLR⟩ := hb
        have hsome : jump.isNone = jc.isNone := by
          rcases hj with ⟨rfl, rfl⟩ | ⟨a, cc, rfl, rfl, _⟩ <;> rfl
        obtain ⟨he, hh⟩ := set_rel (o' := .loop { R with state := if jc.isNone then .ready else .done, pending := jc }) (blk := .loop { L with state := if jump.isNone then .ready else .done, pending := jump }) hH hι (by rw [hL]; rfl) (by
            unfold World.shape?
            rw [World.putObj_heap_same (hH.dom l c hι).2, hR]) (fun hsame hext => ⟨_, nt, hsame, {
              size := hLR.size
              state := by
                show LSRel (if jump.isNone then .ready else .done) (if jc.isNone then .ready else .done)
                rw [hsome]; cases jc.isNone <;> trivial
              pending := by
                rcases hj with ⟨rfl, rfl⟩ | ⟨a, cc, rfl, rfl, _, hcr⟩
                · exact .inl ⟨rfl, rfl⟩
                · exact .inr ⟨a, cc, rfl, rfl, hcr nt⟩
              fn := hLR.fn, T := hLR.T.mono (fun hv => hext.mono hH hv), params := hLR.params, assign := hLR.assign, body := hLR.body, lt := hLR.lt, defers := hLR.defers }⟩)
        have hrun : (Instr.endRound c jc).run C.P w = .ok (.bool jc.isNone) (w.putObj c (.loop { R with state := if jc.isNone then .ready else .done, pending := jc })) := by
          simp only [Instr.endRound, Sem.run_bind, run_getLoop hR, run_setLoop hR, Result.andThen_ok, Sem.run_pure]
        refine ⟨.bool jc.isNone, _, ⟨U, ι, ⟨he, hh, by rw [hsome]; exact .bool _⟩, Fresh.refl _ _⟩, fun c0 cs' e hk => ?_⟩
        subst hk; subst e
        exact .one (hrnd c _ _ c0 cs' hrun)
      · cases h

end Go.BX
