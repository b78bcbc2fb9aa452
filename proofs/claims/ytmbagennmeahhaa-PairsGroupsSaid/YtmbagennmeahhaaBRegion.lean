import Derived.Test.YtmbagennmeahhaaBAbs
namespace Go.BX
set_option linter.unusedSimpArgs false
set_option linter.unusedVariables false

/-! # Regions -/

variable {C : Ctx} {w : World} {U : Nat → Prop} {ι : Nat → Option Nat}
variable {ops : Array Oper} {i : Nat} {o : Oper} {fn : FuncId} {tmps : Array Value} {ds : List Deferred} {kd : CallKind} {ro : Option Nat}

theorem strip_spec {nt : Nat} {ao : AO} (h : stripOp nt ops o = some ao) : ao.dst = o.dst ∧ ao.op = o.op ∧ (∀ d, o.dst = some d → d < nt) ∧ (ao.guard = none ∧ o.guard = none ∨ ∃ j b t, o.guard = some (j, b) ∧ dstOf ops j = some t ∧ ao.guard = some (t, b)) := by
  unfold stripOp at h
  split at h
  · rename_i hd
    have hdd : ∀ d, o.dst = some d → d < nt := fun d e => by unfold dstOk at hd; rw [e] at hd; simpa using hd
    split at h
    · rename_i hg; cases h; exact ⟨rfl, rfl, hdd, .inl ⟨rfl, hg⟩⟩
    · rename_i j b hg
      split at h
      · rename_i t ht; cases h; exact ⟨rfl, rfl, hdd, .inr ⟨j, b, t, hg, ht, rfl⟩⟩
      · cases h
  · cases h

theorem opRes_sound (hC : TOk C) {cl : Cl} (hs : SimCl C cl) {nt : Nat} {ao : AO} (hst : stripOp nt ops o = some ao) {T : Nat → AV} {as as' : List ADef} {H H' : AHeap} {r : AV} (hH : HRel C w U ι H) (hT : TRel w U ι T tmps) (hD : DsRel w U ι as ds)
    (ho : ops[i]? = some o) (h : opRes C cl ro.isSome ao T as H = some (r, as', H')) (rest : List Nat) (k : List Item) (cs : List Frame) :
    ∃ v w' ds' U' ι', Steps C.P (lone (rf fn tmps (.inRegion ops (i :: rest) :: k) ds kd ro) cs w) (lone (rf fn (putV tmps o.dst v) (.inRegion ops rest :: k) ds' kd ro) cs w') ∧
      BX.Leaves C w U ι H' r v w' U' ι' ∧ Fresh H ι ι' ∧ DsRel w' U' ι' as' ds' ∧ OpFacts C o.op T H H' ι ι' w w' ∧ (isDefer o.op = false → ds' = ds ∧ as' = as) := by
  obtain ⟨hdst, hop, hlt, hg⟩ := strip_spec hst
  unfold opRes at h
  split at h
  · rename_i hw
    rw [hop] at h
    exact opRun_sound hC hs hH hT hD ho (wanted_sound hst (fun t _ => hT t) hw) h rest k cs
  · rename_i hw
    simp only [Option.some.injEq, Prod.mk.injEq] at h
    obtain ⟨rfl, rfl, rfl⟩ := h
    have hwf := wanted_sound hst (fun t _ => hT t) hw
    refine ⟨undef, w, ds, U, ι, .one ?_, ⟨Ext.refl _ _ _, hH, .undef⟩, Fresh.refl _ _, hD, OpFacts.of_skip, fun _ => ⟨rfl, rfl⟩⟩
    have := @st_op_skip C.P fn tmps k ds kd ro cs w ops i rest (by rw [ho]; simp [hwf])
    rw [ho, Option.bind_some] at this
    exact this
  · cases h

theorem opRes_abs {cl : Cl} (hn : NextMono cl) {ir : Bool} {ao : AO} {T : Nat → AV} {as as' : List ADef} {H H' : AHeap} {r : AV} (h : opRes C cl ir ao T as H = some (r, as', H')) :
    H.next ≤ H'.next ∧ (cls C.pure ao.op ≠ .writer → Grows H H') ∧ (cls C.pure ao.op = .inert → H' = H ∧ ∀ H2, opRes C cl ir ao T as H2 = some (r, as', H2)) := by
  unfold opRes at h
  split at h
  · rename_i hw
    obtain ⟨h1, h2, h3⟩ := opRun_abs hn h
    refine ⟨h1, h2, fun hc => ⟨(h3 hc).1, fun H2 => ?_⟩⟩
    unfold opRes
    rw [hw]
    exact (h3 hc).2 H2
  · rename_i hw
    simp only [Option.some.injEq, Prod.mk.injEq] at h
    obtain ⟨rfl, rfl, rfl⟩ := h
    exact ⟨Nat.le_refl _, fun _ => Grows.refl _, fun _ => ⟨rfl, fun H2 => by unfold opRes; rw [hw]⟩⟩
  · cases h

theorem opRes_load {cl : Cl} {ir : Bool} {ao : AO} {T : Nat → AV} {as as' : List ADef} {H H' : AHeap} {r : AV} {t : Nat} (ht : ldT ao.op = some t) (h : opRes C cl ir ao T as H = some (r, as', H')) :
    H' = H ∧ ∀ H2, (∀ b, foot (T t) = some (some b) → H2.at_ b = H.at_ b) → opRes C cl ir ao T as H2 = some (r, as', H2) := by
  unfold opRes at h
  split at h
  · rename_i hw
    obtain ⟨h1, h2⟩ := load_abs ht h
    exact ⟨h1, fun H2 h3 => by unfold opRes; rw [hw]; exact h2 H2 h3⟩
  · rename_i hw
    simp only [Option.some.injEq, Prod.mk.injEq] at h
    obtain ⟨rfl, rfl, rfl⟩ := h
    exact ⟨rfl, fun H2 _ => by unfold opRes; rw [hw]⟩
  · cases h

theorem opRes_fw {cl : Cl} {ir : Bool} {ao : AO} {T : Nat → AV} {as as' : List ADef} {H H' : AHeap} {r : AV} {t b : Nat} {f : Option Nat} (ht : fwT ao.op = some t) (hf : foot (T t) = some f) (hb : f ≠ some b) (hlt : b < H.next) (h : opRes C cl ir ao T as H = some (r, as', H')) : H'.at_ b = H.at_ b := by
  unfold opRes at h
  split at h
  · exact fw_abs ht hf hb hlt h
  · simp only [Option.some.injEq, Prod.mk.injEq] at h
    obtain ⟨rfl, rfl, rfl⟩ := h
    rfl
  · cases h

theorem opRes_congr {cl : Cl} {ir : Bool} {nt : Nat} {ao : AO} (hst : stripOp nt ops o = some ao) {T T' : Nat → AV} {as : List ADef} {H : AHeap} (h : ∀ t, t ∈ usesOf ops o → T t = T' t) : opRes C cl ir ao T as H = opRes C cl ir ao T' as H := by
  obtain ⟨hdst, hop, hlt, hg⟩ := strip_spec hst
  have hw : wantedA T ao.guard = wantedA T' ao.guard := by
    rcases hg with ⟨h1, h2⟩ | ⟨j, b, t, h1, h2, h3⟩
    · rw [h1]; rfl
    · rw [h3]; simp only [wantedA]
      rw [h t (by unfold usesOf; simp [h1, h2])]
  unfold opRes
  rw [hw, opRun_congr (T := T) (T' := T') (fun t ht => h t (by unfold usesOf; rw [List.mem_append]; left; rw [← hop]; exact ht))]

theorem opRes_as {cl : Cl} {ir : Bool} {ao : AO} {T : Nat → AV} {as as' : List ADef} {H H' : AHeap} {r : AV} (h : opRes C cl ir ao T as H = some (r, as', H')) (hd : isDefer ao.op = false) : as' = as := by
  unfold opRes at h
  split at h
  · unfold opRun at h
    split at h
    · split at h
      · simp only [Option.some.injEq, Prod.mk.injEq] at h; exact h.2.1.symm
      · cases h
    · rename_i c hop; rw [hop] at hd; simp [isDefer] at hd
    · split at h
      · simp only [Option.some.injEq, Prod.mk.injEq] at h; exact h.2.1.symm
      · cases h
  · simp only [Option.some.injEq, Prod.mk.injEq] at h; exact h.2.1.symm
  · cases h

theorem putV_size (tmps : Array Value) (d : Option Nat) (v : Value) : (putV tmps d v).size = tmps.size := by cases d <;> simp [putV]

theorem put_rel {T : Nat → AV} (hT : TRel w U ι T tmps) {d : Option Nat} (hd : ∀ x, d = some x → x < tmps.size) {a : AV} {v : Value} (h : VRel w U ι a v) : TRel w U ι (putA T d a) (putV tmps d v) := by
  cases d with
  | none => exact hT
  | some x =>
    have hx := hd x rfl
    intro t
    simp only [putA, putV]
    by_cases e : t = x
    · subst e
      rw [upd_same]
      simpa [Array.getD_eq_getD_getElem?, hx] using h
    · rw [upd_ne _ _ e]
      have := hT t
      simpa [Array.getD_eq_getD_getElem?, Array.getElem?_setIfInBounds, Ne.symm e] using this

/-! ## In the order of the text -/

theorem region_text (hC : TOk C) {cl : Cl} (hs : SimCl C cl) (hn : NextMono cl) {nt : Nat} : ∀ (aos : List AO) (i : Nat) (w : World) (U : Nat → Prop) (ι : Nat → Option Nat) (tmps : Array Value) (ds : List Deferred) (T T' : Nat → AV) (as as' : List ADef) (H H' : AHeap),
    (∀ j ao, aos[j]? = some ao → ∃ o, ops[i + j]? = some o ∧ stripOp nt ops o = some ao) → nt ≤ tmps.size → HRel C w U ι H → TRel w U ι T tmps → DsRel w U ι as ds → runOps C cl ro.isSome aos T as H = some (T', as', H') → ∀ (k : List Item) (cs : List Frame),
      ∃ tmps' w' ds' U' ι', Steps C.P (lone (rf fn tmps (.inRegion ops (List.range' i aos.length) :: k) ds kd ro) cs w) (lone (rf fn tmps' k ds' kd ro) cs w') ∧
        Ext w U ι w' U' ι' ∧ HRel C w' U' ι' H' ∧ TRel w' U' ι' T' tmps' ∧ DsRel w' U' ι' as' ds' ∧ Fresh H ι ι' ∧ tmps'.size = tmps.size ∧ H.next ≤ H'.next := by
  intro aos
  induction aos with
  | nil =>
    intro i w U ι tmps ds T T' as as' H H' _ _ hH hT hD h k cs
    simp only [runOps, Option.some.injEq, Prod.mk.injEq] at h
    obtain ⟨rfl, rfl, rfl⟩ := h
    exact ⟨tmps, w, ds, U, ι, .one st_region_end, Ext.refl _ _ _, hH, hT, hD, Fresh.refl _ _, rfl, Nat.le_refl _⟩
  | cons ao aos ih =>
    intro i w U ι tmps ds T T' as as' H H' hal hnt hH hT hD h k cs
    obtain ⟨o, ho, hst⟩ := hal 0 ao rfl
    simp only [Nat.add_zero] at ho
    simp only [runOps] at h
    split at h
    · rename_i r as1 H1 hr
      obtain ⟨hdst, hop, hlt, _⟩ := strip_spec hst
      obtain ⟨v, w1, ds1, U1, ι1, hsteps, hl, hf, hd1, hof, _⟩ := opRes_sound (fn := fn) (kd := kd) hC hs hst hH hT hD ho hr (List.range' (i + 1) aos.length) k cs
      have hT1 : TRel w1 U1 ι1 (putA T ao.dst r) (putV tmps o.dst v) := by
        rw [hdst]
        exact put_rel (hT.mono (fun hv => hl.ext.mono hH hv)) (fun x hx => Nat.lt_of_lt_of_le (hlt x hx) hnt) hl.val
      have hnx : H.next ≤ H1.next := (opRes_abs hn hr).1
      obtain ⟨tmps', w', ds', U', ι', hsteps', he, hh, ht, hd, hfr, hsz, hnx'⟩ := ih (i + 1) w1 U1 ι1 (putV tmps o.dst v) ds1 (putA T ao.dst r) T' as1 as' H1 H' (fun j ao' hj => by
        obtain ⟨o', ho', hst'⟩ := hal (j + 1) ao' (by simpa using hj)
        exact ⟨o', by rw [← ho']; congr 1; omega, hst'⟩) (by rw [putV_size]; exact hnt) hl.heap hT1 hd1 h k cs
      refine ⟨tmps', w', ds', U', ι', Steps.trans (by rw [List.length_cons, List.range'_succ]; exact hsteps) hsteps', hl.ext.trans he, hh, ht, hd, fun b c hb => ?_, by rw [hsz, putV_size], Nat.le_trans hnx hnx'⟩
      rcases hfr b c hb with hb | hb
      · exact hf b c hb
      · exact .inr (Nat.le_trans hnx hb)
    · cases h

end Go.BX
