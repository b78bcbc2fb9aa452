import Derived.Test.YtmbagennmeahhaaBDraw2
import Derived.RangeFuncRecord
namespace Go.BX
set_option linter.unusedSimpArgs false
set_option linter.unusedVariables false
set_option linter.unusedSectionVars false

/-! # Control -/

section
variable {P : Program} {fn : FuncId} {tmps : Array Value} {k : List Item} {ds : List Deferred} {kd : CallKind} {ro : Option Nat} {cs : List Frame} {w w' : World} {c : Frame} {l : Nat} {v : Value}

theorem st_round_end (hr : (Instr.endRound l none).run P w = .ok v w') : step P (lone (rf fn tmps [] ds .normal (some l)) (c :: cs) w) = .next (lone (c.finish v) cs w') :=
  step_lone_go (by simp [stepG, stepG.exec, Sem.runT_eq, hr, doReturn])
theorem st_round_ret (hr : (Instr.endRound l (some .ret)).run P w = .ok v w') : step P (lone (rf fn tmps (.code .ret :: k) ds .normal (some l)) (c :: cs) w) = .next (lone (c.finish v) cs w') :=
  step_lone_go (by simp [stepG, stepG.exec, Sem.runT_eq, hr, doReturn])
theorem st_round_exit {id : Nat} (hx : exitTo id k = none) (hr : (Instr.endRound l (some (.exit id))).run P w = .ok v w') : step P (lone (rf fn tmps (.code (.exit id) :: k) ds .normal (some l)) (c :: cs) w) = .next (lone (c.finish v) cs w') :=
  step_lone_go (by simp [stepG, stepG.exec, Sem.runT_eq, hx, hr, doReturn])
theorem st_round_goto {id : Nat} (hx : gotoIn id k = none) (hr : (Instr.endRound l (some (.goto id))).run P w = .ok v w') : step P (lone (rf fn tmps (.code (.goto id) :: k) ds .normal (some l)) (c :: cs) w) = .next (lone (c.finish v) cs w') :=
  step_lone_go (by simp [stepG, stepG.exec, Sem.runT_eq, hx, hr, doReturn])
theorem st_beginRound (hr : (Instr.beginRound l).run P w = .ok () w') : step P (lone (rf fn tmps (.beginRound :: k) ds kd (some l)) cs w) = .next (lone (rf fn tmps k ds kd (some l)) cs w') :=
  step_lone_go (by simp [stepG, stepG.exec, stepG.apply, Sem.runT_eq, hr, Result.andThen, Frame.finish])
theorem st_endLoop {jump : Option Code} (hr : (Instr.endLoop l).run P w = .ok jump w') : step P (lone (rf fn tmps (.endRangeFunc l :: k) ds kd ro) cs w) = .next (lone (rf fn tmps ((jump.map Item.code).toList ++ k) ds kd ro) cs w') :=
  step_lone_go (by simp [stepG, stepG.exec, Sem.runT_eq, hr])

theorem st_collected {b : Nat} {as : Array Value} {todo : List Item} (hr : (Instr.takeDeferred b).run P w = .ok [] w') :
    step P (lone { rf fn tmps todo ({ target := .collected b, args := as } :: ds) kd none with mode := .returning } cs w) = .next (lone { rf fn tmps todo ds kd none with mode := .returning } cs w') :=
  step_lone_go (by simp [stepG, unwind, Sem.runT_eq, hr])

theorem st_rangeFunc {f : Operand} {ps : Array Tmp} {assign body : Code} {mark : List Deferred} {w1 : World} {nx : Next} {fr' : Frame} {cs' : List Frame}
    (hl : (Instr.enterLoop fn tmps ps assign body ro).run P w = .ok (l, mark) w1)
    (hx : (do let d ← resolve (rf fn tmps (.inRangeFunc l :: k) (mark ++ ds) kd ro).eval { callee := .value f, args := #[.const (.func (.yield l) #[] #[])], argTypes := #[] } 0; invoke d.target d.args : Sem Next).run P w1 = .ok nx w')
    (hn : (∃ v, nx = .value v ∧ fr' = rf fn tmps (.endRangeFunc l :: k) (mark ++ ds) kd ro ∧ cs' = cs) ∨ (∃ g args, nx = .enter g args ∧ fr' = Frame.enter P g args .normal ∧ cs' = rf fn tmps (.inRangeFunc l :: k) (mark ++ ds) kd ro :: cs)) :
    step P (lone (rf fn tmps (.code (.rangeFunc f ps assign body) :: k) ds kd ro) cs w) = .next (lone fr' cs' w') := by
  refine step_lone_go ?_
  rcases hn with ⟨v, rfl, rfl, rfl⟩ | ⟨g, args, rfl, rfl, rfl⟩
  · simp only [stepG, stepG.exec, Sem.runT_eq, hl, GStep.bare_after, stepG.apply]
    rw [show ({ fn := fn, tmps := tmps, todo := .inRangeFunc l :: k, defers := mark ++ ds, mode := .run, kind := kd, roundOf := ro } : Frame).eval = (rf fn tmps (.inRangeFunc l :: k) (mark ++ ds) kd ro).eval from rfl, hx]
    simp [Frame.finish]
  · simp only [stepG, stepG.exec, Sem.runT_eq, hl, GStep.bare_after, stepG.apply]
    rw [show ({ fn := fn, tmps := tmps, todo := .inRangeFunc l :: k, defers := mark ++ ds, mode := .run, kind := kd, roundOf := ro } : Frame).eval = (rf fn tmps (.inRangeFunc l :: k) (mark ++ ds) kd ro).eval from rfl, hx]
    simp
end

/-! ## Jumps -/

variable {pure : FuncId → Bool} {nt : Nat}

theorem exit_rel {id : Nat} {items : List Item} {as : List AItem} (h : IsRel pure nt items as) :
    (∀ k', exitA id as = some k' → ∃ t', exitTo id items = some t' ∧ IsRel pure nt t' k') ∧ (exitA id as = none → exitTo id items = none) := by
  induction h with
  | nil => exact ⟨fun k' h => by simp [exitA] at h, fun _ => rfl⟩
  | cons h hs ih =>
    cases h with
    | inBlock i =>
      simp only [exitA, exitTo]
      by_cases e : (i == id) = true
      · rw [if_pos e, if_pos e]
        exact ⟨fun k' h => ⟨_, rfl, (by cases h; exact hs)⟩, fun h => nomatch h⟩
      · rw [if_neg e, if_neg e]
        exact ih
    | _ => simpa only [exitA, exitTo] using ih

theorem find_rel {l : Nat} : ∀ {c : Code} {a : AC}, CRel pure nt c a → (∀ r, findL a l = some r → ∃ r', findLabel c l = some r' ∧ CRel pure nt r' r) ∧ (findL a l = none → findLabel c l = none)
  | .seq x y, a, h => by
    simp only [CRel, strip] at h
    split at h
    · rename_i x' y' hx hy
      cases h
      have ihx := find_rel (l := l) (show CRel pure nt x x' from hx)
      have ihy := find_rel (l := l) (show CRel pure nt y y' from hy)
      simp only [findL, findLabel]
      cases hf : findL x' l with
      | none =>
        simp only [ihx.2 hf]
        exact ihy
      | some r =>
        obtain ⟨r', hr', hrr⟩ := ihx.1 r hf
        simp only [hr']
        refine ⟨fun z hz => ?_, fun hz => nomatch hz⟩
        cases hz
        refine ⟨_, rfl, ?_⟩
        simp only [CRel, strip] at hrr ⊢
        rw [hrr, hy]
    · cases h
  | .label l', a, h => by
    simp only [CRel, strip, Option.some.injEq] at h
    subst h
    simp only [findL, findLabel]
    by_cases e : (l' == l) = true
    · rw [if_pos e, if_pos e]
      exact ⟨fun r h => ⟨.skip, rfl, by cases h; rfl⟩, fun h => nomatch h⟩
    · rw [if_neg e, if_neg e]
      exact ⟨fun r h => (nomatch h), fun _ => rfl⟩
  | .skip, a, h | .exit _, a, h | .goto _, a, h | .ret, a, h | .refuse _, a, h => by
    simp only [CRel, strip, Option.some.injEq] at h
    subst h
    exact ⟨fun r h => by simp [findL] at h, fun _ => by simp [findLabel]⟩
  | .region _ ops draw, a, h => by
    simp only [CRel, strip] at h
    split at h
    · cases h
    · simp only [Option.map_eq_some_iff] at h
      obtain ⟨x, _, rfl⟩ := h
      exact ⟨fun r h => by simp [findL] at h, fun _ => by simp [findLabel]⟩
  | .cond c x y, a, h => by
    simp only [CRel, strip] at h
    split at h
    · cases h; exact ⟨fun r h => by simp [findL] at h, fun _ => by simp [findLabel]⟩
    · cases h
  | .block _ x, a, h | .loop x, a, h | .scope x, a, h => by
    simp only [CRel, strip, Option.map_eq_some_iff] at h
    obtain ⟨x, _, rfl⟩ := h
    exact ⟨fun r h => by simp [findL] at h, fun _ => by simp [findLabel]⟩
  | .rangeFunc f ps x y, a, h => by
    simp only [CRel, strip] at h
    split at h
    · split at h
      · cases h; exact ⟨fun r h => by simp [findL] at h, fun _ => by simp [findLabel]⟩
      · cases h
    · cases h

theorem goto_rel {l : Nat} {items : List Item} {as : List AItem} (h : IsRel pure nt items as) :
    (∀ k', gotoA l as = some k' → ∃ t', gotoIn l items = some t' ∧ IsRel pure nt t' k') ∧ (gotoA l as = none → gotoIn l items = none) := by
  induction h with
  | nil => exact ⟨fun k' h => by simp [gotoA] at h, fun _ => rfl⟩
  | cons h hs ih =>
    cases h with
    | inScope hc =>
      simp only [gotoA, gotoIn]
      have := find_rel (l := l) hc
      cases hf : findL _ l with
      | none => rw [hf] at this; simp only [this.2 rfl]; exact ih
      | some r =>
        obtain ⟨r', h1, h2⟩ := this.1 r hf
        simp only [h1]
        refine ⟨fun z hz => ?_, fun hz => nomatch hz⟩
        cases hz
        exact ⟨_, rfl, .cons (.code h2) (.cons (.inScope hc) hs)⟩
    | _ => simpa only [gotoA, gotoIn] using ih

theorem jump_inv {c : Code} {a : AC} (h : CRel pure nt c a) (hj : jumpOk (some a) = true) : (a = .ret ∧ c = .ret) ∨ (∃ id, a = .exit id ∧ c = .exit id) ∨ (∃ l, a = .goto l ∧ c = .goto l) := by
  unfold CRel at h
  cases c <;> simp only [strip, Option.some.injEq, Option.map_eq_some_iff] at h
  case region => split at h <;> simp only [reduceCtorEq, Option.map_eq_some_iff] at h; obtain ⟨x, _, rfl⟩ := h; simp [jumpOk] at hj
  case seq => split at h <;> cases h; simp [jumpOk] at hj
  case cond => split at h <;> cases h; simp [jumpOk] at hj
  case rangeFunc => split at h <;> first | (cases h; done) | (split at h <;> cases h; simp [jumpOk] at hj)
  case block => obtain ⟨x, _, rfl⟩ := h; simp [jumpOk] at hj
  case loop => obtain ⟨x, _, rfl⟩ := h; simp [jumpOk] at hj
  case scope => obtain ⟨x, _, rfl⟩ := h; simp [jumpOk] at hj
  case exit id => subst h; exact .inr (.inl ⟨id, rfl, rfl⟩)
  case goto id => subst h; exact .inr (.inr ⟨id, rfl, rfl⟩)
  case ret => subst h; exact .inl ⟨rfl, rfl⟩
  all_goals (subst h; simp [jumpOk] at hj)

theorem jump_crel {c : Code} {a : AC} {nt' : Nat} (h : CRel pure nt c a) (hj : jumpOk (some a) = true) : CRel pure nt' c a := by
  rcases jump_inv h hj with ⟨rfl, rfl⟩ | ⟨id, rfl, rfl⟩ | ⟨id, rfl, rfl⟩ <;> rfl

/-! ## A block that is no cells, set -/

variable {C : Ctx} {w : World} {U : Nat → Prop} {ι : Nat → Option Nat}

theorem set_rel {H : AHeap} (hH : HRel C w U ι H) {b c : Nat} (hι : ι b = some c) {o' : Obj} (hlive : (H.at_ b).isDead = false) (hsh : (w.putObj c o').shape? c = w.shape? c) {blk : Blk}
    (hB : (w.putObj c o').heap[c]? = some o' → Ext w U ι (w.putObj c o') U ι → BRel C (w.putObj c o') U ι c blk) : Ext w U ι (w.putObj c o') U ι ∧ HRel C (w.putObj c o') U ι (H.set b blk) := by
  have hclt := (hH.dom b c hι).2
  have hsame := World.putObj_heap_same (w := w) (o := o') hclt
  have hother : ∀ d, d ≠ c → (w.putObj c o').heap[d]? = w.heap[d]? := fun d hd => World.putObj_heap_other hd
  have hsz : (w.putObj c o').heap.size = w.heap.size := by simp [World.putObj]
  have hext : Ext w U ι (w.putObj c o') U ι :=
    { map := fun _ _ h => h, rng := fun b _ h => .inl ⟨b, h⟩, imm := fun _ h => h, new := fun _ h => .inl h, size := by omega
      kept := fun d _ hn => hother d (fun e => hn b (by rw [e]; exact hι))
      env := ⟨rfl, rfl, rfl⟩, shape := fun d _ => by
        by_cases e : d = c
        · subst e; exact hsh
        · exact shape_of_heap (hother d e) }
  refine ⟨hext, fun b' c' h => ?_, fun b1 b2 c' h1 h2 d1 d2 => ?_, fun c' h => ?_, fun b' c' h => ?_⟩
  · have := hH.dom b' c' h; exact ⟨by simpa [AHeap.set] using this.1, by rw [hsz]; exact this.2⟩
  · have live : ∀ b', ((H.set b blk).at_ b').isDead = false → (H.at_ b').isDead = false := by
      intro b' h'
      by_cases e : b' = b
      · subst e; exact hlive
      · simp only [AHeap.set, upd_isDead e] at h'; exact h'
    exact hH.inj b1 b2 c' h1 h2 (live b1 d1) (live b2 d2)
  · have := hH.imm c' h; exact ⟨by rw [hsz]; exact this.1, this.2⟩
  · by_cases e : b' = b
    · subst e
      rw [hι] at h; cases h
      simp only [AHeap.set, upd_same]
      exact hB hsame hext
    · simp only [AHeap.set]
      rw [upd_ne _ _ e]
      by_cases hdd : (H.at_ b').isDead = true
      · cases hx : H.at_ b' <;> rw [hx] at hdd <;> simp [Blk.isDead] at hdd
        trivial
      · have hne : c' ≠ c := by
          rintro rfl
          exact e (hH.inj b' b _ h hι (by simpa using hdd) hlive)
        exact (hH.blk b' c' h).mono (fun hv => hext.mono hH hv) (fun _ _ h => h) (hother c' hne)

end Go.BX
