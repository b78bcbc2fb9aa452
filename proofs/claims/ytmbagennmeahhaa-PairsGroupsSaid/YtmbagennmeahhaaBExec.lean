import Derived.Test.YtmbagennmeahhaaBMono
namespace Go.BX
set_option linter.unusedSimpArgs false
set_option linter.unusedVariables false

/-! # The machine does what 'exec' says -/

variable {C : Ctx} {w : World} {U : Nat → Prop} {ι : Nat → Option Nat}

def Ends (C : Ctx) (fn : FuncId) (tmps : Array Value) (todo : List Item) (ds : List Deferred) (kd : CallKind) (ro : Option Nat) (cs : List Frame) (w : World) (R : Value → World → Prop) : Prop :=
  ∃ v w', R v w' ∧ match ro with
    | none => ∃ tmps' todo' fnn, Steps C.P (lone (rf fn tmps todo ds kd none) cs w) (lone { rf fn tmps' todo' [] kd none with mode := .returning } cs w') ∧ C.P.funcs[fn]? = some fnn ∧ (results fnn tmps').run C.P w' = .ok v w'
    | some c => ∀ c0 cs', cs = c0 :: cs' → kd = .normal → Steps C.P (lone (rf fn tmps todo ds .normal (some c)) cs w) (lone (c0.finish v) cs' w')

theorem Ends.head {fn : FuncId} {tmps tmps1 : Array Value} {todo todo1 : List Item} {ds ds1 : List Deferred} {kd : CallKind} {ro : Option Nat} {cs : List Frame} {w1 : World} {R : Value → World → Prop} (hs : Steps C.P (lone (rf fn tmps todo ds kd ro) cs w) (lone (rf fn tmps1 todo1 ds1 kd ro) cs w1))
    (h : Ends C fn tmps1 todo1 ds1 kd ro cs w1 R) : Ends C fn tmps todo ds kd ro cs w R := by
  obtain ⟨v, w', hR, h⟩ := h
  refine ⟨v, w', hR, ?_⟩
  cases ro with
  | none => obtain ⟨t', k', fnn, h1, h2⟩ := h; exact ⟨t', k', fnn, hs.trans h1, h2⟩
  | some c => intro c0 cs' e hk; subst hk; exact hs.trans (h c0 cs' e rfl)

theorem Ends.mono {fn : FuncId} {tmps : Array Value} {todo : List Item} {ds : List Deferred} {kd : CallKind} {ro : Option Nat} {cs : List Frame} {R R' : Value → World → Prop} (h : Ends C fn tmps todo ds kd ro cs w R) (hr : ∀ v w', R v w' → R' v w') : Ends C fn tmps todo ds kd ro cs w R' := by
  obtain ⟨v, w', hR, h⟩ := h
  exact ⟨v, w', hr _ _ hR, h⟩

theorem Post.of {H H1 H' : AHeap} {r : AV} {v : Value} {w1 w' : World} {U1 : Nat → Prop} {ι1 : Nat → Option Nat} (he : Ext w U ι w1 U1 ι1) (hf : Fresh H ι ι1) (hn : H.next ≤ H1.next) (h : Post C w1 U1 ι1 H1 H' r v w') : Post C w U ι H H' r v w' := by
  obtain ⟨U', ι', hl, hf'⟩ := h
  refine ⟨U', ι', ⟨he.trans hl.ext, hl.heap, hl.val⟩, fun b c hb => ?_⟩
  rcases hf' b c hb with h | h
  · exact hf b c h
  · exact .inr (Nat.le_trans hn h)

def RoRel (ι : Nat → Option Nat) : Option Nat → Option Nat → Prop
  | none, none => True
  | some l, some c => ι l = some c
  | _, _ => False

theorem RoRel.mono {ι' : Nat → Option Nat} (h : ∀ b c, ι b = some c → ι' b = some c) {a b : Option Nat} (hr : RoRel ι a b) : RoRel ι' a b := by
  cases a <;> cases b <;> first | exact hr | exact h _ _ hr

theorem RoRel.isSome {a b : Option Nat} (hr : RoRel ι a b) : a.isSome = b.isSome := by
  cases a <;> cases b <;> first | rfl | exact hr.elim

def Sound (C : Ctx) (ex : AFr → List AItem → AHeap → Option (AV × AHeap)) : Prop :=
  ∀ fr items H r H', ex fr items H = some (r, H') → ∀ nt w U ι tmps todo ds ro, IsRel C.pure nt todo items → nt ≤ tmps.size → HRel C w U ι H → TRel w U ι fr.T tmps → DsRel w U ι fr.defers ds → RoRel ι fr.round ro →
    ∀ kd cs, Ends C fr.fn tmps todo ds kd ro cs w (Post C w U ι H H' r)

/-! ## Functions and rounds -/

theorem run_enter {f : FuncId} {fi : FI} (h : FIok C f fi) (args : Array Value) (w : World) : (callFunc f args).run C.P w = .ok (.enter f args) w := by
  obtain ⟨fn, c, hf, hb, _, _, _, hn⟩ := h.fn
  have hn' : ¬ fn.name = "runtime.NumGoroutine" := by simpa using hn
  simp [callFunc, program, Sem.run_bind, Sem.run, hf, hb, hn']

theorem frame_enter {f : FuncId} {fi : FI} (h : FIok C f fi) (args : Array Value) (kd : CallKind) : ∃ c, strip C.pure fi.ntmps c = some fi.body ∧ Frame.enter C.P f args kd = rf f (args ++ Array.replicate (fi.ntmps - args.size) undef) [.code c] [] kd none := by
  obtain ⟨fn, c, hf, hb, hs, hnt, _, _⟩ := h.fn
  exact ⟨c, hs, by simp [Frame.enter, hf, hb, hnt]⟩

theorem enter_rel {args : List AV} {vs : List Value} (h : LsRel w U ι args vs) (n : Nat) : TRel w U ι (enterT args) (vs.toArray ++ Array.replicate n undef) := by
  intro t
  unfold enterT
  rcases Nat.lt_or_ge t args.length with ht | ht
  · have hv : t < vs.length := by rw [h.1]; exact ht
    rw [List.getElem?_eq_getElem ht]
    have e : (vs.toArray ++ Array.replicate n undef).getD t undef = vs[t] := by
      simp [Array.getD_eq_getD_getElem?, Array.getElem?_append, hv]
    rw [e]
    exact h.2 t _ _ (List.getElem?_eq_getElem ht) (List.getElem?_eq_getElem hv)
  · rw [List.getElem?_eq_none ht]
    have hv : ¬ t < vs.length := by rw [h.1]; omega
    have e : (vs.toArray ++ Array.replicate n undef).getD t undef = undef := by
      simp only [Array.getD_eq_getD_getElem?, Array.getElem?_append, List.size_toArray, hv, if_false, Array.getElem?_replicate]
      split <;> rfl
    rw [e]
    exact .undef

theorem put_fold : ∀ {ps : List Nat} {args : List AV} {us : List Value} {T : Nat → AV} {tmps : Array Value}, ps.length = args.length → LsRel w U ι args us → TRel w U ι T tmps → (∀ t, t ∈ ps → t < tmps.size) →
    TRel w U ι (foldPut T ps args) ((ps.zip us).foldl (fun tmps (t, a) => tmps.setIfInBounds t a) tmps) ∧ ((ps.zip us).foldl (fun (tmps : Array Value) (t, a) => tmps.setIfInBounds t a) tmps).size = tmps.size := by
  intro ps
  induction ps with
  | nil => intro args us T tmps _ _ hT _; exact ⟨by cases args <;> simpa [foldPut] using hT, by simp⟩
  | cons p ps ih =>
    intro args us T tmps hl ha hT hlt
    cases args with
    | nil => simp at hl
    | cons a args =>
      obtain ⟨v, us', rfl, hv, ha'⟩ := ha.cases_cons
      have h1 : TRel w U ι (upd T p a) (tmps.setIfInBounds p v) := put_rel (d := some p) hT (fun x hx => by cases hx; exact hlt p (by simp)) hv
      obtain ⟨h2, h3⟩ := ih (by simpa using hl) ha' h1 (fun t ht => by rw [Array.size_setIfInBounds]; exact hlt t (by simp [ht]))
      exact ⟨h2, by simpa using h3⟩

theorem simCl_of (hx : ExtOk C) (hF : ∀ f fi, C.FT f = some fi → FIok C f fi) {ex : AFr → List AItem → AHeap → Option (AV × AHeap)} (h : Sound C ex) : SimCl C (clMk C ex) where
  call := fun f args H r H' hc w U ι vs hH ha => by
    simp only [clMk] at hc
    split at hc
    · rename_i g hg; exact hx.sound f g args H r H' hg hc w U ι vs hH ha
    · split at hc
      · rename_i fi hfi
        have hok := hF f fi hfi
        refine .inr ⟨run_enter hok _ _, fun c cs => ?_⟩
        obtain ⟨cd, hs, he⟩ := frame_enter hok vs.toArray .normal
        obtain ⟨v, w', hR, tmps', todo', fnn, hst, hfn, hres⟩ := h _ _ _ _ _ hc fi.ntmps w U ι (vs.toArray ++ Array.replicate (fi.ntmps - vs.toArray.size) undef) [.code cd] [] none (.cons (.code hs) .nil) (by simp; omega) hH (enter_rel ha _) .nil trivial .normal (c :: cs)
        refine ⟨v, w', hR, ?_⟩
        rw [he]
        exact hst.trans (.one (step_leave_returned ⟨rfl, rfl, rfl, fnn, hfn, hres⟩))
      · cases hc
  callD := fun f args H r H' hext hc w U ι vs hH ha => by
    simp only [clMk] at hc
    rw [hext] at hc
    simp only at hc
    split at hc
    · rename_i fi hfi
      have hok := hF f fi hfi
      refine ⟨run_enter hok _ _, fun c cs hm => ?_⟩
      obtain ⟨cd, hs, he⟩ := frame_enter hok vs.toArray .deferred
      obtain ⟨v, w', hR, tmps', todo', fnn, hst, hfn, hres⟩ := h _ _ _ _ _ hc fi.ntmps w U ι (vs.toArray ++ Array.replicate (fi.ntmps - vs.toArray.size) undef) [.code cd] [] none (.cons (.code hs) .nil) (by simp; omega) hH (enter_rel ha _) .nil trivial .deferred (c :: cs)
      refine ⟨v, w', hR, ?_⟩
      rw [he]
      refine hst.trans (.one ?_)
      rw [step_going_returned rfl ⟨rfl, rfl, fnn, hfn, hres⟩]
      have : ({ c with mode := settle c.mode } : Frame) = c := by rw [hm, ← hm]; simp [settle, hm]; rw [← hm]
      rw [this]
    · cases hc
  round := fun l args H r H' hc w U ι vs c hH ha hl => by
    simp only [clMk] at hc
    split at hc
    · rename_i L hL
      split at hc
      · rename_i hlen
        have hb := hH.blk l c hl
        rw [hL] at hb
        obtain ⟨R, nt, hR, hLR⟩ := hb
        have hsz : vs.toArray.size = R.params.size := by
          have := ha.1; rw [hLR.params] at hlen; simp at hlen ⊢; omega
        obtain ⟨hT, hsz'⟩ := put_fold (ps := L.params) (tmps := R.tmps) hlen.symm ha hLR.T (fun t ht => Nat.lt_of_lt_of_le (hLR.lt t ht) hLR.size)
        refine ⟨R.fn, (R.params.zip vs.toArray).foldl (fun tmps (t, a) => tmps.setIfInBounds t a) R.tmps, R.assign, R.body, ?_, fun c0 cs => ?_⟩
        · have hg : (Instr.getLoop c).run C.P w = .ok R w := by simp [Instr.getLoop, getObj, Sem.run_bind, Sem.run, hR]
          unfold Instr.yield
          simp only [Sem.run_bind, hg, Result.andThen_ok, hsz, ne_eq, not_true_eq_false, if_false, Sem.run_pure]
        · have e : (R.params.zip vs.toArray).foldl (fun tmps (t, a) => tmps.setIfInBounds t a) R.tmps = (L.params.zip vs).foldl (fun tmps (t, a) => tmps.setIfInBounds t a) R.tmps := by
            rw [← Array.foldl_toList, hLR.params]; simp
          rw [e]
          obtain ⟨v, w', hR', hst⟩ := h _ _ _ _ _ hc nt w U ι _ [.code R.assign, .beginRound, .code R.body] [] (some c) (.cons (.code hLR.assign) (.cons .beginRound (.cons (.code hLR.body) .nil))) (by rw [hsz']; exact hLR.size) hH hT .nil hl .normal (c0 :: cs)
          refine ⟨v, w', hR', ?_⟩
          have := hst c0 cs rfl rfl
          rw [hLR.fn] at this
          exact this
      · cases hc
    · cases hc

end Go.BX
