import Derived.Test.YtmbagennmeahhaaBStep
import Derived.Defers
namespace Go.BX
set_option linter.unusedSimpArgs false
set_option linter.unusedVariables false

/-! # Calls -/

variable {C : Ctx} {w : World} {U : Nat → Prop} {ι : Nat → Option Nat}

def Post (C : Ctx) (w : World) (U : Nat → Prop) (ι : Nat → Option Nat) (H H' : AHeap) (r : AV) (v : Value) (w' : World) : Prop := ∃ U' ι', BX.Leaves C w U ι H' r v w' U' ι' ∧ Fresh H ι ι'

/-- A call, as it is made from an operation: it answers at once, or a frame runs and hands back. -/
def InvN (P : Program) (f : FuncId) (vs : List Value) (w : World) (R : Value → World → Prop) : Prop :=
  (∃ v w', (callFunc f vs.toArray).run P w = .ok (.value v) w' ∧ R v w') ∨
  ((callFunc f vs.toArray).run P w = .ok (.enter f vs.toArray) w ∧ ∀ (c : Frame) (cs : List Frame), ∃ v w', R v w' ∧ Steps P (lone (Frame.enter P f vs.toArray .normal) (c :: cs) w) (lone (c.finish v) cs w'))

/-- A deferred call. -/
def InvD (P : Program) (f : FuncId) (vs : List Value) (w : World) (R : Value → World → Prop) : Prop :=
  (callFunc f vs.toArray).run P w = .ok (.enter f vs.toArray) w ∧ ∀ (c : Frame) (cs : List Frame), c.mode = .returning → ∃ v w', R v w' ∧ Steps P (lone (Frame.enter P f vs.toArray .deferred) (c :: cs) w) (lone c cs w')

structure SimCl (C : Ctx) (cl : Cl) : Prop where
  call : ∀ f args H r H', cl.call f args H = some (r, H') → ∀ w U ι vs, HRel C w U ι H → LsRel w U ι args vs → InvN C.P f vs w (Post C w U ι H H' r)
  callD : ∀ f args H r H', C.ext f = none → cl.call f args H = some (r, H') → ∀ w U ι vs, HRel C w U ι H → LsRel w U ι args vs → InvD C.P f vs w (Post C w U ι H H' r)
  round : ∀ l args H r H', cl.round l args H = some (r, H') → ∀ w U ι vs c, HRel C w U ι H → LsRel w U ι args vs → ι l = some c →
    ∃ f ts assign body, (Instr.yield c vs.toArray).run C.P w = .ok (.round c f ts assign body) w ∧
      ∀ (c0 : Frame) (cs : List Frame), ∃ v w', Post C w U ι H H' r v w' ∧ Steps C.P (lone (Frame.round c f ts assign body .normal) (c0 :: cs) w) (lone (c0.finish v) cs w')

theorem InvN.mono {P : Program} {f : FuncId} {vs : List Value} {R R' : Value → World → Prop} (h : InvN P f vs w R) (hr : ∀ v w', R v w' → R' v w') : InvN P f vs w R' := by
  rcases h with ⟨v, w', h1, h2⟩ | ⟨h1, h2⟩
  · exact .inl ⟨v, w', h1, hr _ _ h2⟩
  · exact .inr ⟨h1, fun c cs => let ⟨v, w', hR, hs⟩ := h2 c cs; ⟨v, w', hr _ _ hR, hs⟩⟩

/-- The heap stays as it is: nothing that is mapped has changed. -/
theorem HRel.kept {H : AHeap} (hH : HRel C w U ι H) {w' : World} {U' : Nat → Prop} (hm : ∀ {a : AV} {v : Value}, VRel w U ι a v → VRel w' U' ι a v) (hall : ∀ c, c < w.heap.size → w'.heap[c]? = w.heap[c]?) (hsz : w.heap.size ≤ w'.heap.size)
    (hU : ∀ c, U' c → c < w'.heap.size ∧ ∀ b, ι b ≠ some c) : HRel C w' U' ι H :=
  ⟨fun b c hb => ⟨(hH.dom b c hb).1, Nat.lt_of_lt_of_le (hH.dom b c hb).2 hsz⟩, hH.inj, hU, fun b c hb => (hH.blk b c hb).mono hm (fun _ _ h => h) (hall c (hH.dom b c hb).2)⟩

/-- What a pure call leaves. -/
structure PureLeaves (C : Ctx) (w : World) (U : Nat → Prop) (ι : Nat → Option Nat) (H : AHeap) (r : AV) (v : Value) (w' : World) (U' : Nat → Prop) : Prop where
  lv : BX.Leaves C w U ι H r v w' U' ι
  all : ∀ c, c < w.heap.size → w'.heap[c]? = w.heap[c]?

theorem pure_leaves {H H1 : AHeap} (hH : HRel C w U ι H) {r0 r : AV} {v : Value} {w' : World} {U1 : Nat → Prop} {ι1 : Nat → Option Nat} (h : BX.Leaves C w U (fun _ => none) H1 r0 v w' U1 ι1) (hf : freeze H1 r0 = some r) :
    PureLeaves C w U ι H r v w' (Still U1 ι1) := by
  have hall : ∀ c, c < w.heap.size → w'.heap[c]? = w.heap[c]? := fun c hc => h.ext.kept c hc (fun b hb => by cases hb)
  have hnew : ∀ c, Still U1 ι1 c → U c ∨ w.heap.size ≤ c := by
    intro c hc
    rcases hc with hc | ⟨b, hb⟩
    · exact h.ext.new c hc
    · rcases h.ext.rng b c hb with ⟨b0, hb0⟩ | hle
      · cases hb0
      · exact .inr hle
  have hlt : ∀ c, Still U1 ι1 c → c < w'.heap.size := by
    intro c hc
    rcases hc with hc | ⟨b, hb⟩
    · exact (h.heap.imm c hc).1
    · exact (h.heap.dom b c hb).2
  have hext : Ext w U ι w' (Still U1 ι1) ι :=
    { map := fun _ _ h => h, rng := fun b _ h => .inl ⟨b, h⟩, imm := fun c hc => .inl (h.ext.imm c hc), new := hnew, size := h.ext.size, kept := fun c hc _ => hall c hc, shape := fun c hc => shape_of_heap (hall c hc), env := h.ext.env }
  refine ⟨⟨hext, ?_, ?_⟩, hall⟩
  · refine hH.kept (fun hv => hext.mono hH hv) hall h.ext.size (fun c hc => ⟨hlt c hc, fun b hb => ?_⟩)
    rcases hnew c hc with hU | hle
    · exact (hH.imm c hU).2 b hb
    · have := (hH.dom b c hb).2; omega
  · exact (freeze_sound h.heap h.val hf).mono (fun _ h => h) (fun _ _ => rfl) (fun _ _ h => h) ι (fun _ _ h => by cases h)

theorem empty_rel {H : AHeap} (hH : HRel C w U ι H) : HRel C w U (fun _ => none) AHeap.empty :=
  ⟨(fun b c h => by cases h), (fun b b' c h => by cases h), (fun c hc => ⟨(hH.imm c hc).1, (fun b hb => by cases hb)⟩), (fun b c h => by cases h)⟩

theorem solid1_rel {a : AV} {v : Value} (h : VRel w U ι a v) (hs : a.solid1 = true) : ∀ (w' : World) (U' : Nat → Prop) (ι' : Nat → Option Nat), VRel w' U' ι' a v := by
  intro w' U' ι'
  cases h <;> first | (simp [AV.solid1] at hs; done) | (constructor <;> assumption) | constructor

theorem solid2_rel {a : AV} {v : Value} (h : VRel w U ι a v) (hs : a.solid2 = true) : ∀ (w' : World) (U' : Nat → Prop) (ι' : Nat → Option Nat), VRel w' U' ι' a v := by
  intro w' U' ι'
  cases h with
  | agg cs vs hl h1 h =>
    simp only [AV.solid2, List.all_eq_true] at hs
    exact .agg cs vs hl h1 fun i a v ha hv => solid1_rel (h i a v ha hv) (hs a (List.mem_of_getElem? ha)) w' U' ι'
  | _ => exact solid1_rel (w := w) (U := U) (ι := ι) (by first | (constructor <;> assumption) | constructor) (by simpa [AV.solid2] using hs) w' U' ι'

theorem solid_rel {a : AV} {v : Value} (h : VRel w U ι a v) (hs : a.solid = true) : ∀ (w' : World) (U' : Nat → Prop) (ι' : Nat → Option Nat), VRel w' U' ι' a v := by
  intro w' U' ι'
  cases h with
  | tuple cs vs hl h =>
    simp only [AV.solid, List.all_eq_true] at hs
    exact .tuple cs vs hl fun i a v ha hv => solid2_rel (h i a v ha hv) (hs a (List.mem_of_getElem? ha)) w' U' ι'
  | _ => exact solid2_rel (w := w) (U := U) (ι := ι) (by first | (constructor <;> assumption) | constructor) (by simpa [AV.solid] using hs) w' U' ι'

theorem freezes_rel {H : AHeap} (hH : HRel C w U ι H) : ∀ {args args' : List AV} {vs : List Value}, LsRel w U ι args vs → mapO (freeze H) args = some args' → LsRel w (Still U ι) (fun _ => none) args' vs := by
  intro args
  induction args with
  | nil => intro args' vs ha h; simp only [mapO, Option.some.injEq] at h; subst h; obtain rfl := ha.cases_nil; exact LsRel.nil
  | cons a args ih =>
    intro args' vs ha h
    obtain ⟨v, us, rfl, hv, ha'⟩ := ha.cases_cons
    simp only [mapO] at h
    split at h
    · rename_i y ys hy hys
      cases h
      exact LsRel.cons (freeze_sound hH hv hy) (ih ha' hys)
    · cases h

theorem flat_at {k : Nat} : ∀ (es : List (List AV)) (p : Nat) (e0 : List AV), (∀ e, e ∈ es → e.length = k) → es[p]? = some e0 → ∀ (q : Nat) (x0 : AV), e0[q]? = some x0 → es.flatten[p * k + q]? = some x0 := by
  intro es
  induction es with
  | nil => intro p e0 _ h; simp at h
  | cons y es ih =>
    intro p e0 hk he j a ha
    have hx : y.length = k := hk y (by simp)
    cases p with
    | zero =>
      simp at he; subst he
      have hj : j < y.length := (List.getElem?_eq_some_iff.mp ha).1
      simp only [List.flatten_cons, Nat.zero_mul, Nat.zero_add]
      rw [List.getElem?_append_left hj]; exact ha
    | succ i =>
      simp at he
      have := ih i e0 (fun e he => hk e (by simp [he])) he j a ha
      simp only [List.flatten_cons]
      rw [List.getElem?_append_right (by rw [hx, Nat.add_mul]; omega), hx]
      rw [show (i + 1) * k + j - k = i * k + j from by rw [Nat.add_mul]; omega]
      exact this

/-- A slice that a function made itself, frozen. -/
theorem made1_sound {H : AHeap} {U0 : Nat → Prop} (hH : HRel C w U ι H) {a r : AV} {v : Value} (hv : VRel w U ι a v) (h : made1 H a = some r) : VRel w (Still U0 ι) (fun _ => none) r v := by
  unfold made1 at h
  split at h
  · rename_i hs
    cases h
    exact solid2_rel hv hs _ _ _
  · split at h
    · rename_i b k i n _
      split at h
      · rename_i es hes
        split at h
        · rename_i hall
          cases h
          simp only [List.all_eq_true] at hall
          obtain ⟨hk, a, cap, vs, hva, hr, h1, hor⟩ := elems_sound hH hv hes
          cases hv with
          | slc _ _ _ _ c off cap' m t hb ho hn hsh hm =>
            simp only [Value.slice.injEq] at hva
            obtain ⟨rfl, hn', rfl⟩ := hva
            rw [hn']
            rcases hor with ⟨h0, _⟩ | ⟨ad, had, hc⟩
            · cases h0
            · cases had
              refine .vec es ⟨c, off, none⟩ k cap' (fun p q => vs.getD (p * k + q) undef) (by rw [← hn']; exact hn) hk (fun _ => .inr ⟨b, hb⟩) (fun _ => rfl) (fun p q hp hq => ?_) (fun e he x hx => ?_) (fun p e q x he hx => ?_)
              · have hlt : p * k + q < vs.length := by
                  rw [hr.1, flat_len hk]
                  have : (p + 1) * k ≤ es.length * k := Nat.mul_le_mul_right _ hp
                  rw [Nat.add_mul] at this; omega
                have := hc (p * k + q) _ (List.getElem?_eq_getElem hlt)
                rw [Addr.add_eq, ← Nat.add_assoc] at this
                rw [this]
                simp [List.getD, List.getElem?_eq_getElem hlt]
              · exact h1 x (by rw [List.mem_flatten]; exact ⟨e, he, hx⟩)
              · have hidx := flat_at (k := k) es p e hk he q x hx
                obtain ⟨u, hu, hur⟩ := hr.get hidx
                have : vs.getD (p * k + q) undef = u := by simp [List.getD, hu]
                rw [this]
                exact solid1_rel hur (hall e (List.mem_of_getElem? he) x (List.mem_of_getElem? hx)) _ _ _
        · cases h
      · cases h
    · cases h

theorem madeT_sound {H : AHeap} {U0 : Nat → Prop} (hH : HRel C w U ι H) {a r : AV} {v : Value} (hv : VRel w U ι a v) (h : madeT H a = some r) : VRel w (Still U0 ι) (fun _ => none) r v := by
  unfold madeT at h
  split at h
  · simp only [Option.map_eq_some_iff] at h
    obtain ⟨ds, hds, rfl⟩ := h
    cases hv with
    | tuple _ vs hl hr =>
      refine .tuple ds vs (by rw [hl, mapO_len hds]) (fun i a v ha hv => ?_)
      obtain ⟨a0, ha0, hf⟩ := mapO_get' hds i a ha
      exact made1_sound hH (hr i a0 v ha0 hv) hf
  · exact made1_sound hH hv h

/-- A function that is called. -/
theorem callF_sound {cl : Cl} (hs : SimCl C cl) {f : FuncId} {args : List AV} {H H' : AHeap} {r : AV} (h : callF C cl f args H = some (r, H')) {vs : List Value} (hH : HRel C w U ι H) (ha : LsRel w U ι args vs) :
    InvN C.P f vs w (fun v w' => ∃ U' ι', BX.Leaves C w U ι H' r v w' U' ι' ∧ Fresh H ι ι' ∧ (C.pure f = true → H' = H ∧ ι' = ι ∧ ∀ c, c < w.heap.size → w'.heap[c]? = w.heap[c]?)) := by
  unfold callF at h
  split at h
  · rename_i hp
    split at h
    · rename_i hflat
      split at h
      · rename_i r0 H1 hc
        simp only [Option.map_eq_some_iff] at h
        obtain ⟨r1, hfz, he⟩ := h
        cases he
        have ha' : LsRel w U (fun _ => none) args vs := ⟨ha.1, fun i a v hia hiv => (ha.2 i a v hia hiv).flat (by
          simp only [List.all_eq_true] at hflat
          exact hflat a (List.mem_of_getElem? hia)) _⟩
        refine (hs.call f args AHeap.empty r0 H1 hc w U (fun _ => none) vs (empty_rel hH) ha').mono ?_
        rintro v w' ⟨U1, ι1, hl, _⟩
        have hpl := pure_leaves hH hl hfz
        exact ⟨_, ι, hpl.lv, Fresh.refl _ _, fun _ => ⟨rfl, rfl, hpl.all⟩⟩
      · cases h
    · split at h
      · rename_i args' hargs
        split at h
        · rename_i r0 H1 hc
          split at h
          · rename_i r1 hfz
            split at h
            · rename_i hsol
              cases h
              have hfr := freezes_rel hH ha hargs
              have hemp : HRel C w (Still U ι) (fun _ => none) AHeap.empty := ⟨(fun b c h => by cases h), (fun b b' c h => by cases h), (fun c hc => ⟨by
                rcases hc with hc | ⟨b, hb⟩
                · exact (hH.imm c hc).1
                · exact (hH.dom b c hb).2, (fun b hb => by cases hb)⟩), (fun b c h => by cases h)⟩
              refine (hs.call f args' AHeap.empty r0 H1 hc w (Still U ι) (fun _ => none) vs hemp hfr).mono ?_
              rintro v w' ⟨U1, ι1, hl, _⟩
              have hall : ∀ c, c < w.heap.size → w'.heap[c]? = w.heap[c]? := fun c hc => hl.ext.kept c hc (fun b hb => by cases hb)
              have hext : Ext w U ι w' U ι :=
                { map := fun _ _ h => h, rng := fun b _ h => .inl ⟨b, h⟩, imm := fun _ h => h, new := fun _ h => .inl h, size := hl.ext.size, kept := fun c hc _ => hall c hc, shape := fun c hc => shape_of_heap (hall c hc), env := hl.ext.env }
              have hv := freeze_sound hl.heap hl.val hfz
              exact ⟨U, ι, ⟨hext, hH.kept (fun hv => hext.mono hH hv) hall hl.ext.size (fun c hc => ⟨Nat.lt_of_lt_of_le (hH.imm c hc).1 hl.ext.size, (hH.imm c hc).2⟩), solid_rel hv hsol _ _ _⟩, Fresh.refl _ _, fun _ => ⟨rfl, rfl, hall⟩⟩
            · simp only [Option.map_eq_some_iff] at h
              obtain ⟨r2, hmd, he⟩ := h
              cases he
              have hfr := freezes_rel hH ha hargs
              have hemp : HRel C w (Still U ι) (fun _ => none) AHeap.empty := ⟨(fun b c h => by cases h), (fun b b' c h => by cases h), (fun c hc => ⟨by
                rcases hc with hc | ⟨b, hb⟩
                · exact (hH.imm c hc).1
                · exact (hH.dom b c hb).2, (fun b hb => by cases hb)⟩), (fun b c h => by cases h)⟩
              refine (hs.call f args' AHeap.empty r0 H1 hc w (Still U ι) (fun _ => none) vs hemp hfr).mono ?_
              rintro v w' ⟨U1, ι1, hl, _⟩
              have hall : ∀ c, c < w.heap.size → w'.heap[c]? = w.heap[c]? := fun c hc => hl.ext.kept c hc (fun b hb => by cases hb)
              have hnew1 : ∀ b c, ι1 b = some c → w.heap.size ≤ c := fun b c hb => by
                rcases hl.ext.rng b c hb with ⟨b0, hb0⟩ | hle
                · cases hb0
                · exact hle
              have hext : Ext w U ι w' (Still U ι1) ι :=
                { map := fun _ _ h => h, rng := fun b _ h => .inl ⟨b, h⟩, imm := fun _ h => .inl h, new := fun c hc => hc.elim .inl (fun ⟨b, hb⟩ => .inr (hnew1 b c hb)), size := hl.ext.size, kept := fun c hc _ => hall c hc, shape := fun c hc => shape_of_heap (hall c hc), env := hl.ext.env }
              have hv := madeT_sound (U0 := U) hl.heap hl.val hmd
              refine ⟨Still U ι1, ι, ⟨hext, hH.kept (fun hv => hext.mono hH hv) hall hl.ext.size (fun c hc => ?_), hv.mono (fun _ h => h) (fun _ _ => rfl) (fun _ _ h => h) ι (fun _ _ h => by cases h)⟩, Fresh.refl _ _, fun _ => ⟨rfl, rfl, hall⟩⟩
              rcases hc with hc | ⟨b, hb⟩
              · exact ⟨Nat.lt_of_lt_of_le (hH.imm c hc).1 hl.ext.size, (hH.imm c hc).2⟩
              · refine ⟨(hl.heap.dom b c hb).2, fun b' hb' => ?_⟩
                have h1 := hnew1 b c hb
                have h2 := (hH.dom b' c hb').2
                omega
          · cases h
        · cases h
      · cases h
  · rename_i hp
    refine (hs.call f args H r H' h w U ι vs hH ha).mono ?_
    rintro v w' ⟨U1, ι1, hl, hfr⟩
    exact ⟨U1, ι1, hl, hfr, fun hp' => absurd hp' hp⟩

/-- The deferred calls. -/
inductive DRel (w : World) (U : Nat → Prop) (ι : Nat → Option Nat) : ADef → Deferred → Prop
  | call {a args fn first cap vs} (hv : VRel w U ι a (.func fn first cap)) (ha : LsRel w U ι args vs) : DRel w U ι (.call a args) { target := .fn fn cap, args := first ++ vs.toArray }
  | collected {b c} (h : ι b = some c) : DRel w U ι (.collected b) { target := .collected c, args := #[] }

inductive DsRel (w : World) (U : Nat → Prop) (ι : Nat → Option Nat) : List ADef → List Deferred → Prop
  | nil : DsRel w U ι [] []
  | cons {a d as ds} (h : DRel w U ι a d) (hs : DsRel w U ι as ds) : DsRel w U ι (a :: as) (d :: ds)

theorem DsRel.mono {w' : World} {U' : Nat → Prop} {ι' : Nat → Option Nat} (hm : ∀ {a : AV} {v : Value}, VRel w U ι a v → VRel w' U' ι' a v) (hι : ∀ b c, ι b = some c → ι' b = some c) {as : List ADef} {ds : List Deferred} (h : DsRel w U ι as ds) : DsRel w' U' ι' as ds := by
  induction h with
  | nil => exact .nil
  | cons h _ ih =>
    refine .cons ?_ ih
    cases h with
    | call hv ha => exact .call (hm hv) (ha.mono hm)
    | collected h => exact .collected (hι _ _ h)

section
variable {ops : Array Oper} {i : Nat} {o : Oper} {fn : FuncId} {tmps : Array Value} {ds : List Deferred} {kd : CallKind} {ro : Option Nat}

/-- A call out of an operation. -/
theorem op_call (ho : ops[i]? = some o) (hw : Region.wanted o (yielded ops tmps) = true) (hd : ro = none ∨ isDefer o.op = false) {f : FuncId} {vs : List Value} {R : Value → World → Prop}
    (hx : (execOp ({ tmps := tmps, defers := ds } : Act).eval o).run C.P w = (callFunc f vs.toArray).run C.P w) (h : InvN C.P f vs w R) (rest : List Nat) (k : List Item) (cs : List Frame) :
    ∃ v w', R v w' ∧ Steps C.P (lone (rf fn tmps (.inRegion ops (i :: rest) :: k) ds kd ro) cs w) (lone (rf fn (putV tmps o.dst v) (.inRegion ops rest :: k) ds kd ro) cs w') := by
  rcases h with ⟨v, w', h1, h2⟩ | ⟨h1, h2⟩
  · exact ⟨v, w', h2, .one (st_op_value ho hw hd (.inl (by rw [hx, h1])))⟩
  · obtain ⟨v, w', hR, hsteps⟩ := h2 (rf fn tmps (.inRegion ops (i :: rest) :: k) ds kd ro) cs
    refine ⟨v, w', hR, Steps.trans (.one (st_op_enter ho hw hd (by rw [hx, h1]))) ?_⟩
    have hf := @finish_rf fn tmps k ds kd ro ops i rest v
    rw [ho, Option.bind_some] at hf
    rw [← hf]
    exact hsteps

/-- What an operation is said to do, by its class. -/
structure OpFacts (C : Ctx) (op : Op) (T : Nat → AV) (H H' : AHeap) (ι ι' : Nat → Option Nat) (w w' : World) : Prop where
  reader : cls C.pure op ≠ .writer → Reads w ι H H' w' ι'
  inert : cls C.pure op = .inert → H' = H
  writes : ∀ t, fwT op = some t → ∀ c, c < w.heap.size → (∀ b, foot (T t) = some (some b) → (H.at_ b).isDead = false → ι b ≠ some c) → w'.heap[c]? = w.heap[c]?

theorem fwT_writer {pure : FuncId → Bool} {op : Op} {t : Nat} (h : fwT op = some t) : cls pure op = .writer := by
  unfold fwT at h
  split at h
  · rfl
  · rfl
  · cases h

theorem OpFacts.of_reader {C : Ctx} {op : Op} {T : Nat → AV} {H H' : AHeap} {ι ι' : Nat → Option Nat} {w w' : World} (hc : cls C.pure op ≠ .writer) (hr : Reads w ι H H' w' ι') (hi : cls C.pure op = .inert → H' = H) : OpFacts C op T H H' ι ι' w w' :=
  ⟨fun _ => hr, hi, fun t ht => absurd (fwT_writer ht) hc⟩

theorem OpFacts.of_writer {C : Ctx} {op : Op} {T : Nat → AV} {H H' : AHeap} {ι ι' : Nat → Option Nat} {w w' : World} (hc : cls C.pure op = .writer) (hf : fwT op = none) : OpFacts C op T H H' ι ι' w w' :=
  ⟨fun h => absurd hc h, (fun h => by rw [hc] at h; cases h), (fun t ht => by rw [hf] at ht; cases ht)⟩

theorem OpFacts.of_skip {C : Ctx} {op : Op} {T : Nat → AV} {H : AHeap} {ι : Nat → Option Nat} {w : World} : OpFacts C op T H H ι ι w w :=
  ⟨fun _ => ⟨fun _ _ => rfl, Nat.le_refl _, fun _ _ => rfl, fun b c h => .inl h⟩, fun _ => rfl, fun _ _ _ _ _ => rfl⟩

/-- AN OPERATION THAT IS NO CALL. -/
theorem prim_sound (hC : TOk C) {T : Nat → AV} {H H' : AHeap} {r : AV} (hH : HRel C w U ι H) (hT : TRel w U ι T tmps) (h : prim C T H o.op = some (r, H')) :
    ∃ v w' ι', ((execOp ({ tmps := tmps, defers := ds } : Act).eval o).run C.P w = .ok (.value v) w' ∨ ((execOp ({ tmps := tmps, defers := ds } : Act).eval o).run C.P w = .ok .skip w' ∧ v = undef)) ∧
      BX.Leaves C w U ι H' r v w' U ι' ∧ Fresh H ι ι' ∧ OpFacts C o.op T H H' ι ι' w w' := by
  have hself : Reads w ι H H w ι := ⟨fun _ _ => rfl, Nat.le_refl _, fun _ _ => rfl, fun b c h => .inl h⟩
  unfold prim at h
  split at h
  · rename_i hin
    simp only [Option.map_eq_some_iff] at h
    obtain ⟨r', hr', he⟩ := h
    cases he
    obtain ⟨v, hv, hvr⟩ := primP_sound (a := { tmps := tmps, defers := ds }) hC hT hr'
    exact ⟨v, w, ι, .inl hv, ⟨Ext.refl _ _ _, hH, hvr⟩, Fresh.refl _ _, OpFacts.of_skip⟩
  · rename_i hin
    have ho' : ∀ (s : Sem Value) (v : Value) (w' : World), s.run C.P w = .ok v w' → (do pure (.value (← s)) : Sem Next).run C.P w = .ok (.value v) w' := by
      intro s v w' hs; simp [hs]
    obtain ⟨dst, op, ty, pos, after, guard⟩ := o
    simp only at h hin ⊢
    let act : Act := { tmps := tmps, defers := ds }
    cases op <;> simp only [primM, reduceCtorEq] at h
    case alloc t =>
      split at h
      · rename_i ti hti
        cases h
        obtain ⟨v, w', ι', hr, hl, hrd⟩ := alloc_sound hC hH hti
        exact ⟨v, w', ι', .inl (ho' _ _ _ hr), hl, hrd.fresh, OpFacts.of_reader (by simp [cls]) hrd (fun hc => by simp [cls] at hc)⟩
      · cases h
    case box t x =>
      split at h
      · rename_i ti v hti hv
        split at h
        · rename_i hc
          cases h
          obtain ⟨u, w', ι', hr, hl, hrd⟩ := box_sound (t := t) hH (ev_sound (a := act) hT hv) hc.1 hc.2
          exact ⟨u, w', ι', .inl (ho' _ _ _ hr), hl, hrd.fresh, OpFacts.of_reader (by simp [cls]) hrd (fun hc => by simp [cls] at hc)⟩
        · cases h
      · cases h
    case buildSlice t len parts =>
      split at h
      · rename_i elem sz by_ zr eq ps hti hps
        split at h
        · rename_i te hte
          split at h
          · rename_i hle
            split at h
            · rename_i cells hf
              cases h
              obtain ⟨hl, hr⟩ := parts_sound (a := act) hT hps
              obtain ⟨u, w', ι', hrun, hlv, hrd⟩ := buildSlice_sound (us := parts.toList.map fun (i, x) => (i, act.eval x)) hC hH hti hte hle (by simp [hl]) (fun i p u hp hu => by
                rw [List.getElem?_map] at hu
                simp only [Option.map_eq_some_iff] at hu
                obtain ⟨q, hq, rfl⟩ := hu
                exact hr i p q hp hq) hf
              refine ⟨u, w', ι', .inl (ho' _ _ _ ?_), hlv, hrd.fresh, OpFacts.of_reader (by simp [cls]) hrd (fun hc => by simp [cls] at hc)⟩
              have e : (parts.map fun (i, x) => (i, act.eval x)) = (parts.toList.map fun (i, x) => (i, act.eval x)).toArray := Array.ext' (by simp)
              rw [← hrun, ← e]
            · cases h
          · cases h
        · cases h
      · cases h
    case load t x =>
      split at h
      · rename_i p hp
        simp only [Option.map_eq_some_iff] at h
        obtain ⟨r', hr', he⟩ := h
        cases he
        obtain ⟨u, hu, hur⟩ := load_sound hC hH (ev_sound (a := act) hT hp) hr'
        exact ⟨u, w, ι, .inl (ho' _ _ _ hu), ⟨Ext.refl _ _ _, hH, hur⟩, Fresh.refl _ _, OpFacts.of_skip⟩
      · cases h
    case store t a x =>
      split at h
      · rename_i p v hp hv
        simp only [Option.map_eq_some_iff] at h
        obtain ⟨H1, hH1, he⟩ := h
        cases he
        obtain ⟨w', hr, he, hh, hkept⟩ := store_sound hC hH (ev_sound (a := act) hT hp) (ev_sound (a := act) hT hv) hH1
        exact ⟨undef, w', ι, .inr ⟨by show (do Instr.storeAt t _ _; pure .skip : Sem Next).run C.P w = _; simp only [Sem.run_bind]; rw [show (Instr.storeAt t (act.eval a) (act.eval x)).run C.P w = _ from hr]; rfl, rfl⟩, ⟨he, hh, .undef⟩, Fresh.refl _ _, ⟨fun hc => absurd rfl hc, fun hc => (by simp [cls] at hc), fun t' ht' c _ hc => hkept c (fun b hb hlv => hc b (by
          cases a <;> simp only [fwT, reduceCtorEq, Option.some.injEq] at ht'
          subst ht'
          simp only [ev, Option.some.injEq] at hp
          rw [hp]; exact hb) hlv)⟩⟩
      · cases h
    case convert s d x =>
      split at h
      · rename_i p hp
        simp only [Option.map_eq_some_iff] at h
        obtain ⟨r', hr', he⟩ := h
        cases he
        obtain ⟨u, hu, hur⟩ := conv_sound hC hH (ev_sound (a := act) hT hp) hr'
        exact ⟨u, w, ι, .inl (ho' _ _ _ hu), ⟨Ext.refl _ _ _, hH, hur⟩, Fresh.refl _ _, OpFacts.of_skip⟩
      · cases h
    case makeSlice t l c =>
      split at h
      · rename_i elem sz by_ zr eq k1 n k2 m hti hl hc
        split at h
        · rename_i te hte
          split at h
          · rename_i hcond
            cases h
            have h1 := ev_sound (a := act) hT hl
            have h2 := ev_sound (a := act) hT hc
            generalize hvl : act.eval l = vl at h1
            generalize hvc : act.eval c = vc at h2
            cases h1; cases h2
            obtain ⟨u, w', ι', hrun, hlv, hrd⟩ := makeSlice_sound (k1 := k1) (k2 := k2) hC hH hti hte hcond.1 hcond.2.1 hcond.2.2.1 hcond.2.2.2
            refine ⟨u, w', ι', .inl (ho' _ _ _ ?_), hlv, hrd.fresh, OpFacts.of_reader (by simp [cls]) hrd (fun hc => by simp [cls] at hc)⟩
            rw [show (({ tmps := tmps, defers := ds } : Act).eval l) = _ from hvl, show (({ tmps := tmps, defers := ds } : Act).eval c) = _ from hvc]
            exact hrun
          · cases h
        · cases h
      · cases h
    case range t x =>
      split at h
      · rename_i sz by_ zr eq s hti hx
        cases h
        obtain ⟨u, w', ι', hrun, hlv, hrd⟩ := range_sound hC hH hti (ev_sound (a := act) hT hx)
        exact ⟨u, w', ι', .inl (ho' _ _ _ hrun), hlv, hrd.fresh, OpFacts.of_reader (by simp [cls]) hrd (fun hc => by simp [cls] at hc)⟩
      · cases h
    case next it isS =>
      cases isS <;> simp only [reduceCtorEq] at h
      split at h
      · rename_i b kk hx
        have h1 := ev_sound (a := act) hT hx
        split at h
        · rename_i s p hbl
          split at h
          · rename_i hlt
            cases h
            obtain ⟨w', hrun, he, hh⟩ := next_sound (s0 := 0) (H' := H) (ty := ty) hH h1 hbl hlt
            refine ⟨_, w', ι, .inl (ho' _ _ _ hrun), ⟨he, hh, ?_⟩, Fresh.refl _ _, OpFacts.of_writer rfl rfl⟩
            exact .tuple _ [_, _, _] rfl (LsRel.cons (.bool _) (LsRel.cons (.int _ _) (LsRel.cons (.int _ _) LsRel.nil))).2
          · rename_i hlt
            cases h
            generalize hvx : act.eval it = vx at h1
            cases h1 with
            | ptr _ _ _ _ c hι =>
              have hbr := hH.blk b c hι
              rw [hbl] at hbr
              obtain ⟨bs, hbs, hc⟩ := hbr
              refine ⟨.tuple #[.bool false], w, ι, .inl (ho' _ _ _ ?_), ⟨Ext.refl _ _ _, hH, .tuple _ [_] rfl (LsRel.cons (.bool _) LsRel.nil).2⟩, Fresh.refl _ _, OpFacts.of_skip⟩
              rw [show (({ tmps := tmps, defers := ds } : Act).eval it) = _ from hvx]
              have hg : (getObj c).run C.P w = .ok (.stringIter bs p) w := by simp only [getObj, Sem.run, hc]
              have hnlt : ¬ p < bs.size := by subst hbs; simpa using hlt
              unfold Instr.next
              simp only [Nat.zero_mul, Nat.add_zero, Sem.run_bind, hg, Result.andThen_ok, hnlt, if_false, Sem.run_pure]
        · cases h
      · cases h
end

end Go.BX
