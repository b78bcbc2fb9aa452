import Derived.Test.YtmbagennmeahhaaBRel
import Derived.Orders
namespace Go.BX

/-! # The machine's code without what only the order of evaluation wants; the check of regions that draw their order -/

def opTmps (xs : List Operand) : List Nat := xs.filterMap fun
  | .tmp t => some t
  | _ => none

def dstOf (ops : Array Oper) (j : Nat) : Option Nat := (ops[j]?).bind (·.dst)

/-- The slots that an operation reads: its operands, and its guard's. -/
def usesOf (ops : Array Oper) (o : Oper) : List Nat :=
  opTmps o.op.operands.toList ++ (match o.guard with
    | some (j, _) => (dstOf ops j).toList
    | none => [])

def edgeMask (acc : Array Nat) : List Edge → Nat
  | [] => 0
  | e :: es => (if Region.binds .any e then 2 ^ e.on ||| acc.getD e.on 0 else 0) ||| edgeMask acc es

def masks : List Oper → Array Nat → Array Nat
  | [], acc => acc
  | o :: os, acc => masks os (acc.push (edgeMask acc o.after.toList))

def isDefer : Op → Bool
  | .defer _ => true
  | _ => false

/-- May two operations be done either way round? -/
def commute (pure : FuncId → Bool) (ops : Array Oper) (x y : Oper) : Bool :=
  (match x.dst with
    | some d => !(usesOf ops y).contains d && !(y.dst == some d)
    | none => true) &&
  (match y.dst with
    | some d => !(usesOf ops x).contains d
    | none => true) &&
  !isDefer x.op && !isDefer y.op &&
  !(cls pure x.op == .writer && !(cls pure y.op == .inert)) &&
  !(cls pure y.op == .writer && !(cls pure x.op == .inert))

def slotsOk (ops : Array Oper) (x y : Oper) : Bool :=
  (match x.dst with
    | some d => !(usesOf ops y).contains d && !(y.dst == some d)
    | none => true) &&
  (match y.dst with
    | some d => !(usesOf ops x).contains d
    | none => true)

/-- A load and a write that may be done either way round if they lead to different blocks. -/
def look (ops : Array Oper) (i : Nat) (x : Oper) (j : Nat) (y : Oper) : Bool :=
  slotsOk ops x y && ((ldT x.op).isSome && (fwT y.op).isSome || (fwT x.op).isSome && (ldT y.op).isSome) &&
  (match adT x.op with
    | some t => (List.range j).all fun l => decide (l < i) || !(dstOf ops l == some t)
    | none => false)

def chkAt (pure : FuncId → Bool) (ops : Array Oper) (ms : Array Nat) (j : Nat) : List Nat :=
  (List.range j).filterMap fun i => if (ms.getD j 0).testBit i then none else match ops[i]?, ops[j]? with
    | some x, some y => if commute pure ops x y then none else adT x.op
    | _, _ => none

def chks (pure : FuncId → Bool) (ops : Array Oper) : List (List Nat) :=
  let l := (List.range ops.size).map (chkAt pure ops (masks ops.toList #[]))
  if l.all (·.isEmpty) then [] else l

def pairsOk (pure : FuncId → Bool) (ops : Array Oper) (ms : Array Nat) : Bool :=
  (List.range ops.size).all fun j => (List.range j).all fun i =>
    (ms.getD j 0).testBit i || (match ops[i]?, ops[j]? with
      | some x, some y => commute pure ops x y || look ops i x j y
      | _, _ => true)

def edgesOk (ops : Array Oper) : Bool :=
  (List.range ops.size).all fun i => match ops[i]? with
    | some o => o.after.toList.all fun e => !Region.binds .any e || decide (e.on < i)
    | none => true

def drawOk (pure : FuncId → Bool) (ops : Array Oper) : Bool :=
  edgesOk ops && pairsOk pure ops (masks ops.toList #[]) && ops.toList.all (fun o => !isDefer o.op)

def dstOk (nt : Nat) (o : Oper) : Bool :=
  match o.dst with
  | some d => decide (d < nt)
  | none => true

def stripOp (nt : Nat) (ops : Array Oper) (o : Oper) : Option AO :=
  if dstOk nt o = true then
    match o.guard with
    | none => some { dst := o.dst, op := o.op, ty := o.type, guard := none }
    | some (j, b) => match dstOf ops j with
      | some t => some { dst := o.dst, op := o.op, ty := o.type, guard := some (t, b) }
      | none => none
  else none

def strip (pure : FuncId → Bool) (nt : Nat) : Code → Option AC
  | .skip => some .skip
  | .region _ ops draw => if draw && !drawOk pure ops then none else (mapO (stripOp nt ops) ops.toList).map fun l => .region l (if draw then chks pure ops else [])
  | .seq a b => match strip pure nt a, strip pure nt b with
    | some x, some y => some (.seq x y)
    | _, _ => none
  | .cond c a b => match strip pure nt a, strip pure nt b with
    | some x, some y => some (.cond c x y)
    | _, _ => none
  | .block id a => (strip pure nt a).map (.block id)
  | .loop a => (strip pure nt a).map .loop
  | .rangeFunc f ps a b => match strip pure nt a, strip pure nt b with
    | some x, some y => if ps.toList.all (fun t => decide (t < nt)) then some (.rangeFunc f ps.toList x y) else none
    | _, _ => none
  | .exit id => some (.exit id)
  | .scope a => (strip pure nt a).map .scope
  | .label l => some (.label l)
  | .goto l => some (.goto l)
  | .ret => some .ret
  | .refuse _ => some .refuse

/-! ## A set of operations that is closed to what they wait for -/

def Closed (ops : Array Oper) (S : Nat → Prop) : Prop :=
  ∀ j o, ops[j]? = some o → S j → ∀ e, e ∈ o.after.toList → Region.binds .any e = true → S e.on

theorem edgeMask_mem (acc : Array Nat) (i : Nat) : ∀ es : List Edge, (edgeMask acc es).testBit i = true →
    ∃ e, e ∈ es ∧ Region.binds .any e = true ∧ (e.on = i ∨ (acc.getD e.on 0).testBit i = true) := by
  intro es
  induction es with
  | nil => intro h; simp [edgeMask] at h
  | cons e es ih =>
    intro h
    simp only [edgeMask, Nat.testBit_or, Bool.or_eq_true] at h
    rcases h with h | h
    · by_cases hb : Region.binds .any e = true
      · rw [if_pos hb] at h
        simp only [Nat.testBit_or, Bool.or_eq_true, Nat.testBit_two_pow, decide_eq_true_eq] at h
        exact ⟨e, by simp, hb, h⟩
      · rw [if_neg hb] at h; simp at h
    · obtain ⟨e', he, hb, hh⟩ := ih h
      exact ⟨e', by simp [he], hb, hh⟩

theorem masks_closed {ops : Array Oper} {S : Nat → Prop} (hS : Closed ops S) : ∀ (l : List Oper) (acc : Array Nat),
    (∀ j, l[j]? = ops[acc.size + j]?) →
    (∀ j i, j < acc.size → (acc.getD j 0).testBit i = true → S j → S i) →
    ∀ j i, ((masks l acc).getD j 0).testBit i = true → S j → S i := by
  intro l
  induction l with
  | nil =>
    intro acc _ h j i hb hj
    simp only [masks] at hb
    by_cases hlt : j < acc.size
    · exact h j i hlt hb hj
    · simp [Array.getD, hlt] at hb
  | cons o l ih =>
    intro acc hl h
    simp only [masks]
    have ho : ops[acc.size]? = some o := by simpa using (hl 0).symm
    refine ih _ (fun j => ?_) ?_
    · have := hl (j + 1)
      simp only [List.getElem?_cons_succ] at this
      rw [this, Array.size_push]; congr 1; omega
    · intro j i hj hb hSj
      rw [Array.size_push] at hj
      by_cases hlt : j < acc.size
      · have e1 : (acc.push (edgeMask acc o.after.toList)).getD j 0 = acc.getD j 0 := by
          simp [Array.getD, hlt, Array.getElem_push_lt, Nat.lt_succ_of_lt hlt]
        rw [e1] at hb
        exact h j i hlt hb hSj
      · have hje : j = acc.size := by omega
        subst hje
        have e1 : (acc.push (edgeMask acc o.after.toList)).getD acc.size 0 = edgeMask acc o.after.toList := by simp [Array.getD]
        rw [e1] at hb
        obtain ⟨e, he, hbd, hor⟩ := edgeMask_mem acc i _ hb
        have hSe := hS _ _ ho hSj e he hbd
        rcases hor with hor | hor
        · exact hor ▸ hSe
        · by_cases hlt' : e.on < acc.size
          · exact h _ _ hlt' hor hSe
          · simp [Array.getD, hlt'] at hor

theorem mask_closed {ops : Array Oper} {S : Nat → Prop} (hS : Closed ops S) {j i : Nat} (h : ((masks ops.toList #[]).getD j 0).testBit i = true) (hj : S j) : S i :=
  masks_closed hS ops.toList #[] (fun j => by simp) (fun j i hj => by simp at hj) j i h hj

theorem drawOk_pair {pure : FuncId → Bool} {ops : Array Oper} (h : drawOk pure ops = true) {i j : Nat} (hij : i < j) {x y : Oper} (hx : ops[i]? = some x) (hy : ops[j]? = some y) :
    ((masks ops.toList #[]).getD j 0).testBit i = true ∨ commute pure ops x y = true ∨ (look ops i x j y = true ∧ ∀ t, adT x.op = some t → ∃ c, (chks pure ops)[j]? = some c ∧ t ∈ c) := by
  have hchk : ((masks ops.toList #[]).getD j 0).testBit i = false → commute pure ops x y = false → ∀ t, adT x.op = some t → ∃ c, (chks pure ops)[j]? = some c ∧ t ∈ c := by
    intro h1 h2 t ht
    have hj : j < ops.size := (Array.getElem?_eq_some_iff.mp hy).1
    have hmem : t ∈ chkAt pure ops (masks ops.toList #[]) j := by
      unfold chkAt
      rw [List.mem_filterMap]
      exact ⟨i, List.mem_range.mpr hij, by rw [h1, hx, hy]; simp [h2, ht]⟩
    have hget : ((List.range ops.size).map (chkAt pure ops (masks ops.toList #[])))[j]? = some (chkAt pure ops (masks ops.toList #[]) j) := by
      rw [List.getElem?_map, List.getElem?_range hj]; rfl
    refine ⟨_, ?_, hmem⟩
    unfold chks
    simp only
    rw [if_neg ?_]
    · exact hget
    · intro hall
      rw [List.all_eq_true] at hall
      have := hall _ (List.mem_of_getElem? hget)
      rw [List.isEmpty_iff] at this
      rw [this] at hmem
      cases hmem
  unfold drawOk pairsOk at h
  simp only [Bool.and_eq_true, List.all_eq_true, List.mem_range] at h
  have hj : j < ops.size := (Array.getElem?_eq_some_iff.mp hy).1
  have := h.1.2 j hj i hij
  rw [hx, hy] at this
  simp only [Bool.or_eq_true] at this
  rcases this with h1 | h2 | h3
  · exact .inl h1
  · exact .inr (.inl h2)
  · cases h1 : ((masks ops.toList #[]).getD j 0).testBit i with
    | true => exact .inl rfl
    | false => cases h2 : commute pure ops x y with
      | true => exact .inr (.inl rfl)
      | false => exact .inr (.inr ⟨h3, hchk h1 h2⟩)

theorem drawOk_edge {pure : FuncId → Bool} {ops : Array Oper} (h : drawOk pure ops = true) {i : Nat} {x : Oper} (hx : ops[i]? = some x) {e : Edge} (he : e ∈ x.after.toList) (hb : Region.binds .any e = true) : e.on < i := by
  unfold drawOk edgesOk at h
  simp only [Bool.and_eq_true, List.all_eq_true, List.mem_range] at h
  have hi : i < ops.size := (Array.getElem?_eq_some_iff.mp hx).1
  have := h.1.1 i hi
  rw [hx] at this
  simp only [List.all_eq_true] at this
  have := this e he
  simpa [hb] using this

theorem drawOk_defer {pure : FuncId → Bool} {ops : Array Oper} (h : drawOk pure ops = true) {i : Nat} {x : Oper} (hx : ops[i]? = some x) : isDefer x.op = false := by
  unfold drawOk at h
  simp only [Bool.and_eq_true, List.all_eq_true] at h
  have := h.2 x (List.mem_of_getElem? (by rw [Array.getElem?_toList]; exact hx))
  simpa using this

/-! ## Items, loops, heaps -/

def CRel (pure : FuncId → Bool) (nt : Nat) (c : Code) (a : AC) : Prop := strip pure nt c = some a

inductive IRel (pure : FuncId → Bool) (nt : Nat) : Item → AItem → Prop
  | code {c a} (h : CRel pure nt c a) : IRel pure nt (.code c) (.code a)
  | inBlock (id) : IRel pure nt (.inBlock id) (.inBlock id)
  | inLoop {c a} (h : CRel pure nt c a) : IRel pure nt (.inLoop c) (.inLoop a)
  | inScope {c a} (h : CRel pure nt c a) : IRel pure nt (.inScope c) (.inScope a)
  | beginRound : IRel pure nt .beginRound .beginRound

inductive IsRel (pure : FuncId → Bool) (nt : Nat) : List Item → List AItem → Prop
  | nil : IsRel pure nt [] []
  | cons {x a xs as} (h : IRel pure nt x a) (hs : IsRel pure nt xs as) : IsRel pure nt (x :: xs) (a :: as)

/-- The loop's record. -/
structure LRel (C : Ctx) (w : World) (U : Nat → Prop) (ι : Nat → Option Nat) (nt : Nat) (L : ALoop) (R : Loop) : Prop where
  size : nt ≤ R.tmps.size
  state : LSRel L.state R.state
  pending : (L.pending = none ∧ R.pending = none) ∨ ∃ a c, L.pending = some a ∧ R.pending = some c ∧ CRel C.pure nt c a
  fn : L.fn = R.fn
  T : TRel w U ι L.T R.tmps
  params : L.params = R.params.toList
  assign : CRel C.pure nt R.assign L.assign
  body : CRel C.pure nt R.body L.body
  lt : ∀ t, t ∈ L.params → t < nt
  defers : ι L.defers = some R.defers

def BRel (C : Ctx) (w : World) (U : Nat → Prop) (ι : Nat → Option Nat) (c : Nat) : Blk → Prop
  | .dead => True
  | .cells t k es => ∃ cs : Array Value, w.heap[c]? = some (.cells cs t (0, 0)) ∧ (∀ e, e ∈ es → e.length = k) ∧
      ∀ (i : Nat) (e : List AV) (j : Nat) (a : AV), es[i]? = some e → e[j]? = some a → a.one = true ∧ ∃ v, cs[i * k + j]? = some v ∧ VRel w U ι a v
  | .iter s pos => ∃ b : ByteArray, b.data.toList = s ∧ w.heap[c]? = some (.stringIter b pos)
  | .loop L => ∃ R nt, w.heap[c]? = some (.loop R) ∧ LRel C w U ι nt L R
  | .dfr => w.heap[c]? = some (.deferred (some []))

structure HRel (C : Ctx) (w : World) (U : Nat → Prop) (ι : Nat → Option Nat) (H : AHeap) : Prop where
  dom : ∀ b c, ι b = some c → b < H.next ∧ c < w.heap.size
  inj : ∀ b b' c, ι b = some c → ι b' = some c → (H.at_ b).isDead = false → (H.at_ b').isDead = false → b = b'
  imm : ∀ c, U c → c < w.heap.size ∧ ∀ b, ι b ≠ some c
  blk : ∀ b c, ι b = some c → BRel C w U ι c (H.at_ b)

end Go.BX
