import Derived.Test.YtmbagennmeahhaaBFreeze
namespace Go.BX
set_option linter.unusedSimpArgs false
set_option linter.unusedVariables false

/-! # The machine's steps, in whatever frame -/

section
variable {P : Program} {fn : FuncId} {tmps : Array Value} {k : List Item} {ds : List Deferred} {kd : CallKind} {ro : Option Nat} {cs : List Frame} {w : World}

/-- A running frame. -/
abbrev rf (fn : FuncId) (tmps : Array Value) (todo : List Item) (ds : List Deferred) (kd : CallKind) (ro : Option Nat) : Frame := { fn := fn, tmps := tmps, todo := todo, defers := ds, mode := .run, kind := kd, roundOf := ro }

theorem st_skip : step P (lone (rf fn tmps (.code .skip :: k) ds kd ro) cs w) = .next (lone (rf fn tmps k ds kd ro) cs w) := step_lone_go (by simp [stepG, stepG.exec])
theorem st_label {l : Nat} : step P (lone (rf fn tmps (.code (.label l) :: k) ds kd ro) cs w) = .next (lone (rf fn tmps k ds kd ro) cs w) := step_lone_go (by simp [stepG, stepG.exec])
theorem st_inBlock {id : Nat} : step P (lone (rf fn tmps (.inBlock id :: k) ds kd ro) cs w) = .next (lone (rf fn tmps k ds kd ro) cs w) := step_lone_go (by simp [stepG, stepG.exec])
theorem st_inScope {c : Code} : step P (lone (rf fn tmps (.inScope c :: k) ds kd ro) cs w) = .next (lone (rf fn tmps k ds kd ro) cs w) := step_lone_go (by simp [stepG, stepG.exec])
theorem st_seq {a b : Code} : step P (lone (rf fn tmps (.code (.seq a b) :: k) ds kd ro) cs w) = .next (lone (rf fn tmps (.code a :: .code b :: k) ds kd ro) cs w) := step_lone_go (by simp [stepG, stepG.exec])
theorem st_block {id : Nat} {c : Code} : step P (lone (rf fn tmps (.code (.block id c) :: k) ds kd ro) cs w) = .next (lone (rf fn tmps (.code c :: .inBlock id :: k) ds kd ro) cs w) := step_lone_go (by simp [stepG, stepG.exec])
theorem st_loop {c : Code} : step P (lone (rf fn tmps (.code (.loop c) :: k) ds kd ro) cs w) = .next (lone (rf fn tmps (.code c :: .inLoop c :: k) ds kd ro) cs w) := step_lone_go (by simp [stepG, stepG.exec])
theorem st_inLoop {c : Code} : step P (lone (rf fn tmps (.inLoop c :: k) ds kd ro) cs w) = .next (lone (rf fn tmps (.code c :: .inLoop c :: k) ds kd ro) cs w) := step_lone_go (by simp [stepG, stepG.exec])
theorem st_scope {c : Code} : step P (lone (rf fn tmps (.code (.scope c) :: k) ds kd ro) cs w) = .next (lone (rf fn tmps (.code c :: .inScope c :: k) ds kd ro) cs w) := step_lone_go (by simp [stepG, stepG.exec])
theorem st_cond {c : Operand} {a b : Code} {t : Bool} (h : (rf fn tmps (.code (.cond c a b) :: k) ds kd ro).eval c = .bool t) :
    step P (lone (rf fn tmps (.code (.cond c a b) :: k) ds kd ro) cs w) = .next (lone (rf fn tmps (.code (if t then a else b) :: k) ds kd ro) cs w) := step_lone_go (by simp [stepG, stepG.exec, h])
theorem st_exit {id : Nat} {k' : List Item} (h : exitTo id k = some k') : step P (lone (rf fn tmps (.code (.exit id) :: k) ds kd ro) cs w) = .next (lone (rf fn tmps k' ds kd ro) cs w) := step_lone_go (by simp [stepG, stepG.exec, h])
theorem st_goto {l : Nat} {k' : List Item} (h : gotoIn l k = some k') : step P (lone (rf fn tmps (.code (.goto l) :: k) ds kd ro) cs w) = .next (lone (rf fn tmps k' ds kd ro) cs w) := step_lone_go (by simp [stepG, stepG.exec, h])
theorem st_region {id : Nat} {ops : Array Oper} : step P (lone (rf fn tmps (.code (.region id ops false) :: k) ds kd ro) cs w) = .next (lone (rf fn tmps (.inRegion ops (List.range ops.size) :: k) ds kd ro) cs w) := step_lone_go (by simp [stepG, stepG.exec])
theorem st_region_draw {id : Nat} {ops : Array Oper} : step P (lone (rf fn tmps (.code (.region id ops true) :: k) ds kd ro) cs w) =
    .next (lone (rf fn tmps (.inRegion ops (Region.schedule (P.follows .mixedOrders) ops (w.tape w.drawn (.order fn id))) :: k) ds kd ro) cs w.drew) :=
  step_lone_go (by simp [stepG, stepG.exec, choose, Sem.run, Question.forced, Question.cut])
theorem st_region_end {ops : Array Oper} : step P (lone (rf fn tmps (.inRegion ops [] :: k) ds kd ro) cs w) = .next (lone (rf fn tmps k ds kd ro) cs w) := step_lone_go (by simp [stepG, stepG.exec])
theorem st_ret_normal : step P (lone (rf fn tmps (.code .ret :: k) ds kd none) cs w) = .next (lone { rf fn tmps (.code .ret :: k) ds kd none with mode := .returning } cs w) := step_lone_go (by simp [stepG, stepG.exec])
theorem st_end_normal : step P (lone (rf fn tmps [] ds kd none) cs w) = .next (lone { rf fn tmps [] ds kd none with mode := .returning } cs w) := step_lone_go (by simp [stepG, stepG.exec])

theorem eval_rf {todo : List Item} : (rf fn tmps todo ds kd ro).eval = ({ tmps := tmps, defers := ds } : Act).eval := by funext x; cases x <;> rfl

/-- The slots behind an operation. -/
def putV (tmps : Array Value) (dst : Option Nat) (v : Value) : Array Value :=
  match dst with
  | some d => tmps.setIfInBounds d v
  | none => tmps

theorem finish_rf {ops : Array Oper} {i : Nat} {rest : List Nat} {v : Value} : (rf fn tmps (.inRegion ops (i :: rest) :: k) ds kd ro).finish v = rf fn (putV tmps ((ops[i]?).bind (·.dst)) v) (.inRegion ops rest :: k) ds kd ro := by
  cases h : (ops[i]?).bind (·.dst) <;> simp [Frame.finish, h, putV]

theorem st_op_skip {ops : Array Oper} {i : Nat} {rest : List Nat} (h : ((ops[i]?).map (Region.wanted · (yielded ops tmps))).getD false = false) :
    step P (lone (rf fn tmps (.inRegion ops (i :: rest) :: k) ds kd ro) cs w) = .next (lone (rf fn (putV tmps ((ops[i]?).bind (·.dst)) undef) (.inRegion ops rest :: k) ds kd ro) cs w) := by
  rw [← finish_rf]
  exact step_lone_go (by simp only [stepG, stepG.exec, h]; simp)

theorem stepG_op {ops : Array Oper} {i : Nat} {rest : List Nat} {o : Oper} (ho : ops[i]? = some o) (hw : Region.wanted o (yielded ops tmps) = true) (hd : ro = none ∨ isDefer o.op = false) :
    stepG P true { frame := rf fn tmps (.inRegion ops (i :: rest) :: k) ds kd ro, callers := cs, status := .running, dying := none } w =
      stepG.apply P true (rf fn tmps (.inRegion ops (i :: rest) :: k) ds kd ro) cs none (execOp ({ tmps := tmps, defers := ds } : Act).eval o) w := by
  have he := @eval_rf fn tmps ds kd ro (.inRegion ops (i :: rest) :: k)
  simp only [stepG, stepG.exec, ho, hw, Option.map_some, Option.getD_some, if_true, stepG.oper, Frame.oper?, he]
  rcases hd with rfl | hd
  · rfl
  · cases ro with
    | none => rfl
    | some l =>
      obtain ⟨dst, op, ty, pos, after, guard⟩ := o
      cases op <;> first | rfl | (simp [isDefer] at hd)

variable {ops : Array Oper} {i : Nat} {rest : List Nat} {o : Oper}

theorem st_op_value (ho : ops[i]? = some o) (hw : Region.wanted o (yielded ops tmps) = true) (hd : ro = none ∨ isDefer o.op = false) {v : Value} {w' : World}
    (h : (execOp ({ tmps := tmps, defers := ds } : Act).eval o).run P w = .ok (.value v) w' ∨ ((execOp ({ tmps := tmps, defers := ds } : Act).eval o).run P w = .ok .skip w' ∧ v = undef)) :
    step P (lone (rf fn tmps (.inRegion ops (i :: rest) :: k) ds kd ro) cs w) = .next (lone (rf fn (putV tmps o.dst v) (.inRegion ops rest :: k) ds kd ro) cs w') := by
  have hf := @finish_rf fn tmps k ds kd ro ops i rest v
  rw [ho, Option.bind_some] at hf
  rw [← hf]
  refine step_lone_go ?_
  rw [stepG_op ho hw hd]
  rcases h with h | ⟨h, rfl⟩ <;> simp [stepG.apply, Sem.runT_eq, h, GStep.bare_after]

theorem st_op_defer (ho : ops[i]? = some o) (hw : Region.wanted o (yielded ops tmps) = true) {d : Deferred} {w' : World}
    (h : (execOp ({ tmps := tmps, defers := ds } : Act).eval o).run P w = .ok (.defer d) w') :
    step P (lone (rf fn tmps (.inRegion ops (i :: rest) :: k) ds kd none) cs w) = .next (lone (rf fn (putV tmps o.dst undef) (.inRegion ops rest :: k) (d :: ds) kd none) cs w') := by
  have hf := @finish_rf fn tmps k (d :: ds) kd none ops i rest undef
  rw [ho, Option.bind_some] at hf
  rw [← hf]
  refine step_lone_go ?_
  rw [stepG_op ho hw (.inl rfl)]
  simp [stepG.apply, Sem.runT_eq, h, GStep.bare_after]

theorem st_op_enter (ho : ops[i]? = some o) (hw : Region.wanted o (yielded ops tmps) = true) (hd : ro = none ∨ isDefer o.op = false) {f : FuncId} {args : Array Value} {w' : World}
    (h : (execOp ({ tmps := tmps, defers := ds } : Act).eval o).run P w = .ok (.enter f args) w') :
    step P (lone (rf fn tmps (.inRegion ops (i :: rest) :: k) ds kd ro) cs w) = .next (lone (Frame.enter P f args .normal) (rf fn tmps (.inRegion ops (i :: rest) :: k) ds kd ro :: cs) w') := by
  refine step_lone_go ?_
  rw [stepG_op ho hw hd]
  simp [stepG.apply, Sem.runT_eq, h, GStep.bare_after]

theorem st_op_round (ho : ops[i]? = some o) (hw : Region.wanted o (yielded ops tmps) = true) (hd : ro = none ∨ isDefer o.op = false) {l : Nat} {f : FuncId} {ts : Array Value} {assign body : Code} {w' : World}
    (h : (execOp ({ tmps := tmps, defers := ds } : Act).eval o).run P w = .ok (.round l f ts assign body) w') :
    step P (lone (rf fn tmps (.inRegion ops (i :: rest) :: k) ds kd ro) cs w) = .next (lone (Frame.round l f ts assign body .normal) (rf fn tmps (.inRegion ops (i :: rest) :: k) ds kd ro :: cs) w') := by
  refine step_lone_go ?_
  rw [stepG_op ho hw hd]
  simp [stepG.apply, Sem.runT_eq, h, GStep.bare_after]

end

end Go.BX
