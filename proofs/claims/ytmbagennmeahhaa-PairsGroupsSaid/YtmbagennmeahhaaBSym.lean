import Derived.Test.YtmbagennmeahhaaBLe
namespace Go.BX
set_option linter.unusedSimpArgs false
set_option linter.unusedVariables false

/-! # Running, with what is wanted behind -/

variable {C : Ctx} {fn : FuncId} {T : Nat → AV} {ds : List ADef} {ro : Option Nat} {H : AHeap} {Q : AV → AHeap → Prop} {k : List AItem}

def Run (C : Ctx) (fn : FuncId) (T : Nat → AV) (ds : List ADef) (ro : Option Nat) (items : List AItem) (H : AHeap) (Q : AV → AHeap → Prop) : Prop :=
  ∃ n r H', exec C n { fn := fn, T := T, defers := ds, round := ro } items H = some (r, H') ∧ Q r H'

abbrev cln (C : Ctx) (n : Nat) : Cl := clMk C (exec C n)

def thenRun (C : Ctx) (fn : FuncId) (ro : Option Nat) (k : List AItem) (n : Nat) : Option ((Nat → AV) × List ADef × AHeap) → Option (AV × AHeap)
  | some (T, ds, H) => exec C n { fn := fn, T := T, defers := ds, round := ro } k H
  | none => none

def RunOps (C : Ctx) (fn : FuncId) (T : Nat → AV) (ds : List ADef) (ro : Option Nat) (os : List AO) (k : List AItem) (H : AHeap) (Q : AV → AHeap → Prop) : Prop :=
  ∃ n r H', thenRun C fn ro k n (runOps C (cln C n) ro.isSome os T ds H) = some (r, H') ∧ Q r H'

def thenOps (C : Ctx) (fn : FuncId) (ro : Option Nat) (T : Nat → AV) (dst : Option Nat) (os : List AO) (k : List AItem) (n : Nat) : Option (AV × List ADef × AHeap) → Option (AV × AHeap)
  | some (v, ds, H) => thenRun C fn ro k n (runOps C (cln C n) ro.isSome os (putA T dst v) ds H)
  | none => none

def RunOp (C : Ctx) (fn : FuncId) (T : Nat → AV) (ds : List ADef) (ro : Option Nat) (op : Op) (dst : Option Nat) (os : List AO) (k : List AItem) (H : AHeap) (Q : AV → AHeap → Prop) : Prop :=
  ∃ n r H', thenOps C fn ro T dst os k n (opRun C (cln C n) ro.isSome T ds H op) = some (r, H') ∧ Q r H'

def withDs (ds : List ADef) : Option (AV × AHeap) → Option (AV × List ADef × AHeap)
  | some (v, H) => some (v, ds, H)
  | none => none

def RunCall (C : Ctx) (fn : FuncId) (T : Nat → AV) (ds : List ADef) (ro : Option Nat) (f : FuncId) (args : List AV) (dst : Option Nat) (os : List AO) (k : List AItem) (H : AHeap) (Q : AV → AHeap → Prop) : Prop :=
  ∃ n r H', thenOps C fn ro T dst os k n (withDs ds (callF C (cln C n) f args H)) = some (r, H') ∧ Q r H'

theorem thenRun_le {n m : Nat} (h : n ≤ m) {z : Option ((Nat → AV) × List ADef × AHeap)} {x : AV × AHeap} (hz : thenRun C fn ro k n z = some x) : thenRun C fn ro k m z = some x := by
  cases z with
  | none => cases hz
  | some z => exact exec_le h _ _ _ _ hz

theorem thenRun_ops_le {n m : Nat} (h : n ≤ m) {os : List AO} {x : AV × AHeap} (hz : thenRun C fn ro k n (runOps C (cln C n) ro.isSome os T ds H) = some x) : thenRun C fn ro k m (runOps C (cln C m) ro.isSome os T ds H) = some x := by
  cases hr : runOps C (cln C n) ro.isSome os T ds H with
  | none => rw [hr] at hz; cases hz
  | some y =>
    rw [hr] at hz
    rw [runOps_le (cl_le h) hr]
    exact thenRun_le h hz

theorem thenOps_le {n m : Nat} (h : n ≤ m) {dst : Option Nat} {os : List AO} {z z' : Option (AV × List ADef × AHeap)} {x : AV × AHeap} (hzz : ∀ y, z = some y → z' = some y) (hz : thenOps C fn ro T dst os k n z = some x) : thenOps C fn ro T dst os k m z' = some x := by
  cases z with
  | none => cases hz
  | some z =>
    obtain ⟨v, ds', H'⟩ := z
    rw [hzz _ rfl]
    exact thenRun_ops_le h hz

/-- A step of the machine. -/
theorem run_step {items items' : List AItem} {fn' : FuncId} {T' : Nat → AV} {ds' : List ADef} {ro' : Option Nat} {H1 : AHeap} (h : ∀ ex, stepA C ex { fn := fn, T := T, defers := ds, round := ro } items H = ex { fn := fn', T := T', defers := ds', round := ro' } items' H1) :
    Run C fn T ds ro items H Q = Run C fn' T' ds' ro' items' H1 Q := by
  apply propext
  constructor
  · rintro ⟨n, r, H', he, hq⟩
    cases n with
    | zero => simp [exec] at he
    | succ n => simp only [exec, h] at he; exact ⟨n, r, H', he, hq⟩
  · rintro ⟨n, r, H', he, hq⟩
    exact ⟨n + 1, r, H', by simp only [exec, h]; exact he, hq⟩

theorem run_skip : Run C fn T ds ro (.code .skip :: k) H Q = Run C fn T ds ro k H Q := run_step fun _ => rfl
theorem run_label {l : Nat} : Run C fn T ds ro (.code (.label l) :: k) H Q = Run C fn T ds ro k H Q := run_step fun _ => rfl
theorem run_inBlock {l : Nat} : Run C fn T ds ro (.inBlock l :: k) H Q = Run C fn T ds ro k H Q := run_step fun _ => rfl
theorem run_inScope {c : AC} : Run C fn T ds ro (.inScope c :: k) H Q = Run C fn T ds ro k H Q := run_step fun _ => rfl
theorem run_inLoop {c : AC} : Run C fn T ds ro (.inLoop c :: k) H Q = Run C fn T ds ro (.code c :: .inLoop c :: k) H Q := run_step fun _ => rfl
theorem run_seq {a b : AC} : Run C fn T ds ro (.code (.seq a b) :: k) H Q = Run C fn T ds ro (.code a :: .code b :: k) H Q := run_step fun _ => rfl
theorem run_block {l : Nat} {a : AC} : Run C fn T ds ro (.code (.block l a) :: k) H Q = Run C fn T ds ro (.code a :: .inBlock l :: k) H Q := run_step fun _ => rfl
theorem run_loop {a : AC} : Run C fn T ds ro (.code (.loop a) :: k) H Q = Run C fn T ds ro (.code a :: .inLoop a :: k) H Q := run_step fun _ => rfl
theorem run_loop' {a : AC} : Run C fn T ds ro (.code (.loop a) :: k) H Q = Run C fn T ds ro (.inLoop a :: k) H Q := run_loop.trans run_inLoop.symm
theorem run_scope {a : AC} : Run C fn T ds ro (.code (.scope a) :: k) H Q = Run C fn T ds ro (.code a :: .inScope a :: k) H Q := run_step fun _ => rfl
theorem run_cond {c : Operand} {a b : AC} {t : Bool} (h : ev T c = some (.bool t)) : Run C fn T ds ro (.code (.cond c a b) :: k) H Q = if t = true then Run C fn T ds ro (.code a :: k) H Q else Run C fn T ds ro (.code b :: k) H Q := by
  rw [run_step (fn' := fn) (T' := T) (ds' := ds) (ro' := ro) (H1 := H) (items' := .code (if t then a else b) :: k) (fun ex => by simp only [stepA, h])]
  cases t <;> rfl
theorem run_cond_tmp {c : Nat} {a b : AC} : Run C fn T ds ro (.code (.cond (.tmp c) a b) :: k) H Q = (match T c with
    | .bool t => if t = true then Run C fn T ds ro (.code a :: k) H Q else Run C fn T ds ro (.code b :: k) H Q
    | _ => Run C fn T ds ro (.code (.cond (.tmp c) a b) :: k) H Q) := by
  split
  · rename_i t ht; exact run_cond (by simp [ev, ht])
  · rfl
theorem run_exit {id : Nat} {k' : List AItem} (h : exitA id k = some k') : Run C fn T ds ro (.code (.exit id) :: k) H Q = Run C fn T ds ro k' H Q := run_step fun ex => by simp only [stepA, h]
theorem run_goto {id : Nat} {k' : List AItem} (h : gotoA id k = some k') : Run C fn T ds ro (.code (.goto id) :: k) H Q = Run C fn T ds ro k' H Q := run_step fun ex => by simp only [stepA, h]

/-- The way out of a block. -/
def RunExit (C : Ctx) (fn : FuncId) (T : Nat → AV) (ds : List ADef) (ro : Option Nat) (id : Nat) (all k : List AItem) (H : AHeap) (Q : AV → AHeap → Prop) : Prop :=
  match exitA id k with
  | some k' => Run C fn T ds ro k' H Q
  | none => Run C fn T ds ro (.code (.exit id) :: all) H Q

theorem run_exit_start {id : Nat} : Run C fn T ds ro (.code (.exit id) :: k) H Q = RunExit C fn T ds ro id k k H Q := by
  unfold RunExit
  split
  · rename_i k' h; exact run_exit h
  · rfl
theorem exit_here {id : Nat} {all : List AItem} : RunExit C fn T ds ro id all (.inBlock id :: k) H Q = Run C fn T ds ro k H Q := by
  unfold RunExit
  simp [exitA]
theorem exit_block {id id' : Nat} (h : (id' == id) = false) {all : List AItem} : RunExit C fn T ds ro id all (.inBlock id' :: k) H Q = RunExit C fn T ds ro id all k H Q := by
  unfold RunExit
  simp [exitA, h]
theorem exit_code {id : Nat} {c : AC} {all : List AItem} : RunExit C fn T ds ro id all (.code c :: k) H Q = RunExit C fn T ds ro id all k H Q := rfl
theorem exit_inLoop {id : Nat} {c : AC} {all : List AItem} : RunExit C fn T ds ro id all (.inLoop c :: k) H Q = RunExit C fn T ds ro id all k H Q := rfl
theorem exit_inScope {id : Nat} {c : AC} {all : List AItem} : RunExit C fn T ds ro id all (.inScope c :: k) H Q = RunExit C fn T ds ro id all k H Q := rfl

/-! ## Leaving -/

def resOf (C : Ctx) (f : FuncId) : Option (List ResultVar) := (C.FT f).map (·.results)
def bodyOf (C : Ctx) (f : FuncId) : Option AC := (C.FT f).map (·.body)

def RunRes (C : Ctx) (T : Nat → AV) (H : AHeap) (Q : AV → AHeap → Prop) : Option (List ResultVar) → Prop
  | some rs => match resultsA C T H rs with
    | some vs => Q (oneOf vs) H
    | none => False
  | none => False

theorem leave_res {n : Nat} : (∃ r H', leaveA C (cln C n) { fn := fn, T := T, defers := [], round := none } none H = some (r, H') ∧ Q r H') ↔ RunRes C T H Q (resOf C fn) := by
  simp only [leaveA, isRetA, if_true, runDefers, resOf]
  cases C.FT fn with
  | none => simp [RunRes]
  | some fi =>
    simp only [Option.map_some, RunRes]
    cases resultsA C T H fi.results with
    | none => simp
    | some vs =>
      simp only [Option.map_some, Option.some.injEq, Prod.mk.injEq]
      constructor
      · rintro ⟨r, H', ⟨rfl, rfl⟩, hq⟩; exact hq
      · intro hq; exact ⟨_, _, ⟨rfl, rfl⟩, hq⟩

theorem run_nil : Run C fn T [] none [] H Q = RunRes C T H Q (resOf C fn) := by
  rw [← leave_res (n := 0)]
  apply propext
  constructor
  · rintro ⟨n, r, H', he, hq⟩
    cases n with
    | zero => simp [exec] at he
    | succ n => exact ⟨r, H', he, hq⟩
  · rintro ⟨r, H', he, hq⟩
    exact ⟨1, r, H', he, hq⟩

theorem run_ret : Run C fn T [] none (.code .ret :: k) H Q = RunRes C T H Q (resOf C fn) := by
  rw [← leave_res (n := 0)]
  apply propext
  constructor
  · rintro ⟨n, r, H', he, hq⟩
    cases n with
    | zero => simp [exec] at he
    | succ n => exact ⟨r, H', he, hq⟩
  · rintro ⟨r, H', he, hq⟩
    exact ⟨1, r, H', he, hq⟩

/-! ## Regions -/

theorem run_region {os : List AO} : Run C fn T ds ro (.code (.region os []) :: k) H Q = RunOps C fn T ds ro os k H Q := by
  have e : ∀ n, exec C (n + 1) { fn := fn, T := T, defers := ds, round := ro } (.code (.region os []) :: k) H = thenRun C fn ro k n (runOps C (cln C n) ro.isSome os T ds H) := fun n => by
    simp only [exec, stepA]
    have hd : dynA C (clMk C (exec C n)) ro.isSome os [] T ds H = true := by cases os <;> rfl
    simp only [hd, if_true]
    cases runOps C (clMk C (exec C n)) ro.isSome os T ds H <;> rfl
  apply propext
  constructor
  · rintro ⟨n, r, H', he, hq⟩
    cases n with
    | zero => simp [exec] at he
    | succ n => rw [e] at he; exact ⟨n, r, H', he, hq⟩
  · rintro ⟨n, r, H', he, hq⟩
    exact ⟨n + 1, r, H', by rw [e]; exact he, hq⟩

def Dyn (C : Ctx) (ro : Option Nat) (os : List AO) (chk : List (List Nat)) (T : Nat → AV) (ds : List ADef) (H : AHeap) : Prop := ∃ n, dynA C (cln C n) ro.isSome os chk T ds H = true

theorem run_regionD {os : List AO} {chk : List (List Nat)} : Run C fn T ds ro (.code (.region os chk) :: k) H Q = (Dyn C ro os chk T ds H ∧ RunOps C fn T ds ro os k H Q) := by
  apply propext
  constructor
  · rintro ⟨n, r, H', he, hq⟩
    cases n with
    | zero => simp [exec] at he
    | succ n =>
      simp only [exec, stepA] at he
      split at he
      · rename_i T' ds' H1 hr
        split at he
        · rename_i hd
          exact ⟨⟨n, hd⟩, n, r, H', by rw [show runOps C (cln C n) ro.isSome os T ds H = _ from hr]; exact he, hq⟩
        · cases he
      · cases he
  · rintro ⟨⟨m, hd⟩, n, r, H', he, hq⟩
    refine ⟨max m n + 1, r, H', ?_, hq⟩
    have he' := thenRun_ops_le (Nat.le_max_right m n) he
    have hd' := dynA_le (cl_le (Nat.le_max_left m n)) hd
    simp only [exec, stepA]
    split
    · rename_i T' ds' H1 hr
      rw [show runOps C (cln C (max m n)) ro.isSome os T ds H = _ from hr] at he'
      rw [if_pos hd']
      exact he'
    · rename_i hr
      rw [show runOps C (cln C (max m n)) ro.isSome os T ds H = _ from hr] at he'
      cases he'

theorem ro_nil : RunOps C fn T ds ro [] k H Q = Run C fn T ds ro k H Q := rfl

theorem ro_cons {dst : Option Nat} {op : Op} {ty : TypeId} {os : List AO} : RunOps C fn T ds ro ({ dst := dst, op := op, ty := ty, guard := none } :: os) k H Q = RunOp C fn T ds ro op dst os k H Q := by
  unfold RunOps RunOp
  have e : ∀ n, thenRun C fn ro k n (runOps C (cln C n) ro.isSome ({ dst := dst, op := op, ty := ty, guard := none } :: os) T ds H) = thenOps C fn ro T dst os k n (opRun C (cln C n) ro.isSome T ds H op) := fun n => by
    simp only [runOps, opRes, wantedA]
    cases opRun C (cln C n) ro.isSome T ds H op with
    | none => rfl
    | some x => obtain ⟨v, ds', H'⟩ := x; rfl
  simp only [e]

theorem ro_guard {dst : Option Nat} {op : Op} {ty : TypeId} {j : Nat} {want t : Bool} {os : List AO} (h : T j = .bool t) :
    RunOps C fn T ds ro ({ dst := dst, op := op, ty := ty, guard := some (j, want) } :: os) k H Q = if t = want then RunOp C fn T ds ro op dst os k H Q else RunOps C fn (putA T dst .undef) ds ro os k H Q := by
  by_cases ht : t = want
  · rw [if_pos ht]
    unfold RunOps RunOp
    have e : ∀ n, thenRun C fn ro k n (runOps C (cln C n) ro.isSome ({ dst := dst, op := op, ty := ty, guard := some (j, want) } :: os) T ds H) = thenOps C fn ro T dst os k n (opRun C (cln C n) ro.isSome T ds H op) := fun n => by
      simp only [runOps, opRes, wantedA, h, ht, beq_self_eq_true]
      cases opRun C (cln C n) ro.isSome T ds H op with
      | none => rfl
      | some x => obtain ⟨v, ds', H'⟩ := x; rfl
    simp only [e]
  · rw [if_neg ht]
    unfold RunOps
    have e : ∀ n, thenRun C fn ro k n (runOps C (cln C n) ro.isSome ({ dst := dst, op := op, ty := ty, guard := some (j, want) } :: os) T ds H) = thenRun C fn ro k n (runOps C (cln C n) ro.isSome os (putA T dst .undef) ds H) := fun n => by
      have : (t == want) = false := by simpa using ht
      simp only [runOps, opRes, wantedA, h, this]
    simp only [e]

def RunV (C : Ctx) (fn : FuncId) (T : Nat → AV) (ds : List ADef) (ro : Option Nat) (dst : Option Nat) (os : List AO) (k : List AItem) (H : AHeap) (Q : AV → AHeap → Prop) : Option AV → Prop
  | some v => RunOps C fn (putA T dst v) ds ro os k H Q
  | none => False

def RunVH (C : Ctx) (fn : FuncId) (T : Nat → AV) (ds : List ADef) (ro : Option Nat) (dst : Option Nat) (os : List AO) (k : List AItem) (Q : AV → AHeap → Prop) : Option (AV × AHeap) → Prop
  | some (v, H) => RunOps C fn (putA T dst v) ds ro os k H Q
  | none => False

theorem rop_of {op : Op} {dst : Option Nat} {os : List AO} {z : Option (AV × AHeap)} (h : ∀ cl, opRun C cl ro.isSome T ds H op = withDs ds z) : RunOp C fn T ds ro op dst os k H Q = RunVH C fn T ds ro dst os k Q z := by
  unfold RunOp
  simp only [h]
  cases z with
  | none => simp [withDs, thenOps, RunVH]
  | some z => obtain ⟨v, H1⟩ := z; rfl

theorem runV_some {v : AV} {dst : Option Nat} {os : List AO} : RunV C fn T ds ro dst os k H Q (some v) = RunOps C fn (putA T dst v) ds ro os k H Q := rfl
theorem runVH_some {v : AV} {dst : Option Nat} {os : List AO} : RunVH C fn T ds ro dst os k Q (some (v, H)) = RunOps C fn (putA T dst v) ds ro os k H Q := rfl

theorem rop_inert {op : Op} {dst : Option Nat} {os : List AO} (h : inertOp op = true) : RunOp C fn T ds ro op dst os k H Q = RunV C fn T ds ro dst os k H Q (primP C T op) := by
  rw [rop_of (z := (primP C T op).map (·, H))]
  · cases primP C T op <;> rfl
  · intro cl
    unfold opRun
    split
    · simp [inertOp] at h
    · simp [inertOp] at h
    · simp only [prim, h, if_true]
      cases primP C T op <;> rfl

def primOp : Op → Bool
  | .call _ | .defer _ => false
  | _ => true

theorem rop_mem {op : Op} {dst : Option Nat} {os : List AO} (h : inertOp op = false) (h' : primOp op = true) : RunOp C fn T ds ro op dst os k H Q = RunVH C fn T ds ro dst os k Q (primM C T H op) := by
  rw [rop_of (z := primM C T H op)]
  · intro cl
    unfold opRun
    split
    · simp [primOp] at h'
    · simp [primOp] at h'
    · simp only [prim, h, Bool.false_eq_true, if_false]
      cases primM C T H _ with
      | none => rfl
      | some z => obtain ⟨v, H1⟩ := z; rfl

/-! ## The operations -/

section
variable {dst : Option Nat} {os : List AO}

theorem rop_move {x : Operand} : RunOp C fn T ds ro (.move x) dst os k H Q = RunV C fn T ds ro dst os k H Q (ev T x) := rop_inert rfl
theorem rop_assign {x : Operand} : RunOp C fn T ds ro (.assign x) dst os k H Q = RunV C fn T ds ro dst os k H Q (ev T x) := rop_inert rfl
theorem rop_pick {c a b : Operand} : RunOp C fn T ds ro (.pick c a b) dst os k H Q = RunV C fn T ds ro dst os k H Q (primP C T (.pick c a b)) := rop_inert rfl
theorem rop_build {t : TypeId} {ps : Array (Nat × Operand)} : RunOp C fn T ds ro (.build t ps) dst os k H Q = RunV C fn T ds ro dst os k H Q (primP C T (.build t ps)) := rop_inert rfl
theorem rop_nilCheck {x : Operand} : RunOp C fn T ds ro (.nilCheck x) dst os k H Q = RunV C fn T ds ro dst os k H Q (primP C T (.nilCheck x)) := rop_inert rfl
theorem rop_binOp {op : BinOp} {t ty : TypeId} {x y : Operand} : RunOp C fn T ds ro (.binOp op t x y ty) dst os k H Q = RunV C fn T ds ro dst os k H Q (primP C T (.binOp op t x y ty)) := rop_inert rfl
theorem rop_unOp {op : UnOp} {t : TypeId} {x : Operand} : RunOp C fn T ds ro (.unOp op t x) dst os k H Q = RunV C fn T ds ro dst os k H Q (primP C T (.unOp op t x)) := rop_inert rfl
theorem rop_makeFunc {f : Fn} {a c : Array Operand} : RunOp C fn T ds ro (.makeFunc f a c) dst os k H Q = RunV C fn T ds ro dst os k H Q (primP C T (.makeFunc f a c)) := rop_inert rfl
theorem rop_slice {t : TypeId} {x : Operand} {lo hi mx : Option Operand} : RunOp C fn T ds ro (.slice t x lo hi mx) dst os k H Q = RunV C fn T ds ro dst os k H Q (primP C T (.slice t x lo hi mx)) := rop_inert rfl
theorem rop_fieldAddr {t : TypeId} {x : Operand} {f : Nat} : RunOp C fn T ds ro (.fieldAddr t x f) dst os k H Q = RunV C fn T ds ro dst os k H Q (primP C T (.fieldAddr t x f)) := rop_inert rfl
theorem rop_field {t : TypeId} {x : Operand} {f : Nat} : RunOp C fn T ds ro (.field t x f) dst os k H Q = RunV C fn T ds ro dst os k H Q (primP C T (.field t x f)) := rop_inert rfl
theorem rop_indexAddr {t : TypeId} {x y : Operand} : RunOp C fn T ds ro (.indexAddr t x y) dst os k H Q = RunV C fn T ds ro dst os k H Q (primP C T (.indexAddr t x y)) := rop_inert rfl
theorem rop_index {t : TypeId} {x y : Operand} : RunOp C fn T ds ro (.index t x y) dst os k H Q = RunV C fn T ds ro dst os k H Q (primP C T (.index t x y)) := rop_inert rfl
theorem rop_extract {x : Operand} {i : Nat} : RunOp C fn T ds ro (.extract x i) dst os k H Q = RunV C fn T ds ro dst os k H Q (primP C T (.extract x i)) := rop_inert rfl
theorem rop_alloc {t : TypeId} : RunOp C fn T ds ro (.alloc t) dst os k H Q = RunVH C fn T ds ro dst os k Q (primM C T H (.alloc t)) := rop_mem rfl rfl
theorem rop_box {t : TypeId} {x : Operand} : RunOp C fn T ds ro (.box t x) dst os k H Q = RunVH C fn T ds ro dst os k Q (primM C T H (.box t x)) := rop_mem rfl rfl
theorem rop_buildSlice {t : TypeId} {n : Nat} {ps : Array (Nat × Operand)} : RunOp C fn T ds ro (.buildSlice t n ps) dst os k H Q = RunVH C fn T ds ro dst os k Q (primM C T H (.buildSlice t n ps)) := rop_mem rfl rfl
theorem rop_load {t : TypeId} {x : Operand} : RunOp C fn T ds ro (.load t x) dst os k H Q = RunVH C fn T ds ro dst os k Q (primM C T H (.load t x)) := rop_mem rfl rfl
theorem rop_store {t : TypeId} {x y : Operand} : RunOp C fn T ds ro (.store t x y) dst os k H Q = RunVH C fn T ds ro dst os k Q (primM C T H (.store t x y)) := rop_mem rfl rfl
theorem rop_convert {s d : TypeId} {x : Operand} : RunOp C fn T ds ro (.convert s d x) dst os k H Q = RunVH C fn T ds ro dst os k Q (primM C T H (.convert s d x)) := rop_mem rfl rfl
theorem rop_makeSlice {t : TypeId} {x y : Operand} : RunOp C fn T ds ro (.makeSlice t x y) dst os k H Q = RunVH C fn T ds ro dst os k Q (primM C T H (.makeSlice t x y)) := rop_mem rfl rfl
theorem rop_range {t : TypeId} {x : Operand} : RunOp C fn T ds ro (.range t x) dst os k H Q = RunVH C fn T ds ro dst os k Q (primM C T H (.range t x)) := rop_mem rfl rfl
theorem rop_next {x : Operand} {b : Bool} : RunOp C fn T ds ro (.next x b) dst os k H Q = RunVH C fn T ds ro dst os k Q (primM C T H (.next x b)) := rop_mem rfl rfl

theorem rop_builtin {b : Builtin} {args : Array Operand} {ts : Array TypeId} {vs : List AV} (h : evs T args.toList = some vs) : RunOp C fn T ds ro (.call { callee := .builtin b, args := args, argTypes := ts }) dst os k H Q = RunVH C fn T ds ro dst os k Q (builtinA C H b ts.toList vs) := by
  rw [rop_of (z := builtinA C H b ts.toList vs)]
  · intro cl
    simp only [opRun, opCall, h]
    cases builtinA C H b ts.toList vs with
    | none => rfl
    | some z => obtain ⟨v, H1⟩ := z; rfl

theorem rop_call {x : Operand} {args : Array Operand} {ts : Array TypeId} {vs first caps : List AV} {f : FuncId} (h : evs T args.toList = some vs) (hf : ev T x = some (.fn f first caps)) :
    RunOp C fn T ds ro (.call { callee := .value x, args := args, argTypes := ts }) dst os k H Q = RunCall C fn T ds ro f (first ++ vs ++ caps) dst os k H Q := by
  unfold RunOp RunCall
  have e : ∀ n, opRun C (cln C n) ro.isSome T ds H (.call { callee := .value x, args := args, argTypes := ts }) = withDs ds (callF C (cln C n) f (first ++ vs ++ caps) H) := fun n => by
    simp only [opRun, opCall, h, hf, callV]
    cases callF C (cln C n) f (first ++ vs ++ caps) H with
    | none => rfl
    | some z => obtain ⟨v, H1⟩ := z; rfl
  simp only [e]

theorem rop_callF {g : FuncId} {args : Array Operand} {ts : Array TypeId} {vs : List AV} (h : evs T args.toList = some vs) :
    RunOp C fn T ds ro (.call { callee := .value (.func g), args := args, argTypes := ts }) dst os k H Q = RunCall C fn T ds ro g vs dst os k H Q := by
  rw [rop_call h (first := []) (caps := []) (f := g) rfl]
  simp

theorem rop_defer {x : Operand} {args : Array Operand} {ts : Array TypeId} {vs first caps : List AV} {f : FuncId} (h : evs T args.toList = some vs) (hf : ev T x = some (.fn f first caps)) :
    RunOp C fn T ds none (.defer { callee := .value x, args := args, argTypes := ts }) dst os k H Q = RunOps C fn (putA T dst .undef) (.call (.fn f first caps) vs :: ds) none os k H Q := by
  unfold RunOp
  have e : ∀ n, opRun C (cln C n) (none : Option Nat).isSome T ds H (.defer { callee := .value x, args := args, argTypes := ts }) = some (.undef, .call (.fn f first caps) vs :: ds, H) := fun n => by
    simp only [opRun, h, hf, Option.isSome_none, Bool.false_eq_true, if_false]
  simp only [e]
  rfl
end

/-! ## Calls -/

/-- A pure call comes to r. -/
def PCall (C : Ctx) (f : FuncId) (args : List AV) (r : AV) : Prop := ∃ n, pcall C n f args = some r

theorem pcall_le {n m : Nat} (h : n ≤ m) {f : FuncId} {args : List AV} {r : AV} (hp : pcall C n f args = some r) : pcall C m f args = some r := by
  unfold pcall at hp ⊢
  split at hp
  · rename_i r0 H' hc
    rw [show (clOf C m).call f args AHeap.empty = some (r0, H') from (cl_le h).call _ _ _ _ hc]
    exact hp
  · cases hp

theorem call_pure {f : FuncId} {args : List AV} {r : AV} {dst : Option Nat} {os : List AO} (hp : C.pure f = true) (hf : args.all AV.flat = true) (h : PCall C f args r) :
    RunCall C fn T ds ro f args dst os k H Q = RunOps C fn (putA T dst r) ds ro os k H Q := by
  obtain ⟨n0, h0⟩ := h
  have e : ∀ n, n0 ≤ n → callF C (cln C n) f args H = some (r, H) := fun n hn => by
    have hpc := pcall_le hn h0
    unfold pcall at hpc
    unfold callF
    rw [if_pos hp, if_pos hf]
    split at hpc
    · rename_i r0 H' hc
      rw [show (cln C n).call f args AHeap.empty = some (r0, H') from hc]
      simp only [hpc, Option.map_some]
    · cases hpc
  unfold RunCall RunOps
  apply propext
  constructor
  · rintro ⟨n, r', H', he, hq⟩
    refine ⟨max n0 n, r', H', ?_, hq⟩
    have he' := thenOps_le (Nat.le_max_right n0 n) (z' := withDs ds (callF C (cln C (max n0 n)) f args H)) (fun y hy => by
      cases hc : callF C (cln C n) f args H with
      | none => rw [hc] at hy; cases hy
      | some z => rw [hc] at hy; rw [callF_le (cl_le (Nat.le_max_right n0 n)) hc]; exact hy) he
    rw [e _ (Nat.le_max_left n0 n)] at he'
    exact he'
  · rintro ⟨n, r', H', he, hq⟩
    refine ⟨max n0 n, r', H', ?_, hq⟩
    rw [e _ (Nat.le_max_left n0 n)]
    exact thenRun_ops_le (Nat.le_max_right n0 n) he

theorem call_frozen {f : FuncId} {args args' : List AV} {r : AV} {dst : Option Nat} {os : List AO} (hp : C.pure f = true) (hf : args.all AV.flat = false) (hz : mapO (freeze H) args = some args') (hs : r.solid = true) (h : PCall C f args' r) :
    RunCall C fn T ds ro f args dst os k H Q = RunOps C fn (putA T dst r) ds ro os k H Q := by
  obtain ⟨n0, h0⟩ := h
  have e : ∀ n, n0 ≤ n → callF C (cln C n) f args H = some (r, H) := fun n hn => by
    have hpc := pcall_le hn h0
    unfold pcall at hpc
    unfold callF
    rw [if_pos hp, if_neg (by simp [hf])]
    simp only [hz]
    split at hpc
    · rename_i r0 H' hc
      rw [show (cln C n).call f args' AHeap.empty = some (r0, H') from hc]
      simp only [hpc, hs, if_true]
    · cases hpc
  unfold RunCall RunOps
  apply propext
  constructor
  · rintro ⟨n, r', H', he, hq⟩
    refine ⟨max n0 n, r', H', ?_, hq⟩
    have he' := thenOps_le (Nat.le_max_right n0 n) (z' := withDs ds (callF C (cln C (max n0 n)) f args H)) (fun y hy => by
      cases hc : callF C (cln C n) f args H with
      | none => rw [hc] at hy; cases hy
      | some z => rw [hc] at hy; rw [callF_le (cl_le (Nat.le_max_right n0 n)) hc]; exact hy) he
    rw [e _ (Nat.le_max_left n0 n)] at he'
    exact he'
  · rintro ⟨n, r', H', he, hq⟩
    refine ⟨max n0 n, r', H', ?_, hq⟩
    rw [e _ (Nat.le_max_left n0 n)]
    exact thenRun_ops_le (Nat.le_max_right n0 n) he

/-- What a pure call hands back whose arguments were frozen. -/
def PMade (C : Ctx) (f : FuncId) (args : List AV) (r : AV) : Prop := ∃ n r0 H' r1, (clOf C n).call f args AHeap.empty = some (r0, H') ∧ freeze H' r0 = some r1 ∧ (if r1.solid then some r1 else madeT H' r0) = some r

theorem call_made {f : FuncId} {args args' : List AV} {r : AV} {dst : Option Nat} {os : List AO} (hp : C.pure f = true) (hf : args.all AV.flat = false) (hz : mapO (freeze H) args = some args') (h : PMade C f args' r) :
    RunCall C fn T ds ro f args dst os k H Q = RunOps C fn (putA T dst r) ds ro os k H Q := by
  obtain ⟨n0, r0, H0, r1, h0, hfz, hr⟩ := h
  have e : ∀ n, n0 ≤ n → callF C (cln C n) f args H = some (r, H) := fun n hn => by
    have hc := (cl_le hn).call _ _ _ _ h0
    unfold callF
    rw [if_pos hp, if_neg (by simp [hf])]
    simp only [hz]
    rw [show (cln C n).call f args' AHeap.empty = some (r0, H0) from hc]
    simp only [hfz]
    split
    · rename_i hs
      rw [if_pos hs] at hr
      cases hr; rfl
    · rename_i hs
      rw [if_neg hs] at hr
      rw [hr]; rfl
  unfold RunCall RunOps
  apply propext
  constructor
  · rintro ⟨n, r', H', he, hq⟩
    refine ⟨max n0 n, r', H', ?_, hq⟩
    have he' := thenOps_le (Nat.le_max_right n0 n) (z' := withDs ds (callF C (cln C (max n0 n)) f args H)) (fun y hy => by
      cases hc : callF C (cln C n) f args H with
      | none => rw [hc] at hy; cases hy
      | some z => rw [hc] at hy; rw [callF_le (cl_le (Nat.le_max_right n0 n)) hc]; exact hy) he
    rw [e _ (Nat.le_max_left n0 n)] at he'
    exact he'
  · rintro ⟨n, r', H', he, hq⟩
    refine ⟨max n0 n, r', H', ?_, hq⟩
    rw [e _ (Nat.le_max_left n0 n)]
    exact thenRun_ops_le (Nat.le_max_right n0 n) he

/-- A call of a function that isn't pure: its body is run. -/
theorem call_body {f : FuncId} {args : List AV} {body : AC} {dst : Option Nat} {os : List AO} (hp : C.pure f = false) (hx : C.ext f = none) (hb : bodyOf C f = some body) (h : Run C f (enterT args) [] none [.code body] H (fun r H1 => RunOps C fn (putA T dst r) ds ro os k H1 Q)) :
    RunCall C fn T ds ro f args dst os k H Q := by
  obtain ⟨n, r, H1, he, m, r', H', he', hq⟩ := h
  refine ⟨max n m, r', H', ?_, hq⟩
  unfold bodyOf at hb
  simp only [Option.map_eq_some_iff] at hb
  obtain ⟨fi, hfi, rfl⟩ := hb
  have hc : callF C (cln C (max n m)) f args H = some (r, H1) := by
    unfold callF
    rw [if_neg (by simp [hp])]
    show (clMk C (exec C (max n m))).call f args H = _
    simp only [clMk, hx, hfi]
    exact exec_le (Nat.le_max_left n m) _ _ _ _ he
  rw [hc]
  exact thenRun_ops_le (Nat.le_max_right n m) he'

theorem pmade_run {f : FuncId} {args : List AV} {body : AC} {r : AV} (hx : C.ext f = none) (hb : bodyOf C f = some body) (h : Run C f (enterT args) [] none [.code body] AHeap.empty (fun r0 H' => ∃ r1, freeze H' r0 = some r1 ∧ (if r1.solid then some r1 else madeT H' r0) = some r)) : PMade C f args r := by
  obtain ⟨n, r0, H', he, r1, hq, hr⟩ := h
  unfold bodyOf at hb
  simp only [Option.map_eq_some_iff] at hb
  obtain ⟨fi, hfi, rfl⟩ := hb
  refine ⟨n, r0, H', r1, ?_, hq, hr⟩
  show (clMk C (exec C n)).call f args AHeap.empty = _
  simp only [clMk, hx, hfi]
  exact he

theorem pcall_run {f : FuncId} {args : List AV} {body : AC} {r : AV} (hx : C.ext f = none) (hb : bodyOf C f = some body) (h : Run C f (enterT args) [] none [.code body] AHeap.empty (fun r0 H' => freeze H' r0 = some r)) : PCall C f args r := by
  obtain ⟨n, r0, H', he, hq⟩ := h
  unfold bodyOf at hb
  simp only [Option.map_eq_some_iff] at hb
  obtain ⟨fi, hfi, rfl⟩ := hb
  refine ⟨n, ?_⟩
  unfold pcall
  have hc : (clOf C n).call f args AHeap.empty = some (r0, H') := by
    show (clMk C (exec C n)).call f args AHeap.empty = _
    simp only [clMk, hx, hfi]
    exact he
  rw [hc]
  exact hq

theorem Run.mono {items : List AItem} {Q' : AV → AHeap → Prop} (h : Run C fn T ds ro items H Q) (hq : ∀ r H', Q r H' → Q' r H') : Run C fn T ds ro items H Q' := by
  obtain ⟨n, r, H', he, hq'⟩ := h
  exact ⟨n, r, H', he, hq _ _ hq'⟩

/-! ## Rules by the head -/

section
variable {dst : Option Nat} {os : List AO} {a b : AC}

def RunCond (C : Ctx) (fn : FuncId) (T : Nat → AV) (ds : List ADef) (ro : Option Nat) (c : Operand) (v : Option AV) (a b : AC) (k : List AItem) (H : AHeap) (Q : AV → AHeap → Prop) : Prop :=
  match v with
  | some (.bool t) => if t = true then Run C fn T ds ro (.code a :: k) H Q else Run C fn T ds ro (.code b :: k) H Q
  | _ => Run C fn T ds ro (.code (.cond c a b) :: k) H Q

theorem run_condC {c : Operand} : Run C fn T ds ro (.code (.cond c a b) :: k) H Q = RunCond C fn T ds ro c (ev T c) a b k H Q := by
  unfold RunCond
  split
  · rename_i t ht; exact run_cond ht
  · rfl

theorem runCond_bool {c : Operand} {t : Bool} : RunCond C fn T ds ro c (some (.bool t)) a b k H Q = if t = true then Run C fn T ds ro (.code a :: k) H Q else Run C fn T ds ro (.code b :: k) H Q := rfl

def RunGuard (C : Ctx) (fn : FuncId) (T : Nat → AV) (ds : List ADef) (ro : Option Nat) (v : AV) (o : AO) (want : Bool) (os : List AO) (k : List AItem) (H : AHeap) (Q : AV → AHeap → Prop) : Prop :=
  match v with
  | .bool t => if t = want then RunOp C fn T ds ro o.op o.dst os k H Q else RunOps C fn (putA T o.dst .undef) ds ro os k H Q
  | .undef => RunOps C fn (putA T o.dst .undef) ds ro os k H Q
  | _ => RunOps C fn T ds ro (o :: os) k H Q

theorem ro_guardC {op : Op} {ty : TypeId} {j : Nat} {want : Bool} : RunOps C fn T ds ro ({ dst := dst, op := op, ty := ty, guard := some (j, want) } :: os) k H Q = RunGuard C fn T ds ro (T j) { dst := dst, op := op, ty := ty, guard := some (j, want) } want os k H Q := by
  unfold RunGuard
  split
  · rename_i t ht; exact ro_guard ht
  · rename_i h
    unfold RunOps
    have e : ∀ n, thenRun C fn ro k n (runOps C (cln C n) ro.isSome ({ dst := dst, op := op, ty := ty, guard := some (j, want) } :: os) T ds H) = thenRun C fn ro k n (runOps C (cln C n) ro.isSome os (putA T dst .undef) ds H) := fun n => by
      simp only [runOps, opRes, wantedA, h]
    simp only [e]
  · rfl

theorem runGuard_bool {op : Op} {ty : TypeId} {g : Option (Nat × Bool)} {want t : Bool} : RunGuard C fn T ds ro (.bool t) { dst := dst, op := op, ty := ty, guard := g } want os k H Q = if t = want then RunOp C fn T ds ro op dst os k H Q else RunOps C fn (putA T dst .undef) ds ro os k H Q := rfl

theorem runGuard_undef {op : Op} {ty : TypeId} {g : Option (Nat × Bool)} {want : Bool} : RunGuard C fn T ds ro .undef { dst := dst, op := op, ty := ty, guard := g } want os k H Q = RunOps C fn (putA T dst .undef) ds ro os k H Q := rfl

def RunB (C : Ctx) (fn : FuncId) (T : Nat → AV) (ds : List ADef) (ro : Option Nat) (b : Builtin) (ts : List TypeId) (op : Op) (dst : Option Nat) (os : List AO) (k : List AItem) (H : AHeap) (Q : AV → AHeap → Prop) : Option (List AV) → Prop
  | some vs => RunVH C fn T ds ro dst os k Q (builtinA C H b ts vs)
  | none => RunOp C fn T ds ro op dst os k H Q

theorem rop_builtinC {b : Builtin} {args : Array Operand} {ts : Array TypeId} : RunOp C fn T ds ro (.call { callee := .builtin b, args := args, argTypes := ts }) dst os k H Q = RunB C fn T ds ro b ts.toList (.call { callee := .builtin b, args := args, argTypes := ts }) dst os k H Q (evs T args.toList) := by
  cases h : evs T args.toList with
  | none => rfl
  | some vs => exact rop_builtin h

theorem runB_some {b : Builtin} {ts : List TypeId} {op : Op} {vs : List AV} : RunB C fn T ds ro b ts op dst os k H Q (some vs) = RunVH C fn T ds ro dst os k Q (builtinA C H b ts vs) := rfl

def RunA (C : Ctx) (fn : FuncId) (T : Nat → AV) (ds : List ADef) (ro : Option Nat) (op : Op) (dst : Option Nat) (os : List AO) (k : List AItem) (H : AHeap) (Q : AV → AHeap → Prop) : Option AV → Option (List AV) → Prop
  | some (.fn f first caps), some vs => RunCall C fn T ds ro f (first ++ vs ++ caps) dst os k H Q
  | _, _ => RunOp C fn T ds ro op dst os k H Q

theorem rop_callC {x : Operand} {args : Array Operand} {ts : Array TypeId} : RunOp C fn T ds ro (.call { callee := .value x, args := args, argTypes := ts }) dst os k H Q = RunA C fn T ds ro (.call { callee := .value x, args := args, argTypes := ts }) dst os k H Q (ev T x) (evs T args.toList) := by
  unfold RunA
  split
  · rename_i f first caps vs h1 h2; exact rop_call h2 h1
  · rfl

theorem runA_fn {op : Op} {f : FuncId} {first caps vs : List AV} : RunA C fn T ds ro op dst os k H Q (some (.fn f first caps)) (some vs) = RunCall C fn T ds ro f (first ++ vs ++ caps) dst os k H Q := rfl
end

/-! ## Loads beside writes -/

section
variable {dst : Option Nat} {os : List AO} {cs : List (List Nat)}

def chkOps (T : Nat → AV) (op : Op) (c : List Nat) : Bool := c.all fun t => match adT op with
  | some t' => apartA (T t) (T t')
  | none => false

def DynOp (C : Ctx) (ro : Option Nat) (op : Op) (dst : Option Nat) (os : List AO) (cs : List (List Nat)) (T : Nat → AV) (ds : List ADef) (H : AHeap) : Prop :=
  ∃ n, (match opRun C (cln C n) ro.isSome T ds H op with
    | some (v, ds', H') => dynA C (cln C n) ro.isSome os cs (putA T dst v) ds' H'
    | none => false) = true

def DynV (C : Ctx) (ro : Option Nat) (dst : Option Nat) (os : List AO) (cs : List (List Nat)) (T : Nat → AV) (ds : List ADef) : Option (AV × AHeap) → Prop
  | some (v, H) => Dyn C ro os cs (putA T dst v) ds H
  | none => False

theorem dyn_nil : Dyn C ro os [] T ds H = True := by
  apply propext
  exact ⟨fun _ => trivial, fun _ => ⟨0, by cases os <;> rfl⟩⟩

theorem dyn_end {c : List Nat} : Dyn C ro [] (c :: cs) T ds H = True := by
  apply propext
  exact ⟨fun _ => trivial, fun _ => ⟨0, rfl⟩⟩

theorem dyn_cons {op : Op} {ty : TypeId} {c : List Nat} : Dyn C ro ({ dst := dst, op := op, ty := ty, guard := none } :: os) (c :: cs) T ds H = (chkOps T op c = true ∧ DynOp C ro op dst os cs T ds H) := by
  apply propext
  unfold Dyn DynOp chkOps
  simp only [dynA, opRes, wantedA, Bool.and_eq_true]
  constructor
  · rintro ⟨n, h1, h2⟩
    refine ⟨h1, n, ?_⟩
    cases ho : opRun C (cln C n) ro.isSome T ds H op with
    | none => rw [ho] at h2; exact h2
    | some x => obtain ⟨v, ds', H'⟩ := x; rw [ho] at h2; exact h2
  · rintro ⟨h1, n, h2⟩
    refine ⟨n, h1, ?_⟩
    cases ho : opRun C (cln C n) ro.isSome T ds H op with
    | none => rw [ho] at h2; exact h2
    | some x => obtain ⟨v, ds', H'⟩ := x; rw [ho] at h2; exact h2

theorem dop_of {op : Op} {z : Option (AV × AHeap)} (h : ∀ cl, opRun C cl ro.isSome T ds H op = withDs ds z) : DynOp C ro op dst os cs T ds H = DynV C ro dst os cs T ds z := by
  unfold DynOp
  simp only [h]
  cases z with
  | none => simp [withDs, DynV]
  | some z => obtain ⟨v, H1⟩ := z; rfl

theorem dop_inert {op : Op} (h : inertOp op = true) : DynOp C ro op dst os cs T ds H = DynV C ro dst os cs T ds ((primP C T op).map (·, H)) := by
  refine dop_of fun cl => ?_
  unfold opRun
  split
  · simp [inertOp] at h
  · simp [inertOp] at h
  · simp only [prim, h, if_true]
    cases primP C T op <;> rfl

theorem dop_mem {op : Op} (h : inertOp op = false) (h' : primOp op = true) : DynOp C ro op dst os cs T ds H = DynV C ro dst os cs T ds (primM C T H op) := by
  refine dop_of fun cl => ?_
  unfold opRun
  split
  · simp [primOp] at h'
  · simp [primOp] at h'
  · simp only [prim, h, Bool.false_eq_true, if_false]
    cases primM C T H _ with
    | none => rfl
    | some z => obtain ⟨v, H1⟩ := z; rfl

theorem dop_move {x : Operand} : DynOp C ro (.move x) dst os cs T ds H = DynV C ro dst os cs T ds ((primP C T (.move x)).map (·, H)) := dop_inert rfl
theorem dop_assign {x : Operand} : DynOp C ro (.assign x) dst os cs T ds H = DynV C ro dst os cs T ds ((primP C T (.assign x)).map (·, H)) := dop_inert rfl
theorem dop_build {t : TypeId} {ps : Array (Nat × Operand)} : DynOp C ro (.build t ps) dst os cs T ds H = DynV C ro dst os cs T ds ((primP C T (.build t ps)).map (·, H)) := dop_inert rfl
theorem dop_nilCheck {x : Operand} : DynOp C ro (.nilCheck x) dst os cs T ds H = DynV C ro dst os cs T ds ((primP C T (.nilCheck x)).map (·, H)) := dop_inert rfl
theorem dop_fieldAddr {t : TypeId} {x : Operand} {f : Nat} : DynOp C ro (.fieldAddr t x f) dst os cs T ds H = DynV C ro dst os cs T ds ((primP C T (.fieldAddr t x f)).map (·, H)) := dop_inert rfl
theorem dop_field {t : TypeId} {x : Operand} {f : Nat} : DynOp C ro (.field t x f) dst os cs T ds H = DynV C ro dst os cs T ds ((primP C T (.field t x f)).map (·, H)) := dop_inert rfl
theorem dop_indexAddr {t : TypeId} {x y : Operand} : DynOp C ro (.indexAddr t x y) dst os cs T ds H = DynV C ro dst os cs T ds ((primP C T (.indexAddr t x y)).map (·, H)) := dop_inert rfl
theorem dop_binOp {o : BinOp} {t : TypeId} {x y : Operand} {ty : TypeId} : DynOp C ro (.binOp o t x y ty) dst os cs T ds H = DynV C ro dst os cs T ds ((primP C T (.binOp o t x y ty)).map (·, H)) := dop_inert rfl
theorem dop_extract {x : Operand} {i : Nat} : DynOp C ro (.extract x i) dst os cs T ds H = DynV C ro dst os cs T ds ((primP C T (.extract x i)).map (·, H)) := dop_inert rfl
theorem dop_load {t : TypeId} {x : Operand} : DynOp C ro (.load t x) dst os cs T ds H = DynV C ro dst os cs T ds (primM C T H (.load t x)) := dop_mem rfl rfl
theorem dop_store {t : TypeId} {x y : Operand} : DynOp C ro (.store t x y) dst os cs T ds H = DynV C ro dst os cs T ds (primM C T H (.store t x y)) := dop_mem rfl rfl
theorem dop_alloc {t : TypeId} : DynOp C ro (.alloc t) dst os cs T ds H = DynV C ro dst os cs T ds (primM C T H (.alloc t)) := dop_mem rfl rfl
theorem dop_box {t : TypeId} {x : Operand} : DynOp C ro (.box t x) dst os cs T ds H = DynV C ro dst os cs T ds (primM C T H (.box t x)) := dop_mem rfl rfl
theorem dop_buildSlice {t : TypeId} {n : Nat} {ps : Array (Nat × Operand)} : DynOp C ro (.buildSlice t n ps) dst os cs T ds H = DynV C ro dst os cs T ds (primM C T H (.buildSlice t n ps)) := dop_mem rfl rfl
theorem dynV_some {v : AV} : DynV C ro dst os cs T ds (some (v, H)) = Dyn C ro os cs (putA T dst v) ds H := rfl
theorem chk_nil {op : Op} : chkOps T op [] = true := rfl
theorem chk_cons {op : Op} {t : Nat} {c : List Nat} : chkOps T op (t :: c) = ((match adT op with
  | some t' => apartA (T t) (T t')
  | none => false) && chkOps T op c) := rfl

theorem apart_ptr {b b' k k' i i' j j' : Nat} : apartA (.ptr b k i j) (.ptr b' k' i' j') = (b != b') := rfl
end

end Go.BX
