import Derived.Test.YtjnopnlgcmlkfaaKRSFolds2
import Derived.Laws.Externs
import Derived.Test.YtjnopnlgcmlkfaaChecked
import Derived.KernelRfl
namespace Go.BX
set_option linter.unusedSimpArgs false
set_option linter.unusedVariables false
variable {C : Ctx}
structure Le (cl cl' : Cl) : Prop where
  call : ∀ f args H x, cl.call f args H = some x → cl'.call f args H = some x
  round : ∀ l args H x, cl.round l args H = some x → cl'.round l args H = some x
theorem Le.refl (cl : Cl) : Le cl cl := ⟨fun _ _ _ _ h => h, fun _ _ _ _ h => h⟩
def ExLe (ex ex' : AFr → List AItem → AHeap → Option (AV × AHeap)) : Prop := ∀ fr items H x, ex fr items H = some x → ex' fr items H = some x
theorem clMk_le {ex ex' : AFr → List AItem → AHeap → Option (AV × AHeap)} (h : ExLe ex ex') : Le (clMk C ex) (clMk C ex') where
  call := fun f args H x hc => by
    simp only [clMk] at hc ⊢
    split at hc
    · rename_i g hg; (try simp only [hg]); exact hc
    · rename_i hg
      (try simp only [hg])
      split at hc
      · rename_i fi hfi; (try simp only [hfi]); exact h _ _ _ _ hc
      · cases hc
  round := fun l args H x hc => by
    simp only [clMk] at hc ⊢
    split at hc
    · rename_i L hL
      (try simp only [hL])
      split at hc
      · rename_i hlen; rw [if_pos hlen]; exact h _ _ _ _ hc
      · cases hc
    · cases hc
theorem callF_le {cl cl' : Cl} (h : Le cl cl') {f : FuncId} {args : List AV} {H : AHeap} {x : AV × AHeap} (hc : callF C cl f args H = some x) : callF C cl' f args H = some x := by
  unfold callF at hc ⊢
  split at hc
  · rename_i hp
    rw [if_pos hp]
    split at hc
    · rename_i hf
      rw [if_pos hf]
      split at hc
      · rename_i r H1 hcc; rw [h.call _ _ _ _ hcc]; exact hc
      · cases hc
    · rename_i hf
      rw [if_neg hf]
      split at hc
      · rename_i args' ha
        (try simp only [ha])
        split at hc
        · rename_i r H1 hcc; rw [h.call _ _ _ _ hcc]; exact hc
        · cases hc
      · cases hc
  · rename_i hp
    rw [if_neg hp]
    exact h.call _ _ _ _ hc
theorem callV_le {cl cl' : Cl} (h : Le cl cl') {v : AV} {args : List AV} {H : AHeap} {x : AV × AHeap} (hc : callV C cl v args H = some x) : callV C cl' v args H = some x := by
  unfold callV at hc ⊢
  split at hc
  · exact callF_le h hc
  · exact h.round _ _ _ _ hc
  · cases hc
theorem opCall_le {cl cl' : Cl} (h : Le cl cl') {T : Nat → AV} {H : AHeap} {c : Call} {x : AV × AHeap} (hc : opCall C cl T H c = some x) : opCall C cl' T H c = some x := by
  unfold opCall at hc ⊢
  split at hc
  · cases hc
  · rename_i args ha
    try simp only [ha]
    split at hc
    · exact hc
    · cases hc
    · rename_i y hy
      split at hc
      · rename_i v hv; (try simp only [hv]); exact callV_le h hc
      · cases hc
theorem opRun_le {cl cl' : Cl} (h : Le cl cl') {ir : Bool} {T : Nat → AV} {az : List ADef} {H : AHeap} {op : Op} {x : AV × List ADef × AHeap} (hc : opRun C cl ir T az H op = some x) : opRun C cl' ir T az H op = some x := by
  unfold opRun at hc ⊢
  split at hc
  · rename_i c
    split at hc
    · rename_i v H' ho; rw [opCall_le h ho]; exact hc
    · cases hc
  · exact hc
  · exact hc
theorem opRes_le {cl cl' : Cl} (h : Le cl cl') {ir : Bool} {o : AO} {T : Nat → AV} {az : List ADef} {H : AHeap} {x : AV × List ADef × AHeap} (hc : opRes C cl ir o T az H = some x) : opRes C cl' ir o T az H = some x := by
  unfold opRes at hc ⊢
  split at hc
  · exact opRun_le h hc
  · exact hc
  · cases hc
theorem runOps_le {cl cl' : Cl} (h : Le cl cl') {ir : Bool} : ∀ {aos : List AO} {T : Nat → AV} {az : List ADef} {H : AHeap} {x : (Nat → AV) × List ADef × AHeap}, runOps C cl ir aos T az H = some x → runOps C cl' ir aos T az H = some x := by
  intro aos
  induction aos with
  | nil => intro T az H x hc; exact hc
  | cons o aos ih =>
    intro T az H x hc
    simp only [runOps] at hc ⊢
    split at hc
    · rename_i v ds' H1 hr; rw [opRes_le h hr]; exact ih hc
    · cases hc
theorem dynA_le {cl cl' : Cl} (h : Le cl cl') {ir : Bool} : ∀ {aos : List AO} {chk : List (List Nat)} {T : Nat → AV} {az : List ADef} {H : AHeap}, dynA C cl ir aos chk T az H = true → dynA C cl' ir aos chk T az H = true := by
  intro aos
  induction aos with
  | nil => intro chk T az H hc; cases chk <;> rfl
  | cons o aos ih =>
    intro chk T az H hc
    cases chk with
    | nil => rfl
    | cons c chk =>
      simp only [dynA, Bool.and_eq_true] at hc ⊢
      refine ⟨hc.1, ?_⟩
      have h2 := hc.2
      split at h2
      · rename_i v ds' H1 hr; rw [opRes_le h hr]; exact ih h2
      · cases h2
theorem runDefers_le {cl cl' : Cl} (h : Le cl cl') : ∀ {az : List ADef} {H x : AHeap}, runDefers C cl az H = some x → runDefers C cl' az H = some x := by
  intro az
  induction az with
  | nil => intro H x hc; exact hc
  | cons a az ih =>
    intro H x hc
    cases a with
    | collected b =>
      simp only [runDefers] at hc ⊢
      split at hc
      · rename_i hb; (try simp only [hb]); exact ih hc
      · cases hc
    | call v args =>
      cases v <;> simp only [runDefers, reduceCtorEq] at hc ⊢
      split at hc
      · cases hc
      · rename_i he
        rw [if_neg he]
        split at hc
        · rename_i r H1 hcc; rw [h.call _ _ _ _ hcc]; exact ih hc
        · cases hc
theorem leaveA_le {cl cl' : Cl} (h : Le cl cl') {fr : AFr} {jump : Option AC} {H : AHeap} {x : AV × AHeap} (hc : leaveA C cl fr jump H = some x) : leaveA C cl' fr jump H = some x := by
  unfold leaveA at hc ⊢
  split at hc
  · split at hc
    · rename_i hr
      rw [if_pos hr]
      split at hc
      · rename_i H1 hd; rw [runDefers_le h hd]; exact hc
      · cases hc
    · cases hc
  · exact hc
theorem stepA_le {ex ex' : AFr → List AItem → AHeap → Option (AV × AHeap)} (h : ExLe ex ex') : ExLe (stepA C ex) (stepA C ex') := by
  intro fr items H x hc
  have hl := clMk_le (C := C) h
  unfold stepA at hc ⊢
  split at hc
  · exact leaveA_le hl hc
  · exact h _ _ _ _ hc
  · exact h _ _ _ _ hc
  · exact h _ _ _ _ hc
  · try simp only
    split at hc
    · split at hc
      · rename_i L hL
        (try simp only [hL])
        split at hc
        · rename_i hst; rw [if_pos hst]; exact h _ _ _ _ hc
        · cases hc
      · cases hc
    · cases hc
  · exact h _ _ _ _ hc
  · exact h _ _ _ _ hc
  · try simp only
    split at hc
    · rename_i T' ds' H1 hr
      rw [runOps_le hl hr]
      split at hc
      · rename_i hd; simp only; rw [if_pos (dynA_le hl hd)]; exact h _ _ _ _ hc
      · cases hc
    · cases hc
  · exact h _ _ _ _ hc
  · try simp only
    split at hc
    · rename_i t ht; (try simp only [ht]); exact h _ _ _ _ hc
    · cases hc
  · exact h _ _ _ _ hc
  · exact h _ _ _ _ hc
  · exact h _ _ _ _ hc
  · try simp only
    split at hc
    · rename_i k' hk; (try simp only [hk]); exact h _ _ _ _ hc
    · rename_i hk; (try simp only [hk]); exact leaveA_le hl hc
  · try simp only
    split at hc
    · rename_i k' hk; (try simp only [hk]); exact h _ _ _ _ hc
    · rename_i hk; (try simp only [hk]); exact leaveA_le hl hc
  · exact leaveA_le hl hc
  · cases hc
  · try simp only
    split at hc
    · rename_i g first caps l mark H2 hev hel
      (try simp only [hev, hel])
      split at hc
      · cases hc
      · rename_i rv H3 hcall
        rw [callF_le hl hcall]
        try simp only
        split at hc
        · rename_i L hL
          (try simp only [hL])
          split at hc
          · cases hc
          · rename_i hcond; rw [if_neg hcond]; exact h _ _ _ _ hc
        · cases hc
    · cases hc
theorem exec_le_succ : ∀ n, ExLe (exec C n) (exec C (n + 1))
  | 0 => fun fr items H x h => by simp [exec] at h
  | n + 1 => stepA_le (exec_le_succ n)
theorem exec_le {n m : Nat} (h : n ≤ m) : ExLe (exec C n) (exec C m) := by
  induction m with
  | zero => have : n = 0 := by omega
            subst this; exact fun _ _ _ _ h => h
  | succ m ih =>
    by_cases e : n = m + 1
    · subst e; exact fun _ _ _ _ h => h
    · exact fun fr items H x hx => exec_le_succ m _ _ _ _ (ih (by omega) fr items H x hx)
theorem cl_le {n m : Nat} (h : n ≤ m) : Le (clMk C (exec C n)) (clMk C (exec C m)) := clMk_le (exec_le h)
end Go.BX

namespace Go.BX
set_option linter.unusedSimpArgs false
set_option linter.unusedVariables false
variable {C : Ctx} {fn : FuncId} {T : Nat → AV} {ds : List ADef} {ro : Option Nat} {H : AHeap} {Q : AV → AHeap → Prop} {k : List AItem}
def Run (C : Ctx) (fn : FuncId) (T : Nat → AV) (ds : List ADef) (ro : Option Nat) (items : List AItem) (H : AHeap) (Q : AV → AHeap → Prop) : Prop :=
  ∃ n r H', exec C n { fn := fn, T := T, defers := ds, round := ro } items H = some (r, H') ∧ Q r H'
abbrev cln (C : Ctx) (n : Nat) : Cl := clMk C (exec C n)
def thenRun (C : Ctx) (fn : FuncId) (ro : Option Nat) (k : List AItem) (n : Nat) : Option ((Nat → AV) × List ADef × AHeap) → Option (AV × AHeap)
  | some (T, ds, H) => exec C n { fn := fn, T := T, defers := ds, round := ro } k H
  | none => none
def RunOps (C : Ctx) (fn : FuncId) (T : Nat → AV) (ds : List ADef) (ro : Option Nat) (os : List AO) (k : List AItem) (H : AHeap) (Q : AV → AHeap → Prop) : Prop :=
  ∃ n r H', thenRun C fn ro k n (runOps C (cln C n) ro.isSome os T ds H) = some (r, H') ∧ Q r H'
def thenOps (C : Ctx) (fn : FuncId) (ro : Option Nat) (T : Nat → AV) (dst : Option Nat) (os : List AO) (k : List AItem) (n : Nat) : Option (AV × List ADef × AHeap) → Option (AV × AHeap)
  | some (v, ds, H) => thenRun C fn ro k n (runOps C (cln C n) ro.isSome os (putA T dst v) ds H)
  | none => none
def RunOp (C : Ctx) (fn : FuncId) (T : Nat → AV) (ds : List ADef) (ro : Option Nat) (op : Op) (dst : Option Nat) (os : List AO) (k : List AItem) (H : AHeap) (Q : AV → AHeap → Prop) : Prop :=
  ∃ n r H', thenOps C fn ro T dst os k n (opRun C (cln C n) ro.isSome T ds H op) = some (r, H') ∧ Q r H'
def withDs (ds : List ADef) : Option (AV × AHeap) → Option (AV × List ADef × AHeap)
  | some (v, H) => some (v, ds, H)
  | none => none
def RunCall (C : Ctx) (fn : FuncId) (T : Nat → AV) (ds : List ADef) (ro : Option Nat) (f : FuncId) (args : List AV) (dst : Option Nat) (os : List AO) (k : List AItem) (H : AHeap) (Q : AV → AHeap → Prop) : Prop :=
  ∃ n r H', thenOps C fn ro T dst os k n (withDs ds (callF C (cln C n) f args H)) = some (r, H') ∧ Q r H'
theorem thenRun_le {n m : Nat} (h : n ≤ m) {z : Option ((Nat → AV) × List ADef × AHeap)} {x : AV × AHeap} (hz : thenRun C fn ro k n z = some x) : thenRun C fn ro k m z = some x := by
  cases z with
  | none => cases hz
  | some z => exact exec_le h _ _ _ _ hz
theorem thenRun_ops_le {n m : Nat} (h : n ≤ m) {os : List AO} {x : AV × AHeap} (hz : thenRun C fn ro k n (runOps C (cln C n) ro.isSome os T ds H) = some x) : thenRun C fn ro k m (runOps C (cln C m) ro.isSome os T ds H) = some x := by
  cases hr : runOps C (cln C n) ro.isSome os T ds H with
  | none => rw [hr] at hz; cases hz
  | some y =>
    rw [hr] at hz
    rw [runOps_le (cl_le h) hr]
    exact thenRun_le h hz
theorem thenOps_le {n m : Nat} (h : n ≤ m) {dst : Option Nat} {os : List AO} {z z' : Option (AV × List ADef × AHeap)} {x : AV × AHeap} (hzz : ∀ y, z = some y → z' = some y) (hz : thenOps C fn ro T dst os k n z = some x) : thenOps C fn ro T dst os k m z' = some x := by
  cases z with
  | none => cases hz
  | some z =>
    obtain ⟨v, ds', H'⟩ := z
    rw [hzz _ rfl]
    exact thenRun_ops_le h hz
theorem run_step {items items' : List AItem} {fn' : FuncId} {T' : Nat → AV} {ds' : List ADef} {ro' : Option Nat} {H1 : AHeap} (h : ∀ ex, stepA C ex { fn := fn, T := T, defers := ds, round := ro } items H = ex { fn := fn', T := T', defers := ds', round := ro' } items' H1) :
    Run C fn T ds ro items H Q = Run C fn' T' ds' ro' items' H1 Q := by
  apply propext
  constructor
  · rintro ⟨n, r, H', he, hq⟩
    cases n with
    | zero => simp [exec] at he
    | succ n => simp only [exec, h] at he; exact ⟨n, r, H', he, hq⟩
  · rintro ⟨n, r, H', he, hq⟩
    exact ⟨n + 1, r, H', by simp only [exec, h]; exact he, hq⟩
theorem run_skip : Run C fn T ds ro (.code .skip :: k) H Q = Run C fn T ds ro k H Q := run_step fun _ => rfl
theorem run_label {l : Nat} : Run C fn T ds ro (.code (.label l) :: k) H Q = Run C fn T ds ro k H Q := run_step fun _ => rfl
theorem run_inBlock {l : Nat} : Run C fn T ds ro (.inBlock l :: k) H Q = Run C fn T ds ro k H Q := run_step fun _ => rfl
theorem run_inLoop {c : AC} : Run C fn T ds ro (.inLoop c :: k) H Q = Run C fn T ds ro (.code c :: .inLoop c :: k) H Q := run_step fun _ => rfl
theorem run_seq {a b : AC} : Run C fn T ds ro (.code (.seq a b) :: k) H Q = Run C fn T ds ro (.code a :: .code b :: k) H Q := run_step fun _ => rfl
theorem run_block {l : Nat} {a : AC} : Run C fn T ds ro (.code (.block l a) :: k) H Q = Run C fn T ds ro (.code a :: .inBlock l :: k) H Q := run_step fun _ => rfl
theorem run_loop {a : AC} : Run C fn T ds ro (.code (.loop a) :: k) H Q = Run C fn T ds ro (.code a :: .inLoop a :: k) H Q := run_step fun _ => rfl
theorem run_loop' {a : AC} : Run C fn T ds ro (.code (.loop a) :: k) H Q = Run C fn T ds ro (.inLoop a :: k) H Q := run_loop.trans run_inLoop.symm
theorem run_scope {a : AC} : Run C fn T ds ro (.code (.scope a) :: k) H Q = Run C fn T ds ro (.code a :: .inScope a :: k) H Q := run_step fun _ => rfl
theorem run_cond {c : Operand} {a b : AC} {t : Bool} (h : ev T c = some (.bool t)) : Run C fn T ds ro (.code (.cond c a b) :: k) H Q = if t = true then Run C fn T ds ro (.code a :: k) H Q else Run C fn T ds ro (.code b :: k) H Q := by
  rw [run_step (fn' := fn) (T' := T) (ds' := ds) (ro' := ro) (H1 := H) (items' := .code (if t then a else b) :: k) (fun ex => by simp only [stepA, h])]
  cases t <;> rfl
theorem run_exit {id : Nat} {k' : List AItem} (h : exitA id k = some k') : Run C fn T ds ro (.code (.exit id) :: k) H Q = Run C fn T ds ro k' H Q := run_step fun ex => by simp only [stepA, h]
theorem run_goto {id : Nat} {k' : List AItem} (h : gotoA id k = some k') : Run C fn T ds ro (.code (.goto id) :: k) H Q = Run C fn T ds ro k' H Q := run_step fun ex => by simp only [stepA, h]
def RunExit (C : Ctx) (fn : FuncId) (T : Nat → AV) (ds : List ADef) (ro : Option Nat) (id : Nat) (all k : List AItem) (H : AHeap) (Q : AV → AHeap → Prop) : Prop :=
  match exitA id k with
  | some k' => Run C fn T ds ro k' H Q
  | none => Run C fn T ds ro (.code (.exit id) :: all) H Q
theorem run_exit_start {id : Nat} : Run C fn T ds ro (.code (.exit id) :: k) H Q = RunExit C fn T ds ro id k k H Q := by
  unfold RunExit
  split
  · rename_i k' h; exact run_exit h
  · rfl
theorem exit_here {id : Nat} {all : List AItem} : RunExit C fn T ds ro id all (.inBlock id :: k) H Q = Run C fn T ds ro k H Q := by
  unfold RunExit
  simp [exitA]
theorem exit_code {id : Nat} {c : AC} {all : List AItem} : RunExit C fn T ds ro id all (.code c :: k) H Q = RunExit C fn T ds ro id all k H Q := rfl
theorem exit_inLoop {id : Nat} {c : AC} {all : List AItem} : RunExit C fn T ds ro id all (.inLoop c :: k) H Q = RunExit C fn T ds ro id all k H Q := rfl
def resOf (C : Ctx) (f : FuncId) : Option (List ResultVar) := (C.FT f).map (·.results)
def bodyOf (C : Ctx) (f : FuncId) : Option AC := (C.FT f).map (·.body)
def RunRes (C : Ctx) (T : Nat → AV) (H : AHeap) (Q : AV → AHeap → Prop) : Option (List ResultVar) → Prop
  | some rs => match resultsA C T H rs with
    | some vs => Q (oneOf vs) H
    | none => False
  | none => False
theorem leave_res {n : Nat} : (∃ r H', leaveA C (cln C n) { fn := fn, T := T, defers := [], round := none } none H = some (r, H') ∧ Q r H') ↔ RunRes C T H Q (resOf C fn) := by
  simp only [leaveA, isRetA, if_true, runDefers, resOf]
  cases C.FT fn with
  | none => simp [RunRes]
  | some fi =>
    simp only [Option.map_some, RunRes]
    cases resultsA C T H fi.results with
    | none => simp
    | some vs =>
      simp only [Option.map_some, Option.some.injEq, Prod.mk.injEq]
      constructor
      · rintro ⟨r, H', ⟨rfl, rfl⟩, hq⟩; exact hq
      · intro hq; exact ⟨_, _, ⟨rfl, rfl⟩, hq⟩
theorem run_nil : Run C fn T [] none [] H Q = RunRes C T H Q (resOf C fn) := by
  rw [← leave_res (n := 0)]
  apply propext
  constructor
  · rintro ⟨n, r, H', he, hq⟩
    cases n with
    | zero => simp [exec] at he
    | succ n => exact ⟨r, H', he, hq⟩
  · rintro ⟨r, H', he, hq⟩
    exact ⟨1, r, H', he, hq⟩
theorem run_ret : Run C fn T [] none (.code .ret :: k) H Q = RunRes C T H Q (resOf C fn) := by
  rw [← leave_res (n := 0)]
  apply propext
  constructor
  · rintro ⟨n, r, H', he, hq⟩
    cases n with
    | zero => simp [exec] at he
    | succ n => exact ⟨r, H', he, hq⟩
  · rintro ⟨r, H', he, hq⟩
    exact ⟨1, r, H', he, hq⟩
theorem run_region {os : List AO} : Run C fn T ds ro (.code (.region os []) :: k) H Q = RunOps C fn T ds ro os k H Q := by
  have e : ∀ n, exec C (n + 1) { fn := fn, T := T, defers := ds, round := ro } (.code (.region os []) :: k) H = thenRun C fn ro k n (runOps C (cln C n) ro.isSome os T ds H) := fun n => by
    simp only [exec, stepA]
    have hd : dynA C (clMk C (exec C n)) ro.isSome os [] T ds H = true := by cases os <;> rfl
    simp only [hd, if_true]
    cases runOps C (clMk C (exec C n)) ro.isSome os T ds H <;> rfl
  apply propext
  constructor
  · rintro ⟨n, r, H', he, hq⟩
    cases n with
    | zero => simp [exec] at he
    | succ n => rw [e] at he; exact ⟨n, r, H', he, hq⟩
  · rintro ⟨n, r, H', he, hq⟩
    exact ⟨n + 1, r, H', by rw [e]; exact he, hq⟩
def Dyn (C : Ctx) (ro : Option Nat) (os : List AO) (chk : List (List Nat)) (T : Nat → AV) (ds : List ADef) (H : AHeap) : Prop := ∃ n, dynA C (cln C n) ro.isSome os chk T ds H = true
theorem run_regionD {os : List AO} {chk : List (List Nat)} : Run C fn T ds ro (.code (.region os chk) :: k) H Q = (Dyn C ro os chk T ds H ∧ RunOps C fn T ds ro os k H Q) := by
  apply propext
  constructor
  · rintro ⟨n, r, H', he, hq⟩
    cases n with
    | zero => simp [exec] at he
    | succ n =>
      simp only [exec, stepA] at he
      split at he
      · rename_i T' ds' H1 hr
        split at he
        · rename_i hd
          exact ⟨⟨n, hd⟩, n, r, H', by rw [show runOps C (cln C n) ro.isSome os T ds H = _ from hr]; exact he, hq⟩
        · cases he
      · cases he
  · rintro ⟨⟨m, hd⟩, n, r, H', he, hq⟩
    refine ⟨max m n + 1, r, H', ?_, hq⟩
    have he' := thenRun_ops_le (Nat.le_max_right m n) he
    have hd' := dynA_le (cl_le (Nat.le_max_left m n)) hd
    simp only [exec, stepA]
    split
    · rename_i T' ds' H1 hr
      rw [show runOps C (cln C (max m n)) ro.isSome os T ds H = _ from hr] at he'
      rw [if_pos hd']
      exact he'
    · rename_i hr
      rw [show runOps C (cln C (max m n)) ro.isSome os T ds H = _ from hr] at he'
      cases he'
theorem ro_nil : RunOps C fn T ds ro [] k H Q = Run C fn T ds ro k H Q := rfl
theorem ro_cons {dst : Option Nat} {op : Op} {ty : TypeId} {os : List AO} : RunOps C fn T ds ro ({ dst := dst, op := op, ty := ty, guard := none } :: os) k H Q = RunOp C fn T ds ro op dst os k H Q := by
  unfold RunOps RunOp
  have e : ∀ n, thenRun C fn ro k n (runOps C (cln C n) ro.isSome ({ dst := dst, op := op, ty := ty, guard := none } :: os) T ds H) = thenOps C fn ro T dst os k n (opRun C (cln C n) ro.isSome T ds H op) := fun n => by
    simp only [runOps, opRes, wantedA]
    cases opRun C (cln C n) ro.isSome T ds H op with
    | none => rfl
    | some x => obtain ⟨v, ds', H'⟩ := x; rfl
  simp only [e]
theorem ro_guard {dst : Option Nat} {op : Op} {ty : TypeId} {j : Nat} {want t : Bool} {os : List AO} (h : T j = .bool t) :
    RunOps C fn T ds ro ({ dst := dst, op := op, ty := ty, guard := some (j, want) } :: os) k H Q = if t = want then RunOp C fn T ds ro op dst os k H Q else RunOps C fn (putA T dst .undef) ds ro os k H Q := by
  by_cases ht : t = want
  · rw [if_pos ht]
    unfold RunOps RunOp
    have e : ∀ n, thenRun C fn ro k n (runOps C (cln C n) ro.isSome ({ dst := dst, op := op, ty := ty, guard := some (j, want) } :: os) T ds H) = thenOps C fn ro T dst os k n (opRun C (cln C n) ro.isSome T ds H op) := fun n => by
      simp only [runOps, opRes, wantedA, h, ht, beq_self_eq_true]
      cases opRun C (cln C n) ro.isSome T ds H op with
      | none => rfl
      | some x => obtain ⟨v, ds', H'⟩ := x; rfl
    simp only [e]
  · rw [if_neg ht]
    unfold RunOps
    have e : ∀ n, thenRun C fn ro k n (runOps C (cln C n) ro.isSome ({ dst := dst, op := op, ty := ty, guard := some (j, want) } :: os) T ds H) = thenRun C fn ro k n (runOps C (cln C n) ro.isSome os (putA T dst .undef) ds H) := fun n => by
      have : (t == want) = false := by simpa using ht
      simp only [runOps, opRes, wantedA, h, this]
    simp only [e]
def RunV (C : Ctx) (fn : FuncId) (T : Nat → AV) (ds : List ADef) (ro : Option Nat) (dst : Option Nat) (os : List AO) (k : List AItem) (H : AHeap) (Q : AV → AHeap → Prop) : Option AV → Prop
  | some v => RunOps C fn (putA T dst v) ds ro os k H Q
  | none => False
def RunVH (C : Ctx) (fn : FuncId) (T : Nat → AV) (ds : List ADef) (ro : Option Nat) (dst : Option Nat) (os : List AO) (k : List AItem) (Q : AV → AHeap → Prop) : Option (AV × AHeap) → Prop
  | some (v, H) => RunOps C fn (putA T dst v) ds ro os k H Q
  | none => False
theorem rop_of {op : Op} {dst : Option Nat} {os : List AO} {z : Option (AV × AHeap)} (h : ∀ cl, opRun C cl ro.isSome T ds H op = withDs ds z) : RunOp C fn T ds ro op dst os k H Q = RunVH C fn T ds ro dst os k Q z := by
  unfold RunOp
  simp only [h]
  cases z with
  | none => simp [withDs, thenOps, RunVH]
  | some z => obtain ⟨v, H1⟩ := z; rfl
theorem runV_some {v : AV} {dst : Option Nat} {os : List AO} : RunV C fn T ds ro dst os k H Q (some v) = RunOps C fn (putA T dst v) ds ro os k H Q := rfl
theorem runVH_some {v : AV} {dst : Option Nat} {os : List AO} : RunVH C fn T ds ro dst os k Q (some (v, H)) = RunOps C fn (putA T dst v) ds ro os k H Q := rfl
theorem rop_inert {op : Op} {dst : Option Nat} {os : List AO} (h : inertOp op = true) : RunOp C fn T ds ro op dst os k H Q = RunV C fn T ds ro dst os k H Q (primP C T op) := by
  rw [rop_of (z := (primP C T op).map (·, H))]
  · cases primP C T op <;> rfl
  · intro cl
    unfold opRun
    split
    · simp [inertOp] at h
    · simp [inertOp] at h
    · simp only [prim, h, if_true]
      cases primP C T op <;> rfl
def primOp : Op → Bool
  | .call _ | .defer _ => false
  | _ => true
theorem rop_mem {op : Op} {dst : Option Nat} {os : List AO} (h : inertOp op = false) (h' : primOp op = true) : RunOp C fn T ds ro op dst os k H Q = RunVH C fn T ds ro dst os k Q (primM C T H op) := by
  rw [rop_of (z := primM C T H op)]
  · intro cl
    unfold opRun
    split
    · simp [primOp] at h'
    · simp [primOp] at h'
    · simp only [prim, h, Bool.false_eq_true, if_false]
      cases primM C T H _ with
      | none => rfl
      | some z => obtain ⟨v, H1⟩ := z; rfl
section
variable {dst : Option Nat} {os : List AO}
theorem rop_move {x : Operand} : RunOp C fn T ds ro (.move x) dst os k H Q = RunV C fn T ds ro dst os k H Q (ev T x) := rop_inert rfl
theorem rop_assign {x : Operand} : RunOp C fn T ds ro (.assign x) dst os k H Q = RunV C fn T ds ro dst os k H Q (ev T x) := rop_inert rfl
theorem rop_pick {c a b : Operand} : RunOp C fn T ds ro (.pick c a b) dst os k H Q = RunV C fn T ds ro dst os k H Q (primP C T (.pick c a b)) := rop_inert rfl
theorem rop_build {t : TypeId} {ps : Array (Nat × Operand)} : RunOp C fn T ds ro (.build t ps) dst os k H Q = RunV C fn T ds ro dst os k H Q (primP C T (.build t ps)) := rop_inert rfl
theorem rop_nilCheck {x : Operand} : RunOp C fn T ds ro (.nilCheck x) dst os k H Q = RunV C fn T ds ro dst os k H Q (primP C T (.nilCheck x)) := rop_inert rfl
theorem rop_binOp {op : BinOp} {t ty : TypeId} {x y : Operand} : RunOp C fn T ds ro (.binOp op t x y ty) dst os k H Q = RunV C fn T ds ro dst os k H Q (primP C T (.binOp op t x y ty)) := rop_inert rfl
theorem rop_unOp {op : UnOp} {t : TypeId} {x : Operand} : RunOp C fn T ds ro (.unOp op t x) dst os k H Q = RunV C fn T ds ro dst os k H Q (primP C T (.unOp op t x)) := rop_inert rfl
theorem rop_makeFunc {f : Fn} {a c : Array Operand} : RunOp C fn T ds ro (.makeFunc f a c) dst os k H Q = RunV C fn T ds ro dst os k H Q (primP C T (.makeFunc f a c)) := rop_inert rfl
theorem rop_slice {t : TypeId} {x : Operand} {lo hi mx : Option Operand} : RunOp C fn T ds ro (.slice t x lo hi mx) dst os k H Q = RunV C fn T ds ro dst os k H Q (primP C T (.slice t x lo hi mx)) := rop_inert rfl
theorem rop_fieldAddr {t : TypeId} {x : Operand} {f : Nat} : RunOp C fn T ds ro (.fieldAddr t x f) dst os k H Q = RunV C fn T ds ro dst os k H Q (primP C T (.fieldAddr t x f)) := rop_inert rfl
theorem rop_field {t : TypeId} {x : Operand} {f : Nat} : RunOp C fn T ds ro (.field t x f) dst os k H Q = RunV C fn T ds ro dst os k H Q (primP C T (.field t x f)) := rop_inert rfl
theorem rop_indexAddr {t : TypeId} {x y : Operand} : RunOp C fn T ds ro (.indexAddr t x y) dst os k H Q = RunV C fn T ds ro dst os k H Q (primP C T (.indexAddr t x y)) := rop_inert rfl
theorem rop_index {t : TypeId} {x y : Operand} : RunOp C fn T ds ro (.index t x y) dst os k H Q = RunV C fn T ds ro dst os k H Q (primP C T (.index t x y)) := rop_inert rfl
theorem rop_extract {x : Operand} {i : Nat} : RunOp C fn T ds ro (.extract x i) dst os k H Q = RunV C fn T ds ro dst os k H Q (primP C T (.extract x i)) := rop_inert rfl
theorem rop_alloc {t : TypeId} : RunOp C fn T ds ro (.alloc t) dst os k H Q = RunVH C fn T ds ro dst os k Q (primM C T H (.alloc t)) := rop_mem rfl rfl
theorem rop_box {t : TypeId} {x : Operand} : RunOp C fn T ds ro (.box t x) dst os k H Q = RunVH C fn T ds ro dst os k Q (primM C T H (.box t x)) := rop_mem rfl rfl
theorem rop_buildSlice {t : TypeId} {n : Nat} {ps : Array (Nat × Operand)} : RunOp C fn T ds ro (.buildSlice t n ps) dst os k H Q = RunVH C fn T ds ro dst os k Q (primM C T H (.buildSlice t n ps)) := rop_mem rfl rfl
theorem rop_load {t : TypeId} {x : Operand} : RunOp C fn T ds ro (.load t x) dst os k H Q = RunVH C fn T ds ro dst os k Q (primM C T H (.load t x)) := rop_mem rfl rfl
theorem rop_store {t : TypeId} {x y : Operand} : RunOp C fn T ds ro (.store t x y) dst os k H Q = RunVH C fn T ds ro dst os k Q (primM C T H (.store t x y)) := rop_mem rfl rfl
theorem rop_convert {s d : TypeId} {x : Operand} : RunOp C fn T ds ro (.convert s d x) dst os k H Q = RunVH C fn T ds ro dst os k Q (primM C T H (.convert s d x)) := rop_mem rfl rfl
theorem rop_makeSlice {t : TypeId} {x y : Operand} : RunOp C fn T ds ro (.makeSlice t x y) dst os k H Q = RunVH C fn T ds ro dst os k Q (primM C T H (.makeSlice t x y)) := rop_mem rfl rfl
theorem rop_builtin {b : Builtin} {args : Array Operand} {ts : Array TypeId} {vs : List AV} (h : evs T args.toList = some vs) : RunOp C fn T ds ro (.call { callee := .builtin b, args := args, argTypes := ts }) dst os k H Q = RunVH C fn T ds ro dst os k Q (builtinA C H b ts.toList vs) := by
  rw [rop_of (z := builtinA C H b ts.toList vs)]
  · intro cl
    simp only [opRun, opCall, h]
    cases builtinA C H b ts.toList vs with
    | none => rfl
    | some z => obtain ⟨v, H1⟩ := z; rfl
theorem rop_call {x : Operand} {args : Array Operand} {ts : Array TypeId} {vs first caps : List AV} {f : FuncId} (h : evs T args.toList = some vs) (hf : ev T x = some (.fn f first caps)) :
    RunOp C fn T ds ro (.call { callee := .value x, args := args, argTypes := ts }) dst os k H Q = RunCall C fn T ds ro f (first ++ vs ++ caps) dst os k H Q := by
  unfold RunOp RunCall
  have e : ∀ n, opRun C (cln C n) ro.isSome T ds H (.call { callee := .value x, args := args, argTypes := ts }) = withDs ds (callF C (cln C n) f (first ++ vs ++ caps) H) := fun n => by
    simp only [opRun, opCall, h, hf, callV]
    cases callF C (cln C n) f (first ++ vs ++ caps) H with
    | none => rfl
    | some z => obtain ⟨v, H1⟩ := z; rfl
  simp only [e]
end
def PCall (C : Ctx) (f : FuncId) (args : List AV) (r : AV) : Prop := ∃ n, pcall C n f args = some r
theorem pcall_le {n m : Nat} (h : n ≤ m) {f : FuncId} {args : List AV} {r : AV} (hp : pcall C n f args = some r) : pcall C m f args = some r := by
  unfold pcall at hp ⊢
  split at hp
  · rename_i r0 H' hc
    rw [show (clOf C m).call f args AHeap.empty = some (r0, H') from (cl_le h).call _ _ _ _ hc]
    exact hp
  · cases hp
theorem call_pure {f : FuncId} {args : List AV} {r : AV} {dst : Option Nat} {os : List AO} (hp : C.pure f = true) (hf : args.all AV.flat = true) (h : PCall C f args r) :
    RunCall C fn T ds ro f args dst os k H Q = RunOps C fn (putA T dst r) ds ro os k H Q := by
  obtain ⟨n0, h0⟩ := h
  have e : ∀ n, n0 ≤ n → callF C (cln C n) f args H = some (r, H) := fun n hn => by
    have hpc := pcall_le hn h0
    unfold pcall at hpc
    unfold callF
    rw [if_pos hp, if_pos hf]
    split at hpc
    · rename_i r0 H' hc
      rw [show (cln C n).call f args AHeap.empty = some (r0, H') from hc]
      simp only [hpc, Option.map_some]
    · cases hpc
  unfold RunCall RunOps
  apply propext
  constructor
  · rintro ⟨n, r', H', he, hq⟩
    refine ⟨max n0 n, r', H', ?_, hq⟩
    have he' := thenOps_le (Nat.le_max_right n0 n) (z' := withDs ds (callF C (cln C (max n0 n)) f args H)) (fun y hy => by
      cases hc : callF C (cln C n) f args H with
      | none => rw [hc] at hy; cases hy
      | some z => rw [hc] at hy; rw [callF_le (cl_le (Nat.le_max_right n0 n)) hc]; exact hy) he
    rw [e _ (Nat.le_max_left n0 n)] at he'
    exact he'
  · rintro ⟨n, r', H', he, hq⟩
    refine ⟨max n0 n, r', H', ?_, hq⟩
    rw [e _ (Nat.le_max_left n0 n)]
    exact thenRun_ops_le (Nat.le_max_right n0 n) he
theorem call_frozen {f : FuncId} {args args' : List AV} {r : AV} {dst : Option Nat} {os : List AO} (hp : C.pure f = true) (hf : args.all AV.flat = false) (hz : mapO (freeze H) args = some args') (hs : r.solid = true) (h : PCall C f args' r) :
    RunCall C fn T ds ro f args dst os k H Q = RunOps C fn (putA T dst r) ds ro os k H Q := by
  obtain ⟨n0, h0⟩ := h
  have e : ∀ n, n0 ≤ n → callF C (cln C n) f args H = some (r, H) := fun n hn => by
    have hpc := pcall_le hn h0
    unfold pcall at hpc
    unfold callF
    rw [if_pos hp, if_neg (by simp [hf])]
    simp only [hz]
    split at hpc
    · rename_i r0 H' hc
      rw [show (cln C n).call f args' AHeap.empty = some (r0, H') from hc]
      simp only [hpc, hs, if_true]
    · cases hpc
  unfold RunCall RunOps
  apply propext
  constructor
  · rintro ⟨n, r', H', he, hq⟩
    refine ⟨max n0 n, r', H', ?_, hq⟩
    have he' := thenOps_le (Nat.le_max_right n0 n) (z' := withDs ds (callF C (cln C (max n0 n)) f args H)) (fun y hy => by
      cases hc : callF C (cln C n) f args H with
      | none => rw [hc] at hy; cases hy
      | some z => rw [hc] at hy; rw [callF_le (cl_le (Nat.le_max_right n0 n)) hc]; exact hy) he
    rw [e _ (Nat.le_max_left n0 n)] at he'
    exact he'
  · rintro ⟨n, r', H', he, hq⟩
    refine ⟨max n0 n, r', H', ?_, hq⟩
    rw [e _ (Nat.le_max_left n0 n)]
    exact thenRun_ops_le (Nat.le_max_right n0 n) he
def PMade (C : Ctx) (f : FuncId) (args : List AV) (r : AV) : Prop := ∃ n r0 H' r1, (clOf C n).call f args AHeap.empty = some (r0, H') ∧ freeze H' r0 = some r1 ∧ (if r1.solid then some r1 else madeT H' r0) = some r
theorem call_made {f : FuncId} {args args' : List AV} {r : AV} {dst : Option Nat} {os : List AO} (hp : C.pure f = true) (hf : args.all AV.flat = false) (hz : mapO (freeze H) args = some args') (h : PMade C f args' r) :
    RunCall C fn T ds ro f args dst os k H Q = RunOps C fn (putA T dst r) ds ro os k H Q := by
  obtain ⟨n0, r0, H0, r1, h0, hfz, hr⟩ := h
  have e : ∀ n, n0 ≤ n → callF C (cln C n) f args H = some (r, H) := fun n hn => by
    have hc := (cl_le hn).call _ _ _ _ h0
    unfold callF
    rw [if_pos hp, if_neg (by simp [hf])]
    simp only [hz]
    rw [show (cln C n).call f args' AHeap.empty = some (r0, H0) from hc]
    simp only [hfz]
    split
    · rename_i hs
      rw [if_pos hs] at hr
      cases hr; rfl
    · rename_i hs
      rw [if_neg hs] at hr
      rw [hr]; rfl
  unfold RunCall RunOps
  apply propext
  constructor
  · rintro ⟨n, r', H', he, hq⟩
    refine ⟨max n0 n, r', H', ?_, hq⟩
    have he' := thenOps_le (Nat.le_max_right n0 n) (z' := withDs ds (callF C (cln C (max n0 n)) f args H)) (fun y hy => by
      cases hc : callF C (cln C n) f args H with
      | none => rw [hc] at hy; cases hy
      | some z => rw [hc] at hy; rw [callF_le (cl_le (Nat.le_max_right n0 n)) hc]; exact hy) he
    rw [e _ (Nat.le_max_left n0 n)] at he'
    exact he'
  · rintro ⟨n, r', H', he, hq⟩
    refine ⟨max n0 n, r', H', ?_, hq⟩
    rw [e _ (Nat.le_max_left n0 n)]
    exact thenRun_ops_le (Nat.le_max_right n0 n) he
theorem call_body {f : FuncId} {args : List AV} {body : AC} {dst : Option Nat} {os : List AO} (hp : C.pure f = false) (hx : C.ext f = none) (hb : bodyOf C f = some body) (h : Run C f (enterT args) [] none [.code body] H (fun r H1 => RunOps C fn (putA T dst r) ds ro os k H1 Q)) :
    RunCall C fn T ds ro f args dst os k H Q := by
  obtain ⟨n, r, H1, he, m, r', H', he', hq⟩ := h
  refine ⟨max n m, r', H', ?_, hq⟩
  unfold bodyOf at hb
  simp only [Option.map_eq_some_iff] at hb
  obtain ⟨fi, hfi, rfl⟩ := hb
  have hc : callF C (cln C (max n m)) f args H = some (r, H1) := by
    unfold callF
    rw [if_neg (by simp [hp])]
    show (clMk C (exec C (max n m))).call f args H = _
    simp only [clMk, hx, hfi]
    exact exec_le (Nat.le_max_left n m) _ _ _ _ he
  rw [hc]
  exact thenRun_ops_le (Nat.le_max_right n m) he'
theorem pcall_run {f : FuncId} {args : List AV} {body : AC} {r : AV} (hx : C.ext f = none) (hb : bodyOf C f = some body) (h : Run C f (enterT args) [] none [.code body] AHeap.empty (fun r0 H' => freeze H' r0 = some r)) : PCall C f args r := by
  obtain ⟨n, r0, H', he, hq⟩ := h
  unfold bodyOf at hb
  simp only [Option.map_eq_some_iff] at hb
  obtain ⟨fi, hfi, rfl⟩ := hb
  refine ⟨n, ?_⟩
  unfold pcall
  have hc : (clOf C n).call f args AHeap.empty = some (r0, H') := by
    show (clMk C (exec C n)).call f args AHeap.empty = _
    simp only [clMk, hx, hfi]
    exact he
  rw [hc]
  exact hq
theorem Run.mono {items : List AItem} {Q' : AV → AHeap → Prop} (h : Run C fn T ds ro items H Q) (hq : ∀ r H', Q r H' → Q' r H') : Run C fn T ds ro items H Q' := by
  obtain ⟨n, r, H', he, hq'⟩ := h
  exact ⟨n, r, H', he, hq _ _ hq'⟩
section
variable {dst : Option Nat} {os : List AO} {a b : AC}
def RunCond (C : Ctx) (fn : FuncId) (T : Nat → AV) (ds : List ADef) (ro : Option Nat) (c : Operand) (v : Option AV) (a b : AC) (k : List AItem) (H : AHeap) (Q : AV → AHeap → Prop) : Prop :=
  match v with
  | some (.bool t) => if t = true then Run C fn T ds ro (.code a :: k) H Q else Run C fn T ds ro (.code b :: k) H Q
  | _ => Run C fn T ds ro (.code (.cond c a b) :: k) H Q
theorem run_condC {c : Operand} : Run C fn T ds ro (.code (.cond c a b) :: k) H Q = RunCond C fn T ds ro c (ev T c) a b k H Q := by
  unfold RunCond
  split
  · rename_i t ht; exact run_cond ht
  · rfl
theorem runCond_bool {c : Operand} {t : Bool} : RunCond C fn T ds ro c (some (.bool t)) a b k H Q = if t = true then Run C fn T ds ro (.code a :: k) H Q else Run C fn T ds ro (.code b :: k) H Q := rfl
def RunGuard (C : Ctx) (fn : FuncId) (T : Nat → AV) (ds : List ADef) (ro : Option Nat) (v : AV) (o : AO) (want : Bool) (os : List AO) (k : List AItem) (H : AHeap) (Q : AV → AHeap → Prop) : Prop :=
  match v with
  | .bool t => if t = want then RunOp C fn T ds ro o.op o.dst os k H Q else RunOps C fn (putA T o.dst .undef) ds ro os k H Q
  | .undef => RunOps C fn (putA T o.dst .undef) ds ro os k H Q
  | _ => RunOps C fn T ds ro (o :: os) k H Q
theorem ro_guardC {op : Op} {ty : TypeId} {j : Nat} {want : Bool} : RunOps C fn T ds ro ({ dst := dst, op := op, ty := ty, guard := some (j, want) } :: os) k H Q = RunGuard C fn T ds ro (T j) { dst := dst, op := op, ty := ty, guard := some (j, want) } want os k H Q := by
  unfold RunGuard
  split
  · rename_i t ht; exact ro_guard ht
  · rename_i h
    unfold RunOps
    have e : ∀ n, thenRun C fn ro k n (runOps C (cln C n) ro.isSome ({ dst := dst, op := op, ty := ty, guard := some (j, want) } :: os) T ds H) = thenRun C fn ro k n (runOps C (cln C n) ro.isSome os (putA T dst .undef) ds H) := fun n => by
      simp only [runOps, opRes, wantedA, h]
    simp only [e]
  · rfl
theorem runGuard_bool {op : Op} {ty : TypeId} {g : Option (Nat × Bool)} {want t : Bool} : RunGuard C fn T ds ro (.bool t) { dst := dst, op := op, ty := ty, guard := g } want os k H Q = if t = want then RunOp C fn T ds ro op dst os k H Q else RunOps C fn (putA T dst .undef) ds ro os k H Q := rfl
theorem runGuard_undef {op : Op} {ty : TypeId} {g : Option (Nat × Bool)} {want : Bool} : RunGuard C fn T ds ro .undef { dst := dst, op := op, ty := ty, guard := g } want os k H Q = RunOps C fn (putA T dst .undef) ds ro os k H Q := rfl
def RunB (C : Ctx) (fn : FuncId) (T : Nat → AV) (ds : List ADef) (ro : Option Nat) (b : Builtin) (ts : List TypeId) (op : Op) (dst : Option Nat) (os : List AO) (k : List AItem) (H : AHeap) (Q : AV → AHeap → Prop) : Option (List AV) → Prop
  | some vs => RunVH C fn T ds ro dst os k Q (builtinA C H b ts vs)
  | none => RunOp C fn T ds ro op dst os k H Q
theorem rop_builtinC {b : Builtin} {args : Array Operand} {ts : Array TypeId} : RunOp C fn T ds ro (.call { callee := .builtin b, args := args, argTypes := ts }) dst os k H Q = RunB C fn T ds ro b ts.toList (.call { callee := .builtin b, args := args, argTypes := ts }) dst os k H Q (evs T args.toList) := by
  cases h : evs T args.toList with
  | none => rfl
  | some vs => exact rop_builtin h
theorem runB_some {b : Builtin} {ts : List TypeId} {op : Op} {vs : List AV} : RunB C fn T ds ro b ts op dst os k H Q (some vs) = RunVH C fn T ds ro dst os k Q (builtinA C H b ts vs) := rfl
def RunA (C : Ctx) (fn : FuncId) (T : Nat → AV) (ds : List ADef) (ro : Option Nat) (op : Op) (dst : Option Nat) (os : List AO) (k : List AItem) (H : AHeap) (Q : AV → AHeap → Prop) : Option AV → Option (List AV) → Prop
  | some (.fn f first caps), some vs => RunCall C fn T ds ro f (first ++ vs ++ caps) dst os k H Q
  | _, _ => RunOp C fn T ds ro op dst os k H Q
theorem rop_callC {x : Operand} {args : Array Operand} {ts : Array TypeId} : RunOp C fn T ds ro (.call { callee := .value x, args := args, argTypes := ts }) dst os k H Q = RunA C fn T ds ro (.call { callee := .value x, args := args, argTypes := ts }) dst os k H Q (ev T x) (evs T args.toList) := by
  unfold RunA
  split
  · rename_i f first caps vs h1 h2; exact rop_call h2 h1
  · rfl
theorem runA_fn {op : Op} {f : FuncId} {first caps vs : List AV} : RunA C fn T ds ro op dst os k H Q (some (.fn f first caps)) (some vs) = RunCall C fn T ds ro f (first ++ vs ++ caps) dst os k H Q := rfl
end
section
variable {dst : Option Nat} {os : List AO} {cs : List (List Nat)}
def chkOps (T : Nat → AV) (op : Op) (c : List Nat) : Bool := c.all fun t => match adT op with
  | some t' => apartA (T t) (T t')
  | none => false
def DynOp (C : Ctx) (ro : Option Nat) (op : Op) (dst : Option Nat) (os : List AO) (cs : List (List Nat)) (T : Nat → AV) (ds : List ADef) (H : AHeap) : Prop :=
  ∃ n, (match opRun C (cln C n) ro.isSome T ds H op with
    | some (v, ds', H') => dynA C (cln C n) ro.isSome os cs (putA T dst v) ds' H'
    | none => false) = true
def DynV (C : Ctx) (ro : Option Nat) (dst : Option Nat) (os : List AO) (cs : List (List Nat)) (T : Nat → AV) (ds : List ADef) : Option (AV × AHeap) → Prop
  | some (v, H) => Dyn C ro os cs (putA T dst v) ds H
  | none => False
theorem dyn_nil : Dyn C ro os [] T ds H = True := by
  apply propext
  exact ⟨fun _ => trivial, fun _ => ⟨0, by cases os <;> rfl⟩⟩
theorem dyn_end {c : List Nat} : Dyn C ro [] (c :: cs) T ds H = True := by
  apply propext
  exact ⟨fun _ => trivial, fun _ => ⟨0, rfl⟩⟩
theorem dyn_cons {op : Op} {ty : TypeId} {c : List Nat} : Dyn C ro ({ dst := dst, op := op, ty := ty, guard := none } :: os) (c :: cs) T ds H = (chkOps T op c = true ∧ DynOp C ro op dst os cs T ds H) := by
  apply propext
  unfold Dyn DynOp chkOps
  simp only [dynA, opRes, wantedA, Bool.and_eq_true]
  constructor
  · rintro ⟨n, h1, h2⟩
    refine ⟨h1, n, ?_⟩
    cases ho : opRun C (cln C n) ro.isSome T ds H op with
    | none => rw [ho] at h2; exact h2
    | some x => obtain ⟨v, ds', H'⟩ := x; rw [ho] at h2; exact h2
  · rintro ⟨h1, n, h2⟩
    refine ⟨n, h1, ?_⟩
    cases ho : opRun C (cln C n) ro.isSome T ds H op with
    | none => rw [ho] at h2; exact h2
    | some x => obtain ⟨v, ds', H'⟩ := x; rw [ho] at h2; exact h2
theorem dop_of {op : Op} {z : Option (AV × AHeap)} (h : ∀ cl, opRun C cl ro.isSome T ds H op = withDs ds z) : DynOp C ro op dst os cs T ds H = DynV C ro dst os cs T ds z := by
  unfold DynOp
  simp only [h]
  cases z with
  | none => simp [withDs, DynV]
  | some z => obtain ⟨v, H1⟩ := z; rfl
theorem dop_inert {op : Op} (h : inertOp op = true) : DynOp C ro op dst os cs T ds H = DynV C ro dst os cs T ds ((primP C T op).map (·, H)) := by
  refine dop_of fun cl => ?_
  unfold opRun
  split
  · simp [inertOp] at h
  · simp [inertOp] at h
  · simp only [prim, h, if_true]
    cases primP C T op <;> rfl
theorem dop_mem {op : Op} (h : inertOp op = false) (h' : primOp op = true) : DynOp C ro op dst os cs T ds H = DynV C ro dst os cs T ds (primM C T H op) := by
  refine dop_of fun cl => ?_
  unfold opRun
  split
  · simp [primOp] at h'
  · simp [primOp] at h'
  · simp only [prim, h, Bool.false_eq_true, if_false]
    cases primM C T H _ with
    | none => rfl
    | some z => obtain ⟨v, H1⟩ := z; rfl
theorem dop_move {x : Operand} : DynOp C ro (.move x) dst os cs T ds H = DynV C ro dst os cs T ds ((primP C T (.move x)).map (·, H)) := dop_inert rfl
theorem dop_assign {x : Operand} : DynOp C ro (.assign x) dst os cs T ds H = DynV C ro dst os cs T ds ((primP C T (.assign x)).map (·, H)) := dop_inert rfl
theorem dop_build {t : TypeId} {ps : Array (Nat × Operand)} : DynOp C ro (.build t ps) dst os cs T ds H = DynV C ro dst os cs T ds ((primP C T (.build t ps)).map (·, H)) := dop_inert rfl
theorem dop_nilCheck {x : Operand} : DynOp C ro (.nilCheck x) dst os cs T ds H = DynV C ro dst os cs T ds ((primP C T (.nilCheck x)).map (·, H)) := dop_inert rfl
theorem dop_fieldAddr {t : TypeId} {x : Operand} {f : Nat} : DynOp C ro (.fieldAddr t x f) dst os cs T ds H = DynV C ro dst os cs T ds ((primP C T (.fieldAddr t x f)).map (·, H)) := dop_inert rfl
theorem dop_field {t : TypeId} {x : Operand} {f : Nat} : DynOp C ro (.field t x f) dst os cs T ds H = DynV C ro dst os cs T ds ((primP C T (.field t x f)).map (·, H)) := dop_inert rfl
theorem dop_indexAddr {t : TypeId} {x y : Operand} : DynOp C ro (.indexAddr t x y) dst os cs T ds H = DynV C ro dst os cs T ds ((primP C T (.indexAddr t x y)).map (·, H)) := dop_inert rfl
theorem dop_binOp {o : BinOp} {t : TypeId} {x y : Operand} {ty : TypeId} : DynOp C ro (.binOp o t x y ty) dst os cs T ds H = DynV C ro dst os cs T ds ((primP C T (.binOp o t x y ty)).map (·, H)) := dop_inert rfl
theorem dop_extract {x : Operand} {i : Nat} : DynOp C ro (.extract x i) dst os cs T ds H = DynV C ro dst os cs T ds ((primP C T (.extract x i)).map (·, H)) := dop_inert rfl
theorem dop_load {t : TypeId} {x : Operand} : DynOp C ro (.load t x) dst os cs T ds H = DynV C ro dst os cs T ds (primM C T H (.load t x)) := dop_mem rfl rfl
theorem dop_store {t : TypeId} {x y : Operand} : DynOp C ro (.store t x y) dst os cs T ds H = DynV C ro dst os cs T ds (primM C T H (.store t x y)) := dop_mem rfl rfl
theorem dop_alloc {t : TypeId} : DynOp C ro (.alloc t) dst os cs T ds H = DynV C ro dst os cs T ds (primM C T H (.alloc t)) := dop_mem rfl rfl
theorem dop_box {t : TypeId} {x : Operand} : DynOp C ro (.box t x) dst os cs T ds H = DynV C ro dst os cs T ds (primM C T H (.box t x)) := dop_mem rfl rfl
theorem dop_buildSlice {t : TypeId} {n : Nat} {ps : Array (Nat × Operand)} : DynOp C ro (.buildSlice t n ps) dst os cs T ds H = DynV C ro dst os cs T ds (primM C T H (.buildSlice t n ps)) := dop_mem rfl rfl
theorem dynV_some {v : AV} : DynV C ro dst os cs T ds (some (v, H)) = Dyn C ro os cs (putA T dst v) ds H := rfl
theorem chk_nil {op : Op} : chkOps T op [] = true := rfl
theorem chk_cons {op : Op} {t : Nat} {c : List Nat} : chkOps T op (t :: c) = ((match adT op with
  | some t' => apartA (T t) (T t')
  | none => false) && chkOps T op c) := rfl
theorem apart_ptr {b b' k k' i i' j j' : Nat} : apartA (.ptr b k i j) (.ptr b' k' i' j') = (b != b') := rfl
end
end Go.BX

namespace Go.BX
section
variable (C : Ctx) (f : FuncId)
abbrev SeqR (c a b : AC) : Prop := ∀ {T : Nat → AV} {ds : List ADef} {ro : Option Nat} {k : List AItem} {H : AHeap} {Q : AV → AHeap → Prop}, Run C f T ds ro (.code c :: k) H Q = Run C f T ds ro (.code a :: .code b :: k) H Q
abbrev SkipR (c : AC) : Prop := ∀ {T : Nat → AV} {ds : List ADef} {ro : Option Nat} {k : List AItem} {H : AHeap} {Q : AV → AHeap → Prop}, Run C f T ds ro (.code c :: k) H Q = Run C f T ds ro k H Q
abbrev RegR (c : AC) (o : List AO) : Prop := ∀ {T : Nat → AV} {ds : List ADef} {ro : Option Nat} {k : List AItem} {H : AHeap} {Q : AV → AHeap → Prop}, Run C f T ds ro (.code c :: k) H Q = RunOps C f T ds ro o k H Q
abbrev RegD (c : AC) (o : List AO) (l : List (List Nat)) : Prop := ∀ {T : Nat → AV} {ds : List ADef} {ro : Option Nat} {k : List AItem} {H : AHeap} {Q : AV → AHeap → Prop}, Run C f T ds ro (.code c :: k) H Q = (Dyn C ro o l T ds H ∧ RunOps C f T ds ro o k H Q)
abbrev CondR (c : AC) (e : Operand) (a b : AC) : Prop := ∀ {T : Nat → AV} {ds : List ADef} {ro : Option Nat} {k : List AItem} {H : AHeap} {Q : AV → AHeap → Prop}, Run C f T ds ro (.code c :: k) H Q = RunCond C f T ds ro e (ev T e) a b k H Q
abbrev BlkR (c : AC) (i : Nat) (a : AC) : Prop := ∀ {T : Nat → AV} {ds : List ADef} {ro : Option Nat} {k : List AItem} {H : AHeap} {Q : AV → AHeap → Prop}, Run C f T ds ro (.code c :: k) H Q = Run C f T ds ro (.code a :: .inBlock i :: k) H Q
abbrev LoopR (c a : AC) : Prop := ∀ {T : Nat → AV} {ds : List ADef} {ro : Option Nat} {k : List AItem} {H : AHeap} {Q : AV → AHeap → Prop}, Run C f T ds ro (.code c :: k) H Q = Run C f T ds ro (.inLoop a :: k) H Q
abbrev ScopeR (c a : AC) : Prop := ∀ {T : Nat → AV} {ds : List ADef} {ro : Option Nat} {k : List AItem} {H : AHeap} {Q : AV → AHeap → Prop}, Run C f T ds ro (.code c :: k) H Q = Run C f T ds ro (.code a :: .inScope a :: k) H Q
abbrev ExitR (c : AC) (i : Nat) : Prop := ∀ {T : Nat → AV} {ds : List ADef} {ro : Option Nat} {k : List AItem} {H : AHeap} {Q : AV → AHeap → Prop}, Run C f T ds ro (.code c :: k) H Q = RunExit C f T ds ro i k k H Q
abbrev RetR (c : AC) : Prop := ∀ {T : Nat → AV} {k : List AItem} {H : AHeap} {Q : AV → AHeap → Prop}, Run C f T [] none (.code c :: k) H Q = RunRes C T H Q (resOf C f)
end
abbrev oA (d : Nat) (op : Op) (ty : TypeId) : AO := { dst := some d, op := op, ty := ty, guard := none }
abbrev oN (op : Op) (ty : TypeId) : AO := { dst := none, op := op, ty := ty, guard := none }
abbrev oG (d : Nat) (op : Op) (ty : TypeId) (j : Nat) (w : Bool) : AO := { dst := some d, op := op, ty := ty, guard := some (j, w) }
abbrev cF (f : FuncId) (a : Array Operand) (t : Array TypeId) : Op := .call { callee := .value (.func f), args := a, argTypes := t }
abbrev cV (x : Nat) (a : Array Operand) (t : Array TypeId) : Op := .call { callee := .value (.tmp x), args := a, argTypes := t }
abbrev cB (b : Builtin) (a : Array Operand) (t : Array TypeId) : Op := .call { callee := .builtin b, args := a, argTypes := t }
abbrev tm (n : Nat) : Operand := .tmp n
abbrev ci (n : Int) : Operand := .const (.int .i64 n)
end Go.BX

namespace Go.BX
set_option linter.unusedSimpArgs false
variable {C : Ctx} {H : AHeap} {T : Nat → AV}
theorem freeze_int {k : IntKind} {n : Int} : freeze H (.int k n) = some (.int k n) := rfl
theorem freeze_bool {b : Bool} : freeze H (.bool b) = some (.bool b) := rfl
theorem freeze_str {b : Bytes} : freeze H (.str b) = some (.str b) := rfl
theorem freeze_flt {n : Int} : freeze H (.flt n) = some (.flt n) := rfl
theorem freeze_cpx {n m : Int} : freeze H (.cpx n m) = some (.cpx n m) := rfl
theorem freeze_nilS : freeze H .nilS = some .nilS := rfl
theorem freeze_vec {k : Nat} {es : List (List AV)} : freeze H (.vec k es) = some (.vec k es) := rfl
theorem freeze_agg {cs : List AV} : freeze H (.agg cs) = (mapO (freeze1 H 4) cs).map .agg := rfl
theorem freeze_tuple {vs : List AV} : freeze H (.tuple vs) = (mapO (freeze2 H) vs).map .tuple := rfl
theorem freeze2_int {k : IntKind} {n : Int} : freeze2 H (.int k n) = some (.int k n) := rfl
theorem freeze2_bool {b : Bool} : freeze2 H (.bool b) = some (.bool b) := rfl
theorem freeze2_flt {n : Int} : freeze2 H (.flt n) = some (.flt n) := rfl
theorem freeze2_cpx {n m : Int} : freeze2 H (.cpx n m) = some (.cpx n m) := rfl
theorem freeze2_nilS : freeze2 H .nilS = some .nilS := rfl
theorem freeze2_vec {k : Nat} {es : List (List AV)} : freeze2 H (.vec k es) = some (.vec k es) := rfl
theorem freeze2_agg {cs : List AV} : freeze2 H (.agg cs) = (mapO (freeze1 H 4) cs).map .agg := rfl
theorem freeze1_int {d : Nat} {k : IntKind} {n : Int} : freeze1 H d (.int k n) = some (.int k n) := by cases d <;> rfl
theorem freeze1_bool {d : Nat} {b : Bool} : freeze1 H d (.bool b) = some (.bool b) := by cases d <;> rfl
theorem freeze1_str {d : Nat} {b : Bytes} : freeze1 H d (.str b) = some (.str b) := by cases d <;> rfl
theorem freeze1_nilS {d : Nat} : freeze1 H d .nilS = some .nilS := by cases d <;> rfl
theorem freeze1_vec {d k : Nat} {es : List (List AV)} : freeze1 H d (.vec k es) = some (.vec k es) := by cases d <;> rfl
theorem mapO_nil {α β : Type} {f : α → Option β} : mapO f [] = some [] := rfl
def consO {β : Type} : Option β → Option (List β) → Option (List β)
  | some y, some ys => some (y :: ys)
  | _, _ => none
theorem mapO_cons {α β : Type} {f : α → Option β} {x : α} {xs : List α} : mapO f (x :: xs) = consO (f x) (mapO f xs) := rfl
theorem consO_some {β : Type} {y : β} {ys : List β} : consO (some y) (some ys) = some (y :: ys) := rfl
def frzE (H : AHeap) (d k : Nat) : Option (List (List AV)) → Option AV
  | some es => (mapO (mapO (freeze1 H d)) es).map (.vec k)
  | none => none
theorem freeze1_slc {d b k i n : Nat} : freeze1 H (d + 1) (.slc b k i n) = frzE H d k (elems H k (.slc b k i n)) := by
  show (match elems H k (.slc b k i n) with | some es => (mapO (mapO (freeze1 H d)) es).map (AV.vec k) | none => none) = _
  cases elems H k (.slc b k i n) <;> rfl
theorem freeze_slc {b k i n : Nat} : freeze H (.slc b k i n) = frzE H 3 k (elems H k (.slc b k i n)) := freeze1_slc
theorem freeze2_slc {b k i n : Nat} : freeze2 H (.slc b k i n) = frzE H 3 k (elems H k (.slc b k i n)) := freeze1_slc
theorem frzE_some {d k : Nat} {es : List (List AV)} : frzE H d k (some es) = (mapO (mapO (freeze1 H d)) es).map (.vec k) := rfl
theorem freeze1_emp {d : Nat} : freeze1 H d .emp = some .emp := by cases d <;> rfl
theorem freeze_emp : freeze H .emp = some .emp := rfl
theorem freeze2_emp : freeze2 H .emp = some .emp := rfl
theorem fltOf_0 : fltOf 0 = some 0 := by decide +kernel
theorem freeze1_flat {d : Nat} {v : AV} (h : v.flat1 = true) : freeze1 H d v = some v := by
  cases v <;> cases d <;> first | (simp [AV.flat1] at h; done) | rfl
theorem mapO_all {f : AV → Option AV} {p : AV → Bool} (hf : ∀ v, p v = true → f v = some v) : ∀ {l : List AV}, l.all p = true → mapO f l = some l
  | [], _ => rfl
  | x :: xs, h => by
    simp only [List.all_cons, Bool.and_eq_true] at h
    rw [mapO_cons, hf x h.1, mapO_all hf h.2]; rfl
theorem freeze2_flat {v : AV} (h : v.flat2 = true) : freeze2 H v = some v := by
  cases v with
  | agg cs => rw [freeze2_agg, mapO_all (p := AV.flat1) (fun v hv => freeze1_flat hv) h]; rfl
  | fn f first caps => show (if _ then _ else _) = _; rw [if_pos h]
  | _ => refine Eq.trans (b := freeze1 H 4 _) rfl (freeze1_flat h)
theorem freeze_flat {v : AV} (h : v.flat = true) : freeze H v = some v := by
  cases v with
  | tuple vs => rw [freeze_tuple, mapO_all (p := AV.flat2) (fun v hv => freeze2_flat hv) h]; rfl
  | _ => refine Eq.trans (b := freeze2 H _) rfl (freeze2_flat h)
theorem call_any {fn : FuncId} {ds : List ADef} {ro : Option Nat} {k : List AItem} {Q : AV → AHeap → Prop} {f : FuncId} {args args' : List AV} {r : AV} {dst : Option Nat} {os : List AO} (hp : C.pure f = true) (hs : r.solid = true) (h : PCall C f args' r) (hz : mapO (freeze H) args = some args') :
    RunCall C fn T ds ro f args dst os k H Q = RunOps C fn (putA T dst r) ds ro os k H Q := by
  cases hf : args.all AV.flat with
  | false => exact call_frozen hp hf hz hs h
  | true =>
    rw [mapO_all (p := AV.flat) (fun v hv => freeze_flat hv) hf] at hz
    cases hz
    exact call_pure hp hf h
end Go.BX

namespace Go.BX
set_option linter.unusedVariables false
set_option linter.unusedSimpArgs false
def cmpL : Bytes → Bytes → Int
  | [], [] => 0
  | [], _ :: _ => -1
  | _ :: _, [] => 1
  | x :: xs, y :: ys => if x = y then cmpL xs ys else if x < y then -1 else 1
theorem find_range_succ (p : Nat → Bool) (n : Nat) : (List.range (n + 1)).find? p = if p 0 then some 0 else ((List.range n).find? fun i => p (i + 1)).map (· + 1) := by
  rw [List.range_succ_eq_map, List.find?_cons]
  cases h : p 0 with
  | true => simp
  | false => simp [List.find?_map, Function.comp_def]
theorem get_bytes (s : ByteArray) (i : Nat) : s[i]! = (s.data.toList)[i]?.getD default := by
  rw [getElem!_def]
  by_cases h : i < s.size
  · have h1 : s[i]? = some s[i] := getElem?_pos s i h
    rw [h1]
    have h2 : i < s.data.toList.length := by simpa using h
    rw [List.getElem?_eq_getElem h2]
    rfl
  · have h1 : s[i]? = none := getElem?_neg s i h
    rw [h1, List.getElem?_eq_none (by simpa using h)]
    rfl
def cmpR (a b : Bytes) : Int :=
  match (List.range (min a.length b.length)).find? fun i => a[i]?.getD default != b[i]?.getD default with
  | some i => if a[i]?.getD default < b[i]?.getD default then -1 else 1
  | none => if a.length < b.length then -1 else if a.length > b.length then 1 else 0
theorem cmpR_eq : ∀ a b, cmpR a b = cmpL a b
  | [], [] => rfl
  | [], y :: ys => by simp [cmpR, cmpL]
  | x :: xs, [] => by simp [cmpR, cmpL]
  | x :: xs, y :: ys => by
    have ih := cmpR_eq xs ys
    unfold cmpR cmpL
    simp only [List.length_cons, Nat.succ_min_succ, find_range_succ, List.getElem?_cons_zero, Option.getD_some, List.getElem?_cons_succ]
    by_cases hxy : x = y
    · subst hxy
      simp only [bne_self_eq_false, Bool.false_eq_true, if_false, if_true]
      rw [← ih]
      unfold cmpR
      cases (List.range (min xs.length ys.length)).find? fun i => xs[i]?.getD default != ys[i]?.getD default with
      | none => simp
      | some i => simp
    · have : (x != y) = true := by simpa using hxy
      simp only [this, if_true, hxy, if_false, List.getElem?_cons_zero, Option.getD_some]
theorem cmp_ext (a b : ByteArray) : Extern.BytealgCompare.cmp a b = cmpL a.data.toList b.data.toList := by
  rw [← cmpR_eq]
  unfold Extern.BytealgCompare.cmp cmpR
  simp only [get_bytes]
  have h1 : a.data.toList.length = a.size := rfl
  have h2 : b.data.toList.length = b.size := rfl
  rw [h1, h2]
  cases (List.range (min a.size b.size)).find? fun i => a.data.toList[i]?.getD default != b.data.toList[i]?.getD default <;> rfl
def cmpG : List AV → AHeap → Option (AV × AHeap)
  | [.str a, .str b], H => some (.int .i64 (cmpL a b), H)
  | _, _ => none
variable {C : Ctx} {w : World} {U : Nat → Prop} {ι : Nat → Option Nat}
structure IsExt (P : Program) (f : FuncId) (fn : Func) (e : Array Value → Sem Value) : Prop where
  hf : P.funcs[f]? = some fn
  hname : (fn.name == "runtime.NumGoroutine") = false
  hb : fn.body.isNone = true
  hn : Extern.findNext fn = none
  he : Extern.find fn = some e
theorem inv_ext {f : FuncId} {fn : Func} {e : Array Value → Sem Value} (h : IsExt C.P f fn e) {H : AHeap} (hH : HRel C w U ι H) {vs : List Value} {v : Value} {r : AV} (hr : (e vs.toArray).run C.P w = .ok v w) (hv : VRel w U ι r v) :
    InvN C.P f vs w (Post C w U ι H H r) := by
  refine .inl ⟨v, w, ?_, U, ι, ⟨Ext.refl _ _ _, hH, hv⟩, Fresh.refl _ _⟩
  rw [run_callFunc_extern h.hf h.hname h.hb h.hn h.he, hr]
  rfl
theorem cmp_sound {f : FuncId} {fn : Func} (h : IsExt C.P f fn Extern.BytealgCompare.compare) {args : List AV} {H H' : AHeap} {r : AV} (hg : cmpG args H = some (r, H')) (hH : HRel C w U ι H) {vs : List Value} (ha : LsRel w U ι args vs) :
    InvN C.P f vs w (Post C w U ι H H' r) := by
  unfold cmpG at hg
  split at hg
  · rename_i H0 a b
    cases hg
    obtain ⟨v1, vs1, rfl, h1, ha1⟩ := ha.cases_cons
    obtain ⟨v2, vs2, rfl, h2, ha2⟩ := ha1.cases_cons
    obtain rfl := ha2.cases_nil
    cases h1 with
    | str _ s1 e1 =>
      cases h2 with
      | str _ s2 e2 =>
        refine inv_ext h hH (v := .int .i64 (cmpL a b)) ?_ (.int _ _)
        show Sem.run C.P (do pure (goInt (Extern.BytealgCompare.cmp (← Extern.Bytes.bytesOf (.string s1)) (← Extern.Bytes.bytesOf (.string s2))))) w = _
        simp only [Extern.Bytes.bytesOf, Sem.run_bind, Sem.run_pure, Result.andThen, cmp_ext, e1, e2, goInt]
  · cases hg
theorem cmpG_mono {args : List AV} {H H' : AHeap} {r : AV} (h : cmpG args H = some (r, H')) : H.next ≤ H'.next := by
  unfold cmpG at h
  split at h <;> cases h
  exact Nat.le_refl _
theorem pcall_ext {f : FuncId} {g : List AV → AHeap → Option (AV × AHeap)} (hx : C.ext f = some g) {args : List AV} {r r0 : AV} {H' : AHeap} (h : g args AHeap.empty = some (r0, H')) (hz : freeze H' r0 = some r) : PCall C f args r := by
  refine ⟨0, ?_⟩
  unfold pcall
  have : (clOf C 0).call f args AHeap.empty = some (r0, H') := by
    show (match C.ext f with | some g => g args AHeap.empty | none => _) = _
    rw [hx]; exact h
  rw [this]
  exact hz
end Go.BX

namespace Go.BX
set_option linter.unusedSimpArgs false
set_option linter.unusedVariables false
variable {C : Ctx} {fn : FuncId} {T : Nat → AV} {ds : List ADef} {ro : Option Nat} {H : AHeap} {Q : AV → AHeap → Prop} {k : List AItem}
def loopH (fn : FuncId) (T : Nat → AV) (params : List Nat) (assign body : AC) (H : AHeap) : AHeap :=
  (H.push .dfr).push (.loop { state := .ready, pending := none, fn := fn, T := T, params := params, assign := assign, body := body, defers := H.next })
theorem run_rangeFunc {f : Operand} {params : List Nat} {assign body gb : AC} {g : FuncId} {first caps : List AV}
    (hf : ev T f = some (.fn g first caps)) (hp : C.pure g = false) (hx : C.ext g = none) (hb : bodyOf C g = some gb)
    (h : Run C g (enterT (first ++ [.yld (H.next + 1)] ++ caps)) [] none [.code gb] (loopH fn T params assign body H) (fun _ H3 => ∃ L, H3.at_ (H.next + 1) = .loop L ∧ L.state ≠ .busy ∧ jumpOk L.pending = true ∧
      Run C fn T (.collected H.next :: ds) none ((L.pending.map AItem.code).toList ++ k) (H3.set (H.next + 1) (.loop { L with state := .exhausted })) Q)) :
    Run C fn T ds none (.code (.rangeFunc f params assign body) :: k) H Q := by
  obtain ⟨n, r, H3, he, L, hL, h1, h2, m, r', H', he', hq⟩ := h
  refine ⟨max n m + 1, r', H', ?_, hq⟩
  unfold bodyOf at hb
  simp only [Option.map_eq_some_iff] at hb
  obtain ⟨fi, hfi, rfl⟩ := hb
  have hc : callF C (cln C (max n m)) g (first ++ [.yld (H.next + 1)] ++ caps) (loopH fn T params assign body H) = some (r, H3) := by
    unfold callF
    rw [if_neg (by simp [hp])]
    show (clMk C (exec C (max n m))).call g _ _ = _
    simp only [clMk, hx, hfi]
    exact exec_le (Nat.le_max_left n m) _ _ _ _ he
  have he2 := exec_le (Nat.le_max_right n m) _ _ _ _ he'
  show stepA C (exec C (max n m)) _ _ H = _
  have hs : enterLoopA { fn := fn, T := T, defers := ds, round := none } params assign body H = some (H.next + 1, [.collected H.next], loopH fn T params assign body H) := rfl
  have hno : ¬ (L.state = .busy ∨ jumpOk L.pending = false) := by
    rintro (h | h)
    · exact h1 h
    · rw [h2] at h; cases h
  simp only [stepA, hf, hs]
  rw [show callF C (clMk C (exec C (max n m))) g (first ++ [.yld (H.next + 1)] ++ caps) (loopH fn T params assign body H) = some (r, H3) from hc]
  simp only [hL, hno, if_false, List.cons_append, List.nil_append]
  exact he2
theorem rop_yield {x : Operand} {args : Array Operand} {ts : Array TypeId} {vs : List AV} {l : Nat} {L : ALoop} {dst : Option Nat} {os : List AO} (h : evs T args.toList = some vs) (hf : ev T x = some (.yld l)) (hL : H.at_ l = .loop L) (hlen : vs.length = L.params.length)
    (hr : Run C L.fn (foldPut L.T L.params vs) [] (some l) [.code L.assign, .beginRound, .code L.body] H (fun r H1 => RunOps C fn (putA T dst r) ds ro os k H1 Q)) :
    RunOp C fn T ds ro (.call { callee := .value x, args := args, argTypes := ts }) dst os k H Q := by
  obtain ⟨n, r, H1, he, m, r', H', he', hq⟩ := hr
  refine ⟨max n m, r', H', ?_, hq⟩
  have hc : opRun C (cln C (max n m)) ro.isSome T ds H (.call { callee := .value x, args := args, argTypes := ts }) = some (r, ds, H1) := by
    simp only [opRun, opCall, h, hf, callV]
    have : (cln C (max n m)).round l vs H = some (r, H1) := by
      simp only [cln, clMk, hL, hlen, if_true]
      exact exec_le (Nat.le_max_left n m) _ _ _ _ he
    rw [this]
  rw [hc]
  exact thenRun_ops_le (Nat.le_max_right n m) he'
theorem run_begin {l : Nat} {L : ALoop} (hL : H.at_ l = .loop L) (hs : L.state = .ready) : Run C fn T ds (some l) (.beginRound :: k) H Q = Run C fn T ds (some l) k (H.set l (.loop { L with state := .busy })) Q :=
  run_step fun ex => by simp only [stepA, hL, hs, if_true]
theorem run_leave {items : List AItem} {r : AV} {H' : AHeap} (h : ∀ ex, stepA C ex { fn := fn, T := T, defers := ds, round := ro } items H = some (r, H')) : Run C fn T ds ro items H Q = Q r H' := by
  apply propext
  constructor
  · rintro ⟨n, r1, H1, he, hq⟩
    cases n with
    | zero => simp [exec] at he
    | succ n => simp only [exec, h] at he; cases he; exact hq
  · intro hq
    exact ⟨1, r, H', by simp only [exec, h], hq⟩
theorem round_nil {l : Nat} {L : ALoop} (hL : H.at_ l = .loop L) : Run C fn T ds (some l) [] H Q = Q (.bool true) (H.set l (.loop { L with state := .ready, pending := none })) :=
  run_leave fun ex => by simp [stepA, leaveA, hL]
theorem round_ret {l : Nat} {L : ALoop} (hL : H.at_ l = .loop L) : Run C fn T ds (some l) (.code .ret :: k) H Q = Q (.bool false) (H.set l (.loop { L with state := .done, pending := some .ret })) :=
  run_leave fun ex => by simp [stepA, leaveA, hL]
def RunDefs (C : Ctx) : List ADef → AHeap → (AHeap → Prop) → Prop
  | [], H, K => K H
  | .collected b :: ds, H, K => H.at_ b = .dfr ∧ RunDefs C ds (H.set b .dead) K
  | .call (.fn f first caps) args :: ds, H, K => C.ext f = none ∧ ∃ body, bodyOf C f = some body ∧ Run C f (enterT (first ++ args ++ caps)) [] none [.code body] H (fun _ H1 => RunDefs C ds H1 K)
  | .call _ _ :: _, _, _ => False
theorem runDefs_ok : ∀ (ds : List ADef) (H : AHeap) (K : AHeap → Prop), RunDefs C ds H K → ∃ n H', (∀ m, n ≤ m → runDefers C (cln C m) ds H = some H') ∧ K H'
  | [], H, K, h => ⟨0, H, fun m _ => by simp [runDefers], h⟩
  | .collected b :: ds, H, K, h => by
    obtain ⟨h1, h2⟩ := h
    obtain ⟨n, H', h3, h4⟩ := runDefs_ok ds _ K h2
    exact ⟨n, H', fun m hm => by simp only [runDefers, h1]; exact h3 m hm, h4⟩
  | .call v args :: ds, H, K, h => by
    cases v with
    | fn f first caps =>
      obtain ⟨hx, body, hb, n, r, H1, he, hr⟩ := h
      obtain ⟨m, H', h3, h4⟩ := runDefs_ok ds _ K hr
      unfold bodyOf at hb
      simp only [Option.map_eq_some_iff] at hb
      obtain ⟨fi, hfi, rfl⟩ := hb
      refine ⟨max n m, H', fun p hp => ?_, h4⟩
      have hc : (cln C p).call f (first ++ args ++ caps) H = some (r, H1) := by
        show (clMk C (exec C p)).call f _ _ = _
        simp only [clMk, hx, hfi]
        exact exec_le (by omega) _ _ _ _ he
      simp only [runDefers, hx, Option.isSome_none, Bool.false_eq_true, if_false]
      rw [hc]
      exact h3 p (by omega)
    | _ => exact h.elim
theorem leave_defs {items : List AItem} (hi : items = [] ∨ ∃ k', items = .code .ret :: k') (h : RunDefs C ds H (fun H' => RunRes C T H' Q (resOf C fn))) : Run C fn T ds none items H Q := by
  obtain ⟨n, H', hd, hr⟩ := runDefs_ok ds H _ h
  have hl : ∃ r, leaveA C (cln C n) { fn := fn, T := T, defers := ds, round := none } (if items = [] then none else some .ret) H = some (r, H') ∧ Q r H' := by
    unfold RunRes resOf at hr
    cases hf : C.FT fn with
    | none => rw [hf] at hr; exact hr.elim
    | some fi =>
      rw [hf] at hr
      simp only [Option.map_some] at hr
      cases hv : resultsA C T H' fi.results with
      | none => rw [hv] at hr; exact hr.elim
      | some vs =>
        rw [hv] at hr
        refine ⟨oneOf vs, ?_, hr⟩
        have hj : isRetA (if items = [] then none else some .ret) = true := by split <;> rfl
        simp only [leaveA, hj, if_true, hd n (Nat.le_refl _), hf, hv, Option.map_some]
  obtain ⟨r, hl, hq⟩ := hl
  refine ⟨n + 1, r, H', ?_, hq⟩
  rcases hi with rfl | ⟨k', rfl⟩
  · simp only [if_true] at hl; exact hl
  · simp only [reduceCtorEq, if_false] at hl; exact hl
theorem ret_col {b : Nat} (hb : H.at_ b = .dfr) (h : RunRes C T (H.set b .dead) Q (resOf C fn)) : Run C fn T [.collected b] none (.code .ret :: k) H Q :=
  leave_defs (.inr ⟨k, rfl⟩) ⟨hb, h⟩
end Go.BX

namespace Go.BX
set_option linter.unusedSimpArgs false
set_option linter.unusedVariables false
variable {C : Ctx} {fn : FuncId} {T : Nat → AV} {ds : List ADef} {ro : Option Nat} {H : AHeap} {Q : AV → AHeap → Prop} {k : List AItem}
def isSl (C : Ctx) (t te : TypeId) : Prop := ∃ ti, C.TT t = some ti ∧ ti.kind = .slice te
theorem app_row {t te kk by_ n g : Nat} {A : Nat → Blk} {es : List (List AV)} {row : List AV} (h1 : isSl C t te) (h2 : ∃ ti, C.TT te = some ti ∧ ti.size = kk ∧ ti.bytes = by_) (hg : A g = .cells te kk es) (hn : g ≠ n) (hm : (es.length + 1) * by_ ≤ most) (hm2 : es.length + 1 ≤ most) :
    builtinM C ⟨n + 1, upd A n (.cells te kk [row])⟩ .append [t, t] [.slc g kk 0 es.length, .slc n kk 0 1] = some (.slc (n + 1) kk 0 (es.length + 1), ⟨n + 1 + 1, upd (upd (upd A n (.cells te kk [row])) g .dead) (n + 1) (.cells te kk (es ++ [row]))⟩) := by
  obtain ⟨ti, t1, t2⟩ := h1
  obtain ⟨tj, t3, t4, t5⟩ := h2
  obtain ⟨knd, sz, byt, zr, eq⟩ := ti
  simp only at t2
  subst t2
  subst t4 t5
  have hs : source ⟨n + 1, upd A n (.cells te tj.size [row])⟩ tj.size (.slc n tj.size 0 1) = some [row] := by
    simp [source, elems]
  have ha : (upd A n (Blk.cells te tj.size [row])) g = .cells te tj.size es := by rw [upd_app, if_neg hn]; exact hg
  simp only [builtinM, t1, appendA, t3, hs, ha, true_and, Nat.le_refl, List.length_singleton, hm, hm2, and_self, if_true, List.cons_ne_self, reduceCtorEq, if_false, List.take_length, AHeap.set, AHeap.push]
theorem app_nil {t te kk by_ n : Nat} {A : Nat → Blk} {row : List AV} (h1 : isSl C t te) (h2 : ∃ ti, C.TT te = some ti ∧ ti.size = kk ∧ ti.bytes = by_) (hm : by_ ≤ most) :
    builtinM C ⟨n + 1, upd A n (.cells te kk [row])⟩ .append [t, t] [.nilS, .slc n kk 0 1] = some (.slc (n + 1) kk 0 1, ⟨n + 1 + 1, upd (upd A n (.cells te kk [row])) (n + 1) (.cells te kk [row])⟩) := by
  obtain ⟨ti, t1, t2⟩ := h1
  obtain ⟨tj, t3, t4, t5⟩ := h2
  obtain ⟨knd, sz, byt, zr, eq⟩ := ti
  simp only at t2
  subst t2
  subst t4 t5
  have hs : source ⟨n + 1, upd A n (.cells te tj.size [row])⟩ tj.size (.slc n tj.size 0 1) = some [row] := by
    simp [source, elems]
  have hm2 : 1 ≤ most := by decide
  simp only [builtinM, t1, appendA, t3, hs, List.length_singleton, Nat.one_mul, hm, hm2, and_self, if_true, reduceCtorEq, if_false, AHeap.push]
theorem runA_yield {x : Operand} {args : Array Operand} {ts : Array TypeId} {vs : List AV} {l : Nat} {L : ALoop} {dst : Option Nat} {os : List AO} (h : evs T args.toList = some vs) (hf : ev T x = some (.yld l)) (hL : H.at_ l = .loop L) (hlen : vs.length = L.params.length)
    (hr : Run C L.fn (foldPut L.T L.params vs) [] (some l) [.code L.assign, .beginRound, .code L.body] H (fun r H1 => RunOps C fn (putA T dst r) ds ro os k H1 Q)) :
    RunA C fn T ds ro (.call { callee := .value x, args := args, argTypes := ts }) dst os k H Q (some (.yld l)) (some vs) :=
  rop_yield (C := C) (ts := ts) h hf hL hlen hr
section
variable {dst : Option Nat} {os : List AO} {cs : List (List Nat)}
def DynB (C : Ctx) (ro : Option Nat) (b : Builtin) (ts : List TypeId) (op : Op) (dst : Option Nat) (os : List AO) (cs : List (List Nat)) (T : Nat → AV) (ds : List ADef) (H : AHeap) : Option (List AV) → Prop
  | some vs => DynV C ro dst os cs T ds (builtinA C H b ts vs)
  | none => DynOp C ro op dst os cs T ds H
theorem dop_builtinC {b : Builtin} {args : Array Operand} {ts : Array TypeId} : DynOp C ro (.call { callee := .builtin b, args := args, argTypes := ts }) dst os cs T ds H = DynB C ro b ts.toList (.call { callee := .builtin b, args := args, argTypes := ts }) dst os cs T ds H (evs T args.toList) := by
  cases h : evs T args.toList with
  | none => rfl
  | some vs =>
    unfold DynB
    rw [dop_of (z := builtinA C H b ts.toList vs)]
    intro cl
    simp only [opRun, opCall, h]
    cases builtinA C H b ts.toList vs with
    | none => rfl
    | some z => obtain ⟨v, H1⟩ := z; rfl
theorem dynB_some {b : Builtin} {ts : List TypeId} {op : Op} {vs : List AV} : DynB C ro b ts op dst os cs T ds H (some vs) = DynV C ro dst os cs T ds (builtinA C H b ts vs) := rfl
theorem apart_nil {b k i j : Nat} : apartA (.ptr b k i j) .nilS = true := rfl
theorem apart_slc {b b' k k' i i' j j' : Nat} : apartA (.ptr b k i j) (.slc b' k' i' j') = (b != b') := rfl
end
end Go.BX

namespace Go.BX
theorem enterT_app {args : List AV} {t : Nat} : enterT args t = (args[t]?).getD .undef := rfl
theorem bb : (And ((And ((And ((And ((And ((And ((And (type_of% (@ro_cons)) (type_of% (@ro_nil)))) ((And (type_of% (@ro_guardC)) (type_of% 
  (@runGuard_bool)))))) ((And ((And (type_of% (@runGuard_undef)) (type_of% (@rop_assign)))) ((And (type_of% (@rop_move)) (type_of% 
  (@rop_binOp)))))))) ((And ((And ((And (type_of% (@rop_unOp)) (type_of% (@rop_pick)))) ((And (type_of% (@rop_box)) (type_of% 
  (@rop_alloc)))))) ((And ((And (type_of% (@rop_build)) (type_of% (@rop_field)))) ((And (type_of% (@rop_fieldAddr)) (type_of% 
  (@rop_load)))))))))) ((And ((And ((And ((And (type_of% (@rop_store)) (type_of% (@rop_convert)))) ((And (type_of% (@rop_extract)) (type_of% 
  (@rop_nilCheck)))))) ((And ((And (type_of% (@rop_builtinC)) (type_of% (@rop_callC)))) ((And (type_of% (@runA_fn)) (type_of% 
  (@runB_some)))))))) ((And ((And ((And (type_of% (@runV_some)) (type_of% (@runVH_some)))) ((And (type_of% (@runCond_bool)) (type_of% 
  (@fltOf_0)))))) ((And ((And (type_of% (@upd_app)) (type_of% (@decide_true)))) ((And (type_of% (@decide_false)) ((And (type_of% 
  (@Nat.zero_add)) (type_of% (@Bool.false_eq_true)))))))))))))) ((And ((And ((And ((And ((And (type_of% (@Bool.not_true)) (type_of% 
  (@Bool.not_false)))) ((And (type_of% (@List.getElem?_cons_zero.{0})) (type_of% (@List.getElem?_cons_succ.{0})))))) ((And ((And (type_of% 
  (@List.getElem?_nil.{0})) (type_of% (@Option.getD_some.{0})))) ((And (type_of% (@Option.map_some.{0,0})) (type_of% (@freeze_int)))))))) 
  ((And ((And ((And (type_of% (@freeze_bool)) (type_of% (@freeze_str)))) ((And (type_of% (@freeze_flt)) (type_of% (@freeze_cpx)))))) ((And 
  ((And (type_of% (@freeze_agg)) (type_of% (@freeze_tuple)))) ((And (type_of% (@freeze2_int)) (type_of% (@freeze2_bool)))))))))) ((And ((And 
  ((And ((And (type_of% (@freeze2_agg)) (type_of% (@freeze2_cpx)))) ((And (type_of% (@freeze2_flt)) (type_of% (@freeze1_int)))))) ((And ((And 
  (type_of% (@freeze1_bool)) (type_of% (@freeze1_str)))) ((And (type_of% (@mapO_nil)) (type_of% (@mapO_cons)))))))) ((And ((And ((And 
  (type_of% (@consO_some)) (type_of% (@List.length_cons.{0})))) ((And (type_of% (@List.length_nil.{0})) (type_of% 
  (@List.take_succ_cons.{0})))))) ((And ((And (type_of% (@List.take_zero.{0})) (type_of% (@List.take_nil.{0})))) ((And (type_of% 
  (@List.drop_succ_cons.{0})) ((And (type_of% (@List.drop_zero.{0})) (type_of% (@List.drop_nil.{0})))))))))))))))) ((And ((And ((And ((And 
  ((And ((And (type_of% (@List.cons_append.{0})) (type_of% (@List.nil_append.{0})))) ((And (type_of% (@List.append_nil.{0})) (type_of% 
  (@List.set_cons_zero.{0})))))) ((And ((And (type_of% (@List.set_cons_succ.{0})) (type_of% (@true_and)))) ((And (type_of% (@and_true)) 
  (type_of% (@and_self)))))))) ((And ((And ((And (type_of% (@Option.bind_some.{0,0})) (type_of% (@dyn_nil)))) ((And (type_of% (@dyn_end)) 
  (type_of% (@dyn_cons)))))) ((And ((And (type_of% (@dop_move)) (type_of% (@dop_assign)))) ((And (type_of% (@dop_build)) (type_of% 
  (@dop_nilCheck)))))))))) ((And ((And ((And ((And (type_of% (@dop_fieldAddr)) (type_of% (@dop_field)))) ((And (type_of% (@dop_indexAddr)) 
  (type_of% (@dop_binOp)))))) ((And ((And (type_of% (@dop_extract)) (type_of% (@dop_load)))) ((And (type_of% (@dop_store)) (type_of% 
  (@dop_alloc)))))))) ((And ((And ((And (type_of% (@dop_box)) (type_of% (@dop_buildSlice)))) ((And (type_of% (@dynV_some)) (type_of% 
  (@chk_nil)))))) ((And ((And (type_of% (@chk_cons)) (type_of% (@apart_ptr)))) ((And (type_of% (@bne_iff_ne.{0})) ((And (type_of% 
  (@ne_eq.{1})) (type_of% (@not_false_eq_true)))))))))))))) ((And ((And ((And ((And ((And (type_of% (@not_true_eq_false)) (type_of% 
  (@Nat.le_refl)))) ((And (type_of% (@Nat.add_zero)) (type_of% (@Bool.true_and)))))) ((And ((And (type_of% (@Bool.and_true)) (type_of% 
  (@Bool.false_and)))) ((And (type_of% (@Bool.and_false)) (type_of% (@beq_self_eq_true.{0})))))))) ((And ((And ((And (type_of% 
  (@bne_self_eq_false.{0})) (type_of% (@rop_indexAddr)))) ((And (type_of% (@rop_buildSlice)) (type_of% (@rop_index)))))) ((And ((And (type_of% 
  (@rop_slice)) (type_of% (@rop_makeSlice)))) ((And (type_of% (@rop_makeFunc)) (type_of% (@List.flatten_cons.{0})))))))))) ((And ((And ((And 
  ((And (type_of% (@List.flatten_nil.{0})) (type_of% (@freeze_slc)))) ((And (type_of% (@freeze2_slc)) (type_of% (@freeze1_slc)))))) ((And 
  ((And (type_of% (@frzE_some)) (type_of% (@freeze1_emp)))) ((And (type_of% (@freeze_emp)) (type_of% (@freeze2_emp)))))))) ((And ((And ((And 
  (type_of% (@freeze_nilS)) (type_of% (@freeze2_nilS)))) ((And (type_of% (@freeze1_nilS)) (type_of% (@freeze_vec)))))) ((And ((And (type_of% 
  (@freeze2_vec)) (type_of% (@freeze1_vec)))) ((And (type_of% (@Int.toNat_zero)) ((And (type_of% (@Int.toNat_one)) (type_of% 
  (@Int.cast_ofNat_Int))))))))))))))))) :=
  (And.intro (And.intro (And.intro (And.intro (And.intro (And.intro (And.intro (@ro_cons) (@ro_nil)) (And.intro (@ro_guardC) 
  (@runGuard_bool))) (And.intro (And.intro (@runGuard_undef) (@rop_assign)) (And.intro (@rop_move) (@rop_binOp)))) (And.intro (And.intro 
  (And.intro (@rop_unOp) (@rop_pick)) (And.intro (@rop_box) (@rop_alloc))) (And.intro (And.intro (@rop_build) (@rop_field)) (And.intro 
  (@rop_fieldAddr) (@rop_load))))) (And.intro (And.intro (And.intro (And.intro (@rop_store) (@rop_convert)) (And.intro (@rop_extract) 
  (@rop_nilCheck))) (And.intro (And.intro (@rop_builtinC) (@rop_callC)) (And.intro (@runA_fn) (@runB_some)))) (And.intro (And.intro (And.intro 
  (@runV_some) (@runVH_some)) (And.intro (@runCond_bool) (@fltOf_0))) (And.intro (And.intro (@upd_app) (@decide_true)) (And.intro 
  (@decide_false) (And.intro (@Nat.zero_add) (@Bool.false_eq_true))))))) (And.intro (And.intro (And.intro (And.intro (And.intro 
  (@Bool.not_true) (@Bool.not_false)) (And.intro (@List.getElem?_cons_zero.{0}) (@List.getElem?_cons_succ.{0}))) (And.intro (And.intro 
  (@List.getElem?_nil.{0}) (@Option.getD_some.{0})) (And.intro (@Option.map_some.{0,0}) (@freeze_int)))) (And.intro (And.intro (And.intro 
  (@freeze_bool) (@freeze_str)) (And.intro (@freeze_flt) (@freeze_cpx))) (And.intro (And.intro (@freeze_agg) (@freeze_tuple)) (And.intro 
  (@freeze2_int) (@freeze2_bool))))) (And.intro (And.intro (And.intro (And.intro (@freeze2_agg) (@freeze2_cpx)) (And.intro (@freeze2_flt) 
  (@freeze1_int))) (And.intro (And.intro (@freeze1_bool) (@freeze1_str)) (And.intro (@mapO_nil) (@mapO_cons)))) (And.intro (And.intro 
  (And.intro (@consO_some) (@List.length_cons.{0})) (And.intro (@List.length_nil.{0}) (@List.take_succ_cons.{0}))) (And.intro (And.intro 
  (@List.take_zero.{0}) (@List.take_nil.{0})) (And.intro (@List.drop_succ_cons.{0}) (And.intro (@List.drop_zero.{0}) 
  (@List.drop_nil.{0})))))))) (And.intro (And.intro (And.intro (And.intro (And.intro (And.intro (@List.cons_append.{0}) 
  (@List.nil_append.{0})) (And.intro (@List.append_nil.{0}) (@List.set_cons_zero.{0}))) (And.intro (And.intro (@List.set_cons_succ.{0}) 
  (@true_and)) (And.intro (@and_true) (@and_self)))) (And.intro (And.intro (And.intro (@Option.bind_some.{0,0}) (@dyn_nil)) (And.intro 
  (@dyn_end) (@dyn_cons))) (And.intro (And.intro (@dop_move) (@dop_assign)) (And.intro (@dop_build) (@dop_nilCheck))))) (And.intro (And.intro 
  (And.intro (And.intro (@dop_fieldAddr) (@dop_field)) (And.intro (@dop_indexAddr) (@dop_binOp))) (And.intro (And.intro (@dop_extract) 
  (@dop_load)) (And.intro (@dop_store) (@dop_alloc)))) (And.intro (And.intro (And.intro (@dop_box) (@dop_buildSlice)) (And.intro (@dynV_some) 
  (@chk_nil))) (And.intro (And.intro (@chk_cons) (@apart_ptr)) (And.intro (@bne_iff_ne.{0}) (And.intro (@ne_eq.{1}) (@not_false_eq_true))))))) 
  (And.intro (And.intro (And.intro (And.intro (And.intro (@not_true_eq_false) (@Nat.le_refl)) (And.intro (@Nat.add_zero) (@Bool.true_and))) 
  (And.intro (And.intro (@Bool.and_true) (@Bool.false_and)) (And.intro (@Bool.and_false) (@beq_self_eq_true.{0})))) (And.intro (And.intro 
  (And.intro (@bne_self_eq_false.{0}) (@rop_indexAddr)) (And.intro (@rop_buildSlice) (@rop_index))) (And.intro (And.intro (@rop_slice) 
  (@rop_makeSlice)) (And.intro (@rop_makeFunc) (@List.flatten_cons.{0}))))) (And.intro (And.intro (And.intro (And.intro 
  (@List.flatten_nil.{0}) (@freeze_slc)) (And.intro (@freeze2_slc) (@freeze1_slc))) (And.intro (And.intro (@frzE_some) (@freeze1_emp)) 
  (And.intro (@freeze_emp) (@freeze2_emp)))) (And.intro (And.intro (And.intro (@freeze_nilS) (@freeze2_nilS)) (And.intro (@freeze1_nilS) 
  (@freeze_vec))) (And.intro (And.intro (@freeze2_vec) (@freeze1_vec)) (And.intro (@Int.toNat_zero) (And.intro (@Int.toNat_one) 
  (@Int.cast_ofNat_Int)))))))))
theorem bc : (And ((And ((And ((And (type_of% (@Go.BX.evs.eq_1)) (type_of% (@Go.BX.evs.eq_2)))) ((And (type_of% (@Go.BX.parts_.eq_1)) (type_of% 
  (@Go.BX.parts_.eq_2)))))) ((And ((And (type_of% (@Go.BX.resultsA.eq_1)) (type_of% (@Go.BX.resultsA.eq_2)))) ((And (type_of% 
  (@Go.BX.resultsA.eq_3)) (type_of% (@Go.BX.fillA.eq_1)))))))) ((And ((And ((And (type_of% (@Go.BX.fillA.eq_2)) (type_of% 
  (@Go.BX.cellsEq.eq_1)))) ((And (type_of% (@Go.BX.cellsEq.eq_2)) (type_of% (@Go.BX.cellsEq.eq_3)))))) ((And ((And (type_of% 
  (@Go.BX.cellsEq.eq_4)) (type_of% (@Go.BX.cellsEq.eq_5)))) ((And (type_of% (@Go.BX.chunk.eq_1)) (type_of% (@Go.BX.chunk.eq_2))))))))) :=
  (And.intro (And.intro (And.intro (And.intro (@Go.BX.evs.eq_1) (@Go.BX.evs.eq_2)) (And.intro (@Go.BX.parts_.eq_1) (@Go.BX.parts_.eq_2))) 
  (And.intro (And.intro (@Go.BX.resultsA.eq_1) (@Go.BX.resultsA.eq_2)) (And.intro (@Go.BX.resultsA.eq_3) (@Go.BX.fillA.eq_1)))) (And.intro 
  (And.intro (And.intro (@Go.BX.fillA.eq_2) (@Go.BX.cellsEq.eq_1)) (And.intro (@Go.BX.cellsEq.eq_2) (@Go.BX.cellsEq.eq_3))) (And.intro 
  (And.intro (@Go.BX.cellsEq.eq_4) (@Go.BX.cellsEq.eq_5)) (And.intro (@Go.BX.chunk.eq_1) (@Go.BX.chunk.eq_2)))))
theorem bd : (And ((And ((And ((And ((And (type_of% (@Go.BX.primP.eq_def)) (type_of% (@Go.BX.primM.eq_def)))) ((And (type_of% (@Go.BX.ev.eq_def)) 
  (type_of% (@Go.BX.ofConst.eq_def)))))) ((And ((And (type_of% (@Go.BX.bin.eq_def)) (type_of% (@Go.BX.un.eq_def)))) ((And (type_of% 
  (@Go.BX.intBin.eq_def)) ((And (type_of% (@Go.BX.putA.eq_def)) (type_of% (@enterT_app)))))))))) ((And ((And ((And (type_of% 
  (@Go.BX.RunRes.eq_def)) (type_of% (@Go.BX.oneOf.eq_def)))) ((And (type_of% (@Go.BX.AV.plain.eq_def)) (type_of% (@Go.BX.AV.cells.eq_def)))))) 
  ((And ((And (type_of% (@Go.BX.AHeap.push.eq_def)) (type_of% (@Go.BX.AHeap.set.eq_def)))) ((And (type_of% (@Go.BX.AHeap.empty.eq_def)) ((And 
  (type_of% (@Go.BX.fieldOf.eq_def)) (type_of% (@Go.BX.loadA.eq_def)))))))))))) ((And ((And ((And ((And (type_of% (@Go.BX.storeA.eq_def)) 
  (type_of% (@Go.BX.part.eq_def)))) ((And (type_of% (@Go.BX.TK.isAgg.eq_def)) (type_of% (@Go.BX.convA.eq_def)))))) ((And ((And (type_of% 
  (@Go.BX.builtinA.eq_def)) (type_of% (@Go.BX.inertB.eq_def)))) ((And (type_of% (@Go.BX.builtinP.eq_def)) ((And (type_of% 
  (@Go.BX.buildA.eq_def)) (type_of% (@Go.BX.splice.eq_def)))))))))) ((And ((And ((And (type_of% (@Go.BX.eqv.eq_def)) (type_of% 
  (@Go.BX.sizeT.eq_def)))) ((And (type_of% (@Go.BX.adT.eq_def)) (type_of% (@Go.BX.ldT.eq_def)))))) ((And ((And (type_of% (@Go.BX.fwT.eq_def)) 
  (type_of% (@Go.BX.strBin.eq_def)))) ((And (type_of% (@Go.BX.indexAddrA.eq_def)) ((And (type_of% (@Go.BX.elems.eq_def)) (type_of% 
  (@Go.BX.lenOf.eq_def))))))))))))) :=
  (And.intro (And.intro (And.intro (And.intro (And.intro (@Go.BX.primP.eq_def) (@Go.BX.primM.eq_def)) (And.intro (@Go.BX.ev.eq_def) 
  (@Go.BX.ofConst.eq_def))) (And.intro (And.intro (@Go.BX.bin.eq_def) (@Go.BX.un.eq_def)) (And.intro (@Go.BX.intBin.eq_def) (And.intro 
  (@Go.BX.putA.eq_def) (@enterT_app))))) (And.intro (And.intro (And.intro (@Go.BX.RunRes.eq_def) (@Go.BX.oneOf.eq_def)) (And.intro 
  (@Go.BX.AV.plain.eq_def) (@Go.BX.AV.cells.eq_def))) (And.intro (And.intro (@Go.BX.AHeap.push.eq_def) (@Go.BX.AHeap.set.eq_def)) (And.intro 
  (@Go.BX.AHeap.empty.eq_def) (And.intro (@Go.BX.fieldOf.eq_def) (@Go.BX.loadA.eq_def)))))) (And.intro (And.intro (And.intro (And.intro 
  (@Go.BX.storeA.eq_def) (@Go.BX.part.eq_def)) (And.intro (@Go.BX.TK.isAgg.eq_def) (@Go.BX.convA.eq_def))) (And.intro (And.intro 
  (@Go.BX.builtinA.eq_def) (@Go.BX.inertB.eq_def)) (And.intro (@Go.BX.builtinP.eq_def) (And.intro (@Go.BX.buildA.eq_def) 
  (@Go.BX.splice.eq_def))))) (And.intro (And.intro (And.intro (@Go.BX.eqv.eq_def) (@Go.BX.sizeT.eq_def)) (And.intro (@Go.BX.adT.eq_def) 
  (@Go.BX.ldT.eq_def))) (And.intro (And.intro (@Go.BX.fwT.eq_def) (@Go.BX.strBin.eq_def)) (And.intro (@Go.BX.indexAddrA.eq_def) (And.intro 
  (@Go.BX.elems.eq_def) (@Go.BX.lenOf.eq_def)))))))
theorem xx : (And ((And (type_of% (@run_exit_start)) (type_of% (@exit_here)))) ((And (type_of% (@exit_code)) ((And (type_of% (@exit_inLoop)) (type_of% 
  (@run_inBlock))))))) :=
  (And.intro (And.intro (@run_exit_start) (@exit_here)) (And.intro (@exit_code) (And.intro (@exit_inLoop) (@run_inBlock))))
end Go.BX

namespace Go.Proofs.Ytjnopnlgcmlkfaa.G
open Go.BX
def good : List Nat := [1, 2, 3, 4, 5, 6, 7, 8, 9, 10, 11, 12, 13, 14, 15, 16, 17, 18, 19, 20, 21, 22, 23, 24, 25, 26, 27, 29, 30, 31, 32, 33, 34, 36, 37, 38, 40, 41, 42, 43, 44, 45, 46, 47, 48, 49, 50, 51, 52, 53, 54, 55, 56, 58, 59, 60, 61, 62, 63, 64, 66, 67, 68, 69, 70, 71, 72, 73, 74, 75, 76, 77, 78, 79, 80, 81, 82, 83, 84, 85, 86, 87, 88, 89, 90, 91, 92, 93, 94, 95, 96, 98, 99, 100, 101, 102, 104, 105, 106, 107, 108, 109, 110, 111, 112, 113, 114, 117, 118, 119, 120, 121, 122, 123, 124, 125, 126]
def pureL : List Nat := [2, 3, 4, 5, 6, 7, 8, 9, 11, 12, 13, 14, 19, 20, 21, 23, 26, 29, 31, 33, 36, 37, 38, 39, 40, 42, 46, 49, 50, 51, 52, 53, 54, 55, 56, 57, 58, 59, 60, 61, 62, 65, 66, 67, 68, 69, 70, 71, 72, 74, 75, 76, 78, 79, 80, 77]
def extF : FuncId → Option (List AV → AHeap → Option (AV × AHeap))
  | 77 => some (cmpG)
  | _ => none
noncomputable def Cx : Ctx := ctxOf Try.prog good (fun f => pureL.contains f) extF
theorem good_ok : good.all (tiCheck Try.prog good) = true := by kernel_rfl
theorem mixed : Try.prog.follows .mixedOrders = true := by kernel_rfl
theorem isExt77 : IsExt Try.prog 77 Try.f77 Extern.BytealgCompare.compare := ⟨Try.func77, by kernel_rfl, by kernel_rfl, by kernel_rfl, by kernel_rfl⟩
theorem extOk : ExtOk Cx := by
  constructor
  · intro f g args H r H' hf hg
    change extF f = some g at hf
    unfold extF at hf
    split at hf <;> first | (cases hf; done) | skip
    · cases hf; exact cmpG_mono hg
  · intro f g args H r H' hf hg w U ι vs hH ha
    change extF f = some g at hf
    unfold extF at hf
    split at hf <;> first | (cases hf; done) | skip
    · cases hf; exact cmp_sound isExt77 hg hH ha
theorem cok : COk Cx := cOk_of good_ok extOk mixed
theorem noext (f : FuncId) (h : extF f = none := by rfl) : Cx.ext f = none := h
theorem TT_3 : Cx.TT 3 = some { kind := .int .i64, size := 1, bytes := 8, zero := [.int .i64 0], eqk := (some [.int .i64]) } := by kernel_rfl
theorem TT_4 : Cx.TT 4 = some { kind := .bool, size := 1, bytes := 1, zero := [.bool false], eqk := (some [.bool]) } := by kernel_rfl
theorem TT_5 : Cx.TT 5 = some { kind := .int .u8, size := 1, bytes := 1, zero := [.int .u8 0], eqk := (some [.int .u8]) } := by kernel_rfl
theorem TT_9 : Cx.TT 9 = some { kind := .str, size := 1, bytes := 16, zero := [.str []], eqk := (some [.str]) } := by kernel_rfl
theorem TT_22 : Cx.TT 22 = some { kind := .slice 47, size := 1, bytes := 24, zero := [.nilS], eqk := none } := by kernel_rfl
theorem TT_25 : Cx.TT 25 = some { kind := .func, size := 1, bytes := 8, zero := [.nilF], eqk := none } := by kernel_rfl
theorem TT_26 : Cx.TT 26 = some { kind := .slice 9, size := 1, bytes := 24, zero := [.nilS], eqk := none } := by kernel_rfl
theorem TT_27 : Cx.TT 27 = some { kind := .int .i64, size := 1, bytes := 8, zero := [.int .i64 0], eqk := (some [.int .i64]) } := by kernel_rfl
theorem TT_38 : Cx.TT 38 = some { kind := .ptr, size := 1, bytes := 8, zero := [.nilP], eqk := none } := by kernel_rfl
theorem TT_43 : Cx.TT 43 = some { kind := .struct [(3, 0), (3, 1)], size := 2, bytes := 16, zero := [.int .i64 0, .int .i64 0], eqk := (some [.int .i64, .int .i64]) } := by kernel_rfl
theorem TT_45 : Cx.TT 45 = some { kind := .struct [(3, 0), (3, 1), (9, 2), (43, 3)], size := 5, bytes := 48, zero := [.int .i64 0, .int .i64 0, .str [], .int .i64 0, .int .i64 0], eqk := (some [.int .i64, .int .i64, .str, .int .i64, .int .i64]) } := by kernel_rfl
theorem TT_47 : Cx.TT 47 = some { kind := .struct [(9, 0), (45, 1)], size := 6, bytes := 64, zero := [.str [], .int .i64 0, .int .i64 0, .str [], .int .i64 0, .int .i64 0], eqk := (some [.str, .int .i64, .int .i64, .str, .int .i64, .int .i64]) } := by kernel_rfl
theorem TT_48 : Cx.TT 48 = some { kind := .slice 22, size := 1, bytes := 24, zero := [.nilS], eqk := none } := by kernel_rfl
theorem TT_52 : Cx.TT 52 = some { kind := .func, size := 1, bytes := 8, zero := [.nilF], eqk := none } := by kernel_rfl
theorem TT_56 : Cx.TT 56 = some { kind := .slice 45, size := 1, bytes := 24, zero := [.nilS], eqk := none } := by kernel_rfl
theorem TT_60 : Cx.TT 60 = some { kind := .func, size := 1, bytes := 8, zero := [.nilF], eqk := none } := by kernel_rfl
theorem TT_68 : Cx.TT 68 = some { kind := .struct [(3, 0), (22, 1), (48, 2), (3, 3)], size := 4, bytes := 64, zero := [.int .i64 0, .nilS, .nilS, .int .i64 0], eqk := none } := by kernel_rfl
theorem TT_82 : Cx.TT 82 = some { kind := .ptr, size := 1, bytes := 8, zero := [.nilP], eqk := none } := by kernel_rfl
theorem TT_84 : Cx.TT 84 = some { kind := .struct [(22, 0), (3, 1), (3, 2)], size := 3, bytes := 40, zero := [.nilS, .int .i64 0, .int .i64 0], eqk := none } := by kernel_rfl
theorem TT_85 : Cx.TT 85 = some { kind := .func, size := 1, bytes := 8, zero := [.nilF], eqk := none } := by kernel_rfl
theorem TT_86 : Cx.TT 86 = some { kind := .slice 84, size := 1, bytes := 24, zero := [.nilS], eqk := none } := by kernel_rfl
theorem TT_88 : Cx.TT 88 = some { kind := .struct [(86, 0), (85, 1)], size := 2, bytes := 32, zero := [.nilS, .nilF], eqk := none } := by kernel_rfl
theorem TT_105 : Cx.TT 105 = some { kind := .slice 3, size := 1, bytes := 24, zero := [.nilS], eqk := none } := by kernel_rfl
theorem TT_106 : Cx.TT 106 = some { kind := .int .u64, size := 1, bytes := 8, zero := [.int .u64 0], eqk := (some [.int .u64]) } := by kernel_rfl
theorem TT_108 : Cx.TT 108 = some { kind := .cpx, size := 1, bytes := 16, zero := [.cpx 0 0], eqk := none } := by kernel_rfl
theorem TT_110 : Cx.TT 110 = some { kind := .flt, size := 1, bytes := 8, zero := [.flt 0], eqk := none } := by kernel_rfl
theorem tt : (And ((And ((And ((And (type_of% @TT_3) ((And (type_of% @TT_4) (type_of% @TT_5))))) ((And (type_of% @TT_9) ((And (type_of% @TT_22) (type_of% @TT_25))))))) ((And ((And (type_of% @TT_26) ((And (type_of% @TT_27) (type_of% @TT_38))))) ((And ((And (type_of% @TT_43) (type_of% @TT_45))) ((And (type_of% @TT_47) (type_of% @TT_48))))))))) ((And ((And ((And (type_of% @TT_52) ((And (type_of% @TT_56) (type_of% @TT_60))))) ((And (type_of% @TT_68) ((And (type_of% @TT_82) (type_of% @TT_84))))))) ((And ((And (type_of% @TT_85) ((And (type_of% @TT_86) (type_of% @TT_88))))) ((And ((And (type_of% @TT_105) (type_of% @TT_106))) ((And (type_of% @TT_108) (type_of% @TT_110)))))))))) := ⟨⟨⟨⟨TT_3, ⟨TT_4, TT_5⟩⟩, ⟨TT_9, ⟨TT_22, TT_25⟩⟩⟩, ⟨⟨TT_26, ⟨TT_27, TT_38⟩⟩, ⟨⟨TT_43, TT_45⟩, ⟨TT_47, TT_48⟩⟩⟩⟩, ⟨⟨⟨TT_52, ⟨TT_56, TT_60⟩⟩, ⟨TT_68, ⟨TT_82, TT_84⟩⟩⟩, ⟨⟨TT_85, ⟨TT_86, TT_88⟩⟩, ⟨⟨TT_105, TT_106⟩, ⟨TT_108, TT_110⟩⟩⟩⟩⟩
end Go.Proofs.Ytjnopnlgcmlkfaa.G

