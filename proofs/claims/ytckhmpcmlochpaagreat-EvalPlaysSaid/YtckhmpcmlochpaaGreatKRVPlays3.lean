import Derived.Test.YtckhmpcmlochpaaGreatKRVPlays2
import Derived.Laws.Externs
import Derived.Calls
import Derived.Laws.World
import Derived.Test.YtckhmpcmlochpaaGreatChecked
import Derived.Lib.Strings
import Derived.Lib.Walk
import Derived.Lib.UnsafeStr
import Derived.Lib.Builder
import Derived.WalkKit
import Derived.KernelRfl
set_option linter.unusedSimpArgs false
set_option linter.unusedVariables false
set_option linter.unnecessarySimpa false
set_option linter.unusedSectionVars false
set_option linter.defProp false
namespace Go.BX
variable {C : Ctx}
structure Le (cl cl' : Cl) : Prop where
 call : ∀ f args H x, cl.call f args H = some x → cl'.call f args H = some x
 round : ∀ l args H x, cl.round l args H = some x → cl'.round l args H = some x
theorem Le.refl (cl : Cl) : Le cl cl := ⟨fun _ _ _ _ h => h, fun _ _ _ _ h => h⟩
def y8r (ex ex' : AFr → List AItem → AHeap → Option (AV × AHeap)) : Prop := ∀ fr items H x, ex fr items H = some x → ex' fr items H = some x
theorem x2b {ex ex' : AFr → List AItem → AHeap → Option (AV × AHeap)} (h : y8r ex ex') : Le (q9d C ex) (q9d C ex') where
 call := fun f args H x hc => by
  simp only [q9d] at hc ⊢
  split at hc
  ·rename_i g hg; (try simp only [hg]); exact hc
  ·rename_i hg
   (try simp only [hg])
   split at hc
   ·rename_i fi hfi; (try simp only [hfi]); exact h _ _ _ _ hc
   ·cases hc
 round := fun l args H x hc => by
  simp only [q9d] at hc ⊢
  split at hc
  ·rename_i L hL
   (try simp only [hL])
   split at hc
   ·rename_i q2u; rw [if_pos q2u]; exact h _ _ _ _ hc
   ·cases hc
  ·cases hc
theorem z3z {cl cl' : Cl} (h : Le cl cl') {f : FuncId} {args : List AV} {H : AHeap} {x : AV × AHeap} (hc : q4i C cl f args H = some x) : q4i C cl' f args H = some x := by
 unfold q4i at hc ⊢
 split at hc
 ·rename_i hp
  rw [if_pos hp]
  split at hc
  ·rename_i hf
   rw [if_pos hf]
   split at hc
   ·rename_i r H1 hcc; rw [h.call _ _ _ _ hcc]; exact hc
   ·cases hc
  ·rename_i hf
   rw [if_neg hf]
   split at hc
   ·rename_i args' ha
    (try simp only [ha])
    split at hc
    ·rename_i r H1 hcc; rw [h.call _ _ _ _ hcc]; exact hc
    ·cases hc
   ·cases hc
 ·rename_i hp
  rw [if_neg hp]
  exact h.call _ _ _ _ hc
theorem x7t {cl cl' : Cl} (h : Le cl cl') {v : AV} {args : List AV} {H : AHeap} {x : AV × AHeap} (hc : z9g C cl v args H = some x) : z9g C cl' v args H = some x := by
 unfold z9g at hc ⊢
 split at hc
 ·exact z3z h hc
 ·exact h.round _ _ _ _ hc
 ·cases hc
theorem x2c {cl cl' : Cl} (h : Le cl cl') {T : Nat → AV} {H : AHeap} {c : Call} {x : AV × AHeap} (hc : q7k C cl T H c = some x) : q7k C cl' T H c = some x := by
 unfold q7k at hc ⊢
 split at hc
 ·cases hc
 ·rename_i args ha
  try simp only [ha]
  split at hc
  ·exact hc
  ·cases hc
  ·rename_i y hy
   split at hc
   ·rename_i v hv; (try simp only [hv]); exact x7t h hc
   ·cases hc
theorem x7u {cl cl' : Cl} (h : Le cl cl') {ir : Bool} {T : Nat → AV} {az : List ADef} {H : AHeap} {op : Op} {x : AV × List ADef × AHeap} (hc : q1l C cl ir T az H op = some x) : q1l C cl' ir T az H op = some x := by
 unfold q1l at hc ⊢
 split at hc
 ·rename_i c
  split at hc
  ·rename_i v H' ho; rw [x2c h ho]; exact hc
  ·cases hc
 ·exact hc
 ·exact hc
theorem j7i {cl cl' : Cl} (h : Le cl cl') {ir : Bool} {o : AO} {T : Nat → AV} {az : List ADef} {H : AHeap} {x : AV × List ADef × AHeap} (hc : q3f C cl ir o T az H = some x) : q3f C cl' ir o T az H = some x := by
 unfold q3f at hc ⊢
 split at hc
 ·exact x7u h hc
 ·exact hc
 ·cases hc
theorem j2l {cl cl' : Cl} (h : Le cl cl') {ir : Bool} : ∀ {aos : List AO} {T : Nat → AV} {az : List ADef} {H : AHeap} {x : (Nat → AV) × List ADef × AHeap}, q1z C cl ir aos T az H = some x → q1z C cl' ir aos T az H = some x := by
 intro aos
 induction aos with
 | nil => intro T az H x hc; exact hc
 | cons o aos ih =>
  intro T az H x hc
  simp only [q1z] at hc ⊢
  split at hc
  ·rename_i v ds' H1 hr; rw [j7i h hr]; exact ih hc
  ·cases hc
theorem x2d {cl cl' : Cl} (h : Le cl cl') {ir : Bool} : ∀ {aos : List AO} {chk : List (List Nat)} {T : Nat → AV} {az : List ADef} {H : AHeap}, j9f C cl ir aos chk T az H = true → j9f C cl' ir aos chk T az H = true := by
 intro aos
 induction aos with
 | nil => intro chk T az H hc; cases chk <;> rfl
 | cons o aos ih =>
  intro chk T az H hc
  cases chk with
  | nil => rfl
  | cons c chk =>
   simp only [j9f, Bool.and_eq_true] at hc ⊢
   refine ⟨hc.1, ?_⟩
   have h2 := hc.2
   split at h2
   ·rename_i v ds' H1 hr; rw [j7i h hr]; exact ih h2
   ·cases h2
theorem j2m {cl cl' : Cl} (h : Le cl cl') : ∀ {az : List ADef} {H x : AHeap}, q1i C cl az H = some x → q1i C cl' az H = some x := by
 intro az
 induction az with
 | nil => intro H x hc; exact hc
 | cons a az ih =>
  intro H x hc
  cases a with
  | collected b =>
   simp only [q1i] at hc ⊢
   split at hc
   ·rename_i hb; (try simp only [hb]); exact ih hc
   ·cases hc
  | call v args =>
   cases v <;> simp only [q1i, reduceCtorEq] at hc ⊢
   split at hc
   ·cases hc
   ·rename_i he
    rw [if_neg he]
    split at hc
    ·rename_i r H1 hcc; rw [h.call _ _ _ _ hcc]; exact ih hc
    ·cases hc
theorem z0r {cl cl' : Cl} (h : Le cl cl') {fr : AFr} {jump : Option AC} {H : AHeap} {x : AV × AHeap} (hc : q5b C cl fr jump H = some x) : q5b C cl' fr jump H = some x := by
 unfold q5b at hc ⊢
 split at hc
 ·split at hc
  ·rename_i hr
   rw [if_pos hr]
   split at hc
   ·rename_i H1 hd; rw [j2m h hd]; exact hc
   ·cases hc
  ·cases hc
 ·exact hc
theorem x7v {ex ex' : AFr → List AItem → AHeap → Option (AV × AHeap)} (h : y8r ex ex') : y8r (q9q C ex) (q9q C ex') := by
 intro fr items H x hc
 have hl := x2b (C := C) h
 unfold q9q at hc ⊢
 split at hc
 ·exact z0r hl hc
 ·exact h _ _ _ _ hc
 ·exact h _ _ _ _ hc
 ·exact h _ _ _ _ hc
 ·try simp only
  split at hc
  ·split at hc
   ·rename_i L hL
    (try simp only [hL])
    split at hc
    ·rename_i hst; rw [if_pos hst]; exact h _ _ _ _ hc
    ·cases hc
   ·cases hc
  ·cases hc
 ·exact h _ _ _ _ hc
 ·exact h _ _ _ _ hc
 ·try simp only
  split at hc
  ·rename_i T' ds' H1 hr
   rw [j2l hl hr]
   split at hc
   ·rename_i hd; simp only; rw [if_pos (x2d hl hd)]; exact h _ _ _ _ hc
   ·cases hc
  ·cases hc
 ·exact h _ _ _ _ hc
 ·try simp only
  split at hc
  ·rename_i t ht; (try simp only [ht]); exact h _ _ _ _ hc
  ·cases hc
 ·exact h _ _ _ _ hc
 ·exact h _ _ _ _ hc
 ·exact h _ _ _ _ hc
 ·try simp only
  split at hc
  ·rename_i k' hk; (try simp only [hk]); exact h _ _ _ _ hc
  ·rename_i hk; (try simp only [hk]); exact z0r hl hc
 ·try simp only
  split at hc
  ·rename_i k' hk; (try simp only [hk]); exact h _ _ _ _ hc
  ·rename_i hk; (try simp only [hk]); exact z0r hl hc
 ·exact z0r hl hc
 ·cases hc
 ·try simp only
  split at hc
  ·rename_i g first caps l mark H2 hev hel
   (try simp only [hev, hel])
   split at hc
   ·cases hc
   ·rename_i rv H3 q2k
    rw [z3z hl q2k]
    try simp only
    split at hc
    ·rename_i L hL
     (try simp only [hL])
     split at hc
     ·cases hc
     ·rename_i hcond; rw [if_neg hcond]; exact h _ _ _ _ hc
    ·cases hc
  ·cases hc
theorem z2r : ∀ n, y8r (exec C n) (exec C (n + 1))
 | 0 => fun fr items H x h => by simp [exec] at h
 | n + 1 => x7v (z2r n)
theorem z9z {n m : Nat} (h : n ≤ m) : y8r (exec C n) (exec C m) := by
 induction m with
 | zero => have : n = 0 := by omega
           subst this; exact fun _ _ _ _ h => h
 | succ m ih =>
  by_cases e : n = m + 1
  ·subst e; exact fun _ _ _ _ h => h
  ·exact fun fr items H x hx => z2r m _ _ _ _ (ih (by omega) fr items H x hx)
theorem x2e {n m : Nat} (h : n ≤ m) : Le (q9d C (exec C n)) (q9d C (exec C m)) := x2b (z9z h)
end Go.BX
namespace Go.BX
variable {C : Ctx} {fn : FuncId} {T : Nat → AV} {ds : List ADef} {ro : Option Nat} {H : AHeap} {Q : AV → AHeap → Prop} {k : List AItem}
def Run (C : Ctx) (fn : FuncId) (T : Nat → AV) (ds : List ADef) (ro : Option Nat) (items : List AItem) (H : AHeap) (Q : AV → AHeap → Prop) : Prop :=
 ∃ n r H', exec C n { fn := fn, T := T, defers := ds, round := ro } items H = some (r, H') ∧ Q r H'
abbrev cln (C : Ctx) (n : Nat) : Cl := q9d C (exec C n)
def q4d (C : Ctx) (fn : FuncId) (ro : Option Nat) (k : List AItem) (n : Nat) : Option ((Nat → AV) × List ADef × AHeap) → Option (AV × AHeap)
 | some (T, ds, H) => exec C n { fn := fn, T := T, defers := ds, round := ro } k H
 | none => none
def q0d (C : Ctx) (fn : FuncId) (T : Nat → AV) (ds : List ADef) (ro : Option Nat) (os : List AO) (k : List AItem) (H : AHeap) (Q : AV → AHeap → Prop) : Prop :=
 ∃ n r H', q4d C fn ro k n (q1z C (cln C n) ro.isSome os T ds H) = some (r, H') ∧ Q r H'
def q7s (C : Ctx) (fn : FuncId) (ro : Option Nat) (T : Nat → AV) (dst : Option Nat) (os : List AO) (k : List AItem) (n : Nat) : Option (AV × List ADef × AHeap) → Option (AV × AHeap)
 | some (v, ds, H) => q4d C fn ro k n (q1z C (cln C n) ro.isSome os (putA T dst v) ds H)
 | none => none
def q2e (C : Ctx) (fn : FuncId) (T : Nat → AV) (ds : List ADef) (ro : Option Nat) (op : Op) (dst : Option Nat) (os : List AO) (k : List AItem) (H : AHeap) (Q : AV → AHeap → Prop) : Prop :=
 ∃ n r H', q7s C fn ro T dst os k n (q1l C (cln C n) ro.isSome T ds H op) = some (r, H') ∧ Q r H'
def z0s (ds : List ADef) : Option (AV × AHeap) → Option (AV × List ADef × AHeap)
 | some (v, H) => some (v, ds, H)
 | none => none
def q0g (C : Ctx) (fn : FuncId) (T : Nat → AV) (ds : List ADef) (ro : Option Nat) (f : FuncId) (args : List AV) (dst : Option Nat) (os : List AO) (k : List AItem) (H : AHeap) (Q : AV → AHeap → Prop) : Prop :=
 ∃ n r H', q7s C fn ro T dst os k n (z0s ds (q4i C (cln C n) f args H)) = some (r, H') ∧ Q r H'
theorem j9z {n m : Nat} (h : n ≤ m) {z : Option ((Nat → AV) × List ADef × AHeap)} {x : AV × AHeap} (hz : q4d C fn ro k n z = some x) : q4d C fn ro k m z = some x := by
 cases z with
 | none => cases hz
 | some z => exact z9z h _ _ _ _ hz
theorem q3i {n m : Nat} (h : n ≤ m) {os : List AO} {x : AV × AHeap} (hz : q4d C fn ro k n (q1z C (cln C n) ro.isSome os T ds H) = some x) : q4d C fn ro k m (q1z C (cln C m) ro.isSome os T ds H) = some x := by
 cases hr : q1z C (cln C n) ro.isSome os T ds H with
 | none => rw [hr] at hz; cases hz
 | some y =>
  rw [hr] at hz
  rw [j2l (x2e h) hr]
  exact j9z h hz
theorem z8b {n m : Nat} (h : n ≤ m) {dst : Option Nat} {os : List AO} {z z' : Option (AV × List ADef × AHeap)} {x : AV × AHeap} (hzz : ∀ y, z = some y → z' = some y) (hz : q7s C fn ro T dst os k n z = some x) : q7s C fn ro T dst os k m z' = some x := by
 cases z with
 | none => cases hz
 | some z =>
  obtain ⟨v, ds', H'⟩ := z
  rw [hzz _ rfl]
  exact q3i h hz
theorem q3v {items items' : List AItem} {fn' : FuncId} {T' : Nat → AV} {ds' : List ADef} {ro' : Option Nat} {H1 : AHeap} (h : ∀ ex, q9q C ex { fn := fn, T := T, defers := ds, round := ro } items H = ex { fn := fn', T := T', defers := ds', round := ro' } items' H1) :
  Run C fn T ds ro items H Q = Run C fn' T' ds' ro' items' H1 Q := by
 apply propext
 constructor
 ·rintro ⟨n, r, H', he, hq⟩
  cases n with
  | zero => simp [exec] at he
  | succ n => simp only [exec, h] at he; exact ⟨n, r, H', he, hq⟩
 ·rintro ⟨n, r, H', he, hq⟩
  exact ⟨n + 1, r, H', by simp only [exec, h]; exact he, hq⟩
theorem q4u : Run C fn T ds ro (.code .skip :: k) H Q = Run C fn T ds ro k H Q := q3v fun _ => rfl
theorem x2f {l : Nat} : Run C fn T ds ro (.code (.label l) :: k) H Q = Run C fn T ds ro k H Q := q3v fun _ => rfl
theorem q1a {l : Nat} : Run C fn T ds ro (.inBlock l :: k) H Q = Run C fn T ds ro k H Q := q3v fun _ => rfl
theorem run_inLoop {c : AC} : Run C fn T ds ro (.inLoop c :: k) H Q = Run C fn T ds ro (.code c :: .inLoop c :: k) H Q := q3v fun _ => rfl
theorem q5z {a b : AC} : Run C fn T ds ro (.code (.seq a b) :: k) H Q = Run C fn T ds ro (.code a :: .code b :: k) H Q := q3v fun _ => rfl
theorem z5i {l : Nat} {a : AC} : Run C fn T ds ro (.code (.block l a) :: k) H Q = Run C fn T ds ro (.code a :: .inBlock l :: k) H Q := q3v fun _ => rfl
theorem run_loop {a : AC} : Run C fn T ds ro (.code (.loop a) :: k) H Q = Run C fn T ds ro (.code a :: .inLoop a :: k) H Q := q3v fun _ => rfl
theorem j2n {a : AC} : Run C fn T ds ro (.code (.loop a) :: k) H Q = Run C fn T ds ro (.inLoop a :: k) H Q := run_loop.trans run_inLoop.symm
theorem x2g {a : AC} : Run C fn T ds ro (.code (.scope a) :: k) H Q = Run C fn T ds ro (.code a :: .inScope a :: k) H Q := q3v fun _ => rfl
theorem x7w {c : Operand} {a b : AC} {t : Bool} (h : ev T c = some (.bool t)) : Run C fn T ds ro (.code (.cond c a b) :: k) H Q = if t = true then Run C fn T ds ro (.code a :: k) H Q else Run C fn T ds ro (.code b :: k) H Q := by
 rw [q3v (fn' := fn) (T' := T) (ds' := ds) (ro' := ro) (H1 := H) (items' := .code (if t then a else b) :: k) (fun ex => by simp only [q9q, h])]
 cases t <;> rfl
theorem x7x {id : Nat} {k' : List AItem} (h : z4j id k = some k') : Run C fn T ds ro (.code (.exit id) :: k) H Q = Run C fn T ds ro k' H Q := q3v fun ex => by simp only [q9q, h]
theorem q7a {id : Nat} {k' : List AItem} (h : z1r id k = some k') : Run C fn T ds ro (.code (.goto id) :: k) H Q = Run C fn T ds ro k' H Q := q3v fun ex => by simp only [q9q, h]
def q7t (C : Ctx) (fn : FuncId) (T : Nat → AV) (ds : List ADef) (ro : Option Nat) (id : Nat) (all k : List AItem) (H : AHeap) (Q : AV → AHeap → Prop) : Prop :=
 match z4j id k with
 | some k' => Run C fn T ds ro k' H Q
 | none => Run C fn T ds ro (.code (.exit id) :: all) H Q
theorem q2i {id : Nat} : Run C fn T ds ro (.code (.exit id) :: k) H Q = q7t C fn T ds ro id k k H Q := by
 unfold q7t
 split
 ·rename_i k' h; exact x7x h
 ·rfl
theorem q7u {id : Nat} {all : List AItem} : q7t C fn T ds ro id all (.inBlock id :: k) H Q = Run C fn T ds ro k H Q := by
 unfold q7t
 simp [z4j]
theorem q7v {id : Nat} {c : AC} {all : List AItem} : q7t C fn T ds ro id all (.code c :: k) H Q = q7t C fn T ds ro id all k H Q := rfl
theorem q5e {id : Nat} {c : AC} {all : List AItem} : q7t C fn T ds ro id all (.inLoop c :: k) H Q = q7t C fn T ds ro id all k H Q := rfl
def q0p (C : Ctx) (f : FuncId) : Option (List ResultVar) := (C.FT f).map (·.results)
def q0h (C : Ctx) (f : FuncId) : Option AC := (C.FT f).map (·.body)
def RunRes (C : Ctx) (T : Nat → AV) (H : AHeap) (Q : AV → AHeap → Prop) : Option (List ResultVar) → Prop
 | some rs => match resultsA C T H rs with
  | some vs => Q (oneOf vs) H
  | none => False
 | none => False
theorem j2o {n : Nat} : (∃ r H', q5b C (cln C n) { fn := fn, T := T, defers := [], round := none } none H = some (r, H') ∧ Q r H') ↔ RunRes C T H Q (q0p C fn) := by
 simp only [q5b, z7p, if_true, q1i, q0p]
 cases C.FT fn with
 | none => simp [RunRes]
 | some fi =>
  simp only [Option.map_some, RunRes]
  cases resultsA C T H fi.results with
  | none => simp
  | some vs =>
   simp only [Option.map_some, Option.some.injEq, Prod.mk.injEq]
   constructor
   ·rintro ⟨r, H', ⟨rfl, rfl⟩, hq⟩; exact hq
   ·intro hq; exact ⟨_, _, ⟨rfl, rfl⟩, hq⟩
theorem y3u : Run C fn T [] none [] H Q = RunRes C T H Q (q0p C fn) := by
 rw [← j2o (n := 0)]
 apply propext
 constructor
 ·rintro ⟨n, r, H', he, hq⟩
  cases n with
  | zero => simp [exec] at he
  | succ n => exact ⟨r, H', he, hq⟩
 ·rintro ⟨r, H', he, hq⟩
  exact ⟨1, r, H', he, hq⟩
theorem j5x : Run C fn T [] none (.code .ret :: k) H Q = RunRes C T H Q (q0p C fn) := by
 rw [← j2o (n := 0)]
 apply propext
 constructor
 ·rintro ⟨n, r, H', he, hq⟩
  cases n with
  | zero => simp [exec] at he
  | succ n => exact ⟨r, H', he, hq⟩
 ·rintro ⟨r, H', he, hq⟩
  exact ⟨1, r, H', he, hq⟩
theorem z1z {os : List AO} : Run C fn T ds ro (.code (.region os []) :: k) H Q = q0d C fn T ds ro os k H Q := by
 have e : ∀ n, exec C (n + 1) { fn := fn, T := T, defers := ds, round := ro } (.code (.region os []) :: k) H = q4d C fn ro k n (q1z C (cln C n) ro.isSome os T ds H) := fun n => by
  simp only [exec, q9q]
  have hd : j9f C (q9d C (exec C n)) ro.isSome os [] T ds H = true := by cases os <;> rfl
  simp only [hd, if_true]
  cases q1z C (q9d C (exec C n)) ro.isSome os T ds H <;> rfl
 apply propext
 constructor
 ·rintro ⟨n, r, H', he, hq⟩
  cases n with
  | zero => simp [exec] at he
  | succ n => rw [e] at he; exact ⟨n, r, H', he, hq⟩
 ·rintro ⟨n, r, H', he, hq⟩
  exact ⟨n + 1, r, H', by rw [e]; exact he, hq⟩
def Dyn (C : Ctx) (ro : Option Nat) (os : List AO) (chk : List (List Nat)) (T : Nat → AV) (ds : List ADef) (H : AHeap) : Prop := ∃ n, j9f C (cln C n) ro.isSome os chk T ds H = true
theorem q4e {os : List AO} {chk : List (List Nat)} : Run C fn T ds ro (.code (.region os chk) :: k) H Q = (Dyn C ro os chk T ds H ∧ q0d C fn T ds ro os k H Q) := by
 apply propext
 constructor
 ·rintro ⟨n, r, H', he, hq⟩
  cases n with
  | zero => simp [exec] at he
  | succ n =>
   simp only [exec, q9q] at he
   split at he
   ·rename_i T' ds' H1 hr
    split at he
    ·rename_i hd
     exact ⟨⟨n, hd⟩, n, r, H', by rw [show q1z C (cln C n) ro.isSome os T ds H = _ from hr]; exact he, hq⟩
    ·cases he
   ·cases he
 ·rintro ⟨⟨m, hd⟩, n, r, H', he, hq⟩
  refine ⟨max m n + 1, r, H', ?_, hq⟩
  have he' := q3i (Nat.le_max_right m n) he
  have hd' := x2d (x2e (Nat.le_max_left m n)) hd
  simp only [exec, q9q]
  split
  ·rename_i T' ds' H1 hr
   rw [show q1z C (cln C (max m n)) ro.isSome os T ds H = _ from hr] at he'
   rw [if_pos hd']
   exact he'
  ·rename_i hr
   rw [show q1z C (cln C (max m n)) ro.isSome os T ds H = _ from hr] at he'
   cases he'
theorem y0p : q0d C fn T ds ro [] k H Q = Run C fn T ds ro k H Q := rfl
theorem x2h {dst : Option Nat} {op : Op} {ty : TypeId} {os : List AO} : q0d C fn T ds ro ({ dst := dst, op := op, ty := ty, guard := none } :: os) k H Q = q2e C fn T ds ro op dst os k H Q := by
 unfold q0d q2e
 have e : ∀ n, q4d C fn ro k n (q1z C (cln C n) ro.isSome ({ dst := dst, op := op, ty := ty, guard := none } :: os) T ds H) = q7s C fn ro T dst os k n (q1l C (cln C n) ro.isSome T ds H op) := fun n => by
  simp only [q1z, q3f, q4o]
  cases q1l C (cln C n) ro.isSome T ds H op with
  | none => rfl
  | some x => obtain ⟨v, ds', H'⟩ := x; rfl
 simp only [e]
theorem x7y {dst : Option Nat} {op : Op} {ty : TypeId} {j : Nat} {want t : Bool} {os : List AO} (h : T j = .bool t) :
  q0d C fn T ds ro ({ dst := dst, op := op, ty := ty, guard := some (j, want) } :: os) k H Q = if t = want then q2e C fn T ds ro op dst os k H Q else q0d C fn (putA T dst .undef) ds ro os k H Q := by
 by_cases ht : t = want
 ·rw [if_pos ht]
  unfold q0d q2e
  have e : ∀ n, q4d C fn ro k n (q1z C (cln C n) ro.isSome ({ dst := dst, op := op, ty := ty, guard := some (j, want) } :: os) T ds H) = q7s C fn ro T dst os k n (q1l C (cln C n) ro.isSome T ds H op) := fun n => by
   simp only [q1z, q3f, q4o, h, ht, beq_self_eq_true]
   cases q1l C (cln C n) ro.isSome T ds H op with
   | none => rfl
   | some x => obtain ⟨v, ds', H'⟩ := x; rfl
  simp only [e]
 ·rw [if_neg ht]
  unfold q0d
  have e : ∀ n, q4d C fn ro k n (q1z C (cln C n) ro.isSome ({ dst := dst, op := op, ty := ty, guard := some (j, want) } :: os) T ds H) = q4d C fn ro k n (q1z C (cln C n) ro.isSome os (putA T dst .undef) ds H) := fun n => by
   have : (t == want) = false := by simpa using ht
   simp only [q1z, q3f, q4o, h, this]
  simp only [e]
def j4r (C : Ctx) (fn : FuncId) (T : Nat → AV) (ds : List ADef) (ro : Option Nat) (dst : Option Nat) (os : List AO) (k : List AItem) (H : AHeap) (Q : AV → AHeap → Prop) : Option AV → Prop
 | some v => q0d C fn (putA T dst v) ds ro os k H Q
 | none => False
def q6a (C : Ctx) (fn : FuncId) (T : Nat → AV) (ds : List ADef) (ro : Option Nat) (dst : Option Nat) (os : List AO) (k : List AItem) (Q : AV → AHeap → Prop) : Option (AV × AHeap) → Prop
 | some (v, H) => q0d C fn (putA T dst v) ds ro os k H Q
 | none => False
theorem x2i {op : Op} {dst : Option Nat} {os : List AO} {z : Option (AV × AHeap)} (h : ∀ cl, q1l C cl ro.isSome T ds H op = z0s ds z) : q2e C fn T ds ro op dst os k H Q = q6a C fn T ds ro dst os k Q z := by
 unfold q2e
 simp only [h]
 cases z with
 | none => simp [z0s, q7s, q6a]
 | some z => obtain ⟨v, H1⟩ := z; rfl
theorem q5f {v : AV} {dst : Option Nat} {os : List AO} : j4r C fn T ds ro dst os k H Q (some v) = q0d C fn (putA T dst v) ds ro os k H Q := rfl
theorem q0i {v : AV} {dst : Option Nat} {os : List AO} : q6a C fn T ds ro dst os k Q (some (v, H)) = q0d C fn (putA T dst v) ds ro os k H Q := rfl
theorem q2g {op : Op} {dst : Option Nat} {os : List AO} (h : q1c op = true) : q2e C fn T ds ro op dst os k H Q = j4r C fn T ds ro dst os k H Q (primP C T op) := by
 rw [x2i (z := (primP C T op).map (·, H))]
 ·cases primP C T op <;> rfl
 ·intro cl
  unfold q1l
  split
  ·simp [q1c] at h
  ·simp [q1c] at h
  ·simp only [q7f, h, if_true]
   cases primP C T op <;> rfl
def z8c : Op → Bool
 | .call _ | .defer _ => false
 | _ => true
theorem q4q {op : Op} {dst : Option Nat} {os : List AO} (h : q1c op = false) (h' : z8c op = true) : q2e C fn T ds ro op dst os k H Q = q6a C fn T ds ro dst os k Q (primM C T H op) := by
 rw [x2i (z := primM C T H op)]
 ·intro cl
  unfold q1l
  split
  ·simp [z8c] at h'
  ·simp [z8c] at h'
  ·simp only [q7f, h, Bool.false_eq_true, if_false]
   cases primM C T H _ with
   | none => rfl
   | some z => obtain ⟨v, H1⟩ := z; rfl
section
variable {dst : Option Nat} {os : List AO}
theorem j7j {x : Operand} : q2e C fn T ds ro (.move x) dst os k H Q = j4r C fn T ds ro dst os k H Q (ev T x) := q2g rfl
theorem z8d {x : Operand} : q2e C fn T ds ro (.assign x) dst os k H Q = j4r C fn T ds ro dst os k H Q (ev T x) := q2g rfl
theorem j7k {c a b : Operand} : q2e C fn T ds ro (.pick c a b) dst os k H Q = j4r C fn T ds ro dst os k H Q (primP C T (.pick c a b)) := q2g rfl
theorem j2p {t : TypeId} {ps : Array (Nat × Operand)} : q2e C fn T ds ro (.build t ps) dst os k H Q = j4r C fn T ds ro dst os k H Q (primP C T (.build t ps)) := q2g rfl
theorem z2s {x : Operand} : q2e C fn T ds ro (.nilCheck x) dst os k H Q = j4r C fn T ds ro dst os k H Q (primP C T (.nilCheck x)) := q2g rfl
theorem j2q {op : BinOp} {t ty : TypeId} {x y : Operand} : q2e C fn T ds ro (.binOp op t x y ty) dst os k H Q = j4r C fn T ds ro dst os k H Q (primP C T (.binOp op t x y ty)) := q2g rfl
theorem j7l {op : UnOp} {t : TypeId} {x : Operand} : q2e C fn T ds ro (.unOp op t x) dst os k H Q = j4r C fn T ds ro dst os k H Q (primP C T (.unOp op t x)) := q2g rfl
theorem z2t {f : Fn} {a c : Array Operand} : q2e C fn T ds ro (.makeFunc f a c) dst os k H Q = j4r C fn T ds ro dst os k H Q (primP C T (.makeFunc f a c)) := q2g rfl
theorem j2r {t : TypeId} {x : Operand} {lo hi mx : Option Operand} : q2e C fn T ds ro (.slice t x lo hi mx) dst os k H Q = j4r C fn T ds ro dst os k H Q (primP C T (.slice t x lo hi mx)) := q2g rfl
theorem z0t {t : TypeId} {x : Operand} {f : Nat} : q2e C fn T ds ro (.fieldAddr t x f) dst os k H Q = j4r C fn T ds ro dst os k H Q (primP C T (.fieldAddr t x f)) := q2g rfl
theorem j2s {t : TypeId} {x : Operand} {f : Nat} : q2e C fn T ds ro (.field t x f) dst os k H Q = j4r C fn T ds ro dst os k H Q (primP C T (.field t x f)) := q2g rfl
theorem z0u {t : TypeId} {x y : Operand} : q2e C fn T ds ro (.indexAddr t x y) dst os k H Q = j4r C fn T ds ro dst os k H Q (primP C T (.indexAddr t x y)) := q2g rfl
theorem j2t {t : TypeId} {x y : Operand} : q2e C fn T ds ro (.index t x y) dst os k H Q = j4r C fn T ds ro dst os k H Q (primP C T (.index t x y)) := q2g rfl
theorem z5j {x : Operand} {i : Nat} : q2e C fn T ds ro (.extract x i) dst os k H Q = j4r C fn T ds ro dst os k H Q (primP C T (.extract x i)) := q2g rfl
theorem j2u {t : TypeId} : q2e C fn T ds ro (.alloc t) dst os k H Q = q6a C fn T ds ro dst os k Q (primM C T H (.alloc t)) := q4q rfl rfl
theorem x2j {t : TypeId} {x : Operand} : q2e C fn T ds ro (.box t x) dst os k H Q = q6a C fn T ds ro dst os k Q (primM C T H (.box t x)) := q4q rfl rfl
theorem q9l {t : TypeId} {n : Nat} {ps : Array (Nat × Operand)} : q2e C fn T ds ro (.buildSlice t n ps) dst os k H Q = q6a C fn T ds ro dst os k Q (primM C T H (.buildSlice t n ps)) := q4q rfl rfl
theorem j7m {t : TypeId} {x : Operand} : q2e C fn T ds ro (.load t x) dst os k H Q = q6a C fn T ds ro dst os k Q (primM C T H (.load t x)) := q4q rfl rfl
theorem j2v {t : TypeId} {x y : Operand} : q2e C fn T ds ro (.store t x y) dst os k H Q = q6a C fn T ds ro dst os k Q (primM C T H (.store t x y)) := q4q rfl rfl
theorem z5k {s d : TypeId} {x : Operand} : q2e C fn T ds ro (.convert s d x) dst os k H Q = q6a C fn T ds ro dst os k Q (primM C T H (.convert s d x)) := q4q rfl rfl
theorem z0v {t : TypeId} {x y : Operand} : q2e C fn T ds ro (.makeSlice t x y) dst os k H Q = q6a C fn T ds ro dst os k Q (primM C T H (.makeSlice t x y)) := q4q rfl rfl
theorem x2k {t : TypeId} {x : Operand} : q2e C fn T ds ro (.range t x) dst os k H Q = q6a C fn T ds ro dst os k Q (primM C T H (.range t x)) := q4q rfl rfl
theorem z5l {t : TypeId} {r : Option Operand} : q2e C fn T ds ro (.makeMap t r) dst os k H Q = q6a C fn T ds ro dst os k Q (primM C T H (.makeMap t r)) := q4q rfl rfl
theorem z8e {t : TypeId} {x y z : Operand} : q2e C fn T ds ro (.insert t x y z) dst os k H Q = q6a C fn T ds ro dst os k Q (primM C T H (.insert t x y z)) := q4q rfl rfl
theorem z8f {t : TypeId} {x y : Operand} {b : Bool} : q2e C fn T ds ro (.lookup t x y b) dst os k H Q = q6a C fn T ds ro dst os k Q (primM C T H (.lookup t x y b)) := q4q rfl rfl
theorem q8p {x : Operand} {b : Bool} : q2e C fn T ds ro (.next x b) dst os k H Q = q6a C fn T ds ro dst os k Q (primM C T H (.next x b)) := q4q rfl rfl
theorem j5y {b : Builtin} {args : Array Operand} {ts : Array TypeId} {vs : List AV} (h : evs T args.toList = some vs) : q2e C fn T ds ro (.call { callee := .builtin b, args := args, argTypes := ts }) dst os k H Q = q6a C fn T ds ro dst os k Q (builtinA C H b ts.toList vs) := by
 rw [x2i (z := builtinA C H b ts.toList vs)]
 ·intro cl
  simp only [q1l, q7k, h]
  cases builtinA C H b ts.toList vs with
  | none => rfl
  | some z => obtain ⟨v, H1⟩ := z; rfl
theorem x7z {x : Operand} {args : Array Operand} {ts : Array TypeId} {vs first caps : List AV} {f : FuncId} (h : evs T args.toList = some vs) (hf : ev T x = some (.fn f first caps)) :
  q2e C fn T ds ro (.call { callee := .value x, args := args, argTypes := ts }) dst os k H Q = q0g C fn T ds ro f (first ++ vs ++ caps) dst os k H Q := by
 unfold q2e q0g
 have e : ∀ n, q1l C (cln C n) ro.isSome T ds H (.call { callee := .value x, args := args, argTypes := ts }) = z0s ds (q4i C (cln C n) f (first ++ vs ++ caps) H) := fun n => by
  simp only [q1l, q7k, h, hf, z9g]
  cases q4i C (cln C n) f (first ++ vs ++ caps) H with
  | none => rfl
  | some z => obtain ⟨v, H1⟩ := z; rfl
 simp only [e]
theorem x2l {x : Operand} {args : Array Operand} {ts : Array TypeId} {vs first caps : List AV} {f : FuncId} (h : evs T args.toList = some vs) (hf : ev T x = some (.fn f first caps)) :
  q2e C fn T ds none (.defer { callee := .value x, args := args, argTypes := ts }) dst os k H Q = q0d C fn (putA T dst .undef) (.call (.fn f first caps) vs :: ds) none os k H Q := by
 unfold q2e
 have e : ∀ n, q1l C (cln C n) (none : Option Nat).isSome T ds H (.defer { callee := .value x, args := args, argTypes := ts }) = some (.undef, .call (.fn f first caps) vs :: ds, H) := fun n => by
  simp only [q1l, h, hf, Option.isSome_none, Bool.false_eq_true, if_false]
 simp only [e]
 rfl
end
def q0k (C : Ctx) (f : FuncId) (args : List AV) (r : AV) : Prop := ∃ n, z7c C n f args = some r
theorem j7n {n m : Nat} (h : n ≤ m) {f : FuncId} {args : List AV} {r : AV} (hp : z7c C n f args = some r) : z7c C m f args = some r := by
 unfold z7c at hp ⊢
 split at hp
 ·rename_i r0 H' hc
  rw [show (y8k C m).call f args AHeap.empty = some (r0, H') from (x2e h).call _ _ _ _ hc]
  exact hp
 ·cases hp
theorem q0a {f : FuncId} {args : List AV} {r : AV} {dst : Option Nat} {os : List AO} (hp : C.pure f = true) (hf : args.all AV.flat = true) (h : q0k C f args r) :
  q0g C fn T ds ro f args dst os k H Q = q0d C fn (putA T dst r) ds ro os k H Q := by
 obtain ⟨n0, h0⟩ := h
 have e : ∀ n, n0 ≤ n → q4i C (cln C n) f args H = some (r, H) := fun n hn => by
  have hpc := j7n hn h0
  unfold z7c at hpc
  unfold q4i
  rw [if_pos hp, if_pos hf]
  split at hpc
  ·rename_i r0 H' hc
   rw [show (cln C n).call f args AHeap.empty = some (r0, H') from hc]
   simp only [hpc, Option.map_some]
  ·cases hpc
 unfold q0g q0d
 apply propext
 constructor
 ·rintro ⟨n, r', H', he, hq⟩
  refine ⟨max n0 n, r', H', ?_, hq⟩
  have he' := z8b (Nat.le_max_right n0 n) (z' := z0s ds (q4i C (cln C (max n0 n)) f args H)) (fun y hy => by
   cases hc : q4i C (cln C n) f args H with
   | none => rw [hc] at hy; cases hy
   | some z => rw [hc] at hy; rw [z3z (x2e (Nat.le_max_right n0 n)) hc]; exact hy) he
  rw [e _ (Nat.le_max_left n0 n)] at he'
  exact he'
 ·rintro ⟨n, r', H', he, hq⟩
  refine ⟨max n0 n, r', H', ?_, hq⟩
  rw [e _ (Nat.le_max_left n0 n)]
  exact q3i (Nat.le_max_right n0 n) he
theorem j5z {f : FuncId} {args args' : List AV} {r : AV} {dst : Option Nat} {os : List AO} (hp : C.pure f = true) (hf : args.all AV.flat = false) (hz : q3t (freeze H) args = some args') (hs : r.solid = true) (h : q0k C f args' r) :
  q0g C fn T ds ro f args dst os k H Q = q0d C fn (putA T dst r) ds ro os k H Q := by
 obtain ⟨n0, h0⟩ := h
 have e : ∀ n, n0 ≤ n → q4i C (cln C n) f args H = some (r, H) := fun n hn => by
  have hpc := j7n hn h0
  unfold z7c at hpc
  unfold q4i
  rw [if_pos hp, if_neg (by simp [hf])]
  simp only [hz]
  split at hpc
  ·rename_i r0 H' hc
   rw [show (cln C n).call f args' AHeap.empty = some (r0, H') from hc]
   simp only [hpc, hs, if_true]
  ·cases hpc
 unfold q0g q0d
 apply propext
 constructor
 ·rintro ⟨n, r', H', he, hq⟩
  refine ⟨max n0 n, r', H', ?_, hq⟩
  have he' := z8b (Nat.le_max_right n0 n) (z' := z0s ds (q4i C (cln C (max n0 n)) f args H)) (fun y hy => by
   cases hc : q4i C (cln C n) f args H with
   | none => rw [hc] at hy; cases hy
   | some z => rw [hc] at hy; rw [z3z (x2e (Nat.le_max_right n0 n)) hc]; exact hy) he
  rw [e _ (Nat.le_max_left n0 n)] at he'
  exact he'
 ·rintro ⟨n, r', H', he, hq⟩
  refine ⟨max n0 n, r', H', ?_, hq⟩
  rw [e _ (Nat.le_max_left n0 n)]
  exact q3i (Nat.le_max_right n0 n) he
theorem q0s {f : FuncId} {args : List AV} {body : AC} {dst : Option Nat} {os : List AO} (hp : C.pure f = false) (hx : C.ext f = none) (hb : q0h C f = some body) (h : Run C f (q1g args) [] none [.code body] H (fun r H1 => q0d C fn (putA T dst r) ds ro os k H1 Q)) :
  q0g C fn T ds ro f args dst os k H Q := by
 obtain ⟨n, r, H1, he, m, r', H', he', hq⟩ := h
 refine ⟨max n m, r', H', ?_, hq⟩
 unfold q0h at hb
 simp only [Option.map_eq_some_iff] at hb
 obtain ⟨fi, hfi, rfl⟩ := hb
 have hc : q4i C (cln C (max n m)) f args H = some (r, H1) := by
  unfold q4i
  rw [if_neg (by simp [hp])]
  show (q9d C (exec C (max n m))).call f args H = _
  simp only [q9d, hx, hfi]
  exact z9z (Nat.le_max_left n m) _ _ _ _ he
 rw [hc]
 exact q3i (Nat.le_max_right n m) he'
theorem q0c {f : FuncId} {args : List AV} {body : AC} {r : AV} (hx : C.ext f = none) (hb : q0h C f = some body) (h : Run C f (q1g args) [] none [.code body] AHeap.empty (fun r0 H' => freeze H' r0 = some r)) : q0k C f args r := by
 obtain ⟨n, r0, H', he, hq⟩ := h
 unfold q0h at hb
 simp only [Option.map_eq_some_iff] at hb
 obtain ⟨fi, hfi, rfl⟩ := hb
 refine ⟨n, ?_⟩
 unfold z7c
 have hc : (y8k C n).call f args AHeap.empty = some (r0, H') := by
  show (q9d C (exec C n)).call f args AHeap.empty = _
  simp only [q9d, hx, hfi]
  exact he
 rw [hc]
 exact hq
theorem Run.mono {items : List AItem} {Q' : AV → AHeap → Prop} (h : Run C fn T ds ro items H Q) (hq : ∀ r H', Q r H' → Q' r H') : Run C fn T ds ro items H Q' := by
 obtain ⟨n, r, H', he, hq'⟩ := h
 exact ⟨n, r, H', he, hq _ _ hq'⟩
section
variable {dst : Option Nat} {os : List AO} {a b : AC}
def j0a (C : Ctx) (fn : FuncId) (T : Nat → AV) (ds : List ADef) (ro : Option Nat) (c : Operand) (v : Option AV) (a b : AC) (k : List AItem) (H : AHeap) (Q : AV → AHeap → Prop) : Prop :=
 match v with
 | some (.bool t) => if t = true then Run C fn T ds ro (.code a :: k) H Q else Run C fn T ds ro (.code b :: k) H Q
 | _ => Run C fn T ds ro (.code (.cond c a b) :: k) H Q
theorem z5m {c : Operand} : Run C fn T ds ro (.code (.cond c a b) :: k) H Q = j0a C fn T ds ro c (ev T c) a b k H Q := by
 unfold j0a
 split
 ·rename_i t ht; exact x7w ht
 ·rfl
theorem z2u {c : Operand} {t : Bool} : j0a C fn T ds ro c (some (.bool t)) a b k H Q = if t = true then Run C fn T ds ro (.code a :: k) H Q else Run C fn T ds ro (.code b :: k) H Q := rfl
def z4a (C : Ctx) (fn : FuncId) (T : Nat → AV) (ds : List ADef) (ro : Option Nat) (v : AV) (o : AO) (want : Bool) (os : List AO) (k : List AItem) (H : AHeap) (Q : AV → AHeap → Prop) : Prop :=
 match v with
 | .bool t => if t = want then q2e C fn T ds ro o.op o.dst os k H Q else q0d C fn (putA T o.dst .undef) ds ro os k H Q
 | .undef => q0d C fn (putA T o.dst .undef) ds ro os k H Q
 | _ => q0d C fn T ds ro (o :: os) k H Q
theorem j2w {op : Op} {ty : TypeId} {j : Nat} {want : Bool} : q0d C fn T ds ro ({ dst := dst, op := op, ty := ty, guard := some (j, want) } :: os) k H Q = z4a C fn T ds ro (T j) { dst := dst, op := op, ty := ty, guard := some (j, want) } want os k H Q := by
 unfold z4a
 split
 ·rename_i t ht; exact x7y ht
 ·rename_i h
  unfold q0d
  have e : ∀ n, q4d C fn ro k n (q1z C (cln C n) ro.isSome ({ dst := dst, op := op, ty := ty, guard := some (j, want) } :: os) T ds H) = q4d C fn ro k n (q1z C (cln C n) ro.isSome os (putA T dst .undef) ds H) := fun n => by
   simp only [q1z, q3f, q4o, h]
  simp only [e]
 ·rfl
theorem z0w {op : Op} {ty : TypeId} {g : Option (Nat × Bool)} {want t : Bool} : z4a C fn T ds ro (.bool t) { dst := dst, op := op, ty := ty, guard := g } want os k H Q = if t = want then q2e C fn T ds ro op dst os k H Q else q0d C fn (putA T dst .undef) ds ro os k H Q := rfl
theorem q9m {op : Op} {ty : TypeId} {g : Option (Nat × Bool)} {want : Bool} : z4a C fn T ds ro .undef { dst := dst, op := op, ty := ty, guard := g } want os k H Q = q0d C fn (putA T dst .undef) ds ro os k H Q := rfl
def RunB (C : Ctx) (fn : FuncId) (T : Nat → AV) (ds : List ADef) (ro : Option Nat) (b : Builtin) (ts : List TypeId) (op : Op) (dst : Option Nat) (os : List AO) (k : List AItem) (H : AHeap) (Q : AV → AHeap → Prop) : Option (List AV) → Prop
 | some vs => q6a C fn T ds ro dst os k Q (builtinA C H b ts vs)
 | none => q2e C fn T ds ro op dst os k H Q
theorem z2v {b : Builtin} {args : Array Operand} {ts : Array TypeId} : q2e C fn T ds ro (.call { callee := .builtin b, args := args, argTypes := ts }) dst os k H Q = RunB C fn T ds ro b ts.toList (.call { callee := .builtin b, args := args, argTypes := ts }) dst os k H Q (evs T args.toList) := by
 cases h : evs T args.toList with
 | none => rfl
 | some vs => exact j5y h
theorem j2x {b : Builtin} {ts : List TypeId} {op : Op} {vs : List AV} : RunB C fn T ds ro b ts op dst os k H Q (some vs) = q6a C fn T ds ro dst os k Q (builtinA C H b ts vs) := rfl
def w8j (C : Ctx) (fn : FuncId) (T : Nat → AV) (ds : List ADef) (ro : Option Nat) (op : Op) (dst : Option Nat) (os : List AO) (k : List AItem) (H : AHeap) (Q : AV → AHeap → Prop) : Option AV → Option (List AV) → Prop
 | some (.fn f first caps), some vs => q0g C fn T ds ro f (first ++ vs ++ caps) dst os k H Q
 | _, _ => q2e C fn T ds ro op dst os k H Q
theorem j2y {x : Operand} {args : Array Operand} {ts : Array TypeId} : q2e C fn T ds ro (.call { callee := .value x, args := args, argTypes := ts }) dst os k H Q = w8j C fn T ds ro (.call { callee := .value x, args := args, argTypes := ts }) dst os k H Q (ev T x) (evs T args.toList) := by
 unfold w8j
 split
 ·rename_i f first caps vs h1 h2; exact x7z h2 h1
 ·rfl
theorem x2m {op : Op} {f : FuncId} {first caps vs : List AV} : w8j C fn T ds ro op dst os k H Q (some (.fn f first caps)) (some vs) = q0g C fn T ds ro f (first ++ vs ++ caps) dst os k H Q := rfl
end
section
variable {dst : Option Nat} {os : List AO} {cs : List (List Nat)}
def j2z (T : Nat → AV) (op : Op) (c : List Nat) : Bool := c.all fun t => match adT op with
 | some t' => z0k (T t) (T t')
 | none => false
def q6n (C : Ctx) (ro : Option Nat) (op : Op) (dst : Option Nat) (os : List AO) (cs : List (List Nat)) (T : Nat → AV) (ds : List ADef) (H : AHeap) : Prop :=
 ∃ n, (match q1l C (cln C n) ro.isSome T ds H op with
  | some (v, ds', H') => j9f C (cln C n) ro.isSome os cs (putA T dst v) ds' H'
  | none => false) = true
def j0b (C : Ctx) (ro : Option Nat) (dst : Option Nat) (os : List AO) (cs : List (List Nat)) (T : Nat → AV) (ds : List ADef) : Option (AV × AHeap) → Prop
 | some (v, H) => Dyn C ro os cs (putA T dst v) ds H
 | none => False
theorem q9x : Dyn C ro os [] T ds H = True := by
 apply propext
 exact ⟨fun _ => trivial, fun _ => ⟨0, by cases os <;> rfl⟩⟩
theorem x2n {c : List Nat} : Dyn C ro [] (c :: cs) T ds H = True := by
 apply propext
 exact ⟨fun _ => trivial, fun _ => ⟨0, rfl⟩⟩
theorem q8q {op : Op} {ty : TypeId} {c : List Nat} : Dyn C ro ({ dst := dst, op := op, ty := ty, guard := none } :: os) (c :: cs) T ds H = (j2z T op c = true ∧ q6n C ro op dst os cs T ds H) := by
 apply propext
 unfold Dyn q6n j2z
 simp only [j9f, q3f, q4o, Bool.and_eq_true]
 constructor
 ·rintro ⟨n, h1, h2⟩
  refine ⟨h1, n, ?_⟩
  cases ho : q1l C (cln C n) ro.isSome T ds H op with
  | none => rw [ho] at h2; exact h2
  | some x => obtain ⟨v, ds', H'⟩ := x; rw [ho] at h2; exact h2
 ·rintro ⟨h1, n, h2⟩
  refine ⟨n, h1, ?_⟩
  cases ho : q1l C (cln C n) ro.isSome T ds H op with
  | none => rw [ho] at h2; exact h2
  | some x => obtain ⟨v, ds', H'⟩ := x; rw [ho] at h2; exact h2
theorem y0q {op : Op} {z : Option (AV × AHeap)} (h : ∀ cl, q1l C cl ro.isSome T ds H op = z0s ds z) : q6n C ro op dst os cs T ds H = j0b C ro dst os cs T ds z := by
 unfold q6n
 simp only [h]
 cases z with
 | none => simp [z0s, j0b]
 | some z => obtain ⟨v, H1⟩ := z; rfl
theorem q3w {op : Op} (h : q1c op = true) : q6n C ro op dst os cs T ds H = j0b C ro dst os cs T ds ((primP C T op).map (·, H)) := by
 refine y0q fun cl => ?_
 unfold q1l
 split
 ·simp [q1c] at h
 ·simp [q1c] at h
 ·simp only [q7f, h, if_true]
  cases primP C T op <;> rfl
theorem z5n {op : Op} (h : q1c op = false) (h' : z8c op = true) : q6n C ro op dst os cs T ds H = j0b C ro dst os cs T ds (primM C T H op) := by
 refine y0q fun cl => ?_
 unfold q1l
 split
 ·simp [z8c] at h'
 ·simp [z8c] at h'
 ·simp only [q7f, h, Bool.false_eq_true, if_false]
  cases primM C T H _ with
  | none => rfl
  | some z => obtain ⟨v, H1⟩ := z; rfl
theorem j7o {x : Operand} : q6n C ro (.move x) dst os cs T ds H = j0b C ro dst os cs T ds ((primP C T (.move x)).map (·, H)) := q3w rfl
theorem z8g {x : Operand} : q6n C ro (.assign x) dst os cs T ds H = j0b C ro dst os cs T ds ((primP C T (.assign x)).map (·, H)) := q3w rfl
theorem j3a {t : TypeId} {ps : Array (Nat × Operand)} : q6n C ro (.build t ps) dst os cs T ds H = j0b C ro dst os cs T ds ((primP C T (.build t ps)).map (·, H)) := q3w rfl
theorem z2w {x : Operand} : q6n C ro (.nilCheck x) dst os cs T ds H = j0b C ro dst os cs T ds ((primP C T (.nilCheck x)).map (·, H)) := q3w rfl
theorem z0x {t : TypeId} {x : Operand} {f : Nat} : q6n C ro (.fieldAddr t x f) dst os cs T ds H = j0b C ro dst os cs T ds ((primP C T (.fieldAddr t x f)).map (·, H)) := q3w rfl
theorem j3b {t : TypeId} {x : Operand} {f : Nat} : q6n C ro (.field t x f) dst os cs T ds H = j0b C ro dst os cs T ds ((primP C T (.field t x f)).map (·, H)) := q3w rfl
theorem z0y {t : TypeId} {x y : Operand} : q6n C ro (.indexAddr t x y) dst os cs T ds H = j0b C ro dst os cs T ds ((primP C T (.indexAddr t x y)).map (·, H)) := q3w rfl
theorem j3c {o : BinOp} {t : TypeId} {x y : Operand} {ty : TypeId} : q6n C ro (.binOp o t x y ty) dst os cs T ds H = j0b C ro dst os cs T ds ((primP C T (.binOp o t x y ty)).map (·, H)) := q3w rfl
theorem z5o {x : Operand} {i : Nat} : q6n C ro (.extract x i) dst os cs T ds H = j0b C ro dst os cs T ds ((primP C T (.extract x i)).map (·, H)) := q3w rfl
theorem j7p {t : TypeId} {x : Operand} : q6n C ro (.load t x) dst os cs T ds H = j0b C ro dst os cs T ds (primM C T H (.load t x)) := z5n rfl rfl
theorem j3d {t : TypeId} {x y : Operand} : q6n C ro (.store t x y) dst os cs T ds H = j0b C ro dst os cs T ds (primM C T H (.store t x y)) := z5n rfl rfl
theorem j3e {t : TypeId} : q6n C ro (.alloc t) dst os cs T ds H = j0b C ro dst os cs T ds (primM C T H (.alloc t)) := z5n rfl rfl
theorem x2o {t : TypeId} {x : Operand} : q6n C ro (.box t x) dst os cs T ds H = j0b C ro dst os cs T ds (primM C T H (.box t x)) := z5n rfl rfl
theorem q9n {t : TypeId} {n : Nat} {ps : Array (Nat × Operand)} : q6n C ro (.buildSlice t n ps) dst os cs T ds H = j0b C ro dst os cs T ds (primM C T H (.buildSlice t n ps)) := z5n rfl rfl
theorem j3f {v : AV} : j0b C ro dst os cs T ds (some (v, H)) = Dyn C ro os cs (putA T dst v) ds H := rfl
theorem x2p {op : Op} : j2z T op [] = true := rfl
theorem j7q {op : Op} {t : Nat} {c : List Nat} : j2z T op (t :: c) = ((match adT op with
 | some t' => z0k (T t) (T t')
 | none => false) && j2z T op c) := rfl
theorem j3g {b b' k k' i i' j j' : Nat} : z0k (.ptr b k i j) (.ptr b' k' i' j') = (b != b') := rfl
end
end Go.BX
namespace Go.BX
section
variable (C : Ctx) (f : FuncId)
end
section
variable (C : Ctx) (f : FuncId)
abbrev SeqE (c a b : AC) : Prop := ∀ (T : Nat → AV) (ds : List ADef) (ro : Option Nat) (k : List AItem) (H : AHeap) (Q : AV → AHeap → Prop), Run C f T ds ro (.code c :: k) H Q = Run C f T ds ro (.code a :: .code b :: k) H Q
abbrev w8k (c : AC) : Prop := ∀ (T : Nat → AV) (ds : List ADef) (ro : Option Nat) (k : List AItem) (H : AHeap) (Q : AV → AHeap → Prop), Run C f T ds ro (.code c :: k) H Q = Run C f T ds ro k H Q
abbrev RegE (c : AC) (o : List AO) : Prop := ∀ (T : Nat → AV) (ds : List ADef) (ro : Option Nat) (k : List AItem) (H : AHeap) (Q : AV → AHeap → Prop), Run C f T ds ro (.code c :: k) H Q = q0d C f T ds ro o k H Q
abbrev RegX (c : AC) (o : List AO) (l : List (List Nat)) : Prop := ∀ (T : Nat → AV) (ds : List ADef) (ro : Option Nat) (k : List AItem) (H : AHeap) (Q : AV → AHeap → Prop), Run C f T ds ro (.code c :: k) H Q = (Dyn C ro o l T ds H ∧ q0d C f T ds ro o k H Q)
abbrev w8l (c : AC) (e : Operand) (a b : AC) : Prop := ∀ (T : Nat → AV) (ds : List ADef) (ro : Option Nat) (k : List AItem) (H : AHeap) (Q : AV → AHeap → Prop), Run C f T ds ro (.code c :: k) H Q = j0a C f T ds ro e (ev T e) a b k H Q
abbrev BlkE (c : AC) (i : Nat) (a : AC) : Prop := ∀ (T : Nat → AV) (ds : List ADef) (ro : Option Nat) (k : List AItem) (H : AHeap) (Q : AV → AHeap → Prop), Run C f T ds ro (.code c :: k) H Q = Run C f T ds ro (.code a :: .inBlock i :: k) H Q
abbrev y8s (c a : AC) : Prop := ∀ (T : Nat → AV) (ds : List ADef) (ro : Option Nat) (k : List AItem) (H : AHeap) (Q : AV → AHeap → Prop), Run C f T ds ro (.code c :: k) H Q = Run C f T ds ro (.code a :: .inScope a :: k) H Q
abbrev RetE (c : AC) : Prop := ∀ (T : Nat → AV) (k : List AItem) (H : AHeap) (Q : AV → AHeap → Prop), Run C f T [] none (.code c :: k) H Q = RunRes C T H Q (q0p C f)
end
abbrev oA (d : Nat) (op : Op) (ty : TypeId) : AO := { dst := some d, op := op, ty := ty, guard := none }
abbrev oN (op : Op) (ty : TypeId) : AO := { dst := none, op := op, ty := ty, guard := none }
abbrev oG (d : Nat) (op : Op) (ty : TypeId) (j : Nat) (w : Bool) : AO := { dst := some d, op := op, ty := ty, guard := some (j, w) }
abbrev cF (f : FuncId) (a : Array Operand) (t : Array TypeId) : Op := .call { callee := .value (.func f), args := a, argTypes := t }
abbrev cV (x : Nat) (a : Array Operand) (t : Array TypeId) : Op := .call { callee := .value (.tmp x), args := a, argTypes := t }
abbrev cB (b : Builtin) (a : Array Operand) (t : Array TypeId) : Op := .call { callee := .builtin b, args := a, argTypes := t }
abbrev tm (n : Nat) : Operand := .tmp n
abbrev ci (n : Int) : Operand := .const (.int .i64 n)
abbrev rg (l : List AO) : AC := .region l []
abbrev kT : Operand := .const (.bool true)
abbrev kF : Operand := .const (.bool false)
abbrev kS (s : Array UInt8) : Operand := .const (.string ⟨s⟩)
abbrev kU (n : Int) : Operand := .const (.int .u8 n)
abbrev jm (d s : Nat) (t : TypeId) : AO := oA d (.move (tm s)) t
abbrev km (d s : Nat) (t : TypeId) (j : Nat) (w : Bool) : AO := oG d (.move (tm s)) t j w
abbrev js (d s : Nat) (t : TypeId) : AO := oA d (.assign (tm s)) t
abbrev ji (d : Nat) (n : Int) (t : TypeId) : AO := oA d (.assign (ci n)) t
abbrev jB (d : Nat) (o : BinOp) (t : TypeId) (x y : Operand) (r ty : TypeId) : AO := oA d (.binOp o t x y r) ty
abbrev kB (d : Nat) (o : BinOp) (t : TypeId) (x y : Operand) (r ty : TypeId) (j : Nat) (w : Bool) : AO := oG d (.binOp o t x y r) ty j w
abbrev jb (d : Nat) (o : BinOp) (t : TypeId) (x y : Nat) (r ty : TypeId) : AO := oA d (.binOp o t (tm x) (tm y) r) ty
abbrev kq (d : Nat) (o : BinOp) (t : TypeId) (x y : Nat) (r ty : TypeId) (j : Nat) (w : Bool) : AO := oG d (.binOp o t (tm x) (tm y) r) ty j w
abbrev jl (d : Nat) (t : TypeId) (a : Nat) : AO := oA d (.load t (tm a)) t
abbrev kl (d : Nat) (t : TypeId) (a j : Nat) (w : Bool) : AO := oG d (.load t (tm a)) t j w
abbrev jf (d : Nat) (t : TypeId) (a k : Nat) : AO := oA d (.fieldAddr t (tm a) k) 0
abbrev kf (d : Nat) (t : TypeId) (a k j : Nat) (w : Bool) : AO := oG d (.fieldAddr t (tm a) k) 0 j w
abbrev je (d a k : Nat) (t : TypeId) : AO := oA d (.extract (tm a) k) t
abbrev ja (d : Nat) (t : TypeId) : AO := oA d (.alloc t) 0
abbrev jn (d a : Nat) : AO := oA d (.nilCheck (tm a)) 0
abbrev jp (d a : Nat) (x y : Operand) : AO := oA d (.pick (tm a) x y) 4
abbrev kp (d a : Nat) (x y : Operand) (j : Nat) (w : Bool) : AO := oG d (.pick (tm a) x y) 4 j w
abbrev jx (d : Nat) (f : FuncId) (a : Array Operand) (t : Array TypeId) (ty : TypeId) : AO := oA d (cF f a t) ty
abbrev kx (d : Nat) (f : FuncId) (a : Array Operand) (t : Array TypeId) (ty : TypeId) (j : Nat) (w : Bool) : AO := oG d (cF f a t) ty j w
abbrev jt (t : TypeId) (a b : Nat) : AO := oN (.store t (tm a) (tm b)) 0
section
variable {a b c d e f g h : Prop}
theorem qa2 (x : a) (y : b) : a ∧ b := ⟨x, y⟩
theorem qa3 (x : a) (y : b) (z : c) : a ∧ b ∧ c := ⟨x, y, z⟩
theorem qa4 (x : a) (y : b) (z : c) (u : d) : a ∧ b ∧ c ∧ d := ⟨x, y, z, u⟩
theorem qa5 (x : a) (y : b) (z : c) (u : d) (v : e) : a ∧ b ∧ c ∧ d ∧ e := ⟨x, y, z, u, v⟩
theorem qa6 (x : a) (y : b) (z : c) (u : d) (v : e) (w : f) : a ∧ b ∧ c ∧ d ∧ e ∧ f := ⟨x, y, z, u, v, w⟩
theorem qa7 (x : a) (y : b) (z : c) (u : d) (v : e) (w : f) (s : g) : a ∧ b ∧ c ∧ d ∧ e ∧ f ∧ g := ⟨x, y, z, u, v, w, s⟩
theorem qa8 (x : a) (y : b) (z : c) (u : d) (v : e) (w : f) (s : g) (t : h) : a ∧ b ∧ c ∧ d ∧ e ∧ f ∧ g ∧ h := ⟨x, y, z, u, v, w, s, t⟩
end
variable {C : Ctx} {H : AHeap} {T : Nat → AV}
theorem z8h {k : IntKind} {n : Int} : freeze H (.int k n) = some (.int k n) := rfl
theorem z5p {b : Bool} : freeze H (.bool b) = some (.bool b) := rfl
theorem z8i {b : Bytes} : freeze H (.str b) = some (.str b) := rfl
theorem z8j {n : Int} : freeze H (.flt n) = some (.flt n) := rfl
theorem z8k {n m : Int} : freeze H (.cpx n m) = some (.cpx n m) := rfl
theorem z5q : freeze H .nilS = some .nilS := rfl
theorem z8l {k : Nat} {es : List (List AV)} : freeze H (.vec k es) = some (.vec k es) := rfl
theorem z8m {cs : List AV} : freeze H (.agg cs) = (q3t (q1h H 4) cs).map .agg := rfl
theorem q7w {vs : List AV} : freeze H (.tuple vs) = (q3t (q2s H) vs).map .tuple := rfl
theorem z5r {k : IntKind} {n : Int} : q2s H (.int k n) = some (.int k n) := rfl
theorem z2x {b : Bool} : q2s H (.bool b) = some (.bool b) := rfl
theorem q9y {b : Bytes} : q2s H (.str b) = some (.str b) := rfl
theorem z5s {n : Int} : q2s H (.flt n) = some (.flt n) := rfl
theorem z5t {n m : Int} : q2s H (.cpx n m) = some (.cpx n m) := rfl
theorem z2y : q2s H .nilS = some .nilS := rfl
theorem z5u {k : Nat} {es : List (List AV)} : q2s H (.vec k es) = some (.vec k es) := rfl
theorem q9z {cs : List AV} : q2s H (.agg cs) = (q3t (q1h H 4) cs).map .agg := rfl
theorem z5v {d : Nat} {k : IntKind} {n : Int} : q1h H d (.int k n) = some (.int k n) := by cases d <;> rfl
theorem z2z {d : Nat} {b : Bool} : q1h H d (.bool b) = some (.bool b) := by cases d <;> rfl
theorem z5w {d : Nat} {b : Bytes} : q1h H d (.str b) = some (.str b) := by cases d <;> rfl
theorem z3a {d : Nat} : q1h H d .nilS = some .nilS := by cases d <;> rfl
theorem z5x {d k : Nat} {es : List (List AV)} : q1h H d (.vec k es) = some (.vec k es) := by cases d <;> rfl
theorem j7r {α β : Type} {f : α → Option β} : q3t f [] = some [] := rfl
def y8t {β : Type} : Option β → Option (List β) → Option (List β)
 | some y, some ys => some (y :: ys)
 | _, _ => none
theorem q4l {α β : Type} {f : α → Option β} {x : α} {xs : List α} : q3t f (x :: xs) = y8t (f x) (q3t f xs) := rfl
theorem z8n {β : Type} {y : β} {ys : List β} : y8t (some y) (some ys) = some (y :: ys) := rfl
def y8u (H : AHeap) (d k : Nat) : Option (List (List AV)) → Option AV
 | some es => (q3t (q3t (q1h H d)) es).map (.vec k)
 | none => none
theorem q5g {d b k i n : Nat} : q1h H (d + 1) (.slc b k i n) = y8u H d k (elems H k (.slc b k i n)) := by
 show (match elems H k (.slc b k i n) with | some es => (q3t (q3t (q1h H d)) es).map (AV.vec k) | none => none) = _
 cases elems H k (.slc b k i n) <;> rfl
theorem q6o {b k i n : Nat} : freeze H (.slc b k i n) = y8u H 3 k (elems H k (.slc b k i n)) := q5g
theorem z5y {b k i n : Nat} : q2s H (.slc b k i n) = y8u H 3 k (elems H k (.slc b k i n)) := q5g
theorem q5h {d k : Nat} {es : List (List AV)} : y8u H d k (some es) = (q3t (q3t (q1h H d)) es).map (.vec k) := rfl
theorem z5z {d : Nat} : q1h H d .emp = some .emp := by cases d <;> rfl
theorem z8o : freeze H .emp = some .emp := rfl
theorem z6a : q2s H .emp = some .emp := rfl
theorem x2q : j9e 0 = some 0 := by decide +kernel
theorem q3c {d : Nat} {v : AV} (h : v.flat1 = true) : q1h H d v = some v := by
 cases v <;> cases d <;> first | (simp [AV.flat1] at h; done) | rfl
theorem q4v {f : AV → Option AV} {p : AV → Bool} (hf : ∀ v, p v = true → f v = some v) : ∀ {l : List AV}, l.all p = true → q3t f l = some l
 | [], _ => rfl
 | x :: xs, h => by
  simp only [List.all_cons, Bool.and_eq_true] at h
  rw [q4l, hf x h.1, q4v hf h.2]; rfl
theorem z3b {v : AV} (h : v.flat2 = true) : q2s H v = some v := by
 cases v with
 | agg cs => rw [q9z, q4v (p := AV.flat1) (fun v hv => q3c hv) h]; rfl
 | fn f first caps => show (if _ then _ else _) = _; rw [if_pos h]
 | _ => refine Eq.trans (b := q1h H 4 _) rfl (q3c h)
theorem j6a {v : AV} (h : v.flat = true) : freeze H v = some v := by
 cases v with
 | tuple vs => rw [q7w, q4v (p := AV.flat2) (fun v hv => z3b hv) h]; rfl
 | _ => refine Eq.trans (b := q2s H _) rfl (z3b h)
theorem x8a {fn : FuncId} {ds : List ADef} {ro : Option Nat} {k : List AItem} {Q : AV → AHeap → Prop} {f : FuncId} {args args' : List AV} {r : AV} {dst : Option Nat} {os : List AO} (hp : C.pure f = true) (hs : r.solid = true) (h : q0k C f args' r) (hz : q3t (freeze H) args = some args') :
  q0g C fn T ds ro f args dst os k H Q = q0d C fn (putA T dst r) ds ro os k H Q := by
 cases hf : args.all AV.flat with
 | false => exact j5z hp hf hz hs h
 | true =>
  rw [q4v (p := AV.flat) (fun v hv => j6a hv) hf] at hz
  cases hz
  exact q0a hp hf h
end Go.BX
namespace Go.BX
def q4t : Bytes → Bytes → Int
 | [], [] => 0
 | [], _ :: _ => -1
 | _ :: _, [] => 1
 | x :: xs, y :: ys => if x = y then q4t xs ys else if x < y then -1 else 1
def j7s (c : UInt8) : Bytes → Nat → Int
 | [], _ => -1
 | x :: xs, i => if x = c then i else j7s c xs (i + 1)
theorem q7x (p : Nat → Bool) (n : Nat) : (List.range (n + 1)).find? p = if p 0 then some 0 else ((List.range n).find? fun i => p (i + 1)).map (· + 1) := by
 rw [List.range_succ_eq_map, List.find?_cons]
 cases h : p 0 with
 | true => simp
 | false => simp [List.find?_map, Function.comp_def]
theorem j3h (s : ByteArray) (i : Nat) : s[i]! = (s.data.toList)[i]?.getD default := by
 rw [getElem!_def]
 by_cases h : i < s.size
 ·have h1 : s[i]? = some s[i] := getElem?_pos s i h
  rw [h1]
  have h2 : i < s.data.toList.length := by simpa using h
  rw [List.getElem?_eq_getElem h2]
  rfl
 ·have h1 : s[i]? = none := getElem?_neg s i h
  rw [h1, List.getElem?_eq_none (by simpa using h)]
  rfl
def y7w (a b : Bytes) : Int :=
 match (List.range (min a.length b.length)).find? fun i => a[i]?.getD default != b[i]?.getD default with
 | some i => if a[i]?.getD default < b[i]?.getD default then -1 else 1
 | none => if a.length < b.length then -1 else if a.length > b.length then 1 else 0
theorem x2r : ∀ a b, y7w a b = q4t a b
 | [], [] => rfl
 | [], y :: ys => by simp [y7w, q4t]
 | x :: xs, [] => by simp [y7w, q4t]
 | x :: xs, y :: ys => by
  have ih := x2r xs ys
  unfold y7w q4t
  simp only [List.length_cons, Nat.succ_min_succ, q7x, List.getElem?_cons_zero, Option.getD_some, List.getElem?_cons_succ]
  by_cases hxy : x = y
  ·subst hxy
   simp only [bne_self_eq_false, Bool.false_eq_true, if_false, if_true]
   rw [← ih]
   unfold y7w
   cases (List.range (min xs.length ys.length)).find? fun i => xs[i]?.getD default != ys[i]?.getD default with
   | none => simp
   | some i => simp
  ·have : (x != y) = true := by simpa using hxy
   simp only [this, if_true, hxy, if_false, List.getElem?_cons_zero, Option.getD_some]
theorem y3v (a b : ByteArray) : Extern.BytealgCompare.cmp a b = q4t a.data.toList b.data.toList := by
 rw [← x2r]
 unfold Extern.BytealgCompare.cmp y7w
 simp only [j3h]
 have h1 : a.data.toList.length = a.size := rfl
 have h2 : b.data.toList.length = b.size := rfl
 rw [h1, h2]
 cases (List.range (min a.size b.size)).find? fun i => a.data.toList[i]?.getD default != b.data.toList[i]?.getD default <;> rfl
theorem x2s (c : UInt8) : ∀ (s : Bytes) (k : Nat), (match (List.range s.length).find? fun i => s[i]?.getD default == c with | some i => ((i + k : Nat) : Int) | none => -1) = j7s c s k
 | [], k => rfl
 | x :: xs, k => by
  have ih := x2s c xs (k + 1)
  unfold j7s
  simp only [List.length_cons, q7x, List.getElem?_cons_zero, Option.getD_some, List.getElem?_cons_succ]
  by_cases h : x = c
  ·simp [h]
  ·have : (x == c) = false := by simpa using h
   simp only [this, Bool.false_eq_true, if_false, h]
   rw [← ih]
   cases (List.range xs.length).find? fun i => xs[i]?.getD default == c with
   | none => simp
   | some i => simp only [Option.map_some]; congr 1; omega
theorem y3w (s : ByteArray) (c : UInt8) : firstIdx s c = j7s c s.data.toList 0 := by
 rw [← x2s]
 unfold firstIdx
 simp only [j3h, Nat.add_zero]
 have h1 : s.data.toList.length = s.size := rfl
 rw [h1]
 cases (List.range s.size).find? fun i => s.data.toList[i]?.getD default == c <;> rfl
def y7x : List AV → AHeap → Option (AV × AHeap)
 | [.str a, .str b], H => some (.int .i64 (q4t a b), H)
 | _, _ => none
def y7y : List AV → AHeap → Option (AV × AHeap)
 | [.str s, .int .u8 c], H => some (.int .i64 (j7s c.toNat.toUInt8 s 0), H)
 | _, _ => none
variable {C : Ctx} {w : World} {U : Nat → Prop} {ι : Nat → Option Nat}
structure IsExt (P : Program) (f : FuncId) (fn : Func) (e : Array Value → Sem Value) : Prop where
 hf : P.funcs[f]? = some fn
 hname : (fn.name == "runtime.NumGoroutine") = false
 hb : fn.body.isNone = true
 hn : Extern.findNext fn = none
 he : Extern.find fn = some e
theorem x2t {f : FuncId} {fn : Func} {e : Array Value → Sem Value} (h : IsExt C.P f fn e) {H : AHeap} (hH : HRel C w U ι H) {vs : List Value} {v : Value} {r : AV} (hr : (e vs.toArray).run C.P w = .ok v w) (hv : VRel w U ι r v) :
  InvN C.P f vs w (Post C w U ι H H r) := by
 refine .inl ⟨v, w, ?_, U, ι, ⟨Ext.refl _ _ _, hH, hv⟩, Fresh.refl _ _⟩
 rw [run_callFunc_extern h.hf h.hname h.hb h.hn h.he, hr]
 rfl
theorem x2u {f : FuncId} {fn : Func} (h : IsExt C.P f fn Extern.BytealgCompare.compare) {args : List AV} {H H' : AHeap} {r : AV} (hg : y7x args H = some (r, H')) (hH : HRel C w U ι H) {vs : List Value} (ha : LsRel w U ι args vs) :
  InvN C.P f vs w (Post C w U ι H H' r) := by
 unfold y7x at hg
 split at hg
 ·rename_i H0 a b
  cases hg
  obtain ⟨v1, vs1, rfl, h1, ha1⟩ := ha.cases_cons
  obtain ⟨v2, vs2, rfl, h2, ha2⟩ := ha1.cases_cons
  obtain rfl := ha2.cases_nil
  cases h1 with
  | str _ s1 e1 =>
   cases h2 with
   | str _ s2 e2 =>
    refine x2t h hH (v := .int .i64 (q4t a b)) ?_ (.int _ _)
    show Sem.run C.P (do pure (goInt (Extern.BytealgCompare.cmp (← Extern.Bytes.bytesOf (.string s1)) (← Extern.Bytes.bytesOf (.string s2))))) w = _
    simp only [Extern.Bytes.bytesOf, Sem.run_bind, Sem.run_pure, Result.andThen, y3v, e1, e2, goInt]
 ·cases hg
theorem x2v {f : FuncId} {fn : Func} (h : IsExt C.P f fn Extern.BytealgIndexByte.indexByte) {args : List AV} {H H' : AHeap} {r : AV} (hg : y7y args H = some (r, H')) (hH : HRel C w U ι H) {vs : List Value} (ha : LsRel w U ι args vs) :
  InvN C.P f vs w (Post C w U ι H H' r) := by
 unfold y7y at hg
 split at hg
 ·rename_i H0 a c
  cases hg
  obtain ⟨v1, vs1, rfl, h1, ha1⟩ := ha.cases_cons
  obtain ⟨v2, vs2, rfl, h2, ha2⟩ := ha1.cases_cons
  obtain rfl := ha2.cases_nil
  cases h1 with
  | str _ s1 e1 =>
   cases h2 with
   | int =>
    refine x2t h hH (v := .int .i64 (j7s c.toNat.toUInt8 a 0)) ?_ (.int _ _)
    have := run_indexByte_string (P := C.P) s1 c w
    rw [y3w, e1] at this
    exact this
 ·cases hg
theorem x2w {args : List AV} {H H' : AHeap} {r : AV} (h : y7x args H = some (r, H')) : H.next ≤ H'.next := by
 unfold y7x at h
 split at h <;> cases h
 exact Nat.le_refl _
theorem x2x {args : List AV} {H H' : AHeap} {r : AV} (h : y7y args H = some (r, H')) : H.next ≤ H'.next := by
 unfold y7y at h
 split at h <;> cases h
 exact Nat.le_refl _
theorem j3i {f : FuncId} {g : List AV → AHeap → Option (AV × AHeap)} (hx : C.ext f = some g) {args : List AV} {r r0 : AV} {H' : AHeap} (h : g args AHeap.empty = some (r0, H')) (hz : freeze H' r0 = some r) : q0k C f args r := by
 refine ⟨0, ?_⟩
 unfold z7c
 have : (y8k C 0).call f args AHeap.empty = some (r0, H') := by
  show (match C.ext f with | some g => g args AHeap.empty | none => _) = _
  rw [hx]; exact h
 rw [this]
 exact hz
end Go.BX
namespace Go.BX
variable {C : Ctx} {fn : FuncId} {T : Nat → AV} {ds : List ADef} {ro : Option Nat} {H : AHeap} {Q : AV → AHeap → Prop} {k : List AItem}
def j0c (C : Ctx) : List ADef → AHeap → (AHeap → Prop) → Prop
 | [], H, K => K H
 | .collected b :: ds, H, K => H.at_ b = .dfr ∧ j0c C ds (H.set b .dead) K
 | .call (.fn f first caps) args :: ds, H, K => C.ext f = none ∧ ∃ body, q0h C f = some body ∧ Run C f (q1g (first ++ args ++ caps)) [] none [.code body] H (fun _ H1 => j0c C ds H1 K)
 | .call _ _ :: _, _, _ => False
theorem z2a : ∀ (ds : List ADef) (H : AHeap) (K : AHeap → Prop), j0c C ds H K → ∃ n H', (∀ m, n ≤ m → q1i C (cln C m) ds H = some H') ∧ K H'
 | [], H, K, h => ⟨0, H, fun m _ => by simp [q1i], h⟩
 | .collected b :: ds, H, K, h => by
  obtain ⟨h1, h2⟩ := h
  obtain ⟨n, H', h3, h4⟩ := z2a ds _ K h2
  exact ⟨n, H', fun m hm => by simp only [q1i, h1]; exact h3 m hm, h4⟩
 | .call v args :: ds, H, K, h => by
  cases v with
  | fn f first caps =>
   obtain ⟨hx, body, hb, n, r, H1, he, hr⟩ := h
   obtain ⟨m, H', h3, h4⟩ := z2a ds _ K hr
   unfold q0h at hb
   simp only [Option.map_eq_some_iff] at hb
   obtain ⟨fi, hfi, rfl⟩ := hb
   refine ⟨max n m, H', fun p hp => ?_, h4⟩
   have hc : (cln C p).call f (first ++ args ++ caps) H = some (r, H1) := by
    show (q9d C (exec C p)).call f _ _ = _
    simp only [q9d, hx, hfi]
    exact z9z (by omega) _ _ _ _ he
   simp only [q1i, hx, Option.isSome_none, Bool.false_eq_true, if_false]
   rw [hc]
   exact h3 p (by omega)
  | _ => exact h.elim
theorem x0a {items : List AItem} (hi : items = [] ∨ ∃ k', items = .code .ret :: k') (h : j0c C ds H (fun H' => RunRes C T H' Q (q0p C fn))) : Run C fn T ds none items H Q := by
 obtain ⟨n, H', hd, hr⟩ := z2a ds H _ h
 have hl : ∃ r, q5b C (cln C n) { fn := fn, T := T, defers := ds, round := none } (if items = [] then none else some .ret) H = some (r, H') ∧ Q r H' := by
  unfold RunRes q0p at hr
  cases hf : C.FT fn with
  | none => rw [hf] at hr; exact hr.elim
  | some fi =>
   rw [hf] at hr
   simp only [Option.map_some] at hr
   cases hv : resultsA C T H' fi.results with
   | none => rw [hv] at hr; exact hr.elim
   | some vs =>
    rw [hv] at hr
    refine ⟨oneOf vs, ?_, hr⟩
    have hj : z7p (if items = [] then none else some .ret) = true := by split <;> rfl
    simp only [q5b, hj, if_true, hd n (Nat.le_refl _), hf, hv, Option.map_some]
 obtain ⟨r, hl, hq⟩ := hl
 refine ⟨n + 1, r, H', ?_, hq⟩
 rcases hi with rfl | ⟨k', rfl⟩
 ·simp only [if_true] at hl; exact hl
 ·simp only [reduceCtorEq, if_false] at hl; exact hl
end Go.BX
namespace Go.BX
variable {C : Ctx} {fn : FuncId} {T : Nat → AV} {ds : List ADef} {ro : Option Nat} {H : AHeap} {Q : AV → AHeap → Prop} {k : List AItem}
def x6q (C : Ctx) (t te : TypeId) : Prop := ∃ ti, C.TT t = some ti ∧ ti.kind = .slice te
theorem q7y {t te kk by_ n g : Nat} {A : Nat → Blk} {es : List (List AV)} {row : List AV} (h1 : x6q C t te) (h2 : ∃ ti, C.TT te = some ti ∧ ti.size = kk ∧ ti.bytes = by_) (hg : A g = .cells te kk es) (hn : g ≠ n) (hm : (es.length + 1) * by_ ≤ q2m) (hm2 : es.length + 1 ≤ q2m) :
  q1n C ⟨n + 1, upd A n (.cells te kk [row])⟩ .append [t, t] [.slc g kk 0 es.length, .slc n kk 0 1] = some (.slc (n + 1) kk 0 (es.length + 1), ⟨n + 1 + 1, upd (upd (upd A n (.cells te kk [row])) g .dead) (n + 1) (.cells te kk (es ++ [row]))⟩) := by
 obtain ⟨ti, t1, t2⟩ := h1
 obtain ⟨tj, t3, t4, t5⟩ := h2
 obtain ⟨knd, sz, byt, zr, eq⟩ := ti
 simp only at t2
 subst t2
 subst t4 t5
 have hs : q3a ⟨n + 1, upd A n (.cells te tj.size [row])⟩ tj.size (.slc n tj.size 0 1) = some [row] := by
  simp [q3a, elems]
 have ha : (upd A n (Blk.cells te tj.size [row])) g = .cells te tj.size es := by rw [q0b, if_neg hn]; exact hg
 simp only [q1n, t1, q2c, t3, hs, ha, true_and, Nat.le_refl, List.length_singleton, hm, hm2, and_self, if_true, List.cons_ne_self, reduceCtorEq, if_false, List.take_length, AHeap.set, AHeap.push]
theorem x8b {t te kk by_ n g m : Nat} {A : Nat → Blk} {es : List (List AV)} {row : List AV} (h1 : x6q C t te) (h2 : ∃ ti, C.TT te = some ti ∧ ti.size = kk ∧ ti.bytes = by_) (hg : A g = .cells te kk es) (hn : g ≠ n) (hme : m ≤ es.length) (hm : (m + 1) * by_ ≤ q2m) (hm2 : m + 1 ≤ q2m) :
  q1n C ⟨n + 1, upd A n (.cells te kk [row])⟩ .append [t, t] [.slc g kk 0 m, .slc n kk 0 1] = some (.slc (n + 1) kk 0 (m + 1), ⟨n + 1 + 1, upd (upd (upd A n (.cells te kk [row])) g .dead) (n + 1) (.cells te kk (es.take m ++ [row]))⟩) := by
 obtain ⟨ti, t1, t2⟩ := h1
 obtain ⟨tj, t3, t4, t5⟩ := h2
 obtain ⟨knd, sz, byt, zr, eq⟩ := ti
 simp only at t2
 subst t2
 subst t4 t5
 have hs : q3a ⟨n + 1, upd A n (.cells te tj.size [row])⟩ tj.size (.slc n tj.size 0 1) = some [row] := by
  simp [q3a, elems]
 have ha : (upd A n (Blk.cells te tj.size [row])) g = .cells te tj.size es := by rw [q0b, if_neg hn]; exact hg
 simp only [q1n, t1, q2c, t3, hs, ha, hme, true_and, List.length_singleton, hm, hm2, and_self, if_true, reduceCtorEq, if_false, AHeap.set, AHeap.push]
theorem j6b {t te kk by_ n : Nat} {A : Nat → Blk} {row : List AV} (h1 : x6q C t te) (h2 : ∃ ti, C.TT te = some ti ∧ ti.size = kk ∧ ti.bytes = by_) (hm : by_ ≤ q2m) :
  q1n C ⟨n + 1, upd A n (.cells te kk [row])⟩ .append [t, t] [.nilS, .slc n kk 0 1] = some (.slc (n + 1) kk 0 1, ⟨n + 1 + 1, upd (upd A n (.cells te kk [row])) (n + 1) (.cells te kk [row])⟩) := by
 obtain ⟨ti, t1, t2⟩ := h1
 obtain ⟨tj, t3, t4, t5⟩ := h2
 obtain ⟨knd, sz, byt, zr, eq⟩ := ti
 simp only at t2
 subst t2
 subst t4 t5
 have hs : q3a ⟨n + 1, upd A n (.cells te tj.size [row])⟩ tj.size (.slc n tj.size 0 1) = some [row] := by
  simp [q3a, elems]
 have hm2 : 1 ≤ q2m := by decide
 simp only [q1n, t1, q2c, t3, hs, List.length_singleton, Nat.one_mul, hm, hm2, and_self, if_true, reduceCtorEq, if_false, AHeap.push]
section
variable {dst : Option Nat} {os : List AO} {cs : List (List Nat)}
end
end Go.BX
namespace Go.BX
theorem z8p {args : List AV} {t : Nat} : q1g args t = (args[t]?).getD .undef := rfl
theorem bb : (And ((And ((And ((And ((And ((And ((And (type_of% (@x2h)) (type_of% (@y0p)))) ((And (type_of% (@j2w)) (type_of% 
 (@z0w)))))) ((And ((And (type_of% (@q9m)) (type_of% (@z8d)))) ((And (type_of% (@j7j)) (type_of% 
 (@j2q)))))))) ((And ((And ((And (type_of% (@j7l)) (type_of% (@j7k)))) ((And (type_of% (@x2j)) (type_of% 
 (@j2u)))))) ((And ((And (type_of% (@j2p)) (type_of% (@j2s)))) ((And (type_of% (@z0t)) (type_of% 
 (@j7m)))))))))) ((And ((And ((And ((And (type_of% (@j2v)) (type_of% (@z5k)))) ((And (type_of% (@z5j)) (type_of% 
 (@z2s)))))) ((And ((And (type_of% (@z2v)) (type_of% (@j2y)))) ((And (type_of% (@x2m)) (type_of% 
 (@j2x)))))))) ((And ((And ((And (type_of% (@q5f)) (type_of% (@q0i)))) ((And (type_of% (@z2u)) (type_of% 
 (@x2q)))))) ((And ((And (type_of% (@q0b)) (type_of% (@decide_true)))) ((And (type_of% (@decide_false)) ((And (type_of% 
 (@Nat.zero_add)) (type_of% (@Bool.false_eq_true)))))))))))))) ((And ((And ((And ((And ((And (type_of% (@Bool.not_true)) (type_of% 
 (@Bool.not_false)))) ((And (type_of% (@List.getElem?_cons_zero.{0})) (type_of% (@List.getElem?_cons_succ.{0})))))) ((And ((And (type_of% 
 (@List.getElem?_nil.{0})) (type_of% (@Option.getD_some.{0})))) ((And (type_of% (@Option.map_some.{0,0})) (type_of% (@z8h)))))))) 
 ((And ((And ((And (type_of% (@z5p)) (type_of% (@z8i)))) ((And (type_of% (@z8j)) (type_of% (@z8k)))))) ((And 
 ((And (type_of% (@z8m)) (type_of% (@q7w)))) ((And (type_of% (@z5r)) ((And (type_of% (@z2x)) (type_of% 
 (@q9z)))))))))))) ((And ((And ((And ((And (type_of% (@z5t)) (type_of% (@z5s)))) ((And (type_of% (@z5v)) 
 (type_of% (@z2z)))))) ((And ((And (type_of% (@z5w)) (type_of% (@j7r)))) ((And (type_of% (@q4l)) (type_of% 
 (@z8n)))))))) ((And ((And ((And (type_of% (@List.length_cons.{0})) (type_of% (@List.length_nil.{0})))) ((And (type_of% 
 (@List.take_succ_cons.{0})) (type_of% (@List.take_zero.{0})))))) ((And ((And (type_of% (@List.take_nil.{0})) (type_of% 
 (@List.drop_succ_cons.{0})))) ((And (type_of% (@List.drop_zero.{0})) ((And (type_of% (@List.drop_nil.{0})) (type_of% 
 (@List.cons_append.{0})))))))))))))))) ((And ((And ((And ((And ((And ((And (type_of% (@List.nil_append.{0})) (type_of% 
 (@List.append_nil.{0})))) ((And (type_of% (@List.set_cons_zero.{0})) (type_of% (@List.set_cons_succ.{0})))))) ((And ((And (type_of% 
 (@true_and)) (type_of% (@and_true)))) ((And (type_of% (@and_self)) (type_of% (@Option.bind_some.{0,0})))))))) ((And ((And ((And (type_of% 
 (@q9x)) (type_of% (@x2n)))) ((And (type_of% (@q8q)) (type_of% (@j7o)))))) ((And ((And (type_of% (@z8g)) (type_of% 
 (@j3a)))) ((And (type_of% (@z2w)) ((And (type_of% (@z0x)) (type_of% (@j3b)))))))))))) ((And ((And ((And ((And 
 (type_of% (@z0y)) (type_of% (@j3c)))) ((And (type_of% (@z5o)) (type_of% (@j7p)))))) ((And ((And (type_of% 
 (@j3d)) (type_of% (@j3e)))) ((And (type_of% (@x2o)) (type_of% (@q9n)))))))) ((And ((And ((And (type_of% 
 (@j3f)) (type_of% (@x2p)))) ((And (type_of% (@j7q)) (type_of% (@j3g)))))) ((And ((And (type_of% (@bne_iff_ne.{0})) 
 (type_of% (@ne_eq.{1})))) ((And (type_of% (@not_false_eq_true)) ((And (type_of% (@not_true_eq_false)) (type_of% (@Nat.le_refl)))))))))))))) 
 ((And ((And ((And ((And ((And (type_of% (@Nat.add_zero)) (type_of% (@Bool.true_and)))) ((And (type_of% (@Bool.and_true)) (type_of% 
 (@Bool.false_and)))))) ((And ((And (type_of% (@Bool.and_false)) (type_of% (@beq_self_eq_true.{0})))) ((And (type_of% 
 (@bne_self_eq_false.{0})) (type_of% (@z0u)))))))) ((And ((And ((And (type_of% (@q9l)) (type_of% (@j2t)))) ((And 
 (type_of% (@j2r)) (type_of% (@z0v)))))) ((And ((And (type_of% (@z2t)) (type_of% (@z5l)))) ((And (type_of% 
 (@z8e)) ((And (type_of% (@z8f)) (type_of% (@List.flatten_cons.{0})))))))))))) ((And ((And ((And ((And (type_of% 
 (@List.flatten_nil.{0})) (type_of% (@q6o)))) ((And (type_of% (@z5y)) (type_of% (@q5g)))))) ((And ((And (type_of% 
 (@q5h)) (type_of% (@z5z)))) ((And (type_of% (@z8o)) (type_of% (@z6a)))))))) ((And ((And ((And (type_of% 
 (@z5q)) (type_of% (@z2y)))) ((And (type_of% (@z3a)) (type_of% (@z8l)))))) ((And ((And (type_of% 
 (@z5u)) (type_of% (@z5x)))) ((And (type_of% (@Int.toNat_zero)) ((And (type_of% (@Int.toNat_one)) (type_of% 
 (@Int.cast_ofNat_Int))))))))))))))))) :=
 (And.intro (And.intro (And.intro (And.intro (And.intro (And.intro (And.intro (@x2h) (@y0p)) (And.intro (@j2w) 
 (@z0w))) (And.intro (And.intro (@q9m) (@z8d)) (And.intro (@j7j) (@j2q)))) (And.intro (And.intro 
 (And.intro (@j7l) (@j7k)) (And.intro (@x2j) (@j2u))) (And.intro (And.intro (@j2p) (@j2s)) (And.intro 
 (@z0t) (@j7m))))) (And.intro (And.intro (And.intro (And.intro (@j2v) (@z5k)) (And.intro (@z5j) 
 (@z2s))) (And.intro (And.intro (@z2v) (@j2y)) (And.intro (@x2m) (@j2x)))) (And.intro (And.intro (And.intro 
 (@q5f) (@q0i)) (And.intro (@z2u) (@x2q))) (And.intro (And.intro (@q0b) (@decide_true)) (And.intro 
 (@decide_false) (And.intro (@Nat.zero_add) (@Bool.false_eq_true))))))) (And.intro (And.intro (And.intro (And.intro (And.intro 
 (@Bool.not_true) (@Bool.not_false)) (And.intro (@List.getElem?_cons_zero.{0}) (@List.getElem?_cons_succ.{0}))) (And.intro (And.intro 
 (@List.getElem?_nil.{0}) (@Option.getD_some.{0})) (And.intro (@Option.map_some.{0,0}) (@z8h)))) (And.intro (And.intro (And.intro 
 (@z5p) (@z8i)) (And.intro (@z8j) (@z8k))) (And.intro (And.intro (@z8m) (@q7w)) (And.intro 
 (@z5r) (And.intro (@z2x) (@q9z)))))) (And.intro (And.intro (And.intro (And.intro (@z5t) (@z5s)) 
 (And.intro (@z5v) (@z2z))) (And.intro (And.intro (@z5w) (@j7r)) (And.intro (@q4l) (@z8n)))) 
 (And.intro (And.intro (And.intro (@List.length_cons.{0}) (@List.length_nil.{0})) (And.intro (@List.take_succ_cons.{0}) 
 (@List.take_zero.{0}))) (And.intro (And.intro (@List.take_nil.{0}) (@List.drop_succ_cons.{0})) (And.intro (@List.drop_zero.{0}) (And.intro 
 (@List.drop_nil.{0}) (@List.cons_append.{0})))))))) (And.intro (And.intro (And.intro (And.intro (And.intro (And.intro (@List.nil_append.{0}) 
 (@List.append_nil.{0})) (And.intro (@List.set_cons_zero.{0}) (@List.set_cons_succ.{0}))) (And.intro (And.intro (@true_and) (@and_true)) 
 (And.intro (@and_self) (@Option.bind_some.{0,0})))) (And.intro (And.intro (And.intro (@q9x) (@x2n)) (And.intro (@q8q) 
 (@j7o))) (And.intro (And.intro (@z8g) (@j3a)) (And.intro (@z2w) (And.intro (@z0x) (@j3b)))))) 
 (And.intro (And.intro (And.intro (And.intro (@z0y) (@j3c)) (And.intro (@z5o) (@j7p))) (And.intro (And.intro 
 (@j3d) (@j3e)) (And.intro (@x2o) (@q9n)))) (And.intro (And.intro (And.intro (@j3f) (@x2p)) (And.intro 
 (@j7q) (@j3g))) (And.intro (And.intro (@bne_iff_ne.{0}) (@ne_eq.{1})) (And.intro (@not_false_eq_true) (And.intro 
 (@not_true_eq_false) (@Nat.le_refl))))))) (And.intro (And.intro (And.intro (And.intro (And.intro (@Nat.add_zero) (@Bool.true_and)) 
 (And.intro (@Bool.and_true) (@Bool.false_and))) (And.intro (And.intro (@Bool.and_false) (@beq_self_eq_true.{0})) (And.intro 
 (@bne_self_eq_false.{0}) (@z0u)))) (And.intro (And.intro (And.intro (@q9l) (@j2t)) (And.intro (@j2r) 
 (@z0v))) (And.intro (And.intro (@z2t) (@z5l)) (And.intro (@z8e) (And.intro (@z8f) 
 (@List.flatten_cons.{0})))))) (And.intro (And.intro (And.intro (And.intro (@List.flatten_nil.{0}) (@q6o)) (And.intro (@z5y) 
 (@q5g))) (And.intro (And.intro (@q5h) (@z5z)) (And.intro (@z8o) (@z6a)))) (And.intro (And.intro 
 (And.intro (@z5q) (@z2y)) (And.intro (@z3a) (@z8l))) (And.intro (And.intro (@z5u) (@z5x)) 
 (And.intro (@Int.toNat_zero) (And.intro (@Int.toNat_one) (@Int.cast_ofNat_Int)))))))))
theorem bc : (And ((And ((And ((And (type_of% (@Go.BX.evs.eq_1)) (type_of% (@Go.BX.evs.eq_2)))) ((And (type_of% (@Go.BX.parts_.eq_1)) (type_of% 
 (@Go.BX.parts_.eq_2)))))) ((And ((And (type_of% (@Go.BX.resultsA.eq_1)) (type_of% (@Go.BX.resultsA.eq_2)))) ((And (type_of% 
 (@Go.BX.resultsA.eq_3)) (type_of% (@Go.BX.fillA.eq_1)))))))) ((And ((And ((And (type_of% (@Go.BX.fillA.eq_2)) (type_of% 
 (@Go.BX.cellsEq.eq_1)))) ((And (type_of% (@Go.BX.cellsEq.eq_2)) (type_of% (@Go.BX.cellsEq.eq_3)))))) ((And ((And (type_of% 
 (@Go.BX.cellsEq.eq_4)) (type_of% (@Go.BX.cellsEq.eq_5)))) ((And (type_of% (@Go.BX.chunk.eq_1)) (type_of% (@Go.BX.chunk.eq_2))))))))) :=
 (And.intro (And.intro (And.intro (And.intro (@Go.BX.evs.eq_1) (@Go.BX.evs.eq_2)) (And.intro (@Go.BX.parts_.eq_1) (@Go.BX.parts_.eq_2))) 
 (And.intro (And.intro (@Go.BX.resultsA.eq_1) (@Go.BX.resultsA.eq_2)) (And.intro (@Go.BX.resultsA.eq_3) (@Go.BX.fillA.eq_1)))) (And.intro 
 (And.intro (And.intro (@Go.BX.fillA.eq_2) (@Go.BX.cellsEq.eq_1)) (And.intro (@Go.BX.cellsEq.eq_2) (@Go.BX.cellsEq.eq_3))) (And.intro 
 (And.intro (@Go.BX.cellsEq.eq_4) (@Go.BX.cellsEq.eq_5)) (And.intro (@Go.BX.chunk.eq_1) (@Go.BX.chunk.eq_2)))))
theorem bd : (And ((And ((And ((And ((And (type_of% (@Go.BX.primP.eq_def)) (type_of% (@Go.BX.primM.eq_def)))) ((And (type_of% (@Go.BX.ev.eq_def)) 
 (type_of% (@Go.BX.ofConst.eq_def)))))) ((And ((And (type_of% (@Go.BX.bin.eq_def)) (type_of% (@Go.BX.un.eq_def)))) ((And (type_of% 
 (@Go.BX.intBin.eq_def)) ((And (type_of% (@Go.BX.putA.eq_def)) (type_of% (@z8p)))))))))) ((And ((And ((And (type_of% 
 (@Go.BX.RunRes.eq_def)) (type_of% (@Go.BX.oneOf.eq_def)))) ((And (type_of% (@Go.BX.AV.plain.eq_def)) (type_of% (@Go.BX.AV.cells.eq_def)))))) 
 ((And ((And (type_of% (@Go.BX.AHeap.push.eq_def)) (type_of% (@Go.BX.AHeap.set.eq_def)))) ((And (type_of% (@Go.BX.AHeap.empty.eq_def)) ((And 
 (type_of% (@Go.BX.fieldOf.eq_def)) (type_of% (@Go.BX.loadA.eq_def)))))))))))) ((And ((And ((And ((And (type_of% (@Go.BX.storeA.eq_def)) 
 (type_of% (@Go.BX.part.eq_def)))) ((And (type_of% (@Go.BX.TK.isAgg.eq_def)) (type_of% (@Go.BX.convA.eq_def)))))) ((And ((And (type_of% 
 (@Go.BX.builtinA.eq_def)) (type_of% (@Go.BX.inertB.eq_def)))) ((And (type_of% (@Go.BX.builtinP.eq_def)) ((And (type_of% 
 (@Go.BX.buildA.eq_def)) (type_of% (@Go.BX.splice.eq_def)))))))))) ((And ((And ((And (type_of% (@Go.BX.eqv.eq_def)) (type_of% 
 (@Go.BX.sizeT.eq_def)))) ((And (type_of% (@Go.BX.adT.eq_def)) (type_of% (@Go.BX.ldT.eq_def)))))) ((And ((And (type_of% (@Go.BX.fwT.eq_def)) 
 (type_of% (@Go.BX.strBin.eq_def)))) ((And (type_of% (@Go.BX.indexAddrA.eq_def)) ((And (type_of% (@Go.BX.elems.eq_def)) (type_of% 
 (@Go.BX.lenOf.eq_def))))))))))))) :=
 (And.intro (And.intro (And.intro (And.intro (And.intro (@Go.BX.primP.eq_def) (@Go.BX.primM.eq_def)) (And.intro (@Go.BX.ev.eq_def) 
 (@Go.BX.ofConst.eq_def))) (And.intro (And.intro (@Go.BX.bin.eq_def) (@Go.BX.un.eq_def)) (And.intro (@Go.BX.intBin.eq_def) (And.intro 
 (@Go.BX.putA.eq_def) (@z8p))))) (And.intro (And.intro (And.intro (@Go.BX.RunRes.eq_def) (@Go.BX.oneOf.eq_def)) (And.intro 
 (@Go.BX.AV.plain.eq_def) (@Go.BX.AV.cells.eq_def))) (And.intro (And.intro (@Go.BX.AHeap.push.eq_def) (@Go.BX.AHeap.set.eq_def)) (And.intro 
 (@Go.BX.AHeap.empty.eq_def) (And.intro (@Go.BX.fieldOf.eq_def) (@Go.BX.loadA.eq_def)))))) (And.intro (And.intro (And.intro (And.intro 
 (@Go.BX.storeA.eq_def) (@Go.BX.part.eq_def)) (And.intro (@Go.BX.TK.isAgg.eq_def) (@Go.BX.convA.eq_def))) (And.intro (And.intro 
 (@Go.BX.builtinA.eq_def) (@Go.BX.inertB.eq_def)) (And.intro (@Go.BX.builtinP.eq_def) (And.intro (@Go.BX.buildA.eq_def) 
 (@Go.BX.splice.eq_def))))) (And.intro (And.intro (And.intro (@Go.BX.eqv.eq_def) (@Go.BX.sizeT.eq_def)) (And.intro (@Go.BX.adT.eq_def) 
 (@Go.BX.ldT.eq_def))) (And.intro (And.intro (@Go.BX.fwT.eq_def) (@Go.BX.strBin.eq_def)) (And.intro (@Go.BX.indexAddrA.eq_def) (And.intro 
 (@Go.BX.elems.eq_def) (@Go.BX.lenOf.eq_def)))))))
theorem xx : (And ((And (type_of% (@q2i)) (type_of% (@q7u)))) ((And (type_of% (@q7v)) ((And (type_of% (@q5e)) (type_of% 
 (@q1a))))))) :=
 (And.intro (And.intro (@q2i) (@q7u)) (And.intro (@q7v) (And.intro (@q5e) (@q1a))))
variable {C : Ctx} {w w' : World} {U : Nat → Prop} {ι : Nat → Option Nat}
theorem x2y {H : AHeap} (hH : HRel C w U ι H) {b c : Nat} (hb : ι b = some c) (hsz : w'.heap.size = w.heap.size) (hot : ∀ d, d ≠ c → w'.heap[d]? = w.heap[d]?) (hsh : ∀ d, w'.shape? d = w.shape? d) (y0k : w'.os = w.os ∧ w'.tape = w.tape ∧ w'.output = w.output) (hd : (H.at_ b).isDead = false) {blk : Blk}
  (hB : (∀ {a : AV} {v : Value}, VRel w U ι a v → VRel w' U ι a v) → BRel C w' U ι c blk) :
  Ext w U ι w' U ι ∧ HRel C w' U ι (H.set b blk) := by
 have q3y : Ext w U ι w' U ι :=
  {map := fun _ _ h => h, rng := fun b _ h => .inl ⟨b, h⟩, imm := fun _ h => h, new := fun _ h => .inl h, size := by omega
   kept := fun d _ hn => hot d (fun e => hn b (by rw [e]; exact hb))
   shape := fun d _ => hsh d, env := y0k }
 have hm : ∀ {a : AV} {v : Value}, VRel w U ι a v → VRel w' U ι a v := fun hv => q3y.mono hH hv
 refine ⟨q3y, ⟨fun b' c' h => by have := hH.dom b' c' h; rw [hsz]; simpa [AHeap.set] using this, fun b1 b2 c' h1 h2 d1 d2 => ?_, fun c' h => by have := hH.imm c' h; rw [hsz]; exact this, fun b' c' h => ?_⟩⟩
 ·have live : ∀ b', ((H.set b blk).at_ b').isDead = false → (H.at_ b').isDead = false := by
   intro b' h'
   by_cases e : b' = b
   ·subst e; exact hd
   ·simp only [AHeap.set, q2a e] at h'; exact h'
  exact hH.inj b1 b2 c' h1 h2 (live b1 d1) (live b2 d2)
 ·by_cases e : b' = b
  ·subst e
   rw [hb] at h; cases h
   simp only [AHeap.set, upd_same]
   exact hB hm
  ·simp only [AHeap.set]
   rw [q2d _ _ e]
   by_cases hdd : (H.at_ b').isDead = true
   ·cases hx : H.at_ b' <;> rw [hx] at hdd <;> simp [Blk.isDead] at hdd
    trivial
   ·have hne : c' ≠ c := by
     rintro rfl
     exact e (hH.inj b' b _ h hb (by simpa using hdd) hd)
    exact (hH.blk b' c' h).mono hm (fun _ _ h => h) (hot c' hne)
theorem z6b {P : Program} {f : FuncId} {fn : Func} (hf : P.funcs[f]? = some fn) (hname : (fn.name == "runtime.NumGoroutine") = false) (hb : fn.body.isNone = false) {vs : List Value} {R : Value → World → Prop} (h : Calls P f vs.toArray w fun e w' => ∃ v, e = .returned v ∧ R v w') : InvN P f vs w R := by
 right
 constructor
 ·have h1 : fn.name ≠ "runtime.NumGoroutine" := by simpa using hname
  have h2 : ¬ fn.body = none := by
   intro e; rw [e] at hb; cases hb
  simp [callFunc, hf, h1, h2, Sem.run]
 ·intro c cs
  obtain ⟨e, w', fr, ⟨v, rfl, hR⟩, hc, _, hl⟩ := h (c :: cs)
  exact ⟨v, w', hR, Steps.trans hc (Steps.one (step_leave_returned hl))⟩
structure BuilderLaws (P : Program) (fc fs : FuncId) (tB tb : TypeId) : Prop where
 used : ∀ (b : Nat) (w : World), w.cell? ⟨b, 0, none⟩ = some (.pointer (some ⟨b, 0, none⟩)) → Calls P fc #[.pointer (some ⟨b, 0, none⟩)] w fun e w' => e = .returned (.tuple #[]) ∧ w' = w
 fresh : ∀ (b m : Nat) (w : World), 2 ≤ m → w.cell? ⟨b, 0, none⟩ = some (.pointer none) → w.shape? b = some (tB, m) → w.frozen? ⟨b, 0, none⟩ = false → Calls P fc #[.pointer (some ⟨b, 0, none⟩)] w fun e w' => e = .returned (.tuple #[]) ∧ w' = w.setCell ⟨b, 0, none⟩ (.pointer (some ⟨b, 0, none⟩))
 str : ∀ (b g cap cells : Nat) (l : List UInt8) (w : World), w.cell? ⟨b, 1, none⟩ = some (.slice (some ⟨g, 0, none⟩) l.length cap) → l ≠ [] → l.length ≤ cap → l.length ≤ maxLen → w.shape? g = some (tb, cells) → l.length ≤ cells →
  (∀ (j : Nat) (x : UInt8), l[j]? = some x → w.cell? ((⟨g, 0, none⟩ : Addr).add j) = some (.int .u8 x.toNat)) →
  Calls P fs #[.pointer (some ⟨b, 0, none⟩)] w fun e w' => e = .returned (.string ⟨l.toArray⟩) ∧ w' = w.drew.freeze ⟨g, 0, none⟩ l.length
 fnc : ∃ fn, P.funcs[fc]? = some fn ∧ (fn.name == "runtime.NumGoroutine") = false ∧ fn.body.isNone = false
 fns : ∃ fn, P.funcs[fs]? = some fn ∧ (fn.name == "runtime.NumGoroutine") = false ∧ fn.body.isNone = false
def z3l (tB : TypeId) : List AV → AHeap → Option (AV × AHeap)
 | [.ptr b 2 0 0], H => match H.at_ b with
  | .cells t 2 [[a, v]] => if t = tB then match a with
   | .nilP => some (.tuple [], H.set b (.cells t 2 [[.ptr b 2 0 0, v]]))
   | .ptr b' 2 0 0 => if b' = b then some (.tuple [], H) else none
   | _ => none
   else none
  | _ => none
 | _, _ => none
def w8m (es : List (List AV)) : Bool := es.all fun e => match e with
 | [.int .u8 n] => decide (0 ≤ n) && decide (n ≤ 255)
 | _ => false
def y0r (tB tb : TypeId) : List AV → AHeap → Option (AV × AHeap)
 | [.ptr b 2 0 0], H => match H.at_ b with
  | .cells t 2 [[_, .slc b2 1 0 n]] => match H.at_ b2 with
   | .cells t2 1 es => if t = tB ∧ t2 = tb ∧ n ≠ 0 ∧ n ≤ es.length ∧ n ≤ maxLen ∧ w8m (es.take n) = true then (bytesOf (es.take n)).map fun s => (.str s, H.set b2 .dead) else none
   | _ => none
  | _ => none
 | _, _ => none
theorem x0b {tB : TypeId} {args : List AV} {H H' : AHeap} {r : AV} (h : z3l tB args H = some (r, H')) : H.next ≤ H'.next := by
 unfold z3l at h
 repeat' (split at h)
 all_goals first | (cases h; exact Nat.le_refl _) | cases h
theorem x2z {tB tb : TypeId} {args : List AV} {H H' : AHeap} {r : AV} (h : y0r tB tb args H = some (r, H')) : H.next ≤ H'.next := by
 unfold y0r at h
 repeat' (split at h)
 all_goals first | (simp only [Option.map_eq_some_iff] at h; obtain ⟨_, _, e⟩ := h; cases e; exact Nat.le_refl _) | cases h
theorem j6c {w : World} {c : Nat} {cs : Array Value} {t : TypeId} {fz : Nat × Nat} (h : w.heap[c]? = some (.cells cs t fz)) (i : Nat) : w.cell? ⟨c, i, none⟩ = cs[i]? := by
 unfold World.cell?
 rw [h]; rfl
theorem y8v (c j : Nat) : (⟨c, 0, none⟩ : Addr).add j = ⟨c, j, none⟩ := by
 unfold Addr.add
 split
 ·rename_i h; subst h; rfl
 ·simp
theorem j3j {fc fs : FuncId} {tB tb : TypeId} (L : BuilderLaws C.P fc fs tB tb) {args : List AV} {H H' : AHeap} {r : AV} (hg : z3l tB args H = some (r, H')) (hH : HRel C w U ι H) {vs : List Value} (ha : LsRel w U ι args vs) :
  InvN C.P fc vs w (Post C w U ι H H' r) := by
 unfold z3l at hg
 split at hg
 ·rename_i H0 b
  split at hg
  ·rename_i t a v hbl
   split at hg
   ·rename_i ht
    subst ht
    obtain ⟨v1, vs1, rfl, h1, ha1⟩ := ha.cases_cons
    obtain rfl := ha1.cases_nil
    cases h1 with
    | ptr _ _ _ _ c hι =>
     have hbr := hH.blk b c hι
     rw [hbl] at hbr
     obtain ⟨cs, hcs, _, hr⟩ := hbr
     obtain ⟨ho0, u0, hu0, hv0⟩ := hr 0 _ 0 a rfl rfl
     obtain ⟨ho1, u1, hu1, hv1⟩ := hr 0 _ 1 v rfl rfl
     simp only [Nat.zero_mul, Nat.zero_add] at hu0 hu1
     have hp : ((0 * 2 + 0 : Nat)) = 0 := rfl
     rw [hp]
     have hc0 : w.cell? ⟨c, 0, none⟩ = some u0 := by rw [j6c hcs, hu0]
     obtain ⟨fn, hfn, hnm, hbd⟩ := L.fnc
     split at hg
     ·cases hg
      cases hv0
      refine z6b hfn hnm hbd ?_
      have v1l : 2 ≤ cs.size := by
       have := (Array.getElem?_eq_some_iff.mp hu1).1
       omega
      refine (L.fresh c cs.size w v1l hc0 (by unfold World.shape?; rw [hcs]) (by unfold World.frozen?; rw [hcs]; rfl)).mono ?_
      rintro e w' ⟨rfl, rfl⟩
      refine ⟨_, rfl, ?_⟩
      have hsc : (w.setCell ⟨c, 0, none⟩ (.pointer (some ⟨c, 0, none⟩))).heap[c]? = some (.cells (cs.setIfInBounds 0 (.pointer (some ⟨c, 0, none⟩))) t (0, 0)) := by
       unfold World.setCell
       simp [Array.getElem?_modify, hcs]
      have hot : ∀ d, d ≠ c → (w.setCell ⟨c, 0, none⟩ (.pointer (some ⟨c, 0, none⟩))).heap[d]? = w.heap[d]? := by
       intro d hd
       unfold World.setCell
       simp [Array.getElem?_modify, Ne.symm hd]
      obtain ⟨he, hh⟩ := x2y (w' := w.setCell ⟨c, 0, none⟩ (.pointer (some ⟨c, 0, none⟩))) hH hι (by simp [World.setCell]) hot (fun d => by
       by_cases hd : d = c
       ·subst hd
        unfold World.shape?
        rw [hsc, hcs]; simp
       ·exact q1d (hot d hd)) ⟨rfl, rfl, rfl⟩ (by rw [hbl]; rfl) (blk := .cells t 2 [[.ptr b 2 0 0, v]]) (fun hm => by
        refine ⟨_, hsc, fun e he => by simp at he; subst he; rfl, fun i e j x hi hj => ?_⟩
        match i, hi with
        | 0, hi =>
         cases hi
         match j, hj with
         | 0, hj => cases hj; exact ⟨rfl, .pointer (some ⟨c, 0, none⟩), Array.getElem?_setIfInBounds_self_of_lt (by omega), .ptr b 2 0 0 c hι⟩
         | 1, hj => cases hj; exact ⟨ho1, u1, by simpa using hu1, hm hv1⟩)
      exact ⟨U, ι, ⟨he, hh, .tuple [] [] rfl (fun i a v h => by simp at h)⟩, Fresh.refl _ _⟩
     ·rename_i b'
      split at hg
      ·rename_i hbb
       subst hbb
       cases hg
       cases hv0 with
       | ptr _ _ _ _ c' hι' =>
        rw [hι] at hι'
        cases hι'
        refine z6b hfn hnm hbd ?_
        refine (L.used c w hc0).mono ?_
        rintro e w' ⟨rfl, rfl⟩
        exact ⟨_, rfl, U, ι, ⟨Ext.refl _ _ _, hH, .tuple [] [] rfl (fun i a v h => by simp at h)⟩, Fresh.refl _ _⟩
      ·cases hg
     ·cases hg
   ·cases hg
  ·cases hg
 ·cases hg
theorem z6c : ∀ {es : List (List AV)} {s : Bytes}, bytesOf es = some s → s.length = es.length ∧ ∀ (j : Nat) (x : UInt8), s[j]? = some x → ∃ n, es[j]? = some [.int .u8 n] ∧ x = UInt8.ofNat n.toNat
 | [], s, h => by cases h; exact ⟨rfl, fun j x h => by simp at h⟩
 | e :: es, s, h => by
  unfold bytesOf at h
  split at h
  ·rename_i b bs hb hbs
   cases h
   obtain ⟨h1, h2⟩ := z6c hbs
   refine ⟨by simp [h1], fun j x hj => ?_⟩
   cases j with
   | zero =>
    simp at hj; subst hj
    unfold byteOf at hb
    split at hb
    ·rename_i n; cases hb; exact ⟨n, rfl, rfl⟩
    ·cases hb
   | succ j => exact h2 j x (by simpa using hj)
  ·cases h
theorem x3a {fc fs : FuncId} {tB tb : TypeId} (L : BuilderLaws C.P fc fs tB tb) {args : List AV} {H H' : AHeap} {r : AV} (hg : y0r tB tb args H = some (r, H')) (hH : HRel C w U ι H) {vs : List Value} (ha : LsRel w U ι args vs) :
  InvN C.P fs vs w (Post C w U ι H H' r) := by
 unfold y0r at hg
 split at hg
 ·rename_i H0 b
  split at hg
  ·rename_i t a b2 n hbl
   split at hg
   ·rename_i t2 es hbl2
    split at hg
    ·rename_i hcond
     obtain ⟨rfl, rfl, hn0, hn, hnm, hu8⟩ := hcond
     simp only [Option.map_eq_some_iff] at hg
     obtain ⟨s, hs, e⟩ := hg
     cases e
     obtain ⟨hsl, hsg⟩ := z6c hs
     obtain ⟨v1, vs1, rfl, h1, ha1⟩ := ha.cases_cons
     obtain rfl := ha1.cases_nil
     cases h1 with
     | ptr _ _ _ _ c hι =>
      have hbr := hH.blk b c hι
      rw [hbl] at hbr
      obtain ⟨cs, hcs, _, hr⟩ := hbr
      obtain ⟨ho1, u1, hu1, hv1⟩ := hr 0 _ 1 (.slc b2 1 0 n) rfl rfl
      simp only [Nat.zero_mul, Nat.zero_add] at hu1
      have hp : ((0 * 2 + 0 : Nat)) = 0 := rfl
      rw [hp]
      have hc1 : w.cell? ⟨c, 1, none⟩ = some u1 := by rw [j6c hcs, hu1]
      obtain ⟨fn, hfn, hnmm, hbd⟩ := L.fns
      cases hv1 with
      | slc _ _ _ _ g off cap m t3 hg2 ho hcap hsh hm =>
       have x6n : off = 0 := by simpa using ho (.inr rfl)
       subst x6n
       have hbr2 := hH.blk b2 g hg2
       rw [hbl2] at hbr2
       obtain ⟨ds, hds, hk2, hr2⟩ := hbr2
       have hsn : s.length = n := by rw [hsl, List.length_take]; omega
       have j7b : ∀ (j : Nat) (x : UInt8), s[j]? = some x → w.cell? ((⟨g, 0, none⟩ : Addr).add j) = some (.int .u8 x.toNat) := by
        intro j x hj
        obtain ⟨z, hz, hxz⟩ := hsg j x hj
        have hjn : j < n := by rw [← hsn]; exact (List.getElem?_eq_some_iff.mp hj).1
        have hz' : es[j]? = some [.int .u8 z] := by rw [List.getElem?_take_of_lt hjn] at hz; exact hz
        obtain ⟨_, u, hu, hv⟩ := hr2 j _ 0 (.int .u8 z) hz' rfl
        cases hv
        have hrange : 0 ≤ z ∧ z ≤ 255 := by
         have := List.all_eq_true.mp hu8 _ (List.mem_of_getElem? hz)
         simpa using this
        have hxx : ((x.toNat : Nat) : Int) = z := by
         rw [hxz, UInt8.toNat_ofNat']
         omega
        rw [y8v, j6c hds, hxx]
        simpa using hu
       have q2u : s.length ≤ ds.size := by
        rw [hsn]
        have hlt : n - 1 < es.length := by omega
        have he : es[n - 1]? = some es[n - 1] := List.getElem?_eq_getElem hlt
        have hek := hk2 _ (List.getElem_mem hlt)
        obtain ⟨_, u, hu, _⟩ := hr2 (n - 1) _ 0 (es[n - 1][0]'(by omega)) he (List.getElem?_eq_getElem _)
        have := (Array.getElem?_eq_some_iff.mp hu).1
        omega
       refine z6b hfn hnmm hbd ?_
       have q2k := L.str c g cap ds.size s w (by rw [hc1, hsn]) (by intro e; subst e; simp at hsn; exact hn0 hsn.symm) (by omega) (by omega) (by unfold World.shape?; rw [hds]) q2u j7b
       refine q2k.mono ?_
       rintro e w' ⟨rfl, rfl⟩
       refine ⟨_, rfl, ?_⟩
       have hfz : (w.drew.freeze ⟨g, 0, none⟩ s.length).heap[g]? = some (.cells ds t2 (0, s.length)) := by
        unfold World.freeze World.drew
        rw [if_neg (by omega)]
        simp [Array.getElem?_modify, hds]
       have hot : ∀ d, d ≠ g → (w.drew.freeze ⟨g, 0, none⟩ s.length).heap[d]? = w.heap[d]? := by
        intro d hd
        unfold World.freeze World.drew
        rw [if_neg (by omega)]
        simp [Array.getElem?_modify, Ne.symm hd]
       have hsz : (w.drew.freeze ⟨g, 0, none⟩ s.length).heap.size = w.heap.size := by
        unfold World.freeze World.drew
        rw [if_neg (by omega)]
        simp
       have y0k : (w.drew.freeze ⟨g, 0, none⟩ s.length).os = w.os ∧ (w.drew.freeze ⟨g, 0, none⟩ s.length).tape = w.tape ∧ (w.drew.freeze ⟨g, 0, none⟩ s.length).output = w.output := by
        unfold World.freeze World.drew
        rw [if_neg (by omega)]
        exact ⟨rfl, rfl, rfl⟩
       obtain ⟨he, hh⟩ := x2y (w' := w.drew.freeze ⟨g, 0, none⟩ s.length) hH hg2 hsz hot (fun d => by
        by_cases hd : d = g
        ·subst hd
         unfold World.shape?
         rw [hfz, hds]
        ·exact q1d (hot d hd)) y0k (by rw [hbl2]; rfl) (blk := .dead) (fun hm => trivial)
       exact ⟨U, ι, ⟨he, hh, .str s _ rfl⟩, Fresh.refl _ _⟩
    ·cases hg
   ·cases hg
  ·cases hg
 ·cases hg
theorem q7b {fn : FuncId} {T : Nat → AV} {ds : List ADef} {ro : Option Nat} {k : List AItem} {H : AHeap} {Q : AV → AHeap → Prop} {f : FuncId} {g : List AV → AHeap → Option (AV × AHeap)} {args : List AV} {dst : Option Nat} {os : List AO} (hp : C.pure f = false) (hx : C.ext f = some g) :
  q0g C fn T ds ro f args dst os k H Q = q6a C fn T ds ro dst os k Q (g args H) := by
 unfold q0g
 have e : ∀ n, q4i C (cln C n) f args H = g args H := fun n => by
  unfold q4i
  rw [if_neg (by simp [hp])]
  show (q9d C (exec C n)).call f args H = _
  simp only [q9d, hx]
 simp only [e]
 cases hg : g args H with
 | none => simp [z0s, q7s, q6a]
 | some z =>
  obtain ⟨r, H1⟩ := z
  rfl
theorem q3g (s : Bytes) : (q0v s).length = s.length := by simp [q0v]
theorem q5v (s : Bytes) : (q0v s).take s.length = q0v s := by rw [← q3g s, List.take_length]
theorem x0c (s t : Bytes) : q0v s ++ q0v t = q0v (s ++ t) := by simp [q0v]
theorem j0d (s : Bytes) (x : UInt8) : q0v s ++ [[.int .u8 (x.toNat : Int)]] = q0v (s ++ [x]) := by simp [q0v]
theorem q5i : ∀ s : Bytes, bytesOf (q0v s) = some s
 | [] => rfl
 | x :: s => by
  have ih := q5i s
  unfold q0v at ih ⊢
  rw [List.map_cons]
  unfold bytesOf
  rw [ih]
  simp [byteOf]
theorem x8c (s : Bytes) : w8m (q0v s) = true := by
 unfold w8m q0v
 rw [List.all_map, List.all_eq_true]
 intro x _
 have := x.toNat_lt
 simp
 omega
structure IsB (tB tb : TypeId) (H : AHeap) (b : Nat) (g : Option Nat) (acc : Bytes) : Prop where
 lt : b < H.next
 self : ∃ a, (a = .nilP ∨ a = .ptr b 2 0 0) ∧ H.at_ b = .cells tB 2 [[a, match g with | none => .nilS | some g => .slc g 1 0 acc.length]]
 buf : match g with | none => acc = [] | some g => g ≠ b ∧ g < H.next ∧ H.at_ g = .cells tb 1 (q0v acc)
structure Kept (H H' : AHeap) (b : Nat) (g g' : Option Nat) : Prop where
 next : H.next ≤ H'.next
 at_ : ∀ d, d < H.next → d ≠ b → some d ≠ g → H'.at_ d = H.at_ d
 new : g' = g ∨ ∃ z, g' = some z ∧ H.next ≤ z
end Go.BX
namespace Go.Proofs.YtckhmpcmlochpaaGreat.G
open Go.RowKit Go.Proofs
theorem w8n (count : Nat) (h : 1 ≤ count) : liesAt Tryz.prog Tryz.prog.depth 153 count 0 153 1 = true := by
 have hc : Tryz.prog.cellsOf 153 = 2 := by kernel_rfl
 have hd : Tryz.prog.depth = (2 * (Tryz.prog.types.size + Made.depth) + 1) + 1 := rfl
 rw [hd]
 simp only [liesAt, Bool.or_eq_true]
 left
 rw [hd]
 simp [rowAt, hc, h, sameLayout]
set_option maxHeartbeats 1000000 in
set_option maxRecDepth 100000 in
theorem x3b (b : Nat) (w : World) (h0 : w.cell? ⟨b, 0, none⟩ = some (.pointer (some ⟨b, 0, none⟩))) :
  Calls Tryz.prog 122 #[.pointer (some ⟨b, 0, none⟩)] w fun e w' => e = .returned (.tuple #[]) ∧ w' = w := by
 obtain ⟨j, hj, _⟩ := Option.map_eq_some_iff.1 (show (Tryz.prog.info? 153).map (·.size) = some 2 by kernel_rfl)
 go_enter Tryz.func122, Tryz.ntmps122
 go_wp2
 rw [Lib.run_neq_ptr_same w _ Tryz.underlying151 hj]
 go_wp2
 go_end0
 exact ⟨rfl, rfl⟩
set_option maxHeartbeats 1000000 in
set_option maxRecDepth 100000 in
theorem x0d (b m : Nat) (w : World) (hm : 2 ≤ m) (h0 : w.cell? ⟨b, 0, none⟩ = some (.pointer none)) (hsh : w.shape? b = some (153, m)) (hfz : w.frozen? ⟨b, 0, none⟩ = false) :
  Calls Tryz.prog 122 #[.pointer (some ⟨b, 0, none⟩)] w fun e w' => e = .returned (.tuple #[]) ∧ w' = w.setCell ⟨b, 0, none⟩ (.pointer (some ⟨b, 0, none⟩)) := by
 obtain ⟨j, hj, hjs⟩ := Option.map_eq_some_iff.1 (show (Tryz.prog.info? 153).map (·.size) = some 2 by kernel_rfl)
 go_enter Tryz.func122, Tryz.ntmps122
 go_wp2
 rw [Lib.run_to_unsafe w ⟨b, 0, none⟩ Tryz.underlying151 Tryz.underlying162 hj (by rw [hjs]; decide) hsh (show 0 < m by omega)]
 simp only [Result.andThen]
 rw [Oper.upon_value]
 go_wp2
 rw [run_callFunc_extern Tryz.func124 (by kernel_rfl) (by kernel_rfl) (by kernel_rfl) (e := Extern.AbiNoEscape.same) (by kernel_rfl)]
 rw [Lib.run_noEscape]
 simp only [Result.andThen]
 rw [Oper.upon_value]
 go_wp2
 rw [Lib.run_from_unsafe w ⟨b, 0, none⟩ Tryz.underlying162 Tryz.underlying151 hj hsh (w8n (m / Tryz.prog.cellsOf 153) (by rw [show Tryz.prog.cellsOf 153 = 2 by kernel_rfl]; omega))]
 simp only [Result.andThen]
 rw [Oper.upon_value]
 go_wp2
 go_end0
 exact ⟨rfl, rfl⟩
set_option maxHeartbeats 2000000 in
set_option maxRecDepth 100000 in
theorem y3x (b g cap cells : Nat) (l : List UInt8) (w : World) (c1 : w.cell? ⟨b, 1, none⟩ = some (.slice (some ⟨g, 0, none⟩) l.length cap)) (h0 : l ≠ []) (hle : l.length ≤ cap) (hcap : l.length ≤ maxLen) (hsh : w.shape? g = some (5, cells)) (hn : l.length ≤ cells)
  (hc : ∀ (j : Nat) (x : UInt8), l[j]? = some x → w.cell? ((⟨g, 0, none⟩ : Addr).add j) = some (.int .u8 x.toNat)) :
  Calls Tryz.prog 118 #[.pointer (some ⟨b, 0, none⟩)] w fun e w' => e = .returned (.string ⟨l.toArray⟩) ∧ w' = w.drew.freeze ⟨g, 0, none⟩ l.length := by
 have hl0 : l.length ≠ 0 := by simpa using h0
 have hc1 : w.drew.cell? ⟨b, 1, none⟩ = some (.slice (some ⟨g, 0, none⟩) l.length cap) := c1
 have hSD : (Builtin.unsafeSliceData_ #[127] 161 #[.slice (some ⟨g, 0, none⟩) l.length cap]).run Tryz.prog w.drew = .ok (.pointer (some ⟨g, 0, none⟩)) w.drew :=
  Lib.run_unsafeSliceData_row _ _ _ _ _ _ (by omega)
 have hUS : (Builtin.unsafeString_ #[161, 3] 9 #[.pointer (some ⟨g, 0, none⟩), .int .i64 l.length]).run Tryz.prog w.drew = .ok (.string ⟨l.toArray⟩) (w.drew.freeze ⟨g, 0, none⟩ l.length) := by
  refine Lib.run_unsafeString_row w.drew 161 3 9 5 Tryz.underlying161 (by kernel_rfl) g cells hsh l h0 hn (by unfold maxLen at hcap; omega) ?_
  intro j x hx
  exact hc j x hx
 go_enter Tryz.func118, Tryz.ntmps118
 go_wp2
 go_region
 all_goals (go_wp2; go_ret; exact ⟨rfl, rfl⟩)
theorem z6d : BX.BuilderLaws Tryz.prog 122 118 153 5 where
 used := x3b
 fresh := x0d
 str := y3x
 fnc := ⟨_, Tryz.func122, by kernel_rfl, by kernel_rfl⟩
 fns := ⟨_, Tryz.func118, by kernel_rfl, by kernel_rfl⟩
end Go.Proofs.YtckhmpcmlochpaaGreat.G
namespace Go.Proofs.YtckhmpcmlochpaaGreat.G
open Go.BX
def good : List Nat := [1, 2, 3, 4, 5, 6, 7, 8, 9, 10, 11, 12, 13, 14, 15, 16, 17, 18, 19, 20, 21, 22, 23, 24, 25, 26, 27, 28, 29, 30, 31, 32, 33, 34, 36, 37, 38, 40, 41, 42, 44, 45, 47, 48, 49, 50, 51, 52, 53, 54, 55, 56, 57, 58, 59, 60, 61, 62, 63, 64, 65, 66, 67, 69, 71, 73, 74, 75, 76, 77, 78, 79, 80, 81, 82, 83, 84, 85, 86, 87, 88, 89, 90, 91, 92, 93, 95, 96, 97, 98, 99, 100, 101, 102, 103, 104, 105, 106, 107, 108, 109, 110, 112, 114, 115, 116, 118, 119, 120, 121, 123, 124, 126, 127, 129, 131, 132, 134, 135, 136, 137, 138, 139, 140, 142, 143, 144, 145, 146, 147, 148, 149, 150, 151, 152, 153, 154, 155, 156, 158, 159, 160, 161, 163, 164, 165, 166, 169, 170, 171, 172, 173, 174, 175, 176, 177]
def pureL : List Nat := [2, 3, 4, 5, 6, 7, 8, 9, 10, 11, 12, 13, 14, 15, 17, 18, 19, 21, 22, 23, 24, 25, 26, 32, 33, 34, 36, 37, 39, 41, 43, 44, 45, 46, 47, 48, 49, 59, 60, 62, 63, 65, 66, 67, 72, 73, 74, 75, 76, 77, 79, 80, 82, 83, 84, 85, 86, 87, 88, 89, 90, 91, 92, 93, 94, 95, 96, 97, 98, 99, 100, 101, 103, 104, 105, 106, 107, 108, 109, 110, 111, 112, 113, 114, 115, 119, 120, 121, 123]
def y7z : FuncId → Option (List AV → AHeap → Option (AV × AHeap))
 | 123 => some (y7y)
 | 122 => some (z3l 153)
 | 118 => some (y0r 153 5)
 | 121 => some (y7x)
 | _ => none
noncomputable def Cx : Ctx := z7j Tryz.prog good (fun f => pureL.contains f) y7z
theorem y3y : good.all (z5h Tryz.prog good) = true := by kernel_rfl
theorem w8o : Tryz.prog.follows .mixedOrders = true := by kernel_rfl
theorem x8d : IsExt Tryz.prog 123 Tryz.f123 Extern.BytealgIndexByte.indexByte := ⟨Tryz.func123, by kernel_rfl, by kernel_rfl, by kernel_rfl, by kernel_rfl⟩
theorem x8e : IsExt Tryz.prog 121 Tryz.f121 Extern.BytealgCompare.compare := ⟨Tryz.func121, by kernel_rfl, by kernel_rfl, by kernel_rfl, by kernel_rfl⟩
theorem w8p : ExtOk Cx := by
 constructor
 ·intro f g args H r H' hf hg
  change y7z f = some g at hf
  unfold y7z at hf
  split at hf <;> first | (cases hf; done) | skip
  ·cases hf; exact x2x hg
  ·cases hf; exact x0b hg
  ·cases hf; exact x2z hg
  ·cases hf; exact x2w hg
 ·intro f g args H r H' hf hg w U ι vs hH ha
  change y7z f = some g at hf
  unfold y7z at hf
  split at hf <;> first | (cases hf; done) | skip
  ·cases hf; exact x2v x8d hg hH ha
  ·cases hf; exact j3j z6d hg hH ha
  ·cases hf; exact x3a z6d hg hH ha
  ·cases hf; exact x2u x8e hg hH ha
theorem cok : COk Cx := y8q y3y w8p w8o
theorem q0l (f : FuncId) (h : y7z f = none := by rfl) : Cx.ext f = none := h
theorem w8q : Cx.TT 3 = some { kind := .int .i64, size := 1, bytes := 8, zero := [.int .i64 0], eqk := (some [.int .i64]) } := by kernel_rfl
theorem TT_4 : Cx.TT 4 = some { kind := .bool, size := 1, bytes := 1, zero := [.bool false], eqk := (some [.bool]) } := by kernel_rfl
theorem w7t : Cx.TT 5 = some { kind := .int .u8, size := 1, bytes := 1, zero := [.int .u8 0], eqk := (some [.int .u8]) } := by kernel_rfl
theorem x6r : Cx.TT 9 = some { kind := .str, size := 1, bytes := 16, zero := [.str []], eqk := (some [.str]) } := by kernel_rfl
theorem y8w : Cx.TT 21 = some { kind := .int .i32, size := 1, bytes := 4, zero := [.int .i32 0], eqk := (some [.int .i32]) } := by kernel_rfl
theorem y8x : Cx.TT 22 = some { kind := .slice 51, size := 1, bytes := 24, zero := [.nilS], eqk := none } := by kernel_rfl
theorem y8y : Cx.TT 24 = some { kind := .struct [(3, 0), (3, 1)], size := 2, bytes := 16, zero := [.int .i64 0, .int .i64 0], eqk := (some [.int .i64, .int .i64]) } := by kernel_rfl
theorem y3z : Cx.TT 26 = some { kind := .struct [(3, 0), (3, 1), (9, 2), (24, 3)], size := 5, bytes := 48, zero := [.int .i64 0, .int .i64 0, .str [], .int .i64 0, .int .i64 0], eqk := (some [.int .i64, .int .i64, .str, .int .i64, .int .i64]) } := by kernel_rfl
theorem y8z : Cx.TT 28 = some { kind := .struct [(9, 0), (26, 1), (26, 6)], size := 11, bytes := 112, zero := [.str [], .int .i64 0, .int .i64 0, .str [], .int .i64 0, .int .i64 0, .int .i64 0, .int .i64 0, .str [], .int .i64 0, .int .i64 0], eqk := (some [.str, .int .i64, .int .i64, .str, .int .i64, .int .i64, .int .i64, .int .i64, .str, .int .i64, .int .i64]) } := by kernel_rfl
theorem y4a : Cx.TT 31 = some { kind := .slice 49, size := 1, bytes := 24, zero := [.nilS], eqk := none } := by kernel_rfl
theorem y9a : Cx.TT 33 = some { kind := .struct [(26, 0), (31, 5), (3, 6)], size := 7, bytes := 80, zero := [.int .i64 0, .int .i64 0, .str [], .int .i64 0, .int .i64 0, .nilS, .int .i64 0], eqk := none } := by kernel_rfl
theorem y9b : Cx.TT 34 = some { kind := .int .i64, size := 1, bytes := 8, zero := [.int .i64 0], eqk := (some [.int .i64]) } := by kernel_rfl
theorem y4b : Cx.TT 37 = some { kind := .slice 60, size := 1, bytes := 24, zero := [.nilS], eqk := none } := by kernel_rfl
theorem y4c : Cx.TT 49 = some { kind := .struct [(9, 0), (26, 1)], size := 6, bytes := 64, zero := [.str [], .int .i64 0, .int .i64 0, .str [], .int .i64 0, .int .i64 0], eqk := (some [.str, .int .i64, .int .i64, .str, .int .i64, .int .i64]) } := by kernel_rfl
theorem y9c : Cx.TT 51 = some { kind := .struct [(3, 0), (26, 1)], size := 6, bytes := 56, zero := [.int .i64 0, .int .i64 0, .int .i64 0, .str [], .int .i64 0, .int .i64 0], eqk := (some [.int .i64, .int .i64, .int .i64, .str, .int .i64, .int .i64]) } := by kernel_rfl
theorem y9d : Cx.TT 54 = some { kind := .ptr, size := 1, bytes := 8, zero := [.nilP], eqk := none } := by kernel_rfl
theorem y9e : Cx.TT 55 = some { kind := .slice 76, size := 1, bytes := 24, zero := [.nilS], eqk := none } := by kernel_rfl
theorem y9f : Cx.TT 58 = some { kind := .struct [(37, 0), (55, 1), (28, 2), (3, 13), (26, 14), (31, 19), (3, 20), (34, 21)], size := 22, bytes := 256, zero := [.nilS, .nilS, .str [], .int .i64 0, .int .i64 0, .str [], .int .i64 0, .int .i64 0, .int .i64 0, .int .i64 0, .str [], .int .i64 0, .int .i64 0, .int .i64 0, .int .i64 0, .int .i64 0, .str [], .int .i64 0, .int .i64 0, .nilS, .int .i64 0, .int .i64 0], eqk := none } := by kernel_rfl
theorem y4d : Cx.TT 60 = some { kind := .struct [(3, 0), (26, 1)], size := 6, bytes := 56, zero := [.int .i64 0, .int .i64 0, .int .i64 0, .str [], .int .i64 0, .int .i64 0], eqk := (some [.int .i64, .int .i64, .int .i64, .str, .int .i64, .int .i64]) } := by kernel_rfl
theorem y4e : Cx.TT 62 = some { kind := .slice 3, size := 1, bytes := 24, zero := [.nilS], eqk := none } := by kernel_rfl
theorem y9g : Cx.TT 66 = some { kind := .struct [(22, 0), (62, 1), (9, 2), (26, 3), (26, 8), (3, 13), (26, 14), (31, 19), (3, 20), (3, 21)], size := 22, bytes := 256, zero := [.nilS, .nilS, .str [], .int .i64 0, .int .i64 0, .str [], .int .i64 0, .int .i64 0, .int .i64 0, .int .i64 0, .str [], .int .i64 0, .int .i64 0, .int .i64 0, .int .i64 0, .int .i64 0, .str [], .int .i64 0, .int .i64 0, .nilS, .int .i64 0, .int .i64 0], eqk := none } := by kernel_rfl
theorem y9h : Cx.TT 76 = some { kind := .struct [(9, 0), (3, 1), (3, 2)], size := 3, bytes := 32, zero := [.str [], .int .i64 0, .int .i64 0], eqk := (some [.str, .int .i64, .int .i64]) } := by kernel_rfl
theorem y4f : Cx.TT 79 = some { kind := .slice 26, size := 1, bytes := 24, zero := [.nilS], eqk := none } := by kernel_rfl
theorem y9i : Cx.TT 86 = some { kind := .slice 88, size := 1, bytes := 24, zero := [.nilS], eqk := none } := by kernel_rfl
theorem y9j : Cx.TT 88 = some { kind := .struct [(9, 0), (3, 1)], size := 2, bytes := 24, zero := [.str [], .int .i64 0], eqk := (some [.str, .int .i64]) } := by kernel_rfl
theorem y4g : Cx.TT 92 = some { kind := .slice 9, size := 1, bytes := 24, zero := [.nilS], eqk := none } := by kernel_rfl
theorem y9k : Cx.TT 98 = some { kind := .array 5 26, size := 25, bytes := 240, zero := [.int .i64 0, .int .i64 0, .str [], .int .i64 0, .int .i64 0, .int .i64 0, .int .i64 0, .str [], .int .i64 0, .int .i64 0, .int .i64 0, .int .i64 0, .str [], .int .i64 0, .int .i64 0, .int .i64 0, .int .i64 0, .str [], .int .i64 0, .int .i64 0, .int .i64 0, .int .i64 0, .str [], .int .i64 0, .int .i64 0], eqk := (some [.int .i64, .int .i64, .str, .int .i64, .int .i64, .int .i64, .int .i64, .str, .int .i64, .int .i64, .int .i64, .int .i64, .str, .int .i64, .int .i64, .int .i64, .int .i64, .str, .int .i64, .int .i64, .int .i64, .int .i64, .str, .int .i64, .int .i64]) } := by kernel_rfl
theorem j7t : Cx.TT 127 = some { kind := .slice 5, size := 1, bytes := 24, zero := [.nilS], eqk := none } := by kernel_rfl
theorem y0s : Cx.TT 146 = some { kind := .cpx, size := 1, bytes := 16, zero := [.cpx 0 0], eqk := none } := by kernel_rfl
theorem x3c : Cx.TT 148 = some { kind := .slice 150, size := 1, bytes := 24, zero := [.nilS], eqk := none } := by kernel_rfl
theorem x3d : Cx.TT 150 = some { kind := .struct [(3, 0), (3, 1)], size := 2, bytes := 16, zero := [.int .i64 0, .int .i64 0], eqk := (some [.int .i64, .int .i64]) } := by kernel_rfl
theorem y0t : Cx.TT 151 = some { kind := .ptr, size := 1, bytes := 8, zero := [.nilP], eqk := none } := by kernel_rfl
theorem y0u : Cx.TT 153 = some { kind := .struct [(151, 0), (127, 1)], size := 2, bytes := 32, zero := [.nilP, .nilS], eqk := none } := by kernel_rfl
theorem y0v : Cx.TT 160 = some { kind := .flt, size := 1, bytes := 8, zero := [.flt 0], eqk := none } := by kernel_rfl
theorem y0w : Cx.TT 161 = some { kind := .ptr, size := 1, bytes := 8, zero := [.nilP], eqk := none } := by kernel_rfl
theorem qS (f : FuncId) (c : AC) {a b : AC} (h : c = .seq a b) : SeqE Cx f c a b := fun _ _ _ _ _ _ => h ▸ q5z
theorem qN (f : FuncId) (c : AC) {l : Nat} (h : c = .label l) : w8k Cx f c := fun _ _ _ _ _ _ => h ▸ x2f
theorem qR (f : FuncId) (c : AC) {o : List AO} (h : c = .region o []) : RegE Cx f c o := fun _ _ _ _ _ _ => h ▸ z1z
theorem qD (f : FuncId) (c : AC) {o : List AO} {l : List (List Nat)} (h : c = .region o l) : RegX Cx f c o l := fun _ _ _ _ _ _ => h ▸ q4e
theorem qC (f : FuncId) (c : AC) {e : Operand} {a b : AC} (h : c = .cond e a b) : w8l Cx f c e a b := fun _ _ _ _ _ _ => h ▸ z5m
theorem qB (f : FuncId) (c : AC) {i : Nat} {a : AC} (h : c = .block i a) : BlkE Cx f c i a := fun _ _ _ _ _ _ => h ▸ z5i
theorem qP (f : FuncId) (c : AC) {a : AC} (h : c = .scope a) : y8s Cx f c a := fun _ _ _ _ _ _ => h ▸ x2g
theorem qT (f : FuncId) (c : AC) (h : c = .ret) : RetE Cx f c := fun _ _ _ _ => h ▸ j5x
theorem tt : And ((And ((And ((And ((And ((And (type_of% @w8q) (type_of% @TT_4))) ((And (type_of% @w7t) (type_of% @x6r))))) ((And ((And (type_of% @y8w) (type_of% @y8x))) ((And (type_of% @y8y) (type_of% @y3z))))))) ((And ((And ((And (type_of% @y8z) (type_of% @y4a))) ((And (type_of% @y9a) (type_of% @y9b))))) ((And ((And (type_of% @y4b) (type_of% @y4c))) ((And (type_of% @y9c) ((And (type_of% @y9d) (type_of% @y9e))))))))))) ((And ((And ((And ((And (type_of% @y9f) (type_of% @y4d))) ((And (type_of% @y4e) (type_of% @y9g))))) ((And ((And (type_of% @y9h) (type_of% @y4f))) ((And (type_of% @y9i) ((And (type_of% @y9j) (type_of% @y4g))))))))) ((And ((And ((And (type_of% @y9k) (type_of% @j7t))) ((And (type_of% @y0s) (type_of% @x3c))))) ((And ((And (type_of% @x3d) (type_of% @y0t))) ((And (type_of% @y0u) ((And (type_of% @y0v) (type_of% @y0w))))))))))))) ((And ((And ((And (type_of% @q5z) (type_of% @j5x))) ((And (type_of% @q4u) (type_of% @z1z))))) ((And ((And (type_of% @z5m) (type_of% @z5i))) ((And (type_of% @j2n) (type_of% @q2i))))))) := ⟨⟨⟨⟨⟨⟨w8q, TT_4⟩, ⟨w7t, x6r⟩⟩, ⟨⟨y8w, y8x⟩, ⟨y8y, y3z⟩⟩⟩, ⟨⟨⟨y8z, y4a⟩, ⟨y9a, y9b⟩⟩, ⟨⟨y4b, y4c⟩, ⟨y9c, ⟨y9d, y9e⟩⟩⟩⟩⟩, ⟨⟨⟨⟨y9f, y4d⟩, ⟨y4e, y9g⟩⟩, ⟨⟨y9h, y4f⟩, ⟨y9i, ⟨y9j, y4g⟩⟩⟩⟩, ⟨⟨⟨y9k, j7t⟩, ⟨y0s, x3c⟩⟩, ⟨⟨x3d, y0t⟩, ⟨y0u, ⟨y0v, y0w⟩⟩⟩⟩⟩⟩, ⟨⟨⟨@q5z, @j5x⟩, ⟨@q4u, @z1z⟩⟩, ⟨⟨@z5m, @z5i⟩, ⟨@j2n, @q2i⟩⟩⟩⟩
theorem qez : (type_of% @List.getElem?_cons_zero.{0}) ∧ (type_of% @List.getElem?_cons_succ.{0}) ∧ (type_of% @Option.getD_some.{0}) := ⟨@List.getElem?_cons_zero, @List.getElem?_cons_succ, @Option.getD_some⟩
section
variable {T : Nat → AV} {ds : List ADef} {ro : Option Nat} {k : List AItem} {H : AHeap} {Q : AV → AHeap → Prop}
abbrev o3_1 := rg [oA 4 (.box 28 (tm 1)) 0, oA 6 (.assign kF) 4]
abbrev o3_4 := rg [jx 13 5 #[] #[] 4, oA 14 (.unOp .not 4 (tm 13)) 4, jm 15 14 4, km 16 0 22 15 false, kl 17 28 4 15 false, kx 18 6 #[tm 16, tm 17] #[22, 28] 3 15 false, kB 19 .eql 3 (tm 18) (ci 0) 3 4 15 false, jp 20 15 kT (tm 19), jm 21 20 4, km 22 2 3 21 false, kB 23 .gtr 3 (tm 22) (ci 3000) 3 4 21 false, km 24 23 4 21 false, km 25 2 3 24 true, kB 26 .leq 3 (tm 25) (ci 100000) 3 4 24 true, kp 27 24 (tm 26) kF 21 false, jp 28 21 kT (tm 27)]
abbrev o3_7 := rg [jx 29 5 #[] #[] 4, js 6 29 4]
abbrev o3_11 := rg [jm 31 0 22, jx 32 8 #[tm 31] #[22] 37, jl 33 28 4, jm 34 2 3, jx 35 7 #[tm 32, tm 33, tm 34] #[37, 28, 3] 35, jm 30 35 35, je 36 30 0 33, je 37 30 1 34, ja 7 33, jt 33 7 36, js 8 37 34]
abbrev o3_13 := rg [jm 39 0 22, jf 40 28 4 0, jl 41 9 40, jf 42 28 4 1, jl 43 26 42, jf 44 28 4 2, jl 45 26 44, jm 46 2 3, jx 47 9 #[tm 39, tm 41, tm 43, tm 45, tm 46] #[22, 9, 26, 26, 3] 39, jm 38 47 39, je 48 38 0 26, je 49 38 1 31, je 50 38 2 3, je 51 38 3 3, ja 9 26, jt 26 9 48, js 10 49 31, js 11 50 3, js 12 51 3]
abbrev o3_15 := rg [jm 52 8 34, jm 53 12 3, jb 54 .eql 3 52 53 3 4, jm 55 54 4, kf 56 33 7 0 55 true, kl 57 26 56 55 true, kl 58 26 9 55 true, kq 59 .eql 26 57 58 26 4 55 true, jp 60 55 (tm 59) kF, jm 61 60 4, kf 62 33 7 2 61 true, kl 63 3 62 61 true, km 64 11 3 61 true, kq 65 .eql 3 63 64 3 4 61 true, jp 66 61 (tm 65) kF, jm 67 66 4, kf 68 33 7 1 67 true, kl 69 31 68 67 true, km 70 10 31 67 true, kx 71 10 #[tm 69, tm 70] #[31, 31] 4 67 true, jp 72 67 (tm 71) kF, js 6 72 4]
def c3_0 : AC := .seq o3_1 (.seq (.seq o3_4 (.cond (tm 28) (.seq o3_7 .ret) .skip)) (.seq o3_11 (.seq o3_13 (.seq o3_15 .ret))))
def r3_0 := qS 3 c3_0 rfl
theorem w8r : q0h Cx 3 = some c3_0 := by kernel_rfl
theorem w7u : q0p Cx 3 = some [.tmp 6] := by kernel_rfl
theorem x8f : Cx.pure 5 = true := by kernel_rfl
abbrev o6_1 := rg [oA 3 (.box 28 (tm 1)) 0, ji 4 0 3]
abbrev o6_3 := rg [ji 5 0 3]
abbrev o6_6 := rg [ji 6 0 3]
abbrev o6_11 := rg [jm 7 6 3, jm 8 0 22, oA 9 (cB .len #[tm 8] #[22]) 3, jb 10 .lss 3 7 9 3 4, jm 11 10 4, km 12 6 3 11 true, kB 13 .lss 3 (tm 12) (ci 100) 3 4 11 true, jp 14 11 (tm 13) kF]
abbrev o6_17 := rg [jm 17 5 3, jm 18 0 22, jm 19 6 3, oA 20 (.indexAddr 22 (tm 18) (tm 19)) 0, jf 21 51 20 1, jf 22 26 21 2, jl 23 9 22, oA 24 (cB .len #[tm 23] #[9]) 3, oA 25 (cB .min #[tm 24, ci 10000] #[3, 3]) 3, jb 26 .add 3 17 25 3 3, js 5 26 3]
abbrev o6_18 := rg [jm 15 6 3, jB 16 .add 3 (tm 15) (ci 1) 3 3, js 6 16 3]
def c6_9 : AC := .seq (.seq o6_11 (.cond (tm 14) .skip (.exit 0))) (.seq (.block 1 o6_17) o6_18)
abbrev o6_21 := rg [jm 27 0 22, oA 28 (cB .len #[tm 27] #[22]) 3, jB 29 .geq 3 (tm 28) (ci 100) 3 4, jm 30 29 4, km 31 5 3 30 false, kB 32 .gtr 3 (tm 31) (ci 5000) 3 4 30 false, jp 33 30 kT (tm 32), jm 34 33 4, kf 35 28 3 0 34 false, kl 36 9 35 34 false, oG 37 (cB .len #[tm 36] #[9]) 3 34 false, kB 38 .gtr 3 (tm 37) (ci 5000) 3 4 34 false, jp 39 34 kT (tm 38), jm 40 39 4, kf 41 28 3 1 40 false, kf 42 26 41 2 40 false, kl 43 9 42 40 false, oG 44 (cB .len #[tm 43] #[9]) 3 40 false, kB 45 .gtr 3 (tm 44) (ci 5000) 3 4 40 false, jp 46 40 kT (tm 45), jm 47 46 4, kf 48 28 3 2 47 false, kf 49 26 48 2 47 false, kl 50 9 49 47 false, oG 51 (cB .len #[tm 50] #[9]) 3 47 false, kB 52 .gtr 3 (tm 51) (ci 5000) 3 4 47 false, jp 53 47 kT (tm 52)]
abbrev o6_24 := rg [ji 4 0 3]
abbrev o6_28 := rg [ji 4 1 3]
def c6_19 : AC := .seq (.seq o6_21 (.cond (tm 53) (.seq o6_24 .ret) .skip)) (.seq o6_28 .ret)
def c6_0 : AC := .seq o6_1 (.seq o6_3 (.seq (.seq o6_6 (.block 0 (.loop c6_9))) c6_19))
def r6_0 := qa3 (qS 6 c6_0 rfl) (qS 6 c6_9 rfl) (qS 6 c6_19 rfl)
theorem x3e : q0h Cx 6 = some c6_0 := by kernel_rfl
theorem x6s : q0p Cx 6 = some [.tmp 4] := by kernel_rfl
theorem x8g : Cx.pure 6 = true := by kernel_rfl
abbrev o7_1 := rg [oA 4 (.box 28 (tm 1)) 0, ja 6 33, ji 7 0 34]
abbrev o7_4 := rg [jm 10 0 37, jx 11 13 #[tm 10] #[37] 4, oA 12 (.unOp .not 4 (tm 11)) 4, jm 13 12 4, kf 14 28 4 0 13 false, kl 15 9 14 13 false, oG 16 (cB .len #[tm 15] #[9]) 3 13 false, kB 17 .gtr 3 (tm 16) (ci 4096) 3 4 13 false, jp 18 13 kT (tm 17), jm 19 18 4, kf 20 28 4 1 19 false, kl 21 26 20 19 false, kx 22 14 #[tm 21] #[26] 4 19 false, oG 23 (.unOp .not 4 (tm 22)) 4 19 false, jp 24 19 kT (tm 23), jm 25 24 4, kf 26 28 4 2 25 false, kl 27 26 26 25 false, kx 28 14 #[tm 27] #[26] 4 25 false, oG 29 (.unOp .not 4 (tm 28)) 4 25 false, jp 30 25 kT (tm 29), jm 31 30 4, km 32 2 3 31 false, kB 33 .lss 3 (tm 32) (ci 0) 3 4 31 false, jp 34 31 kT (tm 33), jm 35 34 4, km 36 2 3 35 false, kB 37 .gtr 3 (tm 36) (ci 100000) 3 4 35 false, jp 38 35 kT (tm 37)]
abbrev o7_7 := rg [oA 39 (.build 33 #[]) 33, jt 33 6 39, ji 7 1 34]
abbrev o7_11 := rg [jm 40 0 37, jm 41 0 37, jx 42 15 #[tm 41] #[37] 55, jl 43 28 4, jm 44 2 3, oA 45 (.build 58 #[(0, (tm 40)), (1, (tm 42)), (2, (tm 43)), (6, (tm 44))]) 58, oA 46 (.box 58 (tm 45)) 54, js 8 46 54]
abbrev o7_13 := rg [jm 47 8 54, jx 48 16 #[tm 47, ci 0] #[54, 3] 26, ja 9 26, jt 26 9 48]
abbrev o7_16 := rg [jm 49 8 54, jn 50 49, jf 51 58 50 7, jl 52 34 51, jB 53 .neq 34 (tm 52) (ci 0) 34 4]
abbrev o7_19 : List AO := [oA 54 (.build 33 #[]) 33, jm 55 8 54, jn 56 55, jf 57 58 56 7, jl 58 34 57, jt 33 6 54, js 7 58 34]
def c7_19 : AC := .region o7_19 [[], [], [], [], [], [57], []]
abbrev o7_23 := rg [jl 59 26 9, jm 60 8 54, jn 61 60, jf 62 58 61 5, jl 63 31 62, jm 64 8 54, jn 65 64, jf 66 58 65 6, jl 67 3 66, oA 68 (.build 33 #[(0, (tm 59)), (1, (tm 63)), (2, (tm 67))]) 33, jt 33 6 68, ji 7 0 34]
def c7_14 : AC := .seq (.seq o7_16 (.cond (tm 53) (.seq c7_19 .ret) .skip)) (.seq o7_23 .ret)
def c7_0 : AC := .seq o7_1 (.seq (.seq o7_4 (.cond (tm 38) (.seq o7_7 .ret) .skip)) (.seq o7_11 (.seq o7_13 c7_14)))
def r7_0 := qa3 (qS 7 c7_0 rfl) (qS 7 c7_14 rfl) (qD 7 c7_19 rfl)
theorem y4h : q0h Cx 7 = some c7_0 := by kernel_rfl
theorem x8h : q0p Cx 7 = some [.cell 6 33, .tmp 7] := by kernel_rfl
theorem y9l : Cx.pure 7 = true := by kernel_rfl
abbrev o8_1 := rg [oA 2 (.assign (.const (.slice none 0 0))) 37]
abbrev o8_3 := rg [oA 3 (.assign (.const (.slice none 0 0))) 37]
abbrev o8_6 := rg [ji 4 0 3]
abbrev o8_11 := rg [jm 5 4 3, jm 6 0 22, oA 7 (cB .len #[tm 6] #[22]) 3, jb 8 .lss 3 5 7 3 4]
abbrev o8_17 := rg [jm 11 3 37, jm 12 0 22, jm 13 4 3, oA 14 (.indexAddr 22 (tm 12) (tm 13)) 0, jf 15 51 14 0, jl 16 3 15, jm 17 0 22, jm 18 4 3, oA 19 (.indexAddr 22 (tm 17) (tm 18)) 0, jf 20 51 19 1, jl 21 26 20, oA 22 (.build 60 #[(0, (tm 16)), (1, (tm 21))]) 60, oA 23 (.buildSlice 37 1 #[(0, (tm 22))]) 37, oA 24 (cB .append #[tm 11, tm 23] #[37, 37]) 37, js 3 24 37]
abbrev o8_18 := rg [jm 9 4 3, jB 10 .add 3 (tm 9) (ci 1) 3 3, js 4 10 3]
def c8_9 : AC := .seq (.seq o8_11 (.cond (tm 8) .skip (.exit 0))) (.seq (.block 1 o8_17) o8_18)
abbrev o8_20 := rg [jm 25 3 37, js 2 25 37]
def c8_19 : AC := .seq o8_20 .ret
def c8_0 : AC := .seq o8_1 (.seq o8_3 (.seq (.seq o8_6 (.block 0 (.loop c8_9))) c8_19))
def r8_0 := qa3 (qS 8 c8_0 rfl) (qS 8 c8_9 rfl) (qS 8 c8_19 rfl)
theorem w8s : q0h Cx 8 = some c8_0 := by kernel_rfl
theorem res8 : q0p Cx 8 = some [.tmp 2] := by kernel_rfl
theorem y9m : Cx.pure 8 = true := by kernel_rfl
abbrev o9_1 := rg [oA 7 (.box 26 (tm 2)) 0, oA 8 (.box 26 (tm 3)) 0, ja 10 26, oA 11 (.assign (.const (.slice none 0 0))) 31, ji 12 0 3, ji 13 0 3]
abbrev o9_4 := rg [jm 19 0 22, jx 20 17 #[tm 19] #[22] 4, oA 21 (.unOp .not 4 (tm 20)) 4, jm 22 21 4, km 23 1 9 22 false, oG 24 (cB .len #[tm 23] #[9]) 3 22 false, kB 25 .gtr 3 (tm 24) (ci 4096) 3 4 22 false, jp 26 22 kT (tm 25), jm 27 26 4, kl 28 26 7 27 false, kx 29 18 #[tm 28] #[26] 4 27 false, oG 30 (.unOp .not 4 (tm 29)) 4 27 false, jp 31 27 kT (tm 30), jm 32 31 4, kl 33 26 8 32 false, kx 34 18 #[tm 33] #[26] 4 32 false, oG 35 (.unOp .not 4 (tm 34)) 4 32 false, jp 36 32 kT (tm 35), jm 37 36 4, km 38 4 3 37 false, kB 39 .lss 3 (tm 38) (ci 0) 3 4 37 false, jp 40 37 kT (tm 39), jm 41 40 4, km 42 4 3 41 false, kB 43 .gtr 3 (tm 42) (ci 100000) 3 4 41 false, jp 44 41 kT (tm 43)]
abbrev o9_7 := rg [oA 45 (.build 26 #[]) 26, jt 26 10 45, oA 11 (.assign (.const (.slice none 0 0))) 31, ji 12 0 3, ji 13 1 3]
abbrev o9_11 := rg [jm 46 0 22, oA 47 (cB .len #[tm 46] #[22]) 3, oA 48 (.makeSlice 62 (tm 47) (tm 47)) 62, js 14 48 62]
abbrev o9_14 := rg [jm 49 0 22, oA 50 (cB .len #[tm 49] #[22]) 3, jB 51 .sub 3 (tm 50) (ci 1) 3 3, js 15 51 3]
abbrev o9_19 := rg [jm 52 15 3, jB 53 .geq 3 (tm 52) (ci 0) 3 4]
abbrev o9_26 := rg [jm 56 14 62, jm 57 15 3, jm 58 15 3, jB 59 .add 3 (tm 58) (ci 1) 3 3, oA 60 (.indexAddr 62 (tm 56) (tm 57)) 0, jt 3 60 59]
abbrev o9_28 := rg [ji 16 0 3]
abbrev o9_33 := rg [jm 61 16 3, jm 62 0 22, jm 63 15 3, oA 64 (.indexAddr 22 (tm 62) (tm 63)) 0, jf 65 51 64 0, jl 66 3 65, jx 67 19 #[tm 66] #[3] 3, jb 68 .lss 3 61 67 3 4]
abbrev o9_39 := rg [jm 71 14 62, jm 72 15 3, jm 73 14 62, jm 74 14 62, jm 75 15 3, oA 76 (.indexAddr 62 (tm 74) (tm 75)) 0, jl 77 3 76, oA 78 (.indexAddr 62 (tm 73) (tm 77)) 0, jl 79 3 78, oA 80 (.indexAddr 62 (tm 71) (tm 72)) 0, jt 3 80 79]
abbrev o9_40 := rg [jm 69 16 3, jB 70 .add 3 (tm 69) (ci 1) 3 3, js 16 70 3]
def c9_31 : AC := .seq (.seq o9_33 (.cond (tm 68) .skip (.exit 2))) (.seq (.block 3 o9_39) o9_40)
abbrev o9_41 := rg [jm 54 15 3, jB 55 .sub 3 (tm 54) (ci 1) 3 3, js 15 55 3]
def c9_17 : AC := .seq (.seq o9_19 (.cond (tm 53) .skip (.exit 0))) (.seq (.block 1 (.seq o9_26 (.seq o9_28 (.block 2 (.loop c9_31))))) o9_41)
abbrev o9_43 := rg [jm 81 0 22, jm 82 14 62, jm 83 1 9, jl 84 26 7, jl 85 26 8, jm 86 4 3, oA 87 (.build 66 #[(0, (tm 81)), (1, (tm 82)), (2, (tm 83)), (3, (tm 84)), (4, (tm 85)), (8, (tm 86))]) 66, oA 88 (.box 66 (tm 87)) 64, js 17 88 64]
abbrev o9_45 := rg [jm 89 17 64, jx 90 20 #[tm 89, ci 0] #[64, 3] 26, ja 18 26, jt 26 18 90]
abbrev o9_48 := rg [jm 91 17 64, jn 92 91, jf 93 66 92 9, jl 94 3 93, jB 95 .neq 3 (tm 94) (ci 0) 3 4]
abbrev o9_51 : List AO := [oA 96 (.build 26 #[]) 26, jm 97 17 64, jn 98 97, jf 99 66 98 9, jl 100 3 99, jt 26 10 96, oA 11 (.assign (.const (.slice none 0 0))) 31, ji 12 0 3, js 13 100 3]
def c9_51 : AC := .region o9_51 [[], [], [], [], [], [99], [], [], []]
abbrev o9_55 : List AO := [jl 101 26 18, jm 102 17 64, jn 103 102, jf 104 66 103 7, jl 105 31 104, jm 106 17 64, jn 107 106, jf 108 66 107 8, jl 109 3 108, jt 26 10 101, js 11 105 31, js 12 109 3, ji 13 0 3]
def c9_55 : AC := .region o9_55 [[], [], [], [], [], [], [], [], [], [104, 108], [], [], []]
def c9_42 : AC := .seq o9_43 (.seq o9_45 (.seq (.seq o9_48 (.cond (tm 95) (.seq c9_51 .ret) .skip)) (.seq c9_55 .ret)))
def c9_0 : AC := .seq o9_1 (.seq (.seq o9_4 (.cond (tm 44) (.seq o9_7 .ret) .skip)) (.seq o9_11 (.seq (.seq o9_14 (.block 0 (.loop c9_17))) c9_42)))
def r9_0 := qa6 (qS 9 c9_0 rfl) (qS 9 c9_17 rfl) (qS 9 c9_31 rfl) (qS 9 c9_42 rfl) (qD 9 c9_51 rfl) (qD 9 c9_55 rfl)
theorem y9n : q0h Cx 9 = some c9_0 := by kernel_rfl
theorem x8i : q0p Cx 9 = some [.cell 10 26, .tmp 11, .tmp 12, .tmp 13] := by kernel_rfl
theorem y9o : Cx.pure 9 = true := by kernel_rfl
abbrev o10_1 := rg [oA 4 (.assign kF) 4]
abbrev o10_4 := rg [jm 6 0 31, oA 7 (cB .len #[tm 6] #[31]) 3, jm 8 1 31, oA 9 (cB .len #[tm 8] #[31]) 3, jb 10 .neq 3 7 9 3 4]
abbrev o10_7 := rg [oA 4 (.assign kF) 4]
abbrev o10_12 := rg [ji 5 0 3]
abbrev o10_17 := rg [jm 11 5 3, jm 12 0 31, oA 13 (cB .len #[tm 12] #[31]) 3, jb 14 .lss 3 11 13 3 4]
abbrev o10_24 := rg [jm 17 0 31, jm 18 5 3, oA 19 (.indexAddr 31 (tm 17) (tm 18)) 0, jl 20 49 19, jm 21 1 31, jm 22 5 3, oA 23 (.indexAddr 31 (tm 21) (tm 22)) 0, jl 24 49 23, jb 25 .neq 49 20 24 49 4]
abbrev o10_27 := rg [oA 4 (.assign kF) 4]
abbrev o10_30 := rg [jm 15 5 3, jB 16 .add 3 (tm 15) (ci 1) 3 3, js 5 16 3]
def c10_15 : AC := .seq (.seq o10_17 (.cond (tm 14) .skip (.exit 0))) (.seq (.block 1 (.seq o10_24 (.cond (tm 25) (.seq o10_27 .ret) .skip))) o10_30)
abbrev o10_32 := rg [oA 4 (.assign kT) 4]
def c10_31 : AC := .seq o10_32 .ret
def c10_0 : AC := .seq o10_1 (.seq (.seq o10_4 (.cond (tm 10) (.seq o10_7 .ret) .skip)) (.seq (.seq o10_12 (.block 0 (.loop c10_15))) c10_31))
def r10_0 := qa3 (qS 10 c10_0 rfl) (qS 10 c10_15 rfl) (qS 10 c10_31 rfl)
theorem y9p : q0h Cx 10 = some c10_0 := by kernel_rfl
theorem w8t : q0p Cx 10 = some [.tmp 4] := by kernel_rfl
theorem y0x : Cx.pure 10 = true := by kernel_rfl
abbrev o13_1 := rg [oA 2 (.assign kF) 4]
abbrev o13_4 := rg [jm 8 0 37, oA 9 (cB .len #[tm 8] #[37]) 3, jB 10 .eql 3 (tm 9) (ci 0) 3 4, jm 11 10 4, km 12 0 37 11 false, oG 13 (cB .len #[tm 12] #[37]) 3 11 false, kB 14 .gtr 3 (tm 13) (ci 400) 3 4 11 false, jp 15 11 kT (tm 14)]
abbrev o13_7 := rg [oA 2 (.assign kF) 4]
abbrev o13_11 := rg [oA 16 (.buildSlice 62 1 #[(0, (ci 1))]) 62, js 3 16 62]
abbrev o13_14 := rg [jm 17 0 37, oA 18 (cB .len #[tm 17] #[37]) 3, oA 19 (.move (ci 0)) 3]
abbrev o13_18 := rg [jb 20 .lss 3 19 18 3 0]
abbrev o13_26 := rg [oA 21 (.indexAddr 37 (tm 17) (tm 19)) 0, jl 22 60 21, ja 5 60, jt 60 5 22]
abbrev o13_28 := rg [jl 24 60 5, jx 25 25 #[tm 24] #[60] 72, jm 23 25 72, je 26 23 0 3, je 27 23 1 4, js 6 26 3, js 7 27 4]
abbrev o13_31 := rg [jm 28 7 4, oA 29 (.unOp .not 4 (tm 28)) 4, jm 30 29 4, km 31 3 62 30 false, oG 32 (cB .len #[tm 31] #[62]) 3 30 false, kB 33 .eql 3 (tm 32) (ci 0) 3 4 30 false, jp 34 30 kT (tm 33), jm 35 34 4, km 36 3 62 35 false, oG 37 (cB .len #[tm 36] #[62]) 3 35 false, kB 38 .sub 3 (tm 37) (ci 1) 3 3 35 false, kB 39 .gtr 3 (tm 38) (ci 24) 3 4 35 false, jp 40 35 kT (tm 39)]
abbrev o13_34 := rg [oA 2 (.assign kF) 4]
abbrev o13_38 := rg [jm 41 3 62, jm 42 3 62, oA 43 (cB .len #[tm 42] #[62]) 3, jB 44 .sub 3 (tm 43) (ci 1) 3 3, oA 45 (.indexAddr 62 (tm 41) (tm 44)) 0, jl 46 3 45, jB 47 .sub 3 (tm 46) (ci 1) 3 3, oA 48 (.indexAddr 62 (tm 41) (tm 44)) 0, jt 3 48 47]
abbrev o13_40 := rg [jm 49 3 62, jm 50 6 3, oA 51 (.buildSlice 62 1 #[(0, (tm 50))]) 62, oA 52 (cB .append #[tm 49, tm 51] #[62, 62]) 62, js 3 52 62]
abbrev o13_45 := rg [jm 53 3 62, oA 54 (cB .len #[tm 53] #[62]) 3, jB 55 .gtr 3 (tm 54) (ci 0) 3 4, jm 56 55 4, km 57 3 62 56 true, km 58 3 62 56 true, oG 59 (cB .len #[tm 58] #[62]) 3 56 true, kB 60 .sub 3 (tm 59) (ci 1) 3 3 56 true, oG 61 (.indexAddr 62 (tm 57) (tm 60)) 0 56 true, kl 62 3 61 56 true, kB 63 .eql 3 (tm 62) (ci 0) 3 4 56 true, jp 64 56 (tm 63) kF]
abbrev o13_50 := rg [jm 65 3 62, jm 66 3 62, oA 67 (cB .len #[tm 66] #[62]) 3, jB 68 .sub 3 (tm 67) (ci 1) 3 3, oA 69 (.slice 62 (tm 65) none (some (tm 68)) none) 62, js 3 69 62]
def c13_43 : AC := .seq (.seq o13_45 (.cond (tm 64) .skip (.exit 2))) (.block 3 o13_50)
def c13_25 : AC := .seq o13_26 (.seq o13_28 (.seq (.seq o13_31 (.cond (tm 40) (.seq o13_34 .ret) .skip)) (.seq o13_38 (.seq o13_40 (.block 2 (.loop c13_43))))))
abbrev o13_51 := rg [jB 70 .add 3 (tm 19) (ci 1) 3 3, jm 19 70 3]
def c13_51 : AC := o13_51
def c13_17 : AC := .seq o13_18 (.seq (.cond (tm 20) .skip (.exit 0)) (.seq (.block 1 c13_25) c13_51))
abbrev o13_53 := rg [jm 71 3 62, oA 72 (cB .len #[tm 71] #[62]) 3, jB 73 .eql 3 (tm 72) (ci 0) 3 4, js 2 73 4]
def c13_52 : AC := .seq o13_53 .ret
def c13_0 : AC := .seq o13_1 (.seq (.seq o13_4 (.cond (tm 15) (.seq o13_7 .ret) .skip)) (.seq o13_11 (.seq (.seq o13_14 (.block 0 (.loop c13_17))) c13_52)))
def r13_0 := qa6 (qS 13 c13_0 rfl) (qS 13 c13_17 rfl) (qS 13 c13_25 rfl) (qS 13 c13_43 rfl) (qR 13 c13_51 rfl) (qS 13 c13_52 rfl)
theorem y9q : q0h Cx 13 = some c13_0 := by kernel_rfl
theorem x0e : q0p Cx 13 = some [.tmp 2] := by kernel_rfl
theorem z0z : Cx.pure 13 = true := by kernel_rfl
abbrev o14_1 := rg [oA 1 (.box 26 (tm 0)) 0, oA 2 (.assign kF) 4]
abbrev o14_3 := rg [jf 6 26 1 1, jl 7 3 6, jB 8 .neq 3 (tm 7) (ci 0) 3 4, jf 9 26 1 2, jl 10 9 9, jB 11 .neq 9 (tm 10) (kS #[]) 9 4, jf 12 26 1 3, jl 13 24 12, oA 14 (.build 24 #[]) 24, jb 15 .neq 24 13 14 24 4, js 3 8 4, js 4 11 4, js 5 15 4]
abbrev o14_6 := rg [jf 16 26 1 0, jl 17 3 16]
abbrev o14_9 := rg [jB 19 .eql 3 (tm 17) (ci 0) 3 4, js 18 19 4]
abbrev o14_12 := rg [jf 20 26 1 1, jl 21 3 20, jB 22 .geq 3 (tm 21) (ci (-9007199254740992)) 3 4, jm 23 22 4, kf 24 26 1 1 23 true, kl 25 3 24 23 true, kB 26 .leq 3 (tm 25) (ci 9007199254740992) 3 4 23 true, jp 27 23 (tm 26) kF, jm 28 27 4, km 29 4 4 28 true, oG 30 (.unOp .not 4 (tm 29)) 4 28 true, jp 31 28 (tm 30) kF, jm 32 31 4, km 33 5 4 32 true, oG 34 (.unOp .not 4 (tm 33)) 4 32 true, jp 35 32 (tm 34) kF, js 2 35 4]
abbrev o14_15 := rg [jB 37 .eql 3 (tm 17) (ci 1) 3 4, js 36 37 4]
abbrev o14_18 := rg [jf 38 26 1 2, jl 39 9 38, oA 40 (cB .len #[tm 39] #[9]) 3, jB 41 .leq 3 (tm 40) (ci 4096) 3 4, jm 42 41 4, km 43 3 4 42 true, oG 44 (.unOp .not 4 (tm 43)) 4 42 true, jp 45 42 (tm 44) kF, jm 46 45 4, km 47 5 4 46 true, oG 48 (.unOp .not 4 (tm 47)) 4 46 true, jp 49 46 (tm 48) kF, js 2 49 4]
abbrev o14_21 := rg [jB 51 .eql 3 (tm 17) (ci 2) 3 4, js 50 51 4]
abbrev o14_24 := rg [jf 52 26 1 3, jl 53 24 52, jx 54 26 #[tm 53] #[24] 4, jm 55 54 4, km 56 3 4 55 true, oG 57 (.unOp .not 4 (tm 56)) 4 55 true, jp 58 55 (tm 57) kF, jm 59 58 4, km 60 4 4 59 true, oG 61 (.unOp .not 4 (tm 60)) 4 59 true, jp 62 59 (tm 61) kF, js 2 62 4]
def c14_10 : AC := .cond (tm 18) (.seq o14_12 .ret) (.seq o14_15 (.cond (tm 36) (.seq o14_18 .ret) (.seq o14_21 (.cond (tm 50) (.seq o14_24 .ret) .skip))))
abbrev o14_28 := rg [oA 2 (.assign kF) 4]
def c14_0 : AC := .seq o14_1 (.seq o14_3 (.seq (.seq o14_6 (.block 0 (.seq o14_9 c14_10))) (.seq o14_28 .ret)))
def r14_0 := qa2 (qS 14 c14_0 rfl) (qC 14 c14_10 rfl)
theorem y9r : q0h Cx 14 = some c14_0 := by kernel_rfl
theorem j3k : q0p Cx 14 = some [.tmp 2] := by kernel_rfl
theorem q2n : Cx.pure 14 = true := by kernel_rfl
abbrev o15_1 := rg [oA 2 (.assign (.const (.slice none 0 0))) 55]
abbrev o15_3 := rg [jm 9 0 37, oA 10 (cB .len #[tm 9] #[37]) 3, oA 11 (.makeSlice 55 (tm 10) (tm 10)) 55, js 3 11 55]
abbrev o15_6 := rg [jm 12 0 37, oA 13 (cB .len #[tm 12] #[37]) 3, jB 14 .sub 3 (tm 13) (ci 1) 3 3, js 4 14 3]
abbrev o15_11 := rg [jm 15 4 3, jB 16 .geq 3 (tm 15) (ci 0) 3 4]
abbrev o15_18 := rg [jm 20 0 37, jm 21 4 3, oA 22 (.indexAddr 37 (tm 20) (tm 21)) 0, jf 23 60 22 0, jl 24 3 23, jx 25 23 #[tm 24] #[3] 70, jm 19 25 70, je 26 19 0 9, je 27 19 1 3, je 28 19 2 4, js 5 26 9, js 6 27 3, js 7 28 4]
abbrev o15_20 := rg [jm 29 4 3, jB 30 .add 3 (tm 29) (ci 1) 3 3, js 8 30 3]
abbrev o15_23 := rg [jm 31 6 3, oA 32 (.move (ci 0)) 3]
abbrev o15_27 := rg [jb 33 .lss 3 32 31 3 4]
abbrev o15_34 := rg [jm 34 3 55, jm 35 8 3, oA 36 (.indexAddr 55 (tm 34) (tm 35)) 0, jf 37 76 36 2, jl 38 3 37, js 8 38 3]
abbrev o15_35 := rg [jB 39 .add 3 (tm 32) (ci 1) 3 3, jm 32 39 3]
def c15_26 : AC := .seq o15_27 (.seq (.cond (tm 33) .skip (.exit 2)) (.seq (.block 3 o15_34) o15_35))
abbrev o15_36 := rg [jm 40 3 55, jm 41 4 3, jm 42 5 9, jm 43 6 3, jm 44 8 3, oA 45 (.build 76 #[(0, (tm 42)), (1, (tm 43)), (2, (tm 44))]) 76, oA 46 (.indexAddr 55 (tm 40) (tm 41)) 0, jt 76 46 45]
def c15_36 : AC := o15_36
abbrev o15_37 := rg [jm 17 4 3, jB 18 .sub 3 (tm 17) (ci 1) 3 3, js 4 18 3]
def c15_9 : AC := .seq (.seq o15_11 (.cond (tm 16) .skip (.exit 0))) (.seq (.block 1 (.seq o15_18 (.seq o15_20 (.seq (.seq o15_23 (.block 2 (.loop c15_26))) c15_36)))) o15_37)
abbrev o15_39 := rg [jm 47 3 55, js 2 47 55]
def c15_38 : AC := .seq o15_39 .ret
def c15_0 : AC := .seq o15_1 (.seq o15_3 (.seq (.seq o15_6 (.block 0 (.loop c15_9))) c15_38))
def r15_0 := qa5 (qS 15 c15_0 rfl) (qS 15 c15_9 rfl) (qS 15 c15_26 rfl) (qR 15 c15_36 rfl) (qS 15 c15_38 rfl)
theorem y9s : q0h Cx 15 = some c15_0 := by kernel_rfl
theorem w8u : q0p Cx 15 = some [.tmp 2] := by kernel_rfl
theorem y0y : Cx.pure 15 = true := by kernel_rfl
abbrev o16_1 := rg [ja 4 26]
abbrev o16_4 := rg [jm 9 0 54, jn 10 9, jf 11 58 10 7, jl 12 34 11, jB 13 .neq 34 (tm 12) (ci 0) 34 4, jm 14 13 4, km 15 0 54 14 false, oG 16 (.nilCheck (tm 15)) 0 14 false, kf 17 58 16 6 14 false, kl 18 3 17 14 false, kB 19 .eql 3 (tm 18) (ci 0) 3 4 14 false, jp 20 14 kT (tm 19)]
abbrev o16_7 := rg [jm 21 0 54, jx 22 27 #[tm 21, ci 15] #[54, 34] 26, jt 26 4 22]
abbrev o16_11 := rg [jm 23 0 54, jn 24 23, jf 25 58 24 6, jl 26 3 25, jB 27 .sub 3 (tm 26) (ci 1) 3 3, jn 28 23, jf 29 58 28 6, jt 3 29 27]
abbrev o16_13 : List AO := [jm 30 0 54, jn 31 30, jf 32 58 31 0, jl 33 37 32, jm 34 1 3, oA 35 (.indexAddr 37 (tm 33) (tm 34)) 0, jl 36 60 35, jm 37 0 54, jn 38 37, jf 39 58 38 1, jl 40 55 39, jm 41 1 3, oA 42 (.indexAddr 55 (tm 40) (tm 41)) 0, jf 43 76 42 0, jl 44 9 43, ja 5 60, jt 60 5 36, js 6 44 9]
def c16_13 : AC := .region o16_13 [[], [], [], [], [], [], [], [], [], [], [], [], [], [], [], [], [39, 43], []]
abbrev o16_17 := rg [jf 46 60 5 0, jl 47 3 46, jB 48 .eql 3 (tm 47) (ci 0) 3 4, js 45 48 4]
abbrev o16_20 := rg [jf 49 60 5 1, jl 50 26 49, jt 26 4 50]
abbrev o16_23 := rg [jm 52 6 9, jB 53 .eql 9 (tm 52) (kS #[]) 9 4, js 51 53 4]
abbrev o16_26 := rg [jm 54 0 54, jf 55 60 5 1, jf 56 26 55 1, jl 57 3 56, jx 58 28 #[tm 54, tm 57] #[54, 3] 26, jt 26 4 58]
abbrev o16_29 := rg [jm 60 6 9, jB 61 .eql 9 (tm 60) (kS #[105, 102]) 9 4, jm 62 61 4, km 63 6 9 62 false, kB 64 .eql 9 (tm 63) (kS #[101, 97, 99, 104]) 9 4 62 false, jp 65 62 kT (tm 64), jm 66 65 4, km 67 6 9 66 false, kB 68 .eql 9 (tm 67) (kS #[108, 101, 116]) 9 4 66 false, jp 69 66 kT (tm 68), js 59 69 4]
abbrev o16_32 := rg [jm 70 0 54, jm 71 6 9, jm 72 1 3, jx 73 29 #[tm 70, tm 71, tm 72] #[54, 9, 3] 26, jt 26 4 73]
def c16_18 : AC := .cond (tm 45) (.seq o16_20 .ret) (.seq o16_23 (.cond (tm 51) (.seq o16_26 .ret) (.seq o16_29 (.cond (tm 59) (.seq o16_32 .ret) .skip))))
abbrev o16_36 := rg [oA 7 (.assign (.const (.slice none 0 0))) 79]
abbrev o16_38 := rg [jm 74 1 3, jB 75 .add 3 (tm 74) (ci 1) 3 3, js 8 75 3]
abbrev o16_41 := rg [jm 76 0 54, jn 77 76, jf 78 58 77 1, jl 79 55 78, jm 80 1 3, oA 81 (.indexAddr 55 (tm 79) (tm 80)) 0, jf 82 76 81 1, jl 83 3 82, oA 84 (.move (ci 0)) 3]
abbrev o16_45 := rg [jb 85 .lss 3 84 83 3 4]
abbrev o16_53 := rg [jm 86 7 79, jm 87 0 54, jm 88 8 3, jx 89 16 #[tm 87, tm 88] #[54, 3] 26, oA 90 (.buildSlice 79 1 #[(0, (tm 89))]) 79, oA 91 (cB .append #[tm 86, tm 90] #[79, 79]) 79, js 7 91 79]
abbrev o16_56 := rg [jm 92 0 54, jn 93 92, jf 94 58 93 7, jl 95 34 94, jB 96 .neq 34 (tm 95) (ci 0) 34 4]
abbrev o16_59 := rg [oA 97 (.build 26 #[]) 26, jt 26 4 97]
abbrev o16_62 := rg [jm 98 0 54, jm 99 8 3, jx 100 30 #[tm 98, tm 99] #[54, 3] 3, js 8 100 3]
abbrev o16_63 := rg [jB 101 .add 3 (tm 84) (ci 1) 3 3, jm 84 101 3]
def c16_46 : AC := .seq (.cond (tm 85) .skip (.exit 1)) (.seq (.block 2 (.seq o16_53 (.seq (.seq o16_56 (.cond (tm 96) (.seq o16_59 .ret) .skip)) o16_62))) o16_63)
def c16_44 : AC := .seq o16_45 c16_46
abbrev o16_65 := rg [jm 102 0 54, jm 103 6 9, jx 104 31 #[tm 102, tm 103] #[54, 9] 80, jm 105 6 9, jm 106 7 79, oA 107 (cV 104 #[tm 105, tm 106] #[9, 79]) 26, jt 26 4 107]
def c16_64 : AC := .seq o16_65 .ret
def c16_14 : AC := .seq (.block 0 (.seq o16_17 c16_18)) (.seq o16_36 (.seq o16_38 (.seq (.seq o16_41 (.block 1 (.loop c16_44))) c16_64)))
def c16_0 : AC := .seq o16_1 (.seq (.seq o16_4 (.cond (tm 20) (.seq o16_7 .ret) .skip)) (.seq o16_11 (.seq c16_13 c16_14)))
def r16_0 := qa7 (qS 16 c16_0 rfl) (qD 16 c16_13 rfl) (qS 16 c16_14 rfl) (qC 16 c16_18 rfl) (qS 16 c16_44 rfl) (qS 16 c16_46 rfl) (qS 16 c16_64 rfl)
theorem y9t : q0h Cx 16 = some c16_0 := by kernel_rfl
theorem j0e : q0p Cx 16 = some [.cell 4 26] := by kernel_rfl
theorem y9u : Cx.pure 16 = false := by kernel_rfl
abbrev o17_1 := rg [oA 2 (.assign kF) 4]
abbrev o17_3 := rg [jm 3 0 22, oA 4 (cB .len #[tm 3] #[22]) 3, jB 5 .leq 3 (tm 4) (ci 400) 3 4, jm 6 5 4, km 7 0 22 6 true, kx 8 32 #[tm 7, ci 0, ci 0] #[22, 3, 3] 3 6 true, km 9 0 22 6 true, oG 10 (cB .len #[tm 9] #[22]) 3 6 true, kq 11 .eql 3 8 10 3 4 6 true, jp 12 6 (tm 11) kF, js 2 12 4]
def c17_0 : AC := .seq o17_1 (.seq o17_3 .ret)
def r17_0 := qS 17 c17_0 rfl
theorem y9v : q0h Cx 17 = some c17_0 := by kernel_rfl
theorem y9w : q0p Cx 17 = some [.tmp 2] := by kernel_rfl
theorem z3c : Cx.pure 17 = true := by kernel_rfl
abbrev o18_1 := rg [oA 1 (.box 26 (tm 0)) 0, oA 2 (.assign kF) 4]
abbrev o18_4 := rg [jf 3 26 1 0, jl 4 3 3]
abbrev o18_7 := rg [jB 6 .eql 3 (tm 4) (ci 0) 3 4, js 5 6 4]
abbrev o18_10 := rg [jf 7 26 1 1, jl 8 3 7, jB 9 .geq 3 (tm 8) (ci (-9007199254740992)) 3 4, jm 10 9 4, kf 11 26 1 1 10 true, kl 12 3 11 10 true, kB 13 .leq 3 (tm 12) (ci 9007199254740992) 3 4 10 true, jp 14 10 (tm 13) kF, jm 15 14 4, kf 16 26 1 2 15 true, kl 17 9 16 15 true, kB 18 .eql 9 (tm 17) (kS #[]) 9 4 15 true, jp 19 15 (tm 18) kF, jm 20 19 4, kf 21 26 1 3 20 true, kl 22 24 21 20 true, oG 23 (.build 24 #[]) 24 20 true, kq 24 .eql 24 22 23 24 4 20 true, jp 25 20 (tm 24) kF, js 2 25 4]
abbrev o18_13 := rg [jB 27 .eql 3 (tm 4) (ci 1) 3 4, js 26 27 4]
abbrev o18_16 := rg [jf 28 26 1 2, jl 29 9 28, oA 30 (cB .len #[tm 29] #[9]) 3, jB 31 .leq 3 (tm 30) (ci 4096) 3 4, jm 32 31 4, kf 33 26 1 1 32 true, kl 34 3 33 32 true, kB 35 .eql 3 (tm 34) (ci 0) 3 4 32 true, jp 36 32 (tm 35) kF, jm 37 36 4, kf 38 26 1 3 37 true, kl 39 24 38 37 true, oG 40 (.build 24 #[]) 24 37 true, kq 41 .eql 24 39 40 24 4 37 true, jp 42 37 (tm 41) kF, js 2 42 4]
abbrev o18_19 := rg [jB 44 .eql 3 (tm 4) (ci 2) 3 4, js 43 44 4]
abbrev o18_22 := rg [jf 45 26 1 3, jl 46 24 45, jx 47 33 #[tm 46] #[24] 4, jm 48 47 4, kf 49 26 1 1 48 true, kl 50 3 49 48 true, kB 51 .eql 3 (tm 50) (ci 0) 3 4 48 true, jp 52 48 (tm 51) kF, jm 53 52 4, kf 54 26 1 2 53 true, kl 55 9 54 53 true, kB 56 .eql 9 (tm 55) (kS #[]) 9 4 53 true, jp 57 53 (tm 56) kF, js 2 57 4]
def c18_8 : AC := .cond (tm 5) (.seq o18_10 .ret) (.seq o18_13 (.cond (tm 26) (.seq o18_16 .ret) (.seq o18_19 (.cond (tm 43) (.seq o18_22 .ret) .skip))))
abbrev o18_26 := rg [oA 2 (.assign kF) 4]
def c18_0 : AC := .seq o18_1 (.seq (.seq o18_4 (.block 0 (.seq o18_7 c18_8))) (.seq o18_26 .ret))
def r18_0 := qa2 (qS 18 c18_0 rfl) (qC 18 c18_8 rfl)
theorem y9x : q0h Cx 18 = some c18_0 := by kernel_rfl
theorem j3l : q0p Cx 18 = some [.tmp 2] := by kernel_rfl
theorem q3p : Cx.pure 18 = true := by kernel_rfl
abbrev o19_1 := rg [ji 2 0 3]
abbrev o19_4 := rg [jm 3 0 3, jx 4 34 #[tm 3] #[3] 9]
abbrev o19_7 := rg [jB 6 .eql 9 (tm 4) (kS #[]) 9 4, js 5 6 4]
abbrev o19_10 := rg [ji 2 0 3]
abbrev o19_14 := rg [jB 8 .eql 9 (tm 4) (kS #[110, 101, 103]) 9 4, js 7 8 4]
abbrev o19_18 := rg [jB 9 .eql 9 (tm 4) (kS #[110, 111, 116]) 9 4, js 7 9 4]
abbrev o19_22 := rg [jB 10 .eql 9 (tm 4) (kS #[108, 101, 110]) 9 4, js 7 10 4]
abbrev o19_26 := rg [jB 11 .eql 9 (tm 4) (kS #[119, 111, 114, 100, 115]) 9 4, js 7 11 4]
abbrev o19_30 := rg [jB 12 .eql 9 (tm 4) (kS #[110, 117, 109]) 9 4, js 7 12 4]
abbrev o19_34 := rg [jB 13 .eql 9 (tm 4) (kS #[116, 101, 120, 116]) 9 4, js 7 13 4]
abbrev o19_38 := rg [jB 14 .eql 9 (tm 4) (kS #[114, 101]) 9 4, js 7 14 4]
abbrev o19_42 := rg [jB 15 .eql 9 (tm 4) (kS #[105, 109]) 9 4, js 7 15 4]
abbrev o19_46 := rg [jB 16 .eql 9 (tm 4) (kS #[110, 111, 114, 109]) 9 4, js 7 16 4]
abbrev o19_49 := rg [jB 17 .eql 9 (tm 4) (kS #[99, 111, 110, 106]) 9 4, js 7 17 4]
def c19_33 : AC := .seq o19_34 (.cond (tm 7) .skip (.seq o19_38 (.cond (tm 7) .skip (.seq o19_42 (.cond (tm 7) .skip (.seq o19_46 (.cond (tm 7) .skip o19_49)))))))
def c19_17 : AC := .seq o19_18 (.cond (tm 7) .skip (.seq o19_22 (.cond (tm 7) .skip (.seq o19_26 (.cond (tm 7) .skip (.seq o19_30 (.cond (tm 7) .skip c19_33)))))))
abbrev o19_52 := rg [ji 2 1 3]
abbrev o19_56 := rg [jB 19 .eql 9 (tm 4) (kS #[105, 102]) 9 4, js 18 19 4]
abbrev o19_59 := rg [jB 20 .eql 9 (tm 4) (kS #[99, 117, 116]) 9 4, js 18 20 4]
abbrev o19_62 := rg [ji 2 3 3]
def c19_12 : AC := .seq (.seq o19_14 (.cond (tm 7) .skip c19_17)) (.cond (tm 7) (.seq o19_52 .ret) (.seq (.seq o19_56 (.cond (tm 18) .skip o19_59)) (.cond (tm 18) (.seq o19_62 .ret) .skip)))
abbrev o19_66 := rg [ji 2 2 3]
def c19_0 : AC := .seq o19_1 (.seq (.seq o19_4 (.block 0 (.seq o19_7 (.cond (tm 5) (.seq o19_10 .ret) c19_12)))) (.seq o19_66 .ret))
def r19_0 := qa4 (qS 19 c19_0 rfl) (qS 19 c19_12 rfl) (qS 19 c19_17 rfl) (qS 19 c19_33 rfl)
theorem y9y : q0h Cx 19 = some c19_0 := by kernel_rfl
theorem w8v : q0p Cx 19 = some [.tmp 2] := by kernel_rfl
theorem z6e : Cx.pure 19 = true := by kernel_rfl
abbrev o20_1 := rg [ja 4 26]
abbrev o20_4 := rg [jm 17 0 64, jn 18 17, jf 19 66 18 9, jl 20 3 19, jB 21 .neq 3 (tm 20) (ci 0) 3 4]
abbrev o20_7 := rg [oA 22 (.build 26 #[]) 26, jt 26 4 22]
abbrev o20_12 := rg [jm 23 0 64, jn 24 23, jf 25 66 24 8, jl 26 3 25, jB 27 .eql 3 (tm 26) (ci 0) 3 4]
abbrev o20_15 := rg [jm 28 0 64, jx 29 35 #[tm 28, ci 15] #[64, 3] 26, jt 26 4 29]
abbrev o20_19 := rg [jm 30 0 64, jn 31 30, jf 32 66 31 8, jl 33 3 32, jB 34 .sub 3 (tm 33) (ci 1) 3 3, jn 35 30, jf 36 66 35 8, jt 3 36 34]
abbrev o20_21 := rg [jm 37 0 64, jn 38 37, jf 39 66 38 0, jl 40 22 39, jm 41 1 3, oA 42 (.indexAddr 22 (tm 40) (tm 41)) 0, jl 43 51 42, ja 5 51, jt 51 5 43]
abbrev o20_24 := rg [jf 44 51 5 0, jl 45 3 44, jB 46 .eql 3 (tm 45) (ci 0) 3 4]
abbrev o20_27 := rg [jf 47 51 5 1, jl 48 26 47, jt 26 4 48]
abbrev o20_32 := rg [jf 49 51 5 0, jl 50 3 49, jB 51 .eql 3 (tm 50) (ci 1) 3 4]
abbrev o20_36 := rg [jf 52 51 5 1, jf 53 26 52 1, jl 54 3 53]
abbrev o20_39 := rg [jB 56 .eql 3 (tm 54) (ci 0) 3 4, js 55 56 4]
abbrev o20_42 := rg [jm 57 0 64, jn 58 57, jf 59 66 58 2, jl 60 9 59, jx 61 36 #[tm 60] #[9] 26, jt 26 4 61]
abbrev o20_45 := rg [jB 63 .eql 3 (tm 54) (ci 1) 3 4, js 62 63 4]
abbrev o20_48 := rg [jm 64 0 64, jn 65 64, jf 66 66 65 3, jl 67 26 66, jt 26 4 67]
abbrev o20_51 := rg [jB 69 .eql 3 (tm 54) (ci 2) 3 4, js 68 69 4]
abbrev o20_54 := rg [jm 70 0 64, jn 71 70, jf 72 66 71 4, jl 73 26 72, jt 26 4 73]
abbrev o20_57 := rg [jB 75 .eql 3 (tm 54) (ci 3) 3 4, js 74 75 4]
abbrev o20_60 := rg [jm 76 0 64, jn 77 76, jf 78 66 77 5, jl 79 3 78, jx 80 37 #[tm 79] #[3] 26, jt 26 4 80]
def c20_46 : AC := .cond (tm 62) (.seq o20_48 .ret) (.seq o20_51 (.cond (tm 68) (.seq o20_54 .ret) (.seq o20_57 (.cond (tm 74) (.seq o20_60 .ret) .skip))))
abbrev o20_64 := rg [jm 81 0 64, jn 82 81, jf 83 66 82 6, jl 84 26 83, jt 26 4 84]
def c20_33 : AC := .cond (tm 51) (.seq (.seq o20_36 (.block 0 (.seq o20_39 (.cond (tm 55) (.seq o20_42 .ret) (.seq o20_45 c20_46))))) (.seq o20_64 .ret)) .skip
abbrev o20_68 := rg [jf 85 51 5 0, jl 86 3 85, jx 87 34 #[tm 86] #[3] 9, js 6 87 9]
abbrev o20_70 := rg [jm 88 0 64, jm 89 1 3, jB 90 .add 3 (tm 89) (ci 1) 3 3, jx 91 20 #[tm 88, tm 90] #[64, 3] 26, ja 7 26, jt 26 7 91]
abbrev o20_73 := rg [jm 92 0 64, jn 93 92, jf 94 66 93 9, jl 95 3 94, jB 96 .neq 3 (tm 95) (ci 0) 3 4]
abbrev o20_76 := rg [oA 97 (.build 26 #[]) 26, jt 26 4 97]
abbrev o20_80 := rg [jm 98 0 64, jn 99 98, jf 100 66 99 1, jl 101 62 100, jm 102 1 3, jB 103 .add 3 (tm 102) (ci 1) 3 3, oA 104 (.indexAddr 62 (tm 101) (tm 103)) 0, jl 105 3 104, js 8 105 3]
abbrev o20_83 := rg [jm 106 6 9]
abbrev o20_86 := rg [jB 108 .eql 9 (tm 106) (kS #[105, 102]) 9 4, js 107 108 4]
abbrev o20_90 := rg [jf 109 26 7 0, jl 110 3 109, jB 111 .neq 3 (tm 110) (ci 0) 3 4]
abbrev o20_93 := rg [jm 112 0 64, jx 113 35 #[tm 112, ci 13] #[64, 3] 26, jt 26 4 113]
abbrev o20_98 := rg [jf 114 26 7 1, jl 115 3 114, jB 116 .eql 3 (tm 115) (ci 0) 3 4]
abbrev o20_100 := rg [jm 117 0 64, jn 118 117, jf 119 66 118 1, jl 120 62 119, jm 121 8 3, oA 122 (.indexAddr 62 (tm 120) (tm 121)) 0, jl 123 3 122, js 8 123 3]
abbrev o20_103 := rg [jm 124 0 64, jm 125 8 3, jx 126 20 #[tm 124, tm 125] #[64, 3] 26, jt 26 4 126]
def c20_88 : AC := .seq (.seq o20_90 (.cond (tm 111) (.seq o20_93 .ret) .skip)) (.seq (.seq o20_98 (.cond (tm 116) o20_100 .skip)) (.seq o20_103 .ret))
abbrev o20_106 := rg [jB 128 .eql 9 (tm 106) (kS #[108, 101, 116]) 9 4, js 127 128 4]
abbrev o20_109 := rg [jm 129 0 64, jn 130 129, jf 131 66 130 6, jl 132 26 131, ja 9 26, jt 26 9 132]
abbrev o20_111 := rg [jm 133 0 64, jl 134 26 7, jn 135 133, jf 136 66 135 6, jt 26 136 134]
abbrev o20_113 := rg [jm 137 0 64, jm 138 8 3, jx 139 20 #[tm 137, tm 138] #[64, 3] 26, ja 10 26, jt 26 10 139]
abbrev o20_115 := rg [jm 140 0 64, jl 141 26 9, jn 142 140, jf 143 66 142 6, jt 26 143 141]
abbrev o20_117 := rg [jl 144 26 10, jt 26 4 144]
abbrev o20_120 := rg [jB 146 .eql 9 (tm 106) (kS #[101, 97, 99, 104]) 9 4, js 145 146 4]
abbrev o20_124 := rg [jf 147 26 7 0, jl 148 3 147, jB 149 .neq 3 (tm 148) (ci 0) 3 4]
abbrev o20_127 := rg [jm 150 0 64, jx 151 35 #[tm 150, ci 13] #[64, 3] 26, jt 26 4 151]
abbrev o20_132 := rg [jf 152 26 7 1, jl 153 3 152, jB 154 .lss 3 (tm 153) (ci 0) 3 4]
abbrev o20_135 := rg [jm 155 0 64, jx 156 35 #[tm 155, ci 14] #[64, 3] 26, jt 26 4 156]
abbrev o20_139 := rg [jm 157 0 64, jn 158 157, jf 159 66 158 5, jl 160 3 159, js 11 160 3]
abbrev o20_141 := rg [jx 161 37 #[ci 0] #[3] 26, ja 12 26, jt 26 12 161]
abbrev o20_144 := rg [ji 13 0 3]
abbrev o20_149 := rg [jm 162 13 3, jf 163 26 7 1, jl 164 3 163, jb 165 .lss 3 162 164 3 4, jm 166 165 4, km 167 0 64 166 true, oG 168 (.nilCheck (tm 167)) 0 166 true, kf 169 66 168 9 166 true, kl 170 3 169 166 true, kB 171 .eql 3 (tm 170) (ci 0) 3 4 166 true, jp 172 166 (tm 171) kF]
abbrev o20_156 := rg [jm 175 0 64, jm 176 13 3, jn 177 175, jf 178 66 177 5, jt 3 178 176]
abbrev o20_157 := rg [jm 179 0 64, jm 180 8 3, jx 181 20 #[tm 179, tm 180] #[64, 3] 26, jt 26 12 181]
abbrev o20_158 := rg [jm 173 13 3, jB 174 .add 3 (tm 173) (ci 1) 3 3, js 13 174 3]
def c20_147 : AC := .seq (.seq o20_149 (.cond (tm 172) .skip (.exit 2))) (.seq (.block 3 (.seq o20_156 o20_157)) o20_158)
abbrev o20_160 := rg [jm 182 0 64, jm 183 11 3, jn 184 182, jf 185 66 184 5, jt 3 185 183]
abbrev o20_162 := rg [jl 186 26 12, jt 26 4 186]
def c20_159 : AC := .seq o20_160 (.seq o20_162 .ret)
def c20_130 : AC := .seq (.seq o20_132 (.cond (tm 154) (.seq o20_135 .ret) .skip)) (.seq o20_139 (.seq o20_141 (.seq (.seq o20_144 (.block 2 (.loop c20_147))) c20_159)))
def c20_107 : AC := .cond (tm 127) (.seq o20_109 (.seq o20_111 (.seq o20_113 (.seq o20_115 (.seq o20_117 .ret))))) (.seq o20_120 (.cond (tm 145) (.seq (.seq o20_124 (.cond (tm 149) (.seq o20_127 .ret) .skip)) c20_130) .skip))
abbrev o20_166 := rg [jl 187 26 7, oA 188 (.buildSlice 79 1 #[(0, (tm 187))]) 79, js 14 188 79]
abbrev o20_168 := rg [jm 189 8 3, js 15 189 3]
abbrev o20_171 := rg [ji 16 1 3]
abbrev o20_176 := rg [jm 190 16 3, jf 191 51 5 0, jl 192 3 191, jx 193 19 #[tm 192] #[3] 3, jb 194 .lss 3 190 193 3 4]
abbrev o20_183 := rg [jm 197 14 79, jm 198 0 64, jm 199 15 3, jx 200 20 #[tm 198, tm 199] #[64, 3] 26, oA 201 (.buildSlice 79 1 #[(0, (tm 200))]) 79, oA 202 (cB .append #[tm 197, tm 201] #[79, 79]) 79, js 14 202 79]
abbrev o20_186 := rg [jm 203 0 64, jn 204 203, jf 205 66 204 9, jl 206 3 205, jB 207 .neq 3 (tm 206) (ci 0) 3 4]
abbrev o20_189 := rg [oA 208 (.build 26 #[]) 26, jt 26 4 208]
abbrev o20_192 := rg [jm 209 0 64, jn 210 209, jf 211 66 210 1, jl 212 62 211, jm 213 15 3, oA 214 (.indexAddr 62 (tm 212) (tm 213)) 0, jl 215 3 214, js 15 215 3]
abbrev o20_193 := rg [jm 195 16 3, jB 196 .add 3 (tm 195) (ci 1) 3 3, js 16 196 3]
def c20_174 : AC := .seq (.seq o20_176 (.cond (tm 194) .skip (.exit 4))) (.seq (.block 5 (.seq o20_183 (.seq (.seq o20_186 (.cond (tm 207) (.seq o20_189 .ret) .skip)) o20_192))) o20_193)
abbrev o20_195 := rg [jm 216 0 64, jm 217 6 9, jm 218 14 79, jx 219 38 #[tm 216, tm 217, tm 218] #[64, 9, 79] 26, jt 26 4 219]
def c20_194 : AC := .seq o20_195 .ret
def c20_165 : AC := .seq o20_166 (.seq o20_168 (.seq (.seq o20_171 (.block 4 (.loop c20_174))) c20_194))
def c20_81 : AC := .seq (.seq o20_83 (.block 1 (.seq o20_86 (.cond (tm 107) c20_88 (.seq o20_106 c20_107))))) c20_165
def c20_30 : AC := .seq (.seq o20_32 c20_33) (.seq o20_68 (.seq o20_70 (.seq (.seq o20_73 (.cond (tm 96) (.seq o20_76 .ret) .skip)) (.seq o20_80 c20_81))))
def c20_22 : AC := .seq (.seq o20_24 (.cond (tm 46) (.seq o20_27 .ret) .skip)) c20_30
def c20_2 : AC := .seq (.seq o20_4 (.cond (tm 21) (.seq o20_7 .ret) .skip)) (.seq (.seq o20_12 (.cond (tm 27) (.seq o20_15 .ret) .skip)) (.seq o20_19 (.seq o20_21 c20_22)))
def c20_0 : AC := .seq o20_1 c20_2
def r20_0 := qa8 (qS 20 c20_0 rfl) (qS 20 c20_2 rfl) (qS 20 c20_22 rfl) (qS 20 c20_30 rfl) (qC 20 c20_33 rfl) (qC 20 c20_46 rfl) (qS 20 c20_81 rfl) (qS 20 c20_88 rfl)
def r20_1 := qa7 (qC 20 c20_107 rfl) (qS 20 c20_130 rfl) (qS 20 c20_147 rfl) (qS 20 c20_159 rfl) (qS 20 c20_165 rfl) (qS 20 c20_174 rfl) (qS 20 c20_194 rfl)
theorem y9z : q0h Cx 20 = some c20_0 := by kernel_rfl
theorem z1a : q0p Cx 20 = some [.cell 4 26] := by kernel_rfl
theorem w0a : Cx.pure 20 = false := by kernel_rfl
abbrev o23_1 := rg [oA 2 (.assign (kS #[])) 9, ji 3 0 3, oA 4 (.assign kF) 4]
abbrev o23_4 := rg [jm 6 0 3, jB 7 .leq 3 (tm 6) (ci 1) 3 4, jm 8 7 4, km 9 0 3 8 false, kB 10 .gtr 3 (tm 9) (ci 29) 3 4 8 false, jp 11 8 kT (tm 10)]
abbrev o23_7 := rg [oA 2 (.assign (kS #[])) 9, ji 3 0 3, oA 4 (.assign kF) 4]
abbrev o23_11 := rg [jx 12 41 #[] #[] 86, jm 13 0 3, jB 14 .sub 3 (tm 13) (ci 1) 3 3, jB 15 .sub 3 (tm 14) (ci 1) 3 3, oA 16 (.indexAddr 86 (tm 12) (tm 15)) 0, jl 17 88 16, ja 5 88, jt 88 5 17]
abbrev o23_13 := rg [jf 18 88 5 0, jl 19 9 18, jf 20 88 5 1, jl 21 3 20, js 2 19 9, js 3 21 3, oA 4 (.assign kT) 4]
def c23_0 : AC := .seq o23_1 (.seq (.seq o23_4 (.cond (tm 11) (.seq o23_7 .ret) .skip)) (.seq o23_11 (.seq o23_13 .ret)))
def r23_0 := qS 23 c23_0 rfl
theorem w0b : q0h Cx 23 = some c23_0 := by kernel_rfl
theorem y4i : q0p Cx 23 = some [.tmp 2, .tmp 3, .tmp 4] := by kernel_rfl
theorem x3f : Cx.pure 23 = true := by kernel_rfl
abbrev o25_1 := rg [oA 1 (.box 60 (tm 0)) 0, ji 2 0 3, oA 3 (.assign kF) 4]
abbrev o25_4 := rg [jf 8 60 1 0, jl 9 3 8, jx 10 23 #[tm 9] #[3] 70, jm 7 10 70, je 11 7 0 9, je 12 7 1 3, je 13 7 2 4, js 4 11 9, js 5 12 3, js 6 13 4]
abbrev o25_6 := rg [jm 14 6 4]
abbrev o25_9 := rg [jm 15 5 3, jf 16 60 1 1, jl 17 26 16, oA 18 (.build 26 #[]) 26, jb 19 .eql 26 17 18 26 4, js 2 15 3, js 3 19 4]
abbrev o25_13 := rg [jl 20 60 1, jx 21 46 #[tm 20] #[60] 4, ji 2 0 3, js 3 21 4]
def c25_0 : AC := .seq o25_1 (.seq (.seq o25_4 (.seq o25_6 (.cond (tm 14) (.seq o25_9 .ret) .skip))) (.seq o25_13 .ret))
def r25_0 := qS 25 c25_0 rfl
theorem w0c : q0h Cx 25 = some c25_0 := by kernel_rfl
theorem w0d : q0p Cx 25 = some [.tmp 2, .tmp 3] := by kernel_rfl
theorem j7u : Cx.pure 25 = true := by kernel_rfl
abbrev o26_1 := rg [oA 1 (.box 24 (tm 0)) 0, oA 2 (.assign kF) 4]
abbrev o26_3 := rg [jf 3 24 1 0, jl 4 3 3, jx 5 47 #[tm 4] #[3] 4, jm 6 5 4, kf 7 24 1 1 6 true, kl 8 3 7 6 true, kx 9 47 #[tm 8] #[3] 4 6 true, jp 10 6 (tm 9) kF, js 2 10 4]
def c26_0 : AC := .seq o26_1 (.seq o26_3 .ret)
def r26_0 := qS 26 c26_0 rfl
theorem y0z : q0h Cx 26 = some c26_0 := by kernel_rfl
theorem x8j : q0p Cx 26 = some [.tmp 2] := by kernel_rfl
theorem x3g : Cx.pure 26 = true := by kernel_rfl
abbrev o27_1 := rg [ja 4 26]
abbrev o27_4 := rg [jm 5 0 54, jn 6 5, jf 7 58 6 7, jl 8 34 7, jB 9 .eql 34 (tm 8) (ci 0) 34 4]
abbrev o27_6 := rg [jm 10 0 54, jm 11 1 34, jn 12 10, jf 13 58 12 7, jt 34 13 11]
abbrev o27_9 := rg [oA 14 (.build 26 #[]) 26, jt 26 4 14]
def c27_0 : AC := .seq o27_1 (.seq (.seq o27_4 (.cond (tm 9) o27_6 .skip)) (.seq o27_9 .ret))
def r27_0 := qS 27 c27_0 rfl
theorem w0e : q0h Cx 27 = some c27_0 := by kernel_rfl
theorem w0f : q0p Cx 27 = some [.cell 4 26] := by kernel_rfl
theorem w0g : Cx.pure 27 = false := by kernel_rfl
abbrev o28_1 := rg [ja 4 26]
abbrev o28_3 := rg [jm 5 0 54, jn 6 5, jf 7 58 6 2, jf 8 28 7 0, jl 9 9 8, jx 10 48 #[tm 9] #[9] 26, jm 11 0 54, jn 12 11, jf 13 58 12 2, jf 14 28 13 1, jl 15 26 14, jm 16 0 54, jn 17 16, jf 18 58 17 2, jf 19 28 18 2, jl 20 26 19, jm 21 0 54, jn 22 21, jf 23 58 22 3, jl 24 3 23, jx 25 49 #[tm 24] #[3] 26, jm 26 0 54, jn 27 26, jf 28 58 27 4, jl 29 26 28, oA 30 (.build 98 #[(0, (tm 10)), (1, (tm 15)), (2, (tm 20)), (3, (tm 25)), (4, (tm 29))]) 98, jm 31 1 3, oA 32 (.index 98 (tm 30) (tm 31)) 26, jt 26 4 32]
def c28_0 : AC := .seq o28_1 (.seq o28_3 .ret)
def r28_0 := qS 28 c28_0 rfl
theorem w0h : q0h Cx 28 = some c28_0 := by kernel_rfl
theorem w8w : q0p Cx 28 = some [.cell 4 26] := by kernel_rfl
theorem w0i : Cx.pure 28 = false := by kernel_rfl
abbrev o29_1 := rg [ja 6 26]
abbrev o29_3 := rg [jm 11 0 54, jm 12 2 3, jB 13 .add 3 (tm 12) (ci 1) 3 3, jx 14 16 #[tm 11, tm 13] #[54, 3] 26, ja 7 26, jt 26 7 14]
abbrev o29_6 := rg [jm 15 0 54, jn 16 15, jf 17 58 16 7, jl 18 34 17, jB 19 .neq 34 (tm 18) (ci 0) 34 4]
abbrev o29_9 := rg [oA 20 (.build 26 #[]) 26, jt 26 6 20]
abbrev o29_13 := rg [jm 21 0 54, jm 22 2 3, jB 23 .add 3 (tm 22) (ci 1) 3 3, jx 24 30 #[tm 21, tm 23] #[54, 3] 3, js 8 24 3]
abbrev o29_16 := rg [jm 25 1 9]
abbrev o29_19 := rg [jB 27 .eql 9 (tm 25) (kS #[105, 102]) 9 4, js 26 27 4]
abbrev o29_23 := rg [jf 28 26 7 0, jl 29 3 28, jB 30 .neq 3 (tm 29) (ci 0) 3 4]
abbrev o29_26 := rg [jm 31 0 54, jx 32 27 #[tm 31, ci 13] #[54, 34] 26, jt 26 6 32]
abbrev o29_31 := rg [jf 33 26 7 1, jl 34 3 33, jB 35 .neq 3 (tm 34) (ci 0) 3 4]
abbrev o29_34 := rg [jm 36 0 54, jm 37 8 3, jx 38 16 #[tm 36, tm 37] #[54, 3] 26, jt 26 6 38]
abbrev o29_38 := rg [jm 39 0 54, jm 40 0 54, jm 41 8 3, jx 42 30 #[tm 40, tm 41] #[54, 3] 3, jx 43 16 #[tm 39, tm 42] #[54, 3] 26, jt 26 6 43]
def c29_21 : AC := .seq (.seq o29_23 (.cond (tm 30) (.seq o29_26 .ret) .skip)) (.seq (.seq o29_31 (.cond (tm 35) (.seq o29_34 .ret) .skip)) (.seq o29_38 .ret))
abbrev o29_41 := rg [jB 45 .eql 9 (tm 25) (kS #[101, 97, 99, 104]) 9 4, js 44 45 4]
abbrev o29_44 := rg [jm 46 0 54, jl 47 26 7, jm 48 8 3, jx 49 50 #[tm 46, tm 47, tm 48] #[54, 26, 3] 26, jt 26 6 49]
abbrev o29_48 := rg [jm 50 0 54, jn 51 50, jf 52 58 51 4, jl 53 26 52, ja 9 26, jt 26 9 53]
abbrev o29_50 := rg [jm 54 0 54, jl 55 26 7, jn 56 54, jf 57 58 56 4, jt 26 57 55]
abbrev o29_52 := rg [jm 58 0 54, jm 59 8 3, jx 60 16 #[tm 58, tm 59] #[54, 3] 26, ja 10 26, jt 26 10 60]
abbrev o29_54 := rg [jm 61 0 54, jl 62 26 9, jn 63 61, jf 64 58 63 4, jt 26 64 62]
abbrev o29_56 := rg [jl 65 26 10, jt 26 6 65]
def c29_14 : AC := .seq (.seq o29_16 (.block 0 (.seq o29_19 (.cond (tm 26) c29_21 (.seq o29_41 (.cond (tm 44) (.seq o29_44 .ret) .skip)))))) (.seq o29_48 (.seq o29_50 (.seq o29_52 (.seq o29_54 (.seq o29_56 .ret)))))
def c29_0 : AC := .seq o29_1 (.seq o29_3 (.seq (.seq o29_6 (.cond (tm 19) (.seq o29_9 .ret) .skip)) (.seq o29_13 c29_14)))
def r29_0 := qa3 (qS 29 c29_0 rfl) (qS 29 c29_14 rfl) (qS 29 c29_21 rfl)
theorem w0j : q0h Cx 29 = some c29_0 := by kernel_rfl
theorem x0f : q0p Cx 29 = some [.cell 6 26] := by kernel_rfl
theorem w0k : Cx.pure 29 = false := by kernel_rfl
abbrev o30_1 := rg [ji 4 0 3]
abbrev o30_3 := rg [jm 5 0 54, jn 6 5, jf 7 58 6 1, jl 8 55 7, jm 9 1 3, oA 10 (.indexAddr 55 (tm 8) (tm 9)) 0, jf 11 76 10 2, jl 12 3 11, js 4 12 3]
def c30_0 : AC := .seq o30_1 (.seq o30_3 .ret)
def r30_0 := qS 30 c30_0 rfl
theorem w0l : q0h Cx 30 = some c30_0 := by kernel_rfl
theorem w8x : q0p Cx 30 = some [.tmp 4] := by kernel_rfl
theorem w0m : Cx.pure 30 = false := by kernel_rfl
abbrev o31_1 := rg [oA 4 (.assign (.const .nilFunc)) 80]
abbrev o31_4 := rg [jm 5 1 9]
abbrev o31_8 := rg [jB 7 .eql 9 (tm 5) (kS #[97, 100, 100]) 9 4, js 6 7 4]
abbrev o31_12 := rg [jB 8 .eql 9 (tm 5) (kS #[115, 117, 98]) 9 4, js 6 8 4]
abbrev o31_16 := rg [jB 9 .eql 9 (tm 5) (kS #[109, 117, 108]) 9 4, js 6 9 4]
abbrev o31_20 := rg [jB 10 .eql 9 (tm 5) (kS #[100, 105, 118]) 9 4, js 6 10 4]
abbrev o31_23 := rg [jB 11 .eql 9 (tm 5) (kS #[109, 111, 100]) 9 4, js 6 11 4]
def c31_7 : AC := .seq o31_8 (.cond (tm 6) .skip (.seq o31_12 (.cond (tm 6) .skip (.seq o31_16 (.cond (tm 6) .skip (.seq o31_20 (.cond (tm 6) .skip o31_23)))))))
abbrev o31_26 := rg [jm 12 0 54, oA 13 (.makeFunc (.func 51) #[tm 12] #[]) 80, js 4 13 80]
abbrev o31_30 := rg [jB 15 .eql 9 (tm 5) (kS #[108, 101, 115, 115]) 9 4, js 14 15 4]
abbrev o31_34 := rg [jB 16 .eql 9 (tm 5) (kS #[109, 97, 120]) 9 4, js 14 16 4]
abbrev o31_37 := rg [jB 17 .eql 9 (tm 5) (kS #[109, 105, 110]) 9 4, js 14 17 4]
abbrev o31_40 := rg [jm 18 0 54, oA 19 (.makeFunc (.func 52) #[tm 18] #[]) 80, js 4 19 80]
abbrev o31_44 := rg [jB 21 .eql 9 (tm 5) (kS #[99, 97, 116]) 9 4, js 20 21 4]
abbrev o31_48 := rg [jB 22 .eql 9 (tm 5) (kS #[108, 101, 110]) 9 4, js 20 22 4]
abbrev o31_52 := rg [jB 23 .eql 9 (tm 5) (kS #[99, 117, 116]) 9 4, js 20 23 4]
abbrev o31_56 := rg [jB 24 .eql 9 (tm 5) (kS #[119, 111, 114, 100, 115]) 9 4, js 20 24 4]
abbrev o31_60 := rg [jB 25 .eql 9 (tm 5) (kS #[119, 111, 114, 100]) 9 4, js 20 25 4]
abbrev o31_63 := rg [jB 26 .eql 9 (tm 5) (kS #[110, 117, 109]) 9 4, js 20 26 4]
def c31_47 : AC := .seq o31_48 (.cond (tm 20) .skip (.seq o31_52 (.cond (tm 20) .skip (.seq o31_56 (.cond (tm 20) .skip (.seq o31_60 (.cond (tm 20) .skip o31_63)))))))
abbrev o31_66 := rg [jm 27 0 54, oA 28 (.makeFunc (.func 53) #[tm 27] #[]) 80, js 4 28 80]
abbrev o31_70 := rg [jB 30 .eql 9 (tm 5) (kS #[114, 101]) 9 4, js 29 30 4]
abbrev o31_74 := rg [jB 31 .eql 9 (tm 5) (kS #[105, 109]) 9 4, js 29 31 4]
abbrev o31_78 := rg [jB 32 .eql 9 (tm 5) (kS #[110, 111, 114, 109]) 9 4, js 29 32 4]
abbrev o31_81 := rg [jB 33 .eql 9 (tm 5) (kS #[99, 111, 110, 106]) 9 4, js 29 33 4]
abbrev o31_84 := rg [jm 34 0 54, oA 35 (.makeFunc (.func 54) #[tm 34] #[]) 80, js 4 35 80]
def c31_68 : AC := .seq (.seq o31_70 (.cond (tm 29) .skip (.seq o31_74 (.cond (tm 29) .skip (.seq o31_78 (.cond (tm 29) .skip o31_81)))))) (.cond (tm 29) (.seq o31_84 .ret) .skip)
def c31_28 : AC := .seq (.seq o31_30 (.cond (tm 14) .skip (.seq o31_34 (.cond (tm 14) .skip o31_37)))) (.cond (tm 14) (.seq o31_40 .ret) (.seq (.seq o31_44 (.cond (tm 20) .skip c31_47)) (.cond (tm 20) (.seq o31_66 .ret) c31_68)))
abbrev o31_88 := rg [jm 36 0 54, oA 37 (.makeFunc (.func 55) #[tm 36] #[]) 80, js 4 37 80]
def c31_0 : AC := .seq o31_1 (.seq (.seq o31_4 (.block 0 (.seq c31_7 (.cond (tm 6) (.seq o31_26 .ret) c31_28)))) (.seq o31_88 .ret))
theorem w0n : q0h Cx 31 = some c31_0 := by kernel_rfl
theorem w0o : Cx.pure 31 = false := by kernel_rfl
abbrev o32_1 := rg [ji 6 0 3]
abbrev o32_4 := rg [jm 9 1 3, jm 10 0 22, oA 11 (cB .len #[tm 10] #[22]) 3, jb 12 .geq 3 9 11 3 4, jm 13 12 4, km 14 2 3 13 false, kB 15 .gtr 3 (tm 14) (ci 24) 3 4 13 false, jp 16 13 kT (tm 15)]
abbrev o32_7 := rg [ji 6 (-1) 3]
abbrev o32_11 := rg [jm 17 0 22, jm 18 1 3, oA 19 (.indexAddr 22 (tm 17) (tm 18)) 0, jl 20 51 19, ja 7 51, jt 51 7 20]
abbrev o32_14 := rg [jf 21 51 7 0, jl 22 3 21, jB 23 .eql 3 (tm 22) (ci 0) 3 4, jm 24 23 4, kf 25 51 7 1 24 true, kl 26 26 25 24 true, kx 27 18 #[tm 26] #[26] 4 24 true, jp 28 24 (tm 27) kF]
abbrev o32_17 := rg [jm 29 1 3, jB 30 .add 3 (tm 29) (ci 1) 3 3, js 6 30 3]
abbrev o32_22 := rg [jf 31 51 7 0, jl 32 3 31, jB 33 .eql 3 (tm 32) (ci 1) 3 4, jm 34 33 4, kf 35 51 7 1 34 true, kl 36 26 35 34 true, kx 37 18 #[tm 36] #[26] 4 34 true, jp 38 34 (tm 37) kF, jm 39 38 4, kf 40 51 7 1 39 true, kf 41 26 40 0 39 true, kl 42 3 41 39 true, kB 43 .eql 3 (tm 42) (ci 0) 3 4 39 true, jp 44 39 (tm 43) kF, jm 45 44 4, kf 46 51 7 1 45 true, kf 47 26 46 1 45 true, kl 48 3 47 45 true, kB 49 .geq 3 (tm 48) (ci 0) 3 4 45 true, jp 50 45 (tm 49) kF, jm 51 50 4, kf 52 51 7 1 51 true, kf 53 26 52 1 51 true, kl 54 3 53 51 true, kB 55 .leq 3 (tm 54) (ci 4) 3 4 51 true, jp 56 51 (tm 55) kF]
abbrev o32_25 := rg [jm 57 1 3, jB 58 .add 3 (tm 57) (ci 1) 3 3, js 6 58 3]
abbrev o32_30 := rg [jf 59 51 7 0, jl 60 3 59, jx 61 34 #[tm 60] #[3] 9, jB 62 .eql 9 (tm 61) (kS #[]) 9 4, jm 63 62 4, kf 64 51 7 1 63 false, kl 65 26 64 63 false, oG 66 (.build 26 #[]) 26 63 false, kq 67 .neq 26 65 66 26 4 63 false, jp 68 63 kT (tm 67)]
abbrev o32_33 := rg [ji 6 (-1) 3]
abbrev o32_37 := rg [jm 69 1 3, jB 70 .add 3 (tm 69) (ci 1) 3 3, js 1 70 3]
abbrev o32_40 := rg [ji 8 0 3]
abbrev o32_45 := rg [jm 71 8 3, jf 72 51 7 0, jl 73 3 72, jx 74 19 #[tm 73] #[3] 3, jb 75 .lss 3 71 74 3 4]
abbrev o32_52 := rg [jm 78 0 22, jm 79 1 3, jm 80 2 3, jB 81 .add 3 (tm 80) (ci 1) 3 3, jx 82 32 #[tm 78, tm 79, tm 81] #[22, 3, 3] 3, js 1 82 3]
abbrev o32_54 := rg [jm 83 1 3, jB 84 .lss 3 (tm 83) (ci 0) 3 4]
abbrev o32_57 := rg [ji 6 (-1) 3]
abbrev o32_60 := rg [jm 76 8 3, jB 77 .add 3 (tm 76) (ci 1) 3 3, js 8 77 3]
def c32_43 : AC := .seq (.seq o32_45 (.cond (tm 75) .skip (.exit 0))) (.seq (.block 1 (.seq o32_52 (.seq o32_54 (.cond (tm 84) (.seq o32_57 .ret) .skip)))) o32_60)
abbrev o32_62 := rg [jm 85 1 3, js 6 85 3]
def c32_61 : AC := .seq o32_62 .ret
def c32_36 : AC := .seq o32_37 (.seq (.seq o32_40 (.block 0 (.loop c32_43))) c32_61)
def c32_28 : AC := .seq (.seq o32_30 (.cond (tm 68) (.seq o32_33 .ret) .skip)) c32_36
def c32_20 : AC := .seq (.seq o32_22 (.cond (tm 56) (.seq o32_25 .ret) .skip)) c32_28
def c32_2 : AC := .seq (.seq o32_4 (.cond (tm 16) (.seq o32_7 .ret) .skip)) (.seq o32_11 (.seq (.seq o32_14 (.cond (tm 28) (.seq o32_17 .ret) .skip)) c32_20))
def c32_0 : AC := .seq o32_1 c32_2
def r32_0 := qa7 (qS 32 c32_0 rfl) (qS 32 c32_2 rfl) (qS 32 c32_20 rfl) (qS 32 c32_28 rfl) (qS 32 c32_36 rfl) (qS 32 c32_43 rfl) (qS 32 c32_61 rfl)
theorem z1b : q0h Cx 32 = some c32_0 := by kernel_rfl
theorem z1c : q0p Cx 32 = some [.tmp 6] := by kernel_rfl
theorem x3h : Cx.pure 32 = true := by kernel_rfl
abbrev o33_1 := rg [oA 1 (.box 24 (tm 0)) 0, oA 2 (.assign kF) 4]
abbrev o33_3 := rg [jf 3 24 1 0, jl 4 3 3, jB 5 .geq 3 (tm 4) (ci (-16777216)) 3 4, jm 6 5 4, kf 7 24 1 0 6 true, kl 8 3 7 6 true, kB 9 .leq 3 (tm 8) (ci 16777216) 3 4 6 true, jp 10 6 (tm 9) kF, jm 11 10 4, kf 12 24 1 1 11 true, kl 13 3 12 11 true, kB 14 .geq 3 (tm 13) (ci (-16777216)) 3 4 11 true, jp 15 11 (tm 14) kF, jm 16 15 4, kf 17 24 1 1 16 true, kl 18 3 17 16 true, kB 19 .leq 3 (tm 18) (ci 16777216) 3 4 16 true, jp 20 16 (tm 19) kF, js 2 20 4]
def c33_0 : AC := .seq o33_1 (.seq o33_3 .ret)
def r33_0 := qS 33 c33_0 rfl
theorem y1a : q0h Cx 33 = some c33_0 := by kernel_rfl
theorem w0p : q0p Cx 33 = some [.tmp 2] := by kernel_rfl
theorem q7g : Cx.pure 33 = true := by kernel_rfl
abbrev o34_1 := rg [oA 2 (.assign (kS #[])) 9]
abbrev o34_4 := rg [jm 3 0 3, jB 4 .lss 3 (tm 3) (ci 2) 3 4, jm 5 4 4, km 6 0 3 5 false, kB 7 .gtr 3 (tm 6) (ci 29) 3 4 5 false, jp 8 5 kT (tm 7)]
abbrev o34_7 := rg [oA 2 (.assign (kS #[])) 9]
abbrev o34_11 := rg [oA 9 (.buildSlice 92 28 #[(0, (kS #[97, 100, 100])), (1, (kS #[115, 117, 98])), (2, (kS #[109, 117, 108])), (3, (kS #[100, 105, 118])), (4, (kS #[109, 111, 100])), (5, (kS #[110, 101, 103])), (6, (kS #[108, 101, 115, 115])), (7, (kS #[115, 97, 109, 101])), (8, (kS #[110, 111, 116])), (9, (kS #[105, 102])), (10, (kS #[109, 97, 120])), (11, (kS #[109, 105, 110])), (12, (kS #[99, 97, 116])), (13, (kS #[108, 101, 110])), (14, (kS #[99, 117, 116])), (15, (kS #[119, 111, 114, 100])), (16, (kS #[119, 111, 114, 100, 115])), (17, (kS #[110, 117, 109])), (18, (kS #[116, 101, 120, 116])), (19, (kS #[97, 116])), (20, (kS #[114, 101])), (21, (kS #[105, 109])), (22, (kS #[110, 111, 114, 109])), (23, (kS #[99, 111, 110, 106])), (24, (kS #[101, 109, 105, 116])), (25, (kS #[116, 104, 101, 110])), (26, (kS #[101, 97, 99, 104])), (27, (kS #[108, 101, 116]))]) 92, jm 10 0 3, jB 11 .sub 3 (tm 10) (ci 2) 3 3, oA 12 (.indexAddr 92 (tm 9) (tm 11)) 0, jl 13 9 12, js 2 13 9]
def c34_0 : AC := .seq o34_1 (.seq (.seq o34_4 (.cond (tm 8) (.seq o34_7 .ret) .skip)) (.seq o34_11 .ret))
def r34_0 := qS 34 c34_0 rfl
theorem w0q : q0h Cx 34 = some c34_0 := by kernel_rfl
theorem w0r : q0p Cx 34 = some [.tmp 2] := by kernel_rfl
theorem q9o : Cx.pure 34 = true := by kernel_rfl
abbrev o35_1 := rg [ja 4 26]
abbrev o35_4 := rg [jm 5 0 64, jn 6 5, jf 7 66 6 9, jl 8 3 7, jB 9 .eql 3 (tm 8) (ci 0) 3 4]
abbrev o35_6 := rg [jm 10 0 64, jm 11 1 3, jn 12 10, jf 13 66 12 9, jt 3 13 11]
abbrev o35_9 := rg [oA 14 (.build 26 #[]) 26, jt 26 4 14]
def c35_0 : AC := .seq o35_1 (.seq (.seq o35_4 (.cond (tm 9) o35_6 .skip)) (.seq o35_9 .ret))
def r35_0 := qS 35 c35_0 rfl
theorem w0s : q0h Cx 35 = some c35_0 := by kernel_rfl
theorem w0t : q0p Cx 35 = some [.cell 4 26] := by kernel_rfl
theorem w0u : Cx.pure 35 = false := by kernel_rfl
abbrev o36_1 := rg [ja 2 26]
abbrev o36_3 := rg [jm 3 0 9, oA 4 (.build 26 #[(0, (ci 1)), (2, (tm 3))]) 26, jt 26 2 4]
def c36_0 : AC := .seq o36_1 (.seq o36_3 .ret)
def r36_0 := qS 36 c36_0 rfl
theorem w0v : q0h Cx 36 = some c36_0 := by kernel_rfl
theorem w8y : q0p Cx 36 = some [.cell 2 26] := by kernel_rfl
theorem j3m : Cx.pure 36 = true := by kernel_rfl
abbrev o37_1 := rg [ja 2 26]
abbrev o37_3 := rg [jm 3 0 3, oA 4 (.build 26 #[(1, (tm 3))]) 26, jt 26 2 4]
def c37_0 : AC := .seq o37_1 (.seq o37_3 .ret)
def r37_0 := qS 37 c37_0 rfl
theorem w0w : q0h Cx 37 = some c37_0 := by kernel_rfl
theorem w8z : q0p Cx 37 = some [.cell 2 26] := by kernel_rfl
theorem q3q : Cx.pure 37 = true := by kernel_rfl
abbrev o38_1 := rg [ja 6 26]
abbrev o38_3 := rg [jm 10 2 79, oA 11 (.indexAddr 79 (tm 10) (ci 0)) 0, jl 12 26 11, ja 7 26, jt 26 7 12]
abbrev o38_5 := rg [jm 13 2 79, jm 14 2 79, oA 15 (cB .len #[tm 14] #[79]) 3, jB 16 .sub 3 (tm 15) (ci 1) 3 3, oA 17 (.indexAddr 79 (tm 13) (tm 16)) 0, jl 18 26 17, ja 8 26, jt 26 8 18]
abbrev o38_8 := rg [jm 19 1 9]
abbrev o38_12 := rg [jB 21 .eql 9 (tm 19) (kS #[97, 100, 100]) 9 4, js 20 21 4]
abbrev o38_16 := rg [jB 22 .eql 9 (tm 19) (kS #[115, 117, 98]) 9 4, js 20 22 4]
abbrev o38_20 := rg [jB 23 .eql 9 (tm 19) (kS #[109, 117, 108]) 9 4, js 20 23 4]
abbrev o38_24 := rg [jB 24 .eql 9 (tm 19) (kS #[100, 105, 118]) 9 4, js 20 24 4]
abbrev o38_27 := rg [jB 25 .eql 9 (tm 19) (kS #[109, 111, 100]) 9 4, js 20 25 4]
def c38_11 : AC := .seq o38_12 (.cond (tm 20) .skip (.seq o38_16 (.cond (tm 20) .skip (.seq o38_20 (.cond (tm 20) .skip (.seq o38_24 (.cond (tm 20) .skip o38_27)))))))
abbrev o38_31 := rg [jf 26 26 7 0, jl 27 3 26, jB 28 .eql 3 (tm 27) (ci 2) 3 4, jm 29 28 4, kf 30 26 8 0 29 true, kl 31 3 30 29 true, kB 32 .eql 3 (tm 31) (ci 2) 3 4 29 true, jp 33 29 (tm 32) kF]
abbrev o38_34 := rg [jm 34 0 64, jm 35 1 9, jf 36 26 7 3, jl 37 24 36, jf 38 26 8 3, jl 39 24 38, jx 40 56 #[tm 34, tm 35, tm 37, tm 39] #[64, 9, 24, 24] 26, jt 26 6 40]
abbrev o38_39 := rg [jm 41 0 64, jm 42 2 79, oA 43 (.buildSlice 62 2 #[(0, (ci 0)), (1, (ci 0))]) 62, jx 44 57 #[tm 41, tm 42, tm 43] #[64, 79, 62] 4, oA 45 (.unOp .not 4 (tm 44)) 4]
abbrev o38_42 := rg [oA 46 (.build 26 #[]) 26, jt 26 6 46]
abbrev o38_46 := rg [jm 47 0 64, jm 48 1 9, jf 49 26 7 1, jl 50 3 49, jf 51 26 8 1, jl 52 3 51, jx 53 58 #[tm 47, tm 48, tm 50, tm 52] #[64, 9, 3, 3] 26, jt 26 6 53]
def c38_29 : AC := .seq (.seq o38_31 (.cond (tm 33) (.seq o38_34 .ret) .skip)) (.seq (.seq o38_39 (.cond (tm 45) (.seq o38_42 .ret) .skip)) (.seq o38_46 .ret))
abbrev o38_50 := rg [jB 55 .eql 9 (tm 19) (kS #[108, 101, 115, 115]) 9 4, js 54 55 4]
abbrev o38_54 := rg [jB 56 .eql 9 (tm 19) (kS #[109, 97, 120]) 9 4, js 54 56 4]
abbrev o38_57 := rg [jB 57 .eql 9 (tm 19) (kS #[109, 105, 110]) 9 4, js 54 57 4]
abbrev o38_61 := rg [jf 58 26 7 0, jl 59 3 58, jf 60 26 8 0, jl 61 3 60, jb 62 .neq 3 59 61 3 4]
abbrev o38_64 := rg [jm 63 0 64, jx 64 35 #[tm 63, ci 13] #[64, 3] 26, jt 26 6 64]
abbrev o38_68 := rg [jl 65 26 7, jl 66 26 8, jx 67 59 #[tm 65, tm 66] #[26, 26] 3, js 9 67 3]
abbrev o38_71 := rg [jm 68 1 9, jB 69 .eql 9 (tm 68) (kS #[108, 101, 115, 115]) 9 4]
abbrev o38_74 := rg [jm 70 9 3, jB 71 .lss 3 (tm 70) (ci 0) 3 4, jx 72 60 #[tm 71] #[4] 26, jt 26 6 72]
abbrev o38_79 := rg [jm 73 1 9, jB 74 .eql 9 (tm 73) (kS #[109, 97, 120]) 9 4, jm 75 74 4, km 76 9 3 75 true, kB 77 .gtr 3 (tm 76) (ci 0) 3 4 75 true, jp 78 75 (tm 77) kF, jm 79 78 4, km 80 1 9 79 false, kB 81 .eql 9 (tm 80) (kS #[109, 105, 110]) 9 4 79 false, km 82 81 4 79 false, km 83 9 3 82 true, kB 84 .lss 3 (tm 83) (ci 0) 3 4 82 true, kp 85 82 (tm 84) kF 79 false, jp 86 79 kT (tm 85)]
abbrev o38_82 := rg [jl 87 26 7, jt 26 6 87]
abbrev o38_86 := rg [jl 88 26 8, jt 26 6 88]
def c38_69 : AC := .seq (.seq o38_71 (.cond (tm 69) (.seq o38_74 .ret) .skip)) (.seq (.seq o38_79 (.cond (tm 86) (.seq o38_82 .ret) .skip)) (.seq o38_86 .ret))
abbrev o38_89 := rg [jB 90 .eql 9 (tm 19) (kS #[115, 97, 109, 101]) 9 4, js 89 90 4]
abbrev o38_92 := rg [jl 91 26 7, jl 92 26 8, jb 93 .eql 26 91 92 26 4, jx 94 60 #[tm 93] #[4] 26, jt 26 6 94]
abbrev o38_95 := rg [jB 96 .eql 9 (tm 19) (kS #[116, 104, 101, 110]) 9 4, js 95 96 4]
abbrev o38_98 := rg [jl 97 26 8, jt 26 6 97]
abbrev o38_101 := rg [jB 99 .eql 9 (tm 19) (kS #[110, 101, 103]) 9 4, js 98 99 4]
abbrev o38_105 := rg [jf 100 26 7 0, jl 101 3 100, jB 102 .eql 3 (tm 101) (ci 2) 3 4]
abbrev o38_108 := rg [jf 103 26 7 3, jf 104 24 103 0, jl 105 3 104, oA 106 (.unOp .neg 3 (tm 105)) 3, jf 107 26 7 3, jf 108 24 107 1, jl 109 3 108, oA 110 (.unOp .neg 3 (tm 109)) 3, oA 111 (.build 24 #[(0, (tm 106)), (1, (tm 110))]) 24, oA 112 (.build 26 #[(0, (ci 2)), (3, (tm 111))]) 26, jt 26 6 112]
abbrev o38_112 := rg [jm 113 0 64, jm 114 2 79, oA 115 (.buildSlice 62 1 #[(0, (ci 0))]) 62, jx 116 57 #[tm 113, tm 114, tm 115] #[64, 79, 62] 4]
abbrev o38_115 := rg [jf 117 26 7 1, jl 118 3 117, oA 119 (.unOp .neg 3 (tm 118)) 3, jx 120 37 #[tm 119] #[3] 26, jt 26 6 120]
abbrev o38_119 := rg [jB 122 .eql 9 (tm 19) (kS #[110, 111, 116]) 9 4, js 121 122 4]
abbrev o38_122 := rg [jm 123 0 64, jm 124 2 79, oA 125 (.buildSlice 62 1 #[(0, (ci 0))]) 62, jx 126 57 #[tm 123, tm 124, tm 125] #[64, 79, 62] 4]
abbrev o38_125 := rg [jf 127 26 7 1, jl 128 3 127, jB 129 .eql 3 (tm 128) (ci 0) 3 4, jx 130 60 #[tm 129] #[4] 26, jt 26 6 130]
abbrev o38_129 := rg [jB 132 .eql 9 (tm 19) (kS #[97, 116]) 9 4, js 131 132 4]
abbrev o38_132 := rg [jm 133 0 64, jm 134 2 79, oA 135 (.buildSlice 62 2 #[(0, (ci 0)), (1, (ci 0))]) 62, jx 136 57 #[tm 133, tm 134, tm 135] #[64, 79, 62] 4]
abbrev o38_135 := rg [jm 137 0 64, jf 138 26 7 1, jl 139 3 138, jf 140 26 8 1, jl 141 3 140, oA 142 (.build 24 #[(0, (tm 139)), (1, (tm 141))]) 24, oA 143 (.build 26 #[(0, (ci 2)), (3, (tm 142))]) 26, jx 144 61 #[tm 137, tm 143] #[64, 26] 26, jt 26 6 144]
abbrev o38_140 := rg [jB 146 .eql 9 (tm 19) (kS #[114, 101]) 9 4, js 145 146 4]
abbrev o38_144 := rg [jB 147 .eql 9 (tm 19) (kS #[105, 109]) 9 4, js 145 147 4]
abbrev o38_148 := rg [jB 148 .eql 9 (tm 19) (kS #[110, 111, 114, 109]) 9 4, js 145 148 4]
abbrev o38_151 := rg [jB 149 .eql 9 (tm 19) (kS #[99, 111, 110, 106]) 9 4, js 145 149 4]
abbrev o38_155 := rg [jm 150 0 64, jm 151 2 79, oA 152 (.buildSlice 62 1 #[(0, (ci 2))]) 62, jx 153 57 #[tm 150, tm 151, tm 152] #[64, 79, 62] 4, oA 154 (.unOp .not 4 (tm 153)) 4]
abbrev o38_158 := rg [oA 155 (.build 26 #[]) 26, jt 26 6 155]
abbrev o38_163 := rg [jm 156 1 9]
abbrev o38_166 := rg [jB 158 .eql 9 (tm 156) (kS #[114, 101]) 9 4, js 157 158 4]
abbrev o38_169 := rg [jf 159 26 7 3, jf 160 24 159 0, jl 161 3 160, jx 162 37 #[tm 161] #[3] 26, jt 26 6 162]
abbrev o38_172 := rg [jB 164 .eql 9 (tm 156) (kS #[105, 109]) 9 4, js 163 164 4]
abbrev o38_175 := rg [jf 165 26 7 3, jf 166 24 165 1, jl 167 3 166, jx 168 37 #[tm 167] #[3] 26, jt 26 6 168]
abbrev o38_178 := rg [jB 170 .eql 9 (tm 156) (kS #[110, 111, 114, 109]) 9 4, js 169 170 4]
abbrev o38_181 := rg [jf 171 26 7 3, jl 172 24 171, jx 173 62 #[tm 172] #[24] 3, jx 174 37 #[tm 173] #[3] 26, jt 26 6 174]
def c38_167 : AC := .cond (tm 157) (.seq o38_169 .ret) (.seq o38_172 (.cond (tm 163) (.seq o38_175 .ret) (.seq o38_178 (.cond (tm 169) (.seq o38_181 .ret) .skip))))
abbrev o38_185 := rg [jf 175 26 7 3, jf 176 24 175 0, jl 177 3 176, jf 178 26 7 3, jf 179 24 178 1, jl 180 3 179, oA 181 (.unOp .neg 3 (tm 180)) 3, oA 182 (.build 24 #[(0, (tm 177)), (1, (tm 181))]) 24, oA 183 (.build 26 #[(0, (ci 2)), (3, (tm 182))]) 26, jt 26 6 183]
def c38_153 : AC := .seq (.seq o38_155 (.cond (tm 154) (.seq o38_158 .ret) .skip)) (.seq (.seq o38_163 (.block 1 (.seq o38_166 c38_167))) (.seq o38_185 .ret))
abbrev o38_188 := rg [jB 185 .eql 9 (tm 19) (kS #[101, 109, 105, 116]) 9 4, js 184 185 4]
abbrev o38_192 := rg [jf 186 26 7 0, jl 187 3 186, jB 188 .neq 3 (tm 187) (ci 1) 3 4]
abbrev o38_195 := rg [jm 189 0 64, jx 190 35 #[tm 189, ci 13] #[64, 3] 26, jt 26 6 190]
abbrev o38_200 := rg [jf 191 26 7 2, jl 192 9 191, oA 193 (cB .len #[tm 192] #[9]) 3, jB 194 .gtr 3 (tm 193) (ci 64) 3 4]
abbrev o38_203 := rg [jm 195 0 64, jx 196 35 #[tm 195, ci 3] #[64, 3] 26, jt 26 6 196]
abbrev o38_208 := rg [jm 197 0 64, jn 198 197, jf 199 66 198 7, jl 200 31 199, oA 201 (cB .len #[tm 200] #[31]) 3, jB 202 .geq 3 (tm 201) (ci 64) 3 4]
abbrev o38_211 := rg [jm 203 0 64, jx 204 35 #[tm 203, ci 22] #[64, 3] 26, jt 26 6 204]
abbrev o38_215 := rg [jm 205 0 64, jm 206 0 64, jn 207 206, jf 208 66 207 7, jl 209 31 208, jf 210 26 7 2, jl 211 9 210, jl 212 26 8, oA 213 (.build 49 #[(0, (tm 211)), (1, (tm 212))]) 49, oA 214 (.buildSlice 31 1 #[(0, (tm 213))]) 31, oA 215 (cB .append #[tm 209, tm 214] #[31, 31]) 31, jn 216 205, jf 217 66 216 7, jt 31 217 215]
abbrev o38_217 := rg [jl 218 26 8, jt 26 6 218]
def c38_198 : AC := .seq (.seq o38_200 (.cond (tm 194) (.seq o38_203 .ret) .skip)) (.seq (.seq o38_208 (.cond (tm 202) (.seq o38_211 .ret) .skip)) (.seq o38_215 (.seq o38_217 .ret)))
abbrev o38_220 := rg [jB 220 .eql 9 (tm 19) (kS #[116, 101, 120, 116]) 9 4, js 219 220 4]
abbrev o38_224 := rg [jf 221 26 7 0, jl 222 3 221, jB 223 .eql 3 (tm 222) (ci 1) 3 4]
abbrev o38_227 := rg [jl 224 26 7, jt 26 6 224]
abbrev o38_231 := rg [jl 225 26 7, jx 226 63 #[tm 225] #[26] 9, jx 227 36 #[tm 226] #[9] 26, jt 26 6 227]
def c38_189 : AC := .cond (tm 184) (.seq (.seq o38_192 (.cond (tm 188) (.seq o38_195 .ret) .skip)) c38_198) (.seq o38_220 (.cond (tm 219) (.seq (.seq o38_224 (.cond (tm 223) (.seq o38_227 .ret) .skip)) (.seq o38_231 .ret)) .skip))
def c38_138 : AC := .seq (.seq o38_140 (.cond (tm 145) .skip (.seq o38_144 (.cond (tm 145) .skip (.seq o38_148 (.cond (tm 145) .skip o38_151)))))) (.cond (tm 145) c38_153 (.seq o38_188 c38_189))
def c38_120 : AC := .cond (tm 121) (.seq o38_122 (.cond (tm 126) (.seq o38_125 .ret) .skip)) (.seq o38_129 (.cond (tm 131) (.seq o38_132 (.cond (tm 136) (.seq o38_135 .ret) .skip)) c38_138))
def c38_102 : AC := .cond (tm 98) (.seq (.seq o38_105 (.cond (tm 102) (.seq o38_108 .ret) .skip)) (.seq o38_112 (.cond (tm 116) (.seq o38_115 .ret) .skip))) (.seq o38_119 c38_120)
def c38_58 : AC := .cond (tm 54) (.seq (.seq o38_61 (.cond (tm 62) (.seq o38_64 .ret) .skip)) (.seq o38_68 c38_69)) (.seq o38_89 (.cond (tm 89) (.seq o38_92 .ret) (.seq o38_95 (.cond (tm 95) (.seq o38_98 .ret) (.seq o38_101 c38_102)))))
def c38_7 : AC := .seq o38_8 (.block 0 (.seq c38_11 (.cond (tm 20) c38_29 (.seq (.seq o38_50 (.cond (tm 54) .skip (.seq o38_54 (.cond (tm 54) .skip o38_57)))) c38_58))))
abbrev o38_235 := rg [jm 228 0 64, jm 229 1 9, jm 230 2 79, jx 231 64 #[tm 228, tm 229, tm 230] #[64, 9, 79] 26, jt 26 6 231]
def c38_6 : AC := .seq c38_7 (.seq o38_235 .ret)
def c38_0 : AC := .seq o38_1 (.seq o38_3 (.seq o38_5 c38_6))
def r38_0 := qa8 (qS 38 c38_0 rfl) (qS 38 c38_6 rfl) (qS 38 c38_7 rfl) (qS 38 c38_11 rfl) (qS 38 c38_29 rfl) (qC 38 c38_58 rfl) (qS 38 c38_69 rfl) (qC 38 c38_102 rfl)
def r38_1 := qa6 (qC 38 c38_120 rfl) (qS 38 c38_138 rfl) (qS 38 c38_153 rfl) (qC 38 c38_167 rfl) (qC 38 c38_189 rfl) (qS 38 c38_198 rfl)
theorem w0x : q0h Cx 38 = some c38_0 := by kernel_rfl
theorem q1r : q0p Cx 38 = some [.cell 6 26] := by kernel_rfl
theorem w0y : Cx.pure 38 = false := by kernel_rfl
end
end Go.Proofs.YtckhmpcmlochpaaGreat.G
