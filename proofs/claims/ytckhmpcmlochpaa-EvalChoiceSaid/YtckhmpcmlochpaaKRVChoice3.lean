import Derived.Test.YtckhmpcmlochpaaKRVChoice2
import Derived.Laws.Externs
import Derived.Calls
import Derived.Laws.World
import Derived.Test.YtckhmpcmlochpaaChecked
import Derived.Lib.Strings
import Derived.Lib.Walk
import Derived.Lib.UnsafeStr
import Derived.Lib.Builder
import Derived.WalkKit
import Derived.KernelRfl
namespace Go.BX
set_option linter.unusedSimpArgs false
set_option linter.unusedVariables false
def kindOf (P : Program) (t : TypeId) : Option TK :=
  match P.underlying t with
  | some .bool => some .bool
  | some (.int k) => some (.int k)
  | some .string => some .str
  | some (.float .f64) => some .flt
  | some (.complex .f64) => some .cpx
  | some (.pointer _) => some .ptr
  | some (.slice e) => some (.slice e)
  | some (.array n e) => some (.array n e)
  | some (.struct fs) => some (.struct (fs.toList.map fun f => (f.type, f.offset)))
  | some (.func ..) => some .func
  | some (.interface _) => some .iface
  | _ => none
def tiOf (P : Program) (t : TypeId) : Option TI :=
  match kindOf P t, P.info? t with
  | some k, some info => match info.zero with
    | some z => (mapO ofConst z.cells.toList).map fun zero => { kind := k, size := info.size, bytes := info.bytes, zero := zero, eqk := if P.eqGuardType P.depth t then none else flatT P Op.maxDepth t }
    | none => none
  | _, _ => none
def isAggV : Value → Bool
  | .agg _ => true
  | _ => false
def tiCheck (P : Program) (good : List TypeId) (t : TypeId) : Bool :=
  match tiOf P t, P.info? t with
  | some ti, some info => (match info.zero with
    | some z => z.cells.size == info.size && isAggV z == ti.kind.isAgg
    | none => false) && (match ti.kind with
    | .slice e => ti.size == 1 && good.contains e
    | .array n e => good.contains e && (match tiOf P e with | some te => te.size != 0 && ti.size == n * te.size | none => false)
    | .struct fs => fs.all fun f => good.contains f.1 && (match tiOf P f.1 with | some tf => tf.size != 0 && decide (f.2 + tf.size ≤ ti.size) | none => false)
    | _ => ti.size == 1)
  | _, _ => false
def fiOf (P : Program) (pure : FuncId → Bool) (f : FuncId) : Option FI :=
  match P.funcs[f]? with
  | some fn => if fn.name == "runtime.NumGoroutine" then none else match fn.body with
    | some c => (strip pure fn.ntmps c).map fun b => { ntmps := fn.ntmps, results := fn.results.toList, body := b }
    | none => none
  | none => none
def ctxOf (P : Program) (good : List TypeId) (pure : FuncId → Bool) (ext : FuncId → Option (List AV → AHeap → Option (AV × AHeap))) : Ctx :=
  { P := P, FT := fiOf P pure, TT := fun t => if good.contains t then tiOf P t else none, pure := pure, ext := ext }
theorem tiOk_of {P : Program} {good : List TypeId} (hg : good.all (tiCheck P good) = true) {pure : FuncId → Bool} {ext : FuncId → Option (List AV → AHeap → Option (AV × AHeap))} {t : TypeId} {ti : TI}
    (h : (ctxOf P good pure ext).TT t = some ti) : TIok (ctxOf P good pure ext) t ti := by
  simp only [List.all_eq_true] at hg
  have hTT : ∀ e, good.contains e = true → ∃ te, tiOf P e = some te ∧ (ctxOf P good pure ext).TT e = some te := fun e he => by
    have hc := hg e (by simpa using he)
    unfold tiCheck at hc
    split at hc
    · rename_i te _ h1 _
      exact ⟨te, h1, by show (if good.contains e then tiOf P e else none) = _; rw [if_pos he, h1]⟩
    · cases hc
  have h' : good.contains t = true ∧ tiOf P t = some ti := by
    simp only [ctxOf] at h
    split at h
    · exact ⟨by assumption, h⟩
    · cases h
  obtain ⟨hgt, hti⟩ := h'
  have hc := hg t (by simpa using hgt)
  unfold tiCheck at hc
  rw [hti] at hc
  have hti' := hti
  unfold tiOf at hti'
  split at hti'
  · rename_i k info hk hinfo
    rw [hinfo] at hc
    split at hti'
    · rename_i z hz
      simp only [Option.map_eq_some_iff] at hti'
      obtain ⟨zero, hzero, hte⟩ := hti'
      subst hte
      simp only [hz, Bool.and_eq_true, beq_iff_eq] at hc
      obtain ⟨⟨hzs, hza⟩, hkk⟩ := hc
      refine ⟨⟨info, hinfo, rfl, rfl, z, hz, hzero, hzs, fun ha => ?_, fun ha => ?_⟩, ?_, fun ks hks => ?_⟩
      · simp only at ha hza
        rw [ha] at hza
        cases z <;> simp [isAggV] at hza
        exact ⟨_, rfl⟩
      · simp only at ha hza
        rw [ha] at hza
        cases z <;> simp [isAggV] at hza <;> rfl
      · unfold kindOf at hk
        have hP : (ctxOf P good pure ext).P = P := rfl
        split at hk <;> simp only [Option.some.injEq, reduceCtorEq] at hk
        all_goals (rename_i hu; subst hk; simp only [KOk, hP])
        · exact ⟨hu, by simpa using hkk⟩
        · exact ⟨hu, by simpa using hkk⟩
        · exact ⟨hu, by simpa using hkk⟩
        · exact ⟨hu, by simpa using hkk⟩
        · exact ⟨hu, by simpa using hkk⟩
        · exact ⟨⟨_, hu⟩, by simpa using hkk⟩
        · simp only [Bool.and_eq_true, beq_iff_eq] at hkk
          obtain ⟨te, _, h2⟩ := hTT _ hkk.2
          exact ⟨hu, hkk.1, te, h2⟩
        · simp only [Bool.and_eq_true] at hkk
          obtain ⟨te, h1, h2⟩ := hTT _ hkk.1
          rw [h1] at hkk
          simp only [Bool.and_eq_true, bne_iff_ne, ne_eq, beq_iff_eq] at hkk
          exact ⟨hu, te, h2, hkk.2.1, hkk.2.2⟩
        · refine ⟨_, hu, rfl, fun f hf => ?_⟩
          simp only [List.all_eq_true] at hkk
          have := hkk (f.type, f.offset) (List.mem_map.mpr ⟨f, hf, rfl⟩)
          simp only [Bool.and_eq_true] at this
          obtain ⟨tf, h1, h2⟩ := hTT _ this.1
          rw [h1] at this
          simp only [Bool.and_eq_true, bne_iff_ne, ne_eq, decide_eq_true_eq] at this
          exact ⟨tf, h2, this.2.1, this.2.2⟩
        · exact ⟨⟨_, _, _, hu⟩, by simpa using hkk⟩
        · exact ⟨⟨_, hu⟩, by simpa using hkk⟩
      · simp only at hks
        split at hks
        · cases hks
        · rename_i hne
          exact ⟨hks, by show P.eqGuardType P.depth t = false; simpa using hne⟩
    · cases hti'
  · cases hti'
theorem fiOk_of {P : Program} {good : List TypeId} {pure : FuncId → Bool} {ext : FuncId → Option (List AV → AHeap → Option (AV × AHeap))} {f : FuncId} {fi : FI} (h : (ctxOf P good pure ext).FT f = some fi) : FIok (ctxOf P good pure ext) f fi := by
  have h' : fiOf P pure f = some fi := h
  unfold fiOf at h'
  split at h'
  · rename_i fn hfn
    split at h'
    · cases h'
    · rename_i hne
      split at h'
      · rename_i c hc
        simp only [Option.map_eq_some_iff] at h'
        obtain ⟨b, hb, rfl⟩ := h'
        exact ⟨fn, c, hfn, hc, hb, rfl, rfl, by simpa using hne⟩
      · cases h'
  · cases h'
theorem cOk_of {P : Program} {good : List TypeId} {pure : FuncId → Bool} {ext : FuncId → Option (List AV → AHeap → Option (AV × AHeap))} (hg : good.all (tiCheck P good) = true) (hx : ExtOk (ctxOf P good pure ext)) (hmix : P.follows .mixedOrders = true) : COk (ctxOf P good pure ext) :=
  ⟨fun _ _ h => tiOk_of hg h, fun _ _ h => fiOk_of h, hx, hmix⟩
end Go.BX

namespace Go.BX
set_option linter.unusedSimpArgs false
set_option linter.unusedVariables false
variable {C : Ctx}
structure Le (cl cl' : Cl) : Prop where
  call : ∀ f args H x, cl.call f args H = some x → cl'.call f args H = some x
  round : ∀ l args H x, cl.round l args H = some x → cl'.round l args H = some x
theorem Le.refl (cl : Cl) : Le cl cl := ⟨fun _ _ _ _ h => h, fun _ _ _ _ h => h⟩
def ExLe (ex ex' : AFr → List AItem → AHeap → Option (AV × AHeap)) : Prop := ∀ fr items H x, ex fr items H = some x → ex' fr items H = some x
theorem clMk_le {ex ex' : AFr → List AItem → AHeap → Option (AV × AHeap)} (h : ExLe ex ex') : Le (clMk C ex) (clMk C ex') where
  call := fun f args H x hc => by
    simp only [clMk] at hc ⊢
    split at hc
    · rename_i g hg; (try simp only [hg]); exact hc
    · rename_i hg
      (try simp only [hg])
      split at hc
      · rename_i fi hfi; (try simp only [hfi]); exact h _ _ _ _ hc
      · cases hc
  round := fun l args H x hc => by
    simp only [clMk] at hc ⊢
    split at hc
    · rename_i L hL
      (try simp only [hL])
      split at hc
      · rename_i hlen; rw [if_pos hlen]; exact h _ _ _ _ hc
      · cases hc
    · cases hc
theorem callF_le {cl cl' : Cl} (h : Le cl cl') {f : FuncId} {args : List AV} {H : AHeap} {x : AV × AHeap} (hc : callF C cl f args H = some x) : callF C cl' f args H = some x := by
  unfold callF at hc ⊢
  split at hc
  · rename_i hp
    rw [if_pos hp]
    split at hc
    · rename_i hf
      rw [if_pos hf]
      split at hc
      · rename_i r H1 hcc; rw [h.call _ _ _ _ hcc]; exact hc
      · cases hc
    · rename_i hf
      rw [if_neg hf]
      split at hc
      · rename_i args' ha
        (try simp only [ha])
        split at hc
        · rename_i r H1 hcc; rw [h.call _ _ _ _ hcc]; exact hc
        · cases hc
      · cases hc
  · rename_i hp
    rw [if_neg hp]
    exact h.call _ _ _ _ hc
theorem callV_le {cl cl' : Cl} (h : Le cl cl') {v : AV} {args : List AV} {H : AHeap} {x : AV × AHeap} (hc : callV C cl v args H = some x) : callV C cl' v args H = some x := by
  unfold callV at hc ⊢
  split at hc
  · exact callF_le h hc
  · exact h.round _ _ _ _ hc
  · cases hc
theorem opCall_le {cl cl' : Cl} (h : Le cl cl') {T : Nat → AV} {H : AHeap} {c : Call} {x : AV × AHeap} (hc : opCall C cl T H c = some x) : opCall C cl' T H c = some x := by
  unfold opCall at hc ⊢
  split at hc
  · cases hc
  · rename_i args ha
    try simp only [ha]
    split at hc
    · exact hc
    · cases hc
    · rename_i y hy
      split at hc
      · rename_i v hv; (try simp only [hv]); exact callV_le h hc
      · cases hc
theorem opRun_le {cl cl' : Cl} (h : Le cl cl') {ir : Bool} {T : Nat → AV} {az : List ADef} {H : AHeap} {op : Op} {x : AV × List ADef × AHeap} (hc : opRun C cl ir T az H op = some x) : opRun C cl' ir T az H op = some x := by
  unfold opRun at hc ⊢
  split at hc
  · rename_i c
    split at hc
    · rename_i v H' ho; rw [opCall_le h ho]; exact hc
    · cases hc
  · exact hc
  · exact hc
theorem opRes_le {cl cl' : Cl} (h : Le cl cl') {ir : Bool} {o : AO} {T : Nat → AV} {az : List ADef} {H : AHeap} {x : AV × List ADef × AHeap} (hc : opRes C cl ir o T az H = some x) : opRes C cl' ir o T az H = some x := by
  unfold opRes at hc ⊢
  split at hc
  · exact opRun_le h hc
  · exact hc
  · cases hc
theorem runOps_le {cl cl' : Cl} (h : Le cl cl') {ir : Bool} : ∀ {aos : List AO} {T : Nat → AV} {az : List ADef} {H : AHeap} {x : (Nat → AV) × List ADef × AHeap}, runOps C cl ir aos T az H = some x → runOps C cl' ir aos T az H = some x := by
  intro aos
  induction aos with
  | nil => intro T az H x hc; exact hc
  | cons o aos ih =>
    intro T az H x hc
    simp only [runOps] at hc ⊢
    split at hc
    · rename_i v ds' H1 hr; rw [opRes_le h hr]; exact ih hc
    · cases hc
theorem dynA_le {cl cl' : Cl} (h : Le cl cl') {ir : Bool} : ∀ {aos : List AO} {chk : List (List Nat)} {T : Nat → AV} {az : List ADef} {H : AHeap}, dynA C cl ir aos chk T az H = true → dynA C cl' ir aos chk T az H = true := by
  intro aos
  induction aos with
  | nil => intro chk T az H hc; cases chk <;> rfl
  | cons o aos ih =>
    intro chk T az H hc
    cases chk with
    | nil => rfl
    | cons c chk =>
      simp only [dynA, Bool.and_eq_true] at hc ⊢
      refine ⟨hc.1, ?_⟩
      have h2 := hc.2
      split at h2
      · rename_i v ds' H1 hr; rw [opRes_le h hr]; exact ih h2
      · cases h2
theorem runDefers_le {cl cl' : Cl} (h : Le cl cl') : ∀ {az : List ADef} {H x : AHeap}, runDefers C cl az H = some x → runDefers C cl' az H = some x := by
  intro az
  induction az with
  | nil => intro H x hc; exact hc
  | cons a az ih =>
    intro H x hc
    cases a with
    | collected b =>
      simp only [runDefers] at hc ⊢
      split at hc
      · rename_i hb; (try simp only [hb]); exact ih hc
      · cases hc
    | call v args =>
      cases v <;> simp only [runDefers, reduceCtorEq] at hc ⊢
      split at hc
      · cases hc
      · rename_i he
        rw [if_neg he]
        split at hc
        · rename_i r H1 hcc; rw [h.call _ _ _ _ hcc]; exact ih hc
        · cases hc
theorem leaveA_le {cl cl' : Cl} (h : Le cl cl') {fr : AFr} {jump : Option AC} {H : AHeap} {x : AV × AHeap} (hc : leaveA C cl fr jump H = some x) : leaveA C cl' fr jump H = some x := by
  unfold leaveA at hc ⊢
  split at hc
  · split at hc
    · rename_i hr
      rw [if_pos hr]
      split at hc
      · rename_i H1 hd; rw [runDefers_le h hd]; exact hc
      · cases hc
    · cases hc
  · exact hc
theorem stepA_le {ex ex' : AFr → List AItem → AHeap → Option (AV × AHeap)} (h : ExLe ex ex') : ExLe (stepA C ex) (stepA C ex') := by
  intro fr items H x hc
  have hl := clMk_le (C := C) h
  unfold stepA at hc ⊢
  split at hc
  · exact leaveA_le hl hc
  · exact h _ _ _ _ hc
  · exact h _ _ _ _ hc
  · exact h _ _ _ _ hc
  · try simp only
    split at hc
    · split at hc
      · rename_i L hL
        (try simp only [hL])
        split at hc
        · rename_i hst; rw [if_pos hst]; exact h _ _ _ _ hc
        · cases hc
      · cases hc
    · cases hc
  · exact h _ _ _ _ hc
  · exact h _ _ _ _ hc
  · try simp only
    split at hc
    · rename_i T' ds' H1 hr
      rw [runOps_le hl hr]
      split at hc
      · rename_i hd; simp only; rw [if_pos (dynA_le hl hd)]; exact h _ _ _ _ hc
      · cases hc
    · cases hc
  · exact h _ _ _ _ hc
  · try simp only
    split at hc
    · rename_i t ht; (try simp only [ht]); exact h _ _ _ _ hc
    · cases hc
  · exact h _ _ _ _ hc
  · exact h _ _ _ _ hc
  · exact h _ _ _ _ hc
  · try simp only
    split at hc
    · rename_i k' hk; (try simp only [hk]); exact h _ _ _ _ hc
    · rename_i hk; (try simp only [hk]); exact leaveA_le hl hc
  · try simp only
    split at hc
    · rename_i k' hk; (try simp only [hk]); exact h _ _ _ _ hc
    · rename_i hk; (try simp only [hk]); exact leaveA_le hl hc
  · exact leaveA_le hl hc
  · cases hc
  · try simp only
    split at hc
    · rename_i g first caps l mark H2 hev hel
      (try simp only [hev, hel])
      split at hc
      · cases hc
      · rename_i rv H3 hcall
        rw [callF_le hl hcall]
        try simp only
        split at hc
        · rename_i L hL
          (try simp only [hL])
          split at hc
          · cases hc
          · rename_i hcond; rw [if_neg hcond]; exact h _ _ _ _ hc
        · cases hc
    · cases hc
theorem exec_le_succ : ∀ n, ExLe (exec C n) (exec C (n + 1))
  | 0 => fun fr items H x h => by simp [exec] at h
  | n + 1 => stepA_le (exec_le_succ n)
theorem exec_le {n m : Nat} (h : n ≤ m) : ExLe (exec C n) (exec C m) := by
  induction m with
  | zero => have : n = 0 := by omega
            subst this; exact fun _ _ _ _ h => h
  | succ m ih =>
    by_cases e : n = m + 1
    · subst e; exact fun _ _ _ _ h => h
    · exact fun fr items H x hx => exec_le_succ m _ _ _ _ (ih (by omega) fr items H x hx)
theorem cl_le {n m : Nat} (h : n ≤ m) : Le (clMk C (exec C n)) (clMk C (exec C m)) := clMk_le (exec_le h)
end Go.BX

namespace Go.BX
set_option linter.unusedSimpArgs false
set_option linter.unusedVariables false
variable {C : Ctx} {fn : FuncId} {T : Nat → AV} {ds : List ADef} {ro : Option Nat} {H : AHeap} {Q : AV → AHeap → Prop} {k : List AItem}
def Run (C : Ctx) (fn : FuncId) (T : Nat → AV) (ds : List ADef) (ro : Option Nat) (items : List AItem) (H : AHeap) (Q : AV → AHeap → Prop) : Prop :=
  ∃ n r H', exec C n { fn := fn, T := T, defers := ds, round := ro } items H = some (r, H') ∧ Q r H'
abbrev cln (C : Ctx) (n : Nat) : Cl := clMk C (exec C n)
def thenRun (C : Ctx) (fn : FuncId) (ro : Option Nat) (k : List AItem) (n : Nat) : Option ((Nat → AV) × List ADef × AHeap) → Option (AV × AHeap)
  | some (T, ds, H) => exec C n { fn := fn, T := T, defers := ds, round := ro } k H
  | none => none
def RunOps (C : Ctx) (fn : FuncId) (T : Nat → AV) (ds : List ADef) (ro : Option Nat) (os : List AO) (k : List AItem) (H : AHeap) (Q : AV → AHeap → Prop) : Prop :=
  ∃ n r H', thenRun C fn ro k n (runOps C (cln C n) ro.isSome os T ds H) = some (r, H') ∧ Q r H'
def thenOps (C : Ctx) (fn : FuncId) (ro : Option Nat) (T : Nat → AV) (dst : Option Nat) (os : List AO) (k : List AItem) (n : Nat) : Option (AV × List ADef × AHeap) → Option (AV × AHeap)
  | some (v, ds, H) => thenRun C fn ro k n (runOps C (cln C n) ro.isSome os (putA T dst v) ds H)
  | none => none
def RunOp (C : Ctx) (fn : FuncId) (T : Nat → AV) (ds : List ADef) (ro : Option Nat) (op : Op) (dst : Option Nat) (os : List AO) (k : List AItem) (H : AHeap) (Q : AV → AHeap → Prop) : Prop :=
  ∃ n r H', thenOps C fn ro T dst os k n (opRun C (cln C n) ro.isSome T ds H op) = some (r, H') ∧ Q r H'
def withDs (ds : List ADef) : Option (AV × AHeap) → Option (AV × List ADef × AHeap)
  | some (v, H) => some (v, ds, H)
  | none => none
def RunCall (C : Ctx) (fn : FuncId) (T : Nat → AV) (ds : List ADef) (ro : Option Nat) (f : FuncId) (args : List AV) (dst : Option Nat) (os : List AO) (k : List AItem) (H : AHeap) (Q : AV → AHeap → Prop) : Prop :=
  ∃ n r H', thenOps C fn ro T dst os k n (withDs ds (callF C (cln C n) f args H)) = some (r, H') ∧ Q r H'
theorem thenRun_le {n m : Nat} (h : n ≤ m) {z : Option ((Nat → AV) × List ADef × AHeap)} {x : AV × AHeap} (hz : thenRun C fn ro k n z = some x) : thenRun C fn ro k m z = some x := by
  cases z with
  | none => cases hz
  | some z => exact exec_le h _ _ _ _ hz
theorem thenRun_ops_le {n m : Nat} (h : n ≤ m) {os : List AO} {x : AV × AHeap} (hz : thenRun C fn ro k n (runOps C (cln C n) ro.isSome os T ds H) = some x) : thenRun C fn ro k m (runOps C (cln C m) ro.isSome os T ds H) = some x := by
  cases hr : runOps C (cln C n) ro.isSome os T ds H with
  | none => rw [hr] at hz; cases hz
  | some y =>
    rw [hr] at hz
    rw [runOps_le (cl_le h) hr]
    exact thenRun_le h hz
theorem thenOps_le {n m : Nat} (h : n ≤ m) {dst : Option Nat} {os : List AO} {z z' : Option (AV × List ADef × AHeap)} {x : AV × AHeap} (hzz : ∀ y, z = some y → z' = some y) (hz : thenOps C fn ro T dst os k n z = some x) : thenOps C fn ro T dst os k m z' = some x := by
  cases z with
  | none => cases hz
  | some z =>
    obtain ⟨v, ds', H'⟩ := z
    rw [hzz _ rfl]
    exact thenRun_ops_le h hz
theorem run_step {items items' : List AItem} {fn' : FuncId} {T' : Nat → AV} {ds' : List ADef} {ro' : Option Nat} {H1 : AHeap} (h : ∀ ex, stepA C ex { fn := fn, T := T, defers := ds, round := ro } items H = ex { fn := fn', T := T', defers := ds', round := ro' } items' H1) :
    Run C fn T ds ro items H Q = Run C fn' T' ds' ro' items' H1 Q := by
  apply propext
  constructor
  · rintro ⟨n, r, H', he, hq⟩
    cases n with
    | zero => simp [exec] at he
    | succ n => simp only [exec, h] at he; exact ⟨n, r, H', he, hq⟩
  · rintro ⟨n, r, H', he, hq⟩
    exact ⟨n + 1, r, H', by simp only [exec, h]; exact he, hq⟩
theorem run_skip : Run C fn T ds ro (.code .skip :: k) H Q = Run C fn T ds ro k H Q := run_step fun _ => rfl
theorem run_label {l : Nat} : Run C fn T ds ro (.code (.label l) :: k) H Q = Run C fn T ds ro k H Q := run_step fun _ => rfl
theorem run_inBlock {l : Nat} : Run C fn T ds ro (.inBlock l :: k) H Q = Run C fn T ds ro k H Q := run_step fun _ => rfl
theorem run_inLoop {c : AC} : Run C fn T ds ro (.inLoop c :: k) H Q = Run C fn T ds ro (.code c :: .inLoop c :: k) H Q := run_step fun _ => rfl
theorem run_seq {a b : AC} : Run C fn T ds ro (.code (.seq a b) :: k) H Q = Run C fn T ds ro (.code a :: .code b :: k) H Q := run_step fun _ => rfl
theorem run_block {l : Nat} {a : AC} : Run C fn T ds ro (.code (.block l a) :: k) H Q = Run C fn T ds ro (.code a :: .inBlock l :: k) H Q := run_step fun _ => rfl
theorem run_loop {a : AC} : Run C fn T ds ro (.code (.loop a) :: k) H Q = Run C fn T ds ro (.code a :: .inLoop a :: k) H Q := run_step fun _ => rfl
theorem run_loop' {a : AC} : Run C fn T ds ro (.code (.loop a) :: k) H Q = Run C fn T ds ro (.inLoop a :: k) H Q := run_loop.trans run_inLoop.symm
theorem run_scope {a : AC} : Run C fn T ds ro (.code (.scope a) :: k) H Q = Run C fn T ds ro (.code a :: .inScope a :: k) H Q := run_step fun _ => rfl
theorem run_cond {c : Operand} {a b : AC} {t : Bool} (h : ev T c = some (.bool t)) : Run C fn T ds ro (.code (.cond c a b) :: k) H Q = if t = true then Run C fn T ds ro (.code a :: k) H Q else Run C fn T ds ro (.code b :: k) H Q := by
  rw [run_step (fn' := fn) (T' := T) (ds' := ds) (ro' := ro) (H1 := H) (items' := .code (if t then a else b) :: k) (fun ex => by simp only [stepA, h])]
  cases t <;> rfl
theorem run_exit {id : Nat} {k' : List AItem} (h : exitA id k = some k') : Run C fn T ds ro (.code (.exit id) :: k) H Q = Run C fn T ds ro k' H Q := run_step fun ex => by simp only [stepA, h]
theorem run_goto {id : Nat} {k' : List AItem} (h : gotoA id k = some k') : Run C fn T ds ro (.code (.goto id) :: k) H Q = Run C fn T ds ro k' H Q := run_step fun ex => by simp only [stepA, h]
def RunExit (C : Ctx) (fn : FuncId) (T : Nat → AV) (ds : List ADef) (ro : Option Nat) (id : Nat) (all k : List AItem) (H : AHeap) (Q : AV → AHeap → Prop) : Prop :=
  match exitA id k with
  | some k' => Run C fn T ds ro k' H Q
  | none => Run C fn T ds ro (.code (.exit id) :: all) H Q
theorem run_exit_start {id : Nat} : Run C fn T ds ro (.code (.exit id) :: k) H Q = RunExit C fn T ds ro id k k H Q := by
  unfold RunExit
  split
  · rename_i k' h; exact run_exit h
  · rfl
theorem exit_here {id : Nat} {all : List AItem} : RunExit C fn T ds ro id all (.inBlock id :: k) H Q = Run C fn T ds ro k H Q := by
  unfold RunExit
  simp [exitA]
theorem exit_code {id : Nat} {c : AC} {all : List AItem} : RunExit C fn T ds ro id all (.code c :: k) H Q = RunExit C fn T ds ro id all k H Q := rfl
theorem exit_inLoop {id : Nat} {c : AC} {all : List AItem} : RunExit C fn T ds ro id all (.inLoop c :: k) H Q = RunExit C fn T ds ro id all k H Q := rfl
def resOf (C : Ctx) (f : FuncId) : Option (List ResultVar) := (C.FT f).map (·.results)
def bodyOf (C : Ctx) (f : FuncId) : Option AC := (C.FT f).map (·.body)
def RunRes (C : Ctx) (T : Nat → AV) (H : AHeap) (Q : AV → AHeap → Prop) : Option (List ResultVar) → Prop
  | some rs => match resultsA C T H rs with
    | some vs => Q (oneOf vs) H
    | none => False
  | none => False
theorem leave_res {n : Nat} : (∃ r H', leaveA C (cln C n) { fn := fn, T := T, defers := [], round := none } none H = some (r, H') ∧ Q r H') ↔ RunRes C T H Q (resOf C fn) := by
  simp only [leaveA, isRetA, if_true, runDefers, resOf]
  cases C.FT fn with
  | none => simp [RunRes]
  | some fi =>
    simp only [Option.map_some, RunRes]
    cases resultsA C T H fi.results with
    | none => simp
    | some vs =>
      simp only [Option.map_some, Option.some.injEq, Prod.mk.injEq]
      constructor
      · rintro ⟨r, H', ⟨rfl, rfl⟩, hq⟩; exact hq
      · intro hq; exact ⟨_, _, ⟨rfl, rfl⟩, hq⟩
theorem run_nil : Run C fn T [] none [] H Q = RunRes C T H Q (resOf C fn) := by
  rw [← leave_res (n := 0)]
  apply propext
  constructor
  · rintro ⟨n, r, H', he, hq⟩
    cases n with
    | zero => simp [exec] at he
    | succ n => exact ⟨r, H', he, hq⟩
  · rintro ⟨r, H', he, hq⟩
    exact ⟨1, r, H', he, hq⟩
theorem run_ret : Run C fn T [] none (.code .ret :: k) H Q = RunRes C T H Q (resOf C fn) := by
  rw [← leave_res (n := 0)]
  apply propext
  constructor
  · rintro ⟨n, r, H', he, hq⟩
    cases n with
    | zero => simp [exec] at he
    | succ n => exact ⟨r, H', he, hq⟩
  · rintro ⟨r, H', he, hq⟩
    exact ⟨1, r, H', he, hq⟩
theorem run_region {os : List AO} : Run C fn T ds ro (.code (.region os []) :: k) H Q = RunOps C fn T ds ro os k H Q := by
  have e : ∀ n, exec C (n + 1) { fn := fn, T := T, defers := ds, round := ro } (.code (.region os []) :: k) H = thenRun C fn ro k n (runOps C (cln C n) ro.isSome os T ds H) := fun n => by
    simp only [exec, stepA]
    have hd : dynA C (clMk C (exec C n)) ro.isSome os [] T ds H = true := by cases os <;> rfl
    simp only [hd, if_true]
    cases runOps C (clMk C (exec C n)) ro.isSome os T ds H <;> rfl
  apply propext
  constructor
  · rintro ⟨n, r, H', he, hq⟩
    cases n with
    | zero => simp [exec] at he
    | succ n => rw [e] at he; exact ⟨n, r, H', he, hq⟩
  · rintro ⟨n, r, H', he, hq⟩
    exact ⟨n + 1, r, H', by rw [e]; exact he, hq⟩
def Dyn (C : Ctx) (ro : Option Nat) (os : List AO) (chk : List (List Nat)) (T : Nat → AV) (ds : List ADef) (H : AHeap) : Prop := ∃ n, dynA C (cln C n) ro.isSome os chk T ds H = true
theorem run_regionD {os : List AO} {chk : List (List Nat)} : Run C fn T ds ro (.code (.region os chk) :: k) H Q = (Dyn C ro os chk T ds H ∧ RunOps C fn T ds ro os k H Q) := by
  apply propext
  constructor
  · rintro ⟨n, r, H', he, hq⟩
    cases n with
    | zero => simp [exec] at he
    | succ n =>
      simp only [exec, stepA] at he
      split at he
      · rename_i T' ds' H1 hr
        split at he
        · rename_i hd
          exact ⟨⟨n, hd⟩, n, r, H', by rw [show runOps C (cln C n) ro.isSome os T ds H = _ from hr]; exact he, hq⟩
        · cases he
      · cases he
  · rintro ⟨⟨m, hd⟩, n, r, H', he, hq⟩
    refine ⟨max m n + 1, r, H', ?_, hq⟩
    have he' := thenRun_ops_le (Nat.le_max_right m n) he
    have hd' := dynA_le (cl_le (Nat.le_max_left m n)) hd
    simp only [exec, stepA]
    split
    · rename_i T' ds' H1 hr
      rw [show runOps C (cln C (max m n)) ro.isSome os T ds H = _ from hr] at he'
      rw [if_pos hd']
      exact he'
    · rename_i hr
      rw [show runOps C (cln C (max m n)) ro.isSome os T ds H = _ from hr] at he'
      cases he'
theorem ro_nil : RunOps C fn T ds ro [] k H Q = Run C fn T ds ro k H Q := rfl
theorem ro_cons {dst : Option Nat} {op : Op} {ty : TypeId} {os : List AO} : RunOps C fn T ds ro ({ dst := dst, op := op, ty := ty, guard := none } :: os) k H Q = RunOp C fn T ds ro op dst os k H Q := by
  unfold RunOps RunOp
  have e : ∀ n, thenRun C fn ro k n (runOps C (cln C n) ro.isSome ({ dst := dst, op := op, ty := ty, guard := none } :: os) T ds H) = thenOps C fn ro T dst os k n (opRun C (cln C n) ro.isSome T ds H op) := fun n => by
    simp only [runOps, opRes, wantedA]
    cases opRun C (cln C n) ro.isSome T ds H op with
    | none => rfl
    | some x => obtain ⟨v, ds', H'⟩ := x; rfl
  simp only [e]
theorem ro_guard {dst : Option Nat} {op : Op} {ty : TypeId} {j : Nat} {want t : Bool} {os : List AO} (h : T j = .bool t) :
    RunOps C fn T ds ro ({ dst := dst, op := op, ty := ty, guard := some (j, want) } :: os) k H Q = if t = want then RunOp C fn T ds ro op dst os k H Q else RunOps C fn (putA T dst .undef) ds ro os k H Q := by
  by_cases ht : t = want
  · rw [if_pos ht]
    unfold RunOps RunOp
    have e : ∀ n, thenRun C fn ro k n (runOps C (cln C n) ro.isSome ({ dst := dst, op := op, ty := ty, guard := some (j, want) } :: os) T ds H) = thenOps C fn ro T dst os k n (opRun C (cln C n) ro.isSome T ds H op) := fun n => by
      simp only [runOps, opRes, wantedA, h, ht, beq_self_eq_true]
      cases opRun C (cln C n) ro.isSome T ds H op with
      | none => rfl
      | some x => obtain ⟨v, ds', H'⟩ := x; rfl
    simp only [e]
  · rw [if_neg ht]
    unfold RunOps
    have e : ∀ n, thenRun C fn ro k n (runOps C (cln C n) ro.isSome ({ dst := dst, op := op, ty := ty, guard := some (j, want) } :: os) T ds H) = thenRun C fn ro k n (runOps C (cln C n) ro.isSome os (putA T dst .undef) ds H) := fun n => by
      have : (t == want) = false := by simpa using ht
      simp only [runOps, opRes, wantedA, h, this]
    simp only [e]
def RunV (C : Ctx) (fn : FuncId) (T : Nat → AV) (ds : List ADef) (ro : Option Nat) (dst : Option Nat) (os : List AO) (k : List AItem) (H : AHeap) (Q : AV → AHeap → Prop) : Option AV → Prop
  | some v => RunOps C fn (putA T dst v) ds ro os k H Q
  | none => False
def RunVH (C : Ctx) (fn : FuncId) (T : Nat → AV) (ds : List ADef) (ro : Option Nat) (dst : Option Nat) (os : List AO) (k : List AItem) (Q : AV → AHeap → Prop) : Option (AV × AHeap) → Prop
  | some (v, H) => RunOps C fn (putA T dst v) ds ro os k H Q
  | none => False
theorem rop_of {op : Op} {dst : Option Nat} {os : List AO} {z : Option (AV × AHeap)} (h : ∀ cl, opRun C cl ro.isSome T ds H op = withDs ds z) : RunOp C fn T ds ro op dst os k H Q = RunVH C fn T ds ro dst os k Q z := by
  unfold RunOp
  simp only [h]
  cases z with
  | none => simp [withDs, thenOps, RunVH]
  | some z => obtain ⟨v, H1⟩ := z; rfl
theorem runV_some {v : AV} {dst : Option Nat} {os : List AO} : RunV C fn T ds ro dst os k H Q (some v) = RunOps C fn (putA T dst v) ds ro os k H Q := rfl
theorem runVH_some {v : AV} {dst : Option Nat} {os : List AO} : RunVH C fn T ds ro dst os k Q (some (v, H)) = RunOps C fn (putA T dst v) ds ro os k H Q := rfl
theorem rop_inert {op : Op} {dst : Option Nat} {os : List AO} (h : inertOp op = true) : RunOp C fn T ds ro op dst os k H Q = RunV C fn T ds ro dst os k H Q (primP C T op) := by
  rw [rop_of (z := (primP C T op).map (·, H))]
  · cases primP C T op <;> rfl
  · intro cl
    unfold opRun
    split
    · simp [inertOp] at h
    · simp [inertOp] at h
    · simp only [prim, h, if_true]
      cases primP C T op <;> rfl
def primOp : Op → Bool
  | .call _ | .defer _ => false
  | _ => true
theorem rop_mem {op : Op} {dst : Option Nat} {os : List AO} (h : inertOp op = false) (h' : primOp op = true) : RunOp C fn T ds ro op dst os k H Q = RunVH C fn T ds ro dst os k Q (primM C T H op) := by
  rw [rop_of (z := primM C T H op)]
  · intro cl
    unfold opRun
    split
    · simp [primOp] at h'
    · simp [primOp] at h'
    · simp only [prim, h, Bool.false_eq_true, if_false]
      cases primM C T H _ with
      | none => rfl
      | some z => obtain ⟨v, H1⟩ := z; rfl
section
variable {dst : Option Nat} {os : List AO}
theorem rop_move {x : Operand} : RunOp C fn T ds ro (.move x) dst os k H Q = RunV C fn T ds ro dst os k H Q (ev T x) := rop_inert rfl
theorem rop_assign {x : Operand} : RunOp C fn T ds ro (.assign x) dst os k H Q = RunV C fn T ds ro dst os k H Q (ev T x) := rop_inert rfl
theorem rop_pick {c a b : Operand} : RunOp C fn T ds ro (.pick c a b) dst os k H Q = RunV C fn T ds ro dst os k H Q (primP C T (.pick c a b)) := rop_inert rfl
theorem rop_build {t : TypeId} {ps : Array (Nat × Operand)} : RunOp C fn T ds ro (.build t ps) dst os k H Q = RunV C fn T ds ro dst os k H Q (primP C T (.build t ps)) := rop_inert rfl
theorem rop_nilCheck {x : Operand} : RunOp C fn T ds ro (.nilCheck x) dst os k H Q = RunV C fn T ds ro dst os k H Q (primP C T (.nilCheck x)) := rop_inert rfl
theorem rop_binOp {op : BinOp} {t ty : TypeId} {x y : Operand} : RunOp C fn T ds ro (.binOp op t x y ty) dst os k H Q = RunV C fn T ds ro dst os k H Q (primP C T (.binOp op t x y ty)) := rop_inert rfl
theorem rop_unOp {op : UnOp} {t : TypeId} {x : Operand} : RunOp C fn T ds ro (.unOp op t x) dst os k H Q = RunV C fn T ds ro dst os k H Q (primP C T (.unOp op t x)) := rop_inert rfl
theorem rop_makeFunc {f : Fn} {a c : Array Operand} : RunOp C fn T ds ro (.makeFunc f a c) dst os k H Q = RunV C fn T ds ro dst os k H Q (primP C T (.makeFunc f a c)) := rop_inert rfl
theorem rop_slice {t : TypeId} {x : Operand} {lo hi mx : Option Operand} : RunOp C fn T ds ro (.slice t x lo hi mx) dst os k H Q = RunV C fn T ds ro dst os k H Q (primP C T (.slice t x lo hi mx)) := rop_inert rfl
theorem rop_fieldAddr {t : TypeId} {x : Operand} {f : Nat} : RunOp C fn T ds ro (.fieldAddr t x f) dst os k H Q = RunV C fn T ds ro dst os k H Q (primP C T (.fieldAddr t x f)) := rop_inert rfl
theorem rop_field {t : TypeId} {x : Operand} {f : Nat} : RunOp C fn T ds ro (.field t x f) dst os k H Q = RunV C fn T ds ro dst os k H Q (primP C T (.field t x f)) := rop_inert rfl
theorem rop_indexAddr {t : TypeId} {x y : Operand} : RunOp C fn T ds ro (.indexAddr t x y) dst os k H Q = RunV C fn T ds ro dst os k H Q (primP C T (.indexAddr t x y)) := rop_inert rfl
theorem rop_index {t : TypeId} {x y : Operand} : RunOp C fn T ds ro (.index t x y) dst os k H Q = RunV C fn T ds ro dst os k H Q (primP C T (.index t x y)) := rop_inert rfl
theorem rop_extract {x : Operand} {i : Nat} : RunOp C fn T ds ro (.extract x i) dst os k H Q = RunV C fn T ds ro dst os k H Q (primP C T (.extract x i)) := rop_inert rfl
theorem rop_alloc {t : TypeId} : RunOp C fn T ds ro (.alloc t) dst os k H Q = RunVH C fn T ds ro dst os k Q (primM C T H (.alloc t)) := rop_mem rfl rfl
theorem rop_box {t : TypeId} {x : Operand} : RunOp C fn T ds ro (.box t x) dst os k H Q = RunVH C fn T ds ro dst os k Q (primM C T H (.box t x)) := rop_mem rfl rfl
theorem rop_buildSlice {t : TypeId} {n : Nat} {ps : Array (Nat × Operand)} : RunOp C fn T ds ro (.buildSlice t n ps) dst os k H Q = RunVH C fn T ds ro dst os k Q (primM C T H (.buildSlice t n ps)) := rop_mem rfl rfl
theorem rop_load {t : TypeId} {x : Operand} : RunOp C fn T ds ro (.load t x) dst os k H Q = RunVH C fn T ds ro dst os k Q (primM C T H (.load t x)) := rop_mem rfl rfl
theorem rop_store {t : TypeId} {x y : Operand} : RunOp C fn T ds ro (.store t x y) dst os k H Q = RunVH C fn T ds ro dst os k Q (primM C T H (.store t x y)) := rop_mem rfl rfl
theorem rop_convert {s d : TypeId} {x : Operand} : RunOp C fn T ds ro (.convert s d x) dst os k H Q = RunVH C fn T ds ro dst os k Q (primM C T H (.convert s d x)) := rop_mem rfl rfl
theorem rop_makeSlice {t : TypeId} {x y : Operand} : RunOp C fn T ds ro (.makeSlice t x y) dst os k H Q = RunVH C fn T ds ro dst os k Q (primM C T H (.makeSlice t x y)) := rop_mem rfl rfl
theorem rop_range {t : TypeId} {x : Operand} : RunOp C fn T ds ro (.range t x) dst os k H Q = RunVH C fn T ds ro dst os k Q (primM C T H (.range t x)) := rop_mem rfl rfl
theorem rop_makeMap {t : TypeId} {r : Option Operand} : RunOp C fn T ds ro (.makeMap t r) dst os k H Q = RunVH C fn T ds ro dst os k Q (primM C T H (.makeMap t r)) := rop_mem rfl rfl
theorem rop_insert {t : TypeId} {x y z : Operand} : RunOp C fn T ds ro (.insert t x y z) dst os k H Q = RunVH C fn T ds ro dst os k Q (primM C T H (.insert t x y z)) := rop_mem rfl rfl
theorem rop_lookup {t : TypeId} {x y : Operand} {b : Bool} : RunOp C fn T ds ro (.lookup t x y b) dst os k H Q = RunVH C fn T ds ro dst os k Q (primM C T H (.lookup t x y b)) := rop_mem rfl rfl
theorem rop_next {x : Operand} {b : Bool} : RunOp C fn T ds ro (.next x b) dst os k H Q = RunVH C fn T ds ro dst os k Q (primM C T H (.next x b)) := rop_mem rfl rfl
theorem rop_builtin {b : Builtin} {args : Array Operand} {ts : Array TypeId} {vs : List AV} (h : evs T args.toList = some vs) : RunOp C fn T ds ro (.call { callee := .builtin b, args := args, argTypes := ts }) dst os k H Q = RunVH C fn T ds ro dst os k Q (builtinA C H b ts.toList vs) := by
  rw [rop_of (z := builtinA C H b ts.toList vs)]
  · intro cl
    simp only [opRun, opCall, h]
    cases builtinA C H b ts.toList vs with
    | none => rfl
    | some z => obtain ⟨v, H1⟩ := z; rfl
theorem rop_call {x : Operand} {args : Array Operand} {ts : Array TypeId} {vs first caps : List AV} {f : FuncId} (h : evs T args.toList = some vs) (hf : ev T x = some (.fn f first caps)) :
    RunOp C fn T ds ro (.call { callee := .value x, args := args, argTypes := ts }) dst os k H Q = RunCall C fn T ds ro f (first ++ vs ++ caps) dst os k H Q := by
  unfold RunOp RunCall
  have e : ∀ n, opRun C (cln C n) ro.isSome T ds H (.call { callee := .value x, args := args, argTypes := ts }) = withDs ds (callF C (cln C n) f (first ++ vs ++ caps) H) := fun n => by
    simp only [opRun, opCall, h, hf, callV]
    cases callF C (cln C n) f (first ++ vs ++ caps) H with
    | none => rfl
    | some z => obtain ⟨v, H1⟩ := z; rfl
  simp only [e]
theorem rop_defer {x : Operand} {args : Array Operand} {ts : Array TypeId} {vs first caps : List AV} {f : FuncId} (h : evs T args.toList = some vs) (hf : ev T x = some (.fn f first caps)) :
    RunOp C fn T ds none (.defer { callee := .value x, args := args, argTypes := ts }) dst os k H Q = RunOps C fn (putA T dst .undef) (.call (.fn f first caps) vs :: ds) none os k H Q := by
  unfold RunOp
  have e : ∀ n, opRun C (cln C n) (none : Option Nat).isSome T ds H (.defer { callee := .value x, args := args, argTypes := ts }) = some (.undef, .call (.fn f first caps) vs :: ds, H) := fun n => by
    simp only [opRun, h, hf, Option.isSome_none, Bool.false_eq_true, if_false]
  simp only [e]
  rfl
end
def PCall (C : Ctx) (f : FuncId) (args : List AV) (r : AV) : Prop := ∃ n, pcall C n f args = some r
theorem pcall_le {n m : Nat} (h : n ≤ m) {f : FuncId} {args : List AV} {r : AV} (hp : pcall C n f args = some r) : pcall C m f args = some r := by
  unfold pcall at hp ⊢
  split at hp
  · rename_i r0 H' hc
    rw [show (clOf C m).call f args AHeap.empty = some (r0, H') from (cl_le h).call _ _ _ _ hc]
    exact hp
  · cases hp
theorem call_pure {f : FuncId} {args : List AV} {r : AV} {dst : Option Nat} {os : List AO} (hp : C.pure f = true) (hf : args.all AV.flat = true) (h : PCall C f args r) :
    RunCall C fn T ds ro f args dst os k H Q = RunOps C fn (putA T dst r) ds ro os k H Q := by
  obtain ⟨n0, h0⟩ := h
  have e : ∀ n, n0 ≤ n → callF C (cln C n) f args H = some (r, H) := fun n hn => by
    have hpc := pcall_le hn h0
    unfold pcall at hpc
    unfold callF
    rw [if_pos hp, if_pos hf]
    split at hpc
    · rename_i r0 H' hc
      rw [show (cln C n).call f args AHeap.empty = some (r0, H') from hc]
      simp only [hpc, Option.map_some]
    · cases hpc
  unfold RunCall RunOps
  apply propext
  constructor
  · rintro ⟨n, r', H', he, hq⟩
    refine ⟨max n0 n, r', H', ?_, hq⟩
    have he' := thenOps_le (Nat.le_max_right n0 n) (z' := withDs ds (callF C (cln C (max n0 n)) f args H)) (fun y hy => by
      cases hc : callF C (cln C n) f args H with
      | none => rw [hc] at hy; cases hy
      | some z => rw [hc] at hy; rw [callF_le (cl_le (Nat.le_max_right n0 n)) hc]; exact hy) he
    rw [e _ (Nat.le_max_left n0 n)] at he'
    exact he'
  · rintro ⟨n, r', H', he, hq⟩
    refine ⟨max n0 n, r', H', ?_, hq⟩
    rw [e _ (Nat.le_max_left n0 n)]
    exact thenRun_ops_le (Nat.le_max_right n0 n) he
theorem call_frozen {f : FuncId} {args args' : List AV} {r : AV} {dst : Option Nat} {os : List AO} (hp : C.pure f = true) (hf : args.all AV.flat = false) (hz : mapO (freeze H) args = some args') (hs : r.solid = true) (h : PCall C f args' r) :
    RunCall C fn T ds ro f args dst os k H Q = RunOps C fn (putA T dst r) ds ro os k H Q := by
  obtain ⟨n0, h0⟩ := h
  have e : ∀ n, n0 ≤ n → callF C (cln C n) f args H = some (r, H) := fun n hn => by
    have hpc := pcall_le hn h0
    unfold pcall at hpc
    unfold callF
    rw [if_pos hp, if_neg (by simp [hf])]
    simp only [hz]
    split at hpc
    · rename_i r0 H' hc
      rw [show (cln C n).call f args' AHeap.empty = some (r0, H') from hc]
      simp only [hpc, hs, if_true]
    · cases hpc
  unfold RunCall RunOps
  apply propext
  constructor
  · rintro ⟨n, r', H', he, hq⟩
    refine ⟨max n0 n, r', H', ?_, hq⟩
    have he' := thenOps_le (Nat.le_max_right n0 n) (z' := withDs ds (callF C (cln C (max n0 n)) f args H)) (fun y hy => by
      cases hc : callF C (cln C n) f args H with
      | none => rw [hc] at hy; cases hy
      | some z => rw [hc] at hy; rw [callF_le (cl_le (Nat.le_max_right n0 n)) hc]; exact hy) he
    rw [e _ (Nat.le_max_left n0 n)] at he'
    exact he'
  · rintro ⟨n, r', H', he, hq⟩
    refine ⟨max n0 n, r', H', ?_, hq⟩
    rw [e _ (Nat.le_max_left n0 n)]
    exact thenRun_ops_le (Nat.le_max_right n0 n) he
def PMade (C : Ctx) (f : FuncId) (args : List AV) (r : AV) : Prop := ∃ n r0 H' r1, (clOf C n).call f args AHeap.empty = some (r0, H') ∧ freeze H' r0 = some r1 ∧ (if r1.solid then some r1 else madeT H' r0) = some r
theorem call_made {f : FuncId} {args args' : List AV} {r : AV} {dst : Option Nat} {os : List AO} (hp : C.pure f = true) (hf : args.all AV.flat = false) (hz : mapO (freeze H) args = some args') (h : PMade C f args' r) :
    RunCall C fn T ds ro f args dst os k H Q = RunOps C fn (putA T dst r) ds ro os k H Q := by
  obtain ⟨n0, r0, H0, r1, h0, hfz, hr⟩ := h
  have e : ∀ n, n0 ≤ n → callF C (cln C n) f args H = some (r, H) := fun n hn => by
    have hc := (cl_le hn).call _ _ _ _ h0
    unfold callF
    rw [if_pos hp, if_neg (by simp [hf])]
    simp only [hz]
    rw [show (cln C n).call f args' AHeap.empty = some (r0, H0) from hc]
    simp only [hfz]
    split
    · rename_i hs
      rw [if_pos hs] at hr
      cases hr; rfl
    · rename_i hs
      rw [if_neg hs] at hr
      rw [hr]; rfl
  unfold RunCall RunOps
  apply propext
  constructor
  · rintro ⟨n, r', H', he, hq⟩
    refine ⟨max n0 n, r', H', ?_, hq⟩
    have he' := thenOps_le (Nat.le_max_right n0 n) (z' := withDs ds (callF C (cln C (max n0 n)) f args H)) (fun y hy => by
      cases hc : callF C (cln C n) f args H with
      | none => rw [hc] at hy; cases hy
      | some z => rw [hc] at hy; rw [callF_le (cl_le (Nat.le_max_right n0 n)) hc]; exact hy) he
    rw [e _ (Nat.le_max_left n0 n)] at he'
    exact he'
  · rintro ⟨n, r', H', he, hq⟩
    refine ⟨max n0 n, r', H', ?_, hq⟩
    rw [e _ (Nat.le_max_left n0 n)]
    exact thenRun_ops_le (Nat.le_max_right n0 n) he
theorem call_body {f : FuncId} {args : List AV} {body : AC} {dst : Option Nat} {os : List AO} (hp : C.pure f = false) (hx : C.ext f = none) (hb : bodyOf C f = some body) (h : Run C f (enterT args) [] none [.code body] H (fun r H1 => RunOps C fn (putA T dst r) ds ro os k H1 Q)) :
    RunCall C fn T ds ro f args dst os k H Q := by
  obtain ⟨n, r, H1, he, m, r', H', he', hq⟩ := h
  refine ⟨max n m, r', H', ?_, hq⟩
  unfold bodyOf at hb
  simp only [Option.map_eq_some_iff] at hb
  obtain ⟨fi, hfi, rfl⟩ := hb
  have hc : callF C (cln C (max n m)) f args H = some (r, H1) := by
    unfold callF
    rw [if_neg (by simp [hp])]
    show (clMk C (exec C (max n m))).call f args H = _
    simp only [clMk, hx, hfi]
    exact exec_le (Nat.le_max_left n m) _ _ _ _ he
  rw [hc]
  exact thenRun_ops_le (Nat.le_max_right n m) he'
theorem pmade_run {f : FuncId} {args : List AV} {body : AC} {r : AV} (hx : C.ext f = none) (hb : bodyOf C f = some body) (h : Run C f (enterT args) [] none [.code body] AHeap.empty (fun r0 H' => ∃ r1, freeze H' r0 = some r1 ∧ (if r1.solid then some r1 else madeT H' r0) = some r)) : PMade C f args r := by
  obtain ⟨n, r0, H', he, r1, hq, hr⟩ := h
  unfold bodyOf at hb
  simp only [Option.map_eq_some_iff] at hb
  obtain ⟨fi, hfi, rfl⟩ := hb
  refine ⟨n, r0, H', r1, ?_, hq, hr⟩
  show (clMk C (exec C n)).call f args AHeap.empty = _
  simp only [clMk, hx, hfi]
  exact he
theorem pcall_run {f : FuncId} {args : List AV} {body : AC} {r : AV} (hx : C.ext f = none) (hb : bodyOf C f = some body) (h : Run C f (enterT args) [] none [.code body] AHeap.empty (fun r0 H' => freeze H' r0 = some r)) : PCall C f args r := by
  obtain ⟨n, r0, H', he, hq⟩ := h
  unfold bodyOf at hb
  simp only [Option.map_eq_some_iff] at hb
  obtain ⟨fi, hfi, rfl⟩ := hb
  refine ⟨n, ?_⟩
  unfold pcall
  have hc : (clOf C n).call f args AHeap.empty = some (r0, H') := by
    show (clMk C (exec C n)).call f args AHeap.empty = _
    simp only [clMk, hx, hfi]
    exact he
  rw [hc]
  exact hq
theorem Run.mono {items : List AItem} {Q' : AV → AHeap → Prop} (h : Run C fn T ds ro items H Q) (hq : ∀ r H', Q r H' → Q' r H') : Run C fn T ds ro items H Q' := by
  obtain ⟨n, r, H', he, hq'⟩ := h
  exact ⟨n, r, H', he, hq _ _ hq'⟩
section
variable {dst : Option Nat} {os : List AO} {a b : AC}
def RunCond (C : Ctx) (fn : FuncId) (T : Nat → AV) (ds : List ADef) (ro : Option Nat) (c : Operand) (v : Option AV) (a b : AC) (k : List AItem) (H : AHeap) (Q : AV → AHeap → Prop) : Prop :=
  match v with
  | some (.bool t) => if t = true then Run C fn T ds ro (.code a :: k) H Q else Run C fn T ds ro (.code b :: k) H Q
  | _ => Run C fn T ds ro (.code (.cond c a b) :: k) H Q
theorem run_condC {c : Operand} : Run C fn T ds ro (.code (.cond c a b) :: k) H Q = RunCond C fn T ds ro c (ev T c) a b k H Q := by
  unfold RunCond
  split
  · rename_i t ht; exact run_cond ht
  · rfl
theorem runCond_bool {c : Operand} {t : Bool} : RunCond C fn T ds ro c (some (.bool t)) a b k H Q = if t = true then Run C fn T ds ro (.code a :: k) H Q else Run C fn T ds ro (.code b :: k) H Q := rfl
def RunGuard (C : Ctx) (fn : FuncId) (T : Nat → AV) (ds : List ADef) (ro : Option Nat) (v : AV) (o : AO) (want : Bool) (os : List AO) (k : List AItem) (H : AHeap) (Q : AV → AHeap → Prop) : Prop :=
  match v with
  | .bool t => if t = want then RunOp C fn T ds ro o.op o.dst os k H Q else RunOps C fn (putA T o.dst .undef) ds ro os k H Q
  | .undef => RunOps C fn (putA T o.dst .undef) ds ro os k H Q
  | _ => RunOps C fn T ds ro (o :: os) k H Q
theorem ro_guardC {op : Op} {ty : TypeId} {j : Nat} {want : Bool} : RunOps C fn T ds ro ({ dst := dst, op := op, ty := ty, guard := some (j, want) } :: os) k H Q = RunGuard C fn T ds ro (T j) { dst := dst, op := op, ty := ty, guard := some (j, want) } want os k H Q := by
  unfold RunGuard
  split
  · rename_i t ht; exact ro_guard ht
  · rename_i h
    unfold RunOps
    have e : ∀ n, thenRun C fn ro k n (runOps C (cln C n) ro.isSome ({ dst := dst, op := op, ty := ty, guard := some (j, want) } :: os) T ds H) = thenRun C fn ro k n (runOps C (cln C n) ro.isSome os (putA T dst .undef) ds H) := fun n => by
      simp only [runOps, opRes, wantedA, h]
    simp only [e]
  · rfl
theorem runGuard_bool {op : Op} {ty : TypeId} {g : Option (Nat × Bool)} {want t : Bool} : RunGuard C fn T ds ro (.bool t) { dst := dst, op := op, ty := ty, guard := g } want os k H Q = if t = want then RunOp C fn T ds ro op dst os k H Q else RunOps C fn (putA T dst .undef) ds ro os k H Q := rfl
theorem runGuard_undef {op : Op} {ty : TypeId} {g : Option (Nat × Bool)} {want : Bool} : RunGuard C fn T ds ro .undef { dst := dst, op := op, ty := ty, guard := g } want os k H Q = RunOps C fn (putA T dst .undef) ds ro os k H Q := rfl
def RunB (C : Ctx) (fn : FuncId) (T : Nat → AV) (ds : List ADef) (ro : Option Nat) (b : Builtin) (ts : List TypeId) (op : Op) (dst : Option Nat) (os : List AO) (k : List AItem) (H : AHeap) (Q : AV → AHeap → Prop) : Option (List AV) → Prop
  | some vs => RunVH C fn T ds ro dst os k Q (builtinA C H b ts vs)
  | none => RunOp C fn T ds ro op dst os k H Q
theorem rop_builtinC {b : Builtin} {args : Array Operand} {ts : Array TypeId} : RunOp C fn T ds ro (.call { callee := .builtin b, args := args, argTypes := ts }) dst os k H Q = RunB C fn T ds ro b ts.toList (.call { callee := .builtin b, args := args, argTypes := ts }) dst os k H Q (evs T args.toList) := by
  cases h : evs T args.toList with
  | none => rfl
  | some vs => exact rop_builtin h
theorem runB_some {b : Builtin} {ts : List TypeId} {op : Op} {vs : List AV} : RunB C fn T ds ro b ts op dst os k H Q (some vs) = RunVH C fn T ds ro dst os k Q (builtinA C H b ts vs) := rfl
def RunA (C : Ctx) (fn : FuncId) (T : Nat → AV) (ds : List ADef) (ro : Option Nat) (op : Op) (dst : Option Nat) (os : List AO) (k : List AItem) (H : AHeap) (Q : AV → AHeap → Prop) : Option AV → Option (List AV) → Prop
  | some (.fn f first caps), some vs => RunCall C fn T ds ro f (first ++ vs ++ caps) dst os k H Q
  | _, _ => RunOp C fn T ds ro op dst os k H Q
theorem rop_callC {x : Operand} {args : Array Operand} {ts : Array TypeId} : RunOp C fn T ds ro (.call { callee := .value x, args := args, argTypes := ts }) dst os k H Q = RunA C fn T ds ro (.call { callee := .value x, args := args, argTypes := ts }) dst os k H Q (ev T x) (evs T args.toList) := by
  unfold RunA
  split
  · rename_i f first caps vs h1 h2; exact rop_call h2 h1
  · rfl
theorem runA_fn {op : Op} {f : FuncId} {first caps vs : List AV} : RunA C fn T ds ro op dst os k H Q (some (.fn f first caps)) (some vs) = RunCall C fn T ds ro f (first ++ vs ++ caps) dst os k H Q := rfl
end
section
variable {dst : Option Nat} {os : List AO} {cs : List (List Nat)}
def chkOps (T : Nat → AV) (op : Op) (c : List Nat) : Bool := c.all fun t => match adT op with
  | some t' => apartA (T t) (T t')
  | none => false
def DynOp (C : Ctx) (ro : Option Nat) (op : Op) (dst : Option Nat) (os : List AO) (cs : List (List Nat)) (T : Nat → AV) (ds : List ADef) (H : AHeap) : Prop :=
  ∃ n, (match opRun C (cln C n) ro.isSome T ds H op with
    | some (v, ds', H') => dynA C (cln C n) ro.isSome os cs (putA T dst v) ds' H'
    | none => false) = true
def DynV (C : Ctx) (ro : Option Nat) (dst : Option Nat) (os : List AO) (cs : List (List Nat)) (T : Nat → AV) (ds : List ADef) : Option (AV × AHeap) → Prop
  | some (v, H) => Dyn C ro os cs (putA T dst v) ds H
  | none => False
theorem dyn_nil : Dyn C ro os [] T ds H = True := by
  apply propext
  exact ⟨fun _ => trivial, fun _ => ⟨0, by cases os <;> rfl⟩⟩
theorem dyn_end {c : List Nat} : Dyn C ro [] (c :: cs) T ds H = True := by
  apply propext
  exact ⟨fun _ => trivial, fun _ => ⟨0, rfl⟩⟩
theorem dyn_cons {op : Op} {ty : TypeId} {c : List Nat} : Dyn C ro ({ dst := dst, op := op, ty := ty, guard := none } :: os) (c :: cs) T ds H = (chkOps T op c = true ∧ DynOp C ro op dst os cs T ds H) := by
  apply propext
  unfold Dyn DynOp chkOps
  simp only [dynA, opRes, wantedA, Bool.and_eq_true]
  constructor
  · rintro ⟨n, h1, h2⟩
    refine ⟨h1, n, ?_⟩
    cases ho : opRun C (cln C n) ro.isSome T ds H op with
    | none => rw [ho] at h2; exact h2
    | some x => obtain ⟨v, ds', H'⟩ := x; rw [ho] at h2; exact h2
  · rintro ⟨h1, n, h2⟩
    refine ⟨n, h1, ?_⟩
    cases ho : opRun C (cln C n) ro.isSome T ds H op with
    | none => rw [ho] at h2; exact h2
    | some x => obtain ⟨v, ds', H'⟩ := x; rw [ho] at h2; exact h2
theorem dop_of {op : Op} {z : Option (AV × AHeap)} (h : ∀ cl, opRun C cl ro.isSome T ds H op = withDs ds z) : DynOp C ro op dst os cs T ds H = DynV C ro dst os cs T ds z := by
  unfold DynOp
  simp only [h]
  cases z with
  | none => simp [withDs, DynV]
  | some z => obtain ⟨v, H1⟩ := z; rfl
theorem dop_inert {op : Op} (h : inertOp op = true) : DynOp C ro op dst os cs T ds H = DynV C ro dst os cs T ds ((primP C T op).map (·, H)) := by
  refine dop_of fun cl => ?_
  unfold opRun
  split
  · simp [inertOp] at h
  · simp [inertOp] at h
  · simp only [prim, h, if_true]
    cases primP C T op <;> rfl
theorem dop_mem {op : Op} (h : inertOp op = false) (h' : primOp op = true) : DynOp C ro op dst os cs T ds H = DynV C ro dst os cs T ds (primM C T H op) := by
  refine dop_of fun cl => ?_
  unfold opRun
  split
  · simp [primOp] at h'
  · simp [primOp] at h'
  · simp only [prim, h, Bool.false_eq_true, if_false]
    cases primM C T H _ with
    | none => rfl
    | some z => obtain ⟨v, H1⟩ := z; rfl
theorem dop_move {x : Operand} : DynOp C ro (.move x) dst os cs T ds H = DynV C ro dst os cs T ds ((primP C T (.move x)).map (·, H)) := dop_inert rfl
theorem dop_assign {x : Operand} : DynOp C ro (.assign x) dst os cs T ds H = DynV C ro dst os cs T ds ((primP C T (.assign x)).map (·, H)) := dop_inert rfl
theorem dop_build {t : TypeId} {ps : Array (Nat × Operand)} : DynOp C ro (.build t ps) dst os cs T ds H = DynV C ro dst os cs T ds ((primP C T (.build t ps)).map (·, H)) := dop_inert rfl
theorem dop_nilCheck {x : Operand} : DynOp C ro (.nilCheck x) dst os cs T ds H = DynV C ro dst os cs T ds ((primP C T (.nilCheck x)).map (·, H)) := dop_inert rfl
theorem dop_fieldAddr {t : TypeId} {x : Operand} {f : Nat} : DynOp C ro (.fieldAddr t x f) dst os cs T ds H = DynV C ro dst os cs T ds ((primP C T (.fieldAddr t x f)).map (·, H)) := dop_inert rfl
theorem dop_field {t : TypeId} {x : Operand} {f : Nat} : DynOp C ro (.field t x f) dst os cs T ds H = DynV C ro dst os cs T ds ((primP C T (.field t x f)).map (·, H)) := dop_inert rfl
theorem dop_indexAddr {t : TypeId} {x y : Operand} : DynOp C ro (.indexAddr t x y) dst os cs T ds H = DynV C ro dst os cs T ds ((primP C T (.indexAddr t x y)).map (·, H)) := dop_inert rfl
theorem dop_binOp {o : BinOp} {t : TypeId} {x y : Operand} {ty : TypeId} : DynOp C ro (.binOp o t x y ty) dst os cs T ds H = DynV C ro dst os cs T ds ((primP C T (.binOp o t x y ty)).map (·, H)) := dop_inert rfl
theorem dop_extract {x : Operand} {i : Nat} : DynOp C ro (.extract x i) dst os cs T ds H = DynV C ro dst os cs T ds ((primP C T (.extract x i)).map (·, H)) := dop_inert rfl
theorem dop_load {t : TypeId} {x : Operand} : DynOp C ro (.load t x) dst os cs T ds H = DynV C ro dst os cs T ds (primM C T H (.load t x)) := dop_mem rfl rfl
theorem dop_store {t : TypeId} {x y : Operand} : DynOp C ro (.store t x y) dst os cs T ds H = DynV C ro dst os cs T ds (primM C T H (.store t x y)) := dop_mem rfl rfl
theorem dop_alloc {t : TypeId} : DynOp C ro (.alloc t) dst os cs T ds H = DynV C ro dst os cs T ds (primM C T H (.alloc t)) := dop_mem rfl rfl
theorem dop_box {t : TypeId} {x : Operand} : DynOp C ro (.box t x) dst os cs T ds H = DynV C ro dst os cs T ds (primM C T H (.box t x)) := dop_mem rfl rfl
theorem dop_buildSlice {t : TypeId} {n : Nat} {ps : Array (Nat × Operand)} : DynOp C ro (.buildSlice t n ps) dst os cs T ds H = DynV C ro dst os cs T ds (primM C T H (.buildSlice t n ps)) := dop_mem rfl rfl
theorem dynV_some {v : AV} : DynV C ro dst os cs T ds (some (v, H)) = Dyn C ro os cs (putA T dst v) ds H := rfl
theorem chk_nil {op : Op} : chkOps T op [] = true := rfl
theorem chk_cons {op : Op} {t : Nat} {c : List Nat} : chkOps T op (t :: c) = ((match adT op with
  | some t' => apartA (T t) (T t')
  | none => false) && chkOps T op c) := rfl
theorem apart_ptr {b b' k k' i i' j j' : Nat} : apartA (.ptr b k i j) (.ptr b' k' i' j') = (b != b') := rfl
end
end Go.BX

namespace Go.BX
section
variable (C : Ctx) (f : FuncId)
abbrev SeqR (c a b : AC) : Prop := ∀ {T : Nat → AV} {ds : List ADef} {ro : Option Nat} {k : List AItem} {H : AHeap} {Q : AV → AHeap → Prop}, Run C f T ds ro (.code c :: k) H Q = Run C f T ds ro (.code a :: .code b :: k) H Q
abbrev SkipR (c : AC) : Prop := ∀ {T : Nat → AV} {ds : List ADef} {ro : Option Nat} {k : List AItem} {H : AHeap} {Q : AV → AHeap → Prop}, Run C f T ds ro (.code c :: k) H Q = Run C f T ds ro k H Q
abbrev RegR (c : AC) (o : List AO) : Prop := ∀ {T : Nat → AV} {ds : List ADef} {ro : Option Nat} {k : List AItem} {H : AHeap} {Q : AV → AHeap → Prop}, Run C f T ds ro (.code c :: k) H Q = RunOps C f T ds ro o k H Q
abbrev RegD (c : AC) (o : List AO) (l : List (List Nat)) : Prop := ∀ {T : Nat → AV} {ds : List ADef} {ro : Option Nat} {k : List AItem} {H : AHeap} {Q : AV → AHeap → Prop}, Run C f T ds ro (.code c :: k) H Q = (Dyn C ro o l T ds H ∧ RunOps C f T ds ro o k H Q)
abbrev CondR (c : AC) (e : Operand) (a b : AC) : Prop := ∀ {T : Nat → AV} {ds : List ADef} {ro : Option Nat} {k : List AItem} {H : AHeap} {Q : AV → AHeap → Prop}, Run C f T ds ro (.code c :: k) H Q = RunCond C f T ds ro e (ev T e) a b k H Q
abbrev BlkR (c : AC) (i : Nat) (a : AC) : Prop := ∀ {T : Nat → AV} {ds : List ADef} {ro : Option Nat} {k : List AItem} {H : AHeap} {Q : AV → AHeap → Prop}, Run C f T ds ro (.code c :: k) H Q = Run C f T ds ro (.code a :: .inBlock i :: k) H Q
abbrev LoopR (c a : AC) : Prop := ∀ {T : Nat → AV} {ds : List ADef} {ro : Option Nat} {k : List AItem} {H : AHeap} {Q : AV → AHeap → Prop}, Run C f T ds ro (.code c :: k) H Q = Run C f T ds ro (.inLoop a :: k) H Q
abbrev ScopeR (c a : AC) : Prop := ∀ {T : Nat → AV} {ds : List ADef} {ro : Option Nat} {k : List AItem} {H : AHeap} {Q : AV → AHeap → Prop}, Run C f T ds ro (.code c :: k) H Q = Run C f T ds ro (.code a :: .inScope a :: k) H Q
abbrev ExitR (c : AC) (i : Nat) : Prop := ∀ {T : Nat → AV} {ds : List ADef} {ro : Option Nat} {k : List AItem} {H : AHeap} {Q : AV → AHeap → Prop}, Run C f T ds ro (.code c :: k) H Q = RunExit C f T ds ro i k k H Q
abbrev RetR (c : AC) : Prop := ∀ {T : Nat → AV} {k : List AItem} {H : AHeap} {Q : AV → AHeap → Prop}, Run C f T [] none (.code c :: k) H Q = RunRes C T H Q (resOf C f)
end
abbrev oA (d : Nat) (op : Op) (ty : TypeId) : AO := { dst := some d, op := op, ty := ty, guard := none }
abbrev oN (op : Op) (ty : TypeId) : AO := { dst := none, op := op, ty := ty, guard := none }
abbrev oG (d : Nat) (op : Op) (ty : TypeId) (j : Nat) (w : Bool) : AO := { dst := some d, op := op, ty := ty, guard := some (j, w) }
abbrev cF (f : FuncId) (a : Array Operand) (t : Array TypeId) : Op := .call { callee := .value (.func f), args := a, argTypes := t }
abbrev cV (x : Nat) (a : Array Operand) (t : Array TypeId) : Op := .call { callee := .value (.tmp x), args := a, argTypes := t }
abbrev cB (b : Builtin) (a : Array Operand) (t : Array TypeId) : Op := .call { callee := .builtin b, args := a, argTypes := t }
abbrev tm (n : Nat) : Operand := .tmp n
abbrev ci (n : Int) : Operand := .const (.int .i64 n)
end Go.BX

namespace Go.BX
set_option linter.unusedSimpArgs false
variable {C : Ctx} {H : AHeap} {T : Nat → AV}
theorem freeze_int {k : IntKind} {n : Int} : freeze H (.int k n) = some (.int k n) := rfl
theorem freeze_bool {b : Bool} : freeze H (.bool b) = some (.bool b) := rfl
theorem freeze_str {b : Bytes} : freeze H (.str b) = some (.str b) := rfl
theorem freeze_flt {n : Int} : freeze H (.flt n) = some (.flt n) := rfl
theorem freeze_cpx {n m : Int} : freeze H (.cpx n m) = some (.cpx n m) := rfl
theorem freeze_nilS : freeze H .nilS = some .nilS := rfl
theorem freeze_vec {k : Nat} {es : List (List AV)} : freeze H (.vec k es) = some (.vec k es) := rfl
theorem freeze_agg {cs : List AV} : freeze H (.agg cs) = (mapO (freeze1 H 4) cs).map .agg := rfl
theorem freeze_tuple {vs : List AV} : freeze H (.tuple vs) = (mapO (freeze2 H) vs).map .tuple := rfl
theorem freeze2_int {k : IntKind} {n : Int} : freeze2 H (.int k n) = some (.int k n) := rfl
theorem freeze2_bool {b : Bool} : freeze2 H (.bool b) = some (.bool b) := rfl
theorem freeze2_str {b : Bytes} : freeze2 H (.str b) = some (.str b) := rfl
theorem freeze2_flt {n : Int} : freeze2 H (.flt n) = some (.flt n) := rfl
theorem freeze2_cpx {n m : Int} : freeze2 H (.cpx n m) = some (.cpx n m) := rfl
theorem freeze2_nilS : freeze2 H .nilS = some .nilS := rfl
theorem freeze2_vec {k : Nat} {es : List (List AV)} : freeze2 H (.vec k es) = some (.vec k es) := rfl
theorem freeze2_agg {cs : List AV} : freeze2 H (.agg cs) = (mapO (freeze1 H 4) cs).map .agg := rfl
theorem freeze1_int {d : Nat} {k : IntKind} {n : Int} : freeze1 H d (.int k n) = some (.int k n) := by cases d <;> rfl
theorem freeze1_bool {d : Nat} {b : Bool} : freeze1 H d (.bool b) = some (.bool b) := by cases d <;> rfl
theorem freeze1_str {d : Nat} {b : Bytes} : freeze1 H d (.str b) = some (.str b) := by cases d <;> rfl
theorem freeze1_nilS {d : Nat} : freeze1 H d .nilS = some .nilS := by cases d <;> rfl
theorem freeze1_vec {d k : Nat} {es : List (List AV)} : freeze1 H d (.vec k es) = some (.vec k es) := by cases d <;> rfl
theorem mapO_nil {α β : Type} {f : α → Option β} : mapO f [] = some [] := rfl
def consO {β : Type} : Option β → Option (List β) → Option (List β)
  | some y, some ys => some (y :: ys)
  | _, _ => none
theorem mapO_cons {α β : Type} {f : α → Option β} {x : α} {xs : List α} : mapO f (x :: xs) = consO (f x) (mapO f xs) := rfl
theorem consO_some {β : Type} {y : β} {ys : List β} : consO (some y) (some ys) = some (y :: ys) := rfl
def frzE (H : AHeap) (d k : Nat) : Option (List (List AV)) → Option AV
  | some es => (mapO (mapO (freeze1 H d)) es).map (.vec k)
  | none => none
theorem freeze1_slc {d b k i n : Nat} : freeze1 H (d + 1) (.slc b k i n) = frzE H d k (elems H k (.slc b k i n)) := by
  show (match elems H k (.slc b k i n) with | some es => (mapO (mapO (freeze1 H d)) es).map (AV.vec k) | none => none) = _
  cases elems H k (.slc b k i n) <;> rfl
theorem freeze_slc {b k i n : Nat} : freeze H (.slc b k i n) = frzE H 3 k (elems H k (.slc b k i n)) := freeze1_slc
theorem freeze2_slc {b k i n : Nat} : freeze2 H (.slc b k i n) = frzE H 3 k (elems H k (.slc b k i n)) := freeze1_slc
theorem frzE_some {d k : Nat} {es : List (List AV)} : frzE H d k (some es) = (mapO (mapO (freeze1 H d)) es).map (.vec k) := rfl
theorem freeze1_emp {d : Nat} : freeze1 H d .emp = some .emp := by cases d <;> rfl
theorem freeze_emp : freeze H .emp = some .emp := rfl
theorem freeze2_emp : freeze2 H .emp = some .emp := rfl
theorem fltOf_0 : fltOf 0 = some 0 := by decide +kernel
theorem freeze1_flat {d : Nat} {v : AV} (h : v.flat1 = true) : freeze1 H d v = some v := by
  cases v <;> cases d <;> first | (simp [AV.flat1] at h; done) | rfl
theorem mapO_all {f : AV → Option AV} {p : AV → Bool} (hf : ∀ v, p v = true → f v = some v) : ∀ {l : List AV}, l.all p = true → mapO f l = some l
  | [], _ => rfl
  | x :: xs, h => by
    simp only [List.all_cons, Bool.and_eq_true] at h
    rw [mapO_cons, hf x h.1, mapO_all hf h.2]; rfl
theorem freeze2_flat {v : AV} (h : v.flat2 = true) : freeze2 H v = some v := by
  cases v with
  | agg cs => rw [freeze2_agg, mapO_all (p := AV.flat1) (fun v hv => freeze1_flat hv) h]; rfl
  | fn f first caps => show (if _ then _ else _) = _; rw [if_pos h]
  | _ => refine Eq.trans (b := freeze1 H 4 _) rfl (freeze1_flat h)
theorem freeze_flat {v : AV} (h : v.flat = true) : freeze H v = some v := by
  cases v with
  | tuple vs => rw [freeze_tuple, mapO_all (p := AV.flat2) (fun v hv => freeze2_flat hv) h]; rfl
  | _ => refine Eq.trans (b := freeze2 H _) rfl (freeze2_flat h)
theorem call_any {fn : FuncId} {ds : List ADef} {ro : Option Nat} {k : List AItem} {Q : AV → AHeap → Prop} {f : FuncId} {args args' : List AV} {r : AV} {dst : Option Nat} {os : List AO} (hp : C.pure f = true) (hs : r.solid = true) (h : PCall C f args' r) (hz : mapO (freeze H) args = some args') :
    RunCall C fn T ds ro f args dst os k H Q = RunOps C fn (putA T dst r) ds ro os k H Q := by
  cases hf : args.all AV.flat with
  | false => exact call_frozen hp hf hz hs h
  | true =>
    rw [mapO_all (p := AV.flat) (fun v hv => freeze_flat hv) hf] at hz
    cases hz
    exact call_pure hp hf h
end Go.BX

namespace Go.BX
set_option linter.unusedVariables false
set_option linter.unusedSimpArgs false
def cmpL : Bytes → Bytes → Int
  | [], [] => 0
  | [], _ :: _ => -1
  | _ :: _, [] => 1
  | x :: xs, y :: ys => if x = y then cmpL xs ys else if x < y then -1 else 1
def idxL (c : UInt8) : Bytes → Nat → Int
  | [], _ => -1
  | x :: xs, i => if x = c then i else idxL c xs (i + 1)
theorem find_range_succ (p : Nat → Bool) (n : Nat) : (List.range (n + 1)).find? p = if p 0 then some 0 else ((List.range n).find? fun i => p (i + 1)).map (· + 1) := by
  rw [List.range_succ_eq_map, List.find?_cons]
  cases h : p 0 with
  | true => simp
  | false => simp [List.find?_map, Function.comp_def]
theorem get_bytes (s : ByteArray) (i : Nat) : s[i]! = (s.data.toList)[i]?.getD default := by
  rw [getElem!_def]
  by_cases h : i < s.size
  · have h1 : s[i]? = some s[i] := getElem?_pos s i h
    rw [h1]
    have h2 : i < s.data.toList.length := by simpa using h
    rw [List.getElem?_eq_getElem h2]
    rfl
  · have h1 : s[i]? = none := getElem?_neg s i h
    rw [h1, List.getElem?_eq_none (by simpa using h)]
    rfl
def cmpR (a b : Bytes) : Int :=
  match (List.range (min a.length b.length)).find? fun i => a[i]?.getD default != b[i]?.getD default with
  | some i => if a[i]?.getD default < b[i]?.getD default then -1 else 1
  | none => if a.length < b.length then -1 else if a.length > b.length then 1 else 0
theorem cmpR_eq : ∀ a b, cmpR a b = cmpL a b
  | [], [] => rfl
  | [], y :: ys => by simp [cmpR, cmpL]
  | x :: xs, [] => by simp [cmpR, cmpL]
  | x :: xs, y :: ys => by
    have ih := cmpR_eq xs ys
    unfold cmpR cmpL
    simp only [List.length_cons, Nat.succ_min_succ, find_range_succ, List.getElem?_cons_zero, Option.getD_some, List.getElem?_cons_succ]
    by_cases hxy : x = y
    · subst hxy
      simp only [bne_self_eq_false, Bool.false_eq_true, if_false, if_true]
      rw [← ih]
      unfold cmpR
      cases (List.range (min xs.length ys.length)).find? fun i => xs[i]?.getD default != ys[i]?.getD default with
      | none => simp
      | some i => simp
    · have : (x != y) = true := by simpa using hxy
      simp only [this, if_true, hxy, if_false, List.getElem?_cons_zero, Option.getD_some]
theorem cmp_ext (a b : ByteArray) : Extern.BytealgCompare.cmp a b = cmpL a.data.toList b.data.toList := by
  rw [← cmpR_eq]
  unfold Extern.BytealgCompare.cmp cmpR
  simp only [get_bytes]
  have h1 : a.data.toList.length = a.size := rfl
  have h2 : b.data.toList.length = b.size := rfl
  rw [h1, h2]
  cases (List.range (min a.size b.size)).find? fun i => a.data.toList[i]?.getD default != b.data.toList[i]?.getD default <;> rfl
theorem idx_aux (c : UInt8) : ∀ (s : Bytes) (k : Nat), (match (List.range s.length).find? fun i => s[i]?.getD default == c with | some i => ((i + k : Nat) : Int) | none => -1) = idxL c s k
  | [], k => rfl
  | x :: xs, k => by
    have ih := idx_aux c xs (k + 1)
    unfold idxL
    simp only [List.length_cons, find_range_succ, List.getElem?_cons_zero, Option.getD_some, List.getElem?_cons_succ]
    by_cases h : x = c
    · simp [h]
    · have : (x == c) = false := by simpa using h
      simp only [this, Bool.false_eq_true, if_false, h]
      rw [← ih]
      cases (List.range xs.length).find? fun i => xs[i]?.getD default == c with
      | none => simp
      | some i => simp only [Option.map_some]; congr 1; omega
theorem idx_ext (s : ByteArray) (c : UInt8) : firstIdx s c = idxL c s.data.toList 0 := by
  rw [← idx_aux]
  unfold firstIdx
  simp only [get_bytes, Nat.add_zero]
  have h1 : s.data.toList.length = s.size := rfl
  rw [h1]
  cases (List.range s.size).find? fun i => s.data.toList[i]?.getD default == c <;> rfl
def cmpG : List AV → AHeap → Option (AV × AHeap)
  | [.str a, .str b], H => some (.int .i64 (cmpL a b), H)
  | _, _ => none
def idxG : List AV → AHeap → Option (AV × AHeap)
  | [.str s, .int .u8 c], H => some (.int .i64 (idxL c.toNat.toUInt8 s 0), H)
  | _, _ => none
variable {C : Ctx} {w : World} {U : Nat → Prop} {ι : Nat → Option Nat}
structure IsExt (P : Program) (f : FuncId) (fn : Func) (e : Array Value → Sem Value) : Prop where
  hf : P.funcs[f]? = some fn
  hname : (fn.name == "runtime.NumGoroutine") = false
  hb : fn.body.isNone = true
  hn : Extern.findNext fn = none
  he : Extern.find fn = some e
theorem inv_ext {f : FuncId} {fn : Func} {e : Array Value → Sem Value} (h : IsExt C.P f fn e) {H : AHeap} (hH : HRel C w U ι H) {vs : List Value} {v : Value} {r : AV} (hr : (e vs.toArray).run C.P w = .ok v w) (hv : VRel w U ι r v) :
    InvN C.P f vs w (Post C w U ι H H r) := by
  refine .inl ⟨v, w, ?_, U, ι, ⟨Ext.refl _ _ _, hH, hv⟩, Fresh.refl _ _⟩
  rw [run_callFunc_extern h.hf h.hname h.hb h.hn h.he, hr]
  rfl
theorem cmp_sound {f : FuncId} {fn : Func} (h : IsExt C.P f fn Extern.BytealgCompare.compare) {args : List AV} {H H' : AHeap} {r : AV} (hg : cmpG args H = some (r, H')) (hH : HRel C w U ι H) {vs : List Value} (ha : LsRel w U ι args vs) :
    InvN C.P f vs w (Post C w U ι H H' r) := by
  unfold cmpG at hg
  split at hg
  · rename_i H0 a b
    cases hg
    obtain ⟨v1, vs1, rfl, h1, ha1⟩ := ha.cases_cons
    obtain ⟨v2, vs2, rfl, h2, ha2⟩ := ha1.cases_cons
    obtain rfl := ha2.cases_nil
    cases h1 with
    | str _ s1 e1 =>
      cases h2 with
      | str _ s2 e2 =>
        refine inv_ext h hH (v := .int .i64 (cmpL a b)) ?_ (.int _ _)
        show Sem.run C.P (do pure (goInt (Extern.BytealgCompare.cmp (← Extern.Bytes.bytesOf (.string s1)) (← Extern.Bytes.bytesOf (.string s2))))) w = _
        simp only [Extern.Bytes.bytesOf, Sem.run_bind, Sem.run_pure, Result.andThen, cmp_ext, e1, e2, goInt]
  · cases hg
theorem idx_sound {f : FuncId} {fn : Func} (h : IsExt C.P f fn Extern.BytealgIndexByte.indexByte) {args : List AV} {H H' : AHeap} {r : AV} (hg : idxG args H = some (r, H')) (hH : HRel C w U ι H) {vs : List Value} (ha : LsRel w U ι args vs) :
    InvN C.P f vs w (Post C w U ι H H' r) := by
  unfold idxG at hg
  split at hg
  · rename_i H0 a c
    cases hg
    obtain ⟨v1, vs1, rfl, h1, ha1⟩ := ha.cases_cons
    obtain ⟨v2, vs2, rfl, h2, ha2⟩ := ha1.cases_cons
    obtain rfl := ha2.cases_nil
    cases h1 with
    | str _ s1 e1 =>
      cases h2 with
      | int =>
        refine inv_ext h hH (v := .int .i64 (idxL c.toNat.toUInt8 a 0)) ?_ (.int _ _)
        have := run_indexByte_string (P := C.P) s1 c w
        rw [idx_ext, e1] at this
        exact this
  · cases hg
theorem cmpG_mono {args : List AV} {H H' : AHeap} {r : AV} (h : cmpG args H = some (r, H')) : H.next ≤ H'.next := by
  unfold cmpG at h
  split at h <;> cases h
  exact Nat.le_refl _
theorem idxG_mono {args : List AV} {H H' : AHeap} {r : AV} (h : idxG args H = some (r, H')) : H.next ≤ H'.next := by
  unfold idxG at h
  split at h <;> cases h
  exact Nat.le_refl _
theorem pcall_ext {f : FuncId} {g : List AV → AHeap → Option (AV × AHeap)} (hx : C.ext f = some g) {args : List AV} {r r0 : AV} {H' : AHeap} (h : g args AHeap.empty = some (r0, H')) (hz : freeze H' r0 = some r) : PCall C f args r := by
  refine ⟨0, ?_⟩
  unfold pcall
  have : (clOf C 0).call f args AHeap.empty = some (r0, H') := by
    show (match C.ext f with | some g => g args AHeap.empty | none => _) = _
    rw [hx]; exact h
  rw [this]
  exact hz
end Go.BX

namespace Go.BX
set_option linter.unusedSimpArgs false
set_option linter.unusedVariables false
variable {C : Ctx} {fn : FuncId} {T : Nat → AV} {ds : List ADef} {ro : Option Nat} {H : AHeap} {Q : AV → AHeap → Prop} {k : List AItem}
def RunDefs (C : Ctx) : List ADef → AHeap → (AHeap → Prop) → Prop
  | [], H, K => K H
  | .collected b :: ds, H, K => H.at_ b = .dfr ∧ RunDefs C ds (H.set b .dead) K
  | .call (.fn f first caps) args :: ds, H, K => C.ext f = none ∧ ∃ body, bodyOf C f = some body ∧ Run C f (enterT (first ++ args ++ caps)) [] none [.code body] H (fun _ H1 => RunDefs C ds H1 K)
  | .call _ _ :: _, _, _ => False
theorem runDefs_ok : ∀ (ds : List ADef) (H : AHeap) (K : AHeap → Prop), RunDefs C ds H K → ∃ n H', (∀ m, n ≤ m → runDefers C (cln C m) ds H = some H') ∧ K H'
  | [], H, K, h => ⟨0, H, fun m _ => by simp [runDefers], h⟩
  | .collected b :: ds, H, K, h => by
    obtain ⟨h1, h2⟩ := h
    obtain ⟨n, H', h3, h4⟩ := runDefs_ok ds _ K h2
    exact ⟨n, H', fun m hm => by simp only [runDefers, h1]; exact h3 m hm, h4⟩
  | .call v args :: ds, H, K, h => by
    cases v with
    | fn f first caps =>
      obtain ⟨hx, body, hb, n, r, H1, he, hr⟩ := h
      obtain ⟨m, H', h3, h4⟩ := runDefs_ok ds _ K hr
      unfold bodyOf at hb
      simp only [Option.map_eq_some_iff] at hb
      obtain ⟨fi, hfi, rfl⟩ := hb
      refine ⟨max n m, H', fun p hp => ?_, h4⟩
      have hc : (cln C p).call f (first ++ args ++ caps) H = some (r, H1) := by
        show (clMk C (exec C p)).call f _ _ = _
        simp only [clMk, hx, hfi]
        exact exec_le (by omega) _ _ _ _ he
      simp only [runDefers, hx, Option.isSome_none, Bool.false_eq_true, if_false]
      rw [hc]
      exact h3 p (by omega)
    | _ => exact h.elim
theorem leave_defs {items : List AItem} (hi : items = [] ∨ ∃ k', items = .code .ret :: k') (h : RunDefs C ds H (fun H' => RunRes C T H' Q (resOf C fn))) : Run C fn T ds none items H Q := by
  obtain ⟨n, H', hd, hr⟩ := runDefs_ok ds H _ h
  have hl : ∃ r, leaveA C (cln C n) { fn := fn, T := T, defers := ds, round := none } (if items = [] then none else some .ret) H = some (r, H') ∧ Q r H' := by
    unfold RunRes resOf at hr
    cases hf : C.FT fn with
    | none => rw [hf] at hr; exact hr.elim
    | some fi =>
      rw [hf] at hr
      simp only [Option.map_some] at hr
      cases hv : resultsA C T H' fi.results with
      | none => rw [hv] at hr; exact hr.elim
      | some vs =>
        rw [hv] at hr
        refine ⟨oneOf vs, ?_, hr⟩
        have hj : isRetA (if items = [] then none else some .ret) = true := by split <;> rfl
        simp only [leaveA, hj, if_true, hd n (Nat.le_refl _), hf, hv, Option.map_some]
  obtain ⟨r, hl, hq⟩ := hl
  refine ⟨n + 1, r, H', ?_, hq⟩
  rcases hi with rfl | ⟨k', rfl⟩
  · simp only [if_true] at hl; exact hl
  · simp only [reduceCtorEq, if_false] at hl; exact hl
end Go.BX

namespace Go.BX
set_option linter.unusedSimpArgs false
set_option linter.unusedVariables false
variable {C : Ctx} {fn : FuncId} {T : Nat → AV} {ds : List ADef} {ro : Option Nat} {H : AHeap} {Q : AV → AHeap → Prop} {k : List AItem}
def isSl (C : Ctx) (t te : TypeId) : Prop := ∃ ti, C.TT t = some ti ∧ ti.kind = .slice te
theorem app_row {t te kk by_ n g : Nat} {A : Nat → Blk} {es : List (List AV)} {row : List AV} (h1 : isSl C t te) (h2 : ∃ ti, C.TT te = some ti ∧ ti.size = kk ∧ ti.bytes = by_) (hg : A g = .cells te kk es) (hn : g ≠ n) (hm : (es.length + 1) * by_ ≤ most) (hm2 : es.length + 1 ≤ most) :
    builtinM C ⟨n + 1, upd A n (.cells te kk [row])⟩ .append [t, t] [.slc g kk 0 es.length, .slc n kk 0 1] = some (.slc (n + 1) kk 0 (es.length + 1), ⟨n + 1 + 1, upd (upd (upd A n (.cells te kk [row])) g .dead) (n + 1) (.cells te kk (es ++ [row]))⟩) := by
  obtain ⟨ti, t1, t2⟩ := h1
  obtain ⟨tj, t3, t4, t5⟩ := h2
  obtain ⟨knd, sz, byt, zr, eq⟩ := ti
  simp only at t2
  subst t2
  subst t4 t5
  have hs : source ⟨n + 1, upd A n (.cells te tj.size [row])⟩ tj.size (.slc n tj.size 0 1) = some [row] := by
    simp [source, elems]
  have ha : (upd A n (Blk.cells te tj.size [row])) g = .cells te tj.size es := by rw [upd_app, if_neg hn]; exact hg
  simp only [builtinM, t1, appendA, t3, hs, ha, true_and, Nat.le_refl, List.length_singleton, hm, hm2, and_self, if_true, List.cons_ne_self, reduceCtorEq, if_false, List.take_length, AHeap.set, AHeap.push]
theorem app_rowT {t te kk by_ n g m : Nat} {A : Nat → Blk} {es : List (List AV)} {row : List AV} (h1 : isSl C t te) (h2 : ∃ ti, C.TT te = some ti ∧ ti.size = kk ∧ ti.bytes = by_) (hg : A g = .cells te kk es) (hn : g ≠ n) (hme : m ≤ es.length) (hm : (m + 1) * by_ ≤ most) (hm2 : m + 1 ≤ most) :
    builtinM C ⟨n + 1, upd A n (.cells te kk [row])⟩ .append [t, t] [.slc g kk 0 m, .slc n kk 0 1] = some (.slc (n + 1) kk 0 (m + 1), ⟨n + 1 + 1, upd (upd (upd A n (.cells te kk [row])) g .dead) (n + 1) (.cells te kk (es.take m ++ [row]))⟩) := by
  obtain ⟨ti, t1, t2⟩ := h1
  obtain ⟨tj, t3, t4, t5⟩ := h2
  obtain ⟨knd, sz, byt, zr, eq⟩ := ti
  simp only at t2
  subst t2
  subst t4 t5
  have hs : source ⟨n + 1, upd A n (.cells te tj.size [row])⟩ tj.size (.slc n tj.size 0 1) = some [row] := by
    simp [source, elems]
  have ha : (upd A n (Blk.cells te tj.size [row])) g = .cells te tj.size es := by rw [upd_app, if_neg hn]; exact hg
  simp only [builtinM, t1, appendA, t3, hs, ha, hme, true_and, List.length_singleton, hm, hm2, and_self, if_true, reduceCtorEq, if_false, AHeap.set, AHeap.push]
theorem app_nil {t te kk by_ n : Nat} {A : Nat → Blk} {row : List AV} (h1 : isSl C t te) (h2 : ∃ ti, C.TT te = some ti ∧ ti.size = kk ∧ ti.bytes = by_) (hm : by_ ≤ most) :
    builtinM C ⟨n + 1, upd A n (.cells te kk [row])⟩ .append [t, t] [.nilS, .slc n kk 0 1] = some (.slc (n + 1) kk 0 1, ⟨n + 1 + 1, upd (upd A n (.cells te kk [row])) (n + 1) (.cells te kk [row])⟩) := by
  obtain ⟨ti, t1, t2⟩ := h1
  obtain ⟨tj, t3, t4, t5⟩ := h2
  obtain ⟨knd, sz, byt, zr, eq⟩ := ti
  simp only at t2
  subst t2
  subst t4 t5
  have hs : source ⟨n + 1, upd A n (.cells te tj.size [row])⟩ tj.size (.slc n tj.size 0 1) = some [row] := by
    simp [source, elems]
  have hm2 : 1 ≤ most := by decide
  simp only [builtinM, t1, appendA, t3, hs, List.length_singleton, Nat.one_mul, hm, hm2, and_self, if_true, reduceCtorEq, if_false, AHeap.push]
section
variable {dst : Option Nat} {os : List AO} {cs : List (List Nat)}
end
end Go.BX

namespace Go.BX
theorem enterT_app {args : List AV} {t : Nat} : enterT args t = (args[t]?).getD .undef := rfl
theorem bb : (And ((And ((And ((And ((And ((And ((And (type_of% (@ro_cons)) (type_of% (@ro_nil)))) ((And (type_of% (@ro_guardC)) (type_of% 
  (@runGuard_bool)))))) ((And ((And (type_of% (@runGuard_undef)) (type_of% (@rop_assign)))) ((And (type_of% (@rop_move)) (type_of% 
  (@rop_binOp)))))))) ((And ((And ((And (type_of% (@rop_unOp)) (type_of% (@rop_pick)))) ((And (type_of% (@rop_box)) (type_of% 
  (@rop_alloc)))))) ((And ((And (type_of% (@rop_build)) (type_of% (@rop_field)))) ((And (type_of% (@rop_fieldAddr)) (type_of% 
  (@rop_load)))))))))) ((And ((And ((And ((And (type_of% (@rop_store)) (type_of% (@rop_convert)))) ((And (type_of% (@rop_extract)) (type_of% 
  (@rop_nilCheck)))))) ((And ((And (type_of% (@rop_builtinC)) (type_of% (@rop_callC)))) ((And (type_of% (@runA_fn)) (type_of% 
  (@runB_some)))))))) ((And ((And ((And (type_of% (@runV_some)) (type_of% (@runVH_some)))) ((And (type_of% (@runCond_bool)) (type_of% 
  (@fltOf_0)))))) ((And ((And (type_of% (@upd_app)) (type_of% (@decide_true)))) ((And (type_of% (@decide_false)) ((And (type_of% 
  (@Nat.zero_add)) (type_of% (@Bool.false_eq_true)))))))))))))) ((And ((And ((And ((And ((And (type_of% (@Bool.not_true)) (type_of% 
  (@Bool.not_false)))) ((And (type_of% (@List.getElem?_cons_zero.{0})) (type_of% (@List.getElem?_cons_succ.{0})))))) ((And ((And (type_of% 
  (@List.getElem?_nil.{0})) (type_of% (@Option.getD_some.{0})))) ((And (type_of% (@Option.map_some.{0,0})) (type_of% (@freeze_int)))))))) 
  ((And ((And ((And (type_of% (@freeze_bool)) (type_of% (@freeze_str)))) ((And (type_of% (@freeze_flt)) (type_of% (@freeze_cpx)))))) ((And 
  ((And (type_of% (@freeze_agg)) (type_of% (@freeze_tuple)))) ((And (type_of% (@freeze2_int)) ((And (type_of% (@freeze2_bool)) (type_of% 
  (@freeze2_agg)))))))))))) ((And ((And ((And ((And (type_of% (@freeze2_cpx)) (type_of% (@freeze2_flt)))) ((And (type_of% (@freeze1_int)) 
  (type_of% (@freeze1_bool)))))) ((And ((And (type_of% (@freeze1_str)) (type_of% (@mapO_nil)))) ((And (type_of% (@mapO_cons)) (type_of% 
  (@consO_some)))))))) ((And ((And ((And (type_of% (@List.length_cons.{0})) (type_of% (@List.length_nil.{0})))) ((And (type_of% 
  (@List.take_succ_cons.{0})) (type_of% (@List.take_zero.{0})))))) ((And ((And (type_of% (@List.take_nil.{0})) (type_of% 
  (@List.drop_succ_cons.{0})))) ((And (type_of% (@List.drop_zero.{0})) ((And (type_of% (@List.drop_nil.{0})) (type_of% 
  (@List.cons_append.{0})))))))))))))))) ((And ((And ((And ((And ((And ((And (type_of% (@List.nil_append.{0})) (type_of% 
  (@List.append_nil.{0})))) ((And (type_of% (@List.set_cons_zero.{0})) (type_of% (@List.set_cons_succ.{0})))))) ((And ((And (type_of% 
  (@true_and)) (type_of% (@and_true)))) ((And (type_of% (@and_self)) (type_of% (@Option.bind_some.{0,0})))))))) ((And ((And ((And (type_of% 
  (@dyn_nil)) (type_of% (@dyn_end)))) ((And (type_of% (@dyn_cons)) (type_of% (@dop_move)))))) ((And ((And (type_of% (@dop_assign)) (type_of% 
  (@dop_build)))) ((And (type_of% (@dop_nilCheck)) ((And (type_of% (@dop_fieldAddr)) (type_of% (@dop_field)))))))))))) ((And ((And ((And ((And 
  (type_of% (@dop_indexAddr)) (type_of% (@dop_binOp)))) ((And (type_of% (@dop_extract)) (type_of% (@dop_load)))))) ((And ((And (type_of% 
  (@dop_store)) (type_of% (@dop_alloc)))) ((And (type_of% (@dop_box)) (type_of% (@dop_buildSlice)))))))) ((And ((And ((And (type_of% 
  (@dynV_some)) (type_of% (@chk_nil)))) ((And (type_of% (@chk_cons)) (type_of% (@apart_ptr)))))) ((And ((And (type_of% (@bne_iff_ne.{0})) 
  (type_of% (@ne_eq.{1})))) ((And (type_of% (@not_false_eq_true)) ((And (type_of% (@not_true_eq_false)) (type_of% (@Nat.le_refl)))))))))))))) 
  ((And ((And ((And ((And ((And (type_of% (@Nat.add_zero)) (type_of% (@Bool.true_and)))) ((And (type_of% (@Bool.and_true)) (type_of% 
  (@Bool.false_and)))))) ((And ((And (type_of% (@Bool.and_false)) (type_of% (@beq_self_eq_true.{0})))) ((And (type_of% 
  (@bne_self_eq_false.{0})) (type_of% (@rop_indexAddr)))))))) ((And ((And ((And (type_of% (@rop_buildSlice)) (type_of% (@rop_index)))) ((And 
  (type_of% (@rop_slice)) (type_of% (@rop_makeSlice)))))) ((And ((And (type_of% (@rop_makeFunc)) (type_of% (@rop_makeMap)))) ((And (type_of% 
  (@rop_insert)) ((And (type_of% (@rop_lookup)) (type_of% (@List.flatten_cons.{0})))))))))))) ((And ((And ((And ((And (type_of% 
  (@List.flatten_nil.{0})) (type_of% (@freeze_slc)))) ((And (type_of% (@freeze2_slc)) (type_of% (@freeze1_slc)))))) ((And ((And (type_of% 
  (@frzE_some)) (type_of% (@freeze1_emp)))) ((And (type_of% (@freeze_emp)) (type_of% (@freeze2_emp)))))))) ((And ((And ((And (type_of% 
  (@freeze_nilS)) (type_of% (@freeze2_nilS)))) ((And (type_of% (@freeze1_nilS)) (type_of% (@freeze_vec)))))) ((And ((And (type_of% 
  (@freeze2_vec)) (type_of% (@freeze1_vec)))) ((And (type_of% (@Int.toNat_zero)) ((And (type_of% (@Int.toNat_one)) (type_of% 
  (@Int.cast_ofNat_Int))))))))))))))))) :=
  (And.intro (And.intro (And.intro (And.intro (And.intro (And.intro (And.intro (@ro_cons) (@ro_nil)) (And.intro (@ro_guardC) 
  (@runGuard_bool))) (And.intro (And.intro (@runGuard_undef) (@rop_assign)) (And.intro (@rop_move) (@rop_binOp)))) (And.intro (And.intro 
  (And.intro (@rop_unOp) (@rop_pick)) (And.intro (@rop_box) (@rop_alloc))) (And.intro (And.intro (@rop_build) (@rop_field)) (And.intro 
  (@rop_fieldAddr) (@rop_load))))) (And.intro (And.intro (And.intro (And.intro (@rop_store) (@rop_convert)) (And.intro (@rop_extract) 
  (@rop_nilCheck))) (And.intro (And.intro (@rop_builtinC) (@rop_callC)) (And.intro (@runA_fn) (@runB_some)))) (And.intro (And.intro (And.intro 
  (@runV_some) (@runVH_some)) (And.intro (@runCond_bool) (@fltOf_0))) (And.intro (And.intro (@upd_app) (@decide_true)) (And.intro 
  (@decide_false) (And.intro (@Nat.zero_add) (@Bool.false_eq_true))))))) (And.intro (And.intro (And.intro (And.intro (And.intro 
  (@Bool.not_true) (@Bool.not_false)) (And.intro (@List.getElem?_cons_zero.{0}) (@List.getElem?_cons_succ.{0}))) (And.intro (And.intro 
  (@List.getElem?_nil.{0}) (@Option.getD_some.{0})) (And.intro (@Option.map_some.{0,0}) (@freeze_int)))) (And.intro (And.intro (And.intro 
  (@freeze_bool) (@freeze_str)) (And.intro (@freeze_flt) (@freeze_cpx))) (And.intro (And.intro (@freeze_agg) (@freeze_tuple)) (And.intro 
  (@freeze2_int) (And.intro (@freeze2_bool) (@freeze2_agg)))))) (And.intro (And.intro (And.intro (And.intro (@freeze2_cpx) (@freeze2_flt)) 
  (And.intro (@freeze1_int) (@freeze1_bool))) (And.intro (And.intro (@freeze1_str) (@mapO_nil)) (And.intro (@mapO_cons) (@consO_some)))) 
  (And.intro (And.intro (And.intro (@List.length_cons.{0}) (@List.length_nil.{0})) (And.intro (@List.take_succ_cons.{0}) 
  (@List.take_zero.{0}))) (And.intro (And.intro (@List.take_nil.{0}) (@List.drop_succ_cons.{0})) (And.intro (@List.drop_zero.{0}) (And.intro 
  (@List.drop_nil.{0}) (@List.cons_append.{0})))))))) (And.intro (And.intro (And.intro (And.intro (And.intro (And.intro (@List.nil_append.{0}) 
  (@List.append_nil.{0})) (And.intro (@List.set_cons_zero.{0}) (@List.set_cons_succ.{0}))) (And.intro (And.intro (@true_and) (@and_true)) 
  (And.intro (@and_self) (@Option.bind_some.{0,0})))) (And.intro (And.intro (And.intro (@dyn_nil) (@dyn_end)) (And.intro (@dyn_cons) 
  (@dop_move))) (And.intro (And.intro (@dop_assign) (@dop_build)) (And.intro (@dop_nilCheck) (And.intro (@dop_fieldAddr) (@dop_field)))))) 
  (And.intro (And.intro (And.intro (And.intro (@dop_indexAddr) (@dop_binOp)) (And.intro (@dop_extract) (@dop_load))) (And.intro (And.intro 
  (@dop_store) (@dop_alloc)) (And.intro (@dop_box) (@dop_buildSlice)))) (And.intro (And.intro (And.intro (@dynV_some) (@chk_nil)) (And.intro 
  (@chk_cons) (@apart_ptr))) (And.intro (And.intro (@bne_iff_ne.{0}) (@ne_eq.{1})) (And.intro (@not_false_eq_true) (And.intro 
  (@not_true_eq_false) (@Nat.le_refl))))))) (And.intro (And.intro (And.intro (And.intro (And.intro (@Nat.add_zero) (@Bool.true_and)) 
  (And.intro (@Bool.and_true) (@Bool.false_and))) (And.intro (And.intro (@Bool.and_false) (@beq_self_eq_true.{0})) (And.intro 
  (@bne_self_eq_false.{0}) (@rop_indexAddr)))) (And.intro (And.intro (And.intro (@rop_buildSlice) (@rop_index)) (And.intro (@rop_slice) 
  (@rop_makeSlice))) (And.intro (And.intro (@rop_makeFunc) (@rop_makeMap)) (And.intro (@rop_insert) (And.intro (@rop_lookup) 
  (@List.flatten_cons.{0})))))) (And.intro (And.intro (And.intro (And.intro (@List.flatten_nil.{0}) (@freeze_slc)) (And.intro (@freeze2_slc) 
  (@freeze1_slc))) (And.intro (And.intro (@frzE_some) (@freeze1_emp)) (And.intro (@freeze_emp) (@freeze2_emp)))) (And.intro (And.intro 
  (And.intro (@freeze_nilS) (@freeze2_nilS)) (And.intro (@freeze1_nilS) (@freeze_vec))) (And.intro (And.intro (@freeze2_vec) (@freeze1_vec)) 
  (And.intro (@Int.toNat_zero) (And.intro (@Int.toNat_one) (@Int.cast_ofNat_Int)))))))))
theorem bc : (And ((And ((And ((And (type_of% (@Go.BX.evs.eq_1)) (type_of% (@Go.BX.evs.eq_2)))) ((And (type_of% (@Go.BX.parts_.eq_1)) (type_of% 
  (@Go.BX.parts_.eq_2)))))) ((And ((And (type_of% (@Go.BX.resultsA.eq_1)) (type_of% (@Go.BX.resultsA.eq_2)))) ((And (type_of% 
  (@Go.BX.resultsA.eq_3)) (type_of% (@Go.BX.fillA.eq_1)))))))) ((And ((And ((And (type_of% (@Go.BX.fillA.eq_2)) (type_of% 
  (@Go.BX.cellsEq.eq_1)))) ((And (type_of% (@Go.BX.cellsEq.eq_2)) (type_of% (@Go.BX.cellsEq.eq_3)))))) ((And ((And (type_of% 
  (@Go.BX.cellsEq.eq_4)) (type_of% (@Go.BX.cellsEq.eq_5)))) ((And (type_of% (@Go.BX.chunk.eq_1)) (type_of% (@Go.BX.chunk.eq_2))))))))) :=
  (And.intro (And.intro (And.intro (And.intro (@Go.BX.evs.eq_1) (@Go.BX.evs.eq_2)) (And.intro (@Go.BX.parts_.eq_1) (@Go.BX.parts_.eq_2))) 
  (And.intro (And.intro (@Go.BX.resultsA.eq_1) (@Go.BX.resultsA.eq_2)) (And.intro (@Go.BX.resultsA.eq_3) (@Go.BX.fillA.eq_1)))) (And.intro 
  (And.intro (And.intro (@Go.BX.fillA.eq_2) (@Go.BX.cellsEq.eq_1)) (And.intro (@Go.BX.cellsEq.eq_2) (@Go.BX.cellsEq.eq_3))) (And.intro 
  (And.intro (@Go.BX.cellsEq.eq_4) (@Go.BX.cellsEq.eq_5)) (And.intro (@Go.BX.chunk.eq_1) (@Go.BX.chunk.eq_2)))))
theorem bd : (And ((And ((And ((And ((And (type_of% (@Go.BX.primP.eq_def)) (type_of% (@Go.BX.primM.eq_def)))) ((And (type_of% (@Go.BX.ev.eq_def)) 
  (type_of% (@Go.BX.ofConst.eq_def)))))) ((And ((And (type_of% (@Go.BX.bin.eq_def)) (type_of% (@Go.BX.un.eq_def)))) ((And (type_of% 
  (@Go.BX.intBin.eq_def)) ((And (type_of% (@Go.BX.putA.eq_def)) (type_of% (@enterT_app)))))))))) ((And ((And ((And (type_of% 
  (@Go.BX.RunRes.eq_def)) (type_of% (@Go.BX.oneOf.eq_def)))) ((And (type_of% (@Go.BX.AV.plain.eq_def)) (type_of% (@Go.BX.AV.cells.eq_def)))))) 
  ((And ((And (type_of% (@Go.BX.AHeap.push.eq_def)) (type_of% (@Go.BX.AHeap.set.eq_def)))) ((And (type_of% (@Go.BX.AHeap.empty.eq_def)) ((And 
  (type_of% (@Go.BX.fieldOf.eq_def)) (type_of% (@Go.BX.loadA.eq_def)))))))))))) ((And ((And ((And ((And (type_of% (@Go.BX.storeA.eq_def)) 
  (type_of% (@Go.BX.part.eq_def)))) ((And (type_of% (@Go.BX.TK.isAgg.eq_def)) (type_of% (@Go.BX.convA.eq_def)))))) ((And ((And (type_of% 
  (@Go.BX.builtinA.eq_def)) (type_of% (@Go.BX.inertB.eq_def)))) ((And (type_of% (@Go.BX.builtinP.eq_def)) ((And (type_of% 
  (@Go.BX.buildA.eq_def)) (type_of% (@Go.BX.splice.eq_def)))))))))) ((And ((And ((And (type_of% (@Go.BX.eqv.eq_def)) (type_of% 
  (@Go.BX.sizeT.eq_def)))) ((And (type_of% (@Go.BX.adT.eq_def)) (type_of% (@Go.BX.ldT.eq_def)))))) ((And ((And (type_of% (@Go.BX.fwT.eq_def)) 
  (type_of% (@Go.BX.strBin.eq_def)))) ((And (type_of% (@Go.BX.indexAddrA.eq_def)) ((And (type_of% (@Go.BX.elems.eq_def)) (type_of% 
  (@Go.BX.lenOf.eq_def))))))))))))) :=
  (And.intro (And.intro (And.intro (And.intro (And.intro (@Go.BX.primP.eq_def) (@Go.BX.primM.eq_def)) (And.intro (@Go.BX.ev.eq_def) 
  (@Go.BX.ofConst.eq_def))) (And.intro (And.intro (@Go.BX.bin.eq_def) (@Go.BX.un.eq_def)) (And.intro (@Go.BX.intBin.eq_def) (And.intro 
  (@Go.BX.putA.eq_def) (@enterT_app))))) (And.intro (And.intro (And.intro (@Go.BX.RunRes.eq_def) (@Go.BX.oneOf.eq_def)) (And.intro 
  (@Go.BX.AV.plain.eq_def) (@Go.BX.AV.cells.eq_def))) (And.intro (And.intro (@Go.BX.AHeap.push.eq_def) (@Go.BX.AHeap.set.eq_def)) (And.intro 
  (@Go.BX.AHeap.empty.eq_def) (And.intro (@Go.BX.fieldOf.eq_def) (@Go.BX.loadA.eq_def)))))) (And.intro (And.intro (And.intro (And.intro 
  (@Go.BX.storeA.eq_def) (@Go.BX.part.eq_def)) (And.intro (@Go.BX.TK.isAgg.eq_def) (@Go.BX.convA.eq_def))) (And.intro (And.intro 
  (@Go.BX.builtinA.eq_def) (@Go.BX.inertB.eq_def)) (And.intro (@Go.BX.builtinP.eq_def) (And.intro (@Go.BX.buildA.eq_def) 
  (@Go.BX.splice.eq_def))))) (And.intro (And.intro (And.intro (@Go.BX.eqv.eq_def) (@Go.BX.sizeT.eq_def)) (And.intro (@Go.BX.adT.eq_def) 
  (@Go.BX.ldT.eq_def))) (And.intro (And.intro (@Go.BX.fwT.eq_def) (@Go.BX.strBin.eq_def)) (And.intro (@Go.BX.indexAddrA.eq_def) (And.intro 
  (@Go.BX.elems.eq_def) (@Go.BX.lenOf.eq_def)))))))
theorem xx : (And ((And (type_of% (@run_exit_start)) (type_of% (@exit_here)))) ((And (type_of% (@exit_code)) ((And (type_of% (@exit_inLoop)) (type_of% 
  (@run_inBlock))))))) :=
  (And.intro (And.intro (@run_exit_start) (@exit_here)) (And.intro (@exit_code) (And.intro (@exit_inLoop) (@run_inBlock))))
end Go.BX

namespace Go.BX
set_option linter.unusedVariables false
set_option linter.unusedSimpArgs false
variable {C : Ctx} {w w' : World} {U : Nat → Prop} {ι : Nat → Option Nat}
theorem chg_rel {H : AHeap} (hH : HRel C w U ι H) {b c : Nat} (hb : ι b = some c) (hsz : w'.heap.size = w.heap.size) (hot : ∀ d, d ≠ c → w'.heap[d]? = w.heap[d]?) (hsh : ∀ d, w'.shape? d = w.shape? d) (henv : w'.os = w.os ∧ w'.tape = w.tape ∧ w'.output = w.output) (hd : (H.at_ b).isDead = false) {blk : Blk}
    (hB : (∀ {a : AV} {v : Value}, VRel w U ι a v → VRel w' U ι a v) → BRel C w' U ι c blk) :
    Ext w U ι w' U ι ∧ HRel C w' U ι (H.set b blk) := by
  have hext : Ext w U ι w' U ι :=
    { map := fun _ _ h => h, rng := fun b _ h => .inl ⟨b, h⟩, imm := fun _ h => h, new := fun _ h => .inl h, size := by omega
      kept := fun d _ hn => hot d (fun e => hn b (by rw [e]; exact hb))
      shape := fun d _ => hsh d, env := henv }
  have hm : ∀ {a : AV} {v : Value}, VRel w U ι a v → VRel w' U ι a v := fun hv => hext.mono hH hv
  refine ⟨hext, ⟨fun b' c' h => by have := hH.dom b' c' h; rw [hsz]; simpa [AHeap.set] using this, fun b1 b2 c' h1 h2 d1 d2 => ?_, fun c' h => by have := hH.imm c' h; rw [hsz]; exact this, fun b' c' h => ?_⟩⟩
  · have live : ∀ b', ((H.set b blk).at_ b').isDead = false → (H.at_ b').isDead = false := by
      intro b' h'
      by_cases e : b' = b
      · subst e; exact hd
      · simp only [AHeap.set, upd_isDead e] at h'; exact h'
    exact hH.inj b1 b2 c' h1 h2 (live b1 d1) (live b2 d2)
  · by_cases e : b' = b
    · subst e
      rw [hb] at h; cases h
      simp only [AHeap.set, upd_same]
      exact hB hm
    · simp only [AHeap.set]
      rw [upd_ne _ _ e]
      by_cases hdd : (H.at_ b').isDead = true
      · cases hx : H.at_ b' <;> rw [hx] at hdd <;> simp [Blk.isDead] at hdd
        trivial
      · have hne : c' ≠ c := by
          rintro rfl
          exact e (hH.inj b' b _ h hb (by simpa using hdd) hd)
        exact (hH.blk b' c' h).mono hm (fun _ _ h => h) (hot c' hne)
theorem inv_calls {P : Program} {f : FuncId} {fn : Func} (hf : P.funcs[f]? = some fn) (hname : (fn.name == "runtime.NumGoroutine") = false) (hb : fn.body.isNone = false) {vs : List Value} {R : Value → World → Prop} (h : Calls P f vs.toArray w fun e w' => ∃ v, e = .returned v ∧ R v w') : InvN P f vs w R := by
  right
  constructor
  · have h1 : fn.name ≠ "runtime.NumGoroutine" := by simpa using hname
    have h2 : ¬ fn.body = none := by
      intro e; rw [e] at hb; cases hb
    simp [callFunc, hf, h1, h2, Sem.run]
  · intro c cs
    obtain ⟨e, w', fr, ⟨v, rfl, hR⟩, hc, _, hl⟩ := h (c :: cs)
    exact ⟨v, w', hR, Steps.trans hc (Steps.one (step_leave_returned hl))⟩
structure BuilderLaws (P : Program) (fc fs : FuncId) (tB tb : TypeId) : Prop where
  used : ∀ (b : Nat) (w : World), w.cell? ⟨b, 0, none⟩ = some (.pointer (some ⟨b, 0, none⟩)) → Calls P fc #[.pointer (some ⟨b, 0, none⟩)] w fun e w' => e = .returned (.tuple #[]) ∧ w' = w
  fresh : ∀ (b m : Nat) (w : World), 2 ≤ m → w.cell? ⟨b, 0, none⟩ = some (.pointer none) → w.shape? b = some (tB, m) → w.frozen? ⟨b, 0, none⟩ = false → Calls P fc #[.pointer (some ⟨b, 0, none⟩)] w fun e w' => e = .returned (.tuple #[]) ∧ w' = w.setCell ⟨b, 0, none⟩ (.pointer (some ⟨b, 0, none⟩))
  str : ∀ (b g cap cells : Nat) (l : List UInt8) (w : World), w.cell? ⟨b, 1, none⟩ = some (.slice (some ⟨g, 0, none⟩) l.length cap) → l ≠ [] → l.length ≤ cap → l.length ≤ maxLen → w.shape? g = some (tb, cells) → l.length ≤ cells →
    (∀ (j : Nat) (x : UInt8), l[j]? = some x → w.cell? ((⟨g, 0, none⟩ : Addr).add j) = some (.int .u8 x.toNat)) →
    Calls P fs #[.pointer (some ⟨b, 0, none⟩)] w fun e w' => e = .returned (.string ⟨l.toArray⟩) ∧ w' = w.drew.freeze ⟨g, 0, none⟩ l.length
  fnc : ∃ fn, P.funcs[fc]? = some fn ∧ (fn.name == "runtime.NumGoroutine") = false ∧ fn.body.isNone = false
  fns : ∃ fn, P.funcs[fs]? = some fn ∧ (fn.name == "runtime.NumGoroutine") = false ∧ fn.body.isNone = false
def copyG (tB : TypeId) : List AV → AHeap → Option (AV × AHeap)
  | [.ptr b 2 0 0], H => match H.at_ b with
    | .cells t 2 [[a, v]] => if t = tB then match a with
      | .nilP => some (.tuple [], H.set b (.cells t 2 [[.ptr b 2 0 0, v]]))
      | .ptr b' 2 0 0 => if b' = b then some (.tuple [], H) else none
      | _ => none
      else none
    | _ => none
  | _, _ => none
def u8ok (es : List (List AV)) : Bool := es.all fun e => match e with
  | [.int .u8 n] => decide (0 ≤ n) && decide (n ≤ 255)
  | _ => false
def strG (tB tb : TypeId) : List AV → AHeap → Option (AV × AHeap)
  | [.ptr b 2 0 0], H => match H.at_ b with
    | .cells t 2 [[_, .slc b2 1 0 n]] => match H.at_ b2 with
      | .cells t2 1 es => if t = tB ∧ t2 = tb ∧ n ≠ 0 ∧ n ≤ es.length ∧ n ≤ maxLen ∧ u8ok (es.take n) = true then (bytesOf (es.take n)).map fun s => (.str s, H.set b2 .dead) else none
      | _ => none
    | _ => none
  | _, _ => none
theorem copyG_mono {tB : TypeId} {args : List AV} {H H' : AHeap} {r : AV} (h : copyG tB args H = some (r, H')) : H.next ≤ H'.next := by
  unfold copyG at h
  repeat' (split at h)
  all_goals first | (cases h; exact Nat.le_refl _) | cases h
theorem strG_mono {tB tb : TypeId} {args : List AV} {H H' : AHeap} {r : AV} (h : strG tB tb args H = some (r, H')) : H.next ≤ H'.next := by
  unfold strG at h
  repeat' (split at h)
  all_goals first | (simp only [Option.map_eq_some_iff] at h; obtain ⟨_, _, e⟩ := h; cases e; exact Nat.le_refl _) | cases h
theorem cell_at {w : World} {c : Nat} {cs : Array Value} {t : TypeId} {fz : Nat × Nat} (h : w.heap[c]? = some (.cells cs t fz)) (i : Nat) : w.cell? ⟨c, i, none⟩ = cs[i]? := by
  unfold World.cell?
  rw [h]; rfl
theorem add_at (c j : Nat) : (⟨c, 0, none⟩ : Addr).add j = ⟨c, j, none⟩ := by
  unfold Addr.add
  split
  · rename_i h; subst h; rfl
  · simp
theorem ccheck_sound {fc fs : FuncId} {tB tb : TypeId} (L : BuilderLaws C.P fc fs tB tb) {args : List AV} {H H' : AHeap} {r : AV} (hg : copyG tB args H = some (r, H')) (hH : HRel C w U ι H) {vs : List Value} (ha : LsRel w U ι args vs) :
    InvN C.P fc vs w (Post C w U ι H H' r) := by
  unfold copyG at hg
  split at hg
  · rename_i H0 b
    split at hg
    · rename_i t a v hbl
      split at hg
      · rename_i ht
        subst ht
        obtain ⟨v1, vs1, rfl, h1, ha1⟩ := ha.cases_cons
        obtain rfl := ha1.cases_nil
        cases h1 with
        | ptr _ _ _ _ c hι =>
          have hbr := hH.blk b c hι
          rw [hbl] at hbr
          obtain ⟨cs, hcs, _, hr⟩ := hbr
          obtain ⟨ho0, u0, hu0, hv0⟩ := hr 0 _ 0 a rfl rfl
          obtain ⟨ho1, u1, hu1, hv1⟩ := hr 0 _ 1 v rfl rfl
          simp only [Nat.zero_mul, Nat.zero_add] at hu0 hu1
          have hp : ((0 * 2 + 0 : Nat)) = 0 := rfl
          rw [hp]
          have hc0 : w.cell? ⟨c, 0, none⟩ = some u0 := by rw [cell_at hcs, hu0]
          obtain ⟨fn, hfn, hnm, hbd⟩ := L.fnc
          split at hg
          · cases hg
            cases hv0
            refine inv_calls hfn hnm hbd ?_
            have hsize : 2 ≤ cs.size := by
              have := (Array.getElem?_eq_some_iff.mp hu1).1
              omega
            refine (L.fresh c cs.size w hsize hc0 (by unfold World.shape?; rw [hcs]) (by unfold World.frozen?; rw [hcs]; rfl)).mono ?_
            rintro e w' ⟨rfl, rfl⟩
            refine ⟨_, rfl, ?_⟩
            have hsc : (w.setCell ⟨c, 0, none⟩ (.pointer (some ⟨c, 0, none⟩))).heap[c]? = some (.cells (cs.setIfInBounds 0 (.pointer (some ⟨c, 0, none⟩))) t (0, 0)) := by
              unfold World.setCell
              simp [Array.getElem?_modify, hcs]
            have hot : ∀ d, d ≠ c → (w.setCell ⟨c, 0, none⟩ (.pointer (some ⟨c, 0, none⟩))).heap[d]? = w.heap[d]? := by
              intro d hd
              unfold World.setCell
              simp [Array.getElem?_modify, Ne.symm hd]
            obtain ⟨he, hh⟩ := chg_rel (w' := w.setCell ⟨c, 0, none⟩ (.pointer (some ⟨c, 0, none⟩))) hH hι (by simp [World.setCell]) hot (fun d => by
              by_cases hd : d = c
              · subst hd
                unfold World.shape?
                rw [hsc, hcs]; simp
              · exact shape_of_heap (hot d hd)) ⟨rfl, rfl, rfl⟩ (by rw [hbl]; rfl) (blk := .cells t 2 [[.ptr b 2 0 0, v]]) (fun hm => by
                refine ⟨_, hsc, fun e he => by simp at he; subst he; rfl, fun i e j x hi hj => ?_⟩
                match i, hi with
                | 0, hi =>
                  cases hi
                  match j, hj with
                  | 0, hj => cases hj; exact ⟨rfl, .pointer (some ⟨c, 0, none⟩), Array.getElem?_setIfInBounds_self_of_lt (by omega), .ptr b 2 0 0 c hι⟩
                  | 1, hj => cases hj; exact ⟨ho1, u1, by simpa using hu1, hm hv1⟩)
            exact ⟨U, ι, ⟨he, hh, .tuple [] [] rfl (fun i a v h => by simp at h)⟩, Fresh.refl _ _⟩
          · rename_i b'
            split at hg
            · rename_i hbb
              subst hbb
              cases hg
              cases hv0 with
              | ptr _ _ _ _ c' hι' =>
                rw [hι] at hι'
                cases hι'
                refine inv_calls hfn hnm hbd ?_
                refine (L.used c w hc0).mono ?_
                rintro e w' ⟨rfl, rfl⟩
                exact ⟨_, rfl, U, ι, ⟨Ext.refl _ _ _, hH, .tuple [] [] rfl (fun i a v h => by simp at h)⟩, Fresh.refl _ _⟩
            · cases hg
          · cases hg
      · cases hg
    · cases hg
  · cases hg
theorem bytesOf_get : ∀ {es : List (List AV)} {s : Bytes}, bytesOf es = some s → s.length = es.length ∧ ∀ (j : Nat) (x : UInt8), s[j]? = some x → ∃ n, es[j]? = some [.int .u8 n] ∧ x = UInt8.ofNat n.toNat
  | [], s, h => by cases h; exact ⟨rfl, fun j x h => by simp at h⟩
  | e :: es, s, h => by
    unfold bytesOf at h
    split at h
    · rename_i b bs hb hbs
      cases h
      obtain ⟨h1, h2⟩ := bytesOf_get hbs
      refine ⟨by simp [h1], fun j x hj => ?_⟩
      cases j with
      | zero =>
        simp at hj; subst hj
        unfold byteOf at hb
        split at hb
        · rename_i n; cases hb; exact ⟨n, rfl, rfl⟩
        · cases hb
      | succ j => exact h2 j x (by simpa using hj)
    · cases h
theorem str_sound {fc fs : FuncId} {tB tb : TypeId} (L : BuilderLaws C.P fc fs tB tb) {args : List AV} {H H' : AHeap} {r : AV} (hg : strG tB tb args H = some (r, H')) (hH : HRel C w U ι H) {vs : List Value} (ha : LsRel w U ι args vs) :
    InvN C.P fs vs w (Post C w U ι H H' r) := by
  unfold strG at hg
  split at hg
  · rename_i H0 b
    split at hg
    · rename_i t a b2 n hbl
      split at hg
      · rename_i t2 es hbl2
        split at hg
        · rename_i hcond
          obtain ⟨rfl, rfl, hn0, hn, hnm, hu8⟩ := hcond
          simp only [Option.map_eq_some_iff] at hg
          obtain ⟨s, hs, e⟩ := hg
          cases e
          obtain ⟨hsl, hsg⟩ := bytesOf_get hs
          obtain ⟨v1, vs1, rfl, h1, ha1⟩ := ha.cases_cons
          obtain rfl := ha1.cases_nil
          cases h1 with
          | ptr _ _ _ _ c hι =>
            have hbr := hH.blk b c hι
            rw [hbl] at hbr
            obtain ⟨cs, hcs, _, hr⟩ := hbr
            obtain ⟨ho1, u1, hu1, hv1⟩ := hr 0 _ 1 (.slc b2 1 0 n) rfl rfl
            simp only [Nat.zero_mul, Nat.zero_add] at hu1
            have hp : ((0 * 2 + 0 : Nat)) = 0 := rfl
            rw [hp]
            have hc1 : w.cell? ⟨c, 1, none⟩ = some u1 := by rw [cell_at hcs, hu1]
            obtain ⟨fn, hfn, hnmm, hbd⟩ := L.fns
            cases hv1 with
            | slc _ _ _ _ g off cap m t3 hg2 ho hcap hsh hm =>
              have hoff : off = 0 := by simpa using ho (.inr rfl)
              subst hoff
              have hbr2 := hH.blk b2 g hg2
              rw [hbl2] at hbr2
              obtain ⟨ds, hds, hk2, hr2⟩ := hbr2
              have hsn : s.length = n := by rw [hsl, List.length_take]; omega
              have hget : ∀ (j : Nat) (x : UInt8), s[j]? = some x → w.cell? ((⟨g, 0, none⟩ : Addr).add j) = some (.int .u8 x.toNat) := by
                intro j x hj
                obtain ⟨z, hz, hxz⟩ := hsg j x hj
                have hjn : j < n := by rw [← hsn]; exact (List.getElem?_eq_some_iff.mp hj).1
                have hz' : es[j]? = some [.int .u8 z] := by rw [List.getElem?_take_of_lt hjn] at hz; exact hz
                obtain ⟨_, u, hu, hv⟩ := hr2 j _ 0 (.int .u8 z) hz' rfl
                cases hv
                have hrange : 0 ≤ z ∧ z ≤ 255 := by
                  have := List.all_eq_true.mp hu8 _ (List.mem_of_getElem? hz)
                  simpa using this
                have hxx : ((x.toNat : Nat) : Int) = z := by
                  rw [hxz, UInt8.toNat_ofNat']
                  omega
                rw [add_at, cell_at hds, hxx]
                simpa using hu
              have hlen : s.length ≤ ds.size := by
                rw [hsn]
                have hlt : n - 1 < es.length := by omega
                have he : es[n - 1]? = some es[n - 1] := List.getElem?_eq_getElem hlt
                have hek := hk2 _ (List.getElem_mem hlt)
                obtain ⟨_, u, hu, _⟩ := hr2 (n - 1) _ 0 (es[n - 1][0]'(by omega)) he (List.getElem?_eq_getElem _)
                have := (Array.getElem?_eq_some_iff.mp hu).1
                omega
              refine inv_calls hfn hnmm hbd ?_
              have hcall := L.str c g cap ds.size s w (by rw [hc1, hsn]) (by intro e; subst e; simp at hsn; exact hn0 hsn.symm) (by omega) (by omega) (by unfold World.shape?; rw [hds]) hlen hget
              refine hcall.mono ?_
              rintro e w' ⟨rfl, rfl⟩
              refine ⟨_, rfl, ?_⟩
              have hfz : (w.drew.freeze ⟨g, 0, none⟩ s.length).heap[g]? = some (.cells ds t2 (0, s.length)) := by
                unfold World.freeze World.drew
                rw [if_neg (by omega)]
                simp [Array.getElem?_modify, hds]
              have hot : ∀ d, d ≠ g → (w.drew.freeze ⟨g, 0, none⟩ s.length).heap[d]? = w.heap[d]? := by
                intro d hd
                unfold World.freeze World.drew
                rw [if_neg (by omega)]
                simp [Array.getElem?_modify, Ne.symm hd]
              have hsz : (w.drew.freeze ⟨g, 0, none⟩ s.length).heap.size = w.heap.size := by
                unfold World.freeze World.drew
                rw [if_neg (by omega)]
                simp
              have henv : (w.drew.freeze ⟨g, 0, none⟩ s.length).os = w.os ∧ (w.drew.freeze ⟨g, 0, none⟩ s.length).tape = w.tape ∧ (w.drew.freeze ⟨g, 0, none⟩ s.length).output = w.output := by
                unfold World.freeze World.drew
                rw [if_neg (by omega)]
                exact ⟨rfl, rfl, rfl⟩
              obtain ⟨he, hh⟩ := chg_rel (w' := w.drew.freeze ⟨g, 0, none⟩ s.length) hH hg2 hsz hot (fun d => by
                by_cases hd : d = g
                · subst hd
                  unfold World.shape?
                  rw [hfz, hds]
                · exact shape_of_heap (hot d hd)) henv (by rw [hbl2]; rfl) (blk := .dead) (fun hm => trivial)
              exact ⟨U, ι, ⟨he, hh, .str s _ rfl⟩, Fresh.refl _ _⟩
        · cases hg
      · cases hg
    · cases hg
  · cases hg
theorem call_ext {fn : FuncId} {T : Nat → AV} {ds : List ADef} {ro : Option Nat} {k : List AItem} {H : AHeap} {Q : AV → AHeap → Prop} {f : FuncId} {g : List AV → AHeap → Option (AV × AHeap)} {args : List AV} {dst : Option Nat} {os : List AO} (hp : C.pure f = false) (hx : C.ext f = some g) :
    RunCall C fn T ds ro f args dst os k H Q = RunVH C fn T ds ro dst os k Q (g args H) := by
  unfold RunCall
  have e : ∀ n, callF C (cln C n) f args H = g args H := fun n => by
    unfold callF
    rw [if_neg (by simp [hp])]
    show (clMk C (exec C n)).call f args H = _
    simp only [clMk, hx]
  simp only [e]
  cases hg : g args H with
  | none => simp [withDs, thenOps, RunVH]
  | some z =>
    obtain ⟨r, H1⟩ := z
    rfl
theorem len_ofB (s : Bytes) : (ofBytes s).length = s.length := by simp [ofBytes]
theorem take_ofB (s : Bytes) : (ofBytes s).take s.length = ofBytes s := by rw [← len_ofB s, List.take_length]
theorem ofB_append (s t : Bytes) : ofBytes s ++ ofBytes t = ofBytes (s ++ t) := by simp [ofBytes]
theorem ofB_snoc (s : Bytes) (x : UInt8) : ofBytes s ++ [[.int .u8 (x.toNat : Int)]] = ofBytes (s ++ [x]) := by simp [ofBytes]
theorem bytesOf_ofB : ∀ s : Bytes, bytesOf (ofBytes s) = some s
  | [] => rfl
  | x :: s => by
    have ih := bytesOf_ofB s
    unfold ofBytes at ih ⊢
    rw [List.map_cons]
    unfold bytesOf
    rw [ih]
    simp [byteOf]
theorem u8ok_ofB (s : Bytes) : u8ok (ofBytes s) = true := by
  unfold u8ok ofBytes
  rw [List.all_map, List.all_eq_true]
  intro x _
  have := x.toNat_lt
  simp
  omega
structure IsB (tB tb : TypeId) (H : AHeap) (b : Nat) (g : Option Nat) (acc : Bytes) : Prop where
  lt : b < H.next
  self : ∃ a, (a = .nilP ∨ a = .ptr b 2 0 0) ∧ H.at_ b = .cells tB 2 [[a, match g with | none => .nilS | some g => .slc g 1 0 acc.length]]
  buf : match g with | none => acc = [] | some g => g ≠ b ∧ g < H.next ∧ H.at_ g = .cells tb 1 (ofBytes acc)
structure Kept (H H' : AHeap) (b : Nat) (g g' : Option Nat) : Prop where
  next : H.next ≤ H'.next
  at_ : ∀ d, d < H.next → d ≠ b → some d ≠ g → H'.at_ d = H.at_ d
  new : g' = g ∨ ∃ z, g' = some z ∧ H.next ≤ z
end Go.BX

set_option linter.unusedVariables false
namespace Go.Proofs.Ytckhmpcmlochpaa.G
open Go.RowKit Go.Proofs
theorem lies1 (count : Nat) (h : 1 ≤ count) : liesAt Try.prog Try.prog.depth 141 count 0 141 1 = true := by
  have hc : Try.prog.cellsOf 141 = 2 := by kernel_rfl
  have hd : Try.prog.depth = (2 * (Try.prog.types.size + Made.depth) + 1) + 1 := rfl
  rw [hd]
  simp only [liesAt, Bool.or_eq_true]
  left
  rw [hd]
  simp [rowAt, hc, h, sameLayout]
set_option maxHeartbeats 1000000 in
set_option maxRecDepth 100000 in
theorem copy_used (b : Nat) (w : World) (h0 : w.cell? ⟨b, 0, none⟩ = some (.pointer (some ⟨b, 0, none⟩))) :
    Calls Try.prog 91 #[.pointer (some ⟨b, 0, none⟩)] w fun e w' => e = .returned (.tuple #[]) ∧ w' = w := by
  obtain ⟨j, hj, _⟩ := Option.map_eq_some_iff.1 (show (Try.prog.info? 141).map (·.size) = some 2 by kernel_rfl)
  go_enter Try.func91, Try.ntmps91
  go_wp2
  rw [Lib.run_neq_ptr_same w _ Try.underlying139 hj]
  go_wp2
  go_end0
  exact ⟨rfl, rfl⟩
set_option maxHeartbeats 1000000 in
set_option maxRecDepth 100000 in
theorem copy_fresh (b m : Nat) (w : World) (hm : 2 ≤ m) (h0 : w.cell? ⟨b, 0, none⟩ = some (.pointer none)) (hsh : w.shape? b = some (141, m)) (hfz : w.frozen? ⟨b, 0, none⟩ = false) :
    Calls Try.prog 91 #[.pointer (some ⟨b, 0, none⟩)] w fun e w' => e = .returned (.tuple #[]) ∧ w' = w.setCell ⟨b, 0, none⟩ (.pointer (some ⟨b, 0, none⟩)) := by
  obtain ⟨j, hj, hjs⟩ := Option.map_eq_some_iff.1 (show (Try.prog.info? 141).map (·.size) = some 2 by kernel_rfl)
  go_enter Try.func91, Try.ntmps91
  go_wp2
  rw [Lib.run_to_unsafe w ⟨b, 0, none⟩ Try.underlying139 Try.underlying150 hj (by rw [hjs]; decide) hsh (show 0 < m by omega)]
  simp only [Result.andThen]
  rw [Oper.upon_value]
  go_wp2
  rw [run_callFunc_extern Try.func93 (by kernel_rfl) (by kernel_rfl) (by kernel_rfl) (e := Extern.AbiNoEscape.same) (by kernel_rfl)]
  rw [Lib.run_noEscape]
  simp only [Result.andThen]
  rw [Oper.upon_value]
  go_wp2
  rw [Lib.run_from_unsafe w ⟨b, 0, none⟩ Try.underlying150 Try.underlying139 hj hsh (lies1 (m / Try.prog.cellsOf 141) (by rw [show Try.prog.cellsOf 141 = 2 by kernel_rfl]; omega))]
  simp only [Result.andThen]
  rw [Oper.upon_value]
  go_wp2
  go_end0
  exact ⟨rfl, rfl⟩
set_option maxHeartbeats 2000000 in
set_option maxRecDepth 100000 in
theorem str_row (b g cap cells : Nat) (l : List UInt8) (w : World) (c1 : w.cell? ⟨b, 1, none⟩ = some (.slice (some ⟨g, 0, none⟩) l.length cap)) (h0 : l ≠ []) (hle : l.length ≤ cap) (hcap : l.length ≤ maxLen) (hsh : w.shape? g = some (5, cells)) (hn : l.length ≤ cells)
    (hc : ∀ (j : Nat) (x : UInt8), l[j]? = some x → w.cell? ((⟨g, 0, none⟩ : Addr).add j) = some (.int .u8 x.toNat)) :
    Calls Try.prog 87 #[.pointer (some ⟨b, 0, none⟩)] w fun e w' => e = .returned (.string ⟨l.toArray⟩) ∧ w' = w.drew.freeze ⟨g, 0, none⟩ l.length := by
  have hl0 : l.length ≠ 0 := by simpa using h0
  have hc1 : w.drew.cell? ⟨b, 1, none⟩ = some (.slice (some ⟨g, 0, none⟩) l.length cap) := c1
  have hSD : (Builtin.unsafeSliceData_ #[114] 149 #[.slice (some ⟨g, 0, none⟩) l.length cap]).run Try.prog w.drew = .ok (.pointer (some ⟨g, 0, none⟩)) w.drew :=
    Lib.run_unsafeSliceData_row _ _ _ _ _ _ (by omega)
  have hUS : (Builtin.unsafeString_ #[149, 3] 9 #[.pointer (some ⟨g, 0, none⟩), .int .i64 l.length]).run Try.prog w.drew = .ok (.string ⟨l.toArray⟩) (w.drew.freeze ⟨g, 0, none⟩ l.length) := by
    refine Lib.run_unsafeString_row w.drew 149 3 9 5 Try.underlying149 (by kernel_rfl) g cells hsh l h0 hn (by unfold maxLen at hcap; omega) ?_
    intro j x hx
    exact hc j x hx
  go_enter Try.func87, Try.ntmps87
  go_wp2
  go_region
  all_goals (go_wp2; go_ret; exact ⟨rfl, rfl⟩)
theorem builderLaws : BX.BuilderLaws Try.prog 91 87 141 5 where
  used := copy_used
  fresh := copy_fresh
  str := str_row
  fnc := ⟨_, Try.func91, by kernel_rfl, by kernel_rfl⟩
  fns := ⟨_, Try.func87, by kernel_rfl, by kernel_rfl⟩
end Go.Proofs.Ytckhmpcmlochpaa.G

namespace Go.Proofs.Ytckhmpcmlochpaa.G
open Go.BX
def good : List Nat := [1, 2, 3, 4, 5, 6, 7, 8, 9, 10, 11, 12, 13, 14, 15, 16, 17, 18, 19, 20, 21, 22, 23, 24, 25, 26, 27, 28, 29, 30, 31, 32, 33, 34, 35, 36, 37, 38, 39, 41, 42, 43, 44, 46, 47, 48, 49, 50, 52, 53, 54, 55, 56, 58, 59, 60, 61, 62, 63, 64, 65, 66, 68, 70, 71, 72, 73, 74, 75, 76, 77, 78, 79, 80, 81, 82, 83, 84, 85, 86, 87, 88, 89, 91, 92, 93, 94, 95, 96, 97, 98, 99, 100, 102, 103, 104, 106, 107, 108, 110, 111, 112, 113, 114, 116, 118, 119, 121, 122, 123, 124, 125, 126, 127, 128, 129, 130, 131, 132, 133, 135, 136, 137, 138, 139, 140, 141, 142, 143, 144, 146, 147, 148, 149, 151, 152, 153, 154, 157, 158, 159, 160, 161, 162, 163, 164, 165]
def pureL : List Nat := [2, 3, 4, 5, 6, 7, 8, 9, 10, 11, 12, 13, 14, 15, 16, 17, 19, 20, 21, 22, 23, 24, 30, 32, 34, 35, 36, 37, 38, 39, 46, 47, 48, 53, 54, 55, 56, 57, 58, 60, 61, 63, 64, 65, 66, 67, 68, 69, 70, 71, 72, 73, 75, 76, 77, 78, 79, 80, 81, 82, 83, 84, 88, 89, 90, 92]
def extF : FuncId → Option (List AV → AHeap → Option (AV × AHeap))
  | 92 => some (idxG)
  | 91 => some (copyG 141)
  | 87 => some (strG 141 5)
  | 90 => some (cmpG)
  | _ => none
noncomputable def Cx : Ctx := ctxOf Try.prog good (fun f => pureL.contains f) extF
theorem good_ok : good.all (tiCheck Try.prog good) = true := by kernel_rfl
theorem mixed : Try.prog.follows .mixedOrders = true := by kernel_rfl
theorem isExt92 : IsExt Try.prog 92 Try.f92 Extern.BytealgIndexByte.indexByte := ⟨Try.func92, by kernel_rfl, by kernel_rfl, by kernel_rfl, by kernel_rfl⟩
theorem isExt90 : IsExt Try.prog 90 Try.f90 Extern.BytealgCompare.compare := ⟨Try.func90, by kernel_rfl, by kernel_rfl, by kernel_rfl, by kernel_rfl⟩
theorem extOk : ExtOk Cx := by
  constructor
  · intro f g args H r H' hf hg
    change extF f = some g at hf
    unfold extF at hf
    split at hf <;> first | (cases hf; done) | skip
    · cases hf; exact idxG_mono hg
    · cases hf; exact copyG_mono hg
    · cases hf; exact strG_mono hg
    · cases hf; exact cmpG_mono hg
  · intro f g args H r H' hf hg w U ι vs hH ha
    change extF f = some g at hf
    unfold extF at hf
    split at hf <;> first | (cases hf; done) | skip
    · cases hf; exact idx_sound isExt92 hg hH ha
    · cases hf; exact ccheck_sound builderLaws hg hH ha
    · cases hf; exact str_sound builderLaws hg hH ha
    · cases hf; exact cmp_sound isExt90 hg hH ha
theorem cok : COk Cx := cOk_of good_ok extOk mixed
theorem noext (f : FuncId) (h : extF f = none := by rfl) : Cx.ext f = none := h
theorem TT_3 : Cx.TT 3 = some { kind := .int .i64, size := 1, bytes := 8, zero := [.int .i64 0], eqk := (some [.int .i64]) } := by kernel_rfl
theorem TT_4 : Cx.TT 4 = some { kind := .bool, size := 1, bytes := 1, zero := [.bool false], eqk := (some [.bool]) } := by kernel_rfl
theorem TT_5 : Cx.TT 5 = some { kind := .int .u8, size := 1, bytes := 1, zero := [.int .u8 0], eqk := (some [.int .u8]) } := by kernel_rfl
theorem TT_9 : Cx.TT 9 = some { kind := .str, size := 1, bytes := 16, zero := [.str []], eqk := (some [.str]) } := by kernel_rfl
theorem TT_21 : Cx.TT 21 = some { kind := .int .i32, size := 1, bytes := 4, zero := [.int .i32 0], eqk := (some [.int .i32]) } := by kernel_rfl
theorem TT_22 : Cx.TT 22 = some { kind := .slice 32, size := 1, bytes := 24, zero := [.nilS], eqk := none } := by kernel_rfl
theorem TT_24 : Cx.TT 24 = some { kind := .struct [(3, 0), (3, 1)], size := 2, bytes := 16, zero := [.int .i64 0, .int .i64 0], eqk := (some [.int .i64, .int .i64]) } := by kernel_rfl
theorem TT_26 : Cx.TT 26 = some { kind := .struct [(3, 0), (3, 1), (9, 2), (24, 3)], size := 5, bytes := 48, zero := [.int .i64 0, .int .i64 0, .str [], .int .i64 0, .int .i64 0], eqk := (some [.int .i64, .int .i64, .str, .int .i64, .int .i64]) } := by kernel_rfl
theorem TT_28 : Cx.TT 28 = some { kind := .struct [(9, 0), (26, 1), (26, 6)], size := 11, bytes := 112, zero := [.str [], .int .i64 0, .int .i64 0, .str [], .int .i64 0, .int .i64 0, .int .i64 0, .int .i64 0, .str [], .int .i64 0, .int .i64 0], eqk := (some [.str, .int .i64, .int .i64, .str, .int .i64, .int .i64, .int .i64, .int .i64, .str, .int .i64, .int .i64]) } := by kernel_rfl
theorem TT_32 : Cx.TT 32 = some { kind := .struct [(3, 0), (26, 1)], size := 6, bytes := 56, zero := [.int .i64 0, .int .i64 0, .int .i64 0, .str [], .int .i64 0, .int .i64 0], eqk := (some [.int .i64, .int .i64, .int .i64, .str, .int .i64, .int .i64]) } := by kernel_rfl
theorem TT_34 : Cx.TT 34 = some { kind := .slice 56, size := 1, bytes := 24, zero := [.nilS], eqk := none } := by kernel_rfl
theorem TT_36 : Cx.TT 36 = some { kind := .slice 54, size := 1, bytes := 24, zero := [.nilS], eqk := none } := by kernel_rfl
theorem TT_38 : Cx.TT 38 = some { kind := .struct [(26, 0), (36, 5), (3, 6)], size := 7, bytes := 80, zero := [.int .i64 0, .int .i64 0, .str [], .int .i64 0, .int .i64 0, .nilS, .int .i64 0], eqk := none } := by kernel_rfl
theorem TT_39 : Cx.TT 39 = some { kind := .int .i64, size := 1, bytes := 8, zero := [.int .i64 0], eqk := (some [.int .i64]) } := by kernel_rfl
theorem TT_44 : Cx.TT 44 = some { kind := .int .u16, size := 1, bytes := 2, zero := [.int .u16 0], eqk := (some [.int .u16]) } := by kernel_rfl
theorem TT_48 : Cx.TT 48 = some { kind := .array 5 4, size := 5, bytes := 5, zero := [.bool false, .bool false, .bool false, .bool false, .bool false], eqk := (some [.bool, .bool, .bool, .bool, .bool]) } := by kernel_rfl
theorem TT_54 : Cx.TT 54 = some { kind := .struct [(9, 0), (26, 1)], size := 6, bytes := 64, zero := [.str [], .int .i64 0, .int .i64 0, .str [], .int .i64 0, .int .i64 0], eqk := (some [.str, .int .i64, .int .i64, .str, .int .i64, .int .i64]) } := by kernel_rfl
theorem TT_55 : Cx.TT 55 = some { kind := .slice 3, size := 1, bytes := 24, zero := [.nilS], eqk := none } := by kernel_rfl
theorem TT_56 : Cx.TT 56 = some { kind := .struct [(3, 0), (26, 1)], size := 6, bytes := 56, zero := [.int .i64 0, .int .i64 0, .int .i64 0, .str [], .int .i64 0, .int .i64 0], eqk := (some [.int .i64, .int .i64, .int .i64, .str, .int .i64, .int .i64]) } := by kernel_rfl
theorem TT_60 : Cx.TT 60 = some { kind := .ptr, size := 1, bytes := 8, zero := [.nilP], eqk := none } := by kernel_rfl
theorem TT_61 : Cx.TT 61 = some { kind := .slice 74, size := 1, bytes := 24, zero := [.nilS], eqk := none } := by kernel_rfl
theorem TT_64 : Cx.TT 64 = some { kind := .struct [(34, 0), (61, 1), (28, 2), (3, 13), (26, 14), (36, 19), (3, 20), (39, 21)], size := 22, bytes := 256, zero := [.nilS, .nilS, .str [], .int .i64 0, .int .i64 0, .str [], .int .i64 0, .int .i64 0, .int .i64 0, .int .i64 0, .str [], .int .i64 0, .int .i64 0, .int .i64 0, .int .i64 0, .int .i64 0, .str [], .int .i64 0, .int .i64 0, .nilS, .int .i64 0, .int .i64 0], eqk := none } := by kernel_rfl
theorem TT_74 : Cx.TT 74 = some { kind := .struct [(9, 0), (3, 1), (3, 2)], size := 3, bytes := 32, zero := [.str [], .int .i64 0, .int .i64 0], eqk := (some [.str, .int .i64, .int .i64]) } := by kernel_rfl
theorem TT_77 : Cx.TT 77 = some { kind := .slice 26, size := 1, bytes := 24, zero := [.nilS], eqk := none } := by kernel_rfl
theorem TT_82 : Cx.TT 82 = some { kind := .slice 84, size := 1, bytes := 24, zero := [.nilS], eqk := none } := by kernel_rfl
theorem TT_84 : Cx.TT 84 = some { kind := .struct [(9, 0), (3, 1)], size := 2, bytes := 24, zero := [.str [], .int .i64 0], eqk := (some [.str, .int .i64]) } := by kernel_rfl
theorem TT_88 : Cx.TT 88 = some { kind := .slice 9, size := 1, bytes := 24, zero := [.nilS], eqk := none } := by kernel_rfl
theorem TT_94 : Cx.TT 94 = some { kind := .array 5 26, size := 25, bytes := 240, zero := [.int .i64 0, .int .i64 0, .str [], .int .i64 0, .int .i64 0, .int .i64 0, .int .i64 0, .str [], .int .i64 0, .int .i64 0, .int .i64 0, .int .i64 0, .str [], .int .i64 0, .int .i64 0, .int .i64 0, .int .i64 0, .str [], .int .i64 0, .int .i64 0, .int .i64 0, .int .i64 0, .str [], .int .i64 0, .int .i64 0], eqk := (some [.int .i64, .int .i64, .str, .int .i64, .int .i64, .int .i64, .int .i64, .str, .int .i64, .int .i64, .int .i64, .int .i64, .str, .int .i64, .int .i64, .int .i64, .int .i64, .str, .int .i64, .int .i64, .int .i64, .int .i64, .str, .int .i64, .int .i64]) } := by kernel_rfl
theorem TT_114 : Cx.TT 114 = some { kind := .slice 5, size := 1, bytes := 24, zero := [.nilS], eqk := none } := by kernel_rfl
theorem TT_132 : Cx.TT 132 = some { kind := .cpx, size := 1, bytes := 16, zero := [.cpx 0 0], eqk := none } := by kernel_rfl
theorem TT_136 : Cx.TT 136 = some { kind := .slice 138, size := 1, bytes := 24, zero := [.nilS], eqk := none } := by kernel_rfl
theorem TT_138 : Cx.TT 138 = some { kind := .struct [(3, 0), (3, 1)], size := 2, bytes := 16, zero := [.int .i64 0, .int .i64 0], eqk := (some [.int .i64, .int .i64]) } := by kernel_rfl
theorem TT_139 : Cx.TT 139 = some { kind := .ptr, size := 1, bytes := 8, zero := [.nilP], eqk := none } := by kernel_rfl
theorem TT_141 : Cx.TT 141 = some { kind := .struct [(139, 0), (114, 1)], size := 2, bytes := 32, zero := [.nilP, .nilS], eqk := none } := by kernel_rfl
theorem TT_148 : Cx.TT 148 = some { kind := .flt, size := 1, bytes := 8, zero := [.flt 0], eqk := none } := by kernel_rfl
theorem TT_149 : Cx.TT 149 = some { kind := .ptr, size := 1, bytes := 8, zero := [.nilP], eqk := none } := by kernel_rfl
theorem tt : (And ((And ((And ((And ((And (type_of% @TT_3) (type_of% @TT_4))) ((And (type_of% @TT_5) (type_of% @TT_9))))) ((And ((And (type_of% @TT_21) (type_of% @TT_22))) ((And (type_of% @TT_24) ((And (type_of% @TT_26) (type_of% @TT_28))))))))) ((And ((And ((And (type_of% @TT_32) (type_of% @TT_34))) ((And (type_of% @TT_36) (type_of% @TT_38))))) ((And ((And (type_of% @TT_39) (type_of% @TT_44))) ((And (type_of% @TT_48) ((And (type_of% @TT_54) (type_of% @TT_55))))))))))) ((And ((And ((And ((And (type_of% @TT_56) (type_of% @TT_60))) ((And (type_of% @TT_61) (type_of% @TT_64))))) ((And ((And (type_of% @TT_74) (type_of% @TT_77))) ((And (type_of% @TT_82) ((And (type_of% @TT_84) (type_of% @TT_88))))))))) ((And ((And ((And (type_of% @TT_94) (type_of% @TT_114))) ((And (type_of% @TT_132) (type_of% @TT_136))))) ((And ((And (type_of% @TT_138) (type_of% @TT_139))) ((And (type_of% @TT_141) ((And (type_of% @TT_148) (type_of% @TT_149)))))))))))) := ⟨⟨⟨⟨⟨TT_3, TT_4⟩, ⟨TT_5, TT_9⟩⟩, ⟨⟨TT_21, TT_22⟩, ⟨TT_24, ⟨TT_26, TT_28⟩⟩⟩⟩, ⟨⟨⟨TT_32, TT_34⟩, ⟨TT_36, TT_38⟩⟩, ⟨⟨TT_39, TT_44⟩, ⟨TT_48, ⟨TT_54, TT_55⟩⟩⟩⟩⟩, ⟨⟨⟨⟨TT_56, TT_60⟩, ⟨TT_61, TT_64⟩⟩, ⟨⟨TT_74, TT_77⟩, ⟨TT_82, ⟨TT_84, TT_88⟩⟩⟩⟩, ⟨⟨⟨TT_94, TT_114⟩, ⟨TT_132, TT_136⟩⟩, ⟨⟨TT_138, TT_139⟩, ⟨TT_141, ⟨TT_148, TT_149⟩⟩⟩⟩⟩⟩
end Go.Proofs.Ytckhmpcmlochpaa.G

