import Derived.Test.YtmbagennmeahhaaBTop
namespace Go.BX
set_option linter.unusedSimpArgs false
set_option linter.unusedVariables false

/-! # The tables, out of the program -/

def kindOf (P : Program) (t : TypeId) : Option TK :=
  match P.underlying t with
  | some .bool => some .bool
  | some (.int k) => some (.int k)
  | some .string => some .str
  | some (.float .f64) => some .flt
  | some (.complex .f64) => some .cpx
  | some (.pointer _) => some .ptr
  | some (.slice e) => some (.slice e)
  | some (.array n e) => some (.array n e)
  | some (.struct fs) => some (.struct (fs.toList.map fun f => (f.type, f.offset)))
  | some (.func ..) => some .func
  | some (.interface _) => some .iface
  | _ => none

def tiOf (P : Program) (t : TypeId) : Option TI :=
  match kindOf P t, P.info? t with
  | some k, some info => match info.zero with
    | some z => (mapO ofConst z.cells.toList).map fun zero => { kind := k, size := info.size, bytes := info.bytes, zero := zero, eqk := if P.eqGuardType P.depth t then none else flatT P Op.maxDepth t }
    | none => none
  | _, _ => none

def isAggV : Value → Bool
  | .agg _ => true
  | _ => false

def tiCheck (P : Program) (good : List TypeId) (t : TypeId) : Bool :=
  match tiOf P t, P.info? t with
  | some ti, some info => (match info.zero with
    | some z => z.cells.size == info.size && isAggV z == ti.kind.isAgg
    | none => false) && (match ti.kind with
    | .slice e => ti.size == 1 && good.contains e
    | .array n e => good.contains e && (match tiOf P e with | some te => te.size != 0 && ti.size == n * te.size | none => false)
    | .struct fs => fs.all fun f => good.contains f.1 && (match tiOf P f.1 with | some tf => tf.size != 0 && decide (f.2 + tf.size ≤ ti.size) | none => false)
    | _ => ti.size == 1)
  | _, _ => false

def fiOf (P : Program) (pure : FuncId → Bool) (f : FuncId) : Option FI :=
  match P.funcs[f]? with
  | some fn => if fn.name == "runtime.NumGoroutine" then none else match fn.body with
    | some c => (strip pure fn.ntmps c).map fun b => { ntmps := fn.ntmps, results := fn.results.toList, body := b }
    | none => none
  | none => none

def ctxOf (P : Program) (good : List TypeId) (pure : FuncId → Bool) (ext : FuncId → Option (List AV → AHeap → Option (AV × AHeap))) : Ctx :=
  { P := P, FT := fiOf P pure, TT := fun t => if good.contains t then tiOf P t else none, pure := pure, ext := ext }

theorem tiOk_of {P : Program} {good : List TypeId} (hg : good.all (tiCheck P good) = true) {pure : FuncId → Bool} {ext : FuncId → Option (List AV → AHeap → Option (AV × AHeap))} {t : TypeId} {ti : TI}
    (h : (ctxOf P good pure ext).TT t = some ti) : TIok (ctxOf P good pure ext) t ti := by
  simp only [List.all_eq_true] at hg
  have hTT : ∀ e, good.contains e = true → ∃ te, tiOf P e = some te ∧ (ctxOf P good pure ext).TT e = some te := fun e he => by
    have hc := hg e (by simpa using he)
    unfold tiCheck at hc
    split at hc
    · rename_i te _ h1 _
      exact ⟨te, h1, by show (if good.contains e then tiOf P e else none) = _; rw [if_pos he, h1]⟩
    · cases hc
  have h' : good.contains t = true ∧ tiOf P t = some ti := by
    simp only [ctxOf] at h
    split at h
    · exact ⟨by assumption, h⟩
    · cases h
  obtain ⟨hgt, hti⟩ := h'
  have hc := hg t (by simpa using hgt)
  unfold tiCheck at hc
  rw [hti] at hc
  have hti' := hti
  unfold tiOf at hti'
  split at hti'
  · rename_i k info hk hinfo
    rw [hinfo] at hc
    split at hti'
    · rename_i z hz
      simp only [Option.map_eq_some_iff] at hti'
      obtain ⟨zero, hzero, hte⟩ := hti'
      subst hte
      simp only [hz, Bool.and_eq_true, beq_iff_eq] at hc
      obtain ⟨⟨hzs, hza⟩, hkk⟩ := hc
      refine ⟨⟨info, hinfo, rfl, rfl, z, hz, hzero, hzs, fun ha => ?_, fun ha => ?_⟩, ?_, fun ks hks => ?_⟩
      · simp only at ha hza
        rw [ha] at hza
        cases z <;> simp [isAggV] at hza
        exact ⟨_, rfl⟩
      · simp only at ha hza
        rw [ha] at hza
        cases z <;> simp [isAggV] at hza <;> rfl
      · unfold kindOf at hk
        have hP : (ctxOf P good pure ext).P = P := rfl
        split at hk <;> simp only [Option.some.injEq, reduceCtorEq] at hk
        all_goals (rename_i hu; subst hk; simp only [KOk, hP])
        · exact ⟨hu, by simpa using hkk⟩
        · exact ⟨hu, by simpa using hkk⟩
        · exact ⟨hu, by simpa using hkk⟩
        · exact ⟨hu, by simpa using hkk⟩
        · exact ⟨hu, by simpa using hkk⟩
        · exact ⟨⟨_, hu⟩, by simpa using hkk⟩
        · simp only [Bool.and_eq_true, beq_iff_eq] at hkk
          obtain ⟨te, _, h2⟩ := hTT _ hkk.2
          exact ⟨hu, hkk.1, te, h2⟩
        · simp only [Bool.and_eq_true] at hkk
          obtain ⟨te, h1, h2⟩ := hTT _ hkk.1
          rw [h1] at hkk
          simp only [Bool.and_eq_true, bne_iff_ne, ne_eq, beq_iff_eq] at hkk
          exact ⟨hu, te, h2, hkk.2.1, hkk.2.2⟩
        · refine ⟨_, hu, rfl, fun f hf => ?_⟩
          simp only [List.all_eq_true] at hkk
          have := hkk (f.type, f.offset) (List.mem_map.mpr ⟨f, hf, rfl⟩)
          simp only [Bool.and_eq_true] at this
          obtain ⟨tf, h1, h2⟩ := hTT _ this.1
          rw [h1] at this
          simp only [Bool.and_eq_true, bne_iff_ne, ne_eq, decide_eq_true_eq] at this
          exact ⟨tf, h2, this.2.1, this.2.2⟩
        · exact ⟨⟨_, _, _, hu⟩, by simpa using hkk⟩
        · exact ⟨⟨_, hu⟩, by simpa using hkk⟩
      · simp only at hks
        split at hks
        · cases hks
        · rename_i hne
          exact ⟨hks, by show P.eqGuardType P.depth t = false; simpa using hne⟩
    · cases hti'
  · cases hti'

theorem fiOk_of {P : Program} {good : List TypeId} {pure : FuncId → Bool} {ext : FuncId → Option (List AV → AHeap → Option (AV × AHeap))} {f : FuncId} {fi : FI} (h : (ctxOf P good pure ext).FT f = some fi) : FIok (ctxOf P good pure ext) f fi := by
  have h' : fiOf P pure f = some fi := h
  unfold fiOf at h'
  split at h'
  · rename_i fn hfn
    split at h'
    · cases h'
    · rename_i hne
      split at h'
      · rename_i c hc
        simp only [Option.map_eq_some_iff] at h'
        obtain ⟨b, hb, rfl⟩ := h'
        exact ⟨fn, c, hfn, hc, hb, rfl, rfl, by simpa using hne⟩
      · cases h'
  · cases h'

theorem cOk_of {P : Program} {good : List TypeId} {pure : FuncId → Bool} {ext : FuncId → Option (List AV → AHeap → Option (AV × AHeap))} (hg : good.all (tiCheck P good) = true) (hx : ExtOk (ctxOf P good pure ext)) (hmix : P.follows .mixedOrders = true) : COk (ctxOf P good pure ext) :=
  ⟨fun _ _ h => tiOk_of hg h, fun _ _ h => fiOk_of h, hx, hmix⟩

theorem extOk_none {P : Program} {good : List TypeId} {pure : FuncId → Bool} : ExtOk (ctxOf P good pure (fun _ => none)) :=
  ⟨(fun f g args H r H' h => by cases h), (fun f g args H r H' h => by cases h)⟩

end Go.BX
