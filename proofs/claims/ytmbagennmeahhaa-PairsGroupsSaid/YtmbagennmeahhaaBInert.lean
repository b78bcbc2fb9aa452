import Derived.Test.YtmbagennmeahhaaBEq
import Derived.Calls
import Derived.Laws.Concat
namespace Go.BX

/-! # Operations that touch no memory -/

variable {C : Ctx} {w : World} {U : Nat → Prop} {ι : Nat → Option Nat}

structure TOk (C : Ctx) : Prop where
  tt : ∀ t ti, C.TT t = some ti → TIok C t ti

theorem ev_sound {T : Nat → AV} {a : Act} (hT : TRel w U ι T a.tmps) {x : Operand} {b : AV} (h : ev T x = some b) : VRel w U ι b (a.eval x) := by
  cases x with
  | tmp t => simp only [ev, Option.some.injEq] at h; subst h; exact hT t
  | const v => exact ofConst_rel h
  | global g => cases h
  | func f => simp only [ev, Option.some.injEq] at h; subst h; exact .fn f [] [] [] [] rfl rfl (fun i a v h => by simp at h) (fun i a v h => by simp at h)

theorem evs_sound {T : Nat → AV} {a : Act} (hT : TRel w U ι T a.tmps) : ∀ {xs : List Operand} {bs : List AV}, evs T xs = some bs → LsRel w U ι bs (xs.map a.eval)
  | [], bs, h => by simp [evs] at h; subst h; exact LsRel.nil
  | x :: xs, bs, h => by
    simp only [evs] at h
    split at h
    · rename_i v vs hv hvs
      cases h
      exact LsRel.cons (ev_sound hT hv) (evs_sound hT hvs)
    · cases h

theorem parts_sound {T : Nat → AV} {a : Act} (hT : TRel w U ι T a.tmps) : ∀ {xs : List (Nat × Operand)} {bs : List (Nat × AV)}, parts_ T xs = some bs →
    bs.length = xs.length ∧ ∀ (i : Nat) (p : Nat × AV) (q : Nat × Operand), bs[i]? = some p → xs[i]? = some q → p.1 = q.1 ∧ VRel w U ι p.2 (a.eval q.2)
  | [], bs, h => by simp [parts_] at h; subst h; exact ⟨rfl, fun i p q h => by simp at h⟩
  | (i, x) :: xs, bs, h => by
    simp only [parts_] at h
    split at h
    · rename_i v vs hv hvs
      cases h
      obtain ⟨hl, hr⟩ := parts_sound hT hvs
      refine ⟨by simp [hl], fun j p q hp hq => ?_⟩
      cases j with
      | zero => simp at hp hq; subst hp hq; exact ⟨rfl, ev_sound hT hv⟩
      | succ j => simp at hp hq; exact hr j p q hp hq
    · cases h

theorem intBin_sound {op : BinOp} {k : IntKind} {a b : Int} {t : TypeId} {r : AV} (h : intBin op k a b = some r) : ∃ v, (Go.binOp op t (.int k a) (.int k b)).run C.P w = .ok v w ∧ VRel w U ι r v := by
  cases op <;> simp only [intBin, reduceCtorEq] at h
  · cases h; exact ⟨_, by simp [Go.binOp, Op.intArith], .int _ _⟩
  · cases h; exact ⟨_, by simp [Go.binOp, Op.intArith], .int _ _⟩
  · cases h; exact ⟨_, by simp [Go.binOp, Op.intArith], .int _ _⟩
  · split at h
    · cases h
    · rename_i hb; cases h; exact ⟨_, by simp [Go.binOp, Op.intDiv, hb], .int _ _⟩
  · split at h
    · cases h
    · rename_i hb; cases h; exact ⟨_, by simp [Go.binOp, Op.intDiv, hb], .int _ _⟩
  all_goals (cases h; exact ⟨_, by simp [Go.binOp, Op.intCmp], .bool _⟩)

theorem shiftBin_sound {op : BinOp} {k k' : IntKind} {a b : Int} {t : TypeId} {r : AV} (h : shiftBin op k a b = some r) : ∃ v, (Go.binOp op t (.int k a) (.int k' b)).run C.P w = .ok v w ∧ VRel w U ι r v := by
  unfold shiftBin at h
  split at h
  · cases h
  · rename_i hb
    cases op <;> simp only [reduceCtorEq] at h
    · cases h; exact ⟨_, by simp [Go.binOp, Op.shift, hb], .int _ _⟩
    · cases h; exact ⟨_, by simp [Go.binOp, Op.shift, hb], .int _ _⟩

theorem strBin_sound {op : BinOp} {x y : ByteArray} {t : TypeId} {r : AV} (h : strBin op x.data.toList y.data.toList = some r) : ∃ v, (Go.binOp op t (.string x) (.string y)).run C.P w = .ok v w ∧ VRel w U ι r v := by
  cases op <;> simp only [strBin, reduceCtorEq] at h
  · split at h
    · rename_i hl
      cases h
      have hl' : x.size + y.size ≤ 9223372036854775807 := by simpa using hl
      refine ⟨.string (x ++ y), ?_, .str _ _ ?_⟩
      · rw [show Go.binOp .add t (.string x) (.string y) = Op.stringOp .add x y from by simp [Go.binOp]]
        exact run_string_add_sum w x y hl'
      · rw [ByteArray.data_append, Array.toList_append]
    · cases h
  all_goals
    cases h
    refine ⟨.bool _, ?_, .bool _⟩
    simp only [Go.binOp, Op.stringOp, ByteArray.toList_eq]
    rfl

theorem fits_iff {n : Int} : fits n = true ↔ -9007199254740992 ≤ n ∧ n ≤ 9007199254740992 := by simp [fits]

theorem run_fadd {x y : Nat} {a b : Int} (hx : Flt.FInt x a) (hy : Flt.FInt y b) (h : fits (a + b) = true) : ∃ z, (Op.floatArith .add .f64 x y).run C.P w = .ok (.float .f64 z) w ∧ Flt.FInt z (a + b) := by
  obtain ⟨z, hz, hr⟩ := Flt.add_int hx hy (fits_iff.mp h).1 (fits_iff.mp h).2
  exact ⟨z, by simp [Op.floatArith, FloatKind.format, hz], hr⟩

theorem run_fsub {x y : Nat} {a b : Int} (hx : Flt.FInt x a) (hy : Flt.FInt y b) (h : fits (a - b) = true) : ∃ z, (Op.floatArith .sub .f64 x y).run C.P w = .ok (.float .f64 z) w ∧ Flt.FInt z (a - b) := by
  obtain ⟨z, hz, hr⟩ := Flt.sub_int hx hy (fits_iff.mp h).1 (fits_iff.mp h).2
  exact ⟨z, by simp [Op.floatArith, FloatKind.format, hz], hr⟩

theorem run_fmul {x y : Nat} {a b : Int} (hx : Flt.FInt x a) (hy : Flt.FInt y b) (h : fits (a * b) = true) : ∃ z, (Op.floatArith .mul .f64 x y).run C.P w = .ok (.float .f64 z) w ∧ Flt.FInt z (a * b) := by
  obtain ⟨z, hz, hr⟩ := Flt.mul_int hx hy (fits_iff.mp h).1 (fits_iff.mp h).2
  exact ⟨z, by simp [Op.floatArith, FloatKind.format, hz], hr⟩

theorem cpxBin_sound {op : BinOp} {a b c d : Int} {x y u v : Nat} {t : TypeId} {r : AV} (hx : Flt.FInt x a) (hy : Flt.FInt y b) (hu : Flt.FInt u c) (hv : Flt.FInt v d) (h : cpxBin op a b c d = some r) :
    ∃ z, (Go.binOp op t (.complex .f64 x y) (.complex .f64 u v)).run C.P w = .ok z w ∧ VRel w U ι r z := by
  cases op <;> simp only [cpxBin, reduceCtorEq] at h
  · split at h
    · rename_i hf
      simp only [Bool.and_eq_true] at hf
      cases h
      obtain ⟨z1, h1, r1⟩ := run_fadd (C := C) (w := w) hx hu hf.1
      obtain ⟨z2, h2, r2⟩ := run_fadd (C := C) (w := w) hy hv hf.2
      exact ⟨.complex .f64 z1 z2, by simp [Go.binOp, Op.complexOp, Op.Complex.arith, h1, h2], .cpx _ _ _ _ r1 r2⟩
    · cases h
  · split at h
    · rename_i hf
      simp only [Bool.and_eq_true] at hf
      cases h
      obtain ⟨z1, h1, r1⟩ := run_fsub (C := C) (w := w) hx hu hf.1
      obtain ⟨z2, h2, r2⟩ := run_fsub (C := C) (w := w) hy hv hf.2
      exact ⟨.complex .f64 z1 z2, by simp [Go.binOp, Op.complexOp, Op.Complex.arith, h1, h2], .cpx _ _ _ _ r1 r2⟩
    · cases h
  · split at h
    · rename_i hf
      simp only [Bool.and_eq_true] at hf
      cases h
      obtain ⟨p1, h1, r1⟩ := run_fmul (C := C) (w := w) hx hu hf.1.1.1
      obtain ⟨p2, h2, r2⟩ := run_fmul (C := C) (w := w) hy hv hf.1.1.2
      obtain ⟨p3, h3, r3⟩ := run_fsub (C := C) (w := w) r1 r2 hf.1.2
      obtain ⟨p4, h4, r4⟩ := run_fmul (C := C) (w := w) hx hv hf.2.1.1
      obtain ⟨p5, h5, r5⟩ := run_fmul (C := C) (w := w) hy hu hf.2.1.2
      obtain ⟨p6, h6, r6⟩ := run_fadd (C := C) (w := w) r4 r5 hf.2.2
      exact ⟨.complex .f64 p3 p6, by
        simp [Go.binOp, Op.complexOp, Op.Complex.product, Op.Complex.mul, Op.Complex.sub, Op.Complex.add, Op.Complex.arith, Op.Complex.conv, h1, h2, h3, h4, h5, h6], .cpx _ _ _ _ r3 r6⟩
    · cases h

theorem equal_succ (t : TypeId) (x y : Value) : Op.equal t x y = Op.equalIn (9999 + 1) t x y := rfl

theorem isNil_slice {P : Program} {a : AV} {v : Value} {r : Bool} {t e : TypeId} (ht : P.underlying t = some (.slice e)) (h : VRel w U ι a v) (hn : isNilSl a = some r) :
    (Op.equal t v (.slice none 0 0)).run P w = .ok r w ∧ (Op.equal t (.slice none 0 0) v).run P w = .ok r w := by
  rw [equal_succ, equal_succ]
  generalize 9999 = d
  cases h <;> simp [isNilSl] at hn <;> subst hn <;> simp [Op.equalIn, run_underlying ht]

theorem isNil_ptr {P : Program} {a : AV} {v : Value} {r : Bool} {t e : TypeId} (ht : P.underlying t = some (.pointer e)) (h : VRel w U ι a v) (hn : isNilPt a = some r) :
    (Op.equal t v (.pointer none)).run P w = .ok r w ∧ (Op.equal t (.pointer none) v).run P w = .ok r w := by
  rw [equal_succ, equal_succ]
  generalize 9999 = d
  cases h <;> simp [isNilPt] at hn <;> subst hn <;> simp [Op.equalIn, run_underlying ht]

theorem isNil_func {P : Program} {a : AV} {v : Value} {r : Bool} {t : TypeId} {x y : Array TypeId} {z : Bool} (ht : P.underlying t = some (.func x y z)) (h : VRel w U ι a v) (hn : isNilFn a = some r) :
    (Op.equal t v .nilFunc).run P w = .ok r w ∧ (Op.equal t .nilFunc v).run P w = .ok r w := by
  rw [equal_succ, equal_succ]
  generalize 9999 = d
  cases h <;> simp [isNilFn] at hn <;> subst hn <;> simp [Op.equalIn, run_underlying ht]

theorem asVal_of {cs : List AV} {v : Value} (h : VRel w U ι (.agg cs) v) : ∃ vs, v = .agg vs.toArray ∧ LsRel w U ι cs vs := by
  cases h with
  | agg _ vs hl h1 h => exact ⟨vs, rfl, hl, h⟩

theorem equal_agg (hC : TOk C) {t : TypeId} {i : TI} (hi : C.TT t = some i) {ks : List CK} (hk : i.eqk = some ks) (ha : i.kind.isAgg = true) {xs ys : List AV} {v u : Value} {r : Bool} (hx : VRel w U ι (.agg xs) v) (hy : VRel w U ι (.agg ys) u) (h : cellsEq ks xs ys = some r) :
    (Op.equal t v u).run C.P w = .ok r w := by
  obtain ⟨vs, rfl, hv⟩ := asVal_of hx
  obtain ⟨us, rfl, hu⟩ := asVal_of hy
  have hok := hC.tt t i hi
  obtain ⟨hf, hg⟩ := hok.eq ks hk
  have := equal_flat (P := C.P) w Op.maxDepth t ks hf true (by rw [hok.run_isAgg, ha]) xs ys vs us r hv hu h
  simpa [asVal, Op.equal] using this

/-- '==' of what is no number and no text. -/
theorem eqv_sound (hC : TOk C) {t : TypeId} {a b : AV} {v u : Value} {r : Bool} (ha : VRel w U ι a v) (hb : VRel w U ι b u) (h : eqv C t a b = some r) :
    (Op.equal t v u).run C.P w = .ok r w ∧ (∀ k n, v ≠ .int k n) ∧ (∀ s, v ≠ .string s) ∧ (∀ k n m, v ≠ .complex k n m) ∧ (∀ k n, v ≠ .float k n) ∧ (∀ (op : BinOp) (x y : Operand), (eqGuard op t x y v u).run C.P w = .ok () w) := by
  unfold eqv at h
  split at h
  · cases h
  · rename_i i hi
    have hk := (hC.tt t i hi).kind
    unfold KOk at hk
    split at h
    · rename_i e
      rw [e] at hk
      cases ha; cases hb
      simp only [Option.some.injEq] at h
      subst h
      refine ⟨?_, by simp, by simp, by simp, by simp, fun op x y => by cases op <;> simp [eqGuard]⟩
      rw [equal_succ]
      exact run_equalIn_bool' w 9999 t _ _ hk.1
    · rename_i fs e
      split at h
      · rename_i ks hks
        refine ⟨equal_agg hC hi hks (by rw [e]; rfl) ha hb h, ?_⟩
        cases ha; cases hb
        exact ⟨by simp, by simp, by simp, by simp, fun op x y => run_eqGuard_agg w op t x y _ _ ((hC.tt t i hi).eq ks hks).2⟩
      · cases h
    · rename_i n el e
      split at h
      · rename_i ks hks
        refine ⟨equal_agg hC hi hks (by rw [e]; rfl) ha hb h, ?_⟩
        cases ha; cases hb
        exact ⟨by simp, by simp, by simp, by simp, fun op x y => run_eqGuard_agg w op t x y _ _ ((hC.tt t i hi).eq ks hks).2⟩
      · cases h
    · rename_i e
      rw [e] at hk
      obtain ⟨⟨el, hu⟩, _⟩ := hk
      have hh := (isNil_ptr hu ha h).1
      cases hb
      refine ⟨hh, ?_⟩
      cases ha <;> simp [isNilPt] at h <;> exact ⟨by simp, by simp, by simp, by simp, fun op x y => by cases op <;> simp [eqGuard]⟩
    · have e : i.kind = TK.ptr := ‹_›
      rw [e] at hk
      obtain ⟨⟨el, hu⟩, _⟩ := hk
      have hh := (isNil_ptr hu hb h).2
      cases ha
      refine ⟨hh, ?_⟩
      cases hb <;> simp [isNilPt] at h <;> exact ⟨by simp, by simp, by simp, by simp, fun op x y => by cases op <;> simp [eqGuard]⟩
    · rename_i el e
      rw [e] at hk
      have hh := (isNil_slice hk.1 ha h).1
      cases hb
      refine ⟨hh, ?_⟩
      cases ha <;> simp [isNilSl] at h <;> exact ⟨by simp, by simp, by simp, by simp, fun op x y => by cases op <;> simp [eqGuard]⟩
    · rename_i el _ _
      have e : i.kind = TK.slice el := ‹_›
      rw [e] at hk
      have hh := (isNil_slice hk.1 hb h).2
      cases ha
      refine ⟨hh, ?_⟩
      cases hb <;> simp [isNilSl] at h <;> exact ⟨by simp, by simp, by simp, by simp, fun op x y => by cases op <;> simp [eqGuard]⟩
    · rename_i e
      rw [e] at hk
      obtain ⟨⟨_, _, _, hu⟩, _⟩ := hk
      have hh := (isNil_func hu ha h).1
      cases hb
      refine ⟨hh, ?_⟩
      cases ha <;> simp [isNilFn] at h <;> exact ⟨by simp, by simp, by simp, by simp, fun op x y => by cases op <;> simp [eqGuard]⟩
    · have e : i.kind = TK.func := ‹_›
      rw [e] at hk
      obtain ⟨⟨_, _, _, hu⟩, _⟩ := hk
      have hh := (isNil_func hu hb h).2
      cases ha
      refine ⟨hh, ?_⟩
      cases hb <;> simp [isNilFn] at h <;> exact ⟨by simp, by simp, by simp, by simp, fun op x y => by cases op <;> simp [eqGuard]⟩
    · cases h

theorem bin_sound (hC : TOk C) {op : BinOp} {t : TypeId} {a b r : AV} {va vb : Value} {x y : Operand} (ha : VRel w U ι a va) (hb : VRel w U ι b vb) (h : bin C op t a b = some r) :
    ∃ v, (do eqGuard op t x y va vb; Go.binOp op t va vb : Sem Value).run C.P w = .ok v w ∧ VRel w U ι r v := by
  unfold bin at h
  split at h
  · rename_i k n k' m
    cases ha; cases hb
    have hg : (eqGuard op t x y (.int k n) (.int k' m)).run C.P w = .ok () w := by cases op <;> simp [eqGuard]
    simp only [Sem.run_bind, hg, Result.andThen_ok]
    split at h
    · exact shiftBin_sound h
    · exact shiftBin_sound h
    · split at h
      · rename_i hk; subst hk; exact intBin_sound h
      · cases h
  · rename_i s s'
    cases ha with
    | str _ p hp =>
      cases hb with
      | str _ q hq =>
        have hg : (eqGuard op t x y (.string p) (.string q)).run C.P w = .ok () w := by cases op <;> simp [eqGuard]
        simp only [Sem.run_bind, hg, Result.andThen_ok]
        subst hp hq
        exact strBin_sound h
  · cases ha with
    | cpx _ _ _ _ h1 h2 =>
      cases hb with
      | cpx _ _ _ _ h3 h4 =>
        have hg : ∀ p q p' q', (eqGuard op t x y (.complex .f64 p q) (.complex .f64 p' q')).run C.P w = .ok () w := by intros; cases op <;> simp [eqGuard]
        simp only [Sem.run_bind, hg, Result.andThen_ok]
        exact cpxBin_sound h1 h2 h3 h4 h
  · split at h
    · simp only [Option.map_eq_some_iff] at h
      obtain ⟨q, hq, rfl⟩ := h
      obtain ⟨h1, h2, h3, h4, h5, h6⟩ := eqv_sound hC ha hb hq
      refine ⟨.bool q, ?_, .bool q⟩
      simp only [Sem.run_bind, h6, Result.andThen_ok]
      have : Go.binOp .eql t va vb = (do pure (.bool (← Op.equal t va vb)) : Sem Value) := by
        cases va <;> first | rfl | (exact absurd rfl (h2 _ _)) | (exact absurd rfl (h3 _)) | (exact absurd rfl (h4 _ _ _)) | (exact absurd rfl (h5 _ _)) | (cases vb <;> rfl)
      rw [this]
      simp [h1]
    · simp only [Option.map_eq_some_iff] at h
      obtain ⟨q, hq, rfl⟩ := h
      obtain ⟨h1, h2, h3, h4, h5, h6⟩ := eqv_sound hC ha hb hq
      refine ⟨.bool (!q), ?_, .bool _⟩
      simp only [Sem.run_bind, h6, Result.andThen_ok]
      have : Go.binOp .neq t va vb = (do pure (.bool (!(← Op.equal t va vb))) : Sem Value) := by
        cases va <;> first | rfl | (exact absurd rfl (h2 _ _)) | (exact absurd rfl (h3 _)) | (exact absurd rfl (h4 _ _ _)) | (exact absurd rfl (h5 _ _)) | (cases vb <;> rfl)
      rw [this]
      simp [h1]
    · cases h

end Go.BX
