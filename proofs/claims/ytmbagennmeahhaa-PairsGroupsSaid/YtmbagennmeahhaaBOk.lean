import Derived.Test.YtmbagennmeahhaaBStrip
import Derived.Laws.Cells
import Derived.Laws.CopyRow
import Derived.Laws.AppendOwn
import Derived.Laws.StructEq
namespace Go.BX

/-! # What is asked of the tables of types and functions -/

/-- The kinds of a type's cells, where its equality is that of its cells. -/
def flatFields (P : Program) (rec_ : TypeId → Option (List CK)) : List Field → Nat → Option (List CK)
  | [], _ => some []
  | f :: fs, off =>
    if f.name = "_" ∨ f.offset ≠ off then none else
    match rec_ f.type with
    | some ks => if P.cellsOf f.type = ks.length ∧ ks.length ≠ 0 then (flatFields P rec_ fs (off + ks.length)).map (ks ++ ·) else none
    | none => none

def flatT (P : Program) : Nat → TypeId → Option (List CK)
  | 0, _ => none
  | d + 1, t =>
    match P.underlying t with
    | some .bool => some [.bool]
    | some (.int k) => some [.int k]
    | some .string => some [.str]
    | some (.struct fs) => if P.stoodInHeld t then none else flatFields P (flatT P d) fs.toList 0
    | some (.array n e) => match flatT P d e with
      | some ks => if P.cellsOf e = ks.length ∧ ks.length ≠ 0 then some (List.replicate n ks).flatten else none
      | none => none
    | _ => none

def KOk (C : Ctx) (t : TypeId) (ti : TI) : Prop :=
  match ti.kind with
  | .bool => C.P.underlying t = some .bool ∧ ti.size = 1
  | .int k => C.P.underlying t = some (.int k) ∧ ti.size = 1
  | .str => C.P.underlying t = some .string ∧ ti.size = 1
  | .flt => C.P.underlying t = some (.float .f64) ∧ ti.size = 1
  | .cpx => C.P.underlying t = some (.complex .f64) ∧ ti.size = 1
  | .ptr => (∃ e, C.P.underlying t = some (.pointer e)) ∧ ti.size = 1
  | .slice e => C.P.underlying t = some (.slice e) ∧ ti.size = 1 ∧ ∃ te, C.TT e = some te
  | .array n e => C.P.underlying t = some (.array n e) ∧ ∃ te, C.TT e = some te ∧ te.size ≠ 0 ∧ ti.size = n * te.size
  | .struct fs => ∃ fl : Array Field, C.P.underlying t = some (.struct fl) ∧ fs = fl.toList.map (fun f => (f.type, f.offset)) ∧
      ∀ f, f ∈ fl.toList → ∃ tf, C.TT f.type = some tf ∧ tf.size ≠ 0 ∧ f.offset + tf.size ≤ ti.size
  | .func => (∃ a b c, C.P.underlying t = some (.func a b c)) ∧ ti.size = 1
  | .iface => (∃ ms, C.P.underlying t = some (.interface ms)) ∧ ti.size = 1

structure TIok (C : Ctx) (t : TypeId) (ti : TI) : Prop where
  info : ∃ info, C.P.info? t = some info ∧ info.size = ti.size ∧ info.bytes = ti.bytes ∧
    ∃ z, info.zero = some z ∧ mapO ofConst z.cells.toList = some ti.zero ∧ z.cells.size = ti.size ∧ (ti.kind.isAgg = true → ∃ cs, z = .agg cs) ∧ (ti.kind.isAgg = false → z.cells = #[z])
  kind : KOk C t ti
  eq : ∀ ks, ti.eqk = some ks → flatT C.P Op.maxDepth t = some ks ∧ C.P.eqGuardType C.P.depth t = false

structure FIok (C : Ctx) (f : FuncId) (fi : FI) : Prop where
  fn : ∃ fn c, C.P.funcs[f]? = some fn ∧ fn.body = some c ∧ strip C.pure fi.ntmps c = some fi.body ∧ fn.ntmps = fi.ntmps ∧ fn.results.toList = fi.results ∧ (fn.name == "runtime.NumGoroutine") = false

variable {C : Ctx} {w : World} {U : Nat → Prop} {ι : Nat → Option Nat}

theorem mapO_len {α β : Type} {f : α → Option β} : ∀ {l : List α} {r : List β}, mapO f l = some r → r.length = l.length
  | [], r, h => by simp [mapO] at h; subst h; rfl
  | x :: xs, r, h => by
    simp only [mapO] at h
    split at h
    · rename_i y ys _ hys
      cases h
      simp [mapO_len hys]
    · cases h

theorem mapO_get {α β : Type} {f : α → Option β} : ∀ {l : List α} {r : List β}, mapO f l = some r → ∀ (i : Nat) (x : α), l[i]? = some x → ∃ y, r[i]? = some y ∧ f x = some y
  | [], r, h, i, x, hx => by simp at hx
  | z :: zs, r, h, i, x, hx => by
    simp only [mapO] at h
    split at h
    · rename_i y ys hy hys
      cases h
      cases i with
      | zero => simp at hx; subst hx; exact ⟨y, rfl, hy⟩
      | succ i => simp at hx ⊢; exact mapO_get hys i x hx
    · cases h

theorem mapO_get' {α β : Type} {f : α → Option β} {l : List α} {r : List β} (h : mapO f l = some r) (i : Nat) (y : β) (hy : r[i]? = some y) : ∃ x, l[i]? = some x ∧ f x = some y := by
  have hi : i < l.length := by
    rw [← mapO_len h]; exact (List.getElem?_eq_some_iff.mp hy).1
  obtain ⟨y', hy', hf⟩ := mapO_get h i l[i] (List.getElem?_eq_getElem hi)
  rw [hy] at hy'
  cases hy'
  exact ⟨_, List.getElem?_eq_getElem hi, hf⟩

theorem fltOf_int {b : Nat} {n : Int} (h : fltOf b = some n) : Flt.FInt b n := by
  unfold fltOf at h
  unfold Flt.FInt Flt.IsInt
  split at h
  · rename_i s m e hd
    simp only at h
    split at h
    · rename_i hm
      rw [hd]
      refine ⟨s, m, e, _, rfl, hm, ?_⟩
      cases h; rfl
    · cases h
  · cases h

theorem ofConst_rel {v : Value} {a : AV} (h : ofConst v = some a) : VRel w U ι a v := by
  unfold ofConst at h
  split at h
  · cases h; constructor
  · cases h; constructor
  · cases h; exact .str _ _ rfl
  · simp only [Option.map_eq_some_iff] at h
    obtain ⟨n, hn, rfl⟩ := h
    exact .flt _ _ (fltOf_int hn)
  · split at h
    · rename_i x y hx hy
      cases h
      exact .cpx _ _ _ _ (fltOf_int hx) (fltOf_int hy)
    · cases h
  · cases h; constructor
  · cases h; constructor
  · cases h; constructor
  · cases h; constructor
  · cases h

theorem ofConst_one {v : Value} {a : AV} (h : ofConst v = some a) : a.one = true := by
  unfold ofConst at h
  split at h <;> first | (cases h; rfl) | (simp only [Option.map_eq_some_iff] at h; obtain ⟨n, hn, rfl⟩ := h; rfl) | (split at h <;> first | (cases h; rfl) | cases h) | cases h

/-- A value of one cell is one in the machine too. -/
theorem VRel.one {a : AV} {v : Value} (h : VRel w U ι a v) (h1 : a.one = true) : v.oneCell' = true ∧ v.cells = #[v] := by
  cases h <;> first | (simp [AV.one] at h1; done) | exact ⟨rfl, rfl⟩

theorem TIok.run_isAgg {t : TypeId} {ti : TI} (h : TIok C t ti) : (isAgg t).run C.P w = .ok ti.kind.isAgg w := by
  have hk := h.kind
  unfold KOk at hk
  unfold isAgg
  cases e : ti.kind <;> rw [e] at hk <;> simp only [TK.isAgg] <;> first
    | simp [run_underlying hk.1]
    | (obtain ⟨⟨_, hu⟩, _⟩ := hk; simp [run_underlying hu])
    | (obtain ⟨_, hu, _⟩ := hk; simp [run_underlying hu])
    | (obtain ⟨⟨_, _, _, hu⟩, _⟩ := hk; simp [run_underlying hu])

theorem TIok.run_sizeOf {t : TypeId} {ti : TI} (h : TIok C t ti) : (sizeOf t).run C.P w = .ok ti.size w := by
  obtain ⟨i, hi, hs, _⟩ := h.info
  simp [sizeOf, typeInfo, hi, hs]

theorem TIok.run_bytes {t : TypeId} {ti : TI} (h : TIok C t ti) : ∃ i, (typeInfo t).run C.P w = .ok i w ∧ i.bytes = ti.bytes ∧ i.size = ti.size := by
  obtain ⟨i, hi, hs, hb, _⟩ := h.info
  exact ⟨i, by simp [typeInfo, hi], hb, hs⟩

theorem TIok.run_zero {t : TypeId} {ti : TI} (h : TIok C t ti) : ∃ z, (zeroValue t).run C.P w = .ok z w ∧ mapO ofConst z.cells.toList = some ti.zero ∧ z.cells.size = ti.size := by
  obtain ⟨i, hi, _, _, z, hz, hm, hs, _⟩ := h.info
  exact ⟨z, by simp [zeroValue, typeInfo, hi, hz], hm, hs⟩

theorem TIok.zero_len {t : TypeId} {ti : TI} (h : TIok C t ti) : ti.zero.length = ti.size := by
  obtain ⟨i, hi, _, _, z, hz, hm, hs, _⟩ := h.info
  rw [mapO_len hm, ← hs]; simp

theorem TIok.zero_one {t : TypeId} {ti : TI} (h : TIok C t ti) : ∀ a, a ∈ ti.zero → a.one = true := by
  obtain ⟨i, hi, _, _, z, hz, hm, hs, _⟩ := h.info
  intro a ha
  obtain ⟨j, hj⟩ := List.getElem?_of_mem ha
  obtain ⟨x, _, hx⟩ := mapO_get' hm j a hj
  exact ofConst_one hx

theorem TIok.size1 {t : TypeId} {ti : TI} (h : TIok C t ti) (ha : ti.kind.isAgg = false) : ti.size = 1 := by
  have hk := h.kind
  unfold KOk at hk
  cases e : ti.kind <;> rw [e] at hk ha <;> simp [TK.isAgg] at ha <;> first | exact hk.2 | exact hk.2.1

/-- Lists of values that stand for lists of abstract ones. -/
def LsRel (w : World) (U : Nat → Prop) (ι : Nat → Option Nat) (cs : List AV) (vs : List Value) : Prop :=
  vs.length = cs.length ∧ ∀ (i : Nat) (a : AV) (v : Value), cs[i]? = some a → vs[i]? = some v → VRel w U ι a v

theorem LsRel.nil : LsRel w U ι [] [] := ⟨rfl, fun i a v h => by simp at h⟩

theorem LsRel.cons {a : AV} {v : Value} {cs : List AV} {vs : List Value} (h : VRel w U ι a v) (hs : LsRel w U ι cs vs) : LsRel w U ι (a :: cs) (v :: vs) :=
  ⟨by simp [hs.1], fun i b u hb hu => by
    cases i with
    | zero => simp at hb hu; subst hb hu; exact h
    | succ i => simp at hb hu; exact hs.2 i b u hb hu⟩

theorem LsRel.get {cs : List AV} {vs : List Value} (h : LsRel w U ι cs vs) {i : Nat} {a : AV} (ha : cs[i]? = some a) : ∃ v, vs[i]? = some v ∧ VRel w U ι a v := by
  have hi : i < cs.length := (List.getElem?_eq_some_iff.mp ha).1
  have hi' : i < vs.length := by rw [h.1]; exact hi
  exact ⟨vs[i], List.getElem?_eq_getElem hi', h.2 i a _ ha (List.getElem?_eq_getElem hi')⟩

theorem LsRel.take {cs : List AV} {vs : List Value} (h : LsRel w U ι cs vs) (n : Nat) : LsRel w U ι (cs.take n) (vs.take n) :=
  ⟨by simp [h.1], fun i a v ha hv => by
    rw [List.getElem?_take] at ha hv
    split at ha
    · rename_i hlt; rw [if_pos hlt] at hv; exact h.2 i a v ha hv
    · cases ha⟩

theorem LsRel.drop {cs : List AV} {vs : List Value} (h : LsRel w U ι cs vs) (n : Nat) : LsRel w U ι (cs.drop n) (vs.drop n) :=
  ⟨by simp [h.1], fun i a v ha hv => by
    rw [List.getElem?_drop] at ha hv
    exact h.2 _ a v ha hv⟩

theorem LsRel.append {cs ds : List AV} {vs us : List Value} (h : LsRel w U ι cs vs) (h' : LsRel w U ι ds us) : LsRel w U ι (cs ++ ds) (vs ++ us) :=
  ⟨by simp [h.1, h'.1], fun i a v ha hv => by
    rw [List.getElem?_append] at ha hv
    rw [h.1] at hv
    split at ha
    · rename_i hlt; rw [if_pos hlt] at hv; exact h.2 i a v ha hv
    · rename_i hlt; rw [if_neg hlt] at hv; exact h'.2 _ a v ha hv⟩

theorem LsRel.ofConsts : ∀ {vs : List Value} {cs : List AV}, mapO ofConst vs = some cs → LsRel w U ι cs vs := by
  intro vs cs h
  refine ⟨(mapO_len h).symm, fun i a v ha hv => ?_⟩
  obtain ⟨b, hb, hf⟩ := mapO_get h i v hv
  rw [ha] at hb; cases hb
  exact ofConst_rel hf

/-- A part of an aggregate. -/
theorem part_sound {t : TypeId} {ti : TI} (ht : TIok C t ti) {cs : List AV} {vs : List Value} {off : Nat} {a : AV} (hr : LsRel w U ι cs vs) (h1 : ∀ a, a ∈ cs → a.one = true) (h : part ti cs off = some a) :
    ∃ v, (Go.part t vs.toArray off).run C.P w = .ok v w ∧ VRel w U ι a v := by
  unfold part at h
  unfold Go.part
  simp only [Sem.run_bind, ht.run_isAgg, Result.andThen_ok]
  by_cases hg : ti.kind.isAgg = true
  · rw [if_pos hg] at h
    split at h
    · rename_i hle
      cases h
      refine ⟨.agg ((vs.drop off).take ti.size).toArray, ?_, ?_⟩
      · simp only [hg, if_true, Sem.run_bind, ht.run_sizeOf, Result.andThen_ok, Sem.run_pure]
        congr 2
        apply Array.ext'
        simp [List.extract_eq_take_drop]
      · have hh := (hr.drop off).take ti.size
        exact .agg _ _ hh.1 (fun a ha => h1 a (List.mem_of_mem_drop (List.mem_of_mem_take ha))) hh.2
    · cases h
  · rw [if_neg hg] at h
    obtain ⟨v, hv, hvr⟩ := hr.get h
    refine ⟨v, ?_, hvr⟩
    simp [hg, hv]

/-- A value's cells. -/
theorem VRel.cells_rel {a : AV} {v : Value} (h : VRel w U ι a v) (hp : a.plain = true) : LsRel w U ι a.cells v.cells.toList ∧ ∀ x, x ∈ a.cells → x.one = true := by
  cases h with
  | agg cs vs hl h1 h => exact ⟨⟨by simpa [Value.cells, AV.cells] using hl, fun i a v ha hv => h i a v ha (by simpa [Value.cells] using hv)⟩, h1⟩
  | any => simp [AV.plain] at hp
  | undef => simp [AV.plain] at hp
  | tuple => simp [AV.plain] at hp
  | _ =>
    refine ⟨?_, by simp [AV.cells, AV.one]⟩
    simp only [Value.cells, AV.cells]
    refine LsRel.cons ?_ LsRel.nil
    first | (constructor <;> assumption) | constructor

end Go.BX
