import Derived.Test.YtmbagennmeahhaaBCtx
import Derived.Test.YtmbagennmeahhaaBEv
import Derived.Laws.Externs
namespace Go.BX
set_option linter.unusedVariables false
set_option linter.unusedSimpArgs false

/-! # Functions without a body: two texts compared, a byte looked for -/

def cmpL : Bytes → Bytes → Int
  | [], [] => 0
  | [], _ :: _ => -1
  | _ :: _, [] => 1
  | x :: xs, y :: ys => if x = y then cmpL xs ys else if x < y then -1 else 1

def idxL (c : UInt8) : Bytes → Nat → Int
  | [], _ => -1
  | x :: xs, i => if x = c then i else idxL c xs (i + 1)

theorem find_range_succ (p : Nat → Bool) (n : Nat) : (List.range (n + 1)).find? p = if p 0 then some 0 else ((List.range n).find? fun i => p (i + 1)).map (· + 1) := by
  rw [List.range_succ_eq_map, List.find?_cons]
  cases h : p 0 with
  | true => simp
  | false => simp [List.find?_map, Function.comp_def]

theorem get_bytes (s : ByteArray) (i : Nat) : s[i]! = (s.data.toList)[i]?.getD default := by
  rw [getElem!_def]
  by_cases h : i < s.size
  · have h1 : s[i]? = some s[i] := getElem?_pos s i h
    rw [h1]
    have h2 : i < s.data.toList.length := by simpa using h
    rw [List.getElem?_eq_getElem h2]
    rfl
  · have h1 : s[i]? = none := getElem?_neg s i h
    rw [h1, List.getElem?_eq_none (by simpa using h)]
    rfl

def cmpR (a b : Bytes) : Int :=
  match (List.range (min a.length b.length)).find? fun i => a[i]?.getD default != b[i]?.getD default with
  | some i => if a[i]?.getD default < b[i]?.getD default then -1 else 1
  | none => if a.length < b.length then -1 else if a.length > b.length then 1 else 0

theorem cmpR_eq : ∀ a b, cmpR a b = cmpL a b
  | [], [] => rfl
  | [], y :: ys => by simp [cmpR, cmpL]
  | x :: xs, [] => by simp [cmpR, cmpL]
  | x :: xs, y :: ys => by
    have ih := cmpR_eq xs ys
    unfold cmpR cmpL
    simp only [List.length_cons, Nat.succ_min_succ, find_range_succ, List.getElem?_cons_zero, Option.getD_some, List.getElem?_cons_succ]
    by_cases hxy : x = y
    · subst hxy
      simp only [bne_self_eq_false, Bool.false_eq_true, if_false, if_true]
      rw [← ih]
      unfold cmpR
      cases (List.range (min xs.length ys.length)).find? fun i => xs[i]?.getD default != ys[i]?.getD default with
      | none => simp
      | some i => simp
    · have : (x != y) = true := by simpa using hxy
      simp only [this, if_true, hxy, if_false, List.getElem?_cons_zero, Option.getD_some]

theorem cmp_ext (a b : ByteArray) : Extern.BytealgCompare.cmp a b = cmpL a.data.toList b.data.toList := by
  rw [← cmpR_eq]
  unfold Extern.BytealgCompare.cmp cmpR
  simp only [get_bytes]
  have h1 : a.data.toList.length = a.size := rfl
  have h2 : b.data.toList.length = b.size := rfl
  rw [h1, h2]
  cases (List.range (min a.size b.size)).find? fun i => a.data.toList[i]?.getD default != b.data.toList[i]?.getD default <;> rfl

theorem idx_aux (c : UInt8) : ∀ (s : Bytes) (k : Nat), (match (List.range s.length).find? fun i => s[i]?.getD default == c with | some i => ((i + k : Nat) : Int) | none => -1) = idxL c s k
  | [], k => rfl
  | x :: xs, k => by
    have ih := idx_aux c xs (k + 1)
    unfold idxL
    simp only [List.length_cons, find_range_succ, List.getElem?_cons_zero, Option.getD_some, List.getElem?_cons_succ]
    by_cases h : x = c
    · simp [h]
    · have : (x == c) = false := by simpa using h
      simp only [this, Bool.false_eq_true, if_false, h]
      rw [← ih]
      cases (List.range xs.length).find? fun i => xs[i]?.getD default == c with
      | none => simp
      | some i => simp only [Option.map_some]; congr 1; omega

theorem idx_ext (s : ByteArray) (c : UInt8) : firstIdx s c = idxL c s.data.toList 0 := by
  rw [← idx_aux]
  unfold firstIdx
  simp only [get_bytes, Nat.add_zero]
  have h1 : s.data.toList.length = s.size := rfl
  rw [h1]
  cases (List.range s.size).find? fun i => s.data.toList[i]?.getD default == c <;> rfl

def cmpG : List AV → AHeap → Option (AV × AHeap)
  | [.str a, .str b], H => some (.int .i64 (cmpL a b), H)
  | _, _ => none

def idxG : List AV → AHeap → Option (AV × AHeap)
  | [.str s, .int .u8 c], H => some (.int .i64 (idxL c.toNat.toUInt8 s 0), H)
  | _, _ => none

variable {C : Ctx} {w : World} {U : Nat → Prop} {ι : Nat → Option Nat}

/-- What an extern function is in the program. -/
structure IsExt (P : Program) (f : FuncId) (fn : Func) (e : Array Value → Sem Value) : Prop where
  hf : P.funcs[f]? = some fn
  hname : (fn.name == "runtime.NumGoroutine") = false
  hb : fn.body.isNone = true
  hn : Extern.findNext fn = none
  he : Extern.find fn = some e

theorem inv_ext {f : FuncId} {fn : Func} {e : Array Value → Sem Value} (h : IsExt C.P f fn e) {H : AHeap} (hH : HRel C w U ι H) {vs : List Value} {v : Value} {r : AV} (hr : (e vs.toArray).run C.P w = .ok v w) (hv : VRel w U ι r v) :
    InvN C.P f vs w (Post C w U ι H H r) := by
  refine .inl ⟨v, w, ?_, U, ι, ⟨Ext.refl _ _ _, hH, hv⟩, Fresh.refl _ _⟩
  rw [run_callFunc_extern h.hf h.hname h.hb h.hn h.he, hr]
  rfl

theorem cmp_sound {f : FuncId} {fn : Func} (h : IsExt C.P f fn Extern.BytealgCompare.compare) {args : List AV} {H H' : AHeap} {r : AV} (hg : cmpG args H = some (r, H')) (hH : HRel C w U ι H) {vs : List Value} (ha : LsRel w U ι args vs) :
    InvN C.P f vs w (Post C w U ι H H' r) := by
  unfold cmpG at hg
  split at hg
  · rename_i H0 a b
    cases hg
    obtain ⟨v1, vs1, rfl, h1, ha1⟩ := ha.cases_cons
    obtain ⟨v2, vs2, rfl, h2, ha2⟩ := ha1.cases_cons
    obtain rfl := ha2.cases_nil
    cases h1 with
    | str _ s1 e1 =>
      cases h2 with
      | str _ s2 e2 =>
        refine inv_ext h hH (v := .int .i64 (cmpL a b)) ?_ (.int _ _)
        show Sem.run C.P (do pure (goInt (Extern.BytealgCompare.cmp (← Extern.Bytes.bytesOf (.string s1)) (← Extern.Bytes.bytesOf (.string s2))))) w = _
        simp only [Extern.Bytes.bytesOf, Sem.run_bind, Sem.run_pure, Result.andThen, cmp_ext, e1, e2, goInt]
  · cases hg

theorem idx_sound {f : FuncId} {fn : Func} (h : IsExt C.P f fn Extern.BytealgIndexByte.indexByte) {args : List AV} {H H' : AHeap} {r : AV} (hg : idxG args H = some (r, H')) (hH : HRel C w U ι H) {vs : List Value} (ha : LsRel w U ι args vs) :
    InvN C.P f vs w (Post C w U ι H H' r) := by
  unfold idxG at hg
  split at hg
  · rename_i H0 a c
    cases hg
    obtain ⟨v1, vs1, rfl, h1, ha1⟩ := ha.cases_cons
    obtain ⟨v2, vs2, rfl, h2, ha2⟩ := ha1.cases_cons
    obtain rfl := ha2.cases_nil
    cases h1 with
    | str _ s1 e1 =>
      cases h2 with
      | int =>
        refine inv_ext h hH (v := .int .i64 (idxL c.toNat.toUInt8 a 0)) ?_ (.int _ _)
        have := run_indexByte_string (P := C.P) s1 c w
        rw [idx_ext, e1] at this
        exact this
  · cases hg

theorem cmpG_mono {args : List AV} {H H' : AHeap} {r : AV} (h : cmpG args H = some (r, H')) : H.next ≤ H'.next := by
  unfold cmpG at h
  split at h <;> cases h
  exact Nat.le_refl _
theorem idxG_mono {args : List AV} {H H' : AHeap} {r : AV} (h : idxG args H = some (r, H')) : H.next ≤ H'.next := by
  unfold idxG at h
  split at h <;> cases h
  exact Nat.le_refl _

/-- A function that is given. -/
theorem pcall_ext {f : FuncId} {g : List AV → AHeap → Option (AV × AHeap)} (hx : C.ext f = some g) {args : List AV} {r r0 : AV} {H' : AHeap} (h : g args AHeap.empty = some (r0, H')) (hz : freeze H' r0 = some r) : PCall C f args r := by
  refine ⟨0, ?_⟩
  unfold pcall
  have : (clOf C 0).call f args AHeap.empty = some (r0, H') := by
    show (match C.ext f with | some g => g args AHeap.empty | none => _) = _
    rw [hx]; exact h
  rw [this]
  exact hz
end Go.BX
