import Derived.Test.YtmbagennmeahhaaBIter
namespace Go.BX
set_option linter.unusedSimpArgs false
set_option linter.unusedVariables false

/-! # A row appended; a round called -/

variable {C : Ctx} {fn : FuncId} {T : Nat → AV} {ds : List ADef} {ro : Option Nat} {H : AHeap} {Q : AV → AHeap → Prop} {k : List AItem}

/-- Is it a slice of te? -/
def isSl (C : Ctx) (t te : TypeId) : Prop := ∃ ti, C.TT t = some ti ∧ ti.kind = .slice te

theorem app_row {t te kk by_ n g : Nat} {A : Nat → Blk} {es : List (List AV)} {row : List AV} (h1 : isSl C t te) (h2 : ∃ ti, C.TT te = some ti ∧ ti.size = kk ∧ ti.bytes = by_) (hg : A g = .cells te kk es) (hn : g ≠ n) (hm : (es.length + 1) * by_ ≤ most) (hm2 : es.length + 1 ≤ most) :
    builtinM C ⟨n + 1, upd A n (.cells te kk [row])⟩ .append [t, t] [.slc g kk 0 es.length, .slc n kk 0 1] = some (.slc (n + 1) kk 0 (es.length + 1), ⟨n + 1 + 1, upd (upd (upd A n (.cells te kk [row])) g .dead) (n + 1) (.cells te kk (es ++ [row]))⟩) := by
  obtain ⟨ti, t1, t2⟩ := h1
  obtain ⟨tj, t3, t4, t5⟩ := h2
  obtain ⟨knd, sz, byt, zr, eq⟩ := ti
  simp only at t2
  subst t2
  subst t4 t5
  have hs : source ⟨n + 1, upd A n (.cells te tj.size [row])⟩ tj.size (.slc n tj.size 0 1) = some [row] := by
    simp [source, elems]
  have ha : (upd A n (Blk.cells te tj.size [row])) g = .cells te tj.size es := by rw [upd_app, if_neg hn]; exact hg
  simp only [builtinM, t1, appendA, t3, hs, ha, true_and, Nat.le_refl, List.length_singleton, hm, hm2, and_self, if_true, List.cons_ne_self, reduceCtorEq, if_false, List.take_length, AHeap.set, AHeap.push]

theorem app_nil {t te kk by_ n : Nat} {A : Nat → Blk} {row : List AV} (h1 : isSl C t te) (h2 : ∃ ti, C.TT te = some ti ∧ ti.size = kk ∧ ti.bytes = by_) (hm : by_ ≤ most) :
    builtinM C ⟨n + 1, upd A n (.cells te kk [row])⟩ .append [t, t] [.nilS, .slc n kk 0 1] = some (.slc (n + 1) kk 0 1, ⟨n + 1 + 1, upd (upd A n (.cells te kk [row])) (n + 1) (.cells te kk [row])⟩) := by
  obtain ⟨ti, t1, t2⟩ := h1
  obtain ⟨tj, t3, t4, t5⟩ := h2
  obtain ⟨knd, sz, byt, zr, eq⟩ := ti
  simp only at t2
  subst t2
  subst t4 t5
  have hs : source ⟨n + 1, upd A n (.cells te tj.size [row])⟩ tj.size (.slc n tj.size 0 1) = some [row] := by
    simp [source, elems]
  have hm2 : 1 ≤ most := by decide
  simp only [builtinM, t1, appendA, t3, hs, List.length_singleton, Nat.one_mul, hm, hm2, and_self, if_true, reduceCtorEq, if_false, AHeap.push]

theorem runA_yield {x : Operand} {args : Array Operand} {ts : Array TypeId} {vs : List AV} {l : Nat} {L : ALoop} {dst : Option Nat} {os : List AO} (h : evs T args.toList = some vs) (hf : ev T x = some (.yld l)) (hL : H.at_ l = .loop L) (hlen : vs.length = L.params.length)
    (hr : Run C L.fn (foldPut L.T L.params vs) [] (some l) [.code L.assign, .beginRound, .code L.body] H (fun r H1 => RunOps C fn (putA T dst r) ds ro os k H1 Q)) :
    RunA C fn T ds ro (.call { callee := .value x, args := args, argTypes := ts }) dst os k H Q (some (.yld l)) (some vs) :=
  rop_yield (C := C) (ts := ts) h hf hL hlen hr

/-! ## Loads beside appends -/

section
variable {dst : Option Nat} {os : List AO} {cs : List (List Nat)}

def DynB (C : Ctx) (ro : Option Nat) (b : Builtin) (ts : List TypeId) (op : Op) (dst : Option Nat) (os : List AO) (cs : List (List Nat)) (T : Nat → AV) (ds : List ADef) (H : AHeap) : Option (List AV) → Prop
  | some vs => DynV C ro dst os cs T ds (builtinA C H b ts vs)
  | none => DynOp C ro op dst os cs T ds H

theorem dop_builtinC {b : Builtin} {args : Array Operand} {ts : Array TypeId} : DynOp C ro (.call { callee := .builtin b, args := args, argTypes := ts }) dst os cs T ds H = DynB C ro b ts.toList (.call { callee := .builtin b, args := args, argTypes := ts }) dst os cs T ds H (evs T args.toList) := by
  cases h : evs T args.toList with
  | none => rfl
  | some vs =>
    unfold DynB
    rw [dop_of (z := builtinA C H b ts.toList vs)]
    intro cl
    simp only [opRun, opCall, h]
    cases builtinA C H b ts.toList vs with
    | none => rfl
    | some z => obtain ⟨v, H1⟩ := z; rfl

theorem dynB_some {b : Builtin} {ts : List TypeId} {op : Op} {vs : List AV} : DynB C ro b ts op dst os cs T ds H (some vs) = DynV C ro dst os cs T ds (builtinA C H b ts vs) := rfl

theorem apart_nil {b k i j : Nat} : apartA (.ptr b k i j) .nilS = true := rfl
theorem apart_slc {b b' k k' i i' j j' : Nat} : apartA (.ptr b k i j) (.slc b' k' i' j') = (b != b') := rfl
end

end Go.BX
