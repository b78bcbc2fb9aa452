import Derived.Test.YtmbagennmeahhaaBSym
namespace Go.BX
set_option linter.unusedSimpArgs false

/-! # Values, reckoned -/

variable {C : Ctx} {H : AHeap} {T : Nat → AV}

theorem freeze_int {k : IntKind} {n : Int} : freeze H (.int k n) = some (.int k n) := rfl
theorem freeze_bool {b : Bool} : freeze H (.bool b) = some (.bool b) := rfl
theorem freeze_str {b : Bytes} : freeze H (.str b) = some (.str b) := rfl
theorem freeze_flt {n : Int} : freeze H (.flt n) = some (.flt n) := rfl
theorem freeze_cpx {n m : Int} : freeze H (.cpx n m) = some (.cpx n m) := rfl
theorem freeze_nilS : freeze H .nilS = some .nilS := rfl
theorem freeze_vec {k : Nat} {es : List (List AV)} : freeze H (.vec k es) = some (.vec k es) := rfl
theorem freeze_agg {cs : List AV} : freeze H (.agg cs) = (mapO (freeze1 H 4) cs).map .agg := rfl
theorem freeze_tuple {vs : List AV} : freeze H (.tuple vs) = (mapO (freeze2 H) vs).map .tuple := rfl
theorem freeze2_int {k : IntKind} {n : Int} : freeze2 H (.int k n) = some (.int k n) := rfl
theorem freeze2_bool {b : Bool} : freeze2 H (.bool b) = some (.bool b) := rfl
theorem freeze2_str {b : Bytes} : freeze2 H (.str b) = some (.str b) := rfl
theorem freeze2_flt {n : Int} : freeze2 H (.flt n) = some (.flt n) := rfl
theorem freeze2_cpx {n m : Int} : freeze2 H (.cpx n m) = some (.cpx n m) := rfl
theorem freeze2_nilS : freeze2 H .nilS = some .nilS := rfl
theorem freeze2_vec {k : Nat} {es : List (List AV)} : freeze2 H (.vec k es) = some (.vec k es) := rfl
theorem freeze2_agg {cs : List AV} : freeze2 H (.agg cs) = (mapO (freeze1 H 4) cs).map .agg := rfl
theorem freeze1_int {d : Nat} {k : IntKind} {n : Int} : freeze1 H d (.int k n) = some (.int k n) := by cases d <;> rfl
theorem freeze1_bool {d : Nat} {b : Bool} : freeze1 H d (.bool b) = some (.bool b) := by cases d <;> rfl
theorem freeze1_str {d : Nat} {b : Bytes} : freeze1 H d (.str b) = some (.str b) := by cases d <;> rfl
theorem freeze1_nilS {d : Nat} : freeze1 H d .nilS = some .nilS := by cases d <;> rfl
theorem freeze1_vec {d k : Nat} {es : List (List AV)} : freeze1 H d (.vec k es) = some (.vec k es) := by cases d <;> rfl
theorem mapO_nil {α β : Type} {f : α → Option β} : mapO f [] = some [] := rfl
def consO {β : Type} : Option β → Option (List β) → Option (List β)
  | some y, some ys => some (y :: ys)
  | _, _ => none
theorem mapO_cons {α β : Type} {f : α → Option β} {x : α} {xs : List α} : mapO f (x :: xs) = consO (f x) (mapO f xs) := rfl
theorem consO_some {β : Type} {y : β} {ys : List β} : consO (some y) (some ys) = some (y :: ys) := rfl

def frzE (H : AHeap) (d k : Nat) : Option (List (List AV)) → Option AV
  | some es => (mapO (mapO (freeze1 H d)) es).map (.vec k)
  | none => none
theorem freeze1_slc {d b k i n : Nat} : freeze1 H (d + 1) (.slc b k i n) = frzE H d k (elems H k (.slc b k i n)) := by
  show (match elems H k (.slc b k i n) with | some es => (mapO (mapO (freeze1 H d)) es).map (AV.vec k) | none => none) = _
  cases elems H k (.slc b k i n) <;> rfl
theorem freeze_slc {b k i n : Nat} : freeze H (.slc b k i n) = frzE H 3 k (elems H k (.slc b k i n)) := freeze1_slc
theorem freeze2_slc {b k i n : Nat} : freeze2 H (.slc b k i n) = frzE H 3 k (elems H k (.slc b k i n)) := freeze1_slc
theorem frzE_some {d k : Nat} {es : List (List AV)} : frzE H d k (some es) = (mapO (mapO (freeze1 H d)) es).map (.vec k) := rfl
theorem freeze1_emp {d : Nat} : freeze1 H d .emp = some .emp := by cases d <;> rfl
theorem freeze1_nilP {d : Nat} : freeze1 H d .nilP = some .nilP := by cases d <;> rfl
theorem freeze1_nilF {d : Nat} : freeze1 H d .nilF = some .nilF := by cases d <;> rfl
theorem freeze_emp : freeze H .emp = some .emp := rfl
theorem freeze2_emp : freeze2 H .emp = some .emp := rfl

theorem fltOf_0 : fltOf 0 = some 0 := by decide +kernel


theorem freeze1_flat {d : Nat} {v : AV} (h : v.flat1 = true) : freeze1 H d v = some v := by
  cases v <;> cases d <;> first | (simp [AV.flat1] at h; done) | rfl
theorem mapO_all {f : AV → Option AV} {p : AV → Bool} (hf : ∀ v, p v = true → f v = some v) : ∀ {l : List AV}, l.all p = true → mapO f l = some l
  | [], _ => rfl
  | x :: xs, h => by
    simp only [List.all_cons, Bool.and_eq_true] at h
    rw [mapO_cons, hf x h.1, mapO_all hf h.2]; rfl
theorem freeze2_flat {v : AV} (h : v.flat2 = true) : freeze2 H v = some v := by
  cases v with
  | agg cs => rw [freeze2_agg, mapO_all (p := AV.flat1) (fun v hv => freeze1_flat hv) h]; rfl
  | fn f first caps => show (if _ then _ else _) = _; rw [if_pos h]
  | _ => refine Eq.trans (b := freeze1 H 4 _) rfl (freeze1_flat h)
theorem freeze_flat {v : AV} (h : v.flat = true) : freeze H v = some v := by
  cases v with
  | tuple vs => rw [freeze_tuple, mapO_all (p := AV.flat2) (fun v hv => freeze2_flat hv) h]; rfl
  | _ => refine Eq.trans (b := freeze2 H _) rfl (freeze2_flat h)

/-- The call of a pure function, whatever its arguments are. -/
theorem call_any {fn : FuncId} {ds : List ADef} {ro : Option Nat} {k : List AItem} {Q : AV → AHeap → Prop} {f : FuncId} {args args' : List AV} {r : AV} {dst : Option Nat} {os : List AO} (hp : C.pure f = true) (hs : r.solid = true) (h : PCall C f args' r) (hz : mapO (freeze H) args = some args') :
    RunCall C fn T ds ro f args dst os k H Q = RunOps C fn (putA T dst r) ds ro os k H Q := by
  cases hf : args.all AV.flat with
  | false => exact call_frozen hp hf hz hs h
  | true =>
    rw [mapO_all (p := AV.flat) (fun v hv => freeze_flat hv) hf] at hz
    cases hz
    exact call_pure hp hf h

end Go.BX
