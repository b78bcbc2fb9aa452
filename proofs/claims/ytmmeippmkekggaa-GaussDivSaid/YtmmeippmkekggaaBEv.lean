import Derived.Test.YtmmeippmkekggaaBSym
namespace Go.BX
set_option linter.unusedSimpArgs false

/-! # Values, reckoned -/

variable {C : Ctx} {H : AHeap} {T : Nat → AV}

theorem freeze_int {k : IntKind} {n : Int} : freeze H (.int k n) = some (.int k n) := rfl
theorem freeze_bool {b : Bool} : freeze H (.bool b) = some (.bool b) := rfl
theorem freeze_str {b : Bytes} : freeze H (.str b) = some (.str b) := rfl
theorem freeze_flt {n : Int} : freeze H (.flt n) = some (.flt n) := rfl
theorem freeze_cpx {n m : Int} : freeze H (.cpx n m) = some (.cpx n m) := rfl
theorem freeze_nilS : freeze H .nilS = some .nilS := rfl
theorem freeze_vec {k : Nat} {es : List (List AV)} : freeze H (.vec k es) = some (.vec k es) := rfl
theorem freeze_agg {cs : List AV} : freeze H (.agg cs) = (mapO (freeze1 H 4) cs).map .agg := rfl
theorem freeze_tuple {vs : List AV} : freeze H (.tuple vs) = (mapO (freeze2 H) vs).map .tuple := rfl
theorem freeze2_int {k : IntKind} {n : Int} : freeze2 H (.int k n) = some (.int k n) := rfl
theorem freeze2_bool {b : Bool} : freeze2 H (.bool b) = some (.bool b) := rfl
theorem freeze2_str {b : Bytes} : freeze2 H (.str b) = some (.str b) := rfl
theorem freeze2_flt {n : Int} : freeze2 H (.flt n) = some (.flt n) := rfl
theorem freeze2_cpx {n m : Int} : freeze2 H (.cpx n m) = some (.cpx n m) := rfl
theorem freeze2_nilS : freeze2 H .nilS = some .nilS := rfl
theorem freeze2_vec {k : Nat} {es : List (List AV)} : freeze2 H (.vec k es) = some (.vec k es) := rfl
theorem freeze2_agg {cs : List AV} : freeze2 H (.agg cs) = (mapO (freeze1 H 4) cs).map .agg := rfl
theorem freeze1_int {d : Nat} {k : IntKind} {n : Int} : freeze1 H d (.int k n) = some (.int k n) := by cases d <;> rfl
theorem freeze1_bool {d : Nat} {b : Bool} : freeze1 H d (.bool b) = some (.bool b) := by cases d <;> rfl
theorem freeze1_str {d : Nat} {b : Bytes} : freeze1 H d (.str b) = some (.str b) := by cases d <;> rfl
theorem freeze1_nilS {d : Nat} : freeze1 H d .nilS = some .nilS := by cases d <;> rfl
theorem freeze1_vec {d k : Nat} {es : List (List AV)} : freeze1 H d (.vec k es) = some (.vec k es) := by cases d <;> rfl
theorem mapO_nil {α β : Type} {f : α → Option β} : mapO f [] = some [] := rfl
def consO {β : Type} : Option β → Option (List β) → Option (List β)
  | some y, some ys => some (y :: ys)
  | _, _ => none
theorem mapO_cons {α β : Type} {f : α → Option β} {x : α} {xs : List α} : mapO f (x :: xs) = consO (f x) (mapO f xs) := rfl
theorem consO_some {β : Type} {y : β} {ys : List β} : consO (some y) (some ys) = some (y :: ys) := rfl

theorem fltOf_0 : fltOf 0 = some 0 := by decide +kernel

end Go.BX
