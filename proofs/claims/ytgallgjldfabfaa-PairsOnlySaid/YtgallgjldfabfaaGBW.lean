import Derived.Test.YtgallgjldfabfaaG
import Derived.Test.YtgallgjldfabfaaBEv
namespace Go.Proofs.Ytgallgjldfabfaa.G
open Go.BX
set_option linter.unusedSimpArgs false
set_option linter.unusedVariables false

theorem pure_cc : Cx.pure 27 = false := by kernel_rfl
theorem ext_cc : Cx.ext 27 = some (copyG 42) := rfl
theorem pure_str : Cx.pure 16 = false := by kernel_rfl
theorem ext_str : Cx.ext 16 = some (strG 42 5) := rfl

variable {fn : FuncId} {T : Nat → AV} {ds : List ADef} {ro : Option Nat} {k : List AItem} {Q : AV → AHeap → Prop} {dst : Option Nat} {os : List AO}

end Go.Proofs.Ytgallgjldfabfaa.G