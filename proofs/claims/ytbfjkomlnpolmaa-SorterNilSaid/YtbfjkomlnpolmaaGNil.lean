import Derived.Test.YtbfjkomlnpolmaaGK1
namespace Go.Proofs.Ytbfjkomlnpolmaa.G
open Go.BX
theorem SorterNil_ok (p : Pr) : PCall Cx 5 [pairA p] (.bool true) := ⟨3000, by kernel_rfl⟩
end Go.Proofs.Ytbfjkomlnpolmaa.G
