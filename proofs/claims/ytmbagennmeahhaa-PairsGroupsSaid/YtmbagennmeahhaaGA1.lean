import Derived.Test.YtmbagennmeahhaaG
import Derived.Test.YtmbagennmeahhaaBEv
namespace Go.Proofs.Ytmbagennmeahhaa.G
open Go.BX
set_option linter.unusedSimpArgs false

abbrev spot (x y : Int) : AV := .agg [.int .i64 x, .int .i64 y]
def inR (n : Int) : Bool := decide (-16777216 ≤ n) && decide (n ≤ 16777216)

end Go.Proofs.Ytmbagennmeahhaa.G