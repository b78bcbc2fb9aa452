import Derived.Test.YtmbagennmeahhaaGDecP
namespace Go.Proofs.Ytmbagennmeahhaa.G
open Go.BX

theorem dec_u8 {cs : List AV} (h : Shp Try.prog 5 cs) : ∃ n, cs = [.int .u8 n] ∧ (Lit.int .u8 n).wf = true := shp_int Try.underlying5 h
end Go.Proofs.Ytmbagennmeahhaa.G
