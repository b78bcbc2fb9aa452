import Derived.Test.YtmbagennmeahhaaGA1
import Derived.Laws.BitsLemmas
namespace Go.Proofs.Ytmbagennmeahhaa.G
open Go.BX
set_option linter.unusedSimpArgs false

theorem wr64 {n : Int} (h1 : -9223372036854775808 ≤ n) (h2 : n ≤ 9223372036854775807) : IntKind.i64.wrap n = n := by
  rw [IntKind.wrap_i64]; omega

/-- Rounded to the nearest, a half to the greater. -/
def nr (n d : Int) : Int := (2 * n + d) / (2 * d)

theorem tdiv_floor {a b : Int} (hb : 0 < b) : a / b = if a.tmod b < 0 then a.tdiv b - 1 else a.tdiv b := by
  have e := Int.tmod_add_mul_tdiv a b
  have h1 := Int.tmod_lt_of_pos a hb
  have h2 : -b < a.tmod b := by
    have := Int.tmod_lt_of_pos (-a) hb
    rw [Int.neg_tmod] at this
    omega
  split
  · refine ((Int.ediv_emod_unique (r := a.tmod b + b) hb).mpr ⟨?_, by omega, by omega⟩).1
    rw [Int.mul_sub]; omega
  · exact ((Int.ediv_emod_unique (r := a.tmod b) hb).mpr ⟨e, by omega, by omega⟩).1

end Go.Proofs.Ytmbagennmeahhaa.G