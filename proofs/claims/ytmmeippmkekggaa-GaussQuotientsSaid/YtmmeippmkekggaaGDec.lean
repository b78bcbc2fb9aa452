import Derived.Test.YtmmeippmkekggaaGRow
namespace Go.Proofs.Ytmmeippmkekggaa.G
open Go.BX

theorem dec_int {cs : List AV} (h : Shp Try.prog 3 cs) : ∃ n, cs = [.int .i64 n] ∧ (-9223372036854775808 ≤ n ∧ n ≤ 9223372036854775807) := by
  obtain ⟨n, h1, h2⟩ := shp_int Try.underlying3 h
  exact ⟨n, h1, i64_wf h2⟩

theorem dec_spot {cs : List AV} (h : Shp Try.prog 23 cs) : ∃ x y, cs = [.int .i64 x, .int .i64 y] := by
  obtain ⟨hl, hf⟩ := shp_struct Try.underlying23 h
  have hl2 : cs.length = 2 := hl.trans (by kernel_rfl)
  match cs, hl2 with
  | [a0, a1], _ =>
    have f0 := hf 0 _ rfl
    have f1 := hf 1 _ rfl
    obtain ⟨x, hx, _⟩ := dec_int f0
    obtain ⟨y, hy, _⟩ := dec_int f1
    cases hx
    cases hy
    exact ⟨_, _, rfl⟩
end Go.Proofs.Ytmmeippmkekggaa.G
