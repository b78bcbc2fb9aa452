import Derived.Test.YtmbagennmeahhaaGRow
import Derived.Test.YtmbagennmeahhaaGK1
namespace Go.Proofs.Ytmbagennmeahhaa.G
open Go.BX

theorem dec_int {cs : List AV} (h : Shp Try.prog 3 cs) : ∃ n, cs = [.int .i64 n] ∧ (-9223372036854775808 ≤ n ∧ n ≤ 9223372036854775807) := by
  obtain ⟨n, h1, h2⟩ := shp_int Try.underlying3 h
  exact ⟨n, h1, i64_wf h2⟩

theorem dec_str {cs : List AV} (h : Shp Try.prog 9 cs) : ∃ s, cs = [.str s] ∧ s.length ≤ maxLen := shp_str Try.underlying9 h

theorem dec_spot {cs : List AV} (h : Shp Try.prog 24 cs) : ∃ x y, cs = [.int .i64 x, .int .i64 y] := by
  obtain ⟨hl, hf⟩ := shp_struct Try.underlying24 h
  have hl2 : cs.length = 2 := hl.trans (by kernel_rfl)
  match cs, hl2 with
  | [a0, a1], _ =>
    have f0 := hf 0 _ rfl
    have f1 := hf 1 _ rfl
    obtain ⟨x, hx, bx⟩ := dec_int f0
    obtain ⟨y, hy, by'⟩ := dec_int f1
    cases hx
    cases hy
    exact ⟨_, _, rfl⟩

theorem dec_val {cs : List AV} (h : Shp Try.prog 26 cs) : ∃ k n s x y, cs = [.int .i64 k, .int .i64 n, .str s, .int .i64 x, .int .i64 y] := by
  obtain ⟨hl, hf⟩ := shp_struct Try.underlying26 h
  have hl2 : cs.length = 5 := hl.trans (by kernel_rfl)
  match cs, hl2 with
  | [a0, a1, a2, a3, a4], _ =>
    have f0 := hf 0 _ rfl
    have f1 := hf 1 _ rfl
    have f2 := hf 2 _ rfl
    have f3 := hf 3 _ rfl
    obtain ⟨k, hk, bk⟩ := dec_int f0
    obtain ⟨n, hn, bn⟩ := dec_int f1
    obtain ⟨s, hs, bs⟩ := dec_str f2
    obtain ⟨x, y, hxy⟩ := dec_spot f3
    cases hk
    cases hn
    cases hs
    have hxy' : [a3, a4] = [.int .i64 x, .int .i64 y] := hxy
    cases hxy'
    exact ⟨_, _, _, _, _, rfl⟩

theorem dec_pair {cs : List AV} (h : Shp Try.prog 28 cs) : ∃ p : Pr, cs = encP p := by
  obtain ⟨hl, hf⟩ := shp_struct Try.underlying28 h
  have hl2 : cs.length = 6 := hl.trans (by kernel_rfl)
  match cs, hl2 with
  | [a0, a1, a2, a3, a4, a5], _ =>
    have f0 := hf 0 _ rfl
    have f1 := hf 1 _ rfl
    obtain ⟨z, hz, bz⟩ := dec_str f0
    obtain ⟨k, n, s, x, y, hv⟩ := dec_val f1
    cases hz
    have hv' : [a1, a2, a3, a4, a5] = [.int .i64 k, .int .i64 n, .str s, .int .i64 x, .int .i64 y] := hv
    cases hv'
    exact ⟨⟨z, k, n, s, x, y⟩, rfl⟩

theorem rows_list : ∀ {es : List (List AV)}, (∀ r, r ∈ es → ∃ p : Pr, r = encP p) → ∃ l : List Pr, es = l.map encP
  | [], _ => ⟨[], rfl⟩
  | r :: es, h => by
    obtain ⟨p, rfl⟩ := h r (by simp)
    obtain ⟨l, rfl⟩ := rows_list (es := es) (fun r hr => h r (by simp [hr]))
    exact ⟨p :: l, rfl⟩

theorem dec_list {a : AV} (h : Shp Try.prog 22 [a]) : ∃ l : List Pr, InL a l ∧ l.length ≤ maxLen := by
  rcases shp_slice Try.underlying22 h with e | ⟨es, e, hl, hr⟩
  · cases e
    exact ⟨[], .inl ⟨rfl, rfl⟩, by simp⟩
  · cases e
    obtain ⟨l, rfl⟩ := rows_list (fun r hm => dec_pair (hr r hm))
    have hc : Try.prog.cellsOf 28 = 6 := by kernel_rfl
    refine ⟨l, .inr (by rw [hc]), by simpa using hl⟩
end Go.Proofs.Ytmbagennmeahhaa.G
