/- EvalPlays: whatever the program is asked by this law, it answers true: proved of the program's translation, for every input. -/
import Derived.Test.YtckhmpcmlochpaaGreatKRVPlays7
import Derived.Test.YtckhmpcmlochpaaGreatRows
namespace Go.Proofs.YtckhmpcmlochpaaGreat.G
open Go.BX
open Go.ChangeShapes Go.WideShapes Go.ChangeAt Go.RowKit
set_option maxRecDepth 100000 in
theorem z3s (os : Os) (started : os.Started) (H : Type) (enc : TypeId × Value → H) :
  ReturnsInHanded {} Tryz.checked os 3 .any (Rows.evalPlaysSpec.pre6 enc Tryz.prog Tryz.f3 Rows.evalPlaysRow.domain false) (Rows.evalPlaysSpec.post enc Tryz.prog Tryz.f3 false true false false) := by
 refine returnsInHanded_of_change (C := Tryz.checked) own started (by kernel_rfl) Tryz.func3
  (ChangeSpec.witness6 (enc := enc) (C := Tryz.checked) false ⟨#[], #[.slice none 0 0, .agg #[.string ⟨#[]⟩, .int .i64 0, .int .i64 0, .string ⟨#[]⟩, .int .i64 0, .int .i64 0, .int .i64 0, .int .i64 0, .string ⟨#[]⟩, .int .i64 0, .int .i64 0], .int .i64 0], []⟩ 8 (by kernel_rfl) (by kernel_rfl) (by kernel_rfl) (by kernel_rfl)) ?_
 intro W base args ds gs before hval0 hW hcnd _
 have x6p : ∀ (j : Nat) t v, Tryz.f3.params[j]? = some t → args[j]? = some v → Value.okWide Tryz.prog W .any base t v := hval0
 have hW' := hW
 obtain ⟨p, q, hA0, hV, rfl, hfz, hnd⟩ := hW
 have hA : DataW.TrodAll enc Tryz.prog W 0 (fun _ => true) true Tryz.f3.params.toList args.toList ds p := hA0
 rw [Tryz.params3] at hA x6p
 obtain ⟨v0, vs0, d0, ds0, p0, q0, hargs, rfl, rfl, h0, r0⟩ := trodAll_cons hA
 obtain ⟨v1, vs1, d1, ds1, p1, q1, rfl, rfl, rfl, h1, r1⟩ := trodAll_cons r0
 obtain ⟨v2, vs2, d2, ds2, p2, q2, rfl, rfl, rfl, h2, r2⟩ := trodAll_cons r1
 obtain ⟨rfl, rfl, rfl⟩ := trodAll_nil r2
 obtain rfl : args = #[v0, v1, v2] := by cases args; simp_all
 obtain ⟨rfl, rfl⟩ := trodVars_none hV
 have kk0 := h0
 have lt0 : ∀ x ∈ p0, x.block < W.heap.size := by obtain ⟨m, hm⟩ := kk0; exact DataW.trod_lt m _ _ _ hm
 have kk1 := h1
 have lt1 : ∀ x ∈ p1, x.block < W.heap.size := by obtain ⟨m, hm⟩ := kk1; exact DataW.trod_lt m _ _ _ hm
 have kk2 := h2
 have lt2 : ∀ x ∈ p2, x.block < W.heap.size := by obtain ⟨m, hm⟩ := kk2; exact DataW.trod_lt m _ _ _ hm
 obtain ⟨a0, s0, rel0, sh0, m0⟩ := j0u (by kernel_rfl) (x6p 0 22 v0 rfl rfl) h0
 rw [Tryz.underlying22] at m0
 replace m0 : s0 = [a0] := m0
 subst m0
 obtain ⟨l0, hin0, hnl0, hln0⟩ := x6i sh0
 obtain ⟨a1, s1, rel1, sh1, m1⟩ := j0u (by kernel_rfl) (x6p 1 28 v1 rfl rfl) h1
 rw [Tryz.underlying28] at m1
 replace m1 : a1 = .agg s1 := m1
 subst m1
 obtain ⟨E1, rfl⟩ := y7n sh1
 obtain ⟨a2, s2, rel2, sh2, m2⟩ := j0u (by kernel_rfl) (x6p 2 3 v2 rfl rfl) h2
 rw [Tryz.underlying3] at m2
 replace m2 : s2 = [a2] := m2
 subst m2
 obtain ⟨n2, e2, b2⟩ := z2i sh2
 cases e2
 clear hA0 hval0
 refine Calls.mono (x6g rfl (j4n hin0 hnl0 E1 n2) (LsRel.cons rel0 (LsRel.cons rel1 (LsRel.cons rel2 LsRel.nil)))) fun e W' ⟨he, bel⟩ => ?_
 subst he
 exact ⟨_, rfl, _, _, _, [], _, [], hW', trodAll_mk1 (shut_bool Tryz.underlying4 _), (trodAll_cons_mk (Below.trod j6y (by kernel_rfl) (of_decide_eq_true (by kernel_rfl)) kk0 bel lt0) (trodAll_cons_mk (Below.trod j6y (by kernel_rfl) (of_decide_eq_true (by kernel_rfl)) kk1 bel lt1) (trodAll_cons_mk (Below.trod j6y (by kernel_rfl) (of_decide_eq_true (by kernel_rfl)) kk2 bel lt2) trodAll_mk0))), rfl, bel.frame _, fun h => by cases h⟩
theorem evalPlays_holds : Rows.EvalPlaysSaid :=
 OpenClaim.holds_of_wide 3 Tryz.f3 rfl rfl rfl rfl rfl rfl rfl ⟨rfl, rfl, rfl, rfl, rfl⟩ rfl rfl rfl rfl rfl (by kernel_rfl) Tryz.func3 (by kernel_rfl)
  (of_decide_eq_true (by kernel_rfl)) (by unfold Func.isWrapper; first | (rw [if_pos (by decide +kernel)]; kernel_rfl) | (rw [if_neg (by decide +kernel)]; exact ⟨rfl, rfl⟩))
  (fun os started H enc _ => z3s os started H enc)
end Go.Proofs.YtckhmpcmlochpaaGreat.G
