/- EvalSteps: whatever the program is asked by this law, it answers true: proved of the program's translation, for every input. -/
import Derived.Test.YtckhmpcmlochpaaGreatKRVSteps7
import Derived.Test.YtckhmpcmlochpaaGreatRows
namespace Go.Proofs.YtckhmpcmlochpaaGreat.G
open Go.BX
open Go.ChangeShapes Go.WideShapes Go.ChangeAt Go.RowKit
set_option maxRecDepth 100000 in
theorem z3y (os : Os) (started : os.Started) (H : Type) (enc : TypeId × Value → H) :
  ReturnsInHanded {} Tryz.checked os 4 .any (Rows.evalStepsSpec.pre6 enc Tryz.prog Tryz.f4 Rows.evalStepsRow.domain false) (Rows.evalStepsSpec.post enc Tryz.prog Tryz.f4 false true false false) := by
 refine returnsInHanded_of_change (C := Tryz.checked) own started (by kernel_rfl) Tryz.func4
  (ChangeSpec.witness6 (enc := enc) (C := Tryz.checked) false ⟨#[], #[.slice none 0 0, .agg #[.string ⟨#[]⟩, .int .i64 0, .int .i64 0, .string ⟨#[]⟩, .int .i64 0, .int .i64 0, .int .i64 0, .int .i64 0, .string ⟨#[]⟩, .int .i64 0, .int .i64 0]], []⟩ 8 (by kernel_rfl) (by kernel_rfl) (by kernel_rfl) (by kernel_rfl)) ?_
 intro W base args ds gs before hval0 hW hcnd _
 have x7g : ∀ (j : Nat) t v, Tryz.f4.params[j]? = some t → args[j]? = some v → Value.okWide Tryz.prog W .any base t v := hval0
 have hW' := hW
 obtain ⟨p, q, hA0, hV, rfl, hfz, hnd⟩ := hW
 have hA : DataW.TrodAll enc Tryz.prog W 0 (fun _ => true) true Tryz.f4.params.toList args.toList ds p := hA0
 rw [Tryz.params4] at hA x7g
 obtain ⟨v0, vs0, d0, ds0, p0, q0, hargs, rfl, rfl, h0, r0⟩ := trodAll_cons hA
 obtain ⟨v1, vs1, d1, ds1, p1, q1, rfl, rfl, rfl, h1, r1⟩ := trodAll_cons r0
 obtain ⟨rfl, rfl, rfl⟩ := trodAll_nil r1
 obtain rfl : args = #[v0, v1] := by cases args; simp_all
 obtain ⟨rfl, rfl⟩ := trodVars_none hV
 have kk0 := h0
 have lt0 : ∀ x ∈ p0, x.block < W.heap.size := by obtain ⟨m, hm⟩ := kk0; exact DataW.trod_lt m _ _ _ hm
 have kk1 := h1
 have lt1 : ∀ x ∈ p1, x.block < W.heap.size := by obtain ⟨m, hm⟩ := kk1; exact DataW.trod_lt m _ _ _ hm
 obtain ⟨a0, s0, rel0, sh0, m0⟩ := j9j (by kernel_rfl) (x7g 0 22 v0 rfl rfl) h0
 rw [Tryz.underlying22] at m0
 replace m0 : s0 = [a0] := m0
 subst m0
 obtain ⟨l0, hin0, hnl0, hln0⟩ := x6q sh0
 obtain ⟨a1, s1, rel1, sh1, m1⟩ := j9j (by kernel_rfl) (x7g 1 28 v1 rfl rfl) h1
 rw [Tryz.underlying28] at m1
 replace m1 : a1 = .agg s1 := m1
 subst m1
 obtain ⟨E1, rfl⟩ := y7w sh1
 clear hA0 hval0
 refine Calls.mono (x6o rfl (j4s hin0 hnl0 E1) (LsRel.cons rel0 (LsRel.cons rel1 LsRel.nil))) fun e W' ⟨he, bel⟩ => ?_
 subst he
 exact ⟨_, rfl, _, _, _, [], _, [], hW', trodAll_mk1 (shut_bool Tryz.underlying4 _), (trodAll_cons_mk (Below.trod x6n (by kernel_rfl) (of_decide_eq_true (by kernel_rfl)) kk0 bel lt0) (trodAll_cons_mk (Below.trod x6n (by kernel_rfl) (of_decide_eq_true (by kernel_rfl)) kk1 bel lt1) trodAll_mk0)), rfl, bel.frame _, fun h => by cases h⟩
theorem evalSteps_holds : Rows.EvalStepsSaid :=
 OpenClaim.holds_of_wide 4 Tryz.f4 rfl rfl rfl rfl rfl rfl rfl ⟨rfl, rfl, rfl, rfl, rfl⟩ rfl rfl rfl rfl rfl (by kernel_rfl) Tryz.func4 (by kernel_rfl)
  (of_decide_eq_true (by kernel_rfl)) (by unfold Func.isWrapper; first | (rw [if_pos (by decide +kernel)]; kernel_rfl) | (rw [if_neg (by decide +kernel)]; exact ⟨rfl, rfl⟩))
  (fun os started H enc _ => z3y os started H enc)
end Go.Proofs.YtckhmpcmlochpaaGreat.G
