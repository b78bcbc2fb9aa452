/- EvalChoice: whatever the program is asked by this law, it answers true: proved of the program's translation, for every input. -/
import Derived.Test.YtckhmpcmlochpaaKRVChoice7
import Derived.Test.YtckhmpcmlochpaaRows
namespace Go.Proofs.Ytckhmpcmlochpaa.G
open Go.BX
open Go.ChangeShapes Go.WideShapes Go.ChangeAt Go.RowKit
set_option linter.unusedVariables false

set_option maxRecDepth 100000 in
theorem evalChoice_lifted (os : Os) (started : os.Started) (H : Type) (enc : TypeId × Value → H) :
    ReturnsInHanded {} Try.checked os 3 .any (Rows.evalChoiceSpec.pre6 enc Try.prog Try.f3 Rows.evalChoiceRow.domain false) (Rows.evalChoiceSpec.post enc Try.prog Try.f3 false true false false) := by
  refine returnsInHanded_of_change (C := Try.checked) own started (by kernel_rfl) Try.func3
    (ChangeSpec.witness6 (enc := enc) (C := Try.checked) false ⟨#[], #[.slice none 0 0, .slice none 0 0, .slice none 0 0, .agg #[.string ⟨#[]⟩, .int .i64 0, .int .i64 0, .string ⟨#[]⟩, .int .i64 0, .int .i64 0, .int .i64 0, .int .i64 0, .string ⟨#[]⟩, .int .i64 0, .int .i64 0]], []⟩ 8 (by kernel_rfl) (by kernel_rfl) (by kernel_rfl) (by kernel_rfl)) ?_
  intro W base args ds gs before hval0 hW hcnd _
  have hval : ∀ (j : Nat) t v, Try.f3.params[j]? = some t → args[j]? = some v → Value.okWide Try.prog W .any base t v := hval0
  have hW' := hW
  obtain ⟨p, q, hA0, hV, rfl, hfz, hnd⟩ := hW
  have hA : DataW.TrodAll enc Try.prog W 0 (fun _ => true) true Try.f3.params.toList args.toList ds p := hA0
  rw [Try.params3] at hA hval
  obtain ⟨v0, vs0, d0, ds0, p0, q0, hargs, rfl, rfl, h0, r0⟩ := trodAll_cons hA
  obtain ⟨v1, vs1, d1, ds1, p1, q1, rfl, rfl, rfl, h1, r1⟩ := trodAll_cons r0
  obtain ⟨v2, vs2, d2, ds2, p2, q2, rfl, rfl, rfl, h2, r2⟩ := trodAll_cons r1
  obtain ⟨v3, vs3, d3, ds3, p3, q3, rfl, rfl, rfl, h3, r3⟩ := trodAll_cons r2
  obtain ⟨rfl, rfl, rfl⟩ := trodAll_nil r3
  obtain rfl : args = #[v0, v1, v2, v3] := by cases args; simp_all
  obtain ⟨rfl, rfl⟩ := trodVars_none hV
  have kk0 := h0
  have lt0 : ∀ x ∈ p0, x.block < W.heap.size := by obtain ⟨m, hm⟩ := kk0; exact DataW.trod_lt m _ _ _ hm
  have kk1 := h1
  have lt1 : ∀ x ∈ p1, x.block < W.heap.size := by obtain ⟨m, hm⟩ := kk1; exact DataW.trod_lt m _ _ _ hm
  have kk2 := h2
  have lt2 : ∀ x ∈ p2, x.block < W.heap.size := by obtain ⟨m, hm⟩ := kk2; exact DataW.trod_lt m _ _ _ hm
  have kk3 := h3
  have lt3 : ∀ x ∈ p3, x.block < W.heap.size := by obtain ⟨m, hm⟩ := kk3; exact DataW.trod_lt m _ _ _ hm
  obtain ⟨a0, s0, rel0, sh0, m0⟩ := open_val (by kernel_rfl) (hval 0 22 v0 rfl rfl) h0
  rw [Try.underlying22] at m0
  replace m0 : s0 = [a0] := m0
  subst m0
  obtain ⟨l0, hin0, hnl0, hln0⟩ := dec_nodes sh0
  obtain ⟨a1, s1, rel1, sh1, m1⟩ := open_val (by kernel_rfl) (hval 1 22 v1 rfl rfl) h1
  rw [Try.underlying22] at m1
  replace m1 : s1 = [a1] := m1
  subst m1
  obtain ⟨l1, hin1, hnl1, hln1⟩ := dec_nodes sh1
  obtain ⟨a2, s2, rel2, sh2, m2⟩ := open_val (by kernel_rfl) (hval 2 22 v2 rfl rfl) h2
  rw [Try.underlying22] at m2
  replace m2 : s2 = [a2] := m2
  subst m2
  obtain ⟨l2, hin2, hnl2, hln2⟩ := dec_nodes sh2
  obtain ⟨a3, s3, rel3, sh3, m3⟩ := open_val (by kernel_rfl) (hval 3 28 v3 rfl rfl) h3
  rw [Try.underlying28] at m3
  replace m3 : a3 = .agg s3 := m3
  subst m3
  obtain ⟨E3, rfl⟩ := dec_env sh3
  clear hA0 hval0
  refine Calls.mono (law_calls rfl (EvalChoice_ok hin0 hin1 hin2 hnl0 hnl1 hnl2 E3) (LsRel.cons rel0 (LsRel.cons rel1 (LsRel.cons rel2 (LsRel.cons rel3 LsRel.nil))))) fun e W' ⟨he, bel⟩ => ?_
  subst he
  exact ⟨_, rfl, _, _, _, [], _, [], hW', trodAll_mk1 (shut_bool Try.underlying4 _), (trodAll_cons_mk (Below.trod laidOut (by kernel_rfl) (of_decide_eq_true (by kernel_rfl)) kk0 bel lt0) (trodAll_cons_mk (Below.trod laidOut (by kernel_rfl) (of_decide_eq_true (by kernel_rfl)) kk1 bel lt1) (trodAll_cons_mk (Below.trod laidOut (by kernel_rfl) (of_decide_eq_true (by kernel_rfl)) kk2 bel lt2) (trodAll_cons_mk (Below.trod laidOut (by kernel_rfl) (of_decide_eq_true (by kernel_rfl)) kk3 bel lt3) trodAll_mk0)))), rfl, bel.frame _, fun h => by cases h⟩

theorem evalChoice_holds : Rows.EvalChoiceSaid :=
  OpenClaim.holds_of_wide 3 Try.f3 rfl rfl rfl rfl rfl rfl rfl ⟨rfl, rfl, rfl, rfl, rfl⟩ rfl rfl rfl rfl rfl (by kernel_rfl) Try.func3 (by kernel_rfl)
    (of_decide_eq_true (by kernel_rfl)) (by unfold Func.isWrapper; first | (rw [if_pos (by decide +kernel)]; kernel_rfl) | (rw [if_neg (by decide +kernel)]; exact ⟨rfl, rfl⟩))
    (fun os started H enc _ => evalChoice_lifted os started H enc)
end Go.Proofs.Ytckhmpcmlochpaa.G
