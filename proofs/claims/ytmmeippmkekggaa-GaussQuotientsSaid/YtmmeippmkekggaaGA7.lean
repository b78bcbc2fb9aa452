import Derived.Test.YtmmeippmkekggaaGA6
namespace Go.Proofs.Ytmmeippmkekggaa.G
open Go.BX
set_option linter.unusedSimpArgs false

theorem awake_ok : PCall Cx 10 [] (.bool true) := ⟨400, by kernel_rfl⟩

theorem nr_rest {n d : Int} (hd : 0 < d) : -d ≤ 2 * (n - nr n d * d) ∧ 2 * (n - nr n d * d) ≤ d := by
  unfold nr
  have h1 := Int.emod_nonneg (2 * n + d) (b := 2 * d) (by omega)
  have h2 := Int.emod_lt_of_pos (2 * n + d) (b := 2 * d) (by omega)
  have h3 := Int.emod_add_mul_ediv (2 * n + d) (2 * d)
  generalize (2 * n + d) / (2 * d) = q at *
  generalize (2 * n + d) % (2 * d) = r at *
  have e : 2 * d * q = 2 * (q * d) := by grind
  omega

theorem half {x N : Int} (h : -N ≤ 2 * x ∧ 2 * x ≤ N) : 4 * (x * x) ≤ N * N := by
  have h1 := Int.mul_nonneg (a := N - 2 * x) (b := N + 2 * x) (by omega) (by omega)
  have e : (N - 2 * x) * (N + 2 * x) = N * N - 4 * (x * x) := by grind
  omega

/-- The rest's norm is at most half of the divisor's. -/
theorem rest_norm {a b c d : Int} (h0 : ¬ (c = 0 ∧ d = 0)) : 2 * nrm (rX a b c d) (rY a b c d) ≤ nrm c d := by
  have hp := nrm_pos h0
  have hx := half (nr_rest (n := zx a b c d) hp)
  have hy := half (nr_rest (n := zy a b c d) hp)
  have e1 : zx a b c d - qX a b c d * nrm c d = c * rX a b c d + d * rY a b c d := by
    unfold zx rX rY nrm; grind
  have e2 : zy a b c d - qY a b c d * nrm c d = c * rY a b c d - d * rX a b c d := by
    unfold zy rX rY nrm; grind
  change 4 * ((zx a b c d - qX a b c d * nrm c d) * (zx a b c d - qX a b c d * nrm c d)) ≤ _ at hx
  change 4 * ((zy a b c d - qY a b c d * nrm c d) * (zy a b c d - qY a b c d * nrm c d)) ≤ _ at hy
  rw [e1] at hx
  rw [e2] at hy
  have e3 : (c * rX a b c d + d * rY a b c d) * (c * rX a b c d + d * rY a b c d) + (c * rY a b c d - d * rX a b c d) * (c * rY a b c d - d * rX a b c d) = nrm c d * nrm (rX a b c d) (rY a b c d) := by
    unfold nrm; grind
  have h2 : nrm c d * (2 * nrm (rX a b c d) (rY a b c d)) ≤ nrm c d * nrm c d := by
    have : nrm c d * (2 * nrm (rX a b c d) (rY a b c d)) = 2 * (nrm c d * nrm (rX a b c d) (rY a b c d)) := by grind
    omega
  exact Int.le_of_mul_le_mul_left h2 hp

theorem nrm_nonneg (x y : Int) : 0 ≤ nrm x y := by
  unfold nrm
  have := sq_ge x
  have := sq_ge y
  omega

set_option maxRecDepth 20000 in
set_option maxHeartbeats 4000000 in
theorem GaussDiv_ok (a b c d : Int) : PCall Cx 3 [spot a b, spot c d] (.bool true) := by
  refine pcall_run (noext _) body3 ?_
  have hD := Div_ok a b c d
  unfold DivR errT at hD
  by_cases hok : ((inR a && inR b) && (inR c && inR d)) = true ∧ ¬ (c = 0 ∧ d = 0) ∧ ((inR (qX a b c d) && inR (qY a b c d)) && (inR (rX a b c d) && inR (rY a b c d))) = true
  · obtain ⟨h1, h2, h3⟩ := hok
    rw [if_pos h1, if_neg h2, if_pos h3] at hD
    simp only [Bool.and_eq_true] at h1 h3
    have n1 := Norm_ok (rX a b c d) (rY a b c d)
    rw [if_pos (by simp [h3.2.1, h3.2.2])] at n1
    have n2 := Norm_ok c d
    rw [if_pos (by simp [h1.2.1, h1.2.2])] at n2
    have hr := rest_norm (a := a) (b := b) h2
    have hN := nrm_bound h1.2.1 h1.2.2
    have hNm : nrm c d ≤ 562949953421312 := by unfold nrm; omega
    have hn0 := nrm_nonneg (rX a b c d) (rY a b c d)
    have iq1 := inR_iff.mp h3.1.1
    have iq2 := inR_iff.mp h3.1.2
    have ir1 := inR_iff.mp h3.2.1
    have ir2 := inR_iff.mp h3.2.2
    have ic := inR_iff.mp h1.2.1
    have id := inR_iff.mp h1.2.2
    have p1 := mulB iq1 ic
    have p2 := mulB iq2 id
    have p3 := mulB iq1 id
    have p4 := mulB iq2 ic
    have w0 : IntKind.i64.wrap (2 * nrm (rX a b c d) (rY a b c d)) = 2 * nrm (rX a b c d) (rY a b c d) := wr64 (by omega) (by omega)
    have w1 : IntKind.i64.wrap (qX a b c d * c) = qX a b c d * c := wr64 (by omega) (by omega)
    have w2 : IntKind.i64.wrap (qY a b c d * d) = qY a b c d * d := wr64 (by omega) (by omega)
    have w3 : IntKind.i64.wrap (qX a b c d * d) = qX a b c d * d := wr64 (by omega) (by omega)
    have w4 : IntKind.i64.wrap (qY a b c d * c) = qY a b c d * c := wr64 (by omega) (by omega)
    have w5 : IntKind.i64.wrap (qX a b c d * c - qY a b c d * d) = qX a b c d * c - qY a b c d * d := wr64 (by omega) (by omega)
    have w6 : IntKind.i64.wrap (qX a b c d * d + qY a b c d * c) = qX a b c d * d + qY a b c d * c := wr64 (by omega) (by omega)
    have w7 : IntKind.i64.wrap (qX a b c d * c - qY a b c d * d + rX a b c d) = a := by
      have : qX a b c d * c - qY a b c d * d + rX a b c d = a := by unfold rX; omega
      rw [this]; have := inR_iff.mp h1.1.1; exact wr64 (by omega) (by omega)
    have w8 : IntKind.i64.wrap (qX a b c d * d + qY a b c d * c + rY a b c d) = b := by
      have : qX a b c d * d + qY a b c d * c + rY a b c d = b := by unfold rY; omega
      rw [this]; have := inR_iff.mp h1.1.2; exact wr64 (by omega) (by omega)
    simp (config := { maxSteps := 3000000 }) only [hr, w0, w1, w2, w3, w4, w5, w6, w7, w8, bne_self_eq_false, beq_self_eq_true, call_pure pure9 rfl hD, call_pure pure10 rfl awake_ok, call_pure pure11 rfl n1, call_pure pure11 rfl n2, n3_0, n3_1, n3_2, n3_3, n3_4, n3_5, n3_6, n3_7, n3_8, n3_9, n3_10, n3_11, n3_12, n3_13, n3_14, n3_15, n3_16, n3_17, n3_18, o3_1, o3_3, o3_6, o3_9, o3_13, o3_15, o3_17, res3, TT_3, TT_4, TT_23, TT_24, TT_47, TT_51, TT_52, ro_cons, ro_nil, ro_guardC, runGuard_bool, runGuard_undef, rop_assign, rop_move, rop_binOp, rop_unOp, rop_pick, rop_box, rop_alloc, rop_build, rop_field, rop_fieldAddr, rop_load, rop_store, rop_convert, rop_extract, rop_nilCheck, rop_builtinC, rop_callC, rop_callC, runA_fn, runB_some, runV_some, runVH_some, runCond_bool, primP, primM, ev, evs, parts_, ofConst, fltOf_0, bin, un, intBin, putA, enterT, upd_app, decide_true, decide_false, Nat.reduceEqDiff, Nat.reduceAdd, Nat.reduceMul, Nat.reduceLeDiff, Nat.reduceLT, Nat.zero_add, Bool.false_eq_true, Bool.not_true, Bool.not_false, ↓reduceIte, reduceCtorEq, List.getElem?_cons_zero, List.getElem?_cons_succ, List.getElem?_nil, Option.getD_some, Option.map_some, RunRes, resultsA, oneOf, freeze_int, freeze_bool, freeze_str, freeze_flt, freeze_cpx, freeze_agg, freeze_tuple, freeze2_int, freeze2_bool, freeze2_agg, freeze2_cpx, freeze2_flt, freeze1_int, freeze1_bool, freeze1_str, mapO_nil, mapO_cons, consO_some, AV.plain, AV.cells, AHeap.push, AHeap.set, AHeap.empty, fieldOf, loadA, storeA, BX.part, TK.isAgg, convA, builtinA, inertB, builtinP, buildA, fillA, splice, List.length_cons, List.length_nil, List.take_succ_cons, List.take_zero, List.take_nil, List.drop_succ_cons, List.drop_zero, List.drop_nil, List.cons_append, List.nil_append, List.append_nil, List.set_cons_zero, List.set_cons_succ, true_and, and_true, and_self, eqv, cellsEq, Option.bind_some, sizeT, dyn_nil, dyn_end, dyn_cons, dop_move, dop_assign, dop_build, dop_nilCheck, dop_fieldAddr, dop_field, dop_indexAddr, dop_binOp, dop_extract, dop_load, dop_store, dop_alloc, dop_box, dop_buildSlice, dynV_some, chk_nil, chk_cons, apart_ptr, adT, ldT, fwT, bne_iff_ne, ne_eq, not_false_eq_true, not_true_eq_false, Nat.le_refl, Nat.add_zero, Bool.true_and, Bool.and_true, Bool.false_and, Bool.and_false, Int.reduceBNe, Int.reduceBEq, Int.reduceEq, Int.reduceLT, Int.reduceLE, Int.reduceAdd, Int.reduceSub, Int.reduceMul, Int.reduceNeg, beq_self_eq_true, bne_self_eq_false]
  · have he : ∃ n, n ≠ 0 ∧ PCall Cx 9 [spot a b, spot c d] (.tuple [spot 0 0, spot 0 0, .int .i64 n]) := by
      split at hD
      · rename_i g1
        split at hD
        · exact ⟨16, by decide, hD⟩
        · rename_i g2
          split at hD
          · rename_i g3; exact absurd ⟨g1, g2, g3⟩ hok
          · exact ⟨14, by decide, hD⟩
      · exact ⟨14, by decide, hD⟩
    obtain ⟨n, hn, hE⟩ := he
    have hb : (n != 0) = true := by simpa using hn
    simp (config := { maxSteps := 3000000 }) only [hb, beq_self_eq_true, call_pure pure9 rfl hE, call_pure pure10 rfl awake_ok, n3_0, n3_1, n3_2, n3_3, n3_4, n3_5, n3_6, n3_7, n3_8, n3_9, n3_10, n3_11, n3_12, n3_13, n3_14, n3_15, n3_16, n3_17, n3_18, o3_1, o3_3, o3_6, o3_9, o3_13, o3_15, o3_17, res3, TT_3, TT_4, TT_23, TT_24, TT_47, TT_51, TT_52, ro_cons, ro_nil, ro_guardC, runGuard_bool, runGuard_undef, rop_assign, rop_move, rop_binOp, rop_unOp, rop_pick, rop_box, rop_alloc, rop_build, rop_field, rop_fieldAddr, rop_load, rop_store, rop_convert, rop_extract, rop_nilCheck, rop_builtinC, rop_callC, rop_callC, runA_fn, runB_some, runV_some, runVH_some, runCond_bool, primP, primM, ev, evs, parts_, ofConst, fltOf_0, bin, un, intBin, putA, enterT, upd_app, decide_true, decide_false, Nat.reduceEqDiff, Nat.reduceAdd, Nat.reduceMul, Nat.reduceLeDiff, Nat.reduceLT, Nat.zero_add, Bool.false_eq_true, Bool.not_true, Bool.not_false, ↓reduceIte, reduceCtorEq, List.getElem?_cons_zero, List.getElem?_cons_succ, List.getElem?_nil, Option.getD_some, Option.map_some, RunRes, resultsA, oneOf, freeze_int, freeze_bool, freeze_str, freeze_flt, freeze_cpx, freeze_agg, freeze_tuple, freeze2_int, freeze2_bool, freeze2_agg, freeze2_cpx, freeze2_flt, freeze1_int, freeze1_bool, freeze1_str, mapO_nil, mapO_cons, consO_some, AV.plain, AV.cells, AHeap.push, AHeap.set, AHeap.empty, fieldOf, loadA, storeA, BX.part, TK.isAgg, convA, builtinA, inertB, builtinP, buildA, fillA, splice, List.length_cons, List.length_nil, List.take_succ_cons, List.take_zero, List.take_nil, List.drop_succ_cons, List.drop_zero, List.drop_nil, List.cons_append, List.nil_append, List.append_nil, List.set_cons_zero, List.set_cons_succ, true_and, and_true, and_self, eqv, cellsEq, Option.bind_some, sizeT, dyn_nil, dyn_end, dyn_cons, dop_move, dop_assign, dop_build, dop_nilCheck, dop_fieldAddr, dop_field, dop_indexAddr, dop_binOp, dop_extract, dop_load, dop_store, dop_alloc, dop_box, dop_buildSlice, dynV_some, chk_nil, chk_cons, apart_ptr, adT, ldT, fwT, bne_iff_ne, ne_eq, not_false_eq_true, not_true_eq_false, Nat.le_refl, Nat.add_zero, Bool.true_and, Bool.and_true, Bool.false_and, Bool.and_false, Int.reduceBNe, Int.reduceBEq, Int.reduceEq, Int.reduceLT, Int.reduceLE, Int.reduceAdd, Int.reduceSub, Int.reduceMul, Int.reduceNeg, beq_self_eq_true, bne_self_eq_false]
end Go.Proofs.Ytmmeippmkekggaa.G
