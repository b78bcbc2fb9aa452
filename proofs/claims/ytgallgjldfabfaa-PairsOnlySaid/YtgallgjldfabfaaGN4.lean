import Derived.Test.YtgallgjldfabfaaGN3
import Derived.Test.YtgallgjldfabfaaGV1
namespace Go.Proofs.Ytgallgjldfabfaa.G
open Go.BX
set_option linter.unusedSimpArgs false
set_option linter.unusedVariables false

def writeV (k n : Int) (s : Bytes) (x y : Int) : Bytes :=
  if k = 0 then decS n else if k = 1 then quoS s else decS x ++ [58] ++ decS y

def half (n : Int) : Int := n % 134217728

def bytesV (k n : Int) (s : Bytes) (x y : Int) : Bytes :=
  if k = 0 then numS 0 ++ wholeS ((n - half n) / 134217728) ++ numS (half n) else if k = 1 then numS 1 ++ textS s else numS 2 ++ wholeS x ++ wholeS y

theorem right_cases {k n : Int} {s : Bytes} {x y : Int} (h : rightV k n s x y = true) :
    (k = 0 ∧ (-9007199254740992 ≤ n ∧ n ≤ 9007199254740992) ∧ s = [] ∧ x = 0 ∧ y = 0) ∨ (k = 1 ∧ s.length ≤ 4096 ∧ n = 0 ∧ x = 0 ∧ y = 0) ∨ (k = 2 ∧ (inR x = true ∧ inR y = true) ∧ n = 0 ∧ s = []) := by
  unfold rightV at h
  split at h
  · rename_i h0
    simp at h
    exact .inl ⟨h0, ⟨h.1.1.1, h.1.1.2⟩, h.1.2, h.2.1, h.2.2⟩
  · split at h
    · rename_i h1
      simp at h
      exact .inr (.inl ⟨h1, by omega, h.1.2, h.2.1, h.2.2⟩)
    · split at h
      · rename_i h2
        simp at h
        exact .inr (.inr ⟨h2, h.1.1, h.1.2, h.2⟩)
      · cases h

theorem inR_iff {x : Int} : inR x = true ↔ -16777216 ≤ x ∧ x ≤ 16777216 := by simp [inR]

theorem Bytes_no {k n : Int} {s : Bytes} {x y : Int} (h : rightV k n s x y = false) : PCall Cx 15 [val k n s x y] (.str []) := by
  refine pcall_run (noext _) body15 ?_
  have r := Right_ok k n s x y
  rw [h] at r
  simp only [call_pure pure19 rfl r, n15_0, n15_1, n15_2, n15_3, n15_4, n15_5, n15_6, n15_7, n15_8, n15_9, n15_10, n15_11, n15_12, n15_13, n15_14, n15_15, n15_16, n15_17, n15_18, n15_19, n15_20, n15_21, n15_22, n15_23, n15_24, n15_25, n15_26, n15_27, n15_28, n15_29, n15_30, n15_31, n15_32, n15_33, o15_1, o15_4, o15_7, o15_11, o15_14, o15_17, o15_20, o15_22, o15_25, o15_28, o15_32, res15, TT_3, TT_4, TT_5, TT_9, TT_22, TT_27, TT_34, TT_36, TT_38, TT_39, TT_40, TT_42, TT_54, TT_66, ro_cons, ro_nil, ro_guardC, runGuard_bool, runGuard_undef, rop_assign, rop_move, rop_binOp, rop_unOp, rop_pick, rop_box, rop_alloc, rop_build, rop_field, rop_fieldAddr, rop_load, rop_store, rop_convert, rop_extract, rop_nilCheck, rop_builtinC, rop_callC, rop_callC, runA_fn, runB_some, runV_some, runVH_some, runCond_bool, primP, primM, ev, evs, parts_, ofConst, fltOf_0, bin, un, intBin, putA, enterT, upd_app, decide_true, decide_false, Nat.reduceEqDiff, Nat.reduceAdd, Nat.reduceMul, Nat.reduceLeDiff, Nat.reduceLT, Nat.zero_add, Bool.false_eq_true, Bool.not_true, Bool.not_false, ↓reduceIte, reduceCtorEq, List.getElem?_cons_zero, List.getElem?_cons_succ, List.getElem?_nil, Option.getD_some, Option.map_some, RunRes, resultsA, oneOf, freeze_int, freeze_bool, freeze_str, freeze_flt, freeze_cpx, freeze_agg, freeze_tuple, freeze2_int, freeze2_bool, freeze2_agg, freeze2_cpx, freeze2_flt, freeze1_int, freeze1_bool, freeze1_str, mapO_nil, mapO_cons, consO_some, AV.plain, AV.cells, AHeap.push, AHeap.set, AHeap.empty, fieldOf, loadA, storeA, BX.part, TK.isAgg, convA, builtinA, inertB, builtinP, buildA, fillA, splice, List.length_cons, List.length_nil, List.take_succ_cons, List.take_zero, List.take_nil, List.drop_succ_cons, List.drop_zero, List.drop_nil, List.cons_append, List.nil_append, List.append_nil, List.set_cons_zero, List.set_cons_succ, true_and, and_true, and_self, eqv, cellsEq, Option.bind_some, sizeT, dyn_nil, dyn_end, dyn_cons, dop_move, dop_assign, dop_build, dop_nilCheck, dop_fieldAddr, dop_field, dop_indexAddr, dop_binOp, dop_extract, dop_load, dop_store, dop_alloc, dop_box, dop_buildSlice, dynV_some, chk_nil, chk_cons, apart_ptr, adT, ldT, fwT, bne_iff_ne, ne_eq, not_false_eq_true, not_true_eq_false, Nat.le_refl, Nat.add_zero, Bool.true_and, Bool.and_true, Bool.false_and, Bool.and_false, Nat.reduceBeqDiff, Nat.reduceBneDiff, Int.reduceBNe, Int.reduceBEq, Int.reduceEq, Int.reduceLT, Int.reduceLE, Int.reduceAdd, Int.reduceSub, Int.reduceMul, Int.reduceNeg, beq_self_eq_true, bne_self_eq_false, strBin, rop_indexAddr, rop_buildSlice, rop_index, rop_slice, rop_makeSlice, rop_makeFunc, indexAddrA, elems, lenOf, chunk, List.reduceReplicate, List.flatten_cons, List.flatten_nil, freeze_slc, freeze2_slc, freeze1_slc, frzE_some, freeze1_emp, freeze_emp, freeze2_emp, freeze_nilS, freeze2_nilS, freeze1_nilS, freeze_vec, freeze2_vec, freeze1_vec, Int.toNat_zero, Int.toNat_one, Int.reduceToNat, Int.cast_ofNat_Int]

theorem tmod_half (n : Int) : ((n.tmod 134217728 + 134217728).tmod 134217728) = half n := by
  have h1 := Int.tmod_lt_of_pos n (b := 134217728) (by omega)
  have h2 := Int.tmod_lt_of_pos (-n) (b := 134217728) (by omega)
  rw [Int.neg_tmod] at h2
  rw [Int.tmod_eq_emod_of_nonneg (by omega)]
  unfold half
  rw [Int.add_emod_right]
  have e := Int.tmod_add_mul_tdiv n 134217728
  have : n.tmod 134217728 % 134217728 = n % 134217728 := by
    conv => rhs; rw [← e]
    rw [Int.add_mul_emod_self_left]
  exact this

theorem Bytes_ok {k n : Int} {s : Bytes} {x y : Int} (h : rightV k n s x y = true) : PCall Cx 15 [val k n s x y] (.str (bytesV k n s x y)) := by
  refine pcall_run (noext _) body15 ?_
  have r := Right_ok k n s x y
  rw [h] at r
  unfold bytesV
  have l0 := numS_len 0
  have l1 := numS_len 1
  have l2 := numS_len 2
  rcases right_cases h with ⟨rfl, hn, rfl, rfl, rfl⟩ | ⟨rfl, hs, rfl, rfl, rfl⟩ | ⟨rfl, ⟨hx, hy⟩, rfl, rfl⟩
  · have h1 := Int.tmod_lt_of_pos n (b := 134217728) (by omega)
    have h2 := Int.tmod_lt_of_pos (-n) (b := 134217728) (by omega)
    rw [Int.neg_tmod] at h2
    have w1 : IntKind.i64.wrap (n.tmod 134217728 + 134217728) = n.tmod 134217728 + 134217728 := wr64 (by omega) (by omega)
    have th := tmod_half n
    have hh : 0 ≤ half n ∧ half n < 134217728 := by unfold half; omega
    have w2 : IntKind.i64.wrap (n - half n) = n - half n := wr64 (by omega) (by omega)
    have ed : (n - half n).tdiv 134217728 = (n - half n) / 134217728 := by
      have e0 : n - half n = (n / 134217728) * 134217728 := by unfold half; omega
      rw [e0, Int.mul_tdiv_cancel _ (by omega), Int.mul_ediv_cancel _ (by omega)]
    have w3 : IntKind.i64.wrap ((n - half n) / 134217728) = (n - half n) / 134217728 := wr64 (by omega) (by omega)
    have z : ((134217728 : Int) = 0) = False := by simp
    have lw := wholeS_len ((n - half n) / 134217728)
    have ln := numS_len (half n)
    have g1 : ((numS 0).length + (wholeS ((n - half n) / 134217728)).length ≤ 9223372036854775807) = True := eq_true (by omega)
    have g2 : ((numS 0 ++ wholeS ((n - half n) / 134217728)).length + (numS (half n)).length ≤ 9223372036854775807) = True := eq_true (by rw [List.length_append]; omega)
    simp only [w1, w2, w3, th, ed, z, g1, g2, call_pure pure19 rfl r, call_pure pure13 rfl (Num_ok 0), call_pure pure13 rfl (Num_ok (half n)), call_pure pure28 rfl (Whole_ok ((n - half n) / 134217728)), run_exit_start, exit_here, exit_code, run_inBlock, n15_0, n15_1, n15_2, n15_3, n15_4, n15_5, n15_6, n15_7, n15_8, n15_9, n15_10, n15_11, n15_12, n15_13, n15_14, n15_15, n15_16, n15_17, n15_18, n15_19, n15_20, n15_21, n15_22, n15_23, n15_24, n15_25, n15_26, n15_27, n15_28, n15_29, n15_30, n15_31, n15_32, n15_33, o15_1, o15_4, o15_7, o15_11, o15_14, o15_17, o15_20, o15_22, o15_25, o15_28, o15_32, res15, TT_3, TT_4, TT_5, TT_9, TT_22, TT_27, TT_34, TT_36, TT_38, TT_39, TT_40, TT_42, TT_54, TT_66, ro_cons, ro_nil, ro_guardC, runGuard_bool, runGuard_undef, rop_assign, rop_move, rop_binOp, rop_unOp, rop_pick, rop_box, rop_alloc, rop_build, rop_field, rop_fieldAddr, rop_load, rop_store, rop_convert, rop_extract, rop_nilCheck, rop_builtinC, rop_callC, rop_callC, runA_fn, runB_some, runV_some, runVH_some, runCond_bool, primP, primM, ev, evs, parts_, ofConst, fltOf_0, bin, un, intBin, putA, enterT, upd_app, decide_true, decide_false, Nat.reduceEqDiff, Nat.reduceAdd, Nat.reduceMul, Nat.reduceLeDiff, Nat.reduceLT, Nat.zero_add, Bool.false_eq_true, Bool.not_true, Bool.not_false, ↓reduceIte, reduceCtorEq, List.getElem?_cons_zero, List.getElem?_cons_succ, List.getElem?_nil, Option.getD_some, Option.map_some, RunRes, resultsA, oneOf, freeze_int, freeze_bool, freeze_str, freeze_flt, freeze_cpx, freeze_agg, freeze_tuple, freeze2_int, freeze2_bool, freeze2_agg, freeze2_cpx, freeze2_flt, freeze1_int, freeze1_bool, freeze1_str, mapO_nil, mapO_cons, consO_some, AV.plain, AV.cells, AHeap.push, AHeap.set, AHeap.empty, fieldOf, loadA, storeA, BX.part, TK.isAgg, convA, builtinA, inertB, builtinP, buildA, fillA, splice, List.length_cons, List.length_nil, List.take_succ_cons, List.take_zero, List.take_nil, List.drop_succ_cons, List.drop_zero, List.drop_nil, List.cons_append, List.nil_append, List.append_nil, List.set_cons_zero, List.set_cons_succ, true_and, and_true, and_self, eqv, cellsEq, Option.bind_some, sizeT, dyn_nil, dyn_end, dyn_cons, dop_move, dop_assign, dop_build, dop_nilCheck, dop_fieldAddr, dop_field, dop_indexAddr, dop_binOp, dop_extract, dop_load, dop_store, dop_alloc, dop_box, dop_buildSlice, dynV_some, chk_nil, chk_cons, apart_ptr, adT, ldT, fwT, bne_iff_ne, ne_eq, not_false_eq_true, not_true_eq_false, Nat.le_refl, Nat.add_zero, Bool.true_and, Bool.and_true, Bool.false_and, Bool.and_false, Nat.reduceBeqDiff, Nat.reduceBneDiff, Int.reduceBNe, Int.reduceBEq, Int.reduceEq, Int.reduceLT, Int.reduceLE, Int.reduceAdd, Int.reduceSub, Int.reduceMul, Int.reduceNeg, beq_self_eq_true, bne_self_eq_false, strBin, rop_indexAddr, rop_buildSlice, rop_index, rop_slice, rop_makeSlice, rop_makeFunc, indexAddrA, elems, lenOf, chunk, List.reduceReplicate, List.flatten_cons, List.flatten_nil, freeze_slc, freeze2_slc, freeze1_slc, frzE_some, freeze1_emp, freeze_emp, freeze2_emp, freeze_nilS, freeze2_nilS, freeze1_nilS, freeze_vec, freeze2_vec, freeze1_vec, Int.toNat_zero, Int.toNat_one, Int.reduceToNat, Int.cast_ofNat_Int]
  · have lt : (textS s).length ≤ 9 + s.length := by unfold textS; rw [List.length_append]; have := numS_len s.length; omega
    have g1 : ((numS 1).length + (textS s).length ≤ 9223372036854775807) = True := eq_true (by omega)
    simp only [g1, call_pure pure19 rfl r, call_pure pure13 rfl (Num_ok 1), call_pure pure14 rfl (Text_ok s (by omega)), run_exit_start, exit_here, exit_code, run_inBlock, n15_0, n15_1, n15_2, n15_3, n15_4, n15_5, n15_6, n15_7, n15_8, n15_9, n15_10, n15_11, n15_12, n15_13, n15_14, n15_15, n15_16, n15_17, n15_18, n15_19, n15_20, n15_21, n15_22, n15_23, n15_24, n15_25, n15_26, n15_27, n15_28, n15_29, n15_30, n15_31, n15_32, n15_33, o15_1, o15_4, o15_7, o15_11, o15_14, o15_17, o15_20, o15_22, o15_25, o15_28, o15_32, res15, TT_3, TT_4, TT_5, TT_9, TT_22, TT_27, TT_34, TT_36, TT_38, TT_39, TT_40, TT_42, TT_54, TT_66, ro_cons, ro_nil, ro_guardC, runGuard_bool, runGuard_undef, rop_assign, rop_move, rop_binOp, rop_unOp, rop_pick, rop_box, rop_alloc, rop_build, rop_field, rop_fieldAddr, rop_load, rop_store, rop_convert, rop_extract, rop_nilCheck, rop_builtinC, rop_callC, rop_callC, runA_fn, runB_some, runV_some, runVH_some, runCond_bool, primP, primM, ev, evs, parts_, ofConst, fltOf_0, bin, un, intBin, putA, enterT, upd_app, decide_true, decide_false, Nat.reduceEqDiff, Nat.reduceAdd, Nat.reduceMul, Nat.reduceLeDiff, Nat.reduceLT, Nat.zero_add, Bool.false_eq_true, Bool.not_true, Bool.not_false, ↓reduceIte, reduceCtorEq, List.getElem?_cons_zero, List.getElem?_cons_succ, List.getElem?_nil, Option.getD_some, Option.map_some, RunRes, resultsA, oneOf, freeze_int, freeze_bool, freeze_str, freeze_flt, freeze_cpx, freeze_agg, freeze_tuple, freeze2_int, freeze2_bool, freeze2_agg, freeze2_cpx, freeze2_flt, freeze1_int, freeze1_bool, freeze1_str, mapO_nil, mapO_cons, consO_some, AV.plain, AV.cells, AHeap.push, AHeap.set, AHeap.empty, fieldOf, loadA, storeA, BX.part, TK.isAgg, convA, builtinA, inertB, builtinP, buildA, fillA, splice, List.length_cons, List.length_nil, List.take_succ_cons, List.take_zero, List.take_nil, List.drop_succ_cons, List.drop_zero, List.drop_nil, List.cons_append, List.nil_append, List.append_nil, List.set_cons_zero, List.set_cons_succ, true_and, and_true, and_self, eqv, cellsEq, Option.bind_some, sizeT, dyn_nil, dyn_end, dyn_cons, dop_move, dop_assign, dop_build, dop_nilCheck, dop_fieldAddr, dop_field, dop_indexAddr, dop_binOp, dop_extract, dop_load, dop_store, dop_alloc, dop_box, dop_buildSlice, dynV_some, chk_nil, chk_cons, apart_ptr, adT, ldT, fwT, bne_iff_ne, ne_eq, not_false_eq_true, not_true_eq_false, Nat.le_refl, Nat.add_zero, Bool.true_and, Bool.and_true, Bool.false_and, Bool.and_false, Nat.reduceBeqDiff, Nat.reduceBneDiff, Int.reduceBNe, Int.reduceBEq, Int.reduceEq, Int.reduceLT, Int.reduceLE, Int.reduceAdd, Int.reduceSub, Int.reduceMul, Int.reduceNeg, beq_self_eq_true, bne_self_eq_false, strBin, rop_indexAddr, rop_buildSlice, rop_index, rop_slice, rop_makeSlice, rop_makeFunc, indexAddrA, elems, lenOf, chunk, List.reduceReplicate, List.flatten_cons, List.flatten_nil, freeze_slc, freeze2_slc, freeze1_slc, frzE_some, freeze1_emp, freeze_emp, freeze2_emp, freeze_nilS, freeze2_nilS, freeze1_nilS, freeze_vec, freeze2_vec, freeze1_vec, Int.toNat_zero, Int.toNat_one, Int.reduceToNat, Int.cast_ofNat_Int]
  · have lx := wholeS_len x
    have ly := wholeS_len y
    have g1 : ((numS 2).length + (wholeS x).length ≤ 9223372036854775807) = True := eq_true (by omega)
    have g2 : ((numS 2 ++ wholeS x).length + (wholeS y).length ≤ 9223372036854775807) = True := eq_true (by rw [List.length_append]; omega)
    simp only [g1, g2, call_pure pure19 rfl r, call_pure pure13 rfl (Num_ok 2), call_pure pure28 rfl (Whole_ok x), call_pure pure28 rfl (Whole_ok y), run_exit_start, exit_here, exit_code, run_inBlock, n15_0, n15_1, n15_2, n15_3, n15_4, n15_5, n15_6, n15_7, n15_8, n15_9, n15_10, n15_11, n15_12, n15_13, n15_14, n15_15, n15_16, n15_17, n15_18, n15_19, n15_20, n15_21, n15_22, n15_23, n15_24, n15_25, n15_26, n15_27, n15_28, n15_29, n15_30, n15_31, n15_32, n15_33, o15_1, o15_4, o15_7, o15_11, o15_14, o15_17, o15_20, o15_22, o15_25, o15_28, o15_32, res15, TT_3, TT_4, TT_5, TT_9, TT_22, TT_27, TT_34, TT_36, TT_38, TT_39, TT_40, TT_42, TT_54, TT_66, ro_cons, ro_nil, ro_guardC, runGuard_bool, runGuard_undef, rop_assign, rop_move, rop_binOp, rop_unOp, rop_pick, rop_box, rop_alloc, rop_build, rop_field, rop_fieldAddr, rop_load, rop_store, rop_convert, rop_extract, rop_nilCheck, rop_builtinC, rop_callC, rop_callC, runA_fn, runB_some, runV_some, runVH_some, runCond_bool, primP, primM, ev, evs, parts_, ofConst, fltOf_0, bin, un, intBin, putA, enterT, upd_app, decide_true, decide_false, Nat.reduceEqDiff, Nat.reduceAdd, Nat.reduceMul, Nat.reduceLeDiff, Nat.reduceLT, Nat.zero_add, Bool.false_eq_true, Bool.not_true, Bool.not_false, ↓reduceIte, reduceCtorEq, List.getElem?_cons_zero, List.getElem?_cons_succ, List.getElem?_nil, Option.getD_some, Option.map_some, RunRes, resultsA, oneOf, freeze_int, freeze_bool, freeze_str, freeze_flt, freeze_cpx, freeze_agg, freeze_tuple, freeze2_int, freeze2_bool, freeze2_agg, freeze2_cpx, freeze2_flt, freeze1_int, freeze1_bool, freeze1_str, mapO_nil, mapO_cons, consO_some, AV.plain, AV.cells, AHeap.push, AHeap.set, AHeap.empty, fieldOf, loadA, storeA, BX.part, TK.isAgg, convA, builtinA, inertB, builtinP, buildA, fillA, splice, List.length_cons, List.length_nil, List.take_succ_cons, List.take_zero, List.take_nil, List.drop_succ_cons, List.drop_zero, List.drop_nil, List.cons_append, List.nil_append, List.append_nil, List.set_cons_zero, List.set_cons_succ, true_and, and_true, and_self, eqv, cellsEq, Option.bind_some, sizeT, dyn_nil, dyn_end, dyn_cons, dop_move, dop_assign, dop_build, dop_nilCheck, dop_fieldAddr, dop_field, dop_indexAddr, dop_binOp, dop_extract, dop_load, dop_store, dop_alloc, dop_box, dop_buildSlice, dynV_some, chk_nil, chk_cons, apart_ptr, adT, ldT, fwT, bne_iff_ne, ne_eq, not_false_eq_true, not_true_eq_false, Nat.le_refl, Nat.add_zero, Bool.true_and, Bool.and_true, Bool.false_and, Bool.and_false, Nat.reduceBeqDiff, Nat.reduceBneDiff, Int.reduceBNe, Int.reduceBEq, Int.reduceEq, Int.reduceLT, Int.reduceLE, Int.reduceAdd, Int.reduceSub, Int.reduceMul, Int.reduceNeg, beq_self_eq_true, bne_self_eq_false, strBin, rop_indexAddr, rop_buildSlice, rop_index, rop_slice, rop_makeSlice, rop_makeFunc, indexAddrA, elems, lenOf, chunk, List.reduceReplicate, List.flatten_cons, List.flatten_nil, freeze_slc, freeze2_slc, freeze1_slc, frzE_some, freeze1_emp, freeze_emp, freeze2_emp, freeze_nilS, freeze2_nilS, freeze1_nilS, freeze_vec, freeze2_vec, freeze1_vec, Int.toNat_zero, Int.toNat_one, Int.reduceToNat, Int.cast_ofNat_Int]
end Go.Proofs.Ytgallgjldfabfaa.G
