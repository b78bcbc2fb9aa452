import Derived.Test.YtmmeippmkekggaaGA1
import Derived.Laws.BitsLemmas
namespace Go.Proofs.Ytmmeippmkekggaa.G
open Go.BX
set_option linter.unusedSimpArgs false

theorem wr64 {n : Int} (h1 : -9223372036854775808 ≤ n) (h2 : n ≤ 9223372036854775807) : IntKind.i64.wrap n = n := by
  rw [IntKind.wrap_i64]; omega

/-- Rounded to the nearest, a half to the greater. -/
def nr (n d : Int) : Int := (2 * n + d) / (2 * d)

theorem tdiv_floor {a b : Int} (hb : 0 < b) : a / b = if a.tmod b < 0 then a.tdiv b - 1 else a.tdiv b := by
  have e := Int.tmod_add_mul_tdiv a b
  have h1 := Int.tmod_lt_of_pos a hb
  have h2 : -b < a.tmod b := by
    have := Int.tmod_lt_of_pos (-a) hb
    rw [Int.neg_tmod] at this
    omega
  split
  · refine ((Int.ediv_emod_unique (r := a.tmod b + b) hb).mpr ⟨?_, by omega, by omega⟩).1
    rw [Int.mul_sub]; omega
  · exact ((Int.ediv_emod_unique (r := a.tmod b) hb).mpr ⟨e, by omega, by omega⟩).1

theorem nearest_ok (n d : Int) (hn : -1125899906842624 ≤ n ∧ n ≤ 1125899906842624) (hd : 0 < d ∧ d ≤ 1125899906842624) : PCall Cx 35 [.int .i64 n, .int .i64 d] (.int .i64 (nr n d)) := by
  refine pcall_run (noext _) body35 ?_
  have w1 : IntKind.i64.wrap (2 * n) = 2 * n := wr64 (by omega) (by omega)
  have w2 : IntKind.i64.wrap (2 * n + d) = 2 * n + d := wr64 (by omega) (by omega)
  have w3 : IntKind.i64.wrap (2 * d) = 2 * d := wr64 (by omega) (by omega)
  have h0 : (2 * d = 0) = False := by simp; omega
  have hf := tdiv_floor (a := 2 * n + d) (b := 2 * d) (by omega)
  have e := Int.tmod_add_mul_tdiv (2 * n + d) (2 * d)
  have hb : -9223372036854775808 ≤ (2 * n + d).tdiv (2 * d) - 1 ∧ (2 * n + d).tdiv (2 * d) ≤ 9223372036854775807 := by
    have u1 : (2 * n + d) / (2 * d) ≤ 4503599627370496 := Int.ediv_le_of_le_mul (by omega) (by omega)
    have u2 : -4503599627370496 ≤ (2 * n + d) / (2 * d) := Int.le_ediv_of_mul_le (by omega) (by omega)
    rw [hf] at u1 u2
    split at u1 <;> simp_all <;> omega
  have w4 : IntKind.i64.wrap ((2 * n + d).tdiv (2 * d)) = (2 * n + d).tdiv (2 * d) := wr64 (by omega) (by omega)
  have w5 : IntKind.i64.wrap ((2 * n + d).tdiv (2 * d) - 1) = (2 * n + d).tdiv (2 * d) - 1 := wr64 (by omega) (by omega)
  by_cases h : (2 * n + d).tmod (2 * d) < 0
  · simp only [h, w1, w2, w3, w4, w5, h0, nr, hf, n35_0, n35_1, n35_2, n35_3, n35_4, n35_5, n35_6, n35_7, n35_8, n35_9, n35_10, n35_11, n35_12, n35_13, n35_14, o35_1, o35_3, o35_5, o35_8, o35_10, o35_13, res35, ro_cons, ro_nil, ro_guardC, runGuard_bool, runGuard_undef, rop_assign, rop_move, rop_binOp, rop_unOp, rop_pick, rop_box, rop_alloc, rop_build, rop_field, rop_fieldAddr, rop_load, rop_store, rop_convert, rop_extract, rop_nilCheck, rop_builtinC, rop_callC, rop_callC, runA_fn, runB_some, runV_some, runVH_some, runCond_bool, primP, primM, ev, evs, parts_, ofConst, fltOf_0, bin, un, intBin, putA, enterT, upd_app, decide_true, decide_false, Nat.reduceEqDiff, Nat.reduceAdd, Nat.reduceMul, Nat.reduceLeDiff, Nat.reduceLT, Nat.zero_add, Bool.false_eq_true, Bool.not_true, Bool.not_false, ↓reduceIte, reduceCtorEq, List.getElem?_cons_zero, List.getElem?_cons_succ, List.getElem?_nil, Option.getD_some, Option.map_some, RunRes, resultsA, oneOf, freeze_int, freeze_bool, freeze_str, freeze_flt, freeze_cpx, freeze_agg, freeze_tuple, freeze2_int, freeze2_bool, freeze2_agg, freeze2_cpx, freeze2_flt, freeze1_int, freeze1_bool, freeze1_str, mapO_nil, mapO_cons, consO_some, AV.plain, AV.cells, AHeap.push, AHeap.set, AHeap.empty, fieldOf, loadA, storeA, BX.part, TK.isAgg, convA, builtinA, inertB, builtinP, buildA, fillA, splice, List.length_cons, List.length_nil, List.take_succ_cons, List.take_zero, List.take_nil, List.drop_succ_cons, List.drop_zero, List.drop_nil, List.cons_append, List.nil_append, List.append_nil, List.set_cons_zero, List.set_cons_succ, true_and, and_true, and_self, eqv, cellsEq, Option.bind_some, sizeT, dyn_nil, dyn_end, dyn_cons, dop_move, dop_assign, dop_build, dop_nilCheck, dop_fieldAddr, dop_field, dop_indexAddr, dop_binOp, dop_extract, dop_load, dop_store, dop_alloc, dop_box, dop_buildSlice, dynV_some, chk_nil, chk_cons, apart_ptr, adT, ldT, fwT, bne_iff_ne, ne_eq, not_false_eq_true, not_true_eq_false, Nat.le_refl, Nat.add_zero, Bool.true_and, Bool.and_true, Bool.false_and, Bool.and_false, Int.reduceBNe, Int.reduceBEq, Int.reduceEq, Int.reduceLT, Int.reduceLE, Int.reduceAdd, Int.reduceSub, Int.reduceMul, Int.reduceNeg, beq_self_eq_true, bne_self_eq_false]
  · simp only [h, w1, w2, w3, w4, w5, h0, nr, hf, n35_0, n35_1, n35_2, n35_3, n35_4, n35_5, n35_6, n35_7, n35_8, n35_9, n35_10, n35_11, n35_12, n35_13, n35_14, o35_1, o35_3, o35_5, o35_8, o35_10, o35_13, res35, ro_cons, ro_nil, ro_guardC, runGuard_bool, runGuard_undef, rop_assign, rop_move, rop_binOp, rop_unOp, rop_pick, rop_box, rop_alloc, rop_build, rop_field, rop_fieldAddr, rop_load, rop_store, rop_convert, rop_extract, rop_nilCheck, rop_builtinC, rop_callC, rop_callC, runA_fn, runB_some, runV_some, runVH_some, runCond_bool, primP, primM, ev, evs, parts_, ofConst, fltOf_0, bin, un, intBin, putA, enterT, upd_app, decide_true, decide_false, Nat.reduceEqDiff, Nat.reduceAdd, Nat.reduceMul, Nat.reduceLeDiff, Nat.reduceLT, Nat.zero_add, Bool.false_eq_true, Bool.not_true, Bool.not_false, ↓reduceIte, reduceCtorEq, List.getElem?_cons_zero, List.getElem?_cons_succ, List.getElem?_nil, Option.getD_some, Option.map_some, RunRes, resultsA, oneOf, freeze_int, freeze_bool, freeze_str, freeze_flt, freeze_cpx, freeze_agg, freeze_tuple, freeze2_int, freeze2_bool, freeze2_agg, freeze2_cpx, freeze2_flt, freeze1_int, freeze1_bool, freeze1_str, mapO_nil, mapO_cons, consO_some, AV.plain, AV.cells, AHeap.push, AHeap.set, AHeap.empty, fieldOf, loadA, storeA, BX.part, TK.isAgg, convA, builtinA, inertB, builtinP, buildA, fillA, splice, List.length_cons, List.length_nil, List.take_succ_cons, List.take_zero, List.take_nil, List.drop_succ_cons, List.drop_zero, List.drop_nil, List.cons_append, List.nil_append, List.append_nil, List.set_cons_zero, List.set_cons_succ, true_and, and_true, and_self, eqv, cellsEq, Option.bind_some, sizeT, dyn_nil, dyn_end, dyn_cons, dop_move, dop_assign, dop_build, dop_nilCheck, dop_fieldAddr, dop_field, dop_indexAddr, dop_binOp, dop_extract, dop_load, dop_store, dop_alloc, dop_box, dop_buildSlice, dynV_some, chk_nil, chk_cons, apart_ptr, adT, ldT, fwT, bne_iff_ne, ne_eq, not_false_eq_true, not_true_eq_false, Nat.le_refl, Nat.add_zero, Bool.true_and, Bool.and_true, Bool.false_and, Bool.and_false, Int.reduceBNe, Int.reduceBEq, Int.reduceEq, Int.reduceLT, Int.reduceLE, Int.reduceAdd, Int.reduceSub, Int.reduceMul, Int.reduceNeg, beq_self_eq_true, bne_self_eq_false]
end Go.Proofs.Ytmmeippmkekggaa.G
