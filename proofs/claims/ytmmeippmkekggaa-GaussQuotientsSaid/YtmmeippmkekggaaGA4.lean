import Derived.Test.YtmmeippmkekggaaGA3
namespace Go.Proofs.Ytmmeippmkekggaa.G
open Go.BX
set_option linter.unusedSimpArgs false

theorem inR_iff {x : Int} : inR x = true ↔ -16777216 ≤ x ∧ x ≤ 16777216 := by simp [inR]

theorem fits_of {x : Int} (h : -9007199254740992 ≤ x ∧ x ≤ 9007199254740992) : fits x = true := by simp [fits]; omega

theorem number_ok' (x y : Int) (fx : fits x = true) (fy : fits y = true) : PCall Cx 31 [spot x y] (.cpx x y) := by
  refine pcall_run (noext _) body31 ?_
  simp only [fx, fy, n31_0, n31_1, n31_2, n31_3, n31_4, o31_1, o31_3, res31, TT_3, TT_4, TT_23, TT_24, TT_47, TT_51, TT_52, ro_cons, ro_nil, ro_guardC, runGuard_bool, runGuard_undef, rop_assign, rop_move, rop_binOp, rop_unOp, rop_pick, rop_box, rop_alloc, rop_build, rop_field, rop_fieldAddr, rop_load, rop_store, rop_convert, rop_extract, rop_nilCheck, rop_builtinC, rop_callC, rop_callC, runA_fn, runB_some, runV_some, runVH_some, runCond_bool, primP, primM, ev, evs, parts_, ofConst, fltOf_0, bin, un, intBin, putA, enterT, upd_app, decide_true, decide_false, Nat.reduceEqDiff, Nat.reduceAdd, Nat.reduceMul, Nat.reduceLeDiff, Nat.reduceLT, Nat.zero_add, Bool.false_eq_true, Bool.not_true, Bool.not_false, ↓reduceIte, reduceCtorEq, List.getElem?_cons_zero, List.getElem?_cons_succ, List.getElem?_nil, Option.getD_some, Option.map_some, RunRes, resultsA, oneOf, freeze_int, freeze_bool, freeze_str, freeze_flt, freeze_cpx, freeze_agg, freeze_tuple, freeze2_int, freeze2_bool, freeze2_agg, freeze2_cpx, freeze2_flt, freeze1_int, freeze1_bool, freeze1_str, mapO_nil, mapO_cons, consO_some, AV.plain, AV.cells, AHeap.push, AHeap.set, AHeap.empty, fieldOf, loadA, storeA, BX.part, TK.isAgg, convA, builtinA, inertB, builtinP, buildA, fillA, splice, List.length_cons, List.length_nil, List.take_succ_cons, List.take_zero, List.take_nil, List.drop_succ_cons, List.drop_zero, List.drop_nil, List.cons_append, List.nil_append, List.append_nil, List.set_cons_zero, List.set_cons_succ, true_and, and_true, and_self, eqv, cellsEq, Option.bind_some, sizeT, dyn_nil, dyn_end, dyn_cons, dop_move, dop_assign, dop_build, dop_nilCheck, dop_fieldAddr, dop_field, dop_indexAddr, dop_binOp, dop_extract, dop_load, dop_store, dop_alloc, dop_box, dop_buildSlice, dynV_some, chk_nil, chk_cons, apart_ptr, adT, ldT, fwT, bne_iff_ne, ne_eq, not_false_eq_true, not_true_eq_false, Nat.le_refl, Nat.add_zero, Bool.true_and, Bool.and_true, Bool.false_and, Bool.and_false, Int.reduceBNe, Int.reduceBEq, Int.reduceEq, Int.reduceLT, Int.reduceLE, Int.reduceAdd, Int.reduceSub, Int.reduceMul, Int.reduceNeg, beq_self_eq_true, bne_self_eq_false]

theorem mulB {a b M : Int} {A : Int} (ha : -A ≤ a ∧ a ≤ A) (hb : -M ≤ b ∧ b ≤ M) : -(A * M) ≤ a * b ∧ a * b ≤ A * M := by
  have h1 := Int.mul_nonneg (a := A - a) (b := M - b) (by omega) (by omega)
  have h2 := Int.mul_nonneg (a := A + a) (b := M + b) (by omega) (by omega)
  have h3 := Int.mul_nonneg (a := A - a) (b := M + b) (by omega) (by omega)
  have h4 := Int.mul_nonneg (a := A + a) (b := M - b) (by omega) (by omega)
  simp only [Int.sub_mul, Int.mul_sub, Int.add_mul, Int.mul_add] at h1 h2 h3 h4
  omega

def nrm (x y : Int) : Int := x * x + y * y

theorem nrm_bound {x y : Int} (hx : inR x = true) (hy : inR y = true) : 0 ≤ x * x ∧ 0 ≤ y * y ∧ x * x ≤ 281474976710656 ∧ y * y ≤ 281474976710656 := by
  rw [inR_iff] at hx hy
  have h1 := mulB hx hx
  have h2 := mulB hy hy
  have h3 : 0 ≤ x * x := by rcases Int.le_total 0 x with h | h
                            · exact Int.mul_nonneg h h
                            · exact Int.mul_nonneg_of_nonpos_of_nonpos h h
  have h4 : 0 ≤ y * y := by rcases Int.le_total 0 y with h | h
                            · exact Int.mul_nonneg h h
                            · exact Int.mul_nonneg_of_nonpos_of_nonpos h h
  omega

theorem norm_ok (x y : Int) (hx : inR x = true) (hy : inR y = true) : PCall Cx 27 [spot x y] (.int .i64 (nrm x y)) := by
  refine pcall_run (noext _) body27 ?_
  obtain ⟨h1, h2, h3, h4⟩ := nrm_bound hx hy
  have w1 : IntKind.i64.wrap (x * x) = x * x := wr64 (by omega) (by omega)
  have w2 : IntKind.i64.wrap (y * y) = y * y := wr64 (by omega) (by omega)
  have w3 : IntKind.i64.wrap (x * x + y * y) = x * x + y * y := wr64 (by omega) (by omega)
  simp only [w1, w2, w3, nrm, n27_0, n27_1, n27_2, n27_3, n27_4, o27_1, o27_3, res27, TT_3, TT_4, TT_23, TT_24, TT_47, TT_51, TT_52, ro_cons, ro_nil, ro_guardC, runGuard_bool, runGuard_undef, rop_assign, rop_move, rop_binOp, rop_unOp, rop_pick, rop_box, rop_alloc, rop_build, rop_field, rop_fieldAddr, rop_load, rop_store, rop_convert, rop_extract, rop_nilCheck, rop_builtinC, rop_callC, rop_callC, runA_fn, runB_some, runV_some, runVH_some, runCond_bool, primP, primM, ev, evs, parts_, ofConst, fltOf_0, bin, un, intBin, putA, enterT, upd_app, decide_true, decide_false, Nat.reduceEqDiff, Nat.reduceAdd, Nat.reduceMul, Nat.reduceLeDiff, Nat.reduceLT, Nat.zero_add, Bool.false_eq_true, Bool.not_true, Bool.not_false, ↓reduceIte, reduceCtorEq, List.getElem?_cons_zero, List.getElem?_cons_succ, List.getElem?_nil, Option.getD_some, Option.map_some, RunRes, resultsA, oneOf, freeze_int, freeze_bool, freeze_str, freeze_flt, freeze_cpx, freeze_agg, freeze_tuple, freeze2_int, freeze2_bool, freeze2_agg, freeze2_cpx, freeze2_flt, freeze1_int, freeze1_bool, freeze1_str, mapO_nil, mapO_cons, consO_some, AV.plain, AV.cells, AHeap.push, AHeap.set, AHeap.empty, fieldOf, loadA, storeA, BX.part, TK.isAgg, convA, builtinA, inertB, builtinP, buildA, fillA, splice, List.length_cons, List.length_nil, List.take_succ_cons, List.take_zero, List.take_nil, List.drop_succ_cons, List.drop_zero, List.drop_nil, List.cons_append, List.nil_append, List.append_nil, List.set_cons_zero, List.set_cons_succ, true_and, and_true, and_self, eqv, cellsEq, Option.bind_some, sizeT, dyn_nil, dyn_end, dyn_cons, dop_move, dop_assign, dop_build, dop_nilCheck, dop_fieldAddr, dop_field, dop_indexAddr, dop_binOp, dop_extract, dop_load, dop_store, dop_alloc, dop_box, dop_buildSlice, dynV_some, chk_nil, chk_cons, apart_ptr, adT, ldT, fwT, bne_iff_ne, ne_eq, not_false_eq_true, not_true_eq_false, Nat.le_refl, Nat.add_zero, Bool.true_and, Bool.and_true, Bool.false_and, Bool.and_false, Int.reduceBNe, Int.reduceBEq, Int.reduceEq, Int.reduceLT, Int.reduceLE, Int.reduceAdd, Int.reduceSub, Int.reduceMul, Int.reduceNeg, beq_self_eq_true, bne_self_eq_false]

end Go.Proofs.Ytmmeippmkekggaa.G
