import Derived.Test.YtmmeippmkekggaaGB1
namespace Go.Proofs.Ytmmeippmkekggaa.G
open Go.BX
set_option linter.unusedSimpArgs false

/-- The cells of a point. -/
abbrev spotB (a b : Int) : Blk := .cells 23 2 [[.int .i64 a, .int .i64 b]]

/-- From the second loop on. -/
def PF (r : AV) (a b : Int) : Prop :=
  ∀ (T : Nat → AV) (n : Nat) (A : Nat → Blk), T 2 = .ptr 0 2 0 0 → T 4 = .ptr 2 2 0 0 → A 0 = spotB a b → A 2 = spotB 0 0 → 3 ≤ n →
    Run Cx 12 T [] none [.inLoop c12_26, .inBlock 0, .code c12_34, .inScope c12_3] { next := n, at_ := A } (fun r0 H' => BX.freeze H' r0 = some r)

theorem pf_exit {a b : Int} (h : a = 0 ∧ b = 0 ∨ 0 < a ∧ 0 ≤ b) : PF (.tuple [spot a b, .int .i64 0]) a b := by
  intro T n A t2 t4 a0 a2 hn
  rw [run_inLoop]
  rcases h with ⟨rfl, rfl⟩ | ⟨h1, h2⟩
  · simp only [t2, t4, a0, a2, run_exit_start, exit_here, exit_code, exit_inLoop, n12_0, n12_1, n12_2, n12_3, n12_4, n12_5, n12_6, n12_7, n12_8, n12_9, n12_10, n12_11, n12_12, n12_13, n12_14, n12_15, n12_16, n12_17, n12_18, n12_19, n12_20, n12_22, n12_23, n12_24, n12_25, n12_26, n12_27, n12_28, n12_29, n12_30, n12_31, n12_32, n12_33, n12_34, n12_35, n12_36, o12_1, o12_5, o12_8, o12_15, o12_18, o12_20, o12_28, o12_33, o12_35, res12, TT_3, TT_4, TT_23, TT_24, TT_47, TT_51, TT_52, ro_cons, ro_nil, ro_guardC, runGuard_bool, runGuard_undef, rop_assign, rop_move, rop_binOp, rop_unOp, rop_pick, rop_box, rop_alloc, rop_build, rop_field, rop_fieldAddr, rop_load, rop_store, rop_convert, rop_extract, rop_nilCheck, rop_builtinC, rop_callC, rop_callC, runA_fn, runB_some, runV_some, runVH_some, runCond_bool, primP, primM, ev, evs, parts_, ofConst, fltOf_0, bin, un, intBin, putA, enterT, upd_app, decide_true, decide_false, Nat.reduceEqDiff, Nat.reduceAdd, Nat.reduceMul, Nat.reduceLeDiff, Nat.reduceLT, Nat.zero_add, Bool.false_eq_true, Bool.not_true, Bool.not_false, ↓reduceIte, reduceCtorEq, List.getElem?_cons_zero, List.getElem?_cons_succ, List.getElem?_nil, Option.getD_some, Option.map_some, RunRes, resultsA, oneOf, freeze_int, freeze_bool, freeze_str, freeze_flt, freeze_cpx, freeze_agg, freeze_tuple, freeze2_int, freeze2_bool, freeze2_agg, freeze2_cpx, freeze2_flt, freeze1_int, freeze1_bool, freeze1_str, mapO_nil, mapO_cons, consO_some, AV.plain, AV.cells, AHeap.push, AHeap.set, AHeap.empty, fieldOf, loadA, storeA, BX.part, TK.isAgg, convA, builtinA, inertB, builtinP, buildA, fillA, splice, List.length_cons, List.length_nil, List.take_succ_cons, List.take_zero, List.take_nil, List.drop_succ_cons, List.drop_zero, List.drop_nil, List.cons_append, List.nil_append, List.append_nil, List.set_cons_zero, List.set_cons_succ, true_and, and_true, and_self, eqv, cellsEq, Option.bind_some, sizeT, dyn_nil, dyn_end, dyn_cons, dop_move, dop_assign, dop_build, dop_nilCheck, dop_fieldAddr, dop_field, dop_indexAddr, dop_binOp, dop_extract, dop_load, dop_store, dop_alloc, dop_box, dop_buildSlice, dynV_some, chk_nil, chk_cons, apart_ptr, adT, ldT, fwT, bne_iff_ne, ne_eq, not_false_eq_true, not_true_eq_false, Nat.le_refl, Nat.add_zero, Bool.true_and, Bool.and_true, Bool.false_and, Bool.and_false, Int.reduceBNe, Int.reduceBEq, Int.reduceEq, Int.reduceLT, Int.reduceLE, Int.reduceAdd, Int.reduceSub, Int.reduceMul, Int.reduceNeg, beq_self_eq_true, bne_self_eq_false]
  · have e1 : (a == 0) = false := by simp; omega
    have e2 : (a ≤ 0) = False := eq_false (by omega)
    have e3 : (b < 0) = False := eq_false (by omega)
    simp only [e1, e2, e3, t2, t4, a0, a2, run_exit_start, exit_here, exit_code, exit_inLoop, n12_0, n12_1, n12_2, n12_3, n12_4, n12_5, n12_6, n12_7, n12_8, n12_9, n12_10, n12_11, n12_12, n12_13, n12_14, n12_15, n12_16, n12_17, n12_18, n12_19, n12_20, n12_22, n12_23, n12_24, n12_25, n12_26, n12_27, n12_28, n12_29, n12_30, n12_31, n12_32, n12_33, n12_34, n12_35, n12_36, o12_1, o12_5, o12_8, o12_15, o12_18, o12_20, o12_28, o12_33, o12_35, res12, TT_3, TT_4, TT_23, TT_24, TT_47, TT_51, TT_52, ro_cons, ro_nil, ro_guardC, runGuard_bool, runGuard_undef, rop_assign, rop_move, rop_binOp, rop_unOp, rop_pick, rop_box, rop_alloc, rop_build, rop_field, rop_fieldAddr, rop_load, rop_store, rop_convert, rop_extract, rop_nilCheck, rop_builtinC, rop_callC, rop_callC, runA_fn, runB_some, runV_some, runVH_some, runCond_bool, primP, primM, ev, evs, parts_, ofConst, fltOf_0, bin, un, intBin, putA, enterT, upd_app, decide_true, decide_false, Nat.reduceEqDiff, Nat.reduceAdd, Nat.reduceMul, Nat.reduceLeDiff, Nat.reduceLT, Nat.zero_add, Bool.false_eq_true, Bool.not_true, Bool.not_false, ↓reduceIte, reduceCtorEq, List.getElem?_cons_zero, List.getElem?_cons_succ, List.getElem?_nil, Option.getD_some, Option.map_some, RunRes, resultsA, oneOf, freeze_int, freeze_bool, freeze_str, freeze_flt, freeze_cpx, freeze_agg, freeze_tuple, freeze2_int, freeze2_bool, freeze2_agg, freeze2_cpx, freeze2_flt, freeze1_int, freeze1_bool, freeze1_str, mapO_nil, mapO_cons, consO_some, AV.plain, AV.cells, AHeap.push, AHeap.set, AHeap.empty, fieldOf, loadA, storeA, BX.part, TK.isAgg, convA, builtinA, inertB, builtinP, buildA, fillA, splice, List.length_cons, List.length_nil, List.take_succ_cons, List.take_zero, List.take_nil, List.drop_succ_cons, List.drop_zero, List.drop_nil, List.cons_append, List.nil_append, List.append_nil, List.set_cons_zero, List.set_cons_succ, true_and, and_true, and_self, eqv, cellsEq, Option.bind_some, sizeT, dyn_nil, dyn_end, dyn_cons, dop_move, dop_assign, dop_build, dop_nilCheck, dop_fieldAddr, dop_field, dop_indexAddr, dop_binOp, dop_extract, dop_load, dop_store, dop_alloc, dop_box, dop_buildSlice, dynV_some, chk_nil, chk_cons, apart_ptr, adT, ldT, fwT, bne_iff_ne, ne_eq, not_false_eq_true, not_true_eq_false, Nat.le_refl, Nat.add_zero, Bool.true_and, Bool.and_true, Bool.false_and, Bool.and_false, Int.reduceBNe, Int.reduceBEq, Int.reduceEq, Int.reduceLT, Int.reduceLE, Int.reduceAdd, Int.reduceSub, Int.reduceMul, Int.reduceNeg, beq_self_eq_true, bne_self_eq_false]

theorem pf_step {a b : Int} {r : AV} (ha : inR a = true) (hb : inR b = true) (h : ¬ (a = 0 ∧ b = 0) ∧ ¬ (0 < a ∧ 0 ≤ b)) (hp : PF r (-b) a) : PF r a b := by
  intro T n A t2 t4 a0 a2 hn
  rw [run_inLoop]
  rw [inR_iff] at ha hb
  have w : IntKind.i64.wrap (0 - b) = -b := by rw [wr64 (by omega) (by omega), Int.zero_sub]
  have hd : ∀ p q : Bool, (p && q) = false ↔ ¬ (p = true ∧ q = true) := by decide
  have e1 : ((a == 0) && (b == 0)) = false := by rw [hd]; simp; omega
  by_cases h2 : a ≤ 0
  · simp only [e1, h2, w, t2, t4, a0, a2, run_exit_start, exit_here, exit_code, exit_inLoop, run_inBlock, n12_0, n12_1, n12_2, n12_3, n12_4, n12_5, n12_6, n12_7, n12_8, n12_9, n12_10, n12_11, n12_12, n12_13, n12_14, n12_15, n12_16, n12_17, n12_18, n12_19, n12_20, n12_22, n12_23, n12_24, n12_25, n12_26, n12_27, n12_28, n12_29, n12_30, n12_31, n12_32, n12_33, n12_34, n12_35, n12_36, o12_1, o12_5, o12_8, o12_15, o12_18, o12_20, o12_28, o12_33, o12_35, res12, TT_3, TT_4, TT_23, TT_24, TT_47, TT_51, TT_52, ro_cons, ro_nil, ro_guardC, runGuard_bool, runGuard_undef, rop_assign, rop_move, rop_binOp, rop_unOp, rop_pick, rop_box, rop_alloc, rop_build, rop_field, rop_fieldAddr, rop_load, rop_store, rop_convert, rop_extract, rop_nilCheck, rop_builtinC, rop_callC, rop_callC, runA_fn, runB_some, runV_some, runVH_some, runCond_bool, primP, primM, ev, evs, parts_, ofConst, fltOf_0, bin, un, intBin, putA, enterT, upd_app, decide_true, decide_false, Nat.reduceEqDiff, Nat.reduceAdd, Nat.reduceMul, Nat.reduceLeDiff, Nat.reduceLT, Nat.zero_add, Bool.false_eq_true, Bool.not_true, Bool.not_false, ↓reduceIte, reduceCtorEq, List.getElem?_cons_zero, List.getElem?_cons_succ, List.getElem?_nil, Option.getD_some, Option.map_some, RunRes, resultsA, oneOf, freeze_int, freeze_bool, freeze_str, freeze_flt, freeze_cpx, freeze_agg, freeze_tuple, freeze2_int, freeze2_bool, freeze2_agg, freeze2_cpx, freeze2_flt, freeze1_int, freeze1_bool, freeze1_str, mapO_nil, mapO_cons, consO_some, AV.plain, AV.cells, AHeap.push, AHeap.set, AHeap.empty, fieldOf, loadA, storeA, BX.part, TK.isAgg, convA, builtinA, inertB, builtinP, buildA, fillA, splice, List.length_cons, List.length_nil, List.take_succ_cons, List.take_zero, List.take_nil, List.drop_succ_cons, List.drop_zero, List.drop_nil, List.cons_append, List.nil_append, List.append_nil, List.set_cons_zero, List.set_cons_succ, true_and, and_true, and_self, eqv, cellsEq, Option.bind_some, sizeT, dyn_nil, dyn_end, dyn_cons, dop_move, dop_assign, dop_build, dop_nilCheck, dop_fieldAddr, dop_field, dop_indexAddr, dop_binOp, dop_extract, dop_load, dop_store, dop_alloc, dop_box, dop_buildSlice, dynV_some, chk_nil, chk_cons, apart_ptr, adT, ldT, fwT, bne_iff_ne, ne_eq, not_false_eq_true, not_true_eq_false, Nat.le_refl, Nat.add_zero, Bool.true_and, Bool.and_true, Bool.false_and, Bool.and_false, Int.reduceBNe, Int.reduceBEq, Int.reduceEq, Int.reduceLT, Int.reduceLE, Int.reduceAdd, Int.reduceSub, Int.reduceMul, Int.reduceNeg, beq_self_eq_true, bne_self_eq_false]
    have := hp
    refine (hp _ _ _ ?_ ?_ ?_ ?_ ?_)
    all_goals first | assumption | omega | simp only [upd_app, t2, t4, a0, a2, Nat.reduceEqDiff, ↓reduceIte]
  · have h3 : b < 0 := by omega
    simp only [e1, h2, h3, w, t2, t4, a0, a2, run_exit_start, exit_here, exit_code, exit_inLoop, run_inBlock, n12_0, n12_1, n12_2, n12_3, n12_4, n12_5, n12_6, n12_7, n12_8, n12_9, n12_10, n12_11, n12_12, n12_13, n12_14, n12_15, n12_16, n12_17, n12_18, n12_19, n12_20, n12_22, n12_23, n12_24, n12_25, n12_26, n12_27, n12_28, n12_29, n12_30, n12_31, n12_32, n12_33, n12_34, n12_35, n12_36, o12_1, o12_5, o12_8, o12_15, o12_18, o12_20, o12_28, o12_33, o12_35, res12, TT_3, TT_4, TT_23, TT_24, TT_47, TT_51, TT_52, ro_cons, ro_nil, ro_guardC, runGuard_bool, runGuard_undef, rop_assign, rop_move, rop_binOp, rop_unOp, rop_pick, rop_box, rop_alloc, rop_build, rop_field, rop_fieldAddr, rop_load, rop_store, rop_convert, rop_extract, rop_nilCheck, rop_builtinC, rop_callC, rop_callC, runA_fn, runB_some, runV_some, runVH_some, runCond_bool, primP, primM, ev, evs, parts_, ofConst, fltOf_0, bin, un, intBin, putA, enterT, upd_app, decide_true, decide_false, Nat.reduceEqDiff, Nat.reduceAdd, Nat.reduceMul, Nat.reduceLeDiff, Nat.reduceLT, Nat.zero_add, Bool.false_eq_true, Bool.not_true, Bool.not_false, ↓reduceIte, reduceCtorEq, List.getElem?_cons_zero, List.getElem?_cons_succ, List.getElem?_nil, Option.getD_some, Option.map_some, RunRes, resultsA, oneOf, freeze_int, freeze_bool, freeze_str, freeze_flt, freeze_cpx, freeze_agg, freeze_tuple, freeze2_int, freeze2_bool, freeze2_agg, freeze2_cpx, freeze2_flt, freeze1_int, freeze1_bool, freeze1_str, mapO_nil, mapO_cons, consO_some, AV.plain, AV.cells, AHeap.push, AHeap.set, AHeap.empty, fieldOf, loadA, storeA, BX.part, TK.isAgg, convA, builtinA, inertB, builtinP, buildA, fillA, splice, List.length_cons, List.length_nil, List.take_succ_cons, List.take_zero, List.take_nil, List.drop_succ_cons, List.drop_zero, List.drop_nil, List.cons_append, List.nil_append, List.append_nil, List.set_cons_zero, List.set_cons_succ, true_and, and_true, and_self, eqv, cellsEq, Option.bind_some, sizeT, dyn_nil, dyn_end, dyn_cons, dop_move, dop_assign, dop_build, dop_nilCheck, dop_fieldAddr, dop_field, dop_indexAddr, dop_binOp, dop_extract, dop_load, dop_store, dop_alloc, dop_box, dop_buildSlice, dynV_some, chk_nil, chk_cons, apart_ptr, adT, ldT, fwT, bne_iff_ne, ne_eq, not_false_eq_true, not_true_eq_false, Nat.le_refl, Nat.add_zero, Bool.true_and, Bool.and_true, Bool.false_and, Bool.and_false, Int.reduceBNe, Int.reduceBEq, Int.reduceEq, Int.reduceLT, Int.reduceLE, Int.reduceAdd, Int.reduceSub, Int.reduceMul, Int.reduceNeg, beq_self_eq_true, bne_self_eq_false]
    refine (hp _ _ _ ?_ ?_ ?_ ?_ ?_)
    all_goals first | assumption | omega | simp only [upd_app, t2, t4, a0, a2, Nat.reduceEqDiff, ↓reduceIte]

def fst2 (a b : Int) : Int × Int :=
  if a = 0 ∧ b = 0 then (0, 0) else if 0 < a ∧ 0 ≤ b then (a, b) else if 0 < -b ∧ 0 ≤ a then (-b, a) else if 0 < -a ∧ 0 ≤ -b then (-a, -b) else (b, -a)

theorem pf_all {a b : Int} (ha : inR a = true) (hb : inR b = true) : PF (.tuple [spot (fst2 a b).1 (fst2 a b).2, .int .i64 0]) a b := by
  have na : inR (-a) = true := by rw [inR_iff] at *; omega
  have nb : inR (-b) = true := by rw [inR_iff] at *; omega
  unfold fst2
  by_cases h0 : a = 0 ∧ b = 0
  · rw [if_pos h0]; obtain ⟨rfl, rfl⟩ := h0; exact pf_exit (by omega)
  rw [if_neg h0]
  by_cases h1 : 0 < a ∧ 0 ≤ b
  · rw [if_pos h1]; exact pf_exit (by omega)
  rw [if_neg h1]
  refine pf_step ha hb ⟨h0, h1⟩ ?_
  by_cases h2 : 0 < -b ∧ 0 ≤ a
  · rw [if_pos h2]; exact pf_exit (by omega)
  rw [if_neg h2]
  refine pf_step nb ha (by omega) ?_
  by_cases h3 : 0 < -a ∧ 0 ≤ -b
  · rw [if_pos h3]; exact pf_exit (by omega)
  rw [if_neg h3]
  refine pf_step na nb (by omega) ?_
  rw [Int.neg_neg]
  exact pf_exit (by omega)

theorem sq_le {x : Int} (h : x * x ≤ 281474976710656) : inR x = true := by
  rw [inR_iff]
  constructor
  · rcases Int.lt_or_le x (-16777216) with h1 | h1
    · have := Int.mul_nonneg (a := -16777217 - x) (b := 16777217 - x) (by omega) (by omega)
      have e : (-16777217 - x) * (16777217 - x) = x * x - 281475010265089 := by grind
      omega
    · exact h1
  · rcases Int.lt_or_le 16777216 x with h1 | h1
    · have := Int.mul_nonneg (a := x - 16777217) (b := x + 16777217) (by omega) (by omega)
      have e : (x - 16777217) * (x + 16777217) = x * x - 281475010265089 := by grind
      omega
    · exact h1

theorem nrm_le {x y : Int} (hx : inR x = true) (hy : inR y = true) : 0 ≤ nrm x y ∧ nrm x y ≤ 562949953421312 := by
  have hN := nrm_bound hx hy
  unfold nrm; omega

theorem sq_nonneg (x : Int) : 0 ≤ x * x := by have := sq_ge x; omega

theorem rest_in {a b c d : Int} (hc : inR c = true) (hd : inR d = true) (h0 : ¬ (c = 0 ∧ d = 0)) : inR (rX a b c d) = true ∧ inR (rY a b c d) = true := by
  have h := rest_norm (a := a) (b := b) h0
  have hN := nrm_bound hc hd
  have h1 := sq_nonneg (rX a b c d)
  have h2 := sq_nonneg (rY a b c d)
  unfold nrm at h
  exact ⟨sq_le (by omega), sq_le (by omega)⟩

def gcdG (a b c d : Int) : Int × Int :=
  if h : c = 0 ∧ d = 0 then (a, b) else gcdG c d (rX a b c d) (rY a b c d)
termination_by (nrm c d).toNat
decreasing_by
  have h1 := rest_norm (a := a) (b := b) h
  have h2 := nrm_pos h
  have h3 := nrm_nonneg (rX a b c d) (rY a b c d)
  omega

def PG (r : AV) (a b c d : Int) : Prop :=
  ∀ (T : Nat → AV) (n : Nat) (A : Nat → Blk), T 2 = .ptr 0 2 0 0 → T 3 = .ptr 1 2 0 0 → T 4 = .ptr 2 2 0 0 → A 0 = spotB a b → A 1 = spotB c d → A 2 = spotB 0 0 → 3 ≤ n →
    Run Cx 12 T [] none [.code c12_13, .inScope c12_3] { next := n, at_ := A } (fun r0 H' => BX.freeze H' r0 = some r)

theorem goto_eq : gotoA 0 [.code c12_23, .inScope c12_3] = some [.code (.seq .skip c12_13), .inScope c12_3] := by kernel_rfl

theorem pg_exit {a b : Int} {r : AV} (h : PF r a b) : PG r a b 0 0 := by
  intro T n A t2 t3 t4 a0 a1 a2 hn
  simp only [t2, t3, t4, a0, a1, a2, n12_0, n12_1, n12_2, n12_3, n12_4, n12_5, n12_6, n12_7, n12_8, n12_9, n12_10, n12_11, n12_12, n12_13, n12_14, n12_15, n12_16, n12_17, n12_18, n12_19, n12_20, n12_22, n12_23, n12_24, n12_25, n12_26, n12_27, n12_28, n12_29, n12_30, n12_31, n12_32, n12_33, n12_34, n12_35, n12_36, o12_1, o12_5, o12_8, o12_15, o12_18, o12_20, o12_28, o12_33, o12_35, res12, TT_3, TT_4, TT_23, TT_24, TT_47, TT_51, TT_52, ro_cons, ro_nil, ro_guardC, runGuard_bool, runGuard_undef, rop_assign, rop_move, rop_binOp, rop_unOp, rop_pick, rop_box, rop_alloc, rop_build, rop_field, rop_fieldAddr, rop_load, rop_store, rop_convert, rop_extract, rop_nilCheck, rop_builtinC, rop_callC, rop_callC, runA_fn, runB_some, runV_some, runVH_some, runCond_bool, primP, primM, ev, evs, parts_, ofConst, fltOf_0, bin, un, intBin, putA, enterT, upd_app, decide_true, decide_false, Nat.reduceEqDiff, Nat.reduceAdd, Nat.reduceMul, Nat.reduceLeDiff, Nat.reduceLT, Nat.zero_add, Bool.false_eq_true, Bool.not_true, Bool.not_false, ↓reduceIte, reduceCtorEq, List.getElem?_cons_zero, List.getElem?_cons_succ, List.getElem?_nil, Option.getD_some, Option.map_some, RunRes, resultsA, oneOf, freeze_int, freeze_bool, freeze_str, freeze_flt, freeze_cpx, freeze_agg, freeze_tuple, freeze2_int, freeze2_bool, freeze2_agg, freeze2_cpx, freeze2_flt, freeze1_int, freeze1_bool, freeze1_str, mapO_nil, mapO_cons, consO_some, AV.plain, AV.cells, AHeap.push, AHeap.set, AHeap.empty, fieldOf, loadA, storeA, BX.part, TK.isAgg, convA, builtinA, inertB, builtinP, buildA, fillA, splice, List.length_cons, List.length_nil, List.take_succ_cons, List.take_zero, List.take_nil, List.drop_succ_cons, List.drop_zero, List.drop_nil, List.cons_append, List.nil_append, List.append_nil, List.set_cons_zero, List.set_cons_succ, true_and, and_true, and_self, eqv, cellsEq, Option.bind_some, sizeT, dyn_nil, dyn_end, dyn_cons, dop_move, dop_assign, dop_build, dop_nilCheck, dop_fieldAddr, dop_field, dop_indexAddr, dop_binOp, dop_extract, dop_load, dop_store, dop_alloc, dop_box, dop_buildSlice, dynV_some, chk_nil, chk_cons, apart_ptr, adT, ldT, fwT, bne_iff_ne, ne_eq, not_false_eq_true, not_true_eq_false, Nat.le_refl, Nat.add_zero, Bool.true_and, Bool.and_true, Bool.false_and, Bool.and_false, Int.reduceBNe, Int.reduceBEq, Int.reduceEq, Int.reduceLT, Int.reduceLE, Int.reduceAdd, Int.reduceSub, Int.reduceMul, Int.reduceNeg, beq_self_eq_true, bne_self_eq_false]
  refine (h _ _ _ ?_ ?_ ?_ ?_ ?_)
  all_goals first | assumption | omega | simp only [upd_app, t2, t3, t4, a0, a1, a2, Nat.reduceEqDiff, ↓reduceIte]

theorem pg_step {a b c d : Int} {r : AV} (ha : inR a = true) (hb : inR b = true) (hc : inR c = true) (hd : inR d = true) (h0 : ¬ (c = 0 ∧ d = 0)) (h : PG r c d (rX a b c d) (rY a b c d)) : PG r a b c d := by
  intro T n A t2 t3 t4 a0 a1 a2 hn
  have hq : ∀ p q : Bool, (p && q) = false ↔ ¬ (p = true ∧ q = true) := by decide
  have e1 : ((c == 0) && (d == 0)) = false := by rw [hq]; simpa using h0
  have k0 : (0 = n) = False := eq_false (by omega)
  have k1 : (1 = n) = False := eq_false (by omega)
  have k2 : (2 = n) = False := eq_false (by omega)
  have k3 : (0 = n + 1) = False := eq_false (by omega)
  have k4 : (1 = n + 1) = False := eq_false (by omega)
  have k5 : (2 = n + 1) = False := eq_false (by omega)
  have k6 : (n = n + 1) = False := eq_false (by omega)
  have k7 : (n = 0) = False := eq_false (by omega)
  have k8 : (n = 1) = False := eq_false (by omega)
  have k9 : (n + 1 = 0) = False := eq_false (by omega)
  have k10 : (n + 1 = 1) = False := eq_false (by omega)
  have k11 : (n + 1 = n) = False := eq_false (by omega)
  have hdv := div_ok a b c d ha hb hc hd h0
  simp only [e1, t2, t3, t4, a0, a1, a2, k0, k1, k2, k3, k4, k5, k6, k7, k8, k9, k10, k11, call_pure pure26 rfl hdv, n12_0, n12_1, n12_2, n12_3, n12_4, n12_5, n12_6, n12_7, n12_8, n12_9, n12_10, n12_11, n12_12, n12_13, n12_14, n12_15, n12_16, n12_17, n12_18, n12_19, n12_20, n12_22, n12_23, n12_24, n12_25, n12_26, n12_27, n12_28, n12_29, n12_30, n12_31, n12_32, n12_33, n12_34, n12_35, n12_36, o12_1, o12_5, o12_8, o12_15, o12_18, o12_20, o12_28, o12_33, o12_35, res12, TT_3, TT_4, TT_23, TT_24, TT_47, TT_51, TT_52, ro_cons, ro_nil, ro_guardC, runGuard_bool, runGuard_undef, rop_assign, rop_move, rop_binOp, rop_unOp, rop_pick, rop_box, rop_alloc, rop_build, rop_field, rop_fieldAddr, rop_load, rop_store, rop_convert, rop_extract, rop_nilCheck, rop_builtinC, rop_callC, rop_callC, runA_fn, runB_some, runV_some, runVH_some, runCond_bool, primP, primM, ev, evs, parts_, ofConst, fltOf_0, bin, un, intBin, putA, enterT, upd_app, decide_true, decide_false, Nat.reduceEqDiff, Nat.reduceAdd, Nat.reduceMul, Nat.reduceLeDiff, Nat.reduceLT, Nat.zero_add, Bool.false_eq_true, Bool.not_true, Bool.not_false, ↓reduceIte, reduceCtorEq, List.getElem?_cons_zero, List.getElem?_cons_succ, List.getElem?_nil, Option.getD_some, Option.map_some, RunRes, resultsA, oneOf, freeze_int, freeze_bool, freeze_str, freeze_flt, freeze_cpx, freeze_agg, freeze_tuple, freeze2_int, freeze2_bool, freeze2_agg, freeze2_cpx, freeze2_flt, freeze1_int, freeze1_bool, freeze1_str, mapO_nil, mapO_cons, consO_some, AV.plain, AV.cells, AHeap.push, AHeap.set, AHeap.empty, fieldOf, loadA, storeA, BX.part, TK.isAgg, convA, builtinA, inertB, builtinP, buildA, fillA, splice, List.length_cons, List.length_nil, List.take_succ_cons, List.take_zero, List.take_nil, List.drop_succ_cons, List.drop_zero, List.drop_nil, List.cons_append, List.nil_append, List.append_nil, List.set_cons_zero, List.set_cons_succ, true_and, and_true, and_self, eqv, cellsEq, Option.bind_some, sizeT, dyn_nil, dyn_end, dyn_cons, dop_move, dop_assign, dop_build, dop_nilCheck, dop_fieldAddr, dop_field, dop_indexAddr, dop_binOp, dop_extract, dop_load, dop_store, dop_alloc, dop_box, dop_buildSlice, dynV_some, chk_nil, chk_cons, apart_ptr, adT, ldT, fwT, bne_iff_ne, ne_eq, not_false_eq_true, not_true_eq_false, Nat.le_refl, Nat.add_zero, Bool.true_and, Bool.and_true, Bool.false_and, Bool.and_false, Int.reduceBNe, Int.reduceBEq, Int.reduceEq, Int.reduceLT, Int.reduceLE, Int.reduceAdd, Int.reduceSub, Int.reduceMul, Int.reduceNeg, beq_self_eq_true, bne_self_eq_false]
  unfold c12_21
  rw [run_goto goto_eq, run_seq, run_skip]
  refine (h _ _ _ ?_ ?_ ?_ ?_ ?_ ?_ ?_)
  all_goals first | assumption | omega | simp only [upd_app, t2, t3, t4, a0, a1, a2, k0, k1, k2, k3, k4, k5, k6, k7, k8, k9, k10, k11, Nat.reduceEqDiff, ↓reduceIte]
end Go.Proofs.Ytmmeippmkekggaa.G
