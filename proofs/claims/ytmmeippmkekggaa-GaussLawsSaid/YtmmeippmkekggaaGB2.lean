import Derived.Test.YtmmeippmkekggaaGB1
namespace Go.Proofs.Ytmmeippmkekggaa.G
open Go.BX
set_option linter.unusedSimpArgs false

abbrev okS (x y : Int) : AV := .tuple [spot x y, .int .i64 0]

/-- How many times a point is turned. -/
def kT (n : Int) : Int := (n.tmod 4 + 4).tmod 4

theorem tmod4 (n : Int) : -4 < n.tmod 4 ∧ n.tmod 4 < 4 := by
  have h1 := Int.tmod_lt_of_pos n (b := 4) (by omega)
  have h2 := Int.tmod_lt_of_pos (-n) (b := 4) (by omega)
  rw [Int.neg_tmod] at h2
  omega
theorem kT_eq (n : Int) : kT n = (n.tmod 4 + 4) % 4 := by
  have := tmod4 n
  unfold kT
  exact Int.tmod_eq_emod_of_nonneg (by omega)

theorem kT_cases (n : Int) : kT n = 0 ∨ kT n = 1 ∨ kT n = 2 ∨ kT n = 3 := by
  rw [kT_eq]; omega

theorem spot_in (x y : Int) (hx : inR x = true) (hy : inR y = true) : PCall Cx 30 [.cpx x y] (okS x y) := by
  have h := spot_ok x y (by have := inR_iff.mp hx; omega) (by have := inR_iff.mp hy; omega)
  unfold SpotR at h
  rw [if_pos (by simp [hx, hy])] at h
  exact h

theorem inR_neg {x : Int} (h : inR x = true) : inR (-x) = true := by rw [inR_iff] at *; omega
theorem fits_in {x : Int} (h : inR x = true) : fits x = true := by rw [inR_iff] at h; exact fits_of (by omega)
theorem fits_0 : fits 0 = true := rfl
theorem i1 : fltOf 4607182418800017408 = some 1 := by kernel_rfl

theorem Turn_ok (a b n : Int) (ha : inR a = true) (hb : inR b = true) : PCall Cx 20 [spot a b, .int .i64 n] (if kT n = 0 then okS a b else if kT n = 1 then okS (-b) a else if kT n = 2 then okS (-a) (-b) else okS b (-a)) := by
  refine pcall_run (noext _) body20 ?_
  have tb := tmod4 n
  have w : IntKind.i64.wrap (n.tmod 4 + 4) = n.tmod 4 + 4 := wr64 (by omega) (by omega)
  have hk : (n.tmod 4 + 4).tmod 4 = kT n := rfl
  have z4 : ((4 : Int) = 0) = False := by simp
  have nb := inR_neg hb
  have na := inR_neg ha
  have s0 := spot_in a b ha hb
  have s1 := spot_in (-b) a nb ha
  have s2 := spot_in (-a) (-b) na nb
  have s3 := spot_in b (-a) hb na
  have w1 : IntKind.i64.wrap 1 = 1 := rfl
  have w2 : IntKind.i64.wrap 2 = 2 := rfl
  have w3 : IntKind.i64.wrap 3 = 3 := rfl
  have l00 : ((0:Int) < 0) = False := by simp
  have l01 : ((0:Int) < 1) = True := by simp
  have l11 : ((1:Int) < 1) = False := by simp
  have l02 : ((0:Int) < 2) = True := by simp
  have l12 : ((1:Int) < 2) = True := by simp
  have l22 : ((2:Int) < 2) = False := by simp
  have l03 : ((0:Int) < 3) = True := by simp
  have l13 : ((1:Int) < 3) = True := by simp
  have l23 : ((2:Int) < 3) = True := by simp
  have l33 : ((3:Int) < 3) = False := by simp
  have e10 : ((1:Int) = 0) = False := by simp
  have e20 : ((2:Int) = 0) = False := by simp
  have e30 : ((3:Int) = 0) = False := by simp
  have e21 : ((2:Int) = 1) = False := by simp
  have e31 : ((3:Int) = 1) = False := by simp
  have e32 : ((3:Int) = 2) = False := by simp
  have a1 : (0:Int) + 1 = 1 := rfl
  have a2 : (1:Int) + 1 = 2 := rfl
  have a3 : (2:Int) + 1 = 3 := rfl
  rcases kT_cases n with h | h | h | h <;>
  simp only [hk, w, w1, w2, w3, z4, h, ha, hb, l00, l01, l11, l02, l12, l22, l03, l13, l23, l33, e10, e20, e30, e21, e31, e32, a1, a2, a3, fits_0, i1, fits_in ha, fits_in hb, fits_in na, fits_in nb, cpxBin, Int.mul_zero, Int.mul_one, Int.zero_sub, Int.sub_zero, Int.add_zero, Int.zero_add, Int.sub_neg, Int.neg_neg, Right_call, call_pure pure31 rfl (number_ok a b ha hb), call_pure pure30 rfl s0, call_pure pure30 rfl s1, call_pure pure30 rfl s2, call_pure pure30 rfl s3, run_inBlock, run_inLoop, run_exit_start, exit_here, exit_code, exit_inLoop, n20_0, n20_1, n20_2, n20_3, n20_4, n20_5, n20_6, n20_7, n20_8, n20_9, n20_10, n20_11, n20_12, n20_13, n20_14, n20_15, n20_16, n20_17, n20_18, n20_19, n20_20, n20_21, n20_22, n20_23, n20_24, n20_25, n20_26, n20_27, n20_28, n20_29, o20_1, o20_4, o20_7, o20_11, o20_14, o20_18, o20_25, o20_26, o20_28, res20, TT_3, TT_4, TT_23, TT_24, TT_47, TT_51, TT_52, ro_cons, ro_nil, ro_guardC, runGuard_bool, runGuard_undef, rop_assign, rop_move, rop_binOp, rop_unOp, rop_pick, rop_box, rop_alloc, rop_build, rop_field, rop_fieldAddr, rop_load, rop_store, rop_convert, rop_extract, rop_nilCheck, rop_builtinC, rop_callC, rop_callC, runA_fn, runB_some, runV_some, runVH_some, runCond_bool, primP, primM, ev, evs, parts_, ofConst, fltOf_0, bin, un, intBin, putA, enterT, upd_app, decide_true, decide_false, Nat.reduceEqDiff, Nat.reduceAdd, Nat.reduceMul, Nat.reduceLeDiff, Nat.reduceLT, Nat.zero_add, Bool.false_eq_true, Bool.not_true, Bool.not_false, ↓reduceIte, reduceCtorEq, List.getElem?_cons_zero, List.getElem?_cons_succ, List.getElem?_nil, Option.getD_some, Option.map_some, RunRes, resultsA, oneOf, freeze_int, freeze_bool, freeze_str, freeze_flt, freeze_cpx, freeze_agg, freeze_tuple, freeze2_int, freeze2_bool, freeze2_agg, freeze2_cpx, freeze2_flt, freeze1_int, freeze1_bool, freeze1_str, mapO_nil, mapO_cons, consO_some, AV.plain, AV.cells, AHeap.push, AHeap.set, AHeap.empty, fieldOf, loadA, storeA, BX.part, TK.isAgg, convA, builtinA, inertB, builtinP, buildA, fillA, splice, List.length_cons, List.length_nil, List.take_succ_cons, List.take_zero, List.take_nil, List.drop_succ_cons, List.drop_zero, List.drop_nil, List.cons_append, List.nil_append, List.append_nil, List.set_cons_zero, List.set_cons_succ, true_and, and_true, and_self, eqv, cellsEq, Option.bind_some, sizeT, dyn_nil, dyn_end, dyn_cons, dop_move, dop_assign, dop_build, dop_nilCheck, dop_fieldAddr, dop_field, dop_indexAddr, dop_binOp, dop_extract, dop_load, dop_store, dop_alloc, dop_box, dop_buildSlice, dynV_some, chk_nil, chk_cons, apart_ptr, adT, ldT, fwT, bne_iff_ne, ne_eq, not_false_eq_true, not_true_eq_false, Nat.le_refl, Nat.add_zero, Bool.true_and, Bool.and_true, Bool.false_and, Bool.and_false, Int.reduceBNe, Int.reduceBEq, Int.reduceEq, Int.reduceLT, Int.reduceLE, Int.reduceAdd, Int.reduceSub, Int.reduceMul, Int.reduceNeg, beq_self_eq_true, bne_self_eq_false]

theorem Turn_no (a b n : Int) (h : (inR a && inR b) = false) : PCall Cx 20 [spot a b, .int .i64 n] errS := by
  refine pcall_run (noext _) body20 ?_
  simp only [errS, h, Right_call, n20_0, n20_1, n20_2, n20_3, n20_4, n20_5, n20_6, n20_7, n20_8, n20_9, n20_10, n20_11, n20_12, n20_13, n20_14, n20_15, n20_16, n20_17, n20_18, n20_19, n20_20, n20_21, n20_22, n20_23, n20_24, n20_25, n20_26, n20_27, n20_28, n20_29, o20_1, o20_4, o20_7, o20_11, o20_14, o20_18, o20_25, o20_26, o20_28, res20, TT_3, TT_4, TT_23, TT_24, TT_47, TT_51, TT_52, ro_cons, ro_nil, ro_guardC, runGuard_bool, runGuard_undef, rop_assign, rop_move, rop_binOp, rop_unOp, rop_pick, rop_box, rop_alloc, rop_build, rop_field, rop_fieldAddr, rop_load, rop_store, rop_convert, rop_extract, rop_nilCheck, rop_builtinC, rop_callC, rop_callC, runA_fn, runB_some, runV_some, runVH_some, runCond_bool, primP, primM, ev, evs, parts_, ofConst, fltOf_0, bin, un, intBin, putA, enterT, upd_app, decide_true, decide_false, Nat.reduceEqDiff, Nat.reduceAdd, Nat.reduceMul, Nat.reduceLeDiff, Nat.reduceLT, Nat.zero_add, Bool.false_eq_true, Bool.not_true, Bool.not_false, ↓reduceIte, reduceCtorEq, List.getElem?_cons_zero, List.getElem?_cons_succ, List.getElem?_nil, Option.getD_some, Option.map_some, RunRes, resultsA, oneOf, freeze_int, freeze_bool, freeze_str, freeze_flt, freeze_cpx, freeze_agg, freeze_tuple, freeze2_int, freeze2_bool, freeze2_agg, freeze2_cpx, freeze2_flt, freeze1_int, freeze1_bool, freeze1_str, mapO_nil, mapO_cons, consO_some, AV.plain, AV.cells, AHeap.push, AHeap.set, AHeap.empty, fieldOf, loadA, storeA, BX.part, TK.isAgg, convA, builtinA, inertB, builtinP, buildA, fillA, splice, List.length_cons, List.length_nil, List.take_succ_cons, List.take_zero, List.take_nil, List.drop_succ_cons, List.drop_zero, List.drop_nil, List.cons_append, List.nil_append, List.append_nil, List.set_cons_zero, List.set_cons_succ, true_and, and_true, and_self, eqv, cellsEq, Option.bind_some, sizeT, dyn_nil, dyn_end, dyn_cons, dop_move, dop_assign, dop_build, dop_nilCheck, dop_fieldAddr, dop_field, dop_indexAddr, dop_binOp, dop_extract, dop_load, dop_store, dop_alloc, dop_box, dop_buildSlice, dynV_some, chk_nil, chk_cons, apart_ptr, adT, ldT, fwT, bne_iff_ne, ne_eq, not_false_eq_true, not_true_eq_false, Nat.le_refl, Nat.add_zero, Bool.true_and, Bool.and_true, Bool.false_and, Bool.and_false, Int.reduceBNe, Int.reduceBEq, Int.reduceEq, Int.reduceLT, Int.reduceLE, Int.reduceAdd, Int.reduceSub, Int.reduceMul, Int.reduceNeg, beq_self_eq_true, bne_self_eq_false]

theorem Turn_ex (a b n : Int) (ha : inR a = true) (hb : inR b = true) : ∃ x y, inR x = true ∧ inR y = true ∧ nrm x y = nrm a b ∧ PCall Cx 20 [spot a b, .int .i64 n] (okS x y) ∧ ∀ m, (kT m = 0 ∧ kT n = 0 ∨ kT m + kT n = 4) → PCall Cx 20 [spot x y, .int .i64 m] (okS a b) := by
  have h := Turn_ok a b n ha hb
  rcases kT_cases n with e | e | e | e
  · rw [if_pos e] at h
    refine ⟨a, b, ha, hb, rfl, h, fun m hm => ?_⟩
    have := kT_cases m
    have h0 : kT m = 0 := by omega
    have h5 := Turn_ok a b m ha hb
    rwa [if_pos h0] at h5
  · rw [if_neg (by omega), if_pos e] at h
    refine ⟨-b, a, inR_neg hb, ha, by unfold nrm; grind, h, fun m hm => ?_⟩
    have := Turn_ok (-b) a m (inR_neg hb) ha
    rw [if_neg (by omega), if_neg (by omega), if_neg (by omega)] at this
    rw [Int.neg_neg] at this
    exact this
  · rw [if_neg (by omega), if_neg (by omega), if_pos e] at h
    refine ⟨-a, -b, inR_neg ha, inR_neg hb, by unfold nrm; grind, h, fun m hm => ?_⟩
    have := Turn_ok (-a) (-b) m (inR_neg ha) (inR_neg hb)
    rw [if_neg (by omega), if_neg (by omega), if_pos (by omega)] at this
    rw [Int.neg_neg, Int.neg_neg] at this
    exact this
  · rw [if_neg (by omega), if_neg (by omega), if_neg (by omega)] at h
    refine ⟨b, -a, hb, inR_neg ha, by unfold nrm; grind, h, fun m hm => ?_⟩
    have := Turn_ok b (-a) m hb (inR_neg ha)
    rw [if_neg (by omega), if_pos (by omega)] at this
    rw [Int.neg_neg] at this
    exact this

theorem two_cases (a b c d x y : Int) : two a b c d (SpotR x y) = errS ∨ (((inR a = true ∧ inR b = true) ∧ (inR c = true ∧ inR d = true)) ∧ (inR x = true ∧ inR y = true) ∧ two a b c d (SpotR x y) = okS x y) := by
  unfold two SpotR
  split
  · rename_i h
    split
    · rename_i h2
      simp only [Bool.and_eq_true] at h h2
      exact Or.inr ⟨h, h2, rfl⟩
    · exact Or.inl rfl
  · exact Or.inl rfl

theorem nrm_le {x y : Int} (hx : inR x = true) (hy : inR y = true) : 0 ≤ nrm x y ∧ nrm x y ≤ 562949953421312 := by
  have hN := nrm_bound hx hy
  unfold nrm; omega

set_option maxRecDepth 20000 in
set_option maxHeartbeats 4000000 in
theorem GaussTurns_ok (a b n : Int) : PCall Cx 7 [spot a b, .int .i64 n] (.bool true) := by
  refine pcall_run (noext _) body7 ?_
  cases h : (inR a && inR b) with
  | false => simp only [h, Right_call, call_pure pure10 rfl awake_ok, n7_0, n7_1, n7_2, n7_3, n7_4, n7_5, n7_6, n7_7, n7_8, n7_9, n7_10, n7_11, n7_12, n7_13, n7_14, n7_15, n7_16, n7_17, n7_18, n7_19, n7_20, n7_21, n7_22, n7_23, n7_24, n7_25, n7_26, o7_1, o7_4, o7_7, o7_11, o7_13, o7_15, o7_17, o7_19, o7_21, o7_23, o7_25, res7, TT_3, TT_4, TT_23, TT_24, TT_47, TT_51, TT_52, ro_cons, ro_nil, ro_guardC, runGuard_bool, runGuard_undef, rop_assign, rop_move, rop_binOp, rop_unOp, rop_pick, rop_box, rop_alloc, rop_build, rop_field, rop_fieldAddr, rop_load, rop_store, rop_convert, rop_extract, rop_nilCheck, rop_builtinC, rop_callC, rop_callC, runA_fn, runB_some, runV_some, runVH_some, runCond_bool, primP, primM, ev, evs, parts_, ofConst, fltOf_0, bin, un, intBin, putA, enterT, upd_app, decide_true, decide_false, Nat.reduceEqDiff, Nat.reduceAdd, Nat.reduceMul, Nat.reduceLeDiff, Nat.reduceLT, Nat.zero_add, Bool.false_eq_true, Bool.not_true, Bool.not_false, ↓reduceIte, reduceCtorEq, List.getElem?_cons_zero, List.getElem?_cons_succ, List.getElem?_nil, Option.getD_some, Option.map_some, RunRes, resultsA, oneOf, freeze_int, freeze_bool, freeze_str, freeze_flt, freeze_cpx, freeze_agg, freeze_tuple, freeze2_int, freeze2_bool, freeze2_agg, freeze2_cpx, freeze2_flt, freeze1_int, freeze1_bool, freeze1_str, mapO_nil, mapO_cons, consO_some, AV.plain, AV.cells, AHeap.push, AHeap.set, AHeap.empty, fieldOf, loadA, storeA, BX.part, TK.isAgg, convA, builtinA, inertB, builtinP, buildA, fillA, splice, List.length_cons, List.length_nil, List.take_succ_cons, List.take_zero, List.take_nil, List.drop_succ_cons, List.drop_zero, List.drop_nil, List.cons_append, List.nil_append, List.append_nil, List.set_cons_zero, List.set_cons_succ, true_and, and_true, and_self, eqv, cellsEq, Option.bind_some, sizeT, dyn_nil, dyn_end, dyn_cons, dop_move, dop_assign, dop_build, dop_nilCheck, dop_fieldAddr, dop_field, dop_indexAddr, dop_binOp, dop_extract, dop_load, dop_store, dop_alloc, dop_box, dop_buildSlice, dynV_some, chk_nil, chk_cons, apart_ptr, adT, ldT, fwT, bne_iff_ne, ne_eq, not_false_eq_true, not_true_eq_false, Nat.le_refl, Nat.add_zero, Bool.true_and, Bool.and_true, Bool.false_and, Bool.and_false, Int.reduceBNe, Int.reduceBEq, Int.reduceEq, Int.reduceLT, Int.reduceLE, Int.reduceAdd, Int.reduceSub, Int.reduceMul, Int.reduceNeg, beq_self_eq_true, bne_self_eq_false]
  | true =>
    have hh := h
    simp only [Bool.and_eq_true] at hh
    obtain ⟨ha, hb⟩ := hh
    obtain ⟨x, y, hx, hy, hnn, h1, h2⟩ := Turn_ex a b n ha hb
    have tb := tmod4 n
    have w : IntKind.i64.wrap (4 - n.tmod 4) = 4 - n.tmod 4 := wr64 (by omega) (by omega)
    have hk : kT (4 - n.tmod 4) = 0 ∧ kT n = 0 ∨ kT (4 - n.tmod 4) + kT n = 4 := by
      rw [kT_eq, kT_eq, Int.tmod_eq_emod_of_nonneg (a := 4 - n.tmod 4) (by omega)]
      omega
    have h3 := h2 _ hk
    have c1 := Conj_ok a b
    rw [if_pos h] at c1
    have nb : inR (0 - b) = true := by rw [Int.zero_sub]; exact inR_neg hb
    have n1 := Norm_ok a b
    rw [if_pos h] at n1
    have n2 := Norm_ok x y
    rw [if_pos (by simp [hx, hy])] at n2
    have n3 := Norm_ok a (0 - b)
    rw [if_pos (by rw [ha, nb]; rfl)] at n3
    have en : nrm a (0 - b) = nrm a b := by unfold nrm; grind
    rw [en] at n3
    rw [hnn] at n2
    have m1 := Mul_ok a b a (0 - b)
    have z4 : ((4 : Int) = 0) = False := by simp
    rcases two_cases a b a (0 - b) (a * a - b * (0 - b)) (a * (0 - b) + b * a) with e | ⟨_, _, e⟩
    · rw [e] at m1
      unfold errS at m1
      simp (config := { maxSteps := 3000000 }) only [w, z4, h, bne_self_eq_false, beq_self_eq_true, Right_call, call_pure pure10 rfl awake_ok, call_pure pure20 rfl h1, call_pure pure20 rfl h3, call_pure pure21 rfl c1, call_pure pure11 rfl n1, call_pure pure11 rfl n2, call_pure pure11 rfl n3, call_pure pure16 rfl m1, n7_0, n7_1, n7_2, n7_3, n7_4, n7_5, n7_6, n7_7, n7_8, n7_9, n7_10, n7_11, n7_12, n7_13, n7_14, n7_15, n7_16, n7_17, n7_18, n7_19, n7_20, n7_21, n7_22, n7_23, n7_24, n7_25, n7_26, o7_1, o7_4, o7_7, o7_11, o7_13, o7_15, o7_17, o7_19, o7_21, o7_23, o7_25, res7, TT_3, TT_4, TT_23, TT_24, TT_47, TT_51, TT_52, ro_cons, ro_nil, ro_guardC, runGuard_bool, runGuard_undef, rop_assign, rop_move, rop_binOp, rop_unOp, rop_pick, rop_box, rop_alloc, rop_build, rop_field, rop_fieldAddr, rop_load, rop_store, rop_convert, rop_extract, rop_nilCheck, rop_builtinC, rop_callC, rop_callC, runA_fn, runB_some, runV_some, runVH_some, runCond_bool, primP, primM, ev, evs, parts_, ofConst, fltOf_0, bin, un, intBin, putA, enterT, upd_app, decide_true, decide_false, Nat.reduceEqDiff, Nat.reduceAdd, Nat.reduceMul, Nat.reduceLeDiff, Nat.reduceLT, Nat.zero_add, Bool.false_eq_true, Bool.not_true, Bool.not_false, ↓reduceIte, reduceCtorEq, List.getElem?_cons_zero, List.getElem?_cons_succ, List.getElem?_nil, Option.getD_some, Option.map_some, RunRes, resultsA, oneOf, freeze_int, freeze_bool, freeze_str, freeze_flt, freeze_cpx, freeze_agg, freeze_tuple, freeze2_int, freeze2_bool, freeze2_agg, freeze2_cpx, freeze2_flt, freeze1_int, freeze1_bool, freeze1_str, mapO_nil, mapO_cons, consO_some, AV.plain, AV.cells, AHeap.push, AHeap.set, AHeap.empty, fieldOf, loadA, storeA, BX.part, TK.isAgg, convA, builtinA, inertB, builtinP, buildA, fillA, splice, List.length_cons, List.length_nil, List.take_succ_cons, List.take_zero, List.take_nil, List.drop_succ_cons, List.drop_zero, List.drop_nil, List.cons_append, List.nil_append, List.append_nil, List.set_cons_zero, List.set_cons_succ, true_and, and_true, and_self, eqv, cellsEq, Option.bind_some, sizeT, dyn_nil, dyn_end, dyn_cons, dop_move, dop_assign, dop_build, dop_nilCheck, dop_fieldAddr, dop_field, dop_indexAddr, dop_binOp, dop_extract, dop_load, dop_store, dop_alloc, dop_box, dop_buildSlice, dynV_some, chk_nil, chk_cons, apart_ptr, adT, ldT, fwT, bne_iff_ne, ne_eq, not_false_eq_true, not_true_eq_false, Nat.le_refl, Nat.add_zero, Bool.true_and, Bool.and_true, Bool.false_and, Bool.and_false, Int.reduceBNe, Int.reduceBEq, Int.reduceEq, Int.reduceLT, Int.reduceLE, Int.reduceAdd, Int.reduceSub, Int.reduceMul, Int.reduceNeg, beq_self_eq_true, bne_self_eq_false]
    · rw [e] at m1
      have e1 : a * a - b * (0 - b) = nrm a b := by unfold nrm; grind
      have e2 : a * (0 - b) + b * a = 0 := by grind
      rw [e1, e2] at m1
      simp (config := { maxSteps := 3000000 }) only [w, z4, h, bne_self_eq_false, beq_self_eq_true, Right_call, call_pure pure10 rfl awake_ok, call_pure pure20 rfl h1, call_pure pure20 rfl h3, call_pure pure21 rfl c1, call_pure pure11 rfl n1, call_pure pure11 rfl n2, call_pure pure11 rfl n3, call_pure pure16 rfl m1, n7_0, n7_1, n7_2, n7_3, n7_4, n7_5, n7_6, n7_7, n7_8, n7_9, n7_10, n7_11, n7_12, n7_13, n7_14, n7_15, n7_16, n7_17, n7_18, n7_19, n7_20, n7_21, n7_22, n7_23, n7_24, n7_25, n7_26, o7_1, o7_4, o7_7, o7_11, o7_13, o7_15, o7_17, o7_19, o7_21, o7_23, o7_25, res7, TT_3, TT_4, TT_23, TT_24, TT_47, TT_51, TT_52, ro_cons, ro_nil, ro_guardC, runGuard_bool, runGuard_undef, rop_assign, rop_move, rop_binOp, rop_unOp, rop_pick, rop_box, rop_alloc, rop_build, rop_field, rop_fieldAddr, rop_load, rop_store, rop_convert, rop_extract, rop_nilCheck, rop_builtinC, rop_callC, rop_callC, runA_fn, runB_some, runV_some, runVH_some, runCond_bool, primP, primM, ev, evs, parts_, ofConst, fltOf_0, bin, un, intBin, putA, enterT, upd_app, decide_true, decide_false, Nat.reduceEqDiff, Nat.reduceAdd, Nat.reduceMul, Nat.reduceLeDiff, Nat.reduceLT, Nat.zero_add, Bool.false_eq_true, Bool.not_true, Bool.not_false, ↓reduceIte, reduceCtorEq, List.getElem?_cons_zero, List.getElem?_cons_succ, List.getElem?_nil, Option.getD_some, Option.map_some, RunRes, resultsA, oneOf, freeze_int, freeze_bool, freeze_str, freeze_flt, freeze_cpx, freeze_agg, freeze_tuple, freeze2_int, freeze2_bool, freeze2_agg, freeze2_cpx, freeze2_flt, freeze1_int, freeze1_bool, freeze1_str, mapO_nil, mapO_cons, consO_some, AV.plain, AV.cells, AHeap.push, AHeap.set, AHeap.empty, fieldOf, loadA, storeA, BX.part, TK.isAgg, convA, builtinA, inertB, builtinP, buildA, fillA, splice, List.length_cons, List.length_nil, List.take_succ_cons, List.take_zero, List.take_nil, List.drop_succ_cons, List.drop_zero, List.drop_nil, List.cons_append, List.nil_append, List.append_nil, List.set_cons_zero, List.set_cons_succ, true_and, and_true, and_self, eqv, cellsEq, Option.bind_some, sizeT, dyn_nil, dyn_end, dyn_cons, dop_move, dop_assign, dop_build, dop_nilCheck, dop_fieldAddr, dop_field, dop_indexAddr, dop_binOp, dop_extract, dop_load, dop_store, dop_alloc, dop_box, dop_buildSlice, dynV_some, chk_nil, chk_cons, apart_ptr, adT, ldT, fwT, bne_iff_ne, ne_eq, not_false_eq_true, not_true_eq_false, Nat.le_refl, Nat.add_zero, Bool.true_and, Bool.and_true, Bool.false_and, Bool.and_false, Int.reduceBNe, Int.reduceBEq, Int.reduceEq, Int.reduceLT, Int.reduceLE, Int.reduceAdd, Int.reduceSub, Int.reduceMul, Int.reduceNeg, beq_self_eq_true, bne_self_eq_false]
end Go.Proofs.Ytmmeippmkekggaa.G
