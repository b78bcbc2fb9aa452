import Derived.Test.YtmbagennmeahhaaGS7
namespace Go.Proofs.Ytmbagennmeahhaa.G
open Go.BX
set_option linter.unusedSimpArgs false
set_option linter.unusedVariables false

theorem awake11_ok : PCall Cx 6 [] (.bool true) := ⟨400, by kernel_rfl⟩
theorem pure_awake11 : Cx.pure 6 = true := by kernel_rfl

theorem SamePairs_e {v w : AV} {l : List Pr} (hv : InE v l) (hw : InE w l) (hl : l.length ≤ 100000) : PCall Cx 9 [v, w] (.bool true) := by
  by_cases he : l = []
  · refine pcall_run (noext _) body9 ?_
    subst he
    rcases hv with ⟨rfl, _⟩ | ⟨rfl, _⟩ | rfl <;> rcases hw with ⟨rfl, _⟩ | ⟨rfl, _⟩ | rfl <;>
    simp only [List.map_nil, run_exit_start, exit_here, exit_code, exit_inLoop, run_inBlock, run_inLoop, n9_0, n9_1, n9_2, n9_3, n9_4, n9_5, n9_6, n9_7, n9_8, n9_9, n9_10, n9_11, n9_12, n9_13, n9_14, n9_15, n9_16, n9_17, n9_18, n9_19, n9_20, n9_21, n9_22, n9_23, n9_24, n9_25, n9_26, n9_27, n9_28, n9_29, n9_30, n9_31, n9_32, n9_33, o9_1, o9_4, o9_7, o9_12, o9_17, o9_24, o9_27, o9_30, o9_32, res9, TT_3, TT_4, TT_5, TT_9, TT_22, TT_24, TT_26, TT_28, TT_35, TT_37, TT_43, TT_44, TT_45, TT_53, ro_cons, ro_nil, ro_guardC, runGuard_bool, runGuard_undef, rop_assign, rop_move, rop_binOp, rop_unOp, rop_pick, rop_box, rop_alloc, rop_build, rop_field, rop_fieldAddr, rop_load, rop_store, rop_convert, rop_extract, rop_nilCheck, rop_builtinC, rop_callC, rop_callC, runA_fn, runB_some, runV_some, runVH_some, runCond_bool, primP, primM, ev, evs, parts_, ofConst, fltOf_0, bin, un, intBin, putA, enterT, upd_app, decide_true, decide_false, Nat.reduceEqDiff, Nat.reduceAdd, Nat.reduceMul, Nat.reduceLeDiff, Nat.reduceLT, Nat.zero_add, Bool.false_eq_true, Bool.not_true, Bool.not_false, ↓reduceIte, reduceCtorEq, List.getElem?_cons_zero, List.getElem?_cons_succ, List.getElem?_nil, Option.getD_some, Option.map_some, RunRes, resultsA, oneOf, freeze_int, freeze_bool, freeze_str, freeze_flt, freeze_cpx, freeze_agg, freeze_tuple, freeze2_int, freeze2_bool, freeze2_agg, freeze2_cpx, freeze2_flt, freeze1_int, freeze1_bool, freeze1_str, mapO_nil, mapO_cons, consO_some, AV.plain, AV.cells, AHeap.push, AHeap.set, AHeap.empty, fieldOf, loadA, storeA, BX.part, TK.isAgg, convA, builtinA, inertB, builtinP, buildA, fillA, splice, List.length_cons, List.length_nil, List.take_succ_cons, List.take_zero, List.take_nil, List.drop_succ_cons, List.drop_zero, List.drop_nil, List.cons_append, List.nil_append, List.append_nil, List.set_cons_zero, List.set_cons_succ, true_and, and_true, and_self, eqv, cellsEq, Option.bind_some, sizeT, dyn_nil, dyn_end, dyn_cons, dop_move, dop_assign, dop_build, dop_nilCheck, dop_fieldAddr, dop_field, dop_indexAddr, dop_binOp, dop_extract, dop_load, dop_store, dop_alloc, dop_box, dop_buildSlice, dynV_some, chk_nil, chk_cons, apart_ptr, adT, ldT, fwT, bne_iff_ne, ne_eq, not_false_eq_true, not_true_eq_false, Nat.le_refl, Nat.add_zero, Bool.true_and, Bool.and_true, Bool.false_and, Bool.and_false, Nat.reduceBeqDiff, Nat.reduceBneDiff, Int.reduceBNe, Int.reduceBEq, Int.reduceEq, Int.reduceLT, Int.reduceLE, Int.reduceAdd, Int.reduceSub, Int.reduceMul, Int.reduceNeg, beq_self_eq_true, bne_self_eq_false, strBin, rop_indexAddr, rop_buildSlice, rop_index, rop_slice, rop_makeSlice, rop_makeFunc, indexAddrA, elems, lenOf, chunk, List.reduceReplicate, List.flatten_cons, List.flatten_nil, freeze_slc, freeze2_slc, freeze1_slc, frzE_some, freeze1_emp, freeze_emp, freeze2_emp, freeze_nilS, freeze2_nilS, freeze1_nilS, freeze_vec, freeze2_vec, freeze1_vec, Int.toNat_zero, Int.toNat_one, Int.reduceToNat, Int.cast_ofNat_Int]
  · have hv' : v = .vec 6 (l.map encP) := by
      rcases hv with ⟨_, h⟩ | ⟨_, h⟩ | h
      · exact absurd h he
      · exact absurd h he
      · exact h
    have hw' : w = .vec 6 (l.map encP) := by
      rcases hw with ⟨_, h⟩ | ⟨_, h⟩ | h
      · exact absurd h he
      · exact absurd h he
      · exact h
    exact SamePairs_ok (.inr hv') (.inr hw') hl

theorem InE.vec {v : AV} {l : List Pr} (h : InE v l) (h0 : l ≠ []) : v = .vec 6 (l.map encP) := by
  rcases h with ⟨_, h⟩ | ⟨_, h⟩ | h
  · exact absurd h h0
  · exact absurd h h0
  · exact h

/-! ## PairsOnce -/

def eqP (p a : Pr) : Bool := a.key == p.key && (a.k == p.k && (a.n == p.n && (a.s == p.s && (a.x == p.x && a.y == p.y))))

def cnt (p : Pr) (l : List Pr) : Nat := (l.filter (eqP p)).length

theorem cnt_keys (p : Pr) (l : List Pr) : cnt p l = cnt p (ofKey p.key l) := by
  unfold cnt ofKey
  rw [List.filter_filter]
  congr 1
  apply List.filter_congr
  intro a _
  unfold eqP
  cases h : (a.key == p.key) <;> simp [h]

theorem cnt_sort {l m : List Pr} (h : IsSort l m) (p : Pr) : cnt p m = cnt p l := by
  rw [cnt_keys p m, cnt_keys p l, h.keys]

theorem cnt_succ (p : Pr) {l : List Pr} {i : Nat} (h : i < l.length) : cnt p (l.take (i + 1)) = cnt p (l.take i) + (if eqP p l[i] = true then 1 else 0) := by
  unfold cnt
  rw [List.take_succ_eq_append_getElem h, List.filter_append, List.length_append]
  congr 1
  cases hq : eqP p l[i] <;> simp [List.filter_cons, hq]

theorem cnt_le (p : Pr) (l : List Pr) : cnt p l ≤ l.length := by
  unfold cnt
  exact List.length_filter_le _ _

theorem po1_all {l m : List Pr} {p : Pr} {Q : AV → AHeap → Prop} {h : Nat} {A : Nat → Blk} (hl : l.length ≤ 100000) (hml : m.length = l.length) (hA : A 0 = .cells 28 6 [encP p])
    (hK : ∀ (T : Nat → AV), T 0 = .vec 6 (l.map encP) → T 5 = .vec 6 (m.map encP) → T 6 = .int .i64 (cnt p l : Int) → T 7 = .int .i64 (cnt p m : Int) →
      Run Cx 3 T [] none [.code c3_39] ⟨h, A⟩ Q) :
    ∀ (j i : Nat) (T : Nat → AV), i + j = l.length → T 0 = .vec 6 (l.map encP) → T 3 = .ptr 0 6 0 0 → T 5 = .vec 6 (m.map encP) → T 6 = .int .i64 (cnt p (l.take i) : Int) → T 7 = .int .i64 (cnt p (m.take i) : Int) → T 8 = .int .i64 (i : Int) →
      Run Cx 3 T [] none [.inLoop c3_19, .inBlock 0, .code c3_39] ⟨h, A⟩ Q
  | 0, i, T, hij, t0, t3, t5, t6, t7, t8 => by
    rw [run_inLoop]
    have h0 : ¬ (i : Int) < ((l.map encP).length : Int) := by rw [List.length_map]; omega
    rw [List.take_of_length_le (by omega)] at t6 t7
    simp only [t0, t3, t5, t6, t7, t8, h0, run_exit_start, exit_here, exit_code, exit_inLoop, run_inBlock, n3_0, n3_1, n3_2, n3_3, n3_4, n3_5, n3_6, n3_7, n3_8, n3_9, n3_10, n3_11, n3_12, n3_13, n3_14, n3_15, n3_16, n3_17, n3_18, n3_19, n3_20, n3_21, n3_22, n3_23, n3_24, n3_25, n3_26, n3_27, n3_28, n3_29, n3_30, n3_31, n3_32, n3_33, n3_34, n3_35, n3_36, n3_37, n3_38, n3_40, n3_41, o3_1, o3_4, o3_7, o3_11, o3_13, o3_16, o3_21, o3_29, o3_31, o3_34, o3_36, o3_38, o3_40, res3, TT_3, TT_4, TT_5, TT_9, TT_22, TT_24, TT_26, TT_28, TT_35, TT_37, TT_43, TT_44, TT_45, TT_53, ro_cons, ro_nil, ro_guardC, runGuard_bool, runGuard_undef, rop_assign, rop_move, rop_binOp, rop_unOp, rop_pick, rop_box, rop_alloc, rop_build, rop_field, rop_fieldAddr, rop_load, rop_store, rop_convert, rop_extract, rop_nilCheck, rop_builtinC, rop_callC, rop_callC, runA_fn, runB_some, runV_some, runVH_some, runCond_bool, primP, primM, ev, evs, parts_, ofConst, fltOf_0, bin, un, intBin, putA, enterT, upd_app, decide_true, decide_false, Nat.reduceEqDiff, Nat.reduceAdd, Nat.reduceMul, Nat.reduceLeDiff, Nat.reduceLT, Nat.zero_add, Bool.false_eq_true, Bool.not_true, Bool.not_false, ↓reduceIte, reduceCtorEq, List.getElem?_cons_zero, List.getElem?_cons_succ, List.getElem?_nil, Option.getD_some, Option.map_some, RunRes, resultsA, oneOf, freeze_int, freeze_bool, freeze_str, freeze_flt, freeze_cpx, freeze_agg, freeze_tuple, freeze2_int, freeze2_bool, freeze2_agg, freeze2_cpx, freeze2_flt, freeze1_int, freeze1_bool, freeze1_str, mapO_nil, mapO_cons, consO_some, AV.plain, AV.cells, AHeap.push, AHeap.set, AHeap.empty, fieldOf, loadA, storeA, BX.part, TK.isAgg, convA, builtinA, inertB, builtinP, buildA, fillA, splice, List.length_cons, List.length_nil, List.take_succ_cons, List.take_zero, List.take_nil, List.drop_succ_cons, List.drop_zero, List.drop_nil, List.cons_append, List.nil_append, List.append_nil, List.set_cons_zero, List.set_cons_succ, true_and, and_true, and_self, eqv, cellsEq, Option.bind_some, sizeT, dyn_nil, dyn_end, dyn_cons, dop_move, dop_assign, dop_build, dop_nilCheck, dop_fieldAddr, dop_field, dop_indexAddr, dop_binOp, dop_extract, dop_load, dop_store, dop_alloc, dop_box, dop_buildSlice, dynV_some, chk_nil, chk_cons, apart_ptr, adT, ldT, fwT, bne_iff_ne, ne_eq, not_false_eq_true, not_true_eq_false, Nat.le_refl, Nat.add_zero, Bool.true_and, Bool.and_true, Bool.false_and, Bool.and_false, Nat.reduceBeqDiff, Nat.reduceBneDiff, Int.reduceBNe, Int.reduceBEq, Int.reduceEq, Int.reduceLT, Int.reduceLE, Int.reduceAdd, Int.reduceSub, Int.reduceMul, Int.reduceNeg, beq_self_eq_true, bne_self_eq_false, strBin, rop_indexAddr, rop_buildSlice, rop_index, rop_slice, rop_makeSlice, rop_makeFunc, indexAddrA, elems, lenOf, chunk, List.reduceReplicate, List.flatten_cons, List.flatten_nil, freeze_slc, freeze2_slc, freeze1_slc, frzE_some, freeze1_emp, freeze_emp, freeze2_emp, freeze_nilS, freeze2_nilS, freeze1_nilS, freeze_vec, freeze2_vec, freeze1_vec, Int.toNat_zero, Int.toNat_one, Int.reduceToNat, Int.cast_ofNat_Int]
    refine hK _ ?_ ?_ ?_ ?_
    all_goals simp only [upd_app, t0, t5, t6, t7, Nat.reduceEqDiff, ↓reduceIte]
  | j + 1, i, T, hij, t0, t3, t5, t6, t7, t8 => by
    rw [run_inLoop]
    have hi : i < l.length := by omega
    have hi' : i < m.length := by omega
    have h0 : (i : Int) < ((l.map encP).length : Int) := by rw [List.length_map]; omega
    have h1 : (i : Int) < ((m.map encP).length : Int) := by rw [List.length_map]; omega
    have hi0 : (0 : Int) ≤ (i : Int) := by omega
    have hg := enc_get (List.getElem?_eq_getElem hi)
    have hg' := enc_get (List.getElem?_eq_getElem hi')
    have w1 : IntKind.i64.wrap ((i : Int) + 1) = ((i + 1 : Nat) : Int) := by rw [wr64 (by omega) (by omega)]; omega
    have k1 := cnt_le p (l.take i)
    have k2 := cnt_le p (m.take i)
    rw [List.length_take] at k1 k2
    have w2 : IntKind.i64.wrap ((cnt p (l.take i) : Int) + 1) = ((cnt p (l.take i) + 1 : Nat) : Int) := by rw [wr64 (by omega) (by omega)]; omega
    have w3 : IntKind.i64.wrap ((cnt p (m.take i) : Int) + 1) = ((cnt p (m.take i) + 1 : Nat) : Int) := by rw [wr64 (by omega) (by omega)]; omega
    have c1 := cnt_succ p hi
    have c2 := cnt_succ p hi'
    have e1 : (l[i].key == p.key && (l[i].k == p.k && (l[i].n == p.n && (l[i].s == p.s && (l[i].x == p.x && l[i].y == p.y))))) = eqP p l[i] := rfl
    have e2 : (m[i].key == p.key && (m[i].k == p.k && (m[i].n == p.n && (m[i].s == p.s && (m[i].x == p.x && m[i].y == p.y))))) = eqP p m[i] := rfl
    cases q1 : eqP p l[i] <;> cases q2 : eqP p m[i] <;> rw [q1] at c1 e1 <;> rw [q2] at c2 e2 <;> simp only [Bool.false_eq_true, if_false, if_true, Nat.add_zero] at c1 c2
    all_goals
      simp only [t0, t3, t5, t6, t7, t8, h0, h1, hi0, hg, hg', hA, encP, e1, e2, w1, w2, w3, Int.toNat_natCast, run_exit_start, exit_here, exit_code, exit_inLoop, run_inBlock, n3_0, n3_1, n3_2, n3_3, n3_4, n3_5, n3_6, n3_7, n3_8, n3_9, n3_10, n3_11, n3_12, n3_13, n3_14, n3_15, n3_16, n3_17, n3_18, n3_19, n3_20, n3_21, n3_22, n3_23, n3_24, n3_25, n3_26, n3_27, n3_28, n3_29, n3_30, n3_31, n3_32, n3_33, n3_34, n3_35, n3_36, n3_37, n3_38, n3_40, n3_41, o3_1, o3_4, o3_7, o3_11, o3_13, o3_16, o3_21, o3_29, o3_31, o3_34, o3_36, o3_38, o3_40, res3, TT_3, TT_4, TT_5, TT_9, TT_22, TT_24, TT_26, TT_28, TT_35, TT_37, TT_43, TT_44, TT_45, TT_53, ro_cons, ro_nil, ro_guardC, runGuard_bool, runGuard_undef, rop_assign, rop_move, rop_binOp, rop_unOp, rop_pick, rop_box, rop_alloc, rop_build, rop_field, rop_fieldAddr, rop_load, rop_store, rop_convert, rop_extract, rop_nilCheck, rop_builtinC, rop_callC, rop_callC, runA_fn, runB_some, runV_some, runVH_some, runCond_bool, primP, primM, ev, evs, parts_, ofConst, fltOf_0, bin, un, intBin, putA, enterT, upd_app, decide_true, decide_false, Nat.reduceEqDiff, Nat.reduceAdd, Nat.reduceMul, Nat.reduceLeDiff, Nat.reduceLT, Nat.zero_add, Bool.false_eq_true, Bool.not_true, Bool.not_false, ↓reduceIte, reduceCtorEq, List.getElem?_cons_zero, List.getElem?_cons_succ, List.getElem?_nil, Option.getD_some, Option.map_some, RunRes, resultsA, oneOf, freeze_int, freeze_bool, freeze_str, freeze_flt, freeze_cpx, freeze_agg, freeze_tuple, freeze2_int, freeze2_bool, freeze2_agg, freeze2_cpx, freeze2_flt, freeze1_int, freeze1_bool, freeze1_str, mapO_nil, mapO_cons, consO_some, AV.plain, AV.cells, AHeap.push, AHeap.set, AHeap.empty, fieldOf, loadA, storeA, BX.part, TK.isAgg, convA, builtinA, inertB, builtinP, buildA, fillA, splice, List.length_cons, List.length_nil, List.take_succ_cons, List.take_zero, List.take_nil, List.drop_succ_cons, List.drop_zero, List.drop_nil, List.cons_append, List.nil_append, List.append_nil, List.set_cons_zero, List.set_cons_succ, true_and, and_true, and_self, eqv, cellsEq, Option.bind_some, sizeT, dyn_nil, dyn_end, dyn_cons, dop_move, dop_assign, dop_build, dop_nilCheck, dop_fieldAddr, dop_field, dop_indexAddr, dop_binOp, dop_extract, dop_load, dop_store, dop_alloc, dop_box, dop_buildSlice, dynV_some, chk_nil, chk_cons, apart_ptr, adT, ldT, fwT, bne_iff_ne, ne_eq, not_false_eq_true, not_true_eq_false, Nat.le_refl, Nat.add_zero, Bool.true_and, Bool.and_true, Bool.false_and, Bool.and_false, Nat.reduceBeqDiff, Nat.reduceBneDiff, Int.reduceBNe, Int.reduceBEq, Int.reduceEq, Int.reduceLT, Int.reduceLE, Int.reduceAdd, Int.reduceSub, Int.reduceMul, Int.reduceNeg, beq_self_eq_true, bne_self_eq_false, strBin, rop_indexAddr, rop_buildSlice, rop_index, rop_slice, rop_makeSlice, rop_makeFunc, indexAddrA, elems, lenOf, chunk, List.reduceReplicate, List.flatten_cons, List.flatten_nil, freeze_slc, freeze2_slc, freeze1_slc, frzE_some, freeze1_emp, freeze_emp, freeze2_emp, freeze_nilS, freeze2_nilS, freeze1_nilS, freeze_vec, freeze2_vec, freeze1_vec, Int.toNat_zero, Int.toNat_one, Int.reduceToNat, Int.cast_ofNat_Int]
      refine po1_all hl hml hA hK j (i + 1) _ (by omega) ?_ ?_ ?_ ?_ ?_ ?_
      all_goals simp only [upd_app, t0, t3, t5, t6, t7, c1, c2, Nat.reduceEqDiff, ↓reduceIte]
end Go.Proofs.Ytmbagennmeahhaa.G
