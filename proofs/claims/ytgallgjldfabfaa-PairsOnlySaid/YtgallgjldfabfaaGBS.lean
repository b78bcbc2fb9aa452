import Derived.Test.YtgallgjldfabfaaGBW
namespace Go.Proofs.Ytgallgjldfabfaa.G
open Go.BX
set_option linter.unusedSimpArgs false
set_option linter.unusedVariables false

variable {fn : FuncId} {T : Nat → AV} {ds : List ADef} {ro : Option Nat} {k : List AItem} {Q : AV → AHeap → Prop} {dst : Option Nat} {os : List AO}

theorem WriteString_call {n : Nat} {A : Nat → Blk} {b : Nat} {g : Option Nat} {acc s : Bytes} (h : IsB 42 5 ⟨n, A⟩ b g acc) (hm : acc.length + s.length ≤ most)
    (hk : ∀ H' g', IsB 42 5 H' b g' (acc ++ s) → Kept ⟨n, A⟩ H' b g g' → RunOps Cx fn (putA T dst (.tuple [.int .i64 (s.length : Int), .nilI])) ds ro os k H' Q) :
    RunCall Cx fn T ds ro 12 [.ptr b 2 0 0, .str s] dst os k ⟨n, A⟩ Q := by
  refine call_body pure12 (noext _) body12 ?_
  obtain ⟨lt, ⟨a, ha, hb⟩, hbuf⟩ := h
  have lt' : b < n := lt
  have e1 : (b = n) = False := eq_false (by omega)
  have e2 : (n = b) = False := eq_false (by omega)
  have hl : s.length ≤ most := by omega
  by_cases hs : s = []
  · subst hs
    have hz : (ofBytes ([] : Bytes) = []) = True := eq_true rfl
    cases g with
    | none =>
      have hacc : acc = [] := hbuf
      subst hacc
      have hb' : A b = .cells 42 2 [[a, .nilS]] := hb
      have fin : ∀ A', A' b = .cells 42 2 [[.ptr b 2 0 0, .nilS]] → (∀ d, d < n → d ≠ b → A' d = A d) → RunOps Cx fn (putA T dst (.tuple [.int .i64 (([] : Bytes).length : Int), .nilI])) ds ro os k ⟨n, A'⟩ Q := by
        intro A' h1 h3
        exact hk _ none ⟨lt, ⟨_, .inr rfl, h1⟩, rfl⟩ ⟨Nat.le_refl _, fun d hd hd2 _ => h3 d hd hd2, .inl rfl⟩
      rcases ha with rfl | rfl <;>
      (simp only [hb', e1, e2, hz, call_ext pure_cc ext_cc, copyG, runVH_some, builtinM, appendA, source, Nat.mul_one, n12_0, n12_1, n12_2, n12_3, n12_4, n12_5, n12_6, n12_7, n12_8, o12_1, o12_3, o12_5, o12_7, res12, TT_3, TT_4, TT_5, TT_9, TT_22, TT_27, TT_34, TT_36, TT_38, TT_39, TT_40, TT_42, TT_54, TT_66, ro_cons, ro_nil, ro_guardC, runGuard_bool, runGuard_undef, rop_assign, rop_move, rop_binOp, rop_unOp, rop_pick, rop_box, rop_alloc, rop_build, rop_field, rop_fieldAddr, rop_load, rop_store, rop_convert, rop_extract, rop_nilCheck, rop_builtinC, rop_callC, rop_callC, runA_fn, runB_some, runV_some, runVH_some, runCond_bool, primP, primM, ev, evs, parts_, ofConst, fltOf_0, bin, un, intBin, putA, enterT, upd_app, decide_true, decide_false, Nat.reduceEqDiff, Nat.reduceAdd, Nat.reduceMul, Nat.reduceLeDiff, Nat.reduceLT, Nat.zero_add, Bool.false_eq_true, Bool.not_true, Bool.not_false, ↓reduceIte, reduceCtorEq, List.getElem?_cons_zero, List.getElem?_cons_succ, List.getElem?_nil, Option.getD_some, Option.map_some, RunRes, resultsA, oneOf, freeze_int, freeze_bool, freeze_str, freeze_flt, freeze_cpx, freeze_agg, freeze_tuple, freeze2_int, freeze2_bool, freeze2_agg, freeze2_cpx, freeze2_flt, freeze1_int, freeze1_bool, freeze1_str, mapO_nil, mapO_cons, consO_some, AV.plain, AV.cells, AHeap.push, AHeap.set, AHeap.empty, fieldOf, loadA, storeA, BX.part, TK.isAgg, convA, builtinA, inertB, builtinP, buildA, fillA, splice, List.length_cons, List.length_nil, List.take_succ_cons, List.take_zero, List.take_nil, List.drop_succ_cons, List.drop_zero, List.drop_nil, List.cons_append, List.nil_append, List.append_nil, List.set_cons_zero, List.set_cons_succ, true_and, and_true, and_self, eqv, cellsEq, Option.bind_some, sizeT, dyn_nil, dyn_end, dyn_cons, dop_move, dop_assign, dop_build, dop_nilCheck, dop_fieldAddr, dop_field, dop_indexAddr, dop_binOp, dop_extract, dop_load, dop_store, dop_alloc, dop_box, dop_buildSlice, dynV_some, chk_nil, chk_cons, apart_ptr, adT, ldT, fwT, bne_iff_ne, ne_eq, not_false_eq_true, not_true_eq_false, Nat.le_refl, Nat.add_zero, Bool.true_and, Bool.and_true, Bool.false_and, Bool.and_false, Nat.reduceBeqDiff, Nat.reduceBneDiff, Int.reduceBNe, Int.reduceBEq, Int.reduceEq, Int.reduceLT, Int.reduceLE, Int.reduceAdd, Int.reduceSub, Int.reduceMul, Int.reduceNeg, beq_self_eq_true, bne_self_eq_false, strBin, rop_indexAddr, rop_buildSlice, rop_index, rop_slice, rop_makeSlice, rop_makeFunc, indexAddrA, elems, lenOf, chunk, List.reduceReplicate, List.flatten_cons, List.flatten_nil, freeze_slc, freeze2_slc, freeze1_slc, frzE_some, freeze1_emp, freeze_emp, freeze2_emp, freeze_nilS, freeze2_nilS, freeze1_nilS, freeze_vec, freeze2_vec, freeze1_vec, Int.toNat_zero, Int.toNat_one, Int.reduceToNat, Int.cast_ofNat_Int]
       refine fin _ ?_ ?_
       · simp only [upd_app, e1, e2, ↓reduceIte]
       · intro d h1 h2
         simp only [upd_app, h2, ↓reduceIte])
    | some g =>
      obtain ⟨hgb, hgn, hg⟩ := hbuf
      have hgn' : g < n := hgn
      have hg' : A g = .cells 5 1 (ofBytes acc) := hg
      have hb' : A b = .cells 42 2 [[a, .slc g 1 0 acc.length]] := hb
      have f5 : (g = b) = False := eq_false hgb
      have f6 : (b = g) = False := eq_false (fun e => hgb e.symm)
      have f7 : (acc.length ≤ (ofBytes acc).length) = True := eq_true (by rw [len_ofB]; omega)
      have f8 : acc.length ≤ most := by omega
      have fin : ∀ A', A' b = .cells 42 2 [[.ptr b 2 0 0, .slc g 1 0 acc.length]] → A' g = A g → (∀ d, d < n → d ≠ b → d ≠ g → A' d = A d) → RunOps Cx fn (putA T dst (.tuple [.int .i64 (([] : Bytes).length : Int), .nilI])) ds ro os k ⟨n, A'⟩ Q := by
        intro A' h1 h2 h3
        refine hk _ (some g) ⟨lt, ⟨_, .inr rfl, by rw [List.append_nil]; exact h1⟩, hgb, hgn, by rw [List.append_nil]; exact h2.trans hg'⟩ ⟨Nat.le_refl _, fun d hd hd2 hd3 => h3 d hd hd2 (fun e => hd3 (by rw [e])), .inl rfl⟩
      rcases ha with rfl | rfl <;>
      (simp only [hb', hg', e1, e2, f5, f6, f7, f8, hz, call_ext pure_cc ext_cc, copyG, runVH_some, builtinM, appendA, source, Nat.mul_one, len_ofB, n12_0, n12_1, n12_2, n12_3, n12_4, n12_5, n12_6, n12_7, n12_8, o12_1, o12_3, o12_5, o12_7, res12, TT_3, TT_4, TT_5, TT_9, TT_22, TT_27, TT_34, TT_36, TT_38, TT_39, TT_40, TT_42, TT_54, TT_66, ro_cons, ro_nil, ro_guardC, runGuard_bool, runGuard_undef, rop_assign, rop_move, rop_binOp, rop_unOp, rop_pick, rop_box, rop_alloc, rop_build, rop_field, rop_fieldAddr, rop_load, rop_store, rop_convert, rop_extract, rop_nilCheck, rop_builtinC, rop_callC, rop_callC, runA_fn, runB_some, runV_some, runVH_some, runCond_bool, primP, primM, ev, evs, parts_, ofConst, fltOf_0, bin, un, intBin, putA, enterT, upd_app, decide_true, decide_false, Nat.reduceEqDiff, Nat.reduceAdd, Nat.reduceMul, Nat.reduceLeDiff, Nat.reduceLT, Nat.zero_add, Bool.false_eq_true, Bool.not_true, Bool.not_false, ↓reduceIte, reduceCtorEq, List.getElem?_cons_zero, List.getElem?_cons_succ, List.getElem?_nil, Option.getD_some, Option.map_some, RunRes, resultsA, oneOf, freeze_int, freeze_bool, freeze_str, freeze_flt, freeze_cpx, freeze_agg, freeze_tuple, freeze2_int, freeze2_bool, freeze2_agg, freeze2_cpx, freeze2_flt, freeze1_int, freeze1_bool, freeze1_str, mapO_nil, mapO_cons, consO_some, AV.plain, AV.cells, AHeap.push, AHeap.set, AHeap.empty, fieldOf, loadA, storeA, BX.part, TK.isAgg, convA, builtinA, inertB, builtinP, buildA, fillA, splice, List.length_cons, List.length_nil, List.take_succ_cons, List.take_zero, List.take_nil, List.drop_succ_cons, List.drop_zero, List.drop_nil, List.cons_append, List.nil_append, List.append_nil, List.set_cons_zero, List.set_cons_succ, true_and, and_true, and_self, eqv, cellsEq, Option.bind_some, sizeT, dyn_nil, dyn_end, dyn_cons, dop_move, dop_assign, dop_build, dop_nilCheck, dop_fieldAddr, dop_field, dop_indexAddr, dop_binOp, dop_extract, dop_load, dop_store, dop_alloc, dop_box, dop_buildSlice, dynV_some, chk_nil, chk_cons, apart_ptr, adT, ldT, fwT, bne_iff_ne, ne_eq, not_false_eq_true, not_true_eq_false, Nat.le_refl, Nat.add_zero, Bool.true_and, Bool.and_true, Bool.false_and, Bool.and_false, Nat.reduceBeqDiff, Nat.reduceBneDiff, Int.reduceBNe, Int.reduceBEq, Int.reduceEq, Int.reduceLT, Int.reduceLE, Int.reduceAdd, Int.reduceSub, Int.reduceMul, Int.reduceNeg, beq_self_eq_true, bne_self_eq_false, strBin, rop_indexAddr, rop_buildSlice, rop_index, rop_slice, rop_makeSlice, rop_makeFunc, indexAddrA, elems, lenOf, chunk, List.reduceReplicate, List.flatten_cons, List.flatten_nil, freeze_slc, freeze2_slc, freeze1_slc, frzE_some, freeze1_emp, freeze_emp, freeze2_emp, freeze_nilS, freeze2_nilS, freeze1_nilS, freeze_vec, freeze2_vec, freeze1_vec, Int.toNat_zero, Int.toNat_one, Int.reduceToNat, Int.cast_ofNat_Int]
       refine fin _ ?_ ?_ ?_
       · simp only [upd_app, e1, e2, f5, f6, ↓reduceIte]
       · simp only [upd_app, e1, e2, f5, f6, ↓reduceIte]
       · intro d h1 h2 h3
         simp only [upd_app, h2, h3, ↓reduceIte])
  · have hz : (ofBytes s = []) = False := eq_false (by simpa [ofBytes] using hs)
    cases g with
    | none =>
      have hacc : acc = [] := hbuf
      subst hacc
      have hb' : A b = .cells 42 2 [[a, .nilS]] := hb
      have fin : ∀ A', A' b = .cells 42 2 [[.ptr b 2 0 0, .slc n 1 0 s.length]] → A' n = .cells 5 1 (ofBytes s) → (∀ d, d < n → d ≠ b → A' d = A d) → RunOps Cx fn (putA T dst (.tuple [.int .i64 (s.length : Int), .nilI])) ds ro os k ⟨n + 1, A'⟩ Q := by
        intro A' h1 h2 h3
        exact hk _ (some n) ⟨(by show b < n + 1; omega), ⟨_, .inr rfl, h1⟩, (by omega), (by show n < n + 1; omega), h2⟩ ⟨(by show n ≤ n + 1; omega), fun d hd hd2 _ => h3 d hd hd2, .inr ⟨n, rfl, Nat.le_refl _⟩⟩
      rcases ha with rfl | rfl <;>
      (simp only [hb', e1, e2, hz, hl, call_ext pure_cc ext_cc, copyG, runVH_some, builtinM, appendA, source, Nat.mul_one, len_ofB, n12_0, n12_1, n12_2, n12_3, n12_4, n12_5, n12_6, n12_7, n12_8, o12_1, o12_3, o12_5, o12_7, res12, TT_3, TT_4, TT_5, TT_9, TT_22, TT_27, TT_34, TT_36, TT_38, TT_39, TT_40, TT_42, TT_54, TT_66, ro_cons, ro_nil, ro_guardC, runGuard_bool, runGuard_undef, rop_assign, rop_move, rop_binOp, rop_unOp, rop_pick, rop_box, rop_alloc, rop_build, rop_field, rop_fieldAddr, rop_load, rop_store, rop_convert, rop_extract, rop_nilCheck, rop_builtinC, rop_callC, rop_callC, runA_fn, runB_some, runV_some, runVH_some, runCond_bool, primP, primM, ev, evs, parts_, ofConst, fltOf_0, bin, un, intBin, putA, enterT, upd_app, decide_true, decide_false, Nat.reduceEqDiff, Nat.reduceAdd, Nat.reduceMul, Nat.reduceLeDiff, Nat.reduceLT, Nat.zero_add, Bool.false_eq_true, Bool.not_true, Bool.not_false, ↓reduceIte, reduceCtorEq, List.getElem?_cons_zero, List.getElem?_cons_succ, List.getElem?_nil, Option.getD_some, Option.map_some, RunRes, resultsA, oneOf, freeze_int, freeze_bool, freeze_str, freeze_flt, freeze_cpx, freeze_agg, freeze_tuple, freeze2_int, freeze2_bool, freeze2_agg, freeze2_cpx, freeze2_flt, freeze1_int, freeze1_bool, freeze1_str, mapO_nil, mapO_cons, consO_some, AV.plain, AV.cells, AHeap.push, AHeap.set, AHeap.empty, fieldOf, loadA, storeA, BX.part, TK.isAgg, convA, builtinA, inertB, builtinP, buildA, fillA, splice, List.length_cons, List.length_nil, List.take_succ_cons, List.take_zero, List.take_nil, List.drop_succ_cons, List.drop_zero, List.drop_nil, List.cons_append, List.nil_append, List.append_nil, List.set_cons_zero, List.set_cons_succ, true_and, and_true, and_self, eqv, cellsEq, Option.bind_some, sizeT, dyn_nil, dyn_end, dyn_cons, dop_move, dop_assign, dop_build, dop_nilCheck, dop_fieldAddr, dop_field, dop_indexAddr, dop_binOp, dop_extract, dop_load, dop_store, dop_alloc, dop_box, dop_buildSlice, dynV_some, chk_nil, chk_cons, apart_ptr, adT, ldT, fwT, bne_iff_ne, ne_eq, not_false_eq_true, not_true_eq_false, Nat.le_refl, Nat.add_zero, Bool.true_and, Bool.and_true, Bool.false_and, Bool.and_false, Nat.reduceBeqDiff, Nat.reduceBneDiff, Int.reduceBNe, Int.reduceBEq, Int.reduceEq, Int.reduceLT, Int.reduceLE, Int.reduceAdd, Int.reduceSub, Int.reduceMul, Int.reduceNeg, beq_self_eq_true, bne_self_eq_false, strBin, rop_indexAddr, rop_buildSlice, rop_index, rop_slice, rop_makeSlice, rop_makeFunc, indexAddrA, elems, lenOf, chunk, List.reduceReplicate, List.flatten_cons, List.flatten_nil, freeze_slc, freeze2_slc, freeze1_slc, frzE_some, freeze1_emp, freeze_emp, freeze2_emp, freeze_nilS, freeze2_nilS, freeze1_nilS, freeze_vec, freeze2_vec, freeze1_vec, Int.toNat_zero, Int.toNat_one, Int.reduceToNat, Int.cast_ofNat_Int]
       refine fin _ ?_ ?_ ?_
       · simp only [upd_app, e1, e2, ↓reduceIte]
       · simp only [upd_app, e1, e2, ↓reduceIte]
       · intro d h1 h2
         simp only [upd_app, h2, show (d = n) = False from eq_false (by omega), ↓reduceIte])
    | some g =>
      obtain ⟨hgb, hgn, hg⟩ := hbuf
      have hgn' : g < n := hgn
      have hg' : A g = .cells 5 1 (ofBytes acc) := hg
      have hb' : A b = .cells 42 2 [[a, .slc g 1 0 acc.length]] := hb
      have f1 : (g = n) = False := eq_false (by omega)
      have f2 : (n = g) = False := eq_false (by omega)
      have f5 : (g = b) = False := eq_false hgb
      have f6 : (b = g) = False := eq_false (fun e => hgb e.symm)
      have f7 : (acc.length ≤ (ofBytes acc).length) = True := eq_true (by rw [len_ofB]; omega)
      have f8 : acc.length + s.length ≤ most := hm
      have fin : ∀ A', A' b = .cells 42 2 [[.ptr b 2 0 0, .slc n 1 0 (acc.length + s.length)]] → A' n = .cells 5 1 (ofBytes acc ++ ofBytes s) → (∀ d, d < n → d ≠ b → d ≠ g → A' d = A d) → RunOps Cx fn (putA T dst (.tuple [.int .i64 (s.length : Int), .nilI])) ds ro os k ⟨n + 1, A'⟩ Q := by
        intro A' h1 h2 h3
        rw [ofB_append] at h2
        refine hk _ (some n) ⟨(by show b < n + 1; omega), ⟨_, .inr rfl, by rw [List.length_append]; exact h1⟩, (by omega), (by show n < n + 1; omega), h2⟩ ⟨(by show n ≤ n + 1; omega), fun d hd hd2 hd3 => h3 d hd hd2 (fun e => hd3 (by rw [e])), .inr ⟨n, rfl, Nat.le_refl _⟩⟩
      rcases ha with rfl | rfl <;>
      (simp only [hb', hg', e1, e2, f1, f2, f5, f6, f7, f8, hz, hl, take_ofB, call_ext pure_cc ext_cc, copyG, runVH_some, builtinM, appendA, source, Nat.mul_one, len_ofB, n12_0, n12_1, n12_2, n12_3, n12_4, n12_5, n12_6, n12_7, n12_8, o12_1, o12_3, o12_5, o12_7, res12, TT_3, TT_4, TT_5, TT_9, TT_22, TT_27, TT_34, TT_36, TT_38, TT_39, TT_40, TT_42, TT_54, TT_66, ro_cons, ro_nil, ro_guardC, runGuard_bool, runGuard_undef, rop_assign, rop_move, rop_binOp, rop_unOp, rop_pick, rop_box, rop_alloc, rop_build, rop_field, rop_fieldAddr, rop_load, rop_store, rop_convert, rop_extract, rop_nilCheck, rop_builtinC, rop_callC, rop_callC, runA_fn, runB_some, runV_some, runVH_some, runCond_bool, primP, primM, ev, evs, parts_, ofConst, fltOf_0, bin, un, intBin, putA, enterT, upd_app, decide_true, decide_false, Nat.reduceEqDiff, Nat.reduceAdd, Nat.reduceMul, Nat.reduceLeDiff, Nat.reduceLT, Nat.zero_add, Bool.false_eq_true, Bool.not_true, Bool.not_false, ↓reduceIte, reduceCtorEq, List.getElem?_cons_zero, List.getElem?_cons_succ, List.getElem?_nil, Option.getD_some, Option.map_some, RunRes, resultsA, oneOf, freeze_int, freeze_bool, freeze_str, freeze_flt, freeze_cpx, freeze_agg, freeze_tuple, freeze2_int, freeze2_bool, freeze2_agg, freeze2_cpx, freeze2_flt, freeze1_int, freeze1_bool, freeze1_str, mapO_nil, mapO_cons, consO_some, AV.plain, AV.cells, AHeap.push, AHeap.set, AHeap.empty, fieldOf, loadA, storeA, BX.part, TK.isAgg, convA, builtinA, inertB, builtinP, buildA, fillA, splice, List.length_cons, List.length_nil, List.take_succ_cons, List.take_zero, List.take_nil, List.drop_succ_cons, List.drop_zero, List.drop_nil, List.cons_append, List.nil_append, List.append_nil, List.set_cons_zero, List.set_cons_succ, true_and, and_true, and_self, eqv, cellsEq, Option.bind_some, sizeT, dyn_nil, dyn_end, dyn_cons, dop_move, dop_assign, dop_build, dop_nilCheck, dop_fieldAddr, dop_field, dop_indexAddr, dop_binOp, dop_extract, dop_load, dop_store, dop_alloc, dop_box, dop_buildSlice, dynV_some, chk_nil, chk_cons, apart_ptr, adT, ldT, fwT, bne_iff_ne, ne_eq, not_false_eq_true, not_true_eq_false, Nat.le_refl, Nat.add_zero, Bool.true_and, Bool.and_true, Bool.false_and, Bool.and_false, Nat.reduceBeqDiff, Nat.reduceBneDiff, Int.reduceBNe, Int.reduceBEq, Int.reduceEq, Int.reduceLT, Int.reduceLE, Int.reduceAdd, Int.reduceSub, Int.reduceMul, Int.reduceNeg, beq_self_eq_true, bne_self_eq_false, strBin, rop_indexAddr, rop_buildSlice, rop_index, rop_slice, rop_makeSlice, rop_makeFunc, indexAddrA, elems, lenOf, chunk, List.reduceReplicate, List.flatten_cons, List.flatten_nil, freeze_slc, freeze2_slc, freeze1_slc, frzE_some, freeze1_emp, freeze_emp, freeze2_emp, freeze_nilS, freeze2_nilS, freeze1_nilS, freeze_vec, freeze2_vec, freeze1_vec, Int.toNat_zero, Int.toNat_one, Int.reduceToNat, Int.cast_ofNat_Int]
       refine fin _ ?_ ?_ ?_
       · simp only [upd_app, e1, e2, f1, f2, f5, f6, ↓reduceIte]
       · simp only [upd_app, e1, e2, f1, f2, f5, f6, ↓reduceIte]
       · intro d h1 h2 h3
         simp only [upd_app, h2, h3, show (d = n) = False from eq_false (by omega), ↓reduceIte])

/-- What the builder holds, as a text; the builder is not written any more. -/
theorem String_call {n : Nat} {A : Nat → Blk} {b g : Nat} {acc : Bytes} (h : IsB 42 5 ⟨n, A⟩ b (some g) acc) (h0 : acc ≠ []) (hm : acc.length ≤ maxLen) :
    RunCall Cx fn T ds ro 16 [.ptr b 2 0 0] dst os k ⟨n, A⟩ Q = RunOps Cx fn (putA T dst (.str acc)) ds ro os k ⟨n, upd A g .dead⟩ Q := by
  obtain ⟨lt, ⟨a, ha, hb⟩, hgb, hgn, hg⟩ := h
  have hg' : A g = .cells 5 1 (ofBytes acc) := hg
  have hb' : A b = .cells 42 2 [[a, .slc g 1 0 acc.length]] := hb
  rw [call_ext pure_str ext_str]
  have hc : strG 42 5 [.ptr b 2 0 0] ⟨n, A⟩ = some (.str acc, ⟨n, upd A g .dead⟩) := by
    unfold strG
    simp only [hb', hg']
    rw [if_pos ⟨trivial, trivial, by simpa using h0, by rw [len_ofB]; omega, hm, by rw [take_ofB]; exact u8ok_ofB acc⟩, take_ofB, bytesOf_ofB]
    rfl
  rw [hc]
  rfl
end Go.Proofs.Ytgallgjldfabfaa.G
