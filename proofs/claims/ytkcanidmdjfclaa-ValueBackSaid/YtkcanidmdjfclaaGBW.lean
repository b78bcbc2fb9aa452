import Derived.Test.YtkcanidmdjfclaaG
import Derived.Test.YtkcanidmdjfclaaBEv
namespace Go.Proofs.Ytkcanidmdjfclaa.G
open Go.BX
set_option linter.unusedSimpArgs false
set_option linter.unusedVariables false

theorem pure_cc : Cx.pure 55 = false := by kernel_rfl
theorem ext_cc : Cx.ext 55 = some (copyG 61) := rfl
theorem pure_str : Cx.pure 50 = false := by kernel_rfl
theorem ext_str : Cx.ext 50 = some (strG 61 5) := rfl

variable {fn : FuncId} {T : Nat → AV} {ds : List ADef} {ro : Option Nat} {k : List AItem} {Q : AV → AHeap → Prop} {dst : Option Nat} {os : List AO}

theorem WriteByte_call {n : Nat} {A : Nat → Blk} {b : Nat} {g : Option Nat} {acc : Bytes} {x : UInt8} (h : IsB 61 5 ⟨n, A⟩ b g acc) (hm : acc.length + 1 ≤ most)
    (hk : ∀ H' z, IsB 61 5 H' b (some z) (acc ++ [x]) → Kept ⟨n, A⟩ H' b g (some z) → RunOps Cx fn (putA T dst .nilI) ds ro os k H' Q) :
    RunCall Cx fn T ds ro 47 [.ptr b 2 0 0, .int .u8 (x.toNat : Int)] dst os k ⟨n, A⟩ Q := by
  refine call_body pure47 (noext _) body47 ?_
  obtain ⟨lt, ⟨a, ha, hb⟩, hbuf⟩ := h
  have lt' : b < n := lt
  have e1 : (b = n) = False := eq_false (by omega)
  have e2 : (n = b) = False := eq_false (by omega)
  have e3 : (b = n + 1) = False := eq_false (by omega)
  have e4 : (n = n + 1) = False := eq_false (by omega)
  have e5 : (n + 1 = n) = False := eq_false (by omega)
  have e6 : (n + 1 = b) = False := eq_false (by omega)
  have hm1 : 1 ≤ most := by unfold most; omega
  cases g with
  | none =>
    have hacc : acc = [] := hbuf
    subst hacc
    have hb' : A b = .cells 61 2 [[a, .nilS]] := hb
    have fin : ∀ A', A' b = .cells 61 2 [[.ptr b 2 0 0, .slc (n + 1) 1 0 1]] → A' (n + 1) = .cells 5 1 [[.int .u8 (x.toNat : Int)]] → (∀ d, d < n → d ≠ b → A' d = A d) → RunOps Cx fn (putA T dst .nilI) ds ro os k ⟨n + 1 + 1, A'⟩ Q := by
      intro A' h1 h2 h3
      refine hk _ (n + 1) ⟨(by show b < n + 1 + 1; omega), ⟨_, .inr rfl, h1⟩, (by omega), (by show n + 1 < n + 1 + 1; omega), h2⟩ ⟨(by show n ≤ n + 1 + 1; omega), fun d hd hd2 _ => h3 d hd hd2, .inr ⟨n + 1, rfl, (by show n ≤ n + 1; omega)⟩⟩
    rcases ha with rfl | rfl <;>
    (simp only [hb', e1, e2, e3, e4, e5, e6, hm1, call_ext pure_cc ext_cc, copyG, runVH_some, builtinM, appendA, source, Nat.mul_one, List.length_singleton, n47_0, n47_1, n47_2, n47_3, n47_4, n47_5, n47_6, n47_7, n47_8, o47_1, o47_3, o47_5, o47_7, res47, TT_3, TT_4, TT_5, TT_9, TT_23, TT_24, TT_25, TT_32, TT_34, TT_49, TT_51, TT_57, TT_58, TT_59, TT_61, ro_cons, ro_nil, ro_guardC, runGuard_bool, runGuard_undef, rop_assign, rop_move, rop_binOp, rop_unOp, rop_pick, rop_box, rop_alloc, rop_build, rop_field, rop_fieldAddr, rop_load, rop_store, rop_convert, rop_extract, rop_nilCheck, rop_builtinC, rop_callC, rop_callC, runA_fn, runB_some, runV_some, runVH_some, runCond_bool, primP, primM, ev, evs, parts_, ofConst, fltOf_0, bin, un, intBin, putA, enterT, upd_app, decide_true, decide_false, Nat.reduceEqDiff, Nat.reduceAdd, Nat.reduceMul, Nat.reduceLeDiff, Nat.reduceLT, Nat.zero_add, Bool.false_eq_true, Bool.not_true, Bool.not_false, ↓reduceIte, reduceCtorEq, List.getElem?_cons_zero, List.getElem?_cons_succ, List.getElem?_nil, Option.getD_some, Option.map_some, RunRes, resultsA, oneOf, freeze_int, freeze_bool, freeze_str, freeze_flt, freeze_cpx, freeze_agg, freeze_tuple, freeze2_int, freeze2_bool, freeze2_agg, freeze2_cpx, freeze2_flt, freeze1_int, freeze1_bool, freeze1_str, mapO_nil, mapO_cons, consO_some, AV.plain, AV.cells, AHeap.push, AHeap.set, AHeap.empty, fieldOf, loadA, storeA, BX.part, TK.isAgg, convA, builtinA, inertB, builtinP, buildA, fillA, splice, List.length_cons, List.length_nil, List.take_succ_cons, List.take_zero, List.take_nil, List.drop_succ_cons, List.drop_zero, List.drop_nil, List.cons_append, List.nil_append, List.append_nil, List.set_cons_zero, List.set_cons_succ, true_and, and_true, and_self, eqv, cellsEq, Option.bind_some, sizeT, dyn_nil, dyn_end, dyn_cons, dop_move, dop_assign, dop_build, dop_nilCheck, dop_fieldAddr, dop_field, dop_indexAddr, dop_binOp, dop_extract, dop_load, dop_store, dop_alloc, dop_box, dop_buildSlice, dynV_some, chk_nil, chk_cons, apart_ptr, adT, ldT, fwT, bne_iff_ne, ne_eq, not_false_eq_true, not_true_eq_false, Nat.le_refl, Nat.add_zero, Bool.true_and, Bool.and_true, Bool.false_and, Bool.and_false, Nat.reduceBeqDiff, Nat.reduceBneDiff, Int.reduceBNe, Int.reduceBEq, Int.reduceEq, Int.reduceLT, Int.reduceLE, Int.reduceAdd, Int.reduceSub, Int.reduceMul, Int.reduceNeg, beq_self_eq_true, bne_self_eq_false, strBin, rop_indexAddr, rop_buildSlice, rop_index, rop_slice, rop_makeSlice, rop_makeFunc, indexAddrA, elems, lenOf, chunk, List.reduceReplicate, List.flatten_cons, List.flatten_nil, freeze_slc, freeze2_slc, freeze1_slc, frzE_some, freeze1_emp, freeze_emp, freeze2_emp, freeze_nilS, freeze2_nilS, freeze1_nilS, freeze_vec, freeze2_vec, freeze1_vec, Int.toNat_zero, Int.toNat_one, Int.reduceToNat, Int.cast_ofNat_Int]
     refine fin _ ?_ ?_ ?_
     · simp only [upd_app, e1, e2, e3, e4, e5, e6, ↓reduceIte]
     · simp only [upd_app, e1, e2, e3, e4, e5, e6, ↓reduceIte]
     · intro d h1 h2
       simp only [upd_app, h2, show (d = n) = False from eq_false (by omega), show (d = n + 1) = False from eq_false (by omega), ↓reduceIte])
  | some g =>
    obtain ⟨hgb, hgn, hg⟩ := hbuf
    have hgn' : g < n := hgn
    have hg' : A g = .cells 5 1 (ofBytes acc) := hg
    have hb' : A b = .cells 61 2 [[a, .slc g 1 0 acc.length]] := hb
    have f1 : (g = n) = False := eq_false (by omega)
    have f2 : (n = g) = False := eq_false (by omega)
    have f3 : (g = n + 1) = False := eq_false (by omega)
    have f4 : (n + 1 = g) = False := eq_false (by omega)
    have f5 : (g = b) = False := eq_false hgb
    have f6 : (b = g) = False := eq_false (fun e => hgb e.symm)
    have f7 : (acc.length ≤ (ofBytes acc).length) = True := eq_true (by rw [len_ofB]; omega)
    have f8 : acc.length + 1 ≤ most := hm
    have fin : ∀ A', A' b = .cells 61 2 [[.ptr b 2 0 0, .slc (n + 1) 1 0 (acc.length + 1)]] → A' (n + 1) = .cells 5 1 (ofBytes acc ++ [[.int .u8 (x.toNat : Int)]]) → (∀ d, d < n → d ≠ b → d ≠ g → A' d = A d) → RunOps Cx fn (putA T dst .nilI) ds ro os k ⟨n + 1 + 1, A'⟩ Q := by
      intro A' h1 h2 h3
      rw [ofB_snoc] at h2
      refine hk _ (n + 1) ⟨(by show b < n + 1 + 1; omega), ⟨_, .inr rfl, by rw [List.length_append]; exact h1⟩, (by omega), (by show n + 1 < n + 1 + 1; omega), h2⟩ ⟨(by show n ≤ n + 1 + 1; omega), fun d hd hd2 hd3 => h3 d hd hd2 (fun e => hd3 (by rw [e])), .inr ⟨n + 1, rfl, (by show n ≤ n + 1; omega)⟩⟩
    rcases ha with rfl | rfl <;>
    (simp only [hb', hg', e1, e2, e3, e4, e5, e6, f1, f2, f3, f4, f5, f6, f7, f8, take_ofB, call_ext pure_cc ext_cc, copyG, runVH_some, builtinM, appendA, source, Nat.mul_one, List.length_singleton, n47_0, n47_1, n47_2, n47_3, n47_4, n47_5, n47_6, n47_7, n47_8, o47_1, o47_3, o47_5, o47_7, res47, TT_3, TT_4, TT_5, TT_9, TT_23, TT_24, TT_25, TT_32, TT_34, TT_49, TT_51, TT_57, TT_58, TT_59, TT_61, ro_cons, ro_nil, ro_guardC, runGuard_bool, runGuard_undef, rop_assign, rop_move, rop_binOp, rop_unOp, rop_pick, rop_box, rop_alloc, rop_build, rop_field, rop_fieldAddr, rop_load, rop_store, rop_convert, rop_extract, rop_nilCheck, rop_builtinC, rop_callC, rop_callC, runA_fn, runB_some, runV_some, runVH_some, runCond_bool, primP, primM, ev, evs, parts_, ofConst, fltOf_0, bin, un, intBin, putA, enterT, upd_app, decide_true, decide_false, Nat.reduceEqDiff, Nat.reduceAdd, Nat.reduceMul, Nat.reduceLeDiff, Nat.reduceLT, Nat.zero_add, Bool.false_eq_true, Bool.not_true, Bool.not_false, ↓reduceIte, reduceCtorEq, List.getElem?_cons_zero, List.getElem?_cons_succ, List.getElem?_nil, Option.getD_some, Option.map_some, RunRes, resultsA, oneOf, freeze_int, freeze_bool, freeze_str, freeze_flt, freeze_cpx, freeze_agg, freeze_tuple, freeze2_int, freeze2_bool, freeze2_agg, freeze2_cpx, freeze2_flt, freeze1_int, freeze1_bool, freeze1_str, mapO_nil, mapO_cons, consO_some, AV.plain, AV.cells, AHeap.push, AHeap.set, AHeap.empty, fieldOf, loadA, storeA, BX.part, TK.isAgg, convA, builtinA, inertB, builtinP, buildA, fillA, splice, List.length_cons, List.length_nil, List.take_succ_cons, List.take_zero, List.take_nil, List.drop_succ_cons, List.drop_zero, List.drop_nil, List.cons_append, List.nil_append, List.append_nil, List.set_cons_zero, List.set_cons_succ, true_and, and_true, and_self, eqv, cellsEq, Option.bind_some, sizeT, dyn_nil, dyn_end, dyn_cons, dop_move, dop_assign, dop_build, dop_nilCheck, dop_fieldAddr, dop_field, dop_indexAddr, dop_binOp, dop_extract, dop_load, dop_store, dop_alloc, dop_box, dop_buildSlice, dynV_some, chk_nil, chk_cons, apart_ptr, adT, ldT, fwT, bne_iff_ne, ne_eq, not_false_eq_true, not_true_eq_false, Nat.le_refl, Nat.add_zero, Bool.true_and, Bool.and_true, Bool.false_and, Bool.and_false, Nat.reduceBeqDiff, Nat.reduceBneDiff, Int.reduceBNe, Int.reduceBEq, Int.reduceEq, Int.reduceLT, Int.reduceLE, Int.reduceAdd, Int.reduceSub, Int.reduceMul, Int.reduceNeg, beq_self_eq_true, bne_self_eq_false, strBin, rop_indexAddr, rop_buildSlice, rop_index, rop_slice, rop_makeSlice, rop_makeFunc, indexAddrA, elems, lenOf, chunk, List.reduceReplicate, List.flatten_cons, List.flatten_nil, freeze_slc, freeze2_slc, freeze1_slc, frzE_some, freeze1_emp, freeze_emp, freeze2_emp, freeze_nilS, freeze2_nilS, freeze1_nilS, freeze_vec, freeze2_vec, freeze1_vec, Int.toNat_zero, Int.toNat_one, Int.reduceToNat, Int.cast_ofNat_Int]
     refine fin _ ?_ ?_ ?_
     · simp only [upd_app, e1, e2, e3, e4, e5, e6, f1, f2, f3, f4, f5, f6, ↓reduceIte]
     · simp only [upd_app, e1, e2, e3, e4, e5, e6, f1, f2, f3, f4, f5, f6, ↓reduceIte]
     · intro d h1 h2 h3
       simp only [upd_app, h2, h3, show (d = n) = False from eq_false (by omega), show (d = n + 1) = False from eq_false (by omega), ↓reduceIte])
end Go.Proofs.Ytkcanidmdjfclaa.G
