import Derived.Test.YtgallgjldfabfaaGBS
import Derived.Laws.BitsLemmas
namespace Go.Proofs.Ytgallgjldfabfaa.G
open Go.BX
set_option linter.unusedSimpArgs false
set_option linter.unusedVariables false

theorem wr64 {n : Int} (h1 : -9223372036854775808 ≤ n) (h2 : n ≤ 9223372036854775807) : IntKind.i64.wrap n = n := by
  rw [IntKind.wrap_i64]; omega
theorem wr8 {n : Int} (h1 : 0 ≤ n) (h2 : n ≤ 255) : IntKind.u8.wrap n = n := by
  rw [IntKind.wrap_u8]; omega
theorem u8_of {n : Int} (h1 : 0 ≤ n) (h2 : n ≤ 255) : (((UInt8.ofNat n.toNat).toNat : Nat) : Int) = n := by
  rw [UInt8.toNat_ofNat']; omega
/-- A number as a byte's cell. -/
theorem wr8_of {n : Int} (h1 : 0 ≤ n) (h2 : n ≤ 255) : IntKind.u8.wrap n = (((UInt8.ofNat n.toNat).toNat : Nat) : Int) := by
  rw [wr8 h1 h2, u8_of h1 h2]

/-- A number's bytes, 7 bits each. -/
def numB (n : Nat) : Bytes := if n < 128 then [UInt8.ofNat n] else UInt8.ofNat (n % 128 + 128) :: numB (n / 128)
termination_by n
decreasing_by omega

def numS (n : Int) : Bytes := if n < 0 ∨ 9007199254740991 < n then [] else numB n.toNat

theorem numB_lt {n : Nat} (h : n < 128) : numB n = [UInt8.ofNat n] := by rw [numB, if_pos h]
theorem numB_ge {n : Nat} (h : ¬ n < 128) : numB n = UInt8.ofNat (n % 128 + 128) :: numB (n / 128) := by rw [numB, if_neg h]
theorem numB_len (n : Nat) : (numB n).length ≤ n + 1 := by
  induction n using Nat.strongRecOn with
  | _ n ih =>
    by_cases h : n < 128
    · rw [numB_lt h]; simp
    · rw [numB_ge h, List.length_cons]
      have := ih (n / 128) (by omega)
      omega

theorem numB_len8 : ∀ {k n : Nat}, n < 128 ^ (k + 1) → (numB n).length ≤ k + 1
  | 0, n, h => by rw [numB_lt (by simpa using h)]; simp
  | k + 1, n, h => by
    by_cases h1 : n < 128
    · rw [numB_lt h1]; simp
    · rw [numB_ge h1, List.length_cons]
      have := @numB_len8 k (n / 128) (by rw [Nat.pow_succ] at h; omega)
      omega

theorem numS_nat {n : Int} (h1 : 0 ≤ n) (h2 : n ≤ 9007199254740991) : numS n = numB n.toNat := by
  unfold numS; rw [if_neg (by omega)]

theorem td128 {n : Int} (h : 0 ≤ n) : n.tmod 128 = n % 128 ∧ n.tdiv 128 = n / 128 := ⟨Int.tmod_eq_emod_of_nonneg h, Int.tdiv_eq_ediv_of_nonneg h⟩

/-- Bytes that grow in a slice. -/
def BufOk (v : AV) (h : Nat) (A : Nat → Blk) (acc : Bytes) : Prop := (v = .nilS ∧ acc = []) ∨ ∃ g, v = .slc g 1 0 acc.length ∧ g < h ∧ A g = .cells 5 1 (ofBytes acc)

def PN (r : AV) (n : Int) (acc : Bytes) : Prop :=
  ∀ (T : Nat → AV) (h : Nat) (A : Nat → Blk), T 0 = .int .i64 n → BufOk (T 3) h A acc →
    Run Cx 13 T [] none [.inLoop c13_15, .inBlock 0, .code c13_25] ⟨h, A⟩ (fun r0 H' => BX.freeze H' r0 = some r)

theorem pn_exit {n : Int} {acc : Bytes} (h0 : 0 ≤ n) (h1 : n < 128) (hl : acc.length + 1 ≤ most) : PN (.str (acc ++ [UInt8.ofNat n.toNat])) n acc := by
  intro T h A t0 hb
  rw [run_inLoop]
  have h1' : ¬ 128 ≤ n := by omega
  have w := wr8_of (n := n) (by omega) (by omega)
  have hm1 : 1 ≤ most := by unfold most; omega
  have hbb := bytesOf_ofB (acc ++ [UInt8.ofNat n.toNat])
  rw [← ofB_snoc] at hbb
  rcases hb with ⟨t3, rfl⟩ | ⟨g, t3, hg, hA⟩
  · simp only [List.nil_append] at hbb ⊢
    have hbb' : bytesOf [[AV.int .u8 (((UInt8.ofNat n.toNat).toNat : Nat) : Int)]] = some [UInt8.ofNat n.toNat] := hbb
    have e1 : (h = h + 1) = False := eq_false (by omega)
    have e2 : (h + 1 = h) = False := eq_false (by omega)
    simp only [t0, t3, h1', w, hm1, hbb', e1, e2, builtinM, appendA, source, Nat.mul_one, List.length_singleton, runVH_some, run_exit_start, exit_here, exit_code, exit_inLoop, run_inBlock, n13_0, n13_1, n13_2, n13_3, n13_4, n13_5, n13_6, n13_7, n13_8, n13_9, n13_10, n13_11, n13_12, n13_13, n13_14, n13_15, n13_16, n13_17, n13_18, n13_19, n13_20, n13_21, n13_22, n13_23, n13_24, n13_25, n13_26, n13_27, o13_1, o13_4, o13_7, o13_11, o13_17, o13_23, o13_24, o13_26, res13, TT_3, TT_4, TT_5, TT_9, TT_22, TT_27, TT_34, TT_36, TT_38, TT_39, TT_40, TT_42, TT_54, TT_66, ro_cons, ro_nil, ro_guardC, runGuard_bool, runGuard_undef, rop_assign, rop_move, rop_binOp, rop_unOp, rop_pick, rop_box, rop_alloc, rop_build, rop_field, rop_fieldAddr, rop_load, rop_store, rop_convert, rop_extract, rop_nilCheck, rop_builtinC, rop_callC, rop_callC, runA_fn, runB_some, runV_some, runVH_some, runCond_bool, primP, primM, ev, evs, parts_, ofConst, fltOf_0, bin, un, intBin, putA, enterT, upd_app, decide_true, decide_false, Nat.reduceEqDiff, Nat.reduceAdd, Nat.reduceMul, Nat.reduceLeDiff, Nat.reduceLT, Nat.zero_add, Bool.false_eq_true, Bool.not_true, Bool.not_false, ↓reduceIte, reduceCtorEq, List.getElem?_cons_zero, List.getElem?_cons_succ, List.getElem?_nil, Option.getD_some, Option.map_some, RunRes, resultsA, oneOf, freeze_int, freeze_bool, freeze_str, freeze_flt, freeze_cpx, freeze_agg, freeze_tuple, freeze2_int, freeze2_bool, freeze2_agg, freeze2_cpx, freeze2_flt, freeze1_int, freeze1_bool, freeze1_str, mapO_nil, mapO_cons, consO_some, AV.plain, AV.cells, AHeap.push, AHeap.set, AHeap.empty, fieldOf, loadA, storeA, BX.part, TK.isAgg, convA, builtinA, inertB, builtinP, buildA, fillA, splice, List.length_cons, List.length_nil, List.take_succ_cons, List.take_zero, List.take_nil, List.drop_succ_cons, List.drop_zero, List.drop_nil, List.cons_append, List.nil_append, List.append_nil, List.set_cons_zero, List.set_cons_succ, true_and, and_true, and_self, eqv, cellsEq, Option.bind_some, sizeT, dyn_nil, dyn_end, dyn_cons, dop_move, dop_assign, dop_build, dop_nilCheck, dop_fieldAddr, dop_field, dop_indexAddr, dop_binOp, dop_extract, dop_load, dop_store, dop_alloc, dop_box, dop_buildSlice, dynV_some, chk_nil, chk_cons, apart_ptr, adT, ldT, fwT, bne_iff_ne, ne_eq, not_false_eq_true, not_true_eq_false, Nat.le_refl, Nat.add_zero, Bool.true_and, Bool.and_true, Bool.false_and, Bool.and_false, Nat.reduceBeqDiff, Nat.reduceBneDiff, Int.reduceBNe, Int.reduceBEq, Int.reduceEq, Int.reduceLT, Int.reduceLE, Int.reduceAdd, Int.reduceSub, Int.reduceMul, Int.reduceNeg, beq_self_eq_true, bne_self_eq_false, strBin, rop_indexAddr, rop_buildSlice, rop_index, rop_slice, rop_makeSlice, rop_makeFunc, indexAddrA, elems, lenOf, chunk, List.reduceReplicate, List.flatten_cons, List.flatten_nil, freeze_slc, freeze2_slc, freeze1_slc, frzE_some, freeze1_emp, freeze_emp, freeze2_emp, freeze_nilS, freeze2_nilS, freeze1_nilS, freeze_vec, freeze2_vec, freeze1_vec, Int.toNat_zero, Int.toNat_one, Int.reduceToNat, Int.cast_ofNat_Int]
  · have e1 : (g = h) = False := eq_false (by omega)
    have e2 : (h = h + 1) = False := eq_false (by omega)
    have e3 : (g = h + 1) = False := eq_false (by omega)
    have e4 : (h + 1 = h) = False := eq_false (by omega)
    have e5 : (h = g) = False := eq_false (by omega)
    have e6 : (h + 1 = g) = False := eq_false (by omega)
    have f7 : (acc.length ≤ (ofBytes acc).length) = True := eq_true (by rw [len_ofB]; omega)
    have f8 : (acc.length + 1 ≤ (ofBytes acc ++ [[AV.int .u8 (((UInt8.ofNat n.toNat).toNat : Nat) : Int)]]).length) = True := eq_true (by rw [List.length_append, len_ofB]; simp)
    have f9 : (ofBytes acc ++ [[AV.int .u8 (((UInt8.ofNat n.toNat).toNat : Nat) : Int)]]).take (acc.length + 1) = ofBytes acc ++ [[AV.int .u8 (((UInt8.ofNat n.toNat).toNat : Nat) : Int)]] := by
      rw [List.take_of_length_le (by rw [List.length_append, len_ofB]; simp)]
    simp only [t0, t3, hA, h1', w, hl, hbb, e1, e2, e3, e4, e5, e6, f7, f8, f9, take_ofB, builtinM, appendA, source, Nat.mul_one, List.length_singleton, runVH_some, run_exit_start, exit_here, exit_code, exit_inLoop, run_inBlock, n13_0, n13_1, n13_2, n13_3, n13_4, n13_5, n13_6, n13_7, n13_8, n13_9, n13_10, n13_11, n13_12, n13_13, n13_14, n13_15, n13_16, n13_17, n13_18, n13_19, n13_20, n13_21, n13_22, n13_23, n13_24, n13_25, n13_26, n13_27, o13_1, o13_4, o13_7, o13_11, o13_17, o13_23, o13_24, o13_26, res13, TT_3, TT_4, TT_5, TT_9, TT_22, TT_27, TT_34, TT_36, TT_38, TT_39, TT_40, TT_42, TT_54, TT_66, ro_cons, ro_nil, ro_guardC, runGuard_bool, runGuard_undef, rop_assign, rop_move, rop_binOp, rop_unOp, rop_pick, rop_box, rop_alloc, rop_build, rop_field, rop_fieldAddr, rop_load, rop_store, rop_convert, rop_extract, rop_nilCheck, rop_builtinC, rop_callC, rop_callC, runA_fn, runB_some, runV_some, runVH_some, runCond_bool, primP, primM, ev, evs, parts_, ofConst, fltOf_0, bin, un, intBin, putA, enterT, upd_app, decide_true, decide_false, Nat.reduceEqDiff, Nat.reduceAdd, Nat.reduceMul, Nat.reduceLeDiff, Nat.reduceLT, Nat.zero_add, Bool.false_eq_true, Bool.not_true, Bool.not_false, ↓reduceIte, reduceCtorEq, List.getElem?_cons_zero, List.getElem?_cons_succ, List.getElem?_nil, Option.getD_some, Option.map_some, RunRes, resultsA, oneOf, freeze_int, freeze_bool, freeze_str, freeze_flt, freeze_cpx, freeze_agg, freeze_tuple, freeze2_int, freeze2_bool, freeze2_agg, freeze2_cpx, freeze2_flt, freeze1_int, freeze1_bool, freeze1_str, mapO_nil, mapO_cons, consO_some, AV.plain, AV.cells, AHeap.push, AHeap.set, AHeap.empty, fieldOf, loadA, storeA, BX.part, TK.isAgg, convA, builtinA, inertB, builtinP, buildA, fillA, splice, List.length_cons, List.length_nil, List.take_succ_cons, List.take_zero, List.take_nil, List.drop_succ_cons, List.drop_zero, List.drop_nil, List.cons_append, List.nil_append, List.append_nil, List.set_cons_zero, List.set_cons_succ, true_and, and_true, and_self, eqv, cellsEq, Option.bind_some, sizeT, dyn_nil, dyn_end, dyn_cons, dop_move, dop_assign, dop_build, dop_nilCheck, dop_fieldAddr, dop_field, dop_indexAddr, dop_binOp, dop_extract, dop_load, dop_store, dop_alloc, dop_box, dop_buildSlice, dynV_some, chk_nil, chk_cons, apart_ptr, adT, ldT, fwT, bne_iff_ne, ne_eq, not_false_eq_true, not_true_eq_false, Nat.le_refl, Nat.add_zero, Bool.true_and, Bool.and_true, Bool.false_and, Bool.and_false, Nat.reduceBeqDiff, Nat.reduceBneDiff, Int.reduceBNe, Int.reduceBEq, Int.reduceEq, Int.reduceLT, Int.reduceLE, Int.reduceAdd, Int.reduceSub, Int.reduceMul, Int.reduceNeg, beq_self_eq_true, bne_self_eq_false, strBin, rop_indexAddr, rop_buildSlice, rop_index, rop_slice, rop_makeSlice, rop_makeFunc, indexAddrA, elems, lenOf, chunk, List.reduceReplicate, List.flatten_cons, List.flatten_nil, freeze_slc, freeze2_slc, freeze1_slc, frzE_some, freeze1_emp, freeze_emp, freeze2_emp, freeze_nilS, freeze2_nilS, freeze1_nilS, freeze_vec, freeze2_vec, freeze1_vec, Int.toNat_zero, Int.toNat_one, Int.reduceToNat, Int.cast_ofNat_Int]

theorem pn_step {n : Int} {acc : Bytes} {r : AV} (h0 : 128 ≤ n) (hn : n ≤ 9007199254740991) (hl : acc.length + 1 ≤ most) (hp : PN r (n / 128) (acc ++ [UInt8.ofNat (n % 128 + 128).toNat])) : PN r n acc := by
  intro T h A t0 hb
  rw [run_inLoop]
  obtain ⟨t1, t2⟩ := td128 (n := n) (by omega)
  have w1 : IntKind.i64.wrap (n % 128 + 128) = n % 128 + 128 := wr64 (by omega) (by omega)
  have w := wr8_of (n := n % 128 + 128) (by omega) (by omega)
  have w3 : IntKind.i64.wrap (n / 128) = n / 128 := wr64 (by omega) (by omega)
  have hm1 : 1 ≤ most := by unfold most; omega
  have z : ((128 : Int) = 0) = False := by simp
  have hsn := ofB_snoc acc (UInt8.ofNat (n % 128 + 128).toNat)
  rcases hb with ⟨t3, rfl⟩ | ⟨g, t3, hg, hA⟩
  · have e1 : (h = h + 1) = False := eq_false (by omega)
    have e2 : (h + 1 = h) = False := eq_false (by omega)
    simp only [t0, t3, h0, t1, t2, w1, w, w3, z, hm1, e1, e2, builtinM, appendA, source, Nat.mul_one, List.length_singleton, runVH_some, run_exit_start, exit_here, exit_code, exit_inLoop, run_inBlock, n13_0, n13_1, n13_2, n13_3, n13_4, n13_5, n13_6, n13_7, n13_8, n13_9, n13_10, n13_11, n13_12, n13_13, n13_14, n13_15, n13_16, n13_17, n13_18, n13_19, n13_20, n13_21, n13_22, n13_23, n13_24, n13_25, n13_26, n13_27, o13_1, o13_4, o13_7, o13_11, o13_17, o13_23, o13_24, o13_26, res13, TT_3, TT_4, TT_5, TT_9, TT_22, TT_27, TT_34, TT_36, TT_38, TT_39, TT_40, TT_42, TT_54, TT_66, ro_cons, ro_nil, ro_guardC, runGuard_bool, runGuard_undef, rop_assign, rop_move, rop_binOp, rop_unOp, rop_pick, rop_box, rop_alloc, rop_build, rop_field, rop_fieldAddr, rop_load, rop_store, rop_convert, rop_extract, rop_nilCheck, rop_builtinC, rop_callC, rop_callC, runA_fn, runB_some, runV_some, runVH_some, runCond_bool, primP, primM, ev, evs, parts_, ofConst, fltOf_0, bin, un, intBin, putA, enterT, upd_app, decide_true, decide_false, Nat.reduceEqDiff, Nat.reduceAdd, Nat.reduceMul, Nat.reduceLeDiff, Nat.reduceLT, Nat.zero_add, Bool.false_eq_true, Bool.not_true, Bool.not_false, ↓reduceIte, reduceCtorEq, List.getElem?_cons_zero, List.getElem?_cons_succ, List.getElem?_nil, Option.getD_some, Option.map_some, RunRes, resultsA, oneOf, freeze_int, freeze_bool, freeze_str, freeze_flt, freeze_cpx, freeze_agg, freeze_tuple, freeze2_int, freeze2_bool, freeze2_agg, freeze2_cpx, freeze2_flt, freeze1_int, freeze1_bool, freeze1_str, mapO_nil, mapO_cons, consO_some, AV.plain, AV.cells, AHeap.push, AHeap.set, AHeap.empty, fieldOf, loadA, storeA, BX.part, TK.isAgg, convA, builtinA, inertB, builtinP, buildA, fillA, splice, List.length_cons, List.length_nil, List.take_succ_cons, List.take_zero, List.take_nil, List.drop_succ_cons, List.drop_zero, List.drop_nil, List.cons_append, List.nil_append, List.append_nil, List.set_cons_zero, List.set_cons_succ, true_and, and_true, and_self, eqv, cellsEq, Option.bind_some, sizeT, dyn_nil, dyn_end, dyn_cons, dop_move, dop_assign, dop_build, dop_nilCheck, dop_fieldAddr, dop_field, dop_indexAddr, dop_binOp, dop_extract, dop_load, dop_store, dop_alloc, dop_box, dop_buildSlice, dynV_some, chk_nil, chk_cons, apart_ptr, adT, ldT, fwT, bne_iff_ne, ne_eq, not_false_eq_true, not_true_eq_false, Nat.le_refl, Nat.add_zero, Bool.true_and, Bool.and_true, Bool.false_and, Bool.and_false, Nat.reduceBeqDiff, Nat.reduceBneDiff, Int.reduceBNe, Int.reduceBEq, Int.reduceEq, Int.reduceLT, Int.reduceLE, Int.reduceAdd, Int.reduceSub, Int.reduceMul, Int.reduceNeg, beq_self_eq_true, bne_self_eq_false, strBin, rop_indexAddr, rop_buildSlice, rop_index, rop_slice, rop_makeSlice, rop_makeFunc, indexAddrA, elems, lenOf, chunk, List.reduceReplicate, List.flatten_cons, List.flatten_nil, freeze_slc, freeze2_slc, freeze1_slc, frzE_some, freeze1_emp, freeze_emp, freeze2_emp, freeze_nilS, freeze2_nilS, freeze1_nilS, freeze_vec, freeze2_vec, freeze1_vec, Int.toNat_zero, Int.toNat_one, Int.reduceToNat, Int.cast_ofNat_Int]
    refine hp _ _ _ ?_ (.inr ⟨h + 1, ?_, ?_, ?_⟩)
    · simp only [upd_app, Nat.reduceEqDiff, ↓reduceIte]
    · simp only [upd_app, Nat.reduceEqDiff, ↓reduceIte]; rfl
    · omega
    · simp only [upd_app, ↓reduceIte]; rfl
  · have e1 : (g = h) = False := eq_false (by omega)
    have e2 : (h = h + 1) = False := eq_false (by omega)
    have e3 : (g = h + 1) = False := eq_false (by omega)
    have e4 : (h + 1 = h) = False := eq_false (by omega)
    have e5 : (h = g) = False := eq_false (by omega)
    have e6 : (h + 1 = g) = False := eq_false (by omega)
    have f7 : (acc.length ≤ (ofBytes acc).length) = True := eq_true (by rw [len_ofB]; omega)
    simp only [t0, t3, hA, h0, t1, t2, w1, w, w3, z, hl, e1, e2, e3, e4, e5, e6, f7, take_ofB, hsn, builtinM, appendA, source, Nat.mul_one, List.length_singleton, runVH_some, run_exit_start, exit_here, exit_code, exit_inLoop, run_inBlock, n13_0, n13_1, n13_2, n13_3, n13_4, n13_5, n13_6, n13_7, n13_8, n13_9, n13_10, n13_11, n13_12, n13_13, n13_14, n13_15, n13_16, n13_17, n13_18, n13_19, n13_20, n13_21, n13_22, n13_23, n13_24, n13_25, n13_26, n13_27, o13_1, o13_4, o13_7, o13_11, o13_17, o13_23, o13_24, o13_26, res13, TT_3, TT_4, TT_5, TT_9, TT_22, TT_27, TT_34, TT_36, TT_38, TT_39, TT_40, TT_42, TT_54, TT_66, ro_cons, ro_nil, ro_guardC, runGuard_bool, runGuard_undef, rop_assign, rop_move, rop_binOp, rop_unOp, rop_pick, rop_box, rop_alloc, rop_build, rop_field, rop_fieldAddr, rop_load, rop_store, rop_convert, rop_extract, rop_nilCheck, rop_builtinC, rop_callC, rop_callC, runA_fn, runB_some, runV_some, runVH_some, runCond_bool, primP, primM, ev, evs, parts_, ofConst, fltOf_0, bin, un, intBin, putA, enterT, upd_app, decide_true, decide_false, Nat.reduceEqDiff, Nat.reduceAdd, Nat.reduceMul, Nat.reduceLeDiff, Nat.reduceLT, Nat.zero_add, Bool.false_eq_true, Bool.not_true, Bool.not_false, ↓reduceIte, reduceCtorEq, List.getElem?_cons_zero, List.getElem?_cons_succ, List.getElem?_nil, Option.getD_some, Option.map_some, RunRes, resultsA, oneOf, freeze_int, freeze_bool, freeze_str, freeze_flt, freeze_cpx, freeze_agg, freeze_tuple, freeze2_int, freeze2_bool, freeze2_agg, freeze2_cpx, freeze2_flt, freeze1_int, freeze1_bool, freeze1_str, mapO_nil, mapO_cons, consO_some, AV.plain, AV.cells, AHeap.push, AHeap.set, AHeap.empty, fieldOf, loadA, storeA, BX.part, TK.isAgg, convA, builtinA, inertB, builtinP, buildA, fillA, splice, List.length_cons, List.length_nil, List.take_succ_cons, List.take_zero, List.take_nil, List.drop_succ_cons, List.drop_zero, List.drop_nil, List.cons_append, List.nil_append, List.append_nil, List.set_cons_zero, List.set_cons_succ, true_and, and_true, and_self, eqv, cellsEq, Option.bind_some, sizeT, dyn_nil, dyn_end, dyn_cons, dop_move, dop_assign, dop_build, dop_nilCheck, dop_fieldAddr, dop_field, dop_indexAddr, dop_binOp, dop_extract, dop_load, dop_store, dop_alloc, dop_box, dop_buildSlice, dynV_some, chk_nil, chk_cons, apart_ptr, adT, ldT, fwT, bne_iff_ne, ne_eq, not_false_eq_true, not_true_eq_false, Nat.le_refl, Nat.add_zero, Bool.true_and, Bool.and_true, Bool.false_and, Bool.and_false, Nat.reduceBeqDiff, Nat.reduceBneDiff, Int.reduceBNe, Int.reduceBEq, Int.reduceEq, Int.reduceLT, Int.reduceLE, Int.reduceAdd, Int.reduceSub, Int.reduceMul, Int.reduceNeg, beq_self_eq_true, bne_self_eq_false, strBin, rop_indexAddr, rop_buildSlice, rop_index, rop_slice, rop_makeSlice, rop_makeFunc, indexAddrA, elems, lenOf, chunk, List.reduceReplicate, List.flatten_cons, List.flatten_nil, freeze_slc, freeze2_slc, freeze1_slc, frzE_some, freeze1_emp, freeze_emp, freeze2_emp, freeze_nilS, freeze2_nilS, freeze1_nilS, freeze_vec, freeze2_vec, freeze1_vec, Int.toNat_zero, Int.toNat_one, Int.reduceToNat, Int.cast_ofNat_Int]
    refine hp _ _ _ ?_ (.inr ⟨h + 1, ?_, ?_, ?_⟩)
    · simp only [upd_app, Nat.reduceEqDiff, ↓reduceIte]
    · simp only [upd_app, Nat.reduceEqDiff, ↓reduceIte, List.length_append, List.length_singleton]
    · omega
    · simp only [upd_app, ↓reduceIte]

theorem pn_all : ∀ (m : Nat) (acc : Bytes), m ≤ 9007199254740991 → acc.length + (numB m).length ≤ most → PN (.str (acc ++ numB m)) (m : Int) acc := by
  intro m
  induction m using Nat.strongRecOn with
  | _ m ih =>
    intro acc hm hl
    by_cases h : m < 128
    · rw [numB_lt h] at hl ⊢
      have := pn_exit (n := m) (acc := acc) (by omega) (by omega) hl
      rwa [Int.toNat_natCast] at this
    · rw [numB_ge h] at hl ⊢
      rw [List.length_cons] at hl
      have h1 := ih (m / 128) (by omega) (acc ++ [UInt8.ofNat (m % 128 + 128)]) (by omega) (by rw [List.length_append, List.length_singleton]; omega)
      rw [List.append_assoc] at h1
      refine pn_step (by omega) (by omega) (by omega) ?_
      have e1 : (m : Int) / 128 = ((m / 128 : Nat) : Int) := by omega
      have e2 : ((m : Int) % 128 + 128).toNat = m % 128 + 128 := by omega
      rw [e1, e2]
      exact h1

theorem Num_ok (n : Int) : PCall Cx 13 [.int .i64 n] (.str (numS n)) := by
  refine pcall_run (noext _) body13 ?_
  by_cases h0 : n < 0
  · have e : numS n = [] := by unfold numS; rw [if_pos (.inl h0)]
    rw [e]
    simp only [h0, n13_0, n13_1, n13_2, n13_3, n13_4, n13_5, n13_6, n13_7, n13_8, n13_9, n13_10, n13_11, n13_12, n13_13, n13_14, n13_15, n13_16, n13_17, n13_18, n13_19, n13_20, n13_21, n13_22, n13_23, n13_24, n13_25, n13_26, n13_27, o13_1, o13_4, o13_7, o13_11, o13_17, o13_23, o13_24, o13_26, res13, TT_3, TT_4, TT_5, TT_9, TT_22, TT_27, TT_34, TT_36, TT_38, TT_39, TT_40, TT_42, TT_54, TT_66, ro_cons, ro_nil, ro_guardC, runGuard_bool, runGuard_undef, rop_assign, rop_move, rop_binOp, rop_unOp, rop_pick, rop_box, rop_alloc, rop_build, rop_field, rop_fieldAddr, rop_load, rop_store, rop_convert, rop_extract, rop_nilCheck, rop_builtinC, rop_callC, rop_callC, runA_fn, runB_some, runV_some, runVH_some, runCond_bool, primP, primM, ev, evs, parts_, ofConst, fltOf_0, bin, un, intBin, putA, enterT, upd_app, decide_true, decide_false, Nat.reduceEqDiff, Nat.reduceAdd, Nat.reduceMul, Nat.reduceLeDiff, Nat.reduceLT, Nat.zero_add, Bool.false_eq_true, Bool.not_true, Bool.not_false, ↓reduceIte, reduceCtorEq, List.getElem?_cons_zero, List.getElem?_cons_succ, List.getElem?_nil, Option.getD_some, Option.map_some, RunRes, resultsA, oneOf, freeze_int, freeze_bool, freeze_str, freeze_flt, freeze_cpx, freeze_agg, freeze_tuple, freeze2_int, freeze2_bool, freeze2_agg, freeze2_cpx, freeze2_flt, freeze1_int, freeze1_bool, freeze1_str, mapO_nil, mapO_cons, consO_some, AV.plain, AV.cells, AHeap.push, AHeap.set, AHeap.empty, fieldOf, loadA, storeA, BX.part, TK.isAgg, convA, builtinA, inertB, builtinP, buildA, fillA, splice, List.length_cons, List.length_nil, List.take_succ_cons, List.take_zero, List.take_nil, List.drop_succ_cons, List.drop_zero, List.drop_nil, List.cons_append, List.nil_append, List.append_nil, List.set_cons_zero, List.set_cons_succ, true_and, and_true, and_self, eqv, cellsEq, Option.bind_some, sizeT, dyn_nil, dyn_end, dyn_cons, dop_move, dop_assign, dop_build, dop_nilCheck, dop_fieldAddr, dop_field, dop_indexAddr, dop_binOp, dop_extract, dop_load, dop_store, dop_alloc, dop_box, dop_buildSlice, dynV_some, chk_nil, chk_cons, apart_ptr, adT, ldT, fwT, bne_iff_ne, ne_eq, not_false_eq_true, not_true_eq_false, Nat.le_refl, Nat.add_zero, Bool.true_and, Bool.and_true, Bool.false_and, Bool.and_false, Nat.reduceBeqDiff, Nat.reduceBneDiff, Int.reduceBNe, Int.reduceBEq, Int.reduceEq, Int.reduceLT, Int.reduceLE, Int.reduceAdd, Int.reduceSub, Int.reduceMul, Int.reduceNeg, beq_self_eq_true, bne_self_eq_false, strBin, rop_indexAddr, rop_buildSlice, rop_index, rop_slice, rop_makeSlice, rop_makeFunc, indexAddrA, elems, lenOf, chunk, List.reduceReplicate, List.flatten_cons, List.flatten_nil, freeze_slc, freeze2_slc, freeze1_slc, frzE_some, freeze1_emp, freeze_emp, freeze2_emp, freeze_nilS, freeze2_nilS, freeze1_nilS, freeze_vec, freeze2_vec, freeze1_vec, Int.toNat_zero, Int.toNat_one, Int.reduceToNat, Int.cast_ofNat_Int]
  by_cases h1 : 9007199254740991 < n
  · have e : numS n = [] := by unfold numS; rw [if_pos (.inr h1)]
    rw [e]
    simp only [h0, h1, n13_0, n13_1, n13_2, n13_3, n13_4, n13_5, n13_6, n13_7, n13_8, n13_9, n13_10, n13_11, n13_12, n13_13, n13_14, n13_15, n13_16, n13_17, n13_18, n13_19, n13_20, n13_21, n13_22, n13_23, n13_24, n13_25, n13_26, n13_27, o13_1, o13_4, o13_7, o13_11, o13_17, o13_23, o13_24, o13_26, res13, TT_3, TT_4, TT_5, TT_9, TT_22, TT_27, TT_34, TT_36, TT_38, TT_39, TT_40, TT_42, TT_54, TT_66, ro_cons, ro_nil, ro_guardC, runGuard_bool, runGuard_undef, rop_assign, rop_move, rop_binOp, rop_unOp, rop_pick, rop_box, rop_alloc, rop_build, rop_field, rop_fieldAddr, rop_load, rop_store, rop_convert, rop_extract, rop_nilCheck, rop_builtinC, rop_callC, rop_callC, runA_fn, runB_some, runV_some, runVH_some, runCond_bool, primP, primM, ev, evs, parts_, ofConst, fltOf_0, bin, un, intBin, putA, enterT, upd_app, decide_true, decide_false, Nat.reduceEqDiff, Nat.reduceAdd, Nat.reduceMul, Nat.reduceLeDiff, Nat.reduceLT, Nat.zero_add, Bool.false_eq_true, Bool.not_true, Bool.not_false, ↓reduceIte, reduceCtorEq, List.getElem?_cons_zero, List.getElem?_cons_succ, List.getElem?_nil, Option.getD_some, Option.map_some, RunRes, resultsA, oneOf, freeze_int, freeze_bool, freeze_str, freeze_flt, freeze_cpx, freeze_agg, freeze_tuple, freeze2_int, freeze2_bool, freeze2_agg, freeze2_cpx, freeze2_flt, freeze1_int, freeze1_bool, freeze1_str, mapO_nil, mapO_cons, consO_some, AV.plain, AV.cells, AHeap.push, AHeap.set, AHeap.empty, fieldOf, loadA, storeA, BX.part, TK.isAgg, convA, builtinA, inertB, builtinP, buildA, fillA, splice, List.length_cons, List.length_nil, List.take_succ_cons, List.take_zero, List.take_nil, List.drop_succ_cons, List.drop_zero, List.drop_nil, List.cons_append, List.nil_append, List.append_nil, List.set_cons_zero, List.set_cons_succ, true_and, and_true, and_self, eqv, cellsEq, Option.bind_some, sizeT, dyn_nil, dyn_end, dyn_cons, dop_move, dop_assign, dop_build, dop_nilCheck, dop_fieldAddr, dop_field, dop_indexAddr, dop_binOp, dop_extract, dop_load, dop_store, dop_alloc, dop_box, dop_buildSlice, dynV_some, chk_nil, chk_cons, apart_ptr, adT, ldT, fwT, bne_iff_ne, ne_eq, not_false_eq_true, not_true_eq_false, Nat.le_refl, Nat.add_zero, Bool.true_and, Bool.and_true, Bool.false_and, Bool.and_false, Nat.reduceBeqDiff, Nat.reduceBneDiff, Int.reduceBNe, Int.reduceBEq, Int.reduceEq, Int.reduceLT, Int.reduceLE, Int.reduceAdd, Int.reduceSub, Int.reduceMul, Int.reduceNeg, beq_self_eq_true, bne_self_eq_false, strBin, rop_indexAddr, rop_buildSlice, rop_index, rop_slice, rop_makeSlice, rop_makeFunc, indexAddrA, elems, lenOf, chunk, List.reduceReplicate, List.flatten_cons, List.flatten_nil, freeze_slc, freeze2_slc, freeze1_slc, frzE_some, freeze1_emp, freeze_emp, freeze2_emp, freeze_nilS, freeze2_nilS, freeze1_nilS, freeze_vec, freeze2_vec, freeze1_vec, Int.toNat_zero, Int.toNat_one, Int.reduceToNat, Int.cast_ofNat_Int]
  rw [numS_nat (by omega) (by omega)]
  have hp : PN (.str (numB n.toNat)) n [] := by
    have hl := numB_len8 (k := 7) (n := n.toNat) (by omega)
    have := pn_all n.toNat [] (by omega) (by unfold most; rw [List.length_nil]; omega)
    rwa [show ((n.toNat : Nat) : Int) = n by omega] at this
  simp only [h0, h1, n13_0, n13_1, n13_2, n13_3, n13_4, n13_5, n13_6, n13_7, n13_8, n13_9, n13_10, n13_11, n13_12, n13_13, n13_14, n13_16, n13_17, n13_18, n13_19, n13_20, n13_21, n13_22, n13_23, n13_24, n13_26, n13_27, o13_1, o13_4, o13_7, o13_11, o13_17, o13_23, o13_24, o13_26, res13, TT_3, TT_4, TT_5, TT_9, TT_22, TT_27, TT_34, TT_36, TT_38, TT_39, TT_40, TT_42, TT_54, TT_66, ro_cons, ro_nil, ro_guardC, runGuard_bool, runGuard_undef, rop_assign, rop_move, rop_binOp, rop_unOp, rop_pick, rop_box, rop_alloc, rop_build, rop_field, rop_fieldAddr, rop_load, rop_store, rop_convert, rop_extract, rop_nilCheck, rop_builtinC, rop_callC, rop_callC, runA_fn, runB_some, runV_some, runVH_some, runCond_bool, primP, primM, ev, evs, parts_, ofConst, fltOf_0, bin, un, intBin, putA, enterT, upd_app, decide_true, decide_false, Nat.reduceEqDiff, Nat.reduceAdd, Nat.reduceMul, Nat.reduceLeDiff, Nat.reduceLT, Nat.zero_add, Bool.false_eq_true, Bool.not_true, Bool.not_false, ↓reduceIte, reduceCtorEq, List.getElem?_cons_zero, List.getElem?_cons_succ, List.getElem?_nil, Option.getD_some, Option.map_some, RunRes, resultsA, oneOf, freeze_int, freeze_bool, freeze_str, freeze_flt, freeze_cpx, freeze_agg, freeze_tuple, freeze2_int, freeze2_bool, freeze2_agg, freeze2_cpx, freeze2_flt, freeze1_int, freeze1_bool, freeze1_str, mapO_nil, mapO_cons, consO_some, AV.plain, AV.cells, AHeap.push, AHeap.set, AHeap.empty, fieldOf, loadA, storeA, BX.part, TK.isAgg, convA, builtinA, inertB, builtinP, buildA, fillA, splice, List.length_cons, List.length_nil, List.take_succ_cons, List.take_zero, List.take_nil, List.drop_succ_cons, List.drop_zero, List.drop_nil, List.cons_append, List.nil_append, List.append_nil, List.set_cons_zero, List.set_cons_succ, true_and, and_true, and_self, eqv, cellsEq, Option.bind_some, sizeT, dyn_nil, dyn_end, dyn_cons, dop_move, dop_assign, dop_build, dop_nilCheck, dop_fieldAddr, dop_field, dop_indexAddr, dop_binOp, dop_extract, dop_load, dop_store, dop_alloc, dop_box, dop_buildSlice, dynV_some, chk_nil, chk_cons, apart_ptr, adT, ldT, fwT, bne_iff_ne, ne_eq, not_false_eq_true, not_true_eq_false, Nat.le_refl, Nat.add_zero, Bool.true_and, Bool.and_true, Bool.false_and, Bool.and_false, Nat.reduceBeqDiff, Nat.reduceBneDiff, Int.reduceBNe, Int.reduceBEq, Int.reduceEq, Int.reduceLT, Int.reduceLE, Int.reduceAdd, Int.reduceSub, Int.reduceMul, Int.reduceNeg, beq_self_eq_true, bne_self_eq_false, strBin, rop_indexAddr, rop_buildSlice, rop_index, rop_slice, rop_makeSlice, rop_makeFunc, indexAddrA, elems, lenOf, chunk, List.reduceReplicate, List.flatten_cons, List.flatten_nil, freeze_slc, freeze2_slc, freeze1_slc, frzE_some, freeze1_emp, freeze_emp, freeze2_emp, freeze_nilS, freeze2_nilS, freeze1_nilS, freeze_vec, freeze2_vec, freeze1_vec, Int.toNat_zero, Int.toNat_one, Int.reduceToNat, Int.cast_ofNat_Int]
  refine hp _ _ _ ?_ (.inl ⟨?_, rfl⟩)
  all_goals simp only [upd_app, enterT, List.getElem?_cons_zero, Option.getD_some, Nat.reduceEqDiff, ↓reduceIte]
end Go.Proofs.Ytgallgjldfabfaa.G
