import Derived.Test.YtkedlkcknhinoaaKREPlays5
import Derived.Test.YtkedlkcknhinoaaKREPlays6
import Derived.Test.YtkedlkcknhinoaaKREPlays2
import Derived.WalkKit
import Derived.ProofKit
import Derived.OpenShut
import Derived.ShutString
import Derived.ChangeOld
import Derived.Below
import Derived.DataReads
import Derived.ChangeArms
import Derived.Test.YtkedlkcknhinoaaKREPlays3
namespace Go.Proofs.Ytkedlkcknhinoaa.G
open Go.BX
set_option linter.unusedSimpArgs false
set_option linter.unusedVariables false
theorem gRefRight_ok (x y : Int) : PCall Cx 56 [spot x y] (.bool (inR x && inR y)) := by
  refine pcall_run (noext _) body56 ?_
  by_cases h1 : -16777216 ≤ x <;> by_cases h2 : x ≤ 16777216 <;> by_cases h3 : -16777216 ≤ y <;>
  simp only [h1, h2, h3, inR, n56_0, n56_1, n56_2, n56_3, n56_4, o56_1, o56_3, res56, TT_3, TT_4, TT_5, TT_9, TT_21, TT_22, TT_25, TT_33, TT_35, TT_37, TT_39, TT_47, TT_52, TT_56, TT_59, TT_60, TT_62, TT_63, TT_65, TT_73, TT_77, TT_82, TT_84, bb, primP, primM, ev, evs, parts_, ofConst, bin, un, intBin, putA, enterT, Nat.reduceEqDiff, Nat.reduceAdd, Nat.reduceMul, Nat.reduceLeDiff, Nat.reduceLT, ↓reduceIte, reduceCtorEq, RunRes, resultsA, oneOf, AV.plain, AV.cells, AHeap.push, AHeap.set, AHeap.empty, fieldOf, loadA, storeA, BX.part, TK.isAgg, convA, builtinA, inertB, builtinP, buildA, fillA, splice, eqv, cellsEq, sizeT, adT, ldT, fwT, Nat.reduceBeqDiff, Nat.reduceBneDiff, Int.reduceBNe, Int.reduceBEq, Int.reduceEq, Int.reduceLT, Int.reduceLE, Int.reduceAdd, Int.reduceSub, Int.reduceMul, Int.reduceNeg, strBin, indexAddrA, elems, lenOf, chunk, List.reduceReplicate, Int.reduceToNat]
theorem bneE {α : Type} [BEq α] (a b : α) : (!(a != b)) = (a == b) := by unfold bne; rw [Bool.not_not]
theorem refRight_ok (k n : Int) (s : Bytes) (x y : Int) : PCall Cx 45 [val k n s x y] (.bool (rightV k n s x y)) := by
  refine pcall_run (noext _) body45 ?_
  unfold rightV
  simp only [bneE, Bool.not_not]
  by_cases h0 : k = 0
  · subst h0
    cases h1 : decide (-9007199254740992 ≤ n) with
    | false => simp only [h1, Bool.false_and, run_exit_start, exit_here, exit_code, run_inBlock, n45_0, n45_1, n45_2, n45_3, n45_4, n45_5, n45_6, n45_7, n45_8, n45_9, n45_10, n45_11, n45_12, n45_13, n45_14, n45_15, n45_16, n45_17, n45_18, n45_19, n45_20, n45_21, n45_22, n45_23, n45_24, n45_25, n45_26, n45_27, o45_1, o45_4, o45_7, o45_10, o45_13, o45_16, o45_19, o45_22, o45_26, res45, TT_3, TT_4, TT_5, TT_9, TT_21, TT_22, TT_25, TT_33, TT_35, TT_37, TT_39, TT_47, TT_52, TT_56, TT_59, TT_60, TT_62, TT_63, TT_65, TT_73, TT_77, TT_82, TT_84, bb, primP, primM, ev, evs, parts_, ofConst, bin, un, intBin, putA, enterT, Nat.reduceEqDiff, Nat.reduceAdd, Nat.reduceMul, Nat.reduceLeDiff, Nat.reduceLT, ↓reduceIte, reduceCtorEq, RunRes, resultsA, oneOf, AV.plain, AV.cells, AHeap.push, AHeap.set, AHeap.empty, fieldOf, loadA, storeA, BX.part, TK.isAgg, convA, builtinA, inertB, builtinP, buildA, fillA, splice, eqv, cellsEq, sizeT, adT, ldT, fwT, Nat.reduceBeqDiff, Nat.reduceBneDiff, Int.reduceBNe, Int.reduceBEq, Int.reduceEq, Int.reduceLT, Int.reduceLE, Int.reduceAdd, Int.reduceSub, Int.reduceMul, Int.reduceNeg, strBin, indexAddrA, elems, lenOf, chunk, List.reduceReplicate, Int.reduceToNat]
    | true =>
      cases h2 : decide (n ≤ 9007199254740992) with
      | false => simp only [h1, h2, Bool.false_and, run_exit_start, exit_here, exit_code, run_inBlock, n45_0, n45_1, n45_2, n45_3, n45_4, n45_5, n45_6, n45_7, n45_8, n45_9, n45_10, n45_11, n45_12, n45_13, n45_14, n45_15, n45_16, n45_17, n45_18, n45_19, n45_20, n45_21, n45_22, n45_23, n45_24, n45_25, n45_26, n45_27, o45_1, o45_4, o45_7, o45_10, o45_13, o45_16, o45_19, o45_22, o45_26, res45, TT_3, TT_4, TT_5, TT_9, TT_21, TT_22, TT_25, TT_33, TT_35, TT_37, TT_39, TT_47, TT_52, TT_56, TT_59, TT_60, TT_62, TT_63, TT_65, TT_73, TT_77, TT_82, TT_84, bb, primP, primM, ev, evs, parts_, ofConst, bin, un, intBin, putA, enterT, Nat.reduceEqDiff, Nat.reduceAdd, Nat.reduceMul, Nat.reduceLeDiff, Nat.reduceLT, ↓reduceIte, reduceCtorEq, RunRes, resultsA, oneOf, AV.plain, AV.cells, AHeap.push, AHeap.set, AHeap.empty, fieldOf, loadA, storeA, BX.part, TK.isAgg, convA, builtinA, inertB, builtinP, buildA, fillA, splice, eqv, cellsEq, sizeT, adT, ldT, fwT, Nat.reduceBeqDiff, Nat.reduceBneDiff, Int.reduceBNe, Int.reduceBEq, Int.reduceEq, Int.reduceLT, Int.reduceLE, Int.reduceAdd, Int.reduceSub, Int.reduceMul, Int.reduceNeg, strBin, indexAddrA, elems, lenOf, chunk, List.reduceReplicate, Int.reduceToNat]
      | true =>
        cases h3 : (s == []) <;>
        simp only [h1, h2, h3, Bool.false_and, Bool.true_and, run_exit_start, exit_here, exit_code, run_inBlock, n45_0, n45_1, n45_2, n45_3, n45_4, n45_5, n45_6, n45_7, n45_8, n45_9, n45_10, n45_11, n45_12, n45_13, n45_14, n45_15, n45_16, n45_17, n45_18, n45_19, n45_20, n45_21, n45_22, n45_23, n45_24, n45_25, n45_26, n45_27, o45_1, o45_4, o45_7, o45_10, o45_13, o45_16, o45_19, o45_22, o45_26, res45, TT_3, TT_4, TT_5, TT_9, TT_21, TT_22, TT_25, TT_33, TT_35, TT_37, TT_39, TT_47, TT_52, TT_56, TT_59, TT_60, TT_62, TT_63, TT_65, TT_73, TT_77, TT_82, TT_84, bb, primP, primM, ev, evs, parts_, ofConst, bin, un, intBin, putA, enterT, Nat.reduceEqDiff, Nat.reduceAdd, Nat.reduceMul, Nat.reduceLeDiff, Nat.reduceLT, ↓reduceIte, reduceCtorEq, RunRes, resultsA, oneOf, AV.plain, AV.cells, AHeap.push, AHeap.set, AHeap.empty, fieldOf, loadA, storeA, BX.part, TK.isAgg, convA, builtinA, inertB, builtinP, buildA, fillA, splice, eqv, cellsEq, sizeT, adT, ldT, fwT, Nat.reduceBeqDiff, Nat.reduceBneDiff, Int.reduceBNe, Int.reduceBEq, Int.reduceEq, Int.reduceLT, Int.reduceLE, Int.reduceAdd, Int.reduceSub, Int.reduceMul, Int.reduceNeg, strBin, indexAddrA, elems, lenOf, chunk, List.reduceReplicate, Int.reduceToNat]
  · have e0 : (k == 0) = false := by simpa using h0
    by_cases h1 : k = 1
    · subst h1
      cases h2 : decide ((s.length : Int) ≤ 4096) with
      | false => simp only [h2, Bool.false_and, run_exit_start, exit_here, exit_code, run_inBlock, n45_0, n45_1, n45_2, n45_3, n45_4, n45_5, n45_6, n45_7, n45_8, n45_9, n45_10, n45_11, n45_12, n45_13, n45_14, n45_15, n45_16, n45_17, n45_18, n45_19, n45_20, n45_21, n45_22, n45_23, n45_24, n45_25, n45_26, n45_27, o45_1, o45_4, o45_7, o45_10, o45_13, o45_16, o45_19, o45_22, o45_26, res45, TT_3, TT_4, TT_5, TT_9, TT_21, TT_22, TT_25, TT_33, TT_35, TT_37, TT_39, TT_47, TT_52, TT_56, TT_59, TT_60, TT_62, TT_63, TT_65, TT_73, TT_77, TT_82, TT_84, bb, primP, primM, ev, evs, parts_, ofConst, bin, un, intBin, putA, enterT, Nat.reduceEqDiff, Nat.reduceAdd, Nat.reduceMul, Nat.reduceLeDiff, Nat.reduceLT, ↓reduceIte, reduceCtorEq, RunRes, resultsA, oneOf, AV.plain, AV.cells, AHeap.push, AHeap.set, AHeap.empty, fieldOf, loadA, storeA, BX.part, TK.isAgg, convA, builtinA, inertB, builtinP, buildA, fillA, splice, eqv, cellsEq, sizeT, adT, ldT, fwT, Nat.reduceBeqDiff, Nat.reduceBneDiff, Int.reduceBNe, Int.reduceBEq, Int.reduceEq, Int.reduceLT, Int.reduceLE, Int.reduceAdd, Int.reduceSub, Int.reduceMul, Int.reduceNeg, strBin, indexAddrA, elems, lenOf, chunk, List.reduceReplicate, Int.reduceToNat]
      | true =>
        cases h3 : (n == 0) <;>
        simp only [h2, h3, Bool.false_and, Bool.true_and, run_exit_start, exit_here, exit_code, run_inBlock, n45_0, n45_1, n45_2, n45_3, n45_4, n45_5, n45_6, n45_7, n45_8, n45_9, n45_10, n45_11, n45_12, n45_13, n45_14, n45_15, n45_16, n45_17, n45_18, n45_19, n45_20, n45_21, n45_22, n45_23, n45_24, n45_25, n45_26, n45_27, o45_1, o45_4, o45_7, o45_10, o45_13, o45_16, o45_19, o45_22, o45_26, res45, TT_3, TT_4, TT_5, TT_9, TT_21, TT_22, TT_25, TT_33, TT_35, TT_37, TT_39, TT_47, TT_52, TT_56, TT_59, TT_60, TT_62, TT_63, TT_65, TT_73, TT_77, TT_82, TT_84, bb, primP, primM, ev, evs, parts_, ofConst, bin, un, intBin, putA, enterT, Nat.reduceEqDiff, Nat.reduceAdd, Nat.reduceMul, Nat.reduceLeDiff, Nat.reduceLT, ↓reduceIte, reduceCtorEq, RunRes, resultsA, oneOf, AV.plain, AV.cells, AHeap.push, AHeap.set, AHeap.empty, fieldOf, loadA, storeA, BX.part, TK.isAgg, convA, builtinA, inertB, builtinP, buildA, fillA, splice, eqv, cellsEq, sizeT, adT, ldT, fwT, Nat.reduceBeqDiff, Nat.reduceBneDiff, Int.reduceBNe, Int.reduceBEq, Int.reduceEq, Int.reduceLT, Int.reduceLE, Int.reduceAdd, Int.reduceSub, Int.reduceMul, Int.reduceNeg, strBin, indexAddrA, elems, lenOf, chunk, List.reduceReplicate, Int.reduceToNat]
    · have e1 : (k == 1) = false := by simpa using h1
      by_cases h2 : k = 2
      · subst h2
        cases h3 : (inR x && inR y) with
        | false => simp only [h3, call_pure pure56 rfl (gRefRight_ok x y), Bool.false_and, run_exit_start, exit_here, exit_code, run_inBlock, n45_0, n45_1, n45_2, n45_3, n45_4, n45_5, n45_6, n45_7, n45_8, n45_9, n45_10, n45_11, n45_12, n45_13, n45_14, n45_15, n45_16, n45_17, n45_18, n45_19, n45_20, n45_21, n45_22, n45_23, n45_24, n45_25, n45_26, n45_27, o45_1, o45_4, o45_7, o45_10, o45_13, o45_16, o45_19, o45_22, o45_26, res45, TT_3, TT_4, TT_5, TT_9, TT_21, TT_22, TT_25, TT_33, TT_35, TT_37, TT_39, TT_47, TT_52, TT_56, TT_59, TT_60, TT_62, TT_63, TT_65, TT_73, TT_77, TT_82, TT_84, bb, primP, primM, ev, evs, parts_, ofConst, bin, un, intBin, putA, enterT, Nat.reduceEqDiff, Nat.reduceAdd, Nat.reduceMul, Nat.reduceLeDiff, Nat.reduceLT, ↓reduceIte, reduceCtorEq, RunRes, resultsA, oneOf, AV.plain, AV.cells, AHeap.push, AHeap.set, AHeap.empty, fieldOf, loadA, storeA, BX.part, TK.isAgg, convA, builtinA, inertB, builtinP, buildA, fillA, splice, eqv, cellsEq, sizeT, adT, ldT, fwT, Nat.reduceBeqDiff, Nat.reduceBneDiff, Int.reduceBNe, Int.reduceBEq, Int.reduceEq, Int.reduceLT, Int.reduceLE, Int.reduceAdd, Int.reduceSub, Int.reduceMul, Int.reduceNeg, strBin, indexAddrA, elems, lenOf, chunk, List.reduceReplicate, Int.reduceToNat]
        | true =>
          cases h4 : (n == 0) <;>
          simp only [h3, h4, call_pure pure56 rfl (gRefRight_ok x y), Bool.false_and, Bool.true_and, run_exit_start, exit_here, exit_code, run_inBlock, n45_0, n45_1, n45_2, n45_3, n45_4, n45_5, n45_6, n45_7, n45_8, n45_9, n45_10, n45_11, n45_12, n45_13, n45_14, n45_15, n45_16, n45_17, n45_18, n45_19, n45_20, n45_21, n45_22, n45_23, n45_24, n45_25, n45_26, n45_27, o45_1, o45_4, o45_7, o45_10, o45_13, o45_16, o45_19, o45_22, o45_26, res45, TT_3, TT_4, TT_5, TT_9, TT_21, TT_22, TT_25, TT_33, TT_35, TT_37, TT_39, TT_47, TT_52, TT_56, TT_59, TT_60, TT_62, TT_63, TT_65, TT_73, TT_77, TT_82, TT_84, bb, primP, primM, ev, evs, parts_, ofConst, bin, un, intBin, putA, enterT, Nat.reduceEqDiff, Nat.reduceAdd, Nat.reduceMul, Nat.reduceLeDiff, Nat.reduceLT, ↓reduceIte, reduceCtorEq, RunRes, resultsA, oneOf, AV.plain, AV.cells, AHeap.push, AHeap.set, AHeap.empty, fieldOf, loadA, storeA, BX.part, TK.isAgg, convA, builtinA, inertB, builtinP, buildA, fillA, splice, eqv, cellsEq, sizeT, adT, ldT, fwT, Nat.reduceBeqDiff, Nat.reduceBneDiff, Int.reduceBNe, Int.reduceBEq, Int.reduceEq, Int.reduceLT, Int.reduceLE, Int.reduceAdd, Int.reduceSub, Int.reduceMul, Int.reduceNeg, strBin, indexAddrA, elems, lenOf, chunk, List.reduceReplicate, Int.reduceToNat]
      · have e2 : (k == 2) = false := by simpa using h2
        simp only [h0, h1, h2, e0, e1, e2, run_exit_start, exit_here, exit_code, run_inBlock, n45_0, n45_1, n45_2, n45_3, n45_4, n45_5, n45_6, n45_7, n45_8, n45_9, n45_10, n45_11, n45_12, n45_13, n45_14, n45_15, n45_16, n45_17, n45_18, n45_19, n45_20, n45_21, n45_22, n45_23, n45_24, n45_25, n45_26, n45_27, o45_1, o45_4, o45_7, o45_10, o45_13, o45_16, o45_19, o45_22, o45_26, res45, TT_3, TT_4, TT_5, TT_9, TT_21, TT_22, TT_25, TT_33, TT_35, TT_37, TT_39, TT_47, TT_52, TT_56, TT_59, TT_60, TT_62, TT_63, TT_65, TT_73, TT_77, TT_82, TT_84, bb, primP, primM, ev, evs, parts_, ofConst, bin, un, intBin, putA, enterT, Nat.reduceEqDiff, Nat.reduceAdd, Nat.reduceMul, Nat.reduceLeDiff, Nat.reduceLT, ↓reduceIte, reduceCtorEq, RunRes, resultsA, oneOf, AV.plain, AV.cells, AHeap.push, AHeap.set, AHeap.empty, fieldOf, loadA, storeA, BX.part, TK.isAgg, convA, builtinA, inertB, builtinP, buildA, fillA, splice, eqv, cellsEq, sizeT, adT, ldT, fwT, Nat.reduceBeqDiff, Nat.reduceBneDiff, Int.reduceBNe, Int.reduceBEq, Int.reduceEq, Int.reduceLT, Int.reduceLE, Int.reduceAdd, Int.reduceSub, Int.reduceMul, Int.reduceNeg, strBin, indexAddrA, elems, lenOf, chunk, List.reduceReplicate, Int.reduceToNat]
theorem hex_ok (d : Nat) (hd : d < 16) : PCall Cx 48 [.int .i64 (d : Int)] (.str [hexB d]) := by
  refine pcall_run (noext _) body48 ?_
  unfold hexB
  by_cases h : d < 10
  · have h' : (d : Int) < 10 := by omega
    have w1 : IntKind.i64.wrap (48 + (d : Int)) = 48 + (d : Int) := wr64 (by omega) (by omega)
    have w2 := wr8_of (n := 48 + (d : Int)) (by omega) (by omega)
    have hb : BX.byteOf [AV.int .u8 (((UInt8.ofNat (48 + (d : Int)).toNat).toNat : Nat) : Int)] = some (UInt8.ofNat (48 + d)) := by
      rw [u8_of (by omega) (by omega)]
      show some (UInt8.ofNat (48 + (d : Int)).toNat) = _
      congr 2
    simp only [h, h', w1, w2, hb, bytesOf, n48_0, n48_1, n48_2, n48_3, n48_4, n48_5, n48_6, n48_7, n48_8, n48_9, n48_10, n48_11, n48_12, o48_1, o48_4, o48_7, o48_11, res48, TT_3, TT_4, TT_5, TT_9, TT_21, TT_22, TT_25, TT_33, TT_35, TT_37, TT_39, TT_47, TT_52, TT_56, TT_59, TT_60, TT_62, TT_63, TT_65, TT_73, TT_77, TT_82, TT_84, bb, primP, primM, ev, evs, parts_, ofConst, bin, un, intBin, putA, enterT, Nat.reduceEqDiff, Nat.reduceAdd, Nat.reduceMul, Nat.reduceLeDiff, Nat.reduceLT, ↓reduceIte, reduceCtorEq, RunRes, resultsA, oneOf, AV.plain, AV.cells, AHeap.push, AHeap.set, AHeap.empty, fieldOf, loadA, storeA, BX.part, TK.isAgg, convA, builtinA, inertB, builtinP, buildA, fillA, splice, eqv, cellsEq, sizeT, adT, ldT, fwT, Nat.reduceBeqDiff, Nat.reduceBneDiff, Int.reduceBNe, Int.reduceBEq, Int.reduceEq, Int.reduceLT, Int.reduceLE, Int.reduceAdd, Int.reduceSub, Int.reduceMul, Int.reduceNeg, strBin, indexAddrA, elems, lenOf, chunk, List.reduceReplicate, Int.reduceToNat]
  · have h' : ¬ (d : Int) < 10 := by omega
    have w1 : IntKind.i64.wrap (97 + (d : Int)) = 97 + (d : Int) := wr64 (by omega) (by omega)
    have w3 : IntKind.i64.wrap (97 + (d : Int) - 10) = 97 + (d : Int) - 10 := wr64 (by omega) (by omega)
    have w2 := wr8_of (n := 97 + (d : Int) - 10) (by omega) (by omega)
    have hb : BX.byteOf [AV.int .u8 (((UInt8.ofNat (97 + (d : Int) - 10).toNat).toNat : Nat) : Int)] = some (UInt8.ofNat (87 + d)) := by
      rw [u8_of (by omega) (by omega)]
      show some (UInt8.ofNat (97 + (d : Int) - 10).toNat) = _
      congr 2; omega
    simp only [h, h', w1, w2, w3, hb, bytesOf, n48_0, n48_1, n48_2, n48_3, n48_4, n48_5, n48_6, n48_7, n48_8, n48_9, n48_10, n48_11, n48_12, o48_1, o48_4, o48_7, o48_11, res48, TT_3, TT_4, TT_5, TT_9, TT_21, TT_22, TT_25, TT_33, TT_35, TT_37, TT_39, TT_47, TT_52, TT_56, TT_59, TT_60, TT_62, TT_63, TT_65, TT_73, TT_77, TT_82, TT_84, bb, primP, primM, ev, evs, parts_, ofConst, bin, un, intBin, putA, enterT, Nat.reduceEqDiff, Nat.reduceAdd, Nat.reduceMul, Nat.reduceLeDiff, Nat.reduceLT, ↓reduceIte, reduceCtorEq, RunRes, resultsA, oneOf, AV.plain, AV.cells, AHeap.push, AHeap.set, AHeap.empty, fieldOf, loadA, storeA, BX.part, TK.isAgg, convA, builtinA, inertB, builtinP, buildA, fillA, splice, eqv, cellsEq, sizeT, adT, ldT, fwT, Nat.reduceBeqDiff, Nat.reduceBneDiff, Int.reduceBNe, Int.reduceBEq, Int.reduceEq, Int.reduceLT, Int.reduceLE, Int.reduceAdd, Int.reduceSub, Int.reduceMul, Int.reduceNeg, strBin, indexAddrA, elems, lenOf, chunk, List.reduceReplicate, Int.reduceToNat]
theorem slice_at {s : Bytes} {i : Nat} {c : UInt8} (h : s[i]? = some c) : sliceA Cx 9 (.str s) (some (.int .i64 (i : Int))) (some (.int .i64 ((i + 1 : Nat) : Int))) none = some (.str [c]) := by
  have hlt := (List.getElem?_eq_some_iff.mp h).1
  have hc : s[i] = c := (List.getElem?_eq_some_iff.mp h).2
  unfold sliceA
  rw [TT_9]
  show (bnds _ _ _).map _ = _
  unfold bnds bound
  simp only
  rw [if_pos (by omega)]
  simp only [Int.toNat_natCast]
  rw [if_pos (by omega)]
  simp only [Option.map_some]
  congr 2
  rw [List.take_add_one, h, List.drop_append_of_le_length (by simp; omega)]
  rw [List.drop_of_length_le (by simp; omega)]
  rfl
def PW (s : Bytes) (r : AV) (i : Nat) (acc : Bytes) : Prop :=
  ∀ (T : Nat → AV) (H : AHeap), T 1 = .ptr 0 5 0 0 → T 3 = .str acc → T 4 = .int .i64 (i : Int) → H.at_ 0 = .cells 35 5 [[.int .i64 1, .int .i64 0, .str s, .int .i64 0, .int .i64 0]] →
    Run Cx 33 T [] none [.inLoop c33_26, .inBlock 1, .code c33_40] H (fun r0 H' => BX.freeze H' r0 = some r)
theorem pw_end {s acc : Bytes} (hl : acc.length ≤ 1000000) : PW s (.str (acc ++ [34])) s.length acc := by
  intro T H t1 t3 t4 a0
  rw [run_inLoop]
  have h0 : ((s.length : Int) < (s.length : Int)) = False := by simp
  have g1 : (acc.length + 1 ≤ 9223372036854775807) = True := eq_true (by omega)
  simp only [t1, t3, t4, a0, h0, g1, List.length_singleton, run_exit_start, exit_here, exit_code, exit_inLoop, run_inBlock, n33_0, n33_1, n33_2, n33_3, n33_4, n33_5, n33_6, n33_7, n33_8, n33_9, n33_10, n33_11, n33_12, n33_13, n33_14, n33_15, n33_16, n33_17, n33_18, n33_19, n33_20, n33_21, n33_22, n33_23, n33_24, n33_25, n33_26, n33_27, n33_28, n33_29, n33_30, n33_31, n33_32, n33_33, n33_34, n33_35, n33_36, n33_37, n33_38, n33_39, n33_40, n33_41, n33_42, o33_1, o33_4, o33_7, o33_10, o33_13, o33_16, o33_20, o33_23, o33_28, o33_35, o33_37, o33_38, o33_39, o33_41, res33, TT_3, TT_4, TT_5, TT_9, TT_21, TT_22, TT_25, TT_33, TT_35, TT_37, TT_39, TT_47, TT_52, TT_56, TT_59, TT_60, TT_62, TT_63, TT_65, TT_73, TT_77, TT_82, TT_84, bb, primP, primM, ev, evs, parts_, ofConst, bin, un, intBin, putA, enterT, Nat.reduceEqDiff, Nat.reduceAdd, Nat.reduceMul, Nat.reduceLeDiff, Nat.reduceLT, ↓reduceIte, reduceCtorEq, RunRes, resultsA, oneOf, AV.plain, AV.cells, AHeap.push, AHeap.set, AHeap.empty, fieldOf, loadA, storeA, BX.part, TK.isAgg, convA, builtinA, inertB, builtinP, buildA, fillA, splice, eqv, cellsEq, sizeT, adT, ldT, fwT, Nat.reduceBeqDiff, Nat.reduceBneDiff, Int.reduceBNe, Int.reduceBEq, Int.reduceEq, Int.reduceLT, Int.reduceLE, Int.reduceAdd, Int.reduceSub, Int.reduceMul, Int.reduceNeg, strBin, indexAddrA, elems, lenOf, chunk, List.reduceReplicate, Int.reduceToNat]
theorem pw_step {s acc : Bytes} {i : Nat} {c : UInt8} {r : AV} (hi : s[i]? = some c) (hs : s.length ≤ 100000) (hl : acc.length ≤ 1000000) (hp : PW s r (i + 1) (acc ++ q1 c)) : PW s r i acc := by
  intro T H t1 t3 t4 a0
  rw [run_inLoop]
  have hlt : i < s.length := (List.getElem?_eq_some_iff.mp hi).1
  have h0 : ((i : Int) < (s.length : Int)) = True := eq_true (by omega)
  have w1 : IntKind.i64.wrap ((i : Int) + 1) = ((i + 1 : Nat) : Int) := by rw [wr64 (by omega) (by omega)]; omega
  have hcu := c.toNat_lt
  have hc0 : (0 : Int) ≤ (i : Int) := by omega
  have hpl := refPlain_ok (c.toNat : Int)
  unfold q1 at hp
  by_cases hc : plainB c = true
  · have hc' : plainI (c.toNat : Int) = true := hc
    rw [if_pos hc] at hp
    have sl := slice_at hi
    have g1 : (acc.length + 1 ≤ 9223372036854775807) = True := eq_true (by omega)
    simp only [t1, t3, t4, a0, h0, hi, hc', hc0, w1, sl, g1, evo, indexA, Int.toNat_natCast, List.length_singleton, call_pure pure47 rfl hpl, run_exit_start, exit_here, exit_code, exit_inLoop, run_inBlock, n33_0, n33_1, n33_2, n33_3, n33_4, n33_5, n33_6, n33_7, n33_8, n33_9, n33_10, n33_11, n33_12, n33_13, n33_14, n33_15, n33_16, n33_17, n33_18, n33_19, n33_20, n33_21, n33_22, n33_23, n33_24, n33_25, n33_26, n33_27, n33_28, n33_29, n33_30, n33_31, n33_32, n33_33, n33_34, n33_35, n33_36, n33_37, n33_38, n33_39, n33_40, n33_41, n33_42, o33_1, o33_4, o33_7, o33_10, o33_13, o33_16, o33_20, o33_23, o33_28, o33_35, o33_37, o33_38, o33_39, o33_41, res33, TT_3, TT_4, TT_5, TT_9, TT_21, TT_22, TT_25, TT_33, TT_35, TT_37, TT_39, TT_47, TT_52, TT_56, TT_59, TT_60, TT_62, TT_63, TT_65, TT_73, TT_77, TT_82, TT_84, bb, primP, primM, ev, evs, parts_, ofConst, bin, un, intBin, putA, enterT, Nat.reduceEqDiff, Nat.reduceAdd, Nat.reduceMul, Nat.reduceLeDiff, Nat.reduceLT, ↓reduceIte, reduceCtorEq, RunRes, resultsA, oneOf, AV.plain, AV.cells, AHeap.push, AHeap.set, AHeap.empty, fieldOf, loadA, storeA, BX.part, TK.isAgg, convA, builtinA, inertB, builtinP, buildA, fillA, splice, eqv, cellsEq, sizeT, adT, ldT, fwT, Nat.reduceBeqDiff, Nat.reduceBneDiff, Int.reduceBNe, Int.reduceBEq, Int.reduceEq, Int.reduceLT, Int.reduceLE, Int.reduceAdd, Int.reduceSub, Int.reduceMul, Int.reduceNeg, strBin, indexAddrA, elems, lenOf, chunk, List.reduceReplicate, Int.reduceToNat]
    refine hp _ _ ?_ ?_ ?_ ?_
    all_goals first | assumption | simp only [upd_app, t1, t3, t4, Nat.reduceEqDiff, ↓reduceIte]
  · have hc' : plainI (c.toNat : Int) = false := by
      show plainB c = false
      simpa using hc
    rw [if_neg hc] at hp
    obtain ⟨t1', t2'⟩ := td16 (n := c.toNat) (by omega)
    have z16 : ((16 : Int) = 0) = False := by simp
    have w0 : IntKind.i64.wrap (c.toNat : Int) = (c.toNat : Int) := wr64 (by omega) (by omega)
    have w2 : IntKind.i64.wrap ((c.toNat : Int) / 16) = ((c.toNat / 16 : Nat) : Int) := by rw [wr64 (by omega) (by omega)]; omega
    have w3 : (c.toNat : Int) % 16 = ((c.toNat % 16 : Nat) : Int) := by omega
    have x1 := hex_ok (c.toNat / 16) (by omega)
    have x2 := hex_ok (c.toNat % 16) (by omega)
    have g1 : (acc.length + 1 ≤ 9223372036854775807) = True := eq_true (by omega)
    have g2 : ((acc ++ [92]).length + 1 ≤ 9223372036854775807) = True := eq_true (by rw [List.length_append, List.length_singleton]; omega)
    have g3 : ((acc ++ [92] ++ [hexB (c.toNat / 16)]).length + 1 ≤ 9223372036854775807) = True := eq_true (by simp only [List.length_append, List.length_singleton]; omega)
    have ea : acc ++ [92] ++ [hexB (c.toNat / 16)] ++ [hexB (c.toNat % 16)] = acc ++ [92, hexB (c.toNat / 16), hexB (c.toNat % 16)] := by simp
    simp only [t1, t3, t4, a0, h0, hi, hc', hc0, w0, w1, w2, w3, t1', t2', z16, g1, g2, g3, ea, evo, indexA, Int.toNat_natCast, List.length_singleton, call_pure pure47 rfl hpl, call_pure pure48 rfl x1, call_pure pure48 rfl x2, run_exit_start, exit_here, exit_code, exit_inLoop, run_inBlock, n33_0, n33_1, n33_2, n33_3, n33_4, n33_5, n33_6, n33_7, n33_8, n33_9, n33_10, n33_11, n33_12, n33_13, n33_14, n33_15, n33_16, n33_17, n33_18, n33_19, n33_20, n33_21, n33_22, n33_23, n33_24, n33_25, n33_26, n33_27, n33_28, n33_29, n33_30, n33_31, n33_32, n33_33, n33_34, n33_35, n33_36, n33_37, n33_38, n33_39, n33_40, n33_41, n33_42, o33_1, o33_4, o33_7, o33_10, o33_13, o33_16, o33_20, o33_23, o33_28, o33_35, o33_37, o33_38, o33_39, o33_41, res33, TT_3, TT_4, TT_5, TT_9, TT_21, TT_22, TT_25, TT_33, TT_35, TT_37, TT_39, TT_47, TT_52, TT_56, TT_59, TT_60, TT_62, TT_63, TT_65, TT_73, TT_77, TT_82, TT_84, bb, primP, primM, ev, evs, parts_, ofConst, bin, un, intBin, putA, enterT, Nat.reduceEqDiff, Nat.reduceAdd, Nat.reduceMul, Nat.reduceLeDiff, Nat.reduceLT, ↓reduceIte, reduceCtorEq, RunRes, resultsA, oneOf, AV.plain, AV.cells, AHeap.push, AHeap.set, AHeap.empty, fieldOf, loadA, storeA, BX.part, TK.isAgg, convA, builtinA, inertB, builtinP, buildA, fillA, splice, eqv, cellsEq, sizeT, adT, ldT, fwT, Nat.reduceBeqDiff, Nat.reduceBneDiff, Int.reduceBNe, Int.reduceBEq, Int.reduceEq, Int.reduceLT, Int.reduceLE, Int.reduceAdd, Int.reduceSub, Int.reduceMul, Int.reduceNeg, strBin, indexAddrA, elems, lenOf, chunk, List.reduceReplicate, Int.reduceToNat]
    refine hp _ _ ?_ ?_ ?_ ?_
    all_goals first | assumption | simp only [upd_app, t1, t3, t4, Nat.reduceEqDiff, ↓reduceIte]
theorem pw_all {s : Bytes} (hs : s.length ≤ 100000) : ∀ (j i : Nat) (acc : Bytes), i + j = s.length → acc.length ≤ 1 + 3 * i → PW s (.str (acc ++ (quoM (s.drop i) ++ [34]))) i acc
  | 0, i, acc, hij, hl => by
    have e : i = s.length := by omega
    subst e
    rw [List.drop_length]
    exact pw_end (by omega)
  | j + 1, i, acc, hij, hl => by
    have hi : i < s.length := by omega
    have hd : s.drop i = s[i] :: s.drop (i + 1) := List.drop_eq_getElem_cons hi
    rw [hd, quoM_cons]
    have := pw_all hs j (i + 1) (acc ++ q1 s[i]) (by omega) (by rw [List.length_append]; have := q1_len s[i]; omega)
    simp only [List.append_assoc] at this ⊢
    exact pw_step (List.getElem?_eq_getElem hi) hs (by omega) this
theorem refWrite_ok {k n : Int} {s : Bytes} {x y : Int} (h : rightV k n s x y = true) : PCall Cx 33 [val k n s x y] (.str (writeV k n s x y)) := by
  refine pcall_run (noext _) body33 ?_
  unfold writeV
  rcases right_cases h with ⟨rfl, hn, rfl, rfl, rfl⟩ | ⟨rfl, hs, rfl, rfl, rfl⟩ | ⟨rfl, ⟨hx, hy⟩, rfl, rfl⟩
  · simp only [call_pure pure46 rfl (Dec_ok n hn), run_exit_start, exit_here, exit_code, run_inBlock, n33_0, n33_1, n33_2, n33_3, n33_4, n33_5, n33_6, n33_7, n33_8, n33_9, n33_10, n33_11, n33_12, n33_13, n33_14, n33_15, n33_16, n33_17, n33_18, n33_19, n33_20, n33_21, n33_22, n33_23, n33_24, n33_25, n33_26, n33_27, n33_28, n33_29, n33_30, n33_31, n33_32, n33_33, n33_34, n33_35, n33_36, n33_37, n33_38, n33_39, n33_40, n33_41, n33_42, o33_1, o33_4, o33_7, o33_10, o33_13, o33_16, o33_20, o33_23, o33_28, o33_35, o33_37, o33_38, o33_39, o33_41, res33, TT_3, TT_4, TT_5, TT_9, TT_21, TT_22, TT_25, TT_33, TT_35, TT_37, TT_39, TT_47, TT_52, TT_56, TT_59, TT_60, TT_62, TT_63, TT_65, TT_73, TT_77, TT_82, TT_84, bb, primP, primM, ev, evs, parts_, ofConst, bin, un, intBin, putA, enterT, Nat.reduceEqDiff, Nat.reduceAdd, Nat.reduceMul, Nat.reduceLeDiff, Nat.reduceLT, ↓reduceIte, reduceCtorEq, RunRes, resultsA, oneOf, AV.plain, AV.cells, AHeap.push, AHeap.set, AHeap.empty, fieldOf, loadA, storeA, BX.part, TK.isAgg, convA, builtinA, inertB, builtinP, buildA, fillA, splice, eqv, cellsEq, sizeT, adT, ldT, fwT, Nat.reduceBeqDiff, Nat.reduceBneDiff, Int.reduceBNe, Int.reduceBEq, Int.reduceEq, Int.reduceLT, Int.reduceLE, Int.reduceAdd, Int.reduceSub, Int.reduceMul, Int.reduceNeg, strBin, indexAddrA, elems, lenOf, chunk, List.reduceReplicate, Int.reduceToNat]
  · have hp := pw_all (s := s) (by omega) s.length 0 [34] (by omega) (by simp)
    simp only [run_exit_start, exit_here, exit_code, run_inBlock, n33_0, n33_1, n33_2, n33_3, n33_4, n33_5, n33_6, n33_7, n33_8, n33_9, n33_10, n33_11, n33_12, n33_13, n33_14, n33_15, n33_16, n33_17, n33_18, n33_19, n33_20, n33_21, n33_22, n33_23, n33_24, n33_25, n33_27, n33_28, n33_29, n33_30, n33_31, n33_32, n33_33, n33_34, n33_35, n33_36, n33_37, n33_38, n33_39, n33_41, n33_42, o33_1, o33_4, o33_7, o33_10, o33_13, o33_16, o33_20, o33_23, o33_28, o33_35, o33_37, o33_38, o33_39, o33_41, res33, TT_3, TT_4, TT_5, TT_9, TT_21, TT_22, TT_25, TT_33, TT_35, TT_37, TT_39, TT_47, TT_52, TT_56, TT_59, TT_60, TT_62, TT_63, TT_65, TT_73, TT_77, TT_82, TT_84, bb, primP, primM, ev, evs, parts_, ofConst, bin, un, intBin, putA, enterT, Nat.reduceEqDiff, Nat.reduceAdd, Nat.reduceMul, Nat.reduceLeDiff, Nat.reduceLT, ↓reduceIte, reduceCtorEq, RunRes, resultsA, oneOf, AV.plain, AV.cells, AHeap.push, AHeap.set, AHeap.empty, fieldOf, loadA, storeA, BX.part, TK.isAgg, convA, builtinA, inertB, builtinP, buildA, fillA, splice, eqv, cellsEq, sizeT, adT, ldT, fwT, Nat.reduceBeqDiff, Nat.reduceBneDiff, Int.reduceBNe, Int.reduceBEq, Int.reduceEq, Int.reduceLT, Int.reduceLE, Int.reduceAdd, Int.reduceSub, Int.reduceMul, Int.reduceNeg, strBin, indexAddrA, elems, lenOf, chunk, List.reduceReplicate, Int.reduceToNat]
    refine hp _ _ ?_ ?_ ?_ ?_
    all_goals simp only [upd_app, Nat.reduceEqDiff, ↓reduceIte]
    all_goals rfl
  · rw [inR_iff] at hx hy
    have d1 := Dec_ok x (by omega)
    have d2 := Dec_ok y (by omega)
    have l1 := decS_len x (by omega)
    have l2 := decS_len y (by omega)
    have h1 : ((decS x).length + 1 ≤ 9223372036854775807) = True := eq_true (by omega)
    have h2 : ((decS x ++ [58]).length + (decS y).length ≤ 9223372036854775807) = True := eq_true (by rw [List.length_append, List.length_singleton]; omega)
    simp only [h1, h2, call_pure pure46 rfl d1, call_pure pure46 rfl d2, List.length_singleton, run_exit_start, exit_here, exit_code, run_inBlock, n33_0, n33_1, n33_2, n33_3, n33_4, n33_5, n33_6, n33_7, n33_8, n33_9, n33_10, n33_11, n33_12, n33_13, n33_14, n33_15, n33_16, n33_17, n33_18, n33_19, n33_20, n33_21, n33_22, n33_23, n33_24, n33_25, n33_26, n33_27, n33_28, n33_29, n33_30, n33_31, n33_32, n33_33, n33_34, n33_35, n33_36, n33_37, n33_38, n33_39, n33_40, n33_41, n33_42, o33_1, o33_4, o33_7, o33_10, o33_13, o33_16, o33_20, o33_23, o33_28, o33_35, o33_37, o33_38, o33_39, o33_41, res33, TT_3, TT_4, TT_5, TT_9, TT_21, TT_22, TT_25, TT_33, TT_35, TT_37, TT_39, TT_47, TT_52, TT_56, TT_59, TT_60, TT_62, TT_63, TT_65, TT_73, TT_77, TT_82, TT_84, bb, primP, primM, ev, evs, parts_, ofConst, bin, un, intBin, putA, enterT, Nat.reduceEqDiff, Nat.reduceAdd, Nat.reduceMul, Nat.reduceLeDiff, Nat.reduceLT, ↓reduceIte, reduceCtorEq, RunRes, resultsA, oneOf, AV.plain, AV.cells, AHeap.push, AHeap.set, AHeap.empty, fieldOf, loadA, storeA, BX.part, TK.isAgg, convA, builtinA, inertB, builtinP, buildA, fillA, splice, eqv, cellsEq, sizeT, adT, ldT, fwT, Nat.reduceBeqDiff, Nat.reduceBneDiff, Int.reduceBNe, Int.reduceBEq, Int.reduceEq, Int.reduceLT, Int.reduceLE, Int.reduceAdd, Int.reduceSub, Int.reduceMul, Int.reduceNeg, strBin, indexAddrA, elems, lenOf, chunk, List.reduceReplicate, Int.reduceToNat]
end Go.Proofs.Ytkedlkcknhinoaa.G

namespace Go.Proofs.Ytkedlkcknhinoaa.G
open Go.BX
set_option linter.unusedSimpArgs false
set_option linter.unusedVariables false
theorem one_no {l : List Nd} {d at_ : Nat} {n : Nd} (hlt : at_ < l.length) (hg : l[at_] = n) (h1 : aloneM n = false) (h2 : isOp n.op = false ∨ zeroV n.v = false) : OneR l (d + 1) 1 at_ (-1) := by
  refine .inr ⟨rfl, fun e post bs hd hs => ?_⟩
  replace hs : Es d 1 e bs := hs
  have hd0 := List.drop_eq_getElem_cons hlt
  rw [hg] at hd0
  rw [hd0] at hd
  cases hs with
  | leaf h hs =>
    rw [List.cons_append] at hd
    cases (List.cons.inj hd).1
    rw [h] at h1
    cases h1
  | node h hz hp hs =>
    rw [List.cons_append] at hd
    cases (List.cons.inj hd).1
    rcases h2 with h2 | h2
    · rw [h] at h2; cases h2
    · rw [hz] at h2; cases h2
theorem one_leaf {l : List Nd} {d at_ : Nat} {n : Nd} (hlt : at_ < l.length) (hg : l[at_] = n) (h1 : aloneM n = true) : OneR l (d + 1) 1 at_ ((at_ + 1 : Nat) : Int) := by
  have hd0 := List.drop_eq_getElem_cons hlt
  rw [hg] at hd0
  exact .inl ⟨[n], l.drop (at_ + 1), _, hd0, Es.leaf (d := d) h1 (.nil _), rfl⟩
theorem one_node {l : List Nd} {d at_ : Nat} {n : Nd} {r : Int} (hlt : at_ < l.length) (hg : l[at_] = n) (ho : isOp n.op = true) (hz : zeroV n.v = true) (h : OneR l d (partsM n.op) (at_ + 1) r) : OneR l (d + 1) 1 at_ r := by
  have hd0 := List.drop_eq_getElem_cons hlt
  rw [hg] at hd0
  have hp := parts_pos ho
  rcases h with ⟨e, post, bs, hd, hs, hr⟩ | ⟨hr, hno⟩
  · cases d with
    | zero => have := hs.1; omega
    | succ d =>
      refine .inl ⟨n :: e, post, [nodeT n bs], by rw [hd0, hd]; rfl, ?_, by rw [hr, List.length_cons]; omega⟩
      have := Es.node (d := d) ho hz hs (.nil _)
      rw [List.append_nil] at this
      exact this
  · refine .inr ⟨hr, fun e post bs hd hs => ?_⟩
    replace hs : Es d 1 e bs := hs
    rw [hd0] at hd
    cases hs with
    | leaf h hs =>
      rw [List.cons_append] at hd
      cases (List.cons.inj hd).1
      have := (alone_op h).1
      rw [ho] at this
      cases this
    | @node d k n ps ls cs bs h hz hp hs =>
      cases hs
      rw [List.append_nil, List.cons_append] at hd
      obtain ⟨h1, h2⟩ := List.cons.inj hd
      cases h1
      exact hno ps post cs h2 hp
theorem word_ne {op : Int} (h : isOp op = true) : wordM op ≠ [] := by
  obtain ⟨h2, e⟩ := ops_get h
  unfold wordM
  rw [e]
  have key : ∀ x, x ∈ ops → x.1 ≠ [] := by decide
  exact key _ (List.getElem_mem h2)
theorem one_ok {l : List Nd} (hl : l.length ≤ 1000) : ∀ (D w : Nat), w + D = 25 → ∀ at_ : Nat, ∃ r, PCall Cx 32 [.vec 6 (l.map encN), .int .i64 (at_ : Nat), .int .i64 (w : Int)] (.int .i64 r) ∧ OneR l D 1 at_ r
  | 0, w, hw, at_ => by
    refine ⟨-1, ?_, .inr ⟨rfl, fun e post bs hd hs => by cases hs.1⟩⟩
    refine pcall_run (noext _) body32 ?_
    have hw' : w = 25 := by omega
    subst hw'
    by_cases c0 : ((l.map encN).length : Int) ≤ (at_ : Int)
    · simp only [c0, lenOf, i64, Int.cast_ofNat_Int, run_exit_start, exit_here, exit_code, exit_inLoop, run_inBlock, n32_0, n32_1, n32_2, n32_3, n32_4, n32_5, n32_6, n32_7, n32_8, n32_9, n32_10, n32_11, n32_12, n32_13, n32_14, n32_15, n32_16, n32_17, n32_18, n32_19, n32_20, n32_21, n32_22, n32_23, n32_24, n32_25, n32_26, n32_27, n32_28, n32_29, n32_30, n32_31, n32_32, n32_33, n32_34, n32_35, n32_37, n32_38, n32_39, n32_40, n32_41, n32_42, n32_43, n32_44, n32_45, n32_46, n32_47, n32_48, n32_49, n32_50, n32_51, n32_52, n32_53, n32_54, n32_55, n32_56, n32_57, n32_58, n32_59, n32_60, n32_61, n32_62, n32_63, o32_1, o32_4, o32_7, o32_11, o32_14, o32_17, o32_22, o32_25, o32_30, o32_33, o32_37, o32_40, o32_45, o32_52, o32_54, o32_57, o32_60, o32_62, res32, TT_3, TT_4, TT_5, TT_9, TT_21, TT_22, TT_25, TT_33, TT_35, TT_37, TT_39, TT_47, TT_52, TT_56, TT_59, TT_60, TT_62, TT_63, TT_65, TT_73, TT_77, TT_82, TT_84, bb, primP, primM, ev, evs, parts_, ofConst, bin, un, intBin, putA, enterT, Nat.reduceEqDiff, Nat.reduceAdd, Nat.reduceMul, Nat.reduceLeDiff, Nat.reduceLT, ↓reduceIte, reduceCtorEq, RunRes, resultsA, oneOf, AV.plain, AV.cells, AHeap.push, AHeap.set, AHeap.empty, fieldOf, loadA, storeA, BX.part, TK.isAgg, convA, builtinA, inertB, builtinP, buildA, fillA, splice, eqv, cellsEq, sizeT, adT, ldT, fwT, Nat.reduceBeqDiff, Nat.reduceBneDiff, Int.reduceBNe, Int.reduceBEq, Int.reduceEq, Int.reduceLT, Int.reduceLE, Int.reduceAdd, Int.reduceSub, Int.reduceMul, Int.reduceNeg, strBin, indexAddrA, elems, lenOf, chunk, List.reduceReplicate, Int.reduceToNat]
    · simp only [c0, lenOf, i64, Int.cast_ofNat_Int, run_exit_start, exit_here, exit_code, exit_inLoop, run_inBlock, n32_0, n32_1, n32_2, n32_3, n32_4, n32_5, n32_6, n32_7, n32_8, n32_9, n32_10, n32_11, n32_12, n32_13, n32_14, n32_15, n32_16, n32_17, n32_18, n32_19, n32_20, n32_21, n32_22, n32_23, n32_24, n32_25, n32_26, n32_27, n32_28, n32_29, n32_30, n32_31, n32_32, n32_33, n32_34, n32_35, n32_37, n32_38, n32_39, n32_40, n32_41, n32_42, n32_43, n32_44, n32_45, n32_46, n32_47, n32_48, n32_49, n32_50, n32_51, n32_52, n32_53, n32_54, n32_55, n32_56, n32_57, n32_58, n32_59, n32_60, n32_61, n32_62, n32_63, o32_1, o32_4, o32_7, o32_11, o32_14, o32_17, o32_22, o32_25, o32_30, o32_33, o32_37, o32_40, o32_45, o32_52, o32_54, o32_57, o32_60, o32_62, res32, TT_3, TT_4, TT_5, TT_9, TT_21, TT_22, TT_25, TT_33, TT_35, TT_37, TT_39, TT_47, TT_52, TT_56, TT_59, TT_60, TT_62, TT_63, TT_65, TT_73, TT_77, TT_82, TT_84, bb, primP, primM, ev, evs, parts_, ofConst, bin, un, intBin, putA, enterT, Nat.reduceEqDiff, Nat.reduceAdd, Nat.reduceMul, Nat.reduceLeDiff, Nat.reduceLT, ↓reduceIte, reduceCtorEq, RunRes, resultsA, oneOf, AV.plain, AV.cells, AHeap.push, AHeap.set, AHeap.empty, fieldOf, loadA, storeA, BX.part, TK.isAgg, convA, builtinA, inertB, builtinP, buildA, fillA, splice, eqv, cellsEq, sizeT, adT, ldT, fwT, Nat.reduceBeqDiff, Nat.reduceBneDiff, Int.reduceBNe, Int.reduceBEq, Int.reduceEq, Int.reduceLT, Int.reduceLE, Int.reduceAdd, Int.reduceSub, Int.reduceMul, Int.reduceNeg, strBin, indexAddrA, elems, lenOf, chunk, List.reduceReplicate, Int.reduceToNat]
  | d + 1, w, hw, at_ => by
    by_cases hlt : at_ < l.length
    · have ih := fun a => one_ok hl d (w + 1) (by omega) a
      have c0 : ¬ ((l.map encN).length : Int) ≤ (at_ : Int) := by rw [List.length_map]; omega
      have c1 : ¬ (24 : Int) < (w : Int) := by omega
      have p0 : (0 : Int) ≤ (at_ : Int) := by omega
      have l0 : (at_ : Int) < ((l.map encN).length : Int) := by rw [List.length_map]; omega
      have g0 := encN_get hlt
      have w1 : IntKind.i64.wrap ((at_ : Int) + 1) = ((at_ + 1 : Nat) : Int) := by rw [wr64 (by omega) (by omega)]; omega
      have hR := refRight_ok (l[at_]).v.k (l[at_]).v.n (l[at_]).v.s (l[at_]).v.x (l[at_]).v.y
      have eo : rightV (l[at_]).v.k (l[at_]).v.n (l[at_]).v.s (l[at_]).v.x (l[at_]).v.y = okV (l[at_]).v := rfl
      rw [eo] at hR
      have hW := rWord_ok (l[at_]).op
      cases ho : isOp (l[at_]).op with
      | true =>
        have ho' := ho
        unfold isOp at ho'
        simp only [Bool.and_eq_true, decide_eq_true_eq] at ho'
        have h0 : ((l[at_]).op == 0) = false := by rw [beq_eq_false_iff_ne]; omega
        have h1 : ((l[at_]).op == 1) = false := by rw [beq_eq_false_iff_ne]; omega
        have hp := parts_pos ho
        have e2 : (wordM (l[at_]).op == []) = false := by
          rw [beq_eq_false_iff_ne]
          exact word_ne ho
        have hno : aloneM l[at_] = false := by
          cases ha : aloneM l[at_] with
          | false => rfl
          | true => have := (alone_op ha).1; rw [ho] at this; cases this
        cases hz : zeroV (l[at_]).v with
        | false =>
          refine ⟨-1, ?_, one_no hlt rfl hno (.inr hz)⟩
          unfold zeroV at hz
          refine pcall_run (noext _) body32 ?_
          simp only [c0, c1, p0, l0, g0, w1, h0, h1, e2, hz, Int.toNat_natCast, lenOf, i64, call_pure pure19 rfl hW, run_exit_start, exit_here, exit_code, exit_inLoop, run_inBlock, n32_0, n32_1, n32_2, n32_3, n32_4, n32_5, n32_6, n32_7, n32_8, n32_9, n32_10, n32_11, n32_12, n32_13, n32_14, n32_15, n32_16, n32_17, n32_18, n32_19, n32_20, n32_21, n32_22, n32_23, n32_24, n32_25, n32_26, n32_27, n32_28, n32_29, n32_30, n32_31, n32_32, n32_33, n32_34, n32_35, n32_37, n32_38, n32_39, n32_40, n32_41, n32_42, n32_43, n32_44, n32_45, n32_46, n32_47, n32_48, n32_49, n32_50, n32_51, n32_52, n32_53, n32_54, n32_55, n32_56, n32_57, n32_58, n32_59, n32_60, n32_61, n32_62, n32_63, o32_1, o32_4, o32_7, o32_11, o32_14, o32_17, o32_22, o32_25, o32_30, o32_33, o32_37, o32_40, o32_45, o32_52, o32_54, o32_57, o32_60, o32_62, res32, TT_3, TT_4, TT_5, TT_9, TT_21, TT_22, TT_25, TT_33, TT_35, TT_37, TT_39, TT_47, TT_52, TT_56, TT_59, TT_60, TT_62, TT_63, TT_65, TT_73, TT_77, TT_82, TT_84, bb, primP, primM, ev, evs, parts_, ofConst, bin, un, intBin, putA, enterT, Nat.reduceEqDiff, Nat.reduceAdd, Nat.reduceMul, Nat.reduceLeDiff, Nat.reduceLT, ↓reduceIte, reduceCtorEq, RunRes, resultsA, oneOf, AV.plain, AV.cells, AHeap.push, AHeap.set, AHeap.empty, fieldOf, loadA, storeA, BX.part, TK.isAgg, convA, builtinA, inertB, builtinP, buildA, fillA, splice, eqv, cellsEq, sizeT, adT, ldT, fwT, Nat.reduceBeqDiff, Nat.reduceBneDiff, Int.reduceBNe, Int.reduceBEq, Int.reduceEq, Int.reduceLT, Int.reduceLE, Int.reduceAdd, Int.reduceSub, Int.reduceMul, Int.reduceNeg, strBin, indexAddrA, elems, lenOf, chunk, List.reduceReplicate, Int.reduceToNat]
        | true =>
          obtain ⟨r, hr, hpl⟩ := p1_all (n := l[at_]) (D := d) (w := w) (by omega) hl ih hp.2 (partsM (l[at_]).op) 0 (at_ + 1) (by omega)
          refine ⟨r, ?_, one_node hlt rfl ho hz hr⟩
          unfold zeroV at hz
          refine pcall_run (noext _) body32 ?_
          simp only [c0, c1, p0, l0, g0, w1, h0, h1, e2, hz, Int.toNat_natCast, lenOf, i64, call_pure pure19 rfl hW, run_exit_start, exit_here, exit_code, exit_inLoop, run_inBlock, n32_0, n32_1, n32_2, n32_3, n32_4, n32_5, n32_6, n32_7, n32_8, n32_9, n32_10, n32_11, n32_12, n32_13, n32_14, n32_15, n32_16, n32_17, n32_18, n32_19, n32_20, n32_21, n32_22, n32_23, n32_24, n32_25, n32_26, n32_27, n32_28, n32_29, n32_30, n32_31, n32_32, n32_33, n32_34, n32_35, n32_36, n32_37, n32_38, n32_39, n32_40, n32_41, n32_42, n32_44, n32_45, n32_46, n32_47, n32_48, n32_49, n32_50, n32_51, n32_52, n32_53, n32_54, n32_55, n32_56, n32_57, n32_58, n32_59, n32_60, n32_62, n32_63, o32_1, o32_4, o32_7, o32_11, o32_14, o32_17, o32_22, o32_25, o32_30, o32_33, o32_37, o32_40, o32_45, o32_52, o32_54, o32_57, o32_60, o32_62, res32, TT_3, TT_4, TT_5, TT_9, TT_21, TT_22, TT_25, TT_33, TT_35, TT_37, TT_39, TT_47, TT_52, TT_56, TT_59, TT_60, TT_62, TT_63, TT_65, TT_73, TT_77, TT_82, TT_84, bb, primP, primM, ev, evs, parts_, ofConst, bin, un, intBin, putA, enterT, Nat.reduceEqDiff, Nat.reduceAdd, Nat.reduceMul, Nat.reduceLeDiff, Nat.reduceLT, ↓reduceIte, reduceCtorEq, RunRes, resultsA, oneOf, AV.plain, AV.cells, AHeap.push, AHeap.set, AHeap.empty, fieldOf, loadA, storeA, BX.part, TK.isAgg, convA, builtinA, inertB, builtinP, buildA, fillA, splice, eqv, cellsEq, sizeT, adT, ldT, fwT, Nat.reduceBeqDiff, Nat.reduceBneDiff, Int.reduceBNe, Int.reduceBEq, Int.reduceEq, Int.reduceLT, Int.reduceLE, Int.reduceAdd, Int.reduceSub, Int.reduceMul, Int.reduceNeg, strBin, indexAddrA, elems, lenOf, chunk, List.reduceReplicate, Int.reduceToNat]
          refine hpl _ _ _ ?_ ?_ ?_ ?_ ?_ ?_
          all_goals simp only [upd_app, enterT, List.getElem?_cons_zero, List.getElem?_cons_succ, Option.getD_some, Nat.reduceEqDiff, ↓reduceIte]
          all_goals rfl
      | false =>
        rw [(parts_no ho).2] at hW
        have e2 : (([] : Bytes) == []) = true := rfl
        cases h0 : ((l[at_]).op == 0) with
        | true =>
          have hop0 : (l[at_]).op = 0 := by simpa using h0
          have hal : aloneM l[at_] = okV (l[at_]).v := by unfold aloneM; rw [if_neg (by rw [hop0]; decide), h0, Bool.true_and]
          have h1 : ((l[at_]).op == 1) = false := by rw [hop0]; rfl
          cases hok : okV (l[at_]).v with
          | true =>
            rw [hok] at hR
            refine ⟨((at_ + 1 : Nat) : Int), ?_, one_leaf hlt rfl (by rw [hal, hok])⟩
            refine pcall_run (noext _) body32 ?_
            simp only [c0, c1, p0, l0, g0, w1, h0, Int.toNat_natCast, lenOf, i64, call_pure pure45 rfl hR, run_exit_start, exit_here, exit_code, exit_inLoop, run_inBlock, n32_0, n32_1, n32_2, n32_3, n32_4, n32_5, n32_6, n32_7, n32_8, n32_9, n32_10, n32_11, n32_12, n32_13, n32_14, n32_15, n32_16, n32_17, n32_18, n32_19, n32_21, n32_22, n32_23, n32_24, n32_25, n32_26, n32_27, n32_28, n32_29, n32_30, n32_31, n32_32, n32_33, n32_34, n32_35, n32_37, n32_38, n32_39, n32_40, n32_41, n32_42, n32_43, n32_44, n32_45, n32_46, n32_47, n32_48, n32_49, n32_50, n32_51, n32_52, n32_53, n32_54, n32_55, n32_56, n32_57, n32_58, n32_59, n32_60, n32_61, n32_62, n32_63, o32_1, o32_4, o32_7, o32_11, o32_14, o32_17, o32_22, o32_25, o32_30, o32_33, o32_37, o32_40, o32_45, o32_52, o32_54, o32_57, o32_60, o32_62, res32, TT_3, TT_4, TT_5, TT_9, TT_21, TT_22, TT_25, TT_33, TT_35, TT_37, TT_39, TT_47, TT_52, TT_56, TT_59, TT_60, TT_62, TT_63, TT_65, TT_73, TT_77, TT_82, TT_84, bb, primP, primM, ev, evs, parts_, ofConst, bin, un, intBin, putA, enterT, Nat.reduceEqDiff, Nat.reduceAdd, Nat.reduceMul, Nat.reduceLeDiff, Nat.reduceLT, ↓reduceIte, reduceCtorEq, RunRes, resultsA, oneOf, AV.plain, AV.cells, AHeap.push, AHeap.set, AHeap.empty, fieldOf, loadA, storeA, BX.part, TK.isAgg, convA, builtinA, inertB, builtinP, buildA, fillA, splice, eqv, cellsEq, sizeT, adT, ldT, fwT, Nat.reduceBeqDiff, Nat.reduceBneDiff, Int.reduceBNe, Int.reduceBEq, Int.reduceEq, Int.reduceLT, Int.reduceLE, Int.reduceAdd, Int.reduceSub, Int.reduceMul, Int.reduceNeg, strBin, indexAddrA, elems, lenOf, chunk, List.reduceReplicate, Int.reduceToNat]
          | false =>
            rw [hok] at hR
            refine ⟨-1, ?_, one_no hlt rfl (by rw [hal, hok]) (.inl ho)⟩
            refine pcall_run (noext _) body32 ?_
            simp only [c0, c1, p0, l0, g0, w1, h0, h1, e2, Int.toNat_natCast, lenOf, i64, call_pure pure45 rfl hR, call_pure pure19 rfl hW, run_exit_start, exit_here, exit_code, exit_inLoop, run_inBlock, n32_0, n32_1, n32_2, n32_3, n32_4, n32_5, n32_6, n32_7, n32_8, n32_9, n32_10, n32_11, n32_12, n32_13, n32_14, n32_15, n32_16, n32_17, n32_18, n32_19, n32_20, n32_21, n32_22, n32_23, n32_24, n32_25, n32_26, n32_27, n32_28, n32_29, n32_30, n32_31, n32_32, n32_33, n32_34, n32_35, n32_37, n32_38, n32_39, n32_40, n32_41, n32_42, n32_43, n32_44, n32_45, n32_46, n32_47, n32_48, n32_49, n32_50, n32_51, n32_52, n32_53, n32_54, n32_55, n32_56, n32_57, n32_58, n32_59, n32_60, n32_61, n32_62, n32_63, o32_1, o32_4, o32_7, o32_11, o32_14, o32_17, o32_22, o32_25, o32_30, o32_33, o32_37, o32_40, o32_45, o32_52, o32_54, o32_57, o32_60, o32_62, res32, TT_3, TT_4, TT_5, TT_9, TT_21, TT_22, TT_25, TT_33, TT_35, TT_37, TT_39, TT_47, TT_52, TT_56, TT_59, TT_60, TT_62, TT_63, TT_65, TT_73, TT_77, TT_82, TT_84, bb, primP, primM, ev, evs, parts_, ofConst, bin, un, intBin, putA, enterT, Nat.reduceEqDiff, Nat.reduceAdd, Nat.reduceMul, Nat.reduceLeDiff, Nat.reduceLT, ↓reduceIte, reduceCtorEq, RunRes, resultsA, oneOf, AV.plain, AV.cells, AHeap.push, AHeap.set, AHeap.empty, fieldOf, loadA, storeA, BX.part, TK.isAgg, convA, builtinA, inertB, builtinP, buildA, fillA, splice, eqv, cellsEq, sizeT, adT, ldT, fwT, Nat.reduceBeqDiff, Nat.reduceBneDiff, Int.reduceBNe, Int.reduceBEq, Int.reduceEq, Int.reduceLT, Int.reduceLE, Int.reduceAdd, Int.reduceSub, Int.reduceMul, Int.reduceNeg, strBin, indexAddrA, elems, lenOf, chunk, List.reduceReplicate, Int.reduceToNat]
        | false =>
          cases h1 : ((l[at_]).op == 1) with
          | false =>
            have hal : aloneM l[at_] = false := by
              unfold aloneM
              rw [if_neg (by simpa using h1), h0]; rfl
            refine ⟨-1, ?_, one_no hlt rfl hal (.inl ho)⟩
            refine pcall_run (noext _) body32 ?_
            simp only [c0, c1, p0, l0, g0, w1, h0, h1, e2, Int.toNat_natCast, lenOf, i64, call_pure pure45 rfl hR, call_pure pure19 rfl hW, run_exit_start, exit_here, exit_code, exit_inLoop, run_inBlock, n32_0, n32_1, n32_2, n32_3, n32_4, n32_5, n32_6, n32_7, n32_8, n32_9, n32_10, n32_11, n32_12, n32_13, n32_14, n32_15, n32_16, n32_17, n32_18, n32_19, n32_20, n32_21, n32_22, n32_23, n32_24, n32_25, n32_26, n32_27, n32_28, n32_29, n32_30, n32_31, n32_32, n32_33, n32_34, n32_35, n32_37, n32_38, n32_39, n32_40, n32_41, n32_42, n32_43, n32_44, n32_45, n32_46, n32_47, n32_48, n32_49, n32_50, n32_51, n32_52, n32_53, n32_54, n32_55, n32_56, n32_57, n32_58, n32_59, n32_60, n32_61, n32_62, n32_63, o32_1, o32_4, o32_7, o32_11, o32_14, o32_17, o32_22, o32_25, o32_30, o32_33, o32_37, o32_40, o32_45, o32_52, o32_54, o32_57, o32_60, o32_62, res32, TT_3, TT_4, TT_5, TT_9, TT_21, TT_22, TT_25, TT_33, TT_35, TT_37, TT_39, TT_47, TT_52, TT_56, TT_59, TT_60, TT_62, TT_63, TT_65, TT_73, TT_77, TT_82, TT_84, bb, primP, primM, ev, evs, parts_, ofConst, bin, un, intBin, putA, enterT, Nat.reduceEqDiff, Nat.reduceAdd, Nat.reduceMul, Nat.reduceLeDiff, Nat.reduceLT, ↓reduceIte, reduceCtorEq, RunRes, resultsA, oneOf, AV.plain, AV.cells, AHeap.push, AHeap.set, AHeap.empty, fieldOf, loadA, storeA, BX.part, TK.isAgg, convA, builtinA, inertB, builtinP, buildA, fillA, splice, eqv, cellsEq, sizeT, adT, ldT, fwT, Nat.reduceBeqDiff, Nat.reduceBneDiff, Int.reduceBNe, Int.reduceBEq, Int.reduceEq, Int.reduceLT, Int.reduceLE, Int.reduceAdd, Int.reduceSub, Int.reduceMul, Int.reduceNeg, strBin, indexAddrA, elems, lenOf, chunk, List.reduceReplicate, Int.reduceToNat]
          | true =>
            have hop1 : (l[at_]).op = 1 := by simpa using h1
            have hal : aloneM l[at_] = ((((l[at_]).v.k == 0) && okV (l[at_]).v) && decide (0 ≤ (l[at_]).v.n) && decide ((l[at_]).v.n < 5)) := by
              unfold aloneM
              rw [if_pos hop1]
            by_cases hyes : aloneM l[at_] = true
            · have hy := hyes
              rw [hal] at hy
              simp only [Bool.and_eq_true, decide_eq_true_eq] at hy
              obtain ⟨⟨⟨hk, hok⟩, hn0⟩, hn5⟩ := hy
              have hn4 : (l[at_]).v.n ≤ 4 := by omega
              rw [hok] at hR
              refine ⟨((at_ + 1 : Nat) : Int), ?_, one_leaf hlt rfl hyes⟩
              refine pcall_run (noext _) body32 ?_
              simp only [c0, c1, p0, l0, g0, w1, h0, h1, hk, hn0, hn4, Int.toNat_natCast, lenOf, i64, call_pure pure45 rfl hR, run_exit_start, exit_here, exit_code, exit_inLoop, run_inBlock, n32_0, n32_1, n32_2, n32_3, n32_4, n32_5, n32_6, n32_7, n32_8, n32_9, n32_10, n32_11, n32_12, n32_13, n32_14, n32_15, n32_16, n32_17, n32_18, n32_19, n32_20, n32_21, n32_22, n32_23, n32_24, n32_25, n32_26, n32_27, n32_29, n32_30, n32_31, n32_32, n32_33, n32_34, n32_35, n32_37, n32_38, n32_39, n32_40, n32_41, n32_42, n32_43, n32_44, n32_45, n32_46, n32_47, n32_48, n32_49, n32_50, n32_51, n32_52, n32_53, n32_54, n32_55, n32_56, n32_57, n32_58, n32_59, n32_60, n32_61, n32_62, n32_63, o32_1, o32_4, o32_7, o32_11, o32_14, o32_17, o32_22, o32_25, o32_30, o32_33, o32_37, o32_40, o32_45, o32_52, o32_54, o32_57, o32_60, o32_62, res32, TT_3, TT_4, TT_5, TT_9, TT_21, TT_22, TT_25, TT_33, TT_35, TT_37, TT_39, TT_47, TT_52, TT_56, TT_59, TT_60, TT_62, TT_63, TT_65, TT_73, TT_77, TT_82, TT_84, bb, primP, primM, ev, evs, parts_, ofConst, bin, un, intBin, putA, enterT, Nat.reduceEqDiff, Nat.reduceAdd, Nat.reduceMul, Nat.reduceLeDiff, Nat.reduceLT, ↓reduceIte, reduceCtorEq, RunRes, resultsA, oneOf, AV.plain, AV.cells, AHeap.push, AHeap.set, AHeap.empty, fieldOf, loadA, storeA, BX.part, TK.isAgg, convA, builtinA, inertB, builtinP, buildA, fillA, splice, eqv, cellsEq, sizeT, adT, ldT, fwT, Nat.reduceBeqDiff, Nat.reduceBneDiff, Int.reduceBNe, Int.reduceBEq, Int.reduceEq, Int.reduceLT, Int.reduceLE, Int.reduceAdd, Int.reduceSub, Int.reduceMul, Int.reduceNeg, strBin, indexAddrA, elems, lenOf, chunk, List.reduceReplicate, Int.reduceToNat]
            · have hno : aloneM l[at_] = false := by simpa using hyes
              refine ⟨-1, ?_, one_no hlt rfl hno (.inl ho)⟩
              rw [hal] at hno
              refine pcall_run (noext _) body32 ?_
              cases hok : okV (l[at_]).v with
              | false =>
                rw [hok] at hR
                simp only [c0, c1, p0, l0, g0, w1, h0, h1, e2, Int.toNat_natCast, lenOf, i64, call_pure pure45 rfl hR, call_pure pure19 rfl hW, run_exit_start, exit_here, exit_code, exit_inLoop, run_inBlock, n32_0, n32_1, n32_2, n32_3, n32_4, n32_5, n32_6, n32_7, n32_8, n32_9, n32_10, n32_11, n32_12, n32_13, n32_14, n32_15, n32_16, n32_17, n32_18, n32_19, n32_20, n32_21, n32_22, n32_23, n32_24, n32_25, n32_26, n32_27, n32_28, n32_29, n32_30, n32_31, n32_32, n32_33, n32_34, n32_35, n32_37, n32_38, n32_39, n32_40, n32_41, n32_42, n32_43, n32_44, n32_45, n32_46, n32_47, n32_48, n32_49, n32_50, n32_51, n32_52, n32_53, n32_54, n32_55, n32_56, n32_57, n32_58, n32_59, n32_60, n32_61, n32_62, n32_63, o32_1, o32_4, o32_7, o32_11, o32_14, o32_17, o32_22, o32_25, o32_30, o32_33, o32_37, o32_40, o32_45, o32_52, o32_54, o32_57, o32_60, o32_62, res32, TT_3, TT_4, TT_5, TT_9, TT_21, TT_22, TT_25, TT_33, TT_35, TT_37, TT_39, TT_47, TT_52, TT_56, TT_59, TT_60, TT_62, TT_63, TT_65, TT_73, TT_77, TT_82, TT_84, bb, primP, primM, ev, evs, parts_, ofConst, bin, un, intBin, putA, enterT, Nat.reduceEqDiff, Nat.reduceAdd, Nat.reduceMul, Nat.reduceLeDiff, Nat.reduceLT, ↓reduceIte, reduceCtorEq, RunRes, resultsA, oneOf, AV.plain, AV.cells, AHeap.push, AHeap.set, AHeap.empty, fieldOf, loadA, storeA, BX.part, TK.isAgg, convA, builtinA, inertB, builtinP, buildA, fillA, splice, eqv, cellsEq, sizeT, adT, ldT, fwT, Nat.reduceBeqDiff, Nat.reduceBneDiff, Int.reduceBNe, Int.reduceBEq, Int.reduceEq, Int.reduceLT, Int.reduceLE, Int.reduceAdd, Int.reduceSub, Int.reduceMul, Int.reduceNeg, strBin, indexAddrA, elems, lenOf, chunk, List.reduceReplicate, Int.reduceToNat]
              | true =>
                rw [hok] at hR hno
                cases hk : ((l[at_]).v.k == 0) with
                | false => simp only [c0, c1, p0, l0, g0, w1, h0, h1, e2, hk, Int.toNat_natCast, lenOf, i64, call_pure pure45 rfl hR, call_pure pure19 rfl hW, run_exit_start, exit_here, exit_code, exit_inLoop, run_inBlock, n32_0, n32_1, n32_2, n32_3, n32_4, n32_5, n32_6, n32_7, n32_8, n32_9, n32_10, n32_11, n32_12, n32_13, n32_14, n32_15, n32_16, n32_17, n32_18, n32_19, n32_20, n32_21, n32_22, n32_23, n32_24, n32_25, n32_26, n32_27, n32_28, n32_29, n32_30, n32_31, n32_32, n32_33, n32_34, n32_35, n32_37, n32_38, n32_39, n32_40, n32_41, n32_42, n32_43, n32_44, n32_45, n32_46, n32_47, n32_48, n32_49, n32_50, n32_51, n32_52, n32_53, n32_54, n32_55, n32_56, n32_57, n32_58, n32_59, n32_60, n32_61, n32_62, n32_63, o32_1, o32_4, o32_7, o32_11, o32_14, o32_17, o32_22, o32_25, o32_30, o32_33, o32_37, o32_40, o32_45, o32_52, o32_54, o32_57, o32_60, o32_62, res32, TT_3, TT_4, TT_5, TT_9, TT_21, TT_22, TT_25, TT_33, TT_35, TT_37, TT_39, TT_47, TT_52, TT_56, TT_59, TT_60, TT_62, TT_63, TT_65, TT_73, TT_77, TT_82, TT_84, bb, primP, primM, ev, evs, parts_, ofConst, bin, un, intBin, putA, enterT, Nat.reduceEqDiff, Nat.reduceAdd, Nat.reduceMul, Nat.reduceLeDiff, Nat.reduceLT, ↓reduceIte, reduceCtorEq, RunRes, resultsA, oneOf, AV.plain, AV.cells, AHeap.push, AHeap.set, AHeap.empty, fieldOf, loadA, storeA, BX.part, TK.isAgg, convA, builtinA, inertB, builtinP, buildA, fillA, splice, eqv, cellsEq, sizeT, adT, ldT, fwT, Nat.reduceBeqDiff, Nat.reduceBneDiff, Int.reduceBNe, Int.reduceBEq, Int.reduceEq, Int.reduceLT, Int.reduceLE, Int.reduceAdd, Int.reduceSub, Int.reduceMul, Int.reduceNeg, strBin, indexAddrA, elems, lenOf, chunk, List.reduceReplicate, Int.reduceToNat]
                | true =>
                  rw [hk] at hno
                  by_cases hn0 : 0 ≤ (l[at_]).v.n
                  · have hn4 : ¬ (l[at_]).v.n ≤ 4 := by
                      simp [hn0] at hno
                      omega
                    simp only [c0, c1, p0, l0, g0, w1, h0, h1, e2, hk, hn0, hn4, Int.toNat_natCast, lenOf, i64, call_pure pure45 rfl hR, call_pure pure19 rfl hW, run_exit_start, exit_here, exit_code, exit_inLoop, run_inBlock, n32_0, n32_1, n32_2, n32_3, n32_4, n32_5, n32_6, n32_7, n32_8, n32_9, n32_10, n32_11, n32_12, n32_13, n32_14, n32_15, n32_16, n32_17, n32_18, n32_19, n32_20, n32_21, n32_22, n32_23, n32_24, n32_25, n32_26, n32_27, n32_28, n32_29, n32_30, n32_31, n32_32, n32_33, n32_34, n32_35, n32_37, n32_38, n32_39, n32_40, n32_41, n32_42, n32_43, n32_44, n32_45, n32_46, n32_47, n32_48, n32_49, n32_50, n32_51, n32_52, n32_53, n32_54, n32_55, n32_56, n32_57, n32_58, n32_59, n32_60, n32_61, n32_62, n32_63, o32_1, o32_4, o32_7, o32_11, o32_14, o32_17, o32_22, o32_25, o32_30, o32_33, o32_37, o32_40, o32_45, o32_52, o32_54, o32_57, o32_60, o32_62, res32, TT_3, TT_4, TT_5, TT_9, TT_21, TT_22, TT_25, TT_33, TT_35, TT_37, TT_39, TT_47, TT_52, TT_56, TT_59, TT_60, TT_62, TT_63, TT_65, TT_73, TT_77, TT_82, TT_84, bb, primP, primM, ev, evs, parts_, ofConst, bin, un, intBin, putA, enterT, Nat.reduceEqDiff, Nat.reduceAdd, Nat.reduceMul, Nat.reduceLeDiff, Nat.reduceLT, ↓reduceIte, reduceCtorEq, RunRes, resultsA, oneOf, AV.plain, AV.cells, AHeap.push, AHeap.set, AHeap.empty, fieldOf, loadA, storeA, BX.part, TK.isAgg, convA, builtinA, inertB, builtinP, buildA, fillA, splice, eqv, cellsEq, sizeT, adT, ldT, fwT, Nat.reduceBeqDiff, Nat.reduceBneDiff, Int.reduceBNe, Int.reduceBEq, Int.reduceEq, Int.reduceLT, Int.reduceLE, Int.reduceAdd, Int.reduceSub, Int.reduceMul, Int.reduceNeg, strBin, indexAddrA, elems, lenOf, chunk, List.reduceReplicate, Int.reduceToNat]
                  · simp only [c0, c1, p0, l0, g0, w1, h0, h1, e2, hk, hn0, Int.toNat_natCast, lenOf, i64, call_pure pure45 rfl hR, call_pure pure19 rfl hW, run_exit_start, exit_here, exit_code, exit_inLoop, run_inBlock, n32_0, n32_1, n32_2, n32_3, n32_4, n32_5, n32_6, n32_7, n32_8, n32_9, n32_10, n32_11, n32_12, n32_13, n32_14, n32_15, n32_16, n32_17, n32_18, n32_19, n32_20, n32_21, n32_22, n32_23, n32_24, n32_25, n32_26, n32_27, n32_28, n32_29, n32_30, n32_31, n32_32, n32_33, n32_34, n32_35, n32_37, n32_38, n32_39, n32_40, n32_41, n32_42, n32_43, n32_44, n32_45, n32_46, n32_47, n32_48, n32_49, n32_50, n32_51, n32_52, n32_53, n32_54, n32_55, n32_56, n32_57, n32_58, n32_59, n32_60, n32_61, n32_62, n32_63, o32_1, o32_4, o32_7, o32_11, o32_14, o32_17, o32_22, o32_25, o32_30, o32_33, o32_37, o32_40, o32_45, o32_52, o32_54, o32_57, o32_60, o32_62, res32, TT_3, TT_4, TT_5, TT_9, TT_21, TT_22, TT_25, TT_33, TT_35, TT_37, TT_39, TT_47, TT_52, TT_56, TT_59, TT_60, TT_62, TT_63, TT_65, TT_73, TT_77, TT_82, TT_84, bb, primP, primM, ev, evs, parts_, ofConst, bin, un, intBin, putA, enterT, Nat.reduceEqDiff, Nat.reduceAdd, Nat.reduceMul, Nat.reduceLeDiff, Nat.reduceLT, ↓reduceIte, reduceCtorEq, RunRes, resultsA, oneOf, AV.plain, AV.cells, AHeap.push, AHeap.set, AHeap.empty, fieldOf, loadA, storeA, BX.part, TK.isAgg, convA, builtinA, inertB, builtinP, buildA, fillA, splice, eqv, cellsEq, sizeT, adT, ldT, fwT, Nat.reduceBeqDiff, Nat.reduceBneDiff, Int.reduceBNe, Int.reduceBEq, Int.reduceEq, Int.reduceLT, Int.reduceLE, Int.reduceAdd, Int.reduceSub, Int.reduceMul, Int.reduceNeg, strBin, indexAddrA, elems, lenOf, chunk, List.reduceReplicate, Int.reduceToNat]
    · refine ⟨-1, ?_, .inr ⟨rfl, fun e post bs hd hs => ?_⟩⟩
      · refine pcall_run (noext _) body32 ?_
        have c0 : ((l.map encN).length : Int) ≤ (at_ : Int) := by rw [List.length_map]; omega
        simp only [c0, lenOf, i64, run_exit_start, exit_here, exit_code, exit_inLoop, run_inBlock, n32_0, n32_1, n32_2, n32_3, n32_4, n32_5, n32_6, n32_7, n32_8, n32_9, n32_10, n32_11, n32_12, n32_13, n32_14, n32_15, n32_16, n32_17, n32_18, n32_19, n32_20, n32_21, n32_22, n32_23, n32_24, n32_25, n32_26, n32_27, n32_28, n32_29, n32_30, n32_31, n32_32, n32_33, n32_34, n32_35, n32_37, n32_38, n32_39, n32_40, n32_41, n32_42, n32_43, n32_44, n32_45, n32_46, n32_47, n32_48, n32_49, n32_50, n32_51, n32_52, n32_53, n32_54, n32_55, n32_56, n32_57, n32_58, n32_59, n32_60, n32_61, n32_62, n32_63, o32_1, o32_4, o32_7, o32_11, o32_14, o32_17, o32_22, o32_25, o32_30, o32_33, o32_37, o32_40, o32_45, o32_52, o32_54, o32_57, o32_60, o32_62, res32, TT_3, TT_4, TT_5, TT_9, TT_21, TT_22, TT_25, TT_33, TT_35, TT_37, TT_39, TT_47, TT_52, TT_56, TT_59, TT_60, TT_62, TT_63, TT_65, TT_73, TT_77, TT_82, TT_84, bb, primP, primM, ev, evs, parts_, ofConst, bin, un, intBin, putA, enterT, Nat.reduceEqDiff, Nat.reduceAdd, Nat.reduceMul, Nat.reduceLeDiff, Nat.reduceLT, ↓reduceIte, reduceCtorEq, RunRes, resultsA, oneOf, AV.plain, AV.cells, AHeap.push, AHeap.set, AHeap.empty, fieldOf, loadA, storeA, BX.part, TK.isAgg, convA, builtinA, inertB, builtinP, buildA, fillA, splice, eqv, cellsEq, sizeT, adT, ldT, fwT, Nat.reduceBeqDiff, Nat.reduceBneDiff, Int.reduceBNe, Int.reduceBEq, Int.reduceEq, Int.reduceLT, Int.reduceLE, Int.reduceAdd, Int.reduceSub, Int.reduceMul, Int.reduceNeg, strBin, indexAddrA, elems, lenOf, chunk, List.reduceReplicate, Int.reduceToNat]
      · replace hs : Es d 1 e bs := hs
        have := hs.len.1
        rw [List.drop_of_length_le (by omega)] at hd
        have := congrArg List.length hd
        simp only [List.length_nil, List.length_append] at this
        omega
end Go.Proofs.Ytkedlkcknhinoaa.G

namespace Go.Proofs.Ytkedlkcknhinoaa.G
open Go.BX
set_option linter.unusedSimpArgs false
set_option linter.unusedVariables false
theorem rRight_ok {v : AV} {l : List Nd} (hv : InN v l) (hl : l.length ≤ 1000) : PCall Cx 17 [v] (.bool (rightM l)) := by
  by_cases h0 : l = []
  · subst h0
    have e : rightM [] = false := rfl
    rw [e]
    rcases hv with ⟨rfl, _⟩ | rfl
    · exact ⟨100, by kernel_rfl⟩
    · exact ⟨100, by kernel_rfl⟩
  · obtain rfl := hv.vec h0
    refine pcall_run (noext _) body17 ?_
    by_cases h4 : l.length ≤ 400
    · obtain ⟨r, hr, ho⟩ := one_ok hl 25 0 rfl 0
      have c0 : ((l.map encN).length : Int) ≤ 400 := by rw [List.length_map]; omega
      have e : (r == ((l.map encN).length : Int)) = rightM l := by
        rw [List.length_map]
        rcases ho with ⟨e, post, bs, hd, hs, rfl⟩ | ⟨rfl, hno⟩
        · replace hs : Es 24 1 e bs := hs
          rw [List.drop_zero] at hd
          have hb := hs.len.2
          match bs, hb with
          | [b], _ =>
            cases hrm : rightM l with
            | true =>
              obtain ⟨_, b2, h2⟩ := right_iff.mp hrm
              obtain ⟨h5, _⟩ := hs.uniq (p := post) (p' := []) h2 (by rw [← hd, List.append_nil])
              rw [beq_iff_eq, h5, Nat.zero_add]
            | false =>
              rw [beq_eq_false_iff_ne]
              intro hc
              have hpost : post = [] := by
                have := congrArg List.length hd
                rw [List.length_append] at this
                exact List.eq_nil_of_length_eq_zero (by omega)
              rw [hpost, List.append_nil] at hd
              have : rightM l = true := right_iff.mpr ⟨h4, b, by rw [hd]; exact hs⟩
              rw [hrm] at this
              cases this
        · have : rightM l = false := by
            cases hrm : rightM l with
            | false => rfl
            | true =>
              obtain ⟨_, b2, h2⟩ := right_iff.mp hrm
              exact absurd h2 (hno l [] [b2] (by rw [List.drop_zero, List.append_nil]))
          rw [this, beq_eq_false_iff_ne]
          omega
      replace hr : PCall Cx 32 [.vec 6 (l.map encN), .int .i64 0, .int .i64 0] (.int .i64 r) := hr
      simp only [c0, e, lenOf, i64, call_pure pure32 rfl hr, run_exit_start, exit_here, exit_code, exit_inLoop, run_inBlock, n17_0, n17_1, n17_2, n17_3, n17_4, o17_1, o17_3, res17, TT_3, TT_4, TT_5, TT_9, TT_21, TT_22, TT_25, TT_33, TT_35, TT_37, TT_39, TT_47, TT_52, TT_56, TT_59, TT_60, TT_62, TT_63, TT_65, TT_73, TT_77, TT_82, TT_84, bb, primP, primM, ev, evs, parts_, ofConst, bin, un, intBin, putA, enterT, Nat.reduceEqDiff, Nat.reduceAdd, Nat.reduceMul, Nat.reduceLeDiff, Nat.reduceLT, ↓reduceIte, reduceCtorEq, RunRes, resultsA, oneOf, AV.plain, AV.cells, AHeap.push, AHeap.set, AHeap.empty, fieldOf, loadA, storeA, BX.part, TK.isAgg, convA, builtinA, inertB, builtinP, buildA, fillA, splice, eqv, cellsEq, sizeT, adT, ldT, fwT, Nat.reduceBeqDiff, Nat.reduceBneDiff, Int.reduceBNe, Int.reduceBEq, Int.reduceEq, Int.reduceLT, Int.reduceLE, Int.reduceAdd, Int.reduceSub, Int.reduceMul, Int.reduceNeg, strBin, indexAddrA, elems, lenOf, chunk, List.reduceReplicate, Int.reduceToNat]
    · have c0 : ¬ ((l.map encN).length : Int) ≤ 400 := by rw [List.length_map]; omega
      have e : rightM l = false := by
        unfold rightM
        have : (400 < l.length) := by omega
        simp [this]
      rw [e]
      simp only [c0, lenOf, i64, run_exit_start, exit_here, exit_code, exit_inLoop, run_inBlock, n17_0, n17_1, n17_2, n17_3, n17_4, o17_1, o17_3, res17, TT_3, TT_4, TT_5, TT_9, TT_21, TT_22, TT_25, TT_33, TT_35, TT_37, TT_39, TT_47, TT_52, TT_56, TT_59, TT_60, TT_62, TT_63, TT_65, TT_73, TT_77, TT_82, TT_84, bb, primP, primM, ev, evs, parts_, ofConst, bin, un, intBin, putA, enterT, Nat.reduceEqDiff, Nat.reduceAdd, Nat.reduceMul, Nat.reduceLeDiff, Nat.reduceLT, ↓reduceIte, reduceCtorEq, RunRes, resultsA, oneOf, AV.plain, AV.cells, AHeap.push, AHeap.set, AHeap.empty, fieldOf, loadA, storeA, BX.part, TK.isAgg, convA, builtinA, inertB, builtinP, buildA, fillA, splice, eqv, cellsEq, sizeT, adT, ldT, fwT, Nat.reduceBeqDiff, Nat.reduceBneDiff, Int.reduceBNe, Int.reduceBEq, Int.reduceEq, Int.reduceLT, Int.reduceLE, Int.reduceAdd, Int.reduceSub, Int.reduceMul, Int.reduceNeg, strBin, indexAddrA, elems, lenOf, chunk, List.reduceReplicate, Int.reduceToNat]
theorem rEnd_ok {l : List Nd} (hl : l.length ≤ 1000) {d : Nat} (hd24 : d ≤ 24) {e post : List Nd} {b : Bytes} (h : Es d 1 e [b]) {at_ : Nat} (hd : l.drop at_ = e ++ post) : PCall Cx 21 [.vec 6 (l.map encN), .int .i64 (at_ : Int)] (.int .i64 ((at_ + e.length : Nat) : Int)) := by
  refine pcall_run (noext _) body21 ?_
  obtain ⟨r, hr, ho⟩ := one_ok hl 25 0 rfl at_
  have er : r = ((at_ + e.length : Nat) : Int) := by
    rcases ho with ⟨e2, post2, bs, hd2, hs, hr⟩ | ⟨_, hno⟩
    · replace hs : Es 24 1 e2 bs := hs
      have hb := hs.len.2
      match bs, hb with
      | [b2], _ =>
        obtain ⟨h5, _⟩ := h.uniq hs (hd.symm.trans hd2)
        rw [hr, h5]
    · exact absurd (h.up hd24) (hno e post [b] hd)
  rw [er] at hr
  replace hr : PCall Cx 32 [.vec 6 (l.map encN), .int .i64 (at_ : Int), .int .i64 0] (.int .i64 ((at_ + e.length : Nat) : Int)) := hr
  simp only [call_pure pure32 rfl hr, run_exit_start, exit_here, exit_code, exit_inLoop, run_inBlock, n21_0, n21_1, n21_2, n21_3, n21_4, o21_1, o21_3, res21, TT_3, TT_4, TT_5, TT_9, TT_21, TT_22, TT_25, TT_33, TT_35, TT_37, TT_39, TT_47, TT_52, TT_56, TT_59, TT_60, TT_62, TT_63, TT_65, TT_73, TT_77, TT_82, TT_84, bb, primP, primM, ev, evs, parts_, ofConst, bin, un, intBin, putA, enterT, Nat.reduceEqDiff, Nat.reduceAdd, Nat.reduceMul, Nat.reduceLeDiff, Nat.reduceLT, ↓reduceIte, reduceCtorEq, RunRes, resultsA, oneOf, AV.plain, AV.cells, AHeap.push, AHeap.set, AHeap.empty, fieldOf, loadA, storeA, BX.part, TK.isAgg, convA, builtinA, inertB, builtinP, buildA, fillA, splice, eqv, cellsEq, sizeT, adT, ldT, fwT, Nat.reduceBeqDiff, Nat.reduceBneDiff, Int.reduceBNe, Int.reduceBEq, Int.reduceEq, Int.reduceLT, Int.reduceLE, Int.reduceAdd, Int.reduceSub, Int.reduceMul, Int.reduceNeg, strBin, indexAddrA, elems, lenOf, chunk, List.reduceReplicate, Int.reduceToNat]
theorem rName_ok {n : Int} (h : n = 0 ∨ n = 1 ∨ n = 2 ∨ n = 3 ∨ n = 4) : PCall Cx 34 [.int .i64 n] (.str (nameT n)) := by
  rcases h with rfl | rfl | rfl | rfl | rfl <;> exact ⟨60, by kernel_rfl⟩
def RW (l : List Nd) (at_ : Nat) (b : Bytes) : Prop := PCall Cx 22 [.vec 6 (l.map encN), .int .i64 (at_ : Int)] (.str b)
def LpR (l : List Nd) (n : Nd) (bs : List Bytes) (at_ i : Nat) : Prop :=
  ∀ (T : Nat → AV) (h : Nat) (A : Nat → Blk) (acc : Bytes), T 0 = .vec 6 (l.map encN) → T 1 = .int .i64 (at_ : Int) → T 5 = .ptr 0 6 0 0 → T 6 = .str acc → T 7 = .int .i64 (i : Int) → A 0 = .cells 52 6 [encN n] → acc.length + (spread bs).length ≤ 1000000000 →
    Run Cx 22 T [] none [.inLoop c22_29, .inBlock 0, .code c22_41] ⟨h, A⟩ (fun r0 H' => BX.freeze H' r0 = some (.str (acc ++ spread bs ++ [41])))
theorem lpR_end {l : List Nd} {n : Nd} {at_ i : Nat} (h : partsM n.op ≤ i) : LpR l n [] at_ i := by
  intro T h A acc t0 t1 t5 t6 t7 a0 hm
  rw [run_inLoop]
  have c0 : ¬ (i : Int) < (partsM n.op : Int) := by omega
  have m1 : (acc.length + 1 ≤ 9223372036854775807) = True := eq_true (by omega)
  have e : spread [] = [] := rfl
  rw [e, List.append_nil]
  simp only [t0, t1, t5, t6, t7, a0, c0, m1, freeze2_str, List.length_singleton, call_pure pure20 rfl (rParts_ok n.op), run_exit_start, exit_here, exit_code, exit_inLoop, run_inBlock, n22_0, n22_1, n22_2, n22_3, n22_4, n22_5, n22_6, n22_7, n22_8, n22_9, n22_10, n22_11, n22_12, n22_13, n22_14, n22_15, n22_16, n22_17, n22_18, n22_19, n22_20, n22_21, n22_22, n22_23, n22_24, n22_25, n22_26, n22_27, n22_28, n22_29, n22_30, n22_31, n22_32, n22_33, n22_34, n22_35, n22_36, n22_37, n22_38, n22_39, n22_40, n22_41, n22_42, n22_43, o22_1, o22_3, o22_6, o22_9, o22_14, o22_17, o22_21, o22_23, o22_26, o22_31, o22_38, o22_39, o22_40, o22_42, res22, TT_3, TT_4, TT_5, TT_9, TT_21, TT_22, TT_25, TT_33, TT_35, TT_37, TT_39, TT_47, TT_52, TT_56, TT_59, TT_60, TT_62, TT_63, TT_65, TT_73, TT_77, TT_82, TT_84, bb, primP, primM, ev, evs, parts_, ofConst, bin, un, intBin, putA, enterT, Nat.reduceEqDiff, Nat.reduceAdd, Nat.reduceMul, Nat.reduceLeDiff, Nat.reduceLT, ↓reduceIte, reduceCtorEq, RunRes, resultsA, oneOf, AV.plain, AV.cells, AHeap.push, AHeap.set, AHeap.empty, fieldOf, loadA, storeA, BX.part, TK.isAgg, convA, builtinA, inertB, builtinP, buildA, fillA, splice, eqv, cellsEq, sizeT, adT, ldT, fwT, Nat.reduceBeqDiff, Nat.reduceBneDiff, Int.reduceBNe, Int.reduceBEq, Int.reduceEq, Int.reduceLT, Int.reduceLE, Int.reduceAdd, Int.reduceSub, Int.reduceMul, Int.reduceNeg, strBin, indexAddrA, elems, lenOf, chunk, List.reduceReplicate, Int.reduceToNat]
theorem lpR_step {l : List Nd} {n : Nd} {b : Bytes} {bs : List Bytes} {at_ i m : Nat} (hi : i < partsM n.op) (hkk : partsM n.op ≤ 3) (hb : RW l at_ b) (he : PCall Cx 21 [.vec 6 (l.map encN), .int .i64 (at_ : Int)] (.int .i64 ((at_ + m : Nat) : Int))) (hr : LpR l n bs (at_ + m) (i + 1)) : LpR l n (b :: bs) at_ i := by
  intro T h A acc t0 t1 t5 t6 t7 a0 hm
  rw [spread_cons] at hm ⊢
  simp only [List.length_cons, List.length_append] at hm
  rw [run_inLoop]
  have c0 : (i : Int) < (partsM n.op : Int) := by omega
  have w1 : IntKind.i64.wrap ((i : Int) + 1) = ((i + 1 : Nat) : Int) := by rw [wr64 (by omega) (by omega)]; omega
  have m1 : (acc.length + 1 ≤ 9223372036854775807) = True := eq_true (by omega)
  have m2 : ((acc ++ [32]).length + b.length ≤ 9223372036854775807) = True := eq_true (by rw [List.length_append, List.length_singleton]; omega)
  have hb' : PCall Cx 22 [.vec 6 (l.map encN), .int .i64 (at_ : Int)] (.str b) := hb
  simp only [t0, t1, t5, t6, t7, a0, c0, w1, m1, m2, List.length_singleton, call_pure pure20 rfl (rParts_ok n.op), call_pure pure22 rfl hb', call_pure pure21 rfl he, run_exit_start, exit_here, exit_code, exit_inLoop, run_inBlock, n22_0, n22_1, n22_2, n22_3, n22_4, n22_5, n22_6, n22_7, n22_8, n22_9, n22_10, n22_11, n22_12, n22_13, n22_14, n22_15, n22_16, n22_17, n22_18, n22_19, n22_20, n22_21, n22_22, n22_23, n22_24, n22_25, n22_26, n22_27, n22_28, n22_29, n22_30, n22_31, n22_32, n22_33, n22_34, n22_35, n22_36, n22_37, n22_38, n22_39, n22_40, n22_42, n22_43, o22_1, o22_3, o22_6, o22_9, o22_14, o22_17, o22_21, o22_23, o22_26, o22_31, o22_38, o22_39, o22_40, o22_42, res22, TT_3, TT_4, TT_5, TT_9, TT_21, TT_22, TT_25, TT_33, TT_35, TT_37, TT_39, TT_47, TT_52, TT_56, TT_59, TT_60, TT_62, TT_63, TT_65, TT_73, TT_77, TT_82, TT_84, bb, primP, primM, ev, evs, parts_, ofConst, bin, un, intBin, putA, enterT, Nat.reduceEqDiff, Nat.reduceAdd, Nat.reduceMul, Nat.reduceLeDiff, Nat.reduceLT, ↓reduceIte, reduceCtorEq, RunRes, resultsA, oneOf, AV.plain, AV.cells, AHeap.push, AHeap.set, AHeap.empty, fieldOf, loadA, storeA, BX.part, TK.isAgg, convA, builtinA, inertB, builtinP, buildA, fillA, splice, eqv, cellsEq, sizeT, adT, ldT, fwT, Nat.reduceBeqDiff, Nat.reduceBneDiff, Int.reduceBNe, Int.reduceBEq, Int.reduceEq, Int.reduceLT, Int.reduceLE, Int.reduceAdd, Int.reduceSub, Int.reduceMul, Int.reduceNeg, strBin, indexAddrA, elems, lenOf, chunk, List.reduceReplicate, Int.reduceToNat]
  have := hr
  rw [show acc ++ 32 :: (b ++ spread bs) ++ [41] = (acc ++ [32] ++ b) ++ spread bs ++ [41] by simp]
  refine hr _ _ _ (acc ++ [32] ++ b) ?_ ?_ ?_ ?_ ?_ a0 (by simp only [List.length_append, List.length_singleton]; omega)
  all_goals simp only [upd_app, t0, t5, Nat.reduceEqDiff, ↓reduceIte]
theorem rw_leaf {l : List Nd} {at_ : Nat} {n : Nd} (hlt : at_ < l.length) (hg : l[at_] = n) (ha : aloneM n = true) : RW l at_ (leafT n) := by
  subst hg
  refine pcall_run (noext _) body22 ?_
  have p0 : (0 : Int) ≤ (at_ : Int) := by omega
  have l0 : (at_ : Int) < ((l.map encN).length : Int) := by rw [List.length_map]; omega
  have g0 := encN_get hlt
  have hok := alone_ok ha
  rcases (alone_op ha).2 with ho | ho
  · have hw := refWrite_ok (k := (l[at_]).v.k) (n := (l[at_]).v.n) (s := (l[at_]).v.s) (x := (l[at_]).v.x) (y := (l[at_]).v.y) hok
    have e0 : ((0 : Int) == 0) = true := rfl
    have hl : leafT l[at_] = writeV (l[at_]).v.k (l[at_]).v.n (l[at_]).v.s (l[at_]).v.x (l[at_]).v.y := by unfold leafT; rw [if_pos ho]
    rw [hl]
    simp only [ho] at g0
    simp only [p0, l0, g0, e0, freeze2_str, Int.toNat_natCast, call_pure pure33 rfl hw, run_exit_start, exit_here, exit_code, exit_inLoop, run_inBlock, n22_0, n22_1, n22_2, n22_3, n22_4, n22_5, n22_6, n22_7, n22_8, n22_9, n22_10, n22_11, n22_13, n22_14, n22_15, n22_16, n22_17, n22_18, n22_19, n22_20, n22_21, n22_22, n22_23, n22_24, n22_25, n22_26, n22_27, n22_28, n22_29, n22_30, n22_31, n22_32, n22_33, n22_34, n22_35, n22_36, n22_37, n22_38, n22_39, n22_40, n22_41, n22_42, n22_43, o22_1, o22_3, o22_6, o22_9, o22_14, o22_17, o22_21, o22_23, o22_26, o22_31, o22_38, o22_39, o22_40, o22_42, res22, TT_3, TT_4, TT_5, TT_9, TT_21, TT_22, TT_25, TT_33, TT_35, TT_37, TT_39, TT_47, TT_52, TT_56, TT_59, TT_60, TT_62, TT_63, TT_65, TT_73, TT_77, TT_82, TT_84, bb, primP, primM, ev, evs, parts_, ofConst, bin, un, intBin, putA, enterT, Nat.reduceEqDiff, Nat.reduceAdd, Nat.reduceMul, Nat.reduceLeDiff, Nat.reduceLT, ↓reduceIte, reduceCtorEq, RunRes, resultsA, oneOf, AV.plain, AV.cells, AHeap.push, AHeap.set, AHeap.empty, fieldOf, loadA, storeA, BX.part, TK.isAgg, convA, builtinA, inertB, builtinP, buildA, fillA, splice, eqv, cellsEq, sizeT, adT, ldT, fwT, Nat.reduceBeqDiff, Nat.reduceBneDiff, Int.reduceBNe, Int.reduceBEq, Int.reduceEq, Int.reduceLT, Int.reduceLE, Int.reduceAdd, Int.reduceSub, Int.reduceMul, Int.reduceNeg, strBin, indexAddrA, elems, lenOf, chunk, List.reduceReplicate, Int.reduceToNat]
  · have e0 : ((1 : Int) == 0) = false := rfl
    have e1 : ((1 : Int) == 1) = true := rfl
    have hl : leafT l[at_] = nameT (l[at_]).v.n := by unfold leafT; rw [if_neg (by rw [ho]; decide)]
    rw [hl]
    simp only [ho] at g0
    simp only [p0, l0, g0, e0, e1, freeze2_str, Int.toNat_natCast, call_pure pure34 rfl (rName_ok (alone_name ha ho)), run_exit_start, exit_here, exit_code, exit_inLoop, run_inBlock, n22_0, n22_1, n22_2, n22_3, n22_4, n22_5, n22_6, n22_7, n22_8, n22_9, n22_10, n22_11, n22_12, n22_13, n22_14, n22_15, n22_16, n22_17, n22_18, n22_19, n22_21, n22_22, n22_23, n22_24, n22_25, n22_26, n22_27, n22_28, n22_29, n22_30, n22_31, n22_32, n22_33, n22_34, n22_35, n22_36, n22_37, n22_38, n22_39, n22_40, n22_41, n22_42, n22_43, o22_1, o22_3, o22_6, o22_9, o22_14, o22_17, o22_21, o22_23, o22_26, o22_31, o22_38, o22_39, o22_40, o22_42, res22, TT_3, TT_4, TT_5, TT_9, TT_21, TT_22, TT_25, TT_33, TT_35, TT_37, TT_39, TT_47, TT_52, TT_56, TT_59, TT_60, TT_62, TT_63, TT_65, TT_73, TT_77, TT_82, TT_84, bb, primP, primM, ev, evs, parts_, ofConst, bin, un, intBin, putA, enterT, Nat.reduceEqDiff, Nat.reduceAdd, Nat.reduceMul, Nat.reduceLeDiff, Nat.reduceLT, ↓reduceIte, reduceCtorEq, RunRes, resultsA, oneOf, AV.plain, AV.cells, AHeap.push, AHeap.set, AHeap.empty, fieldOf, loadA, storeA, BX.part, TK.isAgg, convA, builtinA, inertB, builtinP, buildA, fillA, splice, eqv, cellsEq, sizeT, adT, ldT, fwT, Nat.reduceBeqDiff, Nat.reduceBneDiff, Int.reduceBNe, Int.reduceBEq, Int.reduceEq, Int.reduceLT, Int.reduceLE, Int.reduceAdd, Int.reduceSub, Int.reduceMul, Int.reduceNeg, strBin, indexAddrA, elems, lenOf, chunk, List.reduceReplicate, Int.reduceToNat]
theorem rw_node {l : List Nd} {at_ : Nat} {n : Nd} {cs : List Bytes} (hle : l.length ≤ 1000) (hlt : at_ < l.length) (hg : l[at_] = n) (ho : isOp n.op = true) (hm : (spread cs).length ≤ 100000000) (hr : LpR l n cs (at_ + 1) 0) : RW l at_ (nodeT n cs) := by
  subst hg
  refine pcall_run (noext _) body22 ?_
  have p0 : (0 : Int) ≤ (at_ : Int) := by omega
  have l0 : (at_ : Int) < ((l.map encN).length : Int) := by rw [List.length_map]; omega
  have g0 := encN_get hlt
  have ho' := ho
  unfold isOp at ho'
  simp only [Bool.and_eq_true, decide_eq_true_eq] at ho'
  have e0 : ((l[at_]).op == 0) = false := by rw [beq_eq_false_iff_ne]; omega
  have e1 : ((l[at_]).op == 1) = false := by rw [beq_eq_false_iff_ne]; omega
  have hwl := word_len ho
  have w1 : IntKind.i64.wrap ((at_ : Int) + 1) = ((at_ + 1 : Nat) : Int) := by rw [wr64 (by omega) (by omega)]; omega
  have hnT : nodeT l[at_] cs = (40 :: wordM (l[at_]).op) ++ spread cs ++ [41] := by simp [nodeT, spread]
  rw [hnT]
  have hml : (1 + (wordM (l[at_]).op).length ≤ 9223372036854775807) = True := eq_true (by omega)
  simp only [p0, l0, g0, e0, e1, w1, hml, Int.toNat_natCast, List.length_singleton, call_pure pure19 rfl (rWord_ok (l[at_]).op), run_exit_start, exit_here, exit_code, exit_inLoop, run_inBlock, n22_0, n22_1, n22_2, n22_3, n22_4, n22_5, n22_6, n22_7, n22_8, n22_9, n22_10, n22_11, n22_12, n22_13, n22_14, n22_15, n22_16, n22_17, n22_18, n22_19, n22_20, n22_21, n22_22, n22_23, n22_24, n22_25, n22_26, n22_27, n22_28, n22_30, n22_31, n22_32, n22_33, n22_34, n22_35, n22_36, n22_37, n22_38, n22_39, n22_40, n22_42, n22_43, o22_1, o22_3, o22_6, o22_9, o22_14, o22_17, o22_21, o22_23, o22_26, o22_31, o22_38, o22_39, o22_40, o22_42, res22, TT_3, TT_4, TT_5, TT_9, TT_21, TT_22, TT_25, TT_33, TT_35, TT_37, TT_39, TT_47, TT_52, TT_56, TT_59, TT_60, TT_62, TT_63, TT_65, TT_73, TT_77, TT_82, TT_84, bb, primP, primM, ev, evs, parts_, ofConst, bin, un, intBin, putA, enterT, Nat.reduceEqDiff, Nat.reduceAdd, Nat.reduceMul, Nat.reduceLeDiff, Nat.reduceLT, ↓reduceIte, reduceCtorEq, RunRes, resultsA, oneOf, AV.plain, AV.cells, AHeap.push, AHeap.set, AHeap.empty, fieldOf, loadA, storeA, BX.part, TK.isAgg, convA, builtinA, inertB, builtinP, buildA, fillA, splice, eqv, cellsEq, sizeT, adT, ldT, fwT, Nat.reduceBeqDiff, Nat.reduceBneDiff, Int.reduceBNe, Int.reduceBEq, Int.reduceEq, Int.reduceLT, Int.reduceLE, Int.reduceAdd, Int.reduceSub, Int.reduceMul, Int.reduceNeg, strBin, indexAddrA, elems, lenOf, chunk, List.reduceReplicate, Int.reduceToNat]
  refine hr _ _ _ (40 :: wordM (l[at_]).op) ?_ ?_ ?_ ?_ ?_ ?_ (by rw [List.length_cons]; omega)
  all_goals simp only [upd_app, enterT, List.getElem?_cons_zero, List.getElem?_cons_succ, Option.getD_some, Nat.reduceEqDiff, ↓reduceIte]
  all_goals rfl
theorem spread_le {b : Bytes} {bs : List Bytes} : (spread bs).length ≤ (spread (b :: bs)).length := by
  rw [spread_cons, List.length_cons, List.length_append]; omega
theorem lpR_all {l : List Nd} (hl : l.length ≤ 400) {d k : Nat} {e : List Nd} {bs : List Bytes} (h : Es d k e bs) : d ≤ 24 → ∀ {n : Nd} {at_ i : Nat} {post : List Nd}, l.drop at_ = e ++ post → partsM n.op = i + k → partsM n.op ≤ 3 → LpR l n bs at_ i := by
  induction h with
  | nil =>
    intro hd24 n at_ i post hd hk h3
    exact lpR_end (by omega)
  | @leaf d k n ls bs h hs ih =>
    intro hd24 n' at_ i post hd hk h3
    rw [List.cons_append] at hd
    obtain ⟨hlt, hg, hd2⟩ := drop_nd hd
    refine lpR_step (m := 1) (by omega) h3 (rw_leaf hlt hg h) ?_ (ih hd24 hd2 (by omega) h3)
    exact rEnd_ok (by omega) hd24 (Es.leaf (d := d) h (.nil _)) (at_ := at_) (post := ls ++ post) hd
  | @node d k n ps ls cs bs h hz hp hs ih1 ih2 =>
    intro hd24 n' at_ i post hd hk h3
    have hsz := hp.blen
    rw [List.cons_append, List.append_assoc] at hd
    obtain ⟨hlt, hg, hd2⟩ := drop_nd hd
    have hpp := parts_pos h
    have hle : ps.length ≤ l.length := by
      have := congrArg List.length hd2
      rw [List.length_drop, List.length_append] at this
      omega
    have hd3 : l.drop (at_ + (ps.length + 1)) = ls ++ post := by
      rw [show at_ + (ps.length + 1) = at_ + 1 + ps.length by omega, ← List.drop_drop, hd2, List.drop_left]
    refine lpR_step (m := ps.length + 1) (by omega) h3 (rw_node (by omega) hlt hg h (by omega) (ih1 (by omega) hd2 (by omega) hpp.2)) ?_ (ih2 hd24 hd3 (by omega) h3)
    have := rEnd_ok (l := l) (by omega) hd24 (Es.node (k := 0) (bs := []) h hz hp (.nil _)) (at_ := at_) (post := ls ++ post) (by rw [List.append_nil]; exact hd)
    rw [List.append_nil, List.length_cons] at this
    exact this
theorem rw_all {l : List Nd} (hl : l.length ≤ 400) {d : Nat} (hd24 : d ≤ 24) {b : Bytes} {e post : List Nd} {at_ : Nat} (h : Es d 1 e [b]) (hd : l.drop at_ = e ++ post) : RW l at_ b := by
  cases h with
  | leaf h hs =>
    cases hs
    obtain ⟨hlt, hg, hd2⟩ := drop_nd hd
    exact rw_leaf hlt hg h
  | @node d k n ps ls cs bs h hz hp hs =>
    cases hs
    have hsz := hp.blen
    rw [List.append_nil, List.cons_append] at hd
    obtain ⟨hlt, hg, hd2⟩ := drop_nd hd
    have hle : ps.length ≤ l.length := by
      have := congrArg List.length hd2
      rw [List.length_drop, List.length_append] at this
      omega
    exact rw_node (by omega) hlt hg h (by omega) (lpR_all hl hp (by omega) hd2 (by omega) (parts_pos h).2)
end Go.Proofs.Ytkedlkcknhinoaa.G

namespace Go.Proofs.Ytkedlkcknhinoaa.G
open Go.BX
set_option linter.unusedSimpArgs false
set_option linter.unusedVariables false
theorem awake08_ok : PCall Cx 7 [] (.bool true) := ⟨3000, by kernel_rfl⟩
theorem slice_vec {l : List Nd} {x n : Nat} (h : x + n ≤ l.length) : sliceA Cx 25 (.vec 6 (l.map encN)) (some (.int .i64 (x : Int))) (some (.int .i64 ((x + n : Nat) : Int))) none = some (.vec 6 (((l.drop x).take n).map encN)) := by
  unfold sliceA
  rw [TT_25]
  have hs : sizeT Cx 37 = some 6 := by unfold sizeT; rw [TT_37]; rfl
  simp only [hs, if_pos, bnds, bound, evo, List.length_map]
  rw [if_pos (by omega)]
  simp only [Int.toNat_natCast]
  rw [if_pos (by omega)]
  simp only [Option.map_some, Option.some.injEq, AV.vec.injEq, true_and]
  rw [← List.map_take, ← List.map_drop, List.drop_take, show x + n - x = n by omega]
def PXE (l : List Nd) (k fin : Nat) (i pos : Nat) : Prop :=
  ∀ (T : Nat → AV) (H : AHeap), T 5 = .vec 6 (l.map encN) → T 6 = .int .i64 (fin : Int) → T 9 = .int .i64 (k : Int) → T 11 = .int .i64 (pos : Int) → T 12 = .int .i64 (i : Int) →
    Run Cx 3 T [] none [.inLoop c3_39, .inBlock 0, .code c3_59] H (fun r0 H' => BX.freeze H' r0 = some (.bool true))
theorem px_all {l : List Nd} (hn : numL l) (hr : rightM l = true) {k fin : Nat} (hk : k ≤ 3) : ∀ (j i pos : Nat) (d : Nat) (cs : List Nd) (bs : List Bytes) (post : List Nd), i + j = k → Es d j cs bs → l.drop pos = cs ++ post → fin = pos + cs.length → PXE l k fin i pos := by
  intro j
  induction j with
  | zero =>
    intro i pos d cs bs post hij hs hd hf T H t5 t6 t9 t11 t12
    cases hs
    rw [run_inLoop]
    have hf' : fin = pos := by simpa using hf
    subst hf'
    have c0 : ¬ (i : Int) < (k : Int) := by omega
    simp only [t5, t6, t9, t11, t12, c0, beq_self_eq_true, run_exit_start, exit_here, exit_code, exit_inLoop, run_inBlock, n3_0, n3_1, n3_2, n3_3, n3_4, n3_5, n3_6, n3_7, n3_8, n3_9, n3_10, n3_11, n3_12, n3_13, n3_14, n3_15, n3_16, n3_17, n3_18, n3_19, n3_20, n3_21, n3_22, n3_23, n3_24, n3_25, n3_26, n3_27, n3_28, n3_29, n3_30, n3_31, n3_32, n3_33, n3_34, n3_35, n3_36, n3_37, n3_38, n3_39, n3_40, n3_41, n3_42, n3_43, n3_44, n3_45, n3_46, n3_47, n3_48, n3_49, n3_50, n3_51, n3_52, n3_53, n3_54, n3_55, n3_56, n3_57, n3_58, n3_59, n3_60, n3_61, o3_1, o3_4, o3_7, o3_11, o3_13, o3_16, o3_19, o3_24, o3_27, o3_31, o3_33, o3_36, o3_41, o3_48, o3_51, o3_54, o3_57, o3_58, o3_60, res3, TT_3, TT_4, TT_5, TT_9, TT_21, TT_22, TT_25, TT_33, TT_35, TT_37, TT_39, TT_47, TT_52, TT_56, TT_59, TT_60, TT_62, TT_63, TT_65, TT_73, TT_77, TT_82, TT_84, bb, primP, primM, ev, evs, parts_, ofConst, bin, un, intBin, putA, enterT, Nat.reduceEqDiff, Nat.reduceAdd, Nat.reduceMul, Nat.reduceLeDiff, Nat.reduceLT, ↓reduceIte, reduceCtorEq, RunRes, resultsA, oneOf, AV.plain, AV.cells, AHeap.push, AHeap.set, AHeap.empty, fieldOf, loadA, storeA, BX.part, TK.isAgg, convA, builtinA, inertB, builtinP, buildA, fillA, splice, eqv, cellsEq, sizeT, adT, ldT, fwT, Nat.reduceBeqDiff, Nat.reduceBneDiff, Int.reduceBNe, Int.reduceBEq, Int.reduceEq, Int.reduceLT, Int.reduceLE, Int.reduceAdd, Int.reduceSub, Int.reduceMul, Int.reduceNeg, strBin, indexAddrA, elems, lenOf, chunk, List.reduceReplicate, Int.reduceToNat]
  | succ j ih =>
    intro i pos d cs bs post hij hs hd hf T H t5 t6 t9 t11 t12
    obtain ⟨e, ls, b, bs', rfl, rfl, he, hls⟩ := hs.split
    rw [List.append_assoc] at hd
    have hel := he.len.1
    have hlt : pos < l.length := by
      rcases Nat.lt_or_ge pos l.length with h | h
      · exact h
      · rw [List.drop_of_length_le h] at hd
        have := congrArg List.length hd
        simp only [List.length_nil, List.length_append] at this
        omega
    have hle := (right_iff.mp hr).1
    have hd2 : l.drop (pos + e.length) = ls ++ post := by rw [← List.drop_drop, hd, List.drop_left]
    have hel2 : e.length ≤ l.length := by
      have := congrArg List.length hd
      simp only [List.length_append, List.length_drop] at this
      omega
    have hy := End_yes hn hr he hlt hd
    rw [run_inLoop]
    have c0 : (i : Int) < (k : Int) := by omega
    have c1 : ¬ ((pos + e.length : Nat) : Int) ≤ (pos : Int) := by omega
    have w1 : IntKind.i64.wrap ((i : Int) + 1) = ((i + 1 : Nat) : Int) := by rw [wr64 (by omega) (by omega)]; omega
    simp only [t5, t6, t9, t11, t12, c0, c1, w1, call_pure pure10 rfl hy, run_exit_start, exit_here, exit_code, exit_inLoop, run_inBlock, n3_0, n3_1, n3_2, n3_3, n3_4, n3_5, n3_6, n3_7, n3_8, n3_9, n3_10, n3_11, n3_12, n3_13, n3_14, n3_15, n3_16, n3_17, n3_18, n3_19, n3_20, n3_21, n3_22, n3_23, n3_24, n3_25, n3_26, n3_27, n3_28, n3_29, n3_30, n3_31, n3_32, n3_33, n3_34, n3_35, n3_36, n3_37, n3_38, n3_39, n3_40, n3_41, n3_42, n3_43, n3_44, n3_45, n3_46, n3_47, n3_48, n3_49, n3_50, n3_51, n3_52, n3_53, n3_54, n3_55, n3_56, n3_57, n3_58, n3_60, n3_61, o3_1, o3_4, o3_7, o3_11, o3_13, o3_16, o3_19, o3_24, o3_27, o3_31, o3_33, o3_36, o3_41, o3_48, o3_51, o3_54, o3_57, o3_58, o3_60, res3, TT_3, TT_4, TT_5, TT_9, TT_21, TT_22, TT_25, TT_33, TT_35, TT_37, TT_39, TT_47, TT_52, TT_56, TT_59, TT_60, TT_62, TT_63, TT_65, TT_73, TT_77, TT_82, TT_84, bb, primP, primM, ev, evs, parts_, ofConst, bin, un, intBin, putA, enterT, Nat.reduceEqDiff, Nat.reduceAdd, Nat.reduceMul, Nat.reduceLeDiff, Nat.reduceLT, ↓reduceIte, reduceCtorEq, RunRes, resultsA, oneOf, AV.plain, AV.cells, AHeap.push, AHeap.set, AHeap.empty, fieldOf, loadA, storeA, BX.part, TK.isAgg, convA, builtinA, inertB, builtinP, buildA, fillA, splice, eqv, cellsEq, sizeT, adT, ldT, fwT, Nat.reduceBeqDiff, Nat.reduceBneDiff, Int.reduceBNe, Int.reduceBEq, Int.reduceEq, Int.reduceLT, Int.reduceLE, Int.reduceAdd, Int.reduceSub, Int.reduceMul, Int.reduceNeg, strBin, indexAddrA, elems, lenOf, chunk, List.reduceReplicate, Int.reduceToNat]
    refine ih (i + 1) (pos + e.length) d ls bs' post (by omega) hls hd2 (by rw [hf, List.length_append]; omega) _ _ ?_ ?_ ?_ ?_ ?_
    all_goals simp only [upd_app, t5, t6, t9, Nat.reduceEqDiff, ↓reduceIte]
theorem ExprEnds_ok {v : AV} {l : List Nd} {at_ : Int} (hv : InN v l) (hn : numL l) (hl : l.length ≤ maxLen) (h1 : -9223372036854775808 ≤ at_) (h2 : at_ ≤ 9223372036854775807) : PCall Cx 3 [v, .int .i64 at_] (.bool true) := by
  refine pcall_run (noext _) body3 ?_
  have f0 : [v].all AV.flat = true := by simp [hv.flat]
  obtain ⟨b, hb, hfew⟩ := few_ok hv
  cases b with
  | false =>
    simp only [call_pure pure7 rfl awake08_ok, call_pure pure8 f0 hfew, n3_0, n3_1, n3_2, n3_3, n3_4, n3_5, n3_6, n3_7, n3_8, n3_9, n3_10, n3_11, n3_12, n3_13, n3_14, n3_15, n3_16, n3_17, n3_18, n3_19, n3_20, n3_21, n3_22, n3_23, n3_24, n3_25, n3_26, n3_27, n3_28, n3_29, n3_30, n3_31, n3_32, n3_33, n3_34, n3_35, n3_36, n3_37, n3_38, n3_39, n3_40, n3_41, n3_42, n3_43, n3_44, n3_45, n3_46, n3_47, n3_48, n3_49, n3_50, n3_51, n3_52, n3_53, n3_54, n3_55, n3_56, n3_57, n3_58, n3_59, n3_60, n3_61, o3_1, o3_4, o3_7, o3_11, o3_13, o3_16, o3_19, o3_24, o3_27, o3_31, o3_33, o3_36, o3_41, o3_48, o3_51, o3_54, o3_57, o3_58, o3_60, res3, TT_3, TT_4, TT_5, TT_9, TT_21, TT_22, TT_25, TT_33, TT_35, TT_37, TT_39, TT_47, TT_52, TT_56, TT_59, TT_60, TT_62, TT_63, TT_65, TT_73, TT_77, TT_82, TT_84, bb, primP, primM, ev, evs, parts_, ofConst, bin, un, intBin, putA, enterT, Nat.reduceEqDiff, Nat.reduceAdd, Nat.reduceMul, Nat.reduceLeDiff, Nat.reduceLT, ↓reduceIte, reduceCtorEq, RunRes, resultsA, oneOf, AV.plain, AV.cells, AHeap.push, AHeap.set, AHeap.empty, fieldOf, loadA, storeA, BX.part, TK.isAgg, convA, builtinA, inertB, builtinP, buildA, fillA, splice, eqv, cellsEq, sizeT, adT, ldT, fwT, Nat.reduceBeqDiff, Nat.reduceBneDiff, Int.reduceBNe, Int.reduceBEq, Int.reduceEq, Int.reduceLT, Int.reduceLE, Int.reduceAdd, Int.reduceSub, Int.reduceMul, Int.reduceNeg, strBin, indexAddrA, elems, lenOf, chunk, List.reduceReplicate, Int.reduceToNat]
  | true =>
    have hl450 := hb rfl
    obtain ⟨w, hw, hof⟩ := Of_ok hv (by omega)
    have fw : [w, AV.int .i64 at_].all AV.flat = true := by simp only [List.all_cons, List.all_nil, hw.flat, Bool.and_true, Bool.true_and]; rfl
    by_cases hno : at_ < 0 ∨ (l.length : Int) ≤ at_ ∨ rightM l = false
    · have he := End_no hw hn (by omega) hno
      simp only [call_pure pure7 rfl awake08_ok, call_pure pure8 f0 hfew, call_pure pure9 f0 hof, call_pure pure10 fw he, n3_0, n3_1, n3_2, n3_3, n3_4, n3_5, n3_6, n3_7, n3_8, n3_9, n3_10, n3_11, n3_12, n3_13, n3_14, n3_15, n3_16, n3_17, n3_18, n3_19, n3_20, n3_21, n3_22, n3_23, n3_24, n3_25, n3_26, n3_27, n3_28, n3_29, n3_30, n3_31, n3_32, n3_33, n3_34, n3_35, n3_36, n3_37, n3_38, n3_39, n3_40, n3_41, n3_42, n3_43, n3_44, n3_45, n3_46, n3_47, n3_48, n3_49, n3_50, n3_51, n3_52, n3_53, n3_54, n3_55, n3_56, n3_57, n3_58, n3_59, n3_60, n3_61, o3_1, o3_4, o3_7, o3_11, o3_13, o3_16, o3_19, o3_24, o3_27, o3_31, o3_33, o3_36, o3_41, o3_48, o3_51, o3_54, o3_57, o3_58, o3_60, res3, TT_3, TT_4, TT_5, TT_9, TT_21, TT_22, TT_25, TT_33, TT_35, TT_37, TT_39, TT_47, TT_52, TT_56, TT_59, TT_60, TT_62, TT_63, TT_65, TT_73, TT_77, TT_82, TT_84, bb, primP, primM, ev, evs, parts_, ofConst, bin, un, intBin, putA, enterT, Nat.reduceEqDiff, Nat.reduceAdd, Nat.reduceMul, Nat.reduceLeDiff, Nat.reduceLT, ↓reduceIte, reduceCtorEq, RunRes, resultsA, oneOf, AV.plain, AV.cells, AHeap.push, AHeap.set, AHeap.empty, fieldOf, loadA, storeA, BX.part, TK.isAgg, convA, builtinA, inertB, builtinP, buildA, fillA, splice, eqv, cellsEq, sizeT, adT, ldT, fwT, Nat.reduceBeqDiff, Nat.reduceBneDiff, Int.reduceBNe, Int.reduceBEq, Int.reduceEq, Int.reduceLT, Int.reduceLE, Int.reduceAdd, Int.reduceSub, Int.reduceMul, Int.reduceNeg, strBin, indexAddrA, elems, lenOf, chunk, List.reduceReplicate, Int.reduceToNat]
    · simp only [not_or, Int.not_lt, Int.not_le, Bool.not_eq_false] at hno
      obtain ⟨n1, n2, hr⟩ := hno
      obtain ⟨x, rfl⟩ : ∃ x : Nat, at_ = (x : Int) := ⟨at_.toNat, by omega⟩
      have hx : x < l.length := by omega
      have hle := (right_iff.mp hr).1
      obtain ⟨_, bt, hall⟩ := right_iff.mp hr
      obtain ⟨d', e, post, be, hd, he, hd24⟩ := hall.at x hx
      have hne : l ≠ [] := by intro h; rw [h] at hx; simp at hx
      obtain rfl := hw.vec hne
      have hy := End_yes hn hr he hx hd
      have hel := he.len.1
      have hlen := congrArg List.length hd
      simp only [List.length_append, List.length_drop] at hlen
      have hsl := slice_vec (l := l) (x := x) (n := e.length) (by omega)
      have htk : (l.drop x).take e.length = e := by rw [hd, List.take_left]
      rw [htk] at hsl
      have hne2 : numL e := by
        intro n hm
        refine hn n ?_
        have : n ∈ l.drop x := by rw [hd]; simp [hm]
        exact List.mem_of_mem_drop this
      have hre : rightM e = true := right_iff.mpr ⟨by omega, be, he.up hd24⟩
      have hro := ERight_ok (v := .vec 6 (e.map encN)) (.inr rfl) hne2 (by omega)
      rw [hre] at hro
      have p0 : (0 : Int) ≤ (x : Int) := by omega
      have l0 : (x : Int) < ((l.map encN).length : Int) := by rw [List.length_map]; omega
      have g0 := encN_get hx
      have hpa := Parts_ok (l[x]).op (hn _ (List.getElem_mem hx)).1 (hn _ (List.getElem_mem hx)).2
      have w1 : IntKind.i64.wrap ((x : Int) + 1) = ((x + 1 : Nat) : Int) := by rw [wr64 (by omega) (by omega)]; omega
      simp only [p0, l0, g0, w1, hsl, evo, Int.toNat_natCast, call_pure pure7 rfl awake08_ok, call_pure pure8 f0 hfew, call_pure pure9 f0 hof, call_pure pure10 fw hy, call_pure pure11 rfl hro, call_pure pure12 rfl hpa, n3_0, n3_1, n3_2, n3_3, n3_4, n3_5, n3_6, n3_7, n3_8, n3_9, n3_10, n3_11, n3_12, n3_13, n3_14, n3_15, n3_16, n3_17, n3_18, n3_19, n3_20, n3_21, n3_22, n3_23, n3_24, n3_25, n3_26, n3_27, n3_28, n3_29, n3_30, n3_31, n3_32, n3_33, n3_34, n3_35, n3_36, n3_37, n3_38, n3_40, n3_41, n3_42, n3_43, n3_44, n3_45, n3_46, n3_47, n3_48, n3_49, n3_50, n3_51, n3_52, n3_53, n3_54, n3_55, n3_56, n3_57, n3_58, n3_60, n3_61, o3_1, o3_4, o3_7, o3_11, o3_13, o3_16, o3_19, o3_24, o3_27, o3_31, o3_33, o3_36, o3_41, o3_48, o3_51, o3_54, o3_57, o3_58, o3_60, res3, TT_3, TT_4, TT_5, TT_9, TT_21, TT_22, TT_25, TT_33, TT_35, TT_37, TT_39, TT_47, TT_52, TT_56, TT_59, TT_60, TT_62, TT_63, TT_65, TT_73, TT_77, TT_82, TT_84, bb, primP, primM, ev, evs, parts_, ofConst, bin, un, intBin, putA, enterT, Nat.reduceEqDiff, Nat.reduceAdd, Nat.reduceMul, Nat.reduceLeDiff, Nat.reduceLT, ↓reduceIte, reduceCtorEq, RunRes, resultsA, oneOf, AV.plain, AV.cells, AHeap.push, AHeap.set, AHeap.empty, fieldOf, loadA, storeA, BX.part, TK.isAgg, convA, builtinA, inertB, builtinP, buildA, fillA, splice, eqv, cellsEq, sizeT, adT, ldT, fwT, Nat.reduceBeqDiff, Nat.reduceBneDiff, Int.reduceBNe, Int.reduceBEq, Int.reduceEq, Int.reduceLT, Int.reduceLE, Int.reduceAdd, Int.reduceSub, Int.reduceMul, Int.reduceNeg, strBin, indexAddrA, elems, lenOf, chunk, List.reduceReplicate, Int.reduceToNat]
      have hcs : ∃ d cs bs, Es d (partsM (l[x]).op) cs bs ∧ l.drop (x + 1) = cs ++ post ∧ x + e.length = (x + 1) + cs.length ∧ partsM (l[x]).op ≤ 3 := by
        cases he with
        | leaf h hs =>
          cases hs
          obtain ⟨_, hg, hd2⟩ := drop_nd hd
          refine ⟨0, [], [], ?_, hd2, rfl, ?_⟩
          · rw [hg, (parts_no (alone_op h).1).1]; exact .nil _
          · rw [hg, (parts_no (alone_op h).1).1]; omega
        | node h hz hp hs =>
          cases hs
          rw [List.append_nil, List.cons_append] at hd
          obtain ⟨_, hg, hd2⟩ := drop_nd hd
          refine ⟨_, _, _, by rw [hg]; exact hp, hd2, ?_, ?_⟩
          · simp only [List.append_nil, List.length_cons]; omega
          · rw [hg]; exact (parts_pos h).2
      obtain ⟨d, cs, bs, c1, c2, c3, c4⟩ := hcs
      refine px_all hn hr c4 (partsM (l[x]).op) 0 (x + 1) d cs bs post (by omega) c1 c2 c3 _ _ ?_ ?_ ?_ ?_ ?_
      all_goals simp only [upd_app, enterT, List.getElem?_cons_zero, List.getElem?_cons_succ, Option.getD_some, Nat.reduceEqDiff, ↓reduceIte]
      all_goals rfl
end Go.Proofs.Ytkedlkcknhinoaa.G

namespace Go.Proofs.Ytkedlkcknhinoaa.G
open Go.BX
set_option linter.unusedSimpArgs false
set_option linter.unusedVariables false
theorem ep_tail {l : List Nd} {b : Bytes} {T : Nat → AV} {h : Nat} {A : Nat → Blk} (hw : RW l 0 b) (t0 : T 0 = .vec 6 (l.map encN)) (t10 : T 10 = .ptr 0 5 0 0) (t16 : T 16 = .ptr 1 5 0 0) (t11 : T 11 = .str (if 4096 < b.length then [] else b)) (t12 : T 12 = .int .i64 (if 4096 < b.length then 3 else 0)) (a0 : A 0 = .cells 47 5 [arrR (nameF l)]) (a1 : A 1 = .cells 47 5 [arrR (nameF l)]) :
    Run Cx 6 T [] none [.code c6_65] ⟨h, A⟩ (fun r0 H' => BX.freeze H' r0 = some (.bool true)) := by
  unfold arrR at a0 a1
  have hw' : PCall Cx 22 [.vec 6 (l.map encN), .int .i64 0] (.str b) := hw
  by_cases h4 : 4096 < b.length
  · rw [if_pos h4] at t11 t12
    have c4 : (4096 : Int) < (b.length : Int) := by omega
    have e1 : (([] : Bytes) == []) = true := rfl
    simp only [t0, t10, t11, t12, t16, a0, a1, c4, e1, lenOf, i64, beq_self_eq_true, Bool.and_self, Bool.and_true, call_pure pure22 rfl hw', run_exit_start, exit_here, exit_code, exit_inLoop, run_inBlock, n6_0, n6_1, n6_2, n6_3, n6_4, n6_5, n6_6, n6_7, n6_8, n6_9, n6_10, n6_11, n6_12, n6_13, n6_14, n6_15, n6_16, n6_17, n6_18, n6_19, n6_20, n6_21, n6_22, n6_23, n6_24, n6_25, n6_26, n6_27, n6_28, n6_29, n6_30, n6_31, n6_32, n6_33, n6_34, n6_35, n6_36, n6_37, n6_38, n6_39, n6_40, n6_41, n6_42, n6_43, n6_44, n6_45, n6_46, n6_47, n6_48, n6_49, n6_50, n6_51, n6_52, n6_53, n6_54, n6_55, n6_56, n6_57, n6_58, n6_59, n6_60, n6_61, n6_62, n6_63, n6_64, n6_65, n6_66, n6_67, n6_68, n6_69, o6_1, o6_4, o6_7, o6_11, o6_13, o6_15, o6_17, o6_19, o6_22, o6_25, o6_30, o6_33, o6_38, o6_41, o6_45, o6_48, o6_53, o6_60, o6_62, o6_64, o6_66, o6_68, res6, TT_3, TT_4, TT_5, TT_9, TT_21, TT_22, TT_25, TT_33, TT_35, TT_37, TT_39, TT_47, TT_52, TT_56, TT_59, TT_60, TT_62, TT_63, TT_65, TT_73, TT_77, TT_82, TT_84, bb, primP, primM, ev, evs, parts_, ofConst, bin, un, intBin, putA, enterT, Nat.reduceEqDiff, Nat.reduceAdd, Nat.reduceMul, Nat.reduceLeDiff, Nat.reduceLT, ↓reduceIte, reduceCtorEq, RunRes, resultsA, oneOf, AV.plain, AV.cells, AHeap.push, AHeap.set, AHeap.empty, fieldOf, loadA, storeA, BX.part, TK.isAgg, convA, builtinA, inertB, builtinP, buildA, fillA, splice, eqv, cellsEq, sizeT, adT, ldT, fwT, Nat.reduceBeqDiff, Nat.reduceBneDiff, Int.reduceBNe, Int.reduceBEq, Int.reduceEq, Int.reduceLT, Int.reduceLE, Int.reduceAdd, Int.reduceSub, Int.reduceMul, Int.reduceNeg, strBin, indexAddrA, elems, lenOf, chunk, List.reduceReplicate, Int.reduceToNat]
  · rw [if_neg h4] at t11 t12
    have c4 : ¬ (4096 : Int) < (b.length : Int) := by omega
    have c5 : (b.length : Int) ≤ (4096 : Int) := by omega
    simp only [t0, t10, t11, t12, t16, a0, a1, c4, c5, lenOf, i64, beq_self_eq_true, Bool.and_self, Bool.and_true, call_pure pure22 rfl hw', run_exit_start, exit_here, exit_code, exit_inLoop, run_inBlock, n6_0, n6_1, n6_2, n6_3, n6_4, n6_5, n6_6, n6_7, n6_8, n6_9, n6_10, n6_11, n6_12, n6_13, n6_14, n6_15, n6_16, n6_17, n6_18, n6_19, n6_20, n6_21, n6_22, n6_23, n6_24, n6_25, n6_26, n6_27, n6_28, n6_29, n6_30, n6_31, n6_32, n6_33, n6_34, n6_35, n6_36, n6_37, n6_38, n6_39, n6_40, n6_41, n6_42, n6_43, n6_44, n6_45, n6_46, n6_47, n6_48, n6_49, n6_50, n6_51, n6_52, n6_53, n6_54, n6_55, n6_56, n6_57, n6_58, n6_59, n6_60, n6_61, n6_62, n6_63, n6_64, n6_65, n6_66, n6_67, n6_68, n6_69, o6_1, o6_4, o6_7, o6_11, o6_13, o6_15, o6_17, o6_19, o6_22, o6_25, o6_30, o6_33, o6_38, o6_41, o6_45, o6_48, o6_53, o6_60, o6_62, o6_64, o6_66, o6_68, res6, TT_3, TT_4, TT_5, TT_9, TT_21, TT_22, TT_25, TT_33, TT_35, TT_37, TT_39, TT_47, TT_52, TT_56, TT_59, TT_60, TT_62, TT_63, TT_65, TT_73, TT_77, TT_82, TT_84, bb, primP, primM, ev, evs, parts_, ofConst, bin, un, intBin, putA, enterT, Nat.reduceEqDiff, Nat.reduceAdd, Nat.reduceMul, Nat.reduceLeDiff, Nat.reduceLT, ↓reduceIte, reduceCtorEq, RunRes, resultsA, oneOf, AV.plain, AV.cells, AHeap.push, AHeap.set, AHeap.empty, fieldOf, loadA, storeA, BX.part, TK.isAgg, convA, builtinA, inertB, builtinP, buildA, fillA, splice, eqv, cellsEq, sizeT, adT, ldT, fwT, Nat.reduceBeqDiff, Nat.reduceBneDiff, Int.reduceBNe, Int.reduceBEq, Int.reduceEq, Int.reduceLT, Int.reduceLE, Int.reduceAdd, Int.reduceSub, Int.reduceMul, Int.reduceNeg, strBin, indexAddrA, elems, lenOf, chunk, List.reduceReplicate, Int.reduceToNat]
theorem ep_all {l : List Nd} {b : Bytes} (hw : RW l 0 b) (hl : l.length ≤ 1000) (hr : ∀ n, n ∈ l → n.op = 1 → n.v.n = 0 ∨ n.v.n = 1 ∨ n.v.n = 2 ∨ n.v.n = 3 ∨ n.v.n = 4) :
    ∀ (j i : Nat) (T : Nat → AV) (h : Nat) (A : Nat → Blk), i + j = l.length → T 0 = .vec 6 (l.map encN) → T 17 = .int .i64 (i : Int) → T 10 = .ptr 0 5 0 0 → T 16 = .ptr 1 5 0 0 → T 11 = .str (if 4096 < b.length then [] else b) → T 12 = .int .i64 (if 4096 < b.length then 3 else 0) → A 0 = .cells 47 5 [arrR (nameF l)] → A 1 = .cells 47 5 [arrR (nameF (l.take i))] →
      Run Cx 6 T [] none [.inLoop c6_51, .inBlock 0, .code c6_65] ⟨h, A⟩ (fun r0 H' => BX.freeze H' r0 = some (.bool true))
  | 0, i, T, h, A, hij, t0, t17, t10, t16, t11, t12, a0, a1 => by
    rw [run_inLoop]
    have c0 : ¬ (i : Int) < ((l.map encN).length : Int) := by rw [List.length_map]; omega
    rw [List.take_of_length_le (by omega)] at a1
    simp only [t0, t17, c0, lenOf, i64, run_exit_start, exit_here, exit_code, exit_inLoop, run_inBlock, n6_0, n6_1, n6_2, n6_3, n6_4, n6_5, n6_6, n6_7, n6_8, n6_9, n6_10, n6_11, n6_12, n6_13, n6_14, n6_15, n6_16, n6_17, n6_18, n6_19, n6_20, n6_21, n6_22, n6_23, n6_24, n6_25, n6_26, n6_27, n6_28, n6_29, n6_30, n6_31, n6_32, n6_33, n6_34, n6_35, n6_36, n6_37, n6_38, n6_39, n6_40, n6_41, n6_42, n6_43, n6_44, n6_45, n6_46, n6_47, n6_48, n6_49, n6_50, n6_51, n6_52, n6_53, n6_54, n6_55, n6_56, n6_57, n6_58, n6_59, n6_60, n6_61, n6_62, n6_63, n6_64, n6_66, n6_67, n6_68, n6_69, o6_1, o6_4, o6_7, o6_11, o6_13, o6_15, o6_17, o6_19, o6_22, o6_25, o6_30, o6_33, o6_38, o6_41, o6_45, o6_48, o6_53, o6_60, o6_62, o6_64, o6_66, o6_68, res6, TT_3, TT_4, TT_5, TT_9, TT_21, TT_22, TT_25, TT_33, TT_35, TT_37, TT_39, TT_47, TT_52, TT_56, TT_59, TT_60, TT_62, TT_63, TT_65, TT_73, TT_77, TT_82, TT_84, bb, primP, primM, ev, evs, parts_, ofConst, bin, un, intBin, putA, enterT, Nat.reduceEqDiff, Nat.reduceAdd, Nat.reduceMul, Nat.reduceLeDiff, Nat.reduceLT, ↓reduceIte, reduceCtorEq, RunRes, resultsA, oneOf, AV.plain, AV.cells, AHeap.push, AHeap.set, AHeap.empty, fieldOf, loadA, storeA, BX.part, TK.isAgg, convA, builtinA, inertB, builtinP, buildA, fillA, splice, eqv, cellsEq, sizeT, adT, ldT, fwT, Nat.reduceBeqDiff, Nat.reduceBneDiff, Int.reduceBNe, Int.reduceBEq, Int.reduceEq, Int.reduceLT, Int.reduceLE, Int.reduceAdd, Int.reduceSub, Int.reduceMul, Int.reduceNeg, strBin, indexAddrA, elems, lenOf, chunk, List.reduceReplicate, Int.reduceToNat]
    refine ep_tail hw ?_ ?_ ?_ ?_ ?_ a0 a1
    all_goals simp only [upd_app, t0, t10, t11, t12, t16, Nat.reduceEqDiff, ↓reduceIte]
  | j + 1, i, T, h, A, hij, t0, t17, t10, t16, t11, t12, a0, a1 => by
    rw [run_inLoop]
    have hi : i < l.length := by omega
    have c0 : (i : Int) < ((l.map encN).length : Int) := by rw [List.length_map]; omega
    have p0 : (0 : Int) ≤ (i : Int) := by omega
    have g0 := encN_get hi
    have w1 : IntKind.i64.wrap ((i : Int) + 1) = ((i + 1 : Nat) : Int) := by rw [wr64 (by omega) (by omega)]; omega
    cases hop : ((l[i]).op == 1) with
    | false =>
      have hnx := nameF_skip hi hop
      simp only [t0, t17, c0, p0, g0, w1, hop, lenOf, i64, Int.toNat_natCast, run_exit_start, exit_here, exit_code, exit_inLoop, run_inBlock, n6_0, n6_1, n6_2, n6_3, n6_4, n6_5, n6_6, n6_7, n6_8, n6_9, n6_10, n6_11, n6_12, n6_13, n6_14, n6_15, n6_16, n6_17, n6_18, n6_19, n6_20, n6_21, n6_22, n6_23, n6_24, n6_25, n6_26, n6_27, n6_28, n6_29, n6_30, n6_31, n6_32, n6_33, n6_34, n6_35, n6_36, n6_37, n6_38, n6_39, n6_40, n6_41, n6_42, n6_43, n6_44, n6_45, n6_46, n6_47, n6_48, n6_49, n6_50, n6_51, n6_52, n6_53, n6_54, n6_55, n6_56, n6_57, n6_58, n6_59, n6_60, n6_61, n6_62, n6_63, n6_64, n6_66, n6_67, n6_68, n6_69, o6_1, o6_4, o6_7, o6_11, o6_13, o6_15, o6_17, o6_19, o6_22, o6_25, o6_30, o6_33, o6_38, o6_41, o6_45, o6_48, o6_53, o6_60, o6_62, o6_64, o6_66, o6_68, res6, TT_3, TT_4, TT_5, TT_9, TT_21, TT_22, TT_25, TT_33, TT_35, TT_37, TT_39, TT_47, TT_52, TT_56, TT_59, TT_60, TT_62, TT_63, TT_65, TT_73, TT_77, TT_82, TT_84, bb, primP, primM, ev, evs, parts_, ofConst, bin, un, intBin, putA, enterT, Nat.reduceEqDiff, Nat.reduceAdd, Nat.reduceMul, Nat.reduceLeDiff, Nat.reduceLT, ↓reduceIte, reduceCtorEq, RunRes, resultsA, oneOf, AV.plain, AV.cells, AHeap.push, AHeap.set, AHeap.empty, fieldOf, loadA, storeA, BX.part, TK.isAgg, convA, builtinA, inertB, builtinP, buildA, fillA, splice, eqv, cellsEq, sizeT, adT, ldT, fwT, Nat.reduceBeqDiff, Nat.reduceBneDiff, Int.reduceBNe, Int.reduceBEq, Int.reduceEq, Int.reduceLT, Int.reduceLE, Int.reduceAdd, Int.reduceSub, Int.reduceMul, Int.reduceNeg, strBin, indexAddrA, elems, lenOf, chunk, List.reduceReplicate, Int.reduceToNat]
      refine ep_all hw hl hr j (i + 1) _ _ _ (by omega) ?_ ?_ ?_ ?_ ?_ ?_ ?_ ?_
      all_goals simp only [upd_app, t0, t10, t11, t12, t16, a0, a1, hnx, Nat.reduceEqDiff, ↓reduceIte]
    | true =>
      have hv := hr l[i] (List.getElem_mem hi) (by simpa using hop)
      have hnx := nameF_next hi
      rw [hop] at hnx
      unfold arrR at a1
      rcases hv with hv | hv | hv | hv | hv <;>
      (rw [hv] at hnx g0
       simp only [t0, t16, t17, c0, p0, g0, w1, hop, a1, lenOf, i64, Int.toNat_natCast, run_exit_start, exit_here, exit_code, exit_inLoop, run_inBlock, n6_0, n6_1, n6_2, n6_3, n6_4, n6_5, n6_6, n6_7, n6_8, n6_9, n6_10, n6_11, n6_12, n6_13, n6_14, n6_15, n6_16, n6_17, n6_18, n6_19, n6_20, n6_21, n6_22, n6_23, n6_24, n6_25, n6_26, n6_27, n6_28, n6_29, n6_30, n6_31, n6_32, n6_33, n6_34, n6_35, n6_36, n6_37, n6_38, n6_39, n6_40, n6_41, n6_42, n6_43, n6_44, n6_45, n6_46, n6_47, n6_48, n6_49, n6_50, n6_51, n6_52, n6_53, n6_54, n6_55, n6_56, n6_57, n6_58, n6_59, n6_60, n6_61, n6_62, n6_63, n6_64, n6_66, n6_67, n6_68, n6_69, o6_1, o6_4, o6_7, o6_11, o6_13, o6_15, o6_17, o6_19, o6_22, o6_25, o6_30, o6_33, o6_38, o6_41, o6_45, o6_48, o6_53, o6_60, o6_62, o6_64, o6_66, o6_68, res6, TT_3, TT_4, TT_5, TT_9, TT_21, TT_22, TT_25, TT_33, TT_35, TT_37, TT_39, TT_47, TT_52, TT_56, TT_59, TT_60, TT_62, TT_63, TT_65, TT_73, TT_77, TT_82, TT_84, bb, primP, primM, ev, evs, parts_, ofConst, bin, un, intBin, putA, enterT, Nat.reduceEqDiff, Nat.reduceAdd, Nat.reduceMul, Nat.reduceLeDiff, Nat.reduceLT, ↓reduceIte, reduceCtorEq, RunRes, resultsA, oneOf, AV.plain, AV.cells, AHeap.push, AHeap.set, AHeap.empty, fieldOf, loadA, storeA, BX.part, TK.isAgg, convA, builtinA, inertB, builtinP, buildA, fillA, splice, eqv, cellsEq, sizeT, adT, ldT, fwT, Nat.reduceBeqDiff, Nat.reduceBneDiff, Int.reduceBNe, Int.reduceBEq, Int.reduceEq, Int.reduceLT, Int.reduceLE, Int.reduceAdd, Int.reduceSub, Int.reduceMul, Int.reduceNeg, strBin, indexAddrA, elems, lenOf, chunk, List.reduceReplicate, Int.reduceToNat]
       refine ep_all hw hl hr j (i + 1) _ _ _ (by omega) ?_ ?_ ?_ ?_ ?_ ?_ ?_ ?_
       all_goals simp only [upd_app, t0, t10, t11, t12, t16, a0, a1, hnx, Nat.reduceEqDiff, ↓reduceIte]
       all_goals (unfold arrR; simp [hnx]))
theorem ep_right {l : List Nd} {b : Bytes} {at_ : Int} {T : Nat → AV} {h : Nat} {A : Nat → Blk} {nn : Int} {ok : Bool} (hl : l.length ≤ 400) (hr : rightM l = true) (hb : Es 24 1 l [b]) (hok : ok = (decide (0 ≤ at_) && decide (at_ < (l.length : Int)))) (hend : ok = true → PCall Cx 21 [.vec 6 (l.map encN), .int .i64 at_] (.int .i64 nn))
    (t0 : T 0 = .vec 6 (l.map encN)) (t1 : T 1 = .int .i64 at_) (t7 : T 7 = .bool true) (t8 : T 8 = .int .i64 nn) (t9 : T 9 = .bool ok) (t10 : T 10 = .ptr 0 5 0 0) (t11 : T 11 = .str (if 4096 < b.length then [] else b)) (t12 : T 12 = .int .i64 (if 4096 < b.length then 3 else 0)) (hh : h = 1) (a0 : A 0 = .cells 47 5 [arrR (nameF l)]) :
    Run Cx 6 T [] none [.code c6_28] ⟨h, A⟩ (fun r0 H' => BX.freeze H' r0 = some (.bool true)) := by
  subst hh
  have hw := rw_all hl (Nat.le_refl _) hb (at_ := 0) (post := []) (by rw [List.append_nil, List.drop_zero])
  have fin : ∀ (T' : Nat → AV) (A' : Nat → Blk), T' 0 = .vec 6 (l.map encN) → T' 17 = .int .i64 0 → T' 10 = .ptr 0 5 0 0 → T' 16 = .ptr 1 5 0 0 → T' 11 = .str (if 4096 < b.length then [] else b) → T' 12 = .int .i64 (if 4096 < b.length then 3 else 0) → A' 0 = .cells 47 5 [arrR (nameF l)] → A' 1 = .cells 47 5 [[.bool false, .bool false, .bool false, .bool false, .bool false]] →
      Run Cx 6 T' [] none [.inLoop c6_51, .inBlock 0, .code c6_65] ⟨1 + 1, A'⟩ (fun r0 H' => BX.freeze H' r0 = some (.bool true)) :=
    fun T' A' s0 s17 s10 s16 s11 s12 b0 b1 => ep_all hw (by omega) (right_name hr) l.length 0 T' _ A' (by omega) s0 s17 s10 s16 s11 s12 b0 b1
  by_cases c0 : 0 ≤ at_
  · by_cases c1 : at_ < (l.length : Int)
    · have e : ok = true := by rw [hok]; simp [c0, c1]
      subst e
      have he := hend rfl
      have c1' : at_ < ((l.map encN).length : Int) := by rw [List.length_map]; exact c1
      have e1 : (true == true) = true := rfl
      simp only [t0, t1, t7, t8, t9, c0, c1', bne_self_eq_false, lenOf, i64, call_pure pure21 rfl he, run_exit_start, exit_here, exit_code, exit_inLoop, run_inBlock, n6_0, n6_1, n6_2, n6_3, n6_4, n6_5, n6_6, n6_7, n6_8, n6_9, n6_10, n6_11, n6_12, n6_13, n6_14, n6_15, n6_16, n6_17, n6_18, n6_19, n6_20, n6_21, n6_22, n6_23, n6_24, n6_25, n6_26, n6_27, n6_28, n6_29, n6_30, n6_31, n6_32, n6_33, n6_34, n6_35, n6_36, n6_37, n6_38, n6_39, n6_40, n6_41, n6_42, n6_43, n6_44, n6_45, n6_46, n6_47, n6_48, n6_49, n6_50, n6_52, n6_53, n6_54, n6_55, n6_56, n6_57, n6_58, n6_59, n6_60, n6_61, n6_62, n6_63, n6_64, n6_66, n6_67, n6_68, n6_69, o6_1, o6_4, o6_7, o6_11, o6_13, o6_15, o6_17, o6_19, o6_22, o6_25, o6_30, o6_33, o6_38, o6_41, o6_45, o6_48, o6_53, o6_60, o6_62, o6_64, o6_66, o6_68, res6, TT_3, TT_4, TT_5, TT_9, TT_21, TT_22, TT_25, TT_33, TT_35, TT_37, TT_39, TT_47, TT_52, TT_56, TT_59, TT_60, TT_62, TT_63, TT_65, TT_73, TT_77, TT_82, TT_84, bb, primP, primM, ev, evs, parts_, ofConst, bin, un, intBin, putA, enterT, Nat.reduceEqDiff, Nat.reduceAdd, Nat.reduceMul, Nat.reduceLeDiff, Nat.reduceLT, ↓reduceIte, reduceCtorEq, RunRes, resultsA, oneOf, AV.plain, AV.cells, AHeap.push, AHeap.set, AHeap.empty, fieldOf, loadA, storeA, BX.part, TK.isAgg, convA, builtinA, inertB, builtinP, buildA, fillA, splice, eqv, cellsEq, sizeT, adT, ldT, fwT, Nat.reduceBeqDiff, Nat.reduceBneDiff, Int.reduceBNe, Int.reduceBEq, Int.reduceEq, Int.reduceLT, Int.reduceLE, Int.reduceAdd, Int.reduceSub, Int.reduceMul, Int.reduceNeg, strBin, indexAddrA, elems, lenOf, chunk, List.reduceReplicate, Int.reduceToNat]
      refine fin _ _ ?_ ?_ ?_ ?_ ?_ ?_ ?_ ?_
      all_goals simp only [upd_app, t0, t10, t11, t12, a0, Nat.reduceEqDiff, Nat.succ_ne_self, ↓reduceIte]
      all_goals rfl
    · have e : ok = false := by rw [hok]; simp [c1]
      subst e
      have c1' : ¬ at_ < ((l.map encN).length : Int) := by rw [List.length_map]; exact c1
      simp only [t0, t1, t7, t8, t9, c0, c1', bne_self_eq_false, lenOf, i64, run_exit_start, exit_here, exit_code, exit_inLoop, run_inBlock, n6_0, n6_1, n6_2, n6_3, n6_4, n6_5, n6_6, n6_7, n6_8, n6_9, n6_10, n6_11, n6_12, n6_13, n6_14, n6_15, n6_16, n6_17, n6_18, n6_19, n6_20, n6_21, n6_22, n6_23, n6_24, n6_25, n6_26, n6_27, n6_28, n6_29, n6_30, n6_31, n6_32, n6_33, n6_34, n6_35, n6_36, n6_37, n6_38, n6_39, n6_40, n6_41, n6_42, n6_43, n6_44, n6_45, n6_46, n6_47, n6_48, n6_49, n6_50, n6_52, n6_53, n6_54, n6_55, n6_56, n6_57, n6_58, n6_59, n6_60, n6_61, n6_62, n6_63, n6_64, n6_66, n6_67, n6_68, n6_69, o6_1, o6_4, o6_7, o6_11, o6_13, o6_15, o6_17, o6_19, o6_22, o6_25, o6_30, o6_33, o6_38, o6_41, o6_45, o6_48, o6_53, o6_60, o6_62, o6_64, o6_66, o6_68, res6, TT_3, TT_4, TT_5, TT_9, TT_21, TT_22, TT_25, TT_33, TT_35, TT_37, TT_39, TT_47, TT_52, TT_56, TT_59, TT_60, TT_62, TT_63, TT_65, TT_73, TT_77, TT_82, TT_84, bb, primP, primM, ev, evs, parts_, ofConst, bin, un, intBin, putA, enterT, Nat.reduceEqDiff, Nat.reduceAdd, Nat.reduceMul, Nat.reduceLeDiff, Nat.reduceLT, ↓reduceIte, reduceCtorEq, RunRes, resultsA, oneOf, AV.plain, AV.cells, AHeap.push, AHeap.set, AHeap.empty, fieldOf, loadA, storeA, BX.part, TK.isAgg, convA, builtinA, inertB, builtinP, buildA, fillA, splice, eqv, cellsEq, sizeT, adT, ldT, fwT, Nat.reduceBeqDiff, Nat.reduceBneDiff, Int.reduceBNe, Int.reduceBEq, Int.reduceEq, Int.reduceLT, Int.reduceLE, Int.reduceAdd, Int.reduceSub, Int.reduceMul, Int.reduceNeg, strBin, indexAddrA, elems, lenOf, chunk, List.reduceReplicate, Int.reduceToNat]
      refine fin _ _ ?_ ?_ ?_ ?_ ?_ ?_ ?_ ?_
      all_goals simp only [upd_app, t0, t10, t11, t12, a0, Nat.reduceEqDiff, Nat.succ_ne_self, ↓reduceIte]
      all_goals rfl
  · have e : ok = false := by rw [hok]; simp [c0]
    subst e
    simp only [t0, t1, t7, t8, t9, c0, bne_self_eq_false, lenOf, i64, run_exit_start, exit_here, exit_code, exit_inLoop, run_inBlock, n6_0, n6_1, n6_2, n6_3, n6_4, n6_5, n6_6, n6_7, n6_8, n6_9, n6_10, n6_11, n6_12, n6_13, n6_14, n6_15, n6_16, n6_17, n6_18, n6_19, n6_20, n6_21, n6_22, n6_23, n6_24, n6_25, n6_26, n6_27, n6_28, n6_29, n6_30, n6_31, n6_32, n6_33, n6_34, n6_35, n6_36, n6_37, n6_38, n6_39, n6_40, n6_41, n6_42, n6_43, n6_44, n6_45, n6_46, n6_47, n6_48, n6_49, n6_50, n6_52, n6_53, n6_54, n6_55, n6_56, n6_57, n6_58, n6_59, n6_60, n6_61, n6_62, n6_63, n6_64, n6_66, n6_67, n6_68, n6_69, o6_1, o6_4, o6_7, o6_11, o6_13, o6_15, o6_17, o6_19, o6_22, o6_25, o6_30, o6_33, o6_38, o6_41, o6_45, o6_48, o6_53, o6_60, o6_62, o6_64, o6_66, o6_68, res6, TT_3, TT_4, TT_5, TT_9, TT_21, TT_22, TT_25, TT_33, TT_35, TT_37, TT_39, TT_47, TT_52, TT_56, TT_59, TT_60, TT_62, TT_63, TT_65, TT_73, TT_77, TT_82, TT_84, bb, primP, primM, ev, evs, parts_, ofConst, bin, un, intBin, putA, enterT, Nat.reduceEqDiff, Nat.reduceAdd, Nat.reduceMul, Nat.reduceLeDiff, Nat.reduceLT, ↓reduceIte, reduceCtorEq, RunRes, resultsA, oneOf, AV.plain, AV.cells, AHeap.push, AHeap.set, AHeap.empty, fieldOf, loadA, storeA, BX.part, TK.isAgg, convA, builtinA, inertB, builtinP, buildA, fillA, splice, eqv, cellsEq, sizeT, adT, ldT, fwT, Nat.reduceBeqDiff, Nat.reduceBneDiff, Int.reduceBNe, Int.reduceBEq, Int.reduceEq, Int.reduceLT, Int.reduceLE, Int.reduceAdd, Int.reduceSub, Int.reduceMul, Int.reduceNeg, strBin, indexAddrA, elems, lenOf, chunk, List.reduceReplicate, Int.reduceToNat]
    refine fin _ _ ?_ ?_ ?_ ?_ ?_ ?_ ?_ ?_
    all_goals simp only [upd_app, t0, t10, t11, t12, a0, Nat.reduceEqDiff, Nat.succ_ne_self, ↓reduceIte]
    all_goals rfl
end Go.Proofs.Ytkedlkcknhinoaa.G

namespace Go.Proofs.Ytkedlkcknhinoaa.G
open Go.BX
set_option linter.unusedSimpArgs false
set_option linter.unusedVariables false
theorem word_is (op : Int) : (wordM op != []) = isOp op := by
  cases h : isOp op with
  | true => simpa using word_ne h
  | false => rw [(parts_no h).2]; rfl
theorem ExprPlays_ok {v : AV} {l : List Nd} {at_ op : Int} (hv : InN v l) (hn : numL l) (hl : l.length ≤ maxLen) (h1 : -9223372036854775808 ≤ at_ ∧ at_ ≤ 9223372036854775807) (h2 : -9223372036854775808 ≤ op ∧ op ≤ 9223372036854775807) : PCall Cx 6 [v, .int .i64 at_, .int .i64 op] (.bool true) := by
  refine pcall_run (noext _) body6 ?_
  have f0 : [v].all AV.flat = true := by simp [hv.flat]
  obtain ⟨b, hb, hfew⟩ := few_ok hv
  cases b with
  | false =>
    simp only [call_pure pure7 rfl awake08_ok, call_pure pure8 f0 hfew, n6_0, n6_1, n6_2, n6_3, n6_4, n6_5, n6_6, n6_7, n6_8, n6_9, n6_11, n6_12, n6_13, n6_14, n6_15, n6_16, n6_17, n6_18, n6_19, n6_20, n6_21, n6_22, n6_23, n6_24, n6_25, n6_26, n6_27, n6_28, n6_29, n6_30, n6_31, n6_32, n6_33, n6_34, n6_35, n6_36, n6_37, n6_38, n6_39, n6_40, n6_41, n6_42, n6_43, n6_44, n6_45, n6_46, n6_47, n6_48, n6_49, n6_50, n6_51, n6_52, n6_53, n6_54, n6_55, n6_56, n6_57, n6_58, n6_59, n6_60, n6_61, n6_62, n6_63, n6_64, n6_65, n6_66, n6_67, n6_68, n6_69, o6_1, o6_4, o6_7, o6_11, o6_13, o6_15, o6_17, o6_19, o6_22, o6_25, o6_30, o6_33, o6_38, o6_41, o6_45, o6_48, o6_53, o6_60, o6_62, o6_64, o6_66, o6_68, res6, TT_3, TT_4, TT_5, TT_9, TT_21, TT_22, TT_25, TT_33, TT_35, TT_37, TT_39, TT_47, TT_52, TT_56, TT_59, TT_60, TT_62, TT_63, TT_65, TT_73, TT_77, TT_82, TT_84, bb, primP, primM, ev, evs, parts_, ofConst, bin, un, intBin, putA, enterT, Nat.reduceEqDiff, Nat.reduceAdd, Nat.reduceMul, Nat.reduceLeDiff, Nat.reduceLT, ↓reduceIte, reduceCtorEq, RunRes, resultsA, oneOf, AV.plain, AV.cells, AHeap.push, AHeap.set, AHeap.empty, fieldOf, loadA, storeA, BX.part, TK.isAgg, convA, builtinA, inertB, builtinP, buildA, fillA, splice, eqv, cellsEq, sizeT, adT, ldT, fwT, Nat.reduceBeqDiff, Nat.reduceBneDiff, Int.reduceBNe, Int.reduceBEq, Int.reduceEq, Int.reduceLT, Int.reduceLE, Int.reduceAdd, Int.reduceSub, Int.reduceMul, Int.reduceNeg, strBin, indexAddrA, elems, lenOf, chunk, List.reduceReplicate, Int.reduceToNat]
  | true =>
    have hl450 := hb rfl
    obtain ⟨w, hw, hof⟩ := Of_ok hv (by omega)
    have fw0 : [w].all AV.flat = true := by simp [hw.flat]
    have fw : [w, AV.int .i64 at_].all AV.flat = true := by simp only [List.all_cons, List.all_nil, hw.flat, Bool.and_true, Bool.true_and]; rfl
    have hrr := rRight_ok hv (by omega)
    have her := ERight_ok hw hn (by omega)
    have hpa := Parts_ok op h2.1 h2.2
    have hWo := rWord_ok op
    have hPa := rParts_ok op
    have hwi := word_is op
    have bi : (isOp op != isOp op) = false := by simp
    cases hr : rightM l with
    | false =>
      have he := End_no (at_ := at_) hw hn (by omega) (.inr (.inr hr))
      have hna := Names_no hw hn (by omega) hr
      have hwr := EWrite_no hw hn (by omega) hr
      rw [hr] at hrr her
      have e1 : (([] : Bytes) == []) = true := rfl
      unfold arr at hna
      simp only [bi, e1, hwi, bne_self_eq_false, beq_self_eq_true, Bool.and_true, Bool.and_self, call_pure pure7 rfl awake08_ok, call_pure pure8 f0 hfew, call_pure pure17 f0 hrr, call_pure pure9 f0 hof, call_pure pure10 fw he, call_pure pure18 fw0 hna, call_pure pure13 fw0 hwr, call_pure pure11 fw0 her, call_pure pure12 rfl hpa, call_pure pure19 rfl hWo, call_pure pure20 rfl hPa, n6_0, n6_1, n6_2, n6_3, n6_4, n6_5, n6_6, n6_7, n6_8, n6_9, n6_10, n6_11, n6_12, n6_13, n6_14, n6_15, n6_16, n6_17, n6_18, n6_19, n6_20, n6_21, n6_22, n6_23, n6_24, n6_25, n6_26, n6_27, n6_28, n6_29, n6_30, n6_31, n6_32, n6_33, n6_34, n6_35, n6_37, n6_38, n6_39, n6_40, n6_41, n6_42, n6_43, n6_44, n6_45, n6_46, n6_47, n6_48, n6_49, n6_50, n6_51, n6_52, n6_53, n6_54, n6_55, n6_56, n6_57, n6_58, n6_59, n6_60, n6_61, n6_62, n6_63, n6_64, n6_65, n6_66, n6_67, n6_68, n6_69, o6_1, o6_4, o6_7, o6_11, o6_13, o6_15, o6_17, o6_19, o6_22, o6_25, o6_30, o6_33, o6_38, o6_41, o6_45, o6_48, o6_53, o6_60, o6_62, o6_64, o6_66, o6_68, res6, TT_3, TT_4, TT_5, TT_9, TT_21, TT_22, TT_25, TT_33, TT_35, TT_37, TT_39, TT_47, TT_52, TT_56, TT_59, TT_60, TT_62, TT_63, TT_65, TT_73, TT_77, TT_82, TT_84, bb, primP, primM, ev, evs, parts_, ofConst, bin, un, intBin, putA, enterT, Nat.reduceEqDiff, Nat.reduceAdd, Nat.reduceMul, Nat.reduceLeDiff, Nat.reduceLT, ↓reduceIte, reduceCtorEq, RunRes, resultsA, oneOf, AV.plain, AV.cells, AHeap.push, AHeap.set, AHeap.empty, fieldOf, loadA, storeA, BX.part, TK.isAgg, convA, builtinA, inertB, builtinP, buildA, fillA, splice, eqv, cellsEq, sizeT, adT, ldT, fwT, Nat.reduceBeqDiff, Nat.reduceBneDiff, Int.reduceBNe, Int.reduceBEq, Int.reduceEq, Int.reduceLT, Int.reduceLE, Int.reduceAdd, Int.reduceSub, Int.reduceMul, Int.reduceNeg, strBin, indexAddrA, elems, lenOf, chunk, List.reduceReplicate, Int.reduceToNat]
    | true =>
      have hne : l ≠ [] := by intro h; rw [h] at hr; cases hr
      obtain rfl := hw.vec hne
      obtain rfl := hv.vec hne
      rw [hr] at hrr her
      obtain ⟨hle, bt, hbt⟩ := right_iff.mp hr
      have hna := Names_ok hn hr
      have hwr := EWrite_yes hn hr hbt
      have hwr' : PCall Cx 13 [.vec 6 (l.map encN)] (.tuple [.str (if 4096 < bt.length then [] else bt), .int .i64 (if 4096 < bt.length then 3 else 0)]) := by
        unfold writeM at hwr
        by_cases h4 : 4096 < bt.length
        · rw [if_pos h4] at hwr; rw [if_pos h4, if_pos h4]; exact hwr
        · rw [if_neg h4] at hwr; rw [if_neg h4, if_neg h4]; exact hwr
      unfold arr at hna
      have hE : ∃ nn ok, ok = (decide (0 ≤ at_) && decide (at_ < (l.length : Int))) ∧ (ok = true → PCall Cx 21 [.vec 6 (l.map encN), .int .i64 at_] (.int .i64 nn)) ∧ PCall Cx 10 [.vec 6 (l.map encN), .int .i64 at_] (.tuple [.int .i64 nn, .bool ok]) := by
        by_cases c0 : 0 ≤ at_
        · by_cases c1 : at_ < (l.length : Int)
          · obtain ⟨x, rfl⟩ : ∃ x : Nat, at_ = (x : Int) := ⟨at_.toNat, by omega⟩
            have hx : x < l.length := by omega
            obtain ⟨d', e, post, be, hd, he, hd24⟩ := hbt.at x hx
            exact ⟨_, true, by simp [c1], fun _ => rEnd_ok (by omega) hd24 he hd, End_yes hn hr he hx hd⟩
          · exact ⟨0, false, by simp [c1], (fun h => by cases h), End_no hw hn (by omega) (.inr (.inl (by omega)))⟩
        · exact ⟨0, false, by simp [c0], (fun h => by cases h), End_no hw hn (by omega) (.inl (by omega))⟩
      obtain ⟨nn, ok, hok, hend, he⟩ := hE
      simp only [bi, hwi, bne_self_eq_false, beq_self_eq_true, Bool.and_true, Bool.and_self, call_pure pure7 rfl awake08_ok, call_pure pure8 f0 hfew, call_pure pure17 f0 hrr, call_pure pure9 f0 hof, call_pure pure10 fw he, call_pure pure18 fw0 hna, call_pure pure13 fw0 hwr', call_pure pure11 fw0 her, call_pure pure12 rfl hpa, call_pure pure19 rfl hWo, call_pure pure20 rfl hPa, n6_0, n6_1, n6_2, n6_3, n6_4, n6_5, n6_6, n6_7, n6_8, n6_9, n6_10, n6_11, n6_12, n6_13, n6_14, n6_15, n6_16, n6_17, n6_18, n6_19, n6_20, n6_21, n6_22, n6_23, n6_24, n6_25, n6_26, n6_27, n6_29, n6_30, n6_31, n6_32, n6_33, n6_34, n6_35, n6_36, n6_37, n6_38, n6_39, n6_40, n6_41, n6_42, n6_43, n6_44, n6_45, n6_46, n6_47, n6_48, n6_49, n6_50, n6_51, n6_52, n6_53, n6_54, n6_55, n6_56, n6_57, n6_58, n6_59, n6_60, n6_61, n6_62, n6_63, n6_64, n6_65, n6_66, n6_67, n6_68, n6_69, o6_1, o6_4, o6_7, o6_11, o6_13, o6_15, o6_17, o6_19, o6_22, o6_25, o6_30, o6_33, o6_38, o6_41, o6_45, o6_48, o6_53, o6_60, o6_62, o6_64, o6_66, o6_68, res6, TT_3, TT_4, TT_5, TT_9, TT_21, TT_22, TT_25, TT_33, TT_35, TT_37, TT_39, TT_47, TT_52, TT_56, TT_59, TT_60, TT_62, TT_63, TT_65, TT_73, TT_77, TT_82, TT_84, bb, primP, primM, ev, evs, parts_, ofConst, bin, un, intBin, putA, enterT, Nat.reduceEqDiff, Nat.reduceAdd, Nat.reduceMul, Nat.reduceLeDiff, Nat.reduceLT, ↓reduceIte, reduceCtorEq, RunRes, resultsA, oneOf, AV.plain, AV.cells, AHeap.push, AHeap.set, AHeap.empty, fieldOf, loadA, storeA, BX.part, TK.isAgg, convA, builtinA, inertB, builtinP, buildA, fillA, splice, eqv, cellsEq, sizeT, adT, ldT, fwT, Nat.reduceBeqDiff, Nat.reduceBneDiff, Int.reduceBNe, Int.reduceBEq, Int.reduceEq, Int.reduceLT, Int.reduceLE, Int.reduceAdd, Int.reduceSub, Int.reduceMul, Int.reduceNeg, strBin, indexAddrA, elems, lenOf, chunk, List.reduceReplicate, Int.reduceToNat]
      refine ep_right hle hr hbt hok hend ?_ ?_ ?_ ?_ ?_ ?_ ?_ ?_ rfl ?_
      all_goals simp only [upd_app, enterT, List.getElem?_cons_zero, List.getElem?_cons_succ, Option.getD_some, Nat.reduceEqDiff, ↓reduceIte]
      all_goals rfl
end Go.Proofs.Ytkedlkcknhinoaa.G

namespace Go.BX
open Go.ChangeShapes Go.WideShapes Go.ChangeAt Go.RowKit
variable {P : Program} {w : World} {H : Type} {enc : TypeId × Value → H} {base : Nat} {spare : Nat → Bool} {held : Bool}
theorem open_ints_struct {t : TypeId} {k : IntKind} {fs : Array Field} {v : Value} {d : DataW H} {ps : List MemPlace} {r : Reach} {b0 : Nat} (ht : P.underlying t = some (.struct fs)) (hval : Value.okWide P w r b0 t v) (hd : DataW.Trod enc P w base spare held t v d ps)
    (hf : ∀ (i : Nat) (f : Field), fs[i]? = some f → f.offset = i ∧ P.cellsOf f.type = 1 ∧ P.underlying f.type = some (.int k)) (hc : P.cellsOf t = fs.size) :
    ∃ ns : List Int, ns.length = fs.size ∧ v = .agg (ns.map (Value.int k)).toArray ∧ ∀ n, n ∈ ns → (Lit.int k n).wf = true := by
  obtain ⟨cs, rfl, hcs⟩ := okWide_struct ht hval
  obtain ⟨fuel, hfu⟩ := hd
  obtain ⟨xs, n, rfl, _, hlen, hxl, hx⟩ := DataW.trod_struct ht hfu
  have hcell : ∀ i, i < fs.size → ∃ m, cs[i]? = some (.int k m) ∧ (Lit.int k m).wf = true := by
    intro i hi
    obtain ⟨ho, hc1, hu⟩ := hf i fs[i] (Array.getElem?_eq_getElem hi)
    have h1 := hx i fs[i] (Array.getElem?_eq_getElem hi)
    rw [List.getElem?_eq_getElem (by omega)] at h1
    rw [ho, hc1] at h1
    obtain ⟨m, hm, _, hw⟩ := DataW.trod_int hu h1
    refine ⟨m, ?_, hw⟩
    have hil : i < cs.toList.length := by rw [show cs.toList.length = (Value.agg cs).cells.toList.length from rfl, hlen, hc]; exact hi
    simp only [Value.cells] at hm
    rw [List.drop_eq_getElem_cons hil] at hm
    simp only [List.take_succ_cons, List.take_zero, List.cons.injEq, and_true] at hm
    rw [← Array.getElem?_toList, List.getElem?_eq_getElem hil, hm]
  have hsz : cs.size = fs.size := by rw [hcs, hc]
  let nm : Value → Int := fun | .int _ n => n | _ => 0
  have hget : ∀ i (h : i < cs.size), ∃ m, cs[i] = .int k m ∧ (Lit.int k m).wf = true := fun i h => by
    obtain ⟨m, hm, hw⟩ := hcell i (by omega)
    rw [Array.getElem?_eq_getElem h] at hm
    exact ⟨m, by simpa using hm, hw⟩
  refine ⟨cs.toList.map nm, by simp [hsz], ?_, fun n hn => ?_⟩
  · congr 1
    apply Array.ext'
    simp only [List.map_map]
    apply List.ext_getElem
    · simp
    · intro i h1 h2
      obtain ⟨m, hm, _⟩ := hget i (by simpa using h1)
      simp only [List.getElem_map, Function.comp_apply, Array.getElem_toList, hm, nm]
  · simp only [List.mem_map] at hn
    obtain ⟨v, hv, rfl⟩ := hn
    obtain ⟨i, hi⟩ := List.getElem?_of_mem hv
    have hlt : i < cs.size := by simpa using (List.getElem?_eq_some_iff.mp hi).1
    obtain ⟨m, hm, hw⟩ := hget i hlt
    rw [Array.getElem?_toList, Array.getElem?_eq_getElem hlt, hm] at hi
    cases hi
    exact hw
end Go.BX

namespace Go.BX
open Go.ChangeShapes Go.WideShapes Go.ChangeAt Go.RowKit
set_option linter.unusedVariables false
set_option linter.unusedSimpArgs false
inductive Shp (P : Program) : TypeId → List AV → Prop
  | bool {t b} (h : P.underlying t = some .bool) : Shp P t [.bool b]
  | int {t k n} (h : P.underlying t = some (.int k)) (hw : (Lit.int k n).wf = true) : Shp P t [.int k n]
  | str {t s} (h : P.underlying t = some .string) (hl : s.length ≤ maxLen) : Shp P t [.str s]
  | nilS {t e} (h : P.underlying t = some (.slice e)) : Shp P t [.nilS]
  | vec {t e es} (h : P.underlying t = some (.slice e)) (hl : es.length ≤ maxLen) (he : ∀ r, r ∈ es → Shp P e r) : Shp P t [.vec (P.cellsOf e) es]
  | struct {t fs az} (h : P.underlying t = some (.struct fs)) (hl : az.length = P.cellsOf t) (hf : ∀ (i : Nat) (f : Field), fs[i]? = some f → Shp P f.type ((az.drop f.offset).take (P.cellsOf f.type))) : Shp P t az
variable {P : Program}
theorem shp_bool {t : TypeId} {az : List AV} (h : P.underlying t = some .bool) (hs : Shp P t az) : ∃ b, az = [.bool b] := by
  cases hs with
  | bool h' => exact ⟨_, rfl⟩
  | int h' | str h' | nilS h' | vec h' | struct h' => rw [h] at h'; cases h'
theorem shp_int {t : TypeId} {k : IntKind} {az : List AV} (h : P.underlying t = some (.int k)) (hs : Shp P t az) : ∃ n, az = [.int k n] ∧ (Lit.int k n).wf = true := by
  cases hs with
  | int h' hw => rw [h] at h'; cases h'; exact ⟨_, rfl, hw⟩
  | bool h' | str h' | nilS h' | vec h' | struct h' => rw [h] at h'; cases h'
theorem shp_str {t : TypeId} {az : List AV} (h : P.underlying t = some .string) (hs : Shp P t az) : ∃ s, az = [.str s] ∧ s.length ≤ maxLen := by
  cases hs with
  | str h' hl => exact ⟨_, rfl, hl⟩
  | bool h' | int h' | nilS h' | vec h' | struct h' => rw [h] at h'; cases h'
theorem shp_slice {t e : TypeId} {az : List AV} (h : P.underlying t = some (.slice e)) (hs : Shp P t az) : az = [.nilS] ∨ ∃ es, az = [.vec (P.cellsOf e) es] ∧ es.length ≤ maxLen ∧ ∀ r, r ∈ es → Shp P e r := by
  cases hs with
  | nilS h' => exact .inl rfl
  | vec h' hl he => rw [h] at h'; cases h'; exact .inr ⟨_, rfl, hl, he⟩
  | bool h' | int h' | str h' | struct h' => rw [h] at h'; cases h'
theorem shp_struct {t : TypeId} {fs : Array Field} {az : List AV} (h : P.underlying t = some (.struct fs)) (hs : Shp P t az) :
    az.length = P.cellsOf t ∧ ∀ (i : Nat) (f : Field), fs[i]? = some f → Shp P f.type ((az.drop f.offset).take (P.cellsOf f.type)) := by
  cases hs with
  | struct h' hl hf => rw [h] at h'; cases h'; exact ⟨hl, hf⟩
  | bool h' | int h' | str h' | nilS h' | vec h' => rw [h] at h'; cases h'
def ownF (P : Program) (fs : Array Field) (c : Nat) : Option Nat :=
  (List.range fs.size).find? fun i => match fs[i]? with
    | some f => decide (f.offset ≤ c) && decide (c < f.offset + P.cellsOf f.type)
    | none => false
def dataT (P : Program) : Nat → TypeId → Bool
  | 0, _ => false
  | d + 1, t =>
    match P.underlying t with
    | some .bool | some (.int _) | some .string => true
    | some (.slice e) => dataT P d e && decide (P.cellsOf e ≠ 0)
    | some (.struct fs) =>
      ((List.range (P.cellsOf t)).all fun c => (ownF P fs c).isSome) &&
      (List.range fs.size).all fun i => match fs[i]? with
        | some f => dataT P d f.type && decide (f.offset + P.cellsOf f.type ≤ P.cellsOf t) && (List.range (P.cellsOf f.type)).all fun j => ownF P fs (f.offset + j) == some i
        | none => false
    | _ => false
variable {w : World} {H : Type} {enc : TypeId × Value → H} {base : Nat} {spare : Nat → Bool} {held : Bool}
def Sts (w : World) (az : List AV) (cs : List Value) : Prop :=
  az.length = cs.length ∧ ∀ (i : Nat) (a : AV) (v : Value), az[i]? = some a → cs[i]? = some v → a.one = true ∧ VRel w (Old w) (fun _ => none) a v
theorem sts_one {a : AV} {v : Value} (h1 : a.one = true) (h : VRel w (Old w) (fun _ => none) a v) : Sts w [a] [v] := by
  refine ⟨rfl, fun i x y hx hy => ?_⟩
  match i, hx, hy with
  | 0, hx, hy => cases hx; cases hy; exact ⟨h1, h⟩
theorem cells_length {a : Addr} {n : Nat} {cs : List Value} (h : w.cells? base a n = some cs) : cs.length = n := by
  unfold World.cells? at h
  split at h
  · simpa using mapM_some_length h
  · cases h
theorem cells_get {a : Addr} {n : Nat} {cs : List Value} (h : w.cells? base a n = some cs) {i : Nat} (hi : i < n) : w.cell? (a.add i) = cs[i]? := by
  unfold World.cells? at h
  split at h
  · exact mapM_some_get h i i (by simp [hi])
  · cases h
theorem cell_spot {a : Addr} {v : Value} (h : w.cell? a = some v) : a.spot = none := by
  unfold World.cell? at h
  split at h
  · split at h
    · cases h
    · rename_i hs; simpa using hs
  · cases h
theorem add_eq {a : Addr} (hs : a.spot = none) (n : Nat) : a.add n = ⟨a.block, a.off + n, none⟩ := by
  unfold Addr.add
  split
  · rename_i h; subst h; cases a; simp_all
  · rfl
theorem list_choose {α : Type} {p : Nat → α → Prop} (n : Nat) (h : ∀ i, i < n → ∃ x, p i x) : ∃ l : List α, l.length = n ∧ ∀ (i : Nat) (x : α), l[i]? = some x → p i x := by
  have : ∀ i, ∃ x : Option α, (i < n → ∃ y, x = some y ∧ p i y) := fun i => by
    by_cases hi : i < n
    · obtain ⟨x, hx⟩ := h i hi; exact ⟨some x, fun _ => ⟨x, rfl, hx⟩⟩
    · exact ⟨none, fun h => absurd h hi⟩
  let F : Nat → Option α := fun i => Classical.choose (this i)
  have hF : ∀ i, i < n → ∃ y, F i = some y ∧ p i y := fun i => Classical.choose_spec (this i)
  refine ⟨(List.range n).filterMap F, ?_, ?_⟩
  · have : ∀ l : List Nat, (∀ i ∈ l, i < n) → (l.filterMap F).length = l.length := by
      intro l hl
      induction l with
      | nil => rfl
      | cons x xs ih =>
        obtain ⟨y, hy, _⟩ := hF x (hl x (by simp))
        rw [List.filterMap_cons, hy]
        simp [ih fun i hi => hl i (by simp [hi])]
    rw [this _ (by simp), List.length_range]
  · have key : ∀ l : List Nat, (∀ i ∈ l, i < n) → ∀ (j : Nat) (x : α), (l.filterMap F)[j]? = some x → ∃ i, l[j]? = some i ∧ F i = some x := by
      intro l hl
      induction l with
      | nil => intro j x h; simp at h
      | cons z zs ih =>
        intro j x h
        obtain ⟨y, hy, _⟩ := hF z (hl z (by simp))
        rw [List.filterMap_cons, hy] at h
        cases j with
        | zero => simp at h; subst h; exact ⟨z, rfl, hy⟩
        | succ j => exact ih (fun i hi => hl i (by simp [hi])) j x (by simpa using h)
    intro i x hx
    obtain ⟨i', hi', hx'⟩ := key _ (by simp) i x hx
    have hlt : i < n := by
      rcases Nat.lt_or_ge i n with h | h
      · exact h
      · rw [List.getElem?_eq_none (by simpa using h)] at hi'; cases hi'
    have : i' = i := by simp [List.getElem?_range hlt] at hi'; exact hi'.symm
    subst this
    obtain ⟨y, hy, hp⟩ := hF i' hlt
    rw [hx'] at hy; cases hy; exact hp
theorem open_cells : ∀ (d : Nat) {t : TypeId} {fuel : Nat} {cs : List Value} {x : DataW H × List MemPlace}, dataT P d t = true → DataW.trod enc P w base spare held fuel t cs = some x → ∃ az, Sts w az cs ∧ Shp P t az := by
  intro d
  induction d with
  | zero => intro t fuel cs x h; cases h
  | succ d ih =>
    intro t fuel cs x hd hx
    unfold dataT at hd
    split at hd
    · rename_i ht
      obtain ⟨b, rfl, _⟩ := DataW.trod_bool ht hx
      exact ⟨[.bool b], sts_one rfl (.bool b), .bool ht⟩
    · rename_i k ht
      obtain ⟨n, rfl, _, hw⟩ := DataW.trod_int ht hx
      exact ⟨[.int k n], sts_one rfl (.int k n), .int ht hw⟩
    · rename_i ht
      obtain ⟨s, rfl, _, hl⟩ := DataW.trod_string ht hx
      exact ⟨[.str s.data.toList], sts_one rfl (.str _ s rfl), .str ht (by simpa using hl)⟩
    · rename_i e ht
      simp only [Bool.and_eq_true, decide_eq_true_eq] at hd
      rcases DataW.trod_slice ht hx with ⟨rfl, _⟩ | ⟨a, len, cap, elems, rest, n, _, rfl, _, hb, hlc, hcm, hel, he, _, _⟩
      · exact ⟨[.nilS], sts_one rfl .nilS, .nilS ht⟩
      · have hrow : ∀ i, i < len → ∃ cs az, w.cells? base (a.add (i * P.cellsOf e)) (P.cellsOf e) = some cs ∧ Sts w az cs ∧ Shp P e az := by
          intro i hi
          have h1 := he i hi
          rw [List.getElem?_eq_getElem (by omega)] at h1
          simp only [Option.bind_eq_some_iff] at h1
          obtain ⟨cs, hcs, h2⟩ := h1
          obtain ⟨az, h3, h4⟩ := ih hd.1 h2
          exact ⟨cs, az, hcs, h3, h4⟩
        obtain ⟨rows, hrl, hrows⟩ := list_choose (α := List Value × List AV) (p := fun i z => w.cells? base (a.add (i * P.cellsOf e)) (P.cellsOf e) = some z.1 ∧ Sts w z.2 z.1 ∧ Shp P e z.2) len (fun i hi => by
          obtain ⟨cs, az, h⟩ := hrow i hi; exact ⟨(cs, az), h⟩)
        have hspot : len ≠ 0 → a.spot = none ∧ a.block < w.heap.size := by
          intro hne
          obtain ⟨cs, az, h, _⟩ := hrow 0 (by omega)
          have h0 := cells_get h (i := 0) (by omega)
          rw [List.getElem?_eq_getElem (by rw [cells_length h]; omega)] at h0
          simp only [Nat.zero_mul] at h0
          have e0 : (a.add 0).add 0 = a := rfl
          rw [e0] at h0
          exact ⟨cell_spot h0, cell_lt h0⟩
        have hz : ∀ (i : Nat) (r : List AV), (rows.map (·.2))[i]? = some r → ∃ cs, rows[i]? = some (cs, r) ∧ w.cells? base (a.add (i * P.cellsOf e)) (P.cellsOf e) = some cs ∧ Sts w r cs ∧ Shp P e r := by
          intro i r h
          rw [List.getElem?_map, Option.map_eq_some_iff] at h
          obtain ⟨z, hz, rfl⟩ := h
          obtain ⟨h1, h2, h3⟩ := hrows i z hz
          exact ⟨z.1, hz, h1, h2, h3⟩
        refine ⟨[.vec (P.cellsOf e) (rows.map (·.2))], sts_one rfl ?_, .vec ht (by simp; omega) ?_⟩
        · have hll : (rows.map (·.2)).length = len := by simp [hrl]
          have hgoal := VRel.vec (w := w) (U := Old w) (ι := fun _ => none) (rows.map (·.2)) a (P.cellsOf e) cap (fun i j => ((rows[i]?).bind fun z => z.1[j]?).getD undef) (by omega)
            (fun r hr => by
              obtain ⟨i, hi⟩ := List.getElem?_of_mem hr
              obtain ⟨cs, _, h1, h2, _⟩ := hz i r hi
              rw [h2.1, cells_length h1])
            (fun hne => (hspot (by intro h0; apply hne; apply List.eq_nil_of_length_eq_zero; omega)).2)
            (fun hne => (hspot (by intro h0; apply hne; apply List.eq_nil_of_length_eq_zero; omega)).1)
            (fun i j hi hj => by
              have hs := (hspot (by omega)).1
              obtain ⟨cs, hcs, h1, h2, _⟩ := hz i (rows.map (·.2))[i] (List.getElem?_eq_getElem hi)
              have h3 := cells_get h1 hj
              rw [hcs]
              simp only [Option.bind_some]
              rw [List.getElem?_eq_getElem (by rw [cells_length h1]; exact hj)] at h3 ⊢
              rw [← add_eq (a := ⟨a.block, a.off + i * P.cellsOf e, none⟩) rfl j, ← add_eq hs]
              exact h3)
            (fun r hr x hxr => by
              obtain ⟨i, hi⟩ := List.getElem?_of_mem hr
              obtain ⟨cs, _, h1, h2, _⟩ := hz i r hi
              obtain ⟨j, hj⟩ := List.getElem?_of_mem hxr
              have hjl : j < cs.length := by rw [← h2.1]; exact (List.getElem?_eq_some_iff.mp hj).1
              exact (h2.2 j x cs[j] hj (List.getElem?_eq_getElem hjl)).1)
            (fun i r j x hi hj => by
              obtain ⟨cs, hcs, h1, h2, _⟩ := hz i r hi
              have hjl : j < cs.length := by rw [← h2.1]; exact (List.getElem?_eq_some_iff.mp hj).1
              have h4 := (h2.2 j x cs[j] hj (List.getElem?_eq_getElem hjl)).2
              simp only [hcs, Option.bind_some, List.getElem?_eq_getElem hjl, Option.getD_some]
              exact h4)
          rw [hll] at hgoal
          exact hgoal
        · intro r hr
          obtain ⟨i, hi⟩ := List.getElem?_of_mem hr
          obtain ⟨_, _, _, _, h⟩ := hz i r hi
          exact h
    · rename_i fs ht
      simp only [Bool.and_eq_true, List.all_eq_true, List.mem_range] at hd
      obtain ⟨hcov, hflds⟩ := hd
      obtain ⟨xs, n, _, _, hcl, hxl, hxf⟩ := DataW.trod_struct ht hx
      have hfi : ∀ i, i < fs.size → ∃ az, ∀ f, fs[i]? = some f → Sts w az ((cs.drop f.offset).take (P.cellsOf f.type)) ∧ Shp P f.type az ∧ f.offset + P.cellsOf f.type ≤ P.cellsOf t ∧ ∀ j, j < P.cellsOf f.type → ownF P fs (f.offset + j) = some i := by
        intro i hi
        have hf0 : fs[i]? = some fs[i] := Array.getElem?_eq_getElem hi
        have h1 := hxf i fs[i] hf0
        rw [List.getElem?_eq_getElem (by omega)] at h1
        have h2 := hflds i hi
        rw [hf0] at h2
        simp only [Bool.and_eq_true, decide_eq_true_eq, List.all_eq_true, List.mem_range, beq_iff_eq] at h2
        obtain ⟨az, h3, h4⟩ := ih h2.1.1 h1
        exact ⟨az, fun f hf => by rw [hf0] at hf; cases hf; exact ⟨h3, h4, h2.1.2, h2.2⟩⟩
      obtain ⟨rows, hrl, hrows⟩ := list_choose fs.size hfi
      have hcell : ∀ c, c < P.cellsOf t → ∃ a, ∀ i f r, ownF P fs c = some i → fs[i]? = some f → rows[i]? = some r → f.offset ≤ c ∧ c < f.offset + P.cellsOf f.type ∧ r[c - f.offset]? = some a := by
        intro c hc
        have h1 := hcov c hc
        obtain ⟨i, hi⟩ := Option.isSome_iff_exists.mp h1
        have h2 := List.find?_some hi
        have h3 : i < fs.size := by simpa using List.mem_of_find?_eq_some hi
        have hf0 : fs[i]? = some fs[i] := Array.getElem?_eq_getElem h3
        rw [hf0] at h2
        simp only [Bool.and_eq_true, decide_eq_true_eq] at h2
        have hr0 : rows[i]? = some rows[i] := List.getElem?_eq_getElem (by omega)
        obtain ⟨hst, _, hle, _⟩ := hrows i rows[i] hr0 fs[i] hf0
        have hlen : rows[i].length = P.cellsOf fs[i].type := by rw [hst.1, List.length_take, List.length_drop, hcl]; omega
        refine ⟨(rows[i])[c - fs[i].offset]'(by omega), fun i' f r hi' hf hr => ?_⟩
        rw [hi] at hi'; cases hi'
        rw [hf0] at hf; cases hf
        rw [hr0] at hr; cases hr
        exact ⟨h2.1, h2.2, List.getElem?_eq_getElem _⟩
      obtain ⟨az, hal, has⟩ := list_choose (P.cellsOf t) hcell
      have hfield : ∀ (i : Nat) (f : Field) (r : List AV), fs[i]? = some f → rows[i]? = some r → (az.drop f.offset).take (P.cellsOf f.type) = r := by
        intro i f r hf hr
        obtain ⟨hst, _, hle, hown⟩ := hrows i r hr f hf
        have hlen : r.length = P.cellsOf f.type := by rw [hst.1, List.length_take, List.length_drop, hcl]; omega
        apply List.ext_getElem?
        intro j
        rcases Nat.lt_or_ge j (P.cellsOf f.type) with hj | hj
        · rw [List.getElem?_take_of_lt hj, List.getElem?_drop]
          have hc : az[f.offset + j]? = some (az[f.offset + j]'(by omega)) := List.getElem?_eq_getElem (by omega)
          obtain ⟨_, _, h3⟩ := has (f.offset + j) _ hc i f r (hown j hj) hf hr
          rw [hc, ← h3]
          congr 1; omega
        · rw [List.getElem?_eq_none (by simp; omega), List.getElem?_eq_none (by omega)]
      refine ⟨az, ⟨by omega, ?_⟩, .struct ht hal ?_⟩
      · intro c a v ha hv
        have hc : c < P.cellsOf t := by rw [← hal]; exact (List.getElem?_eq_some_iff.mp ha).1
        obtain ⟨i, hi⟩ := Option.isSome_iff_exists.mp (hcov c hc)
        have h3 : i < fs.size := by simpa using List.mem_of_find?_eq_some hi
        have hf0 : fs[i]? = some fs[i] := Array.getElem?_eq_getElem h3
        have hr0 : rows[i]? = some rows[i] := List.getElem?_eq_getElem (by omega)
        obtain ⟨hst, _, hle, _⟩ := hrows i rows[i] hr0 fs[i] hf0
        obtain ⟨h4, h5, h6⟩ := has c a ha i fs[i] rows[i] hi hf0 hr0
        refine hst.2 (c - fs[i].offset) a v h6 ?_
        rw [List.getElem?_take_of_lt (by omega), List.getElem?_drop, show fs[i].offset + (c - fs[i].offset) = c by omega]
        exact hv
      · intro i f hf
        have h3 : i < fs.size := (Array.getElem?_eq_some_iff.mp hf).1
        have hr0 : rows[i]? = some rows[i] := List.getElem?_eq_getElem (by omega)
        rw [hfield i f rows[i] hf hr0]
        exact (hrows i rows[i] hr0 f hf).2.1
    · cases hd
theorem open_val {t : TypeId} {v : Value} {x : DataW H} {ps : List MemPlace} {r : Reach} {b0 : Nat} (hd : dataT P 8 t = true) (hval : Value.okWide P w r b0 t v) (hx : DataW.Trod enc P w base spare held t v x ps) :
    ∃ av az, VRel w (Old w) (fun _ => none) av v ∧ Shp P t az ∧ (match P.underlying t with | some (.struct _) => av = .agg az | _ => az = [av]) := by
  obtain ⟨fuel, hf⟩ := hx
  obtain ⟨az, hst, hsh⟩ := open_cells 8 hd hf
  cases hu : P.underlying t with
  | none => exfalso; unfold dataT at hd; rw [hu] at hd; cases hd
  | some u =>
    by_cases hs : ∃ fs, u = .struct fs
    · obtain ⟨fs, rfl⟩ := hs
      obtain ⟨cs, rfl, hcs⟩ := okWide_struct hu hval
      refine ⟨.agg az, az, ?_, hsh, rfl⟩
      have hl : cs.toList.length = az.length := hst.1.symm
      have := VRel.agg (w := w) (U := Old w) (ι := fun _ => none) az cs.toList hl (fun a ha => by
        obtain ⟨i, hi⟩ := List.getElem?_of_mem ha
        have hil : i < cs.toList.length := by rw [hl]; exact (List.getElem?_eq_some_iff.mp hi).1
        exact (hst.2 i a cs.toList[i] hi (List.getElem?_eq_getElem hil)).1) (fun i a v ha hv => (hst.2 i a v ha hv).2)
      simpa using this
    · have hone : ∃ a, az = [a] := by
        cases hsh with
        | struct h' => rw [hu] at h'; cases h'; exact absurd ⟨_, rfl⟩ hs
        | bool _ | int _ | str _ | nilS _ | vec _ => exact ⟨_, rfl⟩
      obtain ⟨a, rfl⟩ := hone
      have hcl : v.cells.toList.length = 1 := hst.1.symm
      have hv : v.cells.toList = [v] := by
        cases v with
        | agg cs =>
          exfalso
          unfold Value.okWide at hval
          rw [hu] at hval
          have hcs : cs.toList.length = 1 := hcl
          obtain ⟨c, hc⟩ : ∃ c, cs.toList = [c] := List.length_eq_one_iff.mp hcs
          unfold dataT at hd
          rw [hu] at hd
          cases u <;> first | (cases hd; done) | (exact absurd ⟨_, rfl⟩ hs) | (simp [Cell.okWide, Cell.ok, hu] at hval)
        | _ => rfl
      refine ⟨a, [a], ?_, hsh, ?_⟩
      · exact (hst.2 0 a v rfl (by rw [hv]; rfl)).2
      · cases u <;> first | rfl | exact absurd ⟨_, rfl⟩ hs
end Go.BX

namespace Go.Proofs.Ytkedlkcknhinoaa.G
open Go.BX
open Go.ChangeShapes Go.WideShapes Go.ChangeAt Go.RowKit
set_option linter.unusedVariables false
theorem own : ownKnob Try.prog.godebug = none := by kernel_rfl
theorem laidOut : laidOutB Try.prog = true := by kernel_rfl
theorem law_calls {f : FuncId} {args : List AV} (hx : Cx.ext f = none) (h : PCall Cx f args (.bool true)) {w : World} {vs : List Value} (ha : LsRel w (Old w) (fun _ => none) args vs) :
    Calls Try.prog f vs.toArray w (fun e w' => e = .returned (.bool true) ∧ Below w.heap.size w w') := by
  obtain ⟨n, hn⟩ := h
  refine (pcall_calls cok hx hn ha).mono ?_
  rintro e w' ⟨⟨v, U', rfl, hv⟩, hb⟩
  cases hv
  exact ⟨rfl, hb⟩
theorem i64_wf {n : Int} (h : (Lit.int .i64 n).wf = true) : -9223372036854775808 ≤ n ∧ n ≤ 9223372036854775807 := bounds_i64 h
end Go.Proofs.Ytkedlkcknhinoaa.G

namespace Go.Proofs.Ytkedlkcknhinoaa.G
open Go.BX
theorem dec_int {cs : List AV} (h : Shp Try.prog 3 cs) : ∃ n, cs = [.int .i64 n] ∧ (-9223372036854775808 ≤ n ∧ n ≤ 9223372036854775807) := by
  obtain ⟨n, h1, h2⟩ := shp_int Try.underlying3 h
  exact ⟨n, h1, i64_wf h2⟩
theorem dec_str {cs : List AV} (h : Shp Try.prog 9 cs) : ∃ s, cs = [.str s] ∧ s.length ≤ maxLen := shp_str Try.underlying9 h
theorem dec_spot {cs : List AV} (h : Shp Try.prog 33 cs) : ∃ x y, cs = [.int .i64 x, .int .i64 y] := by
  obtain ⟨hl, hf⟩ := shp_struct Try.underlying33 h
  have hl2 : cs.length = 2 := hl.trans (by kernel_rfl)
  match cs, hl2 with
  | [a0, a1], _ =>
    have f0 := hf 0 _ rfl
    have f1 := hf 1 _ rfl
    obtain ⟨x, hx, bx⟩ := dec_int f0
    obtain ⟨y, hy, by'⟩ := dec_int f1
    cases hx
    cases hy
    exact ⟨_, _, rfl⟩
theorem dec_val {cs : List AV} (h : Shp Try.prog 35 cs) : ∃ k n s x y, cs = [.int .i64 k, .int .i64 n, .str s, .int .i64 x, .int .i64 y] := by
  obtain ⟨hl, hf⟩ := shp_struct Try.underlying35 h
  have hl2 : cs.length = 5 := hl.trans (by kernel_rfl)
  match cs, hl2 with
  | [a0, a1, a2, a3, a4], _ =>
    have f0 := hf 0 _ rfl
    have f1 := hf 1 _ rfl
    have f2 := hf 2 _ rfl
    have f3 := hf 3 _ rfl
    obtain ⟨k, hk, bk⟩ := dec_int f0
    obtain ⟨n, hn, bn⟩ := dec_int f1
    obtain ⟨s, hs, bs⟩ := dec_str f2
    obtain ⟨x, y, hxy⟩ := dec_spot f3
    cases hk
    cases hn
    cases hs
    have hxy' : [a3, a4] = [.int .i64 x, .int .i64 y] := hxy
    cases hxy'
    exact ⟨_, _, _, _, _, rfl⟩
theorem dec_node {cs : List AV} (h : Shp Try.prog 52 cs) : ∃ p : Nd, cs = encN p ∧ numN p := by
  obtain ⟨hl, hf⟩ := shp_struct Try.underlying52 h
  have hl2 : cs.length = 6 := hl.trans (by kernel_rfl)
  match cs, hl2 with
  | [a0, a1, a2, a3, a4, a5], _ =>
    have f0 := hf 0 _ rfl
    have f1 := hf 1 _ rfl
    obtain ⟨o, ho, bo⟩ := dec_int f0
    obtain ⟨k, n, s, x, y, hv⟩ := dec_val f1
    cases ho
    have hv' : [a1, a2, a3, a4, a5] = [.int .i64 k, .int .i64 n, .str s, .int .i64 x, .int .i64 y] := hv
    cases hv'
    exact ⟨⟨o, ⟨k, n, s, x, y⟩⟩, rfl, bo⟩
theorem rows_nodes : ∀ {es : List (List AV)}, (∀ r, r ∈ es → ∃ p : Nd, r = encN p ∧ numN p) → ∃ l : List Nd, es = l.map encN ∧ numL l
  | [], _ => ⟨[], rfl, fun n h => by cases h⟩
  | r :: es, h => by
    obtain ⟨p, rfl, hp⟩ := h r (by simp)
    obtain ⟨l, rfl, hl⟩ := rows_nodes (es := es) (fun r hr => h r (by simp [hr]))
    exact ⟨p :: l, rfl, fun n hm => by rcases List.mem_cons.mp hm with rfl | hm; exact hp; exact hl n hm⟩
theorem dec_nodes {a : AV} (h : Shp Try.prog 22 [a]) : ∃ l : List Nd, InN a l ∧ numL l ∧ l.length ≤ maxLen := by
  rcases shp_slice Try.underlying22 h with e | ⟨es, e, hl, hr⟩
  · cases e
    exact ⟨[], .inl ⟨rfl, rfl⟩, (fun n h => by cases h), by simp⟩
  · cases e
    obtain ⟨l, rfl, hn⟩ := rows_nodes (fun r hm => dec_node (hr r hm))
    have hc : Try.prog.cellsOf 52 = 6 := by kernel_rfl
    refine ⟨l, .inr (by rw [hc]), hn, by simpa using hl⟩
end Go.Proofs.Ytkedlkcknhinoaa.G

