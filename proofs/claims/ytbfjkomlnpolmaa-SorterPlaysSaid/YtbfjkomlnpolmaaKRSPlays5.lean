import Derived.Test.YtbfjkomlnpolmaaKRSPlays4
namespace Go.Proofs.Ytbfjkomlnpolmaa.G
open Go.BX
set_option linter.unusedSimpArgs false
set_option linter.unusedVariables false
theorem gRefRight_ok (x y : Int) : PCall Cx 37 [spot x y] (.bool (inR x && inR y)) := by
  refine pcall_run (noext _) body37 ?_
  by_cases h1 : -16777216 ≤ x <;> by_cases h2 : x ≤ 16777216 <;> by_cases h3 : -16777216 ≤ y <;>
  simp only [h1, h2, h3, inR, n37_0, n37_1, n37_2, n37_3, n37_4, o37_1, o37_3, res37, TT_3, TT_4, TT_5, TT_9, TT_22, TT_25, TT_26, TT_29, TT_33, TT_38, TT_40, TT_42, TT_47, TT_50, TT_57, TT_59, TT_66, TT_68, TT_69, TT_70, TT_72, TT_81, bb, primP, primM, ev, evs, parts_, ofConst, bin, un, intBin, putA, enterT, Nat.reduceEqDiff, Nat.reduceAdd, Nat.reduceMul, Nat.reduceLeDiff, Nat.reduceLT, ↓reduceIte, reduceCtorEq, RunRes, resultsA, oneOf, AV.plain, AV.cells, AHeap.push, AHeap.set, AHeap.empty, fieldOf, loadA, storeA, BX.part, TK.isAgg, convA, builtinA, inertB, builtinP, buildA, fillA, splice, eqv, cellsEq, sizeT, adT, ldT, fwT, Nat.reduceBeqDiff, Nat.reduceBneDiff, Int.reduceBNe, Int.reduceBEq, Int.reduceEq, Int.reduceLT, Int.reduceLE, Int.reduceAdd, Int.reduceSub, Int.reduceMul, Int.reduceNeg, strBin, indexAddrA, elems, lenOf, chunk, List.reduceReplicate, Int.reduceToNat]
theorem bneE {α : Type} [BEq α] (a b : α) : (!(a != b)) = (a == b) := by unfold bne; rw [Bool.not_not]
theorem refRight_ok (k n : Int) (s : Bytes) (x y : Int) : PCall Cx 29 [val k n s x y] (.bool (rightV k n s x y)) := by
  refine pcall_run (noext _) body29 ?_
  unfold rightV
  simp only [bneE, Bool.not_not]
  by_cases h0 : k = 0
  · subst h0
    cases h1 : decide (-9007199254740992 ≤ n) with
    | false => simp only [h1, Bool.false_and, run_exit_start, exit_here, exit_code, run_inBlock, n29_0, n29_1, n29_2, n29_3, n29_4, n29_5, n29_6, n29_7, n29_8, n29_9, n29_10, n29_11, n29_12, n29_13, n29_14, n29_15, n29_16, n29_17, n29_18, n29_19, n29_20, n29_21, n29_22, n29_23, n29_24, n29_25, n29_26, n29_27, o29_1, o29_4, o29_7, o29_10, o29_13, o29_16, o29_19, o29_22, o29_26, res29, TT_3, TT_4, TT_5, TT_9, TT_22, TT_25, TT_26, TT_29, TT_33, TT_38, TT_40, TT_42, TT_47, TT_50, TT_57, TT_59, TT_66, TT_68, TT_69, TT_70, TT_72, TT_81, bb, primP, primM, ev, evs, parts_, ofConst, bin, un, intBin, putA, enterT, Nat.reduceEqDiff, Nat.reduceAdd, Nat.reduceMul, Nat.reduceLeDiff, Nat.reduceLT, ↓reduceIte, reduceCtorEq, RunRes, resultsA, oneOf, AV.plain, AV.cells, AHeap.push, AHeap.set, AHeap.empty, fieldOf, loadA, storeA, BX.part, TK.isAgg, convA, builtinA, inertB, builtinP, buildA, fillA, splice, eqv, cellsEq, sizeT, adT, ldT, fwT, Nat.reduceBeqDiff, Nat.reduceBneDiff, Int.reduceBNe, Int.reduceBEq, Int.reduceEq, Int.reduceLT, Int.reduceLE, Int.reduceAdd, Int.reduceSub, Int.reduceMul, Int.reduceNeg, strBin, indexAddrA, elems, lenOf, chunk, List.reduceReplicate, Int.reduceToNat]
    | true =>
      cases h2 : decide (n ≤ 9007199254740992) with
      | false => simp only [h1, h2, Bool.false_and, run_exit_start, exit_here, exit_code, run_inBlock, n29_0, n29_1, n29_2, n29_3, n29_4, n29_5, n29_6, n29_7, n29_8, n29_9, n29_10, n29_11, n29_12, n29_13, n29_14, n29_15, n29_16, n29_17, n29_18, n29_19, n29_20, n29_21, n29_22, n29_23, n29_24, n29_25, n29_26, n29_27, o29_1, o29_4, o29_7, o29_10, o29_13, o29_16, o29_19, o29_22, o29_26, res29, TT_3, TT_4, TT_5, TT_9, TT_22, TT_25, TT_26, TT_29, TT_33, TT_38, TT_40, TT_42, TT_47, TT_50, TT_57, TT_59, TT_66, TT_68, TT_69, TT_70, TT_72, TT_81, bb, primP, primM, ev, evs, parts_, ofConst, bin, un, intBin, putA, enterT, Nat.reduceEqDiff, Nat.reduceAdd, Nat.reduceMul, Nat.reduceLeDiff, Nat.reduceLT, ↓reduceIte, reduceCtorEq, RunRes, resultsA, oneOf, AV.plain, AV.cells, AHeap.push, AHeap.set, AHeap.empty, fieldOf, loadA, storeA, BX.part, TK.isAgg, convA, builtinA, inertB, builtinP, buildA, fillA, splice, eqv, cellsEq, sizeT, adT, ldT, fwT, Nat.reduceBeqDiff, Nat.reduceBneDiff, Int.reduceBNe, Int.reduceBEq, Int.reduceEq, Int.reduceLT, Int.reduceLE, Int.reduceAdd, Int.reduceSub, Int.reduceMul, Int.reduceNeg, strBin, indexAddrA, elems, lenOf, chunk, List.reduceReplicate, Int.reduceToNat]
      | true =>
        cases h3 : (s == []) <;>
        simp only [h1, h2, h3, Bool.false_and, Bool.true_and, run_exit_start, exit_here, exit_code, run_inBlock, n29_0, n29_1, n29_2, n29_3, n29_4, n29_5, n29_6, n29_7, n29_8, n29_9, n29_10, n29_11, n29_12, n29_13, n29_14, n29_15, n29_16, n29_17, n29_18, n29_19, n29_20, n29_21, n29_22, n29_23, n29_24, n29_25, n29_26, n29_27, o29_1, o29_4, o29_7, o29_10, o29_13, o29_16, o29_19, o29_22, o29_26, res29, TT_3, TT_4, TT_5, TT_9, TT_22, TT_25, TT_26, TT_29, TT_33, TT_38, TT_40, TT_42, TT_47, TT_50, TT_57, TT_59, TT_66, TT_68, TT_69, TT_70, TT_72, TT_81, bb, primP, primM, ev, evs, parts_, ofConst, bin, un, intBin, putA, enterT, Nat.reduceEqDiff, Nat.reduceAdd, Nat.reduceMul, Nat.reduceLeDiff, Nat.reduceLT, ↓reduceIte, reduceCtorEq, RunRes, resultsA, oneOf, AV.plain, AV.cells, AHeap.push, AHeap.set, AHeap.empty, fieldOf, loadA, storeA, BX.part, TK.isAgg, convA, builtinA, inertB, builtinP, buildA, fillA, splice, eqv, cellsEq, sizeT, adT, ldT, fwT, Nat.reduceBeqDiff, Nat.reduceBneDiff, Int.reduceBNe, Int.reduceBEq, Int.reduceEq, Int.reduceLT, Int.reduceLE, Int.reduceAdd, Int.reduceSub, Int.reduceMul, Int.reduceNeg, strBin, indexAddrA, elems, lenOf, chunk, List.reduceReplicate, Int.reduceToNat]
  · have e0 : (k == 0) = false := by simpa using h0
    by_cases h1 : k = 1
    · subst h1
      cases h2 : decide ((s.length : Int) ≤ 4096) with
      | false => simp only [h2, Bool.false_and, run_exit_start, exit_here, exit_code, run_inBlock, n29_0, n29_1, n29_2, n29_3, n29_4, n29_5, n29_6, n29_7, n29_8, n29_9, n29_10, n29_11, n29_12, n29_13, n29_14, n29_15, n29_16, n29_17, n29_18, n29_19, n29_20, n29_21, n29_22, n29_23, n29_24, n29_25, n29_26, n29_27, o29_1, o29_4, o29_7, o29_10, o29_13, o29_16, o29_19, o29_22, o29_26, res29, TT_3, TT_4, TT_5, TT_9, TT_22, TT_25, TT_26, TT_29, TT_33, TT_38, TT_40, TT_42, TT_47, TT_50, TT_57, TT_59, TT_66, TT_68, TT_69, TT_70, TT_72, TT_81, bb, primP, primM, ev, evs, parts_, ofConst, bin, un, intBin, putA, enterT, Nat.reduceEqDiff, Nat.reduceAdd, Nat.reduceMul, Nat.reduceLeDiff, Nat.reduceLT, ↓reduceIte, reduceCtorEq, RunRes, resultsA, oneOf, AV.plain, AV.cells, AHeap.push, AHeap.set, AHeap.empty, fieldOf, loadA, storeA, BX.part, TK.isAgg, convA, builtinA, inertB, builtinP, buildA, fillA, splice, eqv, cellsEq, sizeT, adT, ldT, fwT, Nat.reduceBeqDiff, Nat.reduceBneDiff, Int.reduceBNe, Int.reduceBEq, Int.reduceEq, Int.reduceLT, Int.reduceLE, Int.reduceAdd, Int.reduceSub, Int.reduceMul, Int.reduceNeg, strBin, indexAddrA, elems, lenOf, chunk, List.reduceReplicate, Int.reduceToNat]
      | true =>
        cases h3 : (n == 0) <;>
        simp only [h2, h3, Bool.false_and, Bool.true_and, run_exit_start, exit_here, exit_code, run_inBlock, n29_0, n29_1, n29_2, n29_3, n29_4, n29_5, n29_6, n29_7, n29_8, n29_9, n29_10, n29_11, n29_12, n29_13, n29_14, n29_15, n29_16, n29_17, n29_18, n29_19, n29_20, n29_21, n29_22, n29_23, n29_24, n29_25, n29_26, n29_27, o29_1, o29_4, o29_7, o29_10, o29_13, o29_16, o29_19, o29_22, o29_26, res29, TT_3, TT_4, TT_5, TT_9, TT_22, TT_25, TT_26, TT_29, TT_33, TT_38, TT_40, TT_42, TT_47, TT_50, TT_57, TT_59, TT_66, TT_68, TT_69, TT_70, TT_72, TT_81, bb, primP, primM, ev, evs, parts_, ofConst, bin, un, intBin, putA, enterT, Nat.reduceEqDiff, Nat.reduceAdd, Nat.reduceMul, Nat.reduceLeDiff, Nat.reduceLT, ↓reduceIte, reduceCtorEq, RunRes, resultsA, oneOf, AV.plain, AV.cells, AHeap.push, AHeap.set, AHeap.empty, fieldOf, loadA, storeA, BX.part, TK.isAgg, convA, builtinA, inertB, builtinP, buildA, fillA, splice, eqv, cellsEq, sizeT, adT, ldT, fwT, Nat.reduceBeqDiff, Nat.reduceBneDiff, Int.reduceBNe, Int.reduceBEq, Int.reduceEq, Int.reduceLT, Int.reduceLE, Int.reduceAdd, Int.reduceSub, Int.reduceMul, Int.reduceNeg, strBin, indexAddrA, elems, lenOf, chunk, List.reduceReplicate, Int.reduceToNat]
    · have e1 : (k == 1) = false := by simpa using h1
      by_cases h2 : k = 2
      · subst h2
        cases h3 : (inR x && inR y) with
        | false => simp only [h3, call_pure pure37 rfl (gRefRight_ok x y), Bool.false_and, run_exit_start, exit_here, exit_code, run_inBlock, n29_0, n29_1, n29_2, n29_3, n29_4, n29_5, n29_6, n29_7, n29_8, n29_9, n29_10, n29_11, n29_12, n29_13, n29_14, n29_15, n29_16, n29_17, n29_18, n29_19, n29_20, n29_21, n29_22, n29_23, n29_24, n29_25, n29_26, n29_27, o29_1, o29_4, o29_7, o29_10, o29_13, o29_16, o29_19, o29_22, o29_26, res29, TT_3, TT_4, TT_5, TT_9, TT_22, TT_25, TT_26, TT_29, TT_33, TT_38, TT_40, TT_42, TT_47, TT_50, TT_57, TT_59, TT_66, TT_68, TT_69, TT_70, TT_72, TT_81, bb, primP, primM, ev, evs, parts_, ofConst, bin, un, intBin, putA, enterT, Nat.reduceEqDiff, Nat.reduceAdd, Nat.reduceMul, Nat.reduceLeDiff, Nat.reduceLT, ↓reduceIte, reduceCtorEq, RunRes, resultsA, oneOf, AV.plain, AV.cells, AHeap.push, AHeap.set, AHeap.empty, fieldOf, loadA, storeA, BX.part, TK.isAgg, convA, builtinA, inertB, builtinP, buildA, fillA, splice, eqv, cellsEq, sizeT, adT, ldT, fwT, Nat.reduceBeqDiff, Nat.reduceBneDiff, Int.reduceBNe, Int.reduceBEq, Int.reduceEq, Int.reduceLT, Int.reduceLE, Int.reduceAdd, Int.reduceSub, Int.reduceMul, Int.reduceNeg, strBin, indexAddrA, elems, lenOf, chunk, List.reduceReplicate, Int.reduceToNat]
        | true =>
          cases h4 : (n == 0) <;>
          simp only [h3, h4, call_pure pure37 rfl (gRefRight_ok x y), Bool.false_and, Bool.true_and, run_exit_start, exit_here, exit_code, run_inBlock, n29_0, n29_1, n29_2, n29_3, n29_4, n29_5, n29_6, n29_7, n29_8, n29_9, n29_10, n29_11, n29_12, n29_13, n29_14, n29_15, n29_16, n29_17, n29_18, n29_19, n29_20, n29_21, n29_22, n29_23, n29_24, n29_25, n29_26, n29_27, o29_1, o29_4, o29_7, o29_10, o29_13, o29_16, o29_19, o29_22, o29_26, res29, TT_3, TT_4, TT_5, TT_9, TT_22, TT_25, TT_26, TT_29, TT_33, TT_38, TT_40, TT_42, TT_47, TT_50, TT_57, TT_59, TT_66, TT_68, TT_69, TT_70, TT_72, TT_81, bb, primP, primM, ev, evs, parts_, ofConst, bin, un, intBin, putA, enterT, Nat.reduceEqDiff, Nat.reduceAdd, Nat.reduceMul, Nat.reduceLeDiff, Nat.reduceLT, ↓reduceIte, reduceCtorEq, RunRes, resultsA, oneOf, AV.plain, AV.cells, AHeap.push, AHeap.set, AHeap.empty, fieldOf, loadA, storeA, BX.part, TK.isAgg, convA, builtinA, inertB, builtinP, buildA, fillA, splice, eqv, cellsEq, sizeT, adT, ldT, fwT, Nat.reduceBeqDiff, Nat.reduceBneDiff, Int.reduceBNe, Int.reduceBEq, Int.reduceEq, Int.reduceLT, Int.reduceLE, Int.reduceAdd, Int.reduceSub, Int.reduceMul, Int.reduceNeg, strBin, indexAddrA, elems, lenOf, chunk, List.reduceReplicate, Int.reduceToNat]
      · have e2 : (k == 2) = false := by simpa using h2
        simp only [h0, h1, h2, e0, e1, e2, run_exit_start, exit_here, exit_code, run_inBlock, n29_0, n29_1, n29_2, n29_3, n29_4, n29_5, n29_6, n29_7, n29_8, n29_9, n29_10, n29_11, n29_12, n29_13, n29_14, n29_15, n29_16, n29_17, n29_18, n29_19, n29_20, n29_21, n29_22, n29_23, n29_24, n29_25, n29_26, n29_27, o29_1, o29_4, o29_7, o29_10, o29_13, o29_16, o29_19, o29_22, o29_26, res29, TT_3, TT_4, TT_5, TT_9, TT_22, TT_25, TT_26, TT_29, TT_33, TT_38, TT_40, TT_42, TT_47, TT_50, TT_57, TT_59, TT_66, TT_68, TT_69, TT_70, TT_72, TT_81, bb, primP, primM, ev, evs, parts_, ofConst, bin, un, intBin, putA, enterT, Nat.reduceEqDiff, Nat.reduceAdd, Nat.reduceMul, Nat.reduceLeDiff, Nat.reduceLT, ↓reduceIte, reduceCtorEq, RunRes, resultsA, oneOf, AV.plain, AV.cells, AHeap.push, AHeap.set, AHeap.empty, fieldOf, loadA, storeA, BX.part, TK.isAgg, convA, builtinA, inertB, builtinP, buildA, fillA, splice, eqv, cellsEq, sizeT, adT, ldT, fwT, Nat.reduceBeqDiff, Nat.reduceBneDiff, Int.reduceBNe, Int.reduceBEq, Int.reduceEq, Int.reduceLT, Int.reduceLE, Int.reduceAdd, Int.reduceSub, Int.reduceMul, Int.reduceNeg, strBin, indexAddrA, elems, lenOf, chunk, List.reduceReplicate, Int.reduceToNat]
def badP (p : Pr) : Bool := decide ((64 : Int) < (p.key.length : Int)) || !rightV p.k p.n p.s p.x p.y
theorem bad_ok (p : Pr) : PCall Cx 24 [pairA p] (.bool (badP p)) := by
  refine pcall_run (noext _) body24 ?_
  unfold badP
  by_cases h : (64 : Int) < (p.key.length : Int)
  · simp only [h, Bool.true_or, n24_0, n24_1, n24_2, n24_3, n24_4, o24_1, o24_3, res24, TT_3, TT_4, TT_5, TT_9, TT_22, TT_25, TT_26, TT_29, TT_33, TT_38, TT_40, TT_42, TT_47, TT_50, TT_57, TT_59, TT_66, TT_68, TT_69, TT_70, TT_72, TT_81, bb, primP, primM, ev, evs, parts_, ofConst, bin, un, intBin, putA, enterT, Nat.reduceEqDiff, Nat.reduceAdd, Nat.reduceMul, Nat.reduceLeDiff, Nat.reduceLT, ↓reduceIte, reduceCtorEq, RunRes, resultsA, oneOf, AV.plain, AV.cells, AHeap.push, AHeap.set, AHeap.empty, fieldOf, loadA, storeA, BX.part, TK.isAgg, convA, builtinA, inertB, builtinP, buildA, fillA, splice, eqv, cellsEq, sizeT, adT, ldT, fwT, Nat.reduceBeqDiff, Nat.reduceBneDiff, Int.reduceBNe, Int.reduceBEq, Int.reduceEq, Int.reduceLT, Int.reduceLE, Int.reduceAdd, Int.reduceSub, Int.reduceMul, Int.reduceNeg, strBin, indexAddrA, elems, lenOf, chunk, List.reduceReplicate, Int.reduceToNat]
  · simp only [h, Bool.false_or, call_pure pure25 rfl (Right_ok p.k p.n p.s p.x p.y), n24_0, n24_1, n24_2, n24_3, n24_4, o24_1, o24_3, res24, TT_3, TT_4, TT_5, TT_9, TT_22, TT_25, TT_26, TT_29, TT_33, TT_38, TT_40, TT_42, TT_47, TT_50, TT_57, TT_59, TT_66, TT_68, TT_69, TT_70, TT_72, TT_81, bb, primP, primM, ev, evs, parts_, ofConst, bin, un, intBin, putA, enterT, Nat.reduceEqDiff, Nat.reduceAdd, Nat.reduceMul, Nat.reduceLeDiff, Nat.reduceLT, ↓reduceIte, reduceCtorEq, RunRes, resultsA, oneOf, AV.plain, AV.cells, AHeap.push, AHeap.set, AHeap.empty, fieldOf, loadA, storeA, BX.part, TK.isAgg, convA, builtinA, inertB, builtinP, buildA, fillA, splice, eqv, cellsEq, sizeT, adT, ldT, fwT, Nat.reduceBeqDiff, Nat.reduceBneDiff, Int.reduceBNe, Int.reduceBEq, Int.reduceEq, Int.reduceLT, Int.reduceLE, Int.reduceAdd, Int.reduceSub, Int.reduceMul, Int.reduceNeg, strBin, indexAddrA, elems, lenOf, chunk, List.reduceReplicate, Int.reduceToNat]
def idxB : List Pr → Int → Int
  | [], _ => -1
  | p :: l, i => if badP p = true then i else idxB l (i + 1)
theorem idxB_rng : ∀ (l : List Pr) (i : Int), 0 ≤ i → -1 ≤ idxB l i
  | [], i, h => by simp [idxB]
  | p :: l, i, h => by
    unfold idxB
    split
    · omega
    · exact idxB_rng l (i + 1) (by omega)
theorem idxB_good : ∀ (l : List Pr) (i : Int), 0 ≤ i → (idxB l i < 0 ↔ ∀ p, p ∈ l → badP p = false)
  | [], i, h => by simp [idxB]
  | p :: l, i, h => by
    unfold idxB
    have ih := idxB_good l (i + 1) (by omega)
    cases hb : badP p with
    | true => simp [hb]; omega
    | false => simp [hb, ih]
section
variable {fn : FuncId} {T : Nat → AV} {ds : List ADef} {ro : Option Nat} {k : List AItem} {Q : AV → AHeap → Prop} {dst : Option Nat} {os : List AO} {H : AHeap}
def PI (l : List Pr) (H : AHeap) (Q : AV → AHeap → Prop) (i : Nat) : Prop :=
  ∀ (T : Nat → AV), T 0 = .vec 6 (l.map encP) → T 1 = .fn 24 [] [] → T 7 = .int .i64 ((l.map encP).length : Int) → T 8 = .int .i64 (i : Int) →
    Run Cx 34 T [] none [.inLoop c34_7, .inBlock 0, .code c34_25] H Q
theorem pi_all {l : List Pr} {H : AHeap} {Q : AV → AHeap → Prop} (hl : l.length ≤ 100000) : ∀ (j i : Nat), i + j = l.length → Q (.int .i64 (idxB (l.drop i) (i : Int))) H → PI l H Q i
  | 0, i, hij, hQ => by
    intro T t0 t1 t7 t8
    rw [run_inLoop]
    have h0 : ((i : Int) < ((l.map encP).length : Int)) = False := eq_false (by rw [List.length_map]; omega)
    rw [List.drop_of_length_le (show l.length ≤ i by omega)] at hQ
    have hQ' : Q (.int .i64 (-1)) H := hQ
    simp only [t0, t1, t7, t8, h0, run_exit_start, exit_here, exit_code, exit_inLoop, run_inBlock, n34_0, n34_1, n34_2, n34_3, n34_4, n34_5, n34_6, n34_7, n34_8, n34_9, n34_10, n34_11, n34_12, n34_13, n34_14, n34_15, n34_16, n34_17, n34_18, n34_19, n34_20, n34_21, n34_22, n34_23, n34_24, n34_25, n34_26, n34_27, o34_1, o34_4, o34_8, o34_16, o34_18, o34_21, o34_24, o34_26, res34, TT_3, TT_4, TT_5, TT_9, TT_22, TT_25, TT_26, TT_29, TT_33, TT_38, TT_40, TT_42, TT_47, TT_50, TT_57, TT_59, TT_66, TT_68, TT_69, TT_70, TT_72, TT_81, bb, primP, primM, ev, evs, parts_, ofConst, bin, un, intBin, putA, enterT, Nat.reduceEqDiff, Nat.reduceAdd, Nat.reduceMul, Nat.reduceLeDiff, Nat.reduceLT, ↓reduceIte, reduceCtorEq, RunRes, resultsA, oneOf, AV.plain, AV.cells, AHeap.push, AHeap.set, AHeap.empty, fieldOf, loadA, storeA, BX.part, TK.isAgg, convA, builtinA, inertB, builtinP, buildA, fillA, splice, eqv, cellsEq, sizeT, adT, ldT, fwT, Nat.reduceBeqDiff, Nat.reduceBneDiff, Int.reduceBNe, Int.reduceBEq, Int.reduceEq, Int.reduceLT, Int.reduceLE, Int.reduceAdd, Int.reduceSub, Int.reduceMul, Int.reduceNeg, strBin, indexAddrA, elems, lenOf, chunk, List.reduceReplicate, Int.reduceToNat]
    exact hQ'
  | j + 1, i, hij, hQ => by
    intro T t0 t1 t7 t8
    rw [run_inLoop]
    have hi : i < l.length := by omega
    have h0 : ((i : Int) < ((l.map encP).length : Int)) = True := eq_true (by rw [List.length_map]; omega)
    have hi0 : (0 : Int) ≤ (i : Int) := by omega
    have hg := enc_get (List.getElem?_eq_getElem hi)
    have hb := bad_ok l[i]
    have w1 : IntKind.i64.wrap ((i : Int) + 1) = ((i + 1 : Nat) : Int) := by rw [wr64 (by omega) (by omega)]; omega
    rw [List.drop_eq_getElem_cons hi] at hQ
    unfold idxB at hQ
    cases hbb : badP l[i] with
    | true =>
      rw [if_pos hbb] at hQ
      rw [hbb] at hb
      simp only [t0, t1, t7, t8, h0, hi0, hg, Int.toNat_natCast, call_pure pure24 rfl hb, run_exit_start, exit_here, exit_code, exit_inLoop, run_inBlock, n34_0, n34_1, n34_2, n34_3, n34_4, n34_5, n34_6, n34_7, n34_8, n34_9, n34_10, n34_11, n34_12, n34_13, n34_14, n34_15, n34_16, n34_17, n34_18, n34_19, n34_20, n34_21, n34_22, n34_23, n34_24, n34_25, n34_26, n34_27, o34_1, o34_4, o34_8, o34_16, o34_18, o34_21, o34_24, o34_26, res34, TT_3, TT_4, TT_5, TT_9, TT_22, TT_25, TT_26, TT_29, TT_33, TT_38, TT_40, TT_42, TT_47, TT_50, TT_57, TT_59, TT_66, TT_68, TT_69, TT_70, TT_72, TT_81, bb, primP, primM, ev, evs, parts_, ofConst, bin, un, intBin, putA, enterT, Nat.reduceEqDiff, Nat.reduceAdd, Nat.reduceMul, Nat.reduceLeDiff, Nat.reduceLT, ↓reduceIte, reduceCtorEq, RunRes, resultsA, oneOf, AV.plain, AV.cells, AHeap.push, AHeap.set, AHeap.empty, fieldOf, loadA, storeA, BX.part, TK.isAgg, convA, builtinA, inertB, builtinP, buildA, fillA, splice, eqv, cellsEq, sizeT, adT, ldT, fwT, Nat.reduceBeqDiff, Nat.reduceBneDiff, Int.reduceBNe, Int.reduceBEq, Int.reduceEq, Int.reduceLT, Int.reduceLE, Int.reduceAdd, Int.reduceSub, Int.reduceMul, Int.reduceNeg, strBin, indexAddrA, elems, lenOf, chunk, List.reduceReplicate, Int.reduceToNat]
      exact hQ
    | false =>
      rw [if_neg (by rw [hbb]; simp)] at hQ
      rw [hbb] at hb
      simp only [t0, t1, t7, t8, h0, hi0, hg, w1, Int.toNat_natCast, call_pure pure24 rfl hb, run_exit_start, exit_here, exit_code, exit_inLoop, run_inBlock, n34_0, n34_1, n34_2, n34_3, n34_4, n34_5, n34_6, n34_7, n34_8, n34_9, n34_10, n34_11, n34_12, n34_13, n34_14, n34_15, n34_16, n34_17, n34_18, n34_19, n34_20, n34_21, n34_22, n34_23, n34_24, n34_25, n34_26, n34_27, o34_1, o34_4, o34_8, o34_16, o34_18, o34_21, o34_24, o34_26, res34, TT_3, TT_4, TT_5, TT_9, TT_22, TT_25, TT_26, TT_29, TT_33, TT_38, TT_40, TT_42, TT_47, TT_50, TT_57, TT_59, TT_66, TT_68, TT_69, TT_70, TT_72, TT_81, bb, primP, primM, ev, evs, parts_, ofConst, bin, un, intBin, putA, enterT, Nat.reduceEqDiff, Nat.reduceAdd, Nat.reduceMul, Nat.reduceLeDiff, Nat.reduceLT, ↓reduceIte, reduceCtorEq, RunRes, resultsA, oneOf, AV.plain, AV.cells, AHeap.push, AHeap.set, AHeap.empty, fieldOf, loadA, storeA, BX.part, TK.isAgg, convA, builtinA, inertB, builtinP, buildA, fillA, splice, eqv, cellsEq, sizeT, adT, ldT, fwT, Nat.reduceBeqDiff, Nat.reduceBneDiff, Int.reduceBNe, Int.reduceBEq, Int.reduceEq, Int.reduceLT, Int.reduceLE, Int.reduceAdd, Int.reduceSub, Int.reduceMul, Int.reduceNeg, strBin, indexAddrA, elems, lenOf, chunk, List.reduceReplicate, Int.reduceToNat]
      refine pi_all hl j (i + 1) (by omega) (by rw [show ((i + 1 : Nat) : Int) = (i : Int) + 1 by omega]; exact hQ) _ ?_ ?_ ?_ ?_
      all_goals simp only [upd_app, t0, t1, t7, Nat.reduceEqDiff, ↓reduceIte]
theorem IndexFunc_call {v : AV} {l : List Pr} (hv : InL v l) (hl : l.length ≤ 100000) (hk : RunOps Cx fn (putA T dst (.int .i64 (idxB l 0))) ds ro os k H Q) :
    RunCall Cx fn T ds ro 34 [v, .fn 24 [] []] dst os k H Q := by
  refine call_body pure34 (noext _) body34 ?_
  rcases hv with ⟨rfl, rfl⟩ | rfl
  · have hk' : RunOps Cx fn (putA T dst (.int .i64 (-1))) ds ro os k H Q := hk
    simp only [run_exit_start, exit_here, exit_code, exit_inLoop, run_inBlock, run_inLoop, n34_0, n34_1, n34_2, n34_3, n34_4, n34_5, n34_6, n34_7, n34_8, n34_9, n34_10, n34_11, n34_12, n34_13, n34_14, n34_15, n34_16, n34_17, n34_18, n34_19, n34_20, n34_21, n34_22, n34_23, n34_24, n34_25, n34_26, n34_27, o34_1, o34_4, o34_8, o34_16, o34_18, o34_21, o34_24, o34_26, res34, TT_3, TT_4, TT_5, TT_9, TT_22, TT_25, TT_26, TT_29, TT_33, TT_38, TT_40, TT_42, TT_47, TT_50, TT_57, TT_59, TT_66, TT_68, TT_69, TT_70, TT_72, TT_81, bb, primP, primM, ev, evs, parts_, ofConst, bin, un, intBin, putA, enterT, Nat.reduceEqDiff, Nat.reduceAdd, Nat.reduceMul, Nat.reduceLeDiff, Nat.reduceLT, ↓reduceIte, reduceCtorEq, RunRes, resultsA, oneOf, AV.plain, AV.cells, AHeap.push, AHeap.set, AHeap.empty, fieldOf, loadA, storeA, BX.part, TK.isAgg, convA, builtinA, inertB, builtinP, buildA, fillA, splice, eqv, cellsEq, sizeT, adT, ldT, fwT, Nat.reduceBeqDiff, Nat.reduceBneDiff, Int.reduceBNe, Int.reduceBEq, Int.reduceEq, Int.reduceLT, Int.reduceLE, Int.reduceAdd, Int.reduceSub, Int.reduceMul, Int.reduceNeg, strBin, indexAddrA, elems, lenOf, chunk, List.reduceReplicate, Int.reduceToNat]
    exact hk'
  · have hp := pi_all (H := H) (Q := fun r H1 => RunOps Cx fn (putA T dst r) ds ro os k H1 Q) hl l.length 0 (by omega) (by rw [List.drop_zero]; exact hk)
    simp only [n34_0, n34_1, n34_2, n34_3, n34_4, n34_5, n34_6, n34_8, n34_9, n34_10, n34_11, n34_12, n34_13, n34_14, n34_15, n34_16, n34_17, n34_18, n34_19, n34_20, n34_21, n34_22, n34_23, n34_24, n34_26, n34_27, o34_1, o34_4, o34_8, o34_16, o34_18, o34_21, o34_24, o34_26, res34, TT_3, TT_4, TT_5, TT_9, TT_22, TT_25, TT_26, TT_29, TT_33, TT_38, TT_40, TT_42, TT_47, TT_50, TT_57, TT_59, TT_66, TT_68, TT_69, TT_70, TT_72, TT_81, bb, primP, primM, ev, evs, parts_, ofConst, bin, un, intBin, putA, enterT, Nat.reduceEqDiff, Nat.reduceAdd, Nat.reduceMul, Nat.reduceLeDiff, Nat.reduceLT, ↓reduceIte, reduceCtorEq, RunRes, resultsA, oneOf, AV.plain, AV.cells, AHeap.push, AHeap.set, AHeap.empty, fieldOf, loadA, storeA, BX.part, TK.isAgg, convA, builtinA, inertB, builtinP, buildA, fillA, splice, eqv, cellsEq, sizeT, adT, ldT, fwT, Nat.reduceBeqDiff, Nat.reduceBneDiff, Int.reduceBNe, Int.reduceBEq, Int.reduceEq, Int.reduceLT, Int.reduceLE, Int.reduceAdd, Int.reduceSub, Int.reduceMul, Int.reduceNeg, strBin, indexAddrA, elems, lenOf, chunk, List.reduceReplicate, Int.reduceToNat]
    refine hp _ ?_ ?_ ?_ ?_
    all_goals simp only [upd_app, enterT, List.getElem?_cons_zero, List.getElem?_cons_succ, Option.getD_some, Nat.reduceEqDiff, ↓reduceIte]
    all_goals rfl
end
def rightL (l : List Pr) : Bool := decide (idxB l 0 < 0)
theorem rightL_iff (l : List Pr) : rightL l = true ↔ ∀ p, p ∈ l → badP p = false := by
  unfold rightL
  rw [decide_eq_true_eq]
  exact idxB_good l 0 (by omega)
theorem pRight_ok {v : AV} {l : List Pr} (hv : InL v l) (hl : l.length ≤ 100000) : PCall Cx 9 [v] (.bool (rightL l)) := by
  refine pcall_run (noext _) body9 ?_
  have e : (!decide (0 ≤ idxB l 0)) = rightL l := by
    unfold rightL
    rw [Bool.eq_iff_iff]
    simp
  simp only [n9_0, n9_1, n9_2, n9_3, n9_4, o9_1, o9_3, res9, TT_3, TT_4, TT_5, TT_9, TT_22, TT_25, TT_26, TT_29, TT_33, TT_38, TT_40, TT_42, TT_47, TT_50, TT_57, TT_59, TT_66, TT_68, TT_69, TT_70, TT_72, TT_81, bb, primP, primM, ev, evs, parts_, ofConst, bin, un, intBin, putA, enterT, Nat.reduceEqDiff, Nat.reduceAdd, Nat.reduceMul, Nat.reduceLeDiff, Nat.reduceLT, ↓reduceIte, reduceCtorEq, RunRes, resultsA, oneOf, AV.plain, AV.cells, AHeap.push, AHeap.set, AHeap.empty, fieldOf, loadA, storeA, BX.part, TK.isAgg, convA, builtinA, inertB, builtinP, buildA, fillA, splice, eqv, cellsEq, sizeT, adT, ldT, fwT, Nat.reduceBeqDiff, Nat.reduceBneDiff, Int.reduceBNe, Int.reduceBEq, Int.reduceEq, Int.reduceLT, Int.reduceLE, Int.reduceAdd, Int.reduceSub, Int.reduceMul, Int.reduceNeg, strBin, indexAddrA, elems, lenOf, chunk, List.reduceReplicate, Int.reduceToNat]
  refine call_body pure23 (noext _) body23 ?_
  simp only [n23_0, n23_1, n23_2, n23_3, n23_4, o23_1, o23_3, res23, TT_3, TT_4, TT_5, TT_9, TT_22, TT_25, TT_26, TT_29, TT_33, TT_38, TT_40, TT_42, TT_47, TT_50, TT_57, TT_59, TT_66, TT_68, TT_69, TT_70, TT_72, TT_81, bb, primP, primM, ev, evs, parts_, ofConst, bin, un, intBin, putA, enterT, Nat.reduceEqDiff, Nat.reduceAdd, Nat.reduceMul, Nat.reduceLeDiff, Nat.reduceLT, ↓reduceIte, reduceCtorEq, RunRes, resultsA, oneOf, AV.plain, AV.cells, AHeap.push, AHeap.set, AHeap.empty, fieldOf, loadA, storeA, BX.part, TK.isAgg, convA, builtinA, inertB, builtinP, buildA, fillA, splice, eqv, cellsEq, sizeT, adT, ldT, fwT, Nat.reduceBeqDiff, Nat.reduceBneDiff, Int.reduceBNe, Int.reduceBEq, Int.reduceEq, Int.reduceLT, Int.reduceLE, Int.reduceAdd, Int.reduceSub, Int.reduceMul, Int.reduceNeg, strBin, indexAddrA, elems, lenOf, chunk, List.reduceReplicate, Int.reduceToNat]
  refine IndexFunc_call hv hl ?_
  simp only [e, n9_0, n9_1, n9_2, n9_3, n9_4, o9_1, o9_3, res9, n23_0, n23_1, n23_2, n23_3, n23_4, o23_1, o23_3, res23, TT_3, TT_4, TT_5, TT_9, TT_22, TT_25, TT_26, TT_29, TT_33, TT_38, TT_40, TT_42, TT_47, TT_50, TT_57, TT_59, TT_66, TT_68, TT_69, TT_70, TT_72, TT_81, bb, primP, primM, ev, evs, parts_, ofConst, bin, un, intBin, putA, enterT, Nat.reduceEqDiff, Nat.reduceAdd, Nat.reduceMul, Nat.reduceLeDiff, Nat.reduceLT, ↓reduceIte, reduceCtorEq, RunRes, resultsA, oneOf, AV.plain, AV.cells, AHeap.push, AHeap.set, AHeap.empty, fieldOf, loadA, storeA, BX.part, TK.isAgg, convA, builtinA, inertB, builtinP, buildA, fillA, splice, eqv, cellsEq, sizeT, adT, ldT, fwT, Nat.reduceBeqDiff, Nat.reduceBneDiff, Int.reduceBNe, Int.reduceBEq, Int.reduceEq, Int.reduceLT, Int.reduceLE, Int.reduceAdd, Int.reduceSub, Int.reduceMul, Int.reduceNeg, strBin, indexAddrA, elems, lenOf, chunk, List.reduceReplicate, Int.reduceToNat]
end Go.Proofs.Ytbfjkomlnpolmaa.G

namespace Go.Proofs.Ytbfjkomlnpolmaa.G
open Go.BX
set_option linter.unusedSimpArgs false
set_option linter.unusedVariables false
def PS (l : List Pr) (r : AV) (i : Nat) (acc : Int) : Prop :=
  ∀ (T : Nat → AV) (H : AHeap), T 0 = .vec 6 (l.map encP) → T 3 = .int .i64 acc → T 4 = .int .i64 (i : Int) →
    Run Cx 8 T [] none [.inLoop c8_9, .inBlock 0, .code c8_19] H (fun r0 H' => BX.freeze H' r0 = some r)
theorem ps_end {l : List Pr} {i : Nat} {acc : Int} (hl : l.length ≤ maxLen) (hi : l.length ≤ i ∨ 100 < i) : ∃ r : Int, (r = 0 ∨ r = 1 ∧ l.length ≤ 100) ∧ PS l (.int .i64 r) i acc := by
  by_cases h100 : (100 : Int) < ((l.map encP).length : Int)
  · refine ⟨0, .inl rfl, ?_⟩
    intro T H t0 t3 t4
    rw [run_inLoop]
    by_cases h1 : (i : Int) < ((l.map encP).length : Int)
    · have h2 : ¬ (i : Int) ≤ 100 := by rw [List.length_map] at h1; omega
      simp only [t0, t3, t4, h1, h2, h100, run_exit_start, exit_here, exit_code, exit_inLoop, run_inBlock, n8_0, n8_1, n8_2, n8_3, n8_4, n8_5, n8_6, n8_7, n8_8, n8_9, n8_10, n8_11, n8_12, n8_13, n8_14, n8_15, n8_16, n8_17, n8_18, n8_19, n8_20, n8_21, n8_22, n8_23, n8_24, n8_25, n8_26, n8_27, n8_28, n8_29, o8_1, o8_3, o8_6, o8_11, o8_17, o8_18, o8_21, o8_24, o8_28, res8, TT_3, TT_4, TT_5, TT_9, TT_22, TT_25, TT_26, TT_29, TT_33, TT_38, TT_40, TT_42, TT_47, TT_50, TT_57, TT_59, TT_66, TT_68, TT_69, TT_70, TT_72, TT_81, bb, primP, primM, ev, evs, parts_, ofConst, bin, un, intBin, putA, enterT, Nat.reduceEqDiff, Nat.reduceAdd, Nat.reduceMul, Nat.reduceLeDiff, Nat.reduceLT, ↓reduceIte, reduceCtorEq, RunRes, resultsA, oneOf, AV.plain, AV.cells, AHeap.push, AHeap.set, AHeap.empty, fieldOf, loadA, storeA, BX.part, TK.isAgg, convA, builtinA, inertB, builtinP, buildA, fillA, splice, eqv, cellsEq, sizeT, adT, ldT, fwT, Nat.reduceBeqDiff, Nat.reduceBneDiff, Int.reduceBNe, Int.reduceBEq, Int.reduceEq, Int.reduceLT, Int.reduceLE, Int.reduceAdd, Int.reduceSub, Int.reduceMul, Int.reduceNeg, strBin, indexAddrA, elems, lenOf, chunk, List.reduceReplicate, Int.reduceToNat]
    · simp only [t0, t3, t4, h1, h100, run_exit_start, exit_here, exit_code, exit_inLoop, run_inBlock, n8_0, n8_1, n8_2, n8_3, n8_4, n8_5, n8_6, n8_7, n8_8, n8_9, n8_10, n8_11, n8_12, n8_13, n8_14, n8_15, n8_16, n8_17, n8_18, n8_19, n8_20, n8_21, n8_22, n8_23, n8_24, n8_25, n8_26, n8_27, n8_28, n8_29, o8_1, o8_3, o8_6, o8_11, o8_17, o8_18, o8_21, o8_24, o8_28, res8, TT_3, TT_4, TT_5, TT_9, TT_22, TT_25, TT_26, TT_29, TT_33, TT_38, TT_40, TT_42, TT_47, TT_50, TT_57, TT_59, TT_66, TT_68, TT_69, TT_70, TT_72, TT_81, bb, primP, primM, ev, evs, parts_, ofConst, bin, un, intBin, putA, enterT, Nat.reduceEqDiff, Nat.reduceAdd, Nat.reduceMul, Nat.reduceLeDiff, Nat.reduceLT, ↓reduceIte, reduceCtorEq, RunRes, resultsA, oneOf, AV.plain, AV.cells, AHeap.push, AHeap.set, AHeap.empty, fieldOf, loadA, storeA, BX.part, TK.isAgg, convA, builtinA, inertB, builtinP, buildA, fillA, splice, eqv, cellsEq, sizeT, adT, ldT, fwT, Nat.reduceBeqDiff, Nat.reduceBneDiff, Int.reduceBNe, Int.reduceBEq, Int.reduceEq, Int.reduceLT, Int.reduceLE, Int.reduceAdd, Int.reduceSub, Int.reduceMul, Int.reduceNeg, strBin, indexAddrA, elems, lenOf, chunk, List.reduceReplicate, Int.reduceToNat]
  · have hle : l.length ≤ 100 := by rw [List.length_map] at h100; omega
    have h1 : ¬ (i : Int) < ((l.map encP).length : Int) := by rw [List.length_map]; omega
    by_cases h3 : (10000 : Int) < acc
    · refine ⟨0, .inl rfl, ?_⟩
      intro T H t0 t3 t4
      rw [run_inLoop]
      simp only [t0, t3, t4, h1, h3, h100, run_exit_start, exit_here, exit_code, exit_inLoop, run_inBlock, n8_0, n8_1, n8_2, n8_3, n8_4, n8_5, n8_6, n8_7, n8_8, n8_9, n8_10, n8_11, n8_12, n8_13, n8_14, n8_15, n8_16, n8_17, n8_18, n8_19, n8_20, n8_21, n8_22, n8_23, n8_24, n8_25, n8_26, n8_27, n8_28, n8_29, o8_1, o8_3, o8_6, o8_11, o8_17, o8_18, o8_21, o8_24, o8_28, res8, TT_3, TT_4, TT_5, TT_9, TT_22, TT_25, TT_26, TT_29, TT_33, TT_38, TT_40, TT_42, TT_47, TT_50, TT_57, TT_59, TT_66, TT_68, TT_69, TT_70, TT_72, TT_81, bb, primP, primM, ev, evs, parts_, ofConst, bin, un, intBin, putA, enterT, Nat.reduceEqDiff, Nat.reduceAdd, Nat.reduceMul, Nat.reduceLeDiff, Nat.reduceLT, ↓reduceIte, reduceCtorEq, RunRes, resultsA, oneOf, AV.plain, AV.cells, AHeap.push, AHeap.set, AHeap.empty, fieldOf, loadA, storeA, BX.part, TK.isAgg, convA, builtinA, inertB, builtinP, buildA, fillA, splice, eqv, cellsEq, sizeT, adT, ldT, fwT, Nat.reduceBeqDiff, Nat.reduceBneDiff, Int.reduceBNe, Int.reduceBEq, Int.reduceEq, Int.reduceLT, Int.reduceLE, Int.reduceAdd, Int.reduceSub, Int.reduceMul, Int.reduceNeg, strBin, indexAddrA, elems, lenOf, chunk, List.reduceReplicate, Int.reduceToNat]
    · refine ⟨1, .inr ⟨rfl, hle⟩, ?_⟩
      intro T H t0 t3 t4
      rw [run_inLoop]
      simp only [t0, t3, t4, h1, h3, h100, run_exit_start, exit_here, exit_code, exit_inLoop, run_inBlock, n8_0, n8_1, n8_2, n8_3, n8_4, n8_5, n8_6, n8_7, n8_8, n8_9, n8_10, n8_11, n8_12, n8_13, n8_14, n8_15, n8_16, n8_17, n8_18, n8_19, n8_20, n8_21, n8_22, n8_23, n8_24, n8_25, n8_26, n8_27, n8_28, n8_29, o8_1, o8_3, o8_6, o8_11, o8_17, o8_18, o8_21, o8_24, o8_28, res8, TT_3, TT_4, TT_5, TT_9, TT_22, TT_25, TT_26, TT_29, TT_33, TT_38, TT_40, TT_42, TT_47, TT_50, TT_57, TT_59, TT_66, TT_68, TT_69, TT_70, TT_72, TT_81, bb, primP, primM, ev, evs, parts_, ofConst, bin, un, intBin, putA, enterT, Nat.reduceEqDiff, Nat.reduceAdd, Nat.reduceMul, Nat.reduceLeDiff, Nat.reduceLT, ↓reduceIte, reduceCtorEq, RunRes, resultsA, oneOf, AV.plain, AV.cells, AHeap.push, AHeap.set, AHeap.empty, fieldOf, loadA, storeA, BX.part, TK.isAgg, convA, builtinA, inertB, builtinP, buildA, fillA, splice, eqv, cellsEq, sizeT, adT, ldT, fwT, Nat.reduceBeqDiff, Nat.reduceBneDiff, Int.reduceBNe, Int.reduceBEq, Int.reduceEq, Int.reduceLT, Int.reduceLE, Int.reduceAdd, Int.reduceSub, Int.reduceMul, Int.reduceNeg, strBin, indexAddrA, elems, lenOf, chunk, List.reduceReplicate, Int.reduceToNat]
theorem ps_all {l : List Pr} (hl : l.length ≤ maxLen) : ∀ (j i : Nat) (acc : Int), 101 ≤ i + j → i ≤ 101 → 0 ≤ acc → acc ≤ 200000 * i → ∃ r : Int, (r = 0 ∨ r = 1 ∧ l.length ≤ 100) ∧ PS l (.int .i64 r) i acc
  | 0, i, acc, hj, hi, h0, h1 => ps_end hl (.inr (by omega))
  | j + 1, i, acc, hj, hi, h0, h1 => by
    by_cases hil : l.length ≤ i
    · exact ps_end hl (.inl hil)
    by_cases hi100 : 100 < i
    · exact ps_end hl (.inr hi100)
    have hlt : i < l.length := by omega
    have hg := enc_get (List.getElem?_eq_getElem hlt)
    have k1 : (i : Int) < ((l.map encP).length : Int) := by rw [List.length_map]; omega
    have k2 : (i : Int) ≤ 100 := by omega
    have k0 : (0 : Int) ≤ (i : Int) := by omega
    have w3 : IntKind.i64.wrap ((i : Int) + 1) = ((i + 1 : Nat) : Int) := by rw [wr64 (by omega) (by omega)]; omega
    have m1 : ∀ a : Nat, 0 ≤ (if (100000 : Int) < (a : Int) then (100000 : Int) else (a : Int)) ∧ (if (100000 : Int) < (a : Int) then (100000 : Int) else (a : Int)) ≤ 100000 := by
      intro a; split <;> omega
    have ma := m1 l[i].key.length
    have mb := m1 l[i].s.length
    obtain ⟨r, hr, hp⟩ := ps_all hl j (i + 1) (acc + (if (100000 : Int) < (l[i].key.length : Int) then 100000 else (l[i].key.length : Int)) + (if (100000 : Int) < (l[i].s.length : Int) then 100000 else (l[i].s.length : Int))) (by omega) (by omega) (by omega) (by omega)
    refine ⟨r, hr, ?_⟩
    intro T H t0 t3 t4
    rw [run_inLoop]
    generalize hA : (if (100000 : Int) < (l[i].key.length : Int) then (100000 : Int) else (l[i].key.length : Int)) = a at *
    generalize hB : (if (100000 : Int) < (l[i].s.length : Int) then (100000 : Int) else (l[i].s.length : Int)) = b at *
    have w1 : IntKind.i64.wrap (acc + a) = acc + a := wr64 (by omega) (by omega)
    have w2 : IntKind.i64.wrap (acc + a + b) = acc + a + b := wr64 (by omega) (by omega)
    simp only [t0, t3, t4, k0, k1, k2, hg, w1, w2, w3, hA, hB, minA, Int.toNat_natCast, run_exit_start, exit_here, exit_code, exit_inLoop, run_inBlock, n8_0, n8_1, n8_2, n8_3, n8_4, n8_5, n8_6, n8_7, n8_8, n8_9, n8_10, n8_11, n8_12, n8_13, n8_14, n8_15, n8_16, n8_17, n8_18, n8_19, n8_20, n8_21, n8_22, n8_23, n8_24, n8_25, n8_26, n8_27, n8_28, n8_29, o8_1, o8_3, o8_6, o8_11, o8_17, o8_18, o8_21, o8_24, o8_28, res8, TT_3, TT_4, TT_5, TT_9, TT_22, TT_25, TT_26, TT_29, TT_33, TT_38, TT_40, TT_42, TT_47, TT_50, TT_57, TT_59, TT_66, TT_68, TT_69, TT_70, TT_72, TT_81, bb, primP, primM, ev, evs, parts_, ofConst, bin, un, intBin, putA, enterT, Nat.reduceEqDiff, Nat.reduceAdd, Nat.reduceMul, Nat.reduceLeDiff, Nat.reduceLT, ↓reduceIte, reduceCtorEq, RunRes, resultsA, oneOf, AV.plain, AV.cells, AHeap.push, AHeap.set, AHeap.empty, fieldOf, loadA, storeA, BX.part, TK.isAgg, convA, builtinA, inertB, builtinP, buildA, fillA, splice, eqv, cellsEq, sizeT, adT, ldT, fwT, Nat.reduceBeqDiff, Nat.reduceBneDiff, Int.reduceBNe, Int.reduceBEq, Int.reduceEq, Int.reduceLT, Int.reduceLE, Int.reduceAdd, Int.reduceSub, Int.reduceMul, Int.reduceNeg, strBin, indexAddrA, elems, lenOf, chunk, List.reduceReplicate, Int.reduceToNat]
    refine hp _ _ ?_ ?_ ?_
    all_goals simp only [upd_app, t0, Nat.reduceEqDiff, ↓reduceIte]
theorem Small_ok {v : AV} {l : List Pr} (hv : InL v l) (hl : l.length ≤ maxLen) : ∃ r : Int, (r = 0 ∨ r = 1 ∧ l.length ≤ 100) ∧ PCall Cx 8 [v] (.int .i64 r) := by
  rcases hv with ⟨rfl, rfl⟩ | rfl
  · refine ⟨1, .inr ⟨rfl, by simp⟩, ?_⟩
    refine pcall_run (noext _) body8 ?_
    simp only [run_exit_start, exit_here, exit_code, exit_inLoop, run_inBlock, run_inLoop, n8_0, n8_1, n8_2, n8_3, n8_4, n8_5, n8_6, n8_7, n8_8, n8_9, n8_10, n8_11, n8_12, n8_13, n8_14, n8_15, n8_16, n8_17, n8_18, n8_19, n8_20, n8_21, n8_22, n8_23, n8_24, n8_25, n8_26, n8_27, n8_28, n8_29, o8_1, o8_3, o8_6, o8_11, o8_17, o8_18, o8_21, o8_24, o8_28, res8, TT_3, TT_4, TT_5, TT_9, TT_22, TT_25, TT_26, TT_29, TT_33, TT_38, TT_40, TT_42, TT_47, TT_50, TT_57, TT_59, TT_66, TT_68, TT_69, TT_70, TT_72, TT_81, bb, primP, primM, ev, evs, parts_, ofConst, bin, un, intBin, putA, enterT, Nat.reduceEqDiff, Nat.reduceAdd, Nat.reduceMul, Nat.reduceLeDiff, Nat.reduceLT, ↓reduceIte, reduceCtorEq, RunRes, resultsA, oneOf, AV.plain, AV.cells, AHeap.push, AHeap.set, AHeap.empty, fieldOf, loadA, storeA, BX.part, TK.isAgg, convA, builtinA, inertB, builtinP, buildA, fillA, splice, eqv, cellsEq, sizeT, adT, ldT, fwT, Nat.reduceBeqDiff, Nat.reduceBneDiff, Int.reduceBNe, Int.reduceBEq, Int.reduceEq, Int.reduceLT, Int.reduceLE, Int.reduceAdd, Int.reduceSub, Int.reduceMul, Int.reduceNeg, strBin, indexAddrA, elems, lenOf, chunk, List.reduceReplicate, Int.reduceToNat]
  · obtain ⟨r, hr, hp⟩ := ps_all hl 101 0 0 (by omega) (by omega) (by omega) (by omega)
    refine ⟨r, hr, pcall_run (noext _) body8 ?_⟩
    simp only [n8_0, n8_1, n8_2, n8_3, n8_4, n8_5, n8_6, n8_7, n8_8, n8_10, n8_11, n8_12, n8_13, n8_14, n8_15, n8_16, n8_17, n8_18, n8_20, n8_21, n8_22, n8_23, n8_24, n8_25, n8_26, n8_27, n8_28, n8_29, o8_1, o8_3, o8_6, o8_11, o8_17, o8_18, o8_21, o8_24, o8_28, res8, TT_3, TT_4, TT_5, TT_9, TT_22, TT_25, TT_26, TT_29, TT_33, TT_38, TT_40, TT_42, TT_47, TT_50, TT_57, TT_59, TT_66, TT_68, TT_69, TT_70, TT_72, TT_81, bb, primP, primM, ev, evs, parts_, ofConst, bin, un, intBin, putA, enterT, Nat.reduceEqDiff, Nat.reduceAdd, Nat.reduceMul, Nat.reduceLeDiff, Nat.reduceLT, ↓reduceIte, reduceCtorEq, RunRes, resultsA, oneOf, AV.plain, AV.cells, AHeap.push, AHeap.set, AHeap.empty, fieldOf, loadA, storeA, BX.part, TK.isAgg, convA, builtinA, inertB, builtinP, buildA, fillA, splice, eqv, cellsEq, sizeT, adT, ldT, fwT, Nat.reduceBeqDiff, Nat.reduceBneDiff, Int.reduceBNe, Int.reduceBEq, Int.reduceEq, Int.reduceLT, Int.reduceLE, Int.reduceAdd, Int.reduceSub, Int.reduceMul, Int.reduceNeg, strBin, indexAddrA, elems, lenOf, chunk, List.reduceReplicate, Int.reduceToNat]
    refine hp _ _ ?_ ?_ ?_
    all_goals simp only [upd_app, enterT, List.getElem?_cons_zero, Option.getD_some, Nat.reduceEqDiff, ↓reduceIte]
    all_goals rfl
def PE (l : List Pr) (i : Nat) : Prop :=
  ∀ (T : Nat → AV) (H : AHeap), T 0 = .vec 6 (l.map encP) → T 1 = .vec 6 (l.map encP) → T 5 = .int .i64 (i : Int) →
    Run Cx 18 T [] none [.inLoop c18_15, .inBlock 0, .code c18_31] H (fun r0 H' => BX.freeze H' r0 = some (.bool true))
theorem pe_all {l : List Pr} (hl : l.length ≤ 100000) : ∀ (j i : Nat), i + j = l.length → PE l i
  | 0, i, hij => by
    intro T H t0 t1 t5
    rw [run_inLoop]
    have h0 : ((i : Int) < ((l.map encP).length : Int)) = False := eq_false (by rw [List.length_map]; omega)
    simp only [t0, t1, t5, h0, run_exit_start, exit_here, exit_code, exit_inLoop, run_inBlock, n18_0, n18_1, n18_2, n18_3, n18_4, n18_5, n18_6, n18_7, n18_8, n18_9, n18_10, n18_11, n18_12, n18_13, n18_14, n18_15, n18_16, n18_17, n18_18, n18_19, n18_20, n18_21, n18_22, n18_23, n18_24, n18_25, n18_26, n18_27, n18_28, n18_29, n18_30, n18_31, n18_32, n18_33, o18_1, o18_4, o18_7, o18_12, o18_17, o18_24, o18_27, o18_30, o18_32, res18, TT_3, TT_4, TT_5, TT_9, TT_22, TT_25, TT_26, TT_29, TT_33, TT_38, TT_40, TT_42, TT_47, TT_50, TT_57, TT_59, TT_66, TT_68, TT_69, TT_70, TT_72, TT_81, bb, primP, primM, ev, evs, parts_, ofConst, bin, un, intBin, putA, enterT, Nat.reduceEqDiff, Nat.reduceAdd, Nat.reduceMul, Nat.reduceLeDiff, Nat.reduceLT, ↓reduceIte, reduceCtorEq, RunRes, resultsA, oneOf, AV.plain, AV.cells, AHeap.push, AHeap.set, AHeap.empty, fieldOf, loadA, storeA, BX.part, TK.isAgg, convA, builtinA, inertB, builtinP, buildA, fillA, splice, eqv, cellsEq, sizeT, adT, ldT, fwT, Nat.reduceBeqDiff, Nat.reduceBneDiff, Int.reduceBNe, Int.reduceBEq, Int.reduceEq, Int.reduceLT, Int.reduceLE, Int.reduceAdd, Int.reduceSub, Int.reduceMul, Int.reduceNeg, strBin, indexAddrA, elems, lenOf, chunk, List.reduceReplicate, Int.reduceToNat]
  | j + 1, i, hij => by
    intro T H t0 t1 t5
    rw [run_inLoop]
    have hi : i < l.length := by omega
    have h0 : ((i : Int) < ((l.map encP).length : Int)) = True := eq_true (by rw [List.length_map]; omega)
    have hi0 : (0 : Int) ≤ (i : Int) := by omega
    have hg := enc_get (List.getElem?_eq_getElem hi)
    have w1 : IntKind.i64.wrap ((i : Int) + 1) = ((i + 1 : Nat) : Int) := by rw [wr64 (by omega) (by omega)]; omega
    simp only [t0, t1, t5, h0, hi0, hg, w1, Int.toNat_natCast, run_exit_start, exit_here, exit_code, exit_inLoop, run_inBlock, n18_0, n18_1, n18_2, n18_3, n18_4, n18_5, n18_6, n18_7, n18_8, n18_9, n18_10, n18_11, n18_12, n18_13, n18_14, n18_15, n18_16, n18_17, n18_18, n18_19, n18_20, n18_21, n18_22, n18_23, n18_24, n18_25, n18_26, n18_27, n18_28, n18_29, n18_30, n18_31, n18_32, n18_33, o18_1, o18_4, o18_7, o18_12, o18_17, o18_24, o18_27, o18_30, o18_32, res18, TT_3, TT_4, TT_5, TT_9, TT_22, TT_25, TT_26, TT_29, TT_33, TT_38, TT_40, TT_42, TT_47, TT_50, TT_57, TT_59, TT_66, TT_68, TT_69, TT_70, TT_72, TT_81, bb, primP, primM, ev, evs, parts_, ofConst, bin, un, intBin, putA, enterT, Nat.reduceEqDiff, Nat.reduceAdd, Nat.reduceMul, Nat.reduceLeDiff, Nat.reduceLT, ↓reduceIte, reduceCtorEq, RunRes, resultsA, oneOf, AV.plain, AV.cells, AHeap.push, AHeap.set, AHeap.empty, fieldOf, loadA, storeA, BX.part, TK.isAgg, convA, builtinA, inertB, builtinP, buildA, fillA, splice, eqv, cellsEq, sizeT, adT, ldT, fwT, Nat.reduceBeqDiff, Nat.reduceBneDiff, Int.reduceBNe, Int.reduceBEq, Int.reduceEq, Int.reduceLT, Int.reduceLE, Int.reduceAdd, Int.reduceSub, Int.reduceMul, Int.reduceNeg, strBin, indexAddrA, elems, lenOf, chunk, List.reduceReplicate, Int.reduceToNat]
    refine pe_all hl j (i + 1) (by omega) _ _ ?_ ?_ ?_
    all_goals simp only [upd_app, t0, t1, Nat.reduceEqDiff, ↓reduceIte]
theorem SamePairs_ok {v w : AV} {l : List Pr} (hv : InL v l) (hw : InL w l) (hl : l.length ≤ 100000) : PCall Cx 18 [v, w] (.bool true) := by
  refine pcall_run (noext _) body18 ?_
  by_cases he : l = []
  · subst he
    rcases hv with ⟨rfl, _⟩ | rfl <;> rcases hw with ⟨rfl, _⟩ | rfl <;>
    simp only [List.map_nil, run_exit_start, exit_here, exit_code, exit_inLoop, run_inBlock, run_inLoop, n18_0, n18_1, n18_2, n18_3, n18_4, n18_5, n18_6, n18_7, n18_8, n18_9, n18_10, n18_11, n18_12, n18_13, n18_14, n18_15, n18_16, n18_17, n18_18, n18_19, n18_20, n18_21, n18_22, n18_23, n18_24, n18_25, n18_26, n18_27, n18_28, n18_29, n18_30, n18_31, n18_32, n18_33, o18_1, o18_4, o18_7, o18_12, o18_17, o18_24, o18_27, o18_30, o18_32, res18, TT_3, TT_4, TT_5, TT_9, TT_22, TT_25, TT_26, TT_29, TT_33, TT_38, TT_40, TT_42, TT_47, TT_50, TT_57, TT_59, TT_66, TT_68, TT_69, TT_70, TT_72, TT_81, bb, primP, primM, ev, evs, parts_, ofConst, bin, un, intBin, putA, enterT, Nat.reduceEqDiff, Nat.reduceAdd, Nat.reduceMul, Nat.reduceLeDiff, Nat.reduceLT, ↓reduceIte, reduceCtorEq, RunRes, resultsA, oneOf, AV.plain, AV.cells, AHeap.push, AHeap.set, AHeap.empty, fieldOf, loadA, storeA, BX.part, TK.isAgg, convA, builtinA, inertB, builtinP, buildA, fillA, splice, eqv, cellsEq, sizeT, adT, ldT, fwT, Nat.reduceBeqDiff, Nat.reduceBneDiff, Int.reduceBNe, Int.reduceBEq, Int.reduceEq, Int.reduceLT, Int.reduceLE, Int.reduceAdd, Int.reduceSub, Int.reduceMul, Int.reduceNeg, strBin, indexAddrA, elems, lenOf, chunk, List.reduceReplicate, Int.reduceToNat]
  · have hv' : v = .vec 6 (l.map encP) := by rcases hv with ⟨_, h⟩ | h; exact absurd h he; exact h
    have hw' : w = .vec 6 (l.map encP) := by rcases hw with ⟨_, h⟩ | h; exact absurd h he; exact h
    subst hv' hw'
    have hp := pe_all hl l.length 0 (by omega)
    simp only [n18_0, n18_1, n18_2, n18_3, n18_4, n18_5, n18_6, n18_7, n18_8, n18_9, n18_10, n18_11, n18_12, n18_13, n18_14, n18_16, n18_17, n18_18, n18_19, n18_20, n18_21, n18_22, n18_23, n18_24, n18_25, n18_26, n18_27, n18_28, n18_29, n18_30, n18_32, n18_33, o18_1, o18_4, o18_7, o18_12, o18_17, o18_24, o18_27, o18_30, o18_32, res18, TT_3, TT_4, TT_5, TT_9, TT_22, TT_25, TT_26, TT_29, TT_33, TT_38, TT_40, TT_42, TT_47, TT_50, TT_57, TT_59, TT_66, TT_68, TT_69, TT_70, TT_72, TT_81, bb, primP, primM, ev, evs, parts_, ofConst, bin, un, intBin, putA, enterT, Nat.reduceEqDiff, Nat.reduceAdd, Nat.reduceMul, Nat.reduceLeDiff, Nat.reduceLT, ↓reduceIte, reduceCtorEq, RunRes, resultsA, oneOf, AV.plain, AV.cells, AHeap.push, AHeap.set, AHeap.empty, fieldOf, loadA, storeA, BX.part, TK.isAgg, convA, builtinA, inertB, builtinP, buildA, fillA, splice, eqv, cellsEq, sizeT, adT, ldT, fwT, Nat.reduceBeqDiff, Nat.reduceBneDiff, Int.reduceBNe, Int.reduceBEq, Int.reduceEq, Int.reduceLT, Int.reduceLE, Int.reduceAdd, Int.reduceSub, Int.reduceMul, Int.reduceNeg, strBin, indexAddrA, elems, lenOf, chunk, List.reduceReplicate, Int.reduceToNat]
    refine hp _ _ ?_ ?_ ?_
    all_goals simp only [upd_app, enterT, List.getElem?_cons_zero, List.getElem?_cons_succ, Option.getD_some, Nat.reduceEqDiff, ↓reduceIte]
    all_goals rfl
end Go.Proofs.Ytbfjkomlnpolmaa.G

namespace Go.Proofs.Ytbfjkomlnpolmaa.G
open Go.BX
set_option linter.unusedSimpArgs false
set_option linter.unusedVariables false
theorem bl_irr : ∀ (a : Bytes), lessB a a = false
  | [] => rfl
  | x :: a => by
    show (decide (x < x) || (x == x && lessB a a)) = false
    rw [bl_irr a]
    simp
theorem bl_trans : ∀ (a b c : Bytes), lessB a b = true → lessB b c = true → lessB a c = true
  | [], [], c, h1, h2 => by cases h1
  | [], y :: b, [], h1, h2 => by cases h2
  | [], y :: b, z :: c, h1, h2 => rfl
  | x :: a, [], c, h1, h2 => by cases h1
  | x :: a, y :: b, [], h1, h2 => by cases h2
  | x :: a, y :: b, z :: c, h1, h2 => by
    have h1' : (decide (x < y) || (x == y && lessB a b)) = true := h1
    have h2' : (decide (y < z) || (y == z && lessB b c)) = true := h2
    show (decide (x < z) || (x == z && lessB a c)) = true
    simp only [Bool.or_eq_true, Bool.and_eq_true, decide_eq_true_eq, beq_iff_eq] at h1' h2' ⊢
    rcases h1' with k1 | ⟨e1, k1⟩ <;> rcases h2' with k2 | ⟨e2, k2⟩
    · exact .inl (UInt8.lt_trans k1 k2)
    · exact .inl (e2 ▸ k1)
    · exact .inl (e1 ▸ k2)
    · exact .inr ⟨e1.trans e2, bl_trans a b c k1 k2⟩
theorem bl_tot : ∀ (a b : Bytes), lessB a b = false → lessB b a = false → a = b
  | [], [], h1, h2 => rfl
  | [], y :: b, h1, h2 => by cases h1
  | x :: a, [], h1, h2 => by cases h2
  | x :: a, y :: b, h1, h2 => by
    have h1' : (decide (x < y) || (x == y && lessB a b)) = false := h1
    have h2' : (decide (y < x) || (y == x && lessB b a)) = false := h2
    simp only [Bool.or_eq_false_iff, Bool.and_eq_false_imp, decide_eq_false_iff_not, beq_iff_eq] at h1' h2'
    have e : x = y := by
      rcases UInt8.lt_or_lt_of_ne (a := x) (b := y) |> fun h => Classical.or_iff_not_imp_left.mpr (fun hn : ¬ x = y => h hn) with h | h | h
      · exact h
      · exact absurd h h1'.1
      · exact absurd h h2'.1
    subst e
    rw [bl_tot a b (h1'.2 rfl) (h2'.2 rfl)]
theorem bl_asym {a b : Bytes} (h : lessB a b = true) : lessB b a = false := by
  cases h2 : lessB b a with
  | false => rfl
  | true => have := bl_trans a b a h h2; rw [bl_irr] at this; cases this
theorem bl_le {a b c : Bytes} (h1 : lessB b a = false) (h2 : lessB c b = false) : lessB c a = false := by
  cases h : lessB c a with
  | false => rfl
  | true =>
    cases hb : lessB b c with
    | true => have := bl_trans b c a hb h; rw [h1] at this; cases this
    | false => have e := bl_tot b c hb h2; subst e; rw [h1] at h; cases h
theorem bl_lt_le {a b c : Bytes} (h1 : lessB a b = true) (h2 : lessB c b = false) : lessB a c = true := by
  cases h : lessB a c with
  | true => rfl
  | false => have := bl_le h2 h; rw [h1] at this; cases this
theorem bl_le_lt {a b c : Bytes} (h1 : lessB b a = false) (h2 : lessB b c = true) : lessB a c = true := by
  cases h : lessB a c with
  | true => rfl
  | false => have := bl_le h h1; rw [h2] at this; cases this
theorem bl_ne {a b : Bytes} (h : lessB a b = true) : a ≠ b := by
  intro e; subst e; rw [bl_irr] at h; cases h
abbrev ltP (p q : Pr) : Bool := lessB p.key q.key
def sw (f : Nat → Pr) (i j : Nat) : Nat → Pr := fun k => if k = i then f j else if k = j then f i else f k
def swp (f : Nat → Pr) (a b m : Nat) : Nat → Pr := fun k => if a ≤ k ∧ k < a + m then f (k - a + b) else if b ≤ k ∧ k < b + m then f (k - b + a) else f k
def rot (f : Nat → Pr) (a m b : Nat) : Nat → Pr := fun k => if a ≤ k ∧ k < a + (b - m) then f (k - a + m) else if a + (b - m) ≤ k ∧ k < b then f (k - (b - m)) else f k
theorem swp_zero (f : Nat → Pr) (a b : Nat) : swp f a b 0 = f := by
  funext k
  unfold swp
  rw [if_neg (by omega), if_neg (by omega)]
theorem swp_succ (f : Nat → Pr) {a b m i : Nat} (hab : a + m ≤ b) (hi : i < m) : sw (swp f a b i) (a + i) (b + i) = swp f a b (i + 1) := by
  funext k
  unfold sw swp
  repeat' split
  all_goals first | (exfalso; omega) | exact congrArg f (by omega)
theorem rot_gt (f : Nat → Pr) {m i j : Nat} (hi : i ≤ m) (h : j < i) : rot f (m - i) m (m + j) = rot (swp f (m - i) m j) (m - (i - j)) m (m + j) := by
  funext k
  unfold rot swp
  repeat' split
  all_goals first | (exfalso; omega) | exact congrArg f (by omega)
theorem rot_lt (f : Nat → Pr) {m i j : Nat} (hi : i ≤ m) (h : i < j) : rot f (m - i) m (m + j) = rot (swp f (m - i) (m + j - i) i) (m - i) m (m + (j - i)) := by
  funext k
  unfold rot swp
  repeat' split
  all_goals first | (exfalso; omega) | exact congrArg f (by omega)
theorem rot_eq (f : Nat → Pr) {m i : Nat} (hi : i ≤ m) : rot f (m - i) m (m + i) = swp f (m - i) m i := by
  funext k
  unfold rot swp
  repeat' split
  all_goals first | (exfalso; omega) | exact congrArg f (by omega)
theorem rot_nil (f : Nat → Pr) (a b : Nat) : rot f a a b = f := by
  funext k
  unfold rot
  repeat' split
  all_goals first | (exfalso; omega) | exact congrArg f (by omega)
theorem rot_nil' (f : Nat → Pr) (a b : Nat) : rot f a b b = f := by
  funext k
  unfold rot
  repeat' split
  all_goals first | (exfalso; omega) | exact congrArg f (by omega)
theorem rot_sw (f : Nat → Pr) (j : Nat) : rot f j (j + 1) (j + 2) = sw f j (j + 1) := by
  funext k
  unfold rot sw
  repeat' split
  all_goals first | (exfalso; omega) | exact congrArg f (by omega)
theorem rot_up (f : Nat → Pr) {a k : Nat} (h : a ≤ k) : sw (rot f a (a + 1) (k + 1)) k (k + 1) = rot f a (a + 1) (k + 2) := by
  funext x
  unfold rot sw
  dsimp only
  repeat' split
  all_goals first | (exfalso; omega) | exact congrArg f (by omega)
theorem rot_down (f : Nat → Pr) {k m : Nat} (h : k < m) : sw (rot f (k + 1) m (m + 1)) (k + 1) k = rot f k m (m + 1) := by
  funext x
  unfold rot sw
  dsimp only
  repeat' split
  all_goals first | (exfalso; omega) | exact congrArg f (by omega)
def seg (f : Nat → Pr) (a m : Nat) : List Pr := (List.range m).map fun i => f (a + i)
theorem seg_len (f : Nat → Pr) (a m : Nat) : (seg f a m).length = m := by simp [seg]
theorem seg_congr {f g : Nat → Pr} {a b m : Nat} (h : ∀ i, i < m → f (a + i) = g (b + i)) : seg f a m = seg g b m := by
  unfold seg
  exact List.map_congr_left fun i hi => h i (List.mem_range.mp hi)
theorem seg_add (f : Nat → Pr) (a m k : Nat) : seg f a (m + k) = seg f a m ++ seg f (a + m) k := by
  unfold seg
  rw [List.range_add, List.map_append, List.map_map]
  congr 1
  apply List.map_congr_left
  intro i _
  simp only [Function.comp]
  congr 1
  omega
theorem mem_seg {f : Nat → Pr} {a m : Nat} {p : Pr} : p ∈ seg f a m ↔ ∃ i, a ≤ i ∧ i < a + m ∧ f i = p := by
  unfold seg
  rw [List.mem_map]
  constructor
  · rintro ⟨i, hi, rfl⟩
    have := List.mem_range.mp hi
    exact ⟨a + i, by omega, by omega, rfl⟩
  · rintro ⟨i, h1, h2, rfl⟩
    exact ⟨i - a, List.mem_range.mpr (by omega), by rw [show a + (i - a) = i by omega]⟩
def ofKey (κ : Bytes) (l : List Pr) : List Pr := l.filter fun p => p.key == κ
theorem ofKey_app (κ : Bytes) (a b : List Pr) : ofKey κ (a ++ b) = ofKey κ a ++ ofKey κ b := by
  unfold ofKey
  exact List.filter_append ..
theorem ofKey_none {κ : Bytes} {l : List Pr} (h : ∀ p, p ∈ l → p.key ≠ κ) : ofKey κ l = [] := by
  unfold ofKey
  rw [List.filter_eq_nil_iff]
  intro p hp
  simpa using h p hp
theorem ofKey_swap {κ : Bytes} {a b : List Pr} (h : ∀ p q, p ∈ a → q ∈ b → p.key ≠ q.key) : ofKey κ (a ++ b) = ofKey κ (b ++ a) := by
  rw [ofKey_app, ofKey_app]
  by_cases ha : ∃ p, p ∈ a ∧ p.key = κ
  · obtain ⟨p, hp, rfl⟩ := ha
    rw [ofKey_none (l := b) (fun q hq e => h p q hp hq e.symm), List.append_nil, List.nil_append]
  · rw [ofKey_none (l := a) (fun p hp e => ha ⟨p, hp, e⟩), List.append_nil, List.nil_append]
def Mv (a b : Nat) (f g : Nat → Pr) : Prop := (∀ k, k < a ∨ b ≤ k → g k = f k) ∧ ∀ κ, ofKey κ (seg g a (b - a)) = ofKey κ (seg f a (b - a))
theorem Mv.refl (a b : Nat) (f : Nat → Pr) : Mv a b f f := ⟨fun _ _ => rfl, fun _ => rfl⟩
theorem Mv.trans {a b : Nat} {f g h : Nat → Pr} (x : Mv a b f g) (y : Mv a b g h) : Mv a b f h :=
  ⟨fun k hk => (y.1 k hk).trans (x.1 k hk), fun κ => (y.2 κ).trans (x.2 κ)⟩
theorem Mv.wide {a b a' b' : Nat} {f g : Nat → Pr} (x : Mv a b f g) (ha : a' ≤ a) (hab : a ≤ b) (hb : b ≤ b') : Mv a' b' f g := by
  refine ⟨fun k hk => x.1 k (by omega), fun κ => ?_⟩
  have e : b' - a' = (a - a') + ((b - a) + (b' - b)) := by omega
  rw [e, seg_add, seg_add, seg_add, seg_add, ofKey_app, ofKey_app, ofKey_app, ofKey_app]
  rw [show a' + (a - a') = a by omega, x.2 κ]
  rw [seg_congr (f := g) (g := f) (a := a') (b := a') (fun i hi => x.1 _ (by omega)), seg_congr (f := g) (g := f) (a := a + (b - a)) (b := a + (b - a)) (fun i hi => x.1 _ (by omega))]
theorem Mv.mem {a b : Nat} {f g : Nat → Pr} (x : Mv a b f g) {i : Nat} (h1 : a ≤ i) (h2 : i < b) : ∃ j, a ≤ j ∧ j < b ∧ f j = g i := by
  have hm : g i ∈ ofKey (g i).key (seg g a (b - a)) := by
    unfold ofKey
    rw [List.mem_filter]
    exact ⟨mem_seg.mpr ⟨i, h1, by omega, rfl⟩, by simp⟩
  rw [x.2] at hm
  unfold ofKey at hm
  rw [List.mem_filter] at hm
  obtain ⟨j, j1, j2, j3⟩ := mem_seg.mp hm.1
  exact ⟨j, j1, by omega, j3⟩
theorem rot_mv {f : Nat → Pr} {a m b : Nat} (h1 : a ≤ m) (h2 : m ≤ b) (h : ∀ p q, a ≤ p → p < m → m ≤ q → q < b → (f p).key ≠ (f q).key) : Mv a b f (rot f a m b) := by
  constructor
  · intro k hk
    unfold rot
    rw [if_neg (by omega), if_neg (by omega)]
  · intro κ
    have e1 : b - a = (m - a) + (b - m) := by omega
    have e2 : b - a = (b - m) + (m - a) := by omega
    have s1 : seg f a (b - a) = seg f a (m - a) ++ seg f m (b - m) := by
      rw [e1, seg_add, show a + (m - a) = m by omega]
    have s2 : seg (rot f a m b) a (b - a) = seg f m (b - m) ++ seg f a (m - a) := by
      rw [e2, seg_add]
      congr 1
      · apply seg_congr
        intro i hi
        unfold rot
        rw [if_pos (by omega)]
        exact congrArg f (by omega)
      · apply seg_congr
        intro i hi
        unfold rot
        rw [if_neg (by omega), if_pos (by omega)]
        exact congrArg f (by omega)
    rw [s1, s2]
    refine (ofKey_swap ?_).symm
    intro p q hp hq
    obtain ⟨i, i1, i2, rfl⟩ := mem_seg.mp hp
    obtain ⟨j, j1, j2, rfl⟩ := mem_seg.mp hq
    exact h i j i1 (by omega) j1 (by omega)
def Srt (f : Nat → Pr) (a b : Nat) : Prop := ∀ i j, a ≤ i → i < j → j < b → ltP (f j) (f i) = false
theorem Srt.sub {f : Nat → Pr} {a b a' b' : Nat} (h : Srt f a b) (h1 : a ≤ a') (h2 : b' ≤ b) : Srt f a' b' := fun i j x y z => h i j (by omega) y (by omega)
theorem Srt.le {f : Nat → Pr} {a b : Nat} (h : Srt f a b) {i j : Nat} (h1 : a ≤ i) (h2 : i ≤ j) (h3 : j < b) : ltP (f j) (f i) = false := by
  by_cases e : i = j
  · subst e; exact bl_irr _
  · exact h i j h1 (by omega) h3
theorem Srt.congr {f g : Nat → Pr} {a b : Nat} (h : Srt f a b) (e : ∀ k, a ≤ k → k < b → g k = f k) : Srt g a b := by
  intro i j h1 h2 h3
  rw [e i h1 (by omega), e j (by omega) h3]
  exact h i j h1 h2 h3
theorem Srt.one {f : Nat → Pr} {a b : Nat} (h : b ≤ a + 1) : Srt f a b := fun i j x y z => absurd z (by omega)
theorem Srt.glue {f : Nat → Pr} {a m b : Nat} (h1 : Srt f a m) (h2 : Srt f m b) (h : ∀ i j, a ≤ i → i < m → m ≤ j → j < b → ltP (f j) (f i) = false) : Srt f a b := by
  intro i j x y z
  by_cases c1 : j < m
  · exact h1 i j x y c1
  · by_cases c2 : m ≤ i
    · exact h2 i j c2 y z
    · exact h i j x (by omega) (by omega) z
def Ins (f : Nat → Pr) (a i j : Nat) : Prop := (∀ p q, a ≤ p → p < q → q ≤ i → p ≠ j → q ≠ j → ltP (f q) (f p) = false) ∧ ∀ q, j < q → q ≤ i → ltP (f j) (f q) = true
theorem Ins.start {f : Nat → Pr} {a i : Nat} (h : Srt f a i) : Ins f a i i := ⟨fun p q h1 h2 h3 h4 h5 => h p q h1 h2 (by omega), fun q h1 h2 => absurd h1 (by omega)⟩
theorem Ins.stop {f : Nat → Pr} {a i j : Nat} (h : Ins f a i j) (ha : a ≤ j) (hj : j ≤ i) (he : j = a ∨ ltP (f j) (f (j - 1)) = false) : Srt f a (i + 1) := by
  intro p q h1 h2 h3
  by_cases e1 : p = j
  · subst e1
    exact bl_asym (h.2 q h2 (by omega))
  · by_cases e2 : q = j
    · subst e2
      rcases he with he | he
      · omega
      · by_cases e3 : p = q - 1
        · subst e3; exact he
        · exact bl_le (h.1 p (q - 1) h1 (by omega) (by omega) (by omega) (by omega)) he
    · exact h.1 p q h1 h2 (by omega) e1 e2
theorem Ins.step {f : Nat → Pr} {a i j : Nat} (h : Ins f a i (j + 1)) (ha : a ≤ j) (hj : j + 1 ≤ i) (he : ltP (f (j + 1)) (f j) = true) : Ins (sw f (j + 1) j) a i j ∧ Mv a (i + 1) f (sw f (j + 1) j) := by
  have e0 : sw f (j + 1) j (j + 1) = f j := by unfold sw; rw [if_pos rfl]
  have e1 : sw f (j + 1) j j = f (j + 1) := by unfold sw; rw [if_neg (by omega), if_pos rfl]
  have e2 : ∀ k, k ≠ j → k ≠ j + 1 → sw f (j + 1) j k = f k := fun k h1 h2 => by unfold sw; rw [if_neg h2, if_neg h1]
  refine ⟨⟨?_, ?_⟩, ?_⟩
  · intro p q h1 h2 h3 h4 h5
    by_cases c : q = j + 1
    · subst c
      rw [e0, e2 p h4 (by omega)]
      exact h.1 p j h1 (by omega) (by omega) (by omega) (by omega)
    · rw [e2 q h5 c]
      by_cases d : p = j + 1
      · subst d
        rw [e0]
        exact h.1 j q ha (by omega) h3 (by omega) c
      · rw [e2 p h4 d]
        exact h.1 p q h1 h2 h3 d c
  · intro q h1 h2
    rw [e1]
    by_cases c : q = j + 1
    · subst c; rw [e0]; exact he
    · rw [e2 q (by omega) c]
      exact h.2 q (by omega) h2
  · have es : sw f (j + 1) j = rot f j (j + 1) (j + 2) := by
      rw [rot_sw]
      funext k
      unfold sw
      repeat' split
      all_goals first | (exfalso; omega) | rfl
    rw [es]
    refine (rot_mv (by omega) (by omega) ?_).wide ha (by omega) (by omega)
    intro p q h1 h2 h3 h4
    rw [show p = j by omega, show q = j + 1 by omega]
    exact fun e => bl_ne he e.symm
theorem mrg_one {f : Nat → Pr} {a b i : Nat} (h1 : a + 1 ≤ i) (h2 : i ≤ b) (hs : Srt f (a + 1) b) (hl : ∀ q, a + 1 ≤ q → q < i → ltP (f q) (f a) = true) (hr : ∀ q, i ≤ q → q < b → ltP (f q) (f a) = false) :
    Mv a b f (rot f a (a + 1) i) ∧ Srt (rot f a (a + 1) i) a b := by
  refine ⟨(rot_mv (by omega) h1 ?_).wide (by omega) (by omega) h2, ?_⟩
  · intro p q x y z w
    rw [show p = a by omega]
    exact fun e => bl_ne (hl q z w) e.symm
  · intro p q x y z
    unfold rot
    repeat' split
    all_goals first | (exfalso; omega) | skip
    · exact hs _ _ (by omega) (by omega) (by omega)
    · have e : q - (i - (a + 1)) = a := by omega
      rw [e]
      exact bl_asym (hl _ (by omega) (by omega))
    · exact hs _ _ (by omega) (by omega) (by omega)
    · have e : p - (i - (a + 1)) = a := by omega
      rw [e]
      exact hr q (by omega) z
    · exact hs _ _ (by omega) (by omega) (by omega)
theorem mrg_last {f : Nat → Pr} {a m i : Nat} (h1 : a ≤ i) (h2 : i ≤ m) (hs : Srt f a m) (hl : ∀ q, a ≤ q → q < i → ltP (f m) (f q) = false) (hr : ∀ q, i ≤ q → q < m → ltP (f m) (f q) = true) :
    Mv a (m + 1) f (rot f i m (m + 1)) ∧ Srt (rot f i m (m + 1)) a (m + 1) := by
  refine ⟨(rot_mv h2 (by omega) ?_).wide h1 (by omega) (by omega), ?_⟩
  · intro p q x y z w
    rw [show q = m by omega]
    exact fun e => bl_ne (hr p x y) e.symm
  · intro p q x y z
    unfold rot
    repeat' split
    all_goals first | (exfalso; omega) | skip
    · have e : q - i + m = m := by omega
      rw [e]
      exact hl _ x (by omega)
    · have e : p - i + m = m := by omega
      rw [e]
      exact bl_asym (hr _ (by omega) (by omega))
    all_goals exact hs _ _ (by omega) (by omega) (by omega)
structure Cut (f : Nat → Pr) (a m b mid s : Nat) : Prop where
  am : a < m
  mb : m < b
  lo : a ≤ s
  hi : s ≤ m
  mi : s ≤ mid
  me : mid + m - s ≤ b
  ms : m ≤ mid + m - s
  gt : ∀ p q, s ≤ p → p < m → m ≤ q → q < mid + m - s → ltP (f q) (f p) = true
  le : ∀ p q, a ≤ p → p < s → mid + m - s ≤ q → q < b → ltP (f q) (f p) = false
theorem Cut.mv {f : Nat → Pr} {a m b mid s : Nat} (c : Cut f a m b mid s) : Mv a b f (rot f s m (mid + m - s)) := by
  obtain ⟨h1, h2, h3, h4, h5, h6, h7, h8, h9⟩ := c
  refine (rot_mv h4 h7 ?_).wide h3 (by omega) h6
  intro p q x y z w
  exact fun e => bl_ne (h8 p q x y z w) e.symm
theorem Cut.srt {f : Nat → Pr} {a m b mid s : Nat} (c : Cut f a m b mid s) (s1 : Srt f a m) (s2 : Srt f m b) :
    Srt (rot f s m (mid + m - s)) a s ∧ Srt (rot f s m (mid + m - s)) s mid ∧ Srt (rot f s m (mid + m - s)) mid (mid + m - s) ∧ Srt (rot f s m (mid + m - s)) (mid + m - s) b := by
  obtain ⟨h1, h2, h3, h4, h5, h6, h7, h8, h9⟩ := c
  refine ⟨?_, ?_, ?_, ?_⟩
  all_goals
    intro p q x y z
    unfold rot
    repeat' split
    all_goals first | (exfalso; omega) | exact s1 _ _ (by omega) (by omega) (by omega) | exact s2 _ _ (by omega) (by omega) (by omega)
theorem Cut.cross {f : Nat → Pr} {a m b mid s : Nat} (c : Cut f a m b mid s) (s1 : Srt f a m) (s2 : Srt f m b) :
    ∀ p q, a ≤ p → p < mid → mid ≤ q → q < b → ltP (rot f s m (mid + m - s) q) (rot f s m (mid + m - s) p) = false := by
  obtain ⟨h1, h2, h3, h4, h5, h6, h7, h8, h9⟩ := c
  intro p q x y z w
  unfold rot
  repeat' split
  all_goals first | (exfalso; omega) | skip
  all_goals first | exact bl_asym (h8 _ _ (by omega) (by omega) (by omega) (by omega)) | exact s1 _ _ (by omega) (by omega) (by omega) | exact s2 _ _ (by omega) (by omega) (by omega) | exact h9 _ _ (by omega) (by omega) (by omega) (by omega)
theorem halves {f g h : Nat → Pr} {a mid b : Nat} (h1 : a ≤ mid) (h2 : mid ≤ b) (hc : ∀ p q, a ≤ p → p < mid → mid ≤ q → q < b → ltP (f q) (f p) = false) (m1 : Mv a mid f g) (m2 : Mv mid b g h) (s1 : Srt g a mid) (s2 : Srt h mid b) :
    Mv a b f h ∧ Srt h a b := by
  refine ⟨(m1.wide (Nat.le_refl _) h1 h2).trans (m2.wide h1 h2 (Nat.le_refl _)), ?_⟩
  refine (s1.congr (fun k x y => m2.1 k (.inl y))).glue s2 ?_
  intro i j x y z w
  rw [m2.1 i (.inl y)]
  obtain ⟨i', i1, i2, i3⟩ := m1.mem x y
  obtain ⟨j', j1, j2, j3⟩ := m2.mem z w
  rw [← i3, ← j3, m1.1 j' (.inr j1)]
  exact hc i' j' i1 i2 j1 j2
end Go.Proofs.Ytbfjkomlnpolmaa.G


namespace Go.Proofs.Ytbfjkomlnpolmaa.G
open Go.BX
set_option linter.unusedSimpArgs false
set_option linter.unusedVariables false
def R (n : Nat) (f : Nat → Pr) : List (List AV) := (List.range n).map fun i => encP (f i)
theorem R_len (n : Nat) (f : Nat → Pr) : (R n f).length = n := by simp [R]
theorem R_get {n : Nat} {f : Nat → Pr} {i : Nat} (h : i < n) : (R n f)[i]? = some [.str (f i).key, .int .i64 (f i).k, .int .i64 (f i).n, .str (f i).s, .int .i64 (f i).x, .int .i64 (f i).y] := by
  unfold R
  rw [List.getElem?_map, List.getElem?_range h]
  rfl
theorem R_set {n : Nat} {f : Nat → Pr} {i : Nat} (p : Pr) : (R n f).set i [.str p.key, .int .i64 p.k, .int .i64 p.n, .str p.s, .int .i64 p.x, .int .i64 p.y] = R n (fun k => if k = i then p else f k) := by
  apply List.ext_getElem?
  intro j
  by_cases hj : j < n
  · rw [R_get hj]
    by_cases e : j = i
    · subst e
      rw [List.getElem?_set_self (by rw [R_len]; exact hj)]
      simp only [↓reduceIte]
    · rw [List.getElem?_set_ne (fun h => e h.symm), R_get hj]
      simp only [e, ↓reduceIte]
  · rw [List.getElem?_eq_none (by rw [List.length_set, R_len]; omega), List.getElem?_eq_none (by rw [R_len]; omega)]
theorem upd2 (A : Nat → Blk) (g : Nat) (x y : Blk) : upd (upd A g x) g y = upd A g y := by
  funext k
  simp only [upd_app]
  split <;> rfl
theorem upd_same {A : Nat → Blk} {g : Nat} {x : Blk} (h : A g = x) : upd A g x = A := by
  funext k
  simp only [upd_app]
  split
  · rename_i e; rw [e, h]
  · rfl
abbrev SB (A : Nat → Blk) (g n : Nat) (f : Nat → Pr) : Nat → Blk := upd A g (.cells 42 6 (R n f))
theorem sw_eq (f : Nat → Pr) (i j : Nat) : (fun k => if k = j then f i else if k = i then f j else f k) = sw f i j := by
  funext k
  unfold sw
  repeat' split
  all_goals first | (subst_vars; rfl) | rfl
def PW (n : Nat) (h : Nat) (A : Nat → Blk) (g a b m : Nat) (f : Nat → Pr) (Q : AV → AHeap → Prop) (i : Nat) : Prop :=
  ∀ (T : Nat → AV), T 0 = .slc g 6 0 n → T 1 = .int .i64 (a : Int) → T 2 = .int .i64 (b : Int) → T 3 = .int .i64 (m : Int) → T 10 = .int .i64 (i : Int) →
    Run Cx 49 T [] none [.inLoop c49_4, .inBlock 0] ⟨h, SB A g n (swp f a b i)⟩ Q
theorem pw_all {n h : Nat} {A : Nat → Blk} {g a b m : Nat} {f : Nat → Pr} {Q : AV → AHeap → Prop} (hn : n ≤ 1000000) (hab : a + m ≤ b) (hbn : b + m ≤ n) (hQ : Q (.tuple []) ⟨h, SB A g n (swp f a b m)⟩) :
    ∀ (j i : Nat), i + j = m → PW n h A g a b m f Q i
  | 0, i, hij => by
    intro T t0 t1 t2 t3 t10
    obtain rfl : i = m := by omega
    rw [run_inLoop]
    have h0 : ((i : Int) < (i : Int)) = False := eq_false (by omega)
    simp only [t0, t1, t2, t3, t10, h0, run_nil, run_exit_start, exit_here, exit_code, exit_inLoop, run_inBlock, n49_0, n49_1, n49_2, n49_3, n49_4, n49_5, n49_6, n49_7, n49_8, n49_9, n49_10, n49_11, n49_12, n49_13, o49_1, o49_6, o49_12, o49_13, res49, TT_3, TT_4, TT_5, TT_9, TT_22, TT_25, TT_26, TT_29, TT_33, TT_38, TT_40, TT_42, TT_47, TT_50, TT_57, TT_59, TT_66, TT_68, TT_69, TT_70, TT_72, TT_81, bb, primP, primM, ev, evs, parts_, ofConst, bin, un, intBin, putA, enterT, Nat.reduceEqDiff, Nat.reduceAdd, Nat.reduceMul, Nat.reduceLeDiff, Nat.reduceLT, ↓reduceIte, reduceCtorEq, RunRes, resultsA, oneOf, AV.plain, AV.cells, AHeap.push, AHeap.set, AHeap.empty, fieldOf, loadA, storeA, BX.part, TK.isAgg, convA, builtinA, inertB, builtinP, buildA, fillA, splice, eqv, cellsEq, sizeT, adT, ldT, fwT, Nat.reduceBeqDiff, Nat.reduceBneDiff, Int.reduceBNe, Int.reduceBEq, Int.reduceEq, Int.reduceLT, Int.reduceLE, Int.reduceAdd, Int.reduceSub, Int.reduceMul, Int.reduceNeg, strBin, indexAddrA, elems, lenOf, chunk, List.reduceReplicate, Int.reduceToNat]
    exact hQ
  | j + 1, i, hij => by
    intro T t0 t1 t2 t3 t10
    rw [run_inLoop]
    have h0 : ((i : Int) < (m : Int)) = True := eq_true (by omega)
    have w1 : IntKind.i64.wrap ((i : Int) + 1) = ((i + 1 : Nat) : Int) := by rw [wr64 (by omega) (by omega)]; omega
    have w2 : IntKind.i64.wrap ((a : Int) + (i : Int)) = ((a + i : Nat) : Int) := by rw [wr64 (by omega) (by omega)]; omega
    have w3 : IntKind.i64.wrap ((b : Int) + (i : Int)) = ((b + i : Nat) : Int) := by rw [wr64 (by omega) (by omega)]; omega
    have l1 : ((a + i : Nat) : Int) < (n : Int) := by omega
    have l2 : ((b + i : Nat) : Int) < (n : Int) := by omega
    have p1 : (0 : Int) ≤ ((a + i : Nat) : Int) := by omega
    have p2 : (0 : Int) ≤ ((b + i : Nat) : Int) := by omega
    have g1 : ∀ f', (R n f')[a + i]? = _ := fun f' => R_get (n := n) (f := f') (show a + i < n by omega)
    have g2 : ∀ f', (R n f')[b + i]? = _ := fun f' => R_get (n := n) (f := f') (show b + i < n by omega)
    simp only [t0, t1, t2, t3, t10, h0, w1, w2, w3, l1, l2, p1, p2, g1, g2, Int.toNat_natCast, R_set, upd2, sw_eq, run_exit_start, exit_here, exit_code, exit_inLoop, run_inBlock, n49_0, n49_1, n49_2, n49_3, n49_4, n49_5, n49_6, n49_7, n49_8, n49_9, n49_10, n49_11, n49_12, n49_13, o49_1, o49_6, o49_12, o49_13, res49, TT_3, TT_4, TT_5, TT_9, TT_22, TT_25, TT_26, TT_29, TT_33, TT_38, TT_40, TT_42, TT_47, TT_50, TT_57, TT_59, TT_66, TT_68, TT_69, TT_70, TT_72, TT_81, bb, primP, primM, ev, evs, parts_, ofConst, bin, un, intBin, putA, enterT, Nat.reduceEqDiff, Nat.reduceAdd, Nat.reduceMul, Nat.reduceLeDiff, Nat.reduceLT, ↓reduceIte, reduceCtorEq, RunRes, resultsA, oneOf, AV.plain, AV.cells, AHeap.push, AHeap.set, AHeap.empty, fieldOf, loadA, storeA, BX.part, TK.isAgg, convA, builtinA, inertB, builtinP, buildA, fillA, splice, eqv, cellsEq, sizeT, adT, ldT, fwT, Nat.reduceBeqDiff, Nat.reduceBneDiff, Int.reduceBNe, Int.reduceBEq, Int.reduceEq, Int.reduceLT, Int.reduceLE, Int.reduceAdd, Int.reduceSub, Int.reduceMul, Int.reduceNeg, strBin, indexAddrA, elems, lenOf, chunk, List.reduceReplicate, Int.reduceToNat]
    rw [swp_succ f hab (by omega)]
    refine pw_all hn hab hbn hQ j (i + 1) (by omega) _ ?_ ?_ ?_ ?_ ?_
    all_goals simp only [upd_app, t0, t1, t2, t3, Nat.reduceEqDiff, ↓reduceIte]
section
variable {fn : FuncId} {T : Nat → AV} {ds : List ADef} {ro : Option Nat} {k : List AItem} {Q : AV → AHeap → Prop} {dst : Option Nat} {os : List AO} {h n : Nat} {A : Nat → Blk} {g : Nat} {f : Nat → Pr}
theorem swapRange_call {a b m : Nat} {c : AV} (hn : n ≤ 1000000) (hab : a + m ≤ b) (hbn : b + m ≤ n) (hk : RunOps Cx fn (putA T dst (.tuple [])) ds ro os k ⟨h, SB A g n (swp f a b m)⟩ Q) :
    RunCall Cx fn T ds ro 49 [.slc g 6 0 n, .int .i64 (a : Int), .int .i64 (b : Int), .int .i64 (m : Int), c] dst os k ⟨h, SB A g n f⟩ Q := by
  refine call_body pure49 (noext _) body49 ?_
  have hp := pw_all (Q := fun r H1 => RunOps Cx fn (putA T dst r) ds ro os k H1 Q) hn hab hbn hk m 0 (by omega)
  unfold PW at hp
  rw [swp_zero] at hp
  simp only [n49_0, n49_1, n49_2, n49_3, n49_5, n49_6, n49_7, n49_8, n49_9, n49_10, n49_11, n49_12, n49_13, o49_1, o49_6, o49_12, o49_13, res49, TT_3, TT_4, TT_5, TT_9, TT_22, TT_25, TT_26, TT_29, TT_33, TT_38, TT_40, TT_42, TT_47, TT_50, TT_57, TT_59, TT_66, TT_68, TT_69, TT_70, TT_72, TT_81, bb, primP, primM, ev, evs, parts_, ofConst, bin, un, intBin, putA, enterT, Nat.reduceEqDiff, Nat.reduceAdd, Nat.reduceMul, Nat.reduceLeDiff, Nat.reduceLT, ↓reduceIte, reduceCtorEq, RunRes, resultsA, oneOf, AV.plain, AV.cells, AHeap.push, AHeap.set, AHeap.empty, fieldOf, loadA, storeA, BX.part, TK.isAgg, convA, builtinA, inertB, builtinP, buildA, fillA, splice, eqv, cellsEq, sizeT, adT, ldT, fwT, Nat.reduceBeqDiff, Nat.reduceBneDiff, Int.reduceBNe, Int.reduceBEq, Int.reduceEq, Int.reduceLT, Int.reduceLE, Int.reduceAdd, Int.reduceSub, Int.reduceMul, Int.reduceNeg, strBin, indexAddrA, elems, lenOf, chunk, List.reduceReplicate, Int.reduceToNat]
  refine hp _ ?_ ?_ ?_ ?_ ?_
  all_goals simp only [upd_app, enterT, List.getElem?_cons_zero, List.getElem?_cons_succ, Option.getD_some, Nat.reduceEqDiff, ↓reduceIte]
  all_goals rfl
def PO (n h : Nat) (A : Nat → Blk) (g m : Nat) (c : AV) (G : Nat → Pr) (Q : AV → AHeap → Prop) (i j : Nat) : Prop :=
  ∀ (T : Nat → AV) (f : Nat → Pr), T 0 = .slc g 6 0 n → T 2 = .int .i64 (m : Int) → T 4 = c → T 10 = .int .i64 (i : Int) → T 11 = .int .i64 (j : Int) → rot f (m - i) m (m + j) = G →
    Run Cx 48 T [] none [.inLoop c48_7, .inBlock 0, .code c48_23] ⟨h, SB A g n f⟩ Q
theorem po_all {n h : Nat} {A : Nat → Blk} {g m : Nat} {c : AV} {G : Nat → Pr} {Q : AV → AHeap → Prop} (hn : n ≤ 1000000) (hQ : Q (.tuple []) ⟨h, SB A g n G⟩) :
    ∀ (N i j : Nat), i + j ≤ N → 0 < i → 0 < j → i ≤ m → m + j ≤ n → PO n h A g m c G Q i j
  | 0, i, j, hN, hi, hj, him, hmj => absurd hi (by omega)
  | N + 1, i, j, hN, hi, hj, him, hmj => by
    intro T f t0 t2 t4 t10 t11 hG
    rw [run_inLoop]
    have w1 : IntKind.i64.wrap ((m : Int) - (i : Int)) = ((m - i : Nat) : Int) := by rw [wr64 (by omega) (by omega)]; omega
    by_cases e : i = j
    · subst e
      have h0 : ((i : Int) != (i : Int)) = false := by simp
      simp only [t0, t2, t4, t10, t11, h0, w1, run_exit_start, exit_here, exit_code, exit_inLoop, run_inBlock, n48_0, n48_1, n48_2, n48_3, n48_4, n48_5, n48_6, n48_7, n48_8, n48_9, n48_10, n48_11, n48_12, n48_13, n48_14, n48_15, n48_16, n48_17, n48_18, n48_19, n48_20, n48_21, n48_22, n48_23, o48_1, o48_3, o48_9, o48_15, o48_18, o48_19, o48_21, o48_22, o48_23, res48, TT_3, TT_4, TT_5, TT_9, TT_22, TT_25, TT_26, TT_29, TT_33, TT_38, TT_40, TT_42, TT_47, TT_50, TT_57, TT_59, TT_66, TT_68, TT_69, TT_70, TT_72, TT_81, bb, primP, primM, ev, evs, parts_, ofConst, bin, un, intBin, putA, enterT, Nat.reduceEqDiff, Nat.reduceAdd, Nat.reduceMul, Nat.reduceLeDiff, Nat.reduceLT, ↓reduceIte, reduceCtorEq, RunRes, resultsA, oneOf, AV.plain, AV.cells, AHeap.push, AHeap.set, AHeap.empty, fieldOf, loadA, storeA, BX.part, TK.isAgg, convA, builtinA, inertB, builtinP, buildA, fillA, splice, eqv, cellsEq, sizeT, adT, ldT, fwT, Nat.reduceBeqDiff, Nat.reduceBneDiff, Int.reduceBNe, Int.reduceBEq, Int.reduceEq, Int.reduceLT, Int.reduceLE, Int.reduceAdd, Int.reduceSub, Int.reduceMul, Int.reduceNeg, strBin, indexAddrA, elems, lenOf, chunk, List.reduceReplicate, Int.reduceToNat]
      refine swapRange_call hn (by omega) hmj ?_
      rw [← rot_eq f him, hG]
      simp only [run_nil, n48_0, n48_1, n48_2, n48_3, n48_4, n48_5, n48_6, n48_7, n48_8, n48_9, n48_10, n48_11, n48_12, n48_13, n48_14, n48_15, n48_16, n48_17, n48_18, n48_19, n48_20, n48_21, n48_22, n48_23, o48_1, o48_3, o48_9, o48_15, o48_18, o48_19, o48_21, o48_22, o48_23, res48, TT_3, TT_4, TT_5, TT_9, TT_22, TT_25, TT_26, TT_29, TT_33, TT_38, TT_40, TT_42, TT_47, TT_50, TT_57, TT_59, TT_66, TT_68, TT_69, TT_70, TT_72, TT_81, bb, primP, primM, ev, evs, parts_, ofConst, bin, un, intBin, putA, enterT, Nat.reduceEqDiff, Nat.reduceAdd, Nat.reduceMul, Nat.reduceLeDiff, Nat.reduceLT, ↓reduceIte, reduceCtorEq, RunRes, resultsA, oneOf, AV.plain, AV.cells, AHeap.push, AHeap.set, AHeap.empty, fieldOf, loadA, storeA, BX.part, TK.isAgg, convA, builtinA, inertB, builtinP, buildA, fillA, splice, eqv, cellsEq, sizeT, adT, ldT, fwT, Nat.reduceBeqDiff, Nat.reduceBneDiff, Int.reduceBNe, Int.reduceBEq, Int.reduceEq, Int.reduceLT, Int.reduceLE, Int.reduceAdd, Int.reduceSub, Int.reduceMul, Int.reduceNeg, strBin, indexAddrA, elems, lenOf, chunk, List.reduceReplicate, Int.reduceToNat]
      exact hQ
    · have h0 : ((i : Int) != (j : Int)) = true := by simp; omega
      by_cases hij : j < i
      · have h1 : (j : Int) < (i : Int) := by omega
        have w2 : IntKind.i64.wrap ((i : Int) - (j : Int)) = ((i - j : Nat) : Int) := by rw [wr64 (by omega) (by omega)]; omega
        simp only [t0, t2, t4, t10, t11, h0, h1, w1, run_exit_start, exit_here, exit_code, exit_inLoop, run_inBlock, n48_0, n48_1, n48_2, n48_3, n48_4, n48_5, n48_6, n48_7, n48_8, n48_9, n48_10, n48_11, n48_12, n48_13, n48_14, n48_15, n48_16, n48_17, n48_18, n48_19, n48_20, n48_21, n48_22, n48_23, o48_1, o48_3, o48_9, o48_15, o48_18, o48_19, o48_21, o48_22, o48_23, res48, TT_3, TT_4, TT_5, TT_9, TT_22, TT_25, TT_26, TT_29, TT_33, TT_38, TT_40, TT_42, TT_47, TT_50, TT_57, TT_59, TT_66, TT_68, TT_69, TT_70, TT_72, TT_81, bb, primP, primM, ev, evs, parts_, ofConst, bin, un, intBin, putA, enterT, Nat.reduceEqDiff, Nat.reduceAdd, Nat.reduceMul, Nat.reduceLeDiff, Nat.reduceLT, ↓reduceIte, reduceCtorEq, RunRes, resultsA, oneOf, AV.plain, AV.cells, AHeap.push, AHeap.set, AHeap.empty, fieldOf, loadA, storeA, BX.part, TK.isAgg, convA, builtinA, inertB, builtinP, buildA, fillA, splice, eqv, cellsEq, sizeT, adT, ldT, fwT, Nat.reduceBeqDiff, Nat.reduceBneDiff, Int.reduceBNe, Int.reduceBEq, Int.reduceEq, Int.reduceLT, Int.reduceLE, Int.reduceAdd, Int.reduceSub, Int.reduceMul, Int.reduceNeg, strBin, indexAddrA, elems, lenOf, chunk, List.reduceReplicate, Int.reduceToNat]
        refine swapRange_call hn (by omega) hmj ?_
        simp only [t10, t11, w2, run_exit_start, exit_here, exit_code, exit_inLoop, run_inBlock, n48_0, n48_1, n48_2, n48_3, n48_4, n48_5, n48_6, n48_7, n48_8, n48_9, n48_10, n48_11, n48_12, n48_13, n48_14, n48_15, n48_16, n48_17, n48_18, n48_19, n48_20, n48_21, n48_22, n48_23, o48_1, o48_3, o48_9, o48_15, o48_18, o48_19, o48_21, o48_22, o48_23, res48, TT_3, TT_4, TT_5, TT_9, TT_22, TT_25, TT_26, TT_29, TT_33, TT_38, TT_40, TT_42, TT_47, TT_50, TT_57, TT_59, TT_66, TT_68, TT_69, TT_70, TT_72, TT_81, bb, primP, primM, ev, evs, parts_, ofConst, bin, un, intBin, putA, enterT, Nat.reduceEqDiff, Nat.reduceAdd, Nat.reduceMul, Nat.reduceLeDiff, Nat.reduceLT, ↓reduceIte, reduceCtorEq, RunRes, resultsA, oneOf, AV.plain, AV.cells, AHeap.push, AHeap.set, AHeap.empty, fieldOf, loadA, storeA, BX.part, TK.isAgg, convA, builtinA, inertB, builtinP, buildA, fillA, splice, eqv, cellsEq, sizeT, adT, ldT, fwT, Nat.reduceBeqDiff, Nat.reduceBneDiff, Int.reduceBNe, Int.reduceBEq, Int.reduceEq, Int.reduceLT, Int.reduceLE, Int.reduceAdd, Int.reduceSub, Int.reduceMul, Int.reduceNeg, strBin, indexAddrA, elems, lenOf, chunk, List.reduceReplicate, Int.reduceToNat]
        refine po_all (c := c) hn hQ N (i - j) j (by omega) (by omega) hj (by omega) hmj _ _ ?_ ?_ ?_ ?_ ?_ ?_
        all_goals first | (simp only [upd_app, t0, t2, t4, t10, t11, Nat.reduceEqDiff, ↓reduceIte]; done) | skip
        rw [← rot_gt f him hij]; exact hG
      · have h1 : ¬ (j : Int) < (i : Int) := by omega
        have w2 : IntKind.i64.wrap ((j : Int) - (i : Int)) = ((j - i : Nat) : Int) := by rw [wr64 (by omega) (by omega)]; omega
        have w3 : IntKind.i64.wrap ((m : Int) + (j : Int)) = ((m + j : Nat) : Int) := by rw [wr64 (by omega) (by omega)]; omega
        have w4 : IntKind.i64.wrap (((m + j : Nat) : Int) - (i : Int)) = ((m + j - i : Nat) : Int) := by rw [wr64 (by omega) (by omega)]; omega
        simp only [t0, t2, t4, t10, t11, h0, h1, w1, w3, w4, run_exit_start, exit_here, exit_code, exit_inLoop, run_inBlock, n48_0, n48_1, n48_2, n48_3, n48_4, n48_5, n48_6, n48_7, n48_8, n48_9, n48_10, n48_11, n48_12, n48_13, n48_14, n48_15, n48_16, n48_17, n48_18, n48_19, n48_20, n48_21, n48_22, n48_23, o48_1, o48_3, o48_9, o48_15, o48_18, o48_19, o48_21, o48_22, o48_23, res48, TT_3, TT_4, TT_5, TT_9, TT_22, TT_25, TT_26, TT_29, TT_33, TT_38, TT_40, TT_42, TT_47, TT_50, TT_57, TT_59, TT_66, TT_68, TT_69, TT_70, TT_72, TT_81, bb, primP, primM, ev, evs, parts_, ofConst, bin, un, intBin, putA, enterT, Nat.reduceEqDiff, Nat.reduceAdd, Nat.reduceMul, Nat.reduceLeDiff, Nat.reduceLT, ↓reduceIte, reduceCtorEq, RunRes, resultsA, oneOf, AV.plain, AV.cells, AHeap.push, AHeap.set, AHeap.empty, fieldOf, loadA, storeA, BX.part, TK.isAgg, convA, builtinA, inertB, builtinP, buildA, fillA, splice, eqv, cellsEq, sizeT, adT, ldT, fwT, Nat.reduceBeqDiff, Nat.reduceBneDiff, Int.reduceBNe, Int.reduceBEq, Int.reduceEq, Int.reduceLT, Int.reduceLE, Int.reduceAdd, Int.reduceSub, Int.reduceMul, Int.reduceNeg, strBin, indexAddrA, elems, lenOf, chunk, List.reduceReplicate, Int.reduceToNat]
        refine swapRange_call hn (by omega) (by omega) ?_
        simp only [t10, t11, w2, run_exit_start, exit_here, exit_code, exit_inLoop, run_inBlock, n48_0, n48_1, n48_2, n48_3, n48_4, n48_5, n48_6, n48_7, n48_8, n48_9, n48_10, n48_11, n48_12, n48_13, n48_14, n48_15, n48_16, n48_17, n48_18, n48_19, n48_20, n48_21, n48_22, n48_23, o48_1, o48_3, o48_9, o48_15, o48_18, o48_19, o48_21, o48_22, o48_23, res48, TT_3, TT_4, TT_5, TT_9, TT_22, TT_25, TT_26, TT_29, TT_33, TT_38, TT_40, TT_42, TT_47, TT_50, TT_57, TT_59, TT_66, TT_68, TT_69, TT_70, TT_72, TT_81, bb, primP, primM, ev, evs, parts_, ofConst, bin, un, intBin, putA, enterT, Nat.reduceEqDiff, Nat.reduceAdd, Nat.reduceMul, Nat.reduceLeDiff, Nat.reduceLT, ↓reduceIte, reduceCtorEq, RunRes, resultsA, oneOf, AV.plain, AV.cells, AHeap.push, AHeap.set, AHeap.empty, fieldOf, loadA, storeA, BX.part, TK.isAgg, convA, builtinA, inertB, builtinP, buildA, fillA, splice, eqv, cellsEq, sizeT, adT, ldT, fwT, Nat.reduceBeqDiff, Nat.reduceBneDiff, Int.reduceBNe, Int.reduceBEq, Int.reduceEq, Int.reduceLT, Int.reduceLE, Int.reduceAdd, Int.reduceSub, Int.reduceMul, Int.reduceNeg, strBin, indexAddrA, elems, lenOf, chunk, List.reduceReplicate, Int.reduceToNat]
        refine po_all (c := c) hn hQ N i (j - i) (by omega) hi (by omega) him (by omega) _ _ ?_ ?_ ?_ ?_ ?_ ?_
        all_goals first | (simp only [upd_app, t0, t2, t4, t10, t11, Nat.reduceEqDiff, ↓reduceIte]; done) | skip
        rw [← rot_lt f him (by omega)]; exact hG
theorem rotate_call {a m b : Nat} {c : AV} (hn : n ≤ 1000000) (ham : a < m) (hmb : m < b) (hbn : b ≤ n) (hk : RunOps Cx fn (putA T dst (.tuple [])) ds ro os k ⟨h, SB A g n (rot f a m b)⟩ Q) :
    RunCall Cx fn T ds ro 48 [.slc g 6 0 n, .int .i64 (a : Int), .int .i64 (m : Int), .int .i64 (b : Int), c] dst os k ⟨h, SB A g n f⟩ Q := by
  refine call_body pure48 (noext _) body48 ?_
  have hp := po_all (c := c) (m := m) (Q := fun r H1 => RunOps Cx fn (putA T dst r) ds ro os k H1 Q) hn hk (m - a + (b - m)) (m - a) (b - m) (by omega) (by omega) (by omega) (by omega) (by omega)
  unfold PO at hp
  have w1 : IntKind.i64.wrap ((m : Int) - (a : Int)) = ((m - a : Nat) : Int) := by rw [wr64 (by omega) (by omega)]; omega
  have w2 : IntKind.i64.wrap ((b : Int) - (m : Int)) = ((b - m : Nat) : Int) := by rw [wr64 (by omega) (by omega)]; omega
  simp only [w1, w2, n48_0, n48_1, n48_2, n48_3, n48_4, n48_5, n48_6, n48_8, n48_9, n48_10, n48_11, n48_12, n48_13, n48_14, n48_15, n48_16, n48_17, n48_18, n48_19, n48_20, n48_21, n48_22, o48_1, o48_3, o48_9, o48_15, o48_18, o48_19, o48_21, o48_22, o48_23, res48, TT_3, TT_4, TT_5, TT_9, TT_22, TT_25, TT_26, TT_29, TT_33, TT_38, TT_40, TT_42, TT_47, TT_50, TT_57, TT_59, TT_66, TT_68, TT_69, TT_70, TT_72, TT_81, bb, primP, primM, ev, evs, parts_, ofConst, bin, un, intBin, putA, enterT, Nat.reduceEqDiff, Nat.reduceAdd, Nat.reduceMul, Nat.reduceLeDiff, Nat.reduceLT, ↓reduceIte, reduceCtorEq, RunRes, resultsA, oneOf, AV.plain, AV.cells, AHeap.push, AHeap.set, AHeap.empty, fieldOf, loadA, storeA, BX.part, TK.isAgg, convA, builtinA, inertB, builtinP, buildA, fillA, splice, eqv, cellsEq, sizeT, adT, ldT, fwT, Nat.reduceBeqDiff, Nat.reduceBneDiff, Int.reduceBNe, Int.reduceBEq, Int.reduceEq, Int.reduceLT, Int.reduceLE, Int.reduceAdd, Int.reduceSub, Int.reduceMul, Int.reduceNeg, strBin, indexAddrA, elems, lenOf, chunk, List.reduceReplicate, Int.reduceToNat]
  refine hp _ f ?_ ?_ ?_ ?_ ?_ ?_
  all_goals first | (simp only [upd_app, enterT, List.getElem?_cons_zero, List.getElem?_cons_succ, Option.getD_some, Nat.reduceEqDiff, ↓reduceIte]; done) | skip
  rw [show m - (m - a) = a by omega, show m + (b - m) = b by omega]
end
def cmpK (p q : Pr) : Int := if lessB p.key q.key = true then -1 else if (p.key == q.key) = true then 0 else 1
theorem cmpK_lt (p q : Pr) : (cmpK p q < 0) = (ltP p q = true) := by
  unfold cmpK
  by_cases h : lessB p.key q.key = true
  · simp [h]
  · by_cases h2 : (p.key == q.key) = true
    · simp [h, h2]
    · simp [h, h2]
theorem isNaN_no (s : Bytes) : PCall Cx 45 [.str s] (.bool false) := by
  refine pcall_run (noext _) body45 ?_
  simp only [n45_0, n45_1, n45_2, n45_3, n45_4, o45_1, o45_3, res45, TT_3, TT_4, TT_5, TT_9, TT_22, TT_25, TT_26, TT_29, TT_33, TT_38, TT_40, TT_42, TT_47, TT_50, TT_57, TT_59, TT_66, TT_68, TT_69, TT_70, TT_72, TT_81, bb, primP, primM, ev, evs, parts_, ofConst, bin, un, intBin, putA, enterT, Nat.reduceEqDiff, Nat.reduceAdd, Nat.reduceMul, Nat.reduceLeDiff, Nat.reduceLT, ↓reduceIte, reduceCtorEq, RunRes, resultsA, oneOf, AV.plain, AV.cells, AHeap.push, AHeap.set, AHeap.empty, fieldOf, loadA, storeA, BX.part, TK.isAgg, convA, builtinA, inertB, builtinP, buildA, fillA, splice, eqv, cellsEq, sizeT, adT, ldT, fwT, Nat.reduceBeqDiff, Nat.reduceBneDiff, Int.reduceBNe, Int.reduceBEq, Int.reduceEq, Int.reduceLT, Int.reduceLE, Int.reduceAdd, Int.reduceSub, Int.reduceMul, Int.reduceNeg, strBin, indexAddrA, elems, lenOf, chunk, List.reduceReplicate, Int.reduceToNat]
theorem compare_ok (p q : Pr) : PCall Cx 36 [.str p.key, .str q.key] (.int .i64 (cmpK p q)) := by
  refine pcall_run (noext _) body36 ?_
  unfold cmpK
  by_cases h : lessB p.key q.key = true
  · simp only [h, call_pure pure45 rfl (isNaN_no _), n36_0, n36_1, n36_2, n36_3, n36_4, n36_5, n36_6, n36_7, n36_8, n36_9, n36_10, n36_11, n36_12, n36_13, n36_14, n36_15, n36_16, n36_17, n36_18, n36_19, n36_20, n36_21, n36_22, n36_23, n36_24, n36_25, n36_26, n36_27, n36_28, n36_29, n36_30, n36_31, n36_32, n36_33, n36_34, n36_35, n36_36, n36_37, n36_38, n36_39, n36_40, n36_41, n36_42, n36_43, n36_44, n36_45, n36_46, n36_47, n36_48, o36_1, o36_3, o36_5, o36_8, o36_12, o36_15, o36_19, o36_24, o36_27, o36_32, o36_35, o36_40, o36_43, o36_47, res36, TT_3, TT_4, TT_5, TT_9, TT_22, TT_25, TT_26, TT_29, TT_33, TT_38, TT_40, TT_42, TT_47, TT_50, TT_57, TT_59, TT_66, TT_68, TT_69, TT_70, TT_72, TT_81, bb, primP, primM, ev, evs, parts_, ofConst, bin, un, intBin, putA, enterT, Nat.reduceEqDiff, Nat.reduceAdd, Nat.reduceMul, Nat.reduceLeDiff, Nat.reduceLT, ↓reduceIte, reduceCtorEq, RunRes, resultsA, oneOf, AV.plain, AV.cells, AHeap.push, AHeap.set, AHeap.empty, fieldOf, loadA, storeA, BX.part, TK.isAgg, convA, builtinA, inertB, builtinP, buildA, fillA, splice, eqv, cellsEq, sizeT, adT, ldT, fwT, Nat.reduceBeqDiff, Nat.reduceBneDiff, Int.reduceBNe, Int.reduceBEq, Int.reduceEq, Int.reduceLT, Int.reduceLE, Int.reduceAdd, Int.reduceSub, Int.reduceMul, Int.reduceNeg, strBin, indexAddrA, elems, lenOf, chunk, List.reduceReplicate, Int.reduceToNat]
  · have h' : lessB p.key q.key = false := by simpa using h
    by_cases h2 : (p.key == q.key) = true
    · simp only [h', h2, Bool.or_true, call_pure pure45 rfl (isNaN_no _), n36_0, n36_1, n36_2, n36_3, n36_4, n36_5, n36_6, n36_7, n36_8, n36_9, n36_10, n36_11, n36_12, n36_13, n36_14, n36_15, n36_16, n36_17, n36_18, n36_19, n36_20, n36_21, n36_22, n36_23, n36_24, n36_25, n36_26, n36_27, n36_28, n36_29, n36_30, n36_31, n36_32, n36_33, n36_34, n36_35, n36_36, n36_37, n36_38, n36_39, n36_40, n36_41, n36_42, n36_43, n36_44, n36_45, n36_46, n36_47, n36_48, o36_1, o36_3, o36_5, o36_8, o36_12, o36_15, o36_19, o36_24, o36_27, o36_32, o36_35, o36_40, o36_43, o36_47, res36, TT_3, TT_4, TT_5, TT_9, TT_22, TT_25, TT_26, TT_29, TT_33, TT_38, TT_40, TT_42, TT_47, TT_50, TT_57, TT_59, TT_66, TT_68, TT_69, TT_70, TT_72, TT_81, bb, primP, primM, ev, evs, parts_, ofConst, bin, un, intBin, putA, enterT, Nat.reduceEqDiff, Nat.reduceAdd, Nat.reduceMul, Nat.reduceLeDiff, Nat.reduceLT, ↓reduceIte, reduceCtorEq, RunRes, resultsA, oneOf, AV.plain, AV.cells, AHeap.push, AHeap.set, AHeap.empty, fieldOf, loadA, storeA, BX.part, TK.isAgg, convA, builtinA, inertB, builtinP, buildA, fillA, splice, eqv, cellsEq, sizeT, adT, ldT, fwT, Nat.reduceBeqDiff, Nat.reduceBneDiff, Int.reduceBNe, Int.reduceBEq, Int.reduceEq, Int.reduceLT, Int.reduceLE, Int.reduceAdd, Int.reduceSub, Int.reduceMul, Int.reduceNeg, strBin, indexAddrA, elems, lenOf, chunk, List.reduceReplicate, Int.reduceToNat]
    · have h2' : (p.key == q.key) = false := by simpa using h2
      simp only [h', h2', Bool.or_false, call_pure pure45 rfl (isNaN_no _), n36_0, n36_1, n36_2, n36_3, n36_4, n36_5, n36_6, n36_7, n36_8, n36_9, n36_10, n36_11, n36_12, n36_13, n36_14, n36_15, n36_16, n36_17, n36_18, n36_19, n36_20, n36_21, n36_22, n36_23, n36_24, n36_25, n36_26, n36_27, n36_28, n36_29, n36_30, n36_31, n36_32, n36_33, n36_34, n36_35, n36_36, n36_37, n36_38, n36_39, n36_40, n36_41, n36_42, n36_43, n36_44, n36_45, n36_46, n36_47, n36_48, o36_1, o36_3, o36_5, o36_8, o36_12, o36_15, o36_19, o36_24, o36_27, o36_32, o36_35, o36_40, o36_43, o36_47, res36, TT_3, TT_4, TT_5, TT_9, TT_22, TT_25, TT_26, TT_29, TT_33, TT_38, TT_40, TT_42, TT_47, TT_50, TT_57, TT_59, TT_66, TT_68, TT_69, TT_70, TT_72, TT_81, bb, primP, primM, ev, evs, parts_, ofConst, bin, un, intBin, putA, enterT, Nat.reduceEqDiff, Nat.reduceAdd, Nat.reduceMul, Nat.reduceLeDiff, Nat.reduceLT, ↓reduceIte, reduceCtorEq, RunRes, resultsA, oneOf, AV.plain, AV.cells, AHeap.push, AHeap.set, AHeap.empty, fieldOf, loadA, storeA, BX.part, TK.isAgg, convA, builtinA, inertB, builtinP, buildA, fillA, splice, eqv, cellsEq, sizeT, adT, ldT, fwT, Nat.reduceBeqDiff, Nat.reduceBneDiff, Int.reduceBNe, Int.reduceBEq, Int.reduceEq, Int.reduceLT, Int.reduceLE, Int.reduceAdd, Int.reduceSub, Int.reduceMul, Int.reduceNeg, strBin, indexAddrA, elems, lenOf, chunk, List.reduceReplicate, Int.reduceToNat]
theorem byKey_ok (p q : Pr) : PCall Cx 28 [pairA p, pairA q] (.int .i64 (cmpK p q)) := by
  refine pcall_run (noext _) body28 ?_
  simp only [call_pure pure36 rfl (compare_ok p q), n28_0, n28_1, n28_2, n28_3, n28_4, o28_1, o28_3, res28, TT_3, TT_4, TT_5, TT_9, TT_22, TT_25, TT_26, TT_29, TT_33, TT_38, TT_40, TT_42, TT_47, TT_50, TT_57, TT_59, TT_66, TT_68, TT_69, TT_70, TT_72, TT_81, bb, primP, primM, ev, evs, parts_, ofConst, bin, un, intBin, putA, enterT, Nat.reduceEqDiff, Nat.reduceAdd, Nat.reduceMul, Nat.reduceLeDiff, Nat.reduceLT, ↓reduceIte, reduceCtorEq, RunRes, resultsA, oneOf, AV.plain, AV.cells, AHeap.push, AHeap.set, AHeap.empty, fieldOf, loadA, storeA, BX.part, TK.isAgg, convA, builtinA, inertB, builtinP, buildA, fillA, splice, eqv, cellsEq, sizeT, adT, ldT, fwT, Nat.reduceBeqDiff, Nat.reduceBneDiff, Int.reduceBNe, Int.reduceBEq, Int.reduceEq, Int.reduceLT, Int.reduceLE, Int.reduceAdd, Int.reduceSub, Int.reduceMul, Int.reduceNeg, strBin, indexAddrA, elems, lenOf, chunk, List.reduceReplicate, Int.reduceToNat]
end Go.Proofs.Ytbfjkomlnpolmaa.G

namespace Go.Proofs.Ytbfjkomlnpolmaa.G
open Go.BX
set_option linter.unusedSimpArgs false
set_option linter.unusedVariables false
theorem sw_eq' (f : Nat → Pr) (i j : Nat) : (fun k => if k = i then f j else if k = j then f i else f k) = sw f i j := rfl
theorem pi2_all {n h : Nat} {A : Nat → Blk} {g a b i : Nat} {f0 : Nat → Pr} {Q : AV → AHeap → Prop} (hn : n ≤ 1000000) (hin : i < n)
    (hK : ∀ (T : Nat → AV) (f : Nat → Pr), T 0 = .slc g 6 0 n → T 1 = .int .i64 (a : Int) → T 2 = .int .i64 (b : Int) → T 3 = .fn 28 [] [] → T 8 = .int .i64 (i : Int) → Mv a (i + 1) f0 f → Srt f a (i + 1) →
      Run Cx 46 T [] none [.inBlock 1, .code c46_26, .inLoop c46_4, .inBlock 0] ⟨h, SB A g n f⟩ Q) :
    ∀ (j : Nat) (T : Nat → AV) (f : Nat → Pr), a ≤ j → j ≤ i → T 0 = .slc g 6 0 n → T 1 = .int .i64 (a : Int) → T 2 = .int .i64 (b : Int) → T 3 = .fn 28 [] [] → T 8 = .int .i64 (i : Int) → T 9 = .int .i64 (j : Int) → Mv a (i + 1) f0 f → Ins f a i j →
      Run Cx 46 T [] none [.inLoop c46_16, .inBlock 2, .inBlock 1, .code c46_26, .inLoop c46_4, .inBlock 0] ⟨h, SB A g n f⟩ Q := by
  intro j
  induction j with
  | zero =>
    intro T f haj hji t0 t1 t2 t3 t8 t9 hm hI
    rw [run_inLoop]
    have h0 : ((a : Int) < 0) = False := eq_false (by omega)
    replace t9 : T 9 = .int .i64 0 := t9
    simp only [t0, t1, t2, t3, t8, t9, h0, run_exit_start, exit_here, exit_code, exit_inLoop, run_inBlock, n46_0, n46_1, n46_2, n46_3, n46_4, n46_5, n46_6, n46_7, n46_8, n46_9, n46_10, n46_11, n46_12, n46_13, n46_14, n46_15, n46_16, n46_17, n46_18, n46_19, n46_20, n46_21, n46_22, n46_23, n46_24, n46_25, o46_1, o46_6, o46_13, o46_18, o46_24, o46_25, o46_26, res46, TT_3, TT_4, TT_5, TT_9, TT_22, TT_25, TT_26, TT_29, TT_33, TT_38, TT_40, TT_42, TT_47, TT_50, TT_57, TT_59, TT_66, TT_68, TT_69, TT_70, TT_72, TT_81, bb, primP, primM, ev, evs, parts_, ofConst, bin, un, intBin, putA, enterT, Nat.reduceEqDiff, Nat.reduceAdd, Nat.reduceMul, Nat.reduceLeDiff, Nat.reduceLT, ↓reduceIte, reduceCtorEq, RunRes, resultsA, oneOf, AV.plain, AV.cells, AHeap.push, AHeap.set, AHeap.empty, fieldOf, loadA, storeA, BX.part, TK.isAgg, convA, builtinA, inertB, builtinP, buildA, fillA, splice, eqv, cellsEq, sizeT, adT, ldT, fwT, Nat.reduceBeqDiff, Nat.reduceBneDiff, Int.reduceBNe, Int.reduceBEq, Int.reduceEq, Int.reduceLT, Int.reduceLE, Int.reduceAdd, Int.reduceSub, Int.reduceMul, Int.reduceNeg, strBin, indexAddrA, elems, lenOf, chunk, List.reduceReplicate, Int.reduceToNat]
    simp only [run_inBlock] at hK
    refine hK _ f ?_ ?_ ?_ ?_ ?_ hm (hI.stop haj hji (.inl (by omega)))
    all_goals simp only [upd_app, t0, t1, t2, t3, t8, Nat.reduceEqDiff, ↓reduceIte]
  | succ j ih =>
    intro T f haj hji t0 t1 t2 t3 t8 t9 hm hI
    rw [run_inLoop]
    by_cases e : a = j + 1
    · have h0 : ((a : Int) < ((j + 1 : Nat) : Int)) = False := eq_false (by omega)
      simp only [t0, t1, t2, t3, t8, t9, h0, run_exit_start, exit_here, exit_code, exit_inLoop, run_inBlock, n46_0, n46_1, n46_2, n46_3, n46_4, n46_5, n46_6, n46_7, n46_8, n46_9, n46_10, n46_11, n46_12, n46_13, n46_14, n46_15, n46_16, n46_17, n46_18, n46_19, n46_20, n46_21, n46_22, n46_23, n46_24, n46_25, o46_1, o46_6, o46_13, o46_18, o46_24, o46_25, o46_26, res46, TT_3, TT_4, TT_5, TT_9, TT_22, TT_25, TT_26, TT_29, TT_33, TT_38, TT_40, TT_42, TT_47, TT_50, TT_57, TT_59, TT_66, TT_68, TT_69, TT_70, TT_72, TT_81, bb, primP, primM, ev, evs, parts_, ofConst, bin, un, intBin, putA, enterT, Nat.reduceEqDiff, Nat.reduceAdd, Nat.reduceMul, Nat.reduceLeDiff, Nat.reduceLT, ↓reduceIte, reduceCtorEq, RunRes, resultsA, oneOf, AV.plain, AV.cells, AHeap.push, AHeap.set, AHeap.empty, fieldOf, loadA, storeA, BX.part, TK.isAgg, convA, builtinA, inertB, builtinP, buildA, fillA, splice, eqv, cellsEq, sizeT, adT, ldT, fwT, Nat.reduceBeqDiff, Nat.reduceBneDiff, Int.reduceBNe, Int.reduceBEq, Int.reduceEq, Int.reduceLT, Int.reduceLE, Int.reduceAdd, Int.reduceSub, Int.reduceMul, Int.reduceNeg, strBin, indexAddrA, elems, lenOf, chunk, List.reduceReplicate, Int.reduceToNat]
      simp only [run_inBlock] at hK
      refine hK _ f ?_ ?_ ?_ ?_ ?_ hm (hI.stop haj hji (.inl e.symm))
      all_goals simp only [upd_app, t0, t1, t2, t3, t8, Nat.reduceEqDiff, ↓reduceIte]
    · have h0 : ((a : Int) < ((j + 1 : Nat) : Int)) = True := eq_true (by omega)
      have w1 : IntKind.i64.wrap (((j + 1 : Nat) : Int) - 1) = (j : Int) := by rw [wr64 (by omega) (by omega)]; omega
      have l1 : ((j + 1 : Nat) : Int) < (n : Int) := by omega
      have l2 : (j : Int) < (n : Int) := by omega
      have p1 : (0 : Int) ≤ ((j + 1 : Nat) : Int) := by omega
      have p2 : (0 : Int) ≤ (j : Int) := by omega
      have g1 : ∀ f', (R n f')[j + 1]? = _ := fun f' => R_get (n := n) (f := f') (show j + 1 < n by omega)
      have g2 : ∀ f', (R n f')[j]? = _ := fun f' => R_get (n := n) (f := f') (show j < n by omega)
      have hc := byKey_ok (f (j + 1)) (f j)
      have hlt := cmpK_lt (f (j + 1)) (f j)
      by_cases hl : ltP (f (j + 1)) (f j) = true
      · have hlt' : (cmpK (f (j + 1)) (f j) < 0) = True := by rw [hlt]; exact eq_true hl
        obtain ⟨hI', hm'⟩ := hI.step (by omega) hji hl
        simp only [t0, t1, t2, t3, t8, t9, h0, w1, l1, l2, p1, p2, g1, g2, hlt', call_pure pure28 rfl hc, Int.toNat_natCast, R_set, upd2, sw_eq, run_exit_start, exit_here, exit_code, exit_inLoop, run_inBlock, n46_0, n46_1, n46_2, n46_3, n46_4, n46_5, n46_6, n46_7, n46_8, n46_9, n46_10, n46_11, n46_12, n46_13, n46_14, n46_15, n46_16, n46_17, n46_18, n46_19, n46_20, n46_21, n46_22, n46_23, n46_24, n46_25, o46_1, o46_6, o46_13, o46_18, o46_24, o46_25, o46_26, res46, TT_3, TT_4, TT_5, TT_9, TT_22, TT_25, TT_26, TT_29, TT_33, TT_38, TT_40, TT_42, TT_47, TT_50, TT_57, TT_59, TT_66, TT_68, TT_69, TT_70, TT_72, TT_81, bb, primP, primM, ev, evs, parts_, ofConst, bin, un, intBin, putA, enterT, Nat.reduceEqDiff, Nat.reduceAdd, Nat.reduceMul, Nat.reduceLeDiff, Nat.reduceLT, ↓reduceIte, reduceCtorEq, RunRes, resultsA, oneOf, AV.plain, AV.cells, AHeap.push, AHeap.set, AHeap.empty, fieldOf, loadA, storeA, BX.part, TK.isAgg, convA, builtinA, inertB, builtinP, buildA, fillA, splice, eqv, cellsEq, sizeT, adT, ldT, fwT, Nat.reduceBeqDiff, Nat.reduceBneDiff, Int.reduceBNe, Int.reduceBEq, Int.reduceEq, Int.reduceLT, Int.reduceLE, Int.reduceAdd, Int.reduceSub, Int.reduceMul, Int.reduceNeg, strBin, indexAddrA, elems, lenOf, chunk, List.reduceReplicate, Int.reduceToNat]
        refine ih _ _ (by omega) (by omega) ?_ ?_ ?_ ?_ ?_ ?_ (hm.trans hm') hI'
        all_goals simp only [upd_app, t0, t1, t2, t3, t8, Nat.reduceEqDiff, ↓reduceIte]
      · have hlt' : (cmpK (f (j + 1)) (f j) < 0) = False := by rw [hlt]; exact eq_false hl
        simp only [t0, t1, t2, t3, t8, t9, h0, w1, l1, l2, p1, p2, g1, g2, hlt', call_pure pure28 rfl hc, Int.toNat_natCast, run_exit_start, exit_here, exit_code, exit_inLoop, run_inBlock, n46_0, n46_1, n46_2, n46_3, n46_4, n46_5, n46_6, n46_7, n46_8, n46_9, n46_10, n46_11, n46_12, n46_13, n46_14, n46_15, n46_16, n46_17, n46_18, n46_19, n46_20, n46_21, n46_22, n46_23, n46_24, n46_25, o46_1, o46_6, o46_13, o46_18, o46_24, o46_25, o46_26, res46, TT_3, TT_4, TT_5, TT_9, TT_22, TT_25, TT_26, TT_29, TT_33, TT_38, TT_40, TT_42, TT_47, TT_50, TT_57, TT_59, TT_66, TT_68, TT_69, TT_70, TT_72, TT_81, bb, primP, primM, ev, evs, parts_, ofConst, bin, un, intBin, putA, enterT, Nat.reduceEqDiff, Nat.reduceAdd, Nat.reduceMul, Nat.reduceLeDiff, Nat.reduceLT, ↓reduceIte, reduceCtorEq, RunRes, resultsA, oneOf, AV.plain, AV.cells, AHeap.push, AHeap.set, AHeap.empty, fieldOf, loadA, storeA, BX.part, TK.isAgg, convA, builtinA, inertB, builtinP, buildA, fillA, splice, eqv, cellsEq, sizeT, adT, ldT, fwT, Nat.reduceBeqDiff, Nat.reduceBneDiff, Int.reduceBNe, Int.reduceBEq, Int.reduceEq, Int.reduceLT, Int.reduceLE, Int.reduceAdd, Int.reduceSub, Int.reduceMul, Int.reduceNeg, strBin, indexAddrA, elems, lenOf, chunk, List.reduceReplicate, Int.reduceToNat]
        simp only [run_inBlock] at hK
        refine hK _ f ?_ ?_ ?_ ?_ ?_ hm (hI.stop haj hji (.inr (by simpa using hl)))
        all_goals simp only [upd_app, t0, t1, t2, t3, t8, Nat.reduceEqDiff, ↓reduceIte]
theorem pi1_all {n h : Nat} {A : Nat → Blk} {g a b : Nat} {f0 : Nat → Pr} {Q : AV → AHeap → Prop} (hn : n ≤ 1000000) (hab : a ≤ b) (hbn : b ≤ n) (hQ : ∀ f, Mv a b f0 f → Srt f a b → Q (.tuple []) ⟨h, SB A g n f⟩) :
    ∀ (d i : Nat) (T : Nat → AV) (f : Nat → Pr), b ≤ i + d → a < i → T 0 = .slc g 6 0 n → T 1 = .int .i64 (a : Int) → T 2 = .int .i64 (b : Int) → T 3 = .fn 28 [] [] → T 8 = .int .i64 (i : Int) → i ≤ n + 1 → Mv a b f0 f → Srt f a i →
      Run Cx 46 T [] none [.inLoop c46_4, .inBlock 0] ⟨h, SB A g n f⟩ Q
  | 0, i, T, f, hd, hai, t0, t1, t2, t3, t8, hi, hm, hs => by
    rw [run_inLoop]
    have h0 : ((i : Int) < (b : Int)) = False := eq_false (by omega)
    simp only [t0, t1, t2, t3, t8, h0, run_nil, run_exit_start, exit_here, exit_code, exit_inLoop, run_inBlock, n46_0, n46_1, n46_2, n46_3, n46_4, n46_5, n46_6, n46_7, n46_8, n46_9, n46_10, n46_11, n46_12, n46_13, n46_14, n46_15, n46_16, n46_17, n46_18, n46_19, n46_20, n46_21, n46_22, n46_23, n46_24, n46_25, n46_26, o46_1, o46_6, o46_13, o46_18, o46_24, o46_25, o46_26, res46, TT_3, TT_4, TT_5, TT_9, TT_22, TT_25, TT_26, TT_29, TT_33, TT_38, TT_40, TT_42, TT_47, TT_50, TT_57, TT_59, TT_66, TT_68, TT_69, TT_70, TT_72, TT_81, bb, primP, primM, ev, evs, parts_, ofConst, bin, un, intBin, putA, enterT, Nat.reduceEqDiff, Nat.reduceAdd, Nat.reduceMul, Nat.reduceLeDiff, Nat.reduceLT, ↓reduceIte, reduceCtorEq, RunRes, resultsA, oneOf, AV.plain, AV.cells, AHeap.push, AHeap.set, AHeap.empty, fieldOf, loadA, storeA, BX.part, TK.isAgg, convA, builtinA, inertB, builtinP, buildA, fillA, splice, eqv, cellsEq, sizeT, adT, ldT, fwT, Nat.reduceBeqDiff, Nat.reduceBneDiff, Int.reduceBNe, Int.reduceBEq, Int.reduceEq, Int.reduceLT, Int.reduceLE, Int.reduceAdd, Int.reduceSub, Int.reduceMul, Int.reduceNeg, strBin, indexAddrA, elems, lenOf, chunk, List.reduceReplicate, Int.reduceToNat]
    exact hQ f hm (hs.sub (Nat.le_refl _) (by omega))
  | d + 1, i, T, f, hd, hai, t0, t1, t2, t3, t8, hi, hm, hs => by
    rw [run_inLoop]
    by_cases hib : i < b
    · have h0 : ((i : Int) < (b : Int)) = True := eq_true (by omega)
      simp only [t0, t1, t2, t3, t8, h0, run_nil, run_exit_start, exit_here, exit_code, exit_inLoop, run_inBlock, n46_0, n46_1, n46_2, n46_3, n46_4, n46_5, n46_6, n46_7, n46_8, n46_9, n46_10, n46_11, n46_12, n46_13, n46_14, n46_15, n46_17, n46_18, n46_19, n46_20, n46_21, n46_22, n46_23, n46_24, n46_25, o46_1, o46_6, o46_13, o46_18, o46_24, o46_25, o46_26, res46, TT_3, TT_4, TT_5, TT_9, TT_22, TT_25, TT_26, TT_29, TT_33, TT_38, TT_40, TT_42, TT_47, TT_50, TT_57, TT_59, TT_66, TT_68, TT_69, TT_70, TT_72, TT_81, bb, primP, primM, ev, evs, parts_, ofConst, bin, un, intBin, putA, enterT, Nat.reduceEqDiff, Nat.reduceAdd, Nat.reduceMul, Nat.reduceLeDiff, Nat.reduceLT, ↓reduceIte, reduceCtorEq, RunRes, resultsA, oneOf, AV.plain, AV.cells, AHeap.push, AHeap.set, AHeap.empty, fieldOf, loadA, storeA, BX.part, TK.isAgg, convA, builtinA, inertB, builtinP, buildA, fillA, splice, eqv, cellsEq, sizeT, adT, ldT, fwT, Nat.reduceBeqDiff, Nat.reduceBneDiff, Int.reduceBNe, Int.reduceBEq, Int.reduceEq, Int.reduceLT, Int.reduceLE, Int.reduceAdd, Int.reduceSub, Int.reduceMul, Int.reduceNeg, strBin, indexAddrA, elems, lenOf, chunk, List.reduceReplicate, Int.reduceToNat]
      refine pi2_all (a := a) (b := b) (i := i) (f0 := f) hn (by omega) ?_ i _ f (by omega) (Nat.le_refl _) ?_ ?_ ?_ ?_ ?_ ?_ (Mv.refl _ _ _) (Ins.start hs)
      · intro T' f' t0' t1' t2' t3' t8' hm' hs'
        have w1 : IntKind.i64.wrap ((i : Int) + 1) = ((i + 1 : Nat) : Int) := by rw [wr64 (by omega) (by omega)]; omega
        simp only [t8', w1, run_inBlock, n46_0, n46_1, n46_2, n46_3, n46_4, n46_5, n46_6, n46_7, n46_8, n46_9, n46_10, n46_11, n46_12, n46_13, n46_14, n46_15, n46_16, n46_17, n46_18, n46_19, n46_20, n46_21, n46_22, n46_23, n46_24, n46_25, n46_26, o46_1, o46_6, o46_13, o46_18, o46_24, o46_25, o46_26, res46, TT_3, TT_4, TT_5, TT_9, TT_22, TT_25, TT_26, TT_29, TT_33, TT_38, TT_40, TT_42, TT_47, TT_50, TT_57, TT_59, TT_66, TT_68, TT_69, TT_70, TT_72, TT_81, bb, primP, primM, ev, evs, parts_, ofConst, bin, un, intBin, putA, enterT, Nat.reduceEqDiff, Nat.reduceAdd, Nat.reduceMul, Nat.reduceLeDiff, Nat.reduceLT, ↓reduceIte, reduceCtorEq, RunRes, resultsA, oneOf, AV.plain, AV.cells, AHeap.push, AHeap.set, AHeap.empty, fieldOf, loadA, storeA, BX.part, TK.isAgg, convA, builtinA, inertB, builtinP, buildA, fillA, splice, eqv, cellsEq, sizeT, adT, ldT, fwT, Nat.reduceBeqDiff, Nat.reduceBneDiff, Int.reduceBNe, Int.reduceBEq, Int.reduceEq, Int.reduceLT, Int.reduceLE, Int.reduceAdd, Int.reduceSub, Int.reduceMul, Int.reduceNeg, strBin, indexAddrA, elems, lenOf, chunk, List.reduceReplicate, Int.reduceToNat]
        refine pi1_all hn hab hbn hQ d (i + 1) _ f' (by omega) (by omega) ?_ ?_ ?_ ?_ ?_ (by omega) (hm.trans (hm'.wide (Nat.le_refl _) (by omega) (by omega))) hs'
        all_goals simp only [upd_app, t0', t1', t2', t3', Nat.reduceEqDiff, ↓reduceIte]
      all_goals simp only [upd_app, t0, t1, t2, t3, t8, Nat.reduceEqDiff, ↓reduceIte]
    · have h0 : ((i : Int) < (b : Int)) = False := eq_false (by omega)
      simp only [t0, t1, t2, t3, t8, h0, run_nil, run_exit_start, exit_here, exit_code, exit_inLoop, run_inBlock, n46_0, n46_1, n46_2, n46_3, n46_4, n46_5, n46_6, n46_7, n46_8, n46_9, n46_10, n46_11, n46_12, n46_13, n46_14, n46_15, n46_16, n46_17, n46_18, n46_19, n46_20, n46_21, n46_22, n46_23, n46_24, n46_25, n46_26, o46_1, o46_6, o46_13, o46_18, o46_24, o46_25, o46_26, res46, TT_3, TT_4, TT_5, TT_9, TT_22, TT_25, TT_26, TT_29, TT_33, TT_38, TT_40, TT_42, TT_47, TT_50, TT_57, TT_59, TT_66, TT_68, TT_69, TT_70, TT_72, TT_81, bb, primP, primM, ev, evs, parts_, ofConst, bin, un, intBin, putA, enterT, Nat.reduceEqDiff, Nat.reduceAdd, Nat.reduceMul, Nat.reduceLeDiff, Nat.reduceLT, ↓reduceIte, reduceCtorEq, RunRes, resultsA, oneOf, AV.plain, AV.cells, AHeap.push, AHeap.set, AHeap.empty, fieldOf, loadA, storeA, BX.part, TK.isAgg, convA, builtinA, inertB, builtinP, buildA, fillA, splice, eqv, cellsEq, sizeT, adT, ldT, fwT, Nat.reduceBeqDiff, Nat.reduceBneDiff, Int.reduceBNe, Int.reduceBEq, Int.reduceEq, Int.reduceLT, Int.reduceLE, Int.reduceAdd, Int.reduceSub, Int.reduceMul, Int.reduceNeg, strBin, indexAddrA, elems, lenOf, chunk, List.reduceReplicate, Int.reduceToNat]
      exact hQ f hm (hs.sub (Nat.le_refl _) (by omega))
section
variable {fn : FuncId} {T : Nat → AV} {ds : List ADef} {ro : Option Nat} {k : List AItem} {Q : AV → AHeap → Prop} {dst : Option Nat} {os : List AO} {h n : Nat} {A : Nat → Blk} {g : Nat} {f : Nat → Pr}
theorem insertion_call {a b : Nat} (hn : n ≤ 1000000) (hab : a ≤ b) (hbn : b ≤ n) (hk : ∀ f', Mv a b f f' → Srt f' a b → RunOps Cx fn (putA T dst (.tuple [])) ds ro os k ⟨h, SB A g n f'⟩ Q) :
    RunCall Cx fn T ds ro 46 [.slc g 6 0 n, .int .i64 (a : Int), .int .i64 (b : Int), .fn 28 [] []] dst os k ⟨h, SB A g n f⟩ Q := by
  refine call_body pure46 (noext _) body46 ?_
  have w1 : IntKind.i64.wrap ((a : Int) + 1) = ((a + 1 : Nat) : Int) := by rw [wr64 (by omega) (by omega)]; omega
  simp only [w1, n46_0, n46_1, n46_2, n46_3, n46_4, n46_5, n46_6, n46_7, n46_8, n46_9, n46_10, n46_11, n46_12, n46_13, n46_14, n46_15, n46_16, n46_17, n46_18, n46_19, n46_20, n46_21, n46_22, n46_23, n46_24, n46_25, n46_26, o46_1, o46_6, o46_13, o46_18, o46_24, o46_25, o46_26, res46, TT_3, TT_4, TT_5, TT_9, TT_22, TT_25, TT_26, TT_29, TT_33, TT_38, TT_40, TT_42, TT_47, TT_50, TT_57, TT_59, TT_66, TT_68, TT_69, TT_70, TT_72, TT_81, bb, primP, primM, ev, evs, parts_, ofConst, bin, un, intBin, putA, enterT, Nat.reduceEqDiff, Nat.reduceAdd, Nat.reduceMul, Nat.reduceLeDiff, Nat.reduceLT, ↓reduceIte, reduceCtorEq, RunRes, resultsA, oneOf, AV.plain, AV.cells, AHeap.push, AHeap.set, AHeap.empty, fieldOf, loadA, storeA, BX.part, TK.isAgg, convA, builtinA, inertB, builtinP, buildA, fillA, splice, eqv, cellsEq, sizeT, adT, ldT, fwT, Nat.reduceBeqDiff, Nat.reduceBneDiff, Int.reduceBNe, Int.reduceBEq, Int.reduceEq, Int.reduceLT, Int.reduceLE, Int.reduceAdd, Int.reduceSub, Int.reduceMul, Int.reduceNeg, strBin, indexAddrA, elems, lenOf, chunk, List.reduceReplicate, Int.reduceToNat]
  refine pi1_all (a := a) (b := b) (f0 := f) (Q := fun r H1 => RunOps Cx fn (putA T dst r) ds ro os k H1 Q) hn hab hbn hk b (a + 1) _ f (by omega) (by omega) ?_ ?_ ?_ ?_ ?_ (by omega) (Mv.refl _ _ _) (Srt.one (by omega))
  all_goals simp only [upd_app, enterT, List.getElem?_cons_zero, List.getElem?_cons_succ, Option.getD_some, Nat.reduceEqDiff, ↓reduceIte]
  all_goals rfl
end
end Go.Proofs.Ytbfjkomlnpolmaa.G

namespace Go.Proofs.Ytbfjkomlnpolmaa.G
open Go.BX
set_option linter.unusedSimpArgs false
set_option linter.unusedVariables false
theorem u64_half {N : Nat} (h : N ≤ 4000000) : IntKind.i64.wrap ((IntKind.u64.wrap ((N : Nat) : Int)).fdiv (2 ^ min 1 IntKind.u64.bits)) = ((N / 2 : Nat) : Int) := by
  have e1 : IntKind.u64.wrap ((N : Nat) : Int) = (N : Int) := by
    unfold IntKind.wrap
    simp only [show IntKind.u64.signed = false from rfl, show IntKind.u64.bits = 64 from rfl, Bool.false_eq_true, if_false]
    first | omega | (rw [if_neg (by simp)]; omega)
  rw [e1, show min 1 IntKind.u64.bits = 1 from rfl, Int.fdiv_eq_ediv_of_nonneg _ (by omega)]
  rw [wr64 (by omega) (by omega)]
  omega
section
variable {n h : Nat} {A : Nat → Blk} {g a m b : Nat} {f : Nat → Pr} {Q : AV → AHeap → Prop}
theorem bs1_all (hn : n ≤ 1000000) (ham : a < m) (hbn : b ≤ n) (hs : Srt f m b)
    (hK : ∀ (T : Nat → AV) (i : Nat), T 0 = .slc g 6 0 n → T 1 = .int .i64 (a : Int) → T 10 = .int .i64 (i : Int) → m ≤ i → i ≤ b → (∀ q, m ≤ q → q < i → ltP (f q) (f a) = true) → (∀ q, i ≤ q → q < b → ltP (f q) (f a) = false) →
      Run Cx 47 T [] none [.code c47_25, .code c47_42] ⟨h, SB A g n f⟩ Q) :
    ∀ (d i j : Nat) (T : Nat → AV), j ≤ i + d → m ≤ i → i ≤ j → j ≤ b → T 0 = .slc g 6 0 n → T 1 = .int .i64 (a : Int) → T 4 = .fn 28 [] [] → T 10 = .int .i64 (i : Int) → T 11 = .int .i64 (j : Int) → (∀ q, m ≤ q → q < i → ltP (f q) (f a) = true) → (∀ q, j ≤ q → q < b → ltP (f q) (f a) = false) →
      Run Cx 47 T [] none [.inLoop c47_11, .inBlock 0, .code c47_25, .code c47_42] ⟨h, SB A g n f⟩ Q := by
  intro d
  induction d with
  | zero =>
    intro i j T hd hi hij hj t0 t1 t4 t10 t11 hl hr
    obtain rfl : i = j := by omega
    rw [run_inLoop]
    have h0 : ((i : Int) < (i : Int)) = False := eq_false (by omega)
    simp only [t0, t1, t4, t10, t11, h0, run_exit_start, exit_here, exit_code, exit_inLoop, run_inBlock, n47_0, n47_1, n47_2, n47_3, n47_4, n47_5, n47_6, n47_7, n47_8, n47_9, n47_10, n47_11, n47_12, n47_13, n47_14, n47_15, n47_16, n47_17, n47_18, n47_19, n47_20, n47_21, n47_22, n47_23, n47_24, n47_26, n47_27, n47_28, n47_29, n47_30, n47_31, n47_32, n47_33, n47_34, n47_35, n47_36, n47_37, n47_38, n47_39, n47_40, n47_41, n47_43, n47_44, n47_45, n47_46, n47_47, n47_48, n47_49, n47_50, n47_51, n47_52, n47_53, n47_54, n47_55, n47_56, n47_57, n47_58, n47_59, n47_60, n47_61, n47_62, n47_63, n47_64, n47_65, n47_66, n47_67, n47_68, n47_69, n47_70, n47_71, n47_72, n47_73, n47_74, n47_75, n47_76, n47_77, n47_78, n47_79, n47_80, n47_81, n47_82, n47_83, n47_84, n47_85, n47_86, n47_87, n47_88, n47_89, n47_90, n47_91, n47_92, n47_93, n47_94, n47_95, n47_96, n47_97, n47_98, n47_99, n47_100, n47_101, n47_102, n47_103, n47_104, n47_105, n47_106, n47_107, n47_108, n47_109, n47_110, n47_111, n47_112, n47_113, n47_114, n47_115, n47_116, n47_117, n47_118, n47_119, n47_120, n47_121, n47_122, n47_123, n47_124, n47_125, n47_126, n47_127, n47_128, n47_129, n47_130, n47_131, n47_132, n47_133, n47_134, n47_135, n47_136, n47_137, o47_2, o47_5, o47_7, o47_13, o47_19, o47_21, o47_23, o47_24, o47_27, o47_32, o47_38, o47_39, o47_44, o47_47, o47_49, o47_55, o47_61, o47_63, o47_65, o47_66, o47_69, o47_74, o47_80, o47_81, o47_85, o47_87, o47_89, o47_92, o47_95, o47_96, o47_98, o47_99, o47_101, o47_107, o47_113, o47_115, o47_117, o47_118, o47_120, o47_123, o47_125, o47_129, o47_131, o47_134, o47_136, res47, TT_3, TT_4, TT_5, TT_9, TT_22, TT_25, TT_26, TT_29, TT_33, TT_38, TT_40, TT_42, TT_47, TT_50, TT_57, TT_59, TT_66, TT_68, TT_69, TT_70, TT_72, TT_81, bb, primP, primM, ev, evs, parts_, ofConst, bin, un, intBin, putA, enterT, Nat.reduceEqDiff, Nat.reduceAdd, Nat.reduceMul, Nat.reduceLeDiff, Nat.reduceLT, ↓reduceIte, reduceCtorEq, RunRes, resultsA, oneOf, AV.plain, AV.cells, AHeap.push, AHeap.set, AHeap.empty, fieldOf, loadA, storeA, BX.part, TK.isAgg, convA, builtinA, inertB, builtinP, buildA, fillA, splice, eqv, cellsEq, sizeT, adT, ldT, fwT, Nat.reduceBeqDiff, Nat.reduceBneDiff, Int.reduceBNe, Int.reduceBEq, Int.reduceEq, Int.reduceLT, Int.reduceLE, Int.reduceAdd, Int.reduceSub, Int.reduceMul, Int.reduceNeg, strBin, indexAddrA, elems, lenOf, chunk, List.reduceReplicate, Int.reduceToNat]
    refine hK _ i ?_ ?_ ?_ hi hj hl hr
    all_goals simp only [upd_app, t0, t1, t10, Nat.reduceEqDiff, ↓reduceIte]
  | succ d ih =>
    intro i j T hd hi hij hj t0 t1 t4 t10 t11 hl hr
    rw [run_inLoop]
    by_cases e : i = j
    · subst e
      have h0 : ((i : Int) < (i : Int)) = False := eq_false (by omega)
      simp only [t0, t1, t4, t10, t11, h0, run_exit_start, exit_here, exit_code, exit_inLoop, run_inBlock, n47_0, n47_1, n47_2, n47_3, n47_4, n47_5, n47_6, n47_7, n47_8, n47_9, n47_10, n47_11, n47_12, n47_13, n47_14, n47_15, n47_16, n47_17, n47_18, n47_19, n47_20, n47_21, n47_22, n47_23, n47_24, n47_26, n47_27, n47_28, n47_29, n47_30, n47_31, n47_32, n47_33, n47_34, n47_35, n47_36, n47_37, n47_38, n47_39, n47_40, n47_41, n47_43, n47_44, n47_45, n47_46, n47_47, n47_48, n47_49, n47_50, n47_51, n47_52, n47_53, n47_54, n47_55, n47_56, n47_57, n47_58, n47_59, n47_60, n47_61, n47_62, n47_63, n47_64, n47_65, n47_66, n47_67, n47_68, n47_69, n47_70, n47_71, n47_72, n47_73, n47_74, n47_75, n47_76, n47_77, n47_78, n47_79, n47_80, n47_81, n47_82, n47_83, n47_84, n47_85, n47_86, n47_87, n47_88, n47_89, n47_90, n47_91, n47_92, n47_93, n47_94, n47_95, n47_96, n47_97, n47_98, n47_99, n47_100, n47_101, n47_102, n47_103, n47_104, n47_105, n47_106, n47_107, n47_108, n47_109, n47_110, n47_111, n47_112, n47_113, n47_114, n47_115, n47_116, n47_117, n47_118, n47_119, n47_120, n47_121, n47_122, n47_123, n47_124, n47_125, n47_126, n47_127, n47_128, n47_129, n47_130, n47_131, n47_132, n47_133, n47_134, n47_135, n47_136, n47_137, o47_2, o47_5, o47_7, o47_13, o47_19, o47_21, o47_23, o47_24, o47_27, o47_32, o47_38, o47_39, o47_44, o47_47, o47_49, o47_55, o47_61, o47_63, o47_65, o47_66, o47_69, o47_74, o47_80, o47_81, o47_85, o47_87, o47_89, o47_92, o47_95, o47_96, o47_98, o47_99, o47_101, o47_107, o47_113, o47_115, o47_117, o47_118, o47_120, o47_123, o47_125, o47_129, o47_131, o47_134, o47_136, res47, TT_3, TT_4, TT_5, TT_9, TT_22, TT_25, TT_26, TT_29, TT_33, TT_38, TT_40, TT_42, TT_47, TT_50, TT_57, TT_59, TT_66, TT_68, TT_69, TT_70, TT_72, TT_81, bb, primP, primM, ev, evs, parts_, ofConst, bin, un, intBin, putA, enterT, Nat.reduceEqDiff, Nat.reduceAdd, Nat.reduceMul, Nat.reduceLeDiff, Nat.reduceLT, ↓reduceIte, reduceCtorEq, RunRes, resultsA, oneOf, AV.plain, AV.cells, AHeap.push, AHeap.set, AHeap.empty, fieldOf, loadA, storeA, BX.part, TK.isAgg, convA, builtinA, inertB, builtinP, buildA, fillA, splice, eqv, cellsEq, sizeT, adT, ldT, fwT, Nat.reduceBeqDiff, Nat.reduceBneDiff, Int.reduceBNe, Int.reduceBEq, Int.reduceEq, Int.reduceLT, Int.reduceLE, Int.reduceAdd, Int.reduceSub, Int.reduceMul, Int.reduceNeg, strBin, indexAddrA, elems, lenOf, chunk, List.reduceReplicate, Int.reduceToNat]
      refine hK _ i ?_ ?_ ?_ hi hj hl hr
      all_goals simp only [upd_app, t0, t1, t10, Nat.reduceEqDiff, ↓reduceIte]
    · have h0 : ((i : Int) < (j : Int)) = True := eq_true (by omega)
      have w1 : IntKind.i64.wrap ((i : Int) + (j : Int)) = ((i + j : Nat) : Int) := by rw [wr64 (by omega) (by omega)]; omega
      have w2 := u64_half (N := i + j) (by omega)
      generalize hc0 : (i + j) / 2 = c at w2
      have w3 : IntKind.i64.wrap ((c : Int) + 1) = ((c + 1 : Nat) : Int) := by rw [wr64 (by omega) (by omega)]; omega
      have l1 : (c : Int) < (n : Int) := by omega
      have l2 : (a : Int) < (n : Int) := by omega
      have p1 : (0 : Int) ≤ (c : Int) := by omega
      have p2 : (0 : Int) ≤ (a : Int) := by omega
      have g1 : ∀ f', (R n f')[c]? = _ := fun f' => R_get (n := n) (f := f') (show c < n by omega)
      have g2 : ∀ f', (R n f')[a]? = _ := fun f' => R_get (n := n) (f := f') (show a < n by omega)
      have hc := byKey_ok (f c) (f a)
      have hlt := cmpK_lt (f c) (f a)
      by_cases hl' : ltP (f c) (f a) = true
      · have hlt' : (cmpK (f c) (f a) < 0) = True := by rw [hlt]; exact eq_true hl'
        simp only [t0, t1, t4, t10, t11, h0, w1, w2, w3, l1, l2, p1, p2, g1, g2, hlt', shiftBin, call_pure pure28 rfl hc, Int.toNat_natCast, run_exit_start, exit_here, exit_code, exit_inLoop, run_inBlock, n47_0, n47_1, n47_2, n47_3, n47_4, n47_5, n47_6, n47_7, n47_8, n47_9, n47_10, n47_11, n47_12, n47_13, n47_14, n47_15, n47_16, n47_17, n47_18, n47_19, n47_20, n47_21, n47_22, n47_23, n47_24, n47_26, n47_27, n47_28, n47_29, n47_30, n47_31, n47_32, n47_33, n47_34, n47_35, n47_36, n47_37, n47_38, n47_39, n47_40, n47_41, n47_43, n47_44, n47_45, n47_46, n47_47, n47_48, n47_49, n47_50, n47_51, n47_52, n47_53, n47_54, n47_55, n47_56, n47_57, n47_58, n47_59, n47_60, n47_61, n47_62, n47_63, n47_64, n47_65, n47_66, n47_67, n47_68, n47_69, n47_70, n47_71, n47_72, n47_73, n47_74, n47_75, n47_76, n47_77, n47_78, n47_79, n47_80, n47_81, n47_82, n47_83, n47_84, n47_85, n47_86, n47_87, n47_88, n47_89, n47_90, n47_91, n47_92, n47_93, n47_94, n47_95, n47_96, n47_97, n47_98, n47_99, n47_100, n47_101, n47_102, n47_103, n47_104, n47_105, n47_106, n47_107, n47_108, n47_109, n47_110, n47_111, n47_112, n47_113, n47_114, n47_115, n47_116, n47_117, n47_118, n47_119, n47_120, n47_121, n47_122, n47_123, n47_124, n47_125, n47_126, n47_127, n47_128, n47_129, n47_130, n47_131, n47_132, n47_133, n47_134, n47_135, n47_136, n47_137, o47_2, o47_5, o47_7, o47_13, o47_19, o47_21, o47_23, o47_24, o47_27, o47_32, o47_38, o47_39, o47_44, o47_47, o47_49, o47_55, o47_61, o47_63, o47_65, o47_66, o47_69, o47_74, o47_80, o47_81, o47_85, o47_87, o47_89, o47_92, o47_95, o47_96, o47_98, o47_99, o47_101, o47_107, o47_113, o47_115, o47_117, o47_118, o47_120, o47_123, o47_125, o47_129, o47_131, o47_134, o47_136, res47, TT_3, TT_4, TT_5, TT_9, TT_22, TT_25, TT_26, TT_29, TT_33, TT_38, TT_40, TT_42, TT_47, TT_50, TT_57, TT_59, TT_66, TT_68, TT_69, TT_70, TT_72, TT_81, bb, primP, primM, ev, evs, parts_, ofConst, bin, un, intBin, putA, enterT, Nat.reduceEqDiff, Nat.reduceAdd, Nat.reduceMul, Nat.reduceLeDiff, Nat.reduceLT, ↓reduceIte, reduceCtorEq, RunRes, resultsA, oneOf, AV.plain, AV.cells, AHeap.push, AHeap.set, AHeap.empty, fieldOf, loadA, storeA, BX.part, TK.isAgg, convA, builtinA, inertB, builtinP, buildA, fillA, splice, eqv, cellsEq, sizeT, adT, ldT, fwT, Nat.reduceBeqDiff, Nat.reduceBneDiff, Int.reduceBNe, Int.reduceBEq, Int.reduceEq, Int.reduceLT, Int.reduceLE, Int.reduceAdd, Int.reduceSub, Int.reduceMul, Int.reduceNeg, strBin, indexAddrA, elems, lenOf, chunk, List.reduceReplicate, Int.reduceToNat]
        refine ih (c + 1) j _ (by omega) (by omega) (by omega) hj ?_ ?_ ?_ ?_ ?_ ?_ hr
        all_goals first | (simp only [upd_app, t0, t1, t4, t10, t11, Nat.reduceEqDiff, ↓reduceIte]; done) | skip
        intro q x y
        exact bl_le_lt (hs.le x (show q ≤ c by omega) (by omega)) hl'
      · have hlt' : (cmpK (f c) (f a) < 0) = False := by rw [hlt]; exact eq_false hl'
        simp only [t0, t1, t4, t10, t11, h0, w1, w2, w3, l1, l2, p1, p2, g1, g2, hlt', shiftBin, call_pure pure28 rfl hc, Int.toNat_natCast, run_exit_start, exit_here, exit_code, exit_inLoop, run_inBlock, n47_0, n47_1, n47_2, n47_3, n47_4, n47_5, n47_6, n47_7, n47_8, n47_9, n47_10, n47_11, n47_12, n47_13, n47_14, n47_15, n47_16, n47_17, n47_18, n47_19, n47_20, n47_21, n47_22, n47_23, n47_24, n47_26, n47_27, n47_28, n47_29, n47_30, n47_31, n47_32, n47_33, n47_34, n47_35, n47_36, n47_37, n47_38, n47_39, n47_40, n47_41, n47_43, n47_44, n47_45, n47_46, n47_47, n47_48, n47_49, n47_50, n47_51, n47_52, n47_53, n47_54, n47_55, n47_56, n47_57, n47_58, n47_59, n47_60, n47_61, n47_62, n47_63, n47_64, n47_65, n47_66, n47_67, n47_68, n47_69, n47_70, n47_71, n47_72, n47_73, n47_74, n47_75, n47_76, n47_77, n47_78, n47_79, n47_80, n47_81, n47_82, n47_83, n47_84, n47_85, n47_86, n47_87, n47_88, n47_89, n47_90, n47_91, n47_92, n47_93, n47_94, n47_95, n47_96, n47_97, n47_98, n47_99, n47_100, n47_101, n47_102, n47_103, n47_104, n47_105, n47_106, n47_107, n47_108, n47_109, n47_110, n47_111, n47_112, n47_113, n47_114, n47_115, n47_116, n47_117, n47_118, n47_119, n47_120, n47_121, n47_122, n47_123, n47_124, n47_125, n47_126, n47_127, n47_128, n47_129, n47_130, n47_131, n47_132, n47_133, n47_134, n47_135, n47_136, n47_137, o47_2, o47_5, o47_7, o47_13, o47_19, o47_21, o47_23, o47_24, o47_27, o47_32, o47_38, o47_39, o47_44, o47_47, o47_49, o47_55, o47_61, o47_63, o47_65, o47_66, o47_69, o47_74, o47_80, o47_81, o47_85, o47_87, o47_89, o47_92, o47_95, o47_96, o47_98, o47_99, o47_101, o47_107, o47_113, o47_115, o47_117, o47_118, o47_120, o47_123, o47_125, o47_129, o47_131, o47_134, o47_136, res47, TT_3, TT_4, TT_5, TT_9, TT_22, TT_25, TT_26, TT_29, TT_33, TT_38, TT_40, TT_42, TT_47, TT_50, TT_57, TT_59, TT_66, TT_68, TT_69, TT_70, TT_72, TT_81, bb, primP, primM, ev, evs, parts_, ofConst, bin, un, intBin, putA, enterT, Nat.reduceEqDiff, Nat.reduceAdd, Nat.reduceMul, Nat.reduceLeDiff, Nat.reduceLT, ↓reduceIte, reduceCtorEq, RunRes, resultsA, oneOf, AV.plain, AV.cells, AHeap.push, AHeap.set, AHeap.empty, fieldOf, loadA, storeA, BX.part, TK.isAgg, convA, builtinA, inertB, builtinP, buildA, fillA, splice, eqv, cellsEq, sizeT, adT, ldT, fwT, Nat.reduceBeqDiff, Nat.reduceBneDiff, Int.reduceBNe, Int.reduceBEq, Int.reduceEq, Int.reduceLT, Int.reduceLE, Int.reduceAdd, Int.reduceSub, Int.reduceMul, Int.reduceNeg, strBin, indexAddrA, elems, lenOf, chunk, List.reduceReplicate, Int.reduceToNat]
        refine ih i c _ (by omega) hi (by omega) (by omega) ?_ ?_ ?_ ?_ ?_ hl ?_
        all_goals first | (simp only [upd_app, t0, t1, t4, t10, t11, Nat.reduceEqDiff, ↓reduceIte]; done) | skip
        intro q x y
        exact bl_le (by simpa using hl') (hs.le (show m ≤ c by omega) x y)
theorem up_all {i : Nat} (hn : n ≤ 1000000) (hai : a < i) (hin : i ≤ n) (hQ : Q (.tuple []) ⟨h, SB A g n (rot f a (a + 1) i)⟩) :
    ∀ (d k : Nat) (T : Nat → AV), k + 1 + d = i → a ≤ k → T 0 = .slc g 6 0 n → T 10 = .int .i64 (i : Int) → T 13 = .int .i64 (k : Int) →
      Run Cx 47 T [] none [.inLoop c47_30, .inBlock 2, .code c47_40, .code c47_42] ⟨h, SB A g n (rot f a (a + 1) (k + 1))⟩ Q
  | 0, k, T, hd, hak, t0, t10, t13 => by
    obtain rfl : i = k + 1 := by omega
    rw [run_inLoop]
    have w1 : IntKind.i64.wrap (((k + 1 : Nat) : Int) - 1) = (k : Int) := by rw [wr64 (by omega) (by omega)]; omega
    have h0 : ((k : Int) < (k : Int)) = False := eq_false (by omega)
    simp only [t0, t10, t13, w1, h0, run_exit_start, exit_here, exit_code, exit_inLoop, run_inBlock, n47_0, n47_1, n47_2, n47_3, n47_4, n47_5, n47_6, n47_7, n47_8, n47_9, n47_10, n47_11, n47_12, n47_13, n47_14, n47_15, n47_16, n47_17, n47_18, n47_19, n47_20, n47_21, n47_22, n47_23, n47_24, n47_25, n47_26, n47_27, n47_28, n47_29, n47_30, n47_31, n47_32, n47_33, n47_34, n47_35, n47_36, n47_37, n47_38, n47_39, n47_40, n47_41, n47_42, n47_43, n47_44, n47_45, n47_46, n47_47, n47_48, n47_49, n47_50, n47_51, n47_52, n47_53, n47_54, n47_55, n47_56, n47_57, n47_58, n47_59, n47_60, n47_61, n47_62, n47_63, n47_64, n47_65, n47_66, n47_67, n47_68, n47_69, n47_70, n47_71, n47_72, n47_73, n47_74, n47_75, n47_76, n47_77, n47_78, n47_79, n47_80, n47_81, n47_82, n47_83, n47_84, n47_85, n47_86, n47_87, n47_88, n47_89, n47_90, n47_91, n47_92, n47_93, n47_94, n47_95, n47_96, n47_97, n47_98, n47_99, n47_100, n47_101, n47_102, n47_103, n47_104, n47_105, n47_106, n47_107, n47_108, n47_109, n47_110, n47_111, n47_112, n47_113, n47_114, n47_115, n47_116, n47_117, n47_118, n47_119, n47_120, n47_121, n47_122, n47_123, n47_124, n47_125, n47_126, n47_127, n47_128, n47_129, n47_130, n47_131, n47_132, n47_133, n47_134, n47_135, n47_136, n47_137, o47_2, o47_5, o47_7, o47_13, o47_19, o47_21, o47_23, o47_24, o47_27, o47_32, o47_38, o47_39, o47_44, o47_47, o47_49, o47_55, o47_61, o47_63, o47_65, o47_66, o47_69, o47_74, o47_80, o47_81, o47_85, o47_87, o47_89, o47_92, o47_95, o47_96, o47_98, o47_99, o47_101, o47_107, o47_113, o47_115, o47_117, o47_118, o47_120, o47_123, o47_125, o47_129, o47_131, o47_134, o47_136, res47, TT_3, TT_4, TT_5, TT_9, TT_22, TT_25, TT_26, TT_29, TT_33, TT_38, TT_40, TT_42, TT_47, TT_50, TT_57, TT_59, TT_66, TT_68, TT_69, TT_70, TT_72, TT_81, bb, primP, primM, ev, evs, parts_, ofConst, bin, un, intBin, putA, enterT, Nat.reduceEqDiff, Nat.reduceAdd, Nat.reduceMul, Nat.reduceLeDiff, Nat.reduceLT, ↓reduceIte, reduceCtorEq, RunRes, resultsA, oneOf, AV.plain, AV.cells, AHeap.push, AHeap.set, AHeap.empty, fieldOf, loadA, storeA, BX.part, TK.isAgg, convA, builtinA, inertB, builtinP, buildA, fillA, splice, eqv, cellsEq, sizeT, adT, ldT, fwT, Nat.reduceBeqDiff, Nat.reduceBneDiff, Int.reduceBNe, Int.reduceBEq, Int.reduceEq, Int.reduceLT, Int.reduceLE, Int.reduceAdd, Int.reduceSub, Int.reduceMul, Int.reduceNeg, strBin, indexAddrA, elems, lenOf, chunk, List.reduceReplicate, Int.reduceToNat]
    exact hQ
  | d + 1, k, T, hd, hak, t0, t10, t13 => by
    rw [run_inLoop]
    have w1 : IntKind.i64.wrap ((i : Int) - 1) = ((i - 1 : Nat) : Int) := by rw [wr64 (by omega) (by omega)]; omega
    have w2 : IntKind.i64.wrap ((k : Int) + 1) = ((k + 1 : Nat) : Int) := by rw [wr64 (by omega) (by omega)]; omega
    have h0 : ((k : Int) < ((i - 1 : Nat) : Int)) = True := eq_true (by omega)
    have l1 : (k : Int) < (n : Int) := by omega
    have l2 : ((k + 1 : Nat) : Int) < (n : Int) := by omega
    have p1 : (0 : Int) ≤ (k : Int) := by omega
    have p2 : (0 : Int) ≤ ((k + 1 : Nat) : Int) := by omega
    have g1 : ∀ f', (R n f')[k]? = _ := fun f' => R_get (n := n) (f := f') (show k < n by omega)
    have g2 : ∀ f', (R n f')[k + 1]? = _ := fun f' => R_get (n := n) (f := f') (show k + 1 < n by omega)
    simp only [t0, t10, t13, w1, w2, h0, l1, l2, p1, p2, g1, g2, Int.toNat_natCast, R_set, upd2, sw_eq, run_exit_start, exit_here, exit_code, exit_inLoop, run_inBlock, n47_0, n47_1, n47_2, n47_3, n47_4, n47_5, n47_6, n47_7, n47_8, n47_9, n47_10, n47_11, n47_12, n47_13, n47_14, n47_15, n47_16, n47_17, n47_18, n47_19, n47_20, n47_21, n47_22, n47_23, n47_24, n47_25, n47_26, n47_27, n47_28, n47_29, n47_30, n47_31, n47_32, n47_33, n47_34, n47_35, n47_36, n47_37, n47_38, n47_39, n47_41, n47_43, n47_44, n47_45, n47_46, n47_47, n47_48, n47_49, n47_50, n47_51, n47_52, n47_53, n47_54, n47_55, n47_56, n47_57, n47_58, n47_59, n47_60, n47_61, n47_62, n47_63, n47_64, n47_65, n47_66, n47_67, n47_68, n47_69, n47_70, n47_71, n47_72, n47_73, n47_74, n47_75, n47_76, n47_77, n47_78, n47_79, n47_80, n47_81, n47_82, n47_83, n47_84, n47_85, n47_86, n47_87, n47_88, n47_89, n47_90, n47_91, n47_92, n47_93, n47_94, n47_95, n47_96, n47_97, n47_98, n47_99, n47_100, n47_101, n47_102, n47_103, n47_104, n47_105, n47_106, n47_107, n47_108, n47_109, n47_110, n47_111, n47_112, n47_113, n47_114, n47_115, n47_116, n47_117, n47_118, n47_119, n47_120, n47_121, n47_122, n47_123, n47_124, n47_125, n47_126, n47_127, n47_128, n47_129, n47_130, n47_131, n47_132, n47_133, n47_134, n47_135, n47_136, n47_137, o47_2, o47_5, o47_7, o47_13, o47_19, o47_21, o47_23, o47_24, o47_27, o47_32, o47_38, o47_39, o47_44, o47_47, o47_49, o47_55, o47_61, o47_63, o47_65, o47_66, o47_69, o47_74, o47_80, o47_81, o47_85, o47_87, o47_89, o47_92, o47_95, o47_96, o47_98, o47_99, o47_101, o47_107, o47_113, o47_115, o47_117, o47_118, o47_120, o47_123, o47_125, o47_129, o47_131, o47_134, o47_136, res47, TT_3, TT_4, TT_5, TT_9, TT_22, TT_25, TT_26, TT_29, TT_33, TT_38, TT_40, TT_42, TT_47, TT_50, TT_57, TT_59, TT_66, TT_68, TT_69, TT_70, TT_72, TT_81, bb, primP, primM, ev, evs, parts_, ofConst, bin, un, intBin, putA, enterT, Nat.reduceEqDiff, Nat.reduceAdd, Nat.reduceMul, Nat.reduceLeDiff, Nat.reduceLT, ↓reduceIte, reduceCtorEq, RunRes, resultsA, oneOf, AV.plain, AV.cells, AHeap.push, AHeap.set, AHeap.empty, fieldOf, loadA, storeA, BX.part, TK.isAgg, convA, builtinA, inertB, builtinP, buildA, fillA, splice, eqv, cellsEq, sizeT, adT, ldT, fwT, Nat.reduceBeqDiff, Nat.reduceBneDiff, Int.reduceBNe, Int.reduceBEq, Int.reduceEq, Int.reduceLT, Int.reduceLE, Int.reduceAdd, Int.reduceSub, Int.reduceMul, Int.reduceNeg, strBin, indexAddrA, elems, lenOf, chunk, List.reduceReplicate, Int.reduceToNat]
    rw [rot_up f hak]
    refine up_all hn hai hin hQ d (k + 1) _ (by omega) (by omega) ?_ ?_ ?_
    all_goals simp only [upd_app, t0, t10, Nat.reduceEqDiff, ↓reduceIte]
theorem bs2_all (hn : n ≤ 1000000) (hmn : m < n) (hs : Srt f a m)
    (hK : ∀ (T : Nat → AV) (i : Nat), T 0 = .slc g 6 0 n → T 2 = .int .i64 (m : Int) → T 14 = .int .i64 (i : Int) → a ≤ i → i ≤ m → (∀ q, a ≤ q → q < i → ltP (f m) (f q) = false) → (∀ q, i ≤ q → q < m → ltP (f m) (f q) = true) →
      Run Cx 47 T [] none [.code c47_67, .code c47_84] ⟨h, SB A g n f⟩ Q) :
    ∀ (d i j : Nat) (T : Nat → AV), j ≤ i + d → a ≤ i → i ≤ j → j ≤ m → T 0 = .slc g 6 0 n → T 2 = .int .i64 (m : Int) → T 4 = .fn 28 [] [] → T 14 = .int .i64 (i : Int) → T 15 = .int .i64 (j : Int) → (∀ q, a ≤ q → q < i → ltP (f m) (f q) = false) → (∀ q, j ≤ q → q < m → ltP (f m) (f q) = true) →
      Run Cx 47 T [] none [.inLoop c47_53, .inBlock 4, .code c47_67, .code c47_84] ⟨h, SB A g n f⟩ Q := by
  intro d
  induction d with
  | zero =>
    intro i j T hd hi hij hj t0 t2 t4 t14 t15 hl hr
    obtain rfl : i = j := by omega
    rw [run_inLoop]
    have h0 : ((i : Int) < (i : Int)) = False := eq_false (by omega)
    simp only [t0, t2, t4, t14, t15, h0, run_exit_start, exit_here, exit_code, exit_inLoop, run_inBlock, n47_0, n47_1, n47_2, n47_3, n47_4, n47_5, n47_6, n47_7, n47_8, n47_9, n47_10, n47_11, n47_12, n47_13, n47_14, n47_15, n47_16, n47_17, n47_18, n47_19, n47_20, n47_21, n47_22, n47_23, n47_24, n47_25, n47_26, n47_27, n47_28, n47_29, n47_30, n47_31, n47_32, n47_33, n47_34, n47_35, n47_36, n47_37, n47_38, n47_39, n47_40, n47_41, n47_42, n47_43, n47_44, n47_45, n47_46, n47_47, n47_48, n47_49, n47_50, n47_51, n47_52, n47_53, n47_54, n47_55, n47_56, n47_57, n47_58, n47_59, n47_60, n47_61, n47_62, n47_63, n47_64, n47_65, n47_66, n47_68, n47_69, n47_70, n47_71, n47_72, n47_73, n47_74, n47_75, n47_76, n47_77, n47_78, n47_79, n47_80, n47_81, n47_82, n47_83, n47_85, n47_86, n47_87, n47_88, n47_89, n47_90, n47_91, n47_92, n47_93, n47_94, n47_95, n47_96, n47_97, n47_98, n47_99, n47_100, n47_101, n47_102, n47_103, n47_104, n47_105, n47_106, n47_107, n47_108, n47_109, n47_110, n47_111, n47_112, n47_113, n47_114, n47_115, n47_116, n47_117, n47_118, n47_119, n47_120, n47_121, n47_122, n47_123, n47_124, n47_125, n47_126, n47_127, n47_128, n47_129, n47_130, n47_131, n47_132, n47_133, n47_134, n47_135, n47_136, n47_137, o47_2, o47_5, o47_7, o47_13, o47_19, o47_21, o47_23, o47_24, o47_27, o47_32, o47_38, o47_39, o47_44, o47_47, o47_49, o47_55, o47_61, o47_63, o47_65, o47_66, o47_69, o47_74, o47_80, o47_81, o47_85, o47_87, o47_89, o47_92, o47_95, o47_96, o47_98, o47_99, o47_101, o47_107, o47_113, o47_115, o47_117, o47_118, o47_120, o47_123, o47_125, o47_129, o47_131, o47_134, o47_136, res47, TT_3, TT_4, TT_5, TT_9, TT_22, TT_25, TT_26, TT_29, TT_33, TT_38, TT_40, TT_42, TT_47, TT_50, TT_57, TT_59, TT_66, TT_68, TT_69, TT_70, TT_72, TT_81, bb, primP, primM, ev, evs, parts_, ofConst, bin, un, intBin, putA, enterT, Nat.reduceEqDiff, Nat.reduceAdd, Nat.reduceMul, Nat.reduceLeDiff, Nat.reduceLT, ↓reduceIte, reduceCtorEq, RunRes, resultsA, oneOf, AV.plain, AV.cells, AHeap.push, AHeap.set, AHeap.empty, fieldOf, loadA, storeA, BX.part, TK.isAgg, convA, builtinA, inertB, builtinP, buildA, fillA, splice, eqv, cellsEq, sizeT, adT, ldT, fwT, Nat.reduceBeqDiff, Nat.reduceBneDiff, Int.reduceBNe, Int.reduceBEq, Int.reduceEq, Int.reduceLT, Int.reduceLE, Int.reduceAdd, Int.reduceSub, Int.reduceMul, Int.reduceNeg, strBin, indexAddrA, elems, lenOf, chunk, List.reduceReplicate, Int.reduceToNat]
    refine hK _ i ?_ ?_ ?_ hi hj hl hr
    all_goals simp only [upd_app, t0, t2, t14, Nat.reduceEqDiff, ↓reduceIte]
  | succ d ih =>
    intro i j T hd hi hij hj t0 t2 t4 t14 t15 hl hr
    rw [run_inLoop]
    by_cases e : i = j
    · subst e
      have h0 : ((i : Int) < (i : Int)) = False := eq_false (by omega)
      simp only [t0, t2, t4, t14, t15, h0, run_exit_start, exit_here, exit_code, exit_inLoop, run_inBlock, n47_0, n47_1, n47_2, n47_3, n47_4, n47_5, n47_6, n47_7, n47_8, n47_9, n47_10, n47_11, n47_12, n47_13, n47_14, n47_15, n47_16, n47_17, n47_18, n47_19, n47_20, n47_21, n47_22, n47_23, n47_24, n47_25, n47_26, n47_27, n47_28, n47_29, n47_30, n47_31, n47_32, n47_33, n47_34, n47_35, n47_36, n47_37, n47_38, n47_39, n47_40, n47_41, n47_42, n47_43, n47_44, n47_45, n47_46, n47_47, n47_48, n47_49, n47_50, n47_51, n47_52, n47_53, n47_54, n47_55, n47_56, n47_57, n47_58, n47_59, n47_60, n47_61, n47_62, n47_63, n47_64, n47_65, n47_66, n47_68, n47_69, n47_70, n47_71, n47_72, n47_73, n47_74, n47_75, n47_76, n47_77, n47_78, n47_79, n47_80, n47_81, n47_82, n47_83, n47_85, n47_86, n47_87, n47_88, n47_89, n47_90, n47_91, n47_92, n47_93, n47_94, n47_95, n47_96, n47_97, n47_98, n47_99, n47_100, n47_101, n47_102, n47_103, n47_104, n47_105, n47_106, n47_107, n47_108, n47_109, n47_110, n47_111, n47_112, n47_113, n47_114, n47_115, n47_116, n47_117, n47_118, n47_119, n47_120, n47_121, n47_122, n47_123, n47_124, n47_125, n47_126, n47_127, n47_128, n47_129, n47_130, n47_131, n47_132, n47_133, n47_134, n47_135, n47_136, n47_137, o47_2, o47_5, o47_7, o47_13, o47_19, o47_21, o47_23, o47_24, o47_27, o47_32, o47_38, o47_39, o47_44, o47_47, o47_49, o47_55, o47_61, o47_63, o47_65, o47_66, o47_69, o47_74, o47_80, o47_81, o47_85, o47_87, o47_89, o47_92, o47_95, o47_96, o47_98, o47_99, o47_101, o47_107, o47_113, o47_115, o47_117, o47_118, o47_120, o47_123, o47_125, o47_129, o47_131, o47_134, o47_136, res47, TT_3, TT_4, TT_5, TT_9, TT_22, TT_25, TT_26, TT_29, TT_33, TT_38, TT_40, TT_42, TT_47, TT_50, TT_57, TT_59, TT_66, TT_68, TT_69, TT_70, TT_72, TT_81, bb, primP, primM, ev, evs, parts_, ofConst, bin, un, intBin, putA, enterT, Nat.reduceEqDiff, Nat.reduceAdd, Nat.reduceMul, Nat.reduceLeDiff, Nat.reduceLT, ↓reduceIte, reduceCtorEq, RunRes, resultsA, oneOf, AV.plain, AV.cells, AHeap.push, AHeap.set, AHeap.empty, fieldOf, loadA, storeA, BX.part, TK.isAgg, convA, builtinA, inertB, builtinP, buildA, fillA, splice, eqv, cellsEq, sizeT, adT, ldT, fwT, Nat.reduceBeqDiff, Nat.reduceBneDiff, Int.reduceBNe, Int.reduceBEq, Int.reduceEq, Int.reduceLT, Int.reduceLE, Int.reduceAdd, Int.reduceSub, Int.reduceMul, Int.reduceNeg, strBin, indexAddrA, elems, lenOf, chunk, List.reduceReplicate, Int.reduceToNat]
      refine hK _ i ?_ ?_ ?_ hi hj hl hr
      all_goals simp only [upd_app, t0, t2, t14, Nat.reduceEqDiff, ↓reduceIte]
    · have h0 : ((i : Int) < (j : Int)) = True := eq_true (by omega)
      have w1 : IntKind.i64.wrap ((i : Int) + (j : Int)) = ((i + j : Nat) : Int) := by rw [wr64 (by omega) (by omega)]; omega
      have w2 := u64_half (N := i + j) (by omega)
      generalize hc0 : (i + j) / 2 = c at w2
      have w3 : IntKind.i64.wrap ((c : Int) + 1) = ((c + 1 : Nat) : Int) := by rw [wr64 (by omega) (by omega)]; omega
      have l1 : (c : Int) < (n : Int) := by omega
      have l2 : (m : Int) < (n : Int) := by omega
      have p1 : (0 : Int) ≤ (c : Int) := by omega
      have p2 : (0 : Int) ≤ (m : Int) := by omega
      have g1 : ∀ f', (R n f')[c]? = _ := fun f' => R_get (n := n) (f := f') (show c < n by omega)
      have g2 : ∀ f', (R n f')[m]? = _ := fun f' => R_get (n := n) (f := f') (show m < n by omega)
      have hc := byKey_ok (f m) (f c)
      have hlt := cmpK_lt (f m) (f c)
      by_cases hl' : ltP (f m) (f c) = true
      · have hlt' : (cmpK (f m) (f c) < 0) = True := by rw [hlt]; exact eq_true hl'
        simp only [t0, t2, t4, t14, t15, h0, w1, w2, w3, l1, l2, p1, p2, g1, g2, hlt', un, shiftBin, call_pure pure28 rfl hc, Int.toNat_natCast, run_exit_start, exit_here, exit_code, exit_inLoop, run_inBlock, n47_0, n47_1, n47_2, n47_3, n47_4, n47_5, n47_6, n47_7, n47_8, n47_9, n47_10, n47_11, n47_12, n47_13, n47_14, n47_15, n47_16, n47_17, n47_18, n47_19, n47_20, n47_21, n47_22, n47_23, n47_24, n47_25, n47_26, n47_27, n47_28, n47_29, n47_30, n47_31, n47_32, n47_33, n47_34, n47_35, n47_36, n47_37, n47_38, n47_39, n47_40, n47_41, n47_42, n47_43, n47_44, n47_45, n47_46, n47_47, n47_48, n47_49, n47_50, n47_51, n47_52, n47_53, n47_54, n47_55, n47_56, n47_57, n47_58, n47_59, n47_60, n47_61, n47_62, n47_63, n47_64, n47_65, n47_66, n47_68, n47_69, n47_70, n47_71, n47_72, n47_73, n47_74, n47_75, n47_76, n47_77, n47_78, n47_79, n47_80, n47_81, n47_82, n47_83, n47_85, n47_86, n47_87, n47_88, n47_89, n47_90, n47_91, n47_92, n47_93, n47_94, n47_95, n47_96, n47_97, n47_98, n47_99, n47_100, n47_101, n47_102, n47_103, n47_104, n47_105, n47_106, n47_107, n47_108, n47_109, n47_110, n47_111, n47_112, n47_113, n47_114, n47_115, n47_116, n47_117, n47_118, n47_119, n47_120, n47_121, n47_122, n47_123, n47_124, n47_125, n47_126, n47_127, n47_128, n47_129, n47_130, n47_131, n47_132, n47_133, n47_134, n47_135, n47_136, n47_137, o47_2, o47_5, o47_7, o47_13, o47_19, o47_21, o47_23, o47_24, o47_27, o47_32, o47_38, o47_39, o47_44, o47_47, o47_49, o47_55, o47_61, o47_63, o47_65, o47_66, o47_69, o47_74, o47_80, o47_81, o47_85, o47_87, o47_89, o47_92, o47_95, o47_96, o47_98, o47_99, o47_101, o47_107, o47_113, o47_115, o47_117, o47_118, o47_120, o47_123, o47_125, o47_129, o47_131, o47_134, o47_136, res47, TT_3, TT_4, TT_5, TT_9, TT_22, TT_25, TT_26, TT_29, TT_33, TT_38, TT_40, TT_42, TT_47, TT_50, TT_57, TT_59, TT_66, TT_68, TT_69, TT_70, TT_72, TT_81, bb, primP, primM, ev, evs, parts_, ofConst, bin, un, intBin, putA, enterT, Nat.reduceEqDiff, Nat.reduceAdd, Nat.reduceMul, Nat.reduceLeDiff, Nat.reduceLT, ↓reduceIte, reduceCtorEq, RunRes, resultsA, oneOf, AV.plain, AV.cells, AHeap.push, AHeap.set, AHeap.empty, fieldOf, loadA, storeA, BX.part, TK.isAgg, convA, builtinA, inertB, builtinP, buildA, fillA, splice, eqv, cellsEq, sizeT, adT, ldT, fwT, Nat.reduceBeqDiff, Nat.reduceBneDiff, Int.reduceBNe, Int.reduceBEq, Int.reduceEq, Int.reduceLT, Int.reduceLE, Int.reduceAdd, Int.reduceSub, Int.reduceMul, Int.reduceNeg, strBin, indexAddrA, elems, lenOf, chunk, List.reduceReplicate, Int.reduceToNat]
        refine ih i c _ (by omega) hi (by omega) (by omega) ?_ ?_ ?_ ?_ ?_ hl ?_
        all_goals first | (simp only [upd_app, t0, t2, t4, t14, t15, Nat.reduceEqDiff, ↓reduceIte]; done) | skip
        intro q x y
        exact bl_lt_le hl' (hs.le (show a ≤ c by omega) x y)
      · have hlt' : (cmpK (f m) (f c) < 0) = False := by rw [hlt]; exact eq_false hl'
        simp only [t0, t2, t4, t14, t15, h0, w1, w2, w3, l1, l2, p1, p2, g1, g2, hlt', un, shiftBin, call_pure pure28 rfl hc, Int.toNat_natCast, run_exit_start, exit_here, exit_code, exit_inLoop, run_inBlock, n47_0, n47_1, n47_2, n47_3, n47_4, n47_5, n47_6, n47_7, n47_8, n47_9, n47_10, n47_11, n47_12, n47_13, n47_14, n47_15, n47_16, n47_17, n47_18, n47_19, n47_20, n47_21, n47_22, n47_23, n47_24, n47_25, n47_26, n47_27, n47_28, n47_29, n47_30, n47_31, n47_32, n47_33, n47_34, n47_35, n47_36, n47_37, n47_38, n47_39, n47_40, n47_41, n47_42, n47_43, n47_44, n47_45, n47_46, n47_47, n47_48, n47_49, n47_50, n47_51, n47_52, n47_53, n47_54, n47_55, n47_56, n47_57, n47_58, n47_59, n47_60, n47_61, n47_62, n47_63, n47_64, n47_65, n47_66, n47_68, n47_69, n47_70, n47_71, n47_72, n47_73, n47_74, n47_75, n47_76, n47_77, n47_78, n47_79, n47_80, n47_81, n47_82, n47_83, n47_85, n47_86, n47_87, n47_88, n47_89, n47_90, n47_91, n47_92, n47_93, n47_94, n47_95, n47_96, n47_97, n47_98, n47_99, n47_100, n47_101, n47_102, n47_103, n47_104, n47_105, n47_106, n47_107, n47_108, n47_109, n47_110, n47_111, n47_112, n47_113, n47_114, n47_115, n47_116, n47_117, n47_118, n47_119, n47_120, n47_121, n47_122, n47_123, n47_124, n47_125, n47_126, n47_127, n47_128, n47_129, n47_130, n47_131, n47_132, n47_133, n47_134, n47_135, n47_136, n47_137, o47_2, o47_5, o47_7, o47_13, o47_19, o47_21, o47_23, o47_24, o47_27, o47_32, o47_38, o47_39, o47_44, o47_47, o47_49, o47_55, o47_61, o47_63, o47_65, o47_66, o47_69, o47_74, o47_80, o47_81, o47_85, o47_87, o47_89, o47_92, o47_95, o47_96, o47_98, o47_99, o47_101, o47_107, o47_113, o47_115, o47_117, o47_118, o47_120, o47_123, o47_125, o47_129, o47_131, o47_134, o47_136, res47, TT_3, TT_4, TT_5, TT_9, TT_22, TT_25, TT_26, TT_29, TT_33, TT_38, TT_40, TT_42, TT_47, TT_50, TT_57, TT_59, TT_66, TT_68, TT_69, TT_70, TT_72, TT_81, bb, primP, primM, ev, evs, parts_, ofConst, bin, un, intBin, putA, enterT, Nat.reduceEqDiff, Nat.reduceAdd, Nat.reduceMul, Nat.reduceLeDiff, Nat.reduceLT, ↓reduceIte, reduceCtorEq, RunRes, resultsA, oneOf, AV.plain, AV.cells, AHeap.push, AHeap.set, AHeap.empty, fieldOf, loadA, storeA, BX.part, TK.isAgg, convA, builtinA, inertB, builtinP, buildA, fillA, splice, eqv, cellsEq, sizeT, adT, ldT, fwT, Nat.reduceBeqDiff, Nat.reduceBneDiff, Int.reduceBNe, Int.reduceBEq, Int.reduceEq, Int.reduceLT, Int.reduceLE, Int.reduceAdd, Int.reduceSub, Int.reduceMul, Int.reduceNeg, strBin, indexAddrA, elems, lenOf, chunk, List.reduceReplicate, Int.reduceToNat]
        refine ih (c + 1) j _ (by omega) (by omega) (by omega) hj ?_ ?_ ?_ ?_ ?_ ?_ hr
        all_goals first | (simp only [upd_app, t0, t2, t4, t14, t15, Nat.reduceEqDiff, ↓reduceIte]; done) | skip
        intro q x y
        exact bl_le (hs.le x (show q ≤ c by omega) (by omega)) (by simpa using hl')
theorem down_all {i : Nat} (hn : n ≤ 1000000) (him : i ≤ m) (hmn : m < n) (hQ : Q (.tuple []) ⟨h, SB A g n (rot f i m (m + 1))⟩) :
    ∀ (d k : Nat) (T : Nat → AV), k = i + d → k ≤ m → T 0 = .slc g 6 0 n → T 14 = .int .i64 (i : Int) → T 17 = .int .i64 (k : Int) →
      Run Cx 47 T [] none [.inLoop c47_72, .inBlock 6, .code c47_82, .code c47_84] ⟨h, SB A g n (rot f k m (m + 1))⟩ Q
  | 0, k, T, hd, hkm, t0, t14, t17 => by
    obtain rfl : k = i := by omega
    rw [run_inLoop]
    have h0 : ((k : Int) < (k : Int)) = False := eq_false (by omega)
    simp only [t0, t14, t17, h0, run_exit_start, exit_here, exit_code, exit_inLoop, run_inBlock, n47_0, n47_1, n47_2, n47_3, n47_4, n47_5, n47_6, n47_7, n47_8, n47_9, n47_10, n47_11, n47_12, n47_13, n47_14, n47_15, n47_16, n47_17, n47_18, n47_19, n47_20, n47_21, n47_22, n47_23, n47_24, n47_25, n47_26, n47_27, n47_28, n47_29, n47_30, n47_31, n47_32, n47_33, n47_34, n47_35, n47_36, n47_37, n47_38, n47_39, n47_40, n47_41, n47_42, n47_43, n47_44, n47_45, n47_46, n47_47, n47_48, n47_49, n47_50, n47_51, n47_52, n47_53, n47_54, n47_55, n47_56, n47_57, n47_58, n47_59, n47_60, n47_61, n47_62, n47_63, n47_64, n47_65, n47_66, n47_67, n47_68, n47_69, n47_70, n47_71, n47_72, n47_73, n47_74, n47_75, n47_76, n47_77, n47_78, n47_79, n47_80, n47_81, n47_82, n47_83, n47_84, n47_85, n47_86, n47_87, n47_88, n47_89, n47_90, n47_91, n47_92, n47_93, n47_94, n47_95, n47_96, n47_97, n47_98, n47_99, n47_100, n47_101, n47_102, n47_103, n47_104, n47_105, n47_106, n47_107, n47_108, n47_109, n47_110, n47_111, n47_112, n47_113, n47_114, n47_115, n47_116, n47_117, n47_118, n47_119, n47_120, n47_121, n47_122, n47_123, n47_124, n47_125, n47_126, n47_127, n47_128, n47_129, n47_130, n47_131, n47_132, n47_133, n47_134, n47_135, n47_136, n47_137, o47_2, o47_5, o47_7, o47_13, o47_19, o47_21, o47_23, o47_24, o47_27, o47_32, o47_38, o47_39, o47_44, o47_47, o47_49, o47_55, o47_61, o47_63, o47_65, o47_66, o47_69, o47_74, o47_80, o47_81, o47_85, o47_87, o47_89, o47_92, o47_95, o47_96, o47_98, o47_99, o47_101, o47_107, o47_113, o47_115, o47_117, o47_118, o47_120, o47_123, o47_125, o47_129, o47_131, o47_134, o47_136, res47, TT_3, TT_4, TT_5, TT_9, TT_22, TT_25, TT_26, TT_29, TT_33, TT_38, TT_40, TT_42, TT_47, TT_50, TT_57, TT_59, TT_66, TT_68, TT_69, TT_70, TT_72, TT_81, bb, primP, primM, ev, evs, parts_, ofConst, bin, un, intBin, putA, enterT, Nat.reduceEqDiff, Nat.reduceAdd, Nat.reduceMul, Nat.reduceLeDiff, Nat.reduceLT, ↓reduceIte, reduceCtorEq, RunRes, resultsA, oneOf, AV.plain, AV.cells, AHeap.push, AHeap.set, AHeap.empty, fieldOf, loadA, storeA, BX.part, TK.isAgg, convA, builtinA, inertB, builtinP, buildA, fillA, splice, eqv, cellsEq, sizeT, adT, ldT, fwT, Nat.reduceBeqDiff, Nat.reduceBneDiff, Int.reduceBNe, Int.reduceBEq, Int.reduceEq, Int.reduceLT, Int.reduceLE, Int.reduceAdd, Int.reduceSub, Int.reduceMul, Int.reduceNeg, strBin, indexAddrA, elems, lenOf, chunk, List.reduceReplicate, Int.reduceToNat]
    exact hQ
  | d + 1, k, T, hd, hkm, t0, t14, t17 => by
    obtain ⟨k, rfl⟩ : ∃ k', k = k' + 1 := ⟨k - 1, by omega⟩
    rw [run_inLoop]
    have w1 : IntKind.i64.wrap (((k + 1 : Nat) : Int) - 1) = (k : Int) := by rw [wr64 (by omega) (by omega)]; omega
    have h0 : ((i : Int) < ((k + 1 : Nat) : Int)) = True := eq_true (by omega)
    have l1 : (k : Int) < (n : Int) := by omega
    have l2 : ((k + 1 : Nat) : Int) < (n : Int) := by omega
    have p1 : (0 : Int) ≤ (k : Int) := by omega
    have p2 : (0 : Int) ≤ ((k + 1 : Nat) : Int) := by omega
    have g1 : ∀ f', (R n f')[k]? = _ := fun f' => R_get (n := n) (f := f') (show k < n by omega)
    have g2 : ∀ f', (R n f')[k + 1]? = _ := fun f' => R_get (n := n) (f := f') (show k + 1 < n by omega)
    simp only [t0, t14, t17, w1, h0, l1, l2, p1, p2, g1, g2, Int.toNat_natCast, R_set, upd2, sw_eq, run_exit_start, exit_here, exit_code, exit_inLoop, run_inBlock, n47_0, n47_1, n47_2, n47_3, n47_4, n47_5, n47_6, n47_7, n47_8, n47_9, n47_10, n47_11, n47_12, n47_13, n47_14, n47_15, n47_16, n47_17, n47_18, n47_19, n47_20, n47_21, n47_22, n47_23, n47_24, n47_25, n47_26, n47_27, n47_28, n47_29, n47_30, n47_31, n47_32, n47_33, n47_34, n47_35, n47_36, n47_37, n47_38, n47_39, n47_40, n47_41, n47_42, n47_43, n47_44, n47_45, n47_46, n47_47, n47_48, n47_49, n47_50, n47_51, n47_52, n47_53, n47_54, n47_55, n47_56, n47_57, n47_58, n47_59, n47_60, n47_61, n47_62, n47_63, n47_64, n47_65, n47_66, n47_67, n47_68, n47_69, n47_70, n47_71, n47_72, n47_73, n47_74, n47_75, n47_76, n47_77, n47_78, n47_79, n47_80, n47_81, n47_83, n47_85, n47_86, n47_87, n47_88, n47_89, n47_90, n47_91, n47_92, n47_93, n47_94, n47_95, n47_96, n47_97, n47_98, n47_99, n47_100, n47_101, n47_102, n47_103, n47_104, n47_105, n47_106, n47_107, n47_108, n47_109, n47_110, n47_111, n47_112, n47_113, n47_114, n47_115, n47_116, n47_117, n47_118, n47_119, n47_120, n47_121, n47_122, n47_123, n47_124, n47_125, n47_126, n47_127, n47_128, n47_129, n47_130, n47_131, n47_132, n47_133, n47_134, n47_135, n47_136, n47_137, o47_2, o47_5, o47_7, o47_13, o47_19, o47_21, o47_23, o47_24, o47_27, o47_32, o47_38, o47_39, o47_44, o47_47, o47_49, o47_55, o47_61, o47_63, o47_65, o47_66, o47_69, o47_74, o47_80, o47_81, o47_85, o47_87, o47_89, o47_92, o47_95, o47_96, o47_98, o47_99, o47_101, o47_107, o47_113, o47_115, o47_117, o47_118, o47_120, o47_123, o47_125, o47_129, o47_131, o47_134, o47_136, res47, TT_3, TT_4, TT_5, TT_9, TT_22, TT_25, TT_26, TT_29, TT_33, TT_38, TT_40, TT_42, TT_47, TT_50, TT_57, TT_59, TT_66, TT_68, TT_69, TT_70, TT_72, TT_81, bb, primP, primM, ev, evs, parts_, ofConst, bin, un, intBin, putA, enterT, Nat.reduceEqDiff, Nat.reduceAdd, Nat.reduceMul, Nat.reduceLeDiff, Nat.reduceLT, ↓reduceIte, reduceCtorEq, RunRes, resultsA, oneOf, AV.plain, AV.cells, AHeap.push, AHeap.set, AHeap.empty, fieldOf, loadA, storeA, BX.part, TK.isAgg, convA, builtinA, inertB, builtinP, buildA, fillA, splice, eqv, cellsEq, sizeT, adT, ldT, fwT, Nat.reduceBeqDiff, Nat.reduceBneDiff, Int.reduceBNe, Int.reduceBEq, Int.reduceEq, Int.reduceLT, Int.reduceLE, Int.reduceAdd, Int.reduceSub, Int.reduceMul, Int.reduceNeg, strBin, indexAddrA, elems, lenOf, chunk, List.reduceReplicate, Int.reduceToNat]
    rw [rot_down f (by omega)]
    refine down_all hn him hmn hQ d k _ (by omega) (by omega) ?_ ?_ ?_
    all_goals simp only [upd_app, t0, t14, Nat.reduceEqDiff, ↓reduceIte]
theorem bs3_all {p lo r0 : Nat} {mv nv : AV} (hn : n ≤ 1000000) (hbn : b ≤ n) (hmb : m ≤ b) (hp : p ≤ 2000000) (h1 : Srt f a m) (h2 : Srt f m b) (hrng : ∀ c, lo ≤ c → c < r0 → a ≤ c ∧ c < m ∧ m + c ≤ p ∧ p < b + c) (hlr : r0 ≤ n)
    (hK : ∀ (T : Nat → AV) (s : Nat), T 0 = .slc g 6 0 n → T 1 = .int .i64 (a : Int) → T 2 = .int .i64 (m : Int) → T 3 = .int .i64 (b : Int) → T 4 = .fn 28 [] [] → T 18 = mv → T 19 = nv → T 20 = .int .i64 (s : Int) → lo ≤ s → s ≤ r0 → (∀ c, lo ≤ c → c < s → ltP (f (p - c)) (f c) = false) → (∀ c, s ≤ c → c < r0 → ltP (f (p - c)) (f c) = true) →
      Run Cx 47 T [] none [.code c47_119] ⟨h, SB A g n f⟩ Q) :
    ∀ (d s r : Nat) (T : Nat → AV), r ≤ s + d → lo ≤ s → s ≤ r → r ≤ r0 → T 0 = .slc g 6 0 n → T 1 = .int .i64 (a : Int) → T 2 = .int .i64 (m : Int) → T 3 = .int .i64 (b : Int) → T 4 = .fn 28 [] [] → T 18 = mv → T 19 = nv → T 20 = .int .i64 (s : Int) → T 21 = .int .i64 (r : Int) → T 22 = .int .i64 (p : Int) → (∀ c, lo ≤ c → c < s → ltP (f (p - c)) (f c) = false) → (∀ c, r ≤ c → c < r0 → ltP (f (p - c)) (f c) = true) →
      Run Cx 47 T [] none [.inLoop c47_105, .inBlock 8, .code c47_119] ⟨h, SB A g n f⟩ Q := by
  intro d
  induction d with
  | zero =>
    intro s r T hd hi hij hj t0 t1 t2 t3 t4 t18 t19 t20 t21 t22 hl hr
    obtain rfl : s = r := by omega
    rw [run_inLoop]
    have h0 : ((s : Int) < (s : Int)) = False := eq_false (by omega)
    simp only [t0, t20, t21, h0, run_exit_start, exit_here, exit_code, exit_inLoop, run_inBlock, n47_0, n47_1, n47_2, n47_3, n47_4, n47_5, n47_6, n47_7, n47_8, n47_9, n47_10, n47_11, n47_12, n47_13, n47_14, n47_15, n47_16, n47_17, n47_18, n47_19, n47_20, n47_21, n47_22, n47_23, n47_24, n47_25, n47_26, n47_27, n47_28, n47_29, n47_30, n47_31, n47_32, n47_33, n47_34, n47_35, n47_36, n47_37, n47_38, n47_39, n47_40, n47_41, n47_42, n47_43, n47_44, n47_45, n47_46, n47_47, n47_48, n47_49, n47_50, n47_51, n47_52, n47_53, n47_54, n47_55, n47_56, n47_57, n47_58, n47_59, n47_60, n47_61, n47_62, n47_63, n47_64, n47_65, n47_66, n47_67, n47_68, n47_69, n47_70, n47_71, n47_72, n47_73, n47_74, n47_75, n47_76, n47_77, n47_78, n47_79, n47_80, n47_81, n47_82, n47_83, n47_84, n47_85, n47_86, n47_87, n47_88, n47_89, n47_90, n47_91, n47_92, n47_93, n47_94, n47_95, n47_96, n47_97, n47_98, n47_99, n47_100, n47_101, n47_102, n47_103, n47_104, n47_105, n47_106, n47_107, n47_108, n47_109, n47_110, n47_111, n47_112, n47_113, n47_114, n47_115, n47_116, n47_117, n47_118, n47_120, n47_121, n47_122, n47_123, n47_124, n47_125, n47_126, n47_127, n47_128, n47_129, n47_130, n47_131, n47_132, n47_133, n47_134, n47_135, n47_136, n47_137, o47_2, o47_5, o47_7, o47_13, o47_19, o47_21, o47_23, o47_24, o47_27, o47_32, o47_38, o47_39, o47_44, o47_47, o47_49, o47_55, o47_61, o47_63, o47_65, o47_66, o47_69, o47_74, o47_80, o47_81, o47_85, o47_87, o47_89, o47_92, o47_95, o47_96, o47_98, o47_99, o47_101, o47_107, o47_113, o47_115, o47_117, o47_118, o47_120, o47_123, o47_125, o47_129, o47_131, o47_134, o47_136, res47, TT_3, TT_4, TT_5, TT_9, TT_22, TT_25, TT_26, TT_29, TT_33, TT_38, TT_40, TT_42, TT_47, TT_50, TT_57, TT_59, TT_66, TT_68, TT_69, TT_70, TT_72, TT_81, bb, primP, primM, ev, evs, parts_, ofConst, bin, un, intBin, putA, enterT, Nat.reduceEqDiff, Nat.reduceAdd, Nat.reduceMul, Nat.reduceLeDiff, Nat.reduceLT, ↓reduceIte, reduceCtorEq, RunRes, resultsA, oneOf, AV.plain, AV.cells, AHeap.push, AHeap.set, AHeap.empty, fieldOf, loadA, storeA, BX.part, TK.isAgg, convA, builtinA, inertB, builtinP, buildA, fillA, splice, eqv, cellsEq, sizeT, adT, ldT, fwT, Nat.reduceBeqDiff, Nat.reduceBneDiff, Int.reduceBNe, Int.reduceBEq, Int.reduceEq, Int.reduceLT, Int.reduceLE, Int.reduceAdd, Int.reduceSub, Int.reduceMul, Int.reduceNeg, strBin, indexAddrA, elems, lenOf, chunk, List.reduceReplicate, Int.reduceToNat]
    refine hK _ s ?_ ?_ ?_ ?_ ?_ ?_ ?_ ?_ hi hj hl hr
    all_goals simp only [upd_app, t0, t1, t2, t3, t4, t18, t19, t20, Nat.reduceEqDiff, ↓reduceIte]
  | succ d ih =>
    intro s r T hd hi hij hj t0 t1 t2 t3 t4 t18 t19 t20 t21 t22 hl hr
    rw [run_inLoop]
    by_cases e : s = r
    · subst e
      have h0 : ((s : Int) < (s : Int)) = False := eq_false (by omega)
      simp only [t0, t20, t21, h0, run_exit_start, exit_here, exit_code, exit_inLoop, run_inBlock, n47_0, n47_1, n47_2, n47_3, n47_4, n47_5, n47_6, n47_7, n47_8, n47_9, n47_10, n47_11, n47_12, n47_13, n47_14, n47_15, n47_16, n47_17, n47_18, n47_19, n47_20, n47_21, n47_22, n47_23, n47_24, n47_25, n47_26, n47_27, n47_28, n47_29, n47_30, n47_31, n47_32, n47_33, n47_34, n47_35, n47_36, n47_37, n47_38, n47_39, n47_40, n47_41, n47_42, n47_43, n47_44, n47_45, n47_46, n47_47, n47_48, n47_49, n47_50, n47_51, n47_52, n47_53, n47_54, n47_55, n47_56, n47_57, n47_58, n47_59, n47_60, n47_61, n47_62, n47_63, n47_64, n47_65, n47_66, n47_67, n47_68, n47_69, n47_70, n47_71, n47_72, n47_73, n47_74, n47_75, n47_76, n47_77, n47_78, n47_79, n47_80, n47_81, n47_82, n47_83, n47_84, n47_85, n47_86, n47_87, n47_88, n47_89, n47_90, n47_91, n47_92, n47_93, n47_94, n47_95, n47_96, n47_97, n47_98, n47_99, n47_100, n47_101, n47_102, n47_103, n47_104, n47_105, n47_106, n47_107, n47_108, n47_109, n47_110, n47_111, n47_112, n47_113, n47_114, n47_115, n47_116, n47_117, n47_118, n47_120, n47_121, n47_122, n47_123, n47_124, n47_125, n47_126, n47_127, n47_128, n47_129, n47_130, n47_131, n47_132, n47_133, n47_134, n47_135, n47_136, n47_137, o47_2, o47_5, o47_7, o47_13, o47_19, o47_21, o47_23, o47_24, o47_27, o47_32, o47_38, o47_39, o47_44, o47_47, o47_49, o47_55, o47_61, o47_63, o47_65, o47_66, o47_69, o47_74, o47_80, o47_81, o47_85, o47_87, o47_89, o47_92, o47_95, o47_96, o47_98, o47_99, o47_101, o47_107, o47_113, o47_115, o47_117, o47_118, o47_120, o47_123, o47_125, o47_129, o47_131, o47_134, o47_136, res47, TT_3, TT_4, TT_5, TT_9, TT_22, TT_25, TT_26, TT_29, TT_33, TT_38, TT_40, TT_42, TT_47, TT_50, TT_57, TT_59, TT_66, TT_68, TT_69, TT_70, TT_72, TT_81, bb, primP, primM, ev, evs, parts_, ofConst, bin, un, intBin, putA, enterT, Nat.reduceEqDiff, Nat.reduceAdd, Nat.reduceMul, Nat.reduceLeDiff, Nat.reduceLT, ↓reduceIte, reduceCtorEq, RunRes, resultsA, oneOf, AV.plain, AV.cells, AHeap.push, AHeap.set, AHeap.empty, fieldOf, loadA, storeA, BX.part, TK.isAgg, convA, builtinA, inertB, builtinP, buildA, fillA, splice, eqv, cellsEq, sizeT, adT, ldT, fwT, Nat.reduceBeqDiff, Nat.reduceBneDiff, Int.reduceBNe, Int.reduceBEq, Int.reduceEq, Int.reduceLT, Int.reduceLE, Int.reduceAdd, Int.reduceSub, Int.reduceMul, Int.reduceNeg, strBin, indexAddrA, elems, lenOf, chunk, List.reduceReplicate, Int.reduceToNat]
      refine hK _ s ?_ ?_ ?_ ?_ ?_ ?_ ?_ ?_ hi hj hl hr
      all_goals simp only [upd_app, t0, t1, t2, t3, t4, t18, t19, t20, Nat.reduceEqDiff, ↓reduceIte]
    · have h0 : ((s : Int) < (r : Int)) = True := eq_true (by omega)
      have w1 : IntKind.i64.wrap ((s : Int) + (r : Int)) = ((s + r : Nat) : Int) := by rw [wr64 (by omega) (by omega)]; omega
      have w2 := u64_half (N := s + r) (by omega)
      generalize hc0 : (s + r) / 2 = c at w2
      obtain ⟨r1, r2, r3, r4⟩ := hrng c (by omega) (by omega)
      have w3 : IntKind.i64.wrap ((c : Int) + 1) = ((c + 1 : Nat) : Int) := by rw [wr64 (by omega) (by omega)]; omega
      have w4 : IntKind.i64.wrap ((p : Int) - (c : Int)) = ((p - c : Nat) : Int) := by rw [wr64 (by omega) (by omega)]; omega
      have l1 : (c : Int) < (n : Int) := by omega
      have l2 : ((p - c : Nat) : Int) < (n : Int) := by omega
      have p1 : (0 : Int) ≤ (c : Int) := by omega
      have p2 : (0 : Int) ≤ ((p - c : Nat) : Int) := by omega
      have g1 : ∀ f', (R n f')[c]? = _ := fun f' => R_get (n := n) (f := f') (show c < n by omega)
      have g2 : ∀ f', (R n f')[p - c]? = _ := fun f' => R_get (n := n) (f := f') (show p - c < n by omega)
      have hc := byKey_ok (f (p - c)) (f c)
      have hlt := cmpK_lt (f (p - c)) (f c)
      by_cases hl' : ltP (f (p - c)) (f c) = true
      · have hlt' : (cmpK (f (p - c)) (f c) < 0) = True := by rw [hlt]; exact eq_true hl'
        simp only [t0, t4, t20, t21, t22, h0, w1, w2, w3, w4, l1, l2, p1, p2, g1, g2, hlt', un, shiftBin, call_pure pure28 rfl hc, Int.toNat_natCast, run_exit_start, exit_here, exit_code, exit_inLoop, run_inBlock, n47_0, n47_1, n47_2, n47_3, n47_4, n47_5, n47_6, n47_7, n47_8, n47_9, n47_10, n47_11, n47_12, n47_13, n47_14, n47_15, n47_16, n47_17, n47_18, n47_19, n47_20, n47_21, n47_22, n47_23, n47_24, n47_25, n47_26, n47_27, n47_28, n47_29, n47_30, n47_31, n47_32, n47_33, n47_34, n47_35, n47_36, n47_37, n47_38, n47_39, n47_40, n47_41, n47_42, n47_43, n47_44, n47_45, n47_46, n47_47, n47_48, n47_49, n47_50, n47_51, n47_52, n47_53, n47_54, n47_55, n47_56, n47_57, n47_58, n47_59, n47_60, n47_61, n47_62, n47_63, n47_64, n47_65, n47_66, n47_67, n47_68, n47_69, n47_70, n47_71, n47_72, n47_73, n47_74, n47_75, n47_76, n47_77, n47_78, n47_79, n47_80, n47_81, n47_82, n47_83, n47_84, n47_85, n47_86, n47_87, n47_88, n47_89, n47_90, n47_91, n47_92, n47_93, n47_94, n47_95, n47_96, n47_97, n47_98, n47_99, n47_100, n47_101, n47_102, n47_103, n47_104, n47_105, n47_106, n47_107, n47_108, n47_109, n47_110, n47_111, n47_112, n47_113, n47_114, n47_115, n47_116, n47_117, n47_118, n47_120, n47_121, n47_122, n47_123, n47_124, n47_125, n47_126, n47_127, n47_128, n47_129, n47_130, n47_131, n47_132, n47_133, n47_134, n47_135, n47_136, n47_137, o47_2, o47_5, o47_7, o47_13, o47_19, o47_21, o47_23, o47_24, o47_27, o47_32, o47_38, o47_39, o47_44, o47_47, o47_49, o47_55, o47_61, o47_63, o47_65, o47_66, o47_69, o47_74, o47_80, o47_81, o47_85, o47_87, o47_89, o47_92, o47_95, o47_96, o47_98, o47_99, o47_101, o47_107, o47_113, o47_115, o47_117, o47_118, o47_120, o47_123, o47_125, o47_129, o47_131, o47_134, o47_136, res47, TT_3, TT_4, TT_5, TT_9, TT_22, TT_25, TT_26, TT_29, TT_33, TT_38, TT_40, TT_42, TT_47, TT_50, TT_57, TT_59, TT_66, TT_68, TT_69, TT_70, TT_72, TT_81, bb, primP, primM, ev, evs, parts_, ofConst, bin, un, intBin, putA, enterT, Nat.reduceEqDiff, Nat.reduceAdd, Nat.reduceMul, Nat.reduceLeDiff, Nat.reduceLT, ↓reduceIte, reduceCtorEq, RunRes, resultsA, oneOf, AV.plain, AV.cells, AHeap.push, AHeap.set, AHeap.empty, fieldOf, loadA, storeA, BX.part, TK.isAgg, convA, builtinA, inertB, builtinP, buildA, fillA, splice, eqv, cellsEq, sizeT, adT, ldT, fwT, Nat.reduceBeqDiff, Nat.reduceBneDiff, Int.reduceBNe, Int.reduceBEq, Int.reduceEq, Int.reduceLT, Int.reduceLE, Int.reduceAdd, Int.reduceSub, Int.reduceMul, Int.reduceNeg, strBin, indexAddrA, elems, lenOf, chunk, List.reduceReplicate, Int.reduceToNat]
        refine ih s c _ (by omega) hi (by omega) (by omega) ?_ ?_ ?_ ?_ ?_ ?_ ?_ ?_ ?_ ?_ hl ?_
        all_goals first | (simp only [upd_app, t0, t1, t2, t3, t4, t18, t19, t20, t21, t22, Nat.reduceEqDiff, ↓reduceIte]; done) | skip
        intro q x y
        obtain ⟨q1, q2, q3, q4⟩ := hrng q (by omega) y
        exact bl_lt_le (bl_le_lt (h2.le (show m ≤ p - q by omega) (show p - q ≤ p - c by omega) (by omega)) hl') (h1.le r1 x q2)
      · have hlt' : (cmpK (f (p - c)) (f c) < 0) = False := by rw [hlt]; exact eq_false hl'
        simp only [t0, t4, t20, t21, t22, h0, w1, w2, w3, w4, l1, l2, p1, p2, g1, g2, hlt', un, shiftBin, call_pure pure28 rfl hc, Int.toNat_natCast, run_exit_start, exit_here, exit_code, exit_inLoop, run_inBlock, n47_0, n47_1, n47_2, n47_3, n47_4, n47_5, n47_6, n47_7, n47_8, n47_9, n47_10, n47_11, n47_12, n47_13, n47_14, n47_15, n47_16, n47_17, n47_18, n47_19, n47_20, n47_21, n47_22, n47_23, n47_24, n47_25, n47_26, n47_27, n47_28, n47_29, n47_30, n47_31, n47_32, n47_33, n47_34, n47_35, n47_36, n47_37, n47_38, n47_39, n47_40, n47_41, n47_42, n47_43, n47_44, n47_45, n47_46, n47_47, n47_48, n47_49, n47_50, n47_51, n47_52, n47_53, n47_54, n47_55, n47_56, n47_57, n47_58, n47_59, n47_60, n47_61, n47_62, n47_63, n47_64, n47_65, n47_66, n47_67, n47_68, n47_69, n47_70, n47_71, n47_72, n47_73, n47_74, n47_75, n47_76, n47_77, n47_78, n47_79, n47_80, n47_81, n47_82, n47_83, n47_84, n47_85, n47_86, n47_87, n47_88, n47_89, n47_90, n47_91, n47_92, n47_93, n47_94, n47_95, n47_96, n47_97, n47_98, n47_99, n47_100, n47_101, n47_102, n47_103, n47_104, n47_105, n47_106, n47_107, n47_108, n47_109, n47_110, n47_111, n47_112, n47_113, n47_114, n47_115, n47_116, n47_117, n47_118, n47_120, n47_121, n47_122, n47_123, n47_124, n47_125, n47_126, n47_127, n47_128, n47_129, n47_130, n47_131, n47_132, n47_133, n47_134, n47_135, n47_136, n47_137, o47_2, o47_5, o47_7, o47_13, o47_19, o47_21, o47_23, o47_24, o47_27, o47_32, o47_38, o47_39, o47_44, o47_47, o47_49, o47_55, o47_61, o47_63, o47_65, o47_66, o47_69, o47_74, o47_80, o47_81, o47_85, o47_87, o47_89, o47_92, o47_95, o47_96, o47_98, o47_99, o47_101, o47_107, o47_113, o47_115, o47_117, o47_118, o47_120, o47_123, o47_125, o47_129, o47_131, o47_134, o47_136, res47, TT_3, TT_4, TT_5, TT_9, TT_22, TT_25, TT_26, TT_29, TT_33, TT_38, TT_40, TT_42, TT_47, TT_50, TT_57, TT_59, TT_66, TT_68, TT_69, TT_70, TT_72, TT_81, bb, primP, primM, ev, evs, parts_, ofConst, bin, un, intBin, putA, enterT, Nat.reduceEqDiff, Nat.reduceAdd, Nat.reduceMul, Nat.reduceLeDiff, Nat.reduceLT, ↓reduceIte, reduceCtorEq, RunRes, resultsA, oneOf, AV.plain, AV.cells, AHeap.push, AHeap.set, AHeap.empty, fieldOf, loadA, storeA, BX.part, TK.isAgg, convA, builtinA, inertB, builtinP, buildA, fillA, splice, eqv, cellsEq, sizeT, adT, ldT, fwT, Nat.reduceBeqDiff, Nat.reduceBneDiff, Int.reduceBNe, Int.reduceBEq, Int.reduceEq, Int.reduceLT, Int.reduceLE, Int.reduceAdd, Int.reduceSub, Int.reduceMul, Int.reduceNeg, strBin, indexAddrA, elems, lenOf, chunk, List.reduceReplicate, Int.reduceToNat]
        refine ih (c + 1) r _ (by omega) (by omega) (by omega) hj ?_ ?_ ?_ ?_ ?_ ?_ ?_ ?_ ?_ ?_ ?_ hr
        all_goals first | (simp only [upd_app, t0, t1, t2, t3, t4, t18, t19, t20, t21, t22, Nat.reduceEqDiff, ↓reduceIte]; done) | skip
        intro q x y
        obtain ⟨q1, q2, q3, q4⟩ := hrng q x (by omega)
        exact bl_le (bl_le (h1.le q1 (show q ≤ c by omega) r2) (by simpa using hl')) (h2.le (show m ≤ p - c by omega) (show p - c ≤ p - q by omega) (by omega))
end
end Go.Proofs.Ytbfjkomlnpolmaa.G

namespace Go.Proofs.Ytbfjkomlnpolmaa.G
open Go.BX
set_option linter.unusedSimpArgs false
set_option linter.unusedVariables false
theorem cut_of {f : Nat → Pr} {a m b mid lo r0 s : Nat} (ham : a < m) (hmb : m < b) (hmid : mid = (a + b) / 2) (hlo : (mid < m ∧ lo = mid + m - b ∧ r0 = mid) ∨ (m ≤ mid ∧ lo = a ∧ r0 = m)) (h1 : Srt f a m) (h2 : Srt f m b) (hs1 : lo ≤ s) (hs2 : s ≤ r0)
    (hl : ∀ c, lo ≤ c → c < s → ltP (f (mid + m - 1 - c)) (f c) = false) (hr : ∀ c, s ≤ c → c < r0 → ltP (f (mid + m - 1 - c)) (f c) = true) : Cut f a m b mid s where
  am := ham
  mb := hmb
  lo := by omega
  hi := by omega
  mi := by omega
  me := by omega
  ms := by omega
  gt := by
    intro p q x y z w
    have hsr : s < r0 := by omega
    have k1 := hr s (Nat.le_refl _) hsr
    exact bl_lt_le (bl_le_lt (h2.le z (show q ≤ mid + m - 1 - s by omega) (by omega)) k1) (h1.le (show a ≤ s by omega) x y)
  le := by
    intro p q x y z w
    have hsr : lo < s := by omega
    have k1 := hl (s - 1) (by omega) (by omega)
    rw [show mid + m - 1 - (s - 1) = mid + m - s by omega] at k1
    exact bl_le (bl_le (h1.le x (show p ≤ s - 1 by omega) (by omega)) k1) (h2.le (show m ≤ mid + m - s by omega) z w)
theorem symMerge_call {n h : Nat} {A : Nat → Blk} {g : Nat} (hn : n ≤ 1000000) : ∀ (N a m b : Nat) (f : Nat → Pr) (fn : FuncId) (T : Nat → AV) (ds : List ADef) (ro : Option Nat) (k : List AItem) (Q : AV → AHeap → Prop) (dst : Option Nat) (os : List AO),
    b - a ≤ N → a < m → m < b → b ≤ n → Srt f a m → Srt f m b → (∀ f', Mv a b f f' → Srt f' a b → RunOps Cx fn (putA T dst (.tuple [])) ds ro os k ⟨h, SB A g n f'⟩ Q) →
    RunCall Cx fn T ds ro 47 [.slc g 6 0 n, .int .i64 (a : Int), .int .i64 (m : Int), .int .i64 (b : Int), .fn 28 [] []] dst os k ⟨h, SB A g n f⟩ Q := by
  intro N
  induction N with
  | zero => intro a m b f fn T ds ro k Q dst os hN ham hmb; omega
  | succ N ih =>
    intro a m b f fn T ds ro k Q dst os hN ham hmb hbn h1 h2 hk
    refine call_body pure47 (noext _) body47 ?_
    have hQ : ∀ f', Mv a b f f' → Srt f' a b → (fun r H1 => RunOps Cx fn (putA T dst r) ds ro os k H1 Q) (.tuple []) ⟨h, SB A g n f'⟩ := hk
    generalize (fun r H1 => RunOps Cx fn (putA T dst r) ds ro os k H1 Q) = Q' at hQ ⊢
    clear hk
    have w1 : IntKind.i64.wrap ((m : Int) - (a : Int)) = ((m - a : Nat) : Int) := by rw [wr64 (by omega) (by omega)]; omega
    have w2 : IntKind.i64.wrap ((b : Int) - (m : Int)) = ((b - m : Nat) : Int) := by rw [wr64 (by omega) (by omega)]; omega
    by_cases c1 : m - a = 1
    · obtain rfl : m = a + 1 := by omega
      have e1 : (((a + 1 - a : Nat) : Int) == 1) = true := by rw [c1]; rfl
      simp only [w1, e1, n47_0, n47_1, n47_2, n47_3, n47_4, n47_5, n47_6, n47_7, n47_8, n47_9, n47_10, n47_12, n47_13, n47_14, n47_15, n47_16, n47_17, n47_18, n47_19, n47_20, n47_21, n47_22, n47_23, n47_24, n47_26, n47_27, n47_28, n47_29, n47_30, n47_31, n47_32, n47_33, n47_34, n47_35, n47_36, n47_37, n47_38, n47_39, n47_40, n47_41, n47_43, n47_44, n47_45, n47_46, n47_47, n47_48, n47_49, n47_50, n47_51, n47_52, n47_53, n47_54, n47_55, n47_56, n47_57, n47_58, n47_59, n47_60, n47_61, n47_62, n47_63, n47_64, n47_65, n47_66, n47_67, n47_68, n47_69, n47_70, n47_71, n47_72, n47_73, n47_74, n47_75, n47_76, n47_77, n47_78, n47_79, n47_80, n47_81, n47_82, n47_83, n47_84, n47_85, n47_86, n47_87, n47_88, n47_89, n47_90, n47_91, n47_92, n47_93, n47_94, n47_95, n47_96, n47_97, n47_98, n47_99, n47_100, n47_101, n47_102, n47_103, n47_104, n47_105, n47_106, n47_107, n47_108, n47_109, n47_110, n47_111, n47_112, n47_113, n47_114, n47_115, n47_116, n47_117, n47_118, n47_119, n47_120, n47_121, n47_122, n47_123, n47_124, n47_125, n47_126, n47_127, n47_128, n47_129, n47_130, n47_131, n47_132, n47_133, n47_134, n47_135, n47_136, n47_137, o47_2, o47_5, o47_7, o47_13, o47_19, o47_21, o47_23, o47_24, o47_27, o47_32, o47_38, o47_39, o47_44, o47_47, o47_49, o47_55, o47_61, o47_63, o47_65, o47_66, o47_69, o47_74, o47_80, o47_81, o47_85, o47_87, o47_89, o47_92, o47_95, o47_96, o47_98, o47_99, o47_101, o47_107, o47_113, o47_115, o47_117, o47_118, o47_120, o47_123, o47_125, o47_129, o47_131, o47_134, o47_136, res47, TT_3, TT_4, TT_5, TT_9, TT_22, TT_25, TT_26, TT_29, TT_33, TT_38, TT_40, TT_42, TT_47, TT_50, TT_57, TT_59, TT_66, TT_68, TT_69, TT_70, TT_72, TT_81, bb, primP, primM, ev, evs, parts_, ofConst, bin, un, intBin, putA, enterT, Nat.reduceEqDiff, Nat.reduceAdd, Nat.reduceMul, Nat.reduceLeDiff, Nat.reduceLT, ↓reduceIte, reduceCtorEq, RunRes, resultsA, oneOf, AV.plain, AV.cells, AHeap.push, AHeap.set, AHeap.empty, fieldOf, loadA, storeA, BX.part, TK.isAgg, convA, builtinA, inertB, builtinP, buildA, fillA, splice, eqv, cellsEq, sizeT, adT, ldT, fwT, Nat.reduceBeqDiff, Nat.reduceBneDiff, Int.reduceBNe, Int.reduceBEq, Int.reduceEq, Int.reduceLT, Int.reduceLE, Int.reduceAdd, Int.reduceSub, Int.reduceMul, Int.reduceNeg, strBin, indexAddrA, elems, lenOf, chunk, List.reduceReplicate, Int.reduceToNat]
      refine bs1_all (a := a) (m := a + 1) (b := b) hn (by omega) hbn h2 ?_ b (a + 1) b _ (by omega) (by omega) (by omega) (by omega) ?_ ?_ ?_ ?_ ?_ (fun q x y => absurd y (by omega)) (fun q x y => absurd y (by omega))
      · intro T' i t0 t1 t10 hi1 hi2 hl hr
        obtain ⟨hm, hs⟩ := mrg_one hi1 hi2 h2 hl hr
        have hu := up_all (a := a) (f := f) (i := i) (A := A) (h := h) (g := g) hn (by omega) (by omega) (hQ _ hm hs) (i - (a + 1)) a
        rw [rot_nil'] at hu
        simp only [t0, t1, t10, n47_0, n47_1, n47_2, n47_3, n47_4, n47_5, n47_6, n47_7, n47_8, n47_9, n47_10, n47_11, n47_12, n47_13, n47_14, n47_15, n47_16, n47_17, n47_18, n47_19, n47_20, n47_21, n47_22, n47_23, n47_24, n47_25, n47_26, n47_27, n47_28, n47_29, n47_31, n47_32, n47_33, n47_34, n47_35, n47_36, n47_37, n47_38, n47_39, n47_41, n47_43, n47_44, n47_45, n47_46, n47_47, n47_48, n47_49, n47_50, n47_51, n47_52, n47_53, n47_54, n47_55, n47_56, n47_57, n47_58, n47_59, n47_60, n47_61, n47_62, n47_63, n47_64, n47_65, n47_66, n47_67, n47_68, n47_69, n47_70, n47_71, n47_72, n47_73, n47_74, n47_75, n47_76, n47_77, n47_78, n47_79, n47_80, n47_81, n47_82, n47_83, n47_84, n47_85, n47_86, n47_87, n47_88, n47_89, n47_90, n47_91, n47_92, n47_93, n47_94, n47_95, n47_96, n47_97, n47_98, n47_99, n47_100, n47_101, n47_102, n47_103, n47_104, n47_105, n47_106, n47_107, n47_108, n47_109, n47_110, n47_111, n47_112, n47_113, n47_114, n47_115, n47_116, n47_117, n47_118, n47_119, n47_120, n47_121, n47_122, n47_123, n47_124, n47_125, n47_126, n47_127, n47_128, n47_129, n47_130, n47_131, n47_132, n47_133, n47_134, n47_135, n47_136, n47_137, o47_2, o47_5, o47_7, o47_13, o47_19, o47_21, o47_23, o47_24, o47_27, o47_32, o47_38, o47_39, o47_44, o47_47, o47_49, o47_55, o47_61, o47_63, o47_65, o47_66, o47_69, o47_74, o47_80, o47_81, o47_85, o47_87, o47_89, o47_92, o47_95, o47_96, o47_98, o47_99, o47_101, o47_107, o47_113, o47_115, o47_117, o47_118, o47_120, o47_123, o47_125, o47_129, o47_131, o47_134, o47_136, res47, TT_3, TT_4, TT_5, TT_9, TT_22, TT_25, TT_26, TT_29, TT_33, TT_38, TT_40, TT_42, TT_47, TT_50, TT_57, TT_59, TT_66, TT_68, TT_69, TT_70, TT_72, TT_81, bb, primP, primM, ev, evs, parts_, ofConst, bin, un, intBin, putA, enterT, Nat.reduceEqDiff, Nat.reduceAdd, Nat.reduceMul, Nat.reduceLeDiff, Nat.reduceLT, ↓reduceIte, reduceCtorEq, RunRes, resultsA, oneOf, AV.plain, AV.cells, AHeap.push, AHeap.set, AHeap.empty, fieldOf, loadA, storeA, BX.part, TK.isAgg, convA, builtinA, inertB, builtinP, buildA, fillA, splice, eqv, cellsEq, sizeT, adT, ldT, fwT, Nat.reduceBeqDiff, Nat.reduceBneDiff, Int.reduceBNe, Int.reduceBEq, Int.reduceEq, Int.reduceLT, Int.reduceLE, Int.reduceAdd, Int.reduceSub, Int.reduceMul, Int.reduceNeg, strBin, indexAddrA, elems, lenOf, chunk, List.reduceReplicate, Int.reduceToNat]
        refine hu _ (by omega) (Nat.le_refl _) ?_ ?_ ?_
        all_goals simp only [upd_app, t0, t1, t10, Nat.reduceEqDiff, ↓reduceIte]
      all_goals simp only [upd_app, enterT, List.getElem?_cons_zero, List.getElem?_cons_succ, Option.getD_some, Nat.reduceEqDiff, ↓reduceIte]
      all_goals rfl
    · have e1 : (((m - a : Nat) : Int) == 1) = false := by simp; omega
      by_cases c2 : b - m = 1
      · obtain rfl : b = m + 1 := by omega
        have e2 : (((m + 1 - m : Nat) : Int) == 1) = true := by rw [c2]; rfl
        simp only [w1, w2, e1, e2, n47_0, n47_1, n47_2, n47_3, n47_4, n47_5, n47_6, n47_7, n47_8, n47_9, n47_10, n47_11, n47_12, n47_13, n47_14, n47_15, n47_16, n47_17, n47_18, n47_19, n47_20, n47_21, n47_22, n47_23, n47_24, n47_25, n47_26, n47_27, n47_28, n47_29, n47_30, n47_31, n47_32, n47_33, n47_34, n47_35, n47_36, n47_37, n47_38, n47_39, n47_40, n47_41, n47_42, n47_43, n47_44, n47_45, n47_46, n47_47, n47_48, n47_49, n47_50, n47_51, n47_52, n47_54, n47_55, n47_56, n47_57, n47_58, n47_59, n47_60, n47_61, n47_62, n47_63, n47_64, n47_65, n47_66, n47_68, n47_69, n47_70, n47_71, n47_72, n47_73, n47_74, n47_75, n47_76, n47_77, n47_78, n47_79, n47_80, n47_81, n47_82, n47_83, n47_85, n47_86, n47_87, n47_88, n47_89, n47_90, n47_91, n47_92, n47_93, n47_94, n47_95, n47_96, n47_97, n47_98, n47_99, n47_100, n47_101, n47_102, n47_103, n47_104, n47_105, n47_106, n47_107, n47_108, n47_109, n47_110, n47_111, n47_112, n47_113, n47_114, n47_115, n47_116, n47_117, n47_118, n47_119, n47_120, n47_121, n47_122, n47_123, n47_124, n47_125, n47_126, n47_127, n47_128, n47_129, n47_130, n47_131, n47_132, n47_133, n47_134, n47_135, n47_136, n47_137, o47_2, o47_5, o47_7, o47_13, o47_19, o47_21, o47_23, o47_24, o47_27, o47_32, o47_38, o47_39, o47_44, o47_47, o47_49, o47_55, o47_61, o47_63, o47_65, o47_66, o47_69, o47_74, o47_80, o47_81, o47_85, o47_87, o47_89, o47_92, o47_95, o47_96, o47_98, o47_99, o47_101, o47_107, o47_113, o47_115, o47_117, o47_118, o47_120, o47_123, o47_125, o47_129, o47_131, o47_134, o47_136, res47, TT_3, TT_4, TT_5, TT_9, TT_22, TT_25, TT_26, TT_29, TT_33, TT_38, TT_40, TT_42, TT_47, TT_50, TT_57, TT_59, TT_66, TT_68, TT_69, TT_70, TT_72, TT_81, bb, primP, primM, ev, evs, parts_, ofConst, bin, un, intBin, putA, enterT, Nat.reduceEqDiff, Nat.reduceAdd, Nat.reduceMul, Nat.reduceLeDiff, Nat.reduceLT, ↓reduceIte, reduceCtorEq, RunRes, resultsA, oneOf, AV.plain, AV.cells, AHeap.push, AHeap.set, AHeap.empty, fieldOf, loadA, storeA, BX.part, TK.isAgg, convA, builtinA, inertB, builtinP, buildA, fillA, splice, eqv, cellsEq, sizeT, adT, ldT, fwT, Nat.reduceBeqDiff, Nat.reduceBneDiff, Int.reduceBNe, Int.reduceBEq, Int.reduceEq, Int.reduceLT, Int.reduceLE, Int.reduceAdd, Int.reduceSub, Int.reduceMul, Int.reduceNeg, strBin, indexAddrA, elems, lenOf, chunk, List.reduceReplicate, Int.reduceToNat]
        refine bs2_all (a := a) (m := m) hn (by omega) h1 ?_ m a m _ (by omega) (by omega) (by omega) (by omega) ?_ ?_ ?_ ?_ ?_ (fun q x y => absurd y (by omega)) (fun q x y => absurd y (by omega))
        · intro T' i t0 t2 t14 hi1 hi2 hl hr
          obtain ⟨hm, hs⟩ := mrg_last hi1 hi2 h1 hl hr
          have hu := down_all (m := m) (f := f) (i := i) (A := A) (h := h) (g := g) hn hi2 (by omega) (hQ _ hm hs) (m - i) m
          rw [rot_nil] at hu
          first
          | (simp only [t0, t2, t14, n47_0, n47_1, n47_2, n47_3, n47_4, n47_5, n47_6, n47_7, n47_8, n47_9, n47_10, n47_11, n47_12, n47_13, n47_14, n47_15, n47_16, n47_17, n47_18, n47_19, n47_20, n47_21, n47_22, n47_23, n47_24, n47_25, n47_26, n47_27, n47_28, n47_29, n47_30, n47_31, n47_32, n47_33, n47_34, n47_35, n47_36, n47_37, n47_38, n47_39, n47_40, n47_41, n47_42, n47_43, n47_44, n47_45, n47_46, n47_47, n47_48, n47_49, n47_50, n47_51, n47_52, n47_53, n47_54, n47_55, n47_56, n47_57, n47_58, n47_59, n47_60, n47_61, n47_62, n47_63, n47_64, n47_65, n47_66, n47_67, n47_68, n47_69, n47_70, n47_71, n47_73, n47_74, n47_75, n47_76, n47_77, n47_78, n47_79, n47_80, n47_81, n47_83, n47_85, n47_86, n47_87, n47_88, n47_89, n47_90, n47_91, n47_92, n47_93, n47_94, n47_95, n47_96, n47_97, n47_98, n47_99, n47_100, n47_101, n47_102, n47_103, n47_104, n47_105, n47_106, n47_107, n47_108, n47_109, n47_110, n47_111, n47_112, n47_113, n47_114, n47_115, n47_116, n47_117, n47_118, n47_119, n47_120, n47_121, n47_122, n47_123, n47_124, n47_125, n47_126, n47_127, n47_128, n47_129, n47_130, n47_131, n47_132, n47_133, n47_134, n47_135, n47_136, n47_137, o47_2, o47_5, o47_7, o47_13, o47_19, o47_21, o47_23, o47_24, o47_27, o47_32, o47_38, o47_39, o47_44, o47_47, o47_49, o47_55, o47_61, o47_63, o47_65, o47_66, o47_69, o47_74, o47_80, o47_81, o47_85, o47_87, o47_89, o47_92, o47_95, o47_96, o47_98, o47_99, o47_101, o47_107, o47_113, o47_115, o47_117, o47_118, o47_120, o47_123, o47_125, o47_129, o47_131, o47_134, o47_136, res47, TT_3, TT_4, TT_5, TT_9, TT_22, TT_25, TT_26, TT_29, TT_33, TT_38, TT_40, TT_42, TT_47, TT_50, TT_57, TT_59, TT_66, TT_68, TT_69, TT_70, TT_72, TT_81, bb, primP, primM, ev, evs, parts_, ofConst, bin, un, intBin, putA, enterT, Nat.reduceEqDiff, Nat.reduceAdd, Nat.reduceMul, Nat.reduceLeDiff, Nat.reduceLT, ↓reduceIte, reduceCtorEq, RunRes, resultsA, oneOf, AV.plain, AV.cells, AHeap.push, AHeap.set, AHeap.empty, fieldOf, loadA, storeA, BX.part, TK.isAgg, convA, builtinA, inertB, builtinP, buildA, fillA, splice, eqv, cellsEq, sizeT, adT, ldT, fwT, Nat.reduceBeqDiff, Nat.reduceBneDiff, Int.reduceBNe, Int.reduceBEq, Int.reduceEq, Int.reduceLT, Int.reduceLE, Int.reduceAdd, Int.reduceSub, Int.reduceMul, Int.reduceNeg, strBin, indexAddrA, elems, lenOf, chunk, List.reduceReplicate, Int.reduceToNat]
             refine hu _ (by omega) (Nat.le_refl _) ?_ ?_ ?_
             all_goals simp only [upd_app, t0, t2, t14, Nat.reduceEqDiff, ↓reduceIte])
        all_goals simp only [upd_app, enterT, List.getElem?_cons_zero, List.getElem?_cons_succ, Option.getD_some, Nat.reduceEqDiff, ↓reduceIte]
        all_goals rfl
      · have e2 : (((b - m : Nat) : Int) == 1) = false := by simp; omega
        have w3 : IntKind.i64.wrap ((a : Int) + (b : Int)) = ((a + b : Nat) : Int) := by rw [wr64 (by omega) (by omega)]; omega
        have w4 := u64_half (N := a + b) (by omega)
        generalize hmid : (a + b) / 2 = mid at w4
        have w5 : IntKind.i64.wrap ((mid : Int) + (m : Int)) = ((mid + m : Nat) : Int) := by rw [wr64 (by omega) (by omega)]; omega
        have w6 : IntKind.i64.wrap (((mid + m : Nat) : Int) - (b : Int)) = ((mid + m : Nat) : Int) - (b : Int) := wr64 (by omega) (by omega)
        have w7 : IntKind.i64.wrap (((mid + m : Nat) : Int) - 1) = ((mid + m - 1 : Nat) : Int) := by rw [wr64 (by omega) (by omega)]; omega
        have hend : ∀ (T' : Nat → AV) (s lo r0 : Nat), ((mid < m ∧ lo = mid + m - b ∧ r0 = mid) ∨ (m ≤ mid ∧ lo = a ∧ r0 = m)) → T' 0 = .slc g 6 0 n → T' 1 = .int .i64 (a : Int) → T' 2 = .int .i64 (m : Int) → T' 3 = .int .i64 (b : Int) → T' 4 = .fn 28 [] [] → T' 18 = .int .i64 (mid : Int) → T' 19 = .int .i64 ((mid + m : Nat) : Int) → T' 20 = .int .i64 (s : Int) → lo ≤ s → s ≤ r0 → (∀ c, lo ≤ c → c < s → ltP (f (mid + m - 1 - c)) (f c) = false) → (∀ c, s ≤ c → c < r0 → ltP (f (mid + m - 1 - c)) (f c) = true) →
            Run Cx 47 T' [] none [.code c47_119] ⟨h, SB A g n f⟩ Q' := by
          intro T' s lo r0 hlo t0 t1 t2 t3 t4 t18 t19 t20 hs1 hs2 hl hr
          have cut := cut_of ham hmb hmid.symm hlo h1 h2 hs1 hs2 hl hr
          obtain ⟨s1, s2, s3, s4⟩ := cut.srt h1 h2
          have cross := cut.cross h1 h2
          have cmv := cut.mv
          have k1 := cut.lo
          have k2 := cut.hi
          have k3 := cut.mi
          have k4 := cut.me
          have k5 := cut.ms
          have w8 : IntKind.i64.wrap (((mid + m : Nat) : Int) - (s : Int)) = ((mid + m - s : Nat) : Int) := by rw [wr64 (by omega) (by omega)]; omega
          generalize hF : rot f s m (mid + m - s) = F at s1 s2 s3 s4 cross cmv
          have he : ∃ e, e = mid + m - s := ⟨_, rfl⟩
          obtain ⟨e, he⟩ := he
          rw [← he] at w8 s3 s4 hF k4 k5
          have hK3 : ∀ (T' : Nat → AV) (F2 : Nat → Pr), T' 0 = .slc g 6 0 n → T' 3 = .int .i64 (b : Int) → T' 4 = .fn 28 [] [] → T' 18 = .int .i64 (mid : Int) → T' 24 = .int .i64 (e : Int) → Mv a mid F F2 → Srt F2 a mid →
              Run Cx 47 T' [] none [.code c47_133] ⟨h, SB A g n F2⟩ Q' := by
            intro T' F2 t0 t3 t4 t18 t24 hm2 hs2
            have s3' : Srt F2 mid e := s3.congr fun k x y => hm2.1 k (.inr x)
            have s4' : Srt F2 e b := s4.congr fun k x y => hm2.1 k (.inr (by omega))
            by_cases d1 : mid < e ∧ e < b
            · have i1 : (mid : Int) < (e : Int) := by omega
              have i2 : (e : Int) < (b : Int) := by omega
              simp only [t0, t3, t4, t18, t24, i1, i2, n47_0, n47_1, n47_2, n47_3, n47_4, n47_5, n47_6, n47_7, n47_8, n47_9, n47_10, n47_11, n47_12, n47_13, n47_14, n47_15, n47_16, n47_17, n47_18, n47_19, n47_20, n47_21, n47_22, n47_23, n47_24, n47_25, n47_26, n47_27, n47_28, n47_29, n47_30, n47_31, n47_32, n47_33, n47_34, n47_35, n47_36, n47_37, n47_38, n47_39, n47_40, n47_41, n47_42, n47_43, n47_44, n47_45, n47_46, n47_47, n47_48, n47_49, n47_50, n47_51, n47_52, n47_53, n47_54, n47_55, n47_56, n47_57, n47_58, n47_59, n47_60, n47_61, n47_62, n47_63, n47_64, n47_65, n47_66, n47_67, n47_68, n47_69, n47_70, n47_71, n47_72, n47_73, n47_74, n47_75, n47_76, n47_77, n47_78, n47_79, n47_80, n47_81, n47_82, n47_83, n47_84, n47_85, n47_86, n47_87, n47_88, n47_89, n47_90, n47_91, n47_92, n47_93, n47_94, n47_95, n47_96, n47_97, n47_98, n47_99, n47_100, n47_101, n47_102, n47_103, n47_104, n47_105, n47_106, n47_107, n47_108, n47_109, n47_110, n47_111, n47_112, n47_113, n47_114, n47_115, n47_116, n47_117, n47_118, n47_119, n47_120, n47_121, n47_122, n47_123, n47_124, n47_125, n47_126, n47_127, n47_128, n47_129, n47_130, n47_131, n47_132, n47_133, n47_134, n47_135, n47_136, n47_137, o47_2, o47_5, o47_7, o47_13, o47_19, o47_21, o47_23, o47_24, o47_27, o47_32, o47_38, o47_39, o47_44, o47_47, o47_49, o47_55, o47_61, o47_63, o47_65, o47_66, o47_69, o47_74, o47_80, o47_81, o47_85, o47_87, o47_89, o47_92, o47_95, o47_96, o47_98, o47_99, o47_101, o47_107, o47_113, o47_115, o47_117, o47_118, o47_120, o47_123, o47_125, o47_129, o47_131, o47_134, o47_136, res47, TT_3, TT_4, TT_5, TT_9, TT_22, TT_25, TT_26, TT_29, TT_33, TT_38, TT_40, TT_42, TT_47, TT_50, TT_57, TT_59, TT_66, TT_68, TT_69, TT_70, TT_72, TT_81, bb, primP, primM, ev, evs, parts_, ofConst, bin, un, intBin, putA, enterT, Nat.reduceEqDiff, Nat.reduceAdd, Nat.reduceMul, Nat.reduceLeDiff, Nat.reduceLT, ↓reduceIte, reduceCtorEq, RunRes, resultsA, oneOf, AV.plain, AV.cells, AHeap.push, AHeap.set, AHeap.empty, fieldOf, loadA, storeA, BX.part, TK.isAgg, convA, builtinA, inertB, builtinP, buildA, fillA, splice, eqv, cellsEq, sizeT, adT, ldT, fwT, Nat.reduceBeqDiff, Nat.reduceBneDiff, Int.reduceBNe, Int.reduceBEq, Int.reduceEq, Int.reduceLT, Int.reduceLE, Int.reduceAdd, Int.reduceSub, Int.reduceMul, Int.reduceNeg, strBin, indexAddrA, elems, lenOf, chunk, List.reduceReplicate, Int.reduceToNat]
              refine ih mid e b F2 _ _ _ _ _ _ _ _ (by omega) d1.1 d1.2 hbn s3' s4' ?_
              intro F3 hm3 hs3
              simp only [run_nil, n47_0, n47_1, n47_2, n47_3, n47_4, n47_5, n47_6, n47_7, n47_8, n47_9, n47_10, n47_11, n47_12, n47_13, n47_14, n47_15, n47_16, n47_17, n47_18, n47_19, n47_20, n47_21, n47_22, n47_23, n47_24, n47_25, n47_26, n47_27, n47_28, n47_29, n47_30, n47_31, n47_32, n47_33, n47_34, n47_35, n47_36, n47_37, n47_38, n47_39, n47_40, n47_41, n47_42, n47_43, n47_44, n47_45, n47_46, n47_47, n47_48, n47_49, n47_50, n47_51, n47_52, n47_53, n47_54, n47_55, n47_56, n47_57, n47_58, n47_59, n47_60, n47_61, n47_62, n47_63, n47_64, n47_65, n47_66, n47_67, n47_68, n47_69, n47_70, n47_71, n47_72, n47_73, n47_74, n47_75, n47_76, n47_77, n47_78, n47_79, n47_80, n47_81, n47_82, n47_83, n47_84, n47_85, n47_86, n47_87, n47_88, n47_89, n47_90, n47_91, n47_92, n47_93, n47_94, n47_95, n47_96, n47_97, n47_98, n47_99, n47_100, n47_101, n47_102, n47_103, n47_104, n47_105, n47_106, n47_107, n47_108, n47_109, n47_110, n47_111, n47_112, n47_113, n47_114, n47_115, n47_116, n47_117, n47_118, n47_119, n47_120, n47_121, n47_122, n47_123, n47_124, n47_125, n47_126, n47_127, n47_128, n47_129, n47_130, n47_131, n47_132, n47_133, n47_134, n47_135, n47_136, n47_137, o47_2, o47_5, o47_7, o47_13, o47_19, o47_21, o47_23, o47_24, o47_27, o47_32, o47_38, o47_39, o47_44, o47_47, o47_49, o47_55, o47_61, o47_63, o47_65, o47_66, o47_69, o47_74, o47_80, o47_81, o47_85, o47_87, o47_89, o47_92, o47_95, o47_96, o47_98, o47_99, o47_101, o47_107, o47_113, o47_115, o47_117, o47_118, o47_120, o47_123, o47_125, o47_129, o47_131, o47_134, o47_136, res47, TT_3, TT_4, TT_5, TT_9, TT_22, TT_25, TT_26, TT_29, TT_33, TT_38, TT_40, TT_42, TT_47, TT_50, TT_57, TT_59, TT_66, TT_68, TT_69, TT_70, TT_72, TT_81, bb, primP, primM, ev, evs, parts_, ofConst, bin, un, intBin, putA, enterT, Nat.reduceEqDiff, Nat.reduceAdd, Nat.reduceMul, Nat.reduceLeDiff, Nat.reduceLT, ↓reduceIte, reduceCtorEq, RunRes, resultsA, oneOf, AV.plain, AV.cells, AHeap.push, AHeap.set, AHeap.empty, fieldOf, loadA, storeA, BX.part, TK.isAgg, convA, builtinA, inertB, builtinP, buildA, fillA, splice, eqv, cellsEq, sizeT, adT, ldT, fwT, Nat.reduceBeqDiff, Nat.reduceBneDiff, Int.reduceBNe, Int.reduceBEq, Int.reduceEq, Int.reduceLT, Int.reduceLE, Int.reduceAdd, Int.reduceSub, Int.reduceMul, Int.reduceNeg, strBin, indexAddrA, elems, lenOf, chunk, List.reduceReplicate, Int.reduceToNat]
              obtain ⟨hm4, hs4⟩ := halves (by omega) (by omega) cross hm2 hm3 hs2 hs3
              exact hQ _ (cmv.trans hm4) hs4
            · have hs3 : Srt F2 mid b := by
                by_cases d2 : mid < e
                · have : e = b := by omega
                  rw [← this]; exact s3'
                · have : e = mid := by omega
                  rw [← this]; exact s4'
              obtain ⟨hm4, hs4⟩ := halves (by omega) (by omega) cross hm2 (Mv.refl mid b F2) hs2 hs3
              have hq := hQ _ (cmv.trans hm4) hs4
              by_cases i1 : (mid : Int) < (e : Int)
              · have i2 : ((e : Int) < (b : Int)) = False := eq_false (by omega)
                simp only [t0, t3, t4, t18, t24, i1, i2, run_nil, n47_0, n47_1, n47_2, n47_3, n47_4, n47_5, n47_6, n47_7, n47_8, n47_9, n47_10, n47_11, n47_12, n47_13, n47_14, n47_15, n47_16, n47_17, n47_18, n47_19, n47_20, n47_21, n47_22, n47_23, n47_24, n47_25, n47_26, n47_27, n47_28, n47_29, n47_30, n47_31, n47_32, n47_33, n47_34, n47_35, n47_36, n47_37, n47_38, n47_39, n47_40, n47_41, n47_42, n47_43, n47_44, n47_45, n47_46, n47_47, n47_48, n47_49, n47_50, n47_51, n47_52, n47_53, n47_54, n47_55, n47_56, n47_57, n47_58, n47_59, n47_60, n47_61, n47_62, n47_63, n47_64, n47_65, n47_66, n47_67, n47_68, n47_69, n47_70, n47_71, n47_72, n47_73, n47_74, n47_75, n47_76, n47_77, n47_78, n47_79, n47_80, n47_81, n47_82, n47_83, n47_84, n47_85, n47_86, n47_87, n47_88, n47_89, n47_90, n47_91, n47_92, n47_93, n47_94, n47_95, n47_96, n47_97, n47_98, n47_99, n47_100, n47_101, n47_102, n47_103, n47_104, n47_105, n47_106, n47_107, n47_108, n47_109, n47_110, n47_111, n47_112, n47_113, n47_114, n47_115, n47_116, n47_117, n47_118, n47_119, n47_120, n47_121, n47_122, n47_123, n47_124, n47_125, n47_126, n47_127, n47_128, n47_129, n47_130, n47_131, n47_132, n47_133, n47_134, n47_135, n47_136, n47_137, o47_2, o47_5, o47_7, o47_13, o47_19, o47_21, o47_23, o47_24, o47_27, o47_32, o47_38, o47_39, o47_44, o47_47, o47_49, o47_55, o47_61, o47_63, o47_65, o47_66, o47_69, o47_74, o47_80, o47_81, o47_85, o47_87, o47_89, o47_92, o47_95, o47_96, o47_98, o47_99, o47_101, o47_107, o47_113, o47_115, o47_117, o47_118, o47_120, o47_123, o47_125, o47_129, o47_131, o47_134, o47_136, res47, TT_3, TT_4, TT_5, TT_9, TT_22, TT_25, TT_26, TT_29, TT_33, TT_38, TT_40, TT_42, TT_47, TT_50, TT_57, TT_59, TT_66, TT_68, TT_69, TT_70, TT_72, TT_81, bb, primP, primM, ev, evs, parts_, ofConst, bin, un, intBin, putA, enterT, Nat.reduceEqDiff, Nat.reduceAdd, Nat.reduceMul, Nat.reduceLeDiff, Nat.reduceLT, ↓reduceIte, reduceCtorEq, RunRes, resultsA, oneOf, AV.plain, AV.cells, AHeap.push, AHeap.set, AHeap.empty, fieldOf, loadA, storeA, BX.part, TK.isAgg, convA, builtinA, inertB, builtinP, buildA, fillA, splice, eqv, cellsEq, sizeT, adT, ldT, fwT, Nat.reduceBeqDiff, Nat.reduceBneDiff, Int.reduceBNe, Int.reduceBEq, Int.reduceEq, Int.reduceLT, Int.reduceLE, Int.reduceAdd, Int.reduceSub, Int.reduceMul, Int.reduceNeg, strBin, indexAddrA, elems, lenOf, chunk, List.reduceReplicate, Int.reduceToNat]
                exact hq
              · simp only [t0, t3, t4, t18, t24, i1, run_nil, n47_0, n47_1, n47_2, n47_3, n47_4, n47_5, n47_6, n47_7, n47_8, n47_9, n47_10, n47_11, n47_12, n47_13, n47_14, n47_15, n47_16, n47_17, n47_18, n47_19, n47_20, n47_21, n47_22, n47_23, n47_24, n47_25, n47_26, n47_27, n47_28, n47_29, n47_30, n47_31, n47_32, n47_33, n47_34, n47_35, n47_36, n47_37, n47_38, n47_39, n47_40, n47_41, n47_42, n47_43, n47_44, n47_45, n47_46, n47_47, n47_48, n47_49, n47_50, n47_51, n47_52, n47_53, n47_54, n47_55, n47_56, n47_57, n47_58, n47_59, n47_60, n47_61, n47_62, n47_63, n47_64, n47_65, n47_66, n47_67, n47_68, n47_69, n47_70, n47_71, n47_72, n47_73, n47_74, n47_75, n47_76, n47_77, n47_78, n47_79, n47_80, n47_81, n47_82, n47_83, n47_84, n47_85, n47_86, n47_87, n47_88, n47_89, n47_90, n47_91, n47_92, n47_93, n47_94, n47_95, n47_96, n47_97, n47_98, n47_99, n47_100, n47_101, n47_102, n47_103, n47_104, n47_105, n47_106, n47_107, n47_108, n47_109, n47_110, n47_111, n47_112, n47_113, n47_114, n47_115, n47_116, n47_117, n47_118, n47_119, n47_120, n47_121, n47_122, n47_123, n47_124, n47_125, n47_126, n47_127, n47_128, n47_129, n47_130, n47_131, n47_132, n47_133, n47_134, n47_135, n47_136, n47_137, o47_2, o47_5, o47_7, o47_13, o47_19, o47_21, o47_23, o47_24, o47_27, o47_32, o47_38, o47_39, o47_44, o47_47, o47_49, o47_55, o47_61, o47_63, o47_65, o47_66, o47_69, o47_74, o47_80, o47_81, o47_85, o47_87, o47_89, o47_92, o47_95, o47_96, o47_98, o47_99, o47_101, o47_107, o47_113, o47_115, o47_117, o47_118, o47_120, o47_123, o47_125, o47_129, o47_131, o47_134, o47_136, res47, TT_3, TT_4, TT_5, TT_9, TT_22, TT_25, TT_26, TT_29, TT_33, TT_38, TT_40, TT_42, TT_47, TT_50, TT_57, TT_59, TT_66, TT_68, TT_69, TT_70, TT_72, TT_81, bb, primP, primM, ev, evs, parts_, ofConst, bin, un, intBin, putA, enterT, Nat.reduceEqDiff, Nat.reduceAdd, Nat.reduceMul, Nat.reduceLeDiff, Nat.reduceLT, ↓reduceIte, reduceCtorEq, RunRes, resultsA, oneOf, AV.plain, AV.cells, AHeap.push, AHeap.set, AHeap.empty, fieldOf, loadA, storeA, BX.part, TK.isAgg, convA, builtinA, inertB, builtinP, buildA, fillA, splice, eqv, cellsEq, sizeT, adT, ldT, fwT, Nat.reduceBeqDiff, Nat.reduceBneDiff, Int.reduceBNe, Int.reduceBEq, Int.reduceEq, Int.reduceLT, Int.reduceLE, Int.reduceAdd, Int.reduceSub, Int.reduceMul, Int.reduceNeg, strBin, indexAddrA, elems, lenOf, chunk, List.reduceReplicate, Int.reduceToNat]
                exact hq
          have hK2 : ∀ (T' : Nat → AV), T' 0 = .slc g 6 0 n → T' 1 = .int .i64 (a : Int) → T' 3 = .int .i64 (b : Int) → T' 4 = .fn 28 [] [] → T' 18 = .int .i64 (mid : Int) → T' 20 = .int .i64 (s : Int) → T' 24 = .int .i64 (e : Int) →
              Run Cx 47 T' [] none [.code c47_127] ⟨h, SB A g n F⟩ Q' := by
            intro T' t0 t1 t3 t4 t18 t20 t24
            by_cases d1 : a < s ∧ s < mid
            · have i1 : (a : Int) < (s : Int) := by omega
              have i2 : (s : Int) < (mid : Int) := by omega
              simp only [t0, t1, t3, t4, t18, t20, t24, i1, i2, n47_0, n47_1, n47_2, n47_3, n47_4, n47_5, n47_6, n47_7, n47_8, n47_9, n47_10, n47_11, n47_12, n47_13, n47_14, n47_15, n47_16, n47_17, n47_18, n47_19, n47_20, n47_21, n47_22, n47_23, n47_24, n47_25, n47_26, n47_27, n47_28, n47_29, n47_30, n47_31, n47_32, n47_33, n47_34, n47_35, n47_36, n47_37, n47_38, n47_39, n47_40, n47_41, n47_42, n47_43, n47_44, n47_45, n47_46, n47_47, n47_48, n47_49, n47_50, n47_51, n47_52, n47_53, n47_54, n47_55, n47_56, n47_57, n47_58, n47_59, n47_60, n47_61, n47_62, n47_63, n47_64, n47_65, n47_66, n47_67, n47_68, n47_69, n47_70, n47_71, n47_72, n47_73, n47_74, n47_75, n47_76, n47_77, n47_78, n47_79, n47_80, n47_81, n47_82, n47_83, n47_84, n47_85, n47_86, n47_87, n47_88, n47_89, n47_90, n47_91, n47_92, n47_93, n47_94, n47_95, n47_96, n47_97, n47_98, n47_99, n47_100, n47_101, n47_102, n47_103, n47_104, n47_105, n47_106, n47_107, n47_108, n47_109, n47_110, n47_111, n47_112, n47_113, n47_114, n47_115, n47_116, n47_117, n47_118, n47_119, n47_120, n47_121, n47_122, n47_123, n47_124, n47_125, n47_126, n47_127, n47_128, n47_129, n47_130, n47_131, n47_132, n47_134, n47_135, n47_136, n47_137, o47_2, o47_5, o47_7, o47_13, o47_19, o47_21, o47_23, o47_24, o47_27, o47_32, o47_38, o47_39, o47_44, o47_47, o47_49, o47_55, o47_61, o47_63, o47_65, o47_66, o47_69, o47_74, o47_80, o47_81, o47_85, o47_87, o47_89, o47_92, o47_95, o47_96, o47_98, o47_99, o47_101, o47_107, o47_113, o47_115, o47_117, o47_118, o47_120, o47_123, o47_125, o47_129, o47_131, o47_134, o47_136, res47, TT_3, TT_4, TT_5, TT_9, TT_22, TT_25, TT_26, TT_29, TT_33, TT_38, TT_40, TT_42, TT_47, TT_50, TT_57, TT_59, TT_66, TT_68, TT_69, TT_70, TT_72, TT_81, bb, primP, primM, ev, evs, parts_, ofConst, bin, un, intBin, putA, enterT, Nat.reduceEqDiff, Nat.reduceAdd, Nat.reduceMul, Nat.reduceLeDiff, Nat.reduceLT, ↓reduceIte, reduceCtorEq, RunRes, resultsA, oneOf, AV.plain, AV.cells, AHeap.push, AHeap.set, AHeap.empty, fieldOf, loadA, storeA, BX.part, TK.isAgg, convA, builtinA, inertB, builtinP, buildA, fillA, splice, eqv, cellsEq, sizeT, adT, ldT, fwT, Nat.reduceBeqDiff, Nat.reduceBneDiff, Int.reduceBNe, Int.reduceBEq, Int.reduceEq, Int.reduceLT, Int.reduceLE, Int.reduceAdd, Int.reduceSub, Int.reduceMul, Int.reduceNeg, strBin, indexAddrA, elems, lenOf, chunk, List.reduceReplicate, Int.reduceToNat]
              refine ih a s mid F _ _ _ _ _ _ _ _ (by omega) d1.1 d1.2 (by omega) s1 s2 ?_
              intro F2 hm2 hs2
              simp only [n47_0, n47_1, n47_2, n47_3, n47_4, n47_5, n47_6, n47_7, n47_8, n47_9, n47_10, n47_11, n47_12, n47_13, n47_14, n47_15, n47_16, n47_17, n47_18, n47_19, n47_20, n47_21, n47_22, n47_23, n47_24, n47_25, n47_26, n47_27, n47_28, n47_29, n47_30, n47_31, n47_32, n47_33, n47_34, n47_35, n47_36, n47_37, n47_38, n47_39, n47_40, n47_41, n47_42, n47_43, n47_44, n47_45, n47_46, n47_47, n47_48, n47_49, n47_50, n47_51, n47_52, n47_53, n47_54, n47_55, n47_56, n47_57, n47_58, n47_59, n47_60, n47_61, n47_62, n47_63, n47_64, n47_65, n47_66, n47_67, n47_68, n47_69, n47_70, n47_71, n47_72, n47_73, n47_74, n47_75, n47_76, n47_77, n47_78, n47_79, n47_80, n47_81, n47_82, n47_83, n47_84, n47_85, n47_86, n47_87, n47_88, n47_89, n47_90, n47_91, n47_92, n47_93, n47_94, n47_95, n47_96, n47_97, n47_98, n47_99, n47_100, n47_101, n47_102, n47_103, n47_104, n47_105, n47_106, n47_107, n47_108, n47_109, n47_110, n47_111, n47_112, n47_113, n47_114, n47_115, n47_116, n47_117, n47_118, n47_119, n47_120, n47_121, n47_122, n47_123, n47_124, n47_125, n47_126, n47_127, n47_128, n47_129, n47_130, n47_131, n47_132, n47_134, n47_135, n47_136, n47_137, o47_2, o47_5, o47_7, o47_13, o47_19, o47_21, o47_23, o47_24, o47_27, o47_32, o47_38, o47_39, o47_44, o47_47, o47_49, o47_55, o47_61, o47_63, o47_65, o47_66, o47_69, o47_74, o47_80, o47_81, o47_85, o47_87, o47_89, o47_92, o47_95, o47_96, o47_98, o47_99, o47_101, o47_107, o47_113, o47_115, o47_117, o47_118, o47_120, o47_123, o47_125, o47_129, o47_131, o47_134, o47_136, res47, TT_3, TT_4, TT_5, TT_9, TT_22, TT_25, TT_26, TT_29, TT_33, TT_38, TT_40, TT_42, TT_47, TT_50, TT_57, TT_59, TT_66, TT_68, TT_69, TT_70, TT_72, TT_81, bb, primP, primM, ev, evs, parts_, ofConst, bin, un, intBin, putA, enterT, Nat.reduceEqDiff, Nat.reduceAdd, Nat.reduceMul, Nat.reduceLeDiff, Nat.reduceLT, ↓reduceIte, reduceCtorEq, RunRes, resultsA, oneOf, AV.plain, AV.cells, AHeap.push, AHeap.set, AHeap.empty, fieldOf, loadA, storeA, BX.part, TK.isAgg, convA, builtinA, inertB, builtinP, buildA, fillA, splice, eqv, cellsEq, sizeT, adT, ldT, fwT, Nat.reduceBeqDiff, Nat.reduceBneDiff, Int.reduceBNe, Int.reduceBEq, Int.reduceEq, Int.reduceLT, Int.reduceLE, Int.reduceAdd, Int.reduceSub, Int.reduceMul, Int.reduceNeg, strBin, indexAddrA, elems, lenOf, chunk, List.reduceReplicate, Int.reduceToNat]
              refine hK3 _ F2 ?_ ?_ ?_ ?_ ?_ hm2 hs2
              all_goals simp only [upd_app, t0, t3, t4, t18, t24, Nat.reduceEqDiff, ↓reduceIte]
            · have hs2 : Srt F a mid := by
                by_cases d2 : a < s
                · have : s = mid := by omega
                  rw [← this]; exact s1
                · have : s = a := by omega
                  rw [← this]; exact s2
              by_cases i1 : (a : Int) < (s : Int)
              · have i2 : ((s : Int) < (mid : Int)) = False := eq_false (by omega)
                simp only [t0, t1, t3, t4, t18, t20, t24, i1, i2, n47_0, n47_1, n47_2, n47_3, n47_4, n47_5, n47_6, n47_7, n47_8, n47_9, n47_10, n47_11, n47_12, n47_13, n47_14, n47_15, n47_16, n47_17, n47_18, n47_19, n47_20, n47_21, n47_22, n47_23, n47_24, n47_25, n47_26, n47_27, n47_28, n47_29, n47_30, n47_31, n47_32, n47_33, n47_34, n47_35, n47_36, n47_37, n47_38, n47_39, n47_40, n47_41, n47_42, n47_43, n47_44, n47_45, n47_46, n47_47, n47_48, n47_49, n47_50, n47_51, n47_52, n47_53, n47_54, n47_55, n47_56, n47_57, n47_58, n47_59, n47_60, n47_61, n47_62, n47_63, n47_64, n47_65, n47_66, n47_67, n47_68, n47_69, n47_70, n47_71, n47_72, n47_73, n47_74, n47_75, n47_76, n47_77, n47_78, n47_79, n47_80, n47_81, n47_82, n47_83, n47_84, n47_85, n47_86, n47_87, n47_88, n47_89, n47_90, n47_91, n47_92, n47_93, n47_94, n47_95, n47_96, n47_97, n47_98, n47_99, n47_100, n47_101, n47_102, n47_103, n47_104, n47_105, n47_106, n47_107, n47_108, n47_109, n47_110, n47_111, n47_112, n47_113, n47_114, n47_115, n47_116, n47_117, n47_118, n47_119, n47_120, n47_121, n47_122, n47_123, n47_124, n47_125, n47_126, n47_127, n47_128, n47_129, n47_130, n47_131, n47_132, n47_134, n47_135, n47_136, n47_137, o47_2, o47_5, o47_7, o47_13, o47_19, o47_21, o47_23, o47_24, o47_27, o47_32, o47_38, o47_39, o47_44, o47_47, o47_49, o47_55, o47_61, o47_63, o47_65, o47_66, o47_69, o47_74, o47_80, o47_81, o47_85, o47_87, o47_89, o47_92, o47_95, o47_96, o47_98, o47_99, o47_101, o47_107, o47_113, o47_115, o47_117, o47_118, o47_120, o47_123, o47_125, o47_129, o47_131, o47_134, o47_136, res47, TT_3, TT_4, TT_5, TT_9, TT_22, TT_25, TT_26, TT_29, TT_33, TT_38, TT_40, TT_42, TT_47, TT_50, TT_57, TT_59, TT_66, TT_68, TT_69, TT_70, TT_72, TT_81, bb, primP, primM, ev, evs, parts_, ofConst, bin, un, intBin, putA, enterT, Nat.reduceEqDiff, Nat.reduceAdd, Nat.reduceMul, Nat.reduceLeDiff, Nat.reduceLT, ↓reduceIte, reduceCtorEq, RunRes, resultsA, oneOf, AV.plain, AV.cells, AHeap.push, AHeap.set, AHeap.empty, fieldOf, loadA, storeA, BX.part, TK.isAgg, convA, builtinA, inertB, builtinP, buildA, fillA, splice, eqv, cellsEq, sizeT, adT, ldT, fwT, Nat.reduceBeqDiff, Nat.reduceBneDiff, Int.reduceBNe, Int.reduceBEq, Int.reduceEq, Int.reduceLT, Int.reduceLE, Int.reduceAdd, Int.reduceSub, Int.reduceMul, Int.reduceNeg, strBin, indexAddrA, elems, lenOf, chunk, List.reduceReplicate, Int.reduceToNat]
                refine hK3 _ F ?_ ?_ ?_ ?_ ?_ (Mv.refl _ _ _) hs2
                all_goals simp only [upd_app, t0, t3, t4, t18, t24, Nat.reduceEqDiff, ↓reduceIte]
              · simp only [t0, t1, t3, t4, t18, t20, t24, i1, n47_0, n47_1, n47_2, n47_3, n47_4, n47_5, n47_6, n47_7, n47_8, n47_9, n47_10, n47_11, n47_12, n47_13, n47_14, n47_15, n47_16, n47_17, n47_18, n47_19, n47_20, n47_21, n47_22, n47_23, n47_24, n47_25, n47_26, n47_27, n47_28, n47_29, n47_30, n47_31, n47_32, n47_33, n47_34, n47_35, n47_36, n47_37, n47_38, n47_39, n47_40, n47_41, n47_42, n47_43, n47_44, n47_45, n47_46, n47_47, n47_48, n47_49, n47_50, n47_51, n47_52, n47_53, n47_54, n47_55, n47_56, n47_57, n47_58, n47_59, n47_60, n47_61, n47_62, n47_63, n47_64, n47_65, n47_66, n47_67, n47_68, n47_69, n47_70, n47_71, n47_72, n47_73, n47_74, n47_75, n47_76, n47_77, n47_78, n47_79, n47_80, n47_81, n47_82, n47_83, n47_84, n47_85, n47_86, n47_87, n47_88, n47_89, n47_90, n47_91, n47_92, n47_93, n47_94, n47_95, n47_96, n47_97, n47_98, n47_99, n47_100, n47_101, n47_102, n47_103, n47_104, n47_105, n47_106, n47_107, n47_108, n47_109, n47_110, n47_111, n47_112, n47_113, n47_114, n47_115, n47_116, n47_117, n47_118, n47_119, n47_120, n47_121, n47_122, n47_123, n47_124, n47_125, n47_126, n47_127, n47_128, n47_129, n47_130, n47_131, n47_132, n47_134, n47_135, n47_136, n47_137, o47_2, o47_5, o47_7, o47_13, o47_19, o47_21, o47_23, o47_24, o47_27, o47_32, o47_38, o47_39, o47_44, o47_47, o47_49, o47_55, o47_61, o47_63, o47_65, o47_66, o47_69, o47_74, o47_80, o47_81, o47_85, o47_87, o47_89, o47_92, o47_95, o47_96, o47_98, o47_99, o47_101, o47_107, o47_113, o47_115, o47_117, o47_118, o47_120, o47_123, o47_125, o47_129, o47_131, o47_134, o47_136, res47, TT_3, TT_4, TT_5, TT_9, TT_22, TT_25, TT_26, TT_29, TT_33, TT_38, TT_40, TT_42, TT_47, TT_50, TT_57, TT_59, TT_66, TT_68, TT_69, TT_70, TT_72, TT_81, bb, primP, primM, ev, evs, parts_, ofConst, bin, un, intBin, putA, enterT, Nat.reduceEqDiff, Nat.reduceAdd, Nat.reduceMul, Nat.reduceLeDiff, Nat.reduceLT, ↓reduceIte, reduceCtorEq, RunRes, resultsA, oneOf, AV.plain, AV.cells, AHeap.push, AHeap.set, AHeap.empty, fieldOf, loadA, storeA, BX.part, TK.isAgg, convA, builtinA, inertB, builtinP, buildA, fillA, splice, eqv, cellsEq, sizeT, adT, ldT, fwT, Nat.reduceBeqDiff, Nat.reduceBneDiff, Int.reduceBNe, Int.reduceBEq, Int.reduceEq, Int.reduceLT, Int.reduceLE, Int.reduceAdd, Int.reduceSub, Int.reduceMul, Int.reduceNeg, strBin, indexAddrA, elems, lenOf, chunk, List.reduceReplicate, Int.reduceToNat]
                refine hK3 _ F ?_ ?_ ?_ ?_ ?_ (Mv.refl _ _ _) hs2
                all_goals simp only [upd_app, t0, t3, t4, t18, t24, Nat.reduceEqDiff, ↓reduceIte]
          by_cases d1 : s < m ∧ m < e
          · have i1 : (s : Int) < (m : Int) := by omega
            have i2 : (m : Int) < (e : Int) := by omega
            simp only [t0, t1, t2, t3, t4, t18, t19, t20, w8, i1, i2, n47_0, n47_1, n47_2, n47_3, n47_4, n47_5, n47_6, n47_7, n47_8, n47_9, n47_10, n47_11, n47_12, n47_13, n47_14, n47_15, n47_16, n47_17, n47_18, n47_19, n47_20, n47_21, n47_22, n47_23, n47_24, n47_25, n47_26, n47_27, n47_28, n47_29, n47_30, n47_31, n47_32, n47_33, n47_34, n47_35, n47_36, n47_37, n47_38, n47_39, n47_40, n47_41, n47_42, n47_43, n47_44, n47_45, n47_46, n47_47, n47_48, n47_49, n47_50, n47_51, n47_52, n47_53, n47_54, n47_55, n47_56, n47_57, n47_58, n47_59, n47_60, n47_61, n47_62, n47_63, n47_64, n47_65, n47_66, n47_67, n47_68, n47_69, n47_70, n47_71, n47_72, n47_73, n47_74, n47_75, n47_76, n47_77, n47_78, n47_79, n47_80, n47_81, n47_82, n47_83, n47_84, n47_85, n47_86, n47_87, n47_88, n47_89, n47_90, n47_91, n47_92, n47_93, n47_94, n47_95, n47_96, n47_97, n47_98, n47_99, n47_100, n47_101, n47_102, n47_103, n47_104, n47_105, n47_106, n47_107, n47_108, n47_109, n47_110, n47_111, n47_112, n47_113, n47_114, n47_115, n47_116, n47_117, n47_118, n47_119, n47_120, n47_121, n47_122, n47_123, n47_124, n47_125, n47_126, n47_128, n47_129, n47_130, n47_131, n47_132, n47_133, n47_134, n47_135, n47_136, n47_137, o47_2, o47_5, o47_7, o47_13, o47_19, o47_21, o47_23, o47_24, o47_27, o47_32, o47_38, o47_39, o47_44, o47_47, o47_49, o47_55, o47_61, o47_63, o47_65, o47_66, o47_69, o47_74, o47_80, o47_81, o47_85, o47_87, o47_89, o47_92, o47_95, o47_96, o47_98, o47_99, o47_101, o47_107, o47_113, o47_115, o47_117, o47_118, o47_120, o47_123, o47_125, o47_129, o47_131, o47_134, o47_136, res47, TT_3, TT_4, TT_5, TT_9, TT_22, TT_25, TT_26, TT_29, TT_33, TT_38, TT_40, TT_42, TT_47, TT_50, TT_57, TT_59, TT_66, TT_68, TT_69, TT_70, TT_72, TT_81, bb, primP, primM, ev, evs, parts_, ofConst, bin, un, intBin, putA, enterT, Nat.reduceEqDiff, Nat.reduceAdd, Nat.reduceMul, Nat.reduceLeDiff, Nat.reduceLT, ↓reduceIte, reduceCtorEq, RunRes, resultsA, oneOf, AV.plain, AV.cells, AHeap.push, AHeap.set, AHeap.empty, fieldOf, loadA, storeA, BX.part, TK.isAgg, convA, builtinA, inertB, builtinP, buildA, fillA, splice, eqv, cellsEq, sizeT, adT, ldT, fwT, Nat.reduceBeqDiff, Nat.reduceBneDiff, Int.reduceBNe, Int.reduceBEq, Int.reduceEq, Int.reduceLT, Int.reduceLE, Int.reduceAdd, Int.reduceSub, Int.reduceMul, Int.reduceNeg, strBin, indexAddrA, elems, lenOf, chunk, List.reduceReplicate, Int.reduceToNat]
            refine rotate_call hn d1.1 d1.2 (by omega) ?_
            rw [hF]
            simp only [n47_0, n47_1, n47_2, n47_3, n47_4, n47_5, n47_6, n47_7, n47_8, n47_9, n47_10, n47_11, n47_12, n47_13, n47_14, n47_15, n47_16, n47_17, n47_18, n47_19, n47_20, n47_21, n47_22, n47_23, n47_24, n47_25, n47_26, n47_27, n47_28, n47_29, n47_30, n47_31, n47_32, n47_33, n47_34, n47_35, n47_36, n47_37, n47_38, n47_39, n47_40, n47_41, n47_42, n47_43, n47_44, n47_45, n47_46, n47_47, n47_48, n47_49, n47_50, n47_51, n47_52, n47_53, n47_54, n47_55, n47_56, n47_57, n47_58, n47_59, n47_60, n47_61, n47_62, n47_63, n47_64, n47_65, n47_66, n47_67, n47_68, n47_69, n47_70, n47_71, n47_72, n47_73, n47_74, n47_75, n47_76, n47_77, n47_78, n47_79, n47_80, n47_81, n47_82, n47_83, n47_84, n47_85, n47_86, n47_87, n47_88, n47_89, n47_90, n47_91, n47_92, n47_93, n47_94, n47_95, n47_96, n47_97, n47_98, n47_99, n47_100, n47_101, n47_102, n47_103, n47_104, n47_105, n47_106, n47_107, n47_108, n47_109, n47_110, n47_111, n47_112, n47_113, n47_114, n47_115, n47_116, n47_117, n47_118, n47_119, n47_120, n47_121, n47_122, n47_123, n47_124, n47_125, n47_126, n47_128, n47_129, n47_130, n47_131, n47_132, n47_133, n47_134, n47_135, n47_136, n47_137, o47_2, o47_5, o47_7, o47_13, o47_19, o47_21, o47_23, o47_24, o47_27, o47_32, o47_38, o47_39, o47_44, o47_47, o47_49, o47_55, o47_61, o47_63, o47_65, o47_66, o47_69, o47_74, o47_80, o47_81, o47_85, o47_87, o47_89, o47_92, o47_95, o47_96, o47_98, o47_99, o47_101, o47_107, o47_113, o47_115, o47_117, o47_118, o47_120, o47_123, o47_125, o47_129, o47_131, o47_134, o47_136, res47, TT_3, TT_4, TT_5, TT_9, TT_22, TT_25, TT_26, TT_29, TT_33, TT_38, TT_40, TT_42, TT_47, TT_50, TT_57, TT_59, TT_66, TT_68, TT_69, TT_70, TT_72, TT_81, bb, primP, primM, ev, evs, parts_, ofConst, bin, un, intBin, putA, enterT, Nat.reduceEqDiff, Nat.reduceAdd, Nat.reduceMul, Nat.reduceLeDiff, Nat.reduceLT, ↓reduceIte, reduceCtorEq, RunRes, resultsA, oneOf, AV.plain, AV.cells, AHeap.push, AHeap.set, AHeap.empty, fieldOf, loadA, storeA, BX.part, TK.isAgg, convA, builtinA, inertB, builtinP, buildA, fillA, splice, eqv, cellsEq, sizeT, adT, ldT, fwT, Nat.reduceBeqDiff, Nat.reduceBneDiff, Int.reduceBNe, Int.reduceBEq, Int.reduceEq, Int.reduceLT, Int.reduceLE, Int.reduceAdd, Int.reduceSub, Int.reduceMul, Int.reduceNeg, strBin, indexAddrA, elems, lenOf, chunk, List.reduceReplicate, Int.reduceToNat]
            refine hK2 _ ?_ ?_ ?_ ?_ ?_ ?_ ?_
            all_goals simp only [upd_app, t0, t1, t3, t4, t18, t20, Nat.reduceEqDiff, ↓reduceIte]
          · have hFf : F = f := by
              rw [← hF]
              by_cases d2 : s < m
              · have : e = m := by omega
                rw [this, rot_nil']
              · have : s = m := by omega
                rw [this, rot_nil]
            subst hFf
            by_cases i1 : (s : Int) < (m : Int)
            · have i2 : ((m : Int) < (e : Int)) = False := eq_false (by omega)
              simp only [t0, t1, t2, t3, t4, t18, t19, t20, w8, i1, i2, n47_0, n47_1, n47_2, n47_3, n47_4, n47_5, n47_6, n47_7, n47_8, n47_9, n47_10, n47_11, n47_12, n47_13, n47_14, n47_15, n47_16, n47_17, n47_18, n47_19, n47_20, n47_21, n47_22, n47_23, n47_24, n47_25, n47_26, n47_27, n47_28, n47_29, n47_30, n47_31, n47_32, n47_33, n47_34, n47_35, n47_36, n47_37, n47_38, n47_39, n47_40, n47_41, n47_42, n47_43, n47_44, n47_45, n47_46, n47_47, n47_48, n47_49, n47_50, n47_51, n47_52, n47_53, n47_54, n47_55, n47_56, n47_57, n47_58, n47_59, n47_60, n47_61, n47_62, n47_63, n47_64, n47_65, n47_66, n47_67, n47_68, n47_69, n47_70, n47_71, n47_72, n47_73, n47_74, n47_75, n47_76, n47_77, n47_78, n47_79, n47_80, n47_81, n47_82, n47_83, n47_84, n47_85, n47_86, n47_87, n47_88, n47_89, n47_90, n47_91, n47_92, n47_93, n47_94, n47_95, n47_96, n47_97, n47_98, n47_99, n47_100, n47_101, n47_102, n47_103, n47_104, n47_105, n47_106, n47_107, n47_108, n47_109, n47_110, n47_111, n47_112, n47_113, n47_114, n47_115, n47_116, n47_117, n47_118, n47_119, n47_120, n47_121, n47_122, n47_123, n47_124, n47_125, n47_126, n47_128, n47_129, n47_130, n47_131, n47_132, n47_133, n47_134, n47_135, n47_136, n47_137, o47_2, o47_5, o47_7, o47_13, o47_19, o47_21, o47_23, o47_24, o47_27, o47_32, o47_38, o47_39, o47_44, o47_47, o47_49, o47_55, o47_61, o47_63, o47_65, o47_66, o47_69, o47_74, o47_80, o47_81, o47_85, o47_87, o47_89, o47_92, o47_95, o47_96, o47_98, o47_99, o47_101, o47_107, o47_113, o47_115, o47_117, o47_118, o47_120, o47_123, o47_125, o47_129, o47_131, o47_134, o47_136, res47, TT_3, TT_4, TT_5, TT_9, TT_22, TT_25, TT_26, TT_29, TT_33, TT_38, TT_40, TT_42, TT_47, TT_50, TT_57, TT_59, TT_66, TT_68, TT_69, TT_70, TT_72, TT_81, bb, primP, primM, ev, evs, parts_, ofConst, bin, un, intBin, putA, enterT, Nat.reduceEqDiff, Nat.reduceAdd, Nat.reduceMul, Nat.reduceLeDiff, Nat.reduceLT, ↓reduceIte, reduceCtorEq, RunRes, resultsA, oneOf, AV.plain, AV.cells, AHeap.push, AHeap.set, AHeap.empty, fieldOf, loadA, storeA, BX.part, TK.isAgg, convA, builtinA, inertB, builtinP, buildA, fillA, splice, eqv, cellsEq, sizeT, adT, ldT, fwT, Nat.reduceBeqDiff, Nat.reduceBneDiff, Int.reduceBNe, Int.reduceBEq, Int.reduceEq, Int.reduceLT, Int.reduceLE, Int.reduceAdd, Int.reduceSub, Int.reduceMul, Int.reduceNeg, strBin, indexAddrA, elems, lenOf, chunk, List.reduceReplicate, Int.reduceToNat]
              refine hK2 _ ?_ ?_ ?_ ?_ ?_ ?_ ?_
              all_goals simp only [upd_app, t0, t1, t3, t4, t18, t20, Nat.reduceEqDiff, ↓reduceIte]
            · simp only [t0, t1, t2, t3, t4, t18, t19, t20, w8, i1, n47_0, n47_1, n47_2, n47_3, n47_4, n47_5, n47_6, n47_7, n47_8, n47_9, n47_10, n47_11, n47_12, n47_13, n47_14, n47_15, n47_16, n47_17, n47_18, n47_19, n47_20, n47_21, n47_22, n47_23, n47_24, n47_25, n47_26, n47_27, n47_28, n47_29, n47_30, n47_31, n47_32, n47_33, n47_34, n47_35, n47_36, n47_37, n47_38, n47_39, n47_40, n47_41, n47_42, n47_43, n47_44, n47_45, n47_46, n47_47, n47_48, n47_49, n47_50, n47_51, n47_52, n47_53, n47_54, n47_55, n47_56, n47_57, n47_58, n47_59, n47_60, n47_61, n47_62, n47_63, n47_64, n47_65, n47_66, n47_67, n47_68, n47_69, n47_70, n47_71, n47_72, n47_73, n47_74, n47_75, n47_76, n47_77, n47_78, n47_79, n47_80, n47_81, n47_82, n47_83, n47_84, n47_85, n47_86, n47_87, n47_88, n47_89, n47_90, n47_91, n47_92, n47_93, n47_94, n47_95, n47_96, n47_97, n47_98, n47_99, n47_100, n47_101, n47_102, n47_103, n47_104, n47_105, n47_106, n47_107, n47_108, n47_109, n47_110, n47_111, n47_112, n47_113, n47_114, n47_115, n47_116, n47_117, n47_118, n47_119, n47_120, n47_121, n47_122, n47_123, n47_124, n47_125, n47_126, n47_128, n47_129, n47_130, n47_131, n47_132, n47_133, n47_134, n47_135, n47_136, n47_137, o47_2, o47_5, o47_7, o47_13, o47_19, o47_21, o47_23, o47_24, o47_27, o47_32, o47_38, o47_39, o47_44, o47_47, o47_49, o47_55, o47_61, o47_63, o47_65, o47_66, o47_69, o47_74, o47_80, o47_81, o47_85, o47_87, o47_89, o47_92, o47_95, o47_96, o47_98, o47_99, o47_101, o47_107, o47_113, o47_115, o47_117, o47_118, o47_120, o47_123, o47_125, o47_129, o47_131, o47_134, o47_136, res47, TT_3, TT_4, TT_5, TT_9, TT_22, TT_25, TT_26, TT_29, TT_33, TT_38, TT_40, TT_42, TT_47, TT_50, TT_57, TT_59, TT_66, TT_68, TT_69, TT_70, TT_72, TT_81, bb, primP, primM, ev, evs, parts_, ofConst, bin, un, intBin, putA, enterT, Nat.reduceEqDiff, Nat.reduceAdd, Nat.reduceMul, Nat.reduceLeDiff, Nat.reduceLT, ↓reduceIte, reduceCtorEq, RunRes, resultsA, oneOf, AV.plain, AV.cells, AHeap.push, AHeap.set, AHeap.empty, fieldOf, loadA, storeA, BX.part, TK.isAgg, convA, builtinA, inertB, builtinP, buildA, fillA, splice, eqv, cellsEq, sizeT, adT, ldT, fwT, Nat.reduceBeqDiff, Nat.reduceBneDiff, Int.reduceBNe, Int.reduceBEq, Int.reduceEq, Int.reduceLT, Int.reduceLE, Int.reduceAdd, Int.reduceSub, Int.reduceMul, Int.reduceNeg, strBin, indexAddrA, elems, lenOf, chunk, List.reduceReplicate, Int.reduceToNat]
              refine hK2 _ ?_ ?_ ?_ ?_ ?_ ?_ ?_
              all_goals simp only [upd_app, t0, t1, t3, t4, t18, t20, Nat.reduceEqDiff, ↓reduceIte]
        by_cases c3 : mid < m
        · have i1 : (mid : Int) < (m : Int) := by omega
          have w6' : ((mid + m : Nat) : Int) - (b : Int) = ((mid + m - b : Nat) : Int) := by omega
          replace w6 : IntKind.i64.wrap (((mid + m : Nat) : Int) - (b : Int)) = ((mid + m - b : Nat) : Int) := w6.trans w6'
          simp only [w1, w2, w3, w4, w5, w6, w7, e1, e2, i1, shiftBin, n47_0, n47_1, n47_2, n47_3, n47_4, n47_5, n47_6, n47_7, n47_8, n47_9, n47_10, n47_11, n47_12, n47_13, n47_14, n47_15, n47_16, n47_17, n47_18, n47_19, n47_20, n47_21, n47_22, n47_23, n47_24, n47_25, n47_26, n47_27, n47_28, n47_29, n47_30, n47_31, n47_32, n47_33, n47_34, n47_35, n47_36, n47_37, n47_38, n47_39, n47_40, n47_41, n47_42, n47_43, n47_44, n47_45, n47_46, n47_47, n47_48, n47_49, n47_50, n47_51, n47_52, n47_53, n47_54, n47_55, n47_56, n47_57, n47_58, n47_59, n47_60, n47_61, n47_62, n47_63, n47_64, n47_65, n47_66, n47_67, n47_68, n47_69, n47_70, n47_71, n47_72, n47_73, n47_74, n47_75, n47_76, n47_77, n47_78, n47_79, n47_80, n47_81, n47_82, n47_83, n47_84, n47_85, n47_86, n47_87, n47_88, n47_89, n47_90, n47_91, n47_92, n47_93, n47_94, n47_95, n47_96, n47_97, n47_98, n47_99, n47_100, n47_101, n47_102, n47_103, n47_104, n47_106, n47_107, n47_108, n47_109, n47_110, n47_111, n47_112, n47_113, n47_114, n47_115, n47_116, n47_117, n47_118, n47_120, n47_121, n47_122, n47_123, n47_124, n47_125, n47_126, n47_127, n47_128, n47_129, n47_130, n47_131, n47_132, n47_133, n47_134, n47_135, n47_136, n47_137, o47_2, o47_5, o47_7, o47_13, o47_19, o47_21, o47_23, o47_24, o47_27, o47_32, o47_38, o47_39, o47_44, o47_47, o47_49, o47_55, o47_61, o47_63, o47_65, o47_66, o47_69, o47_74, o47_80, o47_81, o47_85, o47_87, o47_89, o47_92, o47_95, o47_96, o47_98, o47_99, o47_101, o47_107, o47_113, o47_115, o47_117, o47_118, o47_120, o47_123, o47_125, o47_129, o47_131, o47_134, o47_136, res47, TT_3, TT_4, TT_5, TT_9, TT_22, TT_25, TT_26, TT_29, TT_33, TT_38, TT_40, TT_42, TT_47, TT_50, TT_57, TT_59, TT_66, TT_68, TT_69, TT_70, TT_72, TT_81, bb, primP, primM, ev, evs, parts_, ofConst, bin, un, intBin, putA, enterT, Nat.reduceEqDiff, Nat.reduceAdd, Nat.reduceMul, Nat.reduceLeDiff, Nat.reduceLT, ↓reduceIte, reduceCtorEq, RunRes, resultsA, oneOf, AV.plain, AV.cells, AHeap.push, AHeap.set, AHeap.empty, fieldOf, loadA, storeA, BX.part, TK.isAgg, convA, builtinA, inertB, builtinP, buildA, fillA, splice, eqv, cellsEq, sizeT, adT, ldT, fwT, Nat.reduceBeqDiff, Nat.reduceBneDiff, Int.reduceBNe, Int.reduceBEq, Int.reduceEq, Int.reduceLT, Int.reduceLE, Int.reduceAdd, Int.reduceSub, Int.reduceMul, Int.reduceNeg, strBin, indexAddrA, elems, lenOf, chunk, List.reduceReplicate, Int.reduceToNat]
          refine bs3_all (a := a) (m := m) (b := b) (p := mid + m - 1) (lo := mid + m - b) (r0 := mid) (mv := .int .i64 (mid : Int)) (nv := .int .i64 ((mid + m : Nat) : Int)) hn hbn (by omega) (by omega) h1 h2 (fun c x y => ⟨by omega, by omega, by omega, by omega⟩) (by omega) ?_ mid (mid + m - b) mid _ (by omega) (by omega) (by omega) (by omega) ?_ ?_ ?_ ?_ ?_ ?_ ?_ ?_ ?_ ?_ (fun q x y => absurd y (by omega)) (fun q x y => absurd y (by omega))
          · intro T' s t0 t1 t2 t3 t4 t18 t19 t20 k1 k2 k3 k4
            exact hend T' s _ _ (.inl ⟨c3, rfl, rfl⟩) t0 t1 t2 t3 t4 t18 t19 t20 k1 k2 k3 k4
          all_goals simp only [upd_app, enterT, List.getElem?_cons_zero, List.getElem?_cons_succ, Option.getD_some, Nat.reduceEqDiff, ↓reduceIte]
          all_goals rfl
        · have i1 : ¬ (mid : Int) < (m : Int) := by omega
          simp only [w1, w2, w3, w4, w5, w6, w7, e1, e2, i1, shiftBin, n47_0, n47_1, n47_2, n47_3, n47_4, n47_5, n47_6, n47_7, n47_8, n47_9, n47_10, n47_11, n47_12, n47_13, n47_14, n47_15, n47_16, n47_17, n47_18, n47_19, n47_20, n47_21, n47_22, n47_23, n47_24, n47_25, n47_26, n47_27, n47_28, n47_29, n47_30, n47_31, n47_32, n47_33, n47_34, n47_35, n47_36, n47_37, n47_38, n47_39, n47_40, n47_41, n47_42, n47_43, n47_44, n47_45, n47_46, n47_47, n47_48, n47_49, n47_50, n47_51, n47_52, n47_53, n47_54, n47_55, n47_56, n47_57, n47_58, n47_59, n47_60, n47_61, n47_62, n47_63, n47_64, n47_65, n47_66, n47_67, n47_68, n47_69, n47_70, n47_71, n47_72, n47_73, n47_74, n47_75, n47_76, n47_77, n47_78, n47_79, n47_80, n47_81, n47_82, n47_83, n47_84, n47_85, n47_86, n47_87, n47_88, n47_89, n47_90, n47_91, n47_92, n47_93, n47_94, n47_95, n47_96, n47_97, n47_98, n47_99, n47_100, n47_101, n47_102, n47_103, n47_104, n47_106, n47_107, n47_108, n47_109, n47_110, n47_111, n47_112, n47_113, n47_114, n47_115, n47_116, n47_117, n47_118, n47_120, n47_121, n47_122, n47_123, n47_124, n47_125, n47_126, n47_127, n47_128, n47_129, n47_130, n47_131, n47_132, n47_133, n47_134, n47_135, n47_136, n47_137, o47_2, o47_5, o47_7, o47_13, o47_19, o47_21, o47_23, o47_24, o47_27, o47_32, o47_38, o47_39, o47_44, o47_47, o47_49, o47_55, o47_61, o47_63, o47_65, o47_66, o47_69, o47_74, o47_80, o47_81, o47_85, o47_87, o47_89, o47_92, o47_95, o47_96, o47_98, o47_99, o47_101, o47_107, o47_113, o47_115, o47_117, o47_118, o47_120, o47_123, o47_125, o47_129, o47_131, o47_134, o47_136, res47, TT_3, TT_4, TT_5, TT_9, TT_22, TT_25, TT_26, TT_29, TT_33, TT_38, TT_40, TT_42, TT_47, TT_50, TT_57, TT_59, TT_66, TT_68, TT_69, TT_70, TT_72, TT_81, bb, primP, primM, ev, evs, parts_, ofConst, bin, un, intBin, putA, enterT, Nat.reduceEqDiff, Nat.reduceAdd, Nat.reduceMul, Nat.reduceLeDiff, Nat.reduceLT, ↓reduceIte, reduceCtorEq, RunRes, resultsA, oneOf, AV.plain, AV.cells, AHeap.push, AHeap.set, AHeap.empty, fieldOf, loadA, storeA, BX.part, TK.isAgg, convA, builtinA, inertB, builtinP, buildA, fillA, splice, eqv, cellsEq, sizeT, adT, ldT, fwT, Nat.reduceBeqDiff, Nat.reduceBneDiff, Int.reduceBNe, Int.reduceBEq, Int.reduceEq, Int.reduceLT, Int.reduceLE, Int.reduceAdd, Int.reduceSub, Int.reduceMul, Int.reduceNeg, strBin, indexAddrA, elems, lenOf, chunk, List.reduceReplicate, Int.reduceToNat]
          refine bs3_all (a := a) (m := m) (b := b) (p := mid + m - 1) (lo := a) (r0 := m) (mv := .int .i64 (mid : Int)) (nv := .int .i64 ((mid + m : Nat) : Int)) hn hbn (by omega) (by omega) h1 h2 (fun c x y => ⟨by omega, by omega, by omega, by omega⟩) (by omega) ?_ m a m _ (by omega) (by omega) (by omega) (by omega) ?_ ?_ ?_ ?_ ?_ ?_ ?_ ?_ ?_ ?_ (fun q x y => absurd y (by omega)) (fun q x y => absurd y (by omega))
          · intro T' s t0 t1 t2 t3 t4 t18 t19 t20 k1 k2 k3 k4
            exact hend T' s _ _ (.inr ⟨by omega, rfl, rfl⟩) t0 t1 t2 t3 t4 t18 t19 t20 k1 k2 k3 k4
          all_goals simp only [upd_app, enterT, List.getElem?_cons_zero, List.getElem?_cons_succ, Option.getD_some, Nat.reduceEqDiff, ↓reduceIte]
          all_goals rfl
end Go.Proofs.Ytbfjkomlnpolmaa.G

