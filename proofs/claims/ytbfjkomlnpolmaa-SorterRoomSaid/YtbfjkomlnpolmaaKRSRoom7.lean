import Derived.Test.YtbfjkomlnpolmaaKRSRoom6
import Derived.Test.YtbfjkomlnpolmaaKRSRoom2
import Derived.WalkKit
import Derived.ProofKit
import Derived.OpenShut
import Derived.ShutString
import Derived.ChangeOld
import Derived.Below
import Derived.DataReads
import Derived.ChangeArms
import Derived.Test.YtbfjkomlnpolmaaKRSRoom4
import Derived.Test.YtbfjkomlnpolmaaKRSRoom3
import Derived.Test.YtbfjkomlnpolmaaKRSRoom5
namespace Go.Proofs.Ytbfjkomlnpolmaa.G
open Go.BX
set_option linter.unusedSimpArgs false
set_option linter.unusedVariables false

/-! # The least cursor, taken out -/

theorem goto41 {T : Nat → AV} {ds : List ADef} {ro : Option Nat} {H : AHeap} {Q : AV → AHeap → Prop} {k : List AItem} {c : AC} : Run Cx 41 T ds ro (.code c41_34 :: .code c :: .inScope c41_3 :: k) H Q = Run Cx 41 T ds ro (.code c41_15 :: .inScope c41_3 :: k) H Q := by
  unfold c41_34
  rw [run_goto (k' := .code (.seq .skip c41_15) :: .inScope c41_3 :: k) rfl, run_seq, run_skip]

theorem pp_all {vs : Nat → AV} {xs : Nat → List Pr} {hb g nx n N x : Nat} {A : Nat → Blk} {S : Cur → Prop} {Q : AV → AHeap → Prop} (hn : n ≤ 100000) (hnN : n ≤ N) (hg : hb < g) (hbn : hb ≤ nx) (hA : A hb = .cells 72 2 [[.slc g 3 0 n, .fn 39 [] []]]) (hS : ∀ c, S c → OkC xs c) (hV : ∀ c, S c → RV hb A (vs c.r) (xs c.r))
    (hK : ∀ (T : Nat → AV) f', T 2 = .ptr x 3 0 0 → T 3 = .ptr (x + 1) 3 0 0 → Heap (ltC xs) n f' → Cont n f' S → Run Cx 41 T [] none [.code c41_37, .inScope c41_3] ⟨nx, upd A g (.cells 68 3 (RC vs N f'))⟩ Q) :
    ∀ (m j : Nat) (T : Nat → AV) (f : Nat → Cur), n ≤ m + j → j ≤ n → T 0 = .ptr hb 2 0 0 → T 2 = .ptr x 3 0 0 → T 3 = .ptr (x + 1) 3 0 0 → T 4 = .int .i64 (n : Int) → T 5 = .int .i64 (j : Int) → (j < n → Dn (ltC xs) n f j) → (j = n → n = 0) → Cont n f S →
      Run Cx 41 T [] none [.code c41_15, .inScope c41_3] ⟨nx, upd A g (.cells 68 3 (RC vs N f))⟩ Q := by
  intro m
  induction m with
  | zero =>
    intro j T f hm hj t0 t2 t3 t4 t5 hD h0 hC
    have hn0 : n = 0 := h0 (by omega)
    subst hn0
    obtain rfl : j = 0 := by omega
    replace t5 : T 5 = .int .i64 0 := t5
    replace t4 : T 4 = .int .i64 0 := t4
    simp only [t0, t2, t3, t4, t5, run_exit_start, exit_here, exit_code, exit_inLoop, run_inBlock, show IntKind.i64.wrap 0 = 0 from rfl, show IntKind.i64.wrap 1 = 1 from rfl, n41_0, n41_1, n41_2, n41_3, n41_4, n41_5, n41_6, n41_7, n41_8, n41_9, n41_10, n41_11, n41_12, n41_13, n41_14, n41_15, n41_16, n41_17, n41_18, n41_19, n41_20, n41_21, n41_22, n41_23, n41_24, n41_25, n41_26, n41_27, n41_28, n41_29, n41_30, n41_31, n41_32, n41_33, n41_35, n41_36, n41_38, n41_39, o41_1, o41_4, o41_6, o41_8, o41_10, o41_12, o41_16, o41_19, o41_23, o41_25, o41_28, o41_31, o41_33, o41_38, res41, TT_3, TT_4, TT_5, TT_9, TT_22, TT_25, TT_26, TT_29, TT_33, TT_38, TT_40, TT_42, TT_47, TT_50, TT_57, TT_59, TT_66, TT_68, TT_69, TT_70, TT_72, TT_81, bb, primP, primM, ev, evs, parts_, ofConst, bin, un, intBin, putA, enterT, Nat.reduceEqDiff, Nat.reduceAdd, Nat.reduceMul, Nat.reduceLeDiff, Nat.reduceLT, ↓reduceIte, reduceCtorEq, RunRes, resultsA, oneOf, AV.plain, AV.cells, AHeap.push, AHeap.set, AHeap.empty, fieldOf, loadA, storeA, BX.part, TK.isAgg, convA, builtinA, inertB, builtinP, buildA, fillA, splice, eqv, cellsEq, sizeT, adT, ldT, fwT, Nat.reduceBeqDiff, Nat.reduceBneDiff, Int.reduceBNe, Int.reduceBEq, Int.reduceEq, Int.reduceLT, Int.reduceLE, Int.reduceAdd, Int.reduceSub, Int.reduceMul, Int.reduceNeg, strBin, indexAddrA, elems, lenOf, chunk, List.reduceReplicate, Int.reduceToNat]
    refine hK _ f ?_ ?_ (fun i h0 hi => by omega) hC
    all_goals simp only [upd_app, t2, t3, Nat.reduceEqDiff, ↓reduceIte]
  | succ m ih =>
    intro j T f hm hj t0 t2 t3 t4 t5 hD h0 hC
    have w1 : IntKind.i64.wrap (2 * (j : Int)) = 2 * (j : Int) := wr64 (by omega) (by omega)
    have w2 : IntKind.i64.wrap (2 * (j : Int) + 1) = ((2 * j + 1 : Nat) : Int) := by rw [wr64 (by omega) (by omega)]; omega
    by_cases hk : 2 * j + 1 < n
    · have hjn : j < n := by omega
      have hD' := hD hjn
      have c0 : ((2 * j + 1 : Nat) : Int) < (n : Int) := by omega
      have hgb : (hb = g) = False := eq_false (by omega)
      have hVu : ∀ c, S c → RV nx (upd A g (.cells 68 3 (RC vs N f))) (vs c.r) (xs c.r) := fun c hc => (hV c hc).keep hbn (fun b hb' _ => by rw [upd_app, if_neg (by omega)])
      have hlc : ∀ c d, S c → S d → ∀ {T : Nat → AV} {dst : Option Nat} {os : List AO} {k : List AItem}, RunCall Cx 41 T [] none 39 [.agg [vs c.r, .int .i64 (c.a : Int), .int .i64 (c.r : Int)], .agg [vs d.r, .int .i64 (d.a : Int), .int .i64 (d.r : Int)]] dst os k ⟨nx, upd A g (.cells 68 3 (RC vs N f))⟩ Q = RunOps Cx 41 (putA T dst (.bool (ltC xs c d))) [] none os k ⟨nx, upd A g (.cells 68 3 (RC vs N f))⟩ Q := fun c d hc hd => less_call (hS c hc) (hS d hd) (hVu c hc) (hVu d hd)
      have hirr : ∀ c, S c → ltC xs c c = false := fun c hc => by
        cases h : ltC xs c c with
        | false => rfl
        | true =>
          have := (ordC xs).asym c c (hS c hc) (hS c hc) h
          rw [h] at this; cases this
      have second : ∀ (kk : Nat) (T : Nat → AV), kk < n → par kk = j → 0 < kk → (∀ i, 0 < i → i < n → par i = j → ltC xs (f i) (f kk) = false) → T 0 = .ptr hb 2 0 0 → T 2 = .ptr x 3 0 0 → T 3 = .ptr (x + 1) 3 0 0 → T 4 = .int .i64 (n : Int) → T 5 = .int .i64 (j : Int) → T 6 = .int .i64 (kk : Int) →
          Run Cx 41 T [] none [.code c41_27, .code c41_37, .inScope c41_3] ⟨nx, upd A g (.cells 68 3 (RC vs N f))⟩ Q := by
        intro kk T hkk hpk hk0 hmin t0 t2 t3 t4 t5 t6
        have l1 : (kk : Int) < (n : Int) := by omega
        have l2 : (j : Int) < (n : Int) := by omega
        have p1 : (0 : Int) ≤ (kk : Int) := by omega
        have p2 : (0 : Int) ≤ (j : Int) := by omega
        have g1 : ∀ f', (RC vs N f')[kk]? = _ := fun f' => RC_get (f := f') (show kk < N by omega)
        have g2 : ∀ f', (RC vs N f')[j]? = _ := fun f' => RC_get (f := f') (show j < N by omega)
        have hl := fun {T} {dst} {os} {k} => hlc _ _ (hC.mem kk hkk) (hC.mem j hjn) (T := T) (dst := dst) (os := os) (k := k)
        cases hlt : ltC xs (f kk) (f j) with
        | false =>
          simp only [hlt] at hl
          simp only [t0, t2, t3, t4, t5, t6, hA, hgb, l1, l2, p1, p2, g1, g2, hl, Int.toNat_natCast, run_exit_start, exit_here, exit_code, exit_inLoop, run_inBlock, n41_0, n41_1, n41_2, n41_3, n41_4, n41_5, n41_6, n41_7, n41_8, n41_9, n41_10, n41_11, n41_12, n41_13, n41_14, n41_15, n41_16, n41_17, n41_18, n41_19, n41_20, n41_21, n41_22, n41_23, n41_24, n41_25, n41_26, n41_27, n41_28, n41_29, n41_30, n41_31, n41_32, n41_33, n41_35, n41_36, n41_38, n41_39, o41_1, o41_4, o41_6, o41_8, o41_10, o41_12, o41_16, o41_19, o41_23, o41_25, o41_28, o41_31, o41_33, o41_38, res41, TT_3, TT_4, TT_5, TT_9, TT_22, TT_25, TT_26, TT_29, TT_33, TT_38, TT_40, TT_42, TT_47, TT_50, TT_57, TT_59, TT_66, TT_68, TT_69, TT_70, TT_72, TT_81, bb, primP, primM, ev, evs, parts_, ofConst, bin, un, intBin, putA, enterT, Nat.reduceEqDiff, Nat.reduceAdd, Nat.reduceMul, Nat.reduceLeDiff, Nat.reduceLT, ↓reduceIte, reduceCtorEq, RunRes, resultsA, oneOf, AV.plain, AV.cells, AHeap.push, AHeap.set, AHeap.empty, fieldOf, loadA, storeA, BX.part, TK.isAgg, convA, builtinA, inertB, builtinP, buildA, fillA, splice, eqv, cellsEq, sizeT, adT, ldT, fwT, Nat.reduceBeqDiff, Nat.reduceBneDiff, Int.reduceBNe, Int.reduceBEq, Int.reduceEq, Int.reduceLT, Int.reduceLE, Int.reduceAdd, Int.reduceSub, Int.reduceMul, Int.reduceNeg, strBin, indexAddrA, elems, lenOf, chunk, List.reduceReplicate, Int.reduceToNat]
          refine hK _ f ?_ ?_ (hD'.stop (ordC xs) (fun i hi => hS _ (hC.mem i hi)) hjn (.inr ⟨kk, hkk, hpk, hk0, hmin, hlt⟩)) hC
          all_goals simp only [upd_app, t2, t3, Nat.reduceEqDiff, ↓reduceIte]
        | true =>
          simp only [hlt] at hl
          simp only [t0, t2, t3, t4, t5, t6, hA, hgb, l1, l2, p1, p2, g1, g2, hl, Int.toNat_natCast, RC_set, upd2, swA_eq, goto41, run_exit_start, exit_here, exit_code, exit_inLoop, run_inBlock, n41_0, n41_1, n41_2, n41_3, n41_4, n41_5, n41_6, n41_7, n41_8, n41_9, n41_10, n41_11, n41_12, n41_13, n41_14, n41_16, n41_17, n41_18, n41_19, n41_20, n41_21, n41_22, n41_23, n41_24, n41_25, n41_26, n41_27, n41_28, n41_29, n41_30, n41_31, n41_32, n41_33, n41_35, n41_36, n41_38, n41_39, o41_1, o41_4, o41_6, o41_8, o41_10, o41_12, o41_16, o41_19, o41_23, o41_25, o41_28, o41_31, o41_33, o41_38, res41, TT_3, TT_4, TT_5, TT_9, TT_22, TT_25, TT_26, TT_29, TT_33, TT_38, TT_40, TT_42, TT_47, TT_50, TT_57, TT_59, TT_66, TT_68, TT_69, TT_70, TT_72, TT_81, bb, primP, primM, ev, evs, parts_, ofConst, bin, un, intBin, putA, enterT, Nat.reduceEqDiff, Nat.reduceAdd, Nat.reduceMul, Nat.reduceLeDiff, Nat.reduceLT, ↓reduceIte, reduceCtorEq, RunRes, resultsA, oneOf, AV.plain, AV.cells, AHeap.push, AHeap.set, AHeap.empty, fieldOf, loadA, storeA, BX.part, TK.isAgg, convA, builtinA, inertB, builtinP, buildA, fillA, splice, eqv, cellsEq, sizeT, adT, ldT, fwT, Nat.reduceBeqDiff, Nat.reduceBneDiff, Int.reduceBNe, Int.reduceBEq, Int.reduceEq, Int.reduceLT, Int.reduceLE, Int.reduceAdd, Int.reduceSub, Int.reduceMul, Int.reduceNeg, strBin, indexAddrA, elems, lenOf, chunk, List.reduceReplicate, Int.reduceToNat]
          have hpl := par_lt hk0
          refine ih kk _ (swA f j kk) (by omega) (by omega) ?_ ?_ ?_ ?_ ?_ (fun _ => hD'.step (ordC xs) (fun i hi => hS _ (hC.mem i hi)) hkk hpk hk0 hmin hlt) (fun e => by omega) (hC.sw hjn hkk)
          all_goals simp only [upd_app, t0, t2, t3, t4, Nat.reduceEqDiff, ↓reduceIte]
      have p1 : (0 : Int) ≤ ((2 * j + 1 : Nat) : Int) := by omega
      have g1 : ∀ f', (RC vs N f')[2 * j + 1]? = _ := fun f' => RC_get (f := f') (show 2 * j + 1 < N by omega)
      have w3 : IntKind.i64.wrap (((2 * j + 1 : Nat) : Int) + 1) = ((2 * j + 2 : Nat) : Int) := by rw [wr64 (by omega) (by omega)]; omega
      have pk1 : par (2 * j + 1) = j := by unfold par; omega
      have pk2 : par (2 * j + 2) = j := by unfold par; omega
      have pch : ∀ i, 0 < i → par i = j → i = 2 * j + 1 ∨ i = 2 * j + 2 := fun i hi e => by unfold par at e; omega
      by_cases hk2 : 2 * j + 2 < n
      · have c1 : ((2 * j + 2 : Nat) : Int) < (n : Int) := by omega
        have p2 : (0 : Int) ≤ ((2 * j + 2 : Nat) : Int) := by omega
        have g2 : ∀ f', (RC vs N f')[2 * j + 2]? = _ := fun f' => RC_get (f := f') (show 2 * j + 2 < N by omega)
        have hl := fun {T} {dst} {os} {k} => hlc _ _ (hC.mem (2 * j + 2) hk2) (hC.mem (2 * j + 1) hk) (T := T) (dst := dst) (os := os) (k := k)
        cases hlt : ltC xs (f (2 * j + 2)) (f (2 * j + 1)) with
        | false =>
          simp only [hlt] at hl
          simp only [t0, t2, t3, t4, t5, hA, hgb, w1, w2, w3, c0, c1, p1, p2, g1, g2, hl, Int.toNat_natCast, run_exit_start, exit_here, exit_code, exit_inLoop, run_inBlock, n41_0, n41_1, n41_2, n41_3, n41_4, n41_5, n41_6, n41_7, n41_8, n41_9, n41_10, n41_11, n41_12, n41_13, n41_14, n41_15, n41_16, n41_17, n41_18, n41_19, n41_20, n41_21, n41_22, n41_23, n41_24, n41_25, n41_26, n41_28, n41_29, n41_30, n41_31, n41_32, n41_33, n41_35, n41_36, n41_38, n41_39, o41_1, o41_4, o41_6, o41_8, o41_10, o41_12, o41_16, o41_19, o41_23, o41_25, o41_28, o41_31, o41_33, o41_38, res41, TT_3, TT_4, TT_5, TT_9, TT_22, TT_25, TT_26, TT_29, TT_33, TT_38, TT_40, TT_42, TT_47, TT_50, TT_57, TT_59, TT_66, TT_68, TT_69, TT_70, TT_72, TT_81, bb, primP, primM, ev, evs, parts_, ofConst, bin, un, intBin, putA, enterT, Nat.reduceEqDiff, Nat.reduceAdd, Nat.reduceMul, Nat.reduceLeDiff, Nat.reduceLT, ↓reduceIte, reduceCtorEq, RunRes, resultsA, oneOf, AV.plain, AV.cells, AHeap.push, AHeap.set, AHeap.empty, fieldOf, loadA, storeA, BX.part, TK.isAgg, convA, builtinA, inertB, builtinP, buildA, fillA, splice, eqv, cellsEq, sizeT, adT, ldT, fwT, Nat.reduceBeqDiff, Nat.reduceBneDiff, Int.reduceBNe, Int.reduceBEq, Int.reduceEq, Int.reduceLT, Int.reduceLE, Int.reduceAdd, Int.reduceSub, Int.reduceMul, Int.reduceNeg, strBin, indexAddrA, elems, lenOf, chunk, List.reduceReplicate, Int.reduceToNat]
          refine second (2 * j + 1) _ hk pk1 (by omega) ?_ ?_ ?_ ?_ ?_ ?_ ?_
          · intro i hi hin he
            rcases pch i hi he with rfl | rfl
            · exact hirr _ (hC.mem _ hk)
            · exact hlt
          all_goals simp only [upd_app, t0, t2, t3, t4, t5, Nat.reduceEqDiff, ↓reduceIte]
        | true =>
          simp only [hlt] at hl
          simp only [t0, t2, t3, t4, t5, hA, hgb, w1, w2, w3, c0, c1, p1, p2, g1, g2, hl, Int.toNat_natCast, run_exit_start, exit_here, exit_code, exit_inLoop, run_inBlock, n41_0, n41_1, n41_2, n41_3, n41_4, n41_5, n41_6, n41_7, n41_8, n41_9, n41_10, n41_11, n41_12, n41_13, n41_14, n41_15, n41_16, n41_17, n41_18, n41_19, n41_20, n41_21, n41_22, n41_23, n41_24, n41_25, n41_26, n41_28, n41_29, n41_30, n41_31, n41_32, n41_33, n41_35, n41_36, n41_38, n41_39, o41_1, o41_4, o41_6, o41_8, o41_10, o41_12, o41_16, o41_19, o41_23, o41_25, o41_28, o41_31, o41_33, o41_38, res41, TT_3, TT_4, TT_5, TT_9, TT_22, TT_25, TT_26, TT_29, TT_33, TT_38, TT_40, TT_42, TT_47, TT_50, TT_57, TT_59, TT_66, TT_68, TT_69, TT_70, TT_72, TT_81, bb, primP, primM, ev, evs, parts_, ofConst, bin, un, intBin, putA, enterT, Nat.reduceEqDiff, Nat.reduceAdd, Nat.reduceMul, Nat.reduceLeDiff, Nat.reduceLT, ↓reduceIte, reduceCtorEq, RunRes, resultsA, oneOf, AV.plain, AV.cells, AHeap.push, AHeap.set, AHeap.empty, fieldOf, loadA, storeA, BX.part, TK.isAgg, convA, builtinA, inertB, builtinP, buildA, fillA, splice, eqv, cellsEq, sizeT, adT, ldT, fwT, Nat.reduceBeqDiff, Nat.reduceBneDiff, Int.reduceBNe, Int.reduceBEq, Int.reduceEq, Int.reduceLT, Int.reduceLE, Int.reduceAdd, Int.reduceSub, Int.reduceMul, Int.reduceNeg, strBin, indexAddrA, elems, lenOf, chunk, List.reduceReplicate, Int.reduceToNat]
          refine second (2 * j + 2) _ hk2 pk2 (by omega) ?_ ?_ ?_ ?_ ?_ ?_ ?_
          · intro i hi hin he
            rcases pch i hi he with rfl | rfl
            · exact (ordC xs).asym _ _ (hS _ (hC.mem _ hk2)) (hS _ (hC.mem _ hk)) hlt
            · exact hirr _ (hC.mem _ hk2)
          all_goals simp only [upd_app, t0, t2, t3, t4, t5, Nat.reduceEqDiff, ↓reduceIte]
      · have c1 : ¬ ((2 * j + 2 : Nat) : Int) < (n : Int) := by omega
        simp only [t0, t2, t3, t4, t5, hA, hgb, w1, w2, w3, c0, c1, Int.toNat_natCast, run_exit_start, exit_here, exit_code, exit_inLoop, run_inBlock, n41_0, n41_1, n41_2, n41_3, n41_4, n41_5, n41_6, n41_7, n41_8, n41_9, n41_10, n41_11, n41_12, n41_13, n41_14, n41_15, n41_16, n41_17, n41_18, n41_19, n41_20, n41_21, n41_22, n41_23, n41_24, n41_25, n41_26, n41_28, n41_29, n41_30, n41_31, n41_32, n41_33, n41_35, n41_36, n41_38, n41_39, o41_1, o41_4, o41_6, o41_8, o41_10, o41_12, o41_16, o41_19, o41_23, o41_25, o41_28, o41_31, o41_33, o41_38, res41, TT_3, TT_4, TT_5, TT_9, TT_22, TT_25, TT_26, TT_29, TT_33, TT_38, TT_40, TT_42, TT_47, TT_50, TT_57, TT_59, TT_66, TT_68, TT_69, TT_70, TT_72, TT_81, bb, primP, primM, ev, evs, parts_, ofConst, bin, un, intBin, putA, enterT, Nat.reduceEqDiff, Nat.reduceAdd, Nat.reduceMul, Nat.reduceLeDiff, Nat.reduceLT, ↓reduceIte, reduceCtorEq, RunRes, resultsA, oneOf, AV.plain, AV.cells, AHeap.push, AHeap.set, AHeap.empty, fieldOf, loadA, storeA, BX.part, TK.isAgg, convA, builtinA, inertB, builtinP, buildA, fillA, splice, eqv, cellsEq, sizeT, adT, ldT, fwT, Nat.reduceBeqDiff, Nat.reduceBneDiff, Int.reduceBNe, Int.reduceBEq, Int.reduceEq, Int.reduceLT, Int.reduceLE, Int.reduceAdd, Int.reduceSub, Int.reduceMul, Int.reduceNeg, strBin, indexAddrA, elems, lenOf, chunk, List.reduceReplicate, Int.reduceToNat]
        refine second (2 * j + 1) _ hk pk1 (by omega) ?_ ?_ ?_ ?_ ?_ ?_ ?_
        · intro i hi hin he
          rcases pch i hi he with rfl | rfl
          · exact hirr _ (hC.mem _ hk)
          · omega
        all_goals simp only [upd_app, t0, t2, t3, t4, t5, Nat.reduceEqDiff, ↓reduceIte]
    · have c0 : ¬ ((2 * j + 1 : Nat) : Int) < (n : Int) := by omega
      simp only [t0, t2, t3, t4, t5, w1, w2, c0, run_exit_start, exit_here, exit_code, exit_inLoop, run_inBlock, n41_0, n41_1, n41_2, n41_3, n41_4, n41_5, n41_6, n41_7, n41_8, n41_9, n41_10, n41_11, n41_12, n41_13, n41_14, n41_15, n41_16, n41_17, n41_18, n41_19, n41_20, n41_21, n41_22, n41_23, n41_24, n41_25, n41_26, n41_27, n41_28, n41_29, n41_30, n41_31, n41_32, n41_33, n41_35, n41_36, n41_38, n41_39, o41_1, o41_4, o41_6, o41_8, o41_10, o41_12, o41_16, o41_19, o41_23, o41_25, o41_28, o41_31, o41_33, o41_38, res41, TT_3, TT_4, TT_5, TT_9, TT_22, TT_25, TT_26, TT_29, TT_33, TT_38, TT_40, TT_42, TT_47, TT_50, TT_57, TT_59, TT_66, TT_68, TT_69, TT_70, TT_72, TT_81, bb, primP, primM, ev, evs, parts_, ofConst, bin, un, intBin, putA, enterT, Nat.reduceEqDiff, Nat.reduceAdd, Nat.reduceMul, Nat.reduceLeDiff, Nat.reduceLT, ↓reduceIte, reduceCtorEq, RunRes, resultsA, oneOf, AV.plain, AV.cells, AHeap.push, AHeap.set, AHeap.empty, fieldOf, loadA, storeA, BX.part, TK.isAgg, convA, builtinA, inertB, builtinP, buildA, fillA, splice, eqv, cellsEq, sizeT, adT, ldT, fwT, Nat.reduceBeqDiff, Nat.reduceBneDiff, Int.reduceBNe, Int.reduceBEq, Int.reduceEq, Int.reduceLT, Int.reduceLE, Int.reduceAdd, Int.reduceSub, Int.reduceMul, Int.reduceNeg, strBin, indexAddrA, elems, lenOf, chunk, List.reduceReplicate, Int.reduceToNat]
      refine hK _ f ?_ ?_ ?_ hC
      · simp only [upd_app, t2, Nat.reduceEqDiff, ↓reduceIte]
      · simp only [upd_app, t3, Nat.reduceEqDiff, ↓reduceIte]
      · by_cases hjn : j < n
        · exact (hD hjn).stop (ordC xs) (fun i hi => hS _ (hC.mem i hi)) hjn (.inl (by omega))
        · have := h0 (by omega)
          exact fun i h0 hi => by omega

section
variable {fn : FuncId} {T : Nat → AV} {ds : List ADef} {ro : Option Nat} {k : List AItem} {Q : AV → AHeap → Prop} {dst : Option Nat} {os : List AO}

theorem pop_call {vs : Nat → AV} {xs : Nat → List Pr} {hb nx n : Nat} {A : Nat → Blk} {f : Nat → Cur} {S : Cur → Prop} (hn : n ≤ 90000) (hH : HL vs hb nx A (n + 1) f) (hp : Heap (ltC xs) (n + 1) f) (hC : Cont (n + 1) f S) (hS : ∀ c, S c → OkC xs c) (hV : ∀ c, S c → RV hb A (vs c.r) (xs c.r))
    (hk : ∀ x nx' A' f', S x → (∀ c, S c → ltC xs c x = false) → HL vs hb nx' A' n f' → Heap (ltC xs) n f' → Cont n f' (fun c => S c ∧ c ≠ x) → nx ≤ nx' → (∀ c, c < nx → c ≠ hb → c < hb ∨ notCur (A c) → A' c = A c) → RunOps Cx fn (putA T dst (.agg [vs x.r, .int .i64 (x.a : Int), .int .i64 (x.r : Int)])) ds ro os k ⟨nx', A'⟩ Q) :
    RunCall Cx fn T ds ro 41 [.ptr hb 2 0 0] dst os k ⟨nx, A⟩ Q := by
  refine call_body pure41 (noext _) body41 ?_
  obtain ⟨hbn, hH⟩ := hH
  rcases hH with ⟨hA, h0⟩ | ⟨g, N, hA, g1, g2, g3, g4⟩
  · omega
  have e1 : (hb = nx) = False := eq_false (by omega)
  have e2 : (hb = nx + 1) = False := eq_false (by omega)
  have e3 : (g = nx) = False := eq_false (by omega)
  have e4 : (g = nx + 1) = False := eq_false (by omega)
  have e5 : (hb = g) = False := eq_false (by omega)
  have e6 : (g = hb) = False := eq_false (by omega)
  have w1 : IntKind.i64.wrap (((n + 1 : Nat) : Int) - 1) = (n : Int) := by rw [wr64 (by omega) (by omega)]; omega
  have l0 : (0 : Int) < ((n + 1 : Nat) : Int) := by omega
  have l1 : (n : Int) < ((n + 1 : Nat) : Int) := by omega
  have l2 : (n : Int) ≤ ((n + 1 : Nat) : Int) := by omega
  have p1 : (0 : Int) ≤ (n : Int) := by omega
  have q0 : ∀ f', (RC vs N f')[0]? = _ := fun f' => RC_get (f := f') (show 0 < N by omega)
  have q1 : ∀ f', (RC vs N f')[n]? = _ := fun f' => RC_get (f := f') (show n < N by omega)
  have hSx := hC.mem 0 (by omega)
  have hmin : ∀ c, S c → ltC xs c (f 0) = false := by
    intro c hc
    obtain ⟨i, hi, rfl⟩ := hC.all c hc
    by_cases e : i = 0
    · subst e
      cases h : ltC xs (f 0) (f 0) with
      | false => rfl
      | true =>
        have := (ordC xs).asym _ _ (hS _ hSx) (hS _ hSx) h
        rw [h] at this; cases this
    · exact hp.root (ordC xs) (fun i hi => hS _ (hC.mem i hi)) i i (Nat.le_refl _) (by omega) hi
  have e7 : (nx = nx + 1) = False := eq_false (by omega)
  have e8 : (nx + 1 = nx) = False := eq_false (by omega)
  have e9 : (nx = hb) = False := eq_false (by omega)
  have e10 : (nx + 1 = hb) = False := eq_false (by omega)
  have e11 : (nx = g) = False := eq_false (by omega)
  have e12 : (nx + 1 = g) = False := eq_false (by omega)
  simp only [hA, g4, e1, e2, e3, e4, e5, e6, e7, e8, e9, e10, e11, e12, w1, l0, l1, l2, p1, q0, q1, lenOf, i64, RC_set, sliceA, bnds, bound, evo, Int.toNat_natCast, Nat.sub_zero, Nat.zero_le, n41_0, n41_1, n41_2, n41_3, n41_4, n41_5, n41_6, n41_7, n41_8, n41_9, n41_10, n41_11, n41_12, n41_13, n41_14, n41_16, n41_17, n41_18, n41_19, n41_20, n41_21, n41_22, n41_23, n41_24, n41_25, n41_26, n41_27, n41_28, n41_29, n41_30, n41_31, n41_32, n41_33, n41_35, n41_36, n41_37, n41_38, n41_39, o41_1, o41_4, o41_6, o41_8, o41_10, o41_12, o41_16, o41_19, o41_23, o41_25, o41_28, o41_31, o41_33, o41_38, res41, TT_3, TT_4, TT_5, TT_9, TT_22, TT_25, TT_26, TT_29, TT_33, TT_38, TT_40, TT_42, TT_47, TT_50, TT_57, TT_59, TT_66, TT_68, TT_69, TT_70, TT_72, TT_81, bb, primP, primM, ev, evs, parts_, ofConst, bin, un, intBin, putA, enterT, Nat.reduceEqDiff, Nat.reduceAdd, Nat.reduceMul, Nat.reduceLeDiff, Nat.reduceLT, ↓reduceIte, reduceCtorEq, RunRes, resultsA, oneOf, AV.plain, AV.cells, AHeap.push, AHeap.set, AHeap.empty, fieldOf, loadA, storeA, BX.part, TK.isAgg, convA, builtinA, inertB, builtinP, buildA, fillA, splice, eqv, cellsEq, sizeT, adT, ldT, fwT, Nat.reduceBeqDiff, Nat.reduceBneDiff, Int.reduceBNe, Int.reduceBEq, Int.reduceEq, Int.reduceLT, Int.reduceLE, Int.reduceAdd, Int.reduceSub, Int.reduceMul, Int.reduceNeg, strBin, indexAddrA, elems, lenOf, chunk, List.reduceReplicate, Int.reduceToNat]
  generalize hA1 : upd (upd (upd (upd (upd A nx _) (nx + 1) _) (nx + 1) _) g _) hb _ = A1
  have b1 : A1 hb = .cells 72 2 [[.slc g 3 0 n, .fn 39 [] []]] := by
    rw [← hA1]; simp only [upd_app, ↓reduceIte]
  have b2 : A1 g = .cells 68 3 (RC vs N (fun i => if i = 0 then f n else f i)) := by
    rw [← hA1]; simp only [upd_app, e6, ↓reduceIte]
  have b3 : A1 (nx + 1) = .cells 68 3 [[vs (f 0).r, .int .i64 ((f 0).a : Int), .int .i64 ((f 0).r : Int)]] := by
    rw [← hA1]; simp only [upd_app, e10, e12, ↓reduceIte]
  have b4 : A1 nx = .cells 68 3 [[.nilS, .int .i64 0, .int .i64 0]] := by
    rw [← hA1]; simp only [upd_app, e7, e9, e11, ↓reduceIte]
  have b5 : ∀ c, c < nx → c ≠ hb → c ≠ g → A1 c = A c := by
    intro c hc h1 h2
    rw [← hA1]
    simp only [upd_app]
    rw [if_neg (by omega), if_neg (by omega), if_neg (by omega), if_neg (by omega), if_neg (by omega)]
  clear hA1
  rw [upd_back b2]
  refine pp_all (x := nx) (S := fun c => S c ∧ c ≠ f 0) (by omega) (show n ≤ N by omega) (by omega) (by omega) b1 (fun c hc => hS c hc.1) (fun c hc => (hV c hc.1).keep (Nat.le_refl _) (fun b hb' _ => b5 b (by omega) (by omega) (by omega))) ?_ n 0 _ _ (by omega) (Nat.zero_le _) ?_ ?_ ?_ ?_ ?_ (fun _ => Dn.start hp (f n)) (fun e => by omega) hC.pop
  · intro T' f' t2 t3 h1 h2
    simp only [t2, t3, b3, b4, e7, e8, e11, e12, run_inScope, run_nil, n41_0, n41_1, n41_2, n41_3, n41_4, n41_5, n41_6, n41_7, n41_8, n41_9, n41_10, n41_11, n41_12, n41_13, n41_14, n41_15, n41_16, n41_17, n41_18, n41_19, n41_20, n41_21, n41_22, n41_23, n41_24, n41_25, n41_26, n41_27, n41_28, n41_29, n41_30, n41_31, n41_32, n41_33, n41_35, n41_36, n41_37, n41_38, n41_39, o41_1, o41_4, o41_6, o41_8, o41_10, o41_12, o41_16, o41_19, o41_23, o41_25, o41_28, o41_31, o41_33, o41_38, res41, TT_3, TT_4, TT_5, TT_9, TT_22, TT_25, TT_26, TT_29, TT_33, TT_38, TT_40, TT_42, TT_47, TT_50, TT_57, TT_59, TT_66, TT_68, TT_69, TT_70, TT_72, TT_81, bb, primP, primM, ev, evs, parts_, ofConst, bin, un, intBin, putA, enterT, Nat.reduceEqDiff, Nat.reduceAdd, Nat.reduceMul, Nat.reduceLeDiff, Nat.reduceLT, ↓reduceIte, reduceCtorEq, RunRes, resultsA, oneOf, AV.plain, AV.cells, AHeap.push, AHeap.set, AHeap.empty, fieldOf, loadA, storeA, BX.part, TK.isAgg, convA, builtinA, inertB, builtinP, buildA, fillA, splice, eqv, cellsEq, sizeT, adT, ldT, fwT, Nat.reduceBeqDiff, Nat.reduceBneDiff, Int.reduceBNe, Int.reduceBEq, Int.reduceEq, Int.reduceLT, Int.reduceLE, Int.reduceAdd, Int.reduceSub, Int.reduceMul, Int.reduceNeg, strBin, indexAddrA, elems, lenOf, chunk, List.reduceReplicate, Int.reduceToNat]
    refine hk (f 0) _ _ f' hSx hmin ⟨by omega, .inr ⟨g, N, ?_, g1, by omega, by omega, ?_⟩⟩ h1 h2 (by omega) ?_
    · simp only [upd_app, e1, e5, ↓reduceIte]
      exact b1
    · simp only [upd_app, e3, ↓reduceIte]
    · intro c hc hch hcc
      have hcg : c ≠ g := by
        rintro rfl
        rcases hcc with h | h
        · omega
        · exact h _ g4
      simp only [upd_app]
      rw [if_neg (by omega), if_neg hcg]
      exact b5 c hc hch hcg
  all_goals simp only [upd_app, enterT, List.getElem?_cons_zero, Option.getD_some, Nat.reduceEqDiff, ↓reduceIte]
  all_goals rfl
end
end Go.Proofs.Ytbfjkomlnpolmaa.G

namespace Go.Proofs.Ytbfjkomlnpolmaa.G
open Go.BX
set_option linter.unusedSimpArgs false
set_option linter.unusedVariables false

/-! # Merging, in plain words -/

/-- What is left of the runs, one behind the other. -/
def rest (xs : Nat → List Pr) (R : Nat) (pos : Nat → Nat) : List Pr := (List.range R).flatMap fun r => (xs r).drop (pos r)

/-- The cursors of the runs that aren't through. -/
def Sp (xs : Nat → List Pr) (R : Nat) (pos : Nat → Nat) (c : Cur) : Prop := c.r < R ∧ c.a = pos c.r ∧ c.a < (xs c.r).length

def adv (pos : Nat → Nat) (r : Nat) : Nat → Nat := fun i => if i = r then pos r + 1 else pos i

theorem ofKey_flat (κ : Bytes) (f : Nat → List Pr) : ∀ l : List Nat, ofKey κ (l.flatMap f) = l.flatMap fun r => ofKey κ (f r)
  | [] => rfl
  | x :: l => by
    rw [List.flatMap_cons, List.flatMap_cons, ofKey_app, ofKey_flat κ f l]

theorem flat_split {R r0 : Nat} (h : r0 < R) (f : Nat → List Pr) : (List.range R).flatMap f = (List.range r0).flatMap f ++ (f r0 ++ ((List.range (R - r0 - 1)).map (fun i => r0 + 1 + i)).flatMap f) := by
  have e : R = (r0 + 1) + (R - r0 - 1) := by omega
  conv => lhs; rw [e, List.range_add, List.range_succ]
  rw [List.flatMap_append, List.flatMap_append]
  simp

theorem flat_nil {f : Nat → List Pr} {l : List Nat} (h : ∀ r, r ∈ l → f r = []) : l.flatMap f = [] := by
  rw [List.flatMap_eq_nil_iff]
  exact h

theorem flat_congr {f g : Nat → List Pr} {l : List Nat} (h : ∀ r, r ∈ l → f r = g r) : l.flatMap f = l.flatMap g := by
  induction l with
  | nil => rfl
  | cons x l ih =>
    rw [List.flatMap_cons, List.flatMap_cons, h x (by simp), ih (fun r hr => h r (by simp [hr]))]

theorem mem_of_sort {l m : List Pr} (h : IsSort l m) {p : Pr} (hp : p ∈ m) : p ∈ l := by
  have : p ∈ ofKey p.key m := mem_ofKey.mpr hp
  rw [h.keys] at this
  exact mem_ofKey.mp this

theorem ky_eq {xs : Nat → List Pr} {c : Cur} (h : c.a < (xs c.r).length) : ky xs c = ((xs c.r)[c.a]).key := by
  unfold ky; rw [fnOf_get h]

theorem sorted_ge {l : List Pr} (hs : l.Pairwise fun p q => ltP q p = false) {a : Nat} (h : a < l.length) {q : Pr} (hq : q ∈ l.drop a) : lessB q.key (l[a]).key = false := by
  obtain ⟨i, hi, rfl⟩ := List.getElem_of_mem hq
  rw [List.length_drop] at hi
  rw [List.getElem_drop]
  by_cases e : i = 0
  · subst e
    exact bl_irr _
  · exact List.pairwise_iff_getElem.mp hs a (a + i) h (by omega) (by omega)

/-- The least cursor's pair comes next. -/
theorem pick {xs : Nat → List Pr} {R : Nat} {pos : Nat → Nat} {x : Cur} {m : List Pr} (hs : ∀ r, r < R → (xs r).Pairwise fun p q => ltP q p = false) (hx : Sp xs R pos x) (hmin : ∀ c, Sp xs R pos c → ltC xs c x = false) (hm : IsSort (rest xs R pos) m) (hlen : (rest xs R pos).length ≤ 100000) :
    ∃ m', m = (xs x.r)[x.a]'hx.2.2 :: m' ∧ IsSort (rest xs R (adv pos x.r)) m' := by
  obtain ⟨hxR, hxa, hxl⟩ := hx
  generalize hp : (xs x.r)[x.a] = p
  have hkx : ky xs x = p.key := by rw [ky_eq hxl, hp]
  -- every other one comes no sooner
  have hge : ∀ r, r < R → ∀ q, q ∈ (xs r).drop (pos r) → lessB q.key p.key = false ∧ (r < x.r → q.key ≠ p.key) := by
    intro r hr q hq
    have hl : pos r < (xs r).length := by
      rw [← Decidable.not_not (p := pos r < (xs r).length)]
      intro h
      rw [List.drop_of_length_le (by omega)] at hq
      cases hq
    have hc := hmin ⟨r, pos r⟩ ⟨hr, rfl, hl⟩
    rw [ltC_false, hkx, ky_eq (c := ⟨r, pos r⟩) hl] at hc
    have hq' := sorted_ge (hs r hr) hl hq
    refine ⟨bl_le hc.1 hq', fun hlt e => ?_⟩
    have e2 : ((xs r)[pos r]).key = p.key := by
      refine bl_tot _ _ hc.1 ?_
      rw [← e]; exact hq'
    have := hc.2 e2
    simp only at this
    omega
  have hd : (xs x.r).drop (pos x.r) = p :: (xs x.r).drop (pos x.r + 1) := by
    subst hp
    rw [← hxa]
    exact List.drop_eq_getElem_cons hxl
  have hadv : ∀ r, r ≠ x.r → adv pos x.r r = pos r := fun r hr => by unfold adv; rw [if_neg hr]
  have hadv' : adv pos x.r x.r = pos x.r + 1 := by unfold adv; rw [if_pos rfl]
  have hlen' : (rest xs R pos).length = (rest xs R (adv pos x.r)).length + 1 := by
    unfold rest
    rw [flat_split hxR, flat_split hxR (fun r => (xs r).drop (adv pos x.r r))]
    rw [flat_congr (f := fun r => (xs r).drop (adv pos x.r r)) (g := fun r => (xs r).drop (pos r)) (l := List.range x.r) (fun r hr => by rw [hadv r (by have := List.mem_range.mp hr; omega)])]
    rw [flat_congr (f := fun r => (xs r).drop (adv pos x.r r)) (g := fun r => (xs r).drop (pos r)) (l := (List.range (R - x.r - 1)).map _) (fun r hr => by
      obtain ⟨i, _, rfl⟩ := List.mem_map.mp hr
      rw [hadv _ (by omega)])]
    simp only [hadv', hd, List.length_append, List.length_cons]
    omega
  obtain ⟨m', w, hm', _, _⟩ := RefSort_ok (l := rest xs R (adv pos x.r)) (.inr (.inr rfl)) (by omega)
  refine ⟨m', ?_, hm'⟩
  refine hm.uniq ⟨fun κ => ?_, ?_, ?_⟩
  · rw [show p :: m' = [p] ++ m' from rfl, ofKey_app, hm'.keys]
    unfold rest
    rw [ofKey_flat, ofKey_flat, flat_split hxR, flat_split hxR (fun r => ofKey κ ((xs r).drop (pos r)))]
    rw [flat_congr (f := fun r => ofKey κ ((xs r).drop (adv pos x.r r))) (g := fun r => ofKey κ ((xs r).drop (pos r))) (l := List.range x.r) (fun r hr => by rw [hadv r (by have := List.mem_range.mp hr; omega)])]
    rw [flat_congr (f := fun r => ofKey κ ((xs r).drop (adv pos x.r r))) (g := fun r => ofKey κ ((xs r).drop (pos r))) (l := (List.range (R - x.r - 1)).map _) (fun r hr => by
      obtain ⟨i, _, rfl⟩ := List.mem_map.mp hr
      rw [hadv _ (by omega)])]
    simp only [hadv', hd]
    rw [show p :: (xs x.r).drop (pos x.r + 1) = [p] ++ (xs x.r).drop (pos x.r + 1) from rfl, ofKey_app]
    by_cases e : p.key = κ
    · have : (List.range x.r).flatMap (fun r => ofKey κ ((xs r).drop (pos r))) = [] := by
        refine flat_nil fun r hr => ofKey_none fun q hq e2 => ?_
        have hr' := List.mem_range.mp hr
        exact (hge r (by omega) q hq).2 hr' (e2.trans e.symm)
      rw [this]
      simp
    · have : ofKey κ [p] = [] := ofKey_none fun q hq e2 => by
        simp only [List.mem_singleton] at hq
        subst hq; exact e e2
      rw [this]
      simp
  · refine List.pairwise_cons.mpr ⟨fun q hq => ?_, hm'.ord⟩
    have hq' := mem_of_sort hm' hq
    unfold rest at hq'
    obtain ⟨r, hr, hqr⟩ := List.mem_flatMap.mp hq'
    have hr' := List.mem_range.mp hr
    by_cases e : r = x.r
    · subst e
      rw [hadv'] at hqr
      exact (hge _ hr' q (by rw [hd]; exact List.mem_cons_of_mem _ hqr)).1
    · rw [hadv r e] at hqr
      exact (hge r hr' q hqr).1
  · rw [List.length_cons, hm'.len, hlen']

theorem Sp_next {xs : Nat → List Pr} {R : Nat} {pos : Nat → Nat} {x : Cur} (hx : Sp xs R pos x) (c : Cur) : Sp xs R (adv pos x.r) c ↔ ((x.a + 1 < (xs x.r).length ∧ c = ⟨x.r, x.a + 1⟩) ∨ (Sp xs R pos c ∧ c ≠ x)) := by
  obtain ⟨h1, h2, h3⟩ := hx
  obtain ⟨r, a⟩ := c
  obtain ⟨r0, a0⟩ := x
  simp only at h1 h2 h3
  subst h2
  unfold Sp adv
  simp only [Cur.mk.injEq, ne_eq]
  by_cases e : r = r0
  · subst e
    simp only [if_true, true_and]
    constructor
    · rintro ⟨h4, rfl, h5⟩
      exact .inl ⟨h5, rfl⟩
    · rintro (⟨h4, rfl⟩ | ⟨⟨h4, h5, h6⟩, h7⟩)
      · exact ⟨h1, rfl, h4⟩
      · exact absurd h5 h7
  · simp only [e, if_false, false_and, not_false_eq_true, and_true, and_false, false_or]

theorem rest_nil {xs : Nat → List Pr} {R : Nat} {pos : Nat → Nat} (h : ∀ c, ¬ Sp xs R pos c) : rest xs R pos = [] := by
  unfold rest
  refine flat_nil fun r hr => ?_
  have := h ⟨r, pos r⟩
  unfold Sp at this
  simp only [not_and] at this
  have := this (List.mem_range.mp hr) trivial
  exact List.drop_of_length_le (by omega)

theorem Cont.iff {α : Type} {n : Nat} {f : Nat → α} {S S' : α → Prop} (h : Cont n f S) (e : ∀ c, S' c ↔ S c) : Cont n f S' := by
  have : S' = S := funext fun c => propext (e c)
  rw [this]; exact h
end Go.Proofs.Ytbfjkomlnpolmaa.G

namespace Go.Proofs.Ytbfjkomlnpolmaa.G
open Go.BX
set_option linter.unusedSimpArgs false
set_option linter.unusedVariables false

/-! # merged: the pairs of all runs, in order -/

/-- The runs that come in. -/
structure RunsIn (hb : Nat) (A : Nat → Blk) (rv : AV) (R : Nat) (vs : Nat → AV) (xs : Nat → List Pr) : Prop where
  rows : (rv = .nilS ∧ R = 0) ∨ rv = .vec 1 ((List.range R).map fun r => [vs r]) ∨ ∃ g, rv = .slc g 1 0 R ∧ g < hb ∧ A g = .cells 22 1 ((List.range R).map fun r => [vs r])
  vals : ∀ r, r < R → RV hb A (vs r) (xs r)
  srt : ∀ r, r < R → (xs r).Pairwise fun p q => ltP q p = false
  len : ∀ r, r < R → (xs r).length ≤ 10000
  few : R ≤ 1000
  tot : (rest xs R (fun _ => 0)).length ≤ 100000

/-- What a round of the loop leaves as it is. -/
def Frm (hb nx : Nat) (A A' : Nat → Blk) : Prop := ∀ c, c < nx → (c = hb ∨ (∃ es, A c = .cells 68 3 es) ∨ (c < hb ∧ ∃ es, A c = .cells 42 6 es)) → A' c = A c

/-- What the heap's steps leave as it is. -/
def Oth (hb nx : Nat) (A A' : Nat → Blk) : Prop := ∀ c, c < nx → c ≠ hb → c < hb ∨ notCur (A c) → A' c = A c

section
variable {hb R : Nat} {vs : Nat → AV} {xs : Nat → List Pr} {Q : AV → AHeap → Prop} {l : Nat} {L : ALoop} {I : List Pr → Nat → (Nat → Blk) → Prop} {Stp : Nat → (Nat → Blk) → Prop} {m : List Pr}

/-- What a round does. -/
def Rnd (hb : Nat) (l : Nat) (L : ALoop) (I : List Pr → Nat → (Nat → Blk) → Prop) (Stp : Nat → (Nat → Blk) → Prop) (m : List Pr) : Prop :=
  ∀ (out more : List Pr) (p : Pr) (nx : Nat) (A : Nat → Blk) (Q : AV → AHeap → Prop), m = out ++ p :: more → hb < nx → I out nx A → (∀ nx' A', I (out ++ [p]) nx' A' → nx ≤ nx' → Frm hb nx A A' → Q (.bool true) ⟨nx', A'⟩) → (∀ nx' A', Stp nx' A' → Q (.bool false) ⟨nx', A'⟩) →
    Run Cx L.fn (foldPut L.T L.params [pairA p]) [] (some l) [.code L.assign, .beginRound, .code L.body] ⟨nx, A⟩ Q

theorem Sp_ok {pos : Nat → Nat} (hlen : ∀ r, r < R → (xs r).length ≤ 10000) (hR : R ≤ 1000) {c : Cur} (h : Sp xs R pos c) : OkC xs c := by
  obtain ⟨h1, h2, h3⟩ := h
  have := hlen c.r h1
  exact ⟨h3, by omega, by omega⟩

/-- The pairs, one after the other. -/
theorem mg_all (hlen : ∀ r, r < R → (xs r).length ≤ 10000) (hR : R ≤ 1000) (hsr : ∀ r, r < R → (xs r).Pairwise fun p q => ltP q p = false) (hpar : L.params.length = 1)
    (hI : ∀ out nx A, I out nx A → A l = .loop L) (hIk : ∀ out nx nx' A A', I out nx A → hb < nx → nx ≤ nx' → Oth hb nx A A' → I out nx' A')
    (hRnd : Rnd hb l L I Stp m) (hE : ∀ nx A, I m nx A → Q (.tuple []) ⟨nx, A⟩) (hStp : ∀ nx A, Stp nx A → Q (.tuple []) ⟨nx, A⟩) :
    ∀ (more out : List Pr) (T : Nat → AV) (nx : Nat) (A : Nat → Blk) (n : Nat) (f : Nat → Cur) (pos : Nat → Nat), m = out ++ more → T 0 = .yld l → T 3 = .ptr hb 2 0 0 → HL vs hb nx A n f → Heap (ltC xs) n f → Cont n f (Sp xs R pos) → n ≤ 1000 → (∀ r, r < R → RV hb A (vs r) (xs r)) → IsSort (rest xs R pos) more → (rest xs R pos).length ≤ 100000 → I out nx A →
      Run Cx 38 T [] none [.inLoop c38_25, .inBlock 2] ⟨nx, A⟩ Q := by
  intro more
  induction more with
  | nil =>
    intro out T nx A n f pos hm t0 t3 hH hp hC hn hV hs hrl hIo
    rw [run_inLoop]
    have hr0 : rest xs R pos = [] := List.eq_nil_of_length_eq_zero (hs.len.symm)
    have hn0 : n = 0 := by
      rw [← Decidable.not_not (p := n = 0)]
      intro hne
      have h0 := hC.mem 0 (by omega)
      obtain ⟨h1, h2, h3⟩ := h0
      unfold rest at hr0
      rw [List.flatMap_eq_nil_iff] at hr0
      have := hr0 (f 0).r (List.mem_range.mpr h1)
      have := congrArg List.length this
      rw [List.length_drop] at this
      simp only [List.length_nil] at this
      omega
    subst hn0
    rw [List.append_nil] at hm
    subst hm
    obtain ⟨hbn, hH⟩ := hH
    rcases hH with ⟨hA, _⟩ | ⟨g, N, hA, _⟩ <;>
    · simp only [t0, t3, hA, lenOf, i64, Int.cast_ofNat_Int, run_exit_start, exit_here, exit_code, exit_inLoop, run_inBlock, run_nil, n38_0, n38_1, n38_2, n38_3, n38_4, n38_5, n38_6, n38_7, n38_8, n38_9, n38_10, n38_11, n38_12, n38_13, n38_14, n38_15, n38_16, n38_17, n38_18, n38_19, n38_20, n38_21, n38_22, n38_23, n38_24, n38_25, n38_26, n38_27, n38_28, n38_29, n38_30, n38_31, n38_32, n38_33, n38_34, n38_35, n38_36, n38_37, n38_38, n38_39, n38_40, n38_41, n38_42, n38_43, n38_44, n38_45, n38_46, o38_1, o38_4, o38_8, o38_16, o38_18, o38_20, o38_22, o38_27, o38_33, o38_36, o38_41, o38_43, o38_45, res38, TT_3, TT_4, TT_5, TT_9, TT_22, TT_25, TT_26, TT_29, TT_33, TT_38, TT_40, TT_42, TT_47, TT_50, TT_57, TT_59, TT_66, TT_68, TT_69, TT_70, TT_72, TT_81, bb, primP, primM, ev, evs, parts_, ofConst, bin, un, intBin, putA, enterT, Nat.reduceEqDiff, Nat.reduceAdd, Nat.reduceMul, Nat.reduceLeDiff, Nat.reduceLT, ↓reduceIte, reduceCtorEq, RunRes, resultsA, oneOf, AV.plain, AV.cells, AHeap.push, AHeap.set, AHeap.empty, fieldOf, loadA, storeA, BX.part, TK.isAgg, convA, builtinA, inertB, builtinP, buildA, fillA, splice, eqv, cellsEq, sizeT, adT, ldT, fwT, Nat.reduceBeqDiff, Nat.reduceBneDiff, Int.reduceBNe, Int.reduceBEq, Int.reduceEq, Int.reduceLT, Int.reduceLE, Int.reduceAdd, Int.reduceSub, Int.reduceMul, Int.reduceNeg, strBin, indexAddrA, elems, lenOf, chunk, List.reduceReplicate, Int.reduceToNat]
      exact hE nx A hIo
  | cons p more ih =>
    intro out T nx A n f pos hm t0 t3 hH hp hC hn hV hs hrl hIo
    rw [run_inLoop]
    have hn0 : n ≠ 0 := by
      intro e
      subst e
      have : rest xs R pos = [] := rest_nil fun c hc => by
        obtain ⟨i, hi, _⟩ := hC.all c hc
        omega
      have h1 := hs.len
      rw [this] at h1
      simp at h1
    obtain ⟨n, rfl⟩ : ∃ n', n = n' + 1 := ⟨n - 1, by omega⟩
    have hS := fun c hc => Sp_ok (pos := pos) hlen hR (c := c) hc
    have c0 : (0 : Int) < ((n + 1 : Nat) : Int) := by omega
    have hH' := hH
    obtain ⟨hbn, hHc⟩ := hH
    rcases hHc with ⟨_, h0⟩ | ⟨g, N, hA, _⟩
    · omega
    simp only [t0, t3, hA, c0, lenOf, i64, run_exit_start, exit_here, exit_code, exit_inLoop, run_inBlock, n38_0, n38_1, n38_2, n38_3, n38_4, n38_5, n38_6, n38_7, n38_8, n38_9, n38_10, n38_11, n38_12, n38_13, n38_14, n38_15, n38_16, n38_17, n38_18, n38_19, n38_20, n38_21, n38_22, n38_23, n38_24, n38_25, n38_26, n38_27, n38_28, n38_29, n38_30, n38_31, n38_32, n38_33, n38_34, n38_36, n38_37, n38_38, n38_39, n38_41, n38_42, n38_43, n38_45, n38_46, o38_1, o38_4, o38_8, o38_16, o38_18, o38_20, o38_22, o38_27, o38_33, o38_36, o38_41, o38_43, o38_45, res38, TT_3, TT_4, TT_5, TT_9, TT_22, TT_25, TT_26, TT_29, TT_33, TT_38, TT_40, TT_42, TT_47, TT_50, TT_57, TT_59, TT_66, TT_68, TT_69, TT_70, TT_72, TT_81, bb, primP, primM, ev, evs, parts_, ofConst, bin, un, intBin, putA, enterT, Nat.reduceEqDiff, Nat.reduceAdd, Nat.reduceMul, Nat.reduceLeDiff, Nat.reduceLT, ↓reduceIte, reduceCtorEq, RunRes, resultsA, oneOf, AV.plain, AV.cells, AHeap.push, AHeap.set, AHeap.empty, fieldOf, loadA, storeA, BX.part, TK.isAgg, convA, builtinA, inertB, builtinP, buildA, fillA, splice, eqv, cellsEq, sizeT, adT, ldT, fwT, Nat.reduceBeqDiff, Nat.reduceBneDiff, Int.reduceBNe, Int.reduceBEq, Int.reduceEq, Int.reduceLT, Int.reduceLE, Int.reduceAdd, Int.reduceSub, Int.reduceMul, Int.reduceNeg, strBin, indexAddrA, elems, lenOf, chunk, List.reduceReplicate, Int.reduceToNat]
    refine pop_call (S := Sp xs R pos) (by omega) hH' hp hC hS (fun c hc => hV c.r hc.1) ?_
    intro x nx1 A1 f1 hSx hmin hH1 hp1 hC1 hn1 hO1
    have hxR := hSx.1
    have hxl := hSx.2.2
    obtain ⟨m', hpm, hs'⟩ := pick hsr hSx hmin hs hrl
    obtain ⟨rfl, rfl⟩ := List.cons.inj hpm
    have hI1 := hIk _ _ _ _ _ hIo hbn hn1 hO1
    have hV1 : ∀ r, r < R → RV hb A1 (vs r) (xs r) := fun r hr => (hV r hr).keep (Nat.le_refl _) (fun g hg _ => hO1 g (by omega) (by omega) (.inl hg))
    have hvx := hV1 x.r hxR
    have hpl := hvx.plain
    have hcl := hvx.cells
    have hln := hvx.lenOf
    simp only [AV.plain] at hpl
    simp only [AV.cells] at hcl
    simp only [lenOf] at hln
    have hxlen := hlen x.r hxR
    have hbn1 := hH1.1
    simp only [t0, t3, upd2, run_exit_start, exit_here, exit_code, exit_inLoop, run_inBlock, n38_0, n38_1, n38_2, n38_3, n38_4, n38_5, n38_6, n38_7, n38_8, n38_9, n38_10, n38_11, n38_12, n38_13, n38_14, n38_15, n38_16, n38_17, n38_18, n38_19, n38_20, n38_21, n38_22, n38_23, n38_24, n38_25, n38_26, n38_27, n38_28, n38_29, n38_30, n38_31, n38_32, n38_33, n38_34, n38_36, n38_37, n38_38, n38_39, n38_41, n38_42, n38_43, n38_45, n38_46, o38_1, o38_4, o38_8, o38_16, o38_18, o38_20, o38_22, o38_27, o38_33, o38_36, o38_41, o38_43, o38_45, res38, TT_3, TT_4, TT_5, TT_9, TT_22, TT_25, TT_26, TT_29, TT_33, TT_38, TT_40, TT_42, TT_47, TT_50, TT_57, TT_59, TT_66, TT_68, TT_69, TT_70, TT_72, TT_81, bb, primP, primM, ev, evs, parts_, ofConst, bin, un, intBin, putA, enterT, Nat.reduceEqDiff, Nat.reduceAdd, Nat.reduceMul, Nat.reduceLeDiff, Nat.reduceLT, ↓reduceIte, reduceCtorEq, RunRes, resultsA, oneOf, AV.plain, AV.cells, AHeap.push, AHeap.set, AHeap.empty, fieldOf, loadA, storeA, BX.part, TK.isAgg, convA, builtinA, inertB, builtinP, buildA, fillA, splice, eqv, cellsEq, sizeT, adT, ldT, fwT, Nat.reduceBeqDiff, Nat.reduceBneDiff, Int.reduceBNe, Int.reduceBEq, Int.reduceEq, Int.reduceLT, Int.reduceLE, Int.reduceAdd, Int.reduceSub, Int.reduceMul, Int.reduceNeg, strBin, indexAddrA, elems, lenOf, chunk, List.reduceReplicate, Int.reduceToNat]
    -- the cursor's own cell
    generalize hA2 : upd A1 nx1 (.cells 68 3 [[vs x.r, .int .i64 (x.a : Int), .int .i64 (x.r : Int)]]) = A2
    have hO2 : Oth hb nx1 A1 A2 := fun c hc _ _ => by rw [← hA2, upd_app, if_neg (by omega)]
    have hI2 := hIk _ _ _ _ _ hI1 hbn1 (Nat.le_succ nx1) hO2
    have hcell : A2 nx1 = .cells 68 3 [[vs x.r, .int .i64 (x.a : Int), .int .i64 (x.r : Int)]] := by rw [← hA2]; simp only [upd_app, ↓reduceIte]
    have hH2 : HL vs hb (nx1 + 1) A2 n f1 := hH1.keep (by omega) (fun g _ hg => by rw [← hA2, upd_app, if_neg (by omega)])
    have hV2 : ∀ r, r < R → RV hb A2 (vs r) (xs r) := fun r hr => (hV1 r hr).keep (Nat.le_refl _) (fun g hg _ => by rw [← hA2, upd_app, if_neg (by omega)])
    have p0 : (0 : Int) ≤ (x.a : Int) := by omega
    have l0 : (x.a : Int) < ((xs x.r).length : Int) := by omega
    have l1 : (x.a : Int) < (((xs x.r).map encP).length : Int) := by rw [List.length_map]; omega
    have g0 := enc_get (List.getElem?_eq_getElem hxl)
    -- behind the round
    have go : ∀ (T' : Nat → AV) (nx3 : Nat) (A3 : Nat → Blk), T' 0 = .yld l → T' 3 = .ptr hb 2 0 0 → T' 6 = .ptr nx1 3 0 0 → I (out ++ [(xs x.r)[x.a]]) nx3 A3 → nx1 + 1 ≤ nx3 → Frm hb (nx1 + 1) A2 A3 →
        Run Cx 38 T' [] none [.code c38_40, .inBlock 3, .inLoop c38_25, .inBlock 2] ⟨nx3, A3⟩ Q := by
      intro T' nx3 A3 t0 t3 t6 hI3 hn3 hF3
      have hcell3 : A3 nx1 = .cells 68 3 [[vs x.r, .int .i64 (x.a : Int), .int .i64 (x.r : Int)]] := by
        rw [hF3 nx1 (by omega) (.inr (.inl ⟨_, hcell⟩)), hcell]
      have w1 : IntKind.i64.wrap ((x.a : Int) + 1) = ((x.a + 1 : Nat) : Int) := by rw [wr64 (by omega) (by omega)]; omega
      have hH3 : HL vs hb nx3 A3 n f1 := by
        obtain ⟨a1, a2⟩ := hH2
        refine ⟨by omega, ?_⟩
        rcases a2 with ⟨a2, a3⟩ | ⟨g, N, a2, a3, a4, a5, a6⟩
        · exact .inl ⟨by rw [hF3 hb a1 (.inl rfl)]; exact a2, a3⟩
        · exact .inr ⟨g, N, by rw [hF3 hb a1 (.inl rfl)]; exact a2, a3, by omega, a5, by rw [hF3 g a4 (.inr (.inl ⟨_, a6⟩))]; exact a6⟩
      have hV3 : ∀ r, r < R → RV hb A3 (vs r) (xs r) := fun r hr => (hV2 r hr).keep (Nat.le_refl _) (fun g hg hgA => hF3 g (by omega) (.inr (.inr ⟨hg, ⟨_, hgA⟩⟩)))
      generalize hA4 : upd A3 nx1 (.cells 68 3 [[vs x.r, .int .i64 ((x.a + 1 : Nat) : Int), .int .i64 (x.r : Int)]]) = A4
      have hgne : ∀ g, hb ≤ g → g < nx1 + 1 → (g = hb ∨ ∃ N, A2 g = .cells 68 3 (RC vs N f1) ∧ n ≤ N ∧ g ≠ nx1) → A4 g = A3 g := by
        intro g hg1 hg2 hg3
        rw [← hA4, upd_app, if_neg ?_]
        rintro rfl
        rcases hg3 with h | ⟨N, _, _, h⟩
        · omega
        · exact h rfl
      have hH4 : HL vs hb nx3 A4 n f1 := by
        obtain ⟨a1, a2⟩ := hH1
        obtain ⟨b1, b2⟩ := hH3
        refine ⟨b1, ?_⟩
        rcases a2 with ⟨a2, a3⟩ | ⟨g, N, a2, a3, a4, a5, a6⟩
        · refine .inl ⟨?_, a3⟩
          rw [← hA4, upd_app, if_neg (by omega), hF3 hb (by omega) (.inl rfl), ← hA2, upd_app, if_neg (by omega)]
          exact a2
        · refine .inr ⟨g, N, ?_, a3, by omega, a5, ?_⟩
          · rw [← hA4, upd_app, if_neg (by omega), hF3 hb (by omega) (.inl rfl), ← hA2, upd_app, if_neg (by omega)]
            exact a2
          · have hg2 : A2 g = A1 g := by rw [← hA2, upd_app, if_neg (by omega)]
            rw [← hA4, upd_app, if_neg (by omega), hF3 g (by omega) (.inr (.inl ⟨_, by rw [hg2]; exact a6⟩)), hg2]
            exact a6
      have hV4 : ∀ r, r < R → RV hb A4 (vs r) (xs r) := fun r hr => (hV3 r hr).keep (Nat.le_refl _) (fun g hg hgA => by rw [← hA4, upd_app, if_neg (by omega)])
      have hO4 : Oth hb nx3 A3 A4 := fun c hc h1 h2 => by
        rw [← hA4, upd_app, if_neg ?_]
        rintro rfl
        rcases h2 with h | h
        · omega
        · exact h _ hcell3
      have hI4 := hIk _ _ _ _ _ hI3 (by omega) (Nat.le_refl _) hO4
      have hrl' : (rest xs R (adv pos x.r)).length ≤ 100000 := by
        have e1 := hs'.len
        have e2 := hs.len
        rw [List.length_cons] at e2
        omega
      have hm3 : m = (out ++ [(xs x.r)[x.a]]) ++ more := by rw [hm]; simp
      by_cases hlast : x.a + 1 < (xs x.r).length
      · have c1 : ((x.a + 1 : Nat) : Int) < ((xs x.r).length : Int) := by omega
        simp only [t0, t3, t6, hcell3, upd2, hln, hpl, hcl, c1, w1, lenOf, i64, run_exit_start, exit_here, exit_code, exit_inLoop, run_inBlock, n38_0, n38_1, n38_2, n38_3, n38_4, n38_5, n38_6, n38_7, n38_8, n38_9, n38_10, n38_11, n38_12, n38_13, n38_14, n38_15, n38_16, n38_17, n38_18, n38_19, n38_20, n38_21, n38_22, n38_23, n38_24, n38_26, n38_27, n38_28, n38_29, n38_30, n38_31, n38_32, n38_33, n38_34, n38_35, n38_36, n38_37, n38_38, n38_39, n38_40, n38_41, n38_42, n38_43, n38_44, n38_45, n38_46, o38_1, o38_4, o38_8, o38_16, o38_18, o38_20, o38_22, o38_27, o38_33, o38_36, o38_41, o38_43, o38_45, res38, TT_3, TT_4, TT_5, TT_9, TT_22, TT_25, TT_26, TT_29, TT_33, TT_38, TT_40, TT_42, TT_47, TT_50, TT_57, TT_59, TT_66, TT_68, TT_69, TT_70, TT_72, TT_81, bb, primP, primM, ev, evs, parts_, ofConst, bin, un, intBin, putA, enterT, Nat.reduceEqDiff, Nat.reduceAdd, Nat.reduceMul, Nat.reduceLeDiff, Nat.reduceLT, ↓reduceIte, reduceCtorEq, RunRes, resultsA, oneOf, AV.plain, AV.cells, AHeap.push, AHeap.set, AHeap.empty, fieldOf, loadA, storeA, BX.part, TK.isAgg, convA, builtinA, inertB, builtinP, buildA, fillA, splice, eqv, cellsEq, sizeT, adT, ldT, fwT, Nat.reduceBeqDiff, Nat.reduceBneDiff, Int.reduceBNe, Int.reduceBEq, Int.reduceEq, Int.reduceLT, Int.reduceLE, Int.reduceAdd, Int.reduceSub, Int.reduceMul, Int.reduceNeg, strBin, indexAddrA, elems, lenOf, chunk, List.reduceReplicate, Int.reduceToNat]
        rw [hA4]
        refine push_call (S := fun c => Sp xs R pos c ∧ c ≠ x) (x := ⟨x.r, x.a + 1⟩) (by omega) hH4 hp1 hC1 (fun c hc => hS c hc.1) ?_ ⟨hlast, by simp only; omega, by simp only; omega⟩ ?_ ?_
        · rintro ⟨⟨_, h, _⟩, _⟩
          have := hSx.2.1
          simp only at h
          omega
        · rintro c (rfl | hc)
          · exact hV4 x.r hxR
          · exact hV4 c.r hc.1.1
        · intro nx5 A5 f5 hH5 hp5 hC5 hn5 hO5
          simp only [run_exit_start, exit_here, exit_code, exit_inLoop, run_inBlock, n38_0, n38_1, n38_2, n38_3, n38_4, n38_5, n38_6, n38_7, n38_8, n38_9, n38_10, n38_11, n38_12, n38_13, n38_14, n38_15, n38_16, n38_17, n38_18, n38_19, n38_20, n38_21, n38_22, n38_23, n38_24, n38_26, n38_27, n38_28, n38_29, n38_30, n38_31, n38_32, n38_33, n38_34, n38_35, n38_36, n38_37, n38_38, n38_39, n38_40, n38_41, n38_42, n38_43, n38_44, n38_45, n38_46, o38_1, o38_4, o38_8, o38_16, o38_18, o38_20, o38_22, o38_27, o38_33, o38_36, o38_41, o38_43, o38_45, res38, TT_3, TT_4, TT_5, TT_9, TT_22, TT_25, TT_26, TT_29, TT_33, TT_38, TT_40, TT_42, TT_47, TT_50, TT_57, TT_59, TT_66, TT_68, TT_69, TT_70, TT_72, TT_81, bb, primP, primM, ev, evs, parts_, ofConst, bin, un, intBin, putA, enterT, Nat.reduceEqDiff, Nat.reduceAdd, Nat.reduceMul, Nat.reduceLeDiff, Nat.reduceLT, ↓reduceIte, reduceCtorEq, RunRes, resultsA, oneOf, AV.plain, AV.cells, AHeap.push, AHeap.set, AHeap.empty, fieldOf, loadA, storeA, BX.part, TK.isAgg, convA, builtinA, inertB, builtinP, buildA, fillA, splice, eqv, cellsEq, sizeT, adT, ldT, fwT, Nat.reduceBeqDiff, Nat.reduceBneDiff, Int.reduceBNe, Int.reduceBEq, Int.reduceEq, Int.reduceLT, Int.reduceLE, Int.reduceAdd, Int.reduceSub, Int.reduceMul, Int.reduceNeg, strBin, indexAddrA, elems, lenOf, chunk, List.reduceReplicate, Int.reduceToNat]
          refine ih (out ++ [(xs x.r)[x.a]]) _ nx5 A5 (n + 1) f5 (adv pos x.r) hm3 ?_ ?_ hH5 hp5 (hC5.iff fun c => ?_) hn ?_ hs' hrl' (hIk _ _ _ _ _ hI4 (by omega) hn5 hO5)
          · simp only [upd_app, t0, Nat.reduceEqDiff, ↓reduceIte]
          · simp only [upd_app, t3, Nat.reduceEqDiff, ↓reduceIte]
          · rw [Sp_next hSx c]
            simp only [hlast, true_and]
          · exact fun r hr => (hV4 r hr).keep (Nat.le_refl _) (fun g hg _ => hO5 g (by omega) (by omega) (.inl hg))
      · have c1 : ¬ ((x.a + 1 : Nat) : Int) < ((xs x.r).length : Int) := by omega
        simp only [t0, t3, t6, hcell3, upd2, hln, hpl, hcl, c1, w1, lenOf, i64, run_exit_start, exit_here, exit_code, exit_inLoop, run_inBlock, n38_0, n38_1, n38_2, n38_3, n38_4, n38_5, n38_6, n38_7, n38_8, n38_9, n38_10, n38_11, n38_12, n38_13, n38_14, n38_15, n38_16, n38_17, n38_18, n38_19, n38_20, n38_21, n38_22, n38_23, n38_24, n38_26, n38_27, n38_28, n38_29, n38_30, n38_31, n38_32, n38_33, n38_34, n38_35, n38_36, n38_37, n38_38, n38_39, n38_40, n38_41, n38_42, n38_43, n38_44, n38_45, n38_46, o38_1, o38_4, o38_8, o38_16, o38_18, o38_20, o38_22, o38_27, o38_33, o38_36, o38_41, o38_43, o38_45, res38, TT_3, TT_4, TT_5, TT_9, TT_22, TT_25, TT_26, TT_29, TT_33, TT_38, TT_40, TT_42, TT_47, TT_50, TT_57, TT_59, TT_66, TT_68, TT_69, TT_70, TT_72, TT_81, bb, primP, primM, ev, evs, parts_, ofConst, bin, un, intBin, putA, enterT, Nat.reduceEqDiff, Nat.reduceAdd, Nat.reduceMul, Nat.reduceLeDiff, Nat.reduceLT, ↓reduceIte, reduceCtorEq, RunRes, resultsA, oneOf, AV.plain, AV.cells, AHeap.push, AHeap.set, AHeap.empty, fieldOf, loadA, storeA, BX.part, TK.isAgg, convA, builtinA, inertB, builtinP, buildA, fillA, splice, eqv, cellsEq, sizeT, adT, ldT, fwT, Nat.reduceBeqDiff, Nat.reduceBneDiff, Int.reduceBNe, Int.reduceBEq, Int.reduceEq, Int.reduceLT, Int.reduceLE, Int.reduceAdd, Int.reduceSub, Int.reduceMul, Int.reduceNeg, strBin, indexAddrA, elems, lenOf, chunk, List.reduceReplicate, Int.reduceToNat]
        rw [hA4]
        refine ih (out ++ [(xs x.r)[x.a]]) _ nx3 A4 n f1 (adv pos x.r) hm3 ?_ ?_ hH4 hp1 (hC1.iff fun c => ?_) (by omega) hV4 hs' hrl' hI4
        · simp only [upd_app, t0, Nat.reduceEqDiff, ↓reduceIte]
        · simp only [upd_app, t3, Nat.reduceEqDiff, ↓reduceIte]
        · rw [Sp_next hSx c]
          simp only [hlast, false_and, false_or]
    have hv2 := hV2 x.r hxR
    rcases hv2 with hv | ⟨gv, hv, hgv, hgA⟩
    · have hv' := hv.vec (fun e => by rw [e] at hxl; simp at hxl)
      rw [hv'] at hcell
      simp only [t0, t3, hcell, p0, l1, g0, Int.toNat_natCast, run_exit_start, exit_here, exit_code, exit_inLoop, run_inBlock, n38_0, n38_1, n38_2, n38_3, n38_4, n38_5, n38_6, n38_7, n38_8, n38_9, n38_10, n38_11, n38_12, n38_13, n38_14, n38_15, n38_16, n38_17, n38_18, n38_19, n38_20, n38_21, n38_22, n38_23, n38_24, n38_25, n38_26, n38_27, n38_28, n38_29, n38_30, n38_31, n38_32, n38_33, n38_34, n38_35, n38_36, n38_37, n38_38, n38_39, n38_41, n38_42, n38_43, n38_44, n38_45, n38_46, o38_1, o38_4, o38_8, o38_16, o38_18, o38_20, o38_22, o38_27, o38_33, o38_36, o38_41, o38_43, o38_45, res38, TT_3, TT_4, TT_5, TT_9, TT_22, TT_25, TT_26, TT_29, TT_33, TT_38, TT_40, TT_42, TT_47, TT_50, TT_57, TT_59, TT_66, TT_68, TT_69, TT_70, TT_72, TT_81, bb, primP, primM, ev, evs, parts_, ofConst, bin, un, intBin, putA, enterT, Nat.reduceEqDiff, Nat.reduceAdd, Nat.reduceMul, Nat.reduceLeDiff, Nat.reduceLT, ↓reduceIte, reduceCtorEq, RunRes, resultsA, oneOf, AV.plain, AV.cells, AHeap.push, AHeap.set, AHeap.empty, fieldOf, loadA, storeA, BX.part, TK.isAgg, convA, builtinA, inertB, builtinP, buildA, fillA, splice, eqv, cellsEq, sizeT, adT, ldT, fwT, Nat.reduceBeqDiff, Nat.reduceBneDiff, Int.reduceBNe, Int.reduceBEq, Int.reduceEq, Int.reduceLT, Int.reduceLE, Int.reduceAdd, Int.reduceSub, Int.reduceMul, Int.reduceNeg, strBin, indexAddrA, elems, lenOf, chunk, List.reduceReplicate, Int.reduceToNat]
      refine runA_yield (L := L) ?_ ?_ (hI _ _ _ hI2) hpar.symm ?_
      · simp only [evs, ev, upd_app, t0, t3, Nat.reduceEqDiff, ↓reduceIte]
      · simp only [evs, ev, upd_app, t0, t3, Nat.reduceEqDiff, ↓reduceIte]
      refine hRnd out more (xs x.r)[x.a] (nx1 + 1) A2 _ hm (by omega) hI2 ?_ ?_
      · intro nx3 A3 hI3 hn3 hF3
        simp only [run_exit_start, exit_here, exit_code, exit_inLoop, run_inBlock, n38_0, n38_1, n38_2, n38_3, n38_4, n38_5, n38_6, n38_7, n38_8, n38_9, n38_10, n38_11, n38_12, n38_13, n38_14, n38_15, n38_16, n38_17, n38_18, n38_19, n38_20, n38_21, n38_22, n38_23, n38_24, n38_25, n38_26, n38_27, n38_28, n38_29, n38_30, n38_31, n38_32, n38_33, n38_34, n38_35, n38_36, n38_37, n38_38, n38_39, n38_41, n38_42, n38_43, n38_44, n38_45, n38_46, o38_1, o38_4, o38_8, o38_16, o38_18, o38_20, o38_22, o38_27, o38_33, o38_36, o38_41, o38_43, o38_45, res38, TT_3, TT_4, TT_5, TT_9, TT_22, TT_25, TT_26, TT_29, TT_33, TT_38, TT_40, TT_42, TT_47, TT_50, TT_57, TT_59, TT_66, TT_68, TT_69, TT_70, TT_72, TT_81, bb, primP, primM, ev, evs, parts_, ofConst, bin, un, intBin, putA, enterT, Nat.reduceEqDiff, Nat.reduceAdd, Nat.reduceMul, Nat.reduceLeDiff, Nat.reduceLT, ↓reduceIte, reduceCtorEq, RunRes, resultsA, oneOf, AV.plain, AV.cells, AHeap.push, AHeap.set, AHeap.empty, fieldOf, loadA, storeA, BX.part, TK.isAgg, convA, builtinA, inertB, builtinP, buildA, fillA, splice, eqv, cellsEq, sizeT, adT, ldT, fwT, Nat.reduceBeqDiff, Nat.reduceBneDiff, Int.reduceBNe, Int.reduceBEq, Int.reduceEq, Int.reduceLT, Int.reduceLE, Int.reduceAdd, Int.reduceSub, Int.reduceMul, Int.reduceNeg, strBin, indexAddrA, elems, lenOf, chunk, List.reduceReplicate, Int.reduceToNat]
        refine go _ nx3 A3 ?_ ?_ ?_ hI3 hn3 hF3
        all_goals simp only [upd_app, t0, t3, Nat.reduceEqDiff, ↓reduceIte]
      · intro nx3 A3 h
        simp only [run_exit_start, exit_here, exit_code, exit_inLoop, run_inBlock, n38_0, n38_1, n38_2, n38_3, n38_4, n38_5, n38_6, n38_7, n38_8, n38_9, n38_10, n38_11, n38_12, n38_13, n38_14, n38_15, n38_16, n38_17, n38_18, n38_19, n38_20, n38_21, n38_22, n38_23, n38_24, n38_25, n38_26, n38_27, n38_28, n38_29, n38_30, n38_31, n38_32, n38_33, n38_34, n38_35, n38_36, n38_37, n38_38, n38_39, n38_40, n38_41, n38_42, n38_43, n38_44, n38_45, n38_46, o38_1, o38_4, o38_8, o38_16, o38_18, o38_20, o38_22, o38_27, o38_33, o38_36, o38_41, o38_43, o38_45, res38, TT_3, TT_4, TT_5, TT_9, TT_22, TT_25, TT_26, TT_29, TT_33, TT_38, TT_40, TT_42, TT_47, TT_50, TT_57, TT_59, TT_66, TT_68, TT_69, TT_70, TT_72, TT_81, bb, primP, primM, ev, evs, parts_, ofConst, bin, un, intBin, putA, enterT, Nat.reduceEqDiff, Nat.reduceAdd, Nat.reduceMul, Nat.reduceLeDiff, Nat.reduceLT, ↓reduceIte, reduceCtorEq, RunRes, resultsA, oneOf, AV.plain, AV.cells, AHeap.push, AHeap.set, AHeap.empty, fieldOf, loadA, storeA, BX.part, TK.isAgg, convA, builtinA, inertB, builtinP, buildA, fillA, splice, eqv, cellsEq, sizeT, adT, ldT, fwT, Nat.reduceBeqDiff, Nat.reduceBneDiff, Int.reduceBNe, Int.reduceBEq, Int.reduceEq, Int.reduceLT, Int.reduceLE, Int.reduceAdd, Int.reduceSub, Int.reduceMul, Int.reduceNeg, strBin, indexAddrA, elems, lenOf, chunk, List.reduceReplicate, Int.reduceToNat]
        exact hStp _ _ h
    · rw [hv] at hcell
      simp only [t0, t3, hcell, hgA, p0, l0, l1, g0, Int.toNat_natCast, run_exit_start, exit_here, exit_code, exit_inLoop, run_inBlock, n38_0, n38_1, n38_2, n38_3, n38_4, n38_5, n38_6, n38_7, n38_8, n38_9, n38_10, n38_11, n38_12, n38_13, n38_14, n38_15, n38_16, n38_17, n38_18, n38_19, n38_20, n38_21, n38_22, n38_23, n38_24, n38_25, n38_26, n38_27, n38_28, n38_29, n38_30, n38_31, n38_32, n38_33, n38_34, n38_35, n38_36, n38_37, n38_38, n38_39, n38_41, n38_42, n38_43, n38_44, n38_45, n38_46, o38_1, o38_4, o38_8, o38_16, o38_18, o38_20, o38_22, o38_27, o38_33, o38_36, o38_41, o38_43, o38_45, res38, TT_3, TT_4, TT_5, TT_9, TT_22, TT_25, TT_26, TT_29, TT_33, TT_38, TT_40, TT_42, TT_47, TT_50, TT_57, TT_59, TT_66, TT_68, TT_69, TT_70, TT_72, TT_81, bb, primP, primM, ev, evs, parts_, ofConst, bin, un, intBin, putA, enterT, Nat.reduceEqDiff, Nat.reduceAdd, Nat.reduceMul, Nat.reduceLeDiff, Nat.reduceLT, ↓reduceIte, reduceCtorEq, RunRes, resultsA, oneOf, AV.plain, AV.cells, AHeap.push, AHeap.set, AHeap.empty, fieldOf, loadA, storeA, BX.part, TK.isAgg, convA, builtinA, inertB, builtinP, buildA, fillA, splice, eqv, cellsEq, sizeT, adT, ldT, fwT, Nat.reduceBeqDiff, Nat.reduceBneDiff, Int.reduceBNe, Int.reduceBEq, Int.reduceEq, Int.reduceLT, Int.reduceLE, Int.reduceAdd, Int.reduceSub, Int.reduceMul, Int.reduceNeg, strBin, indexAddrA, elems, lenOf, chunk, List.reduceReplicate, Int.reduceToNat]
      refine runA_yield (L := L) ?_ ?_ (hI _ _ _ hI2) hpar.symm ?_
      · simp only [evs, ev, upd_app, t0, t3, Nat.reduceEqDiff, ↓reduceIte]
      · simp only [evs, ev, upd_app, t0, t3, Nat.reduceEqDiff, ↓reduceIte]
      refine hRnd out more (xs x.r)[x.a] (nx1 + 1) A2 _ hm (by omega) hI2 ?_ ?_
      · intro nx3 A3 hI3 hn3 hF3
        simp only [run_exit_start, exit_here, exit_code, exit_inLoop, run_inBlock, n38_0, n38_1, n38_2, n38_3, n38_4, n38_5, n38_6, n38_7, n38_8, n38_9, n38_10, n38_11, n38_12, n38_13, n38_14, n38_15, n38_16, n38_17, n38_18, n38_19, n38_20, n38_21, n38_22, n38_23, n38_24, n38_25, n38_26, n38_27, n38_28, n38_29, n38_30, n38_31, n38_32, n38_33, n38_34, n38_35, n38_36, n38_37, n38_38, n38_39, n38_41, n38_42, n38_43, n38_44, n38_45, n38_46, o38_1, o38_4, o38_8, o38_16, o38_18, o38_20, o38_22, o38_27, o38_33, o38_36, o38_41, o38_43, o38_45, res38, TT_3, TT_4, TT_5, TT_9, TT_22, TT_25, TT_26, TT_29, TT_33, TT_38, TT_40, TT_42, TT_47, TT_50, TT_57, TT_59, TT_66, TT_68, TT_69, TT_70, TT_72, TT_81, bb, primP, primM, ev, evs, parts_, ofConst, bin, un, intBin, putA, enterT, Nat.reduceEqDiff, Nat.reduceAdd, Nat.reduceMul, Nat.reduceLeDiff, Nat.reduceLT, ↓reduceIte, reduceCtorEq, RunRes, resultsA, oneOf, AV.plain, AV.cells, AHeap.push, AHeap.set, AHeap.empty, fieldOf, loadA, storeA, BX.part, TK.isAgg, convA, builtinA, inertB, builtinP, buildA, fillA, splice, eqv, cellsEq, sizeT, adT, ldT, fwT, Nat.reduceBeqDiff, Nat.reduceBneDiff, Int.reduceBNe, Int.reduceBEq, Int.reduceEq, Int.reduceLT, Int.reduceLE, Int.reduceAdd, Int.reduceSub, Int.reduceMul, Int.reduceNeg, strBin, indexAddrA, elems, lenOf, chunk, List.reduceReplicate, Int.reduceToNat]
        refine go _ nx3 A3 ?_ ?_ ?_ hI3 hn3 hF3
        all_goals simp only [upd_app, t0, t3, Nat.reduceEqDiff, ↓reduceIte]
      · intro nx3 A3 h
        simp only [run_exit_start, exit_here, exit_code, exit_inLoop, run_inBlock, n38_0, n38_1, n38_2, n38_3, n38_4, n38_5, n38_6, n38_7, n38_8, n38_9, n38_10, n38_11, n38_12, n38_13, n38_14, n38_15, n38_16, n38_17, n38_18, n38_19, n38_20, n38_21, n38_22, n38_23, n38_24, n38_25, n38_26, n38_27, n38_28, n38_29, n38_30, n38_31, n38_32, n38_33, n38_34, n38_35, n38_36, n38_37, n38_38, n38_39, n38_40, n38_41, n38_42, n38_43, n38_44, n38_45, n38_46, o38_1, o38_4, o38_8, o38_16, o38_18, o38_20, o38_22, o38_27, o38_33, o38_36, o38_41, o38_43, o38_45, res38, TT_3, TT_4, TT_5, TT_9, TT_22, TT_25, TT_26, TT_29, TT_33, TT_38, TT_40, TT_42, TT_47, TT_50, TT_57, TT_59, TT_66, TT_68, TT_69, TT_70, TT_72, TT_81, bb, primP, primM, ev, evs, parts_, ofConst, bin, un, intBin, putA, enterT, Nat.reduceEqDiff, Nat.reduceAdd, Nat.reduceMul, Nat.reduceLeDiff, Nat.reduceLT, ↓reduceIte, reduceCtorEq, RunRes, resultsA, oneOf, AV.plain, AV.cells, AHeap.push, AHeap.set, AHeap.empty, fieldOf, loadA, storeA, BX.part, TK.isAgg, convA, builtinA, inertB, builtinP, buildA, fillA, splice, eqv, cellsEq, sizeT, adT, ldT, fwT, Nat.reduceBeqDiff, Nat.reduceBneDiff, Int.reduceBNe, Int.reduceBEq, Int.reduceEq, Int.reduceLT, Int.reduceLE, Int.reduceAdd, Int.reduceSub, Int.reduceMul, Int.reduceNeg, strBin, indexAddrA, elems, lenOf, chunk, List.reduceReplicate, Int.reduceToNat]
        exact hStp _ _ h
end
end Go.Proofs.Ytbfjkomlnpolmaa.G

namespace Go.Proofs.Ytbfjkomlnpolmaa.G
open Go.BX
set_option linter.unusedSimpArgs false
set_option linter.unusedVariables false

section
variable {hb R : Nat} {vs : Nat → AV} {xs : Nat → List Pr} {Q : AV → AHeap → Prop} {l : Nat} {L : ALoop} {I : List Pr → Nat → (Nat → Blk) → Prop} {Stp : Nat → (Nat → Blk) → Prop} {m : List Pr}

theorem rows_r {R i : Nat} {vs : Nat → AV} (h : i < R) : ((List.range R).map fun r => [vs r])[i]? = some [vs i] := by
  rw [List.getElem?_map, List.getElem?_range h]
  rfl

/-- The cursors are laid. -/
theorem ml_all {A0 : Nat → Blk} {rv : AV} (hin : RunsIn hb A0 rv R vs xs) (hpar : L.params.length = 1)
    (hI : ∀ out nx A, I out nx A → A l = .loop L) (hIk : ∀ out nx nx' A A', I out nx A → hb < nx → nx ≤ nx' → Oth hb nx A A' → I out nx' A')
    (hRnd : Rnd hb l L I Stp m) (hE : ∀ nx A, I m nx A → Q (.tuple []) ⟨nx, A⟩) (hStp : ∀ nx A, Stp nx A → Q (.tuple []) ⟨nx, A⟩) (hm : IsSort (rest xs R (fun _ => 0)) m) :
    ∀ (j i : Nat) (T : Nat → AV) (nx : Nat) (A : Nat → Blk) (n : Nat) (f : Nat → Cur), i + j = R → T 0 = .yld l → T 3 = .ptr hb 2 0 0 → T 9 = rv → T 10 = .int .i64 (R : Int) → T 11 = .int .i64 (i : Int) → HL vs hb nx A n f → Heap (ltC xs) n f → Cont n f (fun c => Sp xs R (fun _ => 0) c ∧ c.r < i) → n ≤ i → (∀ c, c < hb → A c = A0 c) → I [] nx A →
      Run Cx 38 T [] none [.inLoop c38_7, .inBlock 0, .code c38_23] ⟨nx, A⟩ Q := by
  have hV : ∀ A, (∀ c, c < hb → A c = A0 c) → ∀ r, r < R → RV hb A (vs r) (xs r) := fun A hA r hr => (hin.vals r hr).keep (Nat.le_refl _) (fun g hg _ => hA g hg)
  have hfew := hin.few
  intro j
  induction j with
  | zero =>
    intro i T nx A n f hij t0 t3 t9 t10 t11 hH hp hC hn hk hIo
    rw [run_inLoop]
    have c0 : ¬ (i : Int) < (R : Int) := by omega
    simp only [t0, t3, t9, t10, t11, c0, run_exit_start, exit_here, exit_code, exit_inLoop, run_inBlock, n38_0, n38_1, n38_2, n38_3, n38_4, n38_5, n38_6, n38_7, n38_8, n38_9, n38_10, n38_11, n38_12, n38_13, n38_14, n38_15, n38_16, n38_17, n38_18, n38_19, n38_20, n38_21, n38_22, n38_23, n38_24, n38_26, n38_27, n38_28, n38_29, n38_30, n38_31, n38_32, n38_33, n38_34, n38_35, n38_36, n38_37, n38_38, n38_39, n38_40, n38_41, n38_42, n38_43, n38_44, n38_45, n38_46, o38_1, o38_4, o38_8, o38_16, o38_18, o38_20, o38_22, o38_27, o38_33, o38_36, o38_41, o38_43, o38_45, res38, TT_3, TT_4, TT_5, TT_9, TT_22, TT_25, TT_26, TT_29, TT_33, TT_38, TT_40, TT_42, TT_47, TT_50, TT_57, TT_59, TT_66, TT_68, TT_69, TT_70, TT_72, TT_81, bb, primP, primM, ev, evs, parts_, ofConst, bin, un, intBin, putA, enterT, Nat.reduceEqDiff, Nat.reduceAdd, Nat.reduceMul, Nat.reduceLeDiff, Nat.reduceLT, ↓reduceIte, reduceCtorEq, RunRes, resultsA, oneOf, AV.plain, AV.cells, AHeap.push, AHeap.set, AHeap.empty, fieldOf, loadA, storeA, BX.part, TK.isAgg, convA, builtinA, inertB, builtinP, buildA, fillA, splice, eqv, cellsEq, sizeT, adT, ldT, fwT, Nat.reduceBeqDiff, Nat.reduceBneDiff, Int.reduceBNe, Int.reduceBEq, Int.reduceEq, Int.reduceLT, Int.reduceLE, Int.reduceAdd, Int.reduceSub, Int.reduceMul, Int.reduceNeg, strBin, indexAddrA, elems, lenOf, chunk, List.reduceReplicate, Int.reduceToNat]
    refine mg_all (vs := vs) (L := L) hin.len hin.few hin.srt hpar hI hIk hRnd hE hStp m [] _ nx A n f (fun _ => 0) rfl ?_ ?_ hH hp (hC.iff fun c => ⟨fun h => ⟨h, by have := h.1; omega⟩, fun h => h.1⟩) (by omega) (hV A hk) hm hin.tot hIo
    all_goals simp only [upd_app, t0, t3, Nat.reduceEqDiff, ↓reduceIte]
  | succ j ih =>
    intro i T nx A n f hij t0 t3 t9 t10 t11 hH hp hC hn hk hIo
    rw [run_inLoop]
    have hi : i < R := by omega
    have c0 : (i : Int) < (R : Int) := by omega
    have p0 : (0 : Int) ≤ (i : Int) := by omega
    have w1 : IntKind.i64.wrap ((i : Int) + 1) = ((i + 1 : Nat) : Int) := by rw [wr64 (by omega) (by omega)]; omega
    have hvi := hV A hk i hi
    have hpl := hvi.plain
    have hcl := hvi.cells
    have hln := hvi.lenOf
    simp only [AV.plain] at hpl
    simp only [AV.cells] at hcl
    simp only [lenOf] at hln
    have hg := rows_r (vs := vs) hi
    have l1 : (i : Int) < (((List.range R).map fun r => [vs r]).length : Int) := by rw [List.length_map, List.length_range]; omega
    have hbn := hH.1
    have hlen := hin.len i hi
    -- behind the read of a run
    have go : ∀ (T' : Nat → AV), T' 0 = .yld l → T' 3 = .ptr hb 2 0 0 → T' 9 = rv → T' 10 = .int .i64 (R : Int) → T' 11 = .int .i64 (i : Int) → T' 4 = .int .i64 (i : Int) → T' 5 = vs i →
        Run Cx 38 T' [] none [.code c38_17, .inBlock 1, .code c38_22, .inLoop c38_7, .inBlock 0, .code c38_23] ⟨nx, A⟩ Q := by
      intro T' t0 t3 t9 t10 t11 t4 t5
      by_cases hx0 : xs i = []
      · rw [hx0] at hln
        simp only [List.length_nil] at hln
        simp only [t0, t3, t9, t10, t11, t4, t5, hln, w1, lenOf, i64, Int.cast_ofNat_Int, run_exit_start, exit_here, exit_code, exit_inLoop, run_inBlock, n38_0, n38_1, n38_2, n38_3, n38_4, n38_5, n38_6, n38_8, n38_9, n38_10, n38_11, n38_12, n38_13, n38_14, n38_15, n38_16, n38_17, n38_18, n38_19, n38_20, n38_21, n38_22, n38_24, n38_25, n38_26, n38_27, n38_28, n38_29, n38_30, n38_31, n38_32, n38_33, n38_34, n38_35, n38_36, n38_37, n38_38, n38_39, n38_40, n38_41, n38_42, n38_43, n38_44, n38_45, n38_46, o38_1, o38_4, o38_8, o38_16, o38_18, o38_20, o38_22, o38_27, o38_33, o38_36, o38_41, o38_43, o38_45, res38, TT_3, TT_4, TT_5, TT_9, TT_22, TT_25, TT_26, TT_29, TT_33, TT_38, TT_40, TT_42, TT_47, TT_50, TT_57, TT_59, TT_66, TT_68, TT_69, TT_70, TT_72, TT_81, bb, primP, primM, ev, evs, parts_, ofConst, bin, un, intBin, putA, enterT, Nat.reduceEqDiff, Nat.reduceAdd, Nat.reduceMul, Nat.reduceLeDiff, Nat.reduceLT, ↓reduceIte, reduceCtorEq, RunRes, resultsA, oneOf, AV.plain, AV.cells, AHeap.push, AHeap.set, AHeap.empty, fieldOf, loadA, storeA, BX.part, TK.isAgg, convA, builtinA, inertB, builtinP, buildA, fillA, splice, eqv, cellsEq, sizeT, adT, ldT, fwT, Nat.reduceBeqDiff, Nat.reduceBneDiff, Int.reduceBNe, Int.reduceBEq, Int.reduceEq, Int.reduceLT, Int.reduceLE, Int.reduceAdd, Int.reduceSub, Int.reduceMul, Int.reduceNeg, strBin, indexAddrA, elems, lenOf, chunk, List.reduceReplicate, Int.reduceToNat]
        refine ih (i + 1) _ nx A n f (by omega) ?_ ?_ ?_ ?_ ?_ hH hp (hC.iff fun c => ⟨fun h => ⟨h.1, ?_⟩, fun h => ⟨h.1, by omega⟩⟩) (by omega) hk hIo
        rotate_right
        · have h2 := h.1.2.2
          have h3 := h.2
          rw [← Decidable.not_not (p := c.r < i)]
          intro h4
          have : c.r = i := by omega
          rw [this, hx0] at h2
          simp at h2
        all_goals simp only [upd_app, t0, t3, t9, t10, Nat.reduceEqDiff, ↓reduceIte]
      · have c1 : (0 : Int) < ((xs i).length : Int) := by
          have := List.length_pos_iff.mpr hx0
          omega
        simp only [t0, t3, t9, t10, t11, t4, t5, hln, hpl, hcl, c1, lenOf, i64, run_exit_start, exit_here, exit_code, exit_inLoop, run_inBlock, n38_0, n38_1, n38_2, n38_3, n38_4, n38_5, n38_6, n38_8, n38_9, n38_10, n38_11, n38_12, n38_13, n38_14, n38_15, n38_16, n38_17, n38_18, n38_19, n38_20, n38_21, n38_24, n38_25, n38_26, n38_27, n38_28, n38_29, n38_30, n38_31, n38_32, n38_33, n38_34, n38_35, n38_36, n38_37, n38_38, n38_39, n38_40, n38_41, n38_42, n38_43, n38_44, n38_45, n38_46, o38_1, o38_4, o38_8, o38_16, o38_18, o38_20, o38_22, o38_27, o38_33, o38_36, o38_41, o38_43, o38_45, res38, TT_3, TT_4, TT_5, TT_9, TT_22, TT_25, TT_26, TT_29, TT_33, TT_38, TT_40, TT_42, TT_47, TT_50, TT_57, TT_59, TT_66, TT_68, TT_69, TT_70, TT_72, TT_81, bb, primP, primM, ev, evs, parts_, ofConst, bin, un, intBin, putA, enterT, Nat.reduceEqDiff, Nat.reduceAdd, Nat.reduceMul, Nat.reduceLeDiff, Nat.reduceLT, ↓reduceIte, reduceCtorEq, RunRes, resultsA, oneOf, AV.plain, AV.cells, AHeap.push, AHeap.set, AHeap.empty, fieldOf, loadA, storeA, BX.part, TK.isAgg, convA, builtinA, inertB, builtinP, buildA, fillA, splice, eqv, cellsEq, sizeT, adT, ldT, fwT, Nat.reduceBeqDiff, Nat.reduceBneDiff, Int.reduceBNe, Int.reduceBEq, Int.reduceEq, Int.reduceLT, Int.reduceLE, Int.reduceAdd, Int.reduceSub, Int.reduceMul, Int.reduceNeg, strBin, indexAddrA, elems, lenOf, chunk, List.reduceReplicate, Int.reduceToNat]
        refine push_call (vs := vs) (S := fun c => Sp xs R (fun _ => 0) c ∧ c.r < i) (x := ⟨i, 0⟩) (by omega) hH hp hC (fun c hc => Sp_ok hin.len hin.few hc.1) ?_ ⟨List.length_pos_iff.mpr hx0, by simp only; omega, by simp only; omega⟩ ?_ ?_
        · rintro ⟨_, h⟩
          simp only at h
          omega
        · rintro c (rfl | hc)
          · exact hvi
          · exact hV A hk c.r hc.1.1
        · intro nx' A' f' hH' hp' hC' hn' hO'
          simp only [t0, t3, t9, t10, t11, t4, t5, w1, run_exit_start, exit_here, exit_code, exit_inLoop, run_inBlock, n38_0, n38_1, n38_2, n38_3, n38_4, n38_5, n38_6, n38_8, n38_9, n38_10, n38_11, n38_12, n38_13, n38_14, n38_15, n38_16, n38_17, n38_18, n38_19, n38_20, n38_21, n38_22, n38_24, n38_25, n38_26, n38_27, n38_28, n38_29, n38_30, n38_31, n38_32, n38_33, n38_34, n38_35, n38_36, n38_37, n38_38, n38_39, n38_40, n38_41, n38_42, n38_43, n38_44, n38_45, n38_46, o38_1, o38_4, o38_8, o38_16, o38_18, o38_20, o38_22, o38_27, o38_33, o38_36, o38_41, o38_43, o38_45, res38, TT_3, TT_4, TT_5, TT_9, TT_22, TT_25, TT_26, TT_29, TT_33, TT_38, TT_40, TT_42, TT_47, TT_50, TT_57, TT_59, TT_66, TT_68, TT_69, TT_70, TT_72, TT_81, bb, primP, primM, ev, evs, parts_, ofConst, bin, un, intBin, putA, enterT, Nat.reduceEqDiff, Nat.reduceAdd, Nat.reduceMul, Nat.reduceLeDiff, Nat.reduceLT, ↓reduceIte, reduceCtorEq, RunRes, resultsA, oneOf, AV.plain, AV.cells, AHeap.push, AHeap.set, AHeap.empty, fieldOf, loadA, storeA, BX.part, TK.isAgg, convA, builtinA, inertB, builtinP, buildA, fillA, splice, eqv, cellsEq, sizeT, adT, ldT, fwT, Nat.reduceBeqDiff, Nat.reduceBneDiff, Int.reduceBNe, Int.reduceBEq, Int.reduceEq, Int.reduceLT, Int.reduceLE, Int.reduceAdd, Int.reduceSub, Int.reduceMul, Int.reduceNeg, strBin, indexAddrA, elems, lenOf, chunk, List.reduceReplicate, Int.reduceToNat]
          refine ih (i + 1) _ nx' A' (n + 1) f' (by omega) ?_ ?_ ?_ ?_ ?_ hH' hp' (hC'.iff fun c => ?_) (by omega) (fun c hc => by rw [hO' c (by omega) (by omega) (.inl hc)]; exact hk c hc) (hIk _ _ _ _ _ hIo hbn hn' hO')
          rotate_right
          · constructor
            · rintro ⟨h1, h2⟩
              by_cases e : c.r = i
              · left
                obtain ⟨r, a⟩ := c
                simp only at e
                subst e
                have := h1.2.1
                simp only at this
                subst this
                rfl
              · exact .inr ⟨h1, by omega⟩
            · rintro (rfl | ⟨h1, h2⟩)
              · exact ⟨⟨hi, rfl, List.length_pos_iff.mpr hx0⟩, by simp only; omega⟩
              · exact ⟨h1, by omega⟩
          all_goals simp only [upd_app, t0, t3, t9, t10, Nat.reduceEqDiff, ↓reduceIte]
    rcases hin.rows with ⟨rfl, h0⟩ | rfl | ⟨g, rfl, hg1, hg2⟩
    · omega
    · simp only [t0, t3, t9, t10, t11, c0, p0, l1, hg, Int.toNat_natCast, run_exit_start, exit_here, exit_code, exit_inLoop, run_inBlock, n38_0, n38_1, n38_2, n38_3, n38_4, n38_5, n38_6, n38_7, n38_8, n38_9, n38_10, n38_11, n38_12, n38_13, n38_14, n38_15, n38_16, n38_18, n38_19, n38_20, n38_21, n38_24, n38_25, n38_26, n38_27, n38_28, n38_29, n38_30, n38_31, n38_32, n38_33, n38_34, n38_35, n38_36, n38_37, n38_38, n38_39, n38_40, n38_41, n38_42, n38_43, n38_44, n38_45, n38_46, o38_1, o38_4, o38_8, o38_16, o38_18, o38_20, o38_22, o38_27, o38_33, o38_36, o38_41, o38_43, o38_45, res38, TT_3, TT_4, TT_5, TT_9, TT_22, TT_25, TT_26, TT_29, TT_33, TT_38, TT_40, TT_42, TT_47, TT_50, TT_57, TT_59, TT_66, TT_68, TT_69, TT_70, TT_72, TT_81, bb, primP, primM, ev, evs, parts_, ofConst, bin, un, intBin, putA, enterT, Nat.reduceEqDiff, Nat.reduceAdd, Nat.reduceMul, Nat.reduceLeDiff, Nat.reduceLT, ↓reduceIte, reduceCtorEq, RunRes, resultsA, oneOf, AV.plain, AV.cells, AHeap.push, AHeap.set, AHeap.empty, fieldOf, loadA, storeA, BX.part, TK.isAgg, convA, builtinA, inertB, builtinP, buildA, fillA, splice, eqv, cellsEq, sizeT, adT, ldT, fwT, Nat.reduceBeqDiff, Nat.reduceBneDiff, Int.reduceBNe, Int.reduceBEq, Int.reduceEq, Int.reduceLT, Int.reduceLE, Int.reduceAdd, Int.reduceSub, Int.reduceMul, Int.reduceNeg, strBin, indexAddrA, elems, lenOf, chunk, List.reduceReplicate, Int.reduceToNat]
      refine go _ ?_ ?_ ?_ ?_ ?_ ?_ ?_
      all_goals simp only [upd_app, t0, t3, t9, t10, t11, Nat.reduceEqDiff, ↓reduceIte]
    · have hAg := (hk g hg1).trans hg2
      simp only [t0, t3, t9, t10, t11, c0, p0, hAg, hg, Int.toNat_natCast, run_exit_start, exit_here, exit_code, exit_inLoop, run_inBlock, n38_0, n38_1, n38_2, n38_3, n38_4, n38_5, n38_6, n38_7, n38_8, n38_9, n38_10, n38_11, n38_12, n38_13, n38_14, n38_15, n38_16, n38_18, n38_19, n38_20, n38_21, n38_24, n38_25, n38_26, n38_27, n38_28, n38_29, n38_30, n38_31, n38_32, n38_33, n38_34, n38_35, n38_36, n38_37, n38_38, n38_39, n38_40, n38_41, n38_42, n38_43, n38_44, n38_45, n38_46, o38_1, o38_4, o38_8, o38_16, o38_18, o38_20, o38_22, o38_27, o38_33, o38_36, o38_41, o38_43, o38_45, res38, TT_3, TT_4, TT_5, TT_9, TT_22, TT_25, TT_26, TT_29, TT_33, TT_38, TT_40, TT_42, TT_47, TT_50, TT_57, TT_59, TT_66, TT_68, TT_69, TT_70, TT_72, TT_81, bb, primP, primM, ev, evs, parts_, ofConst, bin, un, intBin, putA, enterT, Nat.reduceEqDiff, Nat.reduceAdd, Nat.reduceMul, Nat.reduceLeDiff, Nat.reduceLT, ↓reduceIte, reduceCtorEq, RunRes, resultsA, oneOf, AV.plain, AV.cells, AHeap.push, AHeap.set, AHeap.empty, fieldOf, loadA, storeA, BX.part, TK.isAgg, convA, builtinA, inertB, builtinP, buildA, fillA, splice, eqv, cellsEq, sizeT, adT, ldT, fwT, Nat.reduceBeqDiff, Nat.reduceBneDiff, Int.reduceBNe, Int.reduceBEq, Int.reduceEq, Int.reduceLT, Int.reduceLE, Int.reduceAdd, Int.reduceSub, Int.reduceMul, Int.reduceNeg, strBin, indexAddrA, elems, lenOf, chunk, List.reduceReplicate, Int.reduceToNat]
      refine go _ ?_ ?_ ?_ ?_ ?_ ?_ ?_
      all_goals simp only [upd_app, t0, t3, t9, t10, t11, Nat.reduceEqDiff, ↓reduceIte]

/-- The iterator, called. -/
theorem merged_run {nx b1 : Nat} {A : Nat → Blk} {rv : AV} (hin : RunsIn nx A rv R vs xs) (hb1 : A b1 = .cells 29 1 [[rv]]) (hb1n : b1 < nx) (hpar : L.params.length = 1)
    (hI : ∀ out nx A, I out nx A → A l = .loop L) (hIk : ∀ out nx' nx'' A A', I out nx' A → nx < nx' → nx' ≤ nx'' → Oth nx nx' A A' → I out nx'' A')
    (hRnd : Rnd nx l L I Stp m) (hE : ∀ nx A, I m nx A → Q (.tuple []) ⟨nx, A⟩) (hStp : ∀ nx A, Stp nx A → Q (.tuple []) ⟨nx, A⟩) (hm : IsSort (rest xs R (fun _ => 0)) m) (hI0 : ∀ A', (∀ c, c < nx → A' c = A c) → I [] (nx + 1) A') :
    Run Cx 38 (enterT ([] ++ [.yld l] ++ [.ptr b1 1 0 0])) [] none [.code c38_0] ⟨nx, A⟩ Q := by
  have hlen : ∃ z, lenOf rv = some z ∧ z = R := by
    rcases hin.rows with ⟨rfl, h0⟩ | rfl | ⟨g, rfl, hg1, hg2⟩
    · exact ⟨0, rfl, h0.symm⟩
    · exact ⟨_, rfl, by rw [List.length_map, List.length_range]⟩
    · exact ⟨_, rfl, rfl⟩
  obtain ⟨z, hz, rfl⟩ := hlen
  simp only [lenOf] at hz
  have e1 : (b1 = nx) = False := eq_false (by omega)
  simp only [hb1, e1, hz, lenOf, i64, n38_0, n38_1, n38_2, n38_3, n38_4, n38_5, n38_6, n38_8, n38_9, n38_10, n38_11, n38_12, n38_13, n38_14, n38_15, n38_16, n38_17, n38_18, n38_19, n38_20, n38_21, n38_22, n38_24, n38_25, n38_26, n38_27, n38_28, n38_29, n38_30, n38_31, n38_32, n38_33, n38_34, n38_35, n38_36, n38_37, n38_38, n38_39, n38_40, n38_41, n38_42, n38_43, n38_44, n38_45, n38_46, o38_1, o38_4, o38_8, o38_16, o38_18, o38_20, o38_22, o38_27, o38_33, o38_36, o38_41, o38_43, o38_45, res38, TT_3, TT_4, TT_5, TT_9, TT_22, TT_25, TT_26, TT_29, TT_33, TT_38, TT_40, TT_42, TT_47, TT_50, TT_57, TT_59, TT_66, TT_68, TT_69, TT_70, TT_72, TT_81, bb, primP, primM, ev, evs, parts_, ofConst, bin, un, intBin, putA, enterT, Nat.reduceEqDiff, Nat.reduceAdd, Nat.reduceMul, Nat.reduceLeDiff, Nat.reduceLT, ↓reduceIte, reduceCtorEq, RunRes, resultsA, oneOf, AV.plain, AV.cells, AHeap.push, AHeap.set, AHeap.empty, fieldOf, loadA, storeA, BX.part, TK.isAgg, convA, builtinA, inertB, builtinP, buildA, fillA, splice, eqv, cellsEq, sizeT, adT, ldT, fwT, Nat.reduceBeqDiff, Nat.reduceBneDiff, Int.reduceBNe, Int.reduceBEq, Int.reduceEq, Int.reduceLT, Int.reduceLE, Int.reduceAdd, Int.reduceSub, Int.reduceMul, Int.reduceNeg, strBin, indexAddrA, elems, lenOf, chunk, List.reduceReplicate, Int.reduceToNat]
  generalize hA' : upd A nx _ = A'
  have hk : ∀ c, c < nx → A' c = A c := fun c hc => by rw [← hA', upd_app, if_neg (by omega)]
  refine ml_all (hb := nx) (vs := vs) (xs := xs) (L := L) (A0 := A) (rv := rv) hin hpar hI hIk hRnd hE hStp hm z 0 _ (nx + 1) A' 0 (fun _ => ⟨0, 0⟩) (by omega) ?_ ?_ ?_ ?_ ?_ ⟨by omega, .inl ⟨?_, rfl⟩⟩ (fun i h0 hi => by omega) ⟨fun i hi => by omega, fun c hc => by have := hc.2; omega, fun i j hi => by omega⟩ (Nat.le_refl _) hk (hI0 A' hk)
  rotate_right
  · rw [← hA']; simp only [upd_app, ↓reduceIte]
  all_goals simp only [upd_app, enterT, List.nil_append, List.cons_append, List.getElem?_cons_zero, List.getElem?_cons_succ, Option.getD_some, Nat.reduceEqDiff, ↓reduceIte]
  all_goals rfl
end
end Go.Proofs.Ytbfjkomlnpolmaa.G

namespace Go.Proofs.Ytbfjkomlnpolmaa.G
open Go.BX
set_option linter.unusedSimpArgs false
set_option linter.unusedVariables false

/-! # Merge -/

def isOrd (l : List Pr) : Bool := decide (l.Pairwise fun p q => ltP q p = false)

theorem Ordered_ok' {v : AV} {l : List Pr} (hv : InE v l) (hl : l.length ≤ 1000000) : PCall Cx 12 [v] (.bool (isOrd l)) := by
  obtain ⟨b, hb, hb'⟩ := Ordered_ok hv hl
  have : b = isOrd l := by
    unfold isOrd
    rw [Bool.eq_iff_iff, decide_eq_true_eq]
    exact hb'
  rw [← this]; exact hb

theorem notOrd_ok {v : AV} {l : List Pr} (hv : InE v l) (hl : l.length ≤ 1000000) : PCall Cx 32 [v] (.bool (!isOrd l)) := by
  refine pcall_run (noext _) body32 ?_
  have f0 : [v].all AV.flat = true := by simp [hv.flat]
  simp only [call_pure pure12 f0 (Ordered_ok' hv hl), n32_0, n32_1, n32_2, n32_3, n32_4, o32_1, o32_3, res32, TT_3, TT_4, TT_5, TT_9, TT_22, TT_25, TT_26, TT_29, TT_33, TT_38, TT_40, TT_42, TT_47, TT_50, TT_57, TT_59, TT_66, TT_68, TT_69, TT_70, TT_72, TT_81, bb, primP, primM, ev, evs, parts_, ofConst, bin, un, intBin, putA, enterT, Nat.reduceEqDiff, Nat.reduceAdd, Nat.reduceMul, Nat.reduceLeDiff, Nat.reduceLT, ↓reduceIte, reduceCtorEq, RunRes, resultsA, oneOf, AV.plain, AV.cells, AHeap.push, AHeap.set, AHeap.empty, fieldOf, loadA, storeA, BX.part, TK.isAgg, convA, builtinA, inertB, builtinP, buildA, fillA, splice, eqv, cellsEq, sizeT, adT, ldT, fwT, Nat.reduceBeqDiff, Nat.reduceBneDiff, Int.reduceBNe, Int.reduceBEq, Int.reduceEq, Int.reduceLT, Int.reduceLE, Int.reduceAdd, Int.reduceSub, Int.reduceMul, Int.reduceNeg, strBin, indexAddrA, elems, lenOf, chunk, List.reduceReplicate, Int.reduceToNat]

def idxU : List (AV × List Pr) → Int → Int
  | [], _ => -1
  | x :: l, i => if isOrd x.2 = true then idxU l (i + 1) else i

theorem idxU_rng : ∀ (l : List (AV × List Pr)) (i : Int), 0 ≤ i → -1 ≤ idxU l i
  | [], i, h => by simp [idxU]
  | p :: l, i, h => by
    unfold idxU
    split
    · exact idxU_rng l (i + 1) (by omega)
    · omega

theorem idxU_good : ∀ (l : List (AV × List Pr)) (i : Int), 0 ≤ i → (idxU l i < 0 ↔ ∀ p, p ∈ l → isOrd p.2 = true)
  | [], i, h => by simp [idxU]
  | p :: l, i, h => by
    unfold idxU
    have ih := idxU_good l (i + 1) (by omega)
    cases hb : isOrd p.2 with
    | false => simp [hb]; omega
    | true => simp [hb, ih]

section
variable {fn : FuncId} {T : Nat → AV} {ds : List ADef} {ro : Option Nat} {k : List AItem} {Q : AV → AHeap → Prop} {dst : Option Nat} {os : List AO} {H : AHeap}

theorem ui_all {l : List (AV × List Pr)} {H : AHeap} {Q : AV → AHeap → Prop} (hl : l.length ≤ 1000) (hx : ∀ x, x ∈ l → InE x.1 x.2 ∧ x.2.length ≤ 100000) : ∀ (j i : Nat), i + j = l.length → Q (.int .i64 (idxU (l.drop i) (i : Int))) H → ∀ (T : Nat → AV), T 0 = .vec 1 (rowsR l) → T 1 = .fn 32 [] [] → T 7 = .int .i64 ((rowsR l).length : Int) → T 8 = .int .i64 (i : Int) →
    Run Cx 42 T [] none [.inLoop c42_7, .inBlock 0, .code c42_25] H Q
  | 0, i, hij, hQ => by
    intro T t0 t1 t7 t8
    rw [run_inLoop]
    have h0 : ((i : Int) < ((rowsR l).length : Int)) = False := eq_false (by rw [rowsR, List.length_map]; omega)
    rw [List.drop_of_length_le (show l.length ≤ i by omega)] at hQ
    have hQ' : Q (.int .i64 (-1)) H := hQ
    simp only [t0, t1, t7, t8, h0, run_exit_start, exit_here, exit_code, exit_inLoop, run_inBlock, n42_0, n42_1, n42_2, n42_3, n42_4, n42_5, n42_6, n42_7, n42_8, n42_9, n42_10, n42_11, n42_12, n42_13, n42_14, n42_15, n42_16, n42_17, n42_18, n42_19, n42_20, n42_21, n42_22, n42_23, n42_24, n42_25, n42_26, n42_27, o42_1, o42_4, o42_8, o42_16, o42_18, o42_21, o42_24, o42_26, res42, TT_3, TT_4, TT_5, TT_9, TT_22, TT_25, TT_26, TT_29, TT_33, TT_38, TT_40, TT_42, TT_47, TT_50, TT_57, TT_59, TT_66, TT_68, TT_69, TT_70, TT_72, TT_81, bb, primP, primM, ev, evs, parts_, ofConst, bin, un, intBin, putA, enterT, Nat.reduceEqDiff, Nat.reduceAdd, Nat.reduceMul, Nat.reduceLeDiff, Nat.reduceLT, ↓reduceIte, reduceCtorEq, RunRes, resultsA, oneOf, AV.plain, AV.cells, AHeap.push, AHeap.set, AHeap.empty, fieldOf, loadA, storeA, BX.part, TK.isAgg, convA, builtinA, inertB, builtinP, buildA, fillA, splice, eqv, cellsEq, sizeT, adT, ldT, fwT, Nat.reduceBeqDiff, Nat.reduceBneDiff, Int.reduceBNe, Int.reduceBEq, Int.reduceEq, Int.reduceLT, Int.reduceLE, Int.reduceAdd, Int.reduceSub, Int.reduceMul, Int.reduceNeg, strBin, indexAddrA, elems, lenOf, chunk, List.reduceReplicate, Int.reduceToNat]
    exact hQ'
  | j + 1, i, hij, hQ => by
    intro T t0 t1 t7 t8
    rw [run_inLoop]
    have hi : i < l.length := by omega
    have h0 : ((i : Int) < ((rowsR l).length : Int)) = True := eq_true (by rw [rowsR, List.length_map]; omega)
    have hi0 : (0 : Int) ≤ (i : Int) := by omega
    have hg : (rowsR l)[i]? = some [(l[i]).1] := rows_at hi
    obtain ⟨hie, hil⟩ := hx _ (List.getElem_mem hi)
    have hb := notOrd_ok hie (by omega)
    have f0 : [(l[i]).1].all AV.flat = true := by simp [hie.flat]
    have w1 : IntKind.i64.wrap ((i : Int) + 1) = ((i + 1 : Nat) : Int) := by rw [wr64 (by omega) (by omega)]; omega
    rw [List.drop_eq_getElem_cons hi] at hQ
    unfold idxU at hQ
    cases hbb : isOrd (l[i]).2 with
    | false =>
      rw [hbb] at hQ hb
      rw [if_neg (by simp)] at hQ
      simp only [t0, t1, t7, t8, h0, hi0, hg, Int.toNat_natCast, call_pure pure32 f0 hb, run_exit_start, exit_here, exit_code, exit_inLoop, run_inBlock, n42_0, n42_1, n42_2, n42_3, n42_4, n42_5, n42_6, n42_7, n42_8, n42_9, n42_10, n42_11, n42_12, n42_13, n42_14, n42_15, n42_16, n42_17, n42_18, n42_19, n42_20, n42_21, n42_22, n42_23, n42_24, n42_25, n42_26, n42_27, o42_1, o42_4, o42_8, o42_16, o42_18, o42_21, o42_24, o42_26, res42, TT_3, TT_4, TT_5, TT_9, TT_22, TT_25, TT_26, TT_29, TT_33, TT_38, TT_40, TT_42, TT_47, TT_50, TT_57, TT_59, TT_66, TT_68, TT_69, TT_70, TT_72, TT_81, bb, primP, primM, ev, evs, parts_, ofConst, bin, un, intBin, putA, enterT, Nat.reduceEqDiff, Nat.reduceAdd, Nat.reduceMul, Nat.reduceLeDiff, Nat.reduceLT, ↓reduceIte, reduceCtorEq, RunRes, resultsA, oneOf, AV.plain, AV.cells, AHeap.push, AHeap.set, AHeap.empty, fieldOf, loadA, storeA, BX.part, TK.isAgg, convA, builtinA, inertB, builtinP, buildA, fillA, splice, eqv, cellsEq, sizeT, adT, ldT, fwT, Nat.reduceBeqDiff, Nat.reduceBneDiff, Int.reduceBNe, Int.reduceBEq, Int.reduceEq, Int.reduceLT, Int.reduceLE, Int.reduceAdd, Int.reduceSub, Int.reduceMul, Int.reduceNeg, strBin, indexAddrA, elems, lenOf, chunk, List.reduceReplicate, Int.reduceToNat]
      exact hQ
    | true =>
      rw [hbb] at hQ hb
      rw [if_pos rfl] at hQ
      simp only [t0, t1, t7, t8, h0, hi0, hg, w1, Int.toNat_natCast, call_pure pure32 f0 hb, run_exit_start, exit_here, exit_code, exit_inLoop, run_inBlock, n42_0, n42_1, n42_2, n42_3, n42_4, n42_5, n42_6, n42_7, n42_8, n42_9, n42_10, n42_11, n42_12, n42_13, n42_14, n42_15, n42_16, n42_17, n42_18, n42_19, n42_20, n42_21, n42_22, n42_23, n42_24, n42_25, n42_26, n42_27, o42_1, o42_4, o42_8, o42_16, o42_18, o42_21, o42_24, o42_26, res42, TT_3, TT_4, TT_5, TT_9, TT_22, TT_25, TT_26, TT_29, TT_33, TT_38, TT_40, TT_42, TT_47, TT_50, TT_57, TT_59, TT_66, TT_68, TT_69, TT_70, TT_72, TT_81, bb, primP, primM, ev, evs, parts_, ofConst, bin, un, intBin, putA, enterT, Nat.reduceEqDiff, Nat.reduceAdd, Nat.reduceMul, Nat.reduceLeDiff, Nat.reduceLT, ↓reduceIte, reduceCtorEq, RunRes, resultsA, oneOf, AV.plain, AV.cells, AHeap.push, AHeap.set, AHeap.empty, fieldOf, loadA, storeA, BX.part, TK.isAgg, convA, builtinA, inertB, builtinP, buildA, fillA, splice, eqv, cellsEq, sizeT, adT, ldT, fwT, Nat.reduceBeqDiff, Nat.reduceBneDiff, Int.reduceBNe, Int.reduceBEq, Int.reduceEq, Int.reduceLT, Int.reduceLE, Int.reduceAdd, Int.reduceSub, Int.reduceMul, Int.reduceNeg, strBin, indexAddrA, elems, lenOf, chunk, List.reduceReplicate, Int.reduceToNat]
      refine ui_all hl hx j (i + 1) (by omega) (by rw [show ((i + 1 : Nat) : Int) = (i : Int) + 1 by omega]; exact hQ) _ ?_ ?_ ?_ ?_
      all_goals simp only [upd_app, t0, t1, t7, Nat.reduceEqDiff, ↓reduceIte]

theorem Contains2_call {v : AV} {l : List (AV × List Pr)} (hv : v = .vec 1 (rowsR l) ∨ v = .nilS ∧ l = []) (hl : l.length ≤ 1000) (hx : ∀ x, x ∈ l → InE x.1 x.2 ∧ x.2.length ≤ 100000) (hk : RunOps Cx fn (putA T dst (.bool (decide (0 ≤ idxU l 0)))) ds ro os k H Q) :
    RunCall Cx fn T ds ro 31 [v, .fn 32 [] []] dst os k H Q := by
  refine call_body pure31 (noext _) body31 ?_
  simp only [n31_0, n31_1, n31_2, n31_3, n31_4, o31_1, o31_3, res31, TT_3, TT_4, TT_5, TT_9, TT_22, TT_25, TT_26, TT_29, TT_33, TT_38, TT_40, TT_42, TT_47, TT_50, TT_57, TT_59, TT_66, TT_68, TT_69, TT_70, TT_72, TT_81, bb, primP, primM, ev, evs, parts_, ofConst, bin, un, intBin, putA, enterT, Nat.reduceEqDiff, Nat.reduceAdd, Nat.reduceMul, Nat.reduceLeDiff, Nat.reduceLT, ↓reduceIte, reduceCtorEq, RunRes, resultsA, oneOf, AV.plain, AV.cells, AHeap.push, AHeap.set, AHeap.empty, fieldOf, loadA, storeA, BX.part, TK.isAgg, convA, builtinA, inertB, builtinP, buildA, fillA, splice, eqv, cellsEq, sizeT, adT, ldT, fwT, Nat.reduceBeqDiff, Nat.reduceBneDiff, Int.reduceBNe, Int.reduceBEq, Int.reduceEq, Int.reduceLT, Int.reduceLE, Int.reduceAdd, Int.reduceSub, Int.reduceMul, Int.reduceNeg, strBin, indexAddrA, elems, lenOf, chunk, List.reduceReplicate, Int.reduceToNat]
  refine call_body pure42 (noext _) body42 ?_
  rcases hv with rfl | ⟨rfl, rfl⟩
  · simp only [n42_0, n42_1, n42_2, n42_3, n42_4, n42_5, n42_6, n42_8, n42_9, n42_10, n42_11, n42_12, n42_13, n42_14, n42_15, n42_16, n42_17, n42_18, n42_19, n42_20, n42_21, n42_22, n42_23, n42_24, n42_26, n42_27, o42_1, o42_4, o42_8, o42_16, o42_18, o42_21, o42_24, o42_26, res42, TT_3, TT_4, TT_5, TT_9, TT_22, TT_25, TT_26, TT_29, TT_33, TT_38, TT_40, TT_42, TT_47, TT_50, TT_57, TT_59, TT_66, TT_68, TT_69, TT_70, TT_72, TT_81, bb, primP, primM, ev, evs, parts_, ofConst, bin, un, intBin, putA, enterT, Nat.reduceEqDiff, Nat.reduceAdd, Nat.reduceMul, Nat.reduceLeDiff, Nat.reduceLT, ↓reduceIte, reduceCtorEq, RunRes, resultsA, oneOf, AV.plain, AV.cells, AHeap.push, AHeap.set, AHeap.empty, fieldOf, loadA, storeA, BX.part, TK.isAgg, convA, builtinA, inertB, builtinP, buildA, fillA, splice, eqv, cellsEq, sizeT, adT, ldT, fwT, Nat.reduceBeqDiff, Nat.reduceBneDiff, Int.reduceBNe, Int.reduceBEq, Int.reduceEq, Int.reduceLT, Int.reduceLE, Int.reduceAdd, Int.reduceSub, Int.reduceMul, Int.reduceNeg, strBin, indexAddrA, elems, lenOf, chunk, List.reduceReplicate, Int.reduceToNat]
    refine ui_all hl hx l.length 0 (by omega) ?_ _ ?_ ?_ ?_ ?_
    · rw [List.drop_zero]
      simp only [n31_0, n31_1, n31_2, n31_3, n31_4, o31_1, o31_3, res31, TT_3, TT_4, TT_5, TT_9, TT_22, TT_25, TT_26, TT_29, TT_33, TT_38, TT_40, TT_42, TT_47, TT_50, TT_57, TT_59, TT_66, TT_68, TT_69, TT_70, TT_72, TT_81, bb, primP, primM, ev, evs, parts_, ofConst, bin, un, intBin, putA, enterT, Nat.reduceEqDiff, Nat.reduceAdd, Nat.reduceMul, Nat.reduceLeDiff, Nat.reduceLT, ↓reduceIte, reduceCtorEq, RunRes, resultsA, oneOf, AV.plain, AV.cells, AHeap.push, AHeap.set, AHeap.empty, fieldOf, loadA, storeA, BX.part, TK.isAgg, convA, builtinA, inertB, builtinP, buildA, fillA, splice, eqv, cellsEq, sizeT, adT, ldT, fwT, Nat.reduceBeqDiff, Nat.reduceBneDiff, Int.reduceBNe, Int.reduceBEq, Int.reduceEq, Int.reduceLT, Int.reduceLE, Int.reduceAdd, Int.reduceSub, Int.reduceMul, Int.reduceNeg, strBin, indexAddrA, elems, lenOf, chunk, List.reduceReplicate, Int.reduceToNat, Int.cast_ofNat_Int]
      exact hk
    all_goals simp only [upd_app, enterT, List.getElem?_cons_zero, List.getElem?_cons_succ, Option.getD_some, Nat.reduceEqDiff, ↓reduceIte]
    all_goals rfl
  · have hk' : RunOps Cx fn (putA T dst (.bool false)) ds ro os k H Q := hk
    have e : decide ((0 : Int) ≤ -1) = false := rfl
    simp only [e, run_exit_start, exit_here, exit_code, exit_inLoop, run_inBlock, run_inLoop, n42_0, n42_1, n42_2, n42_3, n42_4, n42_5, n42_6, n42_7, n42_8, n42_9, n42_10, n42_11, n42_12, n42_13, n42_14, n42_15, n42_16, n42_17, n42_18, n42_19, n42_20, n42_21, n42_22, n42_23, n42_24, n42_25, n42_26, n42_27, o42_1, o42_4, o42_8, o42_16, o42_18, o42_21, o42_24, o42_26, res42, n31_0, n31_1, n31_2, n31_3, n31_4, o31_1, o31_3, res31, TT_3, TT_4, TT_5, TT_9, TT_22, TT_25, TT_26, TT_29, TT_33, TT_38, TT_40, TT_42, TT_47, TT_50, TT_57, TT_59, TT_66, TT_68, TT_69, TT_70, TT_72, TT_81, bb, primP, primM, ev, evs, parts_, ofConst, bin, un, intBin, putA, enterT, Nat.reduceEqDiff, Nat.reduceAdd, Nat.reduceMul, Nat.reduceLeDiff, Nat.reduceLT, ↓reduceIte, reduceCtorEq, RunRes, resultsA, oneOf, AV.plain, AV.cells, AHeap.push, AHeap.set, AHeap.empty, fieldOf, loadA, storeA, BX.part, TK.isAgg, convA, builtinA, inertB, builtinP, buildA, fillA, splice, eqv, cellsEq, sizeT, adT, ldT, fwT, Nat.reduceBeqDiff, Nat.reduceBneDiff, Int.reduceBNe, Int.reduceBEq, Int.reduceEq, Int.reduceLT, Int.reduceLE, Int.reduceAdd, Int.reduceSub, Int.reduceMul, Int.reduceNeg, strBin, indexAddrA, elems, lenOf, chunk, List.reduceReplicate, Int.reduceToNat]
    exact hk'
end

/-! ## What is handed back -/

theorem both_of {f : FuncId} {args : List AV} {body : AC} {P : AV → Prop} (hx : Cx.ext f = none) (hb : bodyOf Cx f = some body) (h : Run Cx f (enterT args) [] none [.code body] AHeap.empty (fun r0 H' => ∃ r, P r ∧ BX.freeze H' r0 = some r ∧ (if r.solid then some r else madeT H' r0) = some r)) : ∃ r, P r ∧ PCall Cx f args r ∧ PMade Cx f args r := by
  obtain ⟨n, r0, H', he, r, hP, hf, hm⟩ := h
  exact ⟨r, hP, pcall_run hx hb ⟨n, r0, H', he, hf⟩, pmade_run hx hb ⟨n, r0, H', he, r, hf, hm⟩⟩

/-- The cell that grows, the runs, the loop's record. -/
def MI (rv : AV) (L : ALoop) (out : List Pr) (nx : Nat) (A : Nat → Blk) : Prop :=
  4 < nx ∧ out.length ≤ 200000 ∧ (∃ d, A 0 = .cells 22 1 [[d]] ∧ OwnK 5 42 6 d nx A (out.map encP)) ∧ A 1 = .cells 29 1 [[rv]] ∧ A 2 = .dfr ∧ A 3 = .loop L

def mL (T : Nat → AV) : ALoop := { state := .ready, pending := none, fn := 21, T := T, params := [10], assign := c21_17, body := c21_18, defers := 2 }

theorem MI_keep {rv : AV} {L : ALoop} {out : List Pr} {nx nx' : Nat} {A A' : Nat → Blk} (h : MI rv L out nx A) (hn : nx ≤ nx') (ho : Oth 4 nx A A') : MI rv L out nx' A' := by
  obtain ⟨h1, h2, ⟨d, h3, h4⟩, h5, h6, h7⟩ := h
  refine ⟨by omega, h2, ⟨d, by rw [ho 0 (by omega) (by omega) (.inl (by omega))]; exact h3, ?_⟩, by rw [ho 1 (by omega) (by omega) (.inl (by omega))]; exact h5, by rw [ho 2 (by omega) (by omega) (.inl (by omega))]; exact h6, by rw [ho 3 (by omega) (by omega) (.inl (by omega))]; exact h7⟩
  rcases h4 with h | ⟨g, g1, g2, g3, g4⟩
  · exact .inl h
  · exact .inr ⟨g, g1, g2, by omega, by rw [ho g g3 (by omega) (.inr (by intro es e; rw [g4] at e; cases e))]; exact g4⟩

theorem mrg_round {T : Nat → AV} {rv : AV} {m : List Pr} (hm : m.length ≤ 100000) (t4 : T 4 = .ptr 0 1 0 0) : Rnd 4 3 (mL T) (MI rv (mL T)) (fun _ _ => False) m := by
  intro out more p nx A Q hmo hb hI hQ _
  have hol : out.length < 100000 := by
    have := congrArg List.length hmo
    rw [List.length_append, List.length_cons] at this
    omega
  obtain ⟨h1, h2, ⟨d, h3, h4⟩, h5, h6, h7⟩ := hI
  have e0 : (0 = nx) = False := eq_false (by omega)
  have e3 : (3 = nx) = False := eq_false (by omega)
  have n3 : (nx = 3) = False := eq_false (by omega)
  have hpl := h4.plain
  have hcl := h4.cells
  simp only [AV.plain] at hpl
  simp only [AV.cells] at hcl
  show Run Cx 21 (foldPut T [10] [pairA p]) [] (some 3) [.code c21_17, .beginRound, .code c21_18] ⟨nx, A⟩ Q
  simp only [foldPut, upd2, n21_0, n21_1, n21_2, n21_3, n21_4, n21_5, n21_6, n21_7, n21_8, n21_9, n21_10, n21_11, n21_12, n21_13, n21_14, n21_15, n21_17, n21_19, n21_20, n21_21, n21_22, o21_1, o21_4, o21_7, o21_11, o21_14, o21_17, o21_19, o21_21, res21, TT_3, TT_4, TT_5, TT_9, TT_22, TT_25, TT_26, TT_29, TT_33, TT_38, TT_40, TT_42, TT_47, TT_50, TT_57, TT_59, TT_66, TT_68, TT_69, TT_70, TT_72, TT_81, bb, primP, primM, ev, evs, parts_, ofConst, bin, un, intBin, putA, enterT, Nat.reduceEqDiff, Nat.reduceAdd, Nat.reduceMul, Nat.reduceLeDiff, Nat.reduceLT, ↓reduceIte, reduceCtorEq, RunRes, resultsA, oneOf, AV.plain, AV.cells, AHeap.push, AHeap.set, AHeap.empty, fieldOf, loadA, storeA, BX.part, TK.isAgg, convA, builtinA, inertB, builtinP, buildA, fillA, splice, eqv, cellsEq, sizeT, adT, ldT, fwT, Nat.reduceBeqDiff, Nat.reduceBneDiff, Int.reduceBNe, Int.reduceBEq, Int.reduceEq, Int.reduceLT, Int.reduceLE, Int.reduceAdd, Int.reduceSub, Int.reduceMul, Int.reduceNeg, strBin, indexAddrA, elems, lenOf, chunk, List.reduceReplicate, Int.reduceToNat]
  rw [run_begin (L := mL T) (by simp only [upd_app, e3, ↓reduceIte]; exact h7) rfl]
  simp only [AHeap.set]
  generalize hA1 : upd (upd A nx _) 3 _ = A1
  have b0 : A1 0 = .cells 22 1 [[d]] := by rw [← hA1]; simp only [upd_app, e0, Nat.reduceEqDiff, ↓reduceIte]; exact h3
  have bx : A1 nx = .cells 42 6 [[.str p.key, .int .i64 p.k, .int .i64 p.n, .str p.s, .int .i64 p.x, .int .i64 p.y]] := by rw [← hA1]; simp only [upd_app, n3, ↓reduceIte]
  have b3 : A1 3 = .loop { mL T with state := .busy } := by rw [← hA1]; simp only [upd_app, ↓reduceIte]
  have bo : ∀ c, c < nx → c ≠ 3 → A1 c = A c := fun c hc hc3 => by rw [← hA1]; simp only [upd_app]; rw [if_neg hc3, if_neg (by omega)]
  have h4' : OwnK 5 42 6 d (nx + 1) A1 (out.map encP) := h4.keep (by omega) (fun g hg hgA => bo g hg (fun e => by subst e; rw [h7] at hgA; cases hgA))
  obtain ⟨A2, ha, hown, hkeep⟩ := h4'.app1 (row := encP p) (by omega) psl pti (by unfold most; rw [List.length_map]; omega) (by unfold most; rw [List.length_map]; omega)
  simp only [encP] at ha
  have c0 : A2 0 = A1 0 := hkeep 0 (by omega) (.inr (by omega))
  rw [b0] at c0
  simp only [t4, b0, bx, ha, c0, runVH_some, run_exit_start, exit_here, exit_code, exit_inLoop, run_inBlock, n21_0, n21_1, n21_2, n21_3, n21_4, n21_5, n21_6, n21_7, n21_8, n21_9, n21_10, n21_11, n21_12, n21_13, n21_14, n21_15, n21_17, n21_18, n21_19, n21_20, n21_21, n21_22, o21_1, o21_4, o21_7, o21_11, o21_14, o21_17, o21_19, o21_21, res21, TT_3, TT_4, TT_5, TT_9, TT_22, TT_25, TT_26, TT_29, TT_33, TT_38, TT_40, TT_42, TT_47, TT_50, TT_57, TT_59, TT_66, TT_68, TT_69, TT_70, TT_72, TT_81, bb, primP, primM, ev, evs, parts_, ofConst, bin, un, intBin, putA, enterT, Nat.reduceEqDiff, Nat.reduceAdd, Nat.reduceMul, Nat.reduceLeDiff, Nat.reduceLT, ↓reduceIte, reduceCtorEq, RunRes, resultsA, oneOf, AV.plain, AV.cells, AHeap.push, AHeap.set, AHeap.empty, fieldOf, loadA, storeA, BX.part, TK.isAgg, convA, builtinA, inertB, builtinP, buildA, fillA, splice, eqv, cellsEq, sizeT, adT, ldT, fwT, Nat.reduceBeqDiff, Nat.reduceBneDiff, Int.reduceBNe, Int.reduceBEq, Int.reduceEq, Int.reduceLT, Int.reduceLE, Int.reduceAdd, Int.reduceSub, Int.reduceMul, Int.reduceNeg, strBin, indexAddrA, elems, lenOf, chunk, List.reduceReplicate, Int.reduceToNat]
  rw [round_nil (L := { mL T with state := .busy }) (by simp only [upd_app, Nat.reduceEqDiff, ↓reduceIte]; rw [hkeep 3 (by omega) (.inr (by omega))]; exact b3)]
  have hre : ∀ c, c ≠ 0 → c ≠ 3 → (upd (upd A2 0 (.cells 22 1 [[.slc (nx + 1 + 1) 6 0 ((out.map encP).length + 1)]])) 3 (.loop (mL T))) c = A2 c := fun c h1 h2 => by rw [upd_app, if_neg h2, upd_app, if_neg h1]
  refine hQ (nx + 1 + 1 + 1) _ ⟨by omega, by simp; omega, ⟨.slc (nx + 1 + 1) 6 0 ((out.map encP).length + 1), ?_, ?_⟩, ?_, ?_, ?_⟩ (by omega) ?_
  · simp only [AHeap.set, upd_app, Nat.reduceEqDiff, ↓reduceIte]
  · have e : (out ++ [p]).map encP = out.map encP ++ [encP p] := by simp
    rw [e]
    refine hown.keep (Nat.le_refl _) (fun g hg hgA => hre g ?_ ?_)
    · rintro rfl
      rw [c0] at hgA
      cases hgA
    · rintro rfl
      rw [hkeep 3 (by omega) (.inr (by omega)), b3] at hgA
      cases hgA
  · exact (hre 1 (by omega) (by omega)).trans ((hkeep 1 (by omega) (.inr (by omega))).trans ((bo 1 (by omega) (by omega)).trans h5))
  · exact (hre 2 (by omega) (by omega)).trans ((hkeep 2 (by omega) (.inr (by omega))).trans ((bo 2 (by omega) (by omega)).trans h6))
  · simp only [AHeap.set, upd_app, ↓reduceIte]
    rfl
  · intro c hc hcc
    have h03 : c ≠ 0 ∧ c ≠ 3 := by
      rcases hcc with rfl | ⟨es, he⟩ | ⟨hc4, es, he⟩
      · exact ⟨by omega, by omega⟩
      · refine ⟨?_, ?_⟩ <;> rintro rfl
        · rw [h3] at he; cases he
        · rw [h7] at he; cases he
      · refine ⟨?_, ?_⟩ <;> rintro rfl
        · rw [h3] at he; cases he
        · rw [h7] at he; cases he
    refine (hre c h03.1 h03.2).trans ((hkeep c (by omega) ?_).trans (bo c hc h03.2))
    rcases hcc with rfl | ⟨es, he⟩ | ⟨hc4, _⟩
    · exact .inr (by omega)
    · left
      rw [bo c hc h03.2, he]
      intro e; cases e
    · exact .inr (by omega)
end Go.Proofs.Ytbfjkomlnpolmaa.G

namespace Go.Proofs.Ytbfjkomlnpolmaa.G
open Go.BX
set_option linter.unusedSimpArgs false
set_option linter.unusedVariables false

def vsO (ys : List (AV × List Pr)) (r : Nat) : AV := (ys.getD r (.nilS, [])).1
def xsO (ys : List (AV × List Pr)) (r : Nat) : List Pr := (ys.getD r (.nilS, [])).2

theorem vsO_get {ys : List (AV × List Pr)} {r : Nat} (h : r < ys.length) : vsO ys r = (ys[r]).1 ∧ xsO ys r = (ys[r]).2 := by
  unfold vsO xsO
  simp [List.getD, List.getElem?_eq_getElem h]

theorem rowsO (ys : List (AV × List Pr)) : (List.range ys.length).map (fun r => [vsO ys r]) = rowsR ys := by
  apply List.ext_getElem?
  intro i
  by_cases h : i < ys.length
  · rw [List.getElem?_map, List.getElem?_range h, rowsR, List.getElem?_map, List.getElem?_eq_getElem h]
    simp [(vsO_get h).1]
  · rw [List.getElem?_eq_none (by simpa using h), List.getElem?_eq_none (by simpa [rowsR] using h)]

theorem restO (ys : List (AV × List Pr)) : rest (xsO ys) ys.length (fun _ => 0) = ys.flatMap (·.2) := by
  unfold rest
  simp only [List.drop_zero]
  have : ys.map (·.2) = (List.range ys.length).map (xsO ys) := by
    apply List.ext_getElem?
    intro i
    by_cases h : i < ys.length
    · rw [List.getElem?_map, List.getElem?_eq_getElem h, List.getElem?_map, List.getElem?_range h]
      simp [(vsO_get h).2]
    · rw [List.getElem?_eq_none (by simpa using h), List.getElem?_eq_none (by simpa using h)]
  rw [List.flatMap_def, List.flatMap_def, this]

theorem idxU_all {ys : List (AV × List Pr)} (h : ∀ x, x ∈ ys → isOrd x.2 = true) : decide (0 ≤ idxU ys 0) = false := by
  have := (idxU_good ys 0 (by omega)).mpr h
  simp; omega

theorem madeT_rows {nx : Nat} {A : Nat → Blk} {d : AV} {m : List Pr} (h : OwnK 5 42 6 d nx A (m.map encP)) : ∃ w, InE w m ∧ BX.freeze ⟨nx, A⟩ (.tuple [d, .int .i64 0]) = some (.tuple [w, .int .i64 0]) ∧ (if (AV.tuple [w, .int .i64 0]).solid then some (AV.tuple [w, .int .i64 0]) else madeT ⟨nx, A⟩ (.tuple [d, .int .i64 0])) = some (.tuple [w, .int .i64 0]) := by
  rcases h with ⟨rfl, h0⟩ | ⟨g, rfl, _, _, hA⟩
  · have : m = [] := by simpa using h0
    subst this
    exact ⟨.nilS, .inl ⟨rfl, rfl⟩, rfl, rfl⟩
  · refine ⟨.vec 6 (m.map encP), .inr (.inr rfl), ?_, ?_⟩
    · have he : elems ⟨nx, A⟩ 6 (.slc g 6 0 (m.map encP).length) = some (m.map encP) := by
        unfold elems
        simp only [hA]
        rw [if_pos ⟨trivial, trivial, by simp⟩, List.drop_zero, List.take_of_length_le (by simp)]
      rw [freeze_tuple, mapO_cons, mapO_cons, mapO_nil, freeze2_slc, he, frzE_some, freeze_rows', freeze2_int]
      rfl
    · have he : elems ⟨nx, A⟩ 6 (.slc g 6 0 (m.map encP).length) = some (m.map encP) := by
        unfold elems
        simp only [hA]
        rw [if_pos ⟨trivial, trivial, by simp⟩, List.drop_zero, List.take_of_length_le (by simp)]
      rw [if_neg (by simp [AV.solid, AV.solid2, AV.solid1])]
      show (mapO (made1 ⟨nx, A⟩) [_, _]).map AV.tuple = _
      have h1 : made1 ⟨nx, A⟩ (.slc g 6 0 (m.map encP).length) = some (.vec 6 (m.map encP)) := by
        unfold made1
        rw [if_neg (by simp [AV.solid2, AV.solid1])]
        simp only [he]
        rw [if_pos (solid_rows m)]
      have h2 : made1 ⟨nx, A⟩ (.int .i64 0) = some (.int .i64 0) := rfl
      rw [mapO_cons, mapO_cons, mapO_nil, h1, h2]
      rfl

theorem Merge_ok {rv : AV} {ys : List (AV × List Pr)} (hv : rv = .vec 1 (rowsR ys) ∨ rv = .nilS ∧ ys = []) (hy : ∀ x, x ∈ ys → InE x.1 x.2 ∧ x.2.length ≤ 10000) (hs : ∀ x, x ∈ ys → isOrd x.2 = true) (few : ys.length ≤ 1000) (tot : (ys.flatMap (·.2)).length ≤ 100000) :
    ∃ m w, IsSort (ys.flatMap (·.2)) m ∧ InE w m ∧ PCall Cx 21 [rv] (.tuple [w, .int .i64 0]) ∧ PMade Cx 21 [rv] (.tuple [w, .int .i64 0]) := by
  obtain ⟨m, _, hm, _, _⟩ := RefSort_ok (l := ys.flatMap (·.2)) (.inr (.inr rfl)) tot
  have hrun : ∃ r, (∃ w, InE w m ∧ r = .tuple [w, .int .i64 0]) ∧ PCall Cx 21 [rv] r ∧ PMade Cx 21 [rv] r := by
    refine both_of (noext _) body21 ?_
    have hpl : rv.plain = true := by rcases hv with rfl | ⟨rfl, _⟩ <;> rfl
    have hcl : rv.cells = [rv] := by rcases hv with rfl | ⟨rfl, _⟩ <;> rfl
    simp only [AV.plain] at hpl
    simp only [AV.cells] at hcl
    simp only [n21_0, n21_1, n21_2, n21_3, n21_6, n21_7, n21_8, n21_9, n21_11, n21_12, n21_13, n21_14, n21_15, n21_17, n21_18, n21_19, n21_20, n21_21, n21_22, o21_1, o21_4, o21_7, o21_11, o21_14, o21_17, o21_19, o21_21, res21, TT_3, TT_4, TT_5, TT_9, TT_22, TT_25, TT_26, TT_29, TT_33, TT_38, TT_40, TT_42, TT_47, TT_50, TT_57, TT_59, TT_66, TT_68, TT_69, TT_70, TT_72, TT_81, bb, primP, primM, ev, evs, parts_, ofConst, bin, un, intBin, putA, enterT, Nat.reduceEqDiff, Nat.reduceAdd, Nat.reduceMul, Nat.reduceLeDiff, Nat.reduceLT, ↓reduceIte, reduceCtorEq, RunRes, resultsA, oneOf, AV.plain, AV.cells, AHeap.push, AHeap.set, AHeap.empty, fieldOf, loadA, storeA, BX.part, TK.isAgg, convA, builtinA, inertB, builtinP, buildA, fillA, splice, eqv, cellsEq, sizeT, adT, ldT, fwT, Nat.reduceBeqDiff, Nat.reduceBneDiff, Int.reduceBNe, Int.reduceBEq, Int.reduceEq, Int.reduceLT, Int.reduceLE, Int.reduceAdd, Int.reduceSub, Int.reduceMul, Int.reduceNeg, strBin, indexAddrA, elems, lenOf, chunk, List.reduceReplicate, Int.reduceToNat]
    simp only [n21_4, o21_4, TT_3, TT_4, TT_5, TT_9, TT_22, TT_25, TT_26, TT_29, TT_33, TT_38, TT_40, TT_42, TT_47, TT_50, TT_57, TT_59, TT_66, TT_68, TT_69, TT_70, TT_72, TT_81, bb, primP, primM, ev, evs, parts_, ofConst, bin, un, intBin, putA, enterT, Nat.reduceEqDiff, Nat.reduceAdd, Nat.reduceMul, Nat.reduceLeDiff, Nat.reduceLT, ↓reduceIte, reduceCtorEq, RunRes, resultsA, oneOf, AV.plain, AV.cells, AHeap.push, AHeap.set, AHeap.empty, fieldOf, loadA, storeA, BX.part, TK.isAgg, convA, builtinA, inertB, builtinP, buildA, fillA, splice, eqv, cellsEq, sizeT, adT, ldT, fwT, Nat.reduceBeqDiff, Nat.reduceBneDiff, Int.reduceBNe, Int.reduceBEq, Int.reduceEq, Int.reduceLT, Int.reduceLE, Int.reduceAdd, Int.reduceSub, Int.reduceMul, Int.reduceNeg, strBin, indexAddrA, elems, lenOf, chunk, List.reduceReplicate, Int.reduceToNat]
    refine Contains2_call hv few (fun x hx => ⟨(hy x hx).1, by have := (hy x hx).2; omega⟩) ?_
    rw [idxU_all hs]
    simp only [n21_0, n21_1, n21_2, n21_3, n21_4, n21_5, n21_6, n21_7, n21_8, n21_9, n21_10, n21_11, n21_12, n21_13, n21_14, n21_15, n21_17, n21_18, n21_19, n21_21, n21_22, o21_1, o21_4, o21_7, o21_11, o21_14, o21_17, o21_19, o21_21, res21, TT_3, TT_4, TT_5, TT_9, TT_22, TT_25, TT_26, TT_29, TT_33, TT_38, TT_40, TT_42, TT_47, TT_50, TT_57, TT_59, TT_66, TT_68, TT_69, TT_70, TT_72, TT_81, bb, primP, primM, ev, evs, parts_, ofConst, bin, un, intBin, putA, enterT, Nat.reduceEqDiff, Nat.reduceAdd, Nat.reduceMul, Nat.reduceLeDiff, Nat.reduceLT, ↓reduceIte, reduceCtorEq, RunRes, resultsA, oneOf, AV.plain, AV.cells, AHeap.push, AHeap.set, AHeap.empty, fieldOf, loadA, storeA, BX.part, TK.isAgg, convA, builtinA, inertB, builtinP, buildA, fillA, splice, eqv, cellsEq, sizeT, adT, ldT, fwT, Nat.reduceBeqDiff, Nat.reduceBneDiff, Int.reduceBNe, Int.reduceBEq, Int.reduceEq, Int.reduceLT, Int.reduceLE, Int.reduceAdd, Int.reduceSub, Int.reduceMul, Int.reduceNeg, strBin, indexAddrA, elems, lenOf, chunk, List.reduceReplicate, Int.reduceToNat]
    refine call_body pure30 (noext _) body30 ?_
    simp only [hpl, hcl, n21_0, n21_1, n21_2, n21_3, n21_4, n21_5, n21_6, n21_7, n21_8, n21_9, n21_10, n21_11, n21_12, n21_13, n21_14, n21_15, n21_17, n21_18, n21_19, n21_21, n21_22, o21_1, o21_4, o21_7, o21_11, o21_14, o21_17, o21_19, o21_21, res21, n30_0, n30_1, n30_2, n30_3, n30_4, o30_1, o30_3, res30, TT_3, TT_4, TT_5, TT_9, TT_22, TT_25, TT_26, TT_29, TT_33, TT_38, TT_40, TT_42, TT_47, TT_50, TT_57, TT_59, TT_66, TT_68, TT_69, TT_70, TT_72, TT_81, bb, primP, primM, ev, evs, parts_, ofConst, bin, un, intBin, putA, enterT, Nat.reduceEqDiff, Nat.reduceAdd, Nat.reduceMul, Nat.reduceLeDiff, Nat.reduceLT, ↓reduceIte, reduceCtorEq, RunRes, resultsA, oneOf, AV.plain, AV.cells, AHeap.push, AHeap.set, AHeap.empty, fieldOf, loadA, storeA, BX.part, TK.isAgg, convA, builtinA, inertB, builtinP, buildA, fillA, splice, eqv, cellsEq, sizeT, adT, ldT, fwT, Nat.reduceBeqDiff, Nat.reduceBneDiff, Int.reduceBNe, Int.reduceBEq, Int.reduceEq, Int.reduceLT, Int.reduceLE, Int.reduceAdd, Int.reduceSub, Int.reduceMul, Int.reduceNeg, strBin, indexAddrA, elems, lenOf, chunk, List.reduceReplicate, Int.reduceToNat]
    unfold c21_16
    refine run_rangeFunc (g := 38) rfl pure38 (noext _) body38 ?_
    generalize hT : upd (upd _ 8 _) 9 _ = T
    have t4 : T 4 = .ptr 0 1 0 0 := by
      rw [← hT]; simp only [upd_app, Nat.reduceEqDiff, ↓reduceIte]
    refine merged_run (nx := 4) (b1 := 1) (l := 3) (L := mL T) (I := MI rv (mL T)) (Stp := fun _ _ => False) (m := m) (rv := rv) (R := ys.length) (vs := vsO ys) (xs := xsO ys) ⟨?_, ?_, ?_, ?_, few, by rw [restO]; exact tot⟩ ?_ (by omega) rfl (fun _ _ _ h => h.2.2.2.2.2) (fun _ _ _ _ _ h1 _ h3 h4 => MI_keep h1 h3 h4) (mrg_round (by rw [hm.len]; exact tot) t4) ?_ (fun _ _ h => h.elim) (by rw [restO]; exact hm) ?_
    · rcases hv with rfl | ⟨rfl, rfl⟩
      · exact .inr (.inl (by rw [rowsO]))
      · exact .inl ⟨rfl, rfl⟩
    · intro r hr
      rw [(vsO_get hr).1, (vsO_get hr).2]
      exact .inl (hy _ (List.getElem_mem hr)).1
    · intro r hr
      rw [(vsO_get hr).2]
      have := hs _ (List.getElem_mem hr)
      unfold isOrd at this
      simpa using this
    · intro r hr
      rw [(vsO_get hr).2]
      exact (hy _ (List.getElem_mem hr)).2
    · rfl
    · intro nx A hI
      obtain ⟨h1, h2, ⟨d, h3, h4⟩, h5, h6, h7⟩ := hI
      refine ⟨mL T, h7, by simp [mL], rfl, ?_⟩
      simp only [mL, Option.map_none, Option.toList_none, List.nil_append, t4, h3, run_inBlock, n21_0, n21_1, n21_2, n21_3, n21_4, n21_5, n21_6, n21_7, n21_8, n21_9, n21_10, n21_11, n21_12, n21_13, n21_14, n21_15, n21_17, n21_18, n21_19, n21_20, n21_21, o21_1, o21_4, o21_7, o21_11, o21_14, o21_17, o21_19, o21_21, res21, TT_3, TT_4, TT_5, TT_9, TT_22, TT_25, TT_26, TT_29, TT_33, TT_38, TT_40, TT_42, TT_47, TT_50, TT_57, TT_59, TT_66, TT_68, TT_69, TT_70, TT_72, TT_81, bb, primP, primM, ev, evs, parts_, ofConst, bin, un, intBin, putA, enterT, Nat.reduceEqDiff, Nat.reduceAdd, Nat.reduceMul, Nat.reduceLeDiff, Nat.reduceLT, ↓reduceIte, reduceCtorEq, RunRes, resultsA, oneOf, AV.plain, AV.cells, AHeap.push, AHeap.set, AHeap.empty, fieldOf, loadA, storeA, BX.part, TK.isAgg, convA, builtinA, inertB, builtinP, buildA, fillA, splice, eqv, cellsEq, sizeT, adT, ldT, fwT, Nat.reduceBeqDiff, Nat.reduceBneDiff, Int.reduceBNe, Int.reduceBEq, Int.reduceEq, Int.reduceLT, Int.reduceLE, Int.reduceAdd, Int.reduceSub, Int.reduceMul, Int.reduceNeg, strBin, indexAddrA, elems, lenOf, chunk, List.reduceReplicate, Int.reduceToNat]
      unfold c21_22
      refine ret_col (by simp only [upd_app, Nat.reduceEqDiff, ↓reduceIte]; exact h6) ?_
      simp only [res21, TT_3, TT_4, TT_5, TT_9, TT_22, TT_25, TT_26, TT_29, TT_33, TT_38, TT_40, TT_42, TT_47, TT_50, TT_57, TT_59, TT_66, TT_68, TT_69, TT_70, TT_72, TT_81, bb, primP, primM, ev, evs, parts_, ofConst, bin, un, intBin, putA, enterT, Nat.reduceEqDiff, Nat.reduceAdd, Nat.reduceMul, Nat.reduceLeDiff, Nat.reduceLT, ↓reduceIte, reduceCtorEq, RunRes, resultsA, oneOf, AV.plain, AV.cells, AHeap.push, AHeap.set, AHeap.empty, fieldOf, loadA, storeA, BX.part, TK.isAgg, convA, builtinA, inertB, builtinP, buildA, fillA, splice, eqv, cellsEq, sizeT, adT, ldT, fwT, Nat.reduceBeqDiff, Nat.reduceBneDiff, Int.reduceBNe, Int.reduceBEq, Int.reduceEq, Int.reduceLT, Int.reduceLE, Int.reduceAdd, Int.reduceSub, Int.reduceMul, Int.reduceNeg, strBin, indexAddrA, elems, lenOf, chunk, List.reduceReplicate, Int.reduceToNat]
      have hkeep : OwnK 5 42 6 d nx (upd (upd A 3 (.loop { state := .exhausted, pending := none, fn := 21, T := T, params := [10], assign := c21_17, body := c21_18, defers := 2 })) 2 .dead) (m.map encP) := by
        refine h4.keep (Nat.le_refl _) (fun g hg hgA => ?_)
        rw [upd_app, if_neg ?_, upd_app, if_neg ?_]
        · rintro rfl
          rw [h7] at hgA; cases hgA
        · rintro rfl
          rw [h6] at hgA; cases hgA
      obtain ⟨w, hw, hf, hmd⟩ := madeT_rows hkeep
      exact ⟨_, ⟨w, hw, rfl⟩, hf, hmd⟩
    · intro A' hA'
      refine ⟨by omega, by simp, ⟨.nilS, ?_, .inl ⟨rfl, rfl⟩⟩, ?_, ?_, ?_⟩
      · rw [hA' 0 (by omega)]; rfl
      · rw [hA' 1 (by omega)]; rfl
      · rw [hA' 2 (by omega)]; rfl
      · rw [hA' 3 (by omega)]; rfl
  obtain ⟨r, ⟨w, hw, rfl⟩, h1, h2⟩ := hrun
  exact ⟨m, w, hm, hw, h1, h2⟩
end Go.Proofs.Ytbfjkomlnpolmaa.G

namespace Go.Proofs.Ytbfjkomlnpolmaa.G
open Go.BX
set_option linter.unusedSimpArgs false
set_option linter.unusedVariables false

/-! # SorterRoom -/

theorem cut_all (P : List Pr) (room : Nat) : ∀ k, (List.range k).flatMap (piece P room) = P.take (k * room)
  | 0 => by simp
  | k + 1 => by
    rw [List.range_succ, List.flatMap_append, cut_all P room k, Nat.succ_mul, List.take_add]
    simp [piece]

theorem flat_len {f g : Nat → List Pr} {l : List Nat} (h : ∀ r, r ∈ l → (f r).length = (g r).length) : (l.flatMap f).length = (l.flatMap g).length := by
  induction l with
  | nil => rfl
  | cons x l ih => rw [List.flatMap_cons, List.flatMap_cons, List.length_append, List.length_append, h x (by simp), ih (fun r hr => h r (by simp [hr]))]

/-- The pieces, sorted and merged, are all, sorted. -/
theorem Pcs.all {room : Nat} {P : List Pr} {ys : List (AV × List Pr)} (h : Pcs room P (ys.map (·.2))) : (∀ κ, ofKey κ (ys.flatMap (·.2)) = ofKey κ P) ∧ (ys.flatMap (·.2)).length = P.length := by
  have hf := h.full
  rw [List.length_map] at hf
  have hp : (List.range ys.length).flatMap (piece P room) = P := by
    rw [cut_all, List.take_of_length_le hf]
  have hs : ∀ r, r ∈ List.range ys.length → IsSort (piece P room r) (xsO ys r) := by
    intro r hr
    have hr' := List.mem_range.mp hr
    have := h.srt r (by rw [List.length_map]; exact hr')
    rw [List.getElem_map] at this
    rw [(vsO_get hr').2]
    exact this
  rw [← restO]
  unfold rest
  simp only [List.drop_zero]
  constructor
  · intro κ
    conv => rhs; rw [← hp]
    rw [ofKey_flat, ofKey_flat]
    exact flat_congr fun r hr => (hs r hr).keys κ
  · conv => rhs; rw [← hp]
    exact flat_len fun r hr => (hs r hr).len

theorem Pcs.sort {room : Nat} {P m : List Pr} {ys : List (AV × List Pr)} (h : Pcs room P (ys.map (·.2))) (hm : IsSort (ys.flatMap (·.2)) m) : IsSort P m :=
  ⟨fun κ => (hm.keys κ).trans (h.all.1 κ), hm.ord, hm.len.trans h.all.2⟩

theorem frz_runs {n : Nat} {A : Nat → Blk} : ∀ {xs : List (AV × List Pr)}, (∀ x, x ∈ xs → RV n A x.1 x.2) → ∃ ys : List (AV × List Pr), mapO (mapO (BX.freeze1 ⟨n, A⟩ 3)) (rowsR xs) = some (rowsR ys) ∧ ys.map (·.2) = xs.map (·.2) ∧ ∀ y, y ∈ ys → InE y.1 y.2
  | [], _ => ⟨[], rfl, rfl, fun y hy => by cases hy⟩
  | x :: xs, h => by
    obtain ⟨ys, h1, h2, h3⟩ := frz_runs (fun y hy => h y (List.mem_cons_of_mem _ hy))
    obtain ⟨w, hw, hf⟩ := (h x (by simp)).freeze1 2
    refine ⟨(w, x.2) :: ys, ?_, by simp [h2], ?_⟩
    · show mapO (mapO (BX.freeze1 ⟨n, A⟩ 3)) ([x.1] :: rowsR xs) = some ([w] :: rowsR ys)
      rw [mapO_cons, h1, mapO_cons, mapO_nil, hf]
      rfl
    · intro y hy
      rcases List.mem_cons.mp hy with rfl | hy
      · exact hw
      · exact h3 y hy

section
variable {fn : FuncId} {T : Nat → AV} {ds : List ADef} {ro : Option Nat} {k : List AItem} {Q : AV → AHeap → Prop} {dst : Option Nat} {os : List AO}

theorem Merge_call {h0 n : Nat} {A : Nat → Blk} {r : AV} {xs : List (AV × List Pr)} (hr : OwnK h0 22 1 r n A (rowsR xs)) (hx : ∀ x, x ∈ xs → RV n A x.1 x.2) (hl : ∀ x, x ∈ xs → x.2.length ≤ 10000) (hs : ∀ x, x ∈ xs → isOrd x.2 = true) (few : xs.length ≤ 1000) (tot : (xs.flatMap (·.2)).length ≤ 100000)
    (hk : ∀ m w, IsSort (xs.flatMap (·.2)) m → InE w m → RunOps Cx fn (putA T dst (.tuple [w, .int .i64 0])) ds ro os k ⟨n, A⟩ Q) :
    RunCall Cx fn T ds ro 21 [r] dst os k ⟨n, A⟩ Q := by
  obtain ⟨ys, h1, h2, h3⟩ := frz_runs hx
  have hfm : ys.flatMap (·.2) = xs.flatMap (·.2) := by rw [List.flatMap_def, List.flatMap_def, h2]
  have hyl : ys.length = xs.length := by
    have := congrArg List.length h2
    rwa [List.length_map, List.length_map] at this
  have hmem : ∀ y, y ∈ ys → ∃ x, x ∈ xs ∧ x.2 = y.2 := by
    intro y hy
    have : y.2 ∈ ys.map (·.2) := List.mem_map.mpr ⟨y, hy, rfl⟩
    rw [h2] at this
    obtain ⟨x, hx, e⟩ := List.mem_map.mp this
    exact ⟨x, hx, e⟩
  rcases hr with ⟨rfl, hr⟩ | ⟨g, rfl, _, _, hA⟩
  · have hxs : xs = [] := by simpa [rowsR] using hr
    subst hxs
    obtain ⟨m, w, hm, hw, hp, _⟩ := Merge_ok (rv := .nilS) (ys := []) (.inr ⟨rfl, rfl⟩) (fun x hx => by cases hx) (fun x hx => by cases hx) (by simp) (by simp)
    rw [call_pure pure21 rfl hp]
    exact hk m w hm hw
  · obtain ⟨m, w, hm, hw, _, hp⟩ := Merge_ok (rv := .vec 1 (rowsR ys)) (ys := ys) (.inl rfl) (fun y hy => by obtain ⟨x, hx, e⟩ := hmem y hy; exact ⟨h3 y hy, by rw [← e]; exact hl x hx⟩) (fun y hy => by obtain ⟨x, hx, e⟩ := hmem y hy; rw [← e]; exact hs x hx) (by omega) (by rw [hfm]; exact tot)
    have he : elems ⟨n, A⟩ 1 (.slc g 1 0 (rowsR xs).length) = some (rowsR xs) := by
      unfold elems
      simp only [hA]
      rw [if_pos ⟨trivial, trivial, by simp⟩, List.drop_zero, List.take_of_length_le (Nat.le_refl _)]
    have hz : mapO (BX.freeze ⟨n, A⟩) [.slc g 1 0 (rowsR xs).length] = some [.vec 1 (rowsR ys)] := by
      rw [mapO_cons, mapO_nil, freeze_slc, he, frzE_some, h1]
      rfl
    rw [call_made pure21 rfl hz hp]
    exact hk m w (by rw [← hfm]; exact hm) hw
end

theorem SorterRoom_ok {v : AV} {l : List Pr} {a b : Int} (hv : InL v l) (hl : l.length ≤ maxLen) (ha0 : 0 ≤ a) (ha1 : a ≤ 255) (hb0 : 0 ≤ b) (hb1 : b ≤ 255) : PCall Cx 6 [v, .int .u8 a, .int .u8 b] (.bool true) := by
  refine pcall_run (noext _) body6 ?_
  obtain ⟨s, hs, hsm⟩ := Small_ok hv hl
  have f0 : [v].all AV.flat = true := by simp [hv.e.flat]
  rcases hs with rfl | ⟨rfl, hl100⟩
  · simp only [call_pure pure_awake12 rfl awake12_ok, call_pure pure8 f0 hsm, n6_0, n6_1, n6_2, n6_3, n6_4, n6_5, n6_6, n6_7, n6_8, n6_9, n6_10, n6_11, n6_12, n6_13, n6_14, n6_15, n6_16, n6_17, n6_18, n6_19, n6_20, n6_21, n6_22, n6_23, n6_24, n6_25, n6_26, n6_27, n6_28, o6_1, o6_4, o6_7, o6_11, o6_13, o6_16, o6_19, o6_23, o6_25, o6_27, res6, TT_3, TT_4, TT_5, TT_9, TT_22, TT_25, TT_26, TT_29, TT_33, TT_38, TT_40, TT_42, TT_47, TT_50, TT_57, TT_59, TT_66, TT_68, TT_69, TT_70, TT_72, TT_81, bb, primP, primM, ev, evs, parts_, ofConst, bin, un, intBin, putA, enterT, Nat.reduceEqDiff, Nat.reduceAdd, Nat.reduceMul, Nat.reduceLeDiff, Nat.reduceLT, ↓reduceIte, reduceCtorEq, RunRes, resultsA, oneOf, AV.plain, AV.cells, AHeap.push, AHeap.set, AHeap.empty, fieldOf, loadA, storeA, BX.part, TK.isAgg, convA, builtinA, inertB, builtinP, buildA, fillA, splice, eqv, cellsEq, sizeT, adT, ldT, fwT, Nat.reduceBeqDiff, Nat.reduceBneDiff, Int.reduceBNe, Int.reduceBEq, Int.reduceEq, Int.reduceLT, Int.reduceLE, Int.reduceAdd, Int.reduceSub, Int.reduceMul, Int.reduceNeg, strBin, indexAddrA, elems, lenOf, chunk, List.reduceReplicate, Int.reduceToNat]
  · have hR := pRight_ok hv (show l.length ≤ 100000 by omega)
    cases hrl : rightL l with
    | false =>
      rw [hrl] at hR
      simp only [call_pure pure_awake12 rfl awake12_ok, call_pure pure8 f0 hsm, call_pure pure9 f0 hR, n6_0, n6_1, n6_2, n6_3, n6_4, n6_5, n6_6, n6_7, n6_8, n6_9, n6_10, n6_11, n6_12, n6_13, n6_14, n6_15, n6_16, n6_17, n6_18, n6_19, n6_20, n6_21, n6_22, n6_23, n6_24, n6_25, n6_26, n6_27, n6_28, o6_1, o6_4, o6_7, o6_11, o6_13, o6_16, o6_19, o6_23, o6_25, o6_27, res6, TT_3, TT_4, TT_5, TT_9, TT_22, TT_25, TT_26, TT_29, TT_33, TT_38, TT_40, TT_42, TT_47, TT_50, TT_57, TT_59, TT_66, TT_68, TT_69, TT_70, TT_72, TT_81, bb, primP, primM, ev, evs, parts_, ofConst, bin, un, intBin, putA, enterT, Nat.reduceEqDiff, Nat.reduceAdd, Nat.reduceMul, Nat.reduceLeDiff, Nat.reduceLT, ↓reduceIte, reduceCtorEq, RunRes, resultsA, oneOf, AV.plain, AV.cells, AHeap.push, AHeap.set, AHeap.empty, fieldOf, loadA, storeA, BX.part, TK.isAgg, convA, builtinA, inertB, builtinP, buildA, fillA, splice, eqv, cellsEq, sizeT, adT, ldT, fwT, Nat.reduceBeqDiff, Nat.reduceBneDiff, Int.reduceBNe, Int.reduceBEq, Int.reduceEq, Int.reduceLT, Int.reduceLE, Int.reduceAdd, Int.reduceSub, Int.reduceMul, Int.reduceNeg, strBin, indexAddrA, elems, lenOf, chunk, List.reduceReplicate, Int.reduceToNat]
    | true =>
      rw [hrl] at hR
      have hbad := (rightL_iff l).mp hrl
      obtain ⟨ra, hra⟩ : ∃ r : Nat, (r : Int) = 1 + a := ⟨(1 + a).toNat, by omega⟩
      obtain ⟨rb, hrb⟩ : ∃ r : Nat, (r : Int) = 1 + b := ⟨(1 + b).toNat, by omega⟩
      have w1 : IntKind.i64.wrap (1 + IntKind.i64.wrap a) = (ra : Int) := by rw [wr64 (n := a) (by omega) (by omega), wr64 (by omega) (by omega)]; omega
      have w2 : IntKind.i64.wrap (1 + IntKind.i64.wrap b) = (rb : Int) := by rw [wr64 (n := b) (by omega) (by omega), wr64 (by omega) (by omega)]; omega
      obtain ⟨m0, w0, hs0, hw0, hp0, _⟩ := Sort_ok hv.e (show l.length ≤ 1000000 by omega)
      have hlv := hv.e.len
      simp only [lenOf] at hlv
      simp only [w1, call_pure pure_awake12 rfl awake12_ok, call_pure pure8 f0 hsm, call_pure pure9 f0 hR, n6_0, n6_1, n6_2, n6_3, n6_4, n6_5, n6_6, n6_7, n6_8, n6_9, n6_10, n6_11, n6_13, n6_14, n6_15, n6_16, n6_17, n6_18, n6_19, n6_20, n6_21, n6_22, n6_23, n6_24, n6_25, n6_26, n6_27, n6_28, o6_1, o6_4, o6_7, o6_11, o6_13, o6_16, o6_19, o6_23, o6_25, o6_27, res6, TT_3, TT_4, TT_5, TT_9, TT_22, TT_25, TT_26, TT_29, TT_33, TT_38, TT_40, TT_42, TT_47, TT_50, TT_57, TT_59, TT_66, TT_68, TT_69, TT_70, TT_72, TT_81, bb, primP, primM, ev, evs, parts_, ofConst, bin, un, intBin, putA, enterT, Nat.reduceEqDiff, Nat.reduceAdd, Nat.reduceMul, Nat.reduceLeDiff, Nat.reduceLT, ↓reduceIte, reduceCtorEq, RunRes, resultsA, oneOf, AV.plain, AV.cells, AHeap.push, AHeap.set, AHeap.empty, fieldOf, loadA, storeA, BX.part, TK.isAgg, convA, builtinA, inertB, builtinP, buildA, fillA, splice, eqv, cellsEq, sizeT, adT, ldT, fwT, Nat.reduceBeqDiff, Nat.reduceBneDiff, Int.reduceBNe, Int.reduceBEq, Int.reduceEq, Int.reduceLT, Int.reduceLE, Int.reduceAdd, Int.reduceSub, Int.reduceMul, Int.reduceNeg, strBin, indexAddrA, elems, lenOf, chunk, List.reduceReplicate, Int.reduceToNat]
      refine filled_call hv.e (by omega) (show 1 ≤ ra by omega) (by omega) hbad ?_
      intro n1 A1 now1 rs1 hS1 hC1 hk1 hn1
      simp only [w2, n6_0, n6_1, n6_2, n6_3, n6_4, n6_5, n6_6, n6_7, n6_8, n6_9, n6_10, n6_11, n6_12, n6_13, n6_15, n6_16, n6_17, n6_18, n6_19, n6_20, n6_21, n6_22, n6_23, n6_24, n6_25, n6_26, n6_27, n6_28, o6_1, o6_4, o6_7, o6_11, o6_13, o6_16, o6_19, o6_23, o6_25, o6_27, res6, TT_3, TT_4, TT_5, TT_9, TT_22, TT_25, TT_26, TT_29, TT_33, TT_38, TT_40, TT_42, TT_47, TT_50, TT_57, TT_59, TT_66, TT_68, TT_69, TT_70, TT_72, TT_81, bb, primP, primM, ev, evs, parts_, ofConst, bin, un, intBin, putA, enterT, Nat.reduceEqDiff, Nat.reduceAdd, Nat.reduceMul, Nat.reduceLeDiff, Nat.reduceLT, ↓reduceIte, reduceCtorEq, RunRes, resultsA, oneOf, AV.plain, AV.cells, AHeap.push, AHeap.set, AHeap.empty, fieldOf, loadA, storeA, BX.part, TK.isAgg, convA, builtinA, inertB, builtinP, buildA, fillA, splice, eqv, cellsEq, sizeT, adT, ldT, fwT, Nat.reduceBeqDiff, Nat.reduceBneDiff, Int.reduceBNe, Int.reduceBEq, Int.reduceEq, Int.reduceLT, Int.reduceLE, Int.reduceAdd, Int.reduceSub, Int.reduceMul, Int.reduceNeg, strBin, indexAddrA, elems, lenOf, chunk, List.reduceReplicate, Int.reduceToNat]
      refine filled_call hv.e (by omega) (show 1 ≤ rb by omega) (by omega) hbad ?_
      intro n2 A2 now2 rs2 hS2 hC2 hk2 hn2
      have hS1' := hS1.keep hn2 (fun g _ hg => hk2 g hg)
      have e1 : ((l.length : Int) != (l.length : Int)) = false := by simp
      simp only [hlv, n6_0, n6_1, n6_2, n6_3, n6_4, n6_5, n6_6, n6_7, n6_8, n6_9, n6_10, n6_11, n6_12, n6_13, n6_14, n6_15, n6_16, n6_17, n6_18, n6_19, n6_20, n6_21, n6_23, n6_24, n6_25, n6_26, n6_27, n6_28, o6_1, o6_4, o6_7, o6_11, o6_13, o6_16, o6_19, o6_23, o6_25, o6_27, res6, TT_3, TT_4, TT_5, TT_9, TT_22, TT_25, TT_26, TT_29, TT_33, TT_38, TT_40, TT_42, TT_47, TT_50, TT_57, TT_59, TT_66, TT_68, TT_69, TT_70, TT_72, TT_81, bb, primP, primM, ev, evs, parts_, ofConst, bin, un, intBin, putA, enterT, Nat.reduceEqDiff, Nat.reduceAdd, Nat.reduceMul, Nat.reduceLeDiff, Nat.reduceLT, ↓reduceIte, reduceCtorEq, RunRes, resultsA, oneOf, AV.plain, AV.cells, AHeap.push, AHeap.set, AHeap.empty, fieldOf, loadA, storeA, BX.part, TK.isAgg, convA, builtinA, inertB, builtinP, buildA, fillA, splice, eqv, cellsEq, sizeT, adT, ldT, fwT, Nat.reduceBeqDiff, Nat.reduceBneDiff, Int.reduceBNe, Int.reduceBEq, Int.reduceEq, Int.reduceLT, Int.reduceLE, Int.reduceAdd, Int.reduceSub, Int.reduceMul, Int.reduceNeg, strBin, indexAddrA, elems, lenOf, chunk, List.reduceReplicate, Int.reduceToNat]
      refine Count_call hS1' ?_
      simp only [hlv, e1, lenOf, i64, n6_0, n6_1, n6_2, n6_3, n6_4, n6_5, n6_6, n6_7, n6_8, n6_9, n6_10, n6_11, n6_12, n6_13, n6_14, n6_15, n6_16, n6_17, n6_18, n6_19, n6_20, n6_21, n6_22, n6_23, n6_25, n6_26, n6_27, n6_28, o6_1, o6_4, o6_7, o6_11, o6_13, o6_16, o6_19, o6_23, o6_25, o6_27, res6, TT_3, TT_4, TT_5, TT_9, TT_22, TT_25, TT_26, TT_29, TT_33, TT_38, TT_40, TT_42, TT_47, TT_50, TT_57, TT_59, TT_66, TT_68, TT_69, TT_70, TT_72, TT_81, bb, primP, primM, ev, evs, parts_, ofConst, bin, un, intBin, putA, enterT, Nat.reduceEqDiff, Nat.reduceAdd, Nat.reduceMul, Nat.reduceLeDiff, Nat.reduceLT, ↓reduceIte, reduceCtorEq, RunRes, resultsA, oneOf, AV.plain, AV.cells, AHeap.push, AHeap.set, AHeap.empty, fieldOf, loadA, storeA, BX.part, TK.isAgg, convA, builtinA, inertB, builtinP, buildA, fillA, splice, eqv, cellsEq, sizeT, adT, ldT, fwT, Nat.reduceBeqDiff, Nat.reduceBneDiff, Int.reduceBNe, Int.reduceBEq, Int.reduceEq, Int.reduceLT, Int.reduceLE, Int.reduceAdd, Int.reduceSub, Int.reduceMul, Int.reduceNeg, strBin, indexAddrA, elems, lenOf, chunk, List.reduceReplicate, Int.reduceToNat]
      refine Runs_call hS1' hC1 (by omega) (by omega) ?_
      intro r3 n3 A3 xs3 hown3 hxs3 hP3 hn3 hk3
      have ord : ∀ {room : Nat} {xs : List (AV × List Pr)}, Pcs room l (xs.map (·.2)) → (∀ x, x ∈ xs → x.2.length ≤ 10000 ∧ isOrd x.2 = true) := by
        intro room xs hP x hx
        obtain ⟨i, hi, rfl⟩ := List.getElem_of_mem hx
        have h1 := hP.srt i (by rw [List.length_map]; exact hi)
        rw [List.getElem_map] at h1
        have h2 := h1.len
        unfold piece at h2
        rw [List.length_take, List.length_drop] at h2
        refine ⟨by omega, ?_⟩
        unfold isOrd
        simpa using h1.ord
      have few : ∀ {room : Nat} {xs : List (AV × List Pr)}, 1 ≤ room → Pcs room l (xs.map (·.2)) → xs.length ≤ 1000 := by
        intro room xs hr hP
        rcases hP.lst with h | h
        · rw [List.length_map] at h; omega
        · rw [List.length_map] at h
          have : (xs.length - 1) * 1 ≤ (xs.length - 1) * room := Nat.mul_le_mul_left _ hr
          omega
      simp only [n6_0, n6_1, n6_2, n6_3, n6_4, n6_5, n6_6, n6_7, n6_8, n6_9, n6_10, n6_11, n6_12, n6_13, n6_14, n6_15, n6_16, n6_17, n6_18, n6_19, n6_20, n6_21, n6_22, n6_23, n6_25, n6_26, n6_27, n6_28, o6_1, o6_4, o6_7, o6_11, o6_13, o6_16, o6_19, o6_23, o6_25, o6_27, res6, TT_3, TT_4, TT_5, TT_9, TT_22, TT_25, TT_26, TT_29, TT_33, TT_38, TT_40, TT_42, TT_47, TT_50, TT_57, TT_59, TT_66, TT_68, TT_69, TT_70, TT_72, TT_81, bb, primP, primM, ev, evs, parts_, ofConst, bin, un, intBin, putA, enterT, Nat.reduceEqDiff, Nat.reduceAdd, Nat.reduceMul, Nat.reduceLeDiff, Nat.reduceLT, ↓reduceIte, reduceCtorEq, RunRes, resultsA, oneOf, AV.plain, AV.cells, AHeap.push, AHeap.set, AHeap.empty, fieldOf, loadA, storeA, BX.part, TK.isAgg, convA, builtinA, inertB, builtinP, buildA, fillA, splice, eqv, cellsEq, sizeT, adT, ldT, fwT, Nat.reduceBeqDiff, Nat.reduceBneDiff, Int.reduceBNe, Int.reduceBEq, Int.reduceEq, Int.reduceLT, Int.reduceLE, Int.reduceAdd, Int.reduceSub, Int.reduceMul, Int.reduceNeg, strBin, indexAddrA, elems, lenOf, chunk, List.reduceReplicate, Int.reduceToNat]
      refine Merge_call hown3 hxs3 (fun x hx => (ord hP3 x hx).1) (fun x hx => (ord hP3 x hx).2) (few (by omega) hP3) (by rw [hP3.all.2]; omega) ?_
      intro m3 w3 hm3 hw3
      have hS2' := hS2.keep hn3 (fun g _ hg => hk3 g hg)
      simp only [n6_0, n6_1, n6_2, n6_3, n6_4, n6_5, n6_6, n6_7, n6_8, n6_9, n6_10, n6_11, n6_12, n6_13, n6_14, n6_15, n6_16, n6_17, n6_18, n6_19, n6_20, n6_21, n6_22, n6_23, n6_24, n6_25, n6_27, n6_28, o6_1, o6_4, o6_7, o6_11, o6_13, o6_16, o6_19, o6_23, o6_25, o6_27, res6, TT_3, TT_4, TT_5, TT_9, TT_22, TT_25, TT_26, TT_29, TT_33, TT_38, TT_40, TT_42, TT_47, TT_50, TT_57, TT_59, TT_66, TT_68, TT_69, TT_70, TT_72, TT_81, bb, primP, primM, ev, evs, parts_, ofConst, bin, un, intBin, putA, enterT, Nat.reduceEqDiff, Nat.reduceAdd, Nat.reduceMul, Nat.reduceLeDiff, Nat.reduceLT, ↓reduceIte, reduceCtorEq, RunRes, resultsA, oneOf, AV.plain, AV.cells, AHeap.push, AHeap.set, AHeap.empty, fieldOf, loadA, storeA, BX.part, TK.isAgg, convA, builtinA, inertB, builtinP, buildA, fillA, splice, eqv, cellsEq, sizeT, adT, ldT, fwT, Nat.reduceBeqDiff, Nat.reduceBneDiff, Int.reduceBNe, Int.reduceBEq, Int.reduceEq, Int.reduceLT, Int.reduceLE, Int.reduceAdd, Int.reduceSub, Int.reduceMul, Int.reduceNeg, strBin, indexAddrA, elems, lenOf, chunk, List.reduceReplicate, Int.reduceToNat]
      refine Runs_call hS2' hC2 (by omega) (by omega) ?_
      intro r4 n4 A4 xs4 hown4 hxs4 hP4 hn4 hk4
      simp only [n6_0, n6_1, n6_2, n6_3, n6_4, n6_5, n6_6, n6_7, n6_8, n6_9, n6_10, n6_11, n6_12, n6_13, n6_14, n6_15, n6_16, n6_17, n6_18, n6_19, n6_20, n6_21, n6_22, n6_23, n6_24, n6_25, n6_27, n6_28, o6_1, o6_4, o6_7, o6_11, o6_13, o6_16, o6_19, o6_23, o6_25, o6_27, res6, TT_3, TT_4, TT_5, TT_9, TT_22, TT_25, TT_26, TT_29, TT_33, TT_38, TT_40, TT_42, TT_47, TT_50, TT_57, TT_59, TT_66, TT_68, TT_69, TT_70, TT_72, TT_81, bb, primP, primM, ev, evs, parts_, ofConst, bin, un, intBin, putA, enterT, Nat.reduceEqDiff, Nat.reduceAdd, Nat.reduceMul, Nat.reduceLeDiff, Nat.reduceLT, ↓reduceIte, reduceCtorEq, RunRes, resultsA, oneOf, AV.plain, AV.cells, AHeap.push, AHeap.set, AHeap.empty, fieldOf, loadA, storeA, BX.part, TK.isAgg, convA, builtinA, inertB, builtinP, buildA, fillA, splice, eqv, cellsEq, sizeT, adT, ldT, fwT, Nat.reduceBeqDiff, Nat.reduceBneDiff, Int.reduceBNe, Int.reduceBEq, Int.reduceEq, Int.reduceLT, Int.reduceLE, Int.reduceAdd, Int.reduceSub, Int.reduceMul, Int.reduceNeg, strBin, indexAddrA, elems, lenOf, chunk, List.reduceReplicate, Int.reduceToNat]
      refine Merge_call hown4 hxs4 (fun x hx => (ord hP4 x hx).1) (fun x hx => (ord hP4 x hx).2) (few (by omega) hP4) (by rw [hP4.all.2]; omega) ?_
      intro m4 w4 hm4 hw4
      obtain rfl := (hP3.sort hm3).uniq hs0
      obtain rfl := (hP4.sort hm4).uniq hs0
      have hml : m4.length ≤ 100000 := by rw [hs0.len]; omega
      have sp1 := SamePairs_e hw3 hw0 hml
      have sp2 := SamePairs_e hw3 hw4 hml
      have g1 : [w3, w0].all AV.flat = true := by simp [hw3.flat, hw0.flat]
      have g2 : [w3, w4].all AV.flat = true := by simp [hw3.flat, hw4.flat]
      simp only [call_pure pure22 f0 hp0, call_pure pure18 g1 sp1, call_pure pure18 g2 sp2, n6_0, n6_1, n6_2, n6_3, n6_4, n6_5, n6_6, n6_7, n6_8, n6_9, n6_10, n6_11, n6_12, n6_13, n6_14, n6_15, n6_16, n6_17, n6_18, n6_19, n6_20, n6_21, n6_22, n6_23, n6_24, n6_25, n6_26, n6_27, n6_28, o6_1, o6_4, o6_7, o6_11, o6_13, o6_16, o6_19, o6_23, o6_25, o6_27, res6, TT_3, TT_4, TT_5, TT_9, TT_22, TT_25, TT_26, TT_29, TT_33, TT_38, TT_40, TT_42, TT_47, TT_50, TT_57, TT_59, TT_66, TT_68, TT_69, TT_70, TT_72, TT_81, bb, primP, primM, ev, evs, parts_, ofConst, bin, un, intBin, putA, enterT, Nat.reduceEqDiff, Nat.reduceAdd, Nat.reduceMul, Nat.reduceLeDiff, Nat.reduceLT, ↓reduceIte, reduceCtorEq, RunRes, resultsA, oneOf, AV.plain, AV.cells, AHeap.push, AHeap.set, AHeap.empty, fieldOf, loadA, storeA, BX.part, TK.isAgg, convA, builtinA, inertB, builtinP, buildA, fillA, splice, eqv, cellsEq, sizeT, adT, ldT, fwT, Nat.reduceBeqDiff, Nat.reduceBneDiff, Int.reduceBNe, Int.reduceBEq, Int.reduceEq, Int.reduceLT, Int.reduceLE, Int.reduceAdd, Int.reduceSub, Int.reduceMul, Int.reduceNeg, strBin, indexAddrA, elems, lenOf, chunk, List.reduceReplicate, Int.reduceToNat]
end Go.Proofs.Ytbfjkomlnpolmaa.G

namespace Go.BX
open Go.ChangeShapes Go.WideShapes Go.ChangeAt Go.RowKit

variable {P : Program} {w : World} {H : Type} {enc : TypeId × Value → H} {base : Nat} {spare : Nat → Bool} {held : Bool}

/-- A struct of numbers of one kind that came in. -/
theorem open_ints_struct {t : TypeId} {k : IntKind} {fs : Array Field} {v : Value} {d : DataW H} {ps : List MemPlace} {r : Reach} {b0 : Nat} (ht : P.underlying t = some (.struct fs)) (hval : Value.okWide P w r b0 t v) (hd : DataW.Trod enc P w base spare held t v d ps)
    (hf : ∀ (i : Nat) (f : Field), fs[i]? = some f → f.offset = i ∧ P.cellsOf f.type = 1 ∧ P.underlying f.type = some (.int k)) (hc : P.cellsOf t = fs.size) :
    ∃ ns : List Int, ns.length = fs.size ∧ v = .agg (ns.map (Value.int k)).toArray ∧ ∀ n, n ∈ ns → (Lit.int k n).wf = true := by
  obtain ⟨cs, rfl, hcs⟩ := okWide_struct ht hval
  obtain ⟨fuel, hfu⟩ := hd
  obtain ⟨xs, n, rfl, _, hlen, hxl, hx⟩ := DataW.trod_struct ht hfu
  have hcell : ∀ i, i < fs.size → ∃ m, cs[i]? = some (.int k m) ∧ (Lit.int k m).wf = true := by
    intro i hi
    obtain ⟨ho, hc1, hu⟩ := hf i fs[i] (Array.getElem?_eq_getElem hi)
    have h1 := hx i fs[i] (Array.getElem?_eq_getElem hi)
    rw [List.getElem?_eq_getElem (by omega)] at h1
    rw [ho, hc1] at h1
    obtain ⟨m, hm, _, hw⟩ := DataW.trod_int hu h1
    refine ⟨m, ?_, hw⟩
    have hil : i < cs.toList.length := by rw [show cs.toList.length = (Value.agg cs).cells.toList.length from rfl, hlen, hc]; exact hi
    simp only [Value.cells] at hm
    rw [List.drop_eq_getElem_cons hil] at hm
    simp only [List.take_succ_cons, List.take_zero, List.cons.injEq, and_true] at hm
    rw [← Array.getElem?_toList, List.getElem?_eq_getElem hil, hm]
  have hsz : cs.size = fs.size := by rw [hcs, hc]
  let nm : Value → Int := fun | .int _ n => n | _ => 0
  have hget : ∀ i (h : i < cs.size), ∃ m, cs[i] = .int k m ∧ (Lit.int k m).wf = true := fun i h => by
    obtain ⟨m, hm, hw⟩ := hcell i (by omega)
    rw [Array.getElem?_eq_getElem h] at hm
    exact ⟨m, by simpa using hm, hw⟩
  refine ⟨cs.toList.map nm, by simp [hsz], ?_, fun n hn => ?_⟩
  · congr 1
    apply Array.ext'
    simp only [List.map_map]
    apply List.ext_getElem
    · simp
    · intro i h1 h2
      obtain ⟨m, hm, _⟩ := hget i (by simpa using h1)
      simp only [List.getElem_map, Function.comp_apply, Array.getElem_toList, hm, nm]
  · simp only [List.mem_map] at hn
    obtain ⟨v, hv, rfl⟩ := hn
    obtain ⟨i, hi⟩ := List.getElem?_of_mem hv
    have hlt : i < cs.size := by simpa using (List.getElem?_eq_some_iff.mp hi).1
    obtain ⟨m, hm, hw⟩ := hget i hlt
    rw [Array.getElem?_toList, Array.getElem?_eq_getElem hlt, hm] at hi
    cases hi
    exact hw

end Go.BX

namespace Go.BX
open Go.ChangeShapes Go.WideShapes Go.ChangeAt Go.RowKit
set_option linter.unusedVariables false
set_option linter.unusedSimpArgs false

/-! # What comes in, opened: any type of numbers, texts, slices and structs -/

/-- The cells of a value that came in, by its type. -/
inductive Shp (P : Program) : TypeId → List AV → Prop
  | bool {t b} (h : P.underlying t = some .bool) : Shp P t [.bool b]
  | int {t k n} (h : P.underlying t = some (.int k)) (hw : (Lit.int k n).wf = true) : Shp P t [.int k n]
  | str {t s} (h : P.underlying t = some .string) (hl : s.length ≤ maxLen) : Shp P t [.str s]
  | nilS {t e} (h : P.underlying t = some (.slice e)) : Shp P t [.nilS]
  | vec {t e es} (h : P.underlying t = some (.slice e)) (hl : es.length ≤ maxLen) (he : ∀ r, r ∈ es → Shp P e r) : Shp P t [.vec (P.cellsOf e) es]
  | struct {t fs az} (h : P.underlying t = some (.struct fs)) (hl : az.length = P.cellsOf t) (hf : ∀ (i : Nat) (f : Field), fs[i]? = some f → Shp P f.type ((az.drop f.offset).take (P.cellsOf f.type))) : Shp P t az

variable {P : Program}

theorem shp_bool {t : TypeId} {az : List AV} (h : P.underlying t = some .bool) (hs : Shp P t az) : ∃ b, az = [.bool b] := by
  cases hs with
  | bool h' => exact ⟨_, rfl⟩
  | int h' | str h' | nilS h' | vec h' | struct h' => rw [h] at h'; cases h'

theorem shp_int {t : TypeId} {k : IntKind} {az : List AV} (h : P.underlying t = some (.int k)) (hs : Shp P t az) : ∃ n, az = [.int k n] ∧ (Lit.int k n).wf = true := by
  cases hs with
  | int h' hw => rw [h] at h'; cases h'; exact ⟨_, rfl, hw⟩
  | bool h' | str h' | nilS h' | vec h' | struct h' => rw [h] at h'; cases h'

theorem shp_str {t : TypeId} {az : List AV} (h : P.underlying t = some .string) (hs : Shp P t az) : ∃ s, az = [.str s] ∧ s.length ≤ maxLen := by
  cases hs with
  | str h' hl => exact ⟨_, rfl, hl⟩
  | bool h' | int h' | nilS h' | vec h' | struct h' => rw [h] at h'; cases h'

theorem shp_slice {t e : TypeId} {az : List AV} (h : P.underlying t = some (.slice e)) (hs : Shp P t az) : az = [.nilS] ∨ ∃ es, az = [.vec (P.cellsOf e) es] ∧ es.length ≤ maxLen ∧ ∀ r, r ∈ es → Shp P e r := by
  cases hs with
  | nilS h' => exact .inl rfl
  | vec h' hl he => rw [h] at h'; cases h'; exact .inr ⟨_, rfl, hl, he⟩
  | bool h' | int h' | str h' | struct h' => rw [h] at h'; cases h'

theorem shp_struct {t : TypeId} {fs : Array Field} {az : List AV} (h : P.underlying t = some (.struct fs)) (hs : Shp P t az) :
    az.length = P.cellsOf t ∧ ∀ (i : Nat) (f : Field), fs[i]? = some f → Shp P f.type ((az.drop f.offset).take (P.cellsOf f.type)) := by
  cases hs with
  | struct h' hl hf => rw [h] at h'; cases h'; exact ⟨hl, hf⟩
  | bool h' | int h' | str h' | nilS h' | vec h' => rw [h] at h'; cases h'

/-- The field that a cell lies in. -/
def ownF (P : Program) (fs : Array Field) (c : Nat) : Option Nat :=
  (List.range fs.size).find? fun i => match fs[i]? with
    | some f => decide (f.offset ≤ c) && decide (c < f.offset + P.cellsOf f.type)
    | none => false

/-- Types of numbers, texts, slices and structs. -/
def dataT (P : Program) : Nat → TypeId → Bool
  | 0, _ => false
  | d + 1, t =>
    match P.underlying t with
    | some .bool | some (.int _) | some .string => true
    | some (.slice e) => dataT P d e && decide (P.cellsOf e ≠ 0)
    | some (.struct fs) =>
      ((List.range (P.cellsOf t)).all fun c => (ownF P fs c).isSome) &&
      (List.range fs.size).all fun i => match fs[i]? with
        | some f => dataT P d f.type && decide (f.offset + P.cellsOf f.type ≤ P.cellsOf t) && (List.range (P.cellsOf f.type)).all fun j => ownF P fs (f.offset + j) == some i
        | none => false
    | _ => false

variable {w : World} {H : Type} {enc : TypeId × Value → H} {base : Nat} {spare : Nat → Bool} {held : Bool}

/-- What cells stand for. -/
def Sts (w : World) (az : List AV) (cs : List Value) : Prop :=
  az.length = cs.length ∧ ∀ (i : Nat) (a : AV) (v : Value), az[i]? = some a → cs[i]? = some v → a.one = true ∧ VRel w (Old w) (fun _ => none) a v

theorem sts_one {a : AV} {v : Value} (h1 : a.one = true) (h : VRel w (Old w) (fun _ => none) a v) : Sts w [a] [v] := by
  refine ⟨rfl, fun i x y hx hy => ?_⟩
  match i, hx, hy with
  | 0, hx, hy => cases hx; cases hy; exact ⟨h1, h⟩

theorem cells_length {a : Addr} {n : Nat} {cs : List Value} (h : w.cells? base a n = some cs) : cs.length = n := by
  unfold World.cells? at h
  split at h
  · simpa using mapM_some_length h
  · cases h

theorem cells_get {a : Addr} {n : Nat} {cs : List Value} (h : w.cells? base a n = some cs) {i : Nat} (hi : i < n) : w.cell? (a.add i) = cs[i]? := by
  unfold World.cells? at h
  split at h
  · exact mapM_some_get h i i (by simp [hi])
  · cases h

theorem cell_spot {a : Addr} {v : Value} (h : w.cell? a = some v) : a.spot = none := by
  unfold World.cell? at h
  split at h
  · split at h
    · cases h
    · rename_i hs; simpa using hs
  · cases h

theorem add_eq {a : Addr} (hs : a.spot = none) (n : Nat) : a.add n = ⟨a.block, a.off + n, none⟩ := by
  unfold Addr.add
  split
  · rename_i h; subst h; cases a; simp_all
  · rfl

theorem list_choose {α : Type} {p : Nat → α → Prop} (n : Nat) (h : ∀ i, i < n → ∃ x, p i x) : ∃ l : List α, l.length = n ∧ ∀ (i : Nat) (x : α), l[i]? = some x → p i x := by
  have : ∀ i, ∃ x : Option α, (i < n → ∃ y, x = some y ∧ p i y) := fun i => by
    by_cases hi : i < n
    · obtain ⟨x, hx⟩ := h i hi; exact ⟨some x, fun _ => ⟨x, rfl, hx⟩⟩
    · exact ⟨none, fun h => absurd h hi⟩
  let F : Nat → Option α := fun i => Classical.choose (this i)
  have hF : ∀ i, i < n → ∃ y, F i = some y ∧ p i y := fun i => Classical.choose_spec (this i)
  refine ⟨(List.range n).filterMap F, ?_, ?_⟩
  · have : ∀ l : List Nat, (∀ i ∈ l, i < n) → (l.filterMap F).length = l.length := by
      intro l hl
      induction l with
      | nil => rfl
      | cons x xs ih =>
        obtain ⟨y, hy, _⟩ := hF x (hl x (by simp))
        rw [List.filterMap_cons, hy]
        simp [ih fun i hi => hl i (by simp [hi])]
    rw [this _ (by simp), List.length_range]
  · have key : ∀ l : List Nat, (∀ i ∈ l, i < n) → ∀ (j : Nat) (x : α), (l.filterMap F)[j]? = some x → ∃ i, l[j]? = some i ∧ F i = some x := by
      intro l hl
      induction l with
      | nil => intro j x h; simp at h
      | cons z zs ih =>
        intro j x h
        obtain ⟨y, hy, _⟩ := hF z (hl z (by simp))
        rw [List.filterMap_cons, hy] at h
        cases j with
        | zero => simp at h; subst h; exact ⟨z, rfl, hy⟩
        | succ j => exact ih (fun i hi => hl i (by simp [hi])) j x (by simpa using h)
    intro i x hx
    obtain ⟨i', hi', hx'⟩ := key _ (by simp) i x hx
    have hlt : i < n := by
      rcases Nat.lt_or_ge i n with h | h
      · exact h
      · rw [List.getElem?_eq_none (by simpa using h)] at hi'; cases hi'
    have : i' = i := by simp [List.getElem?_range hlt] at hi'; exact hi'.symm
    subst this
    obtain ⟨y, hy, hp⟩ := hF i' hlt
    rw [hx'] at hy; cases hy; exact hp

theorem open_cells : ∀ (d : Nat) {t : TypeId} {fuel : Nat} {cs : List Value} {x : DataW H × List MemPlace}, dataT P d t = true → DataW.trod enc P w base spare held fuel t cs = some x → ∃ az, Sts w az cs ∧ Shp P t az := by
  intro d
  induction d with
  | zero => intro t fuel cs x h; cases h
  | succ d ih =>
    intro t fuel cs x hd hx
    unfold dataT at hd
    split at hd
    · rename_i ht
      obtain ⟨b, rfl, _⟩ := DataW.trod_bool ht hx
      exact ⟨[.bool b], sts_one rfl (.bool b), .bool ht⟩
    · rename_i k ht
      obtain ⟨n, rfl, _, hw⟩ := DataW.trod_int ht hx
      exact ⟨[.int k n], sts_one rfl (.int k n), .int ht hw⟩
    · rename_i ht
      obtain ⟨s, rfl, _, hl⟩ := DataW.trod_string ht hx
      exact ⟨[.str s.data.toList], sts_one rfl (.str _ s rfl), .str ht (by simpa using hl)⟩
    · rename_i e ht
      simp only [Bool.and_eq_true, decide_eq_true_eq] at hd
      rcases DataW.trod_slice ht hx with ⟨rfl, _⟩ | ⟨a, len, cap, elems, rest, n, _, rfl, _, hb, hlc, hcm, hel, he, _, _⟩
      · exact ⟨[.nilS], sts_one rfl .nilS, .nilS ht⟩
      · have hrow : ∀ i, i < len → ∃ cs az, w.cells? base (a.add (i * P.cellsOf e)) (P.cellsOf e) = some cs ∧ Sts w az cs ∧ Shp P e az := by
          intro i hi
          have h1 := he i hi
          rw [List.getElem?_eq_getElem (by omega)] at h1
          simp only [Option.bind_eq_some_iff] at h1
          obtain ⟨cs, hcs, h2⟩ := h1
          obtain ⟨az, h3, h4⟩ := ih hd.1 h2
          exact ⟨cs, az, hcs, h3, h4⟩
        obtain ⟨rows, hrl, hrows⟩ := list_choose (α := List Value × List AV) (p := fun i z => w.cells? base (a.add (i * P.cellsOf e)) (P.cellsOf e) = some z.1 ∧ Sts w z.2 z.1 ∧ Shp P e z.2) len (fun i hi => by
          obtain ⟨cs, az, h⟩ := hrow i hi; exact ⟨(cs, az), h⟩)
        have hspot : len ≠ 0 → a.spot = none ∧ a.block < w.heap.size := by
          intro hne
          obtain ⟨cs, az, h, _⟩ := hrow 0 (by omega)
          have h0 := cells_get h (i := 0) (by omega)
          rw [List.getElem?_eq_getElem (by rw [cells_length h]; omega)] at h0
          simp only [Nat.zero_mul] at h0
          have e0 : (a.add 0).add 0 = a := rfl
          rw [e0] at h0
          exact ⟨cell_spot h0, cell_lt h0⟩
        have hz : ∀ (i : Nat) (r : List AV), (rows.map (·.2))[i]? = some r → ∃ cs, rows[i]? = some (cs, r) ∧ w.cells? base (a.add (i * P.cellsOf e)) (P.cellsOf e) = some cs ∧ Sts w r cs ∧ Shp P e r := by
          intro i r h
          rw [List.getElem?_map, Option.map_eq_some_iff] at h
          obtain ⟨z, hz, rfl⟩ := h
          obtain ⟨h1, h2, h3⟩ := hrows i z hz
          exact ⟨z.1, hz, h1, h2, h3⟩
        refine ⟨[.vec (P.cellsOf e) (rows.map (·.2))], sts_one rfl ?_, .vec ht (by simp; omega) ?_⟩
        · have hll : (rows.map (·.2)).length = len := by simp [hrl]
          have hgoal := VRel.vec (w := w) (U := Old w) (ι := fun _ => none) (rows.map (·.2)) a (P.cellsOf e) cap (fun i j => ((rows[i]?).bind fun z => z.1[j]?).getD undef) (by omega)
            (fun r hr => by
              obtain ⟨i, hi⟩ := List.getElem?_of_mem hr
              obtain ⟨cs, _, h1, h2, _⟩ := hz i r hi
              rw [h2.1, cells_length h1])
            (fun hne => (hspot (by intro h0; apply hne; apply List.eq_nil_of_length_eq_zero; omega)).2)
            (fun hne => (hspot (by intro h0; apply hne; apply List.eq_nil_of_length_eq_zero; omega)).1)
            (fun i j hi hj => by
              have hs := (hspot (by omega)).1
              obtain ⟨cs, hcs, h1, h2, _⟩ := hz i (rows.map (·.2))[i] (List.getElem?_eq_getElem hi)
              have h3 := cells_get h1 hj
              rw [hcs]
              simp only [Option.bind_some]
              rw [List.getElem?_eq_getElem (by rw [cells_length h1]; exact hj)] at h3 ⊢
              rw [← add_eq (a := ⟨a.block, a.off + i * P.cellsOf e, none⟩) rfl j, ← add_eq hs]
              exact h3)
            (fun r hr x hxr => by
              obtain ⟨i, hi⟩ := List.getElem?_of_mem hr
              obtain ⟨cs, _, h1, h2, _⟩ := hz i r hi
              obtain ⟨j, hj⟩ := List.getElem?_of_mem hxr
              have hjl : j < cs.length := by rw [← h2.1]; exact (List.getElem?_eq_some_iff.mp hj).1
              exact (h2.2 j x cs[j] hj (List.getElem?_eq_getElem hjl)).1)
            (fun i r j x hi hj => by
              obtain ⟨cs, hcs, h1, h2, _⟩ := hz i r hi
              have hjl : j < cs.length := by rw [← h2.1]; exact (List.getElem?_eq_some_iff.mp hj).1
              have h4 := (h2.2 j x cs[j] hj (List.getElem?_eq_getElem hjl)).2
              simp only [hcs, Option.bind_some, List.getElem?_eq_getElem hjl, Option.getD_some]
              exact h4)
          rw [hll] at hgoal
          exact hgoal
        · intro r hr
          obtain ⟨i, hi⟩ := List.getElem?_of_mem hr
          obtain ⟨_, _, _, _, h⟩ := hz i r hi
          exact h
    · rename_i fs ht
      simp only [Bool.and_eq_true, List.all_eq_true, List.mem_range] at hd
      obtain ⟨hcov, hflds⟩ := hd
      obtain ⟨xs, n, _, _, hcl, hxl, hxf⟩ := DataW.trod_struct ht hx
      have hfi : ∀ i, i < fs.size → ∃ az, ∀ f, fs[i]? = some f → Sts w az ((cs.drop f.offset).take (P.cellsOf f.type)) ∧ Shp P f.type az ∧ f.offset + P.cellsOf f.type ≤ P.cellsOf t ∧ ∀ j, j < P.cellsOf f.type → ownF P fs (f.offset + j) = some i := by
        intro i hi
        have hf0 : fs[i]? = some fs[i] := Array.getElem?_eq_getElem hi
        have h1 := hxf i fs[i] hf0
        rw [List.getElem?_eq_getElem (by omega)] at h1
        have h2 := hflds i hi
        rw [hf0] at h2
        simp only [Bool.and_eq_true, decide_eq_true_eq, List.all_eq_true, List.mem_range, beq_iff_eq] at h2
        obtain ⟨az, h3, h4⟩ := ih h2.1.1 h1
        exact ⟨az, fun f hf => by rw [hf0] at hf; cases hf; exact ⟨h3, h4, h2.1.2, h2.2⟩⟩
      obtain ⟨rows, hrl, hrows⟩ := list_choose fs.size hfi
      have hcell : ∀ c, c < P.cellsOf t → ∃ a, ∀ i f r, ownF P fs c = some i → fs[i]? = some f → rows[i]? = some r → f.offset ≤ c ∧ c < f.offset + P.cellsOf f.type ∧ r[c - f.offset]? = some a := by
        intro c hc
        have h1 := hcov c hc
        obtain ⟨i, hi⟩ := Option.isSome_iff_exists.mp h1
        have h2 := List.find?_some hi
        have h3 : i < fs.size := by simpa using List.mem_of_find?_eq_some hi
        have hf0 : fs[i]? = some fs[i] := Array.getElem?_eq_getElem h3
        rw [hf0] at h2
        simp only [Bool.and_eq_true, decide_eq_true_eq] at h2
        have hr0 : rows[i]? = some rows[i] := List.getElem?_eq_getElem (by omega)
        obtain ⟨hst, _, hle, _⟩ := hrows i rows[i] hr0 fs[i] hf0
        have hlen : rows[i].length = P.cellsOf fs[i].type := by rw [hst.1, List.length_take, List.length_drop, hcl]; omega
        refine ⟨(rows[i])[c - fs[i].offset]'(by omega), fun i' f r hi' hf hr => ?_⟩
        rw [hi] at hi'; cases hi'
        rw [hf0] at hf; cases hf
        rw [hr0] at hr; cases hr
        exact ⟨h2.1, h2.2, List.getElem?_eq_getElem _⟩
      obtain ⟨az, hal, has⟩ := list_choose (P.cellsOf t) hcell
      have hfield : ∀ (i : Nat) (f : Field) (r : List AV), fs[i]? = some f → rows[i]? = some r → (az.drop f.offset).take (P.cellsOf f.type) = r := by
        intro i f r hf hr
        obtain ⟨hst, _, hle, hown⟩ := hrows i r hr f hf
        have hlen : r.length = P.cellsOf f.type := by rw [hst.1, List.length_take, List.length_drop, hcl]; omega
        apply List.ext_getElem?
        intro j
        rcases Nat.lt_or_ge j (P.cellsOf f.type) with hj | hj
        · rw [List.getElem?_take_of_lt hj, List.getElem?_drop]
          have hc : az[f.offset + j]? = some (az[f.offset + j]'(by omega)) := List.getElem?_eq_getElem (by omega)
          obtain ⟨_, _, h3⟩ := has (f.offset + j) _ hc i f r (hown j hj) hf hr
          rw [hc, ← h3]
          congr 1; omega
        · rw [List.getElem?_eq_none (by simp; omega), List.getElem?_eq_none (by omega)]
      refine ⟨az, ⟨by omega, ?_⟩, .struct ht hal ?_⟩
      · intro c a v ha hv
        have hc : c < P.cellsOf t := by rw [← hal]; exact (List.getElem?_eq_some_iff.mp ha).1
        obtain ⟨i, hi⟩ := Option.isSome_iff_exists.mp (hcov c hc)
        have h3 : i < fs.size := by simpa using List.mem_of_find?_eq_some hi
        have hf0 : fs[i]? = some fs[i] := Array.getElem?_eq_getElem h3
        have hr0 : rows[i]? = some rows[i] := List.getElem?_eq_getElem (by omega)
        obtain ⟨hst, _, hle, _⟩ := hrows i rows[i] hr0 fs[i] hf0
        obtain ⟨h4, h5, h6⟩ := has c a ha i fs[i] rows[i] hi hf0 hr0
        refine hst.2 (c - fs[i].offset) a v h6 ?_
        rw [List.getElem?_take_of_lt (by omega), List.getElem?_drop, show fs[i].offset + (c - fs[i].offset) = c by omega]
        exact hv
      · intro i f hf
        have h3 : i < fs.size := (Array.getElem?_eq_some_iff.mp hf).1
        have hr0 : rows[i]? = some rows[i] := List.getElem?_eq_getElem (by omega)
        rw [hfield i f rows[i] hf hr0]
        exact (hrows i rows[i] hr0 f hf).2.1
    · cases hd

/-- A value that came in. -/
theorem open_val {t : TypeId} {v : Value} {x : DataW H} {ps : List MemPlace} {r : Reach} {b0 : Nat} (hd : dataT P 8 t = true) (hval : Value.okWide P w r b0 t v) (hx : DataW.Trod enc P w base spare held t v x ps) :
    ∃ av az, VRel w (Old w) (fun _ => none) av v ∧ Shp P t az ∧ (match P.underlying t with | some (.struct _) => av = .agg az | _ => az = [av]) := by
  obtain ⟨fuel, hf⟩ := hx
  obtain ⟨az, hst, hsh⟩ := open_cells 8 hd hf
  cases hu : P.underlying t with
  | none => exfalso; unfold dataT at hd; rw [hu] at hd; cases hd
  | some u =>
    by_cases hs : ∃ fs, u = .struct fs
    · obtain ⟨fs, rfl⟩ := hs
      obtain ⟨cs, rfl, hcs⟩ := okWide_struct hu hval
      refine ⟨.agg az, az, ?_, hsh, rfl⟩
      have hl : cs.toList.length = az.length := hst.1.symm
      have := VRel.agg (w := w) (U := Old w) (ι := fun _ => none) az cs.toList hl (fun a ha => by
        obtain ⟨i, hi⟩ := List.getElem?_of_mem ha
        have hil : i < cs.toList.length := by rw [hl]; exact (List.getElem?_eq_some_iff.mp hi).1
        exact (hst.2 i a cs.toList[i] hi (List.getElem?_eq_getElem hil)).1) (fun i a v ha hv => (hst.2 i a v ha hv).2)
      simpa using this
    · have hone : ∃ a, az = [a] := by
        cases hsh with
        | struct h' => rw [hu] at h'; cases h'; exact absurd ⟨_, rfl⟩ hs
        | bool _ | int _ | str _ | nilS _ | vec _ => exact ⟨_, rfl⟩
      obtain ⟨a, rfl⟩ := hone
      have hcl : v.cells.toList.length = 1 := hst.1.symm
      have hv : v.cells.toList = [v] := by
        cases v with
        | agg cs =>
          exfalso
          unfold Value.okWide at hval
          rw [hu] at hval
          have hcs : cs.toList.length = 1 := hcl
          obtain ⟨c, hc⟩ : ∃ c, cs.toList = [c] := List.length_eq_one_iff.mp hcs
          unfold dataT at hd
          rw [hu] at hd
          cases u <;> first | (cases hd; done) | (exact absurd ⟨_, rfl⟩ hs) | (simp [Cell.okWide, Cell.ok, hu] at hval)
        | _ => rfl
      refine ⟨a, [a], ?_, hsh, ?_⟩
      · exact (hst.2 0 a v rfl (by rw [hv]; rfl)).2
      · cases u <;> first | rfl | exact absurd ⟨_, rfl⟩ hs
end Go.BX

namespace Go.Proofs.Ytbfjkomlnpolmaa.G
open Go.BX
open Go.ChangeShapes Go.WideShapes Go.ChangeAt Go.RowKit
set_option linter.unusedVariables false

theorem own : ownKnob Try.prog.godebug = none := by kernel_rfl
theorem laidOut : laidOutB Try.prog = true := by kernel_rfl

/-- A law that answers true. -/
theorem law_calls {f : FuncId} {args : List AV} (hx : Cx.ext f = none) (h : PCall Cx f args (.bool true)) {w : World} {vs : List Value} (ha : LsRel w (Old w) (fun _ => none) args vs) :
    Calls Try.prog f vs.toArray w (fun e w' => e = .returned (.bool true) ∧ Below w.heap.size w w') := by
  obtain ⟨n, hn⟩ := h
  refine (pcall_calls cok hx hn ha).mono ?_
  rintro e w' ⟨⟨v, U', rfl, hv⟩, hb⟩
  cases hv
  exact ⟨rfl, hb⟩

theorem i64_wf {n : Int} (h : (Lit.int .i64 n).wf = true) : -9223372036854775808 ≤ n ∧ n ≤ 9223372036854775807 := bounds_i64 h
end Go.Proofs.Ytbfjkomlnpolmaa.G

namespace Go.Proofs.Ytbfjkomlnpolmaa.G
open Go.BX

theorem dec_int {cs : List AV} (h : Shp Try.prog 3 cs) : ∃ n, cs = [.int .i64 n] ∧ (-9223372036854775808 ≤ n ∧ n ≤ 9223372036854775807) := by
  obtain ⟨n, h1, h2⟩ := shp_int Try.underlying3 h
  exact ⟨n, h1, i64_wf h2⟩

theorem dec_str {cs : List AV} (h : Shp Try.prog 9 cs) : ∃ s, cs = [.str s] ∧ s.length ≤ maxLen := shp_str Try.underlying9 h

theorem dec_spot {cs : List AV} (h : Shp Try.prog 38 cs) : ∃ x y, cs = [.int .i64 x, .int .i64 y] := by
  obtain ⟨hl, hf⟩ := shp_struct Try.underlying38 h
  have hl2 : cs.length = 2 := hl.trans (by kernel_rfl)
  match cs, hl2 with
  | [a0, a1], _ =>
    have f0 := hf 0 _ rfl
    have f1 := hf 1 _ rfl
    obtain ⟨x, hx, bx⟩ := dec_int f0
    obtain ⟨y, hy, by'⟩ := dec_int f1
    cases hx
    cases hy
    exact ⟨_, _, rfl⟩

theorem dec_val {cs : List AV} (h : Shp Try.prog 40 cs) : ∃ k n s x y, cs = [.int .i64 k, .int .i64 n, .str s, .int .i64 x, .int .i64 y] := by
  obtain ⟨hl, hf⟩ := shp_struct Try.underlying40 h
  have hl2 : cs.length = 5 := hl.trans (by kernel_rfl)
  match cs, hl2 with
  | [a0, a1, a2, a3, a4], _ =>
    have f0 := hf 0 _ rfl
    have f1 := hf 1 _ rfl
    have f2 := hf 2 _ rfl
    have f3 := hf 3 _ rfl
    obtain ⟨k, hk, bk⟩ := dec_int f0
    obtain ⟨n, hn, bn⟩ := dec_int f1
    obtain ⟨s, hs, bs⟩ := dec_str f2
    obtain ⟨x, y, hxy⟩ := dec_spot f3
    cases hk
    cases hn
    cases hs
    have hxy' : [a3, a4] = [.int .i64 x, .int .i64 y] := hxy
    cases hxy'
    exact ⟨_, _, _, _, _, rfl⟩

theorem dec_pair {cs : List AV} (h : Shp Try.prog 42 cs) : ∃ p : Pr, cs = encP p := by
  obtain ⟨hl, hf⟩ := shp_struct Try.underlying42 h
  have hl2 : cs.length = 6 := hl.trans (by kernel_rfl)
  match cs, hl2 with
  | [a0, a1, a2, a3, a4, a5], _ =>
    have f0 := hf 0 _ rfl
    have f1 := hf 1 _ rfl
    obtain ⟨z, hz, bz⟩ := dec_str f0
    obtain ⟨k, n, s, x, y, hv⟩ := dec_val f1
    cases hz
    have hv' : [a1, a2, a3, a4, a5] = [.int .i64 k, .int .i64 n, .str s, .int .i64 x, .int .i64 y] := hv
    cases hv'
    exact ⟨⟨z, k, n, s, x, y⟩, rfl⟩

theorem rows_list : ∀ {es : List (List AV)}, (∀ r, r ∈ es → ∃ p : Pr, r = encP p) → ∃ l : List Pr, es = l.map encP
  | [], _ => ⟨[], rfl⟩
  | r :: es, h => by
    obtain ⟨p, rfl⟩ := h r (by simp)
    obtain ⟨l, rfl⟩ := rows_list (es := es) (fun r hr => h r (by simp [hr]))
    exact ⟨p :: l, rfl⟩

theorem dec_list {a : AV} (h : Shp Try.prog 22 [a]) : ∃ l : List Pr, InL a l ∧ l.length ≤ maxLen := by
  rcases shp_slice Try.underlying22 h with e | ⟨es, e, hl, hr⟩
  · cases e
    exact ⟨[], .inl ⟨rfl, rfl⟩, by simp⟩
  · cases e
    obtain ⟨l, rfl⟩ := rows_list (fun r hm => dec_pair (hr r hm))
    have hc : Try.prog.cellsOf 42 = 6 := by kernel_rfl
    refine ⟨l, .inr (by rw [hc]), by simpa using hl⟩
end Go.Proofs.Ytbfjkomlnpolmaa.G

namespace Go.Proofs.Ytbfjkomlnpolmaa.G
open Go.BX
open Go.ChangeShapes Go.WideShapes Go.ChangeAt Go.RowKit

theorem dec_u8 {cs : List AV} (h : Shp Try.prog 5 cs) : ∃ n, cs = [.int .u8 n] ∧ (Lit.int .u8 n).wf = true := shp_int Try.underlying5 h

theorem dec_u8' {cs : List AV} (h : Shp Try.prog 5 cs) : ∃ n, cs = [.int .u8 n] ∧ 0 ≤ n ∧ n ≤ 255 := by
  obtain ⟨n, h1, h2⟩ := dec_u8 h
  exact ⟨n, h1, bounds_u8 h2⟩
end Go.Proofs.Ytbfjkomlnpolmaa.G

