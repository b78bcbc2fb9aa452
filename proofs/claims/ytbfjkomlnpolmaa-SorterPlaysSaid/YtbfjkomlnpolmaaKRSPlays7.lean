import Derived.Test.YtbfjkomlnpolmaaKRSPlays6
namespace Go.Proofs.Ytbfjkomlnpolmaa.G
open Go.BX
set_option linter.unusedSimpArgs false
set_option linter.unusedVariables false
theorem goto41 {T : Nat → AV} {ds : List ADef} {ro : Option Nat} {H : AHeap} {Q : AV → AHeap → Prop} {k : List AItem} {c : AC} : Run Cx 41 T ds ro (.code c41_34 :: .code c :: .inScope c41_3 :: k) H Q = Run Cx 41 T ds ro (.code c41_15 :: .inScope c41_3 :: k) H Q := by
  unfold c41_34
  rw [run_goto (k' := .code (.seq .skip c41_15) :: .inScope c41_3 :: k) rfl, run_seq, run_skip]
theorem pp_all {vs : Nat → AV} {xs : Nat → List Pr} {hb g nx n N x : Nat} {A : Nat → Blk} {S : Cur → Prop} {Q : AV → AHeap → Prop} (hn : n ≤ 100000) (hnN : n ≤ N) (hg : hb < g) (hbn : hb ≤ nx) (hA : A hb = .cells 72 2 [[.slc g 3 0 n, .fn 39 [] []]]) (hS : ∀ c, S c → OkC xs c) (hV : ∀ c, S c → RV hb A (vs c.r) (xs c.r))
    (hK : ∀ (T : Nat → AV) f', T 2 = .ptr x 3 0 0 → T 3 = .ptr (x + 1) 3 0 0 → Heap (ltC xs) n f' → Cont n f' S → Run Cx 41 T [] none [.code c41_37, .inScope c41_3] ⟨nx, upd A g (.cells 68 3 (RC vs N f'))⟩ Q) :
    ∀ (m j : Nat) (T : Nat → AV) (f : Nat → Cur), n ≤ m + j → j ≤ n → T 0 = .ptr hb 2 0 0 → T 2 = .ptr x 3 0 0 → T 3 = .ptr (x + 1) 3 0 0 → T 4 = .int .i64 (n : Int) → T 5 = .int .i64 (j : Int) → (j < n → Dn (ltC xs) n f j) → (j = n → n = 0) → Cont n f S →
      Run Cx 41 T [] none [.code c41_15, .inScope c41_3] ⟨nx, upd A g (.cells 68 3 (RC vs N f))⟩ Q := by
  intro m
  induction m with
  | zero =>
    intro j T f hm hj t0 t2 t3 t4 t5 hD h0 hC
    have hn0 : n = 0 := h0 (by omega)
    subst hn0
    obtain rfl : j = 0 := by omega
    replace t5 : T 5 = .int .i64 0 := t5
    replace t4 : T 4 = .int .i64 0 := t4
    simp only [t0, t2, t3, t4, t5, run_exit_start, exit_here, exit_code, exit_inLoop, run_inBlock, show IntKind.i64.wrap 0 = 0 from rfl, show IntKind.i64.wrap 1 = 1 from rfl, n41_0, n41_1, n41_2, n41_3, n41_4, n41_5, n41_6, n41_7, n41_8, n41_9, n41_10, n41_11, n41_12, n41_13, n41_14, n41_15, n41_16, n41_17, n41_18, n41_19, n41_20, n41_21, n41_22, n41_23, n41_24, n41_25, n41_26, n41_27, n41_28, n41_29, n41_30, n41_31, n41_32, n41_33, n41_35, n41_36, n41_38, n41_39, o41_1, o41_4, o41_6, o41_8, o41_10, o41_12, o41_16, o41_19, o41_23, o41_25, o41_28, o41_31, o41_33, o41_38, res41, TT_3, TT_4, TT_5, TT_9, TT_22, TT_25, TT_26, TT_29, TT_33, TT_38, TT_40, TT_42, TT_47, TT_50, TT_57, TT_59, TT_66, TT_68, TT_69, TT_70, TT_72, TT_81, bb, primP, primM, ev, evs, parts_, ofConst, bin, un, intBin, putA, enterT, Nat.reduceEqDiff, Nat.reduceAdd, Nat.reduceMul, Nat.reduceLeDiff, Nat.reduceLT, ↓reduceIte, reduceCtorEq, RunRes, resultsA, oneOf, AV.plain, AV.cells, AHeap.push, AHeap.set, AHeap.empty, fieldOf, loadA, storeA, BX.part, TK.isAgg, convA, builtinA, inertB, builtinP, buildA, fillA, splice, eqv, cellsEq, sizeT, adT, ldT, fwT, Nat.reduceBeqDiff, Nat.reduceBneDiff, Int.reduceBNe, Int.reduceBEq, Int.reduceEq, Int.reduceLT, Int.reduceLE, Int.reduceAdd, Int.reduceSub, Int.reduceMul, Int.reduceNeg, strBin, indexAddrA, elems, lenOf, chunk, List.reduceReplicate, Int.reduceToNat]
    refine hK _ f ?_ ?_ (fun i h0 hi => by omega) hC
    all_goals simp only [upd_app, t2, t3, Nat.reduceEqDiff, ↓reduceIte]
  | succ m ih =>
    intro j T f hm hj t0 t2 t3 t4 t5 hD h0 hC
    have w1 : IntKind.i64.wrap (2 * (j : Int)) = 2 * (j : Int) := wr64 (by omega) (by omega)
    have w2 : IntKind.i64.wrap (2 * (j : Int) + 1) = ((2 * j + 1 : Nat) : Int) := by rw [wr64 (by omega) (by omega)]; omega
    by_cases hk : 2 * j + 1 < n
    · have hjn : j < n := by omega
      have hD' := hD hjn
      have c0 : ((2 * j + 1 : Nat) : Int) < (n : Int) := by omega
      have hgb : (hb = g) = False := eq_false (by omega)
      have hVu : ∀ c, S c → RV nx (upd A g (.cells 68 3 (RC vs N f))) (vs c.r) (xs c.r) := fun c hc => (hV c hc).keep hbn (fun b hb' _ => by rw [upd_app, if_neg (by omega)])
      have hlc : ∀ c d, S c → S d → ∀ {T : Nat → AV} {dst : Option Nat} {os : List AO} {k : List AItem}, RunCall Cx 41 T [] none 39 [.agg [vs c.r, .int .i64 (c.a : Int), .int .i64 (c.r : Int)], .agg [vs d.r, .int .i64 (d.a : Int), .int .i64 (d.r : Int)]] dst os k ⟨nx, upd A g (.cells 68 3 (RC vs N f))⟩ Q = RunOps Cx 41 (putA T dst (.bool (ltC xs c d))) [] none os k ⟨nx, upd A g (.cells 68 3 (RC vs N f))⟩ Q := fun c d hc hd => less_call (hS c hc) (hS d hd) (hVu c hc) (hVu d hd)
      have hirr : ∀ c, S c → ltC xs c c = false := fun c hc => by
        cases h : ltC xs c c with
        | false => rfl
        | true =>
          have := (ordC xs).asym c c (hS c hc) (hS c hc) h
          rw [h] at this; cases this
      have second : ∀ (kk : Nat) (T : Nat → AV), kk < n → par kk = j → 0 < kk → (∀ i, 0 < i → i < n → par i = j → ltC xs (f i) (f kk) = false) → T 0 = .ptr hb 2 0 0 → T 2 = .ptr x 3 0 0 → T 3 = .ptr (x + 1) 3 0 0 → T 4 = .int .i64 (n : Int) → T 5 = .int .i64 (j : Int) → T 6 = .int .i64 (kk : Int) →
          Run Cx 41 T [] none [.code c41_27, .code c41_37, .inScope c41_3] ⟨nx, upd A g (.cells 68 3 (RC vs N f))⟩ Q := by
        intro kk T hkk hpk hk0 hmin t0 t2 t3 t4 t5 t6
        have l1 : (kk : Int) < (n : Int) := by omega
        have l2 : (j : Int) < (n : Int) := by omega
        have p1 : (0 : Int) ≤ (kk : Int) := by omega
        have p2 : (0 : Int) ≤ (j : Int) := by omega
        have g1 : ∀ f', (RC vs N f')[kk]? = _ := fun f' => RC_get (f := f') (show kk < N by omega)
        have g2 : ∀ f', (RC vs N f')[j]? = _ := fun f' => RC_get (f := f') (show j < N by omega)
        have hl := fun {T} {dst} {os} {k} => hlc _ _ (hC.mem kk hkk) (hC.mem j hjn) (T := T) (dst := dst) (os := os) (k := k)
        cases hlt : ltC xs (f kk) (f j) with
        | false =>
          simp only [hlt] at hl
          simp only [t0, t2, t3, t4, t5, t6, hA, hgb, l1, l2, p1, p2, g1, g2, hl, Int.toNat_natCast, run_exit_start, exit_here, exit_code, exit_inLoop, run_inBlock, n41_0, n41_1, n41_2, n41_3, n41_4, n41_5, n41_6, n41_7, n41_8, n41_9, n41_10, n41_11, n41_12, n41_13, n41_14, n41_15, n41_16, n41_17, n41_18, n41_19, n41_20, n41_21, n41_22, n41_23, n41_24, n41_25, n41_26, n41_27, n41_28, n41_29, n41_30, n41_31, n41_32, n41_33, n41_35, n41_36, n41_38, n41_39, o41_1, o41_4, o41_6, o41_8, o41_10, o41_12, o41_16, o41_19, o41_23, o41_25, o41_28, o41_31, o41_33, o41_38, res41, TT_3, TT_4, TT_5, TT_9, TT_22, TT_25, TT_26, TT_29, TT_33, TT_38, TT_40, TT_42, TT_47, TT_50, TT_57, TT_59, TT_66, TT_68, TT_69, TT_70, TT_72, TT_81, bb, primP, primM, ev, evs, parts_, ofConst, bin, un, intBin, putA, enterT, Nat.reduceEqDiff, Nat.reduceAdd, Nat.reduceMul, Nat.reduceLeDiff, Nat.reduceLT, ↓reduceIte, reduceCtorEq, RunRes, resultsA, oneOf, AV.plain, AV.cells, AHeap.push, AHeap.set, AHeap.empty, fieldOf, loadA, storeA, BX.part, TK.isAgg, convA, builtinA, inertB, builtinP, buildA, fillA, splice, eqv, cellsEq, sizeT, adT, ldT, fwT, Nat.reduceBeqDiff, Nat.reduceBneDiff, Int.reduceBNe, Int.reduceBEq, Int.reduceEq, Int.reduceLT, Int.reduceLE, Int.reduceAdd, Int.reduceSub, Int.reduceMul, Int.reduceNeg, strBin, indexAddrA, elems, lenOf, chunk, List.reduceReplicate, Int.reduceToNat]
          refine hK _ f ?_ ?_ (hD'.stop (ordC xs) (fun i hi => hS _ (hC.mem i hi)) hjn (.inr ⟨kk, hkk, hpk, hk0, hmin, hlt⟩)) hC
          all_goals simp only [upd_app, t2, t3, Nat.reduceEqDiff, ↓reduceIte]
        | true =>
          simp only [hlt] at hl
          simp only [t0, t2, t3, t4, t5, t6, hA, hgb, l1, l2, p1, p2, g1, g2, hl, Int.toNat_natCast, RC_set, upd2, swA_eq, goto41, run_exit_start, exit_here, exit_code, exit_inLoop, run_inBlock, n41_0, n41_1, n41_2, n41_3, n41_4, n41_5, n41_6, n41_7, n41_8, n41_9, n41_10, n41_11, n41_12, n41_13, n41_14, n41_16, n41_17, n41_18, n41_19, n41_20, n41_21, n41_22, n41_23, n41_24, n41_25, n41_26, n41_27, n41_28, n41_29, n41_30, n41_31, n41_32, n41_33, n41_35, n41_36, n41_38, n41_39, o41_1, o41_4, o41_6, o41_8, o41_10, o41_12, o41_16, o41_19, o41_23, o41_25, o41_28, o41_31, o41_33, o41_38, res41, TT_3, TT_4, TT_5, TT_9, TT_22, TT_25, TT_26, TT_29, TT_33, TT_38, TT_40, TT_42, TT_47, TT_50, TT_57, TT_59, TT_66, TT_68, TT_69, TT_70, TT_72, TT_81, bb, primP, primM, ev, evs, parts_, ofConst, bin, un, intBin, putA, enterT, Nat.reduceEqDiff, Nat.reduceAdd, Nat.reduceMul, Nat.reduceLeDiff, Nat.reduceLT, ↓reduceIte, reduceCtorEq, RunRes, resultsA, oneOf, AV.plain, AV.cells, AHeap.push, AHeap.set, AHeap.empty, fieldOf, loadA, storeA, BX.part, TK.isAgg, convA, builtinA, inertB, builtinP, buildA, fillA, splice, eqv, cellsEq, sizeT, adT, ldT, fwT, Nat.reduceBeqDiff, Nat.reduceBneDiff, Int.reduceBNe, Int.reduceBEq, Int.reduceEq, Int.reduceLT, Int.reduceLE, Int.reduceAdd, Int.reduceSub, Int.reduceMul, Int.reduceNeg, strBin, indexAddrA, elems, lenOf, chunk, List.reduceReplicate, Int.reduceToNat]
          have hpl := par_lt hk0
          refine ih kk _ (swA f j kk) (by omega) (by omega) ?_ ?_ ?_ ?_ ?_ (fun _ => hD'.step (ordC xs) (fun i hi => hS _ (hC.mem i hi)) hkk hpk hk0 hmin hlt) (fun e => by omega) (hC.sw hjn hkk)
          all_goals simp only [upd_app, t0, t2, t3, t4, Nat.reduceEqDiff, ↓reduceIte]
      have p1 : (0 : Int) ≤ ((2 * j + 1 : Nat) : Int) := by omega
      have g1 : ∀ f', (RC vs N f')[2 * j + 1]? = _ := fun f' => RC_get (f := f') (show 2 * j + 1 < N by omega)
      have w3 : IntKind.i64.wrap (((2 * j + 1 : Nat) : Int) + 1) = ((2 * j + 2 : Nat) : Int) := by rw [wr64 (by omega) (by omega)]; omega
      have pk1 : par (2 * j + 1) = j := by unfold par; omega
      have pk2 : par (2 * j + 2) = j := by unfold par; omega
      have pch : ∀ i, 0 < i → par i = j → i = 2 * j + 1 ∨ i = 2 * j + 2 := fun i hi e => by unfold par at e; omega
      by_cases hk2 : 2 * j + 2 < n
      · have c1 : ((2 * j + 2 : Nat) : Int) < (n : Int) := by omega
        have p2 : (0 : Int) ≤ ((2 * j + 2 : Nat) : Int) := by omega
        have g2 : ∀ f', (RC vs N f')[2 * j + 2]? = _ := fun f' => RC_get (f := f') (show 2 * j + 2 < N by omega)
        have hl := fun {T} {dst} {os} {k} => hlc _ _ (hC.mem (2 * j + 2) hk2) (hC.mem (2 * j + 1) hk) (T := T) (dst := dst) (os := os) (k := k)
        cases hlt : ltC xs (f (2 * j + 2)) (f (2 * j + 1)) with
        | false =>
          simp only [hlt] at hl
          simp only [t0, t2, t3, t4, t5, hA, hgb, w1, w2, w3, c0, c1, p1, p2, g1, g2, hl, Int.toNat_natCast, run_exit_start, exit_here, exit_code, exit_inLoop, run_inBlock, n41_0, n41_1, n41_2, n41_3, n41_4, n41_5, n41_6, n41_7, n41_8, n41_9, n41_10, n41_11, n41_12, n41_13, n41_14, n41_15, n41_16, n41_17, n41_18, n41_19, n41_20, n41_21, n41_22, n41_23, n41_24, n41_25, n41_26, n41_28, n41_29, n41_30, n41_31, n41_32, n41_33, n41_35, n41_36, n41_38, n41_39, o41_1, o41_4, o41_6, o41_8, o41_10, o41_12, o41_16, o41_19, o41_23, o41_25, o41_28, o41_31, o41_33, o41_38, res41, TT_3, TT_4, TT_5, TT_9, TT_22, TT_25, TT_26, TT_29, TT_33, TT_38, TT_40, TT_42, TT_47, TT_50, TT_57, TT_59, TT_66, TT_68, TT_69, TT_70, TT_72, TT_81, bb, primP, primM, ev, evs, parts_, ofConst, bin, un, intBin, putA, enterT, Nat.reduceEqDiff, Nat.reduceAdd, Nat.reduceMul, Nat.reduceLeDiff, Nat.reduceLT, ↓reduceIte, reduceCtorEq, RunRes, resultsA, oneOf, AV.plain, AV.cells, AHeap.push, AHeap.set, AHeap.empty, fieldOf, loadA, storeA, BX.part, TK.isAgg, convA, builtinA, inertB, builtinP, buildA, fillA, splice, eqv, cellsEq, sizeT, adT, ldT, fwT, Nat.reduceBeqDiff, Nat.reduceBneDiff, Int.reduceBNe, Int.reduceBEq, Int.reduceEq, Int.reduceLT, Int.reduceLE, Int.reduceAdd, Int.reduceSub, Int.reduceMul, Int.reduceNeg, strBin, indexAddrA, elems, lenOf, chunk, List.reduceReplicate, Int.reduceToNat]
          refine second (2 * j + 1) _ hk pk1 (by omega) ?_ ?_ ?_ ?_ ?_ ?_ ?_
          · intro i hi hin he
            rcases pch i hi he with rfl | rfl
            · exact hirr _ (hC.mem _ hk)
            · exact hlt
          all_goals simp only [upd_app, t0, t2, t3, t4, t5, Nat.reduceEqDiff, ↓reduceIte]
        | true =>
          simp only [hlt] at hl
          simp only [t0, t2, t3, t4, t5, hA, hgb, w1, w2, w3, c0, c1, p1, p2, g1, g2, hl, Int.toNat_natCast, run_exit_start, exit_here, exit_code, exit_inLoop, run_inBlock, n41_0, n41_1, n41_2, n41_3, n41_4, n41_5, n41_6, n41_7, n41_8, n41_9, n41_10, n41_11, n41_12, n41_13, n41_14, n41_15, n41_16, n41_17, n41_18, n41_19, n41_20, n41_21, n41_22, n41_23, n41_24, n41_25, n41_26, n41_28, n41_29, n41_30, n41_31, n41_32, n41_33, n41_35, n41_36, n41_38, n41_39, o41_1, o41_4, o41_6, o41_8, o41_10, o41_12, o41_16, o41_19, o41_23, o41_25, o41_28, o41_31, o41_33, o41_38, res41, TT_3, TT_4, TT_5, TT_9, TT_22, TT_25, TT_26, TT_29, TT_33, TT_38, TT_40, TT_42, TT_47, TT_50, TT_57, TT_59, TT_66, TT_68, TT_69, TT_70, TT_72, TT_81, bb, primP, primM, ev, evs, parts_, ofConst, bin, un, intBin, putA, enterT, Nat.reduceEqDiff, Nat.reduceAdd, Nat.reduceMul, Nat.reduceLeDiff, Nat.reduceLT, ↓reduceIte, reduceCtorEq, RunRes, resultsA, oneOf, AV.plain, AV.cells, AHeap.push, AHeap.set, AHeap.empty, fieldOf, loadA, storeA, BX.part, TK.isAgg, convA, builtinA, inertB, builtinP, buildA, fillA, splice, eqv, cellsEq, sizeT, adT, ldT, fwT, Nat.reduceBeqDiff, Nat.reduceBneDiff, Int.reduceBNe, Int.reduceBEq, Int.reduceEq, Int.reduceLT, Int.reduceLE, Int.reduceAdd, Int.reduceSub, Int.reduceMul, Int.reduceNeg, strBin, indexAddrA, elems, lenOf, chunk, List.reduceReplicate, Int.reduceToNat]
          refine second (2 * j + 2) _ hk2 pk2 (by omega) ?_ ?_ ?_ ?_ ?_ ?_ ?_
          · intro i hi hin he
            rcases pch i hi he with rfl | rfl
            · exact (ordC xs).asym _ _ (hS _ (hC.mem _ hk2)) (hS _ (hC.mem _ hk)) hlt
            · exact hirr _ (hC.mem _ hk2)
          all_goals simp only [upd_app, t0, t2, t3, t4, t5, Nat.reduceEqDiff, ↓reduceIte]
      · have c1 : ¬ ((2 * j + 2 : Nat) : Int) < (n : Int) := by omega
        simp only [t0, t2, t3, t4, t5, hA, hgb, w1, w2, w3, c0, c1, Int.toNat_natCast, run_exit_start, exit_here, exit_code, exit_inLoop, run_inBlock, n41_0, n41_1, n41_2, n41_3, n41_4, n41_5, n41_6, n41_7, n41_8, n41_9, n41_10, n41_11, n41_12, n41_13, n41_14, n41_15, n41_16, n41_17, n41_18, n41_19, n41_20, n41_21, n41_22, n41_23, n41_24, n41_25, n41_26, n41_28, n41_29, n41_30, n41_31, n41_32, n41_33, n41_35, n41_36, n41_38, n41_39, o41_1, o41_4, o41_6, o41_8, o41_10, o41_12, o41_16, o41_19, o41_23, o41_25, o41_28, o41_31, o41_33, o41_38, res41, TT_3, TT_4, TT_5, TT_9, TT_22, TT_25, TT_26, TT_29, TT_33, TT_38, TT_40, TT_42, TT_47, TT_50, TT_57, TT_59, TT_66, TT_68, TT_69, TT_70, TT_72, TT_81, bb, primP, primM, ev, evs, parts_, ofConst, bin, un, intBin, putA, enterT, Nat.reduceEqDiff, Nat.reduceAdd, Nat.reduceMul, Nat.reduceLeDiff, Nat.reduceLT, ↓reduceIte, reduceCtorEq, RunRes, resultsA, oneOf, AV.plain, AV.cells, AHeap.push, AHeap.set, AHeap.empty, fieldOf, loadA, storeA, BX.part, TK.isAgg, convA, builtinA, inertB, builtinP, buildA, fillA, splice, eqv, cellsEq, sizeT, adT, ldT, fwT, Nat.reduceBeqDiff, Nat.reduceBneDiff, Int.reduceBNe, Int.reduceBEq, Int.reduceEq, Int.reduceLT, Int.reduceLE, Int.reduceAdd, Int.reduceSub, Int.reduceMul, Int.reduceNeg, strBin, indexAddrA, elems, lenOf, chunk, List.reduceReplicate, Int.reduceToNat]
        refine second (2 * j + 1) _ hk pk1 (by omega) ?_ ?_ ?_ ?_ ?_ ?_ ?_
        · intro i hi hin he
          rcases pch i hi he with rfl | rfl
          · exact hirr _ (hC.mem _ hk)
          · omega
        all_goals simp only [upd_app, t0, t2, t3, t4, t5, Nat.reduceEqDiff, ↓reduceIte]
    · have c0 : ¬ ((2 * j + 1 : Nat) : Int) < (n : Int) := by omega
      simp only [t0, t2, t3, t4, t5, w1, w2, c0, run_exit_start, exit_here, exit_code, exit_inLoop, run_inBlock, n41_0, n41_1, n41_2, n41_3, n41_4, n41_5, n41_6, n41_7, n41_8, n41_9, n41_10, n41_11, n41_12, n41_13, n41_14, n41_15, n41_16, n41_17, n41_18, n41_19, n41_20, n41_21, n41_22, n41_23, n41_24, n41_25, n41_26, n41_27, n41_28, n41_29, n41_30, n41_31, n41_32, n41_33, n41_35, n41_36, n41_38, n41_39, o41_1, o41_4, o41_6, o41_8, o41_10, o41_12, o41_16, o41_19, o41_23, o41_25, o41_28, o41_31, o41_33, o41_38, res41, TT_3, TT_4, TT_5, TT_9, TT_22, TT_25, TT_26, TT_29, TT_33, TT_38, TT_40, TT_42, TT_47, TT_50, TT_57, TT_59, TT_66, TT_68, TT_69, TT_70, TT_72, TT_81, bb, primP, primM, ev, evs, parts_, ofConst, bin, un, intBin, putA, enterT, Nat.reduceEqDiff, Nat.reduceAdd, Nat.reduceMul, Nat.reduceLeDiff, Nat.reduceLT, ↓reduceIte, reduceCtorEq, RunRes, resultsA, oneOf, AV.plain, AV.cells, AHeap.push, AHeap.set, AHeap.empty, fieldOf, loadA, storeA, BX.part, TK.isAgg, convA, builtinA, inertB, builtinP, buildA, fillA, splice, eqv, cellsEq, sizeT, adT, ldT, fwT, Nat.reduceBeqDiff, Nat.reduceBneDiff, Int.reduceBNe, Int.reduceBEq, Int.reduceEq, Int.reduceLT, Int.reduceLE, Int.reduceAdd, Int.reduceSub, Int.reduceMul, Int.reduceNeg, strBin, indexAddrA, elems, lenOf, chunk, List.reduceReplicate, Int.reduceToNat]
      refine hK _ f ?_ ?_ ?_ hC
      · simp only [upd_app, t2, Nat.reduceEqDiff, ↓reduceIte]
      · simp only [upd_app, t3, Nat.reduceEqDiff, ↓reduceIte]
      · by_cases hjn : j < n
        · exact (hD hjn).stop (ordC xs) (fun i hi => hS _ (hC.mem i hi)) hjn (.inl (by omega))
        · have := h0 (by omega)
          exact fun i h0 hi => by omega
section
variable {fn : FuncId} {T : Nat → AV} {ds : List ADef} {ro : Option Nat} {k : List AItem} {Q : AV → AHeap → Prop} {dst : Option Nat} {os : List AO}
theorem pop_call {vs : Nat → AV} {xs : Nat → List Pr} {hb nx n : Nat} {A : Nat → Blk} {f : Nat → Cur} {S : Cur → Prop} (hn : n ≤ 90000) (hH : HL vs hb nx A (n + 1) f) (hp : Heap (ltC xs) (n + 1) f) (hC : Cont (n + 1) f S) (hS : ∀ c, S c → OkC xs c) (hV : ∀ c, S c → RV hb A (vs c.r) (xs c.r))
    (hk : ∀ x nx' A' f', S x → (∀ c, S c → ltC xs c x = false) → HL vs hb nx' A' n f' → Heap (ltC xs) n f' → Cont n f' (fun c => S c ∧ c ≠ x) → nx ≤ nx' → (∀ c, c < nx → c ≠ hb → c < hb ∨ notCur (A c) → A' c = A c) → RunOps Cx fn (putA T dst (.agg [vs x.r, .int .i64 (x.a : Int), .int .i64 (x.r : Int)])) ds ro os k ⟨nx', A'⟩ Q) :
    RunCall Cx fn T ds ro 41 [.ptr hb 2 0 0] dst os k ⟨nx, A⟩ Q := by
  refine call_body pure41 (noext _) body41 ?_
  obtain ⟨hbn, hH⟩ := hH
  rcases hH with ⟨hA, h0⟩ | ⟨g, N, hA, g1, g2, g3, g4⟩
  · omega
  have e1 : (hb = nx) = False := eq_false (by omega)
  have e2 : (hb = nx + 1) = False := eq_false (by omega)
  have e3 : (g = nx) = False := eq_false (by omega)
  have e4 : (g = nx + 1) = False := eq_false (by omega)
  have e5 : (hb = g) = False := eq_false (by omega)
  have e6 : (g = hb) = False := eq_false (by omega)
  have w1 : IntKind.i64.wrap (((n + 1 : Nat) : Int) - 1) = (n : Int) := by rw [wr64 (by omega) (by omega)]; omega
  have l0 : (0 : Int) < ((n + 1 : Nat) : Int) := by omega
  have l1 : (n : Int) < ((n + 1 : Nat) : Int) := by omega
  have l2 : (n : Int) ≤ ((n + 1 : Nat) : Int) := by omega
  have p1 : (0 : Int) ≤ (n : Int) := by omega
  have q0 : ∀ f', (RC vs N f')[0]? = _ := fun f' => RC_get (f := f') (show 0 < N by omega)
  have q1 : ∀ f', (RC vs N f')[n]? = _ := fun f' => RC_get (f := f') (show n < N by omega)
  have hSx := hC.mem 0 (by omega)
  have hmin : ∀ c, S c → ltC xs c (f 0) = false := by
    intro c hc
    obtain ⟨i, hi, rfl⟩ := hC.all c hc
    by_cases e : i = 0
    · subst e
      cases h : ltC xs (f 0) (f 0) with
      | false => rfl
      | true =>
        have := (ordC xs).asym _ _ (hS _ hSx) (hS _ hSx) h
        rw [h] at this; cases this
    · exact hp.root (ordC xs) (fun i hi => hS _ (hC.mem i hi)) i i (Nat.le_refl _) (by omega) hi
  have e7 : (nx = nx + 1) = False := eq_false (by omega)
  have e8 : (nx + 1 = nx) = False := eq_false (by omega)
  have e9 : (nx = hb) = False := eq_false (by omega)
  have e10 : (nx + 1 = hb) = False := eq_false (by omega)
  have e11 : (nx = g) = False := eq_false (by omega)
  have e12 : (nx + 1 = g) = False := eq_false (by omega)
  simp only [hA, g4, e1, e2, e3, e4, e5, e6, e7, e8, e9, e10, e11, e12, w1, l0, l1, l2, p1, q0, q1, lenOf, i64, RC_set, sliceA, bnds, bound, evo, Int.toNat_natCast, Nat.sub_zero, Nat.zero_le, n41_0, n41_1, n41_2, n41_3, n41_4, n41_5, n41_6, n41_7, n41_8, n41_9, n41_10, n41_11, n41_12, n41_13, n41_14, n41_16, n41_17, n41_18, n41_19, n41_20, n41_21, n41_22, n41_23, n41_24, n41_25, n41_26, n41_27, n41_28, n41_29, n41_30, n41_31, n41_32, n41_33, n41_35, n41_36, n41_37, n41_38, n41_39, o41_1, o41_4, o41_6, o41_8, o41_10, o41_12, o41_16, o41_19, o41_23, o41_25, o41_28, o41_31, o41_33, o41_38, res41, TT_3, TT_4, TT_5, TT_9, TT_22, TT_25, TT_26, TT_29, TT_33, TT_38, TT_40, TT_42, TT_47, TT_50, TT_57, TT_59, TT_66, TT_68, TT_69, TT_70, TT_72, TT_81, bb, primP, primM, ev, evs, parts_, ofConst, bin, un, intBin, putA, enterT, Nat.reduceEqDiff, Nat.reduceAdd, Nat.reduceMul, Nat.reduceLeDiff, Nat.reduceLT, ↓reduceIte, reduceCtorEq, RunRes, resultsA, oneOf, AV.plain, AV.cells, AHeap.push, AHeap.set, AHeap.empty, fieldOf, loadA, storeA, BX.part, TK.isAgg, convA, builtinA, inertB, builtinP, buildA, fillA, splice, eqv, cellsEq, sizeT, adT, ldT, fwT, Nat.reduceBeqDiff, Nat.reduceBneDiff, Int.reduceBNe, Int.reduceBEq, Int.reduceEq, Int.reduceLT, Int.reduceLE, Int.reduceAdd, Int.reduceSub, Int.reduceMul, Int.reduceNeg, strBin, indexAddrA, elems, lenOf, chunk, List.reduceReplicate, Int.reduceToNat]
  generalize hA1 : upd (upd (upd (upd (upd A nx _) (nx + 1) _) (nx + 1) _) g _) hb _ = A1
  have b1 : A1 hb = .cells 72 2 [[.slc g 3 0 n, .fn 39 [] []]] := by
    rw [← hA1]; simp only [upd_app, ↓reduceIte]
  have b2 : A1 g = .cells 68 3 (RC vs N (fun i => if i = 0 then f n else f i)) := by
    rw [← hA1]; simp only [upd_app, e6, ↓reduceIte]
  have b3 : A1 (nx + 1) = .cells 68 3 [[vs (f 0).r, .int .i64 ((f 0).a : Int), .int .i64 ((f 0).r : Int)]] := by
    rw [← hA1]; simp only [upd_app, e10, e12, ↓reduceIte]
  have b4 : A1 nx = .cells 68 3 [[.nilS, .int .i64 0, .int .i64 0]] := by
    rw [← hA1]; simp only [upd_app, e7, e9, e11, ↓reduceIte]
  have b5 : ∀ c, c < nx → c ≠ hb → c ≠ g → A1 c = A c := by
    intro c hc h1 h2
    rw [← hA1]
    simp only [upd_app]
    rw [if_neg (by omega), if_neg (by omega), if_neg (by omega), if_neg (by omega), if_neg (by omega)]
  clear hA1
  rw [upd_back b2]
  refine pp_all (x := nx) (S := fun c => S c ∧ c ≠ f 0) (by omega) (show n ≤ N by omega) (by omega) (by omega) b1 (fun c hc => hS c hc.1) (fun c hc => (hV c hc.1).keep (Nat.le_refl _) (fun b hb' _ => b5 b (by omega) (by omega) (by omega))) ?_ n 0 _ _ (by omega) (Nat.zero_le _) ?_ ?_ ?_ ?_ ?_ (fun _ => Dn.start hp (f n)) (fun e => by omega) hC.pop
  · intro T' f' t2 t3 h1 h2
    simp only [t2, t3, b3, b4, e7, e8, e11, e12, run_inScope, run_nil, n41_0, n41_1, n41_2, n41_3, n41_4, n41_5, n41_6, n41_7, n41_8, n41_9, n41_10, n41_11, n41_12, n41_13, n41_14, n41_15, n41_16, n41_17, n41_18, n41_19, n41_20, n41_21, n41_22, n41_23, n41_24, n41_25, n41_26, n41_27, n41_28, n41_29, n41_30, n41_31, n41_32, n41_33, n41_35, n41_36, n41_37, n41_38, n41_39, o41_1, o41_4, o41_6, o41_8, o41_10, o41_12, o41_16, o41_19, o41_23, o41_25, o41_28, o41_31, o41_33, o41_38, res41, TT_3, TT_4, TT_5, TT_9, TT_22, TT_25, TT_26, TT_29, TT_33, TT_38, TT_40, TT_42, TT_47, TT_50, TT_57, TT_59, TT_66, TT_68, TT_69, TT_70, TT_72, TT_81, bb, primP, primM, ev, evs, parts_, ofConst, bin, un, intBin, putA, enterT, Nat.reduceEqDiff, Nat.reduceAdd, Nat.reduceMul, Nat.reduceLeDiff, Nat.reduceLT, ↓reduceIte, reduceCtorEq, RunRes, resultsA, oneOf, AV.plain, AV.cells, AHeap.push, AHeap.set, AHeap.empty, fieldOf, loadA, storeA, BX.part, TK.isAgg, convA, builtinA, inertB, builtinP, buildA, fillA, splice, eqv, cellsEq, sizeT, adT, ldT, fwT, Nat.reduceBeqDiff, Nat.reduceBneDiff, Int.reduceBNe, Int.reduceBEq, Int.reduceEq, Int.reduceLT, Int.reduceLE, Int.reduceAdd, Int.reduceSub, Int.reduceMul, Int.reduceNeg, strBin, indexAddrA, elems, lenOf, chunk, List.reduceReplicate, Int.reduceToNat]
    refine hk (f 0) _ _ f' hSx hmin ⟨by omega, .inr ⟨g, N, ?_, g1, by omega, by omega, ?_⟩⟩ h1 h2 (by omega) ?_
    · simp only [upd_app, e1, e5, ↓reduceIte]
      exact b1
    · simp only [upd_app, e3, ↓reduceIte]
    · intro c hc hch hcc
      have hcg : c ≠ g := by
        rintro rfl
        rcases hcc with h | h
        · omega
        · exact h _ g4
      simp only [upd_app]
      rw [if_neg (by omega), if_neg hcg]
      exact b5 c hc hch hcg
  all_goals simp only [upd_app, enterT, List.getElem?_cons_zero, Option.getD_some, Nat.reduceEqDiff, ↓reduceIte]
  all_goals rfl
end
end Go.Proofs.Ytbfjkomlnpolmaa.G

namespace Go.Proofs.Ytbfjkomlnpolmaa.G
open Go.BX
set_option linter.unusedSimpArgs false
set_option linter.unusedVariables false
def rest (xs : Nat → List Pr) (R : Nat) (pos : Nat → Nat) : List Pr := (List.range R).flatMap fun r => (xs r).drop (pos r)
def Sp (xs : Nat → List Pr) (R : Nat) (pos : Nat → Nat) (c : Cur) : Prop := c.r < R ∧ c.a = pos c.r ∧ c.a < (xs c.r).length
def adv (pos : Nat → Nat) (r : Nat) : Nat → Nat := fun i => if i = r then pos r + 1 else pos i
theorem ofKey_flat (κ : Bytes) (f : Nat → List Pr) : ∀ l : List Nat, ofKey κ (l.flatMap f) = l.flatMap fun r => ofKey κ (f r)
  | [] => rfl
  | x :: l => by
    rw [List.flatMap_cons, List.flatMap_cons, ofKey_app, ofKey_flat κ f l]
theorem flat_split {R r0 : Nat} (h : r0 < R) (f : Nat → List Pr) : (List.range R).flatMap f = (List.range r0).flatMap f ++ (f r0 ++ ((List.range (R - r0 - 1)).map (fun i => r0 + 1 + i)).flatMap f) := by
  have e : R = (r0 + 1) + (R - r0 - 1) := by omega
  conv => lhs; rw [e, List.range_add, List.range_succ]
  rw [List.flatMap_append, List.flatMap_append]
  simp
theorem flat_nil {f : Nat → List Pr} {l : List Nat} (h : ∀ r, r ∈ l → f r = []) : l.flatMap f = [] := by
  rw [List.flatMap_eq_nil_iff]
  exact h
theorem flat_congr {f g : Nat → List Pr} {l : List Nat} (h : ∀ r, r ∈ l → f r = g r) : l.flatMap f = l.flatMap g := by
  induction l with
  | nil => rfl
  | cons x l ih =>
    rw [List.flatMap_cons, List.flatMap_cons, h x (by simp), ih (fun r hr => h r (by simp [hr]))]
theorem mem_of_sort {l m : List Pr} (h : IsSort l m) {p : Pr} (hp : p ∈ m) : p ∈ l := by
  have : p ∈ ofKey p.key m := mem_ofKey.mpr hp
  rw [h.keys] at this
  exact mem_ofKey.mp this
theorem ky_eq {xs : Nat → List Pr} {c : Cur} (h : c.a < (xs c.r).length) : ky xs c = ((xs c.r)[c.a]).key := by
  unfold ky; rw [fnOf_get h]
theorem sorted_ge {l : List Pr} (hs : l.Pairwise fun p q => ltP q p = false) {a : Nat} (h : a < l.length) {q : Pr} (hq : q ∈ l.drop a) : lessB q.key (l[a]).key = false := by
  obtain ⟨i, hi, rfl⟩ := List.getElem_of_mem hq
  rw [List.length_drop] at hi
  rw [List.getElem_drop]
  by_cases e : i = 0
  · subst e
    exact bl_irr _
  · exact List.pairwise_iff_getElem.mp hs a (a + i) h (by omega) (by omega)
theorem pick {xs : Nat → List Pr} {R : Nat} {pos : Nat → Nat} {x : Cur} {m : List Pr} (hs : ∀ r, r < R → (xs r).Pairwise fun p q => ltP q p = false) (hx : Sp xs R pos x) (hmin : ∀ c, Sp xs R pos c → ltC xs c x = false) (hm : IsSort (rest xs R pos) m) (hlen : (rest xs R pos).length ≤ 100000) :
    ∃ m', m = (xs x.r)[x.a]'hx.2.2 :: m' ∧ IsSort (rest xs R (adv pos x.r)) m' := by
  obtain ⟨hxR, hxa, hxl⟩ := hx
  generalize hp : (xs x.r)[x.a] = p
  have hkx : ky xs x = p.key := by rw [ky_eq hxl, hp]
  have hge : ∀ r, r < R → ∀ q, q ∈ (xs r).drop (pos r) → lessB q.key p.key = false ∧ (r < x.r → q.key ≠ p.key) := by
    intro r hr q hq
    have hl : pos r < (xs r).length := by
      rw [← Decidable.not_not (p := pos r < (xs r).length)]
      intro h
      rw [List.drop_of_length_le (by omega)] at hq
      cases hq
    have hc := hmin ⟨r, pos r⟩ ⟨hr, rfl, hl⟩
    rw [ltC_false, hkx, ky_eq (c := ⟨r, pos r⟩) hl] at hc
    have hq' := sorted_ge (hs r hr) hl hq
    refine ⟨bl_le hc.1 hq', fun hlt e => ?_⟩
    have e2 : ((xs r)[pos r]).key = p.key := by
      refine bl_tot _ _ hc.1 ?_
      rw [← e]; exact hq'
    have := hc.2 e2
    simp only at this
    omega
  have hd : (xs x.r).drop (pos x.r) = p :: (xs x.r).drop (pos x.r + 1) := by
    subst hp
    rw [← hxa]
    exact List.drop_eq_getElem_cons hxl
  have hadv : ∀ r, r ≠ x.r → adv pos x.r r = pos r := fun r hr => by unfold adv; rw [if_neg hr]
  have hadv' : adv pos x.r x.r = pos x.r + 1 := by unfold adv; rw [if_pos rfl]
  have hlen' : (rest xs R pos).length = (rest xs R (adv pos x.r)).length + 1 := by
    unfold rest
    rw [flat_split hxR, flat_split hxR (fun r => (xs r).drop (adv pos x.r r))]
    rw [flat_congr (f := fun r => (xs r).drop (adv pos x.r r)) (g := fun r => (xs r).drop (pos r)) (l := List.range x.r) (fun r hr => by rw [hadv r (by have := List.mem_range.mp hr; omega)])]
    rw [flat_congr (f := fun r => (xs r).drop (adv pos x.r r)) (g := fun r => (xs r).drop (pos r)) (l := (List.range (R - x.r - 1)).map _) (fun r hr => by
      obtain ⟨i, _, rfl⟩ := List.mem_map.mp hr
      rw [hadv _ (by omega)])]
    simp only [hadv', hd, List.length_append, List.length_cons]
    omega
  obtain ⟨m', w, hm', _, _⟩ := RefSort_ok (l := rest xs R (adv pos x.r)) (.inr (.inr rfl)) (by omega)
  refine ⟨m', ?_, hm'⟩
  refine hm.uniq ⟨fun κ => ?_, ?_, ?_⟩
  · rw [show p :: m' = [p] ++ m' from rfl, ofKey_app, hm'.keys]
    unfold rest
    rw [ofKey_flat, ofKey_flat, flat_split hxR, flat_split hxR (fun r => ofKey κ ((xs r).drop (pos r)))]
    rw [flat_congr (f := fun r => ofKey κ ((xs r).drop (adv pos x.r r))) (g := fun r => ofKey κ ((xs r).drop (pos r))) (l := List.range x.r) (fun r hr => by rw [hadv r (by have := List.mem_range.mp hr; omega)])]
    rw [flat_congr (f := fun r => ofKey κ ((xs r).drop (adv pos x.r r))) (g := fun r => ofKey κ ((xs r).drop (pos r))) (l := (List.range (R - x.r - 1)).map _) (fun r hr => by
      obtain ⟨i, _, rfl⟩ := List.mem_map.mp hr
      rw [hadv _ (by omega)])]
    simp only [hadv', hd]
    rw [show p :: (xs x.r).drop (pos x.r + 1) = [p] ++ (xs x.r).drop (pos x.r + 1) from rfl, ofKey_app]
    by_cases e : p.key = κ
    · have : (List.range x.r).flatMap (fun r => ofKey κ ((xs r).drop (pos r))) = [] := by
        refine flat_nil fun r hr => ofKey_none fun q hq e2 => ?_
        have hr' := List.mem_range.mp hr
        exact (hge r (by omega) q hq).2 hr' (e2.trans e.symm)
      rw [this]
      simp
    · have : ofKey κ [p] = [] := ofKey_none fun q hq e2 => by
        simp only [List.mem_singleton] at hq
        subst hq; exact e e2
      rw [this]
      simp
  · refine List.pairwise_cons.mpr ⟨fun q hq => ?_, hm'.ord⟩
    have hq' := mem_of_sort hm' hq
    unfold rest at hq'
    obtain ⟨r, hr, hqr⟩ := List.mem_flatMap.mp hq'
    have hr' := List.mem_range.mp hr
    by_cases e : r = x.r
    · subst e
      rw [hadv'] at hqr
      exact (hge _ hr' q (by rw [hd]; exact List.mem_cons_of_mem _ hqr)).1
    · rw [hadv r e] at hqr
      exact (hge r hr' q hqr).1
  · rw [List.length_cons, hm'.len, hlen']
theorem Sp_next {xs : Nat → List Pr} {R : Nat} {pos : Nat → Nat} {x : Cur} (hx : Sp xs R pos x) (c : Cur) : Sp xs R (adv pos x.r) c ↔ ((x.a + 1 < (xs x.r).length ∧ c = ⟨x.r, x.a + 1⟩) ∨ (Sp xs R pos c ∧ c ≠ x)) := by
  obtain ⟨h1, h2, h3⟩ := hx
  obtain ⟨r, a⟩ := c
  obtain ⟨r0, a0⟩ := x
  simp only at h1 h2 h3
  subst h2
  unfold Sp adv
  simp only [Cur.mk.injEq, ne_eq]
  by_cases e : r = r0
  · subst e
    simp only [if_true, true_and]
    constructor
    · rintro ⟨h4, rfl, h5⟩
      exact .inl ⟨h5, rfl⟩
    · rintro (⟨h4, rfl⟩ | ⟨⟨h4, h5, h6⟩, h7⟩)
      · exact ⟨h1, rfl, h4⟩
      · exact absurd h5 h7
  · simp only [e, if_false, false_and, not_false_eq_true, and_true, and_false, false_or]
theorem rest_nil {xs : Nat → List Pr} {R : Nat} {pos : Nat → Nat} (h : ∀ c, ¬ Sp xs R pos c) : rest xs R pos = [] := by
  unfold rest
  refine flat_nil fun r hr => ?_
  have := h ⟨r, pos r⟩
  unfold Sp at this
  simp only [not_and] at this
  have := this (List.mem_range.mp hr) trivial
  exact List.drop_of_length_le (by omega)
theorem Cont.iff {α : Type} {n : Nat} {f : Nat → α} {S S' : α → Prop} (h : Cont n f S) (e : ∀ c, S' c ↔ S c) : Cont n f S' := by
  have : S' = S := funext fun c => propext (e c)
  rw [this]; exact h
end Go.Proofs.Ytbfjkomlnpolmaa.G

namespace Go.Proofs.Ytbfjkomlnpolmaa.G
open Go.BX
set_option linter.unusedSimpArgs false
set_option linter.unusedVariables false
structure RunsIn (hb : Nat) (A : Nat → Blk) (rv : AV) (R : Nat) (vs : Nat → AV) (xs : Nat → List Pr) : Prop where
  rows : (rv = .nilS ∧ R = 0) ∨ rv = .vec 1 ((List.range R).map fun r => [vs r]) ∨ ∃ g, rv = .slc g 1 0 R ∧ g < hb ∧ A g = .cells 22 1 ((List.range R).map fun r => [vs r])
  vals : ∀ r, r < R → RV hb A (vs r) (xs r)
  srt : ∀ r, r < R → (xs r).Pairwise fun p q => ltP q p = false
  len : ∀ r, r < R → (xs r).length ≤ 10000
  few : R ≤ 1000
  tot : (rest xs R (fun _ => 0)).length ≤ 100000
def Frm (hb nx : Nat) (A A' : Nat → Blk) : Prop := ∀ c, c < nx → (c = hb ∨ (∃ es, A c = .cells 68 3 es) ∨ (c < hb ∧ ∃ es, A c = .cells 42 6 es)) → A' c = A c
def Oth (hb nx : Nat) (A A' : Nat → Blk) : Prop := ∀ c, c < nx → c ≠ hb → c < hb ∨ notCur (A c) → A' c = A c
section
variable {hb R : Nat} {vs : Nat → AV} {xs : Nat → List Pr} {Q : AV → AHeap → Prop} {l : Nat} {L : ALoop} {I : List Pr → Nat → (Nat → Blk) → Prop} {Stp : Nat → (Nat → Blk) → Prop} {m : List Pr}
def Rnd (hb : Nat) (l : Nat) (L : ALoop) (I : List Pr → Nat → (Nat → Blk) → Prop) (Stp : Nat → (Nat → Blk) → Prop) (m : List Pr) : Prop :=
  ∀ (out more : List Pr) (p : Pr) (nx : Nat) (A : Nat → Blk) (Q : AV → AHeap → Prop), m = out ++ p :: more → hb < nx → I out nx A → (∀ nx' A', I (out ++ [p]) nx' A' → nx ≤ nx' → Frm hb nx A A' → Q (.bool true) ⟨nx', A'⟩) → (∀ nx' A', Stp nx' A' → Q (.bool false) ⟨nx', A'⟩) →
    Run Cx L.fn (foldPut L.T L.params [pairA p]) [] (some l) [.code L.assign, .beginRound, .code L.body] ⟨nx, A⟩ Q
theorem Sp_ok {pos : Nat → Nat} (hlen : ∀ r, r < R → (xs r).length ≤ 10000) (hR : R ≤ 1000) {c : Cur} (h : Sp xs R pos c) : OkC xs c := by
  obtain ⟨h1, h2, h3⟩ := h
  have := hlen c.r h1
  exact ⟨h3, by omega, by omega⟩
theorem mg_all (hlen : ∀ r, r < R → (xs r).length ≤ 10000) (hR : R ≤ 1000) (hsr : ∀ r, r < R → (xs r).Pairwise fun p q => ltP q p = false) (hpar : L.params.length = 1)
    (hI : ∀ out nx A, I out nx A → A l = .loop L) (hIk : ∀ out nx nx' A A', I out nx A → hb < nx → nx ≤ nx' → Oth hb nx A A' → I out nx' A')
    (hRnd : Rnd hb l L I Stp m) (hE : ∀ nx A, I m nx A → Q (.tuple []) ⟨nx, A⟩) (hStp : ∀ nx A, Stp nx A → Q (.tuple []) ⟨nx, A⟩) :
    ∀ (more out : List Pr) (T : Nat → AV) (nx : Nat) (A : Nat → Blk) (n : Nat) (f : Nat → Cur) (pos : Nat → Nat), m = out ++ more → T 0 = .yld l → T 3 = .ptr hb 2 0 0 → HL vs hb nx A n f → Heap (ltC xs) n f → Cont n f (Sp xs R pos) → n ≤ 1000 → (∀ r, r < R → RV hb A (vs r) (xs r)) → IsSort (rest xs R pos) more → (rest xs R pos).length ≤ 100000 → I out nx A →
      Run Cx 38 T [] none [.inLoop c38_25, .inBlock 2] ⟨nx, A⟩ Q := by
  intro more
  induction more with
  | nil =>
    intro out T nx A n f pos hm t0 t3 hH hp hC hn hV hs hrl hIo
    rw [run_inLoop]
    have hr0 : rest xs R pos = [] := List.eq_nil_of_length_eq_zero (hs.len.symm)
    have hn0 : n = 0 := by
      rw [← Decidable.not_not (p := n = 0)]
      intro hne
      have h0 := hC.mem 0 (by omega)
      obtain ⟨h1, h2, h3⟩ := h0
      unfold rest at hr0
      rw [List.flatMap_eq_nil_iff] at hr0
      have := hr0 (f 0).r (List.mem_range.mpr h1)
      have := congrArg List.length this
      rw [List.length_drop] at this
      simp only [List.length_nil] at this
      omega
    subst hn0
    rw [List.append_nil] at hm
    subst hm
    obtain ⟨hbn, hH⟩ := hH
    rcases hH with ⟨hA, _⟩ | ⟨g, N, hA, _⟩ <;>
    · simp only [t0, t3, hA, lenOf, i64, Int.cast_ofNat_Int, run_exit_start, exit_here, exit_code, exit_inLoop, run_inBlock, run_nil, n38_0, n38_1, n38_2, n38_3, n38_4, n38_5, n38_6, n38_7, n38_8, n38_9, n38_10, n38_11, n38_12, n38_13, n38_14, n38_15, n38_16, n38_17, n38_18, n38_19, n38_20, n38_21, n38_22, n38_23, n38_24, n38_25, n38_26, n38_27, n38_28, n38_29, n38_30, n38_31, n38_32, n38_33, n38_34, n38_35, n38_36, n38_37, n38_38, n38_39, n38_40, n38_41, n38_42, n38_43, n38_44, n38_45, n38_46, o38_1, o38_4, o38_8, o38_16, o38_18, o38_20, o38_22, o38_27, o38_33, o38_36, o38_41, o38_43, o38_45, res38, TT_3, TT_4, TT_5, TT_9, TT_22, TT_25, TT_26, TT_29, TT_33, TT_38, TT_40, TT_42, TT_47, TT_50, TT_57, TT_59, TT_66, TT_68, TT_69, TT_70, TT_72, TT_81, bb, primP, primM, ev, evs, parts_, ofConst, bin, un, intBin, putA, enterT, Nat.reduceEqDiff, Nat.reduceAdd, Nat.reduceMul, Nat.reduceLeDiff, Nat.reduceLT, ↓reduceIte, reduceCtorEq, RunRes, resultsA, oneOf, AV.plain, AV.cells, AHeap.push, AHeap.set, AHeap.empty, fieldOf, loadA, storeA, BX.part, TK.isAgg, convA, builtinA, inertB, builtinP, buildA, fillA, splice, eqv, cellsEq, sizeT, adT, ldT, fwT, Nat.reduceBeqDiff, Nat.reduceBneDiff, Int.reduceBNe, Int.reduceBEq, Int.reduceEq, Int.reduceLT, Int.reduceLE, Int.reduceAdd, Int.reduceSub, Int.reduceMul, Int.reduceNeg, strBin, indexAddrA, elems, lenOf, chunk, List.reduceReplicate, Int.reduceToNat]
      exact hE nx A hIo
  | cons p more ih =>
    intro out T nx A n f pos hm t0 t3 hH hp hC hn hV hs hrl hIo
    rw [run_inLoop]
    have hn0 : n ≠ 0 := by
      intro e
      subst e
      have : rest xs R pos = [] := rest_nil fun c hc => by
        obtain ⟨i, hi, _⟩ := hC.all c hc
        omega
      have h1 := hs.len
      rw [this] at h1
      simp at h1
    obtain ⟨n, rfl⟩ : ∃ n', n = n' + 1 := ⟨n - 1, by omega⟩
    have hS := fun c hc => Sp_ok (pos := pos) hlen hR (c := c) hc
    have c0 : (0 : Int) < ((n + 1 : Nat) : Int) := by omega
    have hH' := hH
    obtain ⟨hbn, hHc⟩ := hH
    rcases hHc with ⟨_, h0⟩ | ⟨g, N, hA, _⟩
    · omega
    simp only [t0, t3, hA, c0, lenOf, i64, run_exit_start, exit_here, exit_code, exit_inLoop, run_inBlock, n38_0, n38_1, n38_2, n38_3, n38_4, n38_5, n38_6, n38_7, n38_8, n38_9, n38_10, n38_11, n38_12, n38_13, n38_14, n38_15, n38_16, n38_17, n38_18, n38_19, n38_20, n38_21, n38_22, n38_23, n38_24, n38_25, n38_26, n38_27, n38_28, n38_29, n38_30, n38_31, n38_32, n38_33, n38_34, n38_36, n38_37, n38_38, n38_39, n38_41, n38_42, n38_43, n38_45, n38_46, o38_1, o38_4, o38_8, o38_16, o38_18, o38_20, o38_22, o38_27, o38_33, o38_36, o38_41, o38_43, o38_45, res38, TT_3, TT_4, TT_5, TT_9, TT_22, TT_25, TT_26, TT_29, TT_33, TT_38, TT_40, TT_42, TT_47, TT_50, TT_57, TT_59, TT_66, TT_68, TT_69, TT_70, TT_72, TT_81, bb, primP, primM, ev, evs, parts_, ofConst, bin, un, intBin, putA, enterT, Nat.reduceEqDiff, Nat.reduceAdd, Nat.reduceMul, Nat.reduceLeDiff, Nat.reduceLT, ↓reduceIte, reduceCtorEq, RunRes, resultsA, oneOf, AV.plain, AV.cells, AHeap.push, AHeap.set, AHeap.empty, fieldOf, loadA, storeA, BX.part, TK.isAgg, convA, builtinA, inertB, builtinP, buildA, fillA, splice, eqv, cellsEq, sizeT, adT, ldT, fwT, Nat.reduceBeqDiff, Nat.reduceBneDiff, Int.reduceBNe, Int.reduceBEq, Int.reduceEq, Int.reduceLT, Int.reduceLE, Int.reduceAdd, Int.reduceSub, Int.reduceMul, Int.reduceNeg, strBin, indexAddrA, elems, lenOf, chunk, List.reduceReplicate, Int.reduceToNat]
    refine pop_call (S := Sp xs R pos) (by omega) hH' hp hC hS (fun c hc => hV c.r hc.1) ?_
    intro x nx1 A1 f1 hSx hmin hH1 hp1 hC1 hn1 hO1
    have hxR := hSx.1
    have hxl := hSx.2.2
    obtain ⟨m', hpm, hs'⟩ := pick hsr hSx hmin hs hrl
    obtain ⟨rfl, rfl⟩ := List.cons.inj hpm
    have hI1 := hIk _ _ _ _ _ hIo hbn hn1 hO1
    have hV1 : ∀ r, r < R → RV hb A1 (vs r) (xs r) := fun r hr => (hV r hr).keep (Nat.le_refl _) (fun g hg _ => hO1 g (by omega) (by omega) (.inl hg))
    have hvx := hV1 x.r hxR
    have hpl := hvx.plain
    have hcl := hvx.cells
    have hln := hvx.lenOf
    simp only [AV.plain] at hpl
    simp only [AV.cells] at hcl
    simp only [lenOf] at hln
    have hxlen := hlen x.r hxR
    have hbn1 := hH1.1
    simp only [t0, t3, upd2, run_exit_start, exit_here, exit_code, exit_inLoop, run_inBlock, n38_0, n38_1, n38_2, n38_3, n38_4, n38_5, n38_6, n38_7, n38_8, n38_9, n38_10, n38_11, n38_12, n38_13, n38_14, n38_15, n38_16, n38_17, n38_18, n38_19, n38_20, n38_21, n38_22, n38_23, n38_24, n38_25, n38_26, n38_27, n38_28, n38_29, n38_30, n38_31, n38_32, n38_33, n38_34, n38_36, n38_37, n38_38, n38_39, n38_41, n38_42, n38_43, n38_45, n38_46, o38_1, o38_4, o38_8, o38_16, o38_18, o38_20, o38_22, o38_27, o38_33, o38_36, o38_41, o38_43, o38_45, res38, TT_3, TT_4, TT_5, TT_9, TT_22, TT_25, TT_26, TT_29, TT_33, TT_38, TT_40, TT_42, TT_47, TT_50, TT_57, TT_59, TT_66, TT_68, TT_69, TT_70, TT_72, TT_81, bb, primP, primM, ev, evs, parts_, ofConst, bin, un, intBin, putA, enterT, Nat.reduceEqDiff, Nat.reduceAdd, Nat.reduceMul, Nat.reduceLeDiff, Nat.reduceLT, ↓reduceIte, reduceCtorEq, RunRes, resultsA, oneOf, AV.plain, AV.cells, AHeap.push, AHeap.set, AHeap.empty, fieldOf, loadA, storeA, BX.part, TK.isAgg, convA, builtinA, inertB, builtinP, buildA, fillA, splice, eqv, cellsEq, sizeT, adT, ldT, fwT, Nat.reduceBeqDiff, Nat.reduceBneDiff, Int.reduceBNe, Int.reduceBEq, Int.reduceEq, Int.reduceLT, Int.reduceLE, Int.reduceAdd, Int.reduceSub, Int.reduceMul, Int.reduceNeg, strBin, indexAddrA, elems, lenOf, chunk, List.reduceReplicate, Int.reduceToNat]
    generalize hA2 : upd A1 nx1 (.cells 68 3 [[vs x.r, .int .i64 (x.a : Int), .int .i64 (x.r : Int)]]) = A2
    have hO2 : Oth hb nx1 A1 A2 := fun c hc _ _ => by rw [← hA2, upd_app, if_neg (by omega)]
    have hI2 := hIk _ _ _ _ _ hI1 hbn1 (Nat.le_succ nx1) hO2
    have hcell : A2 nx1 = .cells 68 3 [[vs x.r, .int .i64 (x.a : Int), .int .i64 (x.r : Int)]] := by rw [← hA2]; simp only [upd_app, ↓reduceIte]
    have hH2 : HL vs hb (nx1 + 1) A2 n f1 := hH1.keep (by omega) (fun g _ hg => by rw [← hA2, upd_app, if_neg (by omega)])
    have hV2 : ∀ r, r < R → RV hb A2 (vs r) (xs r) := fun r hr => (hV1 r hr).keep (Nat.le_refl _) (fun g hg _ => by rw [← hA2, upd_app, if_neg (by omega)])
    have p0 : (0 : Int) ≤ (x.a : Int) := by omega
    have l0 : (x.a : Int) < ((xs x.r).length : Int) := by omega
    have l1 : (x.a : Int) < (((xs x.r).map encP).length : Int) := by rw [List.length_map]; omega
    have g0 := enc_get (List.getElem?_eq_getElem hxl)
    have go : ∀ (T' : Nat → AV) (nx3 : Nat) (A3 : Nat → Blk), T' 0 = .yld l → T' 3 = .ptr hb 2 0 0 → T' 6 = .ptr nx1 3 0 0 → I (out ++ [(xs x.r)[x.a]]) nx3 A3 → nx1 + 1 ≤ nx3 → Frm hb (nx1 + 1) A2 A3 →
        Run Cx 38 T' [] none [.code c38_40, .inBlock 3, .inLoop c38_25, .inBlock 2] ⟨nx3, A3⟩ Q := by
      intro T' nx3 A3 t0 t3 t6 hI3 hn3 hF3
      have hcell3 : A3 nx1 = .cells 68 3 [[vs x.r, .int .i64 (x.a : Int), .int .i64 (x.r : Int)]] := by
        rw [hF3 nx1 (by omega) (.inr (.inl ⟨_, hcell⟩)), hcell]
      have w1 : IntKind.i64.wrap ((x.a : Int) + 1) = ((x.a + 1 : Nat) : Int) := by rw [wr64 (by omega) (by omega)]; omega
      have hH3 : HL vs hb nx3 A3 n f1 := by
        obtain ⟨a1, a2⟩ := hH2
        refine ⟨by omega, ?_⟩
        rcases a2 with ⟨a2, a3⟩ | ⟨g, N, a2, a3, a4, a5, a6⟩
        · exact .inl ⟨by rw [hF3 hb a1 (.inl rfl)]; exact a2, a3⟩
        · exact .inr ⟨g, N, by rw [hF3 hb a1 (.inl rfl)]; exact a2, a3, by omega, a5, by rw [hF3 g a4 (.inr (.inl ⟨_, a6⟩))]; exact a6⟩
      have hV3 : ∀ r, r < R → RV hb A3 (vs r) (xs r) := fun r hr => (hV2 r hr).keep (Nat.le_refl _) (fun g hg hgA => hF3 g (by omega) (.inr (.inr ⟨hg, ⟨_, hgA⟩⟩)))
      generalize hA4 : upd A3 nx1 (.cells 68 3 [[vs x.r, .int .i64 ((x.a + 1 : Nat) : Int), .int .i64 (x.r : Int)]]) = A4
      have hgne : ∀ g, hb ≤ g → g < nx1 + 1 → (g = hb ∨ ∃ N, A2 g = .cells 68 3 (RC vs N f1) ∧ n ≤ N ∧ g ≠ nx1) → A4 g = A3 g := by
        intro g hg1 hg2 hg3
        rw [← hA4, upd_app, if_neg ?_]
        rintro rfl
        rcases hg3 with h | ⟨N, _, _, h⟩
        · omega
        · exact h rfl
      have hH4 : HL vs hb nx3 A4 n f1 := by
        obtain ⟨a1, a2⟩ := hH1
        obtain ⟨b1, b2⟩ := hH3
        refine ⟨b1, ?_⟩
        rcases a2 with ⟨a2, a3⟩ | ⟨g, N, a2, a3, a4, a5, a6⟩
        · refine .inl ⟨?_, a3⟩
          rw [← hA4, upd_app, if_neg (by omega), hF3 hb (by omega) (.inl rfl), ← hA2, upd_app, if_neg (by omega)]
          exact a2
        · refine .inr ⟨g, N, ?_, a3, by omega, a5, ?_⟩
          · rw [← hA4, upd_app, if_neg (by omega), hF3 hb (by omega) (.inl rfl), ← hA2, upd_app, if_neg (by omega)]
            exact a2
          · have hg2 : A2 g = A1 g := by rw [← hA2, upd_app, if_neg (by omega)]
            rw [← hA4, upd_app, if_neg (by omega), hF3 g (by omega) (.inr (.inl ⟨_, by rw [hg2]; exact a6⟩)), hg2]
            exact a6
      have hV4 : ∀ r, r < R → RV hb A4 (vs r) (xs r) := fun r hr => (hV3 r hr).keep (Nat.le_refl _) (fun g hg hgA => by rw [← hA4, upd_app, if_neg (by omega)])
      have hO4 : Oth hb nx3 A3 A4 := fun c hc h1 h2 => by
        rw [← hA4, upd_app, if_neg ?_]
        rintro rfl
        rcases h2 with h | h
        · omega
        · exact h _ hcell3
      have hI4 := hIk _ _ _ _ _ hI3 (by omega) (Nat.le_refl _) hO4
      have hrl' : (rest xs R (adv pos x.r)).length ≤ 100000 := by
        have e1 := hs'.len
        have e2 := hs.len
        rw [List.length_cons] at e2
        omega
      have hm3 : m = (out ++ [(xs x.r)[x.a]]) ++ more := by rw [hm]; simp
      by_cases hlast : x.a + 1 < (xs x.r).length
      · have c1 : ((x.a + 1 : Nat) : Int) < ((xs x.r).length : Int) := by omega
        simp only [t0, t3, t6, hcell3, upd2, hln, hpl, hcl, c1, w1, lenOf, i64, run_exit_start, exit_here, exit_code, exit_inLoop, run_inBlock, n38_0, n38_1, n38_2, n38_3, n38_4, n38_5, n38_6, n38_7, n38_8, n38_9, n38_10, n38_11, n38_12, n38_13, n38_14, n38_15, n38_16, n38_17, n38_18, n38_19, n38_20, n38_21, n38_22, n38_23, n38_24, n38_26, n38_27, n38_28, n38_29, n38_30, n38_31, n38_32, n38_33, n38_34, n38_35, n38_36, n38_37, n38_38, n38_39, n38_40, n38_41, n38_42, n38_43, n38_44, n38_45, n38_46, o38_1, o38_4, o38_8, o38_16, o38_18, o38_20, o38_22, o38_27, o38_33, o38_36, o38_41, o38_43, o38_45, res38, TT_3, TT_4, TT_5, TT_9, TT_22, TT_25, TT_26, TT_29, TT_33, TT_38, TT_40, TT_42, TT_47, TT_50, TT_57, TT_59, TT_66, TT_68, TT_69, TT_70, TT_72, TT_81, bb, primP, primM, ev, evs, parts_, ofConst, bin, un, intBin, putA, enterT, Nat.reduceEqDiff, Nat.reduceAdd, Nat.reduceMul, Nat.reduceLeDiff, Nat.reduceLT, ↓reduceIte, reduceCtorEq, RunRes, resultsA, oneOf, AV.plain, AV.cells, AHeap.push, AHeap.set, AHeap.empty, fieldOf, loadA, storeA, BX.part, TK.isAgg, convA, builtinA, inertB, builtinP, buildA, fillA, splice, eqv, cellsEq, sizeT, adT, ldT, fwT, Nat.reduceBeqDiff, Nat.reduceBneDiff, Int.reduceBNe, Int.reduceBEq, Int.reduceEq, Int.reduceLT, Int.reduceLE, Int.reduceAdd, Int.reduceSub, Int.reduceMul, Int.reduceNeg, strBin, indexAddrA, elems, lenOf, chunk, List.reduceReplicate, Int.reduceToNat]
        rw [hA4]
        refine push_call (S := fun c => Sp xs R pos c ∧ c ≠ x) (x := ⟨x.r, x.a + 1⟩) (by omega) hH4 hp1 hC1 (fun c hc => hS c hc.1) ?_ ⟨hlast, by simp only; omega, by simp only; omega⟩ ?_ ?_
        · rintro ⟨⟨_, h, _⟩, _⟩
          have := hSx.2.1
          simp only at h
          omega
        · rintro c (rfl | hc)
          · exact hV4 x.r hxR
          · exact hV4 c.r hc.1.1
        · intro nx5 A5 f5 hH5 hp5 hC5 hn5 hO5
          simp only [run_exit_start, exit_here, exit_code, exit_inLoop, run_inBlock, n38_0, n38_1, n38_2, n38_3, n38_4, n38_5, n38_6, n38_7, n38_8, n38_9, n38_10, n38_11, n38_12, n38_13, n38_14, n38_15, n38_16, n38_17, n38_18, n38_19, n38_20, n38_21, n38_22, n38_23, n38_24, n38_26, n38_27, n38_28, n38_29, n38_30, n38_31, n38_32, n38_33, n38_34, n38_35, n38_36, n38_37, n38_38, n38_39, n38_40, n38_41, n38_42, n38_43, n38_44, n38_45, n38_46, o38_1, o38_4, o38_8, o38_16, o38_18, o38_20, o38_22, o38_27, o38_33, o38_36, o38_41, o38_43, o38_45, res38, TT_3, TT_4, TT_5, TT_9, TT_22, TT_25, TT_26, TT_29, TT_33, TT_38, TT_40, TT_42, TT_47, TT_50, TT_57, TT_59, TT_66, TT_68, TT_69, TT_70, TT_72, TT_81, bb, primP, primM, ev, evs, parts_, ofConst, bin, un, intBin, putA, enterT, Nat.reduceEqDiff, Nat.reduceAdd, Nat.reduceMul, Nat.reduceLeDiff, Nat.reduceLT, ↓reduceIte, reduceCtorEq, RunRes, resultsA, oneOf, AV.plain, AV.cells, AHeap.push, AHeap.set, AHeap.empty, fieldOf, loadA, storeA, BX.part, TK.isAgg, convA, builtinA, inertB, builtinP, buildA, fillA, splice, eqv, cellsEq, sizeT, adT, ldT, fwT, Nat.reduceBeqDiff, Nat.reduceBneDiff, Int.reduceBNe, Int.reduceBEq, Int.reduceEq, Int.reduceLT, Int.reduceLE, Int.reduceAdd, Int.reduceSub, Int.reduceMul, Int.reduceNeg, strBin, indexAddrA, elems, lenOf, chunk, List.reduceReplicate, Int.reduceToNat]
          refine ih (out ++ [(xs x.r)[x.a]]) _ nx5 A5 (n + 1) f5 (adv pos x.r) hm3 ?_ ?_ hH5 hp5 (hC5.iff fun c => ?_) hn ?_ hs' hrl' (hIk _ _ _ _ _ hI4 (by omega) hn5 hO5)
          · simp only [upd_app, t0, Nat.reduceEqDiff, ↓reduceIte]
          · simp only [upd_app, t3, Nat.reduceEqDiff, ↓reduceIte]
          · rw [Sp_next hSx c]
            simp only [hlast, true_and]
          · exact fun r hr => (hV4 r hr).keep (Nat.le_refl _) (fun g hg _ => hO5 g (by omega) (by omega) (.inl hg))
      · have c1 : ¬ ((x.a + 1 : Nat) : Int) < ((xs x.r).length : Int) := by omega
        simp only [t0, t3, t6, hcell3, upd2, hln, hpl, hcl, c1, w1, lenOf, i64, run_exit_start, exit_here, exit_code, exit_inLoop, run_inBlock, n38_0, n38_1, n38_2, n38_3, n38_4, n38_5, n38_6, n38_7, n38_8, n38_9, n38_10, n38_11, n38_12, n38_13, n38_14, n38_15, n38_16, n38_17, n38_18, n38_19, n38_20, n38_21, n38_22, n38_23, n38_24, n38_26, n38_27, n38_28, n38_29, n38_30, n38_31, n38_32, n38_33, n38_34, n38_35, n38_36, n38_37, n38_38, n38_39, n38_40, n38_41, n38_42, n38_43, n38_44, n38_45, n38_46, o38_1, o38_4, o38_8, o38_16, o38_18, o38_20, o38_22, o38_27, o38_33, o38_36, o38_41, o38_43, o38_45, res38, TT_3, TT_4, TT_5, TT_9, TT_22, TT_25, TT_26, TT_29, TT_33, TT_38, TT_40, TT_42, TT_47, TT_50, TT_57, TT_59, TT_66, TT_68, TT_69, TT_70, TT_72, TT_81, bb, primP, primM, ev, evs, parts_, ofConst, bin, un, intBin, putA, enterT, Nat.reduceEqDiff, Nat.reduceAdd, Nat.reduceMul, Nat.reduceLeDiff, Nat.reduceLT, ↓reduceIte, reduceCtorEq, RunRes, resultsA, oneOf, AV.plain, AV.cells, AHeap.push, AHeap.set, AHeap.empty, fieldOf, loadA, storeA, BX.part, TK.isAgg, convA, builtinA, inertB, builtinP, buildA, fillA, splice, eqv, cellsEq, sizeT, adT, ldT, fwT, Nat.reduceBeqDiff, Nat.reduceBneDiff, Int.reduceBNe, Int.reduceBEq, Int.reduceEq, Int.reduceLT, Int.reduceLE, Int.reduceAdd, Int.reduceSub, Int.reduceMul, Int.reduceNeg, strBin, indexAddrA, elems, lenOf, chunk, List.reduceReplicate, Int.reduceToNat]
        rw [hA4]
        refine ih (out ++ [(xs x.r)[x.a]]) _ nx3 A4 n f1 (adv pos x.r) hm3 ?_ ?_ hH4 hp1 (hC1.iff fun c => ?_) (by omega) hV4 hs' hrl' hI4
        · simp only [upd_app, t0, Nat.reduceEqDiff, ↓reduceIte]
        · simp only [upd_app, t3, Nat.reduceEqDiff, ↓reduceIte]
        · rw [Sp_next hSx c]
          simp only [hlast, false_and, false_or]
    have hv2 := hV2 x.r hxR
    rcases hv2 with hv | ⟨gv, hv, hgv, hgA⟩
    · have hv' := hv.vec (fun e => by rw [e] at hxl; simp at hxl)
      rw [hv'] at hcell
      simp only [t0, t3, hcell, p0, l1, g0, Int.toNat_natCast, run_exit_start, exit_here, exit_code, exit_inLoop, run_inBlock, n38_0, n38_1, n38_2, n38_3, n38_4, n38_5, n38_6, n38_7, n38_8, n38_9, n38_10, n38_11, n38_12, n38_13, n38_14, n38_15, n38_16, n38_17, n38_18, n38_19, n38_20, n38_21, n38_22, n38_23, n38_24, n38_25, n38_26, n38_27, n38_28, n38_29, n38_30, n38_31, n38_32, n38_33, n38_34, n38_35, n38_36, n38_37, n38_38, n38_39, n38_41, n38_42, n38_43, n38_44, n38_45, n38_46, o38_1, o38_4, o38_8, o38_16, o38_18, o38_20, o38_22, o38_27, o38_33, o38_36, o38_41, o38_43, o38_45, res38, TT_3, TT_4, TT_5, TT_9, TT_22, TT_25, TT_26, TT_29, TT_33, TT_38, TT_40, TT_42, TT_47, TT_50, TT_57, TT_59, TT_66, TT_68, TT_69, TT_70, TT_72, TT_81, bb, primP, primM, ev, evs, parts_, ofConst, bin, un, intBin, putA, enterT, Nat.reduceEqDiff, Nat.reduceAdd, Nat.reduceMul, Nat.reduceLeDiff, Nat.reduceLT, ↓reduceIte, reduceCtorEq, RunRes, resultsA, oneOf, AV.plain, AV.cells, AHeap.push, AHeap.set, AHeap.empty, fieldOf, loadA, storeA, BX.part, TK.isAgg, convA, builtinA, inertB, builtinP, buildA, fillA, splice, eqv, cellsEq, sizeT, adT, ldT, fwT, Nat.reduceBeqDiff, Nat.reduceBneDiff, Int.reduceBNe, Int.reduceBEq, Int.reduceEq, Int.reduceLT, Int.reduceLE, Int.reduceAdd, Int.reduceSub, Int.reduceMul, Int.reduceNeg, strBin, indexAddrA, elems, lenOf, chunk, List.reduceReplicate, Int.reduceToNat]
      refine runA_yield (L := L) ?_ ?_ (hI _ _ _ hI2) hpar.symm ?_
      · simp only [evs, ev, upd_app, t0, t3, Nat.reduceEqDiff, ↓reduceIte]
      · simp only [evs, ev, upd_app, t0, t3, Nat.reduceEqDiff, ↓reduceIte]
      refine hRnd out more (xs x.r)[x.a] (nx1 + 1) A2 _ hm (by omega) hI2 ?_ ?_
      · intro nx3 A3 hI3 hn3 hF3
        simp only [run_exit_start, exit_here, exit_code, exit_inLoop, run_inBlock, n38_0, n38_1, n38_2, n38_3, n38_4, n38_5, n38_6, n38_7, n38_8, n38_9, n38_10, n38_11, n38_12, n38_13, n38_14, n38_15, n38_16, n38_17, n38_18, n38_19, n38_20, n38_21, n38_22, n38_23, n38_24, n38_25, n38_26, n38_27, n38_28, n38_29, n38_30, n38_31, n38_32, n38_33, n38_34, n38_35, n38_36, n38_37, n38_38, n38_39, n38_41, n38_42, n38_43, n38_44, n38_45, n38_46, o38_1, o38_4, o38_8, o38_16, o38_18, o38_20, o38_22, o38_27, o38_33, o38_36, o38_41, o38_43, o38_45, res38, TT_3, TT_4, TT_5, TT_9, TT_22, TT_25, TT_26, TT_29, TT_33, TT_38, TT_40, TT_42, TT_47, TT_50, TT_57, TT_59, TT_66, TT_68, TT_69, TT_70, TT_72, TT_81, bb, primP, primM, ev, evs, parts_, ofConst, bin, un, intBin, putA, enterT, Nat.reduceEqDiff, Nat.reduceAdd, Nat.reduceMul, Nat.reduceLeDiff, Nat.reduceLT, ↓reduceIte, reduceCtorEq, RunRes, resultsA, oneOf, AV.plain, AV.cells, AHeap.push, AHeap.set, AHeap.empty, fieldOf, loadA, storeA, BX.part, TK.isAgg, convA, builtinA, inertB, builtinP, buildA, fillA, splice, eqv, cellsEq, sizeT, adT, ldT, fwT, Nat.reduceBeqDiff, Nat.reduceBneDiff, Int.reduceBNe, Int.reduceBEq, Int.reduceEq, Int.reduceLT, Int.reduceLE, Int.reduceAdd, Int.reduceSub, Int.reduceMul, Int.reduceNeg, strBin, indexAddrA, elems, lenOf, chunk, List.reduceReplicate, Int.reduceToNat]
        refine go _ nx3 A3 ?_ ?_ ?_ hI3 hn3 hF3
        all_goals simp only [upd_app, t0, t3, Nat.reduceEqDiff, ↓reduceIte]
      · intro nx3 A3 h
        simp only [run_exit_start, exit_here, exit_code, exit_inLoop, run_inBlock, n38_0, n38_1, n38_2, n38_3, n38_4, n38_5, n38_6, n38_7, n38_8, n38_9, n38_10, n38_11, n38_12, n38_13, n38_14, n38_15, n38_16, n38_17, n38_18, n38_19, n38_20, n38_21, n38_22, n38_23, n38_24, n38_25, n38_26, n38_27, n38_28, n38_29, n38_30, n38_31, n38_32, n38_33, n38_34, n38_35, n38_36, n38_37, n38_38, n38_39, n38_40, n38_41, n38_42, n38_43, n38_44, n38_45, n38_46, o38_1, o38_4, o38_8, o38_16, o38_18, o38_20, o38_22, o38_27, o38_33, o38_36, o38_41, o38_43, o38_45, res38, TT_3, TT_4, TT_5, TT_9, TT_22, TT_25, TT_26, TT_29, TT_33, TT_38, TT_40, TT_42, TT_47, TT_50, TT_57, TT_59, TT_66, TT_68, TT_69, TT_70, TT_72, TT_81, bb, primP, primM, ev, evs, parts_, ofConst, bin, un, intBin, putA, enterT, Nat.reduceEqDiff, Nat.reduceAdd, Nat.reduceMul, Nat.reduceLeDiff, Nat.reduceLT, ↓reduceIte, reduceCtorEq, RunRes, resultsA, oneOf, AV.plain, AV.cells, AHeap.push, AHeap.set, AHeap.empty, fieldOf, loadA, storeA, BX.part, TK.isAgg, convA, builtinA, inertB, builtinP, buildA, fillA, splice, eqv, cellsEq, sizeT, adT, ldT, fwT, Nat.reduceBeqDiff, Nat.reduceBneDiff, Int.reduceBNe, Int.reduceBEq, Int.reduceEq, Int.reduceLT, Int.reduceLE, Int.reduceAdd, Int.reduceSub, Int.reduceMul, Int.reduceNeg, strBin, indexAddrA, elems, lenOf, chunk, List.reduceReplicate, Int.reduceToNat]
        exact hStp _ _ h
    · rw [hv] at hcell
      simp only [t0, t3, hcell, hgA, p0, l0, l1, g0, Int.toNat_natCast, run_exit_start, exit_here, exit_code, exit_inLoop, run_inBlock, n38_0, n38_1, n38_2, n38_3, n38_4, n38_5, n38_6, n38_7, n38_8, n38_9, n38_10, n38_11, n38_12, n38_13, n38_14, n38_15, n38_16, n38_17, n38_18, n38_19, n38_20, n38_21, n38_22, n38_23, n38_24, n38_25, n38_26, n38_27, n38_28, n38_29, n38_30, n38_31, n38_32, n38_33, n38_34, n38_35, n38_36, n38_37, n38_38, n38_39, n38_41, n38_42, n38_43, n38_44, n38_45, n38_46, o38_1, o38_4, o38_8, o38_16, o38_18, o38_20, o38_22, o38_27, o38_33, o38_36, o38_41, o38_43, o38_45, res38, TT_3, TT_4, TT_5, TT_9, TT_22, TT_25, TT_26, TT_29, TT_33, TT_38, TT_40, TT_42, TT_47, TT_50, TT_57, TT_59, TT_66, TT_68, TT_69, TT_70, TT_72, TT_81, bb, primP, primM, ev, evs, parts_, ofConst, bin, un, intBin, putA, enterT, Nat.reduceEqDiff, Nat.reduceAdd, Nat.reduceMul, Nat.reduceLeDiff, Nat.reduceLT, ↓reduceIte, reduceCtorEq, RunRes, resultsA, oneOf, AV.plain, AV.cells, AHeap.push, AHeap.set, AHeap.empty, fieldOf, loadA, storeA, BX.part, TK.isAgg, convA, builtinA, inertB, builtinP, buildA, fillA, splice, eqv, cellsEq, sizeT, adT, ldT, fwT, Nat.reduceBeqDiff, Nat.reduceBneDiff, Int.reduceBNe, Int.reduceBEq, Int.reduceEq, Int.reduceLT, Int.reduceLE, Int.reduceAdd, Int.reduceSub, Int.reduceMul, Int.reduceNeg, strBin, indexAddrA, elems, lenOf, chunk, List.reduceReplicate, Int.reduceToNat]
      refine runA_yield (L := L) ?_ ?_ (hI _ _ _ hI2) hpar.symm ?_
      · simp only [evs, ev, upd_app, t0, t3, Nat.reduceEqDiff, ↓reduceIte]
      · simp only [evs, ev, upd_app, t0, t3, Nat.reduceEqDiff, ↓reduceIte]
      refine hRnd out more (xs x.r)[x.a] (nx1 + 1) A2 _ hm (by omega) hI2 ?_ ?_
      · intro nx3 A3 hI3 hn3 hF3
        simp only [run_exit_start, exit_here, exit_code, exit_inLoop, run_inBlock, n38_0, n38_1, n38_2, n38_3, n38_4, n38_5, n38_6, n38_7, n38_8, n38_9, n38_10, n38_11, n38_12, n38_13, n38_14, n38_15, n38_16, n38_17, n38_18, n38_19, n38_20, n38_21, n38_22, n38_23, n38_24, n38_25, n38_26, n38_27, n38_28, n38_29, n38_30, n38_31, n38_32, n38_33, n38_34, n38_35, n38_36, n38_37, n38_38, n38_39, n38_41, n38_42, n38_43, n38_44, n38_45, n38_46, o38_1, o38_4, o38_8, o38_16, o38_18, o38_20, o38_22, o38_27, o38_33, o38_36, o38_41, o38_43, o38_45, res38, TT_3, TT_4, TT_5, TT_9, TT_22, TT_25, TT_26, TT_29, TT_33, TT_38, TT_40, TT_42, TT_47, TT_50, TT_57, TT_59, TT_66, TT_68, TT_69, TT_70, TT_72, TT_81, bb, primP, primM, ev, evs, parts_, ofConst, bin, un, intBin, putA, enterT, Nat.reduceEqDiff, Nat.reduceAdd, Nat.reduceMul, Nat.reduceLeDiff, Nat.reduceLT, ↓reduceIte, reduceCtorEq, RunRes, resultsA, oneOf, AV.plain, AV.cells, AHeap.push, AHeap.set, AHeap.empty, fieldOf, loadA, storeA, BX.part, TK.isAgg, convA, builtinA, inertB, builtinP, buildA, fillA, splice, eqv, cellsEq, sizeT, adT, ldT, fwT, Nat.reduceBeqDiff, Nat.reduceBneDiff, Int.reduceBNe, Int.reduceBEq, Int.reduceEq, Int.reduceLT, Int.reduceLE, Int.reduceAdd, Int.reduceSub, Int.reduceMul, Int.reduceNeg, strBin, indexAddrA, elems, lenOf, chunk, List.reduceReplicate, Int.reduceToNat]
        refine go _ nx3 A3 ?_ ?_ ?_ hI3 hn3 hF3
        all_goals simp only [upd_app, t0, t3, Nat.reduceEqDiff, ↓reduceIte]
      · intro nx3 A3 h
        simp only [run_exit_start, exit_here, exit_code, exit_inLoop, run_inBlock, n38_0, n38_1, n38_2, n38_3, n38_4, n38_5, n38_6, n38_7, n38_8, n38_9, n38_10, n38_11, n38_12, n38_13, n38_14, n38_15, n38_16, n38_17, n38_18, n38_19, n38_20, n38_21, n38_22, n38_23, n38_24, n38_25, n38_26, n38_27, n38_28, n38_29, n38_30, n38_31, n38_32, n38_33, n38_34, n38_35, n38_36, n38_37, n38_38, n38_39, n38_40, n38_41, n38_42, n38_43, n38_44, n38_45, n38_46, o38_1, o38_4, o38_8, o38_16, o38_18, o38_20, o38_22, o38_27, o38_33, o38_36, o38_41, o38_43, o38_45, res38, TT_3, TT_4, TT_5, TT_9, TT_22, TT_25, TT_26, TT_29, TT_33, TT_38, TT_40, TT_42, TT_47, TT_50, TT_57, TT_59, TT_66, TT_68, TT_69, TT_70, TT_72, TT_81, bb, primP, primM, ev, evs, parts_, ofConst, bin, un, intBin, putA, enterT, Nat.reduceEqDiff, Nat.reduceAdd, Nat.reduceMul, Nat.reduceLeDiff, Nat.reduceLT, ↓reduceIte, reduceCtorEq, RunRes, resultsA, oneOf, AV.plain, AV.cells, AHeap.push, AHeap.set, AHeap.empty, fieldOf, loadA, storeA, BX.part, TK.isAgg, convA, builtinA, inertB, builtinP, buildA, fillA, splice, eqv, cellsEq, sizeT, adT, ldT, fwT, Nat.reduceBeqDiff, Nat.reduceBneDiff, Int.reduceBNe, Int.reduceBEq, Int.reduceEq, Int.reduceLT, Int.reduceLE, Int.reduceAdd, Int.reduceSub, Int.reduceMul, Int.reduceNeg, strBin, indexAddrA, elems, lenOf, chunk, List.reduceReplicate, Int.reduceToNat]
        exact hStp _ _ h
end
end Go.Proofs.Ytbfjkomlnpolmaa.G

namespace Go.Proofs.Ytbfjkomlnpolmaa.G
open Go.BX
set_option linter.unusedSimpArgs false
set_option linter.unusedVariables false
section
variable {hb R : Nat} {vs : Nat → AV} {xs : Nat → List Pr} {Q : AV → AHeap → Prop} {l : Nat} {L : ALoop} {I : List Pr → Nat → (Nat → Blk) → Prop} {Stp : Nat → (Nat → Blk) → Prop} {m : List Pr}
theorem rows_r {R i : Nat} {vs : Nat → AV} (h : i < R) : ((List.range R).map fun r => [vs r])[i]? = some [vs i] := by
  rw [List.getElem?_map, List.getElem?_range h]
  rfl
theorem ml_all {A0 : Nat → Blk} {rv : AV} (hin : RunsIn hb A0 rv R vs xs) (hpar : L.params.length = 1)
    (hI : ∀ out nx A, I out nx A → A l = .loop L) (hIk : ∀ out nx nx' A A', I out nx A → hb < nx → nx ≤ nx' → Oth hb nx A A' → I out nx' A')
    (hRnd : Rnd hb l L I Stp m) (hE : ∀ nx A, I m nx A → Q (.tuple []) ⟨nx, A⟩) (hStp : ∀ nx A, Stp nx A → Q (.tuple []) ⟨nx, A⟩) (hm : IsSort (rest xs R (fun _ => 0)) m) :
    ∀ (j i : Nat) (T : Nat → AV) (nx : Nat) (A : Nat → Blk) (n : Nat) (f : Nat → Cur), i + j = R → T 0 = .yld l → T 3 = .ptr hb 2 0 0 → T 9 = rv → T 10 = .int .i64 (R : Int) → T 11 = .int .i64 (i : Int) → HL vs hb nx A n f → Heap (ltC xs) n f → Cont n f (fun c => Sp xs R (fun _ => 0) c ∧ c.r < i) → n ≤ i → (∀ c, c < hb → A c = A0 c) → I [] nx A →
      Run Cx 38 T [] none [.inLoop c38_7, .inBlock 0, .code c38_23] ⟨nx, A⟩ Q := by
  have hV : ∀ A, (∀ c, c < hb → A c = A0 c) → ∀ r, r < R → RV hb A (vs r) (xs r) := fun A hA r hr => (hin.vals r hr).keep (Nat.le_refl _) (fun g hg _ => hA g hg)
  have hfew := hin.few
  intro j
  induction j with
  | zero =>
    intro i T nx A n f hij t0 t3 t9 t10 t11 hH hp hC hn hk hIo
    rw [run_inLoop]
    have c0 : ¬ (i : Int) < (R : Int) := by omega
    simp only [t0, t3, t9, t10, t11, c0, run_exit_start, exit_here, exit_code, exit_inLoop, run_inBlock, n38_0, n38_1, n38_2, n38_3, n38_4, n38_5, n38_6, n38_7, n38_8, n38_9, n38_10, n38_11, n38_12, n38_13, n38_14, n38_15, n38_16, n38_17, n38_18, n38_19, n38_20, n38_21, n38_22, n38_23, n38_24, n38_26, n38_27, n38_28, n38_29, n38_30, n38_31, n38_32, n38_33, n38_34, n38_35, n38_36, n38_37, n38_38, n38_39, n38_40, n38_41, n38_42, n38_43, n38_44, n38_45, n38_46, o38_1, o38_4, o38_8, o38_16, o38_18, o38_20, o38_22, o38_27, o38_33, o38_36, o38_41, o38_43, o38_45, res38, TT_3, TT_4, TT_5, TT_9, TT_22, TT_25, TT_26, TT_29, TT_33, TT_38, TT_40, TT_42, TT_47, TT_50, TT_57, TT_59, TT_66, TT_68, TT_69, TT_70, TT_72, TT_81, bb, primP, primM, ev, evs, parts_, ofConst, bin, un, intBin, putA, enterT, Nat.reduceEqDiff, Nat.reduceAdd, Nat.reduceMul, Nat.reduceLeDiff, Nat.reduceLT, ↓reduceIte, reduceCtorEq, RunRes, resultsA, oneOf, AV.plain, AV.cells, AHeap.push, AHeap.set, AHeap.empty, fieldOf, loadA, storeA, BX.part, TK.isAgg, convA, builtinA, inertB, builtinP, buildA, fillA, splice, eqv, cellsEq, sizeT, adT, ldT, fwT, Nat.reduceBeqDiff, Nat.reduceBneDiff, Int.reduceBNe, Int.reduceBEq, Int.reduceEq, Int.reduceLT, Int.reduceLE, Int.reduceAdd, Int.reduceSub, Int.reduceMul, Int.reduceNeg, strBin, indexAddrA, elems, lenOf, chunk, List.reduceReplicate, Int.reduceToNat]
    refine mg_all (vs := vs) (L := L) hin.len hin.few hin.srt hpar hI hIk hRnd hE hStp m [] _ nx A n f (fun _ => 0) rfl ?_ ?_ hH hp (hC.iff fun c => ⟨fun h => ⟨h, by have := h.1; omega⟩, fun h => h.1⟩) (by omega) (hV A hk) hm hin.tot hIo
    all_goals simp only [upd_app, t0, t3, Nat.reduceEqDiff, ↓reduceIte]
  | succ j ih =>
    intro i T nx A n f hij t0 t3 t9 t10 t11 hH hp hC hn hk hIo
    rw [run_inLoop]
    have hi : i < R := by omega
    have c0 : (i : Int) < (R : Int) := by omega
    have p0 : (0 : Int) ≤ (i : Int) := by omega
    have w1 : IntKind.i64.wrap ((i : Int) + 1) = ((i + 1 : Nat) : Int) := by rw [wr64 (by omega) (by omega)]; omega
    have hvi := hV A hk i hi
    have hpl := hvi.plain
    have hcl := hvi.cells
    have hln := hvi.lenOf
    simp only [AV.plain] at hpl
    simp only [AV.cells] at hcl
    simp only [lenOf] at hln
    have hg := rows_r (vs := vs) hi
    have l1 : (i : Int) < (((List.range R).map fun r => [vs r]).length : Int) := by rw [List.length_map, List.length_range]; omega
    have hbn := hH.1
    have hlen := hin.len i hi
    have go : ∀ (T' : Nat → AV), T' 0 = .yld l → T' 3 = .ptr hb 2 0 0 → T' 9 = rv → T' 10 = .int .i64 (R : Int) → T' 11 = .int .i64 (i : Int) → T' 4 = .int .i64 (i : Int) → T' 5 = vs i →
        Run Cx 38 T' [] none [.code c38_17, .inBlock 1, .code c38_22, .inLoop c38_7, .inBlock 0, .code c38_23] ⟨nx, A⟩ Q := by
      intro T' t0 t3 t9 t10 t11 t4 t5
      by_cases hx0 : xs i = []
      · rw [hx0] at hln
        simp only [List.length_nil] at hln
        simp only [t0, t3, t9, t10, t11, t4, t5, hln, w1, lenOf, i64, Int.cast_ofNat_Int, run_exit_start, exit_here, exit_code, exit_inLoop, run_inBlock, n38_0, n38_1, n38_2, n38_3, n38_4, n38_5, n38_6, n38_8, n38_9, n38_10, n38_11, n38_12, n38_13, n38_14, n38_15, n38_16, n38_17, n38_18, n38_19, n38_20, n38_21, n38_22, n38_24, n38_25, n38_26, n38_27, n38_28, n38_29, n38_30, n38_31, n38_32, n38_33, n38_34, n38_35, n38_36, n38_37, n38_38, n38_39, n38_40, n38_41, n38_42, n38_43, n38_44, n38_45, n38_46, o38_1, o38_4, o38_8, o38_16, o38_18, o38_20, o38_22, o38_27, o38_33, o38_36, o38_41, o38_43, o38_45, res38, TT_3, TT_4, TT_5, TT_9, TT_22, TT_25, TT_26, TT_29, TT_33, TT_38, TT_40, TT_42, TT_47, TT_50, TT_57, TT_59, TT_66, TT_68, TT_69, TT_70, TT_72, TT_81, bb, primP, primM, ev, evs, parts_, ofConst, bin, un, intBin, putA, enterT, Nat.reduceEqDiff, Nat.reduceAdd, Nat.reduceMul, Nat.reduceLeDiff, Nat.reduceLT, ↓reduceIte, reduceCtorEq, RunRes, resultsA, oneOf, AV.plain, AV.cells, AHeap.push, AHeap.set, AHeap.empty, fieldOf, loadA, storeA, BX.part, TK.isAgg, convA, builtinA, inertB, builtinP, buildA, fillA, splice, eqv, cellsEq, sizeT, adT, ldT, fwT, Nat.reduceBeqDiff, Nat.reduceBneDiff, Int.reduceBNe, Int.reduceBEq, Int.reduceEq, Int.reduceLT, Int.reduceLE, Int.reduceAdd, Int.reduceSub, Int.reduceMul, Int.reduceNeg, strBin, indexAddrA, elems, lenOf, chunk, List.reduceReplicate, Int.reduceToNat]
        refine ih (i + 1) _ nx A n f (by omega) ?_ ?_ ?_ ?_ ?_ hH hp (hC.iff fun c => ⟨fun h => ⟨h.1, ?_⟩, fun h => ⟨h.1, by omega⟩⟩) (by omega) hk hIo
        rotate_right
        · have h2 := h.1.2.2
          have h3 := h.2
          rw [← Decidable.not_not (p := c.r < i)]
          intro h4
          have : c.r = i := by omega
          rw [this, hx0] at h2
          simp at h2
        all_goals simp only [upd_app, t0, t3, t9, t10, Nat.reduceEqDiff, ↓reduceIte]
      · have c1 : (0 : Int) < ((xs i).length : Int) := by
          have := List.length_pos_iff.mpr hx0
          omega
        simp only [t0, t3, t9, t10, t11, t4, t5, hln, hpl, hcl, c1, lenOf, i64, run_exit_start, exit_here, exit_code, exit_inLoop, run_inBlock, n38_0, n38_1, n38_2, n38_3, n38_4, n38_5, n38_6, n38_8, n38_9, n38_10, n38_11, n38_12, n38_13, n38_14, n38_15, n38_16, n38_17, n38_18, n38_19, n38_20, n38_21, n38_24, n38_25, n38_26, n38_27, n38_28, n38_29, n38_30, n38_31, n38_32, n38_33, n38_34, n38_35, n38_36, n38_37, n38_38, n38_39, n38_40, n38_41, n38_42, n38_43, n38_44, n38_45, n38_46, o38_1, o38_4, o38_8, o38_16, o38_18, o38_20, o38_22, o38_27, o38_33, o38_36, o38_41, o38_43, o38_45, res38, TT_3, TT_4, TT_5, TT_9, TT_22, TT_25, TT_26, TT_29, TT_33, TT_38, TT_40, TT_42, TT_47, TT_50, TT_57, TT_59, TT_66, TT_68, TT_69, TT_70, TT_72, TT_81, bb, primP, primM, ev, evs, parts_, ofConst, bin, un, intBin, putA, enterT, Nat.reduceEqDiff, Nat.reduceAdd, Nat.reduceMul, Nat.reduceLeDiff, Nat.reduceLT, ↓reduceIte, reduceCtorEq, RunRes, resultsA, oneOf, AV.plain, AV.cells, AHeap.push, AHeap.set, AHeap.empty, fieldOf, loadA, storeA, BX.part, TK.isAgg, convA, builtinA, inertB, builtinP, buildA, fillA, splice, eqv, cellsEq, sizeT, adT, ldT, fwT, Nat.reduceBeqDiff, Nat.reduceBneDiff, Int.reduceBNe, Int.reduceBEq, Int.reduceEq, Int.reduceLT, Int.reduceLE, Int.reduceAdd, Int.reduceSub, Int.reduceMul, Int.reduceNeg, strBin, indexAddrA, elems, lenOf, chunk, List.reduceReplicate, Int.reduceToNat]
        refine push_call (vs := vs) (S := fun c => Sp xs R (fun _ => 0) c ∧ c.r < i) (x := ⟨i, 0⟩) (by omega) hH hp hC (fun c hc => Sp_ok hin.len hin.few hc.1) ?_ ⟨List.length_pos_iff.mpr hx0, by simp only; omega, by simp only; omega⟩ ?_ ?_
        · rintro ⟨_, h⟩
          simp only at h
          omega
        · rintro c (rfl | hc)
          · exact hvi
          · exact hV A hk c.r hc.1.1
        · intro nx' A' f' hH' hp' hC' hn' hO'
          simp only [t0, t3, t9, t10, t11, t4, t5, w1, run_exit_start, exit_here, exit_code, exit_inLoop, run_inBlock, n38_0, n38_1, n38_2, n38_3, n38_4, n38_5, n38_6, n38_8, n38_9, n38_10, n38_11, n38_12, n38_13, n38_14, n38_15, n38_16, n38_17, n38_18, n38_19, n38_20, n38_21, n38_22, n38_24, n38_25, n38_26, n38_27, n38_28, n38_29, n38_30, n38_31, n38_32, n38_33, n38_34, n38_35, n38_36, n38_37, n38_38, n38_39, n38_40, n38_41, n38_42, n38_43, n38_44, n38_45, n38_46, o38_1, o38_4, o38_8, o38_16, o38_18, o38_20, o38_22, o38_27, o38_33, o38_36, o38_41, o38_43, o38_45, res38, TT_3, TT_4, TT_5, TT_9, TT_22, TT_25, TT_26, TT_29, TT_33, TT_38, TT_40, TT_42, TT_47, TT_50, TT_57, TT_59, TT_66, TT_68, TT_69, TT_70, TT_72, TT_81, bb, primP, primM, ev, evs, parts_, ofConst, bin, un, intBin, putA, enterT, Nat.reduceEqDiff, Nat.reduceAdd, Nat.reduceMul, Nat.reduceLeDiff, Nat.reduceLT, ↓reduceIte, reduceCtorEq, RunRes, resultsA, oneOf, AV.plain, AV.cells, AHeap.push, AHeap.set, AHeap.empty, fieldOf, loadA, storeA, BX.part, TK.isAgg, convA, builtinA, inertB, builtinP, buildA, fillA, splice, eqv, cellsEq, sizeT, adT, ldT, fwT, Nat.reduceBeqDiff, Nat.reduceBneDiff, Int.reduceBNe, Int.reduceBEq, Int.reduceEq, Int.reduceLT, Int.reduceLE, Int.reduceAdd, Int.reduceSub, Int.reduceMul, Int.reduceNeg, strBin, indexAddrA, elems, lenOf, chunk, List.reduceReplicate, Int.reduceToNat]
          refine ih (i + 1) _ nx' A' (n + 1) f' (by omega) ?_ ?_ ?_ ?_ ?_ hH' hp' (hC'.iff fun c => ?_) (by omega) (fun c hc => by rw [hO' c (by omega) (by omega) (.inl hc)]; exact hk c hc) (hIk _ _ _ _ _ hIo hbn hn' hO')
          rotate_right
          · constructor
            · rintro ⟨h1, h2⟩
              by_cases e : c.r = i
              · left
                obtain ⟨r, a⟩ := c
                simp only at e
                subst e
                have := h1.2.1
                simp only at this
                subst this
                rfl
              · exact .inr ⟨h1, by omega⟩
            · rintro (rfl | ⟨h1, h2⟩)
              · exact ⟨⟨hi, rfl, List.length_pos_iff.mpr hx0⟩, by simp only; omega⟩
              · exact ⟨h1, by omega⟩
          all_goals simp only [upd_app, t0, t3, t9, t10, Nat.reduceEqDiff, ↓reduceIte]
    rcases hin.rows with ⟨rfl, h0⟩ | rfl | ⟨g, rfl, hg1, hg2⟩
    · omega
    · simp only [t0, t3, t9, t10, t11, c0, p0, l1, hg, Int.toNat_natCast, run_exit_start, exit_here, exit_code, exit_inLoop, run_inBlock, n38_0, n38_1, n38_2, n38_3, n38_4, n38_5, n38_6, n38_7, n38_8, n38_9, n38_10, n38_11, n38_12, n38_13, n38_14, n38_15, n38_16, n38_18, n38_19, n38_20, n38_21, n38_24, n38_25, n38_26, n38_27, n38_28, n38_29, n38_30, n38_31, n38_32, n38_33, n38_34, n38_35, n38_36, n38_37, n38_38, n38_39, n38_40, n38_41, n38_42, n38_43, n38_44, n38_45, n38_46, o38_1, o38_4, o38_8, o38_16, o38_18, o38_20, o38_22, o38_27, o38_33, o38_36, o38_41, o38_43, o38_45, res38, TT_3, TT_4, TT_5, TT_9, TT_22, TT_25, TT_26, TT_29, TT_33, TT_38, TT_40, TT_42, TT_47, TT_50, TT_57, TT_59, TT_66, TT_68, TT_69, TT_70, TT_72, TT_81, bb, primP, primM, ev, evs, parts_, ofConst, bin, un, intBin, putA, enterT, Nat.reduceEqDiff, Nat.reduceAdd, Nat.reduceMul, Nat.reduceLeDiff, Nat.reduceLT, ↓reduceIte, reduceCtorEq, RunRes, resultsA, oneOf, AV.plain, AV.cells, AHeap.push, AHeap.set, AHeap.empty, fieldOf, loadA, storeA, BX.part, TK.isAgg, convA, builtinA, inertB, builtinP, buildA, fillA, splice, eqv, cellsEq, sizeT, adT, ldT, fwT, Nat.reduceBeqDiff, Nat.reduceBneDiff, Int.reduceBNe, Int.reduceBEq, Int.reduceEq, Int.reduceLT, Int.reduceLE, Int.reduceAdd, Int.reduceSub, Int.reduceMul, Int.reduceNeg, strBin, indexAddrA, elems, lenOf, chunk, List.reduceReplicate, Int.reduceToNat]
      refine go _ ?_ ?_ ?_ ?_ ?_ ?_ ?_
      all_goals simp only [upd_app, t0, t3, t9, t10, t11, Nat.reduceEqDiff, ↓reduceIte]
    · have hAg := (hk g hg1).trans hg2
      simp only [t0, t3, t9, t10, t11, c0, p0, hAg, hg, Int.toNat_natCast, run_exit_start, exit_here, exit_code, exit_inLoop, run_inBlock, n38_0, n38_1, n38_2, n38_3, n38_4, n38_5, n38_6, n38_7, n38_8, n38_9, n38_10, n38_11, n38_12, n38_13, n38_14, n38_15, n38_16, n38_18, n38_19, n38_20, n38_21, n38_24, n38_25, n38_26, n38_27, n38_28, n38_29, n38_30, n38_31, n38_32, n38_33, n38_34, n38_35, n38_36, n38_37, n38_38, n38_39, n38_40, n38_41, n38_42, n38_43, n38_44, n38_45, n38_46, o38_1, o38_4, o38_8, o38_16, o38_18, o38_20, o38_22, o38_27, o38_33, o38_36, o38_41, o38_43, o38_45, res38, TT_3, TT_4, TT_5, TT_9, TT_22, TT_25, TT_26, TT_29, TT_33, TT_38, TT_40, TT_42, TT_47, TT_50, TT_57, TT_59, TT_66, TT_68, TT_69, TT_70, TT_72, TT_81, bb, primP, primM, ev, evs, parts_, ofConst, bin, un, intBin, putA, enterT, Nat.reduceEqDiff, Nat.reduceAdd, Nat.reduceMul, Nat.reduceLeDiff, Nat.reduceLT, ↓reduceIte, reduceCtorEq, RunRes, resultsA, oneOf, AV.plain, AV.cells, AHeap.push, AHeap.set, AHeap.empty, fieldOf, loadA, storeA, BX.part, TK.isAgg, convA, builtinA, inertB, builtinP, buildA, fillA, splice, eqv, cellsEq, sizeT, adT, ldT, fwT, Nat.reduceBeqDiff, Nat.reduceBneDiff, Int.reduceBNe, Int.reduceBEq, Int.reduceEq, Int.reduceLT, Int.reduceLE, Int.reduceAdd, Int.reduceSub, Int.reduceMul, Int.reduceNeg, strBin, indexAddrA, elems, lenOf, chunk, List.reduceReplicate, Int.reduceToNat]
      refine go _ ?_ ?_ ?_ ?_ ?_ ?_ ?_
      all_goals simp only [upd_app, t0, t3, t9, t10, t11, Nat.reduceEqDiff, ↓reduceIte]
theorem merged_run {nx b1 : Nat} {A : Nat → Blk} {rv : AV} (hin : RunsIn nx A rv R vs xs) (hb1 : A b1 = .cells 29 1 [[rv]]) (hb1n : b1 < nx) (hpar : L.params.length = 1)
    (hI : ∀ out nx A, I out nx A → A l = .loop L) (hIk : ∀ out nx' nx'' A A', I out nx' A → nx < nx' → nx' ≤ nx'' → Oth nx nx' A A' → I out nx'' A')
    (hRnd : Rnd nx l L I Stp m) (hE : ∀ nx A, I m nx A → Q (.tuple []) ⟨nx, A⟩) (hStp : ∀ nx A, Stp nx A → Q (.tuple []) ⟨nx, A⟩) (hm : IsSort (rest xs R (fun _ => 0)) m) (hI0 : ∀ A', (∀ c, c < nx → A' c = A c) → I [] (nx + 1) A') :
    Run Cx 38 (enterT ([] ++ [.yld l] ++ [.ptr b1 1 0 0])) [] none [.code c38_0] ⟨nx, A⟩ Q := by
  have hlen : ∃ z, lenOf rv = some z ∧ z = R := by
    rcases hin.rows with ⟨rfl, h0⟩ | rfl | ⟨g, rfl, hg1, hg2⟩
    · exact ⟨0, rfl, h0.symm⟩
    · exact ⟨_, rfl, by rw [List.length_map, List.length_range]⟩
    · exact ⟨_, rfl, rfl⟩
  obtain ⟨z, hz, rfl⟩ := hlen
  simp only [lenOf] at hz
  have e1 : (b1 = nx) = False := eq_false (by omega)
  simp only [hb1, e1, hz, lenOf, i64, n38_0, n38_1, n38_2, n38_3, n38_4, n38_5, n38_6, n38_8, n38_9, n38_10, n38_11, n38_12, n38_13, n38_14, n38_15, n38_16, n38_17, n38_18, n38_19, n38_20, n38_21, n38_22, n38_24, n38_25, n38_26, n38_27, n38_28, n38_29, n38_30, n38_31, n38_32, n38_33, n38_34, n38_35, n38_36, n38_37, n38_38, n38_39, n38_40, n38_41, n38_42, n38_43, n38_44, n38_45, n38_46, o38_1, o38_4, o38_8, o38_16, o38_18, o38_20, o38_22, o38_27, o38_33, o38_36, o38_41, o38_43, o38_45, res38, TT_3, TT_4, TT_5, TT_9, TT_22, TT_25, TT_26, TT_29, TT_33, TT_38, TT_40, TT_42, TT_47, TT_50, TT_57, TT_59, TT_66, TT_68, TT_69, TT_70, TT_72, TT_81, bb, primP, primM, ev, evs, parts_, ofConst, bin, un, intBin, putA, enterT, Nat.reduceEqDiff, Nat.reduceAdd, Nat.reduceMul, Nat.reduceLeDiff, Nat.reduceLT, ↓reduceIte, reduceCtorEq, RunRes, resultsA, oneOf, AV.plain, AV.cells, AHeap.push, AHeap.set, AHeap.empty, fieldOf, loadA, storeA, BX.part, TK.isAgg, convA, builtinA, inertB, builtinP, buildA, fillA, splice, eqv, cellsEq, sizeT, adT, ldT, fwT, Nat.reduceBeqDiff, Nat.reduceBneDiff, Int.reduceBNe, Int.reduceBEq, Int.reduceEq, Int.reduceLT, Int.reduceLE, Int.reduceAdd, Int.reduceSub, Int.reduceMul, Int.reduceNeg, strBin, indexAddrA, elems, lenOf, chunk, List.reduceReplicate, Int.reduceToNat]
  generalize hA' : upd A nx _ = A'
  have hk : ∀ c, c < nx → A' c = A c := fun c hc => by rw [← hA', upd_app, if_neg (by omega)]
  refine ml_all (hb := nx) (vs := vs) (xs := xs) (L := L) (A0 := A) (rv := rv) hin hpar hI hIk hRnd hE hStp hm z 0 _ (nx + 1) A' 0 (fun _ => ⟨0, 0⟩) (by omega) ?_ ?_ ?_ ?_ ?_ ⟨by omega, .inl ⟨?_, rfl⟩⟩ (fun i h0 hi => by omega) ⟨fun i hi => by omega, fun c hc => by have := hc.2; omega, fun i j hi => by omega⟩ (Nat.le_refl _) hk (hI0 A' hk)
  rotate_right
  · rw [← hA']; simp only [upd_app, ↓reduceIte]
  all_goals simp only [upd_app, enterT, List.nil_append, List.cons_append, List.getElem?_cons_zero, List.getElem?_cons_succ, Option.getD_some, Nat.reduceEqDiff, ↓reduceIte]
  all_goals rfl
end
end Go.Proofs.Ytbfjkomlnpolmaa.G

namespace Go.Proofs.Ytbfjkomlnpolmaa.G
open Go.BX
set_option linter.unusedSimpArgs false
set_option linter.unusedVariables false
def isOrd (l : List Pr) : Bool := decide (l.Pairwise fun p q => ltP q p = false)
theorem Ordered_ok' {v : AV} {l : List Pr} (hv : InE v l) (hl : l.length ≤ 1000000) : PCall Cx 12 [v] (.bool (isOrd l)) := by
  obtain ⟨b, hb, hb'⟩ := Ordered_ok hv hl
  have : b = isOrd l := by
    unfold isOrd
    rw [Bool.eq_iff_iff, decide_eq_true_eq]
    exact hb'
  rw [← this]; exact hb
theorem notOrd_ok {v : AV} {l : List Pr} (hv : InE v l) (hl : l.length ≤ 1000000) : PCall Cx 32 [v] (.bool (!isOrd l)) := by
  refine pcall_run (noext _) body32 ?_
  have f0 : [v].all AV.flat = true := by simp [hv.flat]
  simp only [call_pure pure12 f0 (Ordered_ok' hv hl), n32_0, n32_1, n32_2, n32_3, n32_4, o32_1, o32_3, res32, TT_3, TT_4, TT_5, TT_9, TT_22, TT_25, TT_26, TT_29, TT_33, TT_38, TT_40, TT_42, TT_47, TT_50, TT_57, TT_59, TT_66, TT_68, TT_69, TT_70, TT_72, TT_81, bb, primP, primM, ev, evs, parts_, ofConst, bin, un, intBin, putA, enterT, Nat.reduceEqDiff, Nat.reduceAdd, Nat.reduceMul, Nat.reduceLeDiff, Nat.reduceLT, ↓reduceIte, reduceCtorEq, RunRes, resultsA, oneOf, AV.plain, AV.cells, AHeap.push, AHeap.set, AHeap.empty, fieldOf, loadA, storeA, BX.part, TK.isAgg, convA, builtinA, inertB, builtinP, buildA, fillA, splice, eqv, cellsEq, sizeT, adT, ldT, fwT, Nat.reduceBeqDiff, Nat.reduceBneDiff, Int.reduceBNe, Int.reduceBEq, Int.reduceEq, Int.reduceLT, Int.reduceLE, Int.reduceAdd, Int.reduceSub, Int.reduceMul, Int.reduceNeg, strBin, indexAddrA, elems, lenOf, chunk, List.reduceReplicate, Int.reduceToNat]
def idxU : List (AV × List Pr) → Int → Int
  | [], _ => -1
  | x :: l, i => if isOrd x.2 = true then idxU l (i + 1) else i
theorem idxU_rng : ∀ (l : List (AV × List Pr)) (i : Int), 0 ≤ i → -1 ≤ idxU l i
  | [], i, h => by simp [idxU]
  | p :: l, i, h => by
    unfold idxU
    split
    · exact idxU_rng l (i + 1) (by omega)
    · omega
theorem idxU_good : ∀ (l : List (AV × List Pr)) (i : Int), 0 ≤ i → (idxU l i < 0 ↔ ∀ p, p ∈ l → isOrd p.2 = true)
  | [], i, h => by simp [idxU]
  | p :: l, i, h => by
    unfold idxU
    have ih := idxU_good l (i + 1) (by omega)
    cases hb : isOrd p.2 with
    | false => simp [hb]; omega
    | true => simp [hb, ih]
section
variable {fn : FuncId} {T : Nat → AV} {ds : List ADef} {ro : Option Nat} {k : List AItem} {Q : AV → AHeap → Prop} {dst : Option Nat} {os : List AO} {H : AHeap}
theorem ui_all {l : List (AV × List Pr)} {H : AHeap} {Q : AV → AHeap → Prop} (hl : l.length ≤ 1000) (hx : ∀ x, x ∈ l → InE x.1 x.2 ∧ x.2.length ≤ 100000) : ∀ (j i : Nat), i + j = l.length → Q (.int .i64 (idxU (l.drop i) (i : Int))) H → ∀ (T : Nat → AV), T 0 = .vec 1 (rowsR l) → T 1 = .fn 32 [] [] → T 7 = .int .i64 ((rowsR l).length : Int) → T 8 = .int .i64 (i : Int) →
    Run Cx 42 T [] none [.inLoop c42_7, .inBlock 0, .code c42_25] H Q
  | 0, i, hij, hQ => by
    intro T t0 t1 t7 t8
    rw [run_inLoop]
    have h0 : ((i : Int) < ((rowsR l).length : Int)) = False := eq_false (by rw [rowsR, List.length_map]; omega)
    rw [List.drop_of_length_le (show l.length ≤ i by omega)] at hQ
    have hQ' : Q (.int .i64 (-1)) H := hQ
    simp only [t0, t1, t7, t8, h0, run_exit_start, exit_here, exit_code, exit_inLoop, run_inBlock, n42_0, n42_1, n42_2, n42_3, n42_4, n42_5, n42_6, n42_7, n42_8, n42_9, n42_10, n42_11, n42_12, n42_13, n42_14, n42_15, n42_16, n42_17, n42_18, n42_19, n42_20, n42_21, n42_22, n42_23, n42_24, n42_25, n42_26, n42_27, o42_1, o42_4, o42_8, o42_16, o42_18, o42_21, o42_24, o42_26, res42, TT_3, TT_4, TT_5, TT_9, TT_22, TT_25, TT_26, TT_29, TT_33, TT_38, TT_40, TT_42, TT_47, TT_50, TT_57, TT_59, TT_66, TT_68, TT_69, TT_70, TT_72, TT_81, bb, primP, primM, ev, evs, parts_, ofConst, bin, un, intBin, putA, enterT, Nat.reduceEqDiff, Nat.reduceAdd, Nat.reduceMul, Nat.reduceLeDiff, Nat.reduceLT, ↓reduceIte, reduceCtorEq, RunRes, resultsA, oneOf, AV.plain, AV.cells, AHeap.push, AHeap.set, AHeap.empty, fieldOf, loadA, storeA, BX.part, TK.isAgg, convA, builtinA, inertB, builtinP, buildA, fillA, splice, eqv, cellsEq, sizeT, adT, ldT, fwT, Nat.reduceBeqDiff, Nat.reduceBneDiff, Int.reduceBNe, Int.reduceBEq, Int.reduceEq, Int.reduceLT, Int.reduceLE, Int.reduceAdd, Int.reduceSub, Int.reduceMul, Int.reduceNeg, strBin, indexAddrA, elems, lenOf, chunk, List.reduceReplicate, Int.reduceToNat]
    exact hQ'
  | j + 1, i, hij, hQ => by
    intro T t0 t1 t7 t8
    rw [run_inLoop]
    have hi : i < l.length := by omega
    have h0 : ((i : Int) < ((rowsR l).length : Int)) = True := eq_true (by rw [rowsR, List.length_map]; omega)
    have hi0 : (0 : Int) ≤ (i : Int) := by omega
    have hg : (rowsR l)[i]? = some [(l[i]).1] := rows_at hi
    obtain ⟨hie, hil⟩ := hx _ (List.getElem_mem hi)
    have hb := notOrd_ok hie (by omega)
    have f0 : [(l[i]).1].all AV.flat = true := by simp [hie.flat]
    have w1 : IntKind.i64.wrap ((i : Int) + 1) = ((i + 1 : Nat) : Int) := by rw [wr64 (by omega) (by omega)]; omega
    rw [List.drop_eq_getElem_cons hi] at hQ
    unfold idxU at hQ
    cases hbb : isOrd (l[i]).2 with
    | false =>
      rw [hbb] at hQ hb
      rw [if_neg (by simp)] at hQ
      simp only [t0, t1, t7, t8, h0, hi0, hg, Int.toNat_natCast, call_pure pure32 f0 hb, run_exit_start, exit_here, exit_code, exit_inLoop, run_inBlock, n42_0, n42_1, n42_2, n42_3, n42_4, n42_5, n42_6, n42_7, n42_8, n42_9, n42_10, n42_11, n42_12, n42_13, n42_14, n42_15, n42_16, n42_17, n42_18, n42_19, n42_20, n42_21, n42_22, n42_23, n42_24, n42_25, n42_26, n42_27, o42_1, o42_4, o42_8, o42_16, o42_18, o42_21, o42_24, o42_26, res42, TT_3, TT_4, TT_5, TT_9, TT_22, TT_25, TT_26, TT_29, TT_33, TT_38, TT_40, TT_42, TT_47, TT_50, TT_57, TT_59, TT_66, TT_68, TT_69, TT_70, TT_72, TT_81, bb, primP, primM, ev, evs, parts_, ofConst, bin, un, intBin, putA, enterT, Nat.reduceEqDiff, Nat.reduceAdd, Nat.reduceMul, Nat.reduceLeDiff, Nat.reduceLT, ↓reduceIte, reduceCtorEq, RunRes, resultsA, oneOf, AV.plain, AV.cells, AHeap.push, AHeap.set, AHeap.empty, fieldOf, loadA, storeA, BX.part, TK.isAgg, convA, builtinA, inertB, builtinP, buildA, fillA, splice, eqv, cellsEq, sizeT, adT, ldT, fwT, Nat.reduceBeqDiff, Nat.reduceBneDiff, Int.reduceBNe, Int.reduceBEq, Int.reduceEq, Int.reduceLT, Int.reduceLE, Int.reduceAdd, Int.reduceSub, Int.reduceMul, Int.reduceNeg, strBin, indexAddrA, elems, lenOf, chunk, List.reduceReplicate, Int.reduceToNat]
      exact hQ
    | true =>
      rw [hbb] at hQ hb
      rw [if_pos rfl] at hQ
      simp only [t0, t1, t7, t8, h0, hi0, hg, w1, Int.toNat_natCast, call_pure pure32 f0 hb, run_exit_start, exit_here, exit_code, exit_inLoop, run_inBlock, n42_0, n42_1, n42_2, n42_3, n42_4, n42_5, n42_6, n42_7, n42_8, n42_9, n42_10, n42_11, n42_12, n42_13, n42_14, n42_15, n42_16, n42_17, n42_18, n42_19, n42_20, n42_21, n42_22, n42_23, n42_24, n42_25, n42_26, n42_27, o42_1, o42_4, o42_8, o42_16, o42_18, o42_21, o42_24, o42_26, res42, TT_3, TT_4, TT_5, TT_9, TT_22, TT_25, TT_26, TT_29, TT_33, TT_38, TT_40, TT_42, TT_47, TT_50, TT_57, TT_59, TT_66, TT_68, TT_69, TT_70, TT_72, TT_81, bb, primP, primM, ev, evs, parts_, ofConst, bin, un, intBin, putA, enterT, Nat.reduceEqDiff, Nat.reduceAdd, Nat.reduceMul, Nat.reduceLeDiff, Nat.reduceLT, ↓reduceIte, reduceCtorEq, RunRes, resultsA, oneOf, AV.plain, AV.cells, AHeap.push, AHeap.set, AHeap.empty, fieldOf, loadA, storeA, BX.part, TK.isAgg, convA, builtinA, inertB, builtinP, buildA, fillA, splice, eqv, cellsEq, sizeT, adT, ldT, fwT, Nat.reduceBeqDiff, Nat.reduceBneDiff, Int.reduceBNe, Int.reduceBEq, Int.reduceEq, Int.reduceLT, Int.reduceLE, Int.reduceAdd, Int.reduceSub, Int.reduceMul, Int.reduceNeg, strBin, indexAddrA, elems, lenOf, chunk, List.reduceReplicate, Int.reduceToNat]
      refine ui_all hl hx j (i + 1) (by omega) (by rw [show ((i + 1 : Nat) : Int) = (i : Int) + 1 by omega]; exact hQ) _ ?_ ?_ ?_ ?_
      all_goals simp only [upd_app, t0, t1, t7, Nat.reduceEqDiff, ↓reduceIte]
theorem Contains2_call {v : AV} {l : List (AV × List Pr)} (hv : v = .vec 1 (rowsR l) ∨ v = .nilS ∧ l = []) (hl : l.length ≤ 1000) (hx : ∀ x, x ∈ l → InE x.1 x.2 ∧ x.2.length ≤ 100000) (hk : RunOps Cx fn (putA T dst (.bool (decide (0 ≤ idxU l 0)))) ds ro os k H Q) :
    RunCall Cx fn T ds ro 31 [v, .fn 32 [] []] dst os k H Q := by
  refine call_body pure31 (noext _) body31 ?_
  simp only [n31_0, n31_1, n31_2, n31_3, n31_4, o31_1, o31_3, res31, TT_3, TT_4, TT_5, TT_9, TT_22, TT_25, TT_26, TT_29, TT_33, TT_38, TT_40, TT_42, TT_47, TT_50, TT_57, TT_59, TT_66, TT_68, TT_69, TT_70, TT_72, TT_81, bb, primP, primM, ev, evs, parts_, ofConst, bin, un, intBin, putA, enterT, Nat.reduceEqDiff, Nat.reduceAdd, Nat.reduceMul, Nat.reduceLeDiff, Nat.reduceLT, ↓reduceIte, reduceCtorEq, RunRes, resultsA, oneOf, AV.plain, AV.cells, AHeap.push, AHeap.set, AHeap.empty, fieldOf, loadA, storeA, BX.part, TK.isAgg, convA, builtinA, inertB, builtinP, buildA, fillA, splice, eqv, cellsEq, sizeT, adT, ldT, fwT, Nat.reduceBeqDiff, Nat.reduceBneDiff, Int.reduceBNe, Int.reduceBEq, Int.reduceEq, Int.reduceLT, Int.reduceLE, Int.reduceAdd, Int.reduceSub, Int.reduceMul, Int.reduceNeg, strBin, indexAddrA, elems, lenOf, chunk, List.reduceReplicate, Int.reduceToNat]
  refine call_body pure42 (noext _) body42 ?_
  rcases hv with rfl | ⟨rfl, rfl⟩
  · simp only [n42_0, n42_1, n42_2, n42_3, n42_4, n42_5, n42_6, n42_8, n42_9, n42_10, n42_11, n42_12, n42_13, n42_14, n42_15, n42_16, n42_17, n42_18, n42_19, n42_20, n42_21, n42_22, n42_23, n42_24, n42_26, n42_27, o42_1, o42_4, o42_8, o42_16, o42_18, o42_21, o42_24, o42_26, res42, TT_3, TT_4, TT_5, TT_9, TT_22, TT_25, TT_26, TT_29, TT_33, TT_38, TT_40, TT_42, TT_47, TT_50, TT_57, TT_59, TT_66, TT_68, TT_69, TT_70, TT_72, TT_81, bb, primP, primM, ev, evs, parts_, ofConst, bin, un, intBin, putA, enterT, Nat.reduceEqDiff, Nat.reduceAdd, Nat.reduceMul, Nat.reduceLeDiff, Nat.reduceLT, ↓reduceIte, reduceCtorEq, RunRes, resultsA, oneOf, AV.plain, AV.cells, AHeap.push, AHeap.set, AHeap.empty, fieldOf, loadA, storeA, BX.part, TK.isAgg, convA, builtinA, inertB, builtinP, buildA, fillA, splice, eqv, cellsEq, sizeT, adT, ldT, fwT, Nat.reduceBeqDiff, Nat.reduceBneDiff, Int.reduceBNe, Int.reduceBEq, Int.reduceEq, Int.reduceLT, Int.reduceLE, Int.reduceAdd, Int.reduceSub, Int.reduceMul, Int.reduceNeg, strBin, indexAddrA, elems, lenOf, chunk, List.reduceReplicate, Int.reduceToNat]
    refine ui_all hl hx l.length 0 (by omega) ?_ _ ?_ ?_ ?_ ?_
    · rw [List.drop_zero]
      simp only [n31_0, n31_1, n31_2, n31_3, n31_4, o31_1, o31_3, res31, TT_3, TT_4, TT_5, TT_9, TT_22, TT_25, TT_26, TT_29, TT_33, TT_38, TT_40, TT_42, TT_47, TT_50, TT_57, TT_59, TT_66, TT_68, TT_69, TT_70, TT_72, TT_81, bb, primP, primM, ev, evs, parts_, ofConst, bin, un, intBin, putA, enterT, Nat.reduceEqDiff, Nat.reduceAdd, Nat.reduceMul, Nat.reduceLeDiff, Nat.reduceLT, ↓reduceIte, reduceCtorEq, RunRes, resultsA, oneOf, AV.plain, AV.cells, AHeap.push, AHeap.set, AHeap.empty, fieldOf, loadA, storeA, BX.part, TK.isAgg, convA, builtinA, inertB, builtinP, buildA, fillA, splice, eqv, cellsEq, sizeT, adT, ldT, fwT, Nat.reduceBeqDiff, Nat.reduceBneDiff, Int.reduceBNe, Int.reduceBEq, Int.reduceEq, Int.reduceLT, Int.reduceLE, Int.reduceAdd, Int.reduceSub, Int.reduceMul, Int.reduceNeg, strBin, indexAddrA, elems, lenOf, chunk, List.reduceReplicate, Int.reduceToNat, Int.cast_ofNat_Int]
      exact hk
    all_goals simp only [upd_app, enterT, List.getElem?_cons_zero, List.getElem?_cons_succ, Option.getD_some, Nat.reduceEqDiff, ↓reduceIte]
    all_goals rfl
  · have hk' : RunOps Cx fn (putA T dst (.bool false)) ds ro os k H Q := hk
    have e : decide ((0 : Int) ≤ -1) = false := rfl
    simp only [e, run_exit_start, exit_here, exit_code, exit_inLoop, run_inBlock, run_inLoop, n42_0, n42_1, n42_2, n42_3, n42_4, n42_5, n42_6, n42_7, n42_8, n42_9, n42_10, n42_11, n42_12, n42_13, n42_14, n42_15, n42_16, n42_17, n42_18, n42_19, n42_20, n42_21, n42_22, n42_23, n42_24, n42_25, n42_26, n42_27, o42_1, o42_4, o42_8, o42_16, o42_18, o42_21, o42_24, o42_26, res42, n31_0, n31_1, n31_2, n31_3, n31_4, o31_1, o31_3, res31, TT_3, TT_4, TT_5, TT_9, TT_22, TT_25, TT_26, TT_29, TT_33, TT_38, TT_40, TT_42, TT_47, TT_50, TT_57, TT_59, TT_66, TT_68, TT_69, TT_70, TT_72, TT_81, bb, primP, primM, ev, evs, parts_, ofConst, bin, un, intBin, putA, enterT, Nat.reduceEqDiff, Nat.reduceAdd, Nat.reduceMul, Nat.reduceLeDiff, Nat.reduceLT, ↓reduceIte, reduceCtorEq, RunRes, resultsA, oneOf, AV.plain, AV.cells, AHeap.push, AHeap.set, AHeap.empty, fieldOf, loadA, storeA, BX.part, TK.isAgg, convA, builtinA, inertB, builtinP, buildA, fillA, splice, eqv, cellsEq, sizeT, adT, ldT, fwT, Nat.reduceBeqDiff, Nat.reduceBneDiff, Int.reduceBNe, Int.reduceBEq, Int.reduceEq, Int.reduceLT, Int.reduceLE, Int.reduceAdd, Int.reduceSub, Int.reduceMul, Int.reduceNeg, strBin, indexAddrA, elems, lenOf, chunk, List.reduceReplicate, Int.reduceToNat]
    exact hk'
end
theorem both_of {f : FuncId} {args : List AV} {body : AC} {P : AV → Prop} (hx : Cx.ext f = none) (hb : bodyOf Cx f = some body) (h : Run Cx f (enterT args) [] none [.code body] AHeap.empty (fun r0 H' => ∃ r, P r ∧ BX.freeze H' r0 = some r ∧ (if r.solid then some r else madeT H' r0) = some r)) : ∃ r, P r ∧ PCall Cx f args r ∧ PMade Cx f args r := by
  obtain ⟨n, r0, H', he, r, hP, hf, hm⟩ := h
  exact ⟨r, hP, pcall_run hx hb ⟨n, r0, H', he, hf⟩, pmade_run hx hb ⟨n, r0, H', he, r, hf, hm⟩⟩
def MI (rv : AV) (L : ALoop) (out : List Pr) (nx : Nat) (A : Nat → Blk) : Prop :=
  4 < nx ∧ out.length ≤ 200000 ∧ (∃ d, A 0 = .cells 22 1 [[d]] ∧ OwnK 5 42 6 d nx A (out.map encP)) ∧ A 1 = .cells 29 1 [[rv]] ∧ A 2 = .dfr ∧ A 3 = .loop L
def mL (T : Nat → AV) : ALoop := { state := .ready, pending := none, fn := 21, T := T, params := [10], assign := c21_17, body := c21_18, defers := 2 }
theorem MI_keep {rv : AV} {L : ALoop} {out : List Pr} {nx nx' : Nat} {A A' : Nat → Blk} (h : MI rv L out nx A) (hn : nx ≤ nx') (ho : Oth 4 nx A A') : MI rv L out nx' A' := by
  obtain ⟨h1, h2, ⟨d, h3, h4⟩, h5, h6, h7⟩ := h
  refine ⟨by omega, h2, ⟨d, by rw [ho 0 (by omega) (by omega) (.inl (by omega))]; exact h3, ?_⟩, by rw [ho 1 (by omega) (by omega) (.inl (by omega))]; exact h5, by rw [ho 2 (by omega) (by omega) (.inl (by omega))]; exact h6, by rw [ho 3 (by omega) (by omega) (.inl (by omega))]; exact h7⟩
  rcases h4 with h | ⟨g, g1, g2, g3, g4⟩
  · exact .inl h
  · exact .inr ⟨g, g1, g2, by omega, by rw [ho g g3 (by omega) (.inr (by intro es e; rw [g4] at e; cases e))]; exact g4⟩
theorem mrg_round {T : Nat → AV} {rv : AV} {m : List Pr} (hm : m.length ≤ 100000) (t4 : T 4 = .ptr 0 1 0 0) : Rnd 4 3 (mL T) (MI rv (mL T)) (fun _ _ => False) m := by
  intro out more p nx A Q hmo hb hI hQ _
  have hol : out.length < 100000 := by
    have := congrArg List.length hmo
    rw [List.length_append, List.length_cons] at this
    omega
  obtain ⟨h1, h2, ⟨d, h3, h4⟩, h5, h6, h7⟩ := hI
  have e0 : (0 = nx) = False := eq_false (by omega)
  have e3 : (3 = nx) = False := eq_false (by omega)
  have n3 : (nx = 3) = False := eq_false (by omega)
  have hpl := h4.plain
  have hcl := h4.cells
  simp only [AV.plain] at hpl
  simp only [AV.cells] at hcl
  show Run Cx 21 (foldPut T [10] [pairA p]) [] (some 3) [.code c21_17, .beginRound, .code c21_18] ⟨nx, A⟩ Q
  simp only [foldPut, upd2, n21_0, n21_1, n21_2, n21_3, n21_4, n21_5, n21_6, n21_7, n21_8, n21_9, n21_10, n21_11, n21_12, n21_13, n21_14, n21_15, n21_17, n21_19, n21_20, n21_21, n21_22, o21_1, o21_4, o21_7, o21_11, o21_14, o21_17, o21_19, o21_21, res21, TT_3, TT_4, TT_5, TT_9, TT_22, TT_25, TT_26, TT_29, TT_33, TT_38, TT_40, TT_42, TT_47, TT_50, TT_57, TT_59, TT_66, TT_68, TT_69, TT_70, TT_72, TT_81, bb, primP, primM, ev, evs, parts_, ofConst, bin, un, intBin, putA, enterT, Nat.reduceEqDiff, Nat.reduceAdd, Nat.reduceMul, Nat.reduceLeDiff, Nat.reduceLT, ↓reduceIte, reduceCtorEq, RunRes, resultsA, oneOf, AV.plain, AV.cells, AHeap.push, AHeap.set, AHeap.empty, fieldOf, loadA, storeA, BX.part, TK.isAgg, convA, builtinA, inertB, builtinP, buildA, fillA, splice, eqv, cellsEq, sizeT, adT, ldT, fwT, Nat.reduceBeqDiff, Nat.reduceBneDiff, Int.reduceBNe, Int.reduceBEq, Int.reduceEq, Int.reduceLT, Int.reduceLE, Int.reduceAdd, Int.reduceSub, Int.reduceMul, Int.reduceNeg, strBin, indexAddrA, elems, lenOf, chunk, List.reduceReplicate, Int.reduceToNat]
  rw [run_begin (L := mL T) (by simp only [upd_app, e3, ↓reduceIte]; exact h7) rfl]
  simp only [AHeap.set]
  generalize hA1 : upd (upd A nx _) 3 _ = A1
  have b0 : A1 0 = .cells 22 1 [[d]] := by rw [← hA1]; simp only [upd_app, e0, Nat.reduceEqDiff, ↓reduceIte]; exact h3
  have bx : A1 nx = .cells 42 6 [[.str p.key, .int .i64 p.k, .int .i64 p.n, .str p.s, .int .i64 p.x, .int .i64 p.y]] := by rw [← hA1]; simp only [upd_app, n3, ↓reduceIte]
  have b3 : A1 3 = .loop { mL T with state := .busy } := by rw [← hA1]; simp only [upd_app, ↓reduceIte]
  have bo : ∀ c, c < nx → c ≠ 3 → A1 c = A c := fun c hc hc3 => by rw [← hA1]; simp only [upd_app]; rw [if_neg hc3, if_neg (by omega)]
  have h4' : OwnK 5 42 6 d (nx + 1) A1 (out.map encP) := h4.keep (by omega) (fun g hg hgA => bo g hg (fun e => by subst e; rw [h7] at hgA; cases hgA))
  obtain ⟨A2, ha, hown, hkeep⟩ := h4'.app1 (row := encP p) (by omega) psl pti (by unfold most; rw [List.length_map]; omega) (by unfold most; rw [List.length_map]; omega)
  simp only [encP] at ha
  have c0 : A2 0 = A1 0 := hkeep 0 (by omega) (.inr (by omega))
  rw [b0] at c0
  simp only [t4, b0, bx, ha, c0, runVH_some, run_exit_start, exit_here, exit_code, exit_inLoop, run_inBlock, n21_0, n21_1, n21_2, n21_3, n21_4, n21_5, n21_6, n21_7, n21_8, n21_9, n21_10, n21_11, n21_12, n21_13, n21_14, n21_15, n21_17, n21_18, n21_19, n21_20, n21_21, n21_22, o21_1, o21_4, o21_7, o21_11, o21_14, o21_17, o21_19, o21_21, res21, TT_3, TT_4, TT_5, TT_9, TT_22, TT_25, TT_26, TT_29, TT_33, TT_38, TT_40, TT_42, TT_47, TT_50, TT_57, TT_59, TT_66, TT_68, TT_69, TT_70, TT_72, TT_81, bb, primP, primM, ev, evs, parts_, ofConst, bin, un, intBin, putA, enterT, Nat.reduceEqDiff, Nat.reduceAdd, Nat.reduceMul, Nat.reduceLeDiff, Nat.reduceLT, ↓reduceIte, reduceCtorEq, RunRes, resultsA, oneOf, AV.plain, AV.cells, AHeap.push, AHeap.set, AHeap.empty, fieldOf, loadA, storeA, BX.part, TK.isAgg, convA, builtinA, inertB, builtinP, buildA, fillA, splice, eqv, cellsEq, sizeT, adT, ldT, fwT, Nat.reduceBeqDiff, Nat.reduceBneDiff, Int.reduceBNe, Int.reduceBEq, Int.reduceEq, Int.reduceLT, Int.reduceLE, Int.reduceAdd, Int.reduceSub, Int.reduceMul, Int.reduceNeg, strBin, indexAddrA, elems, lenOf, chunk, List.reduceReplicate, Int.reduceToNat]
  rw [round_nil (L := { mL T with state := .busy }) (by simp only [upd_app, Nat.reduceEqDiff, ↓reduceIte]; rw [hkeep 3 (by omega) (.inr (by omega))]; exact b3)]
  have hre : ∀ c, c ≠ 0 → c ≠ 3 → (upd (upd A2 0 (.cells 22 1 [[.slc (nx + 1 + 1) 6 0 ((out.map encP).length + 1)]])) 3 (.loop (mL T))) c = A2 c := fun c h1 h2 => by rw [upd_app, if_neg h2, upd_app, if_neg h1]
  refine hQ (nx + 1 + 1 + 1) _ ⟨by omega, by simp; omega, ⟨.slc (nx + 1 + 1) 6 0 ((out.map encP).length + 1), ?_, ?_⟩, ?_, ?_, ?_⟩ (by omega) ?_
  · simp only [AHeap.set, upd_app, Nat.reduceEqDiff, ↓reduceIte]
  · have e : (out ++ [p]).map encP = out.map encP ++ [encP p] := by simp
    rw [e]
    refine hown.keep (Nat.le_refl _) (fun g hg hgA => hre g ?_ ?_)
    · rintro rfl
      rw [c0] at hgA
      cases hgA
    · rintro rfl
      rw [hkeep 3 (by omega) (.inr (by omega)), b3] at hgA
      cases hgA
  · exact (hre 1 (by omega) (by omega)).trans ((hkeep 1 (by omega) (.inr (by omega))).trans ((bo 1 (by omega) (by omega)).trans h5))
  · exact (hre 2 (by omega) (by omega)).trans ((hkeep 2 (by omega) (.inr (by omega))).trans ((bo 2 (by omega) (by omega)).trans h6))
  · simp only [AHeap.set, upd_app, ↓reduceIte]
    rfl
  · intro c hc hcc
    have h03 : c ≠ 0 ∧ c ≠ 3 := by
      rcases hcc with rfl | ⟨es, he⟩ | ⟨hc4, es, he⟩
      · exact ⟨by omega, by omega⟩
      · refine ⟨?_, ?_⟩ <;> rintro rfl
        · rw [h3] at he; cases he
        · rw [h7] at he; cases he
      · refine ⟨?_, ?_⟩ <;> rintro rfl
        · rw [h3] at he; cases he
        · rw [h7] at he; cases he
    refine (hre c h03.1 h03.2).trans ((hkeep c (by omega) ?_).trans (bo c hc h03.2))
    rcases hcc with rfl | ⟨es, he⟩ | ⟨hc4, _⟩
    · exact .inr (by omega)
    · left
      rw [bo c hc h03.2, he]
      intro e; cases e
    · exact .inr (by omega)
end Go.Proofs.Ytbfjkomlnpolmaa.G

namespace Go.Proofs.Ytbfjkomlnpolmaa.G
open Go.BX
set_option linter.unusedSimpArgs false
set_option linter.unusedVariables false
def vsO (ys : List (AV × List Pr)) (r : Nat) : AV := (ys.getD r (.nilS, [])).1
def xsO (ys : List (AV × List Pr)) (r : Nat) : List Pr := (ys.getD r (.nilS, [])).2
theorem vsO_get {ys : List (AV × List Pr)} {r : Nat} (h : r < ys.length) : vsO ys r = (ys[r]).1 ∧ xsO ys r = (ys[r]).2 := by
  unfold vsO xsO
  simp [List.getD, List.getElem?_eq_getElem h]
theorem rowsO (ys : List (AV × List Pr)) : (List.range ys.length).map (fun r => [vsO ys r]) = rowsR ys := by
  apply List.ext_getElem?
  intro i
  by_cases h : i < ys.length
  · rw [List.getElem?_map, List.getElem?_range h, rowsR, List.getElem?_map, List.getElem?_eq_getElem h]
    simp [(vsO_get h).1]
  · rw [List.getElem?_eq_none (by simpa using h), List.getElem?_eq_none (by simpa [rowsR] using h)]
theorem restO (ys : List (AV × List Pr)) : rest (xsO ys) ys.length (fun _ => 0) = ys.flatMap (·.2) := by
  unfold rest
  simp only [List.drop_zero]
  have : ys.map (·.2) = (List.range ys.length).map (xsO ys) := by
    apply List.ext_getElem?
    intro i
    by_cases h : i < ys.length
    · rw [List.getElem?_map, List.getElem?_eq_getElem h, List.getElem?_map, List.getElem?_range h]
      simp [(vsO_get h).2]
    · rw [List.getElem?_eq_none (by simpa using h), List.getElem?_eq_none (by simpa using h)]
  rw [List.flatMap_def, List.flatMap_def, this]
theorem idxU_all {ys : List (AV × List Pr)} (h : ∀ x, x ∈ ys → isOrd x.2 = true) : decide (0 ≤ idxU ys 0) = false := by
  have := (idxU_good ys 0 (by omega)).mpr h
  simp; omega
theorem madeT_rows {nx : Nat} {A : Nat → Blk} {d : AV} {m : List Pr} (h : OwnK 5 42 6 d nx A (m.map encP)) : ∃ w, InE w m ∧ BX.freeze ⟨nx, A⟩ (.tuple [d, .int .i64 0]) = some (.tuple [w, .int .i64 0]) ∧ (if (AV.tuple [w, .int .i64 0]).solid then some (AV.tuple [w, .int .i64 0]) else madeT ⟨nx, A⟩ (.tuple [d, .int .i64 0])) = some (.tuple [w, .int .i64 0]) := by
  rcases h with ⟨rfl, h0⟩ | ⟨g, rfl, _, _, hA⟩
  · have : m = [] := by simpa using h0
    subst this
    exact ⟨.nilS, .inl ⟨rfl, rfl⟩, rfl, rfl⟩
  · refine ⟨.vec 6 (m.map encP), .inr (.inr rfl), ?_, ?_⟩
    · have he : elems ⟨nx, A⟩ 6 (.slc g 6 0 (m.map encP).length) = some (m.map encP) := by
        unfold elems
        simp only [hA]
        rw [if_pos ⟨trivial, trivial, by simp⟩, List.drop_zero, List.take_of_length_le (by simp)]
      rw [freeze_tuple, mapO_cons, mapO_cons, mapO_nil, freeze2_slc, he, frzE_some, freeze_rows', freeze2_int]
      rfl
    · have he : elems ⟨nx, A⟩ 6 (.slc g 6 0 (m.map encP).length) = some (m.map encP) := by
        unfold elems
        simp only [hA]
        rw [if_pos ⟨trivial, trivial, by simp⟩, List.drop_zero, List.take_of_length_le (by simp)]
      rw [if_neg (by simp [AV.solid, AV.solid2, AV.solid1])]
      show (mapO (made1 ⟨nx, A⟩) [_, _]).map AV.tuple = _
      have h1 : made1 ⟨nx, A⟩ (.slc g 6 0 (m.map encP).length) = some (.vec 6 (m.map encP)) := by
        unfold made1
        rw [if_neg (by simp [AV.solid2, AV.solid1])]
        simp only [he]
        rw [if_pos (solid_rows m)]
      have h2 : made1 ⟨nx, A⟩ (.int .i64 0) = some (.int .i64 0) := rfl
      rw [mapO_cons, mapO_cons, mapO_nil, h1, h2]
      rfl
theorem Merge_ok {rv : AV} {ys : List (AV × List Pr)} (hv : rv = .vec 1 (rowsR ys) ∨ rv = .nilS ∧ ys = []) (hy : ∀ x, x ∈ ys → InE x.1 x.2 ∧ x.2.length ≤ 10000) (hs : ∀ x, x ∈ ys → isOrd x.2 = true) (few : ys.length ≤ 1000) (tot : (ys.flatMap (·.2)).length ≤ 100000) :
    ∃ m w, IsSort (ys.flatMap (·.2)) m ∧ InE w m ∧ PCall Cx 21 [rv] (.tuple [w, .int .i64 0]) ∧ PMade Cx 21 [rv] (.tuple [w, .int .i64 0]) := by
  obtain ⟨m, _, hm, _, _⟩ := RefSort_ok (l := ys.flatMap (·.2)) (.inr (.inr rfl)) tot
  have hrun : ∃ r, (∃ w, InE w m ∧ r = .tuple [w, .int .i64 0]) ∧ PCall Cx 21 [rv] r ∧ PMade Cx 21 [rv] r := by
    refine both_of (noext _) body21 ?_
    have hpl : rv.plain = true := by rcases hv with rfl | ⟨rfl, _⟩ <;> rfl
    have hcl : rv.cells = [rv] := by rcases hv with rfl | ⟨rfl, _⟩ <;> rfl
    simp only [AV.plain] at hpl
    simp only [AV.cells] at hcl
    simp only [n21_0, n21_1, n21_2, n21_3, n21_6, n21_7, n21_8, n21_9, n21_11, n21_12, n21_13, n21_14, n21_15, n21_17, n21_18, n21_19, n21_20, n21_21, n21_22, o21_1, o21_4, o21_7, o21_11, o21_14, o21_17, o21_19, o21_21, res21, TT_3, TT_4, TT_5, TT_9, TT_22, TT_25, TT_26, TT_29, TT_33, TT_38, TT_40, TT_42, TT_47, TT_50, TT_57, TT_59, TT_66, TT_68, TT_69, TT_70, TT_72, TT_81, bb, primP, primM, ev, evs, parts_, ofConst, bin, un, intBin, putA, enterT, Nat.reduceEqDiff, Nat.reduceAdd, Nat.reduceMul, Nat.reduceLeDiff, Nat.reduceLT, ↓reduceIte, reduceCtorEq, RunRes, resultsA, oneOf, AV.plain, AV.cells, AHeap.push, AHeap.set, AHeap.empty, fieldOf, loadA, storeA, BX.part, TK.isAgg, convA, builtinA, inertB, builtinP, buildA, fillA, splice, eqv, cellsEq, sizeT, adT, ldT, fwT, Nat.reduceBeqDiff, Nat.reduceBneDiff, Int.reduceBNe, Int.reduceBEq, Int.reduceEq, Int.reduceLT, Int.reduceLE, Int.reduceAdd, Int.reduceSub, Int.reduceMul, Int.reduceNeg, strBin, indexAddrA, elems, lenOf, chunk, List.reduceReplicate, Int.reduceToNat]
    simp only [n21_4, o21_4, TT_3, TT_4, TT_5, TT_9, TT_22, TT_25, TT_26, TT_29, TT_33, TT_38, TT_40, TT_42, TT_47, TT_50, TT_57, TT_59, TT_66, TT_68, TT_69, TT_70, TT_72, TT_81, bb, primP, primM, ev, evs, parts_, ofConst, bin, un, intBin, putA, enterT, Nat.reduceEqDiff, Nat.reduceAdd, Nat.reduceMul, Nat.reduceLeDiff, Nat.reduceLT, ↓reduceIte, reduceCtorEq, RunRes, resultsA, oneOf, AV.plain, AV.cells, AHeap.push, AHeap.set, AHeap.empty, fieldOf, loadA, storeA, BX.part, TK.isAgg, convA, builtinA, inertB, builtinP, buildA, fillA, splice, eqv, cellsEq, sizeT, adT, ldT, fwT, Nat.reduceBeqDiff, Nat.reduceBneDiff, Int.reduceBNe, Int.reduceBEq, Int.reduceEq, Int.reduceLT, Int.reduceLE, Int.reduceAdd, Int.reduceSub, Int.reduceMul, Int.reduceNeg, strBin, indexAddrA, elems, lenOf, chunk, List.reduceReplicate, Int.reduceToNat]
    refine Contains2_call hv few (fun x hx => ⟨(hy x hx).1, by have := (hy x hx).2; omega⟩) ?_
    rw [idxU_all hs]
    simp only [n21_0, n21_1, n21_2, n21_3, n21_4, n21_5, n21_6, n21_7, n21_8, n21_9, n21_10, n21_11, n21_12, n21_13, n21_14, n21_15, n21_17, n21_18, n21_19, n21_21, n21_22, o21_1, o21_4, o21_7, o21_11, o21_14, o21_17, o21_19, o21_21, res21, TT_3, TT_4, TT_5, TT_9, TT_22, TT_25, TT_26, TT_29, TT_33, TT_38, TT_40, TT_42, TT_47, TT_50, TT_57, TT_59, TT_66, TT_68, TT_69, TT_70, TT_72, TT_81, bb, primP, primM, ev, evs, parts_, ofConst, bin, un, intBin, putA, enterT, Nat.reduceEqDiff, Nat.reduceAdd, Nat.reduceMul, Nat.reduceLeDiff, Nat.reduceLT, ↓reduceIte, reduceCtorEq, RunRes, resultsA, oneOf, AV.plain, AV.cells, AHeap.push, AHeap.set, AHeap.empty, fieldOf, loadA, storeA, BX.part, TK.isAgg, convA, builtinA, inertB, builtinP, buildA, fillA, splice, eqv, cellsEq, sizeT, adT, ldT, fwT, Nat.reduceBeqDiff, Nat.reduceBneDiff, Int.reduceBNe, Int.reduceBEq, Int.reduceEq, Int.reduceLT, Int.reduceLE, Int.reduceAdd, Int.reduceSub, Int.reduceMul, Int.reduceNeg, strBin, indexAddrA, elems, lenOf, chunk, List.reduceReplicate, Int.reduceToNat]
    refine call_body pure30 (noext _) body30 ?_
    simp only [hpl, hcl, n21_0, n21_1, n21_2, n21_3, n21_4, n21_5, n21_6, n21_7, n21_8, n21_9, n21_10, n21_11, n21_12, n21_13, n21_14, n21_15, n21_17, n21_18, n21_19, n21_21, n21_22, o21_1, o21_4, o21_7, o21_11, o21_14, o21_17, o21_19, o21_21, res21, n30_0, n30_1, n30_2, n30_3, n30_4, o30_1, o30_3, res30, TT_3, TT_4, TT_5, TT_9, TT_22, TT_25, TT_26, TT_29, TT_33, TT_38, TT_40, TT_42, TT_47, TT_50, TT_57, TT_59, TT_66, TT_68, TT_69, TT_70, TT_72, TT_81, bb, primP, primM, ev, evs, parts_, ofConst, bin, un, intBin, putA, enterT, Nat.reduceEqDiff, Nat.reduceAdd, Nat.reduceMul, Nat.reduceLeDiff, Nat.reduceLT, ↓reduceIte, reduceCtorEq, RunRes, resultsA, oneOf, AV.plain, AV.cells, AHeap.push, AHeap.set, AHeap.empty, fieldOf, loadA, storeA, BX.part, TK.isAgg, convA, builtinA, inertB, builtinP, buildA, fillA, splice, eqv, cellsEq, sizeT, adT, ldT, fwT, Nat.reduceBeqDiff, Nat.reduceBneDiff, Int.reduceBNe, Int.reduceBEq, Int.reduceEq, Int.reduceLT, Int.reduceLE, Int.reduceAdd, Int.reduceSub, Int.reduceMul, Int.reduceNeg, strBin, indexAddrA, elems, lenOf, chunk, List.reduceReplicate, Int.reduceToNat]
    unfold c21_16
    refine run_rangeFunc (g := 38) rfl pure38 (noext _) body38 ?_
    generalize hT : upd (upd _ 8 _) 9 _ = T
    have t4 : T 4 = .ptr 0 1 0 0 := by
      rw [← hT]; simp only [upd_app, Nat.reduceEqDiff, ↓reduceIte]
    refine merged_run (nx := 4) (b1 := 1) (l := 3) (L := mL T) (I := MI rv (mL T)) (Stp := fun _ _ => False) (m := m) (rv := rv) (R := ys.length) (vs := vsO ys) (xs := xsO ys) ⟨?_, ?_, ?_, ?_, few, by rw [restO]; exact tot⟩ ?_ (by omega) rfl (fun _ _ _ h => h.2.2.2.2.2) (fun _ _ _ _ _ h1 _ h3 h4 => MI_keep h1 h3 h4) (mrg_round (by rw [hm.len]; exact tot) t4) ?_ (fun _ _ h => h.elim) (by rw [restO]; exact hm) ?_
    · rcases hv with rfl | ⟨rfl, rfl⟩
      · exact .inr (.inl (by rw [rowsO]))
      · exact .inl ⟨rfl, rfl⟩
    · intro r hr
      rw [(vsO_get hr).1, (vsO_get hr).2]
      exact .inl (hy _ (List.getElem_mem hr)).1
    · intro r hr
      rw [(vsO_get hr).2]
      have := hs _ (List.getElem_mem hr)
      unfold isOrd at this
      simpa using this
    · intro r hr
      rw [(vsO_get hr).2]
      exact (hy _ (List.getElem_mem hr)).2
    · rfl
    · intro nx A hI
      obtain ⟨h1, h2, ⟨d, h3, h4⟩, h5, h6, h7⟩ := hI
      refine ⟨mL T, h7, by simp [mL], rfl, ?_⟩
      simp only [mL, Option.map_none, Option.toList_none, List.nil_append, t4, h3, run_inBlock, n21_0, n21_1, n21_2, n21_3, n21_4, n21_5, n21_6, n21_7, n21_8, n21_9, n21_10, n21_11, n21_12, n21_13, n21_14, n21_15, n21_17, n21_18, n21_19, n21_20, n21_21, o21_1, o21_4, o21_7, o21_11, o21_14, o21_17, o21_19, o21_21, res21, TT_3, TT_4, TT_5, TT_9, TT_22, TT_25, TT_26, TT_29, TT_33, TT_38, TT_40, TT_42, TT_47, TT_50, TT_57, TT_59, TT_66, TT_68, TT_69, TT_70, TT_72, TT_81, bb, primP, primM, ev, evs, parts_, ofConst, bin, un, intBin, putA, enterT, Nat.reduceEqDiff, Nat.reduceAdd, Nat.reduceMul, Nat.reduceLeDiff, Nat.reduceLT, ↓reduceIte, reduceCtorEq, RunRes, resultsA, oneOf, AV.plain, AV.cells, AHeap.push, AHeap.set, AHeap.empty, fieldOf, loadA, storeA, BX.part, TK.isAgg, convA, builtinA, inertB, builtinP, buildA, fillA, splice, eqv, cellsEq, sizeT, adT, ldT, fwT, Nat.reduceBeqDiff, Nat.reduceBneDiff, Int.reduceBNe, Int.reduceBEq, Int.reduceEq, Int.reduceLT, Int.reduceLE, Int.reduceAdd, Int.reduceSub, Int.reduceMul, Int.reduceNeg, strBin, indexAddrA, elems, lenOf, chunk, List.reduceReplicate, Int.reduceToNat]
      unfold c21_22
      refine ret_col (by simp only [upd_app, Nat.reduceEqDiff, ↓reduceIte]; exact h6) ?_
      simp only [res21, TT_3, TT_4, TT_5, TT_9, TT_22, TT_25, TT_26, TT_29, TT_33, TT_38, TT_40, TT_42, TT_47, TT_50, TT_57, TT_59, TT_66, TT_68, TT_69, TT_70, TT_72, TT_81, bb, primP, primM, ev, evs, parts_, ofConst, bin, un, intBin, putA, enterT, Nat.reduceEqDiff, Nat.reduceAdd, Nat.reduceMul, Nat.reduceLeDiff, Nat.reduceLT, ↓reduceIte, reduceCtorEq, RunRes, resultsA, oneOf, AV.plain, AV.cells, AHeap.push, AHeap.set, AHeap.empty, fieldOf, loadA, storeA, BX.part, TK.isAgg, convA, builtinA, inertB, builtinP, buildA, fillA, splice, eqv, cellsEq, sizeT, adT, ldT, fwT, Nat.reduceBeqDiff, Nat.reduceBneDiff, Int.reduceBNe, Int.reduceBEq, Int.reduceEq, Int.reduceLT, Int.reduceLE, Int.reduceAdd, Int.reduceSub, Int.reduceMul, Int.reduceNeg, strBin, indexAddrA, elems, lenOf, chunk, List.reduceReplicate, Int.reduceToNat]
      have hkeep : OwnK 5 42 6 d nx (upd (upd A 3 (.loop { state := .exhausted, pending := none, fn := 21, T := T, params := [10], assign := c21_17, body := c21_18, defers := 2 })) 2 .dead) (m.map encP) := by
        refine h4.keep (Nat.le_refl _) (fun g hg hgA => ?_)
        rw [upd_app, if_neg ?_, upd_app, if_neg ?_]
        · rintro rfl
          rw [h7] at hgA; cases hgA
        · rintro rfl
          rw [h6] at hgA; cases hgA
      obtain ⟨w, hw, hf, hmd⟩ := madeT_rows hkeep
      exact ⟨_, ⟨w, hw, rfl⟩, hf, hmd⟩
    · intro A' hA'
      refine ⟨by omega, by simp, ⟨.nilS, ?_, .inl ⟨rfl, rfl⟩⟩, ?_, ?_, ?_⟩
      · rw [hA' 0 (by omega)]; rfl
      · rw [hA' 1 (by omega)]; rfl
      · rw [hA' 2 (by omega)]; rfl
      · rw [hA' 3 (by omega)]; rfl
  obtain ⟨r, ⟨w, hw, rfl⟩, h1, h2⟩ := hrun
  exact ⟨m, w, hm, hw, h1, h2⟩
end Go.Proofs.Ytbfjkomlnpolmaa.G

namespace Go.Proofs.Ytbfjkomlnpolmaa.G
open Go.BX
set_option linter.unusedSimpArgs false
set_option linter.unusedVariables false
theorem cut_all (P : List Pr) (room : Nat) : ∀ k, (List.range k).flatMap (piece P room) = P.take (k * room)
  | 0 => by simp
  | k + 1 => by
    rw [List.range_succ, List.flatMap_append, cut_all P room k, Nat.succ_mul, List.take_add]
    simp [piece]
theorem flat_len {f g : Nat → List Pr} {l : List Nat} (h : ∀ r, r ∈ l → (f r).length = (g r).length) : (l.flatMap f).length = (l.flatMap g).length := by
  induction l with
  | nil => rfl
  | cons x l ih => rw [List.flatMap_cons, List.flatMap_cons, List.length_append, List.length_append, h x (by simp), ih (fun r hr => h r (by simp [hr]))]
theorem Pcs.all {room : Nat} {P : List Pr} {ys : List (AV × List Pr)} (h : Pcs room P (ys.map (·.2))) : (∀ κ, ofKey κ (ys.flatMap (·.2)) = ofKey κ P) ∧ (ys.flatMap (·.2)).length = P.length := by
  have hf := h.full
  rw [List.length_map] at hf
  have hp : (List.range ys.length).flatMap (piece P room) = P := by
    rw [cut_all, List.take_of_length_le hf]
  have hs : ∀ r, r ∈ List.range ys.length → IsSort (piece P room r) (xsO ys r) := by
    intro r hr
    have hr' := List.mem_range.mp hr
    have := h.srt r (by rw [List.length_map]; exact hr')
    rw [List.getElem_map] at this
    rw [(vsO_get hr').2]
    exact this
  rw [← restO]
  unfold rest
  simp only [List.drop_zero]
  constructor
  · intro κ
    conv => rhs; rw [← hp]
    rw [ofKey_flat, ofKey_flat]
    exact flat_congr fun r hr => (hs r hr).keys κ
  · conv => rhs; rw [← hp]
    exact flat_len fun r hr => (hs r hr).len
theorem Pcs.sort {room : Nat} {P m : List Pr} {ys : List (AV × List Pr)} (h : Pcs room P (ys.map (·.2))) (hm : IsSort (ys.flatMap (·.2)) m) : IsSort P m :=
  ⟨fun κ => (hm.keys κ).trans (h.all.1 κ), hm.ord, hm.len.trans h.all.2⟩
theorem frz_runs {n : Nat} {A : Nat → Blk} : ∀ {xs : List (AV × List Pr)}, (∀ x, x ∈ xs → RV n A x.1 x.2) → ∃ ys : List (AV × List Pr), mapO (mapO (BX.freeze1 ⟨n, A⟩ 3)) (rowsR xs) = some (rowsR ys) ∧ ys.map (·.2) = xs.map (·.2) ∧ ∀ y, y ∈ ys → InE y.1 y.2
  | [], _ => ⟨[], rfl, rfl, fun y hy => by cases hy⟩
  | x :: xs, h => by
    obtain ⟨ys, h1, h2, h3⟩ := frz_runs (fun y hy => h y (List.mem_cons_of_mem _ hy))
    obtain ⟨w, hw, hf⟩ := (h x (by simp)).freeze1 2
    refine ⟨(w, x.2) :: ys, ?_, by simp [h2], ?_⟩
    · show mapO (mapO (BX.freeze1 ⟨n, A⟩ 3)) ([x.1] :: rowsR xs) = some ([w] :: rowsR ys)
      rw [mapO_cons, h1, mapO_cons, mapO_nil, hf]
      rfl
    · intro y hy
      rcases List.mem_cons.mp hy with rfl | hy
      · exact hw
      · exact h3 y hy
section
variable {fn : FuncId} {T : Nat → AV} {ds : List ADef} {ro : Option Nat} {k : List AItem} {Q : AV → AHeap → Prop} {dst : Option Nat} {os : List AO}
theorem Merge_call {h0 n : Nat} {A : Nat → Blk} {r : AV} {xs : List (AV × List Pr)} (hr : OwnK h0 22 1 r n A (rowsR xs)) (hx : ∀ x, x ∈ xs → RV n A x.1 x.2) (hl : ∀ x, x ∈ xs → x.2.length ≤ 10000) (hs : ∀ x, x ∈ xs → isOrd x.2 = true) (few : xs.length ≤ 1000) (tot : (xs.flatMap (·.2)).length ≤ 100000)
    (hk : ∀ m w, IsSort (xs.flatMap (·.2)) m → InE w m → RunOps Cx fn (putA T dst (.tuple [w, .int .i64 0])) ds ro os k ⟨n, A⟩ Q) :
    RunCall Cx fn T ds ro 21 [r] dst os k ⟨n, A⟩ Q := by
  obtain ⟨ys, h1, h2, h3⟩ := frz_runs hx
  have hfm : ys.flatMap (·.2) = xs.flatMap (·.2) := by rw [List.flatMap_def, List.flatMap_def, h2]
  have hyl : ys.length = xs.length := by
    have := congrArg List.length h2
    rwa [List.length_map, List.length_map] at this
  have hmem : ∀ y, y ∈ ys → ∃ x, x ∈ xs ∧ x.2 = y.2 := by
    intro y hy
    have : y.2 ∈ ys.map (·.2) := List.mem_map.mpr ⟨y, hy, rfl⟩
    rw [h2] at this
    obtain ⟨x, hx, e⟩ := List.mem_map.mp this
    exact ⟨x, hx, e⟩
  rcases hr with ⟨rfl, hr⟩ | ⟨g, rfl, _, _, hA⟩
  · have hxs : xs = [] := by simpa [rowsR] using hr
    subst hxs
    obtain ⟨m, w, hm, hw, hp, _⟩ := Merge_ok (rv := .nilS) (ys := []) (.inr ⟨rfl, rfl⟩) (fun x hx => by cases hx) (fun x hx => by cases hx) (by simp) (by simp)
    rw [call_pure pure21 rfl hp]
    exact hk m w hm hw
  · obtain ⟨m, w, hm, hw, _, hp⟩ := Merge_ok (rv := .vec 1 (rowsR ys)) (ys := ys) (.inl rfl) (fun y hy => by obtain ⟨x, hx, e⟩ := hmem y hy; exact ⟨h3 y hy, by rw [← e]; exact hl x hx⟩) (fun y hy => by obtain ⟨x, hx, e⟩ := hmem y hy; rw [← e]; exact hs x hx) (by omega) (by rw [hfm]; exact tot)
    have he : elems ⟨n, A⟩ 1 (.slc g 1 0 (rowsR xs).length) = some (rowsR xs) := by
      unfold elems
      simp only [hA]
      rw [if_pos ⟨trivial, trivial, by simp⟩, List.drop_zero, List.take_of_length_le (Nat.le_refl _)]
    have hz : mapO (BX.freeze ⟨n, A⟩) [.slc g 1 0 (rowsR xs).length] = some [.vec 1 (rowsR ys)] := by
      rw [mapO_cons, mapO_nil, freeze_slc, he, frzE_some, h1]
      rfl
    rw [call_made pure21 rfl hz hp]
    exact hk m w (by rw [← hfm]; exact hm) hw
end
theorem SorterRoom_ok {v : AV} {l : List Pr} {a b : Int} (hv : InL v l) (hl : l.length ≤ maxLen) (ha0 : 0 ≤ a) (ha1 : a ≤ 255) (hb0 : 0 ≤ b) (hb1 : b ≤ 255) : PCall Cx 6 [v, .int .u8 a, .int .u8 b] (.bool true) := by
  refine pcall_run (noext _) body6 ?_
  obtain ⟨s, hs, hsm⟩ := Small_ok hv hl
  have f0 : [v].all AV.flat = true := by simp [hv.e.flat]
  rcases hs with rfl | ⟨rfl, hl100⟩
  · simp only [call_pure pure_awake12 rfl awake12_ok, call_pure pure8 f0 hsm, n6_0, n6_1, n6_2, n6_3, n6_4, n6_5, n6_6, n6_7, n6_8, n6_9, n6_10, n6_11, n6_12, n6_13, n6_14, n6_15, n6_16, n6_17, n6_18, n6_19, n6_20, n6_21, n6_22, n6_23, n6_24, n6_25, n6_26, n6_27, n6_28, o6_1, o6_4, o6_7, o6_11, o6_13, o6_16, o6_19, o6_23, o6_25, o6_27, res6, TT_3, TT_4, TT_5, TT_9, TT_22, TT_25, TT_26, TT_29, TT_33, TT_38, TT_40, TT_42, TT_47, TT_50, TT_57, TT_59, TT_66, TT_68, TT_69, TT_70, TT_72, TT_81, bb, primP, primM, ev, evs, parts_, ofConst, bin, un, intBin, putA, enterT, Nat.reduceEqDiff, Nat.reduceAdd, Nat.reduceMul, Nat.reduceLeDiff, Nat.reduceLT, ↓reduceIte, reduceCtorEq, RunRes, resultsA, oneOf, AV.plain, AV.cells, AHeap.push, AHeap.set, AHeap.empty, fieldOf, loadA, storeA, BX.part, TK.isAgg, convA, builtinA, inertB, builtinP, buildA, fillA, splice, eqv, cellsEq, sizeT, adT, ldT, fwT, Nat.reduceBeqDiff, Nat.reduceBneDiff, Int.reduceBNe, Int.reduceBEq, Int.reduceEq, Int.reduceLT, Int.reduceLE, Int.reduceAdd, Int.reduceSub, Int.reduceMul, Int.reduceNeg, strBin, indexAddrA, elems, lenOf, chunk, List.reduceReplicate, Int.reduceToNat]
  · have hR := pRight_ok hv (show l.length ≤ 100000 by omega)
    cases hrl : rightL l with
    | false =>
      rw [hrl] at hR
      simp only [call_pure pure_awake12 rfl awake12_ok, call_pure pure8 f0 hsm, call_pure pure9 f0 hR, n6_0, n6_1, n6_2, n6_3, n6_4, n6_5, n6_6, n6_7, n6_8, n6_9, n6_10, n6_11, n6_12, n6_13, n6_14, n6_15, n6_16, n6_17, n6_18, n6_19, n6_20, n6_21, n6_22, n6_23, n6_24, n6_25, n6_26, n6_27, n6_28, o6_1, o6_4, o6_7, o6_11, o6_13, o6_16, o6_19, o6_23, o6_25, o6_27, res6, TT_3, TT_4, TT_5, TT_9, TT_22, TT_25, TT_26, TT_29, TT_33, TT_38, TT_40, TT_42, TT_47, TT_50, TT_57, TT_59, TT_66, TT_68, TT_69, TT_70, TT_72, TT_81, bb, primP, primM, ev, evs, parts_, ofConst, bin, un, intBin, putA, enterT, Nat.reduceEqDiff, Nat.reduceAdd, Nat.reduceMul, Nat.reduceLeDiff, Nat.reduceLT, ↓reduceIte, reduceCtorEq, RunRes, resultsA, oneOf, AV.plain, AV.cells, AHeap.push, AHeap.set, AHeap.empty, fieldOf, loadA, storeA, BX.part, TK.isAgg, convA, builtinA, inertB, builtinP, buildA, fillA, splice, eqv, cellsEq, sizeT, adT, ldT, fwT, Nat.reduceBeqDiff, Nat.reduceBneDiff, Int.reduceBNe, Int.reduceBEq, Int.reduceEq, Int.reduceLT, Int.reduceLE, Int.reduceAdd, Int.reduceSub, Int.reduceMul, Int.reduceNeg, strBin, indexAddrA, elems, lenOf, chunk, List.reduceReplicate, Int.reduceToNat]
    | true =>
      rw [hrl] at hR
      have hbad := (rightL_iff l).mp hrl
      obtain ⟨ra, hra⟩ : ∃ r : Nat, (r : Int) = 1 + a := ⟨(1 + a).toNat, by omega⟩
      obtain ⟨rb, hrb⟩ : ∃ r : Nat, (r : Int) = 1 + b := ⟨(1 + b).toNat, by omega⟩
      have w1 : IntKind.i64.wrap (1 + IntKind.i64.wrap a) = (ra : Int) := by rw [wr64 (n := a) (by omega) (by omega), wr64 (by omega) (by omega)]; omega
      have w2 : IntKind.i64.wrap (1 + IntKind.i64.wrap b) = (rb : Int) := by rw [wr64 (n := b) (by omega) (by omega), wr64 (by omega) (by omega)]; omega
      obtain ⟨m0, w0, hs0, hw0, hp0, _⟩ := Sort_ok hv.e (show l.length ≤ 1000000 by omega)
      have hlv := hv.e.len
      simp only [lenOf] at hlv
      simp only [w1, call_pure pure_awake12 rfl awake12_ok, call_pure pure8 f0 hsm, call_pure pure9 f0 hR, n6_0, n6_1, n6_2, n6_3, n6_4, n6_5, n6_6, n6_7, n6_8, n6_9, n6_10, n6_11, n6_13, n6_14, n6_15, n6_16, n6_17, n6_18, n6_19, n6_20, n6_21, n6_22, n6_23, n6_24, n6_25, n6_26, n6_27, n6_28, o6_1, o6_4, o6_7, o6_11, o6_13, o6_16, o6_19, o6_23, o6_25, o6_27, res6, TT_3, TT_4, TT_5, TT_9, TT_22, TT_25, TT_26, TT_29, TT_33, TT_38, TT_40, TT_42, TT_47, TT_50, TT_57, TT_59, TT_66, TT_68, TT_69, TT_70, TT_72, TT_81, bb, primP, primM, ev, evs, parts_, ofConst, bin, un, intBin, putA, enterT, Nat.reduceEqDiff, Nat.reduceAdd, Nat.reduceMul, Nat.reduceLeDiff, Nat.reduceLT, ↓reduceIte, reduceCtorEq, RunRes, resultsA, oneOf, AV.plain, AV.cells, AHeap.push, AHeap.set, AHeap.empty, fieldOf, loadA, storeA, BX.part, TK.isAgg, convA, builtinA, inertB, builtinP, buildA, fillA, splice, eqv, cellsEq, sizeT, adT, ldT, fwT, Nat.reduceBeqDiff, Nat.reduceBneDiff, Int.reduceBNe, Int.reduceBEq, Int.reduceEq, Int.reduceLT, Int.reduceLE, Int.reduceAdd, Int.reduceSub, Int.reduceMul, Int.reduceNeg, strBin, indexAddrA, elems, lenOf, chunk, List.reduceReplicate, Int.reduceToNat]
      refine filled_call hv.e (by omega) (show 1 ≤ ra by omega) (by omega) hbad ?_
      intro n1 A1 now1 rs1 hS1 hC1 hk1 hn1
      simp only [w2, n6_0, n6_1, n6_2, n6_3, n6_4, n6_5, n6_6, n6_7, n6_8, n6_9, n6_10, n6_11, n6_12, n6_13, n6_15, n6_16, n6_17, n6_18, n6_19, n6_20, n6_21, n6_22, n6_23, n6_24, n6_25, n6_26, n6_27, n6_28, o6_1, o6_4, o6_7, o6_11, o6_13, o6_16, o6_19, o6_23, o6_25, o6_27, res6, TT_3, TT_4, TT_5, TT_9, TT_22, TT_25, TT_26, TT_29, TT_33, TT_38, TT_40, TT_42, TT_47, TT_50, TT_57, TT_59, TT_66, TT_68, TT_69, TT_70, TT_72, TT_81, bb, primP, primM, ev, evs, parts_, ofConst, bin, un, intBin, putA, enterT, Nat.reduceEqDiff, Nat.reduceAdd, Nat.reduceMul, Nat.reduceLeDiff, Nat.reduceLT, ↓reduceIte, reduceCtorEq, RunRes, resultsA, oneOf, AV.plain, AV.cells, AHeap.push, AHeap.set, AHeap.empty, fieldOf, loadA, storeA, BX.part, TK.isAgg, convA, builtinA, inertB, builtinP, buildA, fillA, splice, eqv, cellsEq, sizeT, adT, ldT, fwT, Nat.reduceBeqDiff, Nat.reduceBneDiff, Int.reduceBNe, Int.reduceBEq, Int.reduceEq, Int.reduceLT, Int.reduceLE, Int.reduceAdd, Int.reduceSub, Int.reduceMul, Int.reduceNeg, strBin, indexAddrA, elems, lenOf, chunk, List.reduceReplicate, Int.reduceToNat]
      refine filled_call hv.e (by omega) (show 1 ≤ rb by omega) (by omega) hbad ?_
      intro n2 A2 now2 rs2 hS2 hC2 hk2 hn2
      have hS1' := hS1.keep hn2 (fun g _ hg => hk2 g hg)
      have e1 : ((l.length : Int) != (l.length : Int)) = false := by simp
      simp only [hlv, n6_0, n6_1, n6_2, n6_3, n6_4, n6_5, n6_6, n6_7, n6_8, n6_9, n6_10, n6_11, n6_12, n6_13, n6_14, n6_15, n6_16, n6_17, n6_18, n6_19, n6_20, n6_21, n6_23, n6_24, n6_25, n6_26, n6_27, n6_28, o6_1, o6_4, o6_7, o6_11, o6_13, o6_16, o6_19, o6_23, o6_25, o6_27, res6, TT_3, TT_4, TT_5, TT_9, TT_22, TT_25, TT_26, TT_29, TT_33, TT_38, TT_40, TT_42, TT_47, TT_50, TT_57, TT_59, TT_66, TT_68, TT_69, TT_70, TT_72, TT_81, bb, primP, primM, ev, evs, parts_, ofConst, bin, un, intBin, putA, enterT, Nat.reduceEqDiff, Nat.reduceAdd, Nat.reduceMul, Nat.reduceLeDiff, Nat.reduceLT, ↓reduceIte, reduceCtorEq, RunRes, resultsA, oneOf, AV.plain, AV.cells, AHeap.push, AHeap.set, AHeap.empty, fieldOf, loadA, storeA, BX.part, TK.isAgg, convA, builtinA, inertB, builtinP, buildA, fillA, splice, eqv, cellsEq, sizeT, adT, ldT, fwT, Nat.reduceBeqDiff, Nat.reduceBneDiff, Int.reduceBNe, Int.reduceBEq, Int.reduceEq, Int.reduceLT, Int.reduceLE, Int.reduceAdd, Int.reduceSub, Int.reduceMul, Int.reduceNeg, strBin, indexAddrA, elems, lenOf, chunk, List.reduceReplicate, Int.reduceToNat]
      refine Count_call hS1' ?_
      simp only [hlv, e1, lenOf, i64, n6_0, n6_1, n6_2, n6_3, n6_4, n6_5, n6_6, n6_7, n6_8, n6_9, n6_10, n6_11, n6_12, n6_13, n6_14, n6_15, n6_16, n6_17, n6_18, n6_19, n6_20, n6_21, n6_22, n6_23, n6_25, n6_26, n6_27, n6_28, o6_1, o6_4, o6_7, o6_11, o6_13, o6_16, o6_19, o6_23, o6_25, o6_27, res6, TT_3, TT_4, TT_5, TT_9, TT_22, TT_25, TT_26, TT_29, TT_33, TT_38, TT_40, TT_42, TT_47, TT_50, TT_57, TT_59, TT_66, TT_68, TT_69, TT_70, TT_72, TT_81, bb, primP, primM, ev, evs, parts_, ofConst, bin, un, intBin, putA, enterT, Nat.reduceEqDiff, Nat.reduceAdd, Nat.reduceMul, Nat.reduceLeDiff, Nat.reduceLT, ↓reduceIte, reduceCtorEq, RunRes, resultsA, oneOf, AV.plain, AV.cells, AHeap.push, AHeap.set, AHeap.empty, fieldOf, loadA, storeA, BX.part, TK.isAgg, convA, builtinA, inertB, builtinP, buildA, fillA, splice, eqv, cellsEq, sizeT, adT, ldT, fwT, Nat.reduceBeqDiff, Nat.reduceBneDiff, Int.reduceBNe, Int.reduceBEq, Int.reduceEq, Int.reduceLT, Int.reduceLE, Int.reduceAdd, Int.reduceSub, Int.reduceMul, Int.reduceNeg, strBin, indexAddrA, elems, lenOf, chunk, List.reduceReplicate, Int.reduceToNat]
      refine Runs_call hS1' hC1 (by omega) (by omega) ?_
      intro r3 n3 A3 xs3 hown3 hxs3 hP3 hn3 hk3
      have ord : ∀ {room : Nat} {xs : List (AV × List Pr)}, Pcs room l (xs.map (·.2)) → (∀ x, x ∈ xs → x.2.length ≤ 10000 ∧ isOrd x.2 = true) := by
        intro room xs hP x hx
        obtain ⟨i, hi, rfl⟩ := List.getElem_of_mem hx
        have h1 := hP.srt i (by rw [List.length_map]; exact hi)
        rw [List.getElem_map] at h1
        have h2 := h1.len
        unfold piece at h2
        rw [List.length_take, List.length_drop] at h2
        refine ⟨by omega, ?_⟩
        unfold isOrd
        simpa using h1.ord
      have few : ∀ {room : Nat} {xs : List (AV × List Pr)}, 1 ≤ room → Pcs room l (xs.map (·.2)) → xs.length ≤ 1000 := by
        intro room xs hr hP
        rcases hP.lst with h | h
        · rw [List.length_map] at h; omega
        · rw [List.length_map] at h
          have : (xs.length - 1) * 1 ≤ (xs.length - 1) * room := Nat.mul_le_mul_left _ hr
          omega
      simp only [n6_0, n6_1, n6_2, n6_3, n6_4, n6_5, n6_6, n6_7, n6_8, n6_9, n6_10, n6_11, n6_12, n6_13, n6_14, n6_15, n6_16, n6_17, n6_18, n6_19, n6_20, n6_21, n6_22, n6_23, n6_25, n6_26, n6_27, n6_28, o6_1, o6_4, o6_7, o6_11, o6_13, o6_16, o6_19, o6_23, o6_25, o6_27, res6, TT_3, TT_4, TT_5, TT_9, TT_22, TT_25, TT_26, TT_29, TT_33, TT_38, TT_40, TT_42, TT_47, TT_50, TT_57, TT_59, TT_66, TT_68, TT_69, TT_70, TT_72, TT_81, bb, primP, primM, ev, evs, parts_, ofConst, bin, un, intBin, putA, enterT, Nat.reduceEqDiff, Nat.reduceAdd, Nat.reduceMul, Nat.reduceLeDiff, Nat.reduceLT, ↓reduceIte, reduceCtorEq, RunRes, resultsA, oneOf, AV.plain, AV.cells, AHeap.push, AHeap.set, AHeap.empty, fieldOf, loadA, storeA, BX.part, TK.isAgg, convA, builtinA, inertB, builtinP, buildA, fillA, splice, eqv, cellsEq, sizeT, adT, ldT, fwT, Nat.reduceBeqDiff, Nat.reduceBneDiff, Int.reduceBNe, Int.reduceBEq, Int.reduceEq, Int.reduceLT, Int.reduceLE, Int.reduceAdd, Int.reduceSub, Int.reduceMul, Int.reduceNeg, strBin, indexAddrA, elems, lenOf, chunk, List.reduceReplicate, Int.reduceToNat]
      refine Merge_call hown3 hxs3 (fun x hx => (ord hP3 x hx).1) (fun x hx => (ord hP3 x hx).2) (few (by omega) hP3) (by rw [hP3.all.2]; omega) ?_
      intro m3 w3 hm3 hw3
      have hS2' := hS2.keep hn3 (fun g _ hg => hk3 g hg)
      simp only [n6_0, n6_1, n6_2, n6_3, n6_4, n6_5, n6_6, n6_7, n6_8, n6_9, n6_10, n6_11, n6_12, n6_13, n6_14, n6_15, n6_16, n6_17, n6_18, n6_19, n6_20, n6_21, n6_22, n6_23, n6_24, n6_25, n6_27, n6_28, o6_1, o6_4, o6_7, o6_11, o6_13, o6_16, o6_19, o6_23, o6_25, o6_27, res6, TT_3, TT_4, TT_5, TT_9, TT_22, TT_25, TT_26, TT_29, TT_33, TT_38, TT_40, TT_42, TT_47, TT_50, TT_57, TT_59, TT_66, TT_68, TT_69, TT_70, TT_72, TT_81, bb, primP, primM, ev, evs, parts_, ofConst, bin, un, intBin, putA, enterT, Nat.reduceEqDiff, Nat.reduceAdd, Nat.reduceMul, Nat.reduceLeDiff, Nat.reduceLT, ↓reduceIte, reduceCtorEq, RunRes, resultsA, oneOf, AV.plain, AV.cells, AHeap.push, AHeap.set, AHeap.empty, fieldOf, loadA, storeA, BX.part, TK.isAgg, convA, builtinA, inertB, builtinP, buildA, fillA, splice, eqv, cellsEq, sizeT, adT, ldT, fwT, Nat.reduceBeqDiff, Nat.reduceBneDiff, Int.reduceBNe, Int.reduceBEq, Int.reduceEq, Int.reduceLT, Int.reduceLE, Int.reduceAdd, Int.reduceSub, Int.reduceMul, Int.reduceNeg, strBin, indexAddrA, elems, lenOf, chunk, List.reduceReplicate, Int.reduceToNat]
      refine Runs_call hS2' hC2 (by omega) (by omega) ?_
      intro r4 n4 A4 xs4 hown4 hxs4 hP4 hn4 hk4
      simp only [n6_0, n6_1, n6_2, n6_3, n6_4, n6_5, n6_6, n6_7, n6_8, n6_9, n6_10, n6_11, n6_12, n6_13, n6_14, n6_15, n6_16, n6_17, n6_18, n6_19, n6_20, n6_21, n6_22, n6_23, n6_24, n6_25, n6_27, n6_28, o6_1, o6_4, o6_7, o6_11, o6_13, o6_16, o6_19, o6_23, o6_25, o6_27, res6, TT_3, TT_4, TT_5, TT_9, TT_22, TT_25, TT_26, TT_29, TT_33, TT_38, TT_40, TT_42, TT_47, TT_50, TT_57, TT_59, TT_66, TT_68, TT_69, TT_70, TT_72, TT_81, bb, primP, primM, ev, evs, parts_, ofConst, bin, un, intBin, putA, enterT, Nat.reduceEqDiff, Nat.reduceAdd, Nat.reduceMul, Nat.reduceLeDiff, Nat.reduceLT, ↓reduceIte, reduceCtorEq, RunRes, resultsA, oneOf, AV.plain, AV.cells, AHeap.push, AHeap.set, AHeap.empty, fieldOf, loadA, storeA, BX.part, TK.isAgg, convA, builtinA, inertB, builtinP, buildA, fillA, splice, eqv, cellsEq, sizeT, adT, ldT, fwT, Nat.reduceBeqDiff, Nat.reduceBneDiff, Int.reduceBNe, Int.reduceBEq, Int.reduceEq, Int.reduceLT, Int.reduceLE, Int.reduceAdd, Int.reduceSub, Int.reduceMul, Int.reduceNeg, strBin, indexAddrA, elems, lenOf, chunk, List.reduceReplicate, Int.reduceToNat]
      refine Merge_call hown4 hxs4 (fun x hx => (ord hP4 x hx).1) (fun x hx => (ord hP4 x hx).2) (few (by omega) hP4) (by rw [hP4.all.2]; omega) ?_
      intro m4 w4 hm4 hw4
      obtain rfl := (hP3.sort hm3).uniq hs0
      obtain rfl := (hP4.sort hm4).uniq hs0
      have hml : m4.length ≤ 100000 := by rw [hs0.len]; omega
      have sp1 := SamePairs_e hw3 hw0 hml
      have sp2 := SamePairs_e hw3 hw4 hml
      have g1 : [w3, w0].all AV.flat = true := by simp [hw3.flat, hw0.flat]
      have g2 : [w3, w4].all AV.flat = true := by simp [hw3.flat, hw4.flat]
      simp only [call_pure pure22 f0 hp0, call_pure pure18 g1 sp1, call_pure pure18 g2 sp2, n6_0, n6_1, n6_2, n6_3, n6_4, n6_5, n6_6, n6_7, n6_8, n6_9, n6_10, n6_11, n6_12, n6_13, n6_14, n6_15, n6_16, n6_17, n6_18, n6_19, n6_20, n6_21, n6_22, n6_23, n6_24, n6_25, n6_26, n6_27, n6_28, o6_1, o6_4, o6_7, o6_11, o6_13, o6_16, o6_19, o6_23, o6_25, o6_27, res6, TT_3, TT_4, TT_5, TT_9, TT_22, TT_25, TT_26, TT_29, TT_33, TT_38, TT_40, TT_42, TT_47, TT_50, TT_57, TT_59, TT_66, TT_68, TT_69, TT_70, TT_72, TT_81, bb, primP, primM, ev, evs, parts_, ofConst, bin, un, intBin, putA, enterT, Nat.reduceEqDiff, Nat.reduceAdd, Nat.reduceMul, Nat.reduceLeDiff, Nat.reduceLT, ↓reduceIte, reduceCtorEq, RunRes, resultsA, oneOf, AV.plain, AV.cells, AHeap.push, AHeap.set, AHeap.empty, fieldOf, loadA, storeA, BX.part, TK.isAgg, convA, builtinA, inertB, builtinP, buildA, fillA, splice, eqv, cellsEq, sizeT, adT, ldT, fwT, Nat.reduceBeqDiff, Nat.reduceBneDiff, Int.reduceBNe, Int.reduceBEq, Int.reduceEq, Int.reduceLT, Int.reduceLE, Int.reduceAdd, Int.reduceSub, Int.reduceMul, Int.reduceNeg, strBin, indexAddrA, elems, lenOf, chunk, List.reduceReplicate, Int.reduceToNat]
end Go.Proofs.Ytbfjkomlnpolmaa.G

namespace Go.Proofs.Ytbfjkomlnpolmaa.G
open Go.BX
set_option linter.unusedSimpArgs false
set_option linter.unusedVariables false
theorem made_own {h0 : Nat} {d : AV} {H : AHeap} {m : List Pr} (h : Own h0 d H m) : ∃ w, InE w m ∧ BX.freeze H d = some w ∧ (if w.solid then some w else madeT H d) = some w := by
  rcases h with ⟨rfl, rfl⟩ | ⟨g, rfl, _, _, hA⟩
  · exact ⟨.nilS, .inl ⟨rfl, rfl⟩, rfl, rfl⟩
  · refine ⟨.vec 6 (m.map encP), .inr (.inr rfl), ?_, ?_⟩
    · have he : elems H 6 (.slc g 6 0 m.length) = some (m.map encP) := by
        unfold elems
        simp only [hA]
        rw [if_pos ⟨trivial, trivial, by simp⟩, List.drop_zero, List.take_of_length_le (by simp)]
      rw [freeze_slc, he, frzE_some, freeze_rows']
      rfl
    · have he : elems H 6 (.slc g 6 0 m.length) = some (m.map encP) := by
        unfold elems
        simp only [hA]
        rw [if_pos ⟨trivial, trivial, by simp⟩, List.drop_zero, List.take_of_length_le (by simp)]
      rw [if_neg (by simp [AV.solid, AV.solid2, AV.solid1])]
      show made1 H (.slc g 6 0 m.length) = _
      unfold made1
      rw [if_neg (by simp [AV.solid2, AV.solid1])]
      simp only [he]
      rw [if_pos (solid_rows m)]
theorem RefSort_both {l : List Pr} (h0 : l ≠ []) (hl : l.length ≤ 100000) : ∃ m w, IsSort l m ∧ InE w m ∧ PCall Cx 19 [.vec 6 (l.map encP)] w ∧ PMade Cx 19 [.vec 6 (l.map encP)] w := by
  have hx : ∃ r, (∃ m, IsSort l m ∧ InE r m) ∧ PCall Cx 19 [.vec 6 (l.map encP)] r ∧ PMade Cx 19 [.vec 6 (l.map encP)] r := by
    refine both_of (noext _) body19 ?_
    simp only [n19_0, n19_1, n19_2, n19_3, n19_4, n19_5, n19_6, n19_7, n19_8, n19_10, n19_11, n19_12, n19_13, n19_14, n19_15, n19_16, n19_17, n19_18, n19_19, n19_20, n19_21, n19_22, n19_23, n19_24, n19_25, n19_26, n19_27, n19_28, n19_29, n19_30, n19_31, n19_32, n19_33, n19_34, n19_35, n19_36, n19_37, n19_38, n19_39, n19_40, n19_41, n19_42, n19_43, n19_44, n19_45, n19_46, n19_47, n19_48, n19_50, n19_51, o19_1, o19_3, o19_6, o19_11, o19_18, o19_24, o19_29, o19_31, o19_34, o19_39, o19_45, o19_46, o19_47, o19_48, o19_50, res19, TT_3, TT_4, TT_5, TT_9, TT_22, TT_25, TT_26, TT_29, TT_33, TT_38, TT_40, TT_42, TT_47, TT_50, TT_57, TT_59, TT_66, TT_68, TT_69, TT_70, TT_72, TT_81, bb, primP, primM, ev, evs, parts_, ofConst, bin, un, intBin, putA, enterT, Nat.reduceEqDiff, Nat.reduceAdd, Nat.reduceMul, Nat.reduceLeDiff, Nat.reduceLT, ↓reduceIte, reduceCtorEq, RunRes, resultsA, oneOf, AV.plain, AV.cells, AHeap.push, AHeap.set, AHeap.empty, fieldOf, loadA, storeA, BX.part, TK.isAgg, convA, builtinA, inertB, builtinP, buildA, fillA, splice, eqv, cellsEq, sizeT, adT, ldT, fwT, Nat.reduceBeqDiff, Nat.reduceBneDiff, Int.reduceBNe, Int.reduceBEq, Int.reduceEq, Int.reduceLT, Int.reduceLE, Int.reduceAdd, Int.reduceSub, Int.reduceMul, Int.reduceNeg, strBin, indexAddrA, elems, lenOf, chunk, List.reduceReplicate, Int.reduceToNat]
    refine rs1_all hl ?_ l.length 0 _ AHeap.empty .nilS [] (by omega) ?_ ?_ ?_ .nil ⟨fun _ => rfl, List.Pairwise.nil, rfl⟩
    · intro d H m hd hs
      obtain ⟨w, hw, hf, hm⟩ := made_own hd
      exact ⟨w, ⟨m, hs, hw⟩, hf, hm⟩
    all_goals simp only [upd_app, enterT, List.getElem?_cons_zero, List.getElem?_cons_succ, Option.getD_some, Nat.reduceEqDiff, ↓reduceIte]
    all_goals rfl
  obtain ⟨w, ⟨m, hs, hw⟩, h1, h2⟩ := hx
  exact ⟨m, w, hs, hw, h1, h2⟩
section
variable {fn : FuncId} {T : Nat → AV} {ds : List ADef} {ro : Option Nat} {k : List AItem} {Q : AV → AHeap → Prop} {dst : Option Nat} {os : List AO}
theorem RefSort_part {g i m n : Nat} {A : Nat → Blk} {P : List Pr} (hA : A g = .cells 42 6 (P.map encP)) (him : i + m ≤ P.length) (hm : 0 < m) (hP : P.length ≤ 100000) (hk : ∀ m' w, IsSort ((P.drop i).take m) m' → InE w m' → RunOps Cx fn (putA T dst w) ds ro os k ⟨n, A⟩ Q) :
    RunCall Cx fn T ds ro 19 [.slc g 6 i m] dst os k ⟨n, A⟩ Q := by
  have hlen : ((P.drop i).take m).length = m := by rw [List.length_take, List.length_drop]; omega
  obtain ⟨m', w, hs, hw, _, hp⟩ := RefSort_both (l := (P.drop i).take m) (fun e => by rw [e] at hlen; simp at hlen; omega) (by omega)
  have he : elems ⟨n, A⟩ 6 (.slc g 6 i m) = some (((P.drop i).take m).map encP) := by
    unfold elems
    simp only [hA]
    rw [if_pos ⟨trivial, trivial, by rw [List.length_map]; exact him⟩, ← List.map_drop, ← List.map_take]
  rw [call_made pure19 rfl (by rw [mapO_cons, mapO_nil, freeze_slc, he, frzE_some, freeze_rows']; rfl) hp]
  exact hk m' w hs hw
theorem RefSort_own {h0 n : Nat} {A : Nat → Blk} {d : AV} {P : List Pr} (hd : OwnK h0 42 6 d n A (P.map encP)) (hP : P.length ≤ 100000) (hk : ∀ m' w, IsSort P m' → InE w m' → RunOps Cx fn (putA T dst w) ds ro os k ⟨n, A⟩ Q) :
    RunCall Cx fn T ds ro 19 [d] dst os k ⟨n, A⟩ Q := by
  by_cases h0' : P = []
  · subst h0'
    obtain ⟨m, w, hs, hw, hp⟩ := RefSort_ok (v := .nilS) (l := []) (.inl ⟨rfl, rfl⟩) (by simp)
    rcases hd with ⟨rfl, _⟩ | ⟨g, rfl, _, _, hA⟩
    · rw [call_pure pure19 rfl hp]
      exact hk m w hs hw
    · have he : elems ⟨n, A⟩ 6 (.slc g 6 0 0) = some [] := by
        unfold elems
        simp only [hA]
        rfl
      have hq : PMade Cx 19 [.vec 6 []] .nilS := pmade_of (n := 60) (by kernel_rfl)
      show RunCall Cx fn T ds ro 19 [.slc g 6 0 0] dst os k ⟨n, A⟩ Q
      rw [call_made pure19 rfl (by rw [mapO_cons, mapO_nil, freeze_slc, he, frzE_some, mapO_nil]; rfl) hq]
      exact hk [] .nilS ⟨fun _ => rfl, List.Pairwise.nil, rfl⟩ (.inl ⟨rfl, rfl⟩)
  · rcases hd with ⟨_, h⟩ | ⟨g, rfl, _, _, hA⟩
    · exact absurd (by simpa using h) h0'
    · rw [List.length_map]
      refine RefSort_part hA (by omega) (List.length_pos_iff.mpr h0') hP ?_
      intro m' w hs hw
      rw [List.drop_zero, List.take_of_length_le (Nat.le_refl _)] at hs
      exact hk m' w hs hw
theorem rr_all {room n0 g : Nat} {A0 : Nat → Blk} {P : List Pr} {Q : AV → AHeap → Prop} (hr : 0 < room) (hr2 : room ≤ 4096) (hP : P.length ≤ 1000) (hg : g < n0) (hA0 : A0 g = .cells 42 6 (P.map encP))
    (hK : ∀ d n A ys, OwnK n0 22 1 d n A (rowsR ys) → (∀ y, y ∈ ys → InE y.1 y.2) → Pcs room P (ys.map (·.2)) → n0 ≤ n → (∀ c, c < n0 → A c = A0 c) → Q d ⟨n, A⟩) :
    ∀ (j i : Nat) (T : Nat → AV) (d : AV) (n : Nat) (A : Nat → Blk) (ys : List (AV × List Pr)), P.length ≤ i * room + j → (i = 0 ∨ (i - 1) * room < P.length) → T 0 = .slc g 6 0 P.length → T 1 = .int .i64 (room : Int) → T 5 = d → T 6 = .int .i64 ((i * room : Nat) : Int) → OwnK n0 22 1 d n A (rowsR ys) → (∀ y, y ∈ ys → InE y.1 y.2) → ys.length = i → (∀ z (h : z < ys.length), IsSort (piece P room z) (ys[z]).2) → n0 ≤ n → (∀ c, c < n0 → A c = A0 c) →
      Run Cx 17 T [] none [.inLoop c17_9, .inBlock 0, .code c17_19] ⟨n, A⟩ Q := by
  intro j
  induction j with
  | zero =>
    intro i T d n A ys hj hi1 t0 t1 t5 t6 hd hy hyl hs hn hk
    rw [run_inLoop]
    have c0 : ¬ ((i * room : Nat) : Int) < (P.length : Int) := by omega
    simp only [t0, t1, t5, t6, c0, lenOf, i64, run_exit_start, exit_here, exit_code, exit_inLoop, run_inBlock, n17_0, n17_1, n17_2, n17_3, n17_4, n17_5, n17_6, n17_7, n17_8, n17_9, n17_10, n17_11, n17_12, n17_13, n17_14, n17_15, n17_16, n17_17, n17_18, n17_19, n17_20, n17_21, o17_1, o17_3, o17_6, o17_11, o17_17, o17_18, o17_20, res17, TT_3, TT_4, TT_5, TT_9, TT_22, TT_25, TT_26, TT_29, TT_33, TT_38, TT_40, TT_42, TT_47, TT_50, TT_57, TT_59, TT_66, TT_68, TT_69, TT_70, TT_72, TT_81, bb, primP, primM, ev, evs, parts_, ofConst, bin, un, intBin, putA, enterT, Nat.reduceEqDiff, Nat.reduceAdd, Nat.reduceMul, Nat.reduceLeDiff, Nat.reduceLT, ↓reduceIte, reduceCtorEq, RunRes, resultsA, oneOf, AV.plain, AV.cells, AHeap.push, AHeap.set, AHeap.empty, fieldOf, loadA, storeA, BX.part, TK.isAgg, convA, builtinA, inertB, builtinP, buildA, fillA, splice, eqv, cellsEq, sizeT, adT, ldT, fwT, Nat.reduceBeqDiff, Nat.reduceBneDiff, Int.reduceBNe, Int.reduceBEq, Int.reduceEq, Int.reduceLT, Int.reduceLE, Int.reduceAdd, Int.reduceSub, Int.reduceMul, Int.reduceNeg, strBin, indexAddrA, elems, lenOf, chunk, List.reduceReplicate, Int.reduceToNat]
    refine hK d n A ys hd hy ⟨by rw [List.length_map, hyl]; omega, by rw [List.length_map, hyl]; exact hi1, fun z hz => ?_⟩ hn hk
    rw [List.length_map] at hz
    rw [List.getElem_map]
    exact hs z hz
  | succ j ih =>
    intro i T d n A ys hj hi1 t0 t1 t5 t6 hd hy hyl hs hn hk
    by_cases hlt : i * room < P.length
    · rw [run_inLoop]
      have hs1 : (i + 1) * room = i * room + room := Nat.succ_mul i room
      have hile : i ≤ 1000 := by
        have : i * 1 ≤ i * room := Nat.mul_le_mul_left _ hr
        omega
      have c0 : ((i * room : Nat) : Int) < (P.length : Int) := by omega
      have w1 : IntKind.i64.wrap (((i * room : Nat) : Int) + (room : Int)) = (((i + 1) * room : Nat) : Int) := by rw [wr64 (by omega) (by omega)]; omega
      have hmin : (if (P.length : Int) < (((i + 1) * room : Nat) : Int) then (P.length : Int) else (((i + 1) * room : Nat) : Int)) = ((min ((i + 1) * room) P.length : Nat) : Int) := by
        split <;> omega
      have l1 : ((min ((i + 1) * room) P.length : Nat) : Int) ≤ (P.length : Int) := by omega
      have l2 : ((i * room : Nat) : Int) ≤ ((min ((i + 1) * room) P.length : Nat) : Int) := by omega
      have p1 : (0 : Int) ≤ ((i * room : Nat) : Int) := by omega
      have p2 : (0 : Int) ≤ ((min ((i + 1) * room) P.length : Nat) : Int) := by omega
      simp only [t0, t1, t5, t6, c0, w1, hmin, l1, l2, p1, p2, minA, sliceA, bnds, bound, evo, lenOf, i64, Int.toNat_natCast, run_exit_start, exit_here, exit_code, exit_inLoop, run_inBlock, n17_0, n17_1, n17_2, n17_3, n17_4, n17_5, n17_6, n17_7, n17_8, n17_9, n17_10, n17_11, n17_12, n17_13, n17_14, n17_15, n17_16, n17_17, n17_18, n17_20, n17_21, o17_1, o17_3, o17_6, o17_11, o17_17, o17_18, o17_20, res17, TT_3, TT_4, TT_5, TT_9, TT_22, TT_25, TT_26, TT_29, TT_33, TT_38, TT_40, TT_42, TT_47, TT_50, TT_57, TT_59, TT_66, TT_68, TT_69, TT_70, TT_72, TT_81, bb, primP, primM, ev, evs, parts_, ofConst, bin, un, intBin, putA, enterT, Nat.reduceEqDiff, Nat.reduceAdd, Nat.reduceMul, Nat.reduceLeDiff, Nat.reduceLT, ↓reduceIte, reduceCtorEq, RunRes, resultsA, oneOf, AV.plain, AV.cells, AHeap.push, AHeap.set, AHeap.empty, fieldOf, loadA, storeA, BX.part, TK.isAgg, convA, builtinA, inertB, builtinP, buildA, fillA, splice, eqv, cellsEq, sizeT, adT, ldT, fwT, Nat.reduceBeqDiff, Nat.reduceBneDiff, Int.reduceBNe, Int.reduceBEq, Int.reduceEq, Int.reduceLT, Int.reduceLE, Int.reduceAdd, Int.reduceSub, Int.reduceMul, Int.reduceNeg, strBin, indexAddrA, elems, lenOf, chunk, List.reduceReplicate, Int.reduceToNat]
      have hA : A g = .cells 42 6 (P.map encP) := (hk g hg).trans hA0
      refine RefSort_part hA (by omega) (by omega) (by omega) ?_
      intro m' w hs' hw
      have hpc : (P.drop (i * room)).take (min ((i + 1) * room) P.length - i * room) = piece P room i := by
        unfold piece
        by_cases h : (i + 1) * room ≤ P.length
        · rw [Nat.min_eq_left h, hs1, Nat.add_sub_cancel_left]
        · rw [Nat.min_eq_right (by omega), List.take_of_length_le (by rw [List.length_drop]; omega), List.take_of_length_le (by rw [List.length_drop]; omega)]
      rw [hpc] at hs'
      have hwp := hw.plain
      have hwc := hw.cells
      simp only [AV.plain] at hwp
      simp only [AV.cells] at hwc
      obtain ⟨A2, ha, hown, hkeep⟩ := hd.app1 (row := [w]) (by omega) rsl rti (by unfold most; rw [rowsR, List.length_map]; omega) (by unfold most; rw [rowsR, List.length_map]; omega)
      simp only [t0, t1, t5, t6, w1, hwp, hwc, ha, runVH_some, run_exit_start, exit_here, exit_code, exit_inLoop, run_inBlock, n17_0, n17_1, n17_2, n17_3, n17_4, n17_5, n17_6, n17_7, n17_8, n17_9, n17_10, n17_11, n17_12, n17_13, n17_14, n17_15, n17_16, n17_17, n17_18, n17_20, n17_21, o17_1, o17_3, o17_6, o17_11, o17_17, o17_18, o17_20, res17, TT_3, TT_4, TT_5, TT_9, TT_22, TT_25, TT_26, TT_29, TT_33, TT_38, TT_40, TT_42, TT_47, TT_50, TT_57, TT_59, TT_66, TT_68, TT_69, TT_70, TT_72, TT_81, bb, primP, primM, ev, evs, parts_, ofConst, bin, un, intBin, putA, enterT, Nat.reduceEqDiff, Nat.reduceAdd, Nat.reduceMul, Nat.reduceLeDiff, Nat.reduceLT, ↓reduceIte, reduceCtorEq, RunRes, resultsA, oneOf, AV.plain, AV.cells, AHeap.push, AHeap.set, AHeap.empty, fieldOf, loadA, storeA, BX.part, TK.isAgg, convA, builtinA, inertB, builtinP, buildA, fillA, splice, eqv, cellsEq, sizeT, adT, ldT, fwT, Nat.reduceBeqDiff, Nat.reduceBneDiff, Int.reduceBNe, Int.reduceBEq, Int.reduceEq, Int.reduceLT, Int.reduceLE, Int.reduceAdd, Int.reduceSub, Int.reduceMul, Int.reduceNeg, strBin, indexAddrA, elems, lenOf, chunk, List.reduceReplicate, Int.reduceToNat]
      have e : rowsR (ys ++ [(w, m')]) = rowsR ys ++ [[w]] := by simp [rowsR]
      refine ih (i + 1) _ _ _ A2 (ys ++ [(w, m')]) (by omega) (.inr (by rw [Nat.add_sub_cancel]; exact hlt)) ?_ ?_ ?_ ?_ (by rw [e]; exact hown) ?_ (by simp [hyl]) ?_ (by omega) ?_
      · simp only [upd_app, t0, Nat.reduceEqDiff, ↓reduceIte]
      · simp only [upd_app, t1, Nat.reduceEqDiff, ↓reduceIte]
      · simp only [upd_app, Nat.reduceEqDiff, ↓reduceIte]
      · simp only [upd_app, Nat.reduceEqDiff, ↓reduceIte]
      · intro y hy'
        rcases List.mem_append.mp hy' with h | h
        · exact hy y h
        · simp only [List.mem_singleton] at h
          subst h; exact hw
      · intro z hz
        by_cases hzl : z < ys.length
        · rw [List.getElem_append_left hzl]
          exact hs z hzl
        · have hze : z = ys.length := by
            rw [List.length_append, List.length_singleton] at hz; omega
          subst hze
          rw [List.getElem_append_right (Nat.le_refl _)]
          simp only [Nat.sub_self, List.getElem_cons_zero]
          rw [hyl]
          exact hs'
      · intro c hc
        rw [hkeep c (by omega) (.inr hc)]
        exact hk c hc
    · rw [run_inLoop]
      have c0 : ¬ ((i * room : Nat) : Int) < (P.length : Int) := by omega
      simp only [t0, t1, t5, t6, c0, lenOf, i64, run_exit_start, exit_here, exit_code, exit_inLoop, run_inBlock, n17_0, n17_1, n17_2, n17_3, n17_4, n17_5, n17_6, n17_7, n17_8, n17_9, n17_10, n17_11, n17_12, n17_13, n17_14, n17_15, n17_16, n17_17, n17_18, n17_19, n17_20, n17_21, o17_1, o17_3, o17_6, o17_11, o17_17, o17_18, o17_20, res17, TT_3, TT_4, TT_5, TT_9, TT_22, TT_25, TT_26, TT_29, TT_33, TT_38, TT_40, TT_42, TT_47, TT_50, TT_57, TT_59, TT_66, TT_68, TT_69, TT_70, TT_72, TT_81, bb, primP, primM, ev, evs, parts_, ofConst, bin, un, intBin, putA, enterT, Nat.reduceEqDiff, Nat.reduceAdd, Nat.reduceMul, Nat.reduceLeDiff, Nat.reduceLT, ↓reduceIte, reduceCtorEq, RunRes, resultsA, oneOf, AV.plain, AV.cells, AHeap.push, AHeap.set, AHeap.empty, fieldOf, loadA, storeA, BX.part, TK.isAgg, convA, builtinA, inertB, builtinP, buildA, fillA, splice, eqv, cellsEq, sizeT, adT, ldT, fwT, Nat.reduceBeqDiff, Nat.reduceBneDiff, Int.reduceBNe, Int.reduceBEq, Int.reduceEq, Int.reduceLT, Int.reduceLE, Int.reduceAdd, Int.reduceSub, Int.reduceMul, Int.reduceNeg, strBin, indexAddrA, elems, lenOf, chunk, List.reduceReplicate, Int.reduceToNat]
      refine hK d n A ys hd hy ⟨by rw [List.length_map, hyl]; omega, by rw [List.length_map, hyl]; exact hi1, fun z hz => ?_⟩ hn hk
      rw [List.length_map] at hz
      rw [List.getElem_map]
      exact hs z hz
theorem RefRuns_call {h0 room n : Nat} {A : Nat → Blk} {d : AV} {P : List Pr} (hd : OwnK h0 42 6 d n A (P.map encP)) (hP : P.length ≤ 1000) (hr : 0 < room) (hr2 : room ≤ 4096)
    (hk : ∀ r n' A' ys, OwnK n 22 1 r n' A' (rowsR ys) → (∀ y, y ∈ ys → InE y.1 y.2) → Pcs room P (ys.map (·.2)) → n ≤ n' → (∀ c, c < n → A' c = A c) → RunOps Cx fn (putA T dst r) ds ro os k ⟨n', A'⟩ Q) :
    RunCall Cx fn T ds ro 17 [d, .int .i64 (room : Int)] dst os k ⟨n, A⟩ Q := by
  refine call_body pure17 (noext _) body17 ?_
  rcases hd with ⟨rfl, h⟩ | ⟨g, rfl, _, hg, hA⟩
  · have hp : P = [] := by simpa using h
    subst hp
    simp only [i64, Int.cast_ofNat_Int, lenOf, run_exit_start, exit_here, exit_code, exit_inLoop, run_inBlock, run_inLoop, n17_0, n17_1, n17_2, n17_3, n17_4, n17_5, n17_6, n17_7, n17_8, n17_9, n17_10, n17_11, n17_12, n17_13, n17_14, n17_15, n17_16, n17_17, n17_18, n17_19, n17_20, n17_21, o17_1, o17_3, o17_6, o17_11, o17_17, o17_18, o17_20, res17, TT_3, TT_4, TT_5, TT_9, TT_22, TT_25, TT_26, TT_29, TT_33, TT_38, TT_40, TT_42, TT_47, TT_50, TT_57, TT_59, TT_66, TT_68, TT_69, TT_70, TT_72, TT_81, bb, primP, primM, ev, evs, parts_, ofConst, bin, un, intBin, putA, enterT, Nat.reduceEqDiff, Nat.reduceAdd, Nat.reduceMul, Nat.reduceLeDiff, Nat.reduceLT, ↓reduceIte, reduceCtorEq, RunRes, resultsA, oneOf, AV.plain, AV.cells, AHeap.push, AHeap.set, AHeap.empty, fieldOf, loadA, storeA, BX.part, TK.isAgg, convA, builtinA, inertB, builtinP, buildA, fillA, splice, eqv, cellsEq, sizeT, adT, ldT, fwT, Nat.reduceBeqDiff, Nat.reduceBneDiff, Int.reduceBNe, Int.reduceBEq, Int.reduceEq, Int.reduceLT, Int.reduceLE, Int.reduceAdd, Int.reduceSub, Int.reduceMul, Int.reduceNeg, strBin, indexAddrA, elems, lenOf, chunk, List.reduceReplicate, Int.reduceToNat]
    exact hk .nilS n A [] (.inl ⟨rfl, rfl⟩) (fun y hy => by cases hy) ⟨by simp, .inl rfl, fun i h => by simp at h⟩ (Nat.le_refl _) (fun _ _ => rfl)
  · rw [List.length_map]
    simp only [n17_0, n17_1, n17_2, n17_3, n17_4, n17_5, n17_6, n17_7, n17_8, n17_10, n17_11, n17_12, n17_13, n17_14, n17_15, n17_16, n17_17, n17_18, n17_20, n17_21, o17_1, o17_3, o17_6, o17_11, o17_17, o17_18, o17_20, res17, TT_3, TT_4, TT_5, TT_9, TT_22, TT_25, TT_26, TT_29, TT_33, TT_38, TT_40, TT_42, TT_47, TT_50, TT_57, TT_59, TT_66, TT_68, TT_69, TT_70, TT_72, TT_81, bb, primP, primM, ev, evs, parts_, ofConst, bin, un, intBin, putA, enterT, Nat.reduceEqDiff, Nat.reduceAdd, Nat.reduceMul, Nat.reduceLeDiff, Nat.reduceLT, ↓reduceIte, reduceCtorEq, RunRes, resultsA, oneOf, AV.plain, AV.cells, AHeap.push, AHeap.set, AHeap.empty, fieldOf, loadA, storeA, BX.part, TK.isAgg, convA, builtinA, inertB, builtinP, buildA, fillA, splice, eqv, cellsEq, sizeT, adT, ldT, fwT, Nat.reduceBeqDiff, Nat.reduceBneDiff, Int.reduceBNe, Int.reduceBEq, Int.reduceEq, Int.reduceLT, Int.reduceLE, Int.reduceAdd, Int.reduceSub, Int.reduceMul, Int.reduceNeg, strBin, indexAddrA, elems, lenOf, chunk, List.reduceReplicate, Int.reduceToNat]
    refine rr_all (room := room) (n0 := n) (A0 := A) hr hr2 hP hg hA ?_ P.length 0 _ .nilS n A [] (by omega) (.inl rfl) ?_ ?_ ?_ ?_ (.inl ⟨rfl, rfl⟩) (fun y hy => by cases hy) rfl (fun z h => by simp at h) (Nat.le_refl _) (fun _ _ => rfl)
    · intro d n' A' ys h1 h2 h3 h4 h5
      exact hk d n' A' ys h1 h2 h3 h4 h5
    all_goals simp only [upd_app, enterT, List.getElem?_cons_zero, List.getElem?_cons_succ, Option.getD_some, Nat.reduceEqDiff, ↓reduceIte]
    all_goals simp
end
theorem refR1_ok (p : Pr) : PCall Cx 16 [.vec 6 [[.str p.key, .int .i64 p.k, .int .i64 p.n, .str p.s, .int .i64 p.x, .int .i64 p.y]]] (.bool (!badP p)) := by
  refine pcall_run (noext _) body16 ?_
  have w1 : IntKind.i64.wrap 1 = 1 := rfl
  unfold badP
  by_cases h : (64 : Int) < (p.key.length : Int)
  · simp only [h, w1, Bool.true_or, i64, lenOf, Int.cast_ofNat_Int, run_exit_start, exit_here, exit_code, exit_inLoop, run_inBlock, run_inLoop, n16_0, n16_1, n16_2, n16_3, n16_4, n16_5, n16_6, n16_7, n16_8, n16_9, n16_10, n16_11, n16_12, n16_13, n16_14, n16_15, n16_16, n16_17, n16_18, n16_19, n16_20, n16_21, n16_22, n16_23, n16_24, n16_25, o16_1, o16_4, o16_9, o16_16, o16_19, o16_22, o16_24, res16, TT_3, TT_4, TT_5, TT_9, TT_22, TT_25, TT_26, TT_29, TT_33, TT_38, TT_40, TT_42, TT_47, TT_50, TT_57, TT_59, TT_66, TT_68, TT_69, TT_70, TT_72, TT_81, bb, primP, primM, ev, evs, parts_, ofConst, bin, un, intBin, putA, enterT, Nat.reduceEqDiff, Nat.reduceAdd, Nat.reduceMul, Nat.reduceLeDiff, Nat.reduceLT, ↓reduceIte, reduceCtorEq, RunRes, resultsA, oneOf, AV.plain, AV.cells, AHeap.push, AHeap.set, AHeap.empty, fieldOf, loadA, storeA, BX.part, TK.isAgg, convA, builtinA, inertB, builtinP, buildA, fillA, splice, eqv, cellsEq, sizeT, adT, ldT, fwT, Nat.reduceBeqDiff, Nat.reduceBneDiff, Int.reduceBNe, Int.reduceBEq, Int.reduceEq, Int.reduceLT, Int.reduceLE, Int.reduceAdd, Int.reduceSub, Int.reduceMul, Int.reduceNeg, strBin, indexAddrA, elems, lenOf, chunk, List.reduceReplicate, Int.reduceToNat]
  · cases hr : rightV p.k p.n p.s p.x p.y with
    | true =>
      have hq := refRight_ok p.k p.n p.s p.x p.y
      rw [hr] at hq
      simp only [h, w1, Bool.false_or, i64, lenOf, Int.cast_ofNat_Int, call_pure pure29 rfl hq, run_exit_start, exit_here, exit_code, exit_inLoop, run_inBlock, run_inLoop, n16_0, n16_1, n16_2, n16_3, n16_4, n16_5, n16_6, n16_7, n16_8, n16_9, n16_10, n16_11, n16_12, n16_13, n16_14, n16_15, n16_16, n16_17, n16_18, n16_19, n16_20, n16_21, n16_22, n16_23, n16_24, n16_25, o16_1, o16_4, o16_9, o16_16, o16_19, o16_22, o16_24, res16, TT_3, TT_4, TT_5, TT_9, TT_22, TT_25, TT_26, TT_29, TT_33, TT_38, TT_40, TT_42, TT_47, TT_50, TT_57, TT_59, TT_66, TT_68, TT_69, TT_70, TT_72, TT_81, bb, primP, primM, ev, evs, parts_, ofConst, bin, un, intBin, putA, enterT, Nat.reduceEqDiff, Nat.reduceAdd, Nat.reduceMul, Nat.reduceLeDiff, Nat.reduceLT, ↓reduceIte, reduceCtorEq, RunRes, resultsA, oneOf, AV.plain, AV.cells, AHeap.push, AHeap.set, AHeap.empty, fieldOf, loadA, storeA, BX.part, TK.isAgg, convA, builtinA, inertB, builtinP, buildA, fillA, splice, eqv, cellsEq, sizeT, adT, ldT, fwT, Nat.reduceBeqDiff, Nat.reduceBneDiff, Int.reduceBNe, Int.reduceBEq, Int.reduceEq, Int.reduceLT, Int.reduceLE, Int.reduceAdd, Int.reduceSub, Int.reduceMul, Int.reduceNeg, strBin, indexAddrA, elems, lenOf, chunk, List.reduceReplicate, Int.reduceToNat]
    | false =>
      have hq := refRight_ok p.k p.n p.s p.x p.y
      rw [hr] at hq
      simp only [h, w1, Bool.false_or, i64, lenOf, Int.cast_ofNat_Int, call_pure pure29 rfl hq, run_exit_start, exit_here, exit_code, exit_inLoop, run_inBlock, run_inLoop, n16_0, n16_1, n16_2, n16_3, n16_4, n16_5, n16_6, n16_7, n16_8, n16_9, n16_10, n16_11, n16_12, n16_13, n16_14, n16_15, n16_16, n16_17, n16_18, n16_19, n16_20, n16_21, n16_22, n16_23, n16_24, n16_25, o16_1, o16_4, o16_9, o16_16, o16_19, o16_22, o16_24, res16, TT_3, TT_4, TT_5, TT_9, TT_22, TT_25, TT_26, TT_29, TT_33, TT_38, TT_40, TT_42, TT_47, TT_50, TT_57, TT_59, TT_66, TT_68, TT_69, TT_70, TT_72, TT_81, bb, primP, primM, ev, evs, parts_, ofConst, bin, un, intBin, putA, enterT, Nat.reduceEqDiff, Nat.reduceAdd, Nat.reduceMul, Nat.reduceLeDiff, Nat.reduceLT, ↓reduceIte, reduceCtorEq, RunRes, resultsA, oneOf, AV.plain, AV.cells, AHeap.push, AHeap.set, AHeap.empty, fieldOf, loadA, storeA, BX.part, TK.isAgg, convA, builtinA, inertB, builtinP, buildA, fillA, splice, eqv, cellsEq, sizeT, adT, ldT, fwT, Nat.reduceBeqDiff, Nat.reduceBneDiff, Int.reduceBNe, Int.reduceBEq, Int.reduceEq, Int.reduceLT, Int.reduceLE, Int.reduceAdd, Int.reduceSub, Int.reduceMul, Int.reduceNeg, strBin, indexAddrA, elems, lenOf, chunk, List.reduceReplicate, Int.reduceToNat]
end Go.Proofs.Ytbfjkomlnpolmaa.G

namespace Go.Proofs.Ytbfjkomlnpolmaa.G
open Go.BX
set_option linter.unusedSimpArgs false
set_option linter.unusedVariables false
theorem Pcs.sort' {room : Nat} {P m : List Pr} {ys : List (AV × List Pr)} (h : Pcs room P (ys.map (·.2))) (hm : IsSort P m) : IsSort (ys.flatMap (·.2)) m :=
  ⟨fun κ => (hm.keys κ).trans (h.all.1 κ).symm, hm.ord, hm.len.trans h.all.2.symm⟩
section
variable {fn : FuncId} {T : Nat → AV} {ds : List ADef} {ro : Option Nat} {k : List AItem} {Q : AV → AHeap → Prop} {dst : Option Nat} {os : List AO}
theorem All_call {h0 room b n : Nat} {A : Nat → Blk} {now P : List Pr} {rs : List (AV × List Pr)} {cnt : Nat} (h : SS h0 room b n A now rs cnt) (hc : Chk room P now rs) (hr : 0 < room) (hP : P.length ≤ 10000)
    (hk : ∀ rv n' A' xs, OwnK n 22 1 rv n' A' (rowsR xs) → (∀ x, x ∈ xs → RV n' A' x.1 x.2) → Pcs room P (xs.map (·.2)) → n ≤ n' → (∀ c, c < n → A' c = A c) → RunOps Cx fn (putA T dst (.fn 38 [] [.ptr n' 1 0 0])) ds ro os k ⟨n' + 1, upd A' n' (.cells 29 1 [[rv]])⟩ Q) :
    RunCall Cx fn T ds ro 20 [.ptr b 4 0 0] dst os k ⟨n, A⟩ Q := by
  refine call_body pure20 (noext _) body20 ?_
  simp only [n20_0, n20_1, n20_2, n20_3, n20_4, o20_1, o20_3, res20, TT_3, TT_4, TT_5, TT_9, TT_22, TT_25, TT_26, TT_29, TT_33, TT_38, TT_40, TT_42, TT_47, TT_50, TT_57, TT_59, TT_66, TT_68, TT_69, TT_70, TT_72, TT_81, bb, primP, primM, ev, evs, parts_, ofConst, bin, un, intBin, putA, enterT, Nat.reduceEqDiff, Nat.reduceAdd, Nat.reduceMul, Nat.reduceLeDiff, Nat.reduceLT, ↓reduceIte, reduceCtorEq, RunRes, resultsA, oneOf, AV.plain, AV.cells, AHeap.push, AHeap.set, AHeap.empty, fieldOf, loadA, storeA, BX.part, TK.isAgg, convA, builtinA, inertB, builtinP, buildA, fillA, splice, eqv, cellsEq, sizeT, adT, ldT, fwT, Nat.reduceBeqDiff, Nat.reduceBneDiff, Int.reduceBNe, Int.reduceBEq, Int.reduceEq, Int.reduceLT, Int.reduceLE, Int.reduceAdd, Int.reduceSub, Int.reduceMul, Int.reduceNeg, strBin, indexAddrA, elems, lenOf, chunk, List.reduceReplicate, Int.reduceToNat]
  refine Runs_call h hc hr hP ?_
  intro rv n' A' xs hown hxs hp hn hkp
  have hpl := hown.plain
  have hcl := hown.cells
  simp only [AV.plain] at hpl
  simp only [AV.cells] at hcl
  simp only [n20_0, n20_1, n20_2, n20_3, n20_4, o20_1, o20_3, res20, TT_3, TT_4, TT_5, TT_9, TT_22, TT_25, TT_26, TT_29, TT_33, TT_38, TT_40, TT_42, TT_47, TT_50, TT_57, TT_59, TT_66, TT_68, TT_69, TT_70, TT_72, TT_81, bb, primP, primM, ev, evs, parts_, ofConst, bin, un, intBin, putA, enterT, Nat.reduceEqDiff, Nat.reduceAdd, Nat.reduceMul, Nat.reduceLeDiff, Nat.reduceLT, ↓reduceIte, reduceCtorEq, RunRes, resultsA, oneOf, AV.plain, AV.cells, AHeap.push, AHeap.set, AHeap.empty, fieldOf, loadA, storeA, BX.part, TK.isAgg, convA, builtinA, inertB, builtinP, buildA, fillA, splice, eqv, cellsEq, sizeT, adT, ldT, fwT, Nat.reduceBeqDiff, Nat.reduceBneDiff, Int.reduceBNe, Int.reduceBEq, Int.reduceEq, Int.reduceLT, Int.reduceLE, Int.reduceAdd, Int.reduceSub, Int.reduceMul, Int.reduceNeg, strBin, indexAddrA, elems, lenOf, chunk, List.reduceReplicate, Int.reduceToNat]
  refine call_body pure30 (noext _) body30 ?_
  simp only [hpl, hcl, n20_0, n20_1, n20_2, n20_3, n20_4, o20_1, o20_3, res20, n30_0, n30_1, n30_2, n30_3, n30_4, o30_1, o30_3, res30, TT_3, TT_4, TT_5, TT_9, TT_22, TT_25, TT_26, TT_29, TT_33, TT_38, TT_40, TT_42, TT_47, TT_50, TT_57, TT_59, TT_66, TT_68, TT_69, TT_70, TT_72, TT_81, bb, primP, primM, ev, evs, parts_, ofConst, bin, un, intBin, putA, enterT, Nat.reduceEqDiff, Nat.reduceAdd, Nat.reduceMul, Nat.reduceLeDiff, Nat.reduceLT, ↓reduceIte, reduceCtorEq, RunRes, resultsA, oneOf, AV.plain, AV.cells, AHeap.push, AHeap.set, AHeap.empty, fieldOf, loadA, storeA, BX.part, TK.isAgg, convA, builtinA, inertB, builtinP, buildA, fillA, splice, eqv, cellsEq, sizeT, adT, ldT, fwT, Nat.reduceBeqDiff, Nat.reduceBneDiff, Int.reduceBNe, Int.reduceBEq, Int.reduceEq, Int.reduceLT, Int.reduceLE, Int.reduceAdd, Int.reduceSub, Int.reduceMul, Int.reduceNeg, strBin, indexAddrA, elems, lenOf, chunk, List.reduceReplicate, Int.reduceToNat]
  exact hk rv n' A' xs hown hxs hp hn hkp
end
def pL (T : Nat → AV) (dl : Nat) : ALoop := { state := .ready, pending := none, fn := 4, T := T, params := [111], assign := c4_93, body := c4_94, defers := dl }
structure PLT (T : Nat → AV) (bm bn : Nat) : Prop where
  t5 : T 5 = .ptr 0 1 0 0
  t6 : T 6 = .ptr 1 1 0 0
  t16 : T 16 = .ptr bm 1 0 0
  t17 : T 17 = .ptr bn 1 0 0
structure PLH (w : AV) (stop : Int) (bm bn dl hb : Nat) (r : Bool) (cnt : Nat) (L : ALoop) (nx : Nat) (A : Nat → Blk) : Prop where
  a0 : A 0 = .cells 5 1 [[.int .u8 stop]]
  a1 : A 1 = .cells 4 1 [[.bool r]]
  am : A bm = .cells 22 1 [[w]]
  an : A bn = .cells 3 1 [[.int .i64 (cnt : Int)]]
  ad : A dl = .dfr
  al : A (dl + 1) = .loop L
  hn : hb < nx
structure PLN (bm bn dl hb : Nat) : Prop where
  h1 : 1 < bm
  h2 : bm < bn
  h3 : bn < dl
  h4 : dl + 1 < hb
theorem PLH.keep {w : AV} {stop : Int} {bm bn dl hb : Nat} (hN : PLN bm bn dl hb) {r : Bool} {cnt : Nat} {L : ALoop} {nx nx' : Nat} {A A' : Nat → Blk} (h : PLH w stop bm bn dl hb r cnt L nx A) (hn : nx ≤ nx') (ho : Oth hb nx A A') : PLH w stop bm bn dl hb r cnt L nx' A' := by
  obtain ⟨n1, n2, n3, n4⟩ := hN
  obtain ⟨a0, a1, am, an, ad, al, hx⟩ := h
  refine ⟨?_, ?_, ?_, ?_, ?_, ?_, by omega⟩
  · rw [ho 0 (by omega) (by omega) (.inl (by omega))]; exact a0
  · rw [ho 1 (by omega) (by omega) (.inl (by omega))]; exact a1
  · rw [ho bm (by omega) (by omega) (.inl (by omega))]; exact am
  · rw [ho bn (by omega) (by omega) (.inl (by omega))]; exact an
  · rw [ho dl (by omega) (by omega) (.inl (by omega))]; exact ad
  · rw [ho (dl + 1) (by omega) (by omega) (.inl (by omega))]; exact al
theorem pl_round {T : Nat → AV} {m : List Pr} {w : AV} {stop : Int} {bm bn dl hb : Nat} (hw : InE w m) (hm : m.length ≤ 100000) (hT : PLT T bm bn) (hN : PLN bm bn dl hb) :
    Rnd hb (dl + 1) (pL T dl) (fun out => PLH w stop bm bn dl hb false out.length (pL T dl)) (fun nx A => ∃ cnt L, PLH w stop bm bn dl hb true cnt L nx A ∧ L.state = .done ∧ L.pending = some .ret) m := by
  intro out more p nx A Q hmo hbn hI hQ hQ'
  have hol : out.length < m.length := by
    have := congrArg List.length hmo
    rw [List.length_append, List.length_cons] at this
    omega
  have hget : m[out.length]'hol = p := by
    subst hmo
    rw [List.getElem_append_right (Nat.le_refl _)]
    simp
  obtain rfl := hw.vec (by intro e; rw [e] at hol; simp at hol)
  obtain ⟨t5, t6, t16, t17⟩ := hT
  obtain ⟨n1, n2, n3, n4⟩ := hN
  obtain ⟨a0, a1, am, an, ad, al, hx⟩ := hI
  have ne0 : (0 = nx) = False := eq_false (by omega)
  have ne1 : (1 = nx) = False := eq_false (by omega)
  have nem : (bm = nx) = False := eq_false (by omega)
  have nen : (bn = nx) = False := eq_false (by omega)
  have nel : (dl + 1 = nx) = False := eq_false (by omega)
  have ned : (dl = nx) = False := eq_false (by omega)
  have nxl : (nx = dl + 1) = False := eq_false (by omega)
  have nxn : (nx = bn) = False := eq_false (by omega)
  have l0 : (0 = dl + 1) = False := eq_false (by omega)
  have l1 : (1 = dl + 1) = False := eq_false (by omega)
  have lm : (bm = dl + 1) = False := eq_false (by omega)
  have ln : (bn = dl + 1) = False := eq_false (by omega)
  have ld : (dl = dl + 1) = False := eq_false (by omega)
  have z0 : (0 = bn) = False := eq_false (by omega)
  have z1 : (1 = bn) = False := eq_false (by omega)
  have zm : (bm = bn) = False := eq_false (by omega)
  have zd : (dl = bn) = False := eq_false (by omega)
  have zl : (dl + 1 = bn) = False := eq_false (by omega)
  have y0 : (0 = 1) = False := eq_false (by omega)
  have ym : (bm = 1) = False := eq_false (by omega)
  have yn : (bn = 1) = False := eq_false (by omega)
  have yd : (dl = 1) = False := eq_false (by omega)
  have yl : (dl + 1 = 1) = False := eq_false (by omega)
  show Run Cx 4 (foldPut T [111] [pairA p]) [] (some (dl + 1)) [.code c4_93, .beginRound, .code c4_94] ⟨nx, A⟩ Q
  simp only [foldPut, upd2, n4_0, n4_1, n4_2, n4_3, n4_4, n4_5, n4_6, n4_7, n4_8, n4_9, n4_10, n4_11, n4_12, n4_13, n4_14, n4_15, n4_16, n4_17, n4_18, n4_19, n4_20, n4_21, n4_22, n4_23, n4_24, n4_25, n4_26, n4_27, n4_28, n4_29, n4_30, n4_31, n4_32, n4_33, n4_34, n4_35, n4_36, n4_37, n4_38, n4_39, n4_40, n4_41, n4_42, n4_43, n4_44, n4_45, n4_46, n4_47, n4_48, n4_49, n4_50, n4_51, n4_52, n4_53, n4_54, n4_55, n4_56, n4_57, n4_58, n4_59, n4_60, n4_61, n4_62, n4_63, n4_64, n4_65, n4_66, n4_67, n4_68, n4_69, n4_70, n4_71, n4_72, n4_73, n4_74, n4_75, n4_76, n4_77, n4_78, n4_79, n4_80, n4_81, n4_82, n4_83, n4_84, n4_85, n4_86, n4_87, n4_88, n4_89, n4_90, n4_91, n4_93, n4_95, n4_96, n4_97, n4_98, n4_99, n4_100, n4_101, n4_102, n4_103, n4_104, n4_105, n4_106, n4_107, n4_108, n4_109, n4_110, n4_111, n4_112, n4_113, n4_114, o4_1, o4_4, o4_7, o4_11, o4_14, o4_17, o4_21, o4_24, o4_29, o4_36, o4_38, o4_41, o4_43, o4_46, o4_49, o4_52, o4_54, o4_57, o4_60, o4_65, o4_70, o4_77, o4_80, o4_83, o4_85, o4_87, o4_90, o4_93, o4_97, o4_100, o4_104, o4_106, o4_109, o4_113, res4, TT_3, TT_4, TT_5, TT_9, TT_22, TT_25, TT_26, TT_29, TT_33, TT_38, TT_40, TT_42, TT_47, TT_50, TT_57, TT_59, TT_66, TT_68, TT_69, TT_70, TT_72, TT_81, bb, primP, primM, ev, evs, parts_, ofConst, bin, un, intBin, putA, enterT, Nat.reduceEqDiff, Nat.reduceAdd, Nat.reduceMul, Nat.reduceLeDiff, Nat.reduceLT, ↓reduceIte, reduceCtorEq, RunRes, resultsA, oneOf, AV.plain, AV.cells, AHeap.push, AHeap.set, AHeap.empty, fieldOf, loadA, storeA, BX.part, TK.isAgg, convA, builtinA, inertB, builtinP, buildA, fillA, splice, eqv, cellsEq, sizeT, adT, ldT, fwT, Nat.reduceBeqDiff, Nat.reduceBneDiff, Int.reduceBNe, Int.reduceBEq, Int.reduceEq, Int.reduceLT, Int.reduceLE, Int.reduceAdd, Int.reduceSub, Int.reduceMul, Int.reduceNeg, strBin, indexAddrA, elems, lenOf, chunk, List.reduceReplicate, Int.reduceToNat]
  rw [run_begin (L := pL T dl) (by simp only [upd_app, nel, ↓reduceIte]; exact al) rfl]
  simp only [AHeap.set]
  have c0 : ¬ (m.map encP).length ≤ out.length := by rw [List.length_map]; omega
  have c1 : ¬ ((m.map encP).length : Int) ≤ (out.length : Int) := by rw [List.length_map]; omega
  have p0 : (0 : Int) ≤ (out.length : Int) := by omega
  have lt : (out.length : Int) < ((m.map encP).length : Int) := by rw [List.length_map]; omega
  have g0 := enc_get (List.getElem?_eq_getElem hol)
  rw [hget] at g0
  have w1 : IntKind.i64.wrap ((out.length : Int) + 1) = ((out.length + 1 : Nat) : Int) := by rw [wr64 (by omega) (by omega)]; omega
  by_cases e : (((out.length + 1 : Nat) : Int) == IntKind.i64.wrap stop) = true
  · simp only [t5, t6, t16, t17, a0, a1, am, an, ad, al, ne0, ne1, nem, nen, nel, ned, nxl, nxn, l0, l1, lm, ln, ld, z0, z1, zm, zd, zl, y0, ym, yn, yd, yl, c1, p0, lt, g0, w1, e, lenOf, i64, Int.toNat_natCast, run_exit_start, exit_here, exit_code, exit_inLoop, run_inBlock, n4_0, n4_1, n4_2, n4_3, n4_4, n4_5, n4_6, n4_7, n4_8, n4_9, n4_10, n4_11, n4_12, n4_13, n4_14, n4_15, n4_16, n4_17, n4_18, n4_19, n4_20, n4_21, n4_22, n4_23, n4_24, n4_25, n4_26, n4_27, n4_28, n4_29, n4_30, n4_31, n4_32, n4_33, n4_34, n4_35, n4_36, n4_37, n4_38, n4_39, n4_40, n4_41, n4_42, n4_43, n4_44, n4_45, n4_46, n4_47, n4_48, n4_49, n4_50, n4_51, n4_52, n4_53, n4_54, n4_55, n4_56, n4_57, n4_58, n4_59, n4_60, n4_61, n4_62, n4_63, n4_64, n4_65, n4_66, n4_67, n4_68, n4_69, n4_70, n4_71, n4_72, n4_73, n4_74, n4_75, n4_76, n4_77, n4_78, n4_79, n4_80, n4_81, n4_82, n4_83, n4_84, n4_85, n4_86, n4_87, n4_88, n4_89, n4_90, n4_91, n4_93, n4_94, n4_95, n4_96, n4_97, n4_98, n4_99, n4_100, n4_101, n4_102, n4_103, n4_104, n4_105, n4_106, n4_107, n4_108, n4_109, n4_111, n4_112, n4_113, n4_114, o4_1, o4_4, o4_7, o4_11, o4_14, o4_17, o4_21, o4_24, o4_29, o4_36, o4_38, o4_41, o4_43, o4_46, o4_49, o4_52, o4_54, o4_57, o4_60, o4_65, o4_70, o4_77, o4_80, o4_83, o4_85, o4_87, o4_90, o4_93, o4_97, o4_100, o4_104, o4_106, o4_109, o4_113, res4, TT_3, TT_4, TT_5, TT_9, TT_22, TT_25, TT_26, TT_29, TT_33, TT_38, TT_40, TT_42, TT_47, TT_50, TT_57, TT_59, TT_66, TT_68, TT_69, TT_70, TT_72, TT_81, bb, primP, primM, ev, evs, parts_, ofConst, bin, un, intBin, putA, enterT, Nat.reduceEqDiff, Nat.reduceAdd, Nat.reduceMul, Nat.reduceLeDiff, Nat.reduceLT, ↓reduceIte, reduceCtorEq, RunRes, resultsA, oneOf, AV.plain, AV.cells, AHeap.push, AHeap.set, AHeap.empty, fieldOf, loadA, storeA, BX.part, TK.isAgg, convA, builtinA, inertB, builtinP, buildA, fillA, splice, eqv, cellsEq, sizeT, adT, ldT, fwT, Nat.reduceBeqDiff, Nat.reduceBneDiff, Int.reduceBNe, Int.reduceBEq, Int.reduceEq, Int.reduceLT, Int.reduceLE, Int.reduceAdd, Int.reduceSub, Int.reduceMul, Int.reduceNeg, strBin, indexAddrA, elems, lenOf, chunk, List.reduceReplicate, Int.reduceToNat]
    unfold c4_110
    rw [round_ret (L := { pL T dl with state := .busy }) (by simp only [upd_app, zl, yl, ↓reduceIte])]
    refine hQ' _ _ ⟨out.length + 1, { pL T dl with state := .done, pending := some .ret }, ⟨?_, ?_, ?_, ?_, ?_, ?_, ?_⟩, rfl, rfl⟩
    all_goals first | (simp only [AHeap.set, upd_app, a0, a1, am, an, ad, al, ne0, ne1, nem, nen, nel, ned, l0, l1, lm, ln, ld, z0, z1, zm, zd, zl, y0, ym, yn, yd, yl, ↓reduceIte, Nat.reduceEqDiff]; done) | (show hb < nx + 1; omega)
  · rw [Bool.not_eq_true] at e
    simp only [t5, t6, t16, t17, a0, a1, am, an, ad, al, ne0, ne1, nem, nen, nel, ned, nxl, nxn, l0, l1, lm, ln, ld, z0, z1, zm, zd, zl, y0, ym, yn, yd, yl, c1, p0, lt, g0, w1, e, lenOf, i64, Int.toNat_natCast, run_exit_start, exit_here, exit_code, exit_inLoop, run_inBlock, n4_0, n4_1, n4_2, n4_3, n4_4, n4_5, n4_6, n4_7, n4_8, n4_9, n4_10, n4_11, n4_12, n4_13, n4_14, n4_15, n4_16, n4_17, n4_18, n4_19, n4_20, n4_21, n4_22, n4_23, n4_24, n4_25, n4_26, n4_27, n4_28, n4_29, n4_30, n4_31, n4_32, n4_33, n4_34, n4_35, n4_36, n4_37, n4_38, n4_39, n4_40, n4_41, n4_42, n4_43, n4_44, n4_45, n4_46, n4_47, n4_48, n4_49, n4_50, n4_51, n4_52, n4_53, n4_54, n4_55, n4_56, n4_57, n4_58, n4_59, n4_60, n4_61, n4_62, n4_63, n4_64, n4_65, n4_66, n4_67, n4_68, n4_69, n4_70, n4_71, n4_72, n4_73, n4_74, n4_75, n4_76, n4_77, n4_78, n4_79, n4_80, n4_81, n4_82, n4_83, n4_84, n4_85, n4_86, n4_87, n4_88, n4_89, n4_90, n4_91, n4_93, n4_94, n4_95, n4_96, n4_97, n4_98, n4_99, n4_100, n4_101, n4_102, n4_103, n4_104, n4_105, n4_106, n4_107, n4_108, n4_109, n4_110, n4_111, n4_112, n4_113, n4_114, o4_1, o4_4, o4_7, o4_11, o4_14, o4_17, o4_21, o4_24, o4_29, o4_36, o4_38, o4_41, o4_43, o4_46, o4_49, o4_52, o4_54, o4_57, o4_60, o4_65, o4_70, o4_77, o4_80, o4_83, o4_85, o4_87, o4_90, o4_93, o4_97, o4_100, o4_104, o4_106, o4_109, o4_113, res4, TT_3, TT_4, TT_5, TT_9, TT_22, TT_25, TT_26, TT_29, TT_33, TT_38, TT_40, TT_42, TT_47, TT_50, TT_57, TT_59, TT_66, TT_68, TT_69, TT_70, TT_72, TT_81, bb, primP, primM, ev, evs, parts_, ofConst, bin, un, intBin, putA, enterT, Nat.reduceEqDiff, Nat.reduceAdd, Nat.reduceMul, Nat.reduceLeDiff, Nat.reduceLT, ↓reduceIte, reduceCtorEq, RunRes, resultsA, oneOf, AV.plain, AV.cells, AHeap.push, AHeap.set, AHeap.empty, fieldOf, loadA, storeA, BX.part, TK.isAgg, convA, builtinA, inertB, builtinP, buildA, fillA, splice, eqv, cellsEq, sizeT, adT, ldT, fwT, Nat.reduceBeqDiff, Nat.reduceBneDiff, Int.reduceBNe, Int.reduceBEq, Int.reduceEq, Int.reduceLT, Int.reduceLE, Int.reduceAdd, Int.reduceSub, Int.reduceMul, Int.reduceNeg, strBin, indexAddrA, elems, lenOf, chunk, List.reduceReplicate, Int.reduceToNat]
    rw [round_nil (L := { pL T dl with state := .busy }) (by simp only [upd_app, zl, ↓reduceIte])]
    refine hQ _ _ ⟨?_, ?_, ?_, ?_, ?_, ?_, ?_⟩ (Nat.le_succ nx) ?_
    · simp only [AHeap.set, upd_app, a0, ne0, l0, z0, ↓reduceIte]
    · simp only [AHeap.set, upd_app, a1, ne1, l1, z1, ↓reduceIte]
    · simp only [AHeap.set, upd_app, am, nem, lm, zm, ↓reduceIte]
    · simp only [AHeap.set, upd_app, ln, ↓reduceIte, List.length_append, List.length_singleton]
    · simp only [AHeap.set, upd_app, ad, ned, ld, zd, ↓reduceIte]
    · simp only [AHeap.set, upd_app, ↓reduceIte]
      rfl
    · show hb < nx + 1
      omega
    · intro c hc hcc
      simp only [AHeap.set, upd_app]
      have : c ≠ dl + 1 ∧ c ≠ bn := by
        rcases hcc with rfl | ⟨es, he⟩ | ⟨_, es, he⟩
        · exact ⟨by omega, by omega⟩
        · refine ⟨?_, ?_⟩ <;> rintro rfl
          · rw [al] at he; cases he
          · rw [an] at he; cases he
        · refine ⟨?_, ?_⟩ <;> rintro rfl
          · rw [al] at he; cases he
          · rw [an] at he; cases he
      rw [if_neg this.1, if_neg this.2, if_neg this.1, if_neg (by omega)]
end Go.Proofs.Ytbfjkomlnpolmaa.G

namespace Go.Proofs.Ytbfjkomlnpolmaa.G
open Go.BX
set_option linter.unusedSimpArgs false
set_option linter.unusedVariables false
theorem SS.keepF {F : Nat → Prop} {h0 room b n : Nat} {A A' : Nat → Blk} {now : List Pr} {rs : List (AV × List Pr)} {cnt : Nat} (h : SS h0 room b n A now rs cnt) (hs : Sep F b A) (hk : ∀ c, c < n → ¬ F c → A' c = A c) : SS h0 room b n A' now rs cnt := by
  obtain ⟨h1, h2, ⟨vn, vr, h3, h4, h5⟩, h6⟩ := h
  refine ⟨h1, h2, ⟨vn, vr, by rw [hk b h2 hs.1]; exact h3, ?_, ?_⟩, h6⟩
  · rcases h4 with h | ⟨g, rfl, g2, g3, g4⟩
    · exact .inl h
    · exact .inr ⟨g, rfl, g2, g3, by rw [hk g g3 (fun hf => (hs.2 _ _ _ _ h3 g hf).1 _ _ rfl)]; exact g4⟩
  · rcases h5 with h | ⟨g, rfl, g2, g3, g4⟩
    · exact .inl h
    · exact .inr ⟨g, rfl, g2, g3, by rw [hk g g3 (fun hf => (hs.2 _ _ _ _ h3 g hf).2 _ _ rfl)]; exact g4⟩
def okP (p : Pr) : Bool := !badP p
theorem pt_all {room : Nat} {stop : Int} {l : List Pr} {Q : AV → AHeap → Prop} (hl : l.length ≤ 1000) (hr : 0 < room)
    (hK : ∀ (T : Nat → AV) (n : Nat) (A : Nat → Blk) (now : List Pr) (rs : List (AV × List Pr)) (d : AV), T 1 = .int .i64 (room : Int) → T 5 = .ptr 0 1 0 0 → T 6 = .ptr 1 1 0 0 → T 7 = .ptr 2 4 0 0 → T 9 = d → A 0 = .cells 5 1 [[.int .u8 stop]] → A 1 = .cells 4 1 [[.bool false]] → 2 < n → SS 2 room 2 n A now rs (l.filter okP).length → Chk room (l.filter okP) now rs → OwnK 3 42 6 d n A ((l.filter okP).map encP) →
      Run Cx 4 T [] none [.code c4_53] ⟨n, A⟩ Q) :
    ∀ (j i : Nat) (T : Nat → AV) (n : Nat) (A : Nat → Blk) (now : List Pr) (rs : List (AV × List Pr)) (d : AV), i + j = l.length → T 0 = .vec 6 (l.map encP) → T 1 = .int .i64 (room : Int) → T 5 = .ptr 0 1 0 0 → T 6 = .ptr 1 1 0 0 → T 7 = .ptr 2 4 0 0 → T 9 = d → T 10 = .int .i64 (i : Int) → A 0 = .cells 5 1 [[.int .u8 stop]] → A 1 = .cells 4 1 [[.bool false]] → 2 < n → SS 2 room 2 n A now rs ((l.take i).filter okP).length → Chk room ((l.take i).filter okP) now rs → OwnK 3 42 6 d n A (((l.take i).filter okP).map encP) → Sep (fun g => ∃ m, d = .slc g 6 0 m) 2 A →
      Run Cx 4 T [] none [.inLoop c4_27, .inBlock 0, .code c4_53] ⟨n, A⟩ Q
  | 0, i, T, n, A, now, rs, d, hij, t0, t1, t5, t6, t7, t9, t10, a0, a1, hn, hS, hC, hd, hsep => by
    rw [run_inLoop]
    have c0 : ¬ (i : Int) < ((l.map encP).length : Int) := by rw [List.length_map]; omega
    rw [List.take_of_length_le (by omega)] at hS hC hd
    simp only [t0, t1, t5, t6, t7, t9, t10, c0, lenOf, i64, run_exit_start, exit_here, exit_code, exit_inLoop, run_inBlock, n4_0, n4_1, n4_2, n4_3, n4_4, n4_5, n4_6, n4_7, n4_8, n4_9, n4_10, n4_11, n4_12, n4_13, n4_14, n4_15, n4_16, n4_17, n4_18, n4_19, n4_20, n4_21, n4_22, n4_23, n4_24, n4_25, n4_26, n4_27, n4_28, n4_29, n4_30, n4_31, n4_32, n4_33, n4_34, n4_35, n4_36, n4_37, n4_38, n4_39, n4_40, n4_41, n4_42, n4_43, n4_44, n4_45, n4_46, n4_47, n4_48, n4_49, n4_50, n4_51, n4_52, n4_54, n4_55, n4_56, n4_57, n4_58, n4_59, n4_60, n4_61, n4_62, n4_63, n4_64, n4_65, n4_66, n4_67, n4_68, n4_69, n4_70, n4_71, n4_72, n4_73, n4_74, n4_75, n4_76, n4_77, n4_78, n4_79, n4_80, n4_81, n4_82, n4_83, n4_84, n4_85, n4_86, n4_87, n4_88, n4_89, n4_90, n4_91, n4_93, n4_94, n4_95, n4_96, n4_97, n4_98, n4_99, n4_100, n4_101, n4_102, n4_103, n4_104, n4_105, n4_106, n4_107, n4_108, n4_109, n4_110, n4_111, n4_112, n4_113, n4_114, o4_1, o4_4, o4_7, o4_11, o4_14, o4_17, o4_21, o4_24, o4_29, o4_36, o4_38, o4_41, o4_43, o4_46, o4_49, o4_52, o4_54, o4_57, o4_60, o4_65, o4_70, o4_77, o4_80, o4_83, o4_85, o4_87, o4_90, o4_93, o4_97, o4_100, o4_104, o4_106, o4_109, o4_113, res4, TT_3, TT_4, TT_5, TT_9, TT_22, TT_25, TT_26, TT_29, TT_33, TT_38, TT_40, TT_42, TT_47, TT_50, TT_57, TT_59, TT_66, TT_68, TT_69, TT_70, TT_72, TT_81, bb, primP, primM, ev, evs, parts_, ofConst, bin, un, intBin, putA, enterT, Nat.reduceEqDiff, Nat.reduceAdd, Nat.reduceMul, Nat.reduceLeDiff, Nat.reduceLT, ↓reduceIte, reduceCtorEq, RunRes, resultsA, oneOf, AV.plain, AV.cells, AHeap.push, AHeap.set, AHeap.empty, fieldOf, loadA, storeA, BX.part, TK.isAgg, convA, builtinA, inertB, builtinP, buildA, fillA, splice, eqv, cellsEq, sizeT, adT, ldT, fwT, Nat.reduceBeqDiff, Nat.reduceBneDiff, Int.reduceBNe, Int.reduceBEq, Int.reduceEq, Int.reduceLT, Int.reduceLE, Int.reduceAdd, Int.reduceSub, Int.reduceMul, Int.reduceNeg, strBin, indexAddrA, elems, lenOf, chunk, List.reduceReplicate, Int.reduceToNat]
    refine hK _ n A now rs d ?_ ?_ ?_ ?_ ?_ a0 a1 hn hS hC hd
    all_goals simp only [upd_app, t1, t5, t6, t7, t9, Nat.reduceEqDiff, ↓reduceIte]
  | j + 1, i, T, n, A, now, rs, d, hij, t0, t1, t5, t6, t7, t9, t10, a0, a1, hn, hS, hC, hd, hsep => by
    rw [run_inLoop]
    have hi : i < l.length := by omega
    have c0 : (i : Int) < ((l.map encP).length : Int) := by rw [List.length_map]; omega
    have c1 : ((i + 1 : Nat) : Int) ≤ ((l.map encP).length : Int) := by rw [List.length_map]; omega
    have p0 : (0 : Int) ≤ (i : Int) := by omega
    have p1 : (0 : Int) ≤ ((i + 1 : Nat) : Int) := by omega
    have q1 : (i : Int) ≤ ((i + 1 : Nat) : Int) := by omega
    have w1 : IntKind.i64.wrap ((i : Int) + 1) = ((i + 1 : Nat) : Int) := by rw [wr64 (by omega) (by omega)]; omega
    have g0 := enc_get (List.getElem?_eq_getElem hi)
    have hsl : ((l.map encP).take (i + 1)).drop i = [[.str (l[i]).key, .int .i64 (l[i]).k, .int .i64 (l[i]).n, .str (l[i]).s, .int .i64 (l[i]).x, .int .i64 (l[i]).y]] := by
      rw [← List.map_take, ← List.map_drop, List.take_succ_eq_append_getElem hi, List.drop_append_of_le_length (by rw [List.length_take]; omega), List.drop_of_length_le (by rw [List.length_take]; omega)]
      rfl
    have hR := refR1_ok l[i]
    have hfl : ((l.take i).filter okP).length ≤ i := Nat.le_trans (List.length_filter_le _ _) (by rw [List.length_take]; omega)
    have hnl : now.length ≤ 90000 := by
      have := hC.rst
      rw [this, List.length_drop]; omega
    have hrl : rs.length ≤ 100000 := by
      have h1 := hC.le
      have : rs.length * 1 ≤ rs.length * room := Nat.mul_le_mul_left _ hr
      omega
    have htk : l.take (i + 1) = l.take i ++ [l[i]] := List.take_succ_eq_append_getElem hi
    have hdl := hd.lenOf
    rw [List.length_map] at hdl
    simp only [lenOf] at hdl
    cases hb : badP l[i] with
    | true =>
      rw [hb] at hR
      have hf : (l.take (i + 1)).filter okP = (l.take i).filter okP := by
        rw [htk, List.filter_append]; simp [okP, hb]
      simp only [t0, t1, t5, t6, t7, t9, t10, c0, p0, g0, lenOf, i64, Int.toNat_natCast, run_exit_start, exit_here, exit_code, exit_inLoop, run_inBlock, n4_0, n4_1, n4_2, n4_3, n4_4, n4_5, n4_6, n4_7, n4_8, n4_9, n4_10, n4_11, n4_12, n4_13, n4_14, n4_15, n4_16, n4_17, n4_18, n4_19, n4_20, n4_21, n4_22, n4_23, n4_24, n4_25, n4_26, n4_27, n4_28, n4_29, n4_30, n4_31, n4_32, n4_33, n4_34, n4_35, n4_36, n4_38, n4_39, n4_40, n4_41, n4_42, n4_43, n4_44, n4_46, n4_47, n4_48, n4_49, n4_50, n4_51, n4_52, n4_54, n4_55, n4_56, n4_57, n4_58, n4_59, n4_60, n4_61, n4_62, n4_63, n4_64, n4_65, n4_66, n4_67, n4_68, n4_69, n4_70, n4_71, n4_72, n4_73, n4_74, n4_75, n4_76, n4_77, n4_78, n4_79, n4_80, n4_81, n4_82, n4_83, n4_84, n4_85, n4_86, n4_87, n4_88, n4_89, n4_90, n4_91, n4_93, n4_94, n4_95, n4_96, n4_97, n4_98, n4_99, n4_100, n4_101, n4_102, n4_103, n4_104, n4_105, n4_106, n4_107, n4_108, n4_109, n4_110, n4_111, n4_112, n4_113, n4_114, o4_1, o4_4, o4_7, o4_11, o4_14, o4_17, o4_21, o4_24, o4_29, o4_36, o4_38, o4_41, o4_43, o4_46, o4_49, o4_52, o4_54, o4_57, o4_60, o4_65, o4_70, o4_77, o4_80, o4_83, o4_85, o4_87, o4_90, o4_93, o4_97, o4_100, o4_104, o4_106, o4_109, o4_113, res4, TT_3, TT_4, TT_5, TT_9, TT_22, TT_25, TT_26, TT_29, TT_33, TT_38, TT_40, TT_42, TT_47, TT_50, TT_57, TT_59, TT_66, TT_68, TT_69, TT_70, TT_72, TT_81, bb, primP, primM, ev, evs, parts_, ofConst, bin, un, intBin, putA, enterT, Nat.reduceEqDiff, Nat.reduceAdd, Nat.reduceMul, Nat.reduceLeDiff, Nat.reduceLT, ↓reduceIte, reduceCtorEq, RunRes, resultsA, oneOf, AV.plain, AV.cells, AHeap.push, AHeap.set, AHeap.empty, fieldOf, loadA, storeA, BX.part, TK.isAgg, convA, builtinA, inertB, builtinP, buildA, fillA, splice, eqv, cellsEq, sizeT, adT, ldT, fwT, Nat.reduceBeqDiff, Nat.reduceBneDiff, Int.reduceBNe, Int.reduceBEq, Int.reduceEq, Int.reduceLT, Int.reduceLE, Int.reduceAdd, Int.reduceSub, Int.reduceMul, Int.reduceNeg, strBin, indexAddrA, elems, lenOf, chunk, List.reduceReplicate, Int.reduceToNat]
      refine Put_no hS hb ?_
      intro n' A' hS' hn' hk'
      have e1 : ((((l.take i).filter okP).length : Int) != (((l.take i).filter okP).length : Int)) = false := by simp
      simp only [t0, t1, t5, t6, t7, t9, t10, c0, c1, p0, p1, q1, w1, hsl, call_pure pure16 rfl hR, sliceA, bnds, bound, evo, lenOf, i64, Int.toNat_natCast, run_exit_start, exit_here, exit_code, exit_inLoop, run_inBlock, n4_0, n4_1, n4_2, n4_3, n4_4, n4_5, n4_6, n4_7, n4_8, n4_9, n4_10, n4_11, n4_12, n4_13, n4_14, n4_15, n4_16, n4_17, n4_18, n4_19, n4_20, n4_21, n4_22, n4_23, n4_24, n4_25, n4_26, n4_27, n4_28, n4_29, n4_30, n4_31, n4_32, n4_33, n4_34, n4_35, n4_36, n4_37, n4_38, n4_39, n4_40, n4_41, n4_42, n4_43, n4_44, n4_45, n4_46, n4_47, n4_48, n4_49, n4_50, n4_51, n4_54, n4_55, n4_56, n4_57, n4_58, n4_59, n4_60, n4_61, n4_62, n4_63, n4_64, n4_65, n4_66, n4_67, n4_68, n4_69, n4_70, n4_71, n4_72, n4_73, n4_74, n4_75, n4_76, n4_77, n4_78, n4_79, n4_80, n4_81, n4_82, n4_83, n4_84, n4_85, n4_86, n4_87, n4_88, n4_89, n4_90, n4_91, n4_93, n4_94, n4_95, n4_96, n4_97, n4_98, n4_99, n4_100, n4_101, n4_102, n4_103, n4_104, n4_105, n4_106, n4_107, n4_108, n4_109, n4_110, n4_111, n4_112, n4_113, n4_114, o4_1, o4_4, o4_7, o4_11, o4_14, o4_17, o4_21, o4_24, o4_29, o4_36, o4_38, o4_41, o4_43, o4_46, o4_49, o4_52, o4_54, o4_57, o4_60, o4_65, o4_70, o4_77, o4_80, o4_83, o4_85, o4_87, o4_90, o4_93, o4_97, o4_100, o4_104, o4_106, o4_109, o4_113, res4, TT_3, TT_4, TT_5, TT_9, TT_22, TT_25, TT_26, TT_29, TT_33, TT_38, TT_40, TT_42, TT_47, TT_50, TT_57, TT_59, TT_66, TT_68, TT_69, TT_70, TT_72, TT_81, bb, primP, primM, ev, evs, parts_, ofConst, bin, un, intBin, putA, enterT, Nat.reduceEqDiff, Nat.reduceAdd, Nat.reduceMul, Nat.reduceLeDiff, Nat.reduceLT, ↓reduceIte, reduceCtorEq, RunRes, resultsA, oneOf, AV.plain, AV.cells, AHeap.push, AHeap.set, AHeap.empty, fieldOf, loadA, storeA, BX.part, TK.isAgg, convA, builtinA, inertB, builtinP, buildA, fillA, splice, eqv, cellsEq, sizeT, adT, ldT, fwT, Nat.reduceBeqDiff, Nat.reduceBneDiff, Int.reduceBNe, Int.reduceBEq, Int.reduceEq, Int.reduceLT, Int.reduceLE, Int.reduceAdd, Int.reduceSub, Int.reduceMul, Int.reduceNeg, strBin, indexAddrA, elems, lenOf, chunk, List.reduceReplicate, Int.reduceToNat]
      refine Count_call hS' ?_
      simp only [t0, t1, t5, t6, t7, t9, t10, w1, hdl, e1, lenOf, i64, run_exit_start, exit_here, exit_code, exit_inLoop, run_inBlock, n4_0, n4_1, n4_2, n4_3, n4_4, n4_5, n4_6, n4_7, n4_8, n4_9, n4_10, n4_11, n4_12, n4_13, n4_14, n4_15, n4_16, n4_17, n4_18, n4_19, n4_20, n4_21, n4_22, n4_23, n4_24, n4_25, n4_26, n4_27, n4_28, n4_29, n4_30, n4_31, n4_32, n4_33, n4_34, n4_35, n4_36, n4_37, n4_38, n4_39, n4_40, n4_41, n4_42, n4_43, n4_44, n4_45, n4_46, n4_47, n4_48, n4_49, n4_50, n4_51, n4_52, n4_54, n4_55, n4_56, n4_57, n4_58, n4_59, n4_60, n4_61, n4_62, n4_63, n4_64, n4_65, n4_66, n4_67, n4_68, n4_69, n4_70, n4_71, n4_72, n4_73, n4_74, n4_75, n4_76, n4_77, n4_78, n4_79, n4_80, n4_81, n4_82, n4_83, n4_84, n4_85, n4_86, n4_87, n4_88, n4_89, n4_90, n4_91, n4_93, n4_94, n4_95, n4_96, n4_97, n4_98, n4_99, n4_100, n4_101, n4_102, n4_103, n4_104, n4_105, n4_106, n4_107, n4_108, n4_109, n4_110, n4_111, n4_112, n4_113, n4_114, o4_1, o4_4, o4_7, o4_11, o4_14, o4_17, o4_21, o4_24, o4_29, o4_36, o4_38, o4_41, o4_43, o4_46, o4_49, o4_52, o4_54, o4_57, o4_60, o4_65, o4_70, o4_77, o4_80, o4_83, o4_85, o4_87, o4_90, o4_93, o4_97, o4_100, o4_104, o4_106, o4_109, o4_113, res4, TT_3, TT_4, TT_5, TT_9, TT_22, TT_25, TT_26, TT_29, TT_33, TT_38, TT_40, TT_42, TT_47, TT_50, TT_57, TT_59, TT_66, TT_68, TT_69, TT_70, TT_72, TT_81, bb, primP, primM, ev, evs, parts_, ofConst, bin, un, intBin, putA, enterT, Nat.reduceEqDiff, Nat.reduceAdd, Nat.reduceMul, Nat.reduceLeDiff, Nat.reduceLT, ↓reduceIte, reduceCtorEq, RunRes, resultsA, oneOf, AV.plain, AV.cells, AHeap.push, AHeap.set, AHeap.empty, fieldOf, loadA, storeA, BX.part, TK.isAgg, convA, builtinA, inertB, builtinP, buildA, fillA, splice, eqv, cellsEq, sizeT, adT, ldT, fwT, Nat.reduceBeqDiff, Nat.reduceBneDiff, Int.reduceBNe, Int.reduceBEq, Int.reduceEq, Int.reduceLT, Int.reduceLE, Int.reduceAdd, Int.reduceSub, Int.reduceMul, Int.reduceNeg, strBin, indexAddrA, elems, lenOf, chunk, List.reduceReplicate, Int.reduceToNat]
      refine pt_all hl hr hK j (i + 1) _ n' A' now rs d (by omega) ?_ ?_ ?_ ?_ ?_ ?_ ?_ (by rw [hk' 0 (by omega)]; exact a0) (by rw [hk' 1 (by omega)]; exact a1) (by omega) (by rw [hf]; exact hS') (by rw [hf]; exact hC) (by rw [hf]; exact hd.keep hn' (fun g hg _ => hk' g hg)) ?_
      rotate_right
      · refine ⟨hsep.1, fun r vn vr c he => hsep.2 r vn vr c ?_⟩
        rw [hk' 2 hn] at he; exact he
      all_goals simp only [upd_app, t0, t1, t5, t6, t7, t9, Nat.reduceEqDiff, ↓reduceIte]
    | false =>
      rw [hb] at hR
      have hf : (l.take (i + 1)).filter okP = (l.take i).filter okP ++ [l[i]] := by
        rw [htk, List.filter_append]; simp [okP, hb]
      simp only [t0, t1, t5, t6, t7, t9, t10, c0, p0, g0, lenOf, i64, Int.toNat_natCast, run_exit_start, exit_here, exit_code, exit_inLoop, run_inBlock, n4_0, n4_1, n4_2, n4_3, n4_4, n4_5, n4_6, n4_7, n4_8, n4_9, n4_10, n4_11, n4_12, n4_13, n4_14, n4_15, n4_16, n4_17, n4_18, n4_19, n4_20, n4_21, n4_22, n4_23, n4_24, n4_25, n4_26, n4_27, n4_28, n4_29, n4_30, n4_31, n4_32, n4_33, n4_34, n4_35, n4_36, n4_38, n4_39, n4_40, n4_41, n4_42, n4_43, n4_44, n4_46, n4_47, n4_48, n4_49, n4_50, n4_51, n4_52, n4_54, n4_55, n4_56, n4_57, n4_58, n4_59, n4_60, n4_61, n4_62, n4_63, n4_64, n4_65, n4_66, n4_67, n4_68, n4_69, n4_70, n4_71, n4_72, n4_73, n4_74, n4_75, n4_76, n4_77, n4_78, n4_79, n4_80, n4_81, n4_82, n4_83, n4_84, n4_85, n4_86, n4_87, n4_88, n4_89, n4_90, n4_91, n4_93, n4_94, n4_95, n4_96, n4_97, n4_98, n4_99, n4_100, n4_101, n4_102, n4_103, n4_104, n4_105, n4_106, n4_107, n4_108, n4_109, n4_110, n4_111, n4_112, n4_113, n4_114, o4_1, o4_4, o4_7, o4_11, o4_14, o4_17, o4_21, o4_24, o4_29, o4_36, o4_38, o4_41, o4_43, o4_46, o4_49, o4_52, o4_54, o4_57, o4_60, o4_65, o4_70, o4_77, o4_80, o4_83, o4_85, o4_87, o4_90, o4_93, o4_97, o4_100, o4_104, o4_106, o4_109, o4_113, res4, TT_3, TT_4, TT_5, TT_9, TT_22, TT_25, TT_26, TT_29, TT_33, TT_38, TT_40, TT_42, TT_47, TT_50, TT_57, TT_59, TT_66, TT_68, TT_69, TT_70, TT_72, TT_81, bb, primP, primM, ev, evs, parts_, ofConst, bin, un, intBin, putA, enterT, Nat.reduceEqDiff, Nat.reduceAdd, Nat.reduceMul, Nat.reduceLeDiff, Nat.reduceLT, ↓reduceIte, reduceCtorEq, RunRes, resultsA, oneOf, AV.plain, AV.cells, AHeap.push, AHeap.set, AHeap.empty, fieldOf, loadA, storeA, BX.part, TK.isAgg, convA, builtinA, inertB, builtinP, buildA, fillA, splice, eqv, cellsEq, sizeT, adT, ldT, fwT, Nat.reduceBeqDiff, Nat.reduceBneDiff, Int.reduceBNe, Int.reduceBEq, Int.reduceEq, Int.reduceLT, Int.reduceLE, Int.reduceAdd, Int.reduceSub, Int.reduceMul, Int.reduceNeg, strBin, indexAddrA, elems, lenOf, chunk, List.reduceReplicate, Int.reduceToNat]
      have hFn : ∀ g, (∃ m, d = .slc g 6 0 m) → g < n := by
        rintro g ⟨m, e⟩
        rcases hd with ⟨rfl, _⟩ | ⟨g', rfl, _, h, _⟩
        · cases e
        · cases e; exact h
      refine Put_callF (F := fun g => ∃ m, d = .slc g 6 0 m) hS hFn hsep hb hnl hrl (by omega) ?_
      intro n' A' now' rs' hS' hn' hk0 hkF hsep' hcase
      have hC' : Chk room ((l.take (i + 1)).filter okP) now' rs' := by
        rw [hf]
        rcases hcase with ⟨h1, rfl, rfl⟩ | ⟨h1, rfl, w, m, rfl, hs⟩
        · exact hC.put _ h1
        · exact hC.full _ h1 hs
      have hd' : OwnK 3 42 6 d n' A' (((l.take i).filter okP).map encP) := by
        rcases hd with h | ⟨g, rfl, g1, g2, g3⟩
        · exact .inl h
        · exact .inr ⟨g, rfl, g1, by omega, by rw [hkF g ⟨_, rfl⟩]; exact g3⟩
      obtain ⟨A2, ha, hown, hkeep, hkeep2⟩ := hd'.app1s (row := encP l[i]) (by omega) psl pti (by unfold most; rw [List.length_map]; omega) (by unfold most; rw [List.length_map]; omega)
      simp only [encP] at ha
      have hS2 : SS 2 room 2 n' A2 now' rs' (((l.take i).filter okP).length + 1) := hS'.keepF hsep' (fun c hc hnF => hkeep2 c hc (fun m e => hnF ⟨m, e⟩))
      have hsep2 : Sep (fun g => ∃ m, AV.slc (n' + 1) 6 0 ((((l.take i).filter okP).map encP).length + 1) = .slc g 6 0 m) 2 A2 := hS2.sep (fun g hg => by
        obtain ⟨m, e⟩ := hg
        cases e; omega)
      have hS3 : SS 2 room 2 (n' + 1 + 1) A2 now' rs' ((l.take (i + 1)).filter okP).length := by
        rw [hf, List.length_append, List.length_singleton]
        exact hS2.keep (by omega) (fun _ _ _ => rfl)
      have e1 : ((((l.take (i + 1)).filter okP).length : Int) != (((((l.take i).filter okP).map encP).length + 1 : Nat) : Int)) = false := by
        rw [hf, List.length_append, List.length_singleton, List.length_map]; simp
      simp only [t0, t1, t5, t6, t7, t9, t10, c0, c1, p0, p1, q1, w1, g0, hsl, ha, call_pure pure16 rfl hR, sliceA, bnds, bound, evo, lenOf, i64, runVH_some, Int.toNat_natCast, run_exit_start, exit_here, exit_code, exit_inLoop, run_inBlock, n4_0, n4_1, n4_2, n4_3, n4_4, n4_5, n4_6, n4_7, n4_8, n4_9, n4_10, n4_11, n4_12, n4_13, n4_14, n4_15, n4_16, n4_17, n4_18, n4_19, n4_20, n4_21, n4_22, n4_23, n4_24, n4_25, n4_26, n4_27, n4_28, n4_29, n4_30, n4_31, n4_32, n4_33, n4_34, n4_35, n4_36, n4_37, n4_38, n4_39, n4_40, n4_41, n4_42, n4_43, n4_44, n4_45, n4_46, n4_47, n4_48, n4_49, n4_50, n4_51, n4_54, n4_55, n4_56, n4_57, n4_58, n4_59, n4_60, n4_61, n4_62, n4_63, n4_64, n4_65, n4_66, n4_67, n4_68, n4_69, n4_70, n4_71, n4_72, n4_73, n4_74, n4_75, n4_76, n4_77, n4_78, n4_79, n4_80, n4_81, n4_82, n4_83, n4_84, n4_85, n4_86, n4_87, n4_88, n4_89, n4_90, n4_91, n4_93, n4_94, n4_95, n4_96, n4_97, n4_98, n4_99, n4_100, n4_101, n4_102, n4_103, n4_104, n4_105, n4_106, n4_107, n4_108, n4_109, n4_110, n4_111, n4_112, n4_113, n4_114, o4_1, o4_4, o4_7, o4_11, o4_14, o4_17, o4_21, o4_24, o4_29, o4_36, o4_38, o4_41, o4_43, o4_46, o4_49, o4_52, o4_54, o4_57, o4_60, o4_65, o4_70, o4_77, o4_80, o4_83, o4_85, o4_87, o4_90, o4_93, o4_97, o4_100, o4_104, o4_106, o4_109, o4_113, res4, TT_3, TT_4, TT_5, TT_9, TT_22, TT_25, TT_26, TT_29, TT_33, TT_38, TT_40, TT_42, TT_47, TT_50, TT_57, TT_59, TT_66, TT_68, TT_69, TT_70, TT_72, TT_81, bb, primP, primM, ev, evs, parts_, ofConst, bin, un, intBin, putA, enterT, Nat.reduceEqDiff, Nat.reduceAdd, Nat.reduceMul, Nat.reduceLeDiff, Nat.reduceLT, ↓reduceIte, reduceCtorEq, RunRes, resultsA, oneOf, AV.plain, AV.cells, AHeap.push, AHeap.set, AHeap.empty, fieldOf, loadA, storeA, BX.part, TK.isAgg, convA, builtinA, inertB, builtinP, buildA, fillA, splice, eqv, cellsEq, sizeT, adT, ldT, fwT, Nat.reduceBeqDiff, Nat.reduceBneDiff, Int.reduceBNe, Int.reduceBEq, Int.reduceEq, Int.reduceLT, Int.reduceLE, Int.reduceAdd, Int.reduceSub, Int.reduceMul, Int.reduceNeg, strBin, indexAddrA, elems, lenOf, chunk, List.reduceReplicate, Int.reduceToNat]
      refine Count_call hS3 ?_
      simp only [t0, t1, t5, t6, t7, t9, t10, w1, e1, lenOf, i64, run_exit_start, exit_here, exit_code, exit_inLoop, run_inBlock, n4_0, n4_1, n4_2, n4_3, n4_4, n4_5, n4_6, n4_7, n4_8, n4_9, n4_10, n4_11, n4_12, n4_13, n4_14, n4_15, n4_16, n4_17, n4_18, n4_19, n4_20, n4_21, n4_22, n4_23, n4_24, n4_25, n4_26, n4_27, n4_28, n4_29, n4_30, n4_31, n4_32, n4_33, n4_34, n4_35, n4_36, n4_37, n4_38, n4_39, n4_40, n4_41, n4_42, n4_43, n4_44, n4_45, n4_46, n4_47, n4_48, n4_49, n4_50, n4_51, n4_52, n4_54, n4_55, n4_56, n4_57, n4_58, n4_59, n4_60, n4_61, n4_62, n4_63, n4_64, n4_65, n4_66, n4_67, n4_68, n4_69, n4_70, n4_71, n4_72, n4_73, n4_74, n4_75, n4_76, n4_77, n4_78, n4_79, n4_80, n4_81, n4_82, n4_83, n4_84, n4_85, n4_86, n4_87, n4_88, n4_89, n4_90, n4_91, n4_93, n4_94, n4_95, n4_96, n4_97, n4_98, n4_99, n4_100, n4_101, n4_102, n4_103, n4_104, n4_105, n4_106, n4_107, n4_108, n4_109, n4_110, n4_111, n4_112, n4_113, n4_114, o4_1, o4_4, o4_7, o4_11, o4_14, o4_17, o4_21, o4_24, o4_29, o4_36, o4_38, o4_41, o4_43, o4_46, o4_49, o4_52, o4_54, o4_57, o4_60, o4_65, o4_70, o4_77, o4_80, o4_83, o4_85, o4_87, o4_90, o4_93, o4_97, o4_100, o4_104, o4_106, o4_109, o4_113, res4, TT_3, TT_4, TT_5, TT_9, TT_22, TT_25, TT_26, TT_29, TT_33, TT_38, TT_40, TT_42, TT_47, TT_50, TT_57, TT_59, TT_66, TT_68, TT_69, TT_70, TT_72, TT_81, bb, primP, primM, ev, evs, parts_, ofConst, bin, un, intBin, putA, enterT, Nat.reduceEqDiff, Nat.reduceAdd, Nat.reduceMul, Nat.reduceLeDiff, Nat.reduceLT, ↓reduceIte, reduceCtorEq, RunRes, resultsA, oneOf, AV.plain, AV.cells, AHeap.push, AHeap.set, AHeap.empty, fieldOf, loadA, storeA, BX.part, TK.isAgg, convA, builtinA, inertB, builtinP, buildA, fillA, splice, eqv, cellsEq, sizeT, adT, ldT, fwT, Nat.reduceBeqDiff, Nat.reduceBneDiff, Int.reduceBNe, Int.reduceBEq, Int.reduceEq, Int.reduceLT, Int.reduceLE, Int.reduceAdd, Int.reduceSub, Int.reduceMul, Int.reduceNeg, strBin, indexAddrA, elems, lenOf, chunk, List.reduceReplicate, Int.reduceToNat]
      refine pt_all hl hr hK j (i + 1) _ (n' + 1 + 1) A2 now' rs' (.slc (n' + 1) 6 0 ((((l.take i).filter okP).map encP).length + 1)) (by omega) ?_ ?_ ?_ ?_ ?_ ?_ ?_ (by rw [hkeep 0 (by omega) (.inr (by omega)), hk0 0 (by omega)]; exact a0) (by rw [hkeep 1 (by omega) (.inr (by omega)), hk0 1 (by omega)]; exact a1) (by omega) hS3 hC' (by rw [hf, List.map_append]; exact hown) hsep2
      all_goals simp only [upd_app, t0, t1, t5, t6, t7, Nat.reduceEqDiff, ↓reduceIte]
theorem Pcs.len_eq {room : Nat} {P : List Pr} {xs ys : List (List Pr)} (h1 : Pcs room P xs) (h2 : Pcs room P ys) : xs.length = ys.length := by
  have key : ∀ {a b : List (List Pr)}, Pcs room P a → Pcs room P b → ¬ a.length < b.length := by
    intro a b ha hb hlt
    rcases hb.lst with h | h
    · omega
    · have h3 := ha.full
      have h4 : a.length * room ≤ (b.length - 1) * room := Nat.mul_le_mul_right _ (by omega)
      omega
  have := key h1 h2
  have := key h2 h1
  omega
theorem SamePairs_call {n : Nat} {A : Nat → Blk} {v w : AV} {l : List Pr} (hv : RV n A v l) (hw : InE w l) (hl : l.length ≤ 100000) {fn : FuncId} {T : Nat → AV} {ds : List ADef} {ro : Option Nat} {k : List AItem} {Q : AV → AHeap → Prop} {dst : Option Nat} {os : List AO} :
    RunCall Cx fn T ds ro 18 [v, w] dst os k ⟨n, A⟩ Q = RunOps Cx fn (putA T dst (.bool true)) ds ro os k ⟨n, A⟩ Q := by
  obtain ⟨v', hv', hf⟩ := hv.freeze
  exact call_any pure18 rfl (SamePairs_e hv' hw hl) (by rw [mapO_cons, mapO_cons, mapO_nil, hf, hw.freeze]; rfl)
theorem cp_all {n ga gb : Nat} {A : Nat → Blk} {xs ys : List (AV × List Pr)} {Q : AV → AHeap → Prop} (hx : ∀ x, x ∈ xs → RV n A x.1 x.2 ∧ x.2.length ≤ 100000) (hy : ∀ y, y ∈ ys → InE y.1 y.2) (hlen : ys.length = xs.length) (hl : xs.length ≤ 10000) (heq : ∀ i (h : i < xs.length), (ys[i]'(by omega)).2 = (xs[i]).2) (ha : A ga = .cells 22 1 (rowsR xs)) (hb : A gb = .cells 22 1 (rowsR ys))
    {P1 P5 P6 P7 P9 : AV} (hK : ∀ (T : Nat → AV), T 1 = P1 → T 5 = P5 → T 6 = P6 → T 7 = P7 → T 9 = P9 → Run Cx 4 T [] none [.code c4_84] ⟨n, A⟩ Q) :
    ∀ (j i : Nat) (T : Nat → AV), i + j = xs.length → T 1 = P1 → T 5 = P5 → T 6 = P6 → T 7 = P7 → T 9 = P9 → T 13 = .slc ga 1 0 xs.length → T 14 = .slc gb 1 0 xs.length → T 15 = .int .i64 (i : Int) →
      Run Cx 4 T [] none [.inLoop c4_68, .inBlock 2, .code c4_84] ⟨n, A⟩ Q
  | 0, i, T, hij, t1, t5, t6, t7, t9, t13, t14, t15 => by
    rw [run_inLoop]
    have c0 : ¬ (i : Int) < (xs.length : Int) := by omega
    simp only [t1, t5, t6, t7, t9, t13, t14, t15, c0, lenOf, i64, run_exit_start, exit_here, exit_code, exit_inLoop, run_inBlock, n4_0, n4_1, n4_2, n4_3, n4_4, n4_5, n4_6, n4_7, n4_8, n4_9, n4_10, n4_11, n4_12, n4_13, n4_14, n4_15, n4_16, n4_17, n4_18, n4_19, n4_20, n4_21, n4_22, n4_23, n4_24, n4_25, n4_26, n4_27, n4_28, n4_29, n4_30, n4_31, n4_32, n4_33, n4_34, n4_35, n4_36, n4_37, n4_38, n4_39, n4_40, n4_41, n4_42, n4_43, n4_44, n4_45, n4_46, n4_47, n4_48, n4_49, n4_50, n4_51, n4_52, n4_53, n4_54, n4_55, n4_56, n4_57, n4_58, n4_59, n4_60, n4_61, n4_62, n4_63, n4_64, n4_65, n4_66, n4_67, n4_68, n4_69, n4_70, n4_71, n4_72, n4_73, n4_74, n4_75, n4_76, n4_77, n4_78, n4_79, n4_80, n4_81, n4_82, n4_83, n4_85, n4_86, n4_87, n4_88, n4_89, n4_90, n4_91, n4_93, n4_94, n4_95, n4_96, n4_97, n4_98, n4_99, n4_100, n4_101, n4_102, n4_103, n4_104, n4_105, n4_106, n4_107, n4_108, n4_109, n4_110, n4_111, n4_112, n4_113, n4_114, o4_1, o4_4, o4_7, o4_11, o4_14, o4_17, o4_21, o4_24, o4_29, o4_36, o4_38, o4_41, o4_43, o4_46, o4_49, o4_52, o4_54, o4_57, o4_60, o4_65, o4_70, o4_77, o4_80, o4_83, o4_85, o4_87, o4_90, o4_93, o4_97, o4_100, o4_104, o4_106, o4_109, o4_113, res4, TT_3, TT_4, TT_5, TT_9, TT_22, TT_25, TT_26, TT_29, TT_33, TT_38, TT_40, TT_42, TT_47, TT_50, TT_57, TT_59, TT_66, TT_68, TT_69, TT_70, TT_72, TT_81, bb, primP, primM, ev, evs, parts_, ofConst, bin, un, intBin, putA, enterT, Nat.reduceEqDiff, Nat.reduceAdd, Nat.reduceMul, Nat.reduceLeDiff, Nat.reduceLT, ↓reduceIte, reduceCtorEq, RunRes, resultsA, oneOf, AV.plain, AV.cells, AHeap.push, AHeap.set, AHeap.empty, fieldOf, loadA, storeA, BX.part, TK.isAgg, convA, builtinA, inertB, builtinP, buildA, fillA, splice, eqv, cellsEq, sizeT, adT, ldT, fwT, Nat.reduceBeqDiff, Nat.reduceBneDiff, Int.reduceBNe, Int.reduceBEq, Int.reduceEq, Int.reduceLT, Int.reduceLE, Int.reduceAdd, Int.reduceSub, Int.reduceMul, Int.reduceNeg, strBin, indexAddrA, elems, lenOf, chunk, List.reduceReplicate, Int.reduceToNat]
    refine hK _ ?_ ?_ ?_ ?_ ?_
    all_goals simp only [upd_app, t1, t5, t6, t7, t9, Nat.reduceEqDiff, ↓reduceIte]
  | j + 1, i, T, hij, t1, t5, t6, t7, t9, t13, t14, t15 => by
    rw [run_inLoop]
    have hi : i < xs.length := by omega
    have hi' : i < ys.length := by omega
    have c0 : (i : Int) < (xs.length : Int) := by omega
    have p0 : (0 : Int) ≤ (i : Int) := by omega
    have w1 : IntKind.i64.wrap ((i : Int) + 1) = ((i + 1 : Nat) : Int) := by rw [wr64 (by omega) (by omega)]; omega
    have g1 := rows_at hi
    have g2 := rows_at hi'
    have ha' : A ga = .cells 22 1 (xs.map fun x => [x.1]) := ha
    have hb' : A gb = .cells 22 1 (ys.map fun x => [x.1]) := hb
    obtain ⟨hrv, hle⟩ := hx _ (List.getElem_mem hi)
    have hie := hy _ (List.getElem_mem hi')
    rw [heq i hi] at hie
    have hsp : ∀ {T : Nat → AV} {dst : Option Nat} {os : List AO} {k : List AItem}, RunCall Cx 4 T [] none 18 [(xs[i]).1, (ys[i]).1] dst os k ⟨n, A⟩ Q = _ := SamePairs_call hrv hie hle
    simp only [t1, t5, t6, t7, t9, t13, t14, t15, c0, p0, w1, g1, g2, ha', hb', hsp, lenOf, i64, Int.toNat_natCast, run_exit_start, exit_here, exit_code, exit_inLoop, run_inBlock, n4_0, n4_1, n4_2, n4_3, n4_4, n4_5, n4_6, n4_7, n4_8, n4_9, n4_10, n4_11, n4_12, n4_13, n4_14, n4_15, n4_16, n4_17, n4_18, n4_19, n4_20, n4_21, n4_22, n4_23, n4_24, n4_25, n4_26, n4_27, n4_28, n4_29, n4_30, n4_31, n4_32, n4_33, n4_34, n4_35, n4_36, n4_37, n4_38, n4_39, n4_40, n4_41, n4_42, n4_43, n4_44, n4_45, n4_46, n4_47, n4_48, n4_49, n4_50, n4_51, n4_52, n4_53, n4_54, n4_55, n4_56, n4_57, n4_58, n4_59, n4_60, n4_61, n4_62, n4_63, n4_64, n4_65, n4_66, n4_67, n4_68, n4_69, n4_70, n4_71, n4_72, n4_73, n4_74, n4_75, n4_76, n4_77, n4_78, n4_79, n4_80, n4_81, n4_82, n4_83, n4_85, n4_86, n4_87, n4_88, n4_89, n4_90, n4_91, n4_93, n4_94, n4_95, n4_96, n4_97, n4_98, n4_99, n4_100, n4_101, n4_102, n4_103, n4_104, n4_105, n4_106, n4_107, n4_108, n4_109, n4_110, n4_111, n4_112, n4_113, n4_114, o4_1, o4_4, o4_7, o4_11, o4_14, o4_17, o4_21, o4_24, o4_29, o4_36, o4_38, o4_41, o4_43, o4_46, o4_49, o4_52, o4_54, o4_57, o4_60, o4_65, o4_70, o4_77, o4_80, o4_83, o4_85, o4_87, o4_90, o4_93, o4_97, o4_100, o4_104, o4_106, o4_109, o4_113, res4, TT_3, TT_4, TT_5, TT_9, TT_22, TT_25, TT_26, TT_29, TT_33, TT_38, TT_40, TT_42, TT_47, TT_50, TT_57, TT_59, TT_66, TT_68, TT_69, TT_70, TT_72, TT_81, bb, primP, primM, ev, evs, parts_, ofConst, bin, un, intBin, putA, enterT, Nat.reduceEqDiff, Nat.reduceAdd, Nat.reduceMul, Nat.reduceLeDiff, Nat.reduceLT, ↓reduceIte, reduceCtorEq, RunRes, resultsA, oneOf, AV.plain, AV.cells, AHeap.push, AHeap.set, AHeap.empty, fieldOf, loadA, storeA, BX.part, TK.isAgg, convA, builtinA, inertB, builtinP, buildA, fillA, splice, eqv, cellsEq, sizeT, adT, ldT, fwT, Nat.reduceBeqDiff, Nat.reduceBneDiff, Int.reduceBNe, Int.reduceBEq, Int.reduceEq, Int.reduceLT, Int.reduceLE, Int.reduceAdd, Int.reduceSub, Int.reduceMul, Int.reduceNeg, strBin, indexAddrA, elems, lenOf, chunk, List.reduceReplicate, Int.reduceToNat]
    refine cp_all hx hy hlen hl heq ha hb hK j (i + 1) _ (by omega) ?_ ?_ ?_ ?_ ?_ ?_ ?_ ?_
    all_goals simp only [upd_app, t1, t5, t6, t7, t9, t13, t14, Nat.reduceEqDiff, ↓reduceIte]
theorem pl_end {m : List Pr} {w : AV} {stop : Int} {T : Nat → AV} {bm bn dl hb : Nat} (hw : InE w m) (hT : PLT T bm bn) (hN : PLN bm bn dl hb) : ∀ (nx : Nat) (A : Nat → Blk), (PLH w stop bm bn dl hb false m.length (pL T dl) nx A ∨ ∃ cnt L, PLH w stop bm bn dl hb true cnt L nx A ∧ L.state = .done ∧ L.pending = some .ret) →
    ∃ L, (⟨nx, A⟩ : AHeap).at_ (dl + 1) = .loop L ∧ L.state ≠ .busy ∧ jumpOk L.pending = true ∧
      Run Cx 4 T [.collected dl] none ((L.pending.map AItem.code).toList ++ [.inBlock 4, .code c4_112]) (AHeap.set ⟨nx, A⟩ (dl + 1) (.loop { L with state := .exhausted })) (fun r0 H' => BX.freeze H' r0 = some (.bool true)) := by
  obtain ⟨t5, t6, t16, t17⟩ := hT
  obtain ⟨n1, n2, n3, n4⟩ := hN
  rintro nx A (hh | ⟨cnt, L, hh, hs, hp⟩)
  · obtain ⟨a0, a1, am, an, ad, al, hx⟩ := hh
    refine ⟨_, al, by simp [pL], rfl, ?_⟩
    have hlw := hw.len
    simp only [lenOf] at hlw
    have e1 : ((m.length : Int) == (m.length : Int)) = true := by simp
    have l1 : (1 = dl + 1) = False := eq_false (by omega)
    have lm : (bm = dl + 1) = False := eq_false (by omega)
    have ln : (bn = dl + 1) = False := eq_false (by omega)
    have d1 : (dl = 1) = False := eq_false (by omega)
    have dd : (dl = dl + 1) = False := eq_false (by omega)
    have d2 : (1 = dl) = False := eq_false (by omega)
    simp only [pL, Option.map_none, Option.toList_none, List.nil_append, t5, t6, t16, t17, a1, am, an, hlw, e1, l1, lm, ln, lenOf, i64, run_inBlock, n4_0, n4_1, n4_2, n4_3, n4_4, n4_5, n4_6, n4_7, n4_8, n4_9, n4_10, n4_11, n4_12, n4_13, n4_14, n4_15, n4_16, n4_17, n4_18, n4_19, n4_20, n4_21, n4_22, n4_23, n4_24, n4_25, n4_26, n4_27, n4_28, n4_29, n4_30, n4_31, n4_32, n4_33, n4_34, n4_35, n4_36, n4_37, n4_38, n4_39, n4_40, n4_41, n4_42, n4_43, n4_44, n4_45, n4_46, n4_47, n4_48, n4_49, n4_50, n4_51, n4_52, n4_53, n4_54, n4_55, n4_56, n4_57, n4_58, n4_59, n4_60, n4_61, n4_62, n4_63, n4_64, n4_65, n4_66, n4_67, n4_68, n4_69, n4_70, n4_71, n4_72, n4_73, n4_74, n4_75, n4_76, n4_77, n4_78, n4_79, n4_80, n4_81, n4_82, n4_83, n4_84, n4_85, n4_86, n4_87, n4_88, n4_89, n4_90, n4_91, n4_93, n4_94, n4_95, n4_96, n4_97, n4_98, n4_99, n4_100, n4_101, n4_102, n4_103, n4_104, n4_105, n4_106, n4_107, n4_108, n4_109, n4_110, n4_111, n4_112, n4_113, o4_1, o4_4, o4_7, o4_11, o4_14, o4_17, o4_21, o4_24, o4_29, o4_36, o4_38, o4_41, o4_43, o4_46, o4_49, o4_52, o4_54, o4_57, o4_60, o4_65, o4_70, o4_77, o4_80, o4_83, o4_85, o4_87, o4_90, o4_93, o4_97, o4_100, o4_104, o4_106, o4_109, o4_113, res4, TT_3, TT_4, TT_5, TT_9, TT_22, TT_25, TT_26, TT_29, TT_33, TT_38, TT_40, TT_42, TT_47, TT_50, TT_57, TT_59, TT_66, TT_68, TT_69, TT_70, TT_72, TT_81, bb, primP, primM, ev, evs, parts_, ofConst, bin, un, intBin, putA, enterT, Nat.reduceEqDiff, Nat.reduceAdd, Nat.reduceMul, Nat.reduceLeDiff, Nat.reduceLT, ↓reduceIte, reduceCtorEq, RunRes, resultsA, oneOf, AV.plain, AV.cells, AHeap.push, AHeap.set, AHeap.empty, fieldOf, loadA, storeA, BX.part, TK.isAgg, convA, builtinA, inertB, builtinP, buildA, fillA, splice, eqv, cellsEq, sizeT, adT, ldT, fwT, Nat.reduceBeqDiff, Nat.reduceBneDiff, Int.reduceBNe, Int.reduceBEq, Int.reduceEq, Int.reduceLT, Int.reduceLE, Int.reduceAdd, Int.reduceSub, Int.reduceMul, Int.reduceNeg, strBin, indexAddrA, elems, lenOf, chunk, List.reduceReplicate, Int.reduceToNat]
    unfold c4_114
    refine ret_col (by simp only [upd_app, ad, d1, dd, ↓reduceIte]) ?_
    simp only [res4, t6, upd_app, d2, TT_3, TT_4, TT_5, TT_9, TT_22, TT_25, TT_26, TT_29, TT_33, TT_38, TT_40, TT_42, TT_47, TT_50, TT_57, TT_59, TT_66, TT_68, TT_69, TT_70, TT_72, TT_81, bb, primP, primM, ev, evs, parts_, ofConst, bin, un, intBin, putA, enterT, Nat.reduceEqDiff, Nat.reduceAdd, Nat.reduceMul, Nat.reduceLeDiff, Nat.reduceLT, ↓reduceIte, reduceCtorEq, RunRes, resultsA, oneOf, AV.plain, AV.cells, AHeap.push, AHeap.set, AHeap.empty, fieldOf, loadA, storeA, BX.part, TK.isAgg, convA, builtinA, inertB, builtinP, buildA, fillA, splice, eqv, cellsEq, sizeT, adT, ldT, fwT, Nat.reduceBeqDiff, Nat.reduceBneDiff, Int.reduceBNe, Int.reduceBEq, Int.reduceEq, Int.reduceLT, Int.reduceLE, Int.reduceAdd, Int.reduceSub, Int.reduceMul, Int.reduceNeg, strBin, indexAddrA, elems, lenOf, chunk, List.reduceReplicate, Int.reduceToNat]
  · obtain ⟨a0, a1, am, an, ad, al, hx⟩ := hh
    refine ⟨L, al, by rw [hs]; decide, by rw [hp]; rfl, ?_⟩
    rw [hp]
    simp only [Option.map_some, Option.toList_some, List.cons_append, List.nil_append]
    have l1 : (1 = dl + 1) = False := eq_false (by omega)
    have dd : (dl = dl + 1) = False := eq_false (by omega)
    have d2 : (1 = dl) = False := eq_false (by omega)
    refine ret_col (by simp only [AHeap.set, upd_app, ad, dd, ↓reduceIte]) ?_
    simp only [res4, t6, a1, l1, d2, upd_app, TT_3, TT_4, TT_5, TT_9, TT_22, TT_25, TT_26, TT_29, TT_33, TT_38, TT_40, TT_42, TT_47, TT_50, TT_57, TT_59, TT_66, TT_68, TT_69, TT_70, TT_72, TT_81, bb, primP, primM, ev, evs, parts_, ofConst, bin, un, intBin, putA, enterT, Nat.reduceEqDiff, Nat.reduceAdd, Nat.reduceMul, Nat.reduceLeDiff, Nat.reduceLT, ↓reduceIte, reduceCtorEq, RunRes, resultsA, oneOf, AV.plain, AV.cells, AHeap.push, AHeap.set, AHeap.empty, fieldOf, loadA, storeA, BX.part, TK.isAgg, convA, builtinA, inertB, builtinP, buildA, fillA, splice, eqv, cellsEq, sizeT, adT, ldT, fwT, Nat.reduceBeqDiff, Nat.reduceBneDiff, Int.reduceBNe, Int.reduceBEq, Int.reduceEq, Int.reduceLT, Int.reduceLE, Int.reduceAdd, Int.reduceSub, Int.reduceMul, Int.reduceNeg, strBin, indexAddrA, elems, lenOf, chunk, List.reduceReplicate, Int.reduceToNat]
end Go.Proofs.Ytbfjkomlnpolmaa.G

