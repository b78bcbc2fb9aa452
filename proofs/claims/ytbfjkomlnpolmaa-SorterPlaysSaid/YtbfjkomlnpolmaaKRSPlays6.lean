import Derived.Test.YtbfjkomlnpolmaaKRSPlays5
namespace Go.Proofs.Ytbfjkomlnpolmaa.G
open Go.BX
set_option linter.unusedSimpArgs false
set_option linter.unusedVariables false
theorem bk_of {f : Nat → Pr} {bs t a n : Nat} (ha : a = t * bs) (hd : ∀ u, u < t → Srt f (u * bs) (u * bs + bs)) (hl : Srt f a n) (hn : n < a + bs) : ∀ u, Srt f (u * bs) (min (u * bs + bs) n) := by
  intro u
  by_cases c : u < t
  · exact (hd u c).sub (Nat.le_refl _) (Nat.min_le_left _ _)
  · by_cases e : u = t
    · subst e
      rw [← ha]
      exact hl.sub (Nat.le_refl _) (Nat.min_le_right _ _)
    · have h1 : (t + 1) * bs ≤ u * bs := Nat.mul_le_mul_right bs (by omega)
      rw [Nat.add_mul] at h1
      exact Srt.one (by omega)
section
variable {n h : Nat} {A : Nat → Blk} {g : Nat} {f0 : Nat → Pr} {Q : AV → AHeap → Prop}
theorem st1_all (hn : n ≤ 1000000)
    (hK : ∀ (T : Nat → AV) (f : Nat → Pr), T 0 = .slc g 6 0 n → T 1 = .int .i64 (n : Int) → T 2 = .fn 28 [] [] → T 6 = .int .i64 20 → Mv 0 n f0 f → (∀ u, Srt f (u * 20) (min (u * 20 + 20) n)) →
      Run Cx 43 T [] none [.code c43_21] ⟨h, SB A g n f⟩ Q) :
    ∀ (d t a : Nat) (T : Nat → AV) (f : Nat → Pr), n ≤ a + d → a = t * 20 → a ≤ n → T 0 = .slc g 6 0 n → T 1 = .int .i64 (n : Int) → T 2 = .fn 28 [] [] → T 6 = .int .i64 20 → T 7 = .int .i64 (a : Int) → T 8 = .int .i64 ((a + 20 : Nat) : Int) → Mv 0 n f0 f → (∀ u, u < t → Srt f (u * 20) (u * 20 + 20)) →
      Run Cx 43 T [] none [.inLoop c43_7, .inBlock 0, .code c43_19] ⟨h, SB A g n f⟩ Q := by
  intro d
  induction d with
  | zero =>
    intro t a T f hd hat ha t0 t1 t2 t6 t7 t8 hm hs
    rw [run_inLoop]
    have h0 : ¬ ((a + 20 : Nat) : Int) ≤ (n : Int) := by omega
    simp only [t0, t1, t2, t6, t7, t8, h0, run_exit_start, exit_here, exit_code, exit_inLoop, run_inBlock, n43_0, n43_1, n43_2, n43_3, n43_4, n43_5, n43_6, n43_7, n43_8, n43_9, n43_10, n43_11, n43_12, n43_13, n43_14, n43_15, n43_16, n43_17, n43_18, n43_19, n43_20, n43_22, n43_23, n43_24, n43_25, n43_26, n43_27, n43_28, n43_29, n43_30, n43_31, n43_32, n43_33, n43_34, n43_35, n43_36, n43_37, n43_38, n43_39, n43_40, n43_41, n43_42, n43_43, n43_44, n43_45, n43_46, n43_47, n43_48, n43_49, n43_50, n43_51, n43_52, n43_53, n43_54, n43_55, o43_1, o43_3, o43_9, o43_15, o43_17, o43_18, o43_20, o43_25, o43_31, o43_37, o43_43, o43_45, o43_46, o43_49, o43_51, o43_53, o43_55, res43, TT_3, TT_4, TT_5, TT_9, TT_22, TT_25, TT_26, TT_29, TT_33, TT_38, TT_40, TT_42, TT_47, TT_50, TT_57, TT_59, TT_66, TT_68, TT_69, TT_70, TT_72, TT_81, bb, primP, primM, ev, evs, parts_, ofConst, bin, un, intBin, putA, enterT, Nat.reduceEqDiff, Nat.reduceAdd, Nat.reduceMul, Nat.reduceLeDiff, Nat.reduceLT, ↓reduceIte, reduceCtorEq, RunRes, resultsA, oneOf, AV.plain, AV.cells, AHeap.push, AHeap.set, AHeap.empty, fieldOf, loadA, storeA, BX.part, TK.isAgg, convA, builtinA, inertB, builtinP, buildA, fillA, splice, eqv, cellsEq, sizeT, adT, ldT, fwT, Nat.reduceBeqDiff, Nat.reduceBneDiff, Int.reduceBNe, Int.reduceBEq, Int.reduceEq, Int.reduceLT, Int.reduceLE, Int.reduceAdd, Int.reduceSub, Int.reduceMul, Int.reduceNeg, strBin, indexAddrA, elems, lenOf, chunk, List.reduceReplicate, Int.reduceToNat]
    refine insertion_call hn (by omega) (Nat.le_refl _) ?_
    intro f' hm' hs'
    have hm2 := hm.trans (hm'.wide (Nat.zero_le _) ha (Nat.le_refl _))
    simp only [n43_0, n43_1, n43_2, n43_3, n43_4, n43_5, n43_6, n43_7, n43_8, n43_9, n43_10, n43_11, n43_12, n43_13, n43_14, n43_15, n43_16, n43_17, n43_18, n43_19, n43_20, n43_22, n43_23, n43_24, n43_25, n43_26, n43_27, n43_28, n43_29, n43_30, n43_31, n43_32, n43_33, n43_34, n43_35, n43_36, n43_37, n43_38, n43_39, n43_40, n43_41, n43_42, n43_43, n43_44, n43_45, n43_46, n43_47, n43_48, n43_49, n43_50, n43_51, n43_52, n43_53, n43_54, n43_55, o43_1, o43_3, o43_9, o43_15, o43_17, o43_18, o43_20, o43_25, o43_31, o43_37, o43_43, o43_45, o43_46, o43_49, o43_51, o43_53, o43_55, res43, TT_3, TT_4, TT_5, TT_9, TT_22, TT_25, TT_26, TT_29, TT_33, TT_38, TT_40, TT_42, TT_47, TT_50, TT_57, TT_59, TT_66, TT_68, TT_69, TT_70, TT_72, TT_81, bb, primP, primM, ev, evs, parts_, ofConst, bin, un, intBin, putA, enterT, Nat.reduceEqDiff, Nat.reduceAdd, Nat.reduceMul, Nat.reduceLeDiff, Nat.reduceLT, ↓reduceIte, reduceCtorEq, RunRes, resultsA, oneOf, AV.plain, AV.cells, AHeap.push, AHeap.set, AHeap.empty, fieldOf, loadA, storeA, BX.part, TK.isAgg, convA, builtinA, inertB, builtinP, buildA, fillA, splice, eqv, cellsEq, sizeT, adT, ldT, fwT, Nat.reduceBeqDiff, Nat.reduceBneDiff, Int.reduceBNe, Int.reduceBEq, Int.reduceEq, Int.reduceLT, Int.reduceLE, Int.reduceAdd, Int.reduceSub, Int.reduceMul, Int.reduceNeg, strBin, indexAddrA, elems, lenOf, chunk, List.reduceReplicate, Int.reduceToNat]
    refine hK _ f' ?_ ?_ ?_ ?_ hm2 (bk_of (t := t) hat (fun u hu => (hs u hu).congr fun k x y => hm'.1 k (.inl ?_)) hs' (by omega))
    all_goals first | omega | simp only [upd_app, t0, t1, t2, t6, Nat.reduceEqDiff, ↓reduceIte]
  | succ d ih =>
    intro t a T f hd hat ha t0 t1 t2 t6 t7 t8 hm hs
    rw [run_inLoop]
    by_cases c : a + 20 ≤ n
    · have h0 : ((a + 20 : Nat) : Int) ≤ (n : Int) := by omega
      have w1 : IntKind.i64.wrap (((a + 20 : Nat) : Int) + 20) = ((a + 20 + 20 : Nat) : Int) := by rw [wr64 (by omega) (by omega)]; omega
      simp only [t0, t1, t2, t6, t7, t8, h0, run_exit_start, exit_here, exit_code, exit_inLoop, run_inBlock, n43_0, n43_1, n43_2, n43_3, n43_4, n43_5, n43_6, n43_7, n43_8, n43_9, n43_10, n43_11, n43_12, n43_13, n43_14, n43_15, n43_16, n43_17, n43_18, n43_20, n43_21, n43_22, n43_23, n43_24, n43_25, n43_26, n43_27, n43_28, n43_29, n43_30, n43_31, n43_32, n43_33, n43_34, n43_35, n43_36, n43_37, n43_38, n43_39, n43_40, n43_41, n43_42, n43_43, n43_44, n43_45, n43_46, n43_47, n43_48, n43_49, n43_50, n43_51, n43_52, n43_53, n43_54, n43_55, o43_1, o43_3, o43_9, o43_15, o43_17, o43_18, o43_20, o43_25, o43_31, o43_37, o43_43, o43_45, o43_46, o43_49, o43_51, o43_53, o43_55, res43, TT_3, TT_4, TT_5, TT_9, TT_22, TT_25, TT_26, TT_29, TT_33, TT_38, TT_40, TT_42, TT_47, TT_50, TT_57, TT_59, TT_66, TT_68, TT_69, TT_70, TT_72, TT_81, bb, primP, primM, ev, evs, parts_, ofConst, bin, un, intBin, putA, enterT, Nat.reduceEqDiff, Nat.reduceAdd, Nat.reduceMul, Nat.reduceLeDiff, Nat.reduceLT, ↓reduceIte, reduceCtorEq, RunRes, resultsA, oneOf, AV.plain, AV.cells, AHeap.push, AHeap.set, AHeap.empty, fieldOf, loadA, storeA, BX.part, TK.isAgg, convA, builtinA, inertB, builtinP, buildA, fillA, splice, eqv, cellsEq, sizeT, adT, ldT, fwT, Nat.reduceBeqDiff, Nat.reduceBneDiff, Int.reduceBNe, Int.reduceBEq, Int.reduceEq, Int.reduceLT, Int.reduceLE, Int.reduceAdd, Int.reduceSub, Int.reduceMul, Int.reduceNeg, strBin, indexAddrA, elems, lenOf, chunk, List.reduceReplicate, Int.reduceToNat]
      refine insertion_call hn (by omega) c ?_
      intro f' hm' hs'
      have hm2 := hm.trans (hm'.wide (Nat.zero_le _) (by omega) c)
      simp only [t0, t1, t2, t6, t7, t8, w1, run_exit_start, exit_here, exit_code, exit_inLoop, run_inBlock, n43_0, n43_1, n43_2, n43_3, n43_4, n43_5, n43_6, n43_7, n43_8, n43_9, n43_10, n43_11, n43_12, n43_13, n43_14, n43_15, n43_16, n43_17, n43_18, n43_20, n43_21, n43_22, n43_23, n43_24, n43_25, n43_26, n43_27, n43_28, n43_29, n43_30, n43_31, n43_32, n43_33, n43_34, n43_35, n43_36, n43_37, n43_38, n43_39, n43_40, n43_41, n43_42, n43_43, n43_44, n43_45, n43_46, n43_47, n43_48, n43_49, n43_50, n43_51, n43_52, n43_53, n43_54, n43_55, o43_1, o43_3, o43_9, o43_15, o43_17, o43_18, o43_20, o43_25, o43_31, o43_37, o43_43, o43_45, o43_46, o43_49, o43_51, o43_53, o43_55, res43, TT_3, TT_4, TT_5, TT_9, TT_22, TT_25, TT_26, TT_29, TT_33, TT_38, TT_40, TT_42, TT_47, TT_50, TT_57, TT_59, TT_66, TT_68, TT_69, TT_70, TT_72, TT_81, bb, primP, primM, ev, evs, parts_, ofConst, bin, un, intBin, putA, enterT, Nat.reduceEqDiff, Nat.reduceAdd, Nat.reduceMul, Nat.reduceLeDiff, Nat.reduceLT, ↓reduceIte, reduceCtorEq, RunRes, resultsA, oneOf, AV.plain, AV.cells, AHeap.push, AHeap.set, AHeap.empty, fieldOf, loadA, storeA, BX.part, TK.isAgg, convA, builtinA, inertB, builtinP, buildA, fillA, splice, eqv, cellsEq, sizeT, adT, ldT, fwT, Nat.reduceBeqDiff, Nat.reduceBneDiff, Int.reduceBNe, Int.reduceBEq, Int.reduceEq, Int.reduceLT, Int.reduceLE, Int.reduceAdd, Int.reduceSub, Int.reduceMul, Int.reduceNeg, strBin, indexAddrA, elems, lenOf, chunk, List.reduceReplicate, Int.reduceToNat]
      refine ih (t + 1) (a + 20) _ f' (by omega) (by omega) c ?_ ?_ ?_ ?_ ?_ ?_ hm2 ?_
      all_goals first | (simp only [upd_app, t0, t1, t2, t6, Nat.reduceEqDiff, ↓reduceIte]; done) | skip
      intro u hu
      by_cases e : u = t
      · subst e; rw [← hat]; exact hs'
      · exact (hs u (by omega)).congr fun k x y => hm'.1 k (.inl (by omega))
    · have h0 : ¬ ((a + 20 : Nat) : Int) ≤ (n : Int) := by omega
      simp only [t0, t1, t2, t6, t7, t8, h0, run_exit_start, exit_here, exit_code, exit_inLoop, run_inBlock, n43_0, n43_1, n43_2, n43_3, n43_4, n43_5, n43_6, n43_7, n43_8, n43_9, n43_10, n43_11, n43_12, n43_13, n43_14, n43_15, n43_16, n43_17, n43_18, n43_19, n43_20, n43_22, n43_23, n43_24, n43_25, n43_26, n43_27, n43_28, n43_29, n43_30, n43_31, n43_32, n43_33, n43_34, n43_35, n43_36, n43_37, n43_38, n43_39, n43_40, n43_41, n43_42, n43_43, n43_44, n43_45, n43_46, n43_47, n43_48, n43_49, n43_50, n43_51, n43_52, n43_53, n43_54, n43_55, o43_1, o43_3, o43_9, o43_15, o43_17, o43_18, o43_20, o43_25, o43_31, o43_37, o43_43, o43_45, o43_46, o43_49, o43_51, o43_53, o43_55, res43, TT_3, TT_4, TT_5, TT_9, TT_22, TT_25, TT_26, TT_29, TT_33, TT_38, TT_40, TT_42, TT_47, TT_50, TT_57, TT_59, TT_66, TT_68, TT_69, TT_70, TT_72, TT_81, bb, primP, primM, ev, evs, parts_, ofConst, bin, un, intBin, putA, enterT, Nat.reduceEqDiff, Nat.reduceAdd, Nat.reduceMul, Nat.reduceLeDiff, Nat.reduceLT, ↓reduceIte, reduceCtorEq, RunRes, resultsA, oneOf, AV.plain, AV.cells, AHeap.push, AHeap.set, AHeap.empty, fieldOf, loadA, storeA, BX.part, TK.isAgg, convA, builtinA, inertB, builtinP, buildA, fillA, splice, eqv, cellsEq, sizeT, adT, ldT, fwT, Nat.reduceBeqDiff, Nat.reduceBneDiff, Int.reduceBNe, Int.reduceBEq, Int.reduceEq, Int.reduceLT, Int.reduceLE, Int.reduceAdd, Int.reduceSub, Int.reduceMul, Int.reduceNeg, strBin, indexAddrA, elems, lenOf, chunk, List.reduceReplicate, Int.reduceToNat]
      refine insertion_call hn (by omega) (Nat.le_refl _) ?_
      intro f' hm' hs'
      have hm2 := hm.trans (hm'.wide (Nat.zero_le _) ha (Nat.le_refl _))
      simp only [n43_0, n43_1, n43_2, n43_3, n43_4, n43_5, n43_6, n43_7, n43_8, n43_9, n43_10, n43_11, n43_12, n43_13, n43_14, n43_15, n43_16, n43_17, n43_18, n43_19, n43_20, n43_22, n43_23, n43_24, n43_25, n43_26, n43_27, n43_28, n43_29, n43_30, n43_31, n43_32, n43_33, n43_34, n43_35, n43_36, n43_37, n43_38, n43_39, n43_40, n43_41, n43_42, n43_43, n43_44, n43_45, n43_46, n43_47, n43_48, n43_49, n43_50, n43_51, n43_52, n43_53, n43_54, n43_55, o43_1, o43_3, o43_9, o43_15, o43_17, o43_18, o43_20, o43_25, o43_31, o43_37, o43_43, o43_45, o43_46, o43_49, o43_51, o43_53, o43_55, res43, TT_3, TT_4, TT_5, TT_9, TT_22, TT_25, TT_26, TT_29, TT_33, TT_38, TT_40, TT_42, TT_47, TT_50, TT_57, TT_59, TT_66, TT_68, TT_69, TT_70, TT_72, TT_81, bb, primP, primM, ev, evs, parts_, ofConst, bin, un, intBin, putA, enterT, Nat.reduceEqDiff, Nat.reduceAdd, Nat.reduceMul, Nat.reduceLeDiff, Nat.reduceLT, ↓reduceIte, reduceCtorEq, RunRes, resultsA, oneOf, AV.plain, AV.cells, AHeap.push, AHeap.set, AHeap.empty, fieldOf, loadA, storeA, BX.part, TK.isAgg, convA, builtinA, inertB, builtinP, buildA, fillA, splice, eqv, cellsEq, sizeT, adT, ldT, fwT, Nat.reduceBeqDiff, Nat.reduceBneDiff, Int.reduceBNe, Int.reduceBEq, Int.reduceEq, Int.reduceLT, Int.reduceLE, Int.reduceAdd, Int.reduceSub, Int.reduceMul, Int.reduceNeg, strBin, indexAddrA, elems, lenOf, chunk, List.reduceReplicate, Int.reduceToNat]
      refine hK _ f' ?_ ?_ ?_ ?_ hm2 (bk_of (t := t) hat (fun u hu => (hs u hu).congr fun k x y => hm'.1 k (.inl ?_)) hs' (by omega))
      all_goals first | omega | simp only [upd_app, t0, t1, t2, t6, Nat.reduceEqDiff, ↓reduceIte]
theorem st2_all {bs : Nat} (hn : n ≤ 1000000) (hb : 0 < bs) (hbn : bs < n)
    (hK : ∀ (T : Nat → AV) (f : Nat → Pr), T 0 = .slc g 6 0 n → T 1 = .int .i64 (n : Int) → T 2 = .fn 28 [] [] → T 6 = .int .i64 ((bs * 2 : Nat) : Int) → Mv 0 n f0 f → (∀ u, Srt f (u * (bs * 2)) (min (u * (bs * 2) + bs * 2) n)) →
      Run Cx 43 T [] none [.inLoop c43_23, .inBlock 2] ⟨h, SB A g n f⟩ Q) :
    ∀ (d t a : Nat) (T : Nat → AV) (f : Nat → Pr), n ≤ a + d → a = t * (bs * 2) → a ≤ n → T 0 = .slc g 6 0 n → T 1 = .int .i64 (n : Int) → T 2 = .fn 28 [] [] → T 6 = .int .i64 (bs : Int) → T 7 = .int .i64 (a : Int) → T 8 = .int .i64 ((a + bs * 2 : Nat) : Int) → Mv 0 n f0 f → (∀ u, u < t → Srt f (u * (bs * 2)) (u * (bs * 2) + bs * 2)) → (∀ u, Srt f (a + u * bs) (min (a + u * bs + bs) n)) →
      Run Cx 43 T [] none [.inLoop c43_35, .inBlock 4, .code c43_47, .inBlock 3, .inLoop c43_23, .inBlock 2] ⟨h, SB A g n f⟩ Q := by
  have hend : ∀ (t a : Nat) (T : Nat → AV) (f : Nat → Pr), n < a + bs * 2 → a = t * (bs * 2) → a ≤ n → T 0 = .slc g 6 0 n → T 1 = .int .i64 (n : Int) → T 2 = .fn 28 [] [] → T 6 = .int .i64 (bs : Int) → T 7 = .int .i64 (a : Int) → Mv 0 n f0 f → (∀ u, u < t → Srt f (u * (bs * 2)) (u * (bs * 2) + bs * 2)) → (∀ u, Srt f (a + u * bs) (min (a + u * bs + bs) n)) →
      Run Cx 43 T [] none [.code c43_47, .inBlock 3, .inLoop c43_23, .inBlock 2] ⟨h, SB A g n f⟩ Q := by
    intro t a T f hd hat ha t0 t1 t2 t6 t7 hm hs hb2
    have w1 : IntKind.i64.wrap ((a : Int) + (bs : Int)) = ((a + bs : Nat) : Int) := by rw [wr64 (by omega) (by omega)]; omega
    have w2 : IntKind.i64.wrap ((bs : Int) * 2) = ((bs * 2 : Nat) : Int) := by rw [wr64 (by omega) (by omega)]; omega
    have q0 := hb2 0
    have q1 := hb2 1
    rw [Nat.zero_mul, Nat.add_zero] at q0
    rw [Nat.one_mul] at q1
    by_cases c : a + bs < n
    · have h0 : ((a + bs : Nat) : Int) < (n : Int) := by omega
      rw [Nat.min_eq_left (by omega)] at q0
      rw [Nat.min_eq_right (by omega)] at q1
      simp only [t0, t1, t2, t6, t7, w1, h0, run_exit_start, exit_here, exit_code, exit_inLoop, run_inBlock, n43_0, n43_1, n43_2, n43_3, n43_4, n43_5, n43_6, n43_7, n43_8, n43_9, n43_10, n43_11, n43_12, n43_13, n43_14, n43_15, n43_16, n43_17, n43_18, n43_19, n43_20, n43_21, n43_22, n43_23, n43_24, n43_25, n43_26, n43_27, n43_28, n43_29, n43_30, n43_31, n43_32, n43_33, n43_34, n43_35, n43_36, n43_37, n43_38, n43_39, n43_40, n43_41, n43_42, n43_43, n43_44, n43_45, n43_46, n43_47, n43_48, n43_49, n43_50, n43_51, n43_52, n43_53, n43_54, n43_55, o43_1, o43_3, o43_9, o43_15, o43_17, o43_18, o43_20, o43_25, o43_31, o43_37, o43_43, o43_45, o43_46, o43_49, o43_51, o43_53, o43_55, res43, TT_3, TT_4, TT_5, TT_9, TT_22, TT_25, TT_26, TT_29, TT_33, TT_38, TT_40, TT_42, TT_47, TT_50, TT_57, TT_59, TT_66, TT_68, TT_69, TT_70, TT_72, TT_81, bb, primP, primM, ev, evs, parts_, ofConst, bin, un, intBin, putA, enterT, Nat.reduceEqDiff, Nat.reduceAdd, Nat.reduceMul, Nat.reduceLeDiff, Nat.reduceLT, ↓reduceIte, reduceCtorEq, RunRes, resultsA, oneOf, AV.plain, AV.cells, AHeap.push, AHeap.set, AHeap.empty, fieldOf, loadA, storeA, BX.part, TK.isAgg, convA, builtinA, inertB, builtinP, buildA, fillA, splice, eqv, cellsEq, sizeT, adT, ldT, fwT, Nat.reduceBeqDiff, Nat.reduceBneDiff, Int.reduceBNe, Int.reduceBEq, Int.reduceEq, Int.reduceLT, Int.reduceLE, Int.reduceAdd, Int.reduceSub, Int.reduceMul, Int.reduceNeg, strBin, indexAddrA, elems, lenOf, chunk, List.reduceReplicate, Int.reduceToNat]
      refine symMerge_call hn (n - a) a (a + bs) n f _ _ _ _ _ _ _ _ (Nat.le_refl _) (by omega) c (Nat.le_refl _) q0 q1 ?_
      intro f' hm' hs'
      have hm2 := hm.trans (hm'.wide (Nat.zero_le _) ha (Nat.le_refl _))
      simp only [t0, t1, t2, t6, t7, w2, run_exit_start, exit_here, exit_code, exit_inLoop, run_inBlock, n43_0, n43_1, n43_2, n43_3, n43_4, n43_5, n43_6, n43_7, n43_8, n43_9, n43_10, n43_11, n43_12, n43_13, n43_14, n43_15, n43_16, n43_17, n43_18, n43_19, n43_20, n43_21, n43_22, n43_23, n43_24, n43_25, n43_26, n43_27, n43_28, n43_29, n43_30, n43_31, n43_32, n43_33, n43_34, n43_35, n43_36, n43_37, n43_38, n43_39, n43_40, n43_41, n43_42, n43_43, n43_44, n43_45, n43_46, n43_47, n43_48, n43_49, n43_50, n43_51, n43_52, n43_53, n43_54, n43_55, o43_1, o43_3, o43_9, o43_15, o43_17, o43_18, o43_20, o43_25, o43_31, o43_37, o43_43, o43_45, o43_46, o43_49, o43_51, o43_53, o43_55, res43, TT_3, TT_4, TT_5, TT_9, TT_22, TT_25, TT_26, TT_29, TT_33, TT_38, TT_40, TT_42, TT_47, TT_50, TT_57, TT_59, TT_66, TT_68, TT_69, TT_70, TT_72, TT_81, bb, primP, primM, ev, evs, parts_, ofConst, bin, un, intBin, putA, enterT, Nat.reduceEqDiff, Nat.reduceAdd, Nat.reduceMul, Nat.reduceLeDiff, Nat.reduceLT, ↓reduceIte, reduceCtorEq, RunRes, resultsA, oneOf, AV.plain, AV.cells, AHeap.push, AHeap.set, AHeap.empty, fieldOf, loadA, storeA, BX.part, TK.isAgg, convA, builtinA, inertB, builtinP, buildA, fillA, splice, eqv, cellsEq, sizeT, adT, ldT, fwT, Nat.reduceBeqDiff, Nat.reduceBneDiff, Int.reduceBNe, Int.reduceBEq, Int.reduceEq, Int.reduceLT, Int.reduceLE, Int.reduceAdd, Int.reduceSub, Int.reduceMul, Int.reduceNeg, strBin, indexAddrA, elems, lenOf, chunk, List.reduceReplicate, Int.reduceToNat]
      refine hK _ f' ?_ ?_ ?_ ?_ hm2 (bk_of (t := t) hat (fun u hu => (hs u hu).congr fun k x y => hm'.1 k (.inl ?_)) hs' hd)
      all_goals first | (simp only [upd_app, t0, t1, t2, t6, Nat.reduceEqDiff, ↓reduceIte]; done) | skip
      have h1 : (u + 1) * (bs * 2) ≤ t * (bs * 2) := Nat.mul_le_mul_right _ (by omega)
      rw [Nat.add_mul] at h1
      omega
    · have h0 : ¬ ((a + bs : Nat) : Int) < (n : Int) := by omega
      rw [Nat.min_eq_right (by omega)] at q0
      simp only [t0, t1, t2, t6, t7, w1, w2, h0, run_exit_start, exit_here, exit_code, exit_inLoop, run_inBlock, n43_0, n43_1, n43_2, n43_3, n43_4, n43_5, n43_6, n43_7, n43_8, n43_9, n43_10, n43_11, n43_12, n43_13, n43_14, n43_15, n43_16, n43_17, n43_18, n43_19, n43_20, n43_21, n43_22, n43_23, n43_24, n43_25, n43_26, n43_27, n43_28, n43_29, n43_30, n43_31, n43_32, n43_33, n43_34, n43_35, n43_36, n43_37, n43_38, n43_39, n43_40, n43_41, n43_42, n43_43, n43_44, n43_45, n43_46, n43_47, n43_48, n43_49, n43_50, n43_51, n43_52, n43_53, n43_54, n43_55, o43_1, o43_3, o43_9, o43_15, o43_17, o43_18, o43_20, o43_25, o43_31, o43_37, o43_43, o43_45, o43_46, o43_49, o43_51, o43_53, o43_55, res43, TT_3, TT_4, TT_5, TT_9, TT_22, TT_25, TT_26, TT_29, TT_33, TT_38, TT_40, TT_42, TT_47, TT_50, TT_57, TT_59, TT_66, TT_68, TT_69, TT_70, TT_72, TT_81, bb, primP, primM, ev, evs, parts_, ofConst, bin, un, intBin, putA, enterT, Nat.reduceEqDiff, Nat.reduceAdd, Nat.reduceMul, Nat.reduceLeDiff, Nat.reduceLT, ↓reduceIte, reduceCtorEq, RunRes, resultsA, oneOf, AV.plain, AV.cells, AHeap.push, AHeap.set, AHeap.empty, fieldOf, loadA, storeA, BX.part, TK.isAgg, convA, builtinA, inertB, builtinP, buildA, fillA, splice, eqv, cellsEq, sizeT, adT, ldT, fwT, Nat.reduceBeqDiff, Nat.reduceBneDiff, Int.reduceBNe, Int.reduceBEq, Int.reduceEq, Int.reduceLT, Int.reduceLE, Int.reduceAdd, Int.reduceSub, Int.reduceMul, Int.reduceNeg, strBin, indexAddrA, elems, lenOf, chunk, List.reduceReplicate, Int.reduceToNat]
      refine hK _ f ?_ ?_ ?_ ?_ hm (bk_of (t := t) hat hs q0 hd)
      all_goals simp only [upd_app, t0, t1, t2, t6, Nat.reduceEqDiff, ↓reduceIte]
  intro d
  induction d with
  | zero =>
    intro t a T f hd hat ha t0 t1 t2 t6 t7 t8 hm hs hb2
    rw [run_inLoop]
    have h0 : ¬ ((a + bs * 2 : Nat) : Int) ≤ (n : Int) := by omega
    simp only [t0, t1, t2, t6, t7, t8, h0, run_exit_start, exit_here, exit_code, exit_inLoop, run_inBlock, n43_0, n43_1, n43_2, n43_3, n43_4, n43_5, n43_6, n43_7, n43_8, n43_9, n43_10, n43_11, n43_12, n43_13, n43_14, n43_15, n43_16, n43_17, n43_18, n43_19, n43_20, n43_21, n43_22, n43_23, n43_24, n43_25, n43_26, n43_27, n43_28, n43_29, n43_30, n43_31, n43_32, n43_33, n43_34, n43_35, n43_36, n43_37, n43_38, n43_39, n43_40, n43_41, n43_42, n43_43, n43_44, n43_45, n43_46, n43_48, n43_49, n43_50, n43_51, n43_52, n43_53, n43_54, n43_55, o43_1, o43_3, o43_9, o43_15, o43_17, o43_18, o43_20, o43_25, o43_31, o43_37, o43_43, o43_45, o43_46, o43_49, o43_51, o43_53, o43_55, res43, TT_3, TT_4, TT_5, TT_9, TT_22, TT_25, TT_26, TT_29, TT_33, TT_38, TT_40, TT_42, TT_47, TT_50, TT_57, TT_59, TT_66, TT_68, TT_69, TT_70, TT_72, TT_81, bb, primP, primM, ev, evs, parts_, ofConst, bin, un, intBin, putA, enterT, Nat.reduceEqDiff, Nat.reduceAdd, Nat.reduceMul, Nat.reduceLeDiff, Nat.reduceLT, ↓reduceIte, reduceCtorEq, RunRes, resultsA, oneOf, AV.plain, AV.cells, AHeap.push, AHeap.set, AHeap.empty, fieldOf, loadA, storeA, BX.part, TK.isAgg, convA, builtinA, inertB, builtinP, buildA, fillA, splice, eqv, cellsEq, sizeT, adT, ldT, fwT, Nat.reduceBeqDiff, Nat.reduceBneDiff, Int.reduceBNe, Int.reduceBEq, Int.reduceEq, Int.reduceLT, Int.reduceLE, Int.reduceAdd, Int.reduceSub, Int.reduceMul, Int.reduceNeg, strBin, indexAddrA, elems, lenOf, chunk, List.reduceReplicate, Int.reduceToNat]
    refine hend t a _ f (by omega) hat ha ?_ ?_ ?_ ?_ ?_ hm hs hb2
    all_goals simp only [upd_app, t0, t1, t2, t6, t7, Nat.reduceEqDiff, ↓reduceIte]
  | succ d ih =>
    intro t a T f hd hat ha t0 t1 t2 t6 t7 t8 hm hs hb2
    rw [run_inLoop]
    by_cases c : a + bs * 2 ≤ n
    · have h0 : ((a + bs * 2 : Nat) : Int) ≤ (n : Int) := by omega
      have w1 : IntKind.i64.wrap ((a : Int) + (bs : Int)) = ((a + bs : Nat) : Int) := by rw [wr64 (by omega) (by omega)]; omega
      have w2 : IntKind.i64.wrap (2 * (bs : Int)) = ((bs * 2 : Nat) : Int) := by rw [wr64 (by omega) (by omega)]; omega
      have w3 : IntKind.i64.wrap (((a + bs * 2 : Nat) : Int) + ((bs * 2 : Nat) : Int)) = ((a + bs * 2 + bs * 2 : Nat) : Int) := by rw [wr64 (by omega) (by omega)]; omega
      have q0 := hb2 0
      have q1 := hb2 1
      rw [Nat.zero_mul, Nat.add_zero, Nat.min_eq_left (by omega)] at q0
      rw [Nat.one_mul, Nat.min_eq_left (by omega), show a + bs + bs = a + bs * 2 by omega] at q1
      simp only [t0, t1, t2, t6, t7, t8, w1, h0, run_exit_start, exit_here, exit_code, exit_inLoop, run_inBlock, n43_0, n43_1, n43_2, n43_3, n43_4, n43_5, n43_6, n43_7, n43_8, n43_9, n43_10, n43_11, n43_12, n43_13, n43_14, n43_15, n43_16, n43_17, n43_18, n43_19, n43_20, n43_21, n43_22, n43_23, n43_24, n43_25, n43_26, n43_27, n43_28, n43_29, n43_30, n43_31, n43_32, n43_33, n43_34, n43_35, n43_36, n43_37, n43_38, n43_39, n43_40, n43_41, n43_42, n43_43, n43_44, n43_45, n43_46, n43_48, n43_49, n43_50, n43_51, n43_52, n43_53, n43_54, n43_55, o43_1, o43_3, o43_9, o43_15, o43_17, o43_18, o43_20, o43_25, o43_31, o43_37, o43_43, o43_45, o43_46, o43_49, o43_51, o43_53, o43_55, res43, TT_3, TT_4, TT_5, TT_9, TT_22, TT_25, TT_26, TT_29, TT_33, TT_38, TT_40, TT_42, TT_47, TT_50, TT_57, TT_59, TT_66, TT_68, TT_69, TT_70, TT_72, TT_81, bb, primP, primM, ev, evs, parts_, ofConst, bin, un, intBin, putA, enterT, Nat.reduceEqDiff, Nat.reduceAdd, Nat.reduceMul, Nat.reduceLeDiff, Nat.reduceLT, ↓reduceIte, reduceCtorEq, RunRes, resultsA, oneOf, AV.plain, AV.cells, AHeap.push, AHeap.set, AHeap.empty, fieldOf, loadA, storeA, BX.part, TK.isAgg, convA, builtinA, inertB, builtinP, buildA, fillA, splice, eqv, cellsEq, sizeT, adT, ldT, fwT, Nat.reduceBeqDiff, Nat.reduceBneDiff, Int.reduceBNe, Int.reduceBEq, Int.reduceEq, Int.reduceLT, Int.reduceLE, Int.reduceAdd, Int.reduceSub, Int.reduceMul, Int.reduceNeg, strBin, indexAddrA, elems, lenOf, chunk, List.reduceReplicate, Int.reduceToNat]
      refine symMerge_call hn (a + bs * 2 - a) a (a + bs) (a + bs * 2) f _ _ _ _ _ _ _ _ (Nat.le_refl _) (by omega) (by omega) c q0 q1 ?_
      intro f' hm' hs'
      have hm2 := hm.trans (hm'.wide (Nat.zero_le _) (by omega) c)
      simp only [t0, t1, t2, t6, t7, t8, w2, w3, run_exit_start, exit_here, exit_code, exit_inLoop, run_inBlock, n43_0, n43_1, n43_2, n43_3, n43_4, n43_5, n43_6, n43_7, n43_8, n43_9, n43_10, n43_11, n43_12, n43_13, n43_14, n43_15, n43_16, n43_17, n43_18, n43_19, n43_20, n43_21, n43_22, n43_23, n43_24, n43_25, n43_26, n43_27, n43_28, n43_29, n43_30, n43_31, n43_32, n43_33, n43_34, n43_35, n43_36, n43_37, n43_38, n43_39, n43_40, n43_41, n43_42, n43_43, n43_44, n43_45, n43_46, n43_48, n43_49, n43_50, n43_51, n43_52, n43_53, n43_54, n43_55, o43_1, o43_3, o43_9, o43_15, o43_17, o43_18, o43_20, o43_25, o43_31, o43_37, o43_43, o43_45, o43_46, o43_49, o43_51, o43_53, o43_55, res43, TT_3, TT_4, TT_5, TT_9, TT_22, TT_25, TT_26, TT_29, TT_33, TT_38, TT_40, TT_42, TT_47, TT_50, TT_57, TT_59, TT_66, TT_68, TT_69, TT_70, TT_72, TT_81, bb, primP, primM, ev, evs, parts_, ofConst, bin, un, intBin, putA, enterT, Nat.reduceEqDiff, Nat.reduceAdd, Nat.reduceMul, Nat.reduceLeDiff, Nat.reduceLT, ↓reduceIte, reduceCtorEq, RunRes, resultsA, oneOf, AV.plain, AV.cells, AHeap.push, AHeap.set, AHeap.empty, fieldOf, loadA, storeA, BX.part, TK.isAgg, convA, builtinA, inertB, builtinP, buildA, fillA, splice, eqv, cellsEq, sizeT, adT, ldT, fwT, Nat.reduceBeqDiff, Nat.reduceBneDiff, Int.reduceBNe, Int.reduceBEq, Int.reduceEq, Int.reduceLT, Int.reduceLE, Int.reduceAdd, Int.reduceSub, Int.reduceMul, Int.reduceNeg, strBin, indexAddrA, elems, lenOf, chunk, List.reduceReplicate, Int.reduceToNat]
      refine ih (t + 1) (a + bs * 2) _ f' (by omega) (by rw [Nat.add_mul, ← hat, Nat.one_mul]) c ?_ ?_ ?_ ?_ ?_ ?_ hm2 ?_ ?_
      all_goals first | (simp only [upd_app, t0, t1, t2, t6, Nat.reduceEqDiff, ↓reduceIte]; done) | skip
      · intro u hu
        by_cases e : u = t
        · subst e; rw [← hat]; exact hs'
        · refine (hs u (by omega)).congr fun k x y => hm'.1 k (.inl ?_)
          have h1 : (u + 1) * (bs * 2) ≤ t * (bs * 2) := Nat.mul_le_mul_right _ (by omega)
          rw [Nat.add_mul] at h1
          omega
      · intro u
        have q2 := hb2 (u + 2)
        rw [Nat.add_mul, show a + (u * bs + 2 * bs) = a + bs * 2 + u * bs by omega] at q2
        exact q2.congr fun k x y => hm'.1 k (.inr (by omega))
    · have h0 : ¬ ((a + bs * 2 : Nat) : Int) ≤ (n : Int) := by omega
      simp only [t0, t1, t2, t6, t7, t8, h0, run_exit_start, exit_here, exit_code, exit_inLoop, run_inBlock, n43_0, n43_1, n43_2, n43_3, n43_4, n43_5, n43_6, n43_7, n43_8, n43_9, n43_10, n43_11, n43_12, n43_13, n43_14, n43_15, n43_16, n43_17, n43_18, n43_19, n43_20, n43_21, n43_22, n43_23, n43_24, n43_25, n43_26, n43_27, n43_28, n43_29, n43_30, n43_31, n43_32, n43_33, n43_34, n43_35, n43_36, n43_37, n43_38, n43_39, n43_40, n43_41, n43_42, n43_43, n43_44, n43_45, n43_46, n43_48, n43_49, n43_50, n43_51, n43_52, n43_53, n43_54, n43_55, o43_1, o43_3, o43_9, o43_15, o43_17, o43_18, o43_20, o43_25, o43_31, o43_37, o43_43, o43_45, o43_46, o43_49, o43_51, o43_53, o43_55, res43, TT_3, TT_4, TT_5, TT_9, TT_22, TT_25, TT_26, TT_29, TT_33, TT_38, TT_40, TT_42, TT_47, TT_50, TT_57, TT_59, TT_66, TT_68, TT_69, TT_70, TT_72, TT_81, bb, primP, primM, ev, evs, parts_, ofConst, bin, un, intBin, putA, enterT, Nat.reduceEqDiff, Nat.reduceAdd, Nat.reduceMul, Nat.reduceLeDiff, Nat.reduceLT, ↓reduceIte, reduceCtorEq, RunRes, resultsA, oneOf, AV.plain, AV.cells, AHeap.push, AHeap.set, AHeap.empty, fieldOf, loadA, storeA, BX.part, TK.isAgg, convA, builtinA, inertB, builtinP, buildA, fillA, splice, eqv, cellsEq, sizeT, adT, ldT, fwT, Nat.reduceBeqDiff, Nat.reduceBneDiff, Int.reduceBNe, Int.reduceBEq, Int.reduceEq, Int.reduceLT, Int.reduceLE, Int.reduceAdd, Int.reduceSub, Int.reduceMul, Int.reduceNeg, strBin, indexAddrA, elems, lenOf, chunk, List.reduceReplicate, Int.reduceToNat]
      refine hend t a _ f (by omega) hat ha ?_ ?_ ?_ ?_ ?_ hm hs hb2
      all_goals simp only [upd_app, t0, t1, t2, t6, t7, Nat.reduceEqDiff, ↓reduceIte]
theorem st3_all (hn : n ≤ 1000000) (hQ : ∀ f, Mv 0 n f0 f → Srt f 0 n → Q (.tuple []) ⟨h, SB A g n f⟩) :
    ∀ (d bs : Nat) (T : Nat → AV) (f : Nat → Pr), n ≤ bs + d → 0 < bs → bs ≤ 2000000 → T 0 = .slc g 6 0 n → T 1 = .int .i64 (n : Int) → T 2 = .fn 28 [] [] → T 6 = .int .i64 (bs : Int) → Mv 0 n f0 f → (∀ u, Srt f (u * bs) (min (u * bs + bs) n)) →
      Run Cx 43 T [] none [.inLoop c43_23, .inBlock 2] ⟨h, SB A g n f⟩ Q := by
  have hend : ∀ (bs : Nat) (T : Nat → AV) (f : Nat → Pr), n ≤ bs → T 0 = .slc g 6 0 n → T 1 = .int .i64 (n : Int) → T 2 = .fn 28 [] [] → T 6 = .int .i64 (bs : Int) → Mv 0 n f0 f → (∀ u, Srt f (u * bs) (min (u * bs + bs) n)) →
      Run Cx 43 T [] none [.inLoop c43_23, .inBlock 2] ⟨h, SB A g n f⟩ Q := by
    intro bs T f hd t0 t1 t2 t6 hm hs
    rw [run_inLoop]
    have h0 : ¬ (bs : Int) < (n : Int) := by omega
    have q0 := hs 0
    rw [Nat.zero_mul, Nat.zero_add, Nat.min_eq_right hd] at q0
    simp only [t0, t1, t2, t6, h0, run_nil, run_exit_start, exit_here, exit_code, exit_inLoop, run_inBlock, n43_0, n43_1, n43_2, n43_3, n43_4, n43_5, n43_6, n43_7, n43_8, n43_9, n43_10, n43_11, n43_12, n43_13, n43_14, n43_15, n43_16, n43_17, n43_18, n43_19, n43_20, n43_21, n43_22, n43_23, n43_24, n43_25, n43_26, n43_27, n43_28, n43_29, n43_30, n43_31, n43_32, n43_33, n43_34, n43_35, n43_36, n43_37, n43_38, n43_39, n43_40, n43_41, n43_42, n43_43, n43_44, n43_45, n43_46, n43_47, n43_48, n43_49, n43_50, n43_51, n43_52, n43_53, n43_54, n43_55, o43_1, o43_3, o43_9, o43_15, o43_17, o43_18, o43_20, o43_25, o43_31, o43_37, o43_43, o43_45, o43_46, o43_49, o43_51, o43_53, o43_55, res43, TT_3, TT_4, TT_5, TT_9, TT_22, TT_25, TT_26, TT_29, TT_33, TT_38, TT_40, TT_42, TT_47, TT_50, TT_57, TT_59, TT_66, TT_68, TT_69, TT_70, TT_72, TT_81, bb, primP, primM, ev, evs, parts_, ofConst, bin, un, intBin, putA, enterT, Nat.reduceEqDiff, Nat.reduceAdd, Nat.reduceMul, Nat.reduceLeDiff, Nat.reduceLT, ↓reduceIte, reduceCtorEq, RunRes, resultsA, oneOf, AV.plain, AV.cells, AHeap.push, AHeap.set, AHeap.empty, fieldOf, loadA, storeA, BX.part, TK.isAgg, convA, builtinA, inertB, builtinP, buildA, fillA, splice, eqv, cellsEq, sizeT, adT, ldT, fwT, Nat.reduceBeqDiff, Nat.reduceBneDiff, Int.reduceBNe, Int.reduceBEq, Int.reduceEq, Int.reduceLT, Int.reduceLE, Int.reduceAdd, Int.reduceSub, Int.reduceMul, Int.reduceNeg, strBin, indexAddrA, elems, lenOf, chunk, List.reduceReplicate, Int.reduceToNat]
    exact hQ f hm q0
  intro d
  induction d with
  | zero =>
    intro bs T f hd hb hb2 t0 t1 t2 t6 hm hs
    exact hend bs T f (by omega) t0 t1 t2 t6 hm hs
  | succ d ih =>
    intro bs T f hd hb hb2 t0 t1 t2 t6 hm hs
    by_cases c : n ≤ bs
    · exact hend bs T f c t0 t1 t2 t6 hm hs
    · rw [run_inLoop]
      have h0 : (bs : Int) < (n : Int) := by omega
      have w2 : IntKind.i64.wrap (2 * (bs : Int)) = ((bs * 2 : Nat) : Int) := by rw [wr64 (by omega) (by omega)]; omega
      simp only [t0, t1, t2, t6, w2, h0, run_exit_start, exit_here, exit_code, exit_inLoop, run_inBlock, n43_0, n43_1, n43_2, n43_3, n43_4, n43_5, n43_6, n43_7, n43_8, n43_9, n43_10, n43_11, n43_12, n43_13, n43_14, n43_15, n43_16, n43_17, n43_18, n43_19, n43_20, n43_21, n43_22, n43_23, n43_24, n43_25, n43_26, n43_27, n43_28, n43_29, n43_30, n43_31, n43_32, n43_33, n43_34, n43_36, n43_37, n43_38, n43_39, n43_40, n43_41, n43_42, n43_43, n43_44, n43_45, n43_46, n43_48, n43_49, n43_50, n43_51, n43_52, n43_53, n43_54, n43_55, o43_1, o43_3, o43_9, o43_15, o43_17, o43_18, o43_20, o43_25, o43_31, o43_37, o43_43, o43_45, o43_46, o43_49, o43_51, o43_53, o43_55, res43, TT_3, TT_4, TT_5, TT_9, TT_22, TT_25, TT_26, TT_29, TT_33, TT_38, TT_40, TT_42, TT_47, TT_50, TT_57, TT_59, TT_66, TT_68, TT_69, TT_70, TT_72, TT_81, bb, primP, primM, ev, evs, parts_, ofConst, bin, un, intBin, putA, enterT, Nat.reduceEqDiff, Nat.reduceAdd, Nat.reduceMul, Nat.reduceLeDiff, Nat.reduceLT, ↓reduceIte, reduceCtorEq, RunRes, resultsA, oneOf, AV.plain, AV.cells, AHeap.push, AHeap.set, AHeap.empty, fieldOf, loadA, storeA, BX.part, TK.isAgg, convA, builtinA, inertB, builtinP, buildA, fillA, splice, eqv, cellsEq, sizeT, adT, ldT, fwT, Nat.reduceBeqDiff, Nat.reduceBneDiff, Int.reduceBNe, Int.reduceBEq, Int.reduceEq, Int.reduceLT, Int.reduceLE, Int.reduceAdd, Int.reduceSub, Int.reduceMul, Int.reduceNeg, strBin, indexAddrA, elems, lenOf, chunk, List.reduceReplicate, Int.reduceToNat]
      refine st2_all (bs := bs) hn hb (by omega) ?_ n 0 0 _ f (by omega) (by omega) (by omega) ?_ ?_ ?_ ?_ ?_ ?_ hm (fun u hu => absurd hu (by omega)) ?_
      · intro T' f' t0' t1' t2' t6' hm' hs'
        exact ih (bs * 2) T' f' (by omega) (by omega) (by omega) t0' t1' t2' t6' hm' hs'
      all_goals first | (simp only [upd_app, t0, t1, t2, t6, Nat.reduceEqDiff, ↓reduceIte]; done) | skip
      · simp only [upd_app, Nat.reduceEqDiff, ↓reduceIte]; rfl
      · simp only [upd_app, Nat.reduceEqDiff, ↓reduceIte, Nat.zero_add]
      · intro u; rw [Nat.zero_add]; exact hs u
end
section
variable {fn : FuncId} {T : Nat → AV} {ds : List ADef} {ro : Option Nat} {k : List AItem} {Q : AV → AHeap → Prop} {dst : Option Nat} {os : List AO} {h n : Nat} {A : Nat → Blk} {g : Nat} {f : Nat → Pr}
theorem SortStable_call (hn : n ≤ 1000000) (hk : ∀ f', Mv 0 n f f' → Srt f' 0 n → RunOps Cx fn (putA T dst (.tuple [])) ds ro os k ⟨h, SB A g n f'⟩ Q) :
    RunCall Cx fn T ds ro 33 [.slc g 6 0 n, .fn 28 [] []] dst os k ⟨h, SB A g n f⟩ Q := by
  refine call_body pure33 (noext _) body33 ?_
  simp only [n33_0, o33_0, res33, TT_3, TT_4, TT_5, TT_9, TT_22, TT_25, TT_26, TT_29, TT_33, TT_38, TT_40, TT_42, TT_47, TT_50, TT_57, TT_59, TT_66, TT_68, TT_69, TT_70, TT_72, TT_81, bb, primP, primM, ev, evs, parts_, ofConst, bin, un, intBin, putA, enterT, Nat.reduceEqDiff, Nat.reduceAdd, Nat.reduceMul, Nat.reduceLeDiff, Nat.reduceLT, ↓reduceIte, reduceCtorEq, RunRes, resultsA, oneOf, AV.plain, AV.cells, AHeap.push, AHeap.set, AHeap.empty, fieldOf, loadA, storeA, BX.part, TK.isAgg, convA, builtinA, inertB, builtinP, buildA, fillA, splice, eqv, cellsEq, sizeT, adT, ldT, fwT, Nat.reduceBeqDiff, Nat.reduceBneDiff, Int.reduceBNe, Int.reduceBEq, Int.reduceEq, Int.reduceLT, Int.reduceLE, Int.reduceAdd, Int.reduceSub, Int.reduceMul, Int.reduceNeg, strBin, indexAddrA, elems, lenOf, chunk, List.reduceReplicate, Int.reduceToNat]
  refine call_body pure43 (noext _) body43 ?_
  simp only [n43_0, n43_1, n43_2, n43_3, n43_4, n43_5, n43_6, n43_8, n43_9, n43_10, n43_11, n43_12, n43_13, n43_14, n43_15, n43_16, n43_17, n43_18, n43_20, n43_21, n43_22, n43_23, n43_24, n43_25, n43_26, n43_27, n43_28, n43_29, n43_30, n43_31, n43_32, n43_33, n43_34, n43_35, n43_36, n43_37, n43_38, n43_39, n43_40, n43_41, n43_42, n43_43, n43_44, n43_45, n43_46, n43_47, n43_48, n43_49, n43_50, n43_51, n43_52, n43_53, n43_54, n43_55, o43_1, o43_3, o43_9, o43_15, o43_17, o43_18, o43_20, o43_25, o43_31, o43_37, o43_43, o43_45, o43_46, o43_49, o43_51, o43_53, o43_55, res43, TT_3, TT_4, TT_5, TT_9, TT_22, TT_25, TT_26, TT_29, TT_33, TT_38, TT_40, TT_42, TT_47, TT_50, TT_57, TT_59, TT_66, TT_68, TT_69, TT_70, TT_72, TT_81, bb, primP, primM, ev, evs, parts_, ofConst, bin, un, intBin, putA, enterT, Nat.reduceEqDiff, Nat.reduceAdd, Nat.reduceMul, Nat.reduceLeDiff, Nat.reduceLT, ↓reduceIte, reduceCtorEq, RunRes, resultsA, oneOf, AV.plain, AV.cells, AHeap.push, AHeap.set, AHeap.empty, fieldOf, loadA, storeA, BX.part, TK.isAgg, convA, builtinA, inertB, builtinP, buildA, fillA, splice, eqv, cellsEq, sizeT, adT, ldT, fwT, Nat.reduceBeqDiff, Nat.reduceBneDiff, Int.reduceBNe, Int.reduceBEq, Int.reduceEq, Int.reduceLT, Int.reduceLE, Int.reduceAdd, Int.reduceSub, Int.reduceMul, Int.reduceNeg, strBin, indexAddrA, elems, lenOf, chunk, List.reduceReplicate, Int.reduceToNat]
  refine st1_all (f0 := f) hn ?_ n 0 0 _ f (by omega) (by omega) (by omega) ?_ ?_ ?_ ?_ ?_ ?_ (Mv.refl _ _ _) (fun u hu => absurd hu (by omega))
  · intro T' f' t0 t1 t2 t6 hm hs
    simp only [n43_0, n43_1, n43_2, n43_3, n43_4, n43_5, n43_6, n43_7, n43_8, n43_9, n43_10, n43_11, n43_12, n43_13, n43_14, n43_15, n43_16, n43_17, n43_18, n43_19, n43_20, n43_21, n43_22, n43_24, n43_25, n43_26, n43_27, n43_28, n43_29, n43_30, n43_31, n43_32, n43_33, n43_34, n43_35, n43_36, n43_37, n43_38, n43_39, n43_40, n43_41, n43_42, n43_43, n43_44, n43_45, n43_46, n43_47, n43_48, n43_49, n43_50, n43_51, n43_52, n43_53, n43_54, n43_55, o43_1, o43_3, o43_9, o43_15, o43_17, o43_18, o43_20, o43_25, o43_31, o43_37, o43_43, o43_45, o43_46, o43_49, o43_51, o43_53, o43_55, res43, TT_3, TT_4, TT_5, TT_9, TT_22, TT_25, TT_26, TT_29, TT_33, TT_38, TT_40, TT_42, TT_47, TT_50, TT_57, TT_59, TT_66, TT_68, TT_69, TT_70, TT_72, TT_81, bb, primP, primM, ev, evs, parts_, ofConst, bin, un, intBin, putA, enterT, Nat.reduceEqDiff, Nat.reduceAdd, Nat.reduceMul, Nat.reduceLeDiff, Nat.reduceLT, ↓reduceIte, reduceCtorEq, RunRes, resultsA, oneOf, AV.plain, AV.cells, AHeap.push, AHeap.set, AHeap.empty, fieldOf, loadA, storeA, BX.part, TK.isAgg, convA, builtinA, inertB, builtinP, buildA, fillA, splice, eqv, cellsEq, sizeT, adT, ldT, fwT, Nat.reduceBeqDiff, Nat.reduceBneDiff, Int.reduceBNe, Int.reduceBEq, Int.reduceEq, Int.reduceLT, Int.reduceLE, Int.reduceAdd, Int.reduceSub, Int.reduceMul, Int.reduceNeg, strBin, indexAddrA, elems, lenOf, chunk, List.reduceReplicate, Int.reduceToNat]
    refine st3_all (f0 := f) hn ?_ n 20 T' f' (by omega) (by omega) (by omega) t0 t1 t2 t6 hm hs
    intro f2 hm2 hs2
    simp only [run_nil, n33_0, o33_0, res33, TT_3, TT_4, TT_5, TT_9, TT_22, TT_25, TT_26, TT_29, TT_33, TT_38, TT_40, TT_42, TT_47, TT_50, TT_57, TT_59, TT_66, TT_68, TT_69, TT_70, TT_72, TT_81, bb, primP, primM, ev, evs, parts_, ofConst, bin, un, intBin, putA, enterT, Nat.reduceEqDiff, Nat.reduceAdd, Nat.reduceMul, Nat.reduceLeDiff, Nat.reduceLT, ↓reduceIte, reduceCtorEq, RunRes, resultsA, oneOf, AV.plain, AV.cells, AHeap.push, AHeap.set, AHeap.empty, fieldOf, loadA, storeA, BX.part, TK.isAgg, convA, builtinA, inertB, builtinP, buildA, fillA, splice, eqv, cellsEq, sizeT, adT, ldT, fwT, Nat.reduceBeqDiff, Nat.reduceBneDiff, Int.reduceBNe, Int.reduceBEq, Int.reduceEq, Int.reduceLT, Int.reduceLE, Int.reduceAdd, Int.reduceSub, Int.reduceMul, Int.reduceNeg, strBin, indexAddrA, elems, lenOf, chunk, List.reduceReplicate, Int.reduceToNat]
    exact hk f2 hm2 hs2
  all_goals simp only [upd_app, enterT, List.getElem?_cons_zero, List.getElem?_cons_succ, Option.getD_some, Nat.reduceEqDiff, ↓reduceIte]
  all_goals rfl
end
end Go.Proofs.Ytbfjkomlnpolmaa.G

namespace Go.Proofs.Ytbfjkomlnpolmaa.G
open Go.BX
set_option linter.unusedSimpArgs false
set_option linter.unusedVariables false
def InE (v : AV) (l : List Pr) : Prop := (v = .nilS ∧ l = []) ∨ (v = .emp ∧ l = []) ∨ v = .vec 6 (l.map encP)
theorem InL.e {v : AV} {l : List Pr} (h : InL v l) : InE v l := h.elim .inl (fun h => .inr (.inr h))
theorem InE.flat {v : AV} {l : List Pr} (h : InE v l) : v.flat = true := by
  rcases h with ⟨rfl, _⟩ | ⟨rfl, _⟩ | rfl <;> rfl
structure IsSort (l m : List Pr) : Prop where
  keys : ∀ κ, ofKey κ m = ofKey κ l
  ord : m.Pairwise fun p q => ltP q p = false
  len : m.length = l.length
theorem mem_ofKey {p : Pr} {l : List Pr} : p ∈ ofKey p.key l ↔ p ∈ l := by
  unfold ofKey
  rw [List.mem_filter]
  simp
theorem uniq_sort : ∀ {a b : List Pr}, (∀ κ, ofKey κ a = ofKey κ b) → a.Pairwise (fun p q => ltP q p = false) → b.Pairwise (fun p q => ltP q p = false) → a = b
  | [], [], _, _, _ => rfl
  | [], q :: b, hk, _, _ => by
    have : q ∈ ofKey q.key (q :: b) := mem_ofKey.mpr (by simp)
    rw [← hk] at this
    cases mem_ofKey.mp this
  | p :: a, [], hk, _, _ => by
    have : p ∈ ofKey p.key (p :: a) := mem_ofKey.mpr (by simp)
    rw [hk] at this
    cases mem_ofKey.mp this
  | p :: a, q :: b, hk, ha, hb => by
    rw [List.pairwise_cons] at ha hb
    have hpb : p ∈ q :: b := by
      have : p ∈ ofKey p.key (p :: a) := mem_ofKey.mpr (by simp)
      rw [hk] at this
      exact mem_ofKey.mp this
    have hqa : q ∈ p :: a := by
      have : q ∈ ofKey q.key (q :: b) := mem_ofKey.mpr (by simp)
      rw [← hk] at this
      exact mem_ofKey.mp this
    have e1 : lessB p.key q.key = false := by
      rcases List.mem_cons.mp hpb with e | h
      · rw [e]; exact bl_irr _
      · exact hb.1 p h
    have e2 : lessB q.key p.key = false := by
      rcases List.mem_cons.mp hqa with e | h
      · rw [e]; exact bl_irr _
      · exact ha.1 q h
    have ek := bl_tot _ _ e1 e2
    have hp := hk p.key
    unfold ofKey at hp
    rw [List.filter_cons_of_pos (by simp), List.filter_cons_of_pos (by simp [ek])] at hp
    obtain ⟨rfl, ht⟩ := List.cons.inj hp
    congr 1
    refine uniq_sort (fun κ => ?_) ha.2 hb.2
    have h2 := hk κ
    unfold ofKey at h2 ⊢
    by_cases e : (p.key == κ) = true
    · have : p.key = κ := by simpa using e
      subst this; exact ht
    · have e' : (p.key == κ) = false := by simpa using e
      simp only [List.filter_cons, e', Bool.false_eq_true, if_false] at h2
      exact h2
theorem IsSort.uniq {l a b : List Pr} (ha : IsSort l a) (hb : IsSort l b) : a = b :=
  uniq_sort (fun κ => (ha.keys κ).trans (hb.keys κ).symm) ha.ord hb.ord
theorem IsSort.self {l m : List Pr} (h : IsSort l m) : IsSort m m := ⟨fun _ => rfl, h.ord, rfl⟩
def fnOf (l : List Pr) : Nat → Pr := fun i => l.getD i ⟨[], 0, 0, [], 0, 0⟩
theorem seg_fnOf (l : List Pr) : seg (fnOf l) 0 l.length = l := by
  apply List.ext_getElem?
  intro i
  unfold seg fnOf
  rw [List.getElem?_map]
  by_cases h : i < l.length
  · rw [List.getElem?_range h, List.getElem?_eq_getElem h]
    simp [List.getD, List.getElem?_eq_getElem h]
  · rw [List.getElem?_eq_none (by simpa using h), List.getElem?_eq_none (by omega)]
    rfl
theorem R_seg (n : Nat) (f : Nat → Pr) : R n f = (seg f 0 n).map encP := by
  unfold R seg
  rw [List.map_map]
  apply List.map_congr_left
  intro i _
  simp
theorem R_fnOf (l : List Pr) : R l.length (fnOf l) = l.map encP := by rw [R_seg, seg_fnOf]
theorem isSort_of {l : List Pr} {f : Nat → Pr} (hm : Mv 0 l.length (fnOf l) f) (hs : Srt f 0 l.length) : IsSort l (seg f 0 l.length) where
  keys κ := by
    have := hm.2 κ
    rw [Nat.sub_zero, seg_fnOf] at this
    exact this
  ord := by
    rw [List.pairwise_iff_getElem]
    intro i j hi hj hij
    unfold seg at *
    rw [List.length_map, List.length_range] at hi hj
    simp only [List.getElem_map, List.getElem_range, Nat.zero_add]
    exact hs i j (Nat.zero_le _) hij hj
  len := seg_len _ _ _
theorem freeze_rows' {H : AHeap} {d : Nat} (l : List Pr) : mapO (mapO (freeze1 H d)) (l.map encP) = some (l.map encP) := by
  induction l with
  | nil => rfl
  | cons p l ih =>
    rw [List.map_cons, mapO_cons, ih]
    have : mapO (freeze1 H d) (encP p) = some (encP p) := mapO_all (p := AV.flat1) (fun v hv => freeze1_flat hv) rfl
    rw [this]; rfl
theorem solid_rows (l : List Pr) : (l.map encP).all (fun e => e.all AV.solid1) = true := by
  induction l with
  | nil => rfl
  | cons p l ih => rw [List.map_cons, List.all_cons, ih]; rfl
section
variable {fn : FuncId} {T : Nat → AV} {ds : List ADef} {ro : Option Nat} {k : List AItem} {Q : AV → AHeap → Prop} {dst : Option Nat} {os : List AO} {h : Nat} {A : Nat → Blk}
theorem Clone_vec {l : List Pr} (hl : l.length ≤ 1000000) (h0 : l ≠ []) (hk : RunOps Cx fn (putA T dst (.slc (h + 1) 6 0 l.length)) ds ro os k ⟨h + 1 + 1, SB (upd A h .dead) (h + 1) l.length (fnOf l)⟩ Q) :
    RunCall Cx fn T ds ro 26 [.vec 6 (l.map encP)] dst os k ⟨h, A⟩ Q := by
  refine call_body pure26 (noext _) body26 ?_
  have e0 : (l.map encP = []) = False := eq_false (by simp [h0])
  have m1 : (l.map encP).length * 64 ≤ most := by unfold most; rw [List.length_map]; omega
  have m2 : (l.map encP).length ≤ most := by unfold most; rw [List.length_map]; omega
  simp only [e0, m1, m2, builtinM, appendA, source, isNilSl, runVH_some, n26_0, n26_1, n26_2, n26_3, n26_4, n26_5, n26_6, n26_7, n26_8, n26_9, n26_10, n26_11, n26_12, o26_1, o26_4, o26_7, o26_11, res26, TT_3, TT_4, TT_5, TT_9, TT_22, TT_25, TT_26, TT_29, TT_33, TT_38, TT_40, TT_42, TT_47, TT_50, TT_57, TT_59, TT_66, TT_68, TT_69, TT_70, TT_72, TT_81, bb, primP, primM, ev, evs, parts_, ofConst, bin, un, intBin, putA, enterT, Nat.reduceEqDiff, Nat.reduceAdd, Nat.reduceMul, Nat.reduceLeDiff, Nat.reduceLT, ↓reduceIte, reduceCtorEq, RunRes, resultsA, oneOf, AV.plain, AV.cells, AHeap.push, AHeap.set, AHeap.empty, fieldOf, loadA, storeA, BX.part, TK.isAgg, convA, builtinA, inertB, builtinP, buildA, fillA, splice, eqv, cellsEq, sizeT, adT, ldT, fwT, Nat.reduceBeqDiff, Nat.reduceBneDiff, Int.reduceBNe, Int.reduceBEq, Int.reduceEq, Int.reduceLT, Int.reduceLE, Int.reduceAdd, Int.reduceSub, Int.reduceMul, Int.reduceNeg, strBin, indexAddrA, elems, lenOf, chunk, List.reduceReplicate, Int.reduceToNat]
  rw [List.length_map]
  unfold SB at hk
  rw [R_fnOf] at hk
  rw [upd2]
  exact hk
theorem Sort_body {l : List Pr} {Q : AV → AHeap → Prop} {A : Nat → Blk} {h : Nat} (hl : l.length ≤ 1000000) (h0 : l ≠ []) (hQ : ∀ m, IsSort l m → Q (.slc (h + 1) 6 0 m.length) ⟨h + 1 + 1, upd (upd A h .dead) (h + 1) (.cells 42 6 (m.map encP))⟩) (body : AC) (hb : bodyOf Cx 22 = some body) :
    Run Cx 22 (enterT [.vec 6 (l.map encP)]) [] none [.code body] ⟨h, A⟩ Q := by
  have e := body22
  rw [e] at hb
  cases hb
  simp only [n22_0, n22_1, n22_2, n22_3, n22_4, n22_5, n22_6, n22_7, n22_8, o22_1, o22_3, o22_5, o22_7, res22, TT_3, TT_4, TT_5, TT_9, TT_22, TT_25, TT_26, TT_29, TT_33, TT_38, TT_40, TT_42, TT_47, TT_50, TT_57, TT_59, TT_66, TT_68, TT_69, TT_70, TT_72, TT_81, bb, primP, primM, ev, evs, parts_, ofConst, bin, un, intBin, putA, enterT, Nat.reduceEqDiff, Nat.reduceAdd, Nat.reduceMul, Nat.reduceLeDiff, Nat.reduceLT, ↓reduceIte, reduceCtorEq, RunRes, resultsA, oneOf, AV.plain, AV.cells, AHeap.push, AHeap.set, AHeap.empty, fieldOf, loadA, storeA, BX.part, TK.isAgg, convA, builtinA, inertB, builtinP, buildA, fillA, splice, eqv, cellsEq, sizeT, adT, ldT, fwT, Nat.reduceBeqDiff, Nat.reduceBneDiff, Int.reduceBNe, Int.reduceBEq, Int.reduceEq, Int.reduceLT, Int.reduceLE, Int.reduceAdd, Int.reduceSub, Int.reduceMul, Int.reduceNeg, strBin, indexAddrA, elems, lenOf, chunk, List.reduceReplicate, Int.reduceToNat]
  refine Clone_vec hl h0 ?_
  simp only [n22_0, n22_1, n22_2, n22_3, n22_4, n22_5, n22_6, n22_7, n22_8, o22_1, o22_3, o22_5, o22_7, res22, TT_3, TT_4, TT_5, TT_9, TT_22, TT_25, TT_26, TT_29, TT_33, TT_38, TT_40, TT_42, TT_47, TT_50, TT_57, TT_59, TT_66, TT_68, TT_69, TT_70, TT_72, TT_81, bb, primP, primM, ev, evs, parts_, ofConst, bin, un, intBin, putA, enterT, Nat.reduceEqDiff, Nat.reduceAdd, Nat.reduceMul, Nat.reduceLeDiff, Nat.reduceLT, ↓reduceIte, reduceCtorEq, RunRes, resultsA, oneOf, AV.plain, AV.cells, AHeap.push, AHeap.set, AHeap.empty, fieldOf, loadA, storeA, BX.part, TK.isAgg, convA, builtinA, inertB, builtinP, buildA, fillA, splice, eqv, cellsEq, sizeT, adT, ldT, fwT, Nat.reduceBeqDiff, Nat.reduceBneDiff, Int.reduceBNe, Int.reduceBEq, Int.reduceEq, Int.reduceLT, Int.reduceLE, Int.reduceAdd, Int.reduceSub, Int.reduceMul, Int.reduceNeg, strBin, indexAddrA, elems, lenOf, chunk, List.reduceReplicate, Int.reduceToNat]
  refine SortStable_call (A := upd A h .dead) (g := h + 1) (f := fnOf l) hl ?_
  intro f hm hs
  have hi := isSort_of hm hs
  have hq := hQ _ hi
  rw [hi.len, ← R_seg] at hq
  simp only [n22_0, n22_1, n22_2, n22_3, n22_4, n22_5, n22_6, n22_7, n22_8, o22_1, o22_3, o22_5, o22_7, res22, TT_3, TT_4, TT_5, TT_9, TT_22, TT_25, TT_26, TT_29, TT_33, TT_38, TT_40, TT_42, TT_47, TT_50, TT_57, TT_59, TT_66, TT_68, TT_69, TT_70, TT_72, TT_81, bb, primP, primM, ev, evs, parts_, ofConst, bin, un, intBin, putA, enterT, Nat.reduceEqDiff, Nat.reduceAdd, Nat.reduceMul, Nat.reduceLeDiff, Nat.reduceLT, ↓reduceIte, reduceCtorEq, RunRes, resultsA, oneOf, AV.plain, AV.cells, AHeap.push, AHeap.set, AHeap.empty, fieldOf, loadA, storeA, BX.part, TK.isAgg, convA, builtinA, inertB, builtinP, buildA, fillA, splice, eqv, cellsEq, sizeT, adT, ldT, fwT, Nat.reduceBeqDiff, Nat.reduceBneDiff, Int.reduceBNe, Int.reduceBEq, Int.reduceEq, Int.reduceLT, Int.reduceLE, Int.reduceAdd, Int.reduceSub, Int.reduceMul, Int.reduceNeg, strBin, indexAddrA, elems, lenOf, chunk, List.reduceReplicate, Int.reduceToNat]
  exact hq
end
theorem freeze_slc_rows {A : Nat → Blk} {h g : Nat} {m : List Pr} : BX.freeze ⟨h, upd A g (.cells 42 6 (m.map encP))⟩ (.slc g 6 0 m.length) = some (.vec 6 (m.map encP)) ∧ madeT ⟨h, upd A g (.cells 42 6 (m.map encP))⟩ (.slc g 6 0 m.length) = some (.vec 6 (m.map encP)) := by
  have f8 : (m.map encP).take m.length = m.map encP := List.take_of_length_le (by rw [List.length_map]; omega)
  have he : elems ⟨h, upd A g (.cells 42 6 (m.map encP))⟩ 6 (.slc g 6 0 m.length) = some (m.map encP) := by
    unfold elems
    simp only [upd_app, ↓reduceIte]
    rw [if_pos ⟨trivial, trivial, by rw [List.length_map]; omega⟩, List.drop_zero, f8]
  constructor
  · rw [freeze_slc, he, frzE_some, freeze_rows']
    rfl
  · show made1 _ _ = _
    unfold made1
    rw [if_neg (by simp [AV.solid2, AV.solid1])]
    simp only [he]
    rw [if_pos (solid_rows m)]
theorem pmade_of {n : Nat} {f : FuncId} {args : List AV} {r : AV} (h : (match (clOf Cx n).call f args AHeap.empty with | some (r0, H') => (match BX.freeze H' r0 with | some r1 => if r1.solid then some r1 else madeT H' r0 | none => none) | none => none) = some r) : PMade Cx f args r := by
  split at h
  · rename_i r0 H' hc
    split at h
    · rename_i r1 hf
      exact ⟨n, r0, H', r1, hc, hf, h⟩
    · cases h
  · cases h
theorem Sort_ok {v : AV} {l : List Pr} (hv : InE v l) (hl : l.length ≤ 1000000) : ∃ m w, IsSort l m ∧ InE w m ∧ PCall Cx 22 [v] w ∧ PMade Cx 22 [v] w := by
  have nil_ok : IsSort [] [] := ⟨fun _ => rfl, List.Pairwise.nil, rfl⟩
  by_cases h0 : l = []
  · subst h0
    rcases hv with ⟨rfl, _⟩ | ⟨rfl, _⟩ | rfl
    · exact ⟨[], .nilS, nil_ok, .inl ⟨rfl, rfl⟩, ⟨60, by kernel_rfl⟩, ⟨60, .nilS, AHeap.empty, .nilS, by kernel_rfl, rfl, rfl⟩⟩
    · refine ⟨[], .vec 6 [], nil_ok, .inr (.inr rfl), ⟨60, by kernel_rfl⟩, ?_⟩
      exact pmade_of (n := 60) (by kernel_rfl)
    · refine ⟨[], .vec 6 [], nil_ok, .inr (.inr rfl), ⟨60, by kernel_rfl⟩, ?_⟩
      exact pmade_of (n := 60) (by kernel_rfl)
  · have hv' : v = .vec 6 (l.map encP) := by
      rcases hv with ⟨_, h⟩ | ⟨_, h⟩ | h
      · exact absurd h h0
      · exact absurd h h0
      · exact h
    subst hv'
    have hx : ∃ n m g H, IsSort l m ∧ (clOf Cx n).call 22 [.vec 6 (l.map encP)] AHeap.empty = some (.slc g 6 0 m.length, H) ∧ BX.freeze H (.slc g 6 0 m.length) = some (.vec 6 (m.map encP)) ∧ madeT H (.slc g 6 0 m.length) = some (.vec 6 (m.map encP)) := by
      have hr := Sort_body (A := AHeap.empty.at_) (h := AHeap.empty.next) (Q := fun r0 H => ∃ m g, IsSort l m ∧ r0 = .slc g 6 0 m.length ∧ BX.freeze H (.slc g 6 0 m.length) = some (.vec 6 (m.map encP)) ∧ madeT H (.slc g 6 0 m.length) = some (.vec 6 (m.map encP))) hl h0 (fun m hm => ⟨m, _, hm, rfl, freeze_slc_rows.1, freeze_slc_rows.2⟩) _ body22
      obtain ⟨n, r0, H, he, m, g, hm, rfl, h1, h2⟩ := hr
      have hb := body22
      unfold bodyOf at hb
      simp only [Option.map_eq_some_iff] at hb
      obtain ⟨fi, hfi, hfb⟩ := hb
      refine ⟨n, m, g, H, hm, ?_, h1, h2⟩
      show (clMk Cx (exec Cx n)).call _ _ AHeap.empty = _
      simp only [clMk, noext 22, hfi]
      rw [hfb]
      exact he
    obtain ⟨n, m, g, H, hm, hc, h1, h2⟩ := hx
    refine ⟨m, .vec 6 (m.map encP), hm, .inr (.inr rfl), ⟨n, ?_⟩, ⟨n, _, H, _, hc, h1, ?_⟩⟩
    · unfold pcall
      rw [hc]
      exact h1
    · rw [if_neg (by simp [AV.solid, AV.solid2, AV.solid1]), h2]
end Go.Proofs.Ytbfjkomlnpolmaa.G

namespace Go.Proofs.Ytbfjkomlnpolmaa.G
open Go.BX
set_option linter.unusedSimpArgs false
set_option linter.unusedVariables false
theorem SamePairs_e {v w : AV} {l : List Pr} (hv : InE v l) (hw : InE w l) (hl : l.length ≤ 100000) : PCall Cx 18 [v, w] (.bool true) := by
  by_cases he : l = []
  · refine pcall_run (noext _) body18 ?_
    subst he
    rcases hv with ⟨rfl, _⟩ | ⟨rfl, _⟩ | rfl <;> rcases hw with ⟨rfl, _⟩ | ⟨rfl, _⟩ | rfl <;>
    simp only [List.map_nil, run_exit_start, exit_here, exit_code, exit_inLoop, run_inBlock, run_inLoop, n18_0, n18_1, n18_2, n18_3, n18_4, n18_5, n18_6, n18_7, n18_8, n18_9, n18_10, n18_11, n18_12, n18_13, n18_14, n18_15, n18_16, n18_17, n18_18, n18_19, n18_20, n18_21, n18_22, n18_23, n18_24, n18_25, n18_26, n18_27, n18_28, n18_29, n18_30, n18_31, n18_32, n18_33, o18_1, o18_4, o18_7, o18_12, o18_17, o18_24, o18_27, o18_30, o18_32, res18, TT_3, TT_4, TT_5, TT_9, TT_22, TT_25, TT_26, TT_29, TT_33, TT_38, TT_40, TT_42, TT_47, TT_50, TT_57, TT_59, TT_66, TT_68, TT_69, TT_70, TT_72, TT_81, bb, primP, primM, ev, evs, parts_, ofConst, bin, un, intBin, putA, enterT, Nat.reduceEqDiff, Nat.reduceAdd, Nat.reduceMul, Nat.reduceLeDiff, Nat.reduceLT, ↓reduceIte, reduceCtorEq, RunRes, resultsA, oneOf, AV.plain, AV.cells, AHeap.push, AHeap.set, AHeap.empty, fieldOf, loadA, storeA, BX.part, TK.isAgg, convA, builtinA, inertB, builtinP, buildA, fillA, splice, eqv, cellsEq, sizeT, adT, ldT, fwT, Nat.reduceBeqDiff, Nat.reduceBneDiff, Int.reduceBNe, Int.reduceBEq, Int.reduceEq, Int.reduceLT, Int.reduceLE, Int.reduceAdd, Int.reduceSub, Int.reduceMul, Int.reduceNeg, strBin, indexAddrA, elems, lenOf, chunk, List.reduceReplicate, Int.reduceToNat]
  · have hv' : v = .vec 6 (l.map encP) := by
      rcases hv with ⟨_, h⟩ | ⟨_, h⟩ | h
      · exact absurd h he
      · exact absurd h he
      · exact h
    have hw' : w = .vec 6 (l.map encP) := by
      rcases hw with ⟨_, h⟩ | ⟨_, h⟩ | h
      · exact absurd h he
      · exact absurd h he
      · exact h
    exact SamePairs_ok (.inr hv') (.inr hw') hl
theorem InE.vec {v : AV} {l : List Pr} (h : InE v l) (h0 : l ≠ []) : v = .vec 6 (l.map encP) := by
  rcases h with ⟨_, h⟩ | ⟨_, h⟩ | h
  · exact absurd h h0
  · exact absurd h h0
  · exact h
def eqP (p a : Pr) : Bool := a.key == p.key && (a.k == p.k && (a.n == p.n && (a.s == p.s && (a.x == p.x && a.y == p.y))))
def cnt (p : Pr) (l : List Pr) : Nat := (l.filter (eqP p)).length
theorem cnt_keys (p : Pr) (l : List Pr) : cnt p l = cnt p (ofKey p.key l) := by
  unfold cnt ofKey
  rw [List.filter_filter]
  congr 1
  apply List.filter_congr
  intro a _
  unfold eqP
  cases h : (a.key == p.key) <;> simp [h]
theorem cnt_sort {l m : List Pr} (h : IsSort l m) (p : Pr) : cnt p m = cnt p l := by
  rw [cnt_keys p m, cnt_keys p l, h.keys]
theorem cnt_succ (p : Pr) {l : List Pr} {i : Nat} (h : i < l.length) : cnt p (l.take (i + 1)) = cnt p (l.take i) + (if eqP p l[i] = true then 1 else 0) := by
  unfold cnt
  rw [List.take_succ_eq_append_getElem h, List.filter_append, List.length_append]
  congr 1
  cases hq : eqP p l[i] <;> simp [List.filter_cons, hq]
theorem cnt_le (p : Pr) (l : List Pr) : cnt p l ≤ l.length := by
  unfold cnt
  exact List.length_filter_le _ _
end Go.Proofs.Ytbfjkomlnpolmaa.G
namespace Go.Proofs.Ytbfjkomlnpolmaa.G
open Go.BX
set_option linter.unusedSimpArgs false
set_option linter.unusedVariables false
theorem InE.len {v : AV} {l : List Pr} (h : InE v l) : lenOf v = some l.length := by
  rcases h with ⟨rfl, rfl⟩ | ⟨rfl, rfl⟩ | rfl
  · rfl
  · rfl
  · show some _ = _
    rw [List.length_map]
end Go.Proofs.Ytbfjkomlnpolmaa.G
namespace Go.Proofs.Ytbfjkomlnpolmaa.G
open Go.BX
set_option linter.unusedSimpArgs false
set_option linter.unusedVariables false
theorem pcall_ex {f : FuncId} {args : List AV} {body : AC} {P : AV → Prop} (hx : Cx.ext f = none) (hb : bodyOf Cx f = some body) (h : Run Cx f (enterT args) [] none [.code body] AHeap.empty (fun r0 H' => ∃ r, P r ∧ BX.freeze H' r0 = some r)) : ∃ r, P r ∧ PCall Cx f args r := by
  obtain ⟨n, r0, H', he, r, hP, hf⟩ := h
  exact ⟨r, hP, pcall_run hx hb ⟨n, r0, H', he, hf⟩⟩
theorem fnOf_get {l : List Pr} {i : Nat} (h : i < l.length) : fnOf l i = l[i] := by
  unfold fnOf
  simp [List.getD, List.getElem?_eq_getElem h]
theorem pair_srt {l : List Pr} : (l.Pairwise fun p q => ltP q p = false) ↔ Srt (fnOf l) 0 l.length := by
  rw [List.pairwise_iff_getElem]
  constructor
  · intro h i j _ hij hj
    rw [fnOf_get hj, fnOf_get (by omega)]
    exact h i j (by omega) hj hij
  · intro h i j hi hj hij
    have := h i j (Nat.zero_le _) hij hj
    rw [fnOf_get hj, fnOf_get hi] at this
    exact this
theorem srt_adj {f : Nat → Pr} {n : Nat} (h : ∀ k, 0 < k → k < n → ltP (f k) (f (k - 1)) = false) : Srt f 0 n := by
  intro i j _ hij hj
  induction j with
  | zero => omega
  | succ j ih =>
    by_cases e : i = j
    · subst e; exact h (i + 1) (by omega) hj
    · exact bl_le (ih (by omega) (by omega)) (h (j + 1) (by omega) hj)
theorem is_all {l : List Pr} {Q : AV → AHeap → Prop} {H : AHeap} {n : Nat} (hn : n = l.length) (hl : n ≤ 1000000) (hQ : ∀ b, (b = true ↔ Srt (fnOf l) 0 n) → Q (.bool b) H) :
    ∀ (i : Nat) (T : Nat → AV), i < n → T 0 = .vec 6 (l.map encP) → T 1 = .fn 28 [] [] → T 5 = .int .i64 (i : Int) → (∀ k, i < k → k < n → ltP (fnOf l k) (fnOf l (k - 1)) = false) →
      Run Cx 27 T [] none [.inLoop c27_7, .inBlock 0, .code c27_23] H Q := by
  intro i
  induction i with
  | zero =>
    intro T hi t0 t1 t5 hs
    replace t5 : T 5 = .int .i64 0 := t5
    rw [run_inLoop]
    simp only [t0, t1, t5, run_exit_start, exit_here, exit_code, exit_inLoop, run_inBlock, n27_0, n27_1, n27_2, n27_3, n27_4, n27_5, n27_6, n27_7, n27_8, n27_9, n27_10, n27_11, n27_12, n27_13, n27_14, n27_15, n27_16, n27_17, n27_18, n27_19, n27_20, n27_21, n27_22, n27_23, n27_24, n27_25, o27_1, o27_4, o27_9, o27_16, o27_19, o27_22, o27_24, res27, TT_3, TT_4, TT_5, TT_9, TT_22, TT_25, TT_26, TT_29, TT_33, TT_38, TT_40, TT_42, TT_47, TT_50, TT_57, TT_59, TT_66, TT_68, TT_69, TT_70, TT_72, TT_81, bb, primP, primM, ev, evs, parts_, ofConst, bin, un, intBin, putA, enterT, Nat.reduceEqDiff, Nat.reduceAdd, Nat.reduceMul, Nat.reduceLeDiff, Nat.reduceLT, ↓reduceIte, reduceCtorEq, RunRes, resultsA, oneOf, AV.plain, AV.cells, AHeap.push, AHeap.set, AHeap.empty, fieldOf, loadA, storeA, BX.part, TK.isAgg, convA, builtinA, inertB, builtinP, buildA, fillA, splice, eqv, cellsEq, sizeT, adT, ldT, fwT, Nat.reduceBeqDiff, Nat.reduceBneDiff, Int.reduceBNe, Int.reduceBEq, Int.reduceEq, Int.reduceLT, Int.reduceLE, Int.reduceAdd, Int.reduceSub, Int.reduceMul, Int.reduceNeg, strBin, indexAddrA, elems, lenOf, chunk, List.reduceReplicate, Int.reduceToNat]
    exact hQ true ⟨fun _ => srt_adj (fun k a b => hs k a b), fun _ => rfl⟩
  | succ i ih =>
    intro T hi t0 t1 t5 hs
    rw [run_inLoop]
    have h0 : (0 : Int) < ((i + 1 : Nat) : Int) := by omega
    have w1 : IntKind.i64.wrap (((i + 1 : Nat) : Int) - 1) = (i : Int) := by rw [wr64 (by omega) (by omega)]; omega
    have l1 : ((i + 1 : Nat) : Int) < ((l.map encP).length : Int) := by rw [List.length_map]; omega
    have l2 : (i : Int) < ((l.map encP).length : Int) := by rw [List.length_map]; omega
    have p1 : (0 : Int) ≤ ((i + 1 : Nat) : Int) := by omega
    have p2 : (0 : Int) ≤ (i : Int) := by omega
    have g1 := enc_get (List.getElem?_eq_getElem (show i + 1 < l.length by omega))
    have g2 := enc_get (List.getElem?_eq_getElem (show i < l.length by omega))
    have hc := byKey_ok l[i + 1] l[i]
    have hlt := cmpK_lt l[i + 1] l[i]
    have e1 := fnOf_get (show i + 1 < l.length by omega)
    have e2 := fnOf_get (show i < l.length by omega)
    by_cases hl' : ltP l[i + 1] l[i] = true
    · have hlt' : (cmpK l[i + 1] l[i] < 0) = True := by rw [hlt]; exact eq_true hl'
      simp only [t0, t1, t5, h0, w1, l1, l2, p1, p2, g1, g2, hlt', call_pure pure28 rfl hc, Int.toNat_natCast, run_exit_start, exit_here, exit_code, exit_inLoop, run_inBlock, n27_0, n27_1, n27_2, n27_3, n27_4, n27_5, n27_6, n27_7, n27_8, n27_9, n27_10, n27_11, n27_12, n27_13, n27_14, n27_15, n27_16, n27_17, n27_18, n27_19, n27_20, n27_21, n27_22, n27_23, n27_24, n27_25, o27_1, o27_4, o27_9, o27_16, o27_19, o27_22, o27_24, res27, TT_3, TT_4, TT_5, TT_9, TT_22, TT_25, TT_26, TT_29, TT_33, TT_38, TT_40, TT_42, TT_47, TT_50, TT_57, TT_59, TT_66, TT_68, TT_69, TT_70, TT_72, TT_81, bb, primP, primM, ev, evs, parts_, ofConst, bin, un, intBin, putA, enterT, Nat.reduceEqDiff, Nat.reduceAdd, Nat.reduceMul, Nat.reduceLeDiff, Nat.reduceLT, ↓reduceIte, reduceCtorEq, RunRes, resultsA, oneOf, AV.plain, AV.cells, AHeap.push, AHeap.set, AHeap.empty, fieldOf, loadA, storeA, BX.part, TK.isAgg, convA, builtinA, inertB, builtinP, buildA, fillA, splice, eqv, cellsEq, sizeT, adT, ldT, fwT, Nat.reduceBeqDiff, Nat.reduceBneDiff, Int.reduceBNe, Int.reduceBEq, Int.reduceEq, Int.reduceLT, Int.reduceLE, Int.reduceAdd, Int.reduceSub, Int.reduceMul, Int.reduceNeg, strBin, indexAddrA, elems, lenOf, chunk, List.reduceReplicate, Int.reduceToNat]
      refine hQ false ⟨fun h => (by cases h), fun h => ?_⟩
      have := h i (i + 1) (by omega) (by omega) hi
      rw [e1, e2, hl'] at this
      cases this
    · have hlt' : (cmpK l[i + 1] l[i] < 0) = False := by rw [hlt]; exact eq_false hl'
      simp only [t0, t1, t5, h0, w1, l1, l2, p1, p2, g1, g2, hlt', call_pure pure28 rfl hc, Int.toNat_natCast, run_exit_start, exit_here, exit_code, exit_inLoop, run_inBlock, n27_0, n27_1, n27_2, n27_3, n27_4, n27_5, n27_6, n27_7, n27_8, n27_9, n27_10, n27_11, n27_12, n27_13, n27_14, n27_15, n27_16, n27_17, n27_18, n27_19, n27_20, n27_21, n27_22, n27_24, n27_25, o27_1, o27_4, o27_9, o27_16, o27_19, o27_22, o27_24, res27, TT_3, TT_4, TT_5, TT_9, TT_22, TT_25, TT_26, TT_29, TT_33, TT_38, TT_40, TT_42, TT_47, TT_50, TT_57, TT_59, TT_66, TT_68, TT_69, TT_70, TT_72, TT_81, bb, primP, primM, ev, evs, parts_, ofConst, bin, un, intBin, putA, enterT, Nat.reduceEqDiff, Nat.reduceAdd, Nat.reduceMul, Nat.reduceLeDiff, Nat.reduceLT, ↓reduceIte, reduceCtorEq, RunRes, resultsA, oneOf, AV.plain, AV.cells, AHeap.push, AHeap.set, AHeap.empty, fieldOf, loadA, storeA, BX.part, TK.isAgg, convA, builtinA, inertB, builtinP, buildA, fillA, splice, eqv, cellsEq, sizeT, adT, ldT, fwT, Nat.reduceBeqDiff, Nat.reduceBneDiff, Int.reduceBNe, Int.reduceBEq, Int.reduceEq, Int.reduceLT, Int.reduceLE, Int.reduceAdd, Int.reduceSub, Int.reduceMul, Int.reduceNeg, strBin, indexAddrA, elems, lenOf, chunk, List.reduceReplicate, Int.reduceToNat]
      refine ih _ (by omega) ?_ ?_ ?_ ?_
      all_goals first | (simp only [upd_app, t0, t1, t5, Nat.reduceEqDiff, ↓reduceIte]; done) | skip
      intro k a b
      by_cases e : k = i + 1
      · subst e
        rw [show i + 1 - 1 = i by omega, e1, e2]
        simpa using hl'
      · exact hs k (by omega) b
theorem Ordered_ok {v : AV} {l : List Pr} (hv : InE v l) (hl : l.length ≤ 1000000) : ∃ b, PCall Cx 12 [v] (.bool b) ∧ (b = true ↔ l.Pairwise fun p q => ltP q p = false) := by
  by_cases h0 : l = []
  · subst h0
    refine ⟨true, ?_, by simp⟩
    rcases hv with ⟨rfl, _⟩ | ⟨rfl, _⟩ | rfl
    · exact ⟨60, by kernel_rfl⟩
    · exact ⟨60, by kernel_rfl⟩
    · exact ⟨60, by kernel_rfl⟩
  · obtain rfl := hv.vec h0
    have hpos : 0 < l.length := List.length_pos_iff.mpr h0
    have hx : ∃ r, (∃ b, r = AV.bool b ∧ (b = true ↔ Srt (fnOf l) 0 l.length)) ∧ PCall Cx 12 [.vec 6 (l.map encP)] r := by
      refine pcall_ex (noext _) body12 ?_
      simp only [n12_0, n12_1, n12_2, n12_3, n12_4, o12_1, o12_3, res12, TT_3, TT_4, TT_5, TT_9, TT_22, TT_25, TT_26, TT_29, TT_33, TT_38, TT_40, TT_42, TT_47, TT_50, TT_57, TT_59, TT_66, TT_68, TT_69, TT_70, TT_72, TT_81, bb, primP, primM, ev, evs, parts_, ofConst, bin, un, intBin, putA, enterT, Nat.reduceEqDiff, Nat.reduceAdd, Nat.reduceMul, Nat.reduceLeDiff, Nat.reduceLT, ↓reduceIte, reduceCtorEq, RunRes, resultsA, oneOf, AV.plain, AV.cells, AHeap.push, AHeap.set, AHeap.empty, fieldOf, loadA, storeA, BX.part, TK.isAgg, convA, builtinA, inertB, builtinP, buildA, fillA, splice, eqv, cellsEq, sizeT, adT, ldT, fwT, Nat.reduceBeqDiff, Nat.reduceBneDiff, Int.reduceBNe, Int.reduceBEq, Int.reduceEq, Int.reduceLT, Int.reduceLE, Int.reduceAdd, Int.reduceSub, Int.reduceMul, Int.reduceNeg, strBin, indexAddrA, elems, lenOf, chunk, List.reduceReplicate, Int.reduceToNat]
      refine call_body pure27 (noext _) body27 ?_
      have w1 : IntKind.i64.wrap (((l.map encP).length : Int) - 1) = ((l.length - 1 : Nat) : Int) := by rw [List.length_map, wr64 (by omega) (by omega)]; omega
      simp only [w1, n27_0, n27_1, n27_2, n27_3, n27_4, n27_5, n27_6, n27_8, n27_9, n27_10, n27_11, n27_12, n27_13, n27_14, n27_15, n27_16, n27_17, n27_18, n27_19, n27_20, n27_21, n27_22, n27_24, n27_25, o27_1, o27_4, o27_9, o27_16, o27_19, o27_22, o27_24, res27, TT_3, TT_4, TT_5, TT_9, TT_22, TT_25, TT_26, TT_29, TT_33, TT_38, TT_40, TT_42, TT_47, TT_50, TT_57, TT_59, TT_66, TT_68, TT_69, TT_70, TT_72, TT_81, bb, primP, primM, ev, evs, parts_, ofConst, bin, un, intBin, putA, enterT, Nat.reduceEqDiff, Nat.reduceAdd, Nat.reduceMul, Nat.reduceLeDiff, Nat.reduceLT, ↓reduceIte, reduceCtorEq, RunRes, resultsA, oneOf, AV.plain, AV.cells, AHeap.push, AHeap.set, AHeap.empty, fieldOf, loadA, storeA, BX.part, TK.isAgg, convA, builtinA, inertB, builtinP, buildA, fillA, splice, eqv, cellsEq, sizeT, adT, ldT, fwT, Nat.reduceBeqDiff, Nat.reduceBneDiff, Int.reduceBNe, Int.reduceBEq, Int.reduceEq, Int.reduceLT, Int.reduceLE, Int.reduceAdd, Int.reduceSub, Int.reduceMul, Int.reduceNeg, strBin, indexAddrA, elems, lenOf, chunk, List.reduceReplicate, Int.reduceToNat]
      refine is_all (l := l) rfl hl ?_ (l.length - 1) _ (by omega) ?_ ?_ ?_ (fun k a b => absurd a (by omega))
      · intro b hb
        simp only [n12_0, n12_1, n12_2, n12_3, n12_4, o12_1, o12_3, res12, TT_3, TT_4, TT_5, TT_9, TT_22, TT_25, TT_26, TT_29, TT_33, TT_38, TT_40, TT_42, TT_47, TT_50, TT_57, TT_59, TT_66, TT_68, TT_69, TT_70, TT_72, TT_81, bb, primP, primM, ev, evs, parts_, ofConst, bin, un, intBin, putA, enterT, Nat.reduceEqDiff, Nat.reduceAdd, Nat.reduceMul, Nat.reduceLeDiff, Nat.reduceLT, ↓reduceIte, reduceCtorEq, RunRes, resultsA, oneOf, AV.plain, AV.cells, AHeap.push, AHeap.set, AHeap.empty, fieldOf, loadA, storeA, BX.part, TK.isAgg, convA, builtinA, inertB, builtinP, buildA, fillA, splice, eqv, cellsEq, sizeT, adT, ldT, fwT, Nat.reduceBeqDiff, Nat.reduceBneDiff, Int.reduceBNe, Int.reduceBEq, Int.reduceEq, Int.reduceLT, Int.reduceLE, Int.reduceAdd, Int.reduceSub, Int.reduceMul, Int.reduceNeg, strBin, indexAddrA, elems, lenOf, chunk, List.reduceReplicate, Int.reduceToNat]
        exact ⟨_, ⟨b, rfl, hb⟩, rfl⟩
      all_goals simp only [upd_app, enterT, List.getElem?_cons_zero, List.getElem?_cons_succ, Option.getD_some, Nat.reduceEqDiff, ↓reduceIte]
      all_goals rfl
    obtain ⟨r, ⟨b, rfl, hb⟩, hp⟩ := hx
    exact ⟨b, hp, hb.trans pair_srt.symm⟩
end Go.Proofs.Ytbfjkomlnpolmaa.G

namespace Go.Proofs.Ytbfjkomlnpolmaa.G
open Go.BX
set_option linter.unusedSimpArgs false
set_option linter.unusedVariables false
def Buf (h0 : Nat) (d : AV) (H : AHeap) (acc : List Pr) : Prop :=
  (d = .nilS ∧ acc = []) ∨ ∃ g es, d = .slc g 6 0 acc.length ∧ h0 ≤ g ∧ g < H.next ∧ H.at_ g = .cells 42 6 es ∧ es.take acc.length = acc.map encP ∧ acc.length ≤ es.length
theorem InE.source {v : AV} {l : List Pr} (h : InE v l) (H : AHeap) : source H 6 v = some (l.map encP) := by
  rcases h with ⟨rfl, rfl⟩ | ⟨rfl, rfl⟩ | rfl <;> rfl
theorem InE.plain {v : AV} {l : List Pr} (h : InE v l) : v.plain = true := by
  rcases h with ⟨rfl, rfl⟩ | ⟨rfl, rfl⟩ | rfl <;> rfl
theorem InE.cells {v : AV} {l : List Pr} (h : InE v l) : v.cells = [v] := by
  rcases h with ⟨rfl, rfl⟩ | ⟨rfl, rfl⟩ | rfl <;> rfl
theorem InE.freeze1 {v : AV} {l : List Pr} (h : InE v l) {H : AHeap} {d : Nat} : BX.freeze1 H d v = some v := by
  refine freeze1_flat ?_
  rcases h with ⟨rfl, rfl⟩ | ⟨rfl, rfl⟩ | rfl <;> rfl
theorem InE.freeze {v : AV} {l : List Pr} (h : InE v l) {H : AHeap} : BX.freeze H v = some v := freeze_flat h.flat
theorem Buf.lenOf {h0 : Nat} {d : AV} {H : AHeap} {acc : List Pr} (h : Buf h0 d H acc) : BX.lenOf d = some acc.length := by
  rcases h with ⟨rfl, rfl⟩ | ⟨g, es, rfl, _⟩ <;> rfl
theorem Buf.keep {h0 : Nat} {d : AV} {H H' : AHeap} {acc : List Pr} (h : Buf h0 d H acc) (hn : H.next ≤ H'.next) (hk : ∀ b, b < H.next → H'.at_ b = H.at_ b) : Buf h0 d H' acc := by
  rcases h with h | ⟨g, es, h1, h2, h3, h4, h5, h6⟩
  · exact .inl h
  · exact .inr ⟨g, es, h1, h2, by omega, by rw [hk g h3]; exact h4, h5, h6⟩
theorem Buf.freeze {h0 : Nat} {d : AV} {H : AHeap} {acc : List Pr} (h : Buf h0 d H acc) : ∃ w, InE w acc ∧ BX.freeze H d = some w ∧ (d.flat = true → w = d) := by
  rcases h with ⟨rfl, rfl⟩ | ⟨g, es, rfl, h2, h3, h4, h5, h6⟩
  · exact ⟨.nilS, .inl ⟨rfl, rfl⟩, rfl, fun _ => rfl⟩
  · refine ⟨.vec 6 (acc.map encP), .inr (.inr rfl), ?_, fun h => by cases h⟩
    have he : elems H 6 (.slc g 6 0 acc.length) = some (acc.map encP) := by
      unfold elems
      simp only [h4]
      rw [if_pos ⟨trivial, trivial, by omega⟩, List.drop_zero, h5]
    rw [freeze_slc, he, frzE_some, freeze_rows']
    rfl
theorem app_eq {h0 : Nat} {d v : AV} {H : AHeap} {acc l : List Pr} (hd : Buf h0 d H acc) (hh : h0 ≤ H.next) (hv : InE v l) (hl : acc.length + l.length ≤ 1000000) :
    ∃ d' H', builtinM Cx H .append [22, 22] [d, v] = some (d', H') ∧ Buf h0 d' H' (acc ++ l) ∧ H.next ≤ H'.next ∧ ∀ b, b < h0 → H'.at_ b = H.at_ b := by
  have hs := hv.source H
  by_cases hl0 : l = []
  · subst hl0
    refine ⟨d, H, ?_, by rw [List.append_nil]; exact hd, Nat.le_refl _, fun _ _ => rfl⟩
    rcases hd with ⟨rfl, rfl⟩ | ⟨g, es, rfl, h2, h3, h4, h5, h6⟩
    · simp only [builtinM, appendA, hs, List.map_nil, TT_3, TT_4, TT_5, TT_9, TT_22, TT_25, TT_26, TT_29, TT_33, TT_38, TT_40, TT_42, TT_47, TT_50, TT_57, TT_59, TT_66, TT_68, TT_69, TT_70, TT_72, TT_81, bb, primP, primM, ev, evs, parts_, ofConst, bin, un, intBin, putA, enterT, Nat.reduceEqDiff, Nat.reduceAdd, Nat.reduceMul, Nat.reduceLeDiff, Nat.reduceLT, ↓reduceIte, reduceCtorEq, RunRes, resultsA, oneOf, AV.plain, AV.cells, AHeap.push, AHeap.set, AHeap.empty, fieldOf, loadA, storeA, BX.part, TK.isAgg, convA, builtinA, inertB, builtinP, buildA, fillA, splice, eqv, cellsEq, sizeT, adT, ldT, fwT, Nat.reduceBeqDiff, Nat.reduceBneDiff, Int.reduceBNe, Int.reduceBEq, Int.reduceEq, Int.reduceLT, Int.reduceLE, Int.reduceAdd, Int.reduceSub, Int.reduceMul, Int.reduceNeg, strBin, indexAddrA, elems, lenOf, chunk, List.reduceReplicate, Int.reduceToNat]
    · have m1 : acc.length * 64 ≤ most := by unfold most; simp at hl; omega
      have m2 : acc.length ≤ most := by unfold most; simp at hl; omega
      simp only [builtinM, appendA, hs, h4, h6, m1, m2, List.map_nil, TT_3, TT_4, TT_5, TT_9, TT_22, TT_25, TT_26, TT_29, TT_33, TT_38, TT_40, TT_42, TT_47, TT_50, TT_57, TT_59, TT_66, TT_68, TT_69, TT_70, TT_72, TT_81, bb, primP, primM, ev, evs, parts_, ofConst, bin, un, intBin, putA, enterT, Nat.reduceEqDiff, Nat.reduceAdd, Nat.reduceMul, Nat.reduceLeDiff, Nat.reduceLT, ↓reduceIte, reduceCtorEq, RunRes, resultsA, oneOf, AV.plain, AV.cells, AHeap.push, AHeap.set, AHeap.empty, fieldOf, loadA, storeA, BX.part, TK.isAgg, convA, builtinA, inertB, builtinP, buildA, fillA, splice, eqv, cellsEq, sizeT, adT, ldT, fwT, Nat.reduceBeqDiff, Nat.reduceBneDiff, Int.reduceBNe, Int.reduceBEq, Int.reduceEq, Int.reduceLT, Int.reduceLE, Int.reduceAdd, Int.reduceSub, Int.reduceMul, Int.reduceNeg, strBin, indexAddrA, elems, lenOf, chunk, List.reduceReplicate, Int.reduceToNat]
  · have e0 : (l.map encP = []) = False := eq_false (by simp [hl0])
    rcases hd with ⟨rfl, rfl⟩ | ⟨g, es, rfl, h2, h3, h4, h5, h6⟩
    · have m1 : (l.map encP).length * 64 ≤ most := by unfold most; rw [List.length_map]; simp at hl; omega
      have m2 : (l.map encP).length ≤ most := by unfold most; rw [List.length_map]; simp at hl; omega
      refine ⟨.slc H.next 6 0 (l.map encP).length, H.push (.cells 42 6 (l.map encP)), ?_, .inr ⟨H.next, l.map encP, by rw [List.length_map]; rfl, hh, Nat.lt_succ_self _, by simp [AHeap.push, upd_app], List.take_of_length_le (by simp), by simp⟩, Nat.le_succ _, fun b hb => ?_⟩
      · simp only [builtinM, appendA, hs, e0, m1, m2, TT_3, TT_4, TT_5, TT_9, TT_22, TT_25, TT_26, TT_29, TT_33, TT_38, TT_40, TT_42, TT_47, TT_50, TT_57, TT_59, TT_66, TT_68, TT_69, TT_70, TT_72, TT_81, bb, primP, primM, ev, evs, parts_, ofConst, bin, un, intBin, putA, enterT, Nat.reduceEqDiff, Nat.reduceAdd, Nat.reduceMul, Nat.reduceLeDiff, Nat.reduceLT, ↓reduceIte, reduceCtorEq, RunRes, resultsA, oneOf, AV.plain, AV.cells, AHeap.push, AHeap.set, AHeap.empty, fieldOf, loadA, storeA, BX.part, TK.isAgg, convA, builtinA, inertB, builtinP, buildA, fillA, splice, eqv, cellsEq, sizeT, adT, ldT, fwT, Nat.reduceBeqDiff, Nat.reduceBneDiff, Int.reduceBNe, Int.reduceBEq, Int.reduceEq, Int.reduceLT, Int.reduceLE, Int.reduceAdd, Int.reduceSub, Int.reduceMul, Int.reduceNeg, strBin, indexAddrA, elems, lenOf, chunk, List.reduceReplicate, Int.reduceToNat]
      · show upd H.at_ H.next _ b = _
        rw [upd_app, if_neg (by omega)]
    · have m1 : (acc.length + (l.map encP).length) * 64 ≤ most := by unfold most; rw [List.length_map]; omega
      have m2 : acc.length + (l.map encP).length ≤ most := by unfold most; rw [List.length_map]; omega
      refine ⟨.slc H.next 6 0 (acc.length + (l.map encP).length), (H.set g .dead).push (.cells 42 6 (es.take acc.length ++ l.map encP)), ?_, .inr ⟨H.next, es.take acc.length ++ l.map encP, by rw [List.length_map, List.length_append], hh, Nat.lt_succ_self _, ?_, ?_, ?_⟩, Nat.le_succ _, fun b hb => ?_⟩
      · simp only [builtinM, appendA, hs, h4, h6, e0, m1, m2, TT_3, TT_4, TT_5, TT_9, TT_22, TT_25, TT_26, TT_29, TT_33, TT_38, TT_40, TT_42, TT_47, TT_50, TT_57, TT_59, TT_66, TT_68, TT_69, TT_70, TT_72, TT_81, bb, primP, primM, ev, evs, parts_, ofConst, bin, un, intBin, putA, enterT, Nat.reduceEqDiff, Nat.reduceAdd, Nat.reduceMul, Nat.reduceLeDiff, Nat.reduceLT, ↓reduceIte, reduceCtorEq, RunRes, resultsA, oneOf, AV.plain, AV.cells, AHeap.push, AHeap.set, AHeap.empty, fieldOf, loadA, storeA, BX.part, TK.isAgg, convA, builtinA, inertB, builtinP, buildA, fillA, splice, eqv, cellsEq, sizeT, adT, ldT, fwT, Nat.reduceBeqDiff, Nat.reduceBneDiff, Int.reduceBNe, Int.reduceBEq, Int.reduceEq, Int.reduceLT, Int.reduceLE, Int.reduceAdd, Int.reduceSub, Int.reduceMul, Int.reduceNeg, strBin, indexAddrA, elems, lenOf, chunk, List.reduceReplicate, Int.reduceToNat]
      · simp [AHeap.push, AHeap.set, upd_app]
      · rw [h5, ← List.map_append]
        exact List.take_of_length_le (by simp)
      · rw [h5, ← List.map_append]; simp
      · show upd (upd H.at_ g .dead) H.next _ b = _
        rw [upd_app, if_neg (by omega), upd_app, if_neg (by omega)]
section
variable {fn : FuncId} {T : Nat → AV} {ds : List ADef} {ro : Option Nat} {k : List AItem} {Q : AV → AHeap → Prop} {dst : Option Nat} {os : List AO} {H : AHeap}
theorem Sort_buf {h0 : Nat} {d : AV} {acc : List Pr} (hd : Buf h0 d H acc) (hl : acc.length ≤ 1000000) : ∃ m w, IsSort acc m ∧ InE w m ∧ ∀ {fn : FuncId} {T : Nat → AV} {ds : List ADef} {ro : Option Nat} {k : List AItem} {Q : AV → AHeap → Prop} {dst : Option Nat} {os : List AO}, RunCall Cx fn T ds ro 22 [d] dst os k H Q = RunOps Cx fn (putA T dst w) ds ro os k H Q := by
  obtain ⟨v, hv, hf, hfl⟩ := hd.freeze
  obtain ⟨m, w, hs, hw, hp, hm⟩ := Sort_ok hv hl
  refine ⟨m, w, hs, hw, ?_⟩
  intro fn T ds ro k Q dst os
  cases hfd : d.flat with
  | true =>
    obtain rfl := hfl hfd
    exact call_pure pure22 (by simp [hfd]) hp
  | false => exact call_made pure22 (by simp [hfd]) (by rw [mapO_cons, hf, mapO_nil]; rfl) hm
end
end Go.Proofs.Ytbfjkomlnpolmaa.G
namespace Go.Proofs.Ytbfjkomlnpolmaa.G
open Go.BX
set_option linter.unusedSimpArgs false
set_option linter.unusedVariables false
def Own (h0 : Nat) (d : AV) (H : AHeap) (acc : List Pr) : Prop :=
  (d = .nilS ∧ acc = []) ∨ ∃ g, d = .slc g 6 0 acc.length ∧ h0 ≤ g ∧ g < H.next ∧ H.at_ g = .cells 42 6 (acc.map encP)
theorem Own.buf {h0 : Nat} {d : AV} {H : AHeap} {acc : List Pr} (h : Own h0 d H acc) : Buf h0 d H acc := by
  rcases h with h | ⟨g, h1, h2, h3, h4⟩
  · exact .inl h
  · exact .inr ⟨g, _, h1, h2, h3, h4, List.take_of_length_le (by simp), by simp⟩
theorem Own.nil {h0 : Nat} {H : AHeap} : Own h0 .nilS H [] := .inl ⟨rfl, rfl⟩
theorem rows_set {l : List Pr} {i : Nat} (p : Pr) : (l.map encP).set i [.str p.key, .int .i64 p.k, .int .i64 p.n, .str p.s, .int .i64 p.x, .int .i64 p.y] = (l.set i p).map encP := by
  rw [List.map_set]; rfl
theorem Own.app1 {h0 : Nat} {d : AV} {H : AHeap} {acc : List Pr} (hd : Own h0 d H acc) (hh : h0 ≤ H.next) (p : Pr) (hl : acc.length + 1 ≤ 1000000) :
    ∃ g H', builtinM Cx (H.push (.cells 42 6 [[.str p.key, .int .i64 p.k, .int .i64 p.n, .str p.s, .int .i64 p.x, .int .i64 p.y]])) .append [22, 22] [d, .slc H.next 6 0 1] = some (.slc g 6 0 (acc.length + 1), H') ∧ h0 ≤ g ∧ g < H'.next ∧ H'.at_ g = .cells 42 6 ((acc ++ [p]).map encP) ∧ H.next ≤ H'.next ∧ ∀ b, b < h0 → H'.at_ b = H.at_ b := by
  have hs : source (H.push (.cells 42 6 [[.str p.key, .int .i64 p.k, .int .i64 p.n, .str p.s, .int .i64 p.x, .int .i64 p.y]])) 6 (.slc H.next 6 0 1) = some [[.str p.key, .int .i64 p.k, .int .i64 p.n, .str p.s, .int .i64 p.x, .int .i64 p.y]] := by
    simp [source, elems, AHeap.push, upd_app]
  simp only [AHeap.push] at hs
  rcases hd with ⟨rfl, rfl⟩ | ⟨g, rfl, h1, h2, h3⟩
  · refine ⟨H.next + 1, (H.push (.cells 42 6 [encP p])).push (.cells 42 6 [encP p]), ?_, by omega, Nat.lt_succ_self _, by simp [AHeap.push, upd_app], ?_, fun b hb => ?_⟩
    · have m1 : 1 * 64 ≤ most := by unfold most; omega
      have m2 : 1 ≤ most := by unfold most; omega
      simp only [builtinM, appendA, hs, m1, m2, List.length_singleton, TT_3, TT_4, TT_5, TT_9, TT_22, TT_25, TT_26, TT_29, TT_33, TT_38, TT_40, TT_42, TT_47, TT_50, TT_57, TT_59, TT_66, TT_68, TT_69, TT_70, TT_72, TT_81, bb, primP, primM, ev, evs, parts_, ofConst, bin, un, intBin, putA, enterT, Nat.reduceEqDiff, Nat.reduceAdd, Nat.reduceMul, Nat.reduceLeDiff, Nat.reduceLT, ↓reduceIte, reduceCtorEq, RunRes, resultsA, oneOf, AV.plain, AV.cells, AHeap.push, AHeap.set, AHeap.empty, fieldOf, loadA, storeA, BX.part, TK.isAgg, convA, builtinA, inertB, builtinP, buildA, fillA, splice, eqv, cellsEq, sizeT, adT, ldT, fwT, Nat.reduceBeqDiff, Nat.reduceBneDiff, Int.reduceBNe, Int.reduceBEq, Int.reduceEq, Int.reduceLT, Int.reduceLE, Int.reduceAdd, Int.reduceSub, Int.reduceMul, Int.reduceNeg, strBin, indexAddrA, elems, lenOf, chunk, List.reduceReplicate, Int.reduceToNat]
      rfl
    · show H.next ≤ H.next + 1 + 1
      omega
    · show upd (upd H.at_ H.next _) (H.next + 1) _ b = _
      rw [upd_app, if_neg (by omega), upd_app, if_neg (by omega)]
  · have m1 : (acc.length + 1) * 64 ≤ most := by unfold most; omega
    have m2 : acc.length + 1 ≤ most := by unfold most; omega
    have hg : (upd H.at_ H.next (Blk.cells 42 6 [[.str p.key, .int .i64 p.k, .int .i64 p.n, .str p.s, .int .i64 p.x, .int .i64 p.y]])) g = .cells 42 6 (acc.map encP) := by
      rw [upd_app, if_neg (by omega)]; exact h3
    have ht : (acc.map encP).take acc.length = acc.map encP := List.take_of_length_le (by simp)
    refine ⟨H.next + 1, ((H.push (.cells 42 6 [encP p])).set g .dead).push (.cells 42 6 (acc.map encP ++ [encP p])), ?_, by omega, Nat.lt_succ_self _, ?_, ?_, fun b hb => ?_⟩
    rotate_left
    · simp [AHeap.push, AHeap.set, upd_app]
    · show H.next ≤ H.next + 1 + 1
      omega
    · show upd (upd (upd H.at_ H.next _) g .dead) (H.next + 1) _ b = _
      rw [upd_app, if_neg (by omega), upd_app, if_neg (by omega), upd_app, if_neg (by omega)]
    · simp only [builtinM, appendA, hs, m1, m2, hg, ht, List.length_map, List.length_singleton, TT_3, TT_4, TT_5, TT_9, TT_22, TT_25, TT_26, TT_29, TT_33, TT_38, TT_40, TT_42, TT_47, TT_50, TT_57, TT_59, TT_66, TT_68, TT_69, TT_70, TT_72, TT_81, bb, primP, primM, ev, evs, parts_, ofConst, bin, un, intBin, putA, enterT, Nat.reduceEqDiff, Nat.reduceAdd, Nat.reduceMul, Nat.reduceLeDiff, Nat.reduceLT, ↓reduceIte, reduceCtorEq, RunRes, resultsA, oneOf, AV.plain, AV.cells, AHeap.push, AHeap.set, AHeap.empty, fieldOf, loadA, storeA, BX.part, TK.isAgg, convA, builtinA, inertB, builtinP, buildA, fillA, splice, eqv, cellsEq, sizeT, adT, ldT, fwT, Nat.reduceBeqDiff, Nat.reduceBneDiff, Int.reduceBNe, Int.reduceBEq, Int.reduceEq, Int.reduceLT, Int.reduceLE, Int.reduceAdd, Int.reduceSub, Int.reduceMul, Int.reduceNeg, strBin, indexAddrA, elems, lenOf, chunk, List.reduceReplicate, Int.reduceToNat]
      rfl
def Spot (out : List Pr) (p : Pr) (k : Nat) : Prop := ∀ i, k ≤ i → ∀ h : i < out.length, lessB p.key (out[i]).key = true
theorem isSort_ins {l out : List Pr} {p : Pr} {k : Nat} (h : IsSort l out) (hk : k ≤ out.length) (hs : Spot out p k) (hb : k = 0 ∨ ∃ h : k - 1 < out.length, lessB p.key (out[k - 1]).key = false) : IsSort (l ++ [p]) (out.take k ++ p :: out.drop k) where
  keys κ := by
    have h1 := h.keys κ
    rw [ofKey_app κ l [p], ← h1]
    have h2 : ofKey κ (out.take k ++ p :: out.drop k) = ofKey κ (out.take k) ++ (ofKey κ [p] ++ ofKey κ (out.drop k)) := by
      rw [show p :: out.drop k = [p] ++ out.drop k from rfl, ofKey_app, ofKey_app]
    have h3 : ofKey κ out = ofKey κ (out.take k) ++ ofKey κ (out.drop k) := by rw [← ofKey_app, List.take_append_drop]
    rw [h2, h3]
    by_cases e : p.key = κ
    · have : ofKey κ (out.drop k) = [] := by
        refine ofKey_none fun q hq e2 => ?_
        obtain ⟨i, hi, rfl⟩ := List.getElem_of_mem hq
        rw [List.length_drop] at hi
        have := hs (k + i) (by omega) (by omega)
        rw [List.getElem_drop] at e2
        rw [e2, e, bl_irr] at this
        cases this
      rw [this]; simp
    · have : ofKey κ [p] = [] := ofKey_none fun q hq e2 => by
        simp only [List.mem_singleton] at hq
        subst hq; exact e e2
      rw [this]; simp
  ord := by
    have ho := h.ord
    rw [← List.take_append_drop k out, List.pairwise_append] at ho
    obtain ⟨o1, o2, o3⟩ := ho
    have h4 : ∀ q, q ∈ out.drop k → ltP q p = false := fun q hq => by
      obtain ⟨i, hi, rfl⟩ := List.getElem_of_mem hq
      rw [List.length_drop] at hi
      have := hs (k + i) (by omega) (by omega)
      rw [List.getElem_drop]
      exact bl_asym this
    refine List.pairwise_append.mpr ⟨o1, List.pairwise_cons.mpr ⟨h4, o2⟩, fun a ha b hb' => ?_⟩
    rcases List.mem_cons.mp hb' with rfl | hb'
    · obtain ⟨i, hi, rfl⟩ := List.getElem_of_mem ha
      rw [List.length_take] at hi
      rw [List.getElem_take]
      rcases hb with rfl | ⟨hk1, hb⟩
      · omega
      · by_cases e : i = k - 1
        · subst e; exact hb
        · have := List.pairwise_iff_getElem.mp h.ord i (k - 1) (by omega) hk1 (by omega)
          exact bl_le this hb
    · exact o3 a ha b hb'
  len := by
    have := h.len
    simp only [List.length_append, List.length_cons, List.length_take, List.length_drop, List.length_nil]
    omega
section
variable {l : List Pr} {Q : AV → AHeap → Prop}
theorem rs2_all {i : Nat} (hl : l.length ≤ 100000) (hi : i < l.length) {out : List Pr} (ho : out.length = i) {d : AV} {H : AHeap} (hd : Own 0 d H out)
    (hK : ∀ (T : Nat → AV) (k : Nat), k ≤ out.length → Spot out l[i] k → (k = 0 ∨ ∃ h : k - 1 < out.length, lessB (l[i]).key (out[k - 1]).key = false) → T 0 = .vec 6 (l.map encP) → T 3 = d → T 4 = .int .i64 (i : Int) → T 5 = .int .i64 (k : Int) →
      Run Cx 19 T [] none [.code c19_30, .inBlock 1, .code c19_48, .inLoop c19_9, .inBlock 0, .code c19_49] H Q) :
    ∀ (k : Nat) (T : Nat → AV), k ≤ out.length → Spot out l[i] k → T 0 = .vec 6 (l.map encP) → T 3 = d → T 4 = .int .i64 (i : Int) → T 5 = .int .i64 (k : Int) →
      Run Cx 19 T [] none [.inLoop c19_22, .inBlock 2, .code c19_30, .inBlock 1, .code c19_48, .inLoop c19_9, .inBlock 0, .code c19_49] H Q := by
  intro k
  induction k with
  | zero =>
    intro T hk hs t0 t3 t4 t5
    replace t5 : T 5 = .int .i64 0 := t5
    rw [run_inLoop]
    simp only [t0, t3, t4, t5, run_exit_start, exit_here, exit_code, exit_inLoop, run_inBlock, n19_0, n19_1, n19_2, n19_3, n19_4, n19_5, n19_6, n19_7, n19_8, n19_9, n19_10, n19_11, n19_12, n19_13, n19_14, n19_15, n19_16, n19_17, n19_18, n19_19, n19_20, n19_21, n19_22, n19_23, n19_24, n19_25, n19_26, n19_27, n19_28, n19_29, n19_31, n19_32, n19_33, n19_34, n19_35, n19_36, n19_37, n19_38, n19_39, n19_40, n19_41, n19_42, n19_43, n19_44, n19_45, n19_46, n19_47, n19_50, n19_51, o19_1, o19_3, o19_6, o19_11, o19_18, o19_24, o19_29, o19_31, o19_34, o19_39, o19_45, o19_46, o19_47, o19_48, o19_50, res19, TT_3, TT_4, TT_5, TT_9, TT_22, TT_25, TT_26, TT_29, TT_33, TT_38, TT_40, TT_42, TT_47, TT_50, TT_57, TT_59, TT_66, TT_68, TT_69, TT_70, TT_72, TT_81, bb, primP, primM, ev, evs, parts_, ofConst, bin, un, intBin, putA, enterT, Nat.reduceEqDiff, Nat.reduceAdd, Nat.reduceMul, Nat.reduceLeDiff, Nat.reduceLT, ↓reduceIte, reduceCtorEq, RunRes, resultsA, oneOf, AV.plain, AV.cells, AHeap.push, AHeap.set, AHeap.empty, fieldOf, loadA, storeA, BX.part, TK.isAgg, convA, builtinA, inertB, builtinP, buildA, fillA, splice, eqv, cellsEq, sizeT, adT, ldT, fwT, Nat.reduceBeqDiff, Nat.reduceBneDiff, Int.reduceBNe, Int.reduceBEq, Int.reduceEq, Int.reduceLT, Int.reduceLE, Int.reduceAdd, Int.reduceSub, Int.reduceMul, Int.reduceNeg, strBin, indexAddrA, elems, lenOf, chunk, List.reduceReplicate, Int.reduceToNat]
    refine hK _ 0 hk hs (.inl rfl) ?_ ?_ ?_ ?_
    all_goals first | (simp only [upd_app, t0, t3, t4, t5, Nat.reduceEqDiff, ↓reduceIte]; done) | (simp only [upd_app, t0, t3, t4, t5, Nat.reduceEqDiff, ↓reduceIte]; rfl) | rfl
  | succ k ih =>
    intro T hk hs t0 t3 t4 t5
    rw [run_inLoop]
    rcases hd with ⟨rfl, rfl⟩ | ⟨g, rfl, _, hg, hat⟩
    · simp at hk
    have c0 : (0 : Int) < ((k + 1 : Nat) : Int) := by omega
    have w1 : IntKind.i64.wrap (((k + 1 : Nat) : Int) - 1) = (k : Int) := by rw [wr64 (by omega) (by omega)]; omega
    have l1 : (k : Int) < (out.length : Int) := by omega
    have l2 : (i : Int) < ((l.map encP).length : Int) := by rw [List.length_map]; omega
    have p1 : (0 : Int) ≤ (k : Int) := by omega
    have p2 : (0 : Int) ≤ (i : Int) := by omega
    have g1 := enc_get (List.getElem?_eq_getElem (show k < out.length by omega))
    have g2 := enc_get (List.getElem?_eq_getElem hi)
    have hk' : k < out.length := by omega
    cases hle : lessB (l[i]).key (out[k]).key with
    | false =>
      have hx : (!(lessB (out[k]).key (l[i]).key || (out[k]).key == (l[i]).key)) = false := by
        cases h1 : lessB (out[k]).key (l[i]).key with
        | true => rfl
        | false => rw [bl_tot _ _ h1 hle]; simp
      simp only [t0, t3, t4, t5, c0, w1, l1, l2, p1, p2, g1, g2, hat, hx, Int.toNat_natCast, run_exit_start, exit_here, exit_code, exit_inLoop, run_inBlock, n19_0, n19_1, n19_2, n19_3, n19_4, n19_5, n19_6, n19_7, n19_8, n19_9, n19_10, n19_11, n19_12, n19_13, n19_14, n19_15, n19_16, n19_17, n19_18, n19_19, n19_20, n19_21, n19_22, n19_23, n19_24, n19_25, n19_26, n19_27, n19_28, n19_29, n19_31, n19_32, n19_33, n19_34, n19_35, n19_36, n19_37, n19_38, n19_39, n19_40, n19_41, n19_42, n19_43, n19_44, n19_45, n19_46, n19_47, n19_50, n19_51, o19_1, o19_3, o19_6, o19_11, o19_18, o19_24, o19_29, o19_31, o19_34, o19_39, o19_45, o19_46, o19_47, o19_48, o19_50, res19, TT_3, TT_4, TT_5, TT_9, TT_22, TT_25, TT_26, TT_29, TT_33, TT_38, TT_40, TT_42, TT_47, TT_50, TT_57, TT_59, TT_66, TT_68, TT_69, TT_70, TT_72, TT_81, bb, primP, primM, ev, evs, parts_, ofConst, bin, un, intBin, putA, enterT, Nat.reduceEqDiff, Nat.reduceAdd, Nat.reduceMul, Nat.reduceLeDiff, Nat.reduceLT, ↓reduceIte, reduceCtorEq, RunRes, resultsA, oneOf, AV.plain, AV.cells, AHeap.push, AHeap.set, AHeap.empty, fieldOf, loadA, storeA, BX.part, TK.isAgg, convA, builtinA, inertB, builtinP, buildA, fillA, splice, eqv, cellsEq, sizeT, adT, ldT, fwT, Nat.reduceBeqDiff, Nat.reduceBneDiff, Int.reduceBNe, Int.reduceBEq, Int.reduceEq, Int.reduceLT, Int.reduceLE, Int.reduceAdd, Int.reduceSub, Int.reduceMul, Int.reduceNeg, strBin, indexAddrA, elems, lenOf, chunk, List.reduceReplicate, Int.reduceToNat]
      refine hK _ (k + 1) hk hs (.inr ⟨by omega, hle⟩) ?_ ?_ ?_ ?_
      all_goals first | (simp only [upd_app, t0, t3, t4, t5, Nat.reduceEqDiff, ↓reduceIte]; done) | (simp only [upd_app, t0, t3, t4, t5, Nat.reduceEqDiff, ↓reduceIte]; rfl) | rfl
    | true =>
      have hx : (!(lessB (out[k]).key (l[i]).key || (out[k]).key == (l[i]).key)) = true := by
        rw [bl_asym hle]
        have := bl_ne hle
        simp [Ne.symm this]
      simp only [t0, t3, t4, t5, c0, w1, l1, l2, p1, p2, g1, g2, hat, hx, Int.toNat_natCast, run_exit_start, exit_here, exit_code, exit_inLoop, run_inBlock, n19_0, n19_1, n19_2, n19_3, n19_4, n19_5, n19_6, n19_7, n19_8, n19_9, n19_10, n19_11, n19_12, n19_13, n19_14, n19_15, n19_16, n19_17, n19_18, n19_19, n19_20, n19_21, n19_22, n19_23, n19_24, n19_25, n19_26, n19_27, n19_28, n19_29, n19_31, n19_32, n19_33, n19_34, n19_35, n19_36, n19_37, n19_38, n19_39, n19_40, n19_41, n19_42, n19_43, n19_44, n19_45, n19_46, n19_47, n19_50, n19_51, o19_1, o19_3, o19_6, o19_11, o19_18, o19_24, o19_29, o19_31, o19_34, o19_39, o19_45, o19_46, o19_47, o19_48, o19_50, res19, TT_3, TT_4, TT_5, TT_9, TT_22, TT_25, TT_26, TT_29, TT_33, TT_38, TT_40, TT_42, TT_47, TT_50, TT_57, TT_59, TT_66, TT_68, TT_69, TT_70, TT_72, TT_81, bb, primP, primM, ev, evs, parts_, ofConst, bin, un, intBin, putA, enterT, Nat.reduceEqDiff, Nat.reduceAdd, Nat.reduceMul, Nat.reduceLeDiff, Nat.reduceLT, ↓reduceIte, reduceCtorEq, RunRes, resultsA, oneOf, AV.plain, AV.cells, AHeap.push, AHeap.set, AHeap.empty, fieldOf, loadA, storeA, BX.part, TK.isAgg, convA, builtinA, inertB, builtinP, buildA, fillA, splice, eqv, cellsEq, sizeT, adT, ldT, fwT, Nat.reduceBeqDiff, Nat.reduceBneDiff, Int.reduceBNe, Int.reduceBEq, Int.reduceEq, Int.reduceLT, Int.reduceLE, Int.reduceAdd, Int.reduceSub, Int.reduceMul, Int.reduceNeg, strBin, indexAddrA, elems, lenOf, chunk, List.reduceReplicate, Int.reduceToNat]
      refine ih _ (by omega) ?_ ?_ ?_ ?_ ?_
      · intro j hj hjl
        by_cases e : j = k
        · subst e; exact hle
        · exact hs j (by omega) hjl
      all_goals first | (simp only [upd_app, t0, t3, t4, t5, Nat.reduceEqDiff, ↓reduceIte]; done) | (simp only [upd_app, t0, t3, t4, t5, Nat.reduceEqDiff, ↓reduceIte]; rfl) | rfl
theorem sh_get {out : List Pr} {j : Nat} {x : Pr} (hj : j + 1 ≤ out.length) : (out.take (j + 1) ++ x :: out.drop (j + 1))[j]? = some out[j] := by
  rw [List.getElem?_append_left (by rw [List.length_take]; omega), List.getElem?_take, if_pos (by omega), List.getElem?_eq_getElem (by omega)]
theorem sh_set {out : List Pr} {j : Nat} {x y : Pr} (hj : j ≤ out.length) : (out.take j ++ x :: out.drop j).set j y = out.take j ++ y :: out.drop j := by
  have hl : (out.take j).length = j := by rw [List.length_take]; omega
  rw [List.set_append, if_neg (by omega), hl, Nat.sub_self]
  rfl
theorem sh_step {out : List Pr} {j : Nat} (hj : j < out.length) : out.take (j + 1) ++ out[j] :: out.drop (j + 1) = out.take j ++ out[j] :: out.drop j := by
  rw [List.take_succ_eq_append_getElem hj, List.append_assoc]
  congr 1
  show out[j] :: out[j] :: out.drop (j + 1) = out[j] :: out.drop j
  rw [← List.drop_eq_getElem_cons hj]
theorem rs3_all {i : Nat} (hl : l.length ≤ 100000) (hi : i < l.length) {out : List Pr} (ho : out.length = i) {g k : Nat} {H : AHeap} (hk : k ≤ out.length)
    (hK : ∀ (T : Nat → AV) (x : Pr), T 0 = .vec 6 (l.map encP) → T 3 = .slc g 6 0 (out.length + 1) → T 4 = .int .i64 (i : Int) → T 5 = .int .i64 (k : Int) →
      Run Cx 19 T [] none [.code c19_47, .inBlock 1, .code c19_48, .inLoop c19_9, .inBlock 0, .code c19_49] (H.set g (.cells 42 6 ((out.take k ++ x :: out.drop k).map encP))) Q) :
    ∀ (m j : Nat) (T : Nat → AV) (x : Pr), j = k + m → j ≤ out.length → T 0 = .vec 6 (l.map encP) → T 3 = .slc g 6 0 (out.length + 1) → T 4 = .int .i64 (i : Int) → T 5 = .int .i64 (k : Int) → T 6 = .int .i64 (j : Int) →
      Run Cx 19 T [] none [.inLoop c19_37, .inBlock 4, .code c19_47, .inBlock 1, .code c19_48, .inLoop c19_9, .inBlock 0, .code c19_49] (H.set g (.cells 42 6 ((out.take j ++ x :: out.drop j).map encP))) Q := by
  intro m
  induction m with
  | zero =>
    intro j T x hj hjl t0 t3 t4 t5 t6
    obtain rfl : j = k := by omega
    rw [run_inLoop]
    have c0 : ¬ ((j : Int) < (j : Int)) := by omega
    simp only [t0, t3, t4, t5, t6, c0, run_exit_start, exit_here, exit_code, exit_inLoop, run_inBlock, n19_0, n19_1, n19_2, n19_3, n19_4, n19_5, n19_6, n19_7, n19_8, n19_9, n19_10, n19_11, n19_12, n19_13, n19_14, n19_15, n19_16, n19_17, n19_18, n19_19, n19_20, n19_21, n19_22, n19_23, n19_24, n19_25, n19_26, n19_27, n19_28, n19_29, n19_30, n19_31, n19_32, n19_33, n19_34, n19_35, n19_36, n19_37, n19_38, n19_39, n19_40, n19_41, n19_42, n19_43, n19_44, n19_45, n19_46, n19_50, n19_51, o19_1, o19_3, o19_6, o19_11, o19_18, o19_24, o19_29, o19_31, o19_34, o19_39, o19_45, o19_46, o19_47, o19_48, o19_50, res19, TT_3, TT_4, TT_5, TT_9, TT_22, TT_25, TT_26, TT_29, TT_33, TT_38, TT_40, TT_42, TT_47, TT_50, TT_57, TT_59, TT_66, TT_68, TT_69, TT_70, TT_72, TT_81, bb, primP, primM, ev, evs, parts_, ofConst, bin, un, intBin, putA, enterT, Nat.reduceEqDiff, Nat.reduceAdd, Nat.reduceMul, Nat.reduceLeDiff, Nat.reduceLT, ↓reduceIte, reduceCtorEq, RunRes, resultsA, oneOf, AV.plain, AV.cells, AHeap.push, AHeap.set, AHeap.empty, fieldOf, loadA, storeA, BX.part, TK.isAgg, convA, builtinA, inertB, builtinP, buildA, fillA, splice, eqv, cellsEq, sizeT, adT, ldT, fwT, Nat.reduceBeqDiff, Nat.reduceBneDiff, Int.reduceBNe, Int.reduceBEq, Int.reduceEq, Int.reduceLT, Int.reduceLE, Int.reduceAdd, Int.reduceSub, Int.reduceMul, Int.reduceNeg, strBin, indexAddrA, elems, lenOf, chunk, List.reduceReplicate, Int.reduceToNat]
    refine hK _ x ?_ ?_ ?_ ?_
    all_goals first | (simp only [upd_app, t0, t3, t4, t5, Nat.reduceEqDiff, ↓reduceIte]; done) | (simp only [upd_app, t0, t3, t4, t5, Nat.reduceEqDiff, ↓reduceIte]; rfl) | rfl
  | succ m ih =>
    intro j T x hj hjl t0 t3 t4 t5 t6
    obtain ⟨j, rfl⟩ : ∃ j', j = j' + 1 := ⟨j - 1, by omega⟩
    rw [run_inLoop]
    have c0 : (k : Int) < ((j + 1 : Nat) : Int) := by omega
    have w1 : IntKind.i64.wrap (((j + 1 : Nat) : Int) - 1) = (j : Int) := by rw [wr64 (by omega) (by omega)]; omega
    have l1 : (j : Int) < ((out.length + 1 : Nat) : Int) := by omega
    have l2 : ((j + 1 : Nat) : Int) < ((out.length + 1 : Nat) : Int) := by omega
    have p1 : (0 : Int) ≤ (j : Int) := by omega
    have p2 : (0 : Int) ≤ ((j + 1 : Nat) : Int) := by omega
    have g1 := enc_get (sh_get (x := x) hjl)
    have g2 : ((out.take (j + 1) ++ x :: out.drop (j + 1)).map encP)[j + 1]? = some (encP x) := by
      rw [List.getElem?_map, List.getElem?_append_right (by rw [List.length_take]; omega), show j + 1 - (out.take (j + 1)).length = 0 by rw [List.length_take]; omega]
      rfl
    simp only [encP] at g2
    have e1 := sh_set (out := out) (j := j + 1) (x := x) (y := out[j]) hjl
    rw [sh_step (by omega)] at e1
    simp only [t0, t3, t4, t5, t6, c0, w1, l1, l2, p1, p2, g1, g2, Int.toNat_natCast, rows_set, e1, upd2, run_exit_start, exit_here, exit_code, exit_inLoop, run_inBlock, n19_0, n19_1, n19_2, n19_3, n19_4, n19_5, n19_6, n19_7, n19_8, n19_9, n19_10, n19_11, n19_12, n19_13, n19_14, n19_15, n19_16, n19_17, n19_18, n19_19, n19_20, n19_21, n19_22, n19_23, n19_24, n19_25, n19_26, n19_27, n19_28, n19_29, n19_30, n19_31, n19_32, n19_33, n19_34, n19_35, n19_36, n19_37, n19_38, n19_39, n19_40, n19_41, n19_42, n19_43, n19_44, n19_45, n19_46, n19_50, n19_51, o19_1, o19_3, o19_6, o19_11, o19_18, o19_24, o19_29, o19_31, o19_34, o19_39, o19_45, o19_46, o19_47, o19_48, o19_50, res19, TT_3, TT_4, TT_5, TT_9, TT_22, TT_25, TT_26, TT_29, TT_33, TT_38, TT_40, TT_42, TT_47, TT_50, TT_57, TT_59, TT_66, TT_68, TT_69, TT_70, TT_72, TT_81, bb, primP, primM, ev, evs, parts_, ofConst, bin, un, intBin, putA, enterT, Nat.reduceEqDiff, Nat.reduceAdd, Nat.reduceMul, Nat.reduceLeDiff, Nat.reduceLT, ↓reduceIte, reduceCtorEq, RunRes, resultsA, oneOf, AV.plain, AV.cells, AHeap.push, AHeap.set, AHeap.empty, fieldOf, loadA, storeA, BX.part, TK.isAgg, convA, builtinA, inertB, builtinP, buildA, fillA, splice, eqv, cellsEq, sizeT, adT, ldT, fwT, Nat.reduceBeqDiff, Nat.reduceBneDiff, Int.reduceBNe, Int.reduceBEq, Int.reduceEq, Int.reduceLT, Int.reduceLE, Int.reduceAdd, Int.reduceSub, Int.reduceMul, Int.reduceNeg, strBin, indexAddrA, elems, lenOf, chunk, List.reduceReplicate, Int.reduceToNat]
    refine ih j _ out[j] (by omega) (by omega) ?_ ?_ ?_ ?_ ?_
    all_goals first | (simp only [upd_app, t0, t3, t4, t5, Nat.reduceEqDiff, ↓reduceIte]; done) | (simp only [upd_app, t0, t3, t4, t5, Nat.reduceEqDiff, ↓reduceIte]; rfl) | rfl
theorem rs1_all (hl : l.length ≤ 100000) (hQ : ∀ d H m, Own 0 d H m → IsSort l m → Q d H) :
    ∀ (j i : Nat) (T : Nat → AV) (H : AHeap) (d : AV) (out : List Pr), i + j = l.length → T 0 = .vec 6 (l.map encP) → T 3 = d → T 4 = .int .i64 (i : Int) → Own 0 d H out → IsSort (l.take i) out →
      Run Cx 19 T [] none [.inLoop c19_9, .inBlock 0, .code c19_49] H Q
  | 0, i, T, H, d, out, hij, t0, t3, t4, hd, hs => by
    rw [run_inLoop]
    rw [List.take_of_length_le (by omega)] at hs
    have c0 : ¬ (i : Int) < ((l.map encP).length : Int) := by rw [List.length_map]; omega
    simp only [t0, t3, t4, c0, run_exit_start, exit_here, exit_code, exit_inLoop, run_inBlock, n19_0, n19_1, n19_2, n19_3, n19_4, n19_5, n19_6, n19_7, n19_8, n19_9, n19_10, n19_11, n19_12, n19_13, n19_14, n19_15, n19_16, n19_17, n19_18, n19_19, n19_20, n19_21, n19_22, n19_23, n19_24, n19_25, n19_26, n19_27, n19_28, n19_29, n19_30, n19_31, n19_32, n19_33, n19_34, n19_35, n19_36, n19_37, n19_38, n19_39, n19_40, n19_41, n19_42, n19_43, n19_44, n19_45, n19_46, n19_47, n19_48, n19_49, n19_50, n19_51, o19_1, o19_3, o19_6, o19_11, o19_18, o19_24, o19_29, o19_31, o19_34, o19_39, o19_45, o19_46, o19_47, o19_48, o19_50, res19, TT_3, TT_4, TT_5, TT_9, TT_22, TT_25, TT_26, TT_29, TT_33, TT_38, TT_40, TT_42, TT_47, TT_50, TT_57, TT_59, TT_66, TT_68, TT_69, TT_70, TT_72, TT_81, bb, primP, primM, ev, evs, parts_, ofConst, bin, un, intBin, putA, enterT, Nat.reduceEqDiff, Nat.reduceAdd, Nat.reduceMul, Nat.reduceLeDiff, Nat.reduceLT, ↓reduceIte, reduceCtorEq, RunRes, resultsA, oneOf, AV.plain, AV.cells, AHeap.push, AHeap.set, AHeap.empty, fieldOf, loadA, storeA, BX.part, TK.isAgg, convA, builtinA, inertB, builtinP, buildA, fillA, splice, eqv, cellsEq, sizeT, adT, ldT, fwT, Nat.reduceBeqDiff, Nat.reduceBneDiff, Int.reduceBNe, Int.reduceBEq, Int.reduceEq, Int.reduceLT, Int.reduceLE, Int.reduceAdd, Int.reduceSub, Int.reduceMul, Int.reduceNeg, strBin, indexAddrA, elems, lenOf, chunk, List.reduceReplicate, Int.reduceToNat]
    exact hQ d H out hd hs
  | j + 1, i, T, H, d, out, hij, t0, t3, t4, hd, hs => by
    rw [run_inLoop]
    have hi : i < l.length := by omega
    have ho : out.length = i := by rw [hs.len, List.length_take]; omega
    have c0 : (i : Int) < ((l.map encP).length : Int) := by rw [List.length_map]; omega
    have hlen := hd.buf.lenOf
    simp only [lenOf] at hlen
    simp only [t0, t3, t4, c0, hlen, i64, run_exit_start, exit_here, exit_code, exit_inLoop, run_inBlock, n19_0, n19_1, n19_2, n19_3, n19_4, n19_5, n19_6, n19_7, n19_8, n19_9, n19_10, n19_11, n19_12, n19_13, n19_14, n19_15, n19_16, n19_17, n19_18, n19_19, n19_20, n19_21, n19_23, n19_24, n19_25, n19_26, n19_27, n19_28, n19_29, n19_31, n19_32, n19_33, n19_34, n19_35, n19_36, n19_37, n19_38, n19_39, n19_40, n19_41, n19_42, n19_43, n19_44, n19_45, n19_46, n19_47, n19_50, n19_51, o19_1, o19_3, o19_6, o19_11, o19_18, o19_24, o19_29, o19_31, o19_34, o19_39, o19_45, o19_46, o19_47, o19_48, o19_50, res19, TT_3, TT_4, TT_5, TT_9, TT_22, TT_25, TT_26, TT_29, TT_33, TT_38, TT_40, TT_42, TT_47, TT_50, TT_57, TT_59, TT_66, TT_68, TT_69, TT_70, TT_72, TT_81, bb, primP, primM, ev, evs, parts_, ofConst, bin, un, intBin, putA, enterT, Nat.reduceEqDiff, Nat.reduceAdd, Nat.reduceMul, Nat.reduceLeDiff, Nat.reduceLT, ↓reduceIte, reduceCtorEq, RunRes, resultsA, oneOf, AV.plain, AV.cells, AHeap.push, AHeap.set, AHeap.empty, fieldOf, loadA, storeA, BX.part, TK.isAgg, convA, builtinA, inertB, builtinP, buildA, fillA, splice, eqv, cellsEq, sizeT, adT, ldT, fwT, Nat.reduceBeqDiff, Nat.reduceBneDiff, Int.reduceBNe, Int.reduceBEq, Int.reduceEq, Int.reduceLT, Int.reduceLE, Int.reduceAdd, Int.reduceSub, Int.reduceMul, Int.reduceNeg, strBin, indexAddrA, elems, lenOf, chunk, List.reduceReplicate, Int.reduceToNat]
    refine rs2_all hl hi ho hd ?_ out.length _ (Nat.le_refl _) (fun a b h => absurd h (by omega)) ?_ ?_ ?_ ?_
    rotate_left
    · simp only [upd_app, t0, t3, t4, Nat.reduceEqDiff, ↓reduceIte]
    · simp only [upd_app, t0, t3, t4, Nat.reduceEqDiff, ↓reduceIte]
    · simp only [upd_app, t0, t3, t4, Nat.reduceEqDiff, ↓reduceIte]
    · simp only [upd_app, t0, t3, t4, Nat.reduceEqDiff, ↓reduceIte]
    clear t0 t3 t4 T
    intro T k hk hsp hb t0 t3 t4 t5
    have p2 : (0 : Int) ≤ (i : Int) := by omega
    have g2 := enc_get (List.getElem?_eq_getElem hi)
    obtain ⟨g, H', ha, hg0, hg1, hat, hn, hkeep⟩ := hd.app1 (Nat.zero_le _) l[i] (by omega)
    simp only [AHeap.push] at ha
    have w1 : IntKind.i64.wrap (((out.length + 1 : Nat) : Int) - 1) = (out.length : Int) := by rw [wr64 (by omega) (by omega)]; omega
    simp only [t0, t3, t4, t5, c0, p2, g2, ha, w1, i64, runVH_some, Int.toNat_natCast, run_exit_start, exit_here, exit_code, exit_inLoop, run_inBlock, n19_0, n19_1, n19_2, n19_3, n19_4, n19_5, n19_6, n19_7, n19_8, n19_9, n19_10, n19_11, n19_12, n19_13, n19_14, n19_15, n19_16, n19_17, n19_18, n19_19, n19_20, n19_21, n19_22, n19_23, n19_24, n19_25, n19_26, n19_27, n19_28, n19_29, n19_30, n19_31, n19_32, n19_33, n19_34, n19_35, n19_36, n19_38, n19_39, n19_40, n19_41, n19_42, n19_43, n19_44, n19_45, n19_46, n19_50, n19_51, o19_1, o19_3, o19_6, o19_11, o19_18, o19_24, o19_29, o19_31, o19_34, o19_39, o19_45, o19_46, o19_47, o19_48, o19_50, res19, TT_3, TT_4, TT_5, TT_9, TT_22, TT_25, TT_26, TT_29, TT_33, TT_38, TT_40, TT_42, TT_47, TT_50, TT_57, TT_59, TT_66, TT_68, TT_69, TT_70, TT_72, TT_81, bb, primP, primM, ev, evs, parts_, ofConst, bin, un, intBin, putA, enterT, Nat.reduceEqDiff, Nat.reduceAdd, Nat.reduceMul, Nat.reduceLeDiff, Nat.reduceLT, ↓reduceIte, reduceCtorEq, RunRes, resultsA, oneOf, AV.plain, AV.cells, AHeap.push, AHeap.set, AHeap.empty, fieldOf, loadA, storeA, BX.part, TK.isAgg, convA, builtinA, inertB, builtinP, buildA, fillA, splice, eqv, cellsEq, sizeT, adT, ldT, fwT, Nat.reduceBeqDiff, Nat.reduceBneDiff, Int.reduceBNe, Int.reduceBEq, Int.reduceEq, Int.reduceLT, Int.reduceLE, Int.reduceAdd, Int.reduceSub, Int.reduceMul, Int.reduceNeg, strBin, indexAddrA, elems, lenOf, chunk, List.reduceReplicate, Int.reduceToNat]
    have hh : H' = H'.set g (.cells 42 6 ((out.take out.length ++ l[i] :: out.drop out.length).map encP)) := by
      unfold AHeap.set
      rw [List.take_length, List.drop_length, ← hat]
      have : upd H'.at_ g (H'.at_ g) = H'.at_ := by
        funext c
        rw [upd_app]
        split
        · rename_i e; rw [e]
        · rfl
      rw [this]
    rw [hh]
    refine rs3_all (H := H') hl hi ho hk ?_ (out.length - k) out.length _ l[i] (by omega) (Nat.le_refl _) ?_ ?_ ?_ ?_ ?_
    rotate_left
    · simp only [upd_app, t0, t3, t4, Nat.reduceEqDiff, ↓reduceIte]
    · simp only [upd_app, t0, t3, t4, Nat.reduceEqDiff, ↓reduceIte]
    · simp only [upd_app, t0, t3, t4, Nat.reduceEqDiff, ↓reduceIte]
    · simp only [upd_app, t0, t3, t4, t5, Nat.reduceEqDiff, ↓reduceIte]
    · simp only [upd_app, t0, t3, t4, t5, Nat.reduceEqDiff, ↓reduceIte]
    clear t0 t3 t4 t5 T
    intro T x t0 t3 t4 t5
    have l1 : (k : Int) < ((out.length + 1 : Nat) : Int) := by omega
    have p1 : (0 : Int) ≤ (k : Int) := by omega
    have w2 : IntKind.i64.wrap ((i : Int) + 1) = ((i + 1 : Nat) : Int) := by rw [wr64 (by omega) (by omega)]; omega
    have g3 : ((out.take k ++ x :: out.drop k).map encP)[k]? = some (encP x) := by
      rw [List.getElem?_map, List.getElem?_append_right (by rw [List.length_take]; omega), show k - (out.take k).length = 0 by rw [List.length_take]; omega]
      rfl
    simp only [encP] at g3
    have e1 := sh_set (out := out) (j := k) (x := x) (y := l[i]) hk
    simp only [t0, t3, t4, t5, c0, p1, p2, l1, g2, g3, w2, rows_set, e1, upd2, i64, runVH_some, Int.toNat_natCast, run_exit_start, exit_here, exit_code, exit_inLoop, run_inBlock, n19_0, n19_1, n19_2, n19_3, n19_4, n19_5, n19_6, n19_7, n19_8, n19_10, n19_11, n19_12, n19_13, n19_14, n19_15, n19_16, n19_17, n19_18, n19_19, n19_20, n19_21, n19_22, n19_23, n19_24, n19_25, n19_26, n19_27, n19_28, n19_29, n19_30, n19_31, n19_32, n19_33, n19_34, n19_35, n19_36, n19_37, n19_38, n19_39, n19_40, n19_41, n19_42, n19_43, n19_44, n19_45, n19_46, n19_47, n19_48, n19_50, n19_51, o19_1, o19_3, o19_6, o19_11, o19_18, o19_24, o19_29, o19_31, o19_34, o19_39, o19_45, o19_46, o19_47, o19_48, o19_50, res19, TT_3, TT_4, TT_5, TT_9, TT_22, TT_25, TT_26, TT_29, TT_33, TT_38, TT_40, TT_42, TT_47, TT_50, TT_57, TT_59, TT_66, TT_68, TT_69, TT_70, TT_72, TT_81, bb, primP, primM, ev, evs, parts_, ofConst, bin, un, intBin, putA, enterT, Nat.reduceEqDiff, Nat.reduceAdd, Nat.reduceMul, Nat.reduceLeDiff, Nat.reduceLT, ↓reduceIte, reduceCtorEq, RunRes, resultsA, oneOf, AV.plain, AV.cells, AHeap.push, AHeap.set, AHeap.empty, fieldOf, loadA, storeA, BX.part, TK.isAgg, convA, builtinA, inertB, builtinP, buildA, fillA, splice, eqv, cellsEq, sizeT, adT, ldT, fwT, Nat.reduceBeqDiff, Nat.reduceBneDiff, Int.reduceBNe, Int.reduceBEq, Int.reduceEq, Int.reduceLT, Int.reduceLE, Int.reduceAdd, Int.reduceSub, Int.reduceMul, Int.reduceNeg, strBin, indexAddrA, elems, lenOf, chunk, List.reduceReplicate, Int.reduceToNat]
    have hs' : IsSort (l.take (i + 1)) (out.take k ++ l[i] :: out.drop k) := by
      rw [List.take_succ_eq_append_getElem hi]
      exact isSort_ins hs hk hsp hb
    have hlen' : (out.take k ++ l[i] :: out.drop k).length = out.length + 1 := by
      simp only [List.length_append, List.length_cons, List.length_take, List.length_drop]; omega
    refine rs1_all hl hQ j (i + 1) _ _ (.slc g 6 0 (out.length + 1)) _ (by omega) ?_ ?_ ?_ (.inr ⟨g, by rw [hlen'], hg0, hg1, by simp [upd_app]⟩) hs'
    all_goals first | (simp only [upd_app, t0, t3, t4, Nat.reduceEqDiff, ↓reduceIte]; done) | rfl
end
theorem RefSort_ok {v : AV} {l : List Pr} (hv : InE v l) (hl : l.length ≤ 100000) : ∃ m w, IsSort l m ∧ InE w m ∧ PCall Cx 19 [v] w := by
  by_cases h0 : l = []
  · subst h0
    refine ⟨[], .nilS, ⟨fun _ => rfl, List.Pairwise.nil, rfl⟩, .inl ⟨rfl, rfl⟩, ?_⟩
    rcases hv with ⟨rfl, _⟩ | ⟨rfl, _⟩ | rfl
    · exact ⟨60, by kernel_rfl⟩
    · exact ⟨60, by kernel_rfl⟩
    · exact ⟨60, by kernel_rfl⟩
  · obtain rfl := hv.vec h0
    have hx : ∃ r, (∃ m, IsSort l m ∧ InE r m) ∧ PCall Cx 19 [.vec 6 (l.map encP)] r := by
      refine pcall_ex (noext _) body19 ?_
      simp only [n19_0, n19_1, n19_2, n19_3, n19_4, n19_5, n19_6, n19_7, n19_8, n19_10, n19_11, n19_12, n19_13, n19_14, n19_15, n19_16, n19_17, n19_18, n19_19, n19_20, n19_21, n19_22, n19_23, n19_24, n19_25, n19_26, n19_27, n19_28, n19_29, n19_30, n19_31, n19_32, n19_33, n19_34, n19_35, n19_36, n19_37, n19_38, n19_39, n19_40, n19_41, n19_42, n19_43, n19_44, n19_45, n19_46, n19_47, n19_48, n19_50, n19_51, o19_1, o19_3, o19_6, o19_11, o19_18, o19_24, o19_29, o19_31, o19_34, o19_39, o19_45, o19_46, o19_47, o19_48, o19_50, res19, TT_3, TT_4, TT_5, TT_9, TT_22, TT_25, TT_26, TT_29, TT_33, TT_38, TT_40, TT_42, TT_47, TT_50, TT_57, TT_59, TT_66, TT_68, TT_69, TT_70, TT_72, TT_81, bb, primP, primM, ev, evs, parts_, ofConst, bin, un, intBin, putA, enterT, Nat.reduceEqDiff, Nat.reduceAdd, Nat.reduceMul, Nat.reduceLeDiff, Nat.reduceLT, ↓reduceIte, reduceCtorEq, RunRes, resultsA, oneOf, AV.plain, AV.cells, AHeap.push, AHeap.set, AHeap.empty, fieldOf, loadA, storeA, BX.part, TK.isAgg, convA, builtinA, inertB, builtinP, buildA, fillA, splice, eqv, cellsEq, sizeT, adT, ldT, fwT, Nat.reduceBeqDiff, Nat.reduceBneDiff, Int.reduceBNe, Int.reduceBEq, Int.reduceEq, Int.reduceLT, Int.reduceLE, Int.reduceAdd, Int.reduceSub, Int.reduceMul, Int.reduceNeg, strBin, indexAddrA, elems, lenOf, chunk, List.reduceReplicate, Int.reduceToNat]
      refine rs1_all hl ?_ l.length 0 _ AHeap.empty .nilS [] (by omega) ?_ ?_ ?_ .nil ⟨fun _ => rfl, List.Pairwise.nil, rfl⟩
      · intro d H m hd hs
        obtain ⟨w, hw, hf, _⟩ := hd.buf.freeze
        exact ⟨w, ⟨m, hs, hw⟩, hf⟩
      all_goals simp only [upd_app, enterT, List.getElem?_cons_zero, List.getElem?_cons_succ, Option.getD_some, Nat.reduceEqDiff, ↓reduceIte]
      all_goals rfl
    obtain ⟨r, ⟨m, hs, hw⟩, hp⟩ := hx
    exact ⟨m, r, hs, hw, hp⟩
end Go.Proofs.Ytbfjkomlnpolmaa.G

namespace Go.Proofs.Ytbfjkomlnpolmaa.G
open Go.BX
set_option linter.unusedSimpArgs false
set_option linter.unusedVariables false
def OwnK (h0 te kk : Nat) (d : AV) (n : Nat) (A : Nat → Blk) (es : List (List AV)) : Prop :=
  (d = .nilS ∧ es = []) ∨ ∃ g, d = .slc g kk 0 es.length ∧ h0 ≤ g ∧ g < n ∧ A g = .cells te kk es
theorem OwnK.lenOf {h0 te kk : Nat} {d : AV} {n : Nat} {A : Nat → Blk} {es : List (List AV)} (h : OwnK h0 te kk d n A es) : BX.lenOf d = some es.length := by
  rcases h with ⟨rfl, rfl⟩ | ⟨g, rfl, _⟩ <;> rfl
theorem OwnK.plain {h0 te kk : Nat} {d : AV} {n : Nat} {A : Nat → Blk} {es : List (List AV)} (h : OwnK h0 te kk d n A es) : d.plain = true := by
  rcases h with ⟨rfl, rfl⟩ | ⟨g, rfl, _⟩ <;> rfl
theorem OwnK.cells {h0 te kk : Nat} {d : AV} {n : Nat} {A : Nat → Blk} {es : List (List AV)} (h : OwnK h0 te kk d n A es) : d.cells = [d] := by
  rcases h with ⟨rfl, rfl⟩ | ⟨g, rfl, _⟩ <;> rfl
theorem OwnK.keep {h0 te kk : Nat} {d : AV} {n n' : Nat} {A A' : Nat → Blk} {es : List (List AV)} (h : OwnK h0 te kk d n A es) (hn : n ≤ n') (hk : ∀ g, g < n → A g = .cells te kk es → A' g = A g) : OwnK h0 te kk d n' A' es := by
  rcases h with h | ⟨g, h1, h2, h3, h4⟩
  · exact .inl h
  · exact .inr ⟨g, h1, h2, by omega, by rw [hk g h3 h4]; exact h4⟩
theorem OwnK.own {h0 : Nat} {d : AV} {n : Nat} {A : Nat → Blk} {l : List Pr} (h : OwnK h0 42 6 d n A (l.map encP)) : Own h0 d ⟨n, A⟩ l := by
  rcases h with ⟨h1, h2⟩ | ⟨g, h1, h2, h3, h4⟩
  · exact .inl ⟨h1, by simpa using h2⟩
  · exact .inr ⟨g, by rw [h1, List.length_map], h2, h3, h4⟩
theorem OwnK.app1s {h0 t te kk by_ n : Nat} {d : AV} {A : Nat → Blk} {es : List (List AV)} {row : List AV} (hd : OwnK h0 te kk d n A es) (hh : h0 ≤ n) (h1 : isSl Cx t te) (h2 : ∃ ti, Cx.TT te = some ti ∧ ti.size = kk ∧ ti.bytes = by_) (hm : (es.length + 1) * by_ ≤ most) (hm2 : es.length + 1 ≤ most) :
    ∃ A', builtinM Cx ⟨n + 1, upd A n (.cells te kk [row])⟩ .append [t, t] [d, .slc n kk 0 1] = some (.slc (n + 1) kk 0 (es.length + 1), ⟨n + 1 + 1, A'⟩) ∧ OwnK h0 te kk (.slc (n + 1) kk 0 (es.length + 1)) (n + 1 + 1) A' (es ++ [row]) ∧ (∀ c, c < n → A c ≠ .cells te kk es ∨ c < h0 → A' c = A c) ∧ ∀ c, c < n → (∀ m, d ≠ .slc c kk 0 m) → A' c = A c := by
  rcases hd with ⟨rfl, rfl⟩ | ⟨g, rfl, g1, g2, g3⟩
  · have hk : ∀ c, c < n → (upd (upd A n (.cells te kk [row])) (n + 1) (.cells te kk [row])) c = A c := fun c hc => by rw [upd_app, if_neg (by omega), upd_app, if_neg (by omega)]
    exact ⟨_, app_nil h1 h2 (by simpa using hm), .inr ⟨n + 1, by simp, by omega, by omega, by simp⟩, fun c hc _ => hk c hc, fun c hc _ => hk c hc⟩
  · have hk : ∀ c, c < n → c ≠ g → (upd (upd (upd A n (.cells te kk [row])) g .dead) (n + 1) (.cells te kk (es ++ [row]))) c = A c := fun c hc hne => by rw [upd_app, if_neg (by omega), upd_app, if_neg hne, upd_app, if_neg (by omega)]
    refine ⟨_, app_row h1 h2 g3 (by omega) hm hm2, .inr ⟨n + 1, by simp, by omega, by omega, by simp⟩, fun c hc hne => hk c hc ?_, fun c hc hne => hk c hc ?_⟩
    · rintro rfl
      rcases hne with h | h
      · exact h g3
      · omega
    · rintro rfl
      exact hne _ rfl
theorem OwnK.app1 {h0 t te kk by_ n : Nat} {d : AV} {A : Nat → Blk} {es : List (List AV)} {row : List AV} (hd : OwnK h0 te kk d n A es) (hh : h0 ≤ n) (h1 : isSl Cx t te) (h2 : ∃ ti, Cx.TT te = some ti ∧ ti.size = kk ∧ ti.bytes = by_) (hm : (es.length + 1) * by_ ≤ most) (hm2 : es.length + 1 ≤ most) :
    ∃ A', builtinM Cx ⟨n + 1, upd A n (.cells te kk [row])⟩ .append [t, t] [d, .slc n kk 0 1] = some (.slc (n + 1) kk 0 (es.length + 1), ⟨n + 1 + 1, A'⟩) ∧ OwnK h0 te kk (.slc (n + 1) kk 0 (es.length + 1)) (n + 1 + 1) A' (es ++ [row]) ∧ ∀ c, c < n → A c ≠ .cells te kk es ∨ c < h0 → A' c = A c := by
  obtain ⟨A', e1, e2, e3, _⟩ := hd.app1s (row := row) hh h1 h2 hm hm2
  exact ⟨A', e1, e2, e3⟩
def RV (n : Nat) (A : Nat → Blk) (v : AV) (l : List Pr) : Prop := InE v l ∨ ∃ g, v = .slc g 6 0 l.length ∧ g < n ∧ A g = .cells 42 6 (l.map encP)
theorem RV.keep {n n' : Nat} {A A' : Nat → Blk} {v : AV} {l : List Pr} (h : RV n A v l) (hn : n ≤ n') (hk : ∀ g, g < n → A g = .cells 42 6 (l.map encP) → A' g = A g) : RV n' A' v l := by
  rcases h with h | ⟨g, h1, h2, h3⟩
  · exact .inl h
  · exact .inr ⟨g, h1, by omega, by rw [hk g h2 h3]; exact h3⟩
theorem RV.lenOf {n : Nat} {A : Nat → Blk} {v : AV} {l : List Pr} (h : RV n A v l) : BX.lenOf v = some l.length := by
  rcases h with h | ⟨g, rfl, _⟩
  · exact h.len
  · rfl
theorem RV.plain {n : Nat} {A : Nat → Blk} {v : AV} {l : List Pr} (h : RV n A v l) : v.plain = true := by
  rcases h with h | ⟨g, rfl, _⟩
  · exact h.plain
  · rfl
theorem RV.cells {n : Nat} {A : Nat → Blk} {v : AV} {l : List Pr} (h : RV n A v l) : v.cells = [v] := by
  rcases h with h | ⟨g, rfl, _⟩
  · exact h.cells
  · rfl
theorem RV.freeze1 {n : Nat} {A : Nat → Blk} {v : AV} {l : List Pr} (h : RV n A v l) (d : Nat) : ∃ w, InE w l ∧ BX.freeze1 ⟨n, A⟩ (d + 1) v = some w := by
  rcases h with h | ⟨g, rfl, h2, h3⟩
  · exact ⟨v, h, h.freeze1⟩
  · refine ⟨.vec 6 (l.map encP), .inr (.inr rfl), ?_⟩
    have he : elems ⟨n, A⟩ 6 (.slc g 6 0 l.length) = some (l.map encP) := by
      unfold elems
      simp only [h3]
      rw [if_pos ⟨trivial, trivial, by simp⟩, List.drop_zero, List.take_of_length_le (by simp)]
    rw [freeze1_slc, he, frzE_some, freeze_rows']
    rfl
theorem RV.freeze {n : Nat} {A : Nat → Blk} {v : AV} {l : List Pr} (h : RV n A v l) : ∃ w, InE w l ∧ BX.freeze ⟨n, A⟩ v = some w := by
  obtain ⟨w, hw, hf⟩ := h.freeze1 3
  refine ⟨w, hw, ?_⟩
  rcases h with h | ⟨g, rfl, h2, h3⟩
  · rw [h.freeze1] at hf
    cases hf
    exact h.freeze
  · exact hf
theorem rows_at {xs : List (AV × List Pr)} {i : Nat} (h : i < xs.length) : (xs.map fun x => [x.1])[i]? = some [(xs[i]).1] := by
  rw [List.getElem?_map, List.getElem?_eq_getElem h]
  rfl
def piece (P : List Pr) (room i : Nat) : List Pr := (P.drop (i * room)).take room
structure Chk (room : Nat) (P now : List Pr) (rs : List (AV × List Pr)) : Prop where
  le : rs.length * room ≤ P.length
  rst : now = P.drop (rs.length * room)
  lt : now.length < room
  srt : ∀ (i : Nat) (h : i < rs.length), IsSort (piece P room i) (rs[i]).2
theorem Chk.nil {room : Nat} (h : 0 < room) : Chk room [] [] [] := ⟨by simp, by simp, by simpa using h, fun i h => by simp at h⟩
theorem piece_app {P : List Pr} {room i : Nat} (q : Pr) (h : (i + 1) * room ≤ P.length) : piece (P ++ [q]) room i = piece P room i := by
  unfold piece
  rw [Nat.succ_mul] at h
  rw [List.drop_append_of_le_length (by omega), List.take_append_of_le_length (by rw [List.length_drop]; omega)]
theorem Chk.put {room : Nat} {P now : List Pr} {rs : List (AV × List Pr)} (h : Chk room P now rs) (q : Pr) (hne : now.length + 1 ≠ room) : Chk room (P ++ [q]) (now ++ [q]) rs := by
  obtain ⟨h1, h2, h3, h4⟩ := h
  refine ⟨by simp; omega, ?_, by simp; omega, fun i hi => ?_⟩
  · rw [List.drop_append_of_le_length h1, ← h2]
  · rw [piece_app q (Nat.le_trans (Nat.mul_le_mul_right _ hi) h1)]
    exact h4 i hi
theorem Chk.full {room : Nat} {P now : List Pr} {rs : List (AV × List Pr)} (h : Chk room P now rs) (q : Pr) (he : now.length + 1 = room) {w : AV} {m : List Pr} (hm : IsSort (now ++ [q]) m) : Chk room (P ++ [q]) [] (rs ++ [(w, m)]) := by
  obtain ⟨h1, h2, h3, h4⟩ := h
  have hl : now.length = P.length - rs.length * room := by rw [h2, List.length_drop]
  have e : (rs ++ [(w, m)]).length * room = P.length + 1 := by
    rw [List.length_append, List.length_singleton, Nat.succ_mul]; omega
  refine ⟨by rw [e]; simp, ?_, by simp; omega, fun i hi => ?_⟩
  · rw [e, List.drop_of_length_le (by simp)]
  · by_cases hir : i < rs.length
    · rw [List.getElem_append_left hir, piece_app q (Nat.le_trans (Nat.mul_le_mul_right _ hir) h1)]
      exact h4 i hir
    · have hie : i = rs.length := by
        rw [List.length_append, List.length_singleton] at hi; omega
      subst hie
      rw [List.getElem_append_right (Nat.le_refl _)]
      simp only [Nat.sub_self, List.getElem_cons_zero]
      unfold piece
      rw [List.drop_append_of_le_length h1, ← h2, List.take_of_length_le (by simp; omega)]
      exact hm
end Go.Proofs.Ytbfjkomlnpolmaa.G

namespace Go.Proofs.Ytbfjkomlnpolmaa.G
open Go.BX
set_option linter.unusedSimpArgs false
set_option linter.unusedVariables false
theorem psl : isSl Cx 22 42 := ⟨_, TT_22, rfl⟩
theorem pti : ∃ ti, Cx.TT 42 = some ti ∧ ti.size = 6 ∧ ti.bytes = 64 := ⟨_, TT_42, rfl, rfl⟩
theorem rsl : isSl Cx 29 22 := ⟨_, TT_29, rfl⟩
theorem rti : ∃ ti, Cx.TT 22 = some ti ∧ ti.size = 1 ∧ ti.bytes = 24 := ⟨_, TT_22, rfl, rfl⟩
def rowsR (rs : List (AV × List Pr)) : List (List AV) := rs.map fun x => [x.1]
structure SS (h0 : Nat) (room b n : Nat) (A : Nat → Blk) (now : List Pr) (rs : List (AV × List Pr)) (cnt : Nat) : Prop where
  hb0 : h0 ≤ b
  hb : b < n
  at_ : ∃ vn vr, A b = .cells 57 4 [[.int .i64 (room : Int), vn, vr, .int .i64 (cnt : Int)]] ∧ OwnK h0 42 6 vn n A (now.map encP) ∧ OwnK h0 22 1 vr n A (rowsR rs)
  all : ∀ x, x ∈ rs → InE x.1 x.2
def Sep (F : Nat → Prop) (b : Nat) (A : Nat → Blk) : Prop := ¬ F b ∧ ∀ r vn vr c, A b = .cells 57 4 [[r, vn, vr, c]] → ∀ g, F g → (∀ kk m, vn ≠ .slc g kk 0 m) ∧ ∀ kk m, vr ≠ .slc g kk 0 m
theorem Sep.none {b : Nat} {A : Nat → Blk} : Sep (fun _ => False) b A := ⟨fun h => h, fun _ _ _ _ _ _ h => h.elim⟩
theorem SS.sep {h0 room b n : Nat} {A : Nat → Blk} {now : List Pr} {rs : List (AV × List Pr)} {cnt : Nat} (h : SS h0 room b n A now rs cnt) {F : Nat → Prop} (hF : ∀ g, F g → n ≤ g) : Sep F b A := by
  obtain ⟨h1, h2, ⟨vn, vr, h3, h4, h5⟩, h6⟩ := h
  refine ⟨fun h => by have := hF _ h; omega, fun r vn' vr' c he g hg => ?_⟩
  rw [h3] at he
  cases he
  have := hF g hg
  refine ⟨fun kk m e => ?_, fun kk m e => ?_⟩
  · rcases h4 with ⟨rfl, _⟩ | ⟨g', rfl, _, _, _⟩
    · cases e
    · cases e; omega
  · rcases h5 with ⟨rfl, _⟩ | ⟨g', rfl, _, _, _⟩
    · cases e
    · cases e; omega
theorem SS.keep {h0 room b n n' : Nat} {A A' : Nat → Blk} {now : List Pr} {rs : List (AV × List Pr)} {cnt : Nat} (h : SS h0 room b n A now rs cnt) (hn : n ≤ n') (hk : ∀ g, h0 ≤ g → g < n → A' g = A g) : SS h0 room b n' A' now rs cnt := by
  obtain ⟨h1, h2, ⟨vn, vr, h3, h4, h5⟩, h6⟩ := h
  refine ⟨h1, by omega, ⟨vn, vr, by rw [hk b h1 h2]; exact h3, ?_, ?_⟩, h6⟩
  · rcases h4 with h | ⟨g, g1, g2, g3, g4⟩
    · exact .inl h
    · exact .inr ⟨g, g1, g2, by omega, by rw [hk g g2 g3]; exact g4⟩
  · rcases h5 with h | ⟨g, g1, g2, g3, g4⟩
    · exact .inl h
    · exact .inr ⟨g, g1, g2, by omega, by rw [hk g g2 g3]; exact g4⟩
theorem frz1 {n g : Nat} {A : Nat → Blk} {p : Pr} : mapO (BX.freeze ⟨n, upd A g (.cells 42 6 [[.str p.key, .int .i64 p.k, .int .i64 p.n, .str p.s, .int .i64 p.x, .int .i64 p.y]])⟩) [.slc g 6 0 1] = some [.vec 6 [[.str p.key, .int .i64 p.k, .int .i64 p.n, .str p.s, .int .i64 p.x, .int .i64 p.y]]] := by
  rw [mapO_cons, freeze_slc]
  simp only [elems, upd_app, ↓reduceIte, List.length_singleton, true_and, Nat.zero_add, Nat.le_refl, List.drop_zero, List.take_succ_cons, List.take_zero, frzE_some, mapO_cons, mapO_nil, freeze1_str, freeze1_int, consO_some, Option.map_some]
section
variable {fn : FuncId} {T : Nat → AV} {ds : List ADef} {ro : Option Nat} {k : List AItem} {Q : AV → AHeap → Prop} {dst : Option Nat} {os : List AO}
theorem Sort_call {h0 : Nat} {d : AV} {n : Nat} {A : Nat → Blk} {l : List Pr} (hd : OwnK h0 42 6 d n A (l.map encP)) (hl : l.length ≤ 1000000) (hk : ∀ m w, IsSort l m → InE w m → RunOps Cx fn (putA T dst w) ds ro os k ⟨n, A⟩ Q) :
    RunCall Cx fn T ds ro 22 [d] dst os k ⟨n, A⟩ Q := by
  obtain ⟨v, hv, hf, hfl⟩ := hd.own.buf.freeze
  obtain ⟨m, w, hs, hw, hp, hm⟩ := Sort_ok hv hl
  cases hfd : d.flat with
  | true =>
    obtain rfl := hfl hfd
    rw [call_pure pure22 (by simp [hfd]) hp]
    exact hk m w hs hw
  | false =>
    rw [call_made pure22 (by simp [hfd]) (by rw [mapO_cons, hf, mapO_nil]; rfl) hm]
    exact hk m w hs hw
theorem rightOne_ok (p : Pr) : PCall Cx 9 [.vec 6 [[.str p.key, .int .i64 p.k, .int .i64 p.n, .str p.s, .int .i64 p.x, .int .i64 p.y]]] (.bool (!badP p)) := by
  have h := pRight_ok (v := .vec 6 [encP p]) (l := [p]) (.inr rfl) (by simp)
  have e : rightL [p] = !badP p := by
    cases hb : badP p with
    | true =>
      have : rightL [p] = false := by
        rw [Bool.eq_false_iff, Ne, rightL_iff]
        intro h
        have := h p (by simp)
        rw [hb] at this
        cases this
      rw [this]; rfl
    | false =>
      rw [(rightL_iff [p]).mpr (by intro q hq; simp only [List.mem_singleton] at hq; subst hq; exact hb)]
      rfl
  rw [e] at h
  exact h
theorem Count_call {h0 room b n : Nat} {A : Nat → Blk} {now : List Pr} {rs : List (AV × List Pr)} {cnt : Nat} (h : SS h0 room b n A now rs cnt) (hk : RunOps Cx fn (putA T dst (.int .i64 (cnt : Int))) ds ro os k ⟨n, A⟩ Q) :
    RunCall Cx fn T ds ro 13 [.ptr b 4 0 0] dst os k ⟨n, A⟩ Q := by
  refine call_body pure13 (noext _) body13 ?_
  obtain ⟨vn, vr, hat, _, _⟩ := h.at_
  simp only [hat, isNilPt, n13_0, n13_1, n13_2, n13_3, n13_4, n13_5, n13_6, n13_7, n13_8, n13_9, n13_10, n13_11, n13_12, o13_1, o13_4, o13_7, o13_11, res13, TT_3, TT_4, TT_5, TT_9, TT_22, TT_25, TT_26, TT_29, TT_33, TT_38, TT_40, TT_42, TT_47, TT_50, TT_57, TT_59, TT_66, TT_68, TT_69, TT_70, TT_72, TT_81, bb, primP, primM, ev, evs, parts_, ofConst, bin, un, intBin, putA, enterT, Nat.reduceEqDiff, Nat.reduceAdd, Nat.reduceMul, Nat.reduceLeDiff, Nat.reduceLT, ↓reduceIte, reduceCtorEq, RunRes, resultsA, oneOf, AV.plain, AV.cells, AHeap.push, AHeap.set, AHeap.empty, fieldOf, loadA, storeA, BX.part, TK.isAgg, convA, builtinA, inertB, builtinP, buildA, fillA, splice, eqv, cellsEq, sizeT, adT, ldT, fwT, Nat.reduceBeqDiff, Nat.reduceBneDiff, Int.reduceBNe, Int.reduceBEq, Int.reduceEq, Int.reduceLT, Int.reduceLE, Int.reduceAdd, Int.reduceSub, Int.reduceMul, Int.reduceNeg, strBin, indexAddrA, elems, lenOf, chunk, List.reduceReplicate, Int.reduceToNat]
  exact hk
theorem New_no {room : Int} {n : Nat} {A : Nat → Blk} (h : room < 1 ∨ 4096 < room) (hk : RunOps Cx fn (putA T dst (.tuple [.nilP, .int .i64 1])) ds ro os k ⟨n, A⟩ Q) :
    RunCall Cx fn T ds ro 14 [.int .i64 room] dst os k ⟨n, A⟩ Q := by
  refine call_body pure14 (noext _) body14 ?_
  by_cases h1 : room < 1
  · simp only [h1, n14_0, n14_1, n14_2, n14_3, n14_4, n14_5, n14_6, n14_7, n14_8, n14_9, n14_10, n14_11, n14_12, o14_1, o14_4, o14_7, o14_11, res14, TT_3, TT_4, TT_5, TT_9, TT_22, TT_25, TT_26, TT_29, TT_33, TT_38, TT_40, TT_42, TT_47, TT_50, TT_57, TT_59, TT_66, TT_68, TT_69, TT_70, TT_72, TT_81, bb, primP, primM, ev, evs, parts_, ofConst, bin, un, intBin, putA, enterT, Nat.reduceEqDiff, Nat.reduceAdd, Nat.reduceMul, Nat.reduceLeDiff, Nat.reduceLT, ↓reduceIte, reduceCtorEq, RunRes, resultsA, oneOf, AV.plain, AV.cells, AHeap.push, AHeap.set, AHeap.empty, fieldOf, loadA, storeA, BX.part, TK.isAgg, convA, builtinA, inertB, builtinP, buildA, fillA, splice, eqv, cellsEq, sizeT, adT, ldT, fwT, Nat.reduceBeqDiff, Nat.reduceBneDiff, Int.reduceBNe, Int.reduceBEq, Int.reduceEq, Int.reduceLT, Int.reduceLE, Int.reduceAdd, Int.reduceSub, Int.reduceMul, Int.reduceNeg, strBin, indexAddrA, elems, lenOf, chunk, List.reduceReplicate, Int.reduceToNat]
    exact hk
  · have h2 : 4096 < room := by omega
    simp only [h1, h2, n14_0, n14_1, n14_2, n14_3, n14_4, n14_5, n14_6, n14_7, n14_8, n14_9, n14_10, n14_11, n14_12, o14_1, o14_4, o14_7, o14_11, res14, TT_3, TT_4, TT_5, TT_9, TT_22, TT_25, TT_26, TT_29, TT_33, TT_38, TT_40, TT_42, TT_47, TT_50, TT_57, TT_59, TT_66, TT_68, TT_69, TT_70, TT_72, TT_81, bb, primP, primM, ev, evs, parts_, ofConst, bin, un, intBin, putA, enterT, Nat.reduceEqDiff, Nat.reduceAdd, Nat.reduceMul, Nat.reduceLeDiff, Nat.reduceLT, ↓reduceIte, reduceCtorEq, RunRes, resultsA, oneOf, AV.plain, AV.cells, AHeap.push, AHeap.set, AHeap.empty, fieldOf, loadA, storeA, BX.part, TK.isAgg, convA, builtinA, inertB, builtinP, buildA, fillA, splice, eqv, cellsEq, sizeT, adT, ldT, fwT, Nat.reduceBeqDiff, Nat.reduceBneDiff, Int.reduceBNe, Int.reduceBEq, Int.reduceEq, Int.reduceLT, Int.reduceLE, Int.reduceAdd, Int.reduceSub, Int.reduceMul, Int.reduceNeg, strBin, indexAddrA, elems, lenOf, chunk, List.reduceReplicate, Int.reduceToNat]
    exact hk
theorem New_call {room n : Nat} {A : Nat → Blk} (h1 : 1 ≤ room) (h2 : room ≤ 4096) (hk : ∀ A', SS n room n (n + 1) A' [] [] 0 → (∀ c, c < n → A' c = A c) → RunOps Cx fn (putA T dst (.tuple [.ptr n 4 0 0, .int .i64 0])) ds ro os k ⟨n + 1, A'⟩ Q) :
    RunCall Cx fn T ds ro 14 [.int .i64 (room : Int)] dst os k ⟨n, A⟩ Q := by
  refine call_body pure14 (noext _) body14 ?_
  have c1 : ¬ (room : Int) < 1 := by omega
  have c2 : ¬ 4096 < (room : Int) := by omega
  simp only [c1, c2, n14_0, n14_1, n14_2, n14_3, n14_4, n14_5, n14_6, n14_7, n14_8, n14_9, n14_10, n14_11, n14_12, o14_1, o14_4, o14_7, o14_11, res14, TT_3, TT_4, TT_5, TT_9, TT_22, TT_25, TT_26, TT_29, TT_33, TT_38, TT_40, TT_42, TT_47, TT_50, TT_57, TT_59, TT_66, TT_68, TT_69, TT_70, TT_72, TT_81, bb, primP, primM, ev, evs, parts_, ofConst, bin, un, intBin, putA, enterT, Nat.reduceEqDiff, Nat.reduceAdd, Nat.reduceMul, Nat.reduceLeDiff, Nat.reduceLT, ↓reduceIte, reduceCtorEq, RunRes, resultsA, oneOf, AV.plain, AV.cells, AHeap.push, AHeap.set, AHeap.empty, fieldOf, loadA, storeA, BX.part, TK.isAgg, convA, builtinA, inertB, builtinP, buildA, fillA, splice, eqv, cellsEq, sizeT, adT, ldT, fwT, Nat.reduceBeqDiff, Nat.reduceBneDiff, Int.reduceBNe, Int.reduceBEq, Int.reduceEq, Int.reduceLT, Int.reduceLE, Int.reduceAdd, Int.reduceSub, Int.reduceMul, Int.reduceNeg, strBin, indexAddrA, elems, lenOf, chunk, List.reduceReplicate, Int.reduceToNat]
  refine hk _ ⟨Nat.le_refl _, Nat.lt_succ_self _, ⟨.nilS, .nilS, by simp [upd_app], .inl ⟨rfl, rfl⟩, .inl ⟨rfl, rfl⟩⟩, fun x hx => by simp at hx⟩ (fun c hc => by rw [upd_app, if_neg (by omega)])
theorem Put_no {h0 room b n : Nat} {A : Nat → Blk} {now : List Pr} {rs : List (AV × List Pr)} {cnt : Nat} (h : SS h0 room b n A now rs cnt) {p : Pr} (hp : badP p = true)
    (hk : ∀ n' A', SS h0 room b n' A' now rs cnt → n ≤ n' → (∀ c, c < n → A' c = A c) → RunOps Cx fn (putA T dst (.int .i64 1)) ds ro os k ⟨n', A'⟩ Q) :
    RunCall Cx fn T ds ro 15 [.ptr b 4 0 0, pairA p] dst os k ⟨n, A⟩ Q := by
  refine call_body pure15 (noext _) body15 ?_
  have hr := rightOne_ok p
  rw [hp] at hr
  have hc : ∀ {fn : FuncId} {T : Nat → AV} {ds : List ADef} {ro : Option Nat} {k : List AItem} {Q : AV → AHeap → Prop} {dst : Option Nat} {os : List AO} (n g : Nat) (A : Nat → Blk), RunCall Cx fn T ds ro 9 [.slc g 6 0 1] dst os k ⟨n, upd A g (.cells 42 6 [[.str p.key, .int .i64 p.k, .int .i64 p.n, .str p.s, .int .i64 p.x, .int .i64 p.y]])⟩ Q = RunOps Cx fn (putA T dst (.bool false)) ds ro os k ⟨n, upd A g (.cells 42 6 [[.str p.key, .int .i64 p.k, .int .i64 p.n, .str p.s, .int .i64 p.x, .int .i64 p.y]])⟩ Q := fun n g A => call_any pure9 rfl hr frz1
  simp only [isNilPt, hc, n15_0, n15_1, n15_2, n15_3, n15_4, n15_5, n15_6, n15_7, n15_8, n15_9, n15_10, n15_11, n15_12, n15_13, n15_14, n15_15, n15_16, n15_17, n15_18, n15_19, n15_20, n15_21, n15_22, o15_1, o15_4, o15_7, o15_11, o15_13, o15_16, o15_18, o15_21, res15, TT_3, TT_4, TT_5, TT_9, TT_22, TT_25, TT_26, TT_29, TT_33, TT_38, TT_40, TT_42, TT_47, TT_50, TT_57, TT_59, TT_66, TT_68, TT_69, TT_70, TT_72, TT_81, bb, primP, primM, ev, evs, parts_, ofConst, bin, un, intBin, putA, enterT, Nat.reduceEqDiff, Nat.reduceAdd, Nat.reduceMul, Nat.reduceLeDiff, Nat.reduceLT, ↓reduceIte, reduceCtorEq, RunRes, resultsA, oneOf, AV.plain, AV.cells, AHeap.push, AHeap.set, AHeap.empty, fieldOf, loadA, storeA, BX.part, TK.isAgg, convA, builtinA, inertB, builtinP, buildA, fillA, splice, eqv, cellsEq, sizeT, adT, ldT, fwT, Nat.reduceBeqDiff, Nat.reduceBneDiff, Int.reduceBNe, Int.reduceBEq, Int.reduceEq, Int.reduceLT, Int.reduceLE, Int.reduceAdd, Int.reduceSub, Int.reduceMul, Int.reduceNeg, strBin, indexAddrA, elems, lenOf, chunk, List.reduceReplicate, Int.reduceToNat]
  refine hk _ _ (h.keep (by omega) ?_) (by omega) ?_
  · intro g _ hg
    rw [upd_app, if_neg (by omega), upd_app, if_neg (by omega)]
  · intro g hg
    rw [upd_app, if_neg (by omega), upd_app, if_neg (by omega)]
theorem put3 {F : Nat → Prop} {h0 room b n : Nat} {A : Nat → Blk} {now : List Pr} {rs : List (AV × List Pr)} {cnt : Nat} {T : Nat → AV} {Q : AV → AHeap → Prop} (h : SS h0 room b n A now rs cnt) (hF : ∀ g, F g → g < n) (hsep : Sep F b A) (t0 : T 0 = .ptr b 4 0 0) (h0n : h0 ≤ n) (hl : now.length ≤ 100000) (hrl : rs.length ≤ 100000)
    (hk : ∀ n' A' now' rs', SS h0 room b n' A' now' rs' cnt → n ≤ n' → (∀ c, c < h0 → A' c = A c) → (∀ c, F c → A' c = A c) → Sep F b A' → (now.length ≠ room ∧ now' = now ∧ rs' = rs ∨ now.length = room ∧ now' = [] ∧ ∃ w m, rs' = rs ++ [(w, m)] ∧ IsSort now m) → Q (.int .i64 0) ⟨n', A'⟩) :
    Run Cx 15 T [] none [.code c15_14] ⟨n, A⟩ Q := by
  have h' := h
  obtain ⟨hb0, hbn, ⟨vn, vr, hat, hvn, hvr⟩, hall⟩ := h
  have hlen := hvn.lenOf
  rw [List.length_map] at hlen
  simp only [lenOf] at hlen
  by_cases he : now.length = room
  · have c1 : ((now.length : Int) == (room : Int)) = true := by simp [he]
    simp only [t0, hat, hlen, c1, i64, n15_0, n15_1, n15_2, n15_3, n15_4, n15_5, n15_6, n15_7, n15_8, n15_9, n15_10, n15_11, n15_12, n15_13, n15_14, n15_15, n15_16, n15_17, n15_18, n15_19, n15_20, n15_21, n15_22, o15_1, o15_4, o15_7, o15_11, o15_13, o15_16, o15_18, o15_21, res15, TT_3, TT_4, TT_5, TT_9, TT_22, TT_25, TT_26, TT_29, TT_33, TT_38, TT_40, TT_42, TT_47, TT_50, TT_57, TT_59, TT_66, TT_68, TT_69, TT_70, TT_72, TT_81, bb, primP, primM, ev, evs, parts_, ofConst, bin, un, intBin, putA, enterT, Nat.reduceEqDiff, Nat.reduceAdd, Nat.reduceMul, Nat.reduceLeDiff, Nat.reduceLT, ↓reduceIte, reduceCtorEq, RunRes, resultsA, oneOf, AV.plain, AV.cells, AHeap.push, AHeap.set, AHeap.empty, fieldOf, loadA, storeA, BX.part, TK.isAgg, convA, builtinA, inertB, builtinP, buildA, fillA, splice, eqv, cellsEq, sizeT, adT, ldT, fwT, Nat.reduceBeqDiff, Nat.reduceBneDiff, Int.reduceBNe, Int.reduceBEq, Int.reduceEq, Int.reduceLT, Int.reduceLE, Int.reduceAdd, Int.reduceSub, Int.reduceMul, Int.reduceNeg, strBin, indexAddrA, elems, lenOf, chunk, List.reduceReplicate, Int.reduceToNat]
    refine Sort_call hvn (by omega) ?_
    intro m w hs hw
    have hwp := hw.plain
    have hwc := hw.cells
    simp only [AV.plain] at hwp
    simp only [AV.cells] at hwc
    obtain ⟨A', ha, hown, hkeep, hkeep2⟩ := hvr.app1s (row := [w]) (by omega) rsl rti (by unfold most; rw [rowsR, List.length_map]; omega) (by unfold most; rw [rowsR, List.length_map]; omega)
    have hat' : A' b = A b := hkeep b hbn (.inl (by rw [hat]; intro e; cases e))
    rw [hat] at hat'
    simp only [t0, hwp, hwc, ha, hat', upd2, runVH_some, n15_0, n15_1, n15_2, n15_3, n15_4, n15_5, n15_6, n15_7, n15_8, n15_9, n15_10, n15_11, n15_12, n15_13, n15_14, n15_15, n15_16, n15_17, n15_18, n15_19, n15_20, n15_21, n15_22, o15_1, o15_4, o15_7, o15_11, o15_13, o15_16, o15_18, o15_21, res15, TT_3, TT_4, TT_5, TT_9, TT_22, TT_25, TT_26, TT_29, TT_33, TT_38, TT_40, TT_42, TT_47, TT_50, TT_57, TT_59, TT_66, TT_68, TT_69, TT_70, TT_72, TT_81, bb, primP, primM, ev, evs, parts_, ofConst, bin, un, intBin, putA, enterT, Nat.reduceEqDiff, Nat.reduceAdd, Nat.reduceMul, Nat.reduceLeDiff, Nat.reduceLT, ↓reduceIte, reduceCtorEq, RunRes, resultsA, oneOf, AV.plain, AV.cells, AHeap.push, AHeap.set, AHeap.empty, fieldOf, loadA, storeA, BX.part, TK.isAgg, convA, builtinA, inertB, builtinP, buildA, fillA, splice, eqv, cellsEq, sizeT, adT, ldT, fwT, Nat.reduceBeqDiff, Nat.reduceBneDiff, Int.reduceBNe, Int.reduceBEq, Int.reduceEq, Int.reduceLT, Int.reduceLE, Int.reduceAdd, Int.reduceSub, Int.reduceMul, Int.reduceNeg, strBin, indexAddrA, elems, lenOf, chunk, List.reduceReplicate, Int.reduceToNat]
    refine hk _ _ [] (rs ++ [(w, m)]) ⟨hb0, by omega, ⟨.nilS, _, by simp only [upd_app, ↓reduceIte] <;> rfl, .inl ⟨rfl, rfl⟩, ?_⟩, ?_⟩ (by omega) ?_ ?_ ?_ (.inr ⟨he, rfl, w, m, rfl, hs⟩)
    · have e : rowsR (rs ++ [(w, m)]) = rowsR rs ++ [[w]] := by simp [rowsR]
      rw [e]
      refine hown.keep (Nat.le_refl _) (fun g hg hgA => ?_)
      rw [upd_app, if_neg (fun e => ?_)]
      subst e
      rw [hat'] at hgA
      cases hgA
    · intro x hx
      rcases List.mem_append.mp hx with hx | hx
      · exact hall x hx
      · simp only [List.mem_singleton] at hx
        subst hx; exact hw
    · intro c hc
      rw [upd_app, if_neg (by omega)]
      exact hkeep c (by omega) (.inr hc)
    · intro c hc
      rw [upd_app, if_neg (by rintro rfl; exact hsep.1 hc)]
      exact hkeep2 c (hF c hc) ((hsep.2 _ _ _ _ hat c hc).2 1)
    · refine ⟨hsep.1, fun r vn' vr' cc he g hg => ?_⟩
      simp only [upd_app, ↓reduceIte] at he
      cases he
      have := hF g hg
      exact ⟨fun kk m e => (by cases e), fun kk m e => (by cases e; omega)⟩
  · have c1 : ((now.length : Int) == (room : Int)) = false := by simp; omega
    simp only [t0, hat, hlen, c1, i64, n15_0, n15_1, n15_2, n15_3, n15_4, n15_5, n15_6, n15_7, n15_8, n15_9, n15_10, n15_11, n15_12, n15_13, n15_14, n15_15, n15_16, n15_17, n15_18, n15_19, n15_20, n15_21, n15_22, o15_1, o15_4, o15_7, o15_11, o15_13, o15_16, o15_18, o15_21, res15, TT_3, TT_4, TT_5, TT_9, TT_22, TT_25, TT_26, TT_29, TT_33, TT_38, TT_40, TT_42, TT_47, TT_50, TT_57, TT_59, TT_66, TT_68, TT_69, TT_70, TT_72, TT_81, bb, primP, primM, ev, evs, parts_, ofConst, bin, un, intBin, putA, enterT, Nat.reduceEqDiff, Nat.reduceAdd, Nat.reduceMul, Nat.reduceLeDiff, Nat.reduceLT, ↓reduceIte, reduceCtorEq, RunRes, resultsA, oneOf, AV.plain, AV.cells, AHeap.push, AHeap.set, AHeap.empty, fieldOf, loadA, storeA, BX.part, TK.isAgg, convA, builtinA, inertB, builtinP, buildA, fillA, splice, eqv, cellsEq, sizeT, adT, ldT, fwT, Nat.reduceBeqDiff, Nat.reduceBneDiff, Int.reduceBNe, Int.reduceBEq, Int.reduceEq, Int.reduceLT, Int.reduceLE, Int.reduceAdd, Int.reduceSub, Int.reduceMul, Int.reduceNeg, strBin, indexAddrA, elems, lenOf, chunk, List.reduceReplicate, Int.reduceToNat]
    exact hk _ _ now rs h' (Nat.le_refl _) (fun _ _ => rfl) (fun _ _ => rfl) hsep (.inl ⟨he, rfl, rfl⟩)
theorem put2 {F : Nat → Prop} {h0 room b n x : Nat} {A : Nat → Blk} {now : List Pr} {rs : List (AV × List Pr)} {cnt : Nat} {p : Pr} {T : Nat → AV} {Q : AV → AHeap → Prop} (h : SS h0 room b n A now rs cnt) (hF : ∀ g, F g → g < n) (hsep : Sep F b A) (t0 : T 0 = .ptr b 4 0 0) (t3 : T 3 = .ptr x 6 0 0) (hx : A x = .cells 42 6 [[.str p.key, .int .i64 p.k, .int .i64 p.n, .str p.s, .int .i64 p.x, .int .i64 p.y]]) (h0n : h0 ≤ n) (hl : now.length ≤ 90000) (hrl : rs.length ≤ 100000)
    (hk : ∀ n' A' now' rs', SS h0 room b n' A' now' rs' cnt → n ≤ n' → (∀ c, c < h0 → A' c = A c) → (∀ c, F c → A' c = A c) → Sep F b A' → (now.length + 1 ≠ room ∧ now' = now ++ [p] ∧ rs' = rs ∨ now.length + 1 = room ∧ now' = [] ∧ ∃ w m, rs' = rs ++ [(w, m)] ∧ IsSort (now ++ [p]) m) → Q (.int .i64 0) ⟨n', A'⟩) :
    Run Cx 15 T [] none [.code c15_12] ⟨n, A⟩ Q := by
  obtain ⟨hb0, hbn, ⟨vn, vr, hat, hvn, hvr⟩, hall⟩ := h
  obtain ⟨A', ha, hown, hkeep, hkeep2⟩ := hvn.app1s (row := encP p) (by omega) psl pti (by unfold most; rw [List.length_map]; omega) (by unfold most; rw [List.length_map]; omega)
  simp only [encP] at ha
  have hat' : A' b = A b := hkeep b hbn (.inl (by rw [hat]; intro e; cases e))
  rw [hat] at hat'
  simp only [t0, t3, hx, hat, ha, hat', runVH_some, n15_0, n15_1, n15_2, n15_3, n15_4, n15_5, n15_6, n15_7, n15_8, n15_9, n15_10, n15_11, n15_12, n15_13, n15_15, n15_16, n15_17, n15_18, n15_19, n15_20, n15_21, n15_22, o15_1, o15_4, o15_7, o15_11, o15_13, o15_16, o15_18, o15_21, res15, TT_3, TT_4, TT_5, TT_9, TT_22, TT_25, TT_26, TT_29, TT_33, TT_38, TT_40, TT_42, TT_47, TT_50, TT_57, TT_59, TT_66, TT_68, TT_69, TT_70, TT_72, TT_81, bb, primP, primM, ev, evs, parts_, ofConst, bin, un, intBin, putA, enterT, Nat.reduceEqDiff, Nat.reduceAdd, Nat.reduceMul, Nat.reduceLeDiff, Nat.reduceLT, ↓reduceIte, reduceCtorEq, RunRes, resultsA, oneOf, AV.plain, AV.cells, AHeap.push, AHeap.set, AHeap.empty, fieldOf, loadA, storeA, BX.part, TK.isAgg, convA, builtinA, inertB, builtinP, buildA, fillA, splice, eqv, cellsEq, sizeT, adT, ldT, fwT, Nat.reduceBeqDiff, Nat.reduceBneDiff, Int.reduceBNe, Int.reduceBEq, Int.reduceEq, Int.reduceLT, Int.reduceLE, Int.reduceAdd, Int.reduceSub, Int.reduceMul, Int.reduceNeg, strBin, indexAddrA, elems, lenOf, chunk, List.reduceReplicate, Int.reduceToNat]
  have e : (now ++ [p]).map encP = now.map encP ++ [encP p] := by simp
  refine put3 (F := F) (h0 := h0) (room := room) (b := b) (now := now ++ [p]) (rs := rs) (cnt := cnt) ⟨hb0, by omega, ⟨_, vr, by simp only [upd_app, ↓reduceIte] <;> rfl, ?_, ?_⟩, hall⟩ (fun g hg => by have := hF g hg; omega) ⟨hsep.1, fun r vn' vr' cc he g hg => ?_⟩ ?_ (by omega) (by simp; omega) hrl ?_
  · rw [e]
    refine hown.keep (Nat.le_refl _) (fun g hg hgA => ?_)
    rw [upd_app, if_neg (fun e => ?_)]
    subst e
    rw [hat'] at hgA
    cases hgA
  · refine hvr.keep (by omega) (fun g hg hgA => ?_)
    rw [upd_app, if_neg (fun e => ?_)]
    · exact hkeep g hg (.inl (by rw [hgA]; intro e; cases e))
    · subst e
      rw [hat] at hgA
      cases hgA
  · simp only [upd_app, ↓reduceIte] at he
    cases he
    have := hF g hg
    exact ⟨fun kk m e => (by cases e; omega), (hsep.2 _ _ _ _ hat g hg).2⟩
  · simp only [upd_app, t0, Nat.reduceEqDiff, ↓reduceIte]
  · intro n' A2 now' rs' h1 h2 h3 h5 h6 h4
    refine hk n' A2 now' rs' h1 (by omega) (fun c hc => ?_) (fun c hc => ?_) h6 (by simpa using h4)
    · rw [h3 c hc, upd_app, if_neg (by omega)]
      exact hkeep c (by omega) (.inr hc)
    · rw [h5 c hc, upd_app, if_neg (by rintro rfl; exact hsep.1 hc)]
      exact hkeep2 c (hF c hc) ((hsep.2 _ _ _ _ hat c hc).1 6)
theorem Put_callF {F : Nat → Prop} {h0 room b n : Nat} {A : Nat → Blk} {now : List Pr} {rs : List (AV × List Pr)} {cnt : Nat} (h : SS h0 room b n A now rs cnt) (hF : ∀ g, F g → g < n) (hsep : Sep F b A) {p : Pr} (hp : badP p = false) (hl : now.length ≤ 90000) (hrl : rs.length ≤ 100000) (hcn : cnt ≤ 100000)
    (hk : ∀ n' A' now' rs', SS h0 room b n' A' now' rs' (cnt + 1) → n ≤ n' → (∀ c, c < h0 → A' c = A c) → (∀ c, F c → A' c = A c) → Sep F b A' → (now.length + 1 ≠ room ∧ now' = now ++ [p] ∧ rs' = rs ∨ now.length + 1 = room ∧ now' = [] ∧ ∃ w m, rs' = rs ++ [(w, m)] ∧ IsSort (now ++ [p]) m) → RunOps Cx fn (putA T dst (.int .i64 0)) ds ro os k ⟨n', A'⟩ Q) :
    RunCall Cx fn T ds ro 15 [.ptr b 4 0 0, pairA p] dst os k ⟨n, A⟩ Q := by
  refine call_body pure15 (noext _) body15 ?_
  have hr := rightOne_ok p
  rw [hp] at hr
  have hc : ∀ {fn : FuncId} {T : Nat → AV} {ds : List ADef} {ro : Option Nat} {k : List AItem} {Q : AV → AHeap → Prop} {dst : Option Nat} {os : List AO} (n g : Nat) (A : Nat → Blk), RunCall Cx fn T ds ro 9 [.slc g 6 0 1] dst os k ⟨n, upd A g (.cells 42 6 [[.str p.key, .int .i64 p.k, .int .i64 p.n, .str p.s, .int .i64 p.x, .int .i64 p.y]])⟩ Q = RunOps Cx fn (putA T dst (.bool true)) ds ro os k ⟨n, upd A g (.cells 42 6 [[.str p.key, .int .i64 p.k, .int .i64 p.n, .str p.s, .int .i64 p.x, .int .i64 p.y]])⟩ Q := fun n g A => call_any pure9 rfl hr frz1
  have h' := h
  obtain ⟨hb0, hbn, ⟨vn, vr, hat, hvn, hvr⟩, hall⟩ := h
  have w1 : IntKind.i64.wrap ((cnt : Int) + 1) = ((cnt + 1 : Nat) : Int) := by rw [wr64 (by omega) (by omega)]; omega
  have e1 : (b = n) = False := eq_false (by omega)
  have e2 : (b = n + 1) = False := eq_false (by omega)
  have e3 : (n = b) = False := eq_false (by omega)
  simp only [isNilPt, hc, hat, w1, e1, e2, e3, n15_0, n15_1, n15_2, n15_3, n15_4, n15_5, n15_6, n15_7, n15_8, n15_9, n15_10, n15_11, n15_13, n15_14, n15_15, n15_16, n15_17, n15_18, n15_19, n15_20, n15_21, n15_22, o15_1, o15_4, o15_7, o15_11, o15_13, o15_16, o15_18, o15_21, res15, Nat.add_eq_left, Nat.left_eq_add, Nat.one_ne_zero, Nat.succ_ne_zero, Nat.add_left_cancel_iff, Nat.add_assoc, TT_3, TT_4, TT_5, TT_9, TT_22, TT_25, TT_26, TT_29, TT_33, TT_38, TT_40, TT_42, TT_47, TT_50, TT_57, TT_59, TT_66, TT_68, TT_69, TT_70, TT_72, TT_81, bb, primP, primM, ev, evs, parts_, ofConst, bin, un, intBin, putA, enterT, Nat.reduceEqDiff, Nat.reduceAdd, Nat.reduceMul, Nat.reduceLeDiff, Nat.reduceLT, ↓reduceIte, reduceCtorEq, RunRes, resultsA, oneOf, AV.plain, AV.cells, AHeap.push, AHeap.set, AHeap.empty, fieldOf, loadA, storeA, BX.part, TK.isAgg, convA, builtinA, inertB, builtinP, buildA, fillA, splice, eqv, cellsEq, sizeT, adT, ldT, fwT, Nat.reduceBeqDiff, Nat.reduceBneDiff, Int.reduceBNe, Int.reduceBEq, Int.reduceEq, Int.reduceLT, Int.reduceLE, Int.reduceAdd, Int.reduceSub, Int.reduceMul, Int.reduceNeg, strBin, indexAddrA, elems, lenOf, chunk, List.reduceReplicate, Int.reduceToNat]
  refine put2 (F := F) (h0 := h0) (room := room) (b := b) (x := n) (now := now) (rs := rs) (cnt := cnt + 1) (p := p) ⟨hb0, ?_, ⟨vn, vr, by simp only [upd_app, ↓reduceIte], ?_, ?_⟩, hall⟩ (fun g hg => by have := hF g hg; show g < n + 2; omega) ⟨hsep.1, fun r vn' vr' cc he g hg => ?_⟩ ?_ ?_ ?_ ?_ hl hrl ?_
  · show b < n + 2
    omega
  · refine hvn.keep (by omega) (fun g hg hgA => ?_)
    rw [upd_app, if_neg (fun e => ?_), upd_app, if_neg (by omega), upd_app, if_neg (by omega)]
    subst e
    rw [hat] at hgA
    cases hgA
  · refine hvr.keep (by omega) (fun g hg hgA => ?_)
    rw [upd_app, if_neg (fun e => ?_), upd_app, if_neg (by omega), upd_app, if_neg (by omega)]
    subst e
    rw [hat] at hgA
    cases hgA
  · simp only [upd_app, ↓reduceIte] at he
    cases he
    exact hsep.2 _ _ _ _ hat g hg
  · simp only [upd_app, enterT, List.getElem?_cons_zero, Option.getD_some, Nat.reduceEqDiff, ↓reduceIte]
  · simp only [upd_app, Nat.reduceEqDiff, ↓reduceIte]
  · simp only [upd_app, e3, ↓reduceIte, Nat.add_eq_left, Nat.left_eq_add, Nat.one_ne_zero, Nat.succ_ne_zero, Nat.add_left_cancel_iff, Nat.add_assoc]
  · omega
  · intro n' A2 now' rs' h1 h2 h3 h5 h6 h4
    refine hk n' A2 now' rs' h1 (by omega) (fun c hc => ?_) (fun c hc => ?_) h6 h4
    · rw [h3 c hc, upd_app, if_neg (by omega), upd_app, if_neg (by omega), upd_app, if_neg (by omega)]
    · have := hF c hc
      rw [h5 c hc, upd_app, if_neg (by rintro rfl; exact hsep.1 hc), upd_app, if_neg (by omega), upd_app, if_neg (by omega)]
theorem Put_call {h0 room b n : Nat} {A : Nat → Blk} {now : List Pr} {rs : List (AV × List Pr)} {cnt : Nat} (h : SS h0 room b n A now rs cnt) {p : Pr} (hp : badP p = false) (hl : now.length ≤ 90000) (hrl : rs.length ≤ 100000) (hcn : cnt ≤ 100000)
    (hk : ∀ n' A' now' rs', SS h0 room b n' A' now' rs' (cnt + 1) → n ≤ n' → (∀ c, c < h0 → A' c = A c) → (now.length + 1 ≠ room ∧ now' = now ++ [p] ∧ rs' = rs ∨ now.length + 1 = room ∧ now' = [] ∧ ∃ w m, rs' = rs ++ [(w, m)] ∧ IsSort (now ++ [p]) m) → RunOps Cx fn (putA T dst (.int .i64 0)) ds ro os k ⟨n', A'⟩ Q) :
    RunCall Cx fn T ds ro 15 [.ptr b 4 0 0, pairA p] dst os k ⟨n, A⟩ Q :=
  Put_callF (F := fun _ => False) h (fun _ h => h.elim) Sep.none hp hl hrl hcn (fun n' A' now' rs' h1 h2 h3 _ _ h4 => hk n' A' now' rs' h1 h2 h3 h4)
end
end Go.Proofs.Ytbfjkomlnpolmaa.G

namespace Go.Proofs.Ytbfjkomlnpolmaa.G
open Go.BX
set_option linter.unusedSimpArgs false
set_option linter.unusedVariables false
structure Pcs (room : Nat) (P : List Pr) (ms : List (List Pr)) : Prop where
  full : P.length ≤ ms.length * room
  lst : ms.length = 0 ∨ (ms.length - 1) * room < P.length
  srt : ∀ (i : Nat) (h : i < ms.length), IsSort (piece P room i) ms[i]
theorem piece_len {P : List Pr} {room i : Nat} (h : (i + 1) * room ≤ P.length) : (piece P room i).length = room := by
  unfold piece
  rw [Nat.succ_mul] at h
  rw [List.length_take, List.length_drop]; omega
theorem Chk.cut {room : Nat} {P now : List Pr} {rs : List (AV × List Pr)} (h : Chk room P now rs) (hr : 0 < room) : now = [] ∧ Pcs room P (rs.map (·.2)) ∨ now ≠ [] ∧ ∀ m, IsSort now m → Pcs room P (rs.map (·.2) ++ [m]) := by
  obtain ⟨h1, h2, h3, h4⟩ := h
  have hl : now.length = P.length - rs.length * room := by rw [h2, List.length_drop]
  by_cases h0 : now = []
  · refine .inl ⟨h0, ?_, ?_, ?_⟩
    · rw [h0] at hl
      rw [List.length_map]
      simp only [List.length_nil] at hl
      omega
    · rw [List.length_map]
      by_cases e : rs.length = 0
      · exact .inl e
      · refine .inr (Nat.lt_of_lt_of_le ?_ h1)
        exact Nat.mul_lt_mul_of_pos_right (by omega) hr
    · intro i hi
      rw [List.length_map] at hi
      rw [List.getElem_map]
      exact h4 i hi
  · refine .inr ⟨h0, fun m hm => ⟨?_, .inr ?_, ?_⟩⟩
    · rw [List.length_append, List.length_map, List.length_singleton, Nat.succ_mul]
      omega
    · have : 0 < now.length := List.length_pos_iff.mpr h0
      rw [List.length_append, List.length_map, List.length_singleton, Nat.add_sub_cancel]
      omega
    · intro i hi
      by_cases hir : i < (rs.map (·.2)).length
      · rw [List.getElem_append_left hir, List.getElem_map]
        rw [List.length_map] at hir
        exact h4 i hir
      · have hie : i = (rs.map (·.2)).length := by
          rw [List.length_append, List.length_singleton] at hi; omega
        subst hie
        rw [List.getElem_append_right (Nat.le_refl _)]
        simp only [Nat.sub_self, List.getElem_cons_zero]
        unfold piece
        rw [List.length_map, ← h2, List.take_of_length_le (by omega)]
        exact hm
theorem Chk.ne {room : Nat} {P now : List Pr} {rs : List (AV × List Pr)} (h : Chk room P now rs) (hr : 0 < room) : ∀ x, x ∈ rs → x.2 ≠ [] := by
  intro x hx e
  obtain ⟨i, hi, rfl⟩ := List.getElem_of_mem hx
  have h1 := (h.srt i hi).len
  rw [e, piece_len (Nat.le_trans (Nat.mul_le_mul_right _ hi) h.le)] at h1
  simp at h1
  omega
section
variable {fn : FuncId} {T : Nat → AV} {ds : List ADef} {ro : Option Nat} {k : List AItem} {Q : AV → AHeap → Prop} {dst : Option Nat} {os : List AO}
theorem Clone_call {n : Nat} {A : Nat → Blk} {l : List Pr} (hl : l.length ≤ 1000000) (h0 : l ≠ []) (hk : RunOps Cx fn (putA T dst (.slc (n + 1) 6 0 l.length)) ds ro os k ⟨n + 1 + 1, upd (upd A n .dead) (n + 1) (.cells 42 6 (l.map encP))⟩ Q) :
    RunCall Cx fn T ds ro 26 [.vec 6 (l.map encP)] dst os k ⟨n, A⟩ Q := by
  refine Clone_vec hl h0 ?_
  unfold SB
  rw [R_fnOf]
  exact hk
theorem rl_all {b n : Nat} {A : Nat → Blk} {rs : List (AV × List Pr)} {gr : Nat} {Q : AV → AHeap → Prop} (hrl : rs.length ≤ 100000) (hre : ∀ x, x ∈ rs → InE x.1 x.2 ∧ x.2 ≠ [] ∧ x.2.length ≤ 100000) (hgr : gr < n) (hA : A gr = .cells 22 1 (rowsR rs))
    (hK : ∀ (T : Nat → AV) (d : AV) (n' : Nat) (A' : Nat → Blk) (xs : List (AV × List Pr)), T 0 = .ptr b 4 0 0 → T 3 = d → OwnK n 22 1 d n' A' (rowsR xs) → (∀ x, x ∈ xs → RV n' A' x.1 x.2) → xs.map (·.2) = rs.map (·.2) → n ≤ n' → (∀ c, c < n → A' c = A c) →
      Run Cx 11 T [] none [.code c11_29] ⟨n', A'⟩ Q) :
    ∀ (j i : Nat) (T : Nat → AV) (d : AV) (n' : Nat) (A' : Nat → Blk) (xs : List (AV × List Pr)), i + j = rs.length → T 0 = .ptr b 4 0 0 → T 3 = d → T 11 = .slc gr 1 0 rs.length → T 12 = .int .i64 (rs.length : Int) → T 13 = .int .i64 (i : Int) → OwnK n 22 1 d n' A' (rowsR xs) → (∀ x, x ∈ xs → RV n' A' x.1 x.2) → xs.map (·.2) = (rs.take i).map (·.2) → n ≤ n' → (∀ c, c < n → A' c = A c) →
      Run Cx 11 T [] none [.inLoop c11_17, .inBlock 0, .code c11_29] ⟨n', A'⟩ Q
  | 0, i, T, d, n', A', xs, hij, t0, t3, t11, t12, t13, hd, hxs, hm, hn, hk => by
    rw [run_inLoop]
    have c0 : ¬ (i : Int) < (rs.length : Int) := by omega
    rw [List.take_of_length_le (by omega)] at hm
    simp only [t0, t3, t11, t12, t13, c0, run_exit_start, exit_here, exit_code, exit_inLoop, run_inBlock, n11_0, n11_1, n11_2, n11_3, n11_4, n11_5, n11_6, n11_7, n11_8, n11_9, n11_10, n11_11, n11_12, n11_13, n11_14, n11_15, n11_16, n11_17, n11_18, n11_19, n11_20, n11_21, n11_22, n11_23, n11_24, n11_25, n11_26, n11_27, n11_28, n11_30, n11_31, n11_32, n11_33, n11_34, n11_35, n11_36, n11_37, o11_1, o11_4, o11_7, o11_11, o11_14, o11_18, o11_26, o11_27, o11_28, o11_31, o11_33, o11_36, res11, TT_3, TT_4, TT_5, TT_9, TT_22, TT_25, TT_26, TT_29, TT_33, TT_38, TT_40, TT_42, TT_47, TT_50, TT_57, TT_59, TT_66, TT_68, TT_69, TT_70, TT_72, TT_81, bb, primP, primM, ev, evs, parts_, ofConst, bin, un, intBin, putA, enterT, Nat.reduceEqDiff, Nat.reduceAdd, Nat.reduceMul, Nat.reduceLeDiff, Nat.reduceLT, ↓reduceIte, reduceCtorEq, RunRes, resultsA, oneOf, AV.plain, AV.cells, AHeap.push, AHeap.set, AHeap.empty, fieldOf, loadA, storeA, BX.part, TK.isAgg, convA, builtinA, inertB, builtinP, buildA, fillA, splice, eqv, cellsEq, sizeT, adT, ldT, fwT, Nat.reduceBeqDiff, Nat.reduceBneDiff, Int.reduceBNe, Int.reduceBEq, Int.reduceEq, Int.reduceLT, Int.reduceLE, Int.reduceAdd, Int.reduceSub, Int.reduceMul, Int.reduceNeg, strBin, indexAddrA, elems, lenOf, chunk, List.reduceReplicate, Int.reduceToNat]
    refine hK _ d n' A' xs ?_ ?_ hd hxs hm hn hk
    all_goals simp only [upd_app, t0, t3, Nat.reduceEqDiff, ↓reduceIte]
  | j + 1, i, T, d, n', A', xs, hij, t0, t3, t11, t12, t13, hd, hxs, hm, hn, hk => by
    rw [run_inLoop]
    have hi : i < rs.length := by omega
    have c0 : (i : Int) < (rs.length : Int) := by omega
    have p0 : (0 : Int) ≤ (i : Int) := by omega
    have w1 : IntKind.i64.wrap ((i : Int) + 1) = ((i + 1 : Nat) : Int) := by rw [wr64 (by omega) (by omega)]; omega
    obtain ⟨hie, hne, hlen⟩ := hre _ (List.getElem_mem hi)
    have hxl : xs.length = i := by
      have := congrArg List.length hm
      rw [List.length_map, List.length_map, List.length_take] at this
      omega
    have hv := hie.vec hne
    have hg := rows_at hi
    rw [hv] at hg
    have hat : A' gr = .cells 22 1 (rs.map fun x => [x.1]) := by rw [hk gr hgr]; exact hA
    simp only [t0, t3, t11, t12, t13, c0, p0, hat, hg, Int.toNat_natCast, run_exit_start, exit_here, exit_code, exit_inLoop, run_inBlock, n11_0, n11_1, n11_2, n11_3, n11_4, n11_5, n11_6, n11_7, n11_8, n11_9, n11_10, n11_11, n11_12, n11_13, n11_14, n11_15, n11_16, n11_17, n11_18, n11_19, n11_20, n11_21, n11_22, n11_23, n11_24, n11_25, n11_26, n11_27, n11_28, n11_30, n11_31, n11_32, n11_33, n11_34, n11_35, n11_36, n11_37, o11_1, o11_4, o11_7, o11_11, o11_14, o11_18, o11_26, o11_27, o11_28, o11_31, o11_33, o11_36, res11, TT_3, TT_4, TT_5, TT_9, TT_22, TT_25, TT_26, TT_29, TT_33, TT_38, TT_40, TT_42, TT_47, TT_50, TT_57, TT_59, TT_66, TT_68, TT_69, TT_70, TT_72, TT_81, bb, primP, primM, ev, evs, parts_, ofConst, bin, un, intBin, putA, enterT, Nat.reduceEqDiff, Nat.reduceAdd, Nat.reduceMul, Nat.reduceLeDiff, Nat.reduceLT, ↓reduceIte, reduceCtorEq, RunRes, resultsA, oneOf, AV.plain, AV.cells, AHeap.push, AHeap.set, AHeap.empty, fieldOf, loadA, storeA, BX.part, TK.isAgg, convA, builtinA, inertB, builtinP, buildA, fillA, splice, eqv, cellsEq, sizeT, adT, ldT, fwT, Nat.reduceBeqDiff, Nat.reduceBneDiff, Int.reduceBNe, Int.reduceBEq, Int.reduceEq, Int.reduceLT, Int.reduceLE, Int.reduceAdd, Int.reduceSub, Int.reduceMul, Int.reduceNeg, strBin, indexAddrA, elems, lenOf, chunk, List.reduceReplicate, Int.reduceToNat]
    refine Clone_call (by omega) hne ?_
    generalize hA2 : upd (upd A' n' .dead) (n' + 1) (.cells 42 6 (rs[i].2.map encP)) = A2
    have hd2 : OwnK n 22 1 d (n' + 1 + 1) A2 (rowsR xs) := hd.keep (by omega) (fun g hg _ => by rw [← hA2, upd_app, if_neg (by omega), upd_app, if_neg (by omega)])
    obtain ⟨A3, ha, hown, hkeep⟩ := hd2.app1 (row := [.slc (n' + 1) 6 0 rs[i].2.length]) (by omega) rsl rti (by unfold most; rw [rowsR, List.length_map]; omega) (by unfold most; rw [rowsR, List.length_map]; omega)
    simp only [t0, t3, t11, t12, t13, ha, w1, runVH_some, run_exit_start, exit_here, exit_code, exit_inLoop, run_inBlock, n11_0, n11_1, n11_2, n11_3, n11_4, n11_5, n11_6, n11_7, n11_8, n11_9, n11_10, n11_11, n11_12, n11_13, n11_14, n11_15, n11_16, n11_17, n11_18, n11_19, n11_20, n11_21, n11_22, n11_23, n11_24, n11_25, n11_26, n11_27, n11_28, n11_30, n11_31, n11_32, n11_33, n11_34, n11_35, n11_36, n11_37, o11_1, o11_4, o11_7, o11_11, o11_14, o11_18, o11_26, o11_27, o11_28, o11_31, o11_33, o11_36, res11, TT_3, TT_4, TT_5, TT_9, TT_22, TT_25, TT_26, TT_29, TT_33, TT_38, TT_40, TT_42, TT_47, TT_50, TT_57, TT_59, TT_66, TT_68, TT_69, TT_70, TT_72, TT_81, bb, primP, primM, ev, evs, parts_, ofConst, bin, un, intBin, putA, enterT, Nat.reduceEqDiff, Nat.reduceAdd, Nat.reduceMul, Nat.reduceLeDiff, Nat.reduceLT, ↓reduceIte, reduceCtorEq, RunRes, resultsA, oneOf, AV.plain, AV.cells, AHeap.push, AHeap.set, AHeap.empty, fieldOf, loadA, storeA, BX.part, TK.isAgg, convA, builtinA, inertB, builtinP, buildA, fillA, splice, eqv, cellsEq, sizeT, adT, ldT, fwT, Nat.reduceBeqDiff, Nat.reduceBneDiff, Int.reduceBNe, Int.reduceBEq, Int.reduceEq, Int.reduceLT, Int.reduceLE, Int.reduceAdd, Int.reduceSub, Int.reduceMul, Int.reduceNeg, strBin, indexAddrA, elems, lenOf, chunk, List.reduceReplicate, Int.reduceToNat]
    have e : rowsR (xs ++ [(AV.slc (n' + 1) 6 0 rs[i].2.length, rs[i].2)]) = rowsR xs ++ [[AV.slc (n' + 1) 6 0 rs[i].2.length]] := by simp [rowsR]
    have hne2 : ∀ {es : List (List AV)}, Blk.cells 42 6 es ≠ .cells 22 1 (rowsR xs) := fun e => by cases e
    refine rl_all hrl hre hgr hA hK j (i + 1) _ (.slc (n' + 1 + 1 + 1) 1 0 ((rowsR xs).length + 1)) _ _ (xs ++ [(.slc (n' + 1) 6 0 rs[i].2.length, rs[i].2)]) (by omega) ?_ ?_ ?_ ?_ ?_ (by rw [e]; exact hown) ?_ ?_ (by omega) ?_
    · simp only [upd_app, t0, Nat.reduceEqDiff, ↓reduceIte]
    · simp only [upd_app, Nat.reduceEqDiff, ↓reduceIte]
    · simp only [upd_app, t11, Nat.reduceEqDiff, ↓reduceIte]
    · simp only [upd_app, t12, Nat.reduceEqDiff, ↓reduceIte]
    · simp only [upd_app, Nat.reduceEqDiff, ↓reduceIte]
    · intro x hx
      rcases List.mem_append.mp hx with hx | hx
      · refine (hxs x hx).keep (by omega) (fun g hg hgA => ?_)
        have hg2 : A2 g = A' g := by rw [← hA2, upd_app, if_neg (by omega), upd_app, if_neg (by omega)]
        rw [hkeep g (by omega) (.inl (by rw [hg2, hgA]; exact hne2)), hg2]
      · simp only [List.mem_singleton] at hx
        subst hx
        refine .inr ⟨n' + 1, rfl, by omega, ?_⟩
        have hg2 : A2 (n' + 1) = .cells 42 6 (rs[i].2.map encP) := by rw [← hA2]; simp only [upd_app, ↓reduceIte]
        rw [hkeep (n' + 1) (by omega) (.inl (by rw [hg2]; exact hne2)), hg2]
    · rw [List.take_succ_eq_append_getElem hi, List.map_append, List.map_append, hm]
      rfl
    · intro c hc
      rw [hkeep c (by omega) (.inr hc), ← hA2, upd_app, if_neg (by omega), upd_app, if_neg (by omega)]
      exact hk c hc
theorem Runs_call {h0 room b n : Nat} {A : Nat → Blk} {now P : List Pr} {rs : List (AV × List Pr)} {cnt : Nat} (h : SS h0 room b n A now rs cnt) (hc : Chk room P now rs) (hr : 0 < room) (hP : P.length ≤ 10000)
    (hk : ∀ r n' A' xs, OwnK n 22 1 r n' A' (rowsR xs) → (∀ x, x ∈ xs → RV n' A' x.1 x.2) → Pcs room P (xs.map (·.2)) → n ≤ n' → (∀ c, c < n → A' c = A c) → RunOps Cx fn (putA T dst r) ds ro os k ⟨n', A'⟩ Q) :
    RunCall Cx fn T ds ro 11 [.ptr b 4 0 0] dst os k ⟨n, A⟩ Q := by
  refine call_body pure11 (noext _) body11 ?_
  have h' := h
  obtain ⟨hb0, hbn, ⟨vn, vr, hat, hvn, hvr⟩, hall⟩ := h
  have hne := hc.ne hr
  have hrl : rs.length ≤ 100000 := by
    have h1 := hc.le
    have : rs.length * 1 ≤ rs.length * room := Nat.mul_le_mul_left _ hr
    omega
  have hrle : ∀ x, x ∈ rs → x.2.length ≤ 100000 := by
    intro x hx
    obtain ⟨i, hi, rfl⟩ := List.getElem_of_mem hx
    have h1 := (hc.srt i hi).len
    unfold piece at h1
    rw [List.length_take, List.length_drop] at h1
    omega
  have hnow : now.length ≤ 100000 := by
    have := hc.rst
    rw [this, List.length_drop]; omega
  have hlen := hvr.lenOf
  rw [rowsR, List.length_map] at hlen
  simp only [lenOf] at hlen
  have hlen2 := hvn.lenOf
  rw [List.length_map] at hlen2
  simp only [lenOf] at hlen2
  have hK : ∀ (T' : Nat → AV) (d : AV) (n' : Nat) (A' : Nat → Blk) (xs : List (AV × List Pr)), T' 0 = .ptr b 4 0 0 → T' 3 = d → OwnK n 22 1 d n' A' (rowsR xs) → (∀ x, x ∈ xs → RV n' A' x.1 x.2) → xs.map (·.2) = rs.map (·.2) → n ≤ n' → (∀ c, c < n → A' c = A c) →
      Run Cx 11 T' [] none [.code c11_29] ⟨n', A'⟩ (fun r H1 => RunOps Cx fn (putA T dst r) ds ro os k H1 Q) := by
    intro T' d n' A' xs t0 t3 hd hxs hm hn hkp
    have hat' : A' b = .cells 57 4 [[.int .i64 (room : Int), vn, vr, .int .i64 (cnt : Int)]] := by rw [hkp b hbn]; exact hat
    rcases hc.cut hr with ⟨h0', hcut⟩ | ⟨h0', hcut⟩
    · subst h0'
      simp only [List.length_nil, Int.cast_ofNat_Int] at hlen2
      simp only [t0, t3, hat', hlen2, i64, Int.cast_ofNat_Int, run_exit_start, exit_here, exit_code, exit_inLoop, run_inBlock, n11_0, n11_1, n11_2, n11_3, n11_4, n11_5, n11_6, n11_7, n11_8, n11_9, n11_10, n11_11, n11_12, n11_13, n11_14, n11_15, n11_16, n11_17, n11_18, n11_19, n11_20, n11_21, n11_22, n11_23, n11_24, n11_25, n11_26, n11_27, n11_28, n11_29, n11_30, n11_31, n11_32, n11_33, n11_34, n11_35, n11_36, n11_37, o11_1, o11_4, o11_7, o11_11, o11_14, o11_18, o11_26, o11_27, o11_28, o11_31, o11_33, o11_36, res11, TT_3, TT_4, TT_5, TT_9, TT_22, TT_25, TT_26, TT_29, TT_33, TT_38, TT_40, TT_42, TT_47, TT_50, TT_57, TT_59, TT_66, TT_68, TT_69, TT_70, TT_72, TT_81, bb, primP, primM, ev, evs, parts_, ofConst, bin, un, intBin, putA, enterT, Nat.reduceEqDiff, Nat.reduceAdd, Nat.reduceMul, Nat.reduceLeDiff, Nat.reduceLT, ↓reduceIte, reduceCtorEq, RunRes, resultsA, oneOf, AV.plain, AV.cells, AHeap.push, AHeap.set, AHeap.empty, fieldOf, loadA, storeA, BX.part, TK.isAgg, convA, builtinA, inertB, builtinP, buildA, fillA, splice, eqv, cellsEq, sizeT, adT, ldT, fwT, Nat.reduceBeqDiff, Nat.reduceBneDiff, Int.reduceBNe, Int.reduceBEq, Int.reduceEq, Int.reduceLT, Int.reduceLE, Int.reduceAdd, Int.reduceSub, Int.reduceMul, Int.reduceNeg, strBin, indexAddrA, elems, lenOf, chunk, List.reduceReplicate, Int.reduceToNat]
      exact hk d n' A' xs hd hxs (by rw [hm]; exact hcut) hn hkp
    · have c1 : (0 : Int) < (now.length : Int) := by
        have := List.length_pos_iff.mpr h0'
        omega
      simp only [t0, t3, hat', hlen2, c1, i64, run_exit_start, exit_here, exit_code, exit_inLoop, run_inBlock, n11_0, n11_1, n11_2, n11_3, n11_4, n11_5, n11_6, n11_7, n11_8, n11_9, n11_10, n11_11, n11_12, n11_13, n11_14, n11_15, n11_16, n11_17, n11_18, n11_19, n11_20, n11_21, n11_22, n11_23, n11_24, n11_25, n11_26, n11_27, n11_28, n11_29, n11_30, n11_31, n11_32, n11_33, n11_34, n11_35, n11_36, n11_37, o11_1, o11_4, o11_7, o11_11, o11_14, o11_18, o11_26, o11_27, o11_28, o11_31, o11_33, o11_36, res11, TT_3, TT_4, TT_5, TT_9, TT_22, TT_25, TT_26, TT_29, TT_33, TT_38, TT_40, TT_42, TT_47, TT_50, TT_57, TT_59, TT_66, TT_68, TT_69, TT_70, TT_72, TT_81, bb, primP, primM, ev, evs, parts_, ofConst, bin, un, intBin, putA, enterT, Nat.reduceEqDiff, Nat.reduceAdd, Nat.reduceMul, Nat.reduceLeDiff, Nat.reduceLT, ↓reduceIte, reduceCtorEq, RunRes, resultsA, oneOf, AV.plain, AV.cells, AHeap.push, AHeap.set, AHeap.empty, fieldOf, loadA, storeA, BX.part, TK.isAgg, convA, builtinA, inertB, builtinP, buildA, fillA, splice, eqv, cellsEq, sizeT, adT, ldT, fwT, Nat.reduceBeqDiff, Nat.reduceBneDiff, Int.reduceBNe, Int.reduceBEq, Int.reduceEq, Int.reduceLT, Int.reduceLE, Int.reduceAdd, Int.reduceSub, Int.reduceMul, Int.reduceNeg, strBin, indexAddrA, elems, lenOf, chunk, List.reduceReplicate, Int.reduceToNat]
      refine Sort_call (h0 := h0) (hvn.keep hn (fun g hg _ => hkp g hg)) (by omega) ?_
      intro m w hs hw
      have hwp := hw.plain
      have hwc := hw.cells
      simp only [AV.plain] at hwp
      simp only [AV.cells] at hwc
      have hxl : xs.length = rs.length := by
        have := congrArg List.length hm
        rwa [List.length_map, List.length_map] at this
      obtain ⟨A3, ha, hown, hkeep⟩ := hd.app1 (row := [w]) (by omega) rsl rti (by unfold most; rw [rowsR, List.length_map]; omega) (by unfold most; rw [rowsR, List.length_map]; omega)
      simp only [t0, t3, hwp, hwc, ha, runVH_some, run_exit_start, exit_here, exit_code, exit_inLoop, run_inBlock, n11_0, n11_1, n11_2, n11_3, n11_4, n11_5, n11_6, n11_7, n11_8, n11_9, n11_10, n11_11, n11_12, n11_13, n11_14, n11_15, n11_16, n11_17, n11_18, n11_19, n11_20, n11_21, n11_22, n11_23, n11_24, n11_25, n11_26, n11_27, n11_28, n11_29, n11_30, n11_31, n11_32, n11_33, n11_34, n11_35, n11_36, n11_37, o11_1, o11_4, o11_7, o11_11, o11_14, o11_18, o11_26, o11_27, o11_28, o11_31, o11_33, o11_36, res11, TT_3, TT_4, TT_5, TT_9, TT_22, TT_25, TT_26, TT_29, TT_33, TT_38, TT_40, TT_42, TT_47, TT_50, TT_57, TT_59, TT_66, TT_68, TT_69, TT_70, TT_72, TT_81, bb, primP, primM, ev, evs, parts_, ofConst, bin, un, intBin, putA, enterT, Nat.reduceEqDiff, Nat.reduceAdd, Nat.reduceMul, Nat.reduceLeDiff, Nat.reduceLT, ↓reduceIte, reduceCtorEq, RunRes, resultsA, oneOf, AV.plain, AV.cells, AHeap.push, AHeap.set, AHeap.empty, fieldOf, loadA, storeA, BX.part, TK.isAgg, convA, builtinA, inertB, builtinP, buildA, fillA, splice, eqv, cellsEq, sizeT, adT, ldT, fwT, Nat.reduceBeqDiff, Nat.reduceBneDiff, Int.reduceBNe, Int.reduceBEq, Int.reduceEq, Int.reduceLT, Int.reduceLE, Int.reduceAdd, Int.reduceSub, Int.reduceMul, Int.reduceNeg, strBin, indexAddrA, elems, lenOf, chunk, List.reduceReplicate, Int.reduceToNat]
      refine hk _ _ _ (xs ++ [(w, m)]) ?_ ?_ ?_ (by omega) ?_
      · have e : rowsR (xs ++ [(w, m)]) = rowsR xs ++ [[w]] := by simp [rowsR]
        rw [e]; exact hown
      · intro x hx
        rcases List.mem_append.mp hx with hx | hx
        · refine (hxs x hx).keep (by omega) (fun g hg hgA => hkeep g hg (.inl (by rw [hgA]; intro e; cases e)))
        · simp only [List.mem_singleton] at hx
          subst hx
          exact .inl hw
      · rw [List.map_append, hm]
        exact hcut m hs
      · intro c hc
        rw [hkeep c (by omega) (.inr hc)]
        exact hkp c hc
  rcases hvr with ⟨rfl, hrs⟩ | ⟨gr, rfl, g1, g2, g3⟩
  · have hrs' : rs = [] := by simpa [rowsR] using hrs
    subst hrs'
    simp only [hat, isNilPt, i64, Int.cast_ofNat_Int, run_exit_start, exit_here, exit_code, exit_inLoop, run_inBlock, run_inLoop, n11_0, n11_1, n11_2, n11_3, n11_4, n11_5, n11_6, n11_7, n11_8, n11_9, n11_10, n11_11, n11_12, n11_13, n11_14, n11_15, n11_16, n11_17, n11_18, n11_19, n11_20, n11_21, n11_22, n11_23, n11_24, n11_25, n11_26, n11_27, n11_28, n11_30, n11_31, n11_32, n11_33, n11_34, n11_35, n11_36, n11_37, o11_1, o11_4, o11_7, o11_11, o11_14, o11_18, o11_26, o11_27, o11_28, o11_31, o11_33, o11_36, res11, TT_3, TT_4, TT_5, TT_9, TT_22, TT_25, TT_26, TT_29, TT_33, TT_38, TT_40, TT_42, TT_47, TT_50, TT_57, TT_59, TT_66, TT_68, TT_69, TT_70, TT_72, TT_81, bb, primP, primM, ev, evs, parts_, ofConst, bin, un, intBin, putA, enterT, Nat.reduceEqDiff, Nat.reduceAdd, Nat.reduceMul, Nat.reduceLeDiff, Nat.reduceLT, ↓reduceIte, reduceCtorEq, RunRes, resultsA, oneOf, AV.plain, AV.cells, AHeap.push, AHeap.set, AHeap.empty, fieldOf, loadA, storeA, BX.part, TK.isAgg, convA, builtinA, inertB, builtinP, buildA, fillA, splice, eqv, cellsEq, sizeT, adT, ldT, fwT, Nat.reduceBeqDiff, Nat.reduceBneDiff, Int.reduceBNe, Int.reduceBEq, Int.reduceEq, Int.reduceLT, Int.reduceLE, Int.reduceAdd, Int.reduceSub, Int.reduceMul, Int.reduceNeg, strBin, indexAddrA, elems, lenOf, chunk, List.reduceReplicate, Int.reduceToNat]
    refine hK _ .nilS n A [] ?_ ?_ (.inl ⟨rfl, rfl⟩) (fun x hx => by simp at hx) rfl (Nat.le_refl _) (fun _ _ => rfl)
    all_goals simp only [upd_app, enterT, List.getElem?_cons_zero, Option.getD_some, Nat.reduceEqDiff, ↓reduceIte]
  · simp only [hat, isNilPt, i64, run_exit_start, exit_here, exit_code, exit_inLoop, run_inBlock, n11_0, n11_1, n11_2, n11_3, n11_4, n11_5, n11_6, n11_7, n11_8, n11_9, n11_10, n11_11, n11_12, n11_13, n11_14, n11_15, n11_16, n11_18, n11_19, n11_20, n11_21, n11_22, n11_23, n11_24, n11_25, n11_26, n11_27, n11_28, n11_30, n11_31, n11_32, n11_33, n11_34, n11_35, n11_36, n11_37, o11_1, o11_4, o11_7, o11_11, o11_14, o11_18, o11_26, o11_27, o11_28, o11_31, o11_33, o11_36, res11, TT_3, TT_4, TT_5, TT_9, TT_22, TT_25, TT_26, TT_29, TT_33, TT_38, TT_40, TT_42, TT_47, TT_50, TT_57, TT_59, TT_66, TT_68, TT_69, TT_70, TT_72, TT_81, bb, primP, primM, ev, evs, parts_, ofConst, bin, un, intBin, putA, enterT, Nat.reduceEqDiff, Nat.reduceAdd, Nat.reduceMul, Nat.reduceLeDiff, Nat.reduceLT, ↓reduceIte, reduceCtorEq, RunRes, resultsA, oneOf, AV.plain, AV.cells, AHeap.push, AHeap.set, AHeap.empty, fieldOf, loadA, storeA, BX.part, TK.isAgg, convA, builtinA, inertB, builtinP, buildA, fillA, splice, eqv, cellsEq, sizeT, adT, ldT, fwT, Nat.reduceBeqDiff, Nat.reduceBneDiff, Int.reduceBNe, Int.reduceBEq, Int.reduceEq, Int.reduceLT, Int.reduceLE, Int.reduceAdd, Int.reduceSub, Int.reduceMul, Int.reduceNeg, strBin, indexAddrA, elems, lenOf, chunk, List.reduceReplicate, Int.reduceToNat]
    have hrr : (rowsR rs).length = rs.length := by rw [rowsR, List.length_map]
    rw [hrr]
    refine rl_all (b := b) hrl (fun x hx => ⟨hall x hx, hne x hx, hrle x hx⟩) g2 g3 hK rs.length 0 _ .nilS n A [] (by omega) ?_ ?_ ?_ ?_ ?_ (.inl ⟨rfl, rfl⟩) (fun x hx => by simp at hx) rfl (Nat.le_refl _) (fun _ _ => rfl)
    all_goals simp only [upd_app, enterT, List.getElem?_cons_zero, Option.getD_some, Nat.reduceEqDiff, ↓reduceIte]
    all_goals rfl
theorem fl_all {h0 room b : Nat} {A0 : Nat → Blk} {l : List Pr} {Q : AV → AHeap → Prop} (hl : l.length ≤ 10000) (hr : 0 < room) (hbad : ∀ p, p ∈ l → badP p = false)
    (hK : ∀ n A now rs, SS h0 room b n A now rs l.length → Chk room l now rs → (∀ c, c < h0 → A c = A0 c) → h0 ≤ n → Q (.tuple [.ptr b 4 0 0, .bool true]) ⟨n, A⟩) :
    ∀ (j i : Nat) (T : Nat → AV) (n : Nat) (A : Nat → Blk) (now : List Pr) (rs : List (AV × List Pr)), i + j = l.length → T 0 = .vec 6 (l.map encP) → T 6 = .ptr b 4 0 0 → T 7 = .int .i64 0 → T 8 = .int .i64 (i : Int) → SS h0 room b n A now rs i → Chk room (l.take i) now rs → (∀ c, c < h0 → A c = A0 c) → h0 ≤ n →
      Run Cx 10 T [] none [.inLoop c10_9, .inBlock 0, .code c10_25] ⟨n, A⟩ Q
  | 0, i, T, n, A, now, rs, hij, t0, t6, t7, t8, hS, hC, hk, hn => by
    rw [run_inLoop]
    have c0 : ¬ (i : Int) < ((l.map encP).length : Int) := by rw [List.length_map]; omega
    rw [List.take_of_length_le (by omega)] at hC
    have e : i = l.length := by omega
    subst e
    simp only [t0, t6, t7, t8, c0, lenOf, i64, run_exit_start, exit_here, exit_code, exit_inLoop, run_inBlock, n10_0, n10_1, n10_2, n10_3, n10_4, n10_5, n10_6, n10_7, n10_8, n10_9, n10_10, n10_11, n10_12, n10_13, n10_14, n10_15, n10_16, n10_17, n10_18, n10_19, n10_20, n10_21, n10_22, n10_23, n10_24, n10_25, n10_26, n10_27, o10_1, o10_3, o10_6, o10_11, o10_18, o10_21, o10_24, o10_26, res10, TT_3, TT_4, TT_5, TT_9, TT_22, TT_25, TT_26, TT_29, TT_33, TT_38, TT_40, TT_42, TT_47, TT_50, TT_57, TT_59, TT_66, TT_68, TT_69, TT_70, TT_72, TT_81, bb, primP, primM, ev, evs, parts_, ofConst, bin, un, intBin, putA, enterT, Nat.reduceEqDiff, Nat.reduceAdd, Nat.reduceMul, Nat.reduceLeDiff, Nat.reduceLT, ↓reduceIte, reduceCtorEq, RunRes, resultsA, oneOf, AV.plain, AV.cells, AHeap.push, AHeap.set, AHeap.empty, fieldOf, loadA, storeA, BX.part, TK.isAgg, convA, builtinA, inertB, builtinP, buildA, fillA, splice, eqv, cellsEq, sizeT, adT, ldT, fwT, Nat.reduceBeqDiff, Nat.reduceBneDiff, Int.reduceBNe, Int.reduceBEq, Int.reduceEq, Int.reduceLT, Int.reduceLE, Int.reduceAdd, Int.reduceSub, Int.reduceMul, Int.reduceNeg, strBin, indexAddrA, elems, lenOf, chunk, List.reduceReplicate, Int.reduceToNat]
    exact hK n A now rs hS hC hk hn
  | j + 1, i, T, n, A, now, rs, hij, t0, t6, t7, t8, hS, hC, hk, hn => by
    rw [run_inLoop]
    have hi : i < l.length := by omega
    have c0 : (i : Int) < ((l.map encP).length : Int) := by rw [List.length_map]; omega
    have p0 : (0 : Int) ≤ (i : Int) := by omega
    have hg := enc_get (List.getElem?_eq_getElem hi)
    have w1 : IntKind.i64.wrap ((i : Int) + 1) = ((i + 1 : Nat) : Int) := by rw [wr64 (by omega) (by omega)]; omega
    have hnl : now.length ≤ 90000 := by
      have := hC.rst
      rw [this, List.length_drop, List.length_take]; omega
    have hrl : rs.length ≤ 100000 := by
      have h1 := hC.le
      have : rs.length * 1 ≤ rs.length * room := Nat.mul_le_mul_left _ hr
      rw [List.length_take] at h1
      omega
    simp only [t0, t6, t7, t8, c0, p0, hg, lenOf, i64, Int.toNat_natCast, run_exit_start, exit_here, exit_code, exit_inLoop, run_inBlock, n10_0, n10_1, n10_2, n10_3, n10_4, n10_5, n10_6, n10_7, n10_8, n10_9, n10_10, n10_11, n10_12, n10_13, n10_14, n10_15, n10_16, n10_17, n10_18, n10_19, n10_20, n10_21, n10_22, n10_23, n10_24, n10_26, n10_27, o10_1, o10_3, o10_6, o10_11, o10_18, o10_21, o10_24, o10_26, res10, TT_3, TT_4, TT_5, TT_9, TT_22, TT_25, TT_26, TT_29, TT_33, TT_38, TT_40, TT_42, TT_47, TT_50, TT_57, TT_59, TT_66, TT_68, TT_69, TT_70, TT_72, TT_81, bb, primP, primM, ev, evs, parts_, ofConst, bin, un, intBin, putA, enterT, Nat.reduceEqDiff, Nat.reduceAdd, Nat.reduceMul, Nat.reduceLeDiff, Nat.reduceLT, ↓reduceIte, reduceCtorEq, RunRes, resultsA, oneOf, AV.plain, AV.cells, AHeap.push, AHeap.set, AHeap.empty, fieldOf, loadA, storeA, BX.part, TK.isAgg, convA, builtinA, inertB, builtinP, buildA, fillA, splice, eqv, cellsEq, sizeT, adT, ldT, fwT, Nat.reduceBeqDiff, Nat.reduceBneDiff, Int.reduceBNe, Int.reduceBEq, Int.reduceEq, Int.reduceLT, Int.reduceLE, Int.reduceAdd, Int.reduceSub, Int.reduceMul, Int.reduceNeg, strBin, indexAddrA, elems, lenOf, chunk, List.reduceReplicate, Int.reduceToNat]
    refine Put_call hS (hbad _ (List.getElem_mem hi)) hnl hrl (by omega) ?_
    intro n' A' now' rs' hS' hnn hk' hcase
    have hC' : Chk room (l.take (i + 1)) now' rs' := by
      rw [List.take_succ_eq_append_getElem hi]
      rcases hcase with ⟨h1, rfl, rfl⟩ | ⟨h1, rfl, w, m, rfl, hs⟩
      · exact hC.put _ h1
      · exact hC.full _ h1 hs
    simp only [t0, t6, t7, t8, w1, run_exit_start, exit_here, exit_code, exit_inLoop, run_inBlock, n10_0, n10_1, n10_2, n10_3, n10_4, n10_5, n10_6, n10_7, n10_8, n10_9, n10_10, n10_11, n10_12, n10_13, n10_14, n10_15, n10_16, n10_17, n10_18, n10_19, n10_20, n10_21, n10_22, n10_23, n10_24, n10_26, n10_27, o10_1, o10_3, o10_6, o10_11, o10_18, o10_21, o10_24, o10_26, res10, TT_3, TT_4, TT_5, TT_9, TT_22, TT_25, TT_26, TT_29, TT_33, TT_38, TT_40, TT_42, TT_47, TT_50, TT_57, TT_59, TT_66, TT_68, TT_69, TT_70, TT_72, TT_81, bb, primP, primM, ev, evs, parts_, ofConst, bin, un, intBin, putA, enterT, Nat.reduceEqDiff, Nat.reduceAdd, Nat.reduceMul, Nat.reduceLeDiff, Nat.reduceLT, ↓reduceIte, reduceCtorEq, RunRes, resultsA, oneOf, AV.plain, AV.cells, AHeap.push, AHeap.set, AHeap.empty, fieldOf, loadA, storeA, BX.part, TK.isAgg, convA, builtinA, inertB, builtinP, buildA, fillA, splice, eqv, cellsEq, sizeT, adT, ldT, fwT, Nat.reduceBeqDiff, Nat.reduceBneDiff, Int.reduceBNe, Int.reduceBEq, Int.reduceEq, Int.reduceLT, Int.reduceLE, Int.reduceAdd, Int.reduceSub, Int.reduceMul, Int.reduceNeg, strBin, indexAddrA, elems, lenOf, chunk, List.reduceReplicate, Int.reduceToNat]
    refine fl_all hl hr hbad hK j (i + 1) _ n' A' now' rs' (by omega) ?_ ?_ ?_ ?_ hS' hC' (fun c hc => by rw [hk' c hc]; exact hk c hc) (by omega)
    all_goals simp only [upd_app, t0, t6, t7, Nat.reduceEqDiff, ↓reduceIte]
theorem filled_call {room n : Nat} {A : Nat → Blk} {v : AV} {l : List Pr} (hv : InE v l) (hl : l.length ≤ 10000) (hr : 1 ≤ room) (hr2 : room ≤ 4096) (hbad : ∀ p, p ∈ l → badP p = false)
    (hk : ∀ n' A' now rs, SS n room n n' A' now rs l.length → Chk room l now rs → (∀ c, c < n → A' c = A c) → n ≤ n' → RunOps Cx fn (putA T dst (.tuple [.ptr n 4 0 0, .bool true])) ds ro os k ⟨n', A'⟩ Q) :
    RunCall Cx fn T ds ro 10 [v, .int .i64 (room : Int)] dst os k ⟨n, A⟩ Q := by
  refine call_body pure10 (noext _) body10 ?_
  simp only [n10_0, n10_1, n10_2, n10_3, n10_4, n10_5, n10_6, n10_7, n10_8, n10_10, n10_11, n10_12, n10_13, n10_14, n10_15, n10_16, n10_17, n10_18, n10_19, n10_20, n10_21, n10_22, n10_23, n10_24, n10_26, n10_27, o10_1, o10_3, o10_6, o10_11, o10_18, o10_21, o10_24, o10_26, res10, TT_3, TT_4, TT_5, TT_9, TT_22, TT_25, TT_26, TT_29, TT_33, TT_38, TT_40, TT_42, TT_47, TT_50, TT_57, TT_59, TT_66, TT_68, TT_69, TT_70, TT_72, TT_81, bb, primP, primM, ev, evs, parts_, ofConst, bin, un, intBin, putA, enterT, Nat.reduceEqDiff, Nat.reduceAdd, Nat.reduceMul, Nat.reduceLeDiff, Nat.reduceLT, ↓reduceIte, reduceCtorEq, RunRes, resultsA, oneOf, AV.plain, AV.cells, AHeap.push, AHeap.set, AHeap.empty, fieldOf, loadA, storeA, BX.part, TK.isAgg, convA, builtinA, inertB, builtinP, buildA, fillA, splice, eqv, cellsEq, sizeT, adT, ldT, fwT, Nat.reduceBeqDiff, Nat.reduceBneDiff, Int.reduceBNe, Int.reduceBEq, Int.reduceEq, Int.reduceLT, Int.reduceLE, Int.reduceAdd, Int.reduceSub, Int.reduceMul, Int.reduceNeg, strBin, indexAddrA, elems, lenOf, chunk, List.reduceReplicate, Int.reduceToNat]
  refine New_call hr hr2 ?_
  intro A' hS hkp
  by_cases h0 : l = []
  · subst h0
    rcases hv with ⟨rfl, _⟩ | ⟨rfl, _⟩ | rfl <;>
    · simp only [i64, List.map_nil, List.length_nil, Int.cast_ofNat_Int, lenOf, run_exit_start, exit_here, exit_code, exit_inLoop, run_inBlock, run_inLoop, n10_0, n10_1, n10_2, n10_3, n10_4, n10_5, n10_6, n10_7, n10_8, n10_9, n10_10, n10_11, n10_12, n10_13, n10_14, n10_15, n10_16, n10_17, n10_18, n10_19, n10_20, n10_21, n10_22, n10_23, n10_24, n10_25, n10_26, n10_27, o10_1, o10_3, o10_6, o10_11, o10_18, o10_21, o10_24, o10_26, res10, TT_3, TT_4, TT_5, TT_9, TT_22, TT_25, TT_26, TT_29, TT_33, TT_38, TT_40, TT_42, TT_47, TT_50, TT_57, TT_59, TT_66, TT_68, TT_69, TT_70, TT_72, TT_81, bb, primP, primM, ev, evs, parts_, ofConst, bin, un, intBin, putA, enterT, Nat.reduceEqDiff, Nat.reduceAdd, Nat.reduceMul, Nat.reduceLeDiff, Nat.reduceLT, ↓reduceIte, reduceCtorEq, RunRes, resultsA, oneOf, AV.plain, AV.cells, AHeap.push, AHeap.set, AHeap.empty, fieldOf, loadA, storeA, BX.part, TK.isAgg, convA, builtinA, inertB, builtinP, buildA, fillA, splice, eqv, cellsEq, sizeT, adT, ldT, fwT, Nat.reduceBeqDiff, Nat.reduceBneDiff, Int.reduceBNe, Int.reduceBEq, Int.reduceEq, Int.reduceLT, Int.reduceLE, Int.reduceAdd, Int.reduceSub, Int.reduceMul, Int.reduceNeg, strBin, indexAddrA, elems, lenOf, chunk, List.reduceReplicate, Int.reduceToNat]
      exact hk _ _ _ _ hS (.nil hr) hkp (by omega)
  · obtain rfl := hv.vec h0
    simp only [i64, run_exit_start, exit_here, exit_code, exit_inLoop, run_inBlock, n10_0, n10_1, n10_2, n10_3, n10_4, n10_5, n10_6, n10_7, n10_8, n10_10, n10_11, n10_12, n10_13, n10_14, n10_15, n10_16, n10_17, n10_18, n10_19, n10_20, n10_21, n10_22, n10_23, n10_24, n10_26, n10_27, o10_1, o10_3, o10_6, o10_11, o10_18, o10_21, o10_24, o10_26, res10, TT_3, TT_4, TT_5, TT_9, TT_22, TT_25, TT_26, TT_29, TT_33, TT_38, TT_40, TT_42, TT_47, TT_50, TT_57, TT_59, TT_66, TT_68, TT_69, TT_70, TT_72, TT_81, bb, primP, primM, ev, evs, parts_, ofConst, bin, un, intBin, putA, enterT, Nat.reduceEqDiff, Nat.reduceAdd, Nat.reduceMul, Nat.reduceLeDiff, Nat.reduceLT, ↓reduceIte, reduceCtorEq, RunRes, resultsA, oneOf, AV.plain, AV.cells, AHeap.push, AHeap.set, AHeap.empty, fieldOf, loadA, storeA, BX.part, TK.isAgg, convA, builtinA, inertB, builtinP, buildA, fillA, splice, eqv, cellsEq, sizeT, adT, ldT, fwT, Nat.reduceBeqDiff, Nat.reduceBneDiff, Int.reduceBNe, Int.reduceBEq, Int.reduceEq, Int.reduceLT, Int.reduceLE, Int.reduceAdd, Int.reduceSub, Int.reduceMul, Int.reduceNeg, strBin, indexAddrA, elems, lenOf, chunk, List.reduceReplicate, Int.reduceToNat]
    refine fl_all (h0 := n) (A0 := A) (b := n) hl hr hbad ?_ l.length 0 _ (n + 1) A' [] [] (by omega) ?_ ?_ ?_ ?_ hS (by rw [List.take_zero]; exact .nil hr) hkp (by omega)
    · intro n' A2 now rs h1 h2 h3 h4
      exact hk n' A2 now rs h1 h2 h3 h4
    all_goals simp only [upd_app, enterT, List.getElem?_cons_zero, Option.getD_some, Nat.reduceEqDiff, ↓reduceIte]
    all_goals rfl
end
end Go.Proofs.Ytbfjkomlnpolmaa.G

namespace Go.Proofs.Ytbfjkomlnpolmaa.G
open Go.BX
set_option linter.unusedSimpArgs false
set_option linter.unusedVariables false
theorem awake12_ok : PCall Cx 7 [] (.bool true) := ⟨3000, by kernel_rfl⟩
theorem pure_awake12 : Cx.pure 7 = true := by kernel_rfl
theorem Pcs.len {room : Nat} {P : List Pr} {ms : List (List Pr)} (h : Pcs room P ms) {i : Nat} (hi : i < ms.length) : (ms[i]).length = min room (P.length - i * room) := by
  rw [(h.srt i hi).len]
  unfold piece
  rw [List.length_take, List.length_drop]
theorem Pcs.mul {room : Nat} {P : List Pr} {ms : List (List Pr)} (h : Pcs room P ms) {i : Nat} (hi : i < ms.length) : i * room < P.length ∧ (i + 1 < ms.length → (i + 1) * room ≤ P.length) := by
  rcases h.lst with h1 | h1
  · omega
  · have h2 : i * room ≤ (ms.length - 1) * room := Nat.mul_le_mul_right _ (by omega)
    refine ⟨by omega, fun h3 => ?_⟩
    have h4 : (i + 1) * room ≤ (ms.length - 1) * room := Nat.mul_le_mul_right _ (by omega)
    omega
theorem Ordered_call {n : Nat} {A : Nat → Blk} {v : AV} {l : List Pr} (h : RV n A v l) (hs : l.Pairwise fun p q => ltP q p = false) (hl : l.length ≤ 1000000) {fn : FuncId} {T : Nat → AV} {ds : List ADef} {ro : Option Nat} {k : List AItem} {Q : AV → AHeap → Prop} {dst : Option Nat} {os : List AO} :
    RunCall Cx fn T ds ro 12 [v] dst os k ⟨n, A⟩ Q = RunOps Cx fn (putA T dst (.bool true)) ds ro os k ⟨n, A⟩ Q := by
  obtain ⟨w, hw, hf⟩ := h.freeze
  obtain ⟨b, hb, hb'⟩ := Ordered_ok hw hl
  obtain rfl : b = true := hb'.mpr hs
  exact call_any pure12 rfl hb (by rw [mapO_cons, hf, mapO_nil]; rfl)
theorem sr_all {h0 room b n0 n gr : Nat} {A0 A : Nat → Blk} {now : List Pr} {rs xs : List (AV × List Pr)} {l : List Pr} {v : AV} {Q : AV → AHeap → Prop} (hl : l.length ≤ 100) (hv : InE v l) (hroom : 0 < room) (hroom2 : room ≤ 4096) (hQ : ∀ n A, Q (.bool true) ⟨n, A⟩)
    (hS : SS h0 room b n A now rs l.length) (hP : Pcs room l (xs.map (·.2))) (hxs : ∀ x, x ∈ xs → RV n A x.1 x.2) (hgr : A gr = .cells 22 1 (rowsR xs)) :
    ∀ (j i : Nat) (T : Nat → AV), i + j = xs.length → T 0 = v → T 5 = .int .i64 (room : Int) → T 6 = .ptr b 4 0 0 → T 8 = .slc gr 1 0 xs.length → T 9 = .int .i64 ((min (i * room) l.length : Nat) : Int) → T 10 = .int .i64 (i : Int) →
      Run Cx 3 T [] none [.inLoop c3_31, .inBlock 0, .code c3_49] ⟨n, A⟩ Q
  | 0, i, T, hij, t0, t5, t6, t8, t9, t10 => by
    rw [run_inLoop]
    have c0 : ¬ (i : Int) < (xs.length : Int) := by omega
    have hf := hP.full
    rw [List.length_map] at hf
    obtain rfl : i = xs.length := by omega
    rw [Nat.min_eq_right hf] at t9
    have hlen := hv.len
    simp only [lenOf] at hlen
    have e1 : ((l.length : Int) == (l.length : Int)) = true := by simp
    simp only [t0, t5, t6, t8, t9, t10, c0, hlen, e1, lenOf, i64, run_exit_start, exit_here, exit_code, exit_inLoop, run_inBlock, n3_0, n3_1, n3_2, n3_3, n3_4, n3_5, n3_6, n3_7, n3_8, n3_9, n3_10, n3_11, n3_12, n3_13, n3_14, n3_15, n3_16, n3_17, n3_18, n3_19, n3_20, n3_21, n3_22, n3_23, n3_24, n3_25, n3_26, n3_27, n3_28, n3_29, n3_30, n3_31, n3_32, n3_33, n3_34, n3_35, n3_36, n3_37, n3_38, n3_39, n3_40, n3_41, n3_42, n3_43, n3_44, n3_45, n3_46, n3_47, n3_48, n3_49, n3_50, n3_51, o3_1, o3_4, o3_7, o3_11, o3_13, o3_16, o3_19, o3_23, o3_25, o3_28, o3_33, o3_41, o3_44, o3_47, o3_48, o3_50, res3, TT_3, TT_4, TT_5, TT_9, TT_22, TT_25, TT_26, TT_29, TT_33, TT_38, TT_40, TT_42, TT_47, TT_50, TT_57, TT_59, TT_66, TT_68, TT_69, TT_70, TT_72, TT_81, bb, primP, primM, ev, evs, parts_, ofConst, bin, un, intBin, putA, enterT, Nat.reduceEqDiff, Nat.reduceAdd, Nat.reduceMul, Nat.reduceLeDiff, Nat.reduceLT, ↓reduceIte, reduceCtorEq, RunRes, resultsA, oneOf, AV.plain, AV.cells, AHeap.push, AHeap.set, AHeap.empty, fieldOf, loadA, storeA, BX.part, TK.isAgg, convA, builtinA, inertB, builtinP, buildA, fillA, splice, eqv, cellsEq, sizeT, adT, ldT, fwT, Nat.reduceBeqDiff, Nat.reduceBneDiff, Int.reduceBNe, Int.reduceBEq, Int.reduceEq, Int.reduceLT, Int.reduceLE, Int.reduceAdd, Int.reduceSub, Int.reduceMul, Int.reduceNeg, strBin, indexAddrA, elems, lenOf, chunk, List.reduceReplicate, Int.reduceToNat]
    refine Count_call hS ?_
    simp only [t0, t5, t6, t8, t9, t10, c0, hlen, e1, lenOf, i64, run_exit_start, exit_here, exit_code, exit_inLoop, run_inBlock, n3_0, n3_1, n3_2, n3_3, n3_4, n3_5, n3_6, n3_7, n3_8, n3_9, n3_10, n3_11, n3_12, n3_13, n3_14, n3_15, n3_16, n3_17, n3_18, n3_19, n3_20, n3_21, n3_22, n3_23, n3_24, n3_25, n3_26, n3_27, n3_28, n3_29, n3_30, n3_31, n3_32, n3_33, n3_34, n3_35, n3_36, n3_37, n3_38, n3_39, n3_40, n3_41, n3_42, n3_43, n3_44, n3_45, n3_46, n3_47, n3_48, n3_49, n3_50, n3_51, o3_1, o3_4, o3_7, o3_11, o3_13, o3_16, o3_19, o3_23, o3_25, o3_28, o3_33, o3_41, o3_44, o3_47, o3_48, o3_50, res3, TT_3, TT_4, TT_5, TT_9, TT_22, TT_25, TT_26, TT_29, TT_33, TT_38, TT_40, TT_42, TT_47, TT_50, TT_57, TT_59, TT_66, TT_68, TT_69, TT_70, TT_72, TT_81, bb, primP, primM, ev, evs, parts_, ofConst, bin, un, intBin, putA, enterT, Nat.reduceEqDiff, Nat.reduceAdd, Nat.reduceMul, Nat.reduceLeDiff, Nat.reduceLT, ↓reduceIte, reduceCtorEq, RunRes, resultsA, oneOf, AV.plain, AV.cells, AHeap.push, AHeap.set, AHeap.empty, fieldOf, loadA, storeA, BX.part, TK.isAgg, convA, builtinA, inertB, builtinP, buildA, fillA, splice, eqv, cellsEq, sizeT, adT, ldT, fwT, Nat.reduceBeqDiff, Nat.reduceBneDiff, Int.reduceBNe, Int.reduceBEq, Int.reduceEq, Int.reduceLT, Int.reduceLE, Int.reduceAdd, Int.reduceSub, Int.reduceMul, Int.reduceNeg, strBin, indexAddrA, elems, lenOf, chunk, List.reduceReplicate, Int.reduceToNat]
    exact hQ _ _
  | j + 1, i, T, hij, t0, t5, t6, t8, t9, t10 => by
    rw [run_inLoop]
    have hi : i < xs.length := by omega
    have hi' : i < (xs.map (·.2)).length := by rw [List.length_map]; exact hi
    have c0 : (i : Int) < (xs.length : Int) := by omega
    have p0 : (0 : Int) ≤ (i : Int) := by omega
    have hxle : xs.length ≤ 100 := by
      rcases hP.lst with h | h
      · rw [List.length_map] at h; omega
      · rw [List.length_map] at h
        have : (xs.length - 1) * 1 ≤ (xs.length - 1) * room := Nat.mul_le_mul_left _ hroom
        omega
    have w1 : IntKind.i64.wrap ((i : Int) + 1) = ((i + 1 : Nat) : Int) := by rw [wr64 (by omega) (by omega)]; omega
    have hr := hxs _ (List.getElem_mem hi)
    have hlen := hr.lenOf
    simp only [lenOf] at hlen
    have hL := hP.len hi'
    have hM := hP.mul hi'
    have hso := (hP.srt i hi').ord
    rw [List.getElem_map] at hL hso
    rw [List.length_map] at hM
    obtain ⟨hM1, hM2⟩ := hM
    have hs1 : (i + 1) * room = i * room + room := Nat.succ_mul i room
    have hfull := hP.full
    rw [List.length_map] at hfull
    have hat : A gr = .cells 22 1 (xs.map fun x => [x.1]) := hgr
    have hg := rows_at hi
    have hrc : ∀ {T : Nat → AV} {dst : Option Nat} {os : List AO} {k : List AItem}, RunCall Cx 3 T [] none 12 [(xs[i]).1] dst os k ⟨n, A⟩ Q = RunOps Cx 3 (putA T dst (.bool true)) [] none os k ⟨n, A⟩ Q := Ordered_call hr hso (by omega)
    have c1 : (((xs[i]).2.length : Int) == 0) = false := by rw [beq_eq_false_iff_ne]; omega
    have c2 : ¬ (room : Int) < ((xs[i]).2.length : Int) := by omega
    have w2 : IntKind.i64.wrap ((xs.length : Int) - 1) = (xs.length : Int) - 1 := wr64 (by omega) (by omega)
    have w3 : IntKind.i64.wrap (((min (i * room) l.length : Nat) : Int) + ((xs[i]).2.length : Int)) = ((min ((i + 1) * room) l.length : Nat) : Int) := by
      rw [wr64 (by omega) (by omega)]; omega
    by_cases c3 : (i : Int) < (xs.length : Int) - 1
    · have c4 : (((xs[i]).2.length : Int) != (room : Int)) = false := by
        have := hM2 (by omega)
        rw [bne_eq_false_iff_eq]
        omega
      simp only [t0, t5, t6, t8, t9, t10, c0, p0, hat, hg, hrc, hlen, c1, c2, c3, c4, w1, w2, w3, lenOf, i64, Int.toNat_natCast, run_exit_start, exit_here, exit_code, exit_inLoop, run_inBlock, n3_0, n3_1, n3_2, n3_3, n3_4, n3_5, n3_6, n3_7, n3_8, n3_9, n3_10, n3_11, n3_12, n3_13, n3_14, n3_15, n3_16, n3_17, n3_18, n3_19, n3_20, n3_21, n3_22, n3_23, n3_24, n3_25, n3_26, n3_27, n3_28, n3_29, n3_30, n3_31, n3_32, n3_33, n3_34, n3_35, n3_36, n3_37, n3_38, n3_39, n3_40, n3_41, n3_42, n3_43, n3_44, n3_45, n3_46, n3_47, n3_48, n3_50, n3_51, o3_1, o3_4, o3_7, o3_11, o3_13, o3_16, o3_19, o3_23, o3_25, o3_28, o3_33, o3_41, o3_44, o3_47, o3_48, o3_50, res3, TT_3, TT_4, TT_5, TT_9, TT_22, TT_25, TT_26, TT_29, TT_33, TT_38, TT_40, TT_42, TT_47, TT_50, TT_57, TT_59, TT_66, TT_68, TT_69, TT_70, TT_72, TT_81, bb, primP, primM, ev, evs, parts_, ofConst, bin, un, intBin, putA, enterT, Nat.reduceEqDiff, Nat.reduceAdd, Nat.reduceMul, Nat.reduceLeDiff, Nat.reduceLT, ↓reduceIte, reduceCtorEq, RunRes, resultsA, oneOf, AV.plain, AV.cells, AHeap.push, AHeap.set, AHeap.empty, fieldOf, loadA, storeA, BX.part, TK.isAgg, convA, builtinA, inertB, builtinP, buildA, fillA, splice, eqv, cellsEq, sizeT, adT, ldT, fwT, Nat.reduceBeqDiff, Nat.reduceBneDiff, Int.reduceBNe, Int.reduceBEq, Int.reduceEq, Int.reduceLT, Int.reduceLE, Int.reduceAdd, Int.reduceSub, Int.reduceMul, Int.reduceNeg, strBin, indexAddrA, elems, lenOf, chunk, List.reduceReplicate, Int.reduceToNat]
      refine sr_all (A0 := A0) (n0 := n0) hl hv hroom hroom2 hQ hS hP hxs hgr j (i + 1) _ (by omega) ?_ ?_ ?_ ?_ ?_ ?_
      all_goals simp only [upd_app, t0, t5, t6, t8, t9, Nat.reduceEqDiff, ↓reduceIte]
    · simp only [t0, t5, t6, t8, t9, t10, c0, p0, hat, hg, hrc, hlen, c1, c2, c3, w1, w2, w3, lenOf, i64, Int.toNat_natCast, run_exit_start, exit_here, exit_code, exit_inLoop, run_inBlock, n3_0, n3_1, n3_2, n3_3, n3_4, n3_5, n3_6, n3_7, n3_8, n3_9, n3_10, n3_11, n3_12, n3_13, n3_14, n3_15, n3_16, n3_17, n3_18, n3_19, n3_20, n3_21, n3_22, n3_23, n3_24, n3_25, n3_26, n3_27, n3_28, n3_29, n3_30, n3_31, n3_32, n3_33, n3_34, n3_35, n3_36, n3_37, n3_38, n3_39, n3_40, n3_41, n3_42, n3_43, n3_44, n3_45, n3_46, n3_47, n3_48, n3_50, n3_51, o3_1, o3_4, o3_7, o3_11, o3_13, o3_16, o3_19, o3_23, o3_25, o3_28, o3_33, o3_41, o3_44, o3_47, o3_48, o3_50, res3, TT_3, TT_4, TT_5, TT_9, TT_22, TT_25, TT_26, TT_29, TT_33, TT_38, TT_40, TT_42, TT_47, TT_50, TT_57, TT_59, TT_66, TT_68, TT_69, TT_70, TT_72, TT_81, bb, primP, primM, ev, evs, parts_, ofConst, bin, un, intBin, putA, enterT, Nat.reduceEqDiff, Nat.reduceAdd, Nat.reduceMul, Nat.reduceLeDiff, Nat.reduceLT, ↓reduceIte, reduceCtorEq, RunRes, resultsA, oneOf, AV.plain, AV.cells, AHeap.push, AHeap.set, AHeap.empty, fieldOf, loadA, storeA, BX.part, TK.isAgg, convA, builtinA, inertB, builtinP, buildA, fillA, splice, eqv, cellsEq, sizeT, adT, ldT, fwT, Nat.reduceBeqDiff, Nat.reduceBneDiff, Int.reduceBNe, Int.reduceBEq, Int.reduceEq, Int.reduceLT, Int.reduceLE, Int.reduceAdd, Int.reduceSub, Int.reduceMul, Int.reduceNeg, strBin, indexAddrA, elems, lenOf, chunk, List.reduceReplicate, Int.reduceToNat]
      refine sr_all (A0 := A0) (n0 := n0) hl hv hroom hroom2 hQ hS hP hxs hgr j (i + 1) _ (by omega) ?_ ?_ ?_ ?_ ?_ ?_
      all_goals simp only [upd_app, t0, t5, t6, t8, t9, Nat.reduceEqDiff, ↓reduceIte]
theorem SorterRuns_ok {v : AV} {l : List Pr} {r : Int} (hv : InL v l) (hl : l.length ≤ maxLen) (hr0 : 0 ≤ r) (hr1 : r ≤ 255) : PCall Cx 3 [v, .int .u8 r] (.bool true) := by
  refine pcall_run (noext _) body3 ?_
  obtain ⟨s, hs, hsm⟩ := Small_ok hv hl
  have f0 : [v].all AV.flat = true := by simp [hv.e.flat]
  rcases hs with rfl | ⟨rfl, hl100⟩
  · simp only [call_pure pure_awake12 rfl awake12_ok, call_pure pure8 f0 hsm, n3_0, n3_1, n3_2, n3_3, n3_4, n3_5, n3_6, n3_7, n3_8, n3_9, n3_10, n3_11, n3_12, n3_13, n3_14, n3_15, n3_16, n3_17, n3_18, n3_19, n3_20, n3_21, n3_22, n3_23, n3_24, n3_25, n3_26, n3_27, n3_28, n3_29, n3_30, n3_31, n3_32, n3_33, n3_34, n3_35, n3_36, n3_37, n3_38, n3_39, n3_40, n3_41, n3_42, n3_43, n3_44, n3_45, n3_46, n3_47, n3_48, n3_49, n3_50, n3_51, o3_1, o3_4, o3_7, o3_11, o3_13, o3_16, o3_19, o3_23, o3_25, o3_28, o3_33, o3_41, o3_44, o3_47, o3_48, o3_50, res3, TT_3, TT_4, TT_5, TT_9, TT_22, TT_25, TT_26, TT_29, TT_33, TT_38, TT_40, TT_42, TT_47, TT_50, TT_57, TT_59, TT_66, TT_68, TT_69, TT_70, TT_72, TT_81, bb, primP, primM, ev, evs, parts_, ofConst, bin, un, intBin, putA, enterT, Nat.reduceEqDiff, Nat.reduceAdd, Nat.reduceMul, Nat.reduceLeDiff, Nat.reduceLT, ↓reduceIte, reduceCtorEq, RunRes, resultsA, oneOf, AV.plain, AV.cells, AHeap.push, AHeap.set, AHeap.empty, fieldOf, loadA, storeA, BX.part, TK.isAgg, convA, builtinA, inertB, builtinP, buildA, fillA, splice, eqv, cellsEq, sizeT, adT, ldT, fwT, Nat.reduceBeqDiff, Nat.reduceBneDiff, Int.reduceBNe, Int.reduceBEq, Int.reduceEq, Int.reduceLT, Int.reduceLE, Int.reduceAdd, Int.reduceSub, Int.reduceMul, Int.reduceNeg, strBin, indexAddrA, elems, lenOf, chunk, List.reduceReplicate, Int.reduceToNat]
  · have hR := pRight_ok hv (show l.length ≤ 100000 by omega)
    cases hrl : rightL l with
    | false =>
      rw [hrl] at hR
      simp only [call_pure pure_awake12 rfl awake12_ok, call_pure pure8 f0 hsm, call_pure pure9 f0 hR, n3_0, n3_1, n3_2, n3_3, n3_4, n3_5, n3_6, n3_7, n3_8, n3_9, n3_10, n3_11, n3_12, n3_13, n3_14, n3_15, n3_16, n3_17, n3_18, n3_19, n3_20, n3_21, n3_22, n3_23, n3_24, n3_25, n3_26, n3_27, n3_28, n3_29, n3_30, n3_31, n3_32, n3_33, n3_34, n3_35, n3_36, n3_37, n3_38, n3_39, n3_40, n3_41, n3_42, n3_43, n3_44, n3_45, n3_46, n3_47, n3_48, n3_49, n3_50, n3_51, o3_1, o3_4, o3_7, o3_11, o3_13, o3_16, o3_19, o3_23, o3_25, o3_28, o3_33, o3_41, o3_44, o3_47, o3_48, o3_50, res3, TT_3, TT_4, TT_5, TT_9, TT_22, TT_25, TT_26, TT_29, TT_33, TT_38, TT_40, TT_42, TT_47, TT_50, TT_57, TT_59, TT_66, TT_68, TT_69, TT_70, TT_72, TT_81, bb, primP, primM, ev, evs, parts_, ofConst, bin, un, intBin, putA, enterT, Nat.reduceEqDiff, Nat.reduceAdd, Nat.reduceMul, Nat.reduceLeDiff, Nat.reduceLT, ↓reduceIte, reduceCtorEq, RunRes, resultsA, oneOf, AV.plain, AV.cells, AHeap.push, AHeap.set, AHeap.empty, fieldOf, loadA, storeA, BX.part, TK.isAgg, convA, builtinA, inertB, builtinP, buildA, fillA, splice, eqv, cellsEq, sizeT, adT, ldT, fwT, Nat.reduceBeqDiff, Nat.reduceBneDiff, Int.reduceBNe, Int.reduceBEq, Int.reduceEq, Int.reduceLT, Int.reduceLE, Int.reduceAdd, Int.reduceSub, Int.reduceMul, Int.reduceNeg, strBin, indexAddrA, elems, lenOf, chunk, List.reduceReplicate, Int.reduceToNat]
    | true =>
      rw [hrl] at hR
      obtain ⟨room, hroom⟩ : ∃ room : Nat, (room : Int) = 1 + r := ⟨(1 + r).toNat, by omega⟩
      have w1 : IntKind.i64.wrap (1 + IntKind.i64.wrap r) = (room : Int) := by rw [wr64 (n := r) (by omega) (by omega), wr64 (by omega) (by omega)]; omega
      simp only [w1, call_pure pure_awake12 rfl awake12_ok, call_pure pure8 f0 hsm, call_pure pure9 f0 hR, n3_0, n3_1, n3_2, n3_3, n3_4, n3_5, n3_6, n3_7, n3_8, n3_9, n3_10, n3_11, n3_12, n3_13, n3_15, n3_16, n3_17, n3_18, n3_19, n3_20, n3_21, n3_22, n3_23, n3_24, n3_25, n3_26, n3_27, n3_28, n3_29, n3_30, n3_31, n3_32, n3_33, n3_34, n3_35, n3_36, n3_37, n3_38, n3_39, n3_40, n3_41, n3_42, n3_43, n3_44, n3_45, n3_46, n3_47, n3_48, n3_49, n3_50, n3_51, o3_1, o3_4, o3_7, o3_11, o3_13, o3_16, o3_19, o3_23, o3_25, o3_28, o3_33, o3_41, o3_44, o3_47, o3_48, o3_50, res3, TT_3, TT_4, TT_5, TT_9, TT_22, TT_25, TT_26, TT_29, TT_33, TT_38, TT_40, TT_42, TT_47, TT_50, TT_57, TT_59, TT_66, TT_68, TT_69, TT_70, TT_72, TT_81, bb, primP, primM, ev, evs, parts_, ofConst, bin, un, intBin, putA, enterT, Nat.reduceEqDiff, Nat.reduceAdd, Nat.reduceMul, Nat.reduceLeDiff, Nat.reduceLT, ↓reduceIte, reduceCtorEq, RunRes, resultsA, oneOf, AV.plain, AV.cells, AHeap.push, AHeap.set, AHeap.empty, fieldOf, loadA, storeA, BX.part, TK.isAgg, convA, builtinA, inertB, builtinP, buildA, fillA, splice, eqv, cellsEq, sizeT, adT, ldT, fwT, Nat.reduceBeqDiff, Nat.reduceBneDiff, Int.reduceBNe, Int.reduceBEq, Int.reduceEq, Int.reduceLT, Int.reduceLE, Int.reduceAdd, Int.reduceSub, Int.reduceMul, Int.reduceNeg, strBin, indexAddrA, elems, lenOf, chunk, List.reduceReplicate, Int.reduceToNat]
      refine filled_call hv.e (by omega) (by omega) (by omega) ((rightL_iff l).mp hrl) ?_
      intro n1 A1 now rs hS hC hk1 hn1
      simp only [n3_0, n3_1, n3_2, n3_3, n3_4, n3_5, n3_6, n3_7, n3_8, n3_9, n3_10, n3_11, n3_12, n3_13, n3_14, n3_15, n3_16, n3_17, n3_18, n3_19, n3_20, n3_21, n3_22, n3_23, n3_25, n3_26, n3_27, n3_28, n3_29, n3_30, n3_31, n3_32, n3_33, n3_34, n3_35, n3_36, n3_37, n3_38, n3_39, n3_40, n3_41, n3_42, n3_43, n3_44, n3_45, n3_46, n3_47, n3_48, n3_49, n3_50, n3_51, o3_1, o3_4, o3_7, o3_11, o3_13, o3_16, o3_19, o3_23, o3_25, o3_28, o3_33, o3_41, o3_44, o3_47, o3_48, o3_50, res3, TT_3, TT_4, TT_5, TT_9, TT_22, TT_25, TT_26, TT_29, TT_33, TT_38, TT_40, TT_42, TT_47, TT_50, TT_57, TT_59, TT_66, TT_68, TT_69, TT_70, TT_72, TT_81, bb, primP, primM, ev, evs, parts_, ofConst, bin, un, intBin, putA, enterT, Nat.reduceEqDiff, Nat.reduceAdd, Nat.reduceMul, Nat.reduceLeDiff, Nat.reduceLT, ↓reduceIte, reduceCtorEq, RunRes, resultsA, oneOf, AV.plain, AV.cells, AHeap.push, AHeap.set, AHeap.empty, fieldOf, loadA, storeA, BX.part, TK.isAgg, convA, builtinA, inertB, builtinP, buildA, fillA, splice, eqv, cellsEq, sizeT, adT, ldT, fwT, Nat.reduceBeqDiff, Nat.reduceBneDiff, Int.reduceBNe, Int.reduceBEq, Int.reduceEq, Int.reduceLT, Int.reduceLE, Int.reduceAdd, Int.reduceSub, Int.reduceMul, Int.reduceNeg, strBin, indexAddrA, elems, lenOf, chunk, List.reduceReplicate, Int.reduceToNat]
      refine Runs_call hS hC (by omega) (by omega) ?_
      intro rv n2 A2 xs hown hxs hP hn2 hk2
      have hS2 := hS.keep hn2 (fun g _ hg => hk2 g hg)
      simp only [n3_0, n3_1, n3_2, n3_3, n3_4, n3_5, n3_6, n3_7, n3_8, n3_9, n3_10, n3_11, n3_12, n3_13, n3_14, n3_15, n3_16, n3_17, n3_18, n3_19, n3_20, n3_21, n3_22, n3_23, n3_24, n3_25, n3_26, n3_27, n3_28, n3_29, n3_30, n3_32, n3_33, n3_34, n3_35, n3_36, n3_37, n3_38, n3_39, n3_40, n3_41, n3_42, n3_43, n3_44, n3_45, n3_46, n3_47, n3_48, n3_50, n3_51, o3_1, o3_4, o3_7, o3_11, o3_13, o3_16, o3_19, o3_23, o3_25, o3_28, o3_33, o3_41, o3_44, o3_47, o3_48, o3_50, res3, TT_3, TT_4, TT_5, TT_9, TT_22, TT_25, TT_26, TT_29, TT_33, TT_38, TT_40, TT_42, TT_47, TT_50, TT_57, TT_59, TT_66, TT_68, TT_69, TT_70, TT_72, TT_81, bb, primP, primM, ev, evs, parts_, ofConst, bin, un, intBin, putA, enterT, Nat.reduceEqDiff, Nat.reduceAdd, Nat.reduceMul, Nat.reduceLeDiff, Nat.reduceLT, ↓reduceIte, reduceCtorEq, RunRes, resultsA, oneOf, AV.plain, AV.cells, AHeap.push, AHeap.set, AHeap.empty, fieldOf, loadA, storeA, BX.part, TK.isAgg, convA, builtinA, inertB, builtinP, buildA, fillA, splice, eqv, cellsEq, sizeT, adT, ldT, fwT, Nat.reduceBeqDiff, Nat.reduceBneDiff, Int.reduceBNe, Int.reduceBEq, Int.reduceEq, Int.reduceLT, Int.reduceLE, Int.reduceAdd, Int.reduceSub, Int.reduceMul, Int.reduceNeg, strBin, indexAddrA, elems, lenOf, chunk, List.reduceReplicate, Int.reduceToNat]
      rcases hown with ⟨rfl, hx0⟩ | ⟨gr, rfl, g1, g2, g3⟩
      · have hx : xs = [] := by simpa [rowsR] using hx0
        subst hx
        have hl0 := hP.full
        simp only [List.map_nil, List.length_nil, Nat.zero_mul, Nat.le_zero_eq] at hl0
        have hlen := hv.e.len
        rw [hl0] at hlen hS2
        simp only [lenOf] at hlen
        simp only [hlen, i64, run_exit_start, exit_here, exit_code, exit_inLoop, run_inBlock, run_inLoop, n3_0, n3_1, n3_2, n3_3, n3_4, n3_5, n3_6, n3_7, n3_8, n3_9, n3_10, n3_11, n3_12, n3_13, n3_14, n3_15, n3_16, n3_17, n3_18, n3_19, n3_20, n3_21, n3_22, n3_23, n3_24, n3_25, n3_26, n3_27, n3_28, n3_29, n3_30, n3_31, n3_32, n3_33, n3_34, n3_35, n3_36, n3_37, n3_38, n3_39, n3_40, n3_41, n3_42, n3_43, n3_44, n3_45, n3_46, n3_47, n3_48, n3_49, n3_50, n3_51, o3_1, o3_4, o3_7, o3_11, o3_13, o3_16, o3_19, o3_23, o3_25, o3_28, o3_33, o3_41, o3_44, o3_47, o3_48, o3_50, res3, TT_3, TT_4, TT_5, TT_9, TT_22, TT_25, TT_26, TT_29, TT_33, TT_38, TT_40, TT_42, TT_47, TT_50, TT_57, TT_59, TT_66, TT_68, TT_69, TT_70, TT_72, TT_81, bb, primP, primM, ev, evs, parts_, ofConst, bin, un, intBin, putA, enterT, Nat.reduceEqDiff, Nat.reduceAdd, Nat.reduceMul, Nat.reduceLeDiff, Nat.reduceLT, ↓reduceIte, reduceCtorEq, RunRes, resultsA, oneOf, AV.plain, AV.cells, AHeap.push, AHeap.set, AHeap.empty, fieldOf, loadA, storeA, BX.part, TK.isAgg, convA, builtinA, inertB, builtinP, buildA, fillA, splice, eqv, cellsEq, sizeT, adT, ldT, fwT, Nat.reduceBeqDiff, Nat.reduceBneDiff, Int.reduceBNe, Int.reduceBEq, Int.reduceEq, Int.reduceLT, Int.reduceLE, Int.reduceAdd, Int.reduceSub, Int.reduceMul, Int.reduceNeg, strBin, indexAddrA, elems, lenOf, chunk, List.reduceReplicate, Int.reduceToNat]
        refine Count_call hS2 ?_
        simp only [n3_0, n3_1, n3_2, n3_3, n3_4, n3_5, n3_6, n3_7, n3_8, n3_9, n3_10, n3_11, n3_12, n3_13, n3_14, n3_15, n3_16, n3_17, n3_18, n3_19, n3_20, n3_21, n3_22, n3_23, n3_24, n3_25, n3_26, n3_27, n3_28, n3_29, n3_30, n3_31, n3_32, n3_33, n3_34, n3_35, n3_36, n3_37, n3_38, n3_39, n3_40, n3_41, n3_42, n3_43, n3_44, n3_45, n3_46, n3_47, n3_48, n3_49, n3_50, n3_51, o3_1, o3_4, o3_7, o3_11, o3_13, o3_16, o3_19, o3_23, o3_25, o3_28, o3_33, o3_41, o3_44, o3_47, o3_48, o3_50, res3, TT_3, TT_4, TT_5, TT_9, TT_22, TT_25, TT_26, TT_29, TT_33, TT_38, TT_40, TT_42, TT_47, TT_50, TT_57, TT_59, TT_66, TT_68, TT_69, TT_70, TT_72, TT_81, bb, primP, primM, ev, evs, parts_, ofConst, bin, un, intBin, putA, enterT, Nat.reduceEqDiff, Nat.reduceAdd, Nat.reduceMul, Nat.reduceLeDiff, Nat.reduceLT, ↓reduceIte, reduceCtorEq, RunRes, resultsA, oneOf, AV.plain, AV.cells, AHeap.push, AHeap.set, AHeap.empty, fieldOf, loadA, storeA, BX.part, TK.isAgg, convA, builtinA, inertB, builtinP, buildA, fillA, splice, eqv, cellsEq, sizeT, adT, ldT, fwT, Nat.reduceBeqDiff, Nat.reduceBneDiff, Int.reduceBNe, Int.reduceBEq, Int.reduceEq, Int.reduceLT, Int.reduceLE, Int.reduceAdd, Int.reduceSub, Int.reduceMul, Int.reduceNeg, strBin, indexAddrA, elems, lenOf, chunk, List.reduceReplicate, Int.reduceToNat]
      · have hrr : (rowsR xs).length = xs.length := by rw [rowsR, List.length_map]
        rw [hrr]
        refine sr_all (A0 := A2) (n0 := 0) hl100 hv.e (by omega) (by omega) (fun _ _ => rfl) hS2 hP hxs g3 xs.length 0 _ (by omega) ?_ ?_ ?_ ?_ ?_ ?_
        all_goals simp only [upd_app, enterT, List.getElem?_cons_zero, Option.getD_some, Nat.reduceEqDiff, ↓reduceIte]
        all_goals first | rfl | (congr 2; omega) | simp
end Go.Proofs.Ytbfjkomlnpolmaa.G

namespace Go.Proofs.Ytbfjkomlnpolmaa.G
open Go.BX
set_option linter.unusedSimpArgs false
set_option linter.unusedVariables false
section
variable {α : Type} {lt : α → α → Bool}
structure Ord (lt : α → α → Bool) (S : α → Prop) : Prop where
  tr : ∀ a b c, S a → S b → S c → lt b a = false → lt c b = false → lt c a = false
  asym : ∀ a b, S a → S b → lt a b = true → lt b a = false
def swA (f : Nat → α) (i j : Nat) : Nat → α := fun k => if k = i then f j else if k = j then f i else f k
structure Cont (n : Nat) (f : Nat → α) (S : α → Prop) : Prop where
  mem : ∀ i, i < n → S (f i)
  all : ∀ c, S c → ∃ i, i < n ∧ f i = c
  inj : ∀ i j, i < n → j < n → f i = f j → i = j
theorem Cont.sw {n : Nat} {f : Nat → α} {S : α → Prop} (h : Cont n f S) {i j : Nat} (hi : i < n) (hj : j < n) : Cont n (swA f i j) S where
  mem k hk := by
    unfold swA
    split
    · exact h.mem j hj
    · split
      · exact h.mem i hi
      · exact h.mem k hk
  all c hc := by
    obtain ⟨k, hk, rfl⟩ := h.all c hc
    unfold swA
    by_cases h1 : k = i
    · subst h1
      refine ⟨j, hj, ?_⟩
      by_cases h2 : j = k
      · subst h2; simp
      · simp [h2]
    · by_cases h2 : k = j
      · subst h2; exact ⟨i, hi, by simp⟩
      · exact ⟨k, hk, by simp [h1, h2]⟩
  inj a b ha hb he := by
    have key := fun x y (hx : x < n) (hy : y < n) (e : f x = f y) => h.inj x y hx hy e
    unfold swA at he
    repeat' split at he
    all_goals first
      | (have := key _ _ ‹_› ‹_› he; omega)
      | (have := key _ _ hi hj he; omega)
      | (have := key _ _ hj hi he; omega)
      | (have := key _ _ hi hb he; omega)
      | (have := key _ _ hj hb he; omega)
      | (have := key _ _ ha hi he; omega)
      | (have := key _ _ ha hj he; omega)
      | (have := key _ _ ha hb he; omega)
      | omega
theorem Cont.congr {n : Nat} {f g : Nat → α} {S : α → Prop} (h : Cont n f S) (e : ∀ i, i < n → g i = f i) : Cont n g S where
  mem i hi := by rw [e i hi]; exact h.mem i hi
  all c hc := by
    obtain ⟨i, hi, rfl⟩ := h.all c hc
    exact ⟨i, hi, e i hi⟩
  inj i j hi hj he := h.inj i j hi hj (by rw [← e i hi, ← e j hj]; exact he)
theorem Cont.push {n : Nat} {f : Nat → α} {S : α → Prop} (h : Cont n f S) {x : α} (hx : ¬ S x) : Cont (n + 1) (fun i => if i = n then x else f i) (fun c => c = x ∨ S c) where
  mem i hi := by
    by_cases e : i = n
    · simp [e]
    · simp only [e, if_false]
      exact .inr (h.mem i (by omega))
  all c hc := by
    rcases hc with rfl | hc
    · exact ⟨n, by omega, by simp⟩
    · obtain ⟨i, hi, rfl⟩ := h.all c hc
      exact ⟨i, by omega, by simp [show i ≠ n by omega]⟩
  inj i j hi hj he := by
    by_cases e1 : i = n <;> by_cases e2 : j = n <;> simp only [e1, e2, if_true, if_false] at he
    · omega
    · exact absurd (he ▸ h.mem j (by omega)) hx
    · exact absurd (he ▸ h.mem i (by omega)) hx
    · exact h.inj i j (by omega) (by omega) he
theorem Cont.pop {n : Nat} {f : Nat → α} {S : α → Prop} (h : Cont (n + 1) f S) : Cont n (fun i => if i = 0 then f n else f i) (fun c => S c ∧ c ≠ f 0) where
  mem i hi := by
    by_cases e : i = 0
    · simp only [e, if_true]
      refine ⟨h.mem n (by omega), fun e2 => ?_⟩
      have := h.inj n 0 (by omega) (by omega) e2
      omega
    · simp only [e, if_false]
      refine ⟨h.mem i (by omega), fun e2 => ?_⟩
      have := h.inj i 0 (by omega) (by omega) e2
      omega
  all c hc := by
    obtain ⟨i, hi, rfl⟩ := h.all c hc.1
    by_cases e : i = n
    · subst e
      by_cases e0 : i = 0
      · exact absurd (by rw [e0]) hc.2
      · exact ⟨0, by omega, by simp⟩
    · by_cases e0 : i = 0
      · exact absurd (by rw [e0]) hc.2
      · exact ⟨i, by omega, by simp [e0]⟩
  inj i j hi hj he := by
    by_cases e1 : i = 0 <;> by_cases e2 : j = 0 <;> simp only [e1, e2, if_true, if_false] at he
    · omega
    · have := h.inj n j (by omega) (by omega) he; omega
    · have := h.inj i n (by omega) (by omega) he; omega
    · exact h.inj i j (by omega) (by omega) he
def par (i : Nat) : Nat := (i - 1) / 2
theorem par_lt {i : Nat} (h : 0 < i) : par i < i := by unfold par; omega
def Heap (lt : α → α → Bool) (n : Nat) (f : Nat → α) : Prop := ∀ i, 0 < i → i < n → lt (f i) (f (par i)) = false
structure Up (lt : α → α → Bool) (n : Nat) (f : Nat → α) (j : Nat) : Prop where
  a : ∀ i, 0 < i → i < n → i ≠ j → lt (f i) (f (par i)) = false
  b : ∀ i, 0 < i → i < n → par i = j → 0 < j → lt (f i) (f (par j)) = false
structure Dn (lt : α → α → Bool) (n : Nat) (f : Nat → α) (j : Nat) : Prop where
  a : ∀ i, 0 < i → i < n → par i ≠ j → lt (f i) (f (par i)) = false
  b : ∀ i, 0 < i → i < n → par i = j → 0 < j → lt (f i) (f (par j)) = false
theorem Heap.root {S : α → Prop} (ho : Ord lt S) {n : Nat} {f : Nat → α} (h : Heap lt n f) (hc : ∀ i, i < n → S (f i)) : ∀ (m i : Nat), i ≤ m → 0 < i → i < n → lt (f i) (f 0) = false
  | 0, i, hm, h0, hi => by omega
  | m + 1, i, hm, h0, hi => by
    have hp := par_lt h0
    by_cases e : par i = 0
    · have := h i h0 hi
      rwa [e] at this
    · exact ho.tr _ _ _ (hc 0 (by omega)) (hc _ (by omega)) (hc i hi) (Heap.root ho h hc m (par i) (by omega) (by omega) (by omega)) (h i h0 hi)
theorem Up.start {n : Nat} {f : Nat → α} (h : Heap lt n f) (x : α) : Up lt (n + 1) (fun i => if i = n then x else f i) n where
  a i h0 hi hne := by
    have hp := par_lt h0
    simp only [hne, if_false, show par i ≠ n by omega]
    exact h i h0 (by omega)
  b i h0 hi he hn := by
    have hp := par_lt h0
    omega
theorem Up.stop {n : Nat} {f : Nat → α} {j : Nat} (h : Up lt n f j) (hs : j = 0 ∨ lt (f j) (f (par j)) = false) : Heap lt n f := by
  intro i h0 hi
  by_cases e : i = j
  · subst e
    rcases hs with hs | hs
    · omega
    · exact hs
  · exact h.a i h0 hi e
theorem Up.step {S : α → Prop} (ho : Ord lt S) {n : Nat} {f : Nat → α} {j : Nat} (h : Up lt n f j) (hc : ∀ i, i < n → S (f i)) (h0 : 0 < j) (hj : j < n) (hs : lt (f j) (f (par j)) = true) : Up lt n (swA f j (par j)) (par j) := by
  have hpj := par_lt h0
  have has := ho.asym _ _ (hc j hj) (hc (par j) (by omega)) hs
  constructor
  · intro i i0 hi hne
    have hp := par_lt i0
    unfold swA
    by_cases e : i = j
    · subst e
      simp only [if_true, if_neg (show par i ≠ i by omega)]
      exact has
    · by_cases e2 : par i = j
      · simp only [e, if_false, hne, e2, if_true]
        exact h.b i i0 hi e2 h0
      · by_cases e3 : par i = par j
        · simp only [e, if_false, hne, e2, e3, if_true, if_neg (show par j ≠ j by omega)]
          have h1 := h.a i i0 hi e
          rw [e3] at h1
          exact ho.tr _ _ _ (hc j hj) (hc (par j) (by omega)) (hc i hi) has h1
        · simp only [e, if_false, hne, e2, e3]
          exact h.a i i0 hi e
  · intro i i0 hi he hp0
    have hp := par_lt hp0
    unfold swA
    rw [if_neg (show par (par j) ≠ j by omega), if_neg (show par (par j) ≠ par j by omega)]
    have h1 := h.a (par j) hp0 (by omega) (by omega)
    by_cases e : i = j
    · rw [if_pos e]; exact h1
    · rw [if_neg e]
      have hpi := par_lt i0
      rw [if_neg (show i ≠ par j by omega)]
      have h2 := h.a i i0 hi e
      rw [he] at h2
      exact ho.tr _ _ _ (hc _ (by omega)) (hc (par j) (by omega)) (hc i hi) h1 h2
theorem Dn.start {n : Nat} {f : Nat → α} (h : Heap lt (n + 1) f) (x : α) : Dn lt n (fun i => if i = 0 then x else f i) 0 where
  a i h0 hi hne := by
    simp only [show i ≠ 0 by omega, if_false, hne]
    exact h i h0 (by omega)
  b i h0 hi he hn := by omega
theorem Dn.stop {S : α → Prop} (ho : Ord lt S) {n : Nat} {f : Nat → α} {j : Nat} (h : Dn lt n f j) (hc : ∀ i, i < n → S (f i)) (hj : j < n) (hs : n ≤ 2 * j + 1 ∨ ∃ k, k < n ∧ par k = j ∧ 0 < k ∧ (∀ i, 0 < i → i < n → par i = j → lt (f i) (f k) = false) ∧ lt (f k) (f j) = false) : Heap lt n f := by
  intro i h0 hi
  by_cases e : par i = j
  · rcases hs with hs | ⟨k, hk, hpk, hk0, hm, hl⟩
    · unfold par at e; omega
    · rw [e]
      exact ho.tr _ _ _ (hc j hj) (hc k hk) (hc i hi) hl (hm i h0 hi e)
  · exact h.a i h0 hi e
theorem Dn.step {S : α → Prop} (ho : Ord lt S) {n : Nat} {f : Nat → α} {j k : Nat} (h : Dn lt n f j) (hc : ∀ i, i < n → S (f i)) (hk : k < n) (hpk : par k = j) (hk0 : 0 < k) (hm : ∀ i, 0 < i → i < n → par i = j → lt (f i) (f k) = false) (hs : lt (f k) (f j) = true) : Dn lt n (swA f j k) k := by
  have hkj := par_lt hk0
  have has := ho.asym _ _ (hc k hk) (hc j (by omega)) hs
  constructor
  · intro i i0 hi hne
    have hp := par_lt i0
    unfold swA
    by_cases e1 : i = k
    · subst e1
      rw [if_neg (show i ≠ j by omega), if_pos rfl, if_pos hpk]
      exact has
    · by_cases e2 : i = j
      · subst e2
        rw [if_pos rfl, if_neg (show par i ≠ i by omega), if_neg hne]
        exact h.b k hk0 hk hpk i0
      · rw [if_neg e2, if_neg e1]
        by_cases e3 : par i = j
        · rw [if_pos e3]
          exact hm i i0 hi e3
        · rw [if_neg e3, if_neg hne]
          exact h.a i i0 hi e3
  · intro i i0 hi he _
    have hp := par_lt i0
    unfold swA
    rw [if_neg (show i ≠ j by omega), if_neg (show i ≠ k by omega), hpk, if_pos rfl]
    have := h.a i i0 hi (by omega)
    rwa [he] at this
theorem Dn.nil {n : Nat} {f : Nat → α} (h : n = 0) : Heap lt n f := fun i h0 hi => by omega
end
end Go.Proofs.Ytbfjkomlnpolmaa.G

namespace Go.Proofs.Ytbfjkomlnpolmaa.G
open Go.BX
set_option linter.unusedSimpArgs false
set_option linter.unusedVariables false
structure Cur where
  r : Nat
  a : Nat
def encC (vs : Nat → AV) (c : Cur) : List AV := [vs c.r, .int .i64 (c.a : Int), .int .i64 (c.r : Int)]
def OkC (xs : Nat → List Pr) (c : Cur) : Prop := c.a < (xs c.r).length ∧ (xs c.r).length ≤ 100000 ∧ c.r ≤ 100000
def ky (xs : Nat → List Pr) (c : Cur) : Bytes := (fnOf (xs c.r) c.a).key
def ltC (xs : Nat → List Pr) (c d : Cur) : Bool := lessB (ky xs c) (ky xs d) || (ky xs c == ky xs d && decide (c.r < d.r))
theorem ltC_false {xs : Nat → List Pr} {c d : Cur} : ltC xs c d = false ↔ lessB (ky xs c) (ky xs d) = false ∧ (ky xs c = ky xs d → d.r ≤ c.r) := by
  unfold ltC
  rw [Bool.or_eq_false_iff]
  refine and_congr_right fun _ => ?_
  cases h : (ky xs c == ky xs d) with
  | true =>
    have : ky xs c = ky xs d := by simpa using h
    simp [this]
  | false =>
    have : ky xs c ≠ ky xs d := by simpa using h
    simp [this]
theorem ordC (xs : Nat → List Pr) : Ord (ltC xs) (OkC xs) where
  tr a b c _ _ _ h1 h2 := by
    rw [ltC_false] at h1 h2 ⊢
    refine ⟨bl_le h1.1 h2.1, fun e => ?_⟩
    have e1 : ky xs b = ky xs a := by
      refine bl_tot _ _ h1.1 ?_
      rw [← e]
      exact h2.1
    have := h1.2 e1
    have := h2.2 (e.trans e1.symm)
    omega
  asym a b _ _ h := by
    rw [ltC_false]
    unfold ltC at h
    rw [Bool.or_eq_true, Bool.and_eq_true, beq_iff_eq, decide_eq_true_eq] at h
    rcases h with h | ⟨h1, h2⟩
    · exact ⟨bl_asym h, fun e => absurd e.symm (bl_ne h)⟩
    · exact ⟨by rw [h1]; exact bl_irr _, fun _ => by omega⟩
theorem less_ok {xs : Nat → List Pr} {c d : Cur} (hc : OkC xs c) (hd : OkC xs d) : PCall Cx 39 [.agg [.vec 6 ((xs c.r).map encP), .int .i64 (c.a : Int), .int .i64 (c.r : Int)], .agg [.vec 6 ((xs d.r).map encP), .int .i64 (d.a : Int), .int .i64 (d.r : Int)]] (.bool (ltC xs c d)) := by
  refine pcall_run (noext _) body39 ?_
  unfold ltC ky
  obtain ⟨hc1, hc2, hc3⟩ := hc
  obtain ⟨hd1, hd2, hd3⟩ := hd
  rw [fnOf_get hc1, fnOf_get hd1]
  have g1 := enc_get (List.getElem?_eq_getElem hc1)
  have g2 := enc_get (List.getElem?_eq_getElem hd1)
  have l1 : (c.a : Int) < (((xs c.r).map encP).length : Int) := by rw [List.length_map]; omega
  have l2 : (d.a : Int) < (((xs d.r).map encP).length : Int) := by rw [List.length_map]; omega
  have p1 : (0 : Int) ≤ (c.a : Int) := by omega
  have p2 : (0 : Int) ≤ (d.a : Int) := by omega
  have e : ((c.r : Int) < (d.r : Int)) ↔ c.r < d.r := by omega
  cases h1 : lessB ((xs c.r)[c.a]).key ((xs d.r)[d.a]).key with
  | true => simp only [g1, g2, l1, l2, p1, p2, h1, Bool.true_or, Int.toNat_natCast, n39_0, n39_1, n39_2, n39_3, n39_4, n39_5, n39_6, o39_1, o39_3, o39_5, res39, TT_3, TT_4, TT_5, TT_9, TT_22, TT_25, TT_26, TT_29, TT_33, TT_38, TT_40, TT_42, TT_47, TT_50, TT_57, TT_59, TT_66, TT_68, TT_69, TT_70, TT_72, TT_81, bb, primP, primM, ev, evs, parts_, ofConst, bin, un, intBin, putA, enterT, Nat.reduceEqDiff, Nat.reduceAdd, Nat.reduceMul, Nat.reduceLeDiff, Nat.reduceLT, ↓reduceIte, reduceCtorEq, RunRes, resultsA, oneOf, AV.plain, AV.cells, AHeap.push, AHeap.set, AHeap.empty, fieldOf, loadA, storeA, BX.part, TK.isAgg, convA, builtinA, inertB, builtinP, buildA, fillA, splice, eqv, cellsEq, sizeT, adT, ldT, fwT, Nat.reduceBeqDiff, Nat.reduceBneDiff, Int.reduceBNe, Int.reduceBEq, Int.reduceEq, Int.reduceLT, Int.reduceLE, Int.reduceAdd, Int.reduceSub, Int.reduceMul, Int.reduceNeg, strBin, indexAddrA, elems, lenOf, chunk, List.reduceReplicate, Int.reduceToNat]
  | false =>
    cases h2 : (((xs c.r)[c.a]).key == ((xs d.r)[d.a]).key) with
    | true => simp only [g1, g2, l1, l2, p1, p2, h1, h2, e, Bool.false_or, Bool.true_and, Int.toNat_natCast, n39_0, n39_1, n39_2, n39_3, n39_4, n39_5, n39_6, o39_1, o39_3, o39_5, res39, TT_3, TT_4, TT_5, TT_9, TT_22, TT_25, TT_26, TT_29, TT_33, TT_38, TT_40, TT_42, TT_47, TT_50, TT_57, TT_59, TT_66, TT_68, TT_69, TT_70, TT_72, TT_81, bb, primP, primM, ev, evs, parts_, ofConst, bin, un, intBin, putA, enterT, Nat.reduceEqDiff, Nat.reduceAdd, Nat.reduceMul, Nat.reduceLeDiff, Nat.reduceLT, ↓reduceIte, reduceCtorEq, RunRes, resultsA, oneOf, AV.plain, AV.cells, AHeap.push, AHeap.set, AHeap.empty, fieldOf, loadA, storeA, BX.part, TK.isAgg, convA, builtinA, inertB, builtinP, buildA, fillA, splice, eqv, cellsEq, sizeT, adT, ldT, fwT, Nat.reduceBeqDiff, Nat.reduceBneDiff, Int.reduceBNe, Int.reduceBEq, Int.reduceEq, Int.reduceLT, Int.reduceLE, Int.reduceAdd, Int.reduceSub, Int.reduceMul, Int.reduceNeg, strBin, indexAddrA, elems, lenOf, chunk, List.reduceReplicate, Int.reduceToNat]
    | false => simp only [g1, g2, l1, l2, p1, p2, h1, h2, e, Bool.false_or, Bool.false_and, Int.toNat_natCast, n39_0, n39_1, n39_2, n39_3, n39_4, n39_5, n39_6, o39_1, o39_3, o39_5, res39, TT_3, TT_4, TT_5, TT_9, TT_22, TT_25, TT_26, TT_29, TT_33, TT_38, TT_40, TT_42, TT_47, TT_50, TT_57, TT_59, TT_66, TT_68, TT_69, TT_70, TT_72, TT_81, bb, primP, primM, ev, evs, parts_, ofConst, bin, un, intBin, putA, enterT, Nat.reduceEqDiff, Nat.reduceAdd, Nat.reduceMul, Nat.reduceLeDiff, Nat.reduceLT, ↓reduceIte, reduceCtorEq, RunRes, resultsA, oneOf, AV.plain, AV.cells, AHeap.push, AHeap.set, AHeap.empty, fieldOf, loadA, storeA, BX.part, TK.isAgg, convA, builtinA, inertB, builtinP, buildA, fillA, splice, eqv, cellsEq, sizeT, adT, ldT, fwT, Nat.reduceBeqDiff, Nat.reduceBneDiff, Int.reduceBNe, Int.reduceBEq, Int.reduceEq, Int.reduceLT, Int.reduceLE, Int.reduceAdd, Int.reduceSub, Int.reduceMul, Int.reduceNeg, strBin, indexAddrA, elems, lenOf, chunk, List.reduceReplicate, Int.reduceToNat]
theorem less_call {n : Nat} {A : Nat → Blk} {vs : Nat → AV} {xs : Nat → List Pr} {c d : Cur} (hc : OkC xs c) (hd : OkC xs d) (hvc : RV n A (vs c.r) (xs c.r)) (hvd : RV n A (vs d.r) (xs d.r)) {fn : FuncId} {T : Nat → AV} {ds : List ADef} {ro : Option Nat} {k : List AItem} {Q : AV → AHeap → Prop} {dst : Option Nat} {os : List AO} :
    RunCall Cx fn T ds ro 39 [.agg [vs c.r, .int .i64 (c.a : Int), .int .i64 (c.r : Int)], .agg [vs d.r, .int .i64 (d.a : Int), .int .i64 (d.r : Int)]] dst os k ⟨n, A⟩ Q = RunOps Cx fn (putA T dst (.bool (ltC xs c d))) ds ro os k ⟨n, A⟩ Q := by
  obtain ⟨w1, hw1, hf1⟩ := hvc.freeze1 3
  obtain ⟨w2, hw2, hf2⟩ := hvd.freeze1 3
  have ne : ∀ {c : Cur}, OkC xs c → xs c.r ≠ [] := fun h e => by
    have := h.1
    rw [e] at this
    simp at this
  obtain rfl := hw1.vec (ne hc)
  obtain rfl := hw2.vec (ne hd)
  refine call_any pure39 rfl (less_ok hc hd) ?_
  simp only [mapO_cons, mapO_nil, freeze_agg, hf1, hf2, freeze1_int, consO_some, Option.map_some]
def RC (vs : Nat → AV) (N : Nat) (f : Nat → Cur) : List (List AV) := (List.range N).map fun i => encC vs (f i)
theorem RC_len {vs : Nat → AV} {N : Nat} {f : Nat → Cur} : (RC vs N f).length = N := by simp [RC]
theorem RC_get {vs : Nat → AV} {N : Nat} {f : Nat → Cur} {i : Nat} (h : i < N) : (RC vs N f)[i]? = some [vs (f i).r, .int .i64 ((f i).a : Int), .int .i64 ((f i).r : Int)] := by
  unfold RC
  rw [List.getElem?_map, List.getElem?_range h]
  rfl
theorem RC_set {vs : Nat → AV} {N : Nat} {f : Nat → Cur} {i : Nat} (c : Cur) : (RC vs N f).set i [vs c.r, .int .i64 (c.a : Int), .int .i64 (c.r : Int)] = RC vs N (fun k => if k = i then c else f k) := by
  apply List.ext_getElem?
  intro k
  rw [List.getElem?_set]
  by_cases hk : k < N
  · unfold RC
    rw [List.getElem?_map, List.getElem?_range hk, List.length_map, List.length_range]
    by_cases e : i = k
    · subst e
      rw [if_pos rfl, if_pos hk, List.getElem?_map, List.getElem?_range hk]
      simp [encC]
    · rw [if_neg e, List.getElem?_map, List.getElem?_range hk]
      simp [show k ≠ i by omega]
  · have h1 : (RC vs N f)[k]? = none := List.getElem?_eq_none (by rw [RC_len]; omega)
    have h2 : (RC vs N (fun k => if k = i then c else f k))[k]? = none := List.getElem?_eq_none (by rw [RC_len]; omega)
    rw [h1, h2]
    split
    · rw [if_neg (by rw [RC_len]; omega)]
    · rfl
theorem RC_congr {vs : Nat → AV} {N : Nat} {f g : Nat → Cur} (h : ∀ i, i < N → f i = g i) : RC vs N f = RC vs N g := by
  unfold RC
  apply List.map_congr_left
  intro i hi
  rw [h i (List.mem_range.mp hi)]
theorem RC_push {vs : Nat → AV} {n N : Nat} {f : Nat → Cur} (c : Cur) (h : n ≤ N) : (RC vs N f).take n ++ [encC vs c] = RC vs (n + 1) (fun i => if i = n then c else f i) := by
  have : (RC vs N f).take n = RC vs n f := by
    unfold RC
    rw [← List.map_take, List.take_range, Nat.min_eq_left h]
  rw [this]
  unfold RC
  rw [List.range_succ, List.map_append]
  congr 1
  · apply List.map_congr_left
    intro i hi
    have := List.mem_range.mp hi
    show _ = encC vs (if i = n then c else f i)
    rw [if_neg (by omega)]
  · simp
theorem swA_eq (f : Nat → Cur) (i j : Nat) : (fun k => if k = j then f i else if k = i then f j else f k) = swA f i j := by
  funext k
  unfold swA
  by_cases h1 : k = i <;> by_cases h2 : k = j
  · subst h1; subst h2; simp
  · rw [if_neg h2, if_pos h1, if_pos h1]
  · rw [if_pos h2, if_neg h1, if_pos h2]
  · rw [if_neg h2, if_neg h1, if_neg h1, if_neg h2]
def HL (vs : Nat → AV) (hb nx : Nat) (A : Nat → Blk) (n : Nat) (f : Nat → Cur) : Prop :=
  hb < nx ∧ ((A hb = .cells 72 2 [[.nilS, .fn 39 [] []]] ∧ n = 0) ∨
    ∃ g N, A hb = .cells 72 2 [[.slc g 3 0 n, .fn 39 [] []]] ∧ hb < g ∧ g < nx ∧ n ≤ N ∧ A g = .cells 68 3 (RC vs N f))
theorem HL.keep {vs : Nat → AV} {hb nx nx' : Nat} {A A' : Nat → Blk} {n : Nat} {f : Nat → Cur} (h : HL vs hb nx A n f) (hn : nx ≤ nx') (hk : ∀ g, hb ≤ g → g < nx → A' g = A g) : HL vs hb nx' A' n f := by
  obtain ⟨h1, h2⟩ := h
  refine ⟨by omega, ?_⟩
  rcases h2 with ⟨h2, h3⟩ | ⟨g, N, h2, h3, h4, h5, h6⟩
  · exact .inl ⟨by rw [hk hb (Nat.le_refl _) h1]; exact h2, h3⟩
  · exact .inr ⟨g, N, by rw [hk hb (Nat.le_refl _) h1]; exact h2, h3, by omega, h5, by rw [hk g (by omega) h4]; exact h6⟩
def notCur (b : Blk) : Prop := ∀ es, b ≠ .cells 68 3 es
theorem csl : isSl Cx 70 68 := ⟨_, TT_70, rfl⟩
theorem cti : ∃ ti, Cx.TT 68 = some ti ∧ ti.size = 3 ∧ ti.bytes = 40 := ⟨_, TT_68, rfl, rfl⟩
theorem pu_all {vs : Nat → AV} {xs : Nat → List Pr} {hb g nx n : Nat} {A : Nat → Blk} {S : Cur → Prop} {Q : AV → AHeap → Prop} (hn : n ≤ 100000) (hg : hb < g) (hbn : hb ≤ nx) (hA : A hb = .cells 72 2 [[.slc g 3 0 n, .fn 39 [] []]]) (hS : ∀ c, S c → OkC xs c) (hV : ∀ c, S c → RV hb A (vs c.r) (xs c.r))
    (hK : ∀ f', Heap (ltC xs) n f' → Cont n f' S → Q (.tuple []) ⟨nx, upd A g (.cells 68 3 (RC vs n f'))⟩) :
    ∀ (m i : Nat) (T : Nat → AV) (f : Nat → Cur), i ≤ m → i < n → T 0 = .ptr hb 2 0 0 → T 4 = .int .i64 (i : Int) → Up (ltC xs) n f i → Cont n f S →
      Run Cx 40 T [] none [.inLoop c40_8, .inBlock 0] ⟨nx, upd A g (.cells 68 3 (RC vs n f))⟩ Q := by
  intro m
  induction m with
  | zero =>
    intro i T f him hin t0 t4 hU hC
    obtain rfl : i = 0 := by omega
    replace t4 : T 4 = .int .i64 0 := t4
    rw [run_inLoop]
    simp only [t0, t4, run_exit_start, exit_here, exit_code, exit_inLoop, run_inBlock, run_nil, n40_0, n40_1, n40_2, n40_3, n40_4, n40_5, n40_6, n40_7, n40_8, n40_9, n40_10, n40_11, n40_12, n40_13, n40_14, n40_15, n40_16, n40_17, o40_1, o40_3, o40_5, o40_10, o40_16, o40_17, res40, TT_3, TT_4, TT_5, TT_9, TT_22, TT_25, TT_26, TT_29, TT_33, TT_38, TT_40, TT_42, TT_47, TT_50, TT_57, TT_59, TT_66, TT_68, TT_69, TT_70, TT_72, TT_81, bb, primP, primM, ev, evs, parts_, ofConst, bin, un, intBin, putA, enterT, Nat.reduceEqDiff, Nat.reduceAdd, Nat.reduceMul, Nat.reduceLeDiff, Nat.reduceLT, ↓reduceIte, reduceCtorEq, RunRes, resultsA, oneOf, AV.plain, AV.cells, AHeap.push, AHeap.set, AHeap.empty, fieldOf, loadA, storeA, BX.part, TK.isAgg, convA, builtinA, inertB, builtinP, buildA, fillA, splice, eqv, cellsEq, sizeT, adT, ldT, fwT, Nat.reduceBeqDiff, Nat.reduceBneDiff, Int.reduceBNe, Int.reduceBEq, Int.reduceEq, Int.reduceLT, Int.reduceLE, Int.reduceAdd, Int.reduceSub, Int.reduceMul, Int.reduceNeg, strBin, indexAddrA, elems, lenOf, chunk, List.reduceReplicate, Int.reduceToNat]
    exact hK f (hU.stop (.inl rfl)) hC
  | succ m ih =>
    intro i T f him hin t0 t4 hU hC
    by_cases hi0 : i = 0
    · subst hi0
      replace t4 : T 4 = .int .i64 0 := t4
      rw [run_inLoop]
      simp only [t0, t4, run_exit_start, exit_here, exit_code, exit_inLoop, run_inBlock, run_nil, n40_0, n40_1, n40_2, n40_3, n40_4, n40_5, n40_6, n40_7, n40_8, n40_9, n40_10, n40_11, n40_12, n40_13, n40_14, n40_15, n40_16, n40_17, o40_1, o40_3, o40_5, o40_10, o40_16, o40_17, res40, TT_3, TT_4, TT_5, TT_9, TT_22, TT_25, TT_26, TT_29, TT_33, TT_38, TT_40, TT_42, TT_47, TT_50, TT_57, TT_59, TT_66, TT_68, TT_69, TT_70, TT_72, TT_81, bb, primP, primM, ev, evs, parts_, ofConst, bin, un, intBin, putA, enterT, Nat.reduceEqDiff, Nat.reduceAdd, Nat.reduceMul, Nat.reduceLeDiff, Nat.reduceLT, ↓reduceIte, reduceCtorEq, RunRes, resultsA, oneOf, AV.plain, AV.cells, AHeap.push, AHeap.set, AHeap.empty, fieldOf, loadA, storeA, BX.part, TK.isAgg, convA, builtinA, inertB, builtinP, buildA, fillA, splice, eqv, cellsEq, sizeT, adT, ldT, fwT, Nat.reduceBeqDiff, Nat.reduceBneDiff, Int.reduceBNe, Int.reduceBEq, Int.reduceEq, Int.reduceLT, Int.reduceLE, Int.reduceAdd, Int.reduceSub, Int.reduceMul, Int.reduceNeg, strBin, indexAddrA, elems, lenOf, chunk, List.reduceReplicate, Int.reduceToNat]
      exact hK f (hU.stop (.inl rfl)) hC
    · rw [run_inLoop]
      have hp := par_lt (Nat.pos_of_ne_zero hi0)
      have c0 : (0 : Int) < (i : Int) := by omega
      have w1 : IntKind.i64.wrap ((i : Int) - 1) = ((i - 1 : Nat) : Int) := by rw [wr64 (by omega) (by omega)]; omega
      have w2 : IntKind.i64.wrap (((i - 1 : Nat) : Int).tdiv 2) = ((par i : Nat) : Int) := by
        have e : ((i - 1 : Nat) : Int).tdiv 2 = ((par i : Nat) : Int) := by
          rw [Int.tdiv_eq_ediv_of_nonneg (by omega)]; unfold par; omega
        rw [e, wr64 (by omega) (by omega)]
      have l1 : (i : Int) < (n : Int) := by omega
      have l2 : ((par i : Nat) : Int) < (n : Int) := by omega
      have p1 : (0 : Int) ≤ (i : Int) := by omega
      have p2 : (0 : Int) ≤ ((par i : Nat) : Int) := by omega
      have g1 : ∀ f', (RC vs n f')[i]? = _ := fun f' => RC_get (f := f') hin
      have g2 : ∀ f', (RC vs n f')[par i]? = _ := fun f' => RC_get (f := f') (show par i < n by omega)
      have hVu : ∀ c, S c → RV nx (upd A g (.cells 68 3 (RC vs n f))) (vs c.r) (xs c.r) := fun c hc => (hV c hc).keep hbn (fun b hb' _ => by rw [upd_app, if_neg (by omega)])
      have hl : ∀ {T : Nat → AV} {dst : Option Nat} {os : List AO} {k : List AItem}, RunCall Cx 40 T [] none 39 [.agg [vs (f i).r, .int .i64 ((f i).a : Int), .int .i64 ((f i).r : Int)], .agg [vs (f (par i)).r, .int .i64 ((f (par i)).a : Int), .int .i64 ((f (par i)).r : Int)]] dst os k ⟨nx, upd A g (.cells 68 3 (RC vs n f))⟩ Q = _ := less_call (hS _ (hC.mem i hin)) (hS _ (hC.mem (par i) (by omega))) (hVu _ (hC.mem i hin)) (hVu _ (hC.mem (par i) (by omega)))
      have hgb : (hb = g) = False := eq_false (by omega)
      cases hlt : ltC xs (f i) (f (par i)) with
      | false =>
        simp only [hlt] at hl
        simp only [t0, t4, hA, hgb, c0, w1, w2, l1, l2, p1, p2, g1, g2, hl, Int.toNat_natCast, run_exit_start, exit_here, exit_code, exit_inLoop, run_inBlock, run_nil, n40_0, n40_1, n40_2, n40_3, n40_4, n40_5, n40_6, n40_7, n40_8, n40_9, n40_10, n40_11, n40_12, n40_13, n40_14, n40_15, n40_16, n40_17, o40_1, o40_3, o40_5, o40_10, o40_16, o40_17, res40, TT_3, TT_4, TT_5, TT_9, TT_22, TT_25, TT_26, TT_29, TT_33, TT_38, TT_40, TT_42, TT_47, TT_50, TT_57, TT_59, TT_66, TT_68, TT_69, TT_70, TT_72, TT_81, bb, primP, primM, ev, evs, parts_, ofConst, bin, un, intBin, putA, enterT, Nat.reduceEqDiff, Nat.reduceAdd, Nat.reduceMul, Nat.reduceLeDiff, Nat.reduceLT, ↓reduceIte, reduceCtorEq, RunRes, resultsA, oneOf, AV.plain, AV.cells, AHeap.push, AHeap.set, AHeap.empty, fieldOf, loadA, storeA, BX.part, TK.isAgg, convA, builtinA, inertB, builtinP, buildA, fillA, splice, eqv, cellsEq, sizeT, adT, ldT, fwT, Nat.reduceBeqDiff, Nat.reduceBneDiff, Int.reduceBNe, Int.reduceBEq, Int.reduceEq, Int.reduceLT, Int.reduceLE, Int.reduceAdd, Int.reduceSub, Int.reduceMul, Int.reduceNeg, strBin, indexAddrA, elems, lenOf, chunk, List.reduceReplicate, Int.reduceToNat]
        exact hK f (hU.stop (.inr hlt)) hC
      | true =>
        simp only [hlt] at hl
        simp only [t0, t4, hA, hgb, c0, w1, w2, l1, l2, p1, p2, g1, g2, hl, Int.toNat_natCast, RC_set, upd2, swA_eq, run_exit_start, exit_here, exit_code, exit_inLoop, run_inBlock, run_nil, n40_0, n40_1, n40_2, n40_3, n40_4, n40_5, n40_6, n40_7, n40_8, n40_9, n40_10, n40_11, n40_12, n40_13, n40_14, n40_15, n40_16, n40_17, o40_1, o40_3, o40_5, o40_10, o40_16, o40_17, res40, TT_3, TT_4, TT_5, TT_9, TT_22, TT_25, TT_26, TT_29, TT_33, TT_38, TT_40, TT_42, TT_47, TT_50, TT_57, TT_59, TT_66, TT_68, TT_69, TT_70, TT_72, TT_81, bb, primP, primM, ev, evs, parts_, ofConst, bin, un, intBin, putA, enterT, Nat.reduceEqDiff, Nat.reduceAdd, Nat.reduceMul, Nat.reduceLeDiff, Nat.reduceLT, ↓reduceIte, reduceCtorEq, RunRes, resultsA, oneOf, AV.plain, AV.cells, AHeap.push, AHeap.set, AHeap.empty, fieldOf, loadA, storeA, BX.part, TK.isAgg, convA, builtinA, inertB, builtinP, buildA, fillA, splice, eqv, cellsEq, sizeT, adT, ldT, fwT, Nat.reduceBeqDiff, Nat.reduceBneDiff, Int.reduceBNe, Int.reduceBEq, Int.reduceEq, Int.reduceLT, Int.reduceLE, Int.reduceAdd, Int.reduceSub, Int.reduceMul, Int.reduceNeg, strBin, indexAddrA, elems, lenOf, chunk, List.reduceReplicate, Int.reduceToNat]
        refine ih (par i) _ (swA f i (par i)) (by omega) (by omega) ?_ ?_ (hU.step (ordC xs) (fun j hj => hS _ (hC.mem j hj)) (by omega) hin hlt) (hC.sw hin (by omega))
        all_goals simp only [upd_app, t0, Nat.reduceEqDiff, ↓reduceIte]
theorem upd_back {A : Nat → Blk} {g : Nat} {x : Blk} (h : A g = x) : A = upd A g x := by
  funext c
  rw [upd_app]
  split
  · rename_i e; rw [e, h]
  · rfl
theorem pu_go {vs : Nat → AV} {xs : Nat → List Pr} {hb g nx n : Nat} {A : Nat → Blk} {S : Cur → Prop} {Q : AV → AHeap → Prop} {T : Nat → AV} {f : Nat → Cur} {i : Nat} (hn : n ≤ 100000) (hg : hb < g) (hbn : hb ≤ nx) (hA : A hb = .cells 72 2 [[.slc g 3 0 n, .fn 39 [] []]]) (hAg : A g = .cells 68 3 (RC vs n f)) (hS : ∀ c, S c → OkC xs c) (hV : ∀ c, S c → RV hb A (vs c.r) (xs c.r)) (hin : i < n) (t0 : T 0 = .ptr hb 2 0 0) (t4 : T 4 = .int .i64 (i : Int)) (hU : Up (ltC xs) n f i) (hC : Cont n f S)
    (hK : ∀ f' A', Heap (ltC xs) n f' → Cont n f' S → A' hb = A hb → A' g = .cells 68 3 (RC vs n f') → (∀ c, c ≠ g → A' c = A c) → Q (.tuple []) ⟨nx, A'⟩) :
    Run Cx 40 T [] none [.inLoop c40_8, .inBlock 0] ⟨nx, A⟩ Q := by
  rw [upd_back hAg]
  refine pu_all hn hg hbn hA hS hV ?_ i i T f (Nat.le_refl _) hin t0 t4 hU hC
  intro f' h1 h2
  exact hK f' _ h1 h2 (by rw [upd_app, if_neg (by omega)]) (by simp only [upd_app, ↓reduceIte]) (fun c hc => by rw [upd_app, if_neg hc])
section
variable {fn : FuncId} {T : Nat → AV} {ds : List ADef} {ro : Option Nat} {k : List AItem} {Q : AV → AHeap → Prop} {dst : Option Nat} {os : List AO}
theorem push_call {vs : Nat → AV} {xs : Nat → List Pr} {hb nx n : Nat} {A : Nat → Blk} {f : Nat → Cur} {S : Cur → Prop} {x : Cur} (hn : n ≤ 90000) (hH : HL vs hb nx A n f) (hp : Heap (ltC xs) n f) (hC : Cont n f S) (hS : ∀ c, S c → OkC xs c) (hx : ¬ S x) (hxo : OkC xs x) (hV : ∀ c, c = x ∨ S c → RV hb A (vs c.r) (xs c.r))
    (hk : ∀ nx' A' f', HL vs hb nx' A' (n + 1) f' → Heap (ltC xs) (n + 1) f' → Cont (n + 1) f' (fun c => c = x ∨ S c) → nx ≤ nx' → (∀ c, c < nx → c ≠ hb → c < hb ∨ notCur (A c) → A' c = A c) → RunOps Cx fn (putA T dst (.tuple [])) ds ro os k ⟨nx', A'⟩ Q) :
    RunCall Cx fn T ds ro 40 [.ptr hb 2 0 0, .agg [vs x.r, .int .i64 (x.a : Int), .int .i64 (x.r : Int)]] dst os k ⟨nx, A⟩ Q := by
  refine call_body pure40 (noext _) body40 ?_
  obtain ⟨hbn, hH⟩ := hH
  have e1 : (hb = nx) = False := eq_false (by omega)
  have w1 : IntKind.i64.wrap (((n + 1 : Nat) : Int) - 1) = (n : Int) := by rw [wr64 (by omega) (by omega)]; omega
  have hS' : ∀ c, (c = x ∨ S c) → OkC xs c := by
    rintro c (rfl | h)
    · exact hxo
    · exact hS c h
  rcases hH with ⟨hA, rfl⟩ | ⟨g, N, hA, g1, g2, g3, g4⟩
  · have ha := app_nil (C := Cx) (n := nx + 1) (A := upd A nx (.cells 68 3 [[vs x.r, .int .i64 (x.a : Int), .int .i64 (x.r : Int)]])) (row := [vs x.r, .int .i64 (x.a : Int), .int .i64 (x.r : Int)]) csl cti (show 40 ≤ most by decide)
    have e2 : (hb = nx + 1) = False := eq_false (by omega)
    have e3 : (hb = nx + 1 + 1) = False := eq_false (by omega)
    have w2 : IntKind.i64.wrap 0 = 0 := rfl
    simp only [hA, e1, e2, e3, ha, w2, i64, runVH_some, lenOf, Int.cast_ofNat_Int, n40_0, n40_1, n40_2, n40_3, n40_4, n40_5, n40_6, n40_7, n40_9, n40_10, n40_11, n40_12, n40_13, n40_14, n40_15, n40_16, n40_17, o40_1, o40_3, o40_5, o40_10, o40_16, o40_17, res40, TT_3, TT_4, TT_5, TT_9, TT_22, TT_25, TT_26, TT_29, TT_33, TT_38, TT_40, TT_42, TT_47, TT_50, TT_57, TT_59, TT_66, TT_68, TT_69, TT_70, TT_72, TT_81, bb, primP, primM, ev, evs, parts_, ofConst, bin, un, intBin, putA, enterT, Nat.reduceEqDiff, Nat.reduceAdd, Nat.reduceMul, Nat.reduceLeDiff, Nat.reduceLT, ↓reduceIte, reduceCtorEq, RunRes, resultsA, oneOf, AV.plain, AV.cells, AHeap.push, AHeap.set, AHeap.empty, fieldOf, loadA, storeA, BX.part, TK.isAgg, convA, builtinA, inertB, builtinP, buildA, fillA, splice, eqv, cellsEq, sizeT, adT, ldT, fwT, Nat.reduceBeqDiff, Nat.reduceBneDiff, Int.reduceBNe, Int.reduceBEq, Int.reduceEq, Int.reduceLT, Int.reduceLE, Int.reduceAdd, Int.reduceSub, Int.reduceMul, Int.reduceNeg, strBin, indexAddrA, elems, lenOf, chunk, List.reduceReplicate, Int.reduceToNat]
    refine pu_go (vs := vs) (xs := xs) (hb := hb) (g := nx + 1 + 1) (n := 1) (i := 0) (f := fun i => if i = 0 then x else f i) (S := fun c => c = x ∨ S c) (by omega) (by omega) (by omega) ?_ ?_ hS' ?_ (by omega) ?_ ?_ (Up.start hp x) (hC.push hx) ?_
    · simp only [upd_app, ↓reduceIte]
    · simp only [upd_app, ↓reduceIte]
      rw [if_neg (by omega)]
      rfl
    · exact fun c hc => (hV c hc).keep (Nat.le_refl _) (fun b hb' _ => by simp only [upd_app]; rw [if_neg (by omega), if_neg (by omega), if_neg (by omega), if_neg (by omega)])
    · simp only [upd_app, enterT, List.getElem?_cons_zero, Option.getD_some, Nat.reduceEqDiff, ↓reduceIte]
    · simp only [upd_app, ↓reduceIte]
      rfl
    · intro f' A' h1 h2 h3 h4 h5
      refine hk _ A' f' ⟨by omega, .inr ⟨nx + 1 + 1, 1, ?_, by omega, by omega, by omega, h4⟩⟩ h1 h2 (by omega) ?_
      · rw [h3]
        simp only [upd_app, ↓reduceIte]
      · intro c hc hch _
        rw [h5 c (by omega)]
        simp only [upd_app]
        rw [if_neg (by omega), if_neg (by omega), if_neg (by omega), if_neg (by omega)]
  · have ha := app_rowT (C := Cx) (g := g) (n := nx + 1) (m := n) (A := upd A nx (.cells 68 3 [[vs x.r, .int .i64 (x.a : Int), .int .i64 (x.r : Int)]])) (es := RC vs N f) (row := [vs x.r, .int .i64 (x.a : Int), .int .i64 (x.r : Int)]) csl cti (by rw [upd_app, if_neg (by omega)]; exact g4) (by omega) (by rw [RC_len]; exact g3) (by unfold most; omega) (by unfold most; omega)
    have hpu : (RC vs N f).take n ++ [[vs x.r, .int .i64 (x.a : Int), .int .i64 (x.r : Int)]] = RC vs (n + 1) (fun i => if i = n then x else f i) := RC_push x g3
    rw [hpu] at ha
    have e2 : (hb = nx + 1) = False := eq_false (by omega)
    have e3 : (hb = nx + 1 + 1) = False := eq_false (by omega)
    have e4 : (hb = g) = False := eq_false (by omega)
    simp only [hA, e1, e2, e3, e4, ha, w1, i64, runVH_some, lenOf, n40_0, n40_1, n40_2, n40_3, n40_4, n40_5, n40_6, n40_7, n40_9, n40_10, n40_11, n40_12, n40_13, n40_14, n40_15, n40_16, n40_17, o40_1, o40_3, o40_5, o40_10, o40_16, o40_17, res40, TT_3, TT_4, TT_5, TT_9, TT_22, TT_25, TT_26, TT_29, TT_33, TT_38, TT_40, TT_42, TT_47, TT_50, TT_57, TT_59, TT_66, TT_68, TT_69, TT_70, TT_72, TT_81, bb, primP, primM, ev, evs, parts_, ofConst, bin, un, intBin, putA, enterT, Nat.reduceEqDiff, Nat.reduceAdd, Nat.reduceMul, Nat.reduceLeDiff, Nat.reduceLT, ↓reduceIte, reduceCtorEq, RunRes, resultsA, oneOf, AV.plain, AV.cells, AHeap.push, AHeap.set, AHeap.empty, fieldOf, loadA, storeA, BX.part, TK.isAgg, convA, builtinA, inertB, builtinP, buildA, fillA, splice, eqv, cellsEq, sizeT, adT, ldT, fwT, Nat.reduceBeqDiff, Nat.reduceBneDiff, Int.reduceBNe, Int.reduceBEq, Int.reduceEq, Int.reduceLT, Int.reduceLE, Int.reduceAdd, Int.reduceSub, Int.reduceMul, Int.reduceNeg, strBin, indexAddrA, elems, lenOf, chunk, List.reduceReplicate, Int.reduceToNat]
    refine pu_go (vs := vs) (xs := xs) (hb := hb) (g := nx + 1 + 1) (n := n + 1) (i := n) (f := fun i => if i = n then x else f i) (S := fun c => c = x ∨ S c) (by omega) (by omega) (by omega) ?_ ?_ hS' ?_ (by omega) ?_ ?_ (Up.start hp x) (hC.push hx) ?_
    · simp only [upd_app, ↓reduceIte]
    · simp only [upd_app, ↓reduceIte]
      rw [if_neg (by omega)]
    · exact fun c hc => (hV c hc).keep (Nat.le_refl _) (fun b hb' _ => by simp only [upd_app]; rw [if_neg (by omega), if_neg (by omega), if_neg (by omega), if_neg (by omega), if_neg (by omega)])
    · simp only [upd_app, enterT, List.getElem?_cons_zero, Option.getD_some, Nat.reduceEqDiff, ↓reduceIte]
    · simp only [upd_app, ↓reduceIte]
    · intro f' A' h1 h2 h3 h4 h5
      refine hk _ A' f' ⟨by omega, .inr ⟨nx + 1 + 1, n + 1, ?_, by omega, by omega, by omega, h4⟩⟩ h1 h2 (by omega) ?_
      · rw [h3]
        simp only [upd_app, ↓reduceIte]
      · intro c hc hch hcc
        have hcg : c ≠ g := by
          rintro rfl
          rcases hcc with h | h
          · omega
          · exact h _ g4
        rw [h5 c (by omega)]
        simp only [upd_app]
        rw [if_neg (by omega), if_neg (by omega), if_neg hcg, if_neg (by omega), if_neg (by omega)]
end
end Go.Proofs.Ytbfjkomlnpolmaa.G

