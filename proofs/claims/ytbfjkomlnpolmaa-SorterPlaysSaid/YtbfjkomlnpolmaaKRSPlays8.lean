import Derived.Test.YtbfjkomlnpolmaaKRSPlays7
import Derived.Test.YtbfjkomlnpolmaaKRSPlays2
import Derived.WalkKit
import Derived.ProofKit
import Derived.OpenShut
import Derived.ShutString
import Derived.ChangeOld
import Derived.Below
import Derived.DataReads
import Derived.ChangeArms
import Derived.Test.YtbfjkomlnpolmaaKRSPlays4
import Derived.Test.YtbfjkomlnpolmaaKRSPlays3
import Derived.Test.YtbfjkomlnpolmaaKRSPlays5
namespace Go.Proofs.Ytbfjkomlnpolmaa.G
open Go.BX
set_option linter.unusedSimpArgs false
set_option linter.unusedVariables false
theorem sp_rest {room : Nat} {stop : Int} {P : List Pr} {now : List Pr} {rs : List (AV × List Pr)} {n : Nat} {A : Nat → Blk} {d : AV} {T : Nat → AV} (hP : P.length ≤ 1000) (hr : 0 < room) (hr2 : room ≤ 4096) (t1 : T 1 = .int .i64 (room : Int)) (t5 : T 5 = .ptr 0 1 0 0) (t6 : T 6 = .ptr 1 1 0 0) (t7 : T 7 = .ptr 2 4 0 0) (t9 : T 9 = d) (a0 : A 0 = .cells 5 1 [[.int .u8 stop]]) (a1 : A 1 = .cells 4 1 [[.bool false]]) (hn : 2 < n) (hS : SS 2 room 2 n A now rs P.length) (hC : Chk room P now rs) (hd : OwnK 3 42 6 d n A (P.map encP)) :
    Run Cx 4 T [] none [.code c4_53] ⟨n, A⟩ (fun r0 H' => BX.freeze H' r0 = some (.bool true)) := by
  simp only [t7, n4_0, n4_1, n4_2, n4_3, n4_4, n4_5, n4_6, n4_7, n4_8, n4_9, n4_10, n4_11, n4_12, n4_13, n4_14, n4_15, n4_16, n4_17, n4_18, n4_19, n4_20, n4_21, n4_22, n4_23, n4_24, n4_25, n4_26, n4_27, n4_28, n4_29, n4_30, n4_31, n4_32, n4_33, n4_34, n4_35, n4_36, n4_37, n4_38, n4_39, n4_40, n4_41, n4_42, n4_43, n4_44, n4_45, n4_46, n4_47, n4_48, n4_49, n4_50, n4_51, n4_52, n4_53, n4_54, n4_56, n4_57, n4_58, n4_59, n4_60, n4_61, n4_62, n4_63, n4_64, n4_65, n4_66, n4_67, n4_68, n4_69, n4_70, n4_71, n4_72, n4_73, n4_74, n4_75, n4_76, n4_77, n4_78, n4_79, n4_80, n4_81, n4_82, n4_83, n4_84, n4_85, n4_86, n4_87, n4_88, n4_89, n4_90, n4_91, n4_93, n4_94, n4_95, n4_96, n4_97, n4_98, n4_99, n4_100, n4_101, n4_102, n4_103, n4_104, n4_105, n4_106, n4_107, n4_108, n4_109, n4_110, n4_111, n4_112, n4_113, n4_114, o4_1, o4_4, o4_7, o4_11, o4_14, o4_17, o4_21, o4_24, o4_29, o4_36, o4_38, o4_41, o4_43, o4_46, o4_49, o4_52, o4_54, o4_57, o4_60, o4_65, o4_70, o4_77, o4_80, o4_83, o4_85, o4_87, o4_90, o4_93, o4_97, o4_100, o4_104, o4_106, o4_109, o4_113, res4, TT_3, TT_4, TT_5, TT_9, TT_22, TT_25, TT_26, TT_29, TT_33, TT_38, TT_40, TT_42, TT_47, TT_50, TT_57, TT_59, TT_66, TT_68, TT_69, TT_70, TT_72, TT_81, bb, primP, primM, ev, evs, parts_, ofConst, bin, un, intBin, putA, enterT, Nat.reduceEqDiff, Nat.reduceAdd, Nat.reduceMul, Nat.reduceLeDiff, Nat.reduceLT, ↓reduceIte, reduceCtorEq, RunRes, resultsA, oneOf, AV.plain, AV.cells, AHeap.push, AHeap.set, AHeap.empty, fieldOf, loadA, storeA, BX.part, TK.isAgg, convA, builtinA, inertB, builtinP, buildA, fillA, splice, eqv, cellsEq, sizeT, adT, ldT, fwT, Nat.reduceBeqDiff, Nat.reduceBneDiff, Int.reduceBNe, Int.reduceBEq, Int.reduceEq, Int.reduceLT, Int.reduceLE, Int.reduceAdd, Int.reduceSub, Int.reduceMul, Int.reduceNeg, strBin, indexAddrA, elems, lenOf, chunk, List.reduceReplicate, Int.reduceToNat]
  refine Runs_call hS hC hr (by omega) ?_
  intro ra n1 A1 xs hown1 hxs hPx hn1 hk1
  have hd1 : OwnK 3 42 6 d n1 A1 (P.map encP) := hd.keep hn1 (fun g hg _ => hk1 g hg)
  have hS1 := hS.keep hn1 (fun g _ hg => hk1 g hg)
  simp only [t1, t7, t9, n4_0, n4_1, n4_2, n4_3, n4_4, n4_5, n4_6, n4_7, n4_8, n4_9, n4_10, n4_11, n4_12, n4_13, n4_14, n4_15, n4_16, n4_17, n4_18, n4_19, n4_20, n4_21, n4_22, n4_23, n4_24, n4_25, n4_26, n4_27, n4_28, n4_29, n4_30, n4_31, n4_32, n4_33, n4_34, n4_35, n4_36, n4_37, n4_38, n4_39, n4_40, n4_41, n4_42, n4_43, n4_44, n4_45, n4_46, n4_47, n4_48, n4_49, n4_50, n4_51, n4_52, n4_53, n4_54, n4_56, n4_57, n4_58, n4_59, n4_60, n4_61, n4_62, n4_63, n4_64, n4_65, n4_66, n4_67, n4_68, n4_69, n4_70, n4_71, n4_72, n4_73, n4_74, n4_75, n4_76, n4_77, n4_78, n4_79, n4_80, n4_81, n4_82, n4_83, n4_84, n4_85, n4_86, n4_87, n4_88, n4_89, n4_90, n4_91, n4_93, n4_94, n4_95, n4_96, n4_97, n4_98, n4_99, n4_100, n4_101, n4_102, n4_103, n4_104, n4_105, n4_106, n4_107, n4_108, n4_109, n4_110, n4_111, n4_112, n4_113, n4_114, o4_1, o4_4, o4_7, o4_11, o4_14, o4_17, o4_21, o4_24, o4_29, o4_36, o4_38, o4_41, o4_43, o4_46, o4_49, o4_52, o4_54, o4_57, o4_60, o4_65, o4_70, o4_77, o4_80, o4_83, o4_85, o4_87, o4_90, o4_93, o4_97, o4_100, o4_104, o4_106, o4_109, o4_113, res4, TT_3, TT_4, TT_5, TT_9, TT_22, TT_25, TT_26, TT_29, TT_33, TT_38, TT_40, TT_42, TT_47, TT_50, TT_57, TT_59, TT_66, TT_68, TT_69, TT_70, TT_72, TT_81, bb, primP, primM, ev, evs, parts_, ofConst, bin, un, intBin, putA, enterT, Nat.reduceEqDiff, Nat.reduceAdd, Nat.reduceMul, Nat.reduceLeDiff, Nat.reduceLT, ↓reduceIte, reduceCtorEq, RunRes, resultsA, oneOf, AV.plain, AV.cells, AHeap.push, AHeap.set, AHeap.empty, fieldOf, loadA, storeA, BX.part, TK.isAgg, convA, builtinA, inertB, builtinP, buildA, fillA, splice, eqv, cellsEq, sizeT, adT, ldT, fwT, Nat.reduceBeqDiff, Nat.reduceBneDiff, Int.reduceBNe, Int.reduceBEq, Int.reduceEq, Int.reduceLT, Int.reduceLE, Int.reduceAdd, Int.reduceSub, Int.reduceMul, Int.reduceNeg, strBin, indexAddrA, elems, lenOf, chunk, List.reduceReplicate, Int.reduceToNat]
  refine RefRuns_call hd1 hP hr hr2 ?_
  intro rb n2 A2 ys hown2 hys hPy hn2 hk2
  have hlen := hPy.len_eq hPx
  rw [List.length_map, List.length_map] at hlen
  have hla := hown1.lenOf
  rw [rowsR, List.length_map] at hla
  have hlb := hown2.lenOf
  rw [rowsR, List.length_map, hlen] at hlb
  simp only [lenOf] at hla hlb
  have e1 : ((xs.length : Int) != (xs.length : Int)) = false := by simp
  simp only [hla, hlb, e1, lenOf, i64, n4_0, n4_1, n4_2, n4_3, n4_4, n4_5, n4_6, n4_7, n4_8, n4_9, n4_10, n4_11, n4_12, n4_13, n4_14, n4_15, n4_16, n4_17, n4_18, n4_19, n4_20, n4_21, n4_22, n4_23, n4_24, n4_25, n4_26, n4_27, n4_28, n4_29, n4_30, n4_31, n4_32, n4_33, n4_34, n4_35, n4_36, n4_37, n4_38, n4_39, n4_40, n4_41, n4_42, n4_43, n4_44, n4_45, n4_46, n4_47, n4_48, n4_49, n4_50, n4_51, n4_52, n4_53, n4_54, n4_55, n4_56, n4_57, n4_58, n4_59, n4_60, n4_61, n4_62, n4_64, n4_65, n4_66, n4_67, n4_68, n4_69, n4_70, n4_71, n4_72, n4_73, n4_74, n4_75, n4_76, n4_77, n4_78, n4_79, n4_80, n4_81, n4_82, n4_83, n4_84, n4_85, n4_86, n4_87, n4_88, n4_89, n4_90, n4_91, n4_93, n4_94, n4_95, n4_96, n4_97, n4_98, n4_99, n4_100, n4_101, n4_102, n4_103, n4_104, n4_105, n4_106, n4_107, n4_108, n4_109, n4_110, n4_111, n4_112, n4_113, n4_114, o4_1, o4_4, o4_7, o4_11, o4_14, o4_17, o4_21, o4_24, o4_29, o4_36, o4_38, o4_41, o4_43, o4_46, o4_49, o4_52, o4_54, o4_57, o4_60, o4_65, o4_70, o4_77, o4_80, o4_83, o4_85, o4_87, o4_90, o4_93, o4_97, o4_100, o4_104, o4_106, o4_109, o4_113, res4, TT_3, TT_4, TT_5, TT_9, TT_22, TT_25, TT_26, TT_29, TT_33, TT_38, TT_40, TT_42, TT_47, TT_50, TT_57, TT_59, TT_66, TT_68, TT_69, TT_70, TT_72, TT_81, bb, primP, primM, ev, evs, parts_, ofConst, bin, un, intBin, putA, enterT, Nat.reduceEqDiff, Nat.reduceAdd, Nat.reduceMul, Nat.reduceLeDiff, Nat.reduceLT, ↓reduceIte, reduceCtorEq, RunRes, resultsA, oneOf, AV.plain, AV.cells, AHeap.push, AHeap.set, AHeap.empty, fieldOf, loadA, storeA, BX.part, TK.isAgg, convA, builtinA, inertB, builtinP, buildA, fillA, splice, eqv, cellsEq, sizeT, adT, ldT, fwT, Nat.reduceBeqDiff, Nat.reduceBneDiff, Int.reduceBNe, Int.reduceBEq, Int.reduceEq, Int.reduceLT, Int.reduceLE, Int.reduceAdd, Int.reduceSub, Int.reduceMul, Int.reduceNeg, strBin, indexAddrA, elems, lenOf, chunk, List.reduceReplicate, Int.reduceToNat]
  have hd2 : OwnK 3 42 6 d n2 A2 (P.map encP) := hd1.keep hn2 (fun g hg _ => hk2 g hg)
  have hS2 := hS1.keep hn2 (fun g _ hg => hk2 g hg)
  have hxs2 : ∀ x, x ∈ xs → RV n2 A2 x.1 x.2 ∧ x.2.length ≤ 100000 := by
    intro x hx
    refine ⟨(hxs x hx).keep hn2 (fun g hg _ => hk2 g hg), ?_⟩
    obtain ⟨i, hi, rfl⟩ := List.getElem_of_mem hx
    have h1 := hPx.len (i := i) (by rw [List.length_map]; exact hi)
    rw [List.getElem_map] at h1
    omega
  have hxl : xs.length ≤ 1000 := by
    rcases hPx.lst with h | h
    · rw [List.length_map] at h; omega
    · rw [List.length_map] at h
      have : (xs.length - 1) * 1 ≤ (xs.length - 1) * room := Nat.mul_le_mul_left _ hr
      omega
  have heq : ∀ i (h : i < xs.length), (ys[i]'(by omega)).2 = (xs[i]).2 := by
    intro i h
    have h1 := hPx.srt i (by rw [List.length_map]; exact h)
    have h2 := hPy.srt i (by rw [List.length_map]; omega)
    rw [List.getElem_map] at h1 h2
    exact h2.uniq h1
  obtain ⟨m, _, hm, _, _⟩ := RefSort_ok (l := P) (.inr (.inr rfl)) (by omega)
  have go : ∀ (T : Nat → AV), T 1 = .int .i64 (room : Int) → T 5 = .ptr 0 1 0 0 → T 6 = .ptr 1 1 0 0 → T 7 = .ptr 2 4 0 0 → T 9 = d → Run Cx 4 T [] none [.code c4_84] ⟨n2, A2⟩ (fun r0 H' => BX.freeze H' r0 = some (.bool true)) := by
    intro T t1 t5 t6 t7 t9
    simp only [t9, n4_0, n4_1, n4_2, n4_3, n4_4, n4_5, n4_6, n4_7, n4_8, n4_9, n4_10, n4_11, n4_12, n4_13, n4_14, n4_15, n4_16, n4_17, n4_18, n4_19, n4_20, n4_21, n4_22, n4_23, n4_24, n4_25, n4_26, n4_27, n4_28, n4_29, n4_30, n4_31, n4_32, n4_33, n4_34, n4_35, n4_36, n4_37, n4_38, n4_39, n4_40, n4_41, n4_42, n4_43, n4_44, n4_45, n4_46, n4_47, n4_48, n4_49, n4_50, n4_51, n4_52, n4_53, n4_54, n4_55, n4_56, n4_57, n4_58, n4_59, n4_60, n4_61, n4_62, n4_63, n4_64, n4_65, n4_66, n4_67, n4_68, n4_69, n4_70, n4_71, n4_72, n4_73, n4_74, n4_75, n4_76, n4_77, n4_78, n4_79, n4_80, n4_81, n4_82, n4_83, n4_84, n4_85, n4_87, n4_88, n4_89, n4_90, n4_91, n4_93, n4_94, n4_95, n4_96, n4_97, n4_98, n4_99, n4_100, n4_101, n4_102, n4_103, n4_104, n4_105, n4_106, n4_107, n4_108, n4_109, n4_110, n4_111, n4_112, n4_113, n4_114, o4_1, o4_4, o4_7, o4_11, o4_14, o4_17, o4_21, o4_24, o4_29, o4_36, o4_38, o4_41, o4_43, o4_46, o4_49, o4_52, o4_54, o4_57, o4_60, o4_65, o4_70, o4_77, o4_80, o4_83, o4_85, o4_87, o4_90, o4_93, o4_97, o4_100, o4_104, o4_106, o4_109, o4_113, res4, TT_3, TT_4, TT_5, TT_9, TT_22, TT_25, TT_26, TT_29, TT_33, TT_38, TT_40, TT_42, TT_47, TT_50, TT_57, TT_59, TT_66, TT_68, TT_69, TT_70, TT_72, TT_81, bb, primP, primM, ev, evs, parts_, ofConst, bin, un, intBin, putA, enterT, Nat.reduceEqDiff, Nat.reduceAdd, Nat.reduceMul, Nat.reduceLeDiff, Nat.reduceLT, ↓reduceIte, reduceCtorEq, RunRes, resultsA, oneOf, AV.plain, AV.cells, AHeap.push, AHeap.set, AHeap.empty, fieldOf, loadA, storeA, BX.part, TK.isAgg, convA, builtinA, inertB, builtinP, buildA, fillA, splice, eqv, cellsEq, sizeT, adT, ldT, fwT, Nat.reduceBeqDiff, Nat.reduceBneDiff, Int.reduceBNe, Int.reduceBEq, Int.reduceEq, Int.reduceLT, Int.reduceLE, Int.reduceAdd, Int.reduceSub, Int.reduceMul, Int.reduceNeg, strBin, indexAddrA, elems, lenOf, chunk, List.reduceReplicate, Int.reduceToNat]
    refine RefSort_own hd2 (by omega) ?_
    intro m' w hm' hw
    obtain rfl := hm'.uniq hm
    have hwp := hw.plain
    have hwc := hw.cells
    simp only [AV.plain] at hwp
    simp only [AV.cells] at hwc
    simp only [t7, hwp, hwc, upd2, n4_0, n4_1, n4_2, n4_3, n4_4, n4_5, n4_6, n4_7, n4_8, n4_9, n4_10, n4_11, n4_12, n4_13, n4_14, n4_15, n4_16, n4_17, n4_18, n4_19, n4_20, n4_21, n4_22, n4_23, n4_24, n4_25, n4_26, n4_27, n4_28, n4_29, n4_30, n4_31, n4_32, n4_33, n4_34, n4_35, n4_36, n4_37, n4_38, n4_39, n4_40, n4_41, n4_42, n4_43, n4_44, n4_45, n4_46, n4_47, n4_48, n4_49, n4_50, n4_51, n4_52, n4_53, n4_54, n4_55, n4_56, n4_57, n4_58, n4_59, n4_60, n4_61, n4_62, n4_63, n4_64, n4_65, n4_66, n4_67, n4_68, n4_69, n4_70, n4_71, n4_72, n4_73, n4_74, n4_75, n4_76, n4_77, n4_78, n4_79, n4_80, n4_81, n4_82, n4_83, n4_84, n4_85, n4_86, n4_87, n4_88, n4_89, n4_90, n4_93, n4_94, n4_95, n4_96, n4_97, n4_98, n4_99, n4_100, n4_101, n4_102, n4_103, n4_104, n4_105, n4_106, n4_107, n4_108, n4_109, n4_110, n4_111, n4_113, n4_114, o4_1, o4_4, o4_7, o4_11, o4_14, o4_17, o4_21, o4_24, o4_29, o4_36, o4_38, o4_41, o4_43, o4_46, o4_49, o4_52, o4_54, o4_57, o4_60, o4_65, o4_70, o4_77, o4_80, o4_83, o4_85, o4_87, o4_90, o4_93, o4_97, o4_100, o4_104, o4_106, o4_109, o4_113, res4, TT_3, TT_4, TT_5, TT_9, TT_22, TT_25, TT_26, TT_29, TT_33, TT_38, TT_40, TT_42, TT_47, TT_50, TT_57, TT_59, TT_66, TT_68, TT_69, TT_70, TT_72, TT_81, bb, primP, primM, ev, evs, parts_, ofConst, bin, un, intBin, putA, enterT, Nat.reduceEqDiff, Nat.reduceAdd, Nat.reduceMul, Nat.reduceLeDiff, Nat.reduceLT, ↓reduceIte, reduceCtorEq, RunRes, resultsA, oneOf, AV.plain, AV.cells, AHeap.push, AHeap.set, AHeap.empty, fieldOf, loadA, storeA, BX.part, TK.isAgg, convA, builtinA, inertB, builtinP, buildA, fillA, splice, eqv, cellsEq, sizeT, adT, ldT, fwT, Nat.reduceBeqDiff, Nat.reduceBneDiff, Int.reduceBNe, Int.reduceBEq, Int.reduceEq, Int.reduceLT, Int.reduceLE, Int.reduceAdd, Int.reduceSub, Int.reduceMul, Int.reduceNeg, strBin, indexAddrA, elems, lenOf, chunk, List.reduceReplicate, Int.reduceToNat]
    generalize hA3 : upd (upd A2 n2 _) (n2 + 1) _ = A3
    have hk3 : ∀ c, c < n2 → A3 c = A2 c := fun c hc => by rw [← hA3, upd_app, if_neg (by omega), upd_app, if_neg (by omega)]
    have am : A3 n2 = .cells 22 1 [[w]] := by rw [← hA3, upd_app, if_neg (by omega)]; simp only [upd_app, ↓reduceIte]
    have an : A3 (n2 + 1) = .cells 3 1 [[.int .i64 0]] := by rw [← hA3]; simp only [upd_app, ↓reduceIte]
    have hS3 := hS2.keep (n' := n2 + 1 + 1) (A' := A3) (by omega) (fun g _ hg => hk3 g hg)
    refine All_call hS3 hC hr (by omega) ?_
    intro rv n4 A4 zs hown4 hzs hPz hn4 hk4
    simp only [n4_0, n4_1, n4_2, n4_3, n4_4, n4_5, n4_6, n4_7, n4_8, n4_9, n4_10, n4_11, n4_12, n4_13, n4_14, n4_15, n4_16, n4_17, n4_18, n4_19, n4_20, n4_21, n4_22, n4_23, n4_24, n4_25, n4_26, n4_27, n4_28, n4_29, n4_30, n4_31, n4_32, n4_33, n4_34, n4_35, n4_36, n4_37, n4_38, n4_39, n4_40, n4_41, n4_42, n4_43, n4_44, n4_45, n4_46, n4_47, n4_48, n4_49, n4_50, n4_51, n4_52, n4_53, n4_54, n4_55, n4_56, n4_57, n4_58, n4_59, n4_60, n4_61, n4_62, n4_63, n4_64, n4_65, n4_66, n4_67, n4_68, n4_69, n4_70, n4_71, n4_72, n4_73, n4_74, n4_75, n4_76, n4_77, n4_78, n4_79, n4_80, n4_81, n4_82, n4_83, n4_84, n4_85, n4_86, n4_87, n4_88, n4_89, n4_90, n4_91, n4_93, n4_94, n4_95, n4_96, n4_97, n4_98, n4_99, n4_100, n4_101, n4_102, n4_103, n4_104, n4_105, n4_106, n4_107, n4_108, n4_109, n4_110, n4_111, n4_113, n4_114, o4_1, o4_4, o4_7, o4_11, o4_14, o4_17, o4_21, o4_24, o4_29, o4_36, o4_38, o4_41, o4_43, o4_46, o4_49, o4_52, o4_54, o4_57, o4_60, o4_65, o4_70, o4_77, o4_80, o4_83, o4_85, o4_87, o4_90, o4_93, o4_97, o4_100, o4_104, o4_106, o4_109, o4_113, res4, TT_3, TT_4, TT_5, TT_9, TT_22, TT_25, TT_26, TT_29, TT_33, TT_38, TT_40, TT_42, TT_47, TT_50, TT_57, TT_59, TT_66, TT_68, TT_69, TT_70, TT_72, TT_81, bb, primP, primM, ev, evs, parts_, ofConst, bin, un, intBin, putA, enterT, Nat.reduceEqDiff, Nat.reduceAdd, Nat.reduceMul, Nat.reduceLeDiff, Nat.reduceLT, ↓reduceIte, reduceCtorEq, RunRes, resultsA, oneOf, AV.plain, AV.cells, AHeap.push, AHeap.set, AHeap.empty, fieldOf, loadA, storeA, BX.part, TK.isAgg, convA, builtinA, inertB, builtinP, buildA, fillA, splice, eqv, cellsEq, sizeT, adT, ldT, fwT, Nat.reduceBeqDiff, Nat.reduceBneDiff, Int.reduceBNe, Int.reduceBEq, Int.reduceEq, Int.reduceLT, Int.reduceLE, Int.reduceAdd, Int.reduceSub, Int.reduceMul, Int.reduceNeg, strBin, indexAddrA, elems, lenOf, chunk, List.reduceReplicate, Int.reduceToNat]
    unfold c4_92
    refine run_rangeFunc (g := 38) rfl pure38 (noext _) body38 ?_
    generalize hT : upd (upd _ 109 _) 110 _ = T'
    have hTT : PLT T' n2 (n2 + 1) := by
      rw [← hT]
      refine ⟨?_, ?_, ?_, ?_⟩ <;> simp only [upd_app, t5, t6, Nat.reduceEqDiff, ↓reduceIte]
    have hN : PLN n2 (n2 + 1) (n4 + 1) (n4 + 1 + 1 + 1) := ⟨by omega, by omega, by omega, by omega⟩
    generalize hA5 : (loopH 4 T' [111] c4_93 c4_94 ⟨n4 + 1, upd A4 n4 (.cells 29 1 [[rv]])⟩) = H5
    have hH5 : H5 = ⟨n4 + 1 + 1 + 1, upd (upd (upd A4 n4 (.cells 29 1 [[rv]])) (n4 + 1) .dfr) (n4 + 1 + 1) (.loop (pL T' (n4 + 1)))⟩ := by rw [← hA5]; rfl
    rw [hH5]
    generalize hA6 : upd (upd (upd A4 n4 _) (n4 + 1) _) (n4 + 1 + 1) _ = A6
    have hk6 : ∀ c, c < n4 → A6 c = A4 c := fun c hc => by rw [← hA6, upd_app, if_neg (by omega), upd_app, if_neg (by omega), upd_app, if_neg (by omega)]
    have hall : ∀ c, c < n2 → A6 c = A2 c := fun c hc => (hk6 c (by omega)).trans ((hk4 c (by omega)).trans (hk3 c hc))
    have h6b : A6 n4 = .cells 29 1 [[rv]] := by rw [← hA6, upd_app, if_neg (by omega), upd_app, if_neg (by omega)]; simp only [upd_app, ↓reduceIte]
    have h6d : A6 (n4 + 1) = .dfr := by rw [← hA6, upd_app, if_neg (by omega)]; simp only [upd_app, ↓reduceIte]
    have h6l : A6 (n4 + 1 + 1) = .loop (pL T' (n4 + 1)) := by rw [← hA6]; simp only [upd_app, ↓reduceIte]
    have hzl : zs.length ≤ 1000 := by
      have := hPz.len_eq hPx
      rw [List.length_map, List.length_map] at this
      omega
    have hsort := hPz.sort' hm
    have hml : m'.length = P.length := hm.len
    refine merged_run (nx := n4 + 1 + 1 + 1) (b1 := n4) (l := n4 + 1 + 1) (L := pL T' (n4 + 1)) (I := fun out => PLH w stop n2 (n2 + 1) (n4 + 1) (n4 + 1 + 1 + 1) false out.length (pL T' (n4 + 1))) (Stp := fun nx A => ∃ cnt L, PLH w stop n2 (n2 + 1) (n4 + 1) (n4 + 1 + 1 + 1) true cnt L nx A ∧ L.state = .done ∧ L.pending = some .ret) (m := m') (rv := rv) (R := zs.length) (vs := vsO zs) (xs := xsO zs) ⟨?_, ?_, ?_, ?_, hzl, by rw [restO, hPz.all.2]; omega⟩ h6b (by omega) rfl (fun _ _ _ h => h.al) (fun _ _ _ _ _ h1 h2 h3 h4 => h1.keep hN h3 h4) (pl_round hw (by omega) hTT hN) ?_ ?_ (by rw [restO]; exact hsort) ?_
    · rcases hown4 with ⟨rfl, h⟩ | ⟨g, rfl, _, g2, g3⟩
      · refine .inl ⟨rfl, ?_⟩
        have : zs = [] := by simpa [rowsR] using h
        rw [this]; rfl
      · refine .inr (.inr ⟨g, by rw [rowsR, List.length_map], by omega, ?_⟩)
        rw [hk6 g g2, rowsO]; exact g3
    · intro r hr
      rw [(vsO_get hr).1, (vsO_get hr).2]
      exact (hzs _ (List.getElem_mem hr)).keep (by omega) (fun g hg _ => hk6 g hg)
    · intro r hr
      rw [(vsO_get hr).2]
      have := (hPz.srt r (by rw [List.length_map]; exact hr)).ord
      rw [List.getElem_map] at this
      exact this
    · intro r hr
      rw [(vsO_get hr).2]
      have h1 := hPz.len (i := r) (by rw [List.length_map]; exact hr)
      rw [List.getElem_map] at h1
      omega
    · intro nx A hI
      exact pl_end hw hTT hN nx A (.inl hI)
    · intro nx A hI
      exact pl_end hw hTT hN nx A (.inr hI)
    · intro A' hA'
      refine ⟨?_, ?_, ?_, ?_, ?_, ?_, by omega⟩
      · rw [hA' 0 (by omega), hall 0 (by omega), hk2 0 (by omega), hk1 0 (by omega)]; exact a0
      · rw [hA' 1 (by omega), hall 1 (by omega), hk2 1 (by omega), hk1 1 (by omega)]; exact a1
      · rw [hA' n2 (by omega), hk6 n2 (by omega), hk4 n2 (by omega)]; exact am
      · rw [hA' (n2 + 1) (by omega), hk6 (n2 + 1) (by omega), hk4 (n2 + 1) (by omega)]; exact an
      · rw [hA' (n4 + 1) (by omega)]; exact h6d
      · rw [hA' (n4 + 1 + 1) (by omega)]; exact h6l
  rcases hown1 with ⟨rfl, h⟩ | ⟨ga, rfl, _, ga2, ga3⟩
  · have hx0 : xs = [] := by simpa [rowsR] using h
    subst hx0
    have hy0 : ys = [] := List.eq_nil_of_length_eq_zero hlen
    subst hy0
    have hrb : rb = .nilS ∨ ∃ g, rb = .slc g 1 0 0 := by
      rcases hown2 with ⟨rfl, _⟩ | ⟨g, rfl, _⟩
      · exact .inl rfl
      · exact .inr ⟨g, rfl⟩
    simp only [List.length_nil, Int.cast_ofNat_Int, lenOf, i64, run_exit_start, exit_here, exit_code, exit_inLoop, run_inBlock, run_inLoop, n4_0, n4_1, n4_2, n4_3, n4_4, n4_5, n4_6, n4_7, n4_8, n4_9, n4_10, n4_11, n4_12, n4_13, n4_14, n4_15, n4_16, n4_17, n4_18, n4_19, n4_20, n4_21, n4_22, n4_23, n4_24, n4_25, n4_26, n4_27, n4_28, n4_29, n4_30, n4_31, n4_32, n4_33, n4_34, n4_35, n4_36, n4_37, n4_38, n4_39, n4_40, n4_41, n4_42, n4_43, n4_44, n4_45, n4_46, n4_47, n4_48, n4_49, n4_50, n4_51, n4_52, n4_53, n4_54, n4_55, n4_56, n4_57, n4_58, n4_59, n4_60, n4_61, n4_62, n4_63, n4_64, n4_65, n4_66, n4_67, n4_68, n4_69, n4_70, n4_71, n4_72, n4_73, n4_74, n4_75, n4_76, n4_77, n4_78, n4_79, n4_80, n4_81, n4_82, n4_83, n4_85, n4_86, n4_87, n4_88, n4_89, n4_90, n4_91, n4_93, n4_94, n4_95, n4_96, n4_97, n4_98, n4_99, n4_100, n4_101, n4_102, n4_103, n4_104, n4_105, n4_106, n4_107, n4_108, n4_109, n4_110, n4_111, n4_112, n4_113, n4_114, o4_1, o4_4, o4_7, o4_11, o4_14, o4_17, o4_21, o4_24, o4_29, o4_36, o4_38, o4_41, o4_43, o4_46, o4_49, o4_52, o4_54, o4_57, o4_60, o4_65, o4_70, o4_77, o4_80, o4_83, o4_85, o4_87, o4_90, o4_93, o4_97, o4_100, o4_104, o4_106, o4_109, o4_113, res4, TT_3, TT_4, TT_5, TT_9, TT_22, TT_25, TT_26, TT_29, TT_33, TT_38, TT_40, TT_42, TT_47, TT_50, TT_57, TT_59, TT_66, TT_68, TT_69, TT_70, TT_72, TT_81, bb, primP, primM, ev, evs, parts_, ofConst, bin, un, intBin, putA, enterT, Nat.reduceEqDiff, Nat.reduceAdd, Nat.reduceMul, Nat.reduceLeDiff, Nat.reduceLT, ↓reduceIte, reduceCtorEq, RunRes, resultsA, oneOf, AV.plain, AV.cells, AHeap.push, AHeap.set, AHeap.empty, fieldOf, loadA, storeA, BX.part, TK.isAgg, convA, builtinA, inertB, builtinP, buildA, fillA, splice, eqv, cellsEq, sizeT, adT, ldT, fwT, Nat.reduceBeqDiff, Nat.reduceBneDiff, Int.reduceBNe, Int.reduceBEq, Int.reduceEq, Int.reduceLT, Int.reduceLE, Int.reduceAdd, Int.reduceSub, Int.reduceMul, Int.reduceNeg, strBin, indexAddrA, elems, lenOf, chunk, List.reduceReplicate, Int.reduceToNat]
    refine go _ ?_ ?_ ?_ ?_ ?_
    all_goals simp only [upd_app, t1, t5, t6, t7, t9, Nat.reduceEqDiff, ↓reduceIte]
  · rcases hown2 with ⟨_, h⟩ | ⟨gb, rfl, _, gb2, gb3⟩
    · have hy0 : ys = [] := by simpa [rowsR] using h
      subst hy0
      have hx0 : xs = [] := List.eq_nil_of_length_eq_zero hlen.symm
      subst hx0
      have : (rowsR ([] : List (AV × List Pr))).length = 0 := rfl
      simp only [this, List.length_nil, Int.cast_ofNat_Int, lenOf, i64, run_exit_start, exit_here, exit_code, exit_inLoop, run_inBlock, run_inLoop, n4_0, n4_1, n4_2, n4_3, n4_4, n4_5, n4_6, n4_7, n4_8, n4_9, n4_10, n4_11, n4_12, n4_13, n4_14, n4_15, n4_16, n4_17, n4_18, n4_19, n4_20, n4_21, n4_22, n4_23, n4_24, n4_25, n4_26, n4_27, n4_28, n4_29, n4_30, n4_31, n4_32, n4_33, n4_34, n4_35, n4_36, n4_37, n4_38, n4_39, n4_40, n4_41, n4_42, n4_43, n4_44, n4_45, n4_46, n4_47, n4_48, n4_49, n4_50, n4_51, n4_52, n4_53, n4_54, n4_55, n4_56, n4_57, n4_58, n4_59, n4_60, n4_61, n4_62, n4_63, n4_64, n4_65, n4_66, n4_67, n4_68, n4_69, n4_70, n4_71, n4_72, n4_73, n4_74, n4_75, n4_76, n4_77, n4_78, n4_79, n4_80, n4_81, n4_82, n4_83, n4_85, n4_86, n4_87, n4_88, n4_89, n4_90, n4_91, n4_93, n4_94, n4_95, n4_96, n4_97, n4_98, n4_99, n4_100, n4_101, n4_102, n4_103, n4_104, n4_105, n4_106, n4_107, n4_108, n4_109, n4_110, n4_111, n4_112, n4_113, n4_114, o4_1, o4_4, o4_7, o4_11, o4_14, o4_17, o4_21, o4_24, o4_29, o4_36, o4_38, o4_41, o4_43, o4_46, o4_49, o4_52, o4_54, o4_57, o4_60, o4_65, o4_70, o4_77, o4_80, o4_83, o4_85, o4_87, o4_90, o4_93, o4_97, o4_100, o4_104, o4_106, o4_109, o4_113, res4, TT_3, TT_4, TT_5, TT_9, TT_22, TT_25, TT_26, TT_29, TT_33, TT_38, TT_40, TT_42, TT_47, TT_50, TT_57, TT_59, TT_66, TT_68, TT_69, TT_70, TT_72, TT_81, bb, primP, primM, ev, evs, parts_, ofConst, bin, un, intBin, putA, enterT, Nat.reduceEqDiff, Nat.reduceAdd, Nat.reduceMul, Nat.reduceLeDiff, Nat.reduceLT, ↓reduceIte, reduceCtorEq, RunRes, resultsA, oneOf, AV.plain, AV.cells, AHeap.push, AHeap.set, AHeap.empty, fieldOf, loadA, storeA, BX.part, TK.isAgg, convA, builtinA, inertB, builtinP, buildA, fillA, splice, eqv, cellsEq, sizeT, adT, ldT, fwT, Nat.reduceBeqDiff, Nat.reduceBneDiff, Int.reduceBNe, Int.reduceBEq, Int.reduceEq, Int.reduceLT, Int.reduceLE, Int.reduceAdd, Int.reduceSub, Int.reduceMul, Int.reduceNeg, strBin, indexAddrA, elems, lenOf, chunk, List.reduceReplicate, Int.reduceToNat]
      refine go _ ?_ ?_ ?_ ?_ ?_
      all_goals simp only [upd_app, t1, t5, t6, t7, t9, Nat.reduceEqDiff, ↓reduceIte]
    · simp only [run_exit_start, exit_here, exit_code, exit_inLoop, run_inBlock, n4_0, n4_1, n4_2, n4_3, n4_4, n4_5, n4_6, n4_7, n4_8, n4_9, n4_10, n4_11, n4_12, n4_13, n4_14, n4_15, n4_16, n4_17, n4_18, n4_19, n4_20, n4_21, n4_22, n4_23, n4_24, n4_25, n4_26, n4_27, n4_28, n4_29, n4_30, n4_31, n4_32, n4_33, n4_34, n4_35, n4_36, n4_37, n4_38, n4_39, n4_40, n4_41, n4_42, n4_43, n4_44, n4_45, n4_46, n4_47, n4_48, n4_49, n4_50, n4_51, n4_52, n4_53, n4_54, n4_55, n4_56, n4_57, n4_58, n4_59, n4_60, n4_61, n4_62, n4_63, n4_64, n4_65, n4_66, n4_67, n4_69, n4_70, n4_71, n4_72, n4_73, n4_74, n4_75, n4_76, n4_77, n4_78, n4_79, n4_80, n4_81, n4_82, n4_83, n4_85, n4_86, n4_87, n4_88, n4_89, n4_90, n4_91, n4_93, n4_94, n4_95, n4_96, n4_97, n4_98, n4_99, n4_100, n4_101, n4_102, n4_103, n4_104, n4_105, n4_106, n4_107, n4_108, n4_109, n4_110, n4_111, n4_112, n4_113, n4_114, o4_1, o4_4, o4_7, o4_11, o4_14, o4_17, o4_21, o4_24, o4_29, o4_36, o4_38, o4_41, o4_43, o4_46, o4_49, o4_52, o4_54, o4_57, o4_60, o4_65, o4_70, o4_77, o4_80, o4_83, o4_85, o4_87, o4_90, o4_93, o4_97, o4_100, o4_104, o4_106, o4_109, o4_113, res4, TT_3, TT_4, TT_5, TT_9, TT_22, TT_25, TT_26, TT_29, TT_33, TT_38, TT_40, TT_42, TT_47, TT_50, TT_57, TT_59, TT_66, TT_68, TT_69, TT_70, TT_72, TT_81, bb, primP, primM, ev, evs, parts_, ofConst, bin, un, intBin, putA, enterT, Nat.reduceEqDiff, Nat.reduceAdd, Nat.reduceMul, Nat.reduceLeDiff, Nat.reduceLT, ↓reduceIte, reduceCtorEq, RunRes, resultsA, oneOf, AV.plain, AV.cells, AHeap.push, AHeap.set, AHeap.empty, fieldOf, loadA, storeA, BX.part, TK.isAgg, convA, builtinA, inertB, builtinP, buildA, fillA, splice, eqv, cellsEq, sizeT, adT, ldT, fwT, Nat.reduceBeqDiff, Nat.reduceBneDiff, Int.reduceBNe, Int.reduceBEq, Int.reduceEq, Int.reduceLT, Int.reduceLE, Int.reduceAdd, Int.reduceSub, Int.reduceMul, Int.reduceNeg, strBin, indexAddrA, elems, lenOf, chunk, List.reduceReplicate, Int.reduceToNat]
      have r1 : (rowsR xs).length = xs.length := by rw [rowsR, List.length_map]
      have r2 : (rowsR ys).length = xs.length := by rw [rowsR, List.length_map, hlen]
      refine cp_all hxs2 hys hlen (by omega) heq (by rw [hk2 ga ga2]; exact ga3) gb3 go xs.length 0 _ (by omega) ?_ ?_ ?_ ?_ ?_ ?_ ?_ ?_
      all_goals simp only [upd_app, t1, t5, t6, t7, t9, r1, r2, Nat.reduceEqDiff, ↓reduceIte]
      all_goals rfl
theorem SorterPlays_ok {v : AV} {l : List Pr} {room stop : Int} (hv : InL v l) (hl : l.length ≤ maxLen) : PCall Cx 4 [v, .int .i64 room, .int .u8 stop] (.bool true) := by
  refine pcall_run (noext _) body4 ?_
  obtain ⟨s, hs, hsm⟩ := Small_ok hv hl
  have f0 : [v].all AV.flat = true := by simp [hv.e.flat]
  rcases hs with rfl | ⟨rfl, hl100⟩
  · simp only [call_pure pure_awake12 rfl awake12_ok, call_pure pure8 f0 hsm, n4_0, n4_1, n4_2, n4_3, n4_4, n4_5, n4_6, n4_7, n4_8, n4_9, n4_10, n4_11, n4_12, n4_13, n4_14, n4_15, n4_16, n4_17, n4_18, n4_19, n4_20, n4_21, n4_22, n4_23, n4_24, n4_25, n4_26, n4_27, n4_28, n4_29, n4_30, n4_31, n4_32, n4_33, n4_34, n4_35, n4_36, n4_37, n4_38, n4_39, n4_40, n4_41, n4_42, n4_43, n4_44, n4_45, n4_46, n4_47, n4_48, n4_49, n4_50, n4_51, n4_52, n4_53, n4_54, n4_55, n4_56, n4_57, n4_58, n4_59, n4_60, n4_61, n4_62, n4_63, n4_64, n4_65, n4_66, n4_67, n4_68, n4_69, n4_70, n4_71, n4_72, n4_73, n4_74, n4_75, n4_76, n4_77, n4_78, n4_79, n4_80, n4_81, n4_82, n4_83, n4_84, n4_85, n4_86, n4_87, n4_88, n4_89, n4_90, n4_91, n4_93, n4_94, n4_95, n4_96, n4_97, n4_98, n4_99, n4_100, n4_101, n4_102, n4_103, n4_104, n4_105, n4_106, n4_107, n4_108, n4_109, n4_110, n4_111, n4_112, n4_113, n4_114, o4_1, o4_4, o4_7, o4_11, o4_14, o4_17, o4_21, o4_24, o4_29, o4_36, o4_38, o4_41, o4_43, o4_46, o4_49, o4_52, o4_54, o4_57, o4_60, o4_65, o4_70, o4_77, o4_80, o4_83, o4_85, o4_87, o4_90, o4_93, o4_97, o4_100, o4_104, o4_106, o4_109, o4_113, res4, TT_3, TT_4, TT_5, TT_9, TT_22, TT_25, TT_26, TT_29, TT_33, TT_38, TT_40, TT_42, TT_47, TT_50, TT_57, TT_59, TT_66, TT_68, TT_69, TT_70, TT_72, TT_81, bb, primP, primM, ev, evs, parts_, ofConst, bin, un, intBin, putA, enterT, Nat.reduceEqDiff, Nat.reduceAdd, Nat.reduceMul, Nat.reduceLeDiff, Nat.reduceLT, ↓reduceIte, reduceCtorEq, RunRes, resultsA, oneOf, AV.plain, AV.cells, AHeap.push, AHeap.set, AHeap.empty, fieldOf, loadA, storeA, BX.part, TK.isAgg, convA, builtinA, inertB, builtinP, buildA, fillA, splice, eqv, cellsEq, sizeT, adT, ldT, fwT, Nat.reduceBeqDiff, Nat.reduceBneDiff, Int.reduceBNe, Int.reduceBEq, Int.reduceEq, Int.reduceLT, Int.reduceLE, Int.reduceAdd, Int.reduceSub, Int.reduceMul, Int.reduceNeg, strBin, indexAddrA, elems, lenOf, chunk, List.reduceReplicate, Int.reduceToNat]
  · by_cases hroom : room < 1 ∨ 4096 < room
    · simp only [call_pure pure_awake12 rfl awake12_ok, call_pure pure8 f0 hsm, n4_0, n4_1, n4_2, n4_3, n4_4, n4_5, n4_6, n4_7, n4_8, n4_9, n4_10, n4_11, n4_12, n4_14, n4_15, n4_16, n4_17, n4_18, n4_19, n4_20, n4_21, n4_22, n4_23, n4_24, n4_25, n4_26, n4_27, n4_28, n4_29, n4_30, n4_31, n4_32, n4_33, n4_34, n4_35, n4_36, n4_37, n4_38, n4_39, n4_40, n4_41, n4_42, n4_43, n4_44, n4_45, n4_46, n4_47, n4_48, n4_49, n4_50, n4_51, n4_52, n4_53, n4_54, n4_55, n4_56, n4_57, n4_58, n4_59, n4_60, n4_61, n4_62, n4_63, n4_64, n4_65, n4_66, n4_67, n4_68, n4_69, n4_70, n4_71, n4_72, n4_73, n4_74, n4_75, n4_76, n4_77, n4_78, n4_79, n4_80, n4_81, n4_82, n4_83, n4_84, n4_85, n4_86, n4_87, n4_88, n4_89, n4_90, n4_91, n4_93, n4_94, n4_95, n4_96, n4_97, n4_98, n4_99, n4_100, n4_101, n4_102, n4_103, n4_104, n4_105, n4_106, n4_107, n4_108, n4_109, n4_110, n4_111, n4_112, n4_113, n4_114, o4_1, o4_4, o4_7, o4_11, o4_14, o4_17, o4_21, o4_24, o4_29, o4_36, o4_38, o4_41, o4_43, o4_46, o4_49, o4_52, o4_54, o4_57, o4_60, o4_65, o4_70, o4_77, o4_80, o4_83, o4_85, o4_87, o4_90, o4_93, o4_97, o4_100, o4_104, o4_106, o4_109, o4_113, res4, TT_3, TT_4, TT_5, TT_9, TT_22, TT_25, TT_26, TT_29, TT_33, TT_38, TT_40, TT_42, TT_47, TT_50, TT_57, TT_59, TT_66, TT_68, TT_69, TT_70, TT_72, TT_81, bb, primP, primM, ev, evs, parts_, ofConst, bin, un, intBin, putA, enterT, Nat.reduceEqDiff, Nat.reduceAdd, Nat.reduceMul, Nat.reduceLeDiff, Nat.reduceLT, ↓reduceIte, reduceCtorEq, RunRes, resultsA, oneOf, AV.plain, AV.cells, AHeap.push, AHeap.set, AHeap.empty, fieldOf, loadA, storeA, BX.part, TK.isAgg, convA, builtinA, inertB, builtinP, buildA, fillA, splice, eqv, cellsEq, sizeT, adT, ldT, fwT, Nat.reduceBeqDiff, Nat.reduceBneDiff, Int.reduceBNe, Int.reduceBEq, Int.reduceEq, Int.reduceLT, Int.reduceLE, Int.reduceAdd, Int.reduceSub, Int.reduceMul, Int.reduceNeg, strBin, indexAddrA, elems, lenOf, chunk, List.reduceReplicate, Int.reduceToNat]
      refine New_no hroom ?_
      rcases hroom with h | h
      · simp only [h, isNilPt, n4_0, n4_1, n4_2, n4_3, n4_4, n4_5, n4_6, n4_7, n4_8, n4_9, n4_10, n4_11, n4_12, n4_13, n4_14, n4_15, n4_16, n4_17, n4_18, n4_19, n4_20, n4_21, n4_22, n4_23, n4_24, n4_25, n4_26, n4_27, n4_28, n4_29, n4_30, n4_31, n4_32, n4_33, n4_34, n4_35, n4_36, n4_37, n4_38, n4_39, n4_40, n4_41, n4_42, n4_43, n4_44, n4_45, n4_46, n4_47, n4_48, n4_49, n4_50, n4_51, n4_52, n4_53, n4_54, n4_55, n4_56, n4_57, n4_58, n4_59, n4_60, n4_61, n4_62, n4_63, n4_64, n4_65, n4_66, n4_67, n4_68, n4_69, n4_70, n4_71, n4_72, n4_73, n4_74, n4_75, n4_76, n4_77, n4_78, n4_79, n4_80, n4_81, n4_82, n4_83, n4_84, n4_85, n4_86, n4_87, n4_88, n4_89, n4_90, n4_91, n4_93, n4_94, n4_95, n4_96, n4_97, n4_98, n4_99, n4_100, n4_101, n4_102, n4_103, n4_104, n4_105, n4_106, n4_107, n4_108, n4_109, n4_110, n4_111, n4_112, n4_113, n4_114, o4_1, o4_4, o4_7, o4_11, o4_14, o4_17, o4_21, o4_24, o4_29, o4_36, o4_38, o4_41, o4_43, o4_46, o4_49, o4_52, o4_54, o4_57, o4_60, o4_65, o4_70, o4_77, o4_80, o4_83, o4_85, o4_87, o4_90, o4_93, o4_97, o4_100, o4_104, o4_106, o4_109, o4_113, res4, TT_3, TT_4, TT_5, TT_9, TT_22, TT_25, TT_26, TT_29, TT_33, TT_38, TT_40, TT_42, TT_47, TT_50, TT_57, TT_59, TT_66, TT_68, TT_69, TT_70, TT_72, TT_81, bb, primP, primM, ev, evs, parts_, ofConst, bin, un, intBin, putA, enterT, Nat.reduceEqDiff, Nat.reduceAdd, Nat.reduceMul, Nat.reduceLeDiff, Nat.reduceLT, ↓reduceIte, reduceCtorEq, RunRes, resultsA, oneOf, AV.plain, AV.cells, AHeap.push, AHeap.set, AHeap.empty, fieldOf, loadA, storeA, BX.part, TK.isAgg, convA, builtinA, inertB, builtinP, buildA, fillA, splice, eqv, cellsEq, sizeT, adT, ldT, fwT, Nat.reduceBeqDiff, Nat.reduceBneDiff, Int.reduceBNe, Int.reduceBEq, Int.reduceEq, Int.reduceLT, Int.reduceLE, Int.reduceAdd, Int.reduceSub, Int.reduceMul, Int.reduceNeg, strBin, indexAddrA, elems, lenOf, chunk, List.reduceReplicate, Int.reduceToNat]
      · have h' : ¬ room < 1 := by omega
        simp only [h, h', isNilPt, n4_0, n4_1, n4_2, n4_3, n4_4, n4_5, n4_6, n4_7, n4_8, n4_9, n4_10, n4_11, n4_12, n4_13, n4_14, n4_15, n4_16, n4_17, n4_18, n4_19, n4_20, n4_21, n4_22, n4_23, n4_24, n4_25, n4_26, n4_27, n4_28, n4_29, n4_30, n4_31, n4_32, n4_33, n4_34, n4_35, n4_36, n4_37, n4_38, n4_39, n4_40, n4_41, n4_42, n4_43, n4_44, n4_45, n4_46, n4_47, n4_48, n4_49, n4_50, n4_51, n4_52, n4_53, n4_54, n4_55, n4_56, n4_57, n4_58, n4_59, n4_60, n4_61, n4_62, n4_63, n4_64, n4_65, n4_66, n4_67, n4_68, n4_69, n4_70, n4_71, n4_72, n4_73, n4_74, n4_75, n4_76, n4_77, n4_78, n4_79, n4_80, n4_81, n4_82, n4_83, n4_84, n4_85, n4_86, n4_87, n4_88, n4_89, n4_90, n4_91, n4_93, n4_94, n4_95, n4_96, n4_97, n4_98, n4_99, n4_100, n4_101, n4_102, n4_103, n4_104, n4_105, n4_106, n4_107, n4_108, n4_109, n4_110, n4_111, n4_112, n4_113, n4_114, o4_1, o4_4, o4_7, o4_11, o4_14, o4_17, o4_21, o4_24, o4_29, o4_36, o4_38, o4_41, o4_43, o4_46, o4_49, o4_52, o4_54, o4_57, o4_60, o4_65, o4_70, o4_77, o4_80, o4_83, o4_85, o4_87, o4_90, o4_93, o4_97, o4_100, o4_104, o4_106, o4_109, o4_113, res4, TT_3, TT_4, TT_5, TT_9, TT_22, TT_25, TT_26, TT_29, TT_33, TT_38, TT_40, TT_42, TT_47, TT_50, TT_57, TT_59, TT_66, TT_68, TT_69, TT_70, TT_72, TT_81, bb, primP, primM, ev, evs, parts_, ofConst, bin, un, intBin, putA, enterT, Nat.reduceEqDiff, Nat.reduceAdd, Nat.reduceMul, Nat.reduceLeDiff, Nat.reduceLT, ↓reduceIte, reduceCtorEq, RunRes, resultsA, oneOf, AV.plain, AV.cells, AHeap.push, AHeap.set, AHeap.empty, fieldOf, loadA, storeA, BX.part, TK.isAgg, convA, builtinA, inertB, builtinP, buildA, fillA, splice, eqv, cellsEq, sizeT, adT, ldT, fwT, Nat.reduceBeqDiff, Nat.reduceBneDiff, Int.reduceBNe, Int.reduceBEq, Int.reduceEq, Int.reduceLT, Int.reduceLE, Int.reduceAdd, Int.reduceSub, Int.reduceMul, Int.reduceNeg, strBin, indexAddrA, elems, lenOf, chunk, List.reduceReplicate, Int.reduceToNat]
    · obtain ⟨r, rfl⟩ : ∃ r : Nat, room = (r : Int) := ⟨room.toNat, by omega⟩
      have h1 : ¬ (r : Int) < 1 := by omega
      have h2 : ¬ 4096 < (r : Int) := by omega
      simp only [call_pure pure_awake12 rfl awake12_ok, call_pure pure8 f0 hsm, n4_0, n4_1, n4_2, n4_3, n4_4, n4_5, n4_6, n4_7, n4_8, n4_9, n4_10, n4_11, n4_12, n4_14, n4_15, n4_16, n4_17, n4_18, n4_19, n4_20, n4_21, n4_22, n4_23, n4_24, n4_25, n4_26, n4_27, n4_28, n4_29, n4_30, n4_31, n4_32, n4_33, n4_34, n4_35, n4_36, n4_37, n4_38, n4_39, n4_40, n4_41, n4_42, n4_43, n4_44, n4_45, n4_46, n4_47, n4_48, n4_49, n4_50, n4_51, n4_52, n4_53, n4_54, n4_55, n4_56, n4_57, n4_58, n4_59, n4_60, n4_61, n4_62, n4_63, n4_64, n4_65, n4_66, n4_67, n4_68, n4_69, n4_70, n4_71, n4_72, n4_73, n4_74, n4_75, n4_76, n4_77, n4_78, n4_79, n4_80, n4_81, n4_82, n4_83, n4_84, n4_85, n4_86, n4_87, n4_88, n4_89, n4_90, n4_91, n4_93, n4_94, n4_95, n4_96, n4_97, n4_98, n4_99, n4_100, n4_101, n4_102, n4_103, n4_104, n4_105, n4_106, n4_107, n4_108, n4_109, n4_110, n4_111, n4_112, n4_113, n4_114, o4_1, o4_4, o4_7, o4_11, o4_14, o4_17, o4_21, o4_24, o4_29, o4_36, o4_38, o4_41, o4_43, o4_46, o4_49, o4_52, o4_54, o4_57, o4_60, o4_65, o4_70, o4_77, o4_80, o4_83, o4_85, o4_87, o4_90, o4_93, o4_97, o4_100, o4_104, o4_106, o4_109, o4_113, res4, TT_3, TT_4, TT_5, TT_9, TT_22, TT_25, TT_26, TT_29, TT_33, TT_38, TT_40, TT_42, TT_47, TT_50, TT_57, TT_59, TT_66, TT_68, TT_69, TT_70, TT_72, TT_81, bb, primP, primM, ev, evs, parts_, ofConst, bin, un, intBin, putA, enterT, Nat.reduceEqDiff, Nat.reduceAdd, Nat.reduceMul, Nat.reduceLeDiff, Nat.reduceLT, ↓reduceIte, reduceCtorEq, RunRes, resultsA, oneOf, AV.plain, AV.cells, AHeap.push, AHeap.set, AHeap.empty, fieldOf, loadA, storeA, BX.part, TK.isAgg, convA, builtinA, inertB, builtinP, buildA, fillA, splice, eqv, cellsEq, sizeT, adT, ldT, fwT, Nat.reduceBeqDiff, Nat.reduceBneDiff, Int.reduceBNe, Int.reduceBEq, Int.reduceEq, Int.reduceLT, Int.reduceLE, Int.reduceAdd, Int.reduceSub, Int.reduceMul, Int.reduceNeg, strBin, indexAddrA, elems, lenOf, chunk, List.reduceReplicate, Int.reduceToNat]
      refine New_call (by omega) (by omega) ?_
      intro A' hS hk
      have a0 : A' 0 = .cells 5 1 [[.int .u8 stop]] := by rw [hk 0 (by omega)]; rfl
      have a1 : A' 1 = .cells 4 1 [[.bool false]] := by rw [hk 1 (by omega)]; rfl
      by_cases h0 : l = []
      · subst h0
        rcases hv with ⟨rfl, _⟩ | rfl <;>
        · simp only [h1, h2, isNilPt, i64, List.map_nil, List.length_nil, Int.cast_ofNat_Int, lenOf, run_exit_start, exit_here, exit_code, exit_inLoop, run_inBlock, run_inLoop, n4_0, n4_1, n4_2, n4_3, n4_4, n4_5, n4_6, n4_7, n4_8, n4_9, n4_10, n4_11, n4_12, n4_13, n4_14, n4_15, n4_16, n4_17, n4_18, n4_19, n4_20, n4_21, n4_22, n4_23, n4_24, n4_25, n4_26, n4_27, n4_28, n4_29, n4_30, n4_31, n4_32, n4_33, n4_34, n4_35, n4_36, n4_37, n4_38, n4_39, n4_40, n4_41, n4_42, n4_43, n4_44, n4_45, n4_46, n4_47, n4_48, n4_49, n4_50, n4_51, n4_52, n4_54, n4_55, n4_56, n4_57, n4_58, n4_59, n4_60, n4_61, n4_62, n4_63, n4_64, n4_65, n4_66, n4_67, n4_68, n4_69, n4_70, n4_71, n4_72, n4_73, n4_74, n4_75, n4_76, n4_77, n4_78, n4_79, n4_80, n4_81, n4_82, n4_83, n4_84, n4_85, n4_86, n4_87, n4_88, n4_89, n4_90, n4_91, n4_93, n4_94, n4_95, n4_96, n4_97, n4_98, n4_99, n4_100, n4_101, n4_102, n4_103, n4_104, n4_105, n4_106, n4_107, n4_108, n4_109, n4_110, n4_111, n4_112, n4_113, n4_114, o4_1, o4_4, o4_7, o4_11, o4_14, o4_17, o4_21, o4_24, o4_29, o4_36, o4_38, o4_41, o4_43, o4_46, o4_49, o4_52, o4_54, o4_57, o4_60, o4_65, o4_70, o4_77, o4_80, o4_83, o4_85, o4_87, o4_90, o4_93, o4_97, o4_100, o4_104, o4_106, o4_109, o4_113, res4, TT_3, TT_4, TT_5, TT_9, TT_22, TT_25, TT_26, TT_29, TT_33, TT_38, TT_40, TT_42, TT_47, TT_50, TT_57, TT_59, TT_66, TT_68, TT_69, TT_70, TT_72, TT_81, bb, primP, primM, ev, evs, parts_, ofConst, bin, un, intBin, putA, enterT, Nat.reduceEqDiff, Nat.reduceAdd, Nat.reduceMul, Nat.reduceLeDiff, Nat.reduceLT, ↓reduceIte, reduceCtorEq, RunRes, resultsA, oneOf, AV.plain, AV.cells, AHeap.push, AHeap.set, AHeap.empty, fieldOf, loadA, storeA, BX.part, TK.isAgg, convA, builtinA, inertB, builtinP, buildA, fillA, splice, eqv, cellsEq, sizeT, adT, ldT, fwT, Nat.reduceBeqDiff, Nat.reduceBneDiff, Int.reduceBNe, Int.reduceBEq, Int.reduceEq, Int.reduceLT, Int.reduceLE, Int.reduceAdd, Int.reduceSub, Int.reduceMul, Int.reduceNeg, strBin, indexAddrA, elems, lenOf, chunk, List.reduceReplicate, Int.reduceToNat]
          refine sp_rest (room := r) (stop := stop) (P := []) (d := .nilS) (by simp) (by omega) (by omega) ?_ ?_ ?_ ?_ ?_ a0 a1 (by omega) hS (.nil (by omega)) (.inl ⟨rfl, rfl⟩)
          all_goals simp only [upd_app, enterT, List.getElem?_cons_zero, List.getElem?_cons_succ, Option.getD_some, Nat.reduceEqDiff, ↓reduceIte]
          all_goals rfl
      · obtain rfl := hv.e.vec h0
        simp only [h1, h2, isNilPt, i64, run_exit_start, exit_here, exit_code, exit_inLoop, run_inBlock, n4_0, n4_1, n4_2, n4_3, n4_4, n4_5, n4_6, n4_7, n4_8, n4_9, n4_10, n4_11, n4_12, n4_13, n4_14, n4_15, n4_16, n4_17, n4_18, n4_19, n4_20, n4_21, n4_22, n4_23, n4_24, n4_25, n4_26, n4_28, n4_29, n4_30, n4_31, n4_32, n4_33, n4_34, n4_35, n4_36, n4_37, n4_38, n4_39, n4_40, n4_41, n4_42, n4_43, n4_44, n4_45, n4_46, n4_47, n4_48, n4_49, n4_50, n4_51, n4_52, n4_54, n4_55, n4_56, n4_57, n4_58, n4_59, n4_60, n4_61, n4_62, n4_63, n4_64, n4_65, n4_66, n4_67, n4_68, n4_69, n4_70, n4_71, n4_72, n4_73, n4_74, n4_75, n4_76, n4_77, n4_78, n4_79, n4_80, n4_81, n4_82, n4_83, n4_84, n4_85, n4_86, n4_87, n4_88, n4_89, n4_90, n4_91, n4_93, n4_94, n4_95, n4_96, n4_97, n4_98, n4_99, n4_100, n4_101, n4_102, n4_103, n4_104, n4_105, n4_106, n4_107, n4_108, n4_109, n4_110, n4_111, n4_112, n4_113, n4_114, o4_1, o4_4, o4_7, o4_11, o4_14, o4_17, o4_21, o4_24, o4_29, o4_36, o4_38, o4_41, o4_43, o4_46, o4_49, o4_52, o4_54, o4_57, o4_60, o4_65, o4_70, o4_77, o4_80, o4_83, o4_85, o4_87, o4_90, o4_93, o4_97, o4_100, o4_104, o4_106, o4_109, o4_113, res4, TT_3, TT_4, TT_5, TT_9, TT_22, TT_25, TT_26, TT_29, TT_33, TT_38, TT_40, TT_42, TT_47, TT_50, TT_57, TT_59, TT_66, TT_68, TT_69, TT_70, TT_72, TT_81, bb, primP, primM, ev, evs, parts_, ofConst, bin, un, intBin, putA, enterT, Nat.reduceEqDiff, Nat.reduceAdd, Nat.reduceMul, Nat.reduceLeDiff, Nat.reduceLT, ↓reduceIte, reduceCtorEq, RunRes, resultsA, oneOf, AV.plain, AV.cells, AHeap.push, AHeap.set, AHeap.empty, fieldOf, loadA, storeA, BX.part, TK.isAgg, convA, builtinA, inertB, builtinP, buildA, fillA, splice, eqv, cellsEq, sizeT, adT, ldT, fwT, Nat.reduceBeqDiff, Nat.reduceBneDiff, Int.reduceBNe, Int.reduceBEq, Int.reduceEq, Int.reduceLT, Int.reduceLE, Int.reduceAdd, Int.reduceSub, Int.reduceMul, Int.reduceNeg, strBin, indexAddrA, elems, lenOf, chunk, List.reduceReplicate, Int.reduceToNat]
        refine pt_all (room := r) (stop := stop) (l := l) (by omega) (by omega) ?_ l.length 0 _ (2 + 1) A' [] [] .nilS (by omega) ?_ ?_ ?_ ?_ ?_ ?_ ?_ a0 a1 (by omega) (by rw [List.take_zero]; exact hS) (by rw [List.take_zero]; exact .nil (by omega)) (.inl ⟨rfl, by rw [List.take_zero]; rfl⟩) ⟨fun h => (by obtain ⟨m, e⟩ := h; cases e), fun _ _ _ _ _ _ h => (by obtain ⟨m, e⟩ := h; cases e)⟩
        · intro T n A now rs d t1 t5 t6 t7 t9 b0 b1 hn hS hC hd
          exact sp_rest (Nat.le_trans (List.length_filter_le _ _) (by omega)) (by omega) (by omega) t1 t5 t6 t7 t9 b0 b1 hn hS hC hd
        all_goals simp only [upd_app, enterT, List.getElem?_cons_zero, List.getElem?_cons_succ, Option.getD_some, Nat.reduceEqDiff, ↓reduceIte]
        all_goals rfl
end Go.Proofs.Ytbfjkomlnpolmaa.G

namespace Go.BX
open Go.ChangeShapes Go.WideShapes Go.ChangeAt Go.RowKit
variable {P : Program} {w : World} {H : Type} {enc : TypeId × Value → H} {base : Nat} {spare : Nat → Bool} {held : Bool}
theorem open_ints_struct {t : TypeId} {k : IntKind} {fs : Array Field} {v : Value} {d : DataW H} {ps : List MemPlace} {r : Reach} {b0 : Nat} (ht : P.underlying t = some (.struct fs)) (hval : Value.okWide P w r b0 t v) (hd : DataW.Trod enc P w base spare held t v d ps)
    (hf : ∀ (i : Nat) (f : Field), fs[i]? = some f → f.offset = i ∧ P.cellsOf f.type = 1 ∧ P.underlying f.type = some (.int k)) (hc : P.cellsOf t = fs.size) :
    ∃ ns : List Int, ns.length = fs.size ∧ v = .agg (ns.map (Value.int k)).toArray ∧ ∀ n, n ∈ ns → (Lit.int k n).wf = true := by
  obtain ⟨cs, rfl, hcs⟩ := okWide_struct ht hval
  obtain ⟨fuel, hfu⟩ := hd
  obtain ⟨xs, n, rfl, _, hlen, hxl, hx⟩ := DataW.trod_struct ht hfu
  have hcell : ∀ i, i < fs.size → ∃ m, cs[i]? = some (.int k m) ∧ (Lit.int k m).wf = true := by
    intro i hi
    obtain ⟨ho, hc1, hu⟩ := hf i fs[i] (Array.getElem?_eq_getElem hi)
    have h1 := hx i fs[i] (Array.getElem?_eq_getElem hi)
    rw [List.getElem?_eq_getElem (by omega)] at h1
    rw [ho, hc1] at h1
    obtain ⟨m, hm, _, hw⟩ := DataW.trod_int hu h1
    refine ⟨m, ?_, hw⟩
    have hil : i < cs.toList.length := by rw [show cs.toList.length = (Value.agg cs).cells.toList.length from rfl, hlen, hc]; exact hi
    simp only [Value.cells] at hm
    rw [List.drop_eq_getElem_cons hil] at hm
    simp only [List.take_succ_cons, List.take_zero, List.cons.injEq, and_true] at hm
    rw [← Array.getElem?_toList, List.getElem?_eq_getElem hil, hm]
  have hsz : cs.size = fs.size := by rw [hcs, hc]
  let nm : Value → Int := fun | .int _ n => n | _ => 0
  have hget : ∀ i (h : i < cs.size), ∃ m, cs[i] = .int k m ∧ (Lit.int k m).wf = true := fun i h => by
    obtain ⟨m, hm, hw⟩ := hcell i (by omega)
    rw [Array.getElem?_eq_getElem h] at hm
    exact ⟨m, by simpa using hm, hw⟩
  refine ⟨cs.toList.map nm, by simp [hsz], ?_, fun n hn => ?_⟩
  · congr 1
    apply Array.ext'
    simp only [List.map_map]
    apply List.ext_getElem
    · simp
    · intro i h1 h2
      obtain ⟨m, hm, _⟩ := hget i (by simpa using h1)
      simp only [List.getElem_map, Function.comp_apply, Array.getElem_toList, hm, nm]
  · simp only [List.mem_map] at hn
    obtain ⟨v, hv, rfl⟩ := hn
    obtain ⟨i, hi⟩ := List.getElem?_of_mem hv
    have hlt : i < cs.size := by simpa using (List.getElem?_eq_some_iff.mp hi).1
    obtain ⟨m, hm, hw⟩ := hget i hlt
    rw [Array.getElem?_toList, Array.getElem?_eq_getElem hlt, hm] at hi
    cases hi
    exact hw
end Go.BX

namespace Go.BX
open Go.ChangeShapes Go.WideShapes Go.ChangeAt Go.RowKit
set_option linter.unusedVariables false
set_option linter.unusedSimpArgs false
inductive Shp (P : Program) : TypeId → List AV → Prop
  | bool {t b} (h : P.underlying t = some .bool) : Shp P t [.bool b]
  | int {t k n} (h : P.underlying t = some (.int k)) (hw : (Lit.int k n).wf = true) : Shp P t [.int k n]
  | str {t s} (h : P.underlying t = some .string) (hl : s.length ≤ maxLen) : Shp P t [.str s]
  | nilS {t e} (h : P.underlying t = some (.slice e)) : Shp P t [.nilS]
  | vec {t e es} (h : P.underlying t = some (.slice e)) (hl : es.length ≤ maxLen) (he : ∀ r, r ∈ es → Shp P e r) : Shp P t [.vec (P.cellsOf e) es]
  | struct {t fs az} (h : P.underlying t = some (.struct fs)) (hl : az.length = P.cellsOf t) (hf : ∀ (i : Nat) (f : Field), fs[i]? = some f → Shp P f.type ((az.drop f.offset).take (P.cellsOf f.type))) : Shp P t az
variable {P : Program}
theorem shp_bool {t : TypeId} {az : List AV} (h : P.underlying t = some .bool) (hs : Shp P t az) : ∃ b, az = [.bool b] := by
  cases hs with
  | bool h' => exact ⟨_, rfl⟩
  | int h' | str h' | nilS h' | vec h' | struct h' => rw [h] at h'; cases h'
theorem shp_int {t : TypeId} {k : IntKind} {az : List AV} (h : P.underlying t = some (.int k)) (hs : Shp P t az) : ∃ n, az = [.int k n] ∧ (Lit.int k n).wf = true := by
  cases hs with
  | int h' hw => rw [h] at h'; cases h'; exact ⟨_, rfl, hw⟩
  | bool h' | str h' | nilS h' | vec h' | struct h' => rw [h] at h'; cases h'
theorem shp_str {t : TypeId} {az : List AV} (h : P.underlying t = some .string) (hs : Shp P t az) : ∃ s, az = [.str s] ∧ s.length ≤ maxLen := by
  cases hs with
  | str h' hl => exact ⟨_, rfl, hl⟩
  | bool h' | int h' | nilS h' | vec h' | struct h' => rw [h] at h'; cases h'
theorem shp_slice {t e : TypeId} {az : List AV} (h : P.underlying t = some (.slice e)) (hs : Shp P t az) : az = [.nilS] ∨ ∃ es, az = [.vec (P.cellsOf e) es] ∧ es.length ≤ maxLen ∧ ∀ r, r ∈ es → Shp P e r := by
  cases hs with
  | nilS h' => exact .inl rfl
  | vec h' hl he => rw [h] at h'; cases h'; exact .inr ⟨_, rfl, hl, he⟩
  | bool h' | int h' | str h' | struct h' => rw [h] at h'; cases h'
theorem shp_struct {t : TypeId} {fs : Array Field} {az : List AV} (h : P.underlying t = some (.struct fs)) (hs : Shp P t az) :
    az.length = P.cellsOf t ∧ ∀ (i : Nat) (f : Field), fs[i]? = some f → Shp P f.type ((az.drop f.offset).take (P.cellsOf f.type)) := by
  cases hs with
  | struct h' hl hf => rw [h] at h'; cases h'; exact ⟨hl, hf⟩
  | bool h' | int h' | str h' | nilS h' | vec h' => rw [h] at h'; cases h'
def ownF (P : Program) (fs : Array Field) (c : Nat) : Option Nat :=
  (List.range fs.size).find? fun i => match fs[i]? with
    | some f => decide (f.offset ≤ c) && decide (c < f.offset + P.cellsOf f.type)
    | none => false
def dataT (P : Program) : Nat → TypeId → Bool
  | 0, _ => false
  | d + 1, t =>
    match P.underlying t with
    | some .bool | some (.int _) | some .string => true
    | some (.slice e) => dataT P d e && decide (P.cellsOf e ≠ 0)
    | some (.struct fs) =>
      ((List.range (P.cellsOf t)).all fun c => (ownF P fs c).isSome) &&
      (List.range fs.size).all fun i => match fs[i]? with
        | some f => dataT P d f.type && decide (f.offset + P.cellsOf f.type ≤ P.cellsOf t) && (List.range (P.cellsOf f.type)).all fun j => ownF P fs (f.offset + j) == some i
        | none => false
    | _ => false
variable {w : World} {H : Type} {enc : TypeId × Value → H} {base : Nat} {spare : Nat → Bool} {held : Bool}
def Sts (w : World) (az : List AV) (cs : List Value) : Prop :=
  az.length = cs.length ∧ ∀ (i : Nat) (a : AV) (v : Value), az[i]? = some a → cs[i]? = some v → a.one = true ∧ VRel w (Old w) (fun _ => none) a v
theorem sts_one {a : AV} {v : Value} (h1 : a.one = true) (h : VRel w (Old w) (fun _ => none) a v) : Sts w [a] [v] := by
  refine ⟨rfl, fun i x y hx hy => ?_⟩
  match i, hx, hy with
  | 0, hx, hy => cases hx; cases hy; exact ⟨h1, h⟩
theorem cells_length {a : Addr} {n : Nat} {cs : List Value} (h : w.cells? base a n = some cs) : cs.length = n := by
  unfold World.cells? at h
  split at h
  · simpa using mapM_some_length h
  · cases h
theorem cells_get {a : Addr} {n : Nat} {cs : List Value} (h : w.cells? base a n = some cs) {i : Nat} (hi : i < n) : w.cell? (a.add i) = cs[i]? := by
  unfold World.cells? at h
  split at h
  · exact mapM_some_get h i i (by simp [hi])
  · cases h
theorem cell_spot {a : Addr} {v : Value} (h : w.cell? a = some v) : a.spot = none := by
  unfold World.cell? at h
  split at h
  · split at h
    · cases h
    · rename_i hs; simpa using hs
  · cases h
theorem add_eq {a : Addr} (hs : a.spot = none) (n : Nat) : a.add n = ⟨a.block, a.off + n, none⟩ := by
  unfold Addr.add
  split
  · rename_i h; subst h; cases a; simp_all
  · rfl
theorem list_choose {α : Type} {p : Nat → α → Prop} (n : Nat) (h : ∀ i, i < n → ∃ x, p i x) : ∃ l : List α, l.length = n ∧ ∀ (i : Nat) (x : α), l[i]? = some x → p i x := by
  have : ∀ i, ∃ x : Option α, (i < n → ∃ y, x = some y ∧ p i y) := fun i => by
    by_cases hi : i < n
    · obtain ⟨x, hx⟩ := h i hi; exact ⟨some x, fun _ => ⟨x, rfl, hx⟩⟩
    · exact ⟨none, fun h => absurd h hi⟩
  let F : Nat → Option α := fun i => Classical.choose (this i)
  have hF : ∀ i, i < n → ∃ y, F i = some y ∧ p i y := fun i => Classical.choose_spec (this i)
  refine ⟨(List.range n).filterMap F, ?_, ?_⟩
  · have : ∀ l : List Nat, (∀ i ∈ l, i < n) → (l.filterMap F).length = l.length := by
      intro l hl
      induction l with
      | nil => rfl
      | cons x xs ih =>
        obtain ⟨y, hy, _⟩ := hF x (hl x (by simp))
        rw [List.filterMap_cons, hy]
        simp [ih fun i hi => hl i (by simp [hi])]
    rw [this _ (by simp), List.length_range]
  · have key : ∀ l : List Nat, (∀ i ∈ l, i < n) → ∀ (j : Nat) (x : α), (l.filterMap F)[j]? = some x → ∃ i, l[j]? = some i ∧ F i = some x := by
      intro l hl
      induction l with
      | nil => intro j x h; simp at h
      | cons z zs ih =>
        intro j x h
        obtain ⟨y, hy, _⟩ := hF z (hl z (by simp))
        rw [List.filterMap_cons, hy] at h
        cases j with
        | zero => simp at h; subst h; exact ⟨z, rfl, hy⟩
        | succ j => exact ih (fun i hi => hl i (by simp [hi])) j x (by simpa using h)
    intro i x hx
    obtain ⟨i', hi', hx'⟩ := key _ (by simp) i x hx
    have hlt : i < n := by
      rcases Nat.lt_or_ge i n with h | h
      · exact h
      · rw [List.getElem?_eq_none (by simpa using h)] at hi'; cases hi'
    have : i' = i := by simp [List.getElem?_range hlt] at hi'; exact hi'.symm
    subst this
    obtain ⟨y, hy, hp⟩ := hF i' hlt
    rw [hx'] at hy; cases hy; exact hp
theorem open_cells : ∀ (d : Nat) {t : TypeId} {fuel : Nat} {cs : List Value} {x : DataW H × List MemPlace}, dataT P d t = true → DataW.trod enc P w base spare held fuel t cs = some x → ∃ az, Sts w az cs ∧ Shp P t az := by
  intro d
  induction d with
  | zero => intro t fuel cs x h; cases h
  | succ d ih =>
    intro t fuel cs x hd hx
    unfold dataT at hd
    split at hd
    · rename_i ht
      obtain ⟨b, rfl, _⟩ := DataW.trod_bool ht hx
      exact ⟨[.bool b], sts_one rfl (.bool b), .bool ht⟩
    · rename_i k ht
      obtain ⟨n, rfl, _, hw⟩ := DataW.trod_int ht hx
      exact ⟨[.int k n], sts_one rfl (.int k n), .int ht hw⟩
    · rename_i ht
      obtain ⟨s, rfl, _, hl⟩ := DataW.trod_string ht hx
      exact ⟨[.str s.data.toList], sts_one rfl (.str _ s rfl), .str ht (by simpa using hl)⟩
    · rename_i e ht
      simp only [Bool.and_eq_true, decide_eq_true_eq] at hd
      rcases DataW.trod_slice ht hx with ⟨rfl, _⟩ | ⟨a, len, cap, elems, rest, n, _, rfl, _, hb, hlc, hcm, hel, he, _, _⟩
      · exact ⟨[.nilS], sts_one rfl .nilS, .nilS ht⟩
      · have hrow : ∀ i, i < len → ∃ cs az, w.cells? base (a.add (i * P.cellsOf e)) (P.cellsOf e) = some cs ∧ Sts w az cs ∧ Shp P e az := by
          intro i hi
          have h1 := he i hi
          rw [List.getElem?_eq_getElem (by omega)] at h1
          simp only [Option.bind_eq_some_iff] at h1
          obtain ⟨cs, hcs, h2⟩ := h1
          obtain ⟨az, h3, h4⟩ := ih hd.1 h2
          exact ⟨cs, az, hcs, h3, h4⟩
        obtain ⟨rows, hrl, hrows⟩ := list_choose (α := List Value × List AV) (p := fun i z => w.cells? base (a.add (i * P.cellsOf e)) (P.cellsOf e) = some z.1 ∧ Sts w z.2 z.1 ∧ Shp P e z.2) len (fun i hi => by
          obtain ⟨cs, az, h⟩ := hrow i hi; exact ⟨(cs, az), h⟩)
        have hspot : len ≠ 0 → a.spot = none ∧ a.block < w.heap.size := by
          intro hne
          obtain ⟨cs, az, h, _⟩ := hrow 0 (by omega)
          have h0 := cells_get h (i := 0) (by omega)
          rw [List.getElem?_eq_getElem (by rw [cells_length h]; omega)] at h0
          simp only [Nat.zero_mul] at h0
          have e0 : (a.add 0).add 0 = a := rfl
          rw [e0] at h0
          exact ⟨cell_spot h0, cell_lt h0⟩
        have hz : ∀ (i : Nat) (r : List AV), (rows.map (·.2))[i]? = some r → ∃ cs, rows[i]? = some (cs, r) ∧ w.cells? base (a.add (i * P.cellsOf e)) (P.cellsOf e) = some cs ∧ Sts w r cs ∧ Shp P e r := by
          intro i r h
          rw [List.getElem?_map, Option.map_eq_some_iff] at h
          obtain ⟨z, hz, rfl⟩ := h
          obtain ⟨h1, h2, h3⟩ := hrows i z hz
          exact ⟨z.1, hz, h1, h2, h3⟩
        refine ⟨[.vec (P.cellsOf e) (rows.map (·.2))], sts_one rfl ?_, .vec ht (by simp; omega) ?_⟩
        · have hll : (rows.map (·.2)).length = len := by simp [hrl]
          have hgoal := VRel.vec (w := w) (U := Old w) (ι := fun _ => none) (rows.map (·.2)) a (P.cellsOf e) cap (fun i j => ((rows[i]?).bind fun z => z.1[j]?).getD undef) (by omega)
            (fun r hr => by
              obtain ⟨i, hi⟩ := List.getElem?_of_mem hr
              obtain ⟨cs, _, h1, h2, _⟩ := hz i r hi
              rw [h2.1, cells_length h1])
            (fun hne => (hspot (by intro h0; apply hne; apply List.eq_nil_of_length_eq_zero; omega)).2)
            (fun hne => (hspot (by intro h0; apply hne; apply List.eq_nil_of_length_eq_zero; omega)).1)
            (fun i j hi hj => by
              have hs := (hspot (by omega)).1
              obtain ⟨cs, hcs, h1, h2, _⟩ := hz i (rows.map (·.2))[i] (List.getElem?_eq_getElem hi)
              have h3 := cells_get h1 hj
              rw [hcs]
              simp only [Option.bind_some]
              rw [List.getElem?_eq_getElem (by rw [cells_length h1]; exact hj)] at h3 ⊢
              rw [← add_eq (a := ⟨a.block, a.off + i * P.cellsOf e, none⟩) rfl j, ← add_eq hs]
              exact h3)
            (fun r hr x hxr => by
              obtain ⟨i, hi⟩ := List.getElem?_of_mem hr
              obtain ⟨cs, _, h1, h2, _⟩ := hz i r hi
              obtain ⟨j, hj⟩ := List.getElem?_of_mem hxr
              have hjl : j < cs.length := by rw [← h2.1]; exact (List.getElem?_eq_some_iff.mp hj).1
              exact (h2.2 j x cs[j] hj (List.getElem?_eq_getElem hjl)).1)
            (fun i r j x hi hj => by
              obtain ⟨cs, hcs, h1, h2, _⟩ := hz i r hi
              have hjl : j < cs.length := by rw [← h2.1]; exact (List.getElem?_eq_some_iff.mp hj).1
              have h4 := (h2.2 j x cs[j] hj (List.getElem?_eq_getElem hjl)).2
              simp only [hcs, Option.bind_some, List.getElem?_eq_getElem hjl, Option.getD_some]
              exact h4)
          rw [hll] at hgoal
          exact hgoal
        · intro r hr
          obtain ⟨i, hi⟩ := List.getElem?_of_mem hr
          obtain ⟨_, _, _, _, h⟩ := hz i r hi
          exact h
    · rename_i fs ht
      simp only [Bool.and_eq_true, List.all_eq_true, List.mem_range] at hd
      obtain ⟨hcov, hflds⟩ := hd
      obtain ⟨xs, n, _, _, hcl, hxl, hxf⟩ := DataW.trod_struct ht hx
      have hfi : ∀ i, i < fs.size → ∃ az, ∀ f, fs[i]? = some f → Sts w az ((cs.drop f.offset).take (P.cellsOf f.type)) ∧ Shp P f.type az ∧ f.offset + P.cellsOf f.type ≤ P.cellsOf t ∧ ∀ j, j < P.cellsOf f.type → ownF P fs (f.offset + j) = some i := by
        intro i hi
        have hf0 : fs[i]? = some fs[i] := Array.getElem?_eq_getElem hi
        have h1 := hxf i fs[i] hf0
        rw [List.getElem?_eq_getElem (by omega)] at h1
        have h2 := hflds i hi
        rw [hf0] at h2
        simp only [Bool.and_eq_true, decide_eq_true_eq, List.all_eq_true, List.mem_range, beq_iff_eq] at h2
        obtain ⟨az, h3, h4⟩ := ih h2.1.1 h1
        exact ⟨az, fun f hf => by rw [hf0] at hf; cases hf; exact ⟨h3, h4, h2.1.2, h2.2⟩⟩
      obtain ⟨rows, hrl, hrows⟩ := list_choose fs.size hfi
      have hcell : ∀ c, c < P.cellsOf t → ∃ a, ∀ i f r, ownF P fs c = some i → fs[i]? = some f → rows[i]? = some r → f.offset ≤ c ∧ c < f.offset + P.cellsOf f.type ∧ r[c - f.offset]? = some a := by
        intro c hc
        have h1 := hcov c hc
        obtain ⟨i, hi⟩ := Option.isSome_iff_exists.mp h1
        have h2 := List.find?_some hi
        have h3 : i < fs.size := by simpa using List.mem_of_find?_eq_some hi
        have hf0 : fs[i]? = some fs[i] := Array.getElem?_eq_getElem h3
        rw [hf0] at h2
        simp only [Bool.and_eq_true, decide_eq_true_eq] at h2
        have hr0 : rows[i]? = some rows[i] := List.getElem?_eq_getElem (by omega)
        obtain ⟨hst, _, hle, _⟩ := hrows i rows[i] hr0 fs[i] hf0
        have hlen : rows[i].length = P.cellsOf fs[i].type := by rw [hst.1, List.length_take, List.length_drop, hcl]; omega
        refine ⟨(rows[i])[c - fs[i].offset]'(by omega), fun i' f r hi' hf hr => ?_⟩
        rw [hi] at hi'; cases hi'
        rw [hf0] at hf; cases hf
        rw [hr0] at hr; cases hr
        exact ⟨h2.1, h2.2, List.getElem?_eq_getElem _⟩
      obtain ⟨az, hal, has⟩ := list_choose (P.cellsOf t) hcell
      have hfield : ∀ (i : Nat) (f : Field) (r : List AV), fs[i]? = some f → rows[i]? = some r → (az.drop f.offset).take (P.cellsOf f.type) = r := by
        intro i f r hf hr
        obtain ⟨hst, _, hle, hown⟩ := hrows i r hr f hf
        have hlen : r.length = P.cellsOf f.type := by rw [hst.1, List.length_take, List.length_drop, hcl]; omega
        apply List.ext_getElem?
        intro j
        rcases Nat.lt_or_ge j (P.cellsOf f.type) with hj | hj
        · rw [List.getElem?_take_of_lt hj, List.getElem?_drop]
          have hc : az[f.offset + j]? = some (az[f.offset + j]'(by omega)) := List.getElem?_eq_getElem (by omega)
          obtain ⟨_, _, h3⟩ := has (f.offset + j) _ hc i f r (hown j hj) hf hr
          rw [hc, ← h3]
          congr 1; omega
        · rw [List.getElem?_eq_none (by simp; omega), List.getElem?_eq_none (by omega)]
      refine ⟨az, ⟨by omega, ?_⟩, .struct ht hal ?_⟩
      · intro c a v ha hv
        have hc : c < P.cellsOf t := by rw [← hal]; exact (List.getElem?_eq_some_iff.mp ha).1
        obtain ⟨i, hi⟩ := Option.isSome_iff_exists.mp (hcov c hc)
        have h3 : i < fs.size := by simpa using List.mem_of_find?_eq_some hi
        have hf0 : fs[i]? = some fs[i] := Array.getElem?_eq_getElem h3
        have hr0 : rows[i]? = some rows[i] := List.getElem?_eq_getElem (by omega)
        obtain ⟨hst, _, hle, _⟩ := hrows i rows[i] hr0 fs[i] hf0
        obtain ⟨h4, h5, h6⟩ := has c a ha i fs[i] rows[i] hi hf0 hr0
        refine hst.2 (c - fs[i].offset) a v h6 ?_
        rw [List.getElem?_take_of_lt (by omega), List.getElem?_drop, show fs[i].offset + (c - fs[i].offset) = c by omega]
        exact hv
      · intro i f hf
        have h3 : i < fs.size := (Array.getElem?_eq_some_iff.mp hf).1
        have hr0 : rows[i]? = some rows[i] := List.getElem?_eq_getElem (by omega)
        rw [hfield i f rows[i] hf hr0]
        exact (hrows i rows[i] hr0 f hf).2.1
    · cases hd
theorem open_val {t : TypeId} {v : Value} {x : DataW H} {ps : List MemPlace} {r : Reach} {b0 : Nat} (hd : dataT P 8 t = true) (hval : Value.okWide P w r b0 t v) (hx : DataW.Trod enc P w base spare held t v x ps) :
    ∃ av az, VRel w (Old w) (fun _ => none) av v ∧ Shp P t az ∧ (match P.underlying t with | some (.struct _) => av = .agg az | _ => az = [av]) := by
  obtain ⟨fuel, hf⟩ := hx
  obtain ⟨az, hst, hsh⟩ := open_cells 8 hd hf
  cases hu : P.underlying t with
  | none => exfalso; unfold dataT at hd; rw [hu] at hd; cases hd
  | some u =>
    by_cases hs : ∃ fs, u = .struct fs
    · obtain ⟨fs, rfl⟩ := hs
      obtain ⟨cs, rfl, hcs⟩ := okWide_struct hu hval
      refine ⟨.agg az, az, ?_, hsh, rfl⟩
      have hl : cs.toList.length = az.length := hst.1.symm
      have := VRel.agg (w := w) (U := Old w) (ι := fun _ => none) az cs.toList hl (fun a ha => by
        obtain ⟨i, hi⟩ := List.getElem?_of_mem ha
        have hil : i < cs.toList.length := by rw [hl]; exact (List.getElem?_eq_some_iff.mp hi).1
        exact (hst.2 i a cs.toList[i] hi (List.getElem?_eq_getElem hil)).1) (fun i a v ha hv => (hst.2 i a v ha hv).2)
      simpa using this
    · have hone : ∃ a, az = [a] := by
        cases hsh with
        | struct h' => rw [hu] at h'; cases h'; exact absurd ⟨_, rfl⟩ hs
        | bool _ | int _ | str _ | nilS _ | vec _ => exact ⟨_, rfl⟩
      obtain ⟨a, rfl⟩ := hone
      have hcl : v.cells.toList.length = 1 := hst.1.symm
      have hv : v.cells.toList = [v] := by
        cases v with
        | agg cs =>
          exfalso
          unfold Value.okWide at hval
          rw [hu] at hval
          have hcs : cs.toList.length = 1 := hcl
          obtain ⟨c, hc⟩ : ∃ c, cs.toList = [c] := List.length_eq_one_iff.mp hcs
          unfold dataT at hd
          rw [hu] at hd
          cases u <;> first | (cases hd; done) | (exact absurd ⟨_, rfl⟩ hs) | (simp [Cell.okWide, Cell.ok, hu] at hval)
        | _ => rfl
      refine ⟨a, [a], ?_, hsh, ?_⟩
      · exact (hst.2 0 a v rfl (by rw [hv]; rfl)).2
      · cases u <;> first | rfl | exact absurd ⟨_, rfl⟩ hs
end Go.BX

namespace Go.Proofs.Ytbfjkomlnpolmaa.G
open Go.BX
open Go.ChangeShapes Go.WideShapes Go.ChangeAt Go.RowKit
set_option linter.unusedVariables false
theorem own : ownKnob Try.prog.godebug = none := by kernel_rfl
theorem laidOut : laidOutB Try.prog = true := by kernel_rfl
theorem law_calls {f : FuncId} {args : List AV} (hx : Cx.ext f = none) (h : PCall Cx f args (.bool true)) {w : World} {vs : List Value} (ha : LsRel w (Old w) (fun _ => none) args vs) :
    Calls Try.prog f vs.toArray w (fun e w' => e = .returned (.bool true) ∧ Below w.heap.size w w') := by
  obtain ⟨n, hn⟩ := h
  refine (pcall_calls cok hx hn ha).mono ?_
  rintro e w' ⟨⟨v, U', rfl, hv⟩, hb⟩
  cases hv
  exact ⟨rfl, hb⟩
theorem i64_wf {n : Int} (h : (Lit.int .i64 n).wf = true) : -9223372036854775808 ≤ n ∧ n ≤ 9223372036854775807 := bounds_i64 h
end Go.Proofs.Ytbfjkomlnpolmaa.G

namespace Go.Proofs.Ytbfjkomlnpolmaa.G
open Go.BX
theorem dec_int {cs : List AV} (h : Shp Try.prog 3 cs) : ∃ n, cs = [.int .i64 n] ∧ (-9223372036854775808 ≤ n ∧ n ≤ 9223372036854775807) := by
  obtain ⟨n, h1, h2⟩ := shp_int Try.underlying3 h
  exact ⟨n, h1, i64_wf h2⟩
theorem dec_str {cs : List AV} (h : Shp Try.prog 9 cs) : ∃ s, cs = [.str s] ∧ s.length ≤ maxLen := shp_str Try.underlying9 h
theorem dec_spot {cs : List AV} (h : Shp Try.prog 38 cs) : ∃ x y, cs = [.int .i64 x, .int .i64 y] := by
  obtain ⟨hl, hf⟩ := shp_struct Try.underlying38 h
  have hl2 : cs.length = 2 := hl.trans (by kernel_rfl)
  match cs, hl2 with
  | [a0, a1], _ =>
    have f0 := hf 0 _ rfl
    have f1 := hf 1 _ rfl
    obtain ⟨x, hx, bx⟩ := dec_int f0
    obtain ⟨y, hy, by'⟩ := dec_int f1
    cases hx
    cases hy
    exact ⟨_, _, rfl⟩
theorem dec_val {cs : List AV} (h : Shp Try.prog 40 cs) : ∃ k n s x y, cs = [.int .i64 k, .int .i64 n, .str s, .int .i64 x, .int .i64 y] := by
  obtain ⟨hl, hf⟩ := shp_struct Try.underlying40 h
  have hl2 : cs.length = 5 := hl.trans (by kernel_rfl)
  match cs, hl2 with
  | [a0, a1, a2, a3, a4], _ =>
    have f0 := hf 0 _ rfl
    have f1 := hf 1 _ rfl
    have f2 := hf 2 _ rfl
    have f3 := hf 3 _ rfl
    obtain ⟨k, hk, bk⟩ := dec_int f0
    obtain ⟨n, hn, bn⟩ := dec_int f1
    obtain ⟨s, hs, bs⟩ := dec_str f2
    obtain ⟨x, y, hxy⟩ := dec_spot f3
    cases hk
    cases hn
    cases hs
    have hxy' : [a3, a4] = [.int .i64 x, .int .i64 y] := hxy
    cases hxy'
    exact ⟨_, _, _, _, _, rfl⟩
theorem dec_pair {cs : List AV} (h : Shp Try.prog 42 cs) : ∃ p : Pr, cs = encP p := by
  obtain ⟨hl, hf⟩ := shp_struct Try.underlying42 h
  have hl2 : cs.length = 6 := hl.trans (by kernel_rfl)
  match cs, hl2 with
  | [a0, a1, a2, a3, a4, a5], _ =>
    have f0 := hf 0 _ rfl
    have f1 := hf 1 _ rfl
    obtain ⟨z, hz, bz⟩ := dec_str f0
    obtain ⟨k, n, s, x, y, hv⟩ := dec_val f1
    cases hz
    have hv' : [a1, a2, a3, a4, a5] = [.int .i64 k, .int .i64 n, .str s, .int .i64 x, .int .i64 y] := hv
    cases hv'
    exact ⟨⟨z, k, n, s, x, y⟩, rfl⟩
theorem rows_list : ∀ {es : List (List AV)}, (∀ r, r ∈ es → ∃ p : Pr, r = encP p) → ∃ l : List Pr, es = l.map encP
  | [], _ => ⟨[], rfl⟩
  | r :: es, h => by
    obtain ⟨p, rfl⟩ := h r (by simp)
    obtain ⟨l, rfl⟩ := rows_list (es := es) (fun r hr => h r (by simp [hr]))
    exact ⟨p :: l, rfl⟩
theorem dec_list {a : AV} (h : Shp Try.prog 22 [a]) : ∃ l : List Pr, InL a l ∧ l.length ≤ maxLen := by
  rcases shp_slice Try.underlying22 h with e | ⟨es, e, hl, hr⟩
  · cases e
    exact ⟨[], .inl ⟨rfl, rfl⟩, by simp⟩
  · cases e
    obtain ⟨l, rfl⟩ := rows_list (fun r hm => dec_pair (hr r hm))
    have hc : Try.prog.cellsOf 42 = 6 := by kernel_rfl
    refine ⟨l, .inr (by rw [hc]), by simpa using hl⟩
end Go.Proofs.Ytbfjkomlnpolmaa.G

namespace Go.Proofs.Ytbfjkomlnpolmaa.G
open Go.BX
open Go.ChangeShapes Go.WideShapes Go.ChangeAt Go.RowKit
theorem dec_u8 {cs : List AV} (h : Shp Try.prog 5 cs) : ∃ n, cs = [.int .u8 n] ∧ (Lit.int .u8 n).wf = true := shp_int Try.underlying5 h
theorem dec_u8' {cs : List AV} (h : Shp Try.prog 5 cs) : ∃ n, cs = [.int .u8 n] ∧ 0 ≤ n ∧ n ≤ 255 := by
  obtain ⟨n, h1, h2⟩ := dec_u8 h
  exact ⟨n, h1, bounds_u8 h2⟩
end Go.Proofs.Ytbfjkomlnpolmaa.G

