import Derived.Test.YtkedlkcknhinoaaKRERight5
namespace Go.Proofs.Ytkedlkcknhinoaa.G
open Go.BX
set_option linter.unusedSimpArgs false
set_option linter.unusedVariables false
def txX (l : Bytes) (acc : Bytes) (i : Nat) : Except Int (Bytes × Nat) :=
  match l with
  | [] => .error 2
  | c :: r =>
    if c = 34 then (if 4096 < acc.length then .error 3 else .ok (acc, i + 1))
    else if c = 92 then
      match escX r with
      | .error e => .error e
      | .ok n => txX (r.drop 2) (acc ++ [UInt8.ofNat n.toNat]) (i + 3)
    else if plainB c then txX r (acc ++ [c]) (i + 1)
    else .error 6
termination_by l.length
decreasing_by
  all_goals simp only [List.length_cons, List.length_drop]; omega
def toAT : Except Int (Bytes × Nat) → AV
  | .error e => .tuple [val 0 0 [] 0 0, .int .i64 0, .int .i64 e]
  | .ok (t, i) => .tuple [val 1 0 t 0 0, .int .i64 (i : Int), .int .i64 0]
theorem escX_ok {r : Bytes} {n : Int} (h : escX r = .ok n) : 0 ≤ n ∧ n ≤ 255 ∧ 2 ≤ r.length := by
  unfold escX at h
  split at h
  · cases h
  · split at h
    · cases h
    · split at h
      · cases h
      · rename_i a _ ha b r2
        obtain ⟨h1, h2⟩ := hx_rng a
        obtain ⟨h3, h4⟩ := hx_rng b
        split at h
        · cases h
        · split at h
          · cases h
          · cases h
            refine ⟨by omega, by omega, by simp⟩
theorem escX_err {r : Bytes} {e : Int} (h : escX r = .error e) : e = 2 ∨ e = 6 := by
  unfold escX at h
  split at h
  · cases h; exact .inl rfl
  · split at h
    · cases h; exact .inr rfl
    · split at h
      · cases h; exact .inl rfl
      · split at h
        · cases h; exact .inr rfl
        · split at h
          · cases h; exact .inr rfl
          · cases h
def PX (s : Bytes) (r : AV) (i : Nat) (acc : Bytes) : Prop :=
  ∀ (T : Nat → AV) (h : Nat) (A : Nat → Blk), T 0 = .str s → T 2 = .ptr 0 5 0 0 → T 6 = .int .i64 (i : Int) → A 0 = .cells 35 5 [[.int .i64 0, .int .i64 0, .str [], .int .i64 0, .int .i64 0]] → 0 < h →
    ((T 5 = .nilS ∧ acc = []) ∨ ∃ g, T 5 = .slc g 1 0 acc.length ∧ 0 < g ∧ g < h ∧ A g = .cells 5 1 (ofBytes acc)) →
    Run Cx 53 T [] none [.code c53_9, .inScope c53_3] ⟨h, A⟩ (fun r0 H' => BX.freeze H' r0 = some r)
theorem text_goto1 : gotoA 0 [.inBlock 0, .code c53_56, .inScope c53_3] = some [.code (.seq .skip c53_9), .inScope c53_3] := by kernel_rfl
theorem text_goto2 : gotoA 0 [.inScope c53_3] = some [.code (.seq .skip c53_9), .inScope c53_3] := by kernel_rfl
theorem u8_ne {c : UInt8} {n : Nat} (hn : n < 256) (h : c ≠ UInt8.ofNat n) : ((c.toNat : Int) == (n : Int)) = false := by
  simp only [beq_eq_false_iff_ne, ne_eq]
  intro e
  refine h (UInt8.toNat_inj.mp ?_)
  rw [UInt8.toNat_ofNat']
  omega
theorem px_short {s acc : Bytes} {i : Nat} (hi : s.length ≤ i) : PX s (toAT (.error 2)) i acc := by
  intro T h A t0 t2 t6 a0 hh hb
  have g1 : ((s.length : Int) ≤ (i : Int)) = True := eq_true (by omega)
  simp only [toAT, t0, t2, t6, a0, g1, run_exit_start, exit_here, exit_code, run_inBlock, n53_0, n53_1, n53_2, n53_3, n53_4, n53_5, n53_6, n53_7, n53_8, n53_9, n53_10, n53_11, n53_12, n53_13, n53_14, n53_15, n53_16, n53_17, n53_18, n53_19, n53_20, n53_21, n53_22, n53_23, n53_24, n53_25, n53_26, n53_27, n53_28, n53_29, n53_30, n53_31, n53_32, n53_33, n53_34, n53_35, n53_36, n53_37, n53_38, n53_39, n53_40, n53_41, n53_42, n53_43, n53_44, n53_45, n53_46, n53_47, n53_49, n53_50, n53_51, n53_52, n53_53, n53_54, n53_55, n53_56, n53_57, n53_58, n53_59, o53_1, o53_4, o53_6, o53_12, o53_15, o53_18, o53_22, o53_25, o53_29, o53_32, o53_35, o53_38, o53_41, o53_45, o53_47, o53_50, o53_53, o53_57, o53_59, res53, TT_3, TT_4, TT_5, TT_9, TT_21, TT_22, TT_25, TT_33, TT_35, TT_37, TT_39, TT_47, TT_52, TT_56, TT_59, TT_60, TT_62, TT_63, TT_65, TT_73, TT_77, TT_82, TT_84, bb, primP, primM, ev, evs, parts_, ofConst, bin, un, intBin, putA, enterT, Nat.reduceEqDiff, Nat.reduceAdd, Nat.reduceMul, Nat.reduceLeDiff, Nat.reduceLT, ↓reduceIte, reduceCtorEq, RunRes, resultsA, oneOf, AV.plain, AV.cells, AHeap.push, AHeap.set, AHeap.empty, fieldOf, loadA, storeA, BX.part, TK.isAgg, convA, builtinA, inertB, builtinP, buildA, fillA, splice, eqv, cellsEq, sizeT, adT, ldT, fwT, Nat.reduceBeqDiff, Nat.reduceBneDiff, Int.reduceBNe, Int.reduceBEq, Int.reduceEq, Int.reduceLT, Int.reduceLE, Int.reduceAdd, Int.reduceSub, Int.reduceMul, Int.reduceNeg, strBin, indexAddrA, elems, lenOf, chunk, List.reduceReplicate, Int.reduceToNat]
theorem px_end {s acc : Bytes} {i : Nat} (hs : s.length ≤ 1000000) (hi : s[i]? = some 34) :
    PX s (toAT (if 4096 < acc.length then .error 3 else .ok (acc, i + 1))) i acc := by
  intro T h A t0 t2 t6 a0 hh hb
  have hlt : i < s.length := (List.getElem?_eq_some_iff.mp hi).1
  have g1 : ((s.length : Int) ≤ (i : Int)) = False := eq_false (by omega)
  have g2 : (0 : Int) ≤ (i : Int) := by omega
  have g3 : (((34 : UInt8).toNat : Int) == 34) = true := rfl
  have w1 : IntKind.i64.wrap ((i : Int) + 1) = ((i + 1 : Nat) : Int) := by rw [wr64 (by omega) (by omega)]; omega
  rcases hb with ⟨t5, rfl⟩ | ⟨g, t5, hg0, hgh, hA⟩
  · have g5 : ((4096 : Int) < (0 : Int)) = False := by simp
    have g6 : bytesOf ([] : List (List AV)) = some [] := rfl
    rw [if_neg (by simp)]
    simp only [toAT, t0, t2, t5, t6, a0, hi, g1, g2, g3, g5, g6, w1, indexA, Int.toNat_natCast, run_exit_start, exit_here, exit_code, run_inBlock, n53_0, n53_1, n53_2, n53_3, n53_4, n53_5, n53_6, n53_7, n53_8, n53_9, n53_10, n53_11, n53_12, n53_13, n53_14, n53_15, n53_16, n53_17, n53_18, n53_19, n53_20, n53_21, n53_22, n53_23, n53_24, n53_25, n53_26, n53_27, n53_28, n53_29, n53_30, n53_31, n53_32, n53_33, n53_34, n53_35, n53_36, n53_37, n53_38, n53_39, n53_40, n53_41, n53_42, n53_43, n53_44, n53_45, n53_46, n53_47, n53_49, n53_50, n53_51, n53_52, n53_53, n53_54, n53_55, n53_56, n53_57, n53_58, n53_59, o53_1, o53_4, o53_6, o53_12, o53_15, o53_18, o53_22, o53_25, o53_29, o53_32, o53_35, o53_38, o53_41, o53_45, o53_47, o53_50, o53_53, o53_57, o53_59, res53, TT_3, TT_4, TT_5, TT_9, TT_21, TT_22, TT_25, TT_33, TT_35, TT_37, TT_39, TT_47, TT_52, TT_56, TT_59, TT_60, TT_62, TT_63, TT_65, TT_73, TT_77, TT_82, TT_84, bb, primP, primM, ev, evs, parts_, ofConst, bin, un, intBin, putA, enterT, Nat.reduceEqDiff, Nat.reduceAdd, Nat.reduceMul, Nat.reduceLeDiff, Nat.reduceLT, ↓reduceIte, reduceCtorEq, RunRes, resultsA, oneOf, AV.plain, AV.cells, AHeap.push, AHeap.set, AHeap.empty, fieldOf, loadA, storeA, BX.part, TK.isAgg, convA, builtinA, inertB, builtinP, buildA, fillA, splice, eqv, cellsEq, sizeT, adT, ldT, fwT, Nat.reduceBeqDiff, Nat.reduceBneDiff, Int.reduceBNe, Int.reduceBEq, Int.reduceEq, Int.reduceLT, Int.reduceLE, Int.reduceAdd, Int.reduceSub, Int.reduceMul, Int.reduceNeg, strBin, indexAddrA, elems, lenOf, chunk, List.reduceReplicate, Int.reduceToNat]
  · have hbb := bytesOf_ofB acc
    have f7 : (acc.length ≤ (ofBytes acc).length) = True := eq_true (by rw [len_ofB]; omega)
    by_cases h4 : 4096 < acc.length
    · have g4 : ((4096 : Int) < (acc.length : Int)) = True := eq_true (by omega)
      rw [if_pos h4]
      simp only [toAT, t0, t2, t5, t6, a0, hA, hi, g1, g2, g3, g4, w1, hbb, f7, take_ofB, indexA, Int.toNat_natCast, run_exit_start, exit_here, exit_code, run_inBlock, n53_0, n53_1, n53_2, n53_3, n53_4, n53_5, n53_6, n53_7, n53_8, n53_9, n53_10, n53_11, n53_12, n53_13, n53_14, n53_15, n53_16, n53_17, n53_18, n53_19, n53_20, n53_21, n53_22, n53_23, n53_24, n53_25, n53_26, n53_27, n53_28, n53_29, n53_30, n53_31, n53_32, n53_33, n53_34, n53_35, n53_36, n53_37, n53_38, n53_39, n53_40, n53_41, n53_42, n53_43, n53_44, n53_45, n53_46, n53_47, n53_49, n53_50, n53_51, n53_52, n53_53, n53_54, n53_55, n53_56, n53_57, n53_58, n53_59, o53_1, o53_4, o53_6, o53_12, o53_15, o53_18, o53_22, o53_25, o53_29, o53_32, o53_35, o53_38, o53_41, o53_45, o53_47, o53_50, o53_53, o53_57, o53_59, res53, TT_3, TT_4, TT_5, TT_9, TT_21, TT_22, TT_25, TT_33, TT_35, TT_37, TT_39, TT_47, TT_52, TT_56, TT_59, TT_60, TT_62, TT_63, TT_65, TT_73, TT_77, TT_82, TT_84, bb, primP, primM, ev, evs, parts_, ofConst, bin, un, intBin, putA, enterT, Nat.reduceEqDiff, Nat.reduceAdd, Nat.reduceMul, Nat.reduceLeDiff, Nat.reduceLT, ↓reduceIte, reduceCtorEq, RunRes, resultsA, oneOf, AV.plain, AV.cells, AHeap.push, AHeap.set, AHeap.empty, fieldOf, loadA, storeA, BX.part, TK.isAgg, convA, builtinA, inertB, builtinP, buildA, fillA, splice, eqv, cellsEq, sizeT, adT, ldT, fwT, Nat.reduceBeqDiff, Nat.reduceBneDiff, Int.reduceBNe, Int.reduceBEq, Int.reduceEq, Int.reduceLT, Int.reduceLE, Int.reduceAdd, Int.reduceSub, Int.reduceMul, Int.reduceNeg, strBin, indexAddrA, elems, lenOf, chunk, List.reduceReplicate, Int.reduceToNat]
    · have g4 : ((4096 : Int) < (acc.length : Int)) = False := eq_false (by omega)
      rw [if_neg h4]
      simp only [toAT, t0, t2, t5, t6, a0, hA, hi, g1, g2, g3, g4, w1, hbb, f7, take_ofB, indexA, Int.toNat_natCast, run_exit_start, exit_here, exit_code, run_inBlock, n53_0, n53_1, n53_2, n53_3, n53_4, n53_5, n53_6, n53_7, n53_8, n53_9, n53_10, n53_11, n53_12, n53_13, n53_14, n53_15, n53_16, n53_17, n53_18, n53_19, n53_20, n53_21, n53_22, n53_23, n53_24, n53_25, n53_26, n53_27, n53_28, n53_29, n53_30, n53_31, n53_32, n53_33, n53_34, n53_35, n53_36, n53_37, n53_38, n53_39, n53_40, n53_41, n53_42, n53_43, n53_44, n53_45, n53_46, n53_47, n53_49, n53_50, n53_51, n53_52, n53_53, n53_54, n53_55, n53_56, n53_57, n53_58, n53_59, o53_1, o53_4, o53_6, o53_12, o53_15, o53_18, o53_22, o53_25, o53_29, o53_32, o53_35, o53_38, o53_41, o53_45, o53_47, o53_50, o53_53, o53_57, o53_59, res53, TT_3, TT_4, TT_5, TT_9, TT_21, TT_22, TT_25, TT_33, TT_35, TT_37, TT_39, TT_47, TT_52, TT_56, TT_59, TT_60, TT_62, TT_63, TT_65, TT_73, TT_77, TT_82, TT_84, bb, primP, primM, ev, evs, parts_, ofConst, bin, un, intBin, putA, enterT, Nat.reduceEqDiff, Nat.reduceAdd, Nat.reduceMul, Nat.reduceLeDiff, Nat.reduceLT, ↓reduceIte, reduceCtorEq, RunRes, resultsA, oneOf, AV.plain, AV.cells, AHeap.push, AHeap.set, AHeap.empty, fieldOf, loadA, storeA, BX.part, TK.isAgg, convA, builtinA, inertB, builtinP, buildA, fillA, splice, eqv, cellsEq, sizeT, adT, ldT, fwT, Nat.reduceBeqDiff, Nat.reduceBneDiff, Int.reduceBNe, Int.reduceBEq, Int.reduceEq, Int.reduceLT, Int.reduceLE, Int.reduceAdd, Int.reduceSub, Int.reduceMul, Int.reduceNeg, strBin, indexAddrA, elems, lenOf, chunk, List.reduceReplicate, Int.reduceToNat]
theorem px_form {s acc : Bytes} {i : Nat} {c : UInt8} (hs : s.length ≤ 1000000) (hi : s[i]? = some c) (h34 : c ≠ 34) (h92 : c ≠ 92) (hc : plainB c = false) : PX s (toAT (.error 6)) i acc := by
  intro T h A t0 t2 t6 a0 hh hb
  have hlt : i < s.length := (List.getElem?_eq_some_iff.mp hi).1
  have g1 : ((s.length : Int) ≤ (i : Int)) = False := eq_false (by omega)
  have g2 : (0 : Int) ≤ (i : Int) := by omega
  have g3 : ((c.toNat : Int) == 34) = false := u8_ne (n := 34) (by omega) h34
  have g4 : ((c.toNat : Int) == 92) = false := u8_ne (n := 92) (by omega) h92
  have hcc : plainI (c.toNat : Int) = false := hc
  have hpl := plain_ok (c.toNat : Int)
  rw [hcc] at hpl
  simp only [toAT, t0, t2, t6, a0, hi, g1, g2, g3, g4, indexA, Int.toNat_natCast, call_pure pure59 rfl hpl, run_exit_start, exit_here, exit_code, run_inBlock, n53_0, n53_1, n53_2, n53_3, n53_4, n53_5, n53_6, n53_7, n53_8, n53_9, n53_10, n53_11, n53_12, n53_13, n53_14, n53_15, n53_16, n53_17, n53_18, n53_19, n53_20, n53_21, n53_22, n53_23, n53_24, n53_25, n53_26, n53_27, n53_28, n53_29, n53_30, n53_31, n53_32, n53_33, n53_34, n53_35, n53_36, n53_37, n53_38, n53_39, n53_40, n53_41, n53_42, n53_43, n53_44, n53_45, n53_46, n53_47, n53_49, n53_50, n53_51, n53_52, n53_53, n53_54, n53_55, n53_56, n53_57, n53_58, n53_59, o53_1, o53_4, o53_6, o53_12, o53_15, o53_18, o53_22, o53_25, o53_29, o53_32, o53_35, o53_38, o53_41, o53_45, o53_47, o53_50, o53_53, o53_57, o53_59, res53, TT_3, TT_4, TT_5, TT_9, TT_21, TT_22, TT_25, TT_33, TT_35, TT_37, TT_39, TT_47, TT_52, TT_56, TT_59, TT_60, TT_62, TT_63, TT_65, TT_73, TT_77, TT_82, TT_84, bb, primP, primM, ev, evs, parts_, ofConst, bin, un, intBin, putA, enterT, Nat.reduceEqDiff, Nat.reduceAdd, Nat.reduceMul, Nat.reduceLeDiff, Nat.reduceLT, ↓reduceIte, reduceCtorEq, RunRes, resultsA, oneOf, AV.plain, AV.cells, AHeap.push, AHeap.set, AHeap.empty, fieldOf, loadA, storeA, BX.part, TK.isAgg, convA, builtinA, inertB, builtinP, buildA, fillA, splice, eqv, cellsEq, sizeT, adT, ldT, fwT, Nat.reduceBeqDiff, Nat.reduceBneDiff, Int.reduceBNe, Int.reduceBEq, Int.reduceEq, Int.reduceLT, Int.reduceLE, Int.reduceAdd, Int.reduceSub, Int.reduceMul, Int.reduceNeg, strBin, indexAddrA, elems, lenOf, chunk, List.reduceReplicate, Int.reduceToNat]
theorem px_plain {s acc : Bytes} {i : Nat} {c : UInt8} {r : AV} (hs : s.length ≤ 1000000) (hi : s[i]? = some c) (h34 : c ≠ 34) (h92 : c ≠ 92) (hc : plainB c = true) (hl : acc.length ≤ 1000000) (hp : PX s r (i + 1) (acc ++ [c])) : PX s r i acc := by
  intro T h A t0 t2 t6 a0 hh hb
  have hlt : i < s.length := (List.getElem?_eq_some_iff.mp hi).1
  have g1 : ((s.length : Int) ≤ (i : Int)) = False := eq_false (by omega)
  have g2 : (0 : Int) ≤ (i : Int) := by omega
  have w1 : IntKind.i64.wrap ((i : Int) + 1) = ((i + 1 : Nat) : Int) := by rw [wr64 (by omega) (by omega)]; omega
  have hcc : plainI (c.toNat : Int) = true := hc
  have g3 : ((c.toNat : Int) == 34) = false := u8_ne (n := 34) (by omega) h34
  have g4 : ((c.toNat : Int) == 92) = false := u8_ne (n := 92) (by omega) h92
  have hpl := plain_ok (c.toNat : Int)
  rw [hcc] at hpl
  have hm1 : 1 ≤ most := by unfold most; omega
  have hm2 : acc.length + 1 ≤ most := by unfold most; omega
  have e1 : (h = h + 1) = False := eq_false (by omega)
  have e2 : (h + 1 = h) = False := eq_false (by omega)
  have e0 : (0 = h) = False := eq_false (by omega)
  have e00 : (0 = h + 1) = False := eq_false (by omega)
  have hsn := ofB_snoc acc c
  rcases hb with ⟨t5, rfl⟩ | ⟨g, t5, hg0, hgh, hA⟩
  · simp only [t0, t2, t5, t6, a0, hi, g1, g2, g3, g4, w1, hm1, e0, e00, e1, e2, builtinM, appendA, source, Nat.mul_one, List.length_singleton, runVH_some, indexA, Int.toNat_natCast, call_pure pure59 rfl hpl, run_exit_start, exit_here, exit_code, run_inBlock, n53_0, n53_1, n53_2, n53_3, n53_4, n53_5, n53_6, n53_7, n53_8, n53_9, n53_10, n53_11, n53_12, n53_13, n53_14, n53_15, n53_16, n53_17, n53_18, n53_19, n53_20, n53_21, n53_22, n53_23, n53_24, n53_25, n53_26, n53_27, n53_28, n53_29, n53_30, n53_31, n53_32, n53_33, n53_34, n53_35, n53_36, n53_37, n53_38, n53_39, n53_40, n53_41, n53_42, n53_43, n53_44, n53_45, n53_46, n53_47, n53_49, n53_50, n53_51, n53_52, n53_53, n53_54, n53_55, n53_56, n53_57, n53_58, n53_59, o53_1, o53_4, o53_6, o53_12, o53_15, o53_18, o53_22, o53_25, o53_29, o53_32, o53_35, o53_38, o53_41, o53_45, o53_47, o53_50, o53_53, o53_57, o53_59, res53, TT_3, TT_4, TT_5, TT_9, TT_21, TT_22, TT_25, TT_33, TT_35, TT_37, TT_39, TT_47, TT_52, TT_56, TT_59, TT_60, TT_62, TT_63, TT_65, TT_73, TT_77, TT_82, TT_84, bb, primP, primM, ev, evs, parts_, ofConst, bin, un, intBin, putA, enterT, Nat.reduceEqDiff, Nat.reduceAdd, Nat.reduceMul, Nat.reduceLeDiff, Nat.reduceLT, ↓reduceIte, reduceCtorEq, RunRes, resultsA, oneOf, AV.plain, AV.cells, AHeap.push, AHeap.set, AHeap.empty, fieldOf, loadA, storeA, BX.part, TK.isAgg, convA, builtinA, inertB, builtinP, buildA, fillA, splice, eqv, cellsEq, sizeT, adT, ldT, fwT, Nat.reduceBeqDiff, Nat.reduceBneDiff, Int.reduceBNe, Int.reduceBEq, Int.reduceEq, Int.reduceLT, Int.reduceLE, Int.reduceAdd, Int.reduceSub, Int.reduceMul, Int.reduceNeg, strBin, indexAddrA, elems, lenOf, chunk, List.reduceReplicate, Int.reduceToNat]
    unfold c53_60
    rw [run_goto text_goto2, run_seq, run_skip]
    refine hp _ _ _ ?_ ?_ ?_ ?_ ?_ (.inr ⟨h + 1, ?_, ?_, ?_, ?_⟩)
    all_goals first | omega | (simp only [upd_app, t0, t2, a0, e0, e00, e1, Nat.reduceEqDiff, ↓reduceIte]; done) | (simp only [upd_app, Nat.reduceEqDiff, ↓reduceIte]; rfl)
  · have f1 : (g = h) = False := eq_false (by omega)
    have f2 : (h = g) = False := eq_false (by omega)
    have f3 : (g = h + 1) = False := eq_false (by omega)
    have f4 : (h + 1 = g) = False := eq_false (by omega)
    have f5 : (0 = g) = False := eq_false (by omega)
    have f7 : (acc.length ≤ (ofBytes acc).length) = True := eq_true (by rw [len_ofB]; omega)
    simp only [t0, t2, t5, t6, a0, hA, hi, g1, g2, g3, g4, w1, hm2, e0, e00, e1, e2, f1, f2, f3, f4, f5, f7, take_ofB, hsn, builtinM, appendA, source, Nat.mul_one, List.length_singleton, runVH_some, indexA, Int.toNat_natCast, call_pure pure59 rfl hpl, run_exit_start, exit_here, exit_code, run_inBlock, n53_0, n53_1, n53_2, n53_3, n53_4, n53_5, n53_6, n53_7, n53_8, n53_9, n53_10, n53_11, n53_12, n53_13, n53_14, n53_15, n53_16, n53_17, n53_18, n53_19, n53_20, n53_21, n53_22, n53_23, n53_24, n53_25, n53_26, n53_27, n53_28, n53_29, n53_30, n53_31, n53_32, n53_33, n53_34, n53_35, n53_36, n53_37, n53_38, n53_39, n53_40, n53_41, n53_42, n53_43, n53_44, n53_45, n53_46, n53_47, n53_49, n53_50, n53_51, n53_52, n53_53, n53_54, n53_55, n53_56, n53_57, n53_58, n53_59, o53_1, o53_4, o53_6, o53_12, o53_15, o53_18, o53_22, o53_25, o53_29, o53_32, o53_35, o53_38, o53_41, o53_45, o53_47, o53_50, o53_53, o53_57, o53_59, res53, TT_3, TT_4, TT_5, TT_9, TT_21, TT_22, TT_25, TT_33, TT_35, TT_37, TT_39, TT_47, TT_52, TT_56, TT_59, TT_60, TT_62, TT_63, TT_65, TT_73, TT_77, TT_82, TT_84, bb, primP, primM, ev, evs, parts_, ofConst, bin, un, intBin, putA, enterT, Nat.reduceEqDiff, Nat.reduceAdd, Nat.reduceMul, Nat.reduceLeDiff, Nat.reduceLT, ↓reduceIte, reduceCtorEq, RunRes, resultsA, oneOf, AV.plain, AV.cells, AHeap.push, AHeap.set, AHeap.empty, fieldOf, loadA, storeA, BX.part, TK.isAgg, convA, builtinA, inertB, builtinP, buildA, fillA, splice, eqv, cellsEq, sizeT, adT, ldT, fwT, Nat.reduceBeqDiff, Nat.reduceBneDiff, Int.reduceBNe, Int.reduceBEq, Int.reduceEq, Int.reduceLT, Int.reduceLE, Int.reduceAdd, Int.reduceSub, Int.reduceMul, Int.reduceNeg, strBin, indexAddrA, elems, lenOf, chunk, List.reduceReplicate, Int.reduceToNat]
    unfold c53_60
    rw [run_goto text_goto2, run_seq, run_skip]
    refine hp _ _ _ ?_ ?_ ?_ ?_ ?_ (.inr ⟨h + 1, ?_, ?_, ?_, ?_⟩)
    all_goals first | omega | (simp only [upd_app, t0, t2, a0, e0, e00, e1, f5, List.length_append, List.length_singleton, Nat.reduceEqDiff, ↓reduceIte]; done)
theorem px_escE {s acc : Bytes} {i : Nat} {e : Int} (hs : s.length ≤ 1000000) (hi : s[i]? = some 92) (he : escX (s.drop (i + 1)) = .error e) : PX s (toAT (.error e)) i acc := by
  intro T h A t0 t2 t6 a0 hh hb
  have hlt : i < s.length := (List.getElem?_eq_some_iff.mp hi).1
  have g1 : ((s.length : Int) ≤ (i : Int)) = False := eq_false (by omega)
  have g2 : (0 : Int) ≤ (i : Int) := by omega
  have w1 : IntKind.i64.wrap ((i : Int) + 1) = ((i + 1 : Nat) : Int) := by rw [wr64 (by omega) (by omega)]; omega
  have g3 : (((92 : UInt8).toNat : Int) == 34) = false := rfl
  have g4 : (((92 : UInt8).toNat : Int) == 92) = true := rfl
  have hesc := escaped_gen (p := i + 1) hs (by omega)
  rw [he] at hesc
  simp only [toA2] at hesc
  have ge : (e != 0) = true := by rcases escX_err he with rfl | rfl <;> rfl
  simp only [toAT, t0, t2, t6, a0, hi, g1, g2, g3, g4, w1, ge, indexA, Int.toNat_natCast, call_pure pure60 rfl hesc, run_exit_start, exit_here, exit_code, run_inBlock, n53_0, n53_1, n53_2, n53_3, n53_4, n53_5, n53_6, n53_7, n53_8, n53_9, n53_10, n53_11, n53_12, n53_13, n53_14, n53_15, n53_16, n53_17, n53_18, n53_19, n53_20, n53_21, n53_22, n53_23, n53_24, n53_25, n53_26, n53_27, n53_28, n53_29, n53_30, n53_31, n53_32, n53_33, n53_34, n53_35, n53_36, n53_37, n53_38, n53_39, n53_40, n53_41, n53_42, n53_43, n53_44, n53_45, n53_46, n53_47, n53_49, n53_50, n53_51, n53_52, n53_53, n53_54, n53_55, n53_56, n53_57, n53_58, n53_59, o53_1, o53_4, o53_6, o53_12, o53_15, o53_18, o53_22, o53_25, o53_29, o53_32, o53_35, o53_38, o53_41, o53_45, o53_47, o53_50, o53_53, o53_57, o53_59, res53, TT_3, TT_4, TT_5, TT_9, TT_21, TT_22, TT_25, TT_33, TT_35, TT_37, TT_39, TT_47, TT_52, TT_56, TT_59, TT_60, TT_62, TT_63, TT_65, TT_73, TT_77, TT_82, TT_84, bb, primP, primM, ev, evs, parts_, ofConst, bin, un, intBin, putA, enterT, Nat.reduceEqDiff, Nat.reduceAdd, Nat.reduceMul, Nat.reduceLeDiff, Nat.reduceLT, ↓reduceIte, reduceCtorEq, RunRes, resultsA, oneOf, AV.plain, AV.cells, AHeap.push, AHeap.set, AHeap.empty, fieldOf, loadA, storeA, BX.part, TK.isAgg, convA, builtinA, inertB, builtinP, buildA, fillA, splice, eqv, cellsEq, sizeT, adT, ldT, fwT, Nat.reduceBeqDiff, Nat.reduceBneDiff, Int.reduceBNe, Int.reduceBEq, Int.reduceEq, Int.reduceLT, Int.reduceLE, Int.reduceAdd, Int.reduceSub, Int.reduceMul, Int.reduceNeg, strBin, indexAddrA, elems, lenOf, chunk, List.reduceReplicate, Int.reduceToNat]
theorem px_esc {s acc : Bytes} {i : Nat} {n : Int} {r : AV} (hs : s.length ≤ 1000000) (hi : s[i]? = some 92) (he : escX (s.drop (i + 1)) = .ok n) (hl : acc.length ≤ 1000000) (hp : PX s r (i + 3) (acc ++ [UInt8.ofNat n.toNat])) : PX s r i acc := by
  intro T h A t0 t2 t6 a0 hh hb
  have hlt : i < s.length := (List.getElem?_eq_some_iff.mp hi).1
  have g1 : ((s.length : Int) ≤ (i : Int)) = False := eq_false (by omega)
  have g2 : (0 : Int) ≤ (i : Int) := by omega
  have w1 : IntKind.i64.wrap ((i : Int) + 1) = ((i + 1 : Nat) : Int) := by rw [wr64 (by omega) (by omega)]; omega
  have w3 : IntKind.i64.wrap ((i : Int) + 3) = ((i + 3 : Nat) : Int) := by rw [wr64 (by omega) (by omega)]; omega
  have g3 : (((92 : UInt8).toNat : Int) == 34) = false := rfl
  have g4 : (((92 : UInt8).toNat : Int) == 92) = true := rfl
  have hesc := escaped_gen (p := i + 1) hs (by omega)
  rw [he] at hesc
  obtain ⟨n0, n1, _⟩ := escX_ok he
  have hn : (((UInt8.ofNat n.toNat).toNat : Nat) : Int) = n := u8_of n0 n1
  simp only [toA2] at hesc
  have hm1 : 1 ≤ most := by unfold most; omega
  have hm2 : acc.length + 1 ≤ most := by unfold most; omega
  have e1 : (h = h + 1) = False := eq_false (by omega)
  have e2 : (h + 1 = h) = False := eq_false (by omega)
  have e0 : (0 = h) = False := eq_false (by omega)
  have e00 : (0 = h + 1) = False := eq_false (by omega)
  have hsn := ofB_snoc acc (UInt8.ofNat n.toNat)
  rw [hn] at hsn
  have hsn0 : [[AV.int .u8 n]] = ofBytes [UInt8.ofNat n.toNat] := by
    show _ = [[AV.int .u8 (((UInt8.ofNat n.toNat).toNat : Nat) : Int)]]
    rw [hn]
  rcases hb with ⟨t5, rfl⟩ | ⟨g, t5, hg0, hgh, hA⟩
  · simp only [t0, t2, t5, t6, a0, hi, g1, g2, g3, g4, w1, w3, hm1, e0, e00, e1, e2, builtinM, appendA, source, Nat.mul_one, List.length_singleton, runVH_some, indexA, Int.toNat_natCast, call_pure pure60 rfl hesc, run_exit_start, exit_here, exit_code, run_inBlock, n53_0, n53_1, n53_2, n53_3, n53_4, n53_5, n53_6, n53_7, n53_8, n53_9, n53_10, n53_11, n53_12, n53_13, n53_14, n53_15, n53_16, n53_17, n53_18, n53_19, n53_20, n53_21, n53_22, n53_23, n53_24, n53_25, n53_26, n53_27, n53_28, n53_29, n53_30, n53_31, n53_32, n53_33, n53_34, n53_35, n53_36, n53_37, n53_38, n53_39, n53_40, n53_41, n53_42, n53_43, n53_44, n53_45, n53_46, n53_47, n53_49, n53_50, n53_51, n53_52, n53_53, n53_54, n53_55, n53_56, n53_57, n53_58, n53_59, o53_1, o53_4, o53_6, o53_12, o53_15, o53_18, o53_22, o53_25, o53_29, o53_32, o53_35, o53_38, o53_41, o53_45, o53_47, o53_50, o53_53, o53_57, o53_59, res53, TT_3, TT_4, TT_5, TT_9, TT_21, TT_22, TT_25, TT_33, TT_35, TT_37, TT_39, TT_47, TT_52, TT_56, TT_59, TT_60, TT_62, TT_63, TT_65, TT_73, TT_77, TT_82, TT_84, bb, primP, primM, ev, evs, parts_, ofConst, bin, un, intBin, putA, enterT, Nat.reduceEqDiff, Nat.reduceAdd, Nat.reduceMul, Nat.reduceLeDiff, Nat.reduceLT, ↓reduceIte, reduceCtorEq, RunRes, resultsA, oneOf, AV.plain, AV.cells, AHeap.push, AHeap.set, AHeap.empty, fieldOf, loadA, storeA, BX.part, TK.isAgg, convA, builtinA, inertB, builtinP, buildA, fillA, splice, eqv, cellsEq, sizeT, adT, ldT, fwT, Nat.reduceBeqDiff, Nat.reduceBneDiff, Int.reduceBNe, Int.reduceBEq, Int.reduceEq, Int.reduceLT, Int.reduceLE, Int.reduceAdd, Int.reduceSub, Int.reduceMul, Int.reduceNeg, strBin, indexAddrA, elems, lenOf, chunk, List.reduceReplicate, Int.reduceToNat]
    unfold c53_48
    rw [run_goto text_goto1, run_seq, run_skip]
    refine hp _ _ _ ?_ ?_ ?_ ?_ ?_ (.inr ⟨h + 1, ?_, ?_, ?_, ?_⟩)
    all_goals first | omega | (simp only [upd_app, t0, t2, a0, e0, e00, e1, Nat.reduceEqDiff, ↓reduceIte]; done) | (simp only [upd_app, Nat.reduceEqDiff, ↓reduceIte]; rfl) | (simp only [upd_app, ↓reduceIte]; rw [hsn0]; rfl)
  · have f1 : (g = h) = False := eq_false (by omega)
    have f2 : (h = g) = False := eq_false (by omega)
    have f3 : (g = h + 1) = False := eq_false (by omega)
    have f4 : (h + 1 = g) = False := eq_false (by omega)
    have f5 : (0 = g) = False := eq_false (by omega)
    have f7 : (acc.length ≤ (ofBytes acc).length) = True := eq_true (by rw [len_ofB]; omega)
    simp only [t0, t2, t5, t6, a0, hA, hi, g1, g2, g3, g4, w1, w3, hm2, e0, e00, e1, e2, f1, f2, f3, f4, f5, f7, take_ofB, hsn, builtinM, appendA, source, Nat.mul_one, List.length_singleton, runVH_some, indexA, Int.toNat_natCast, call_pure pure60 rfl hesc, run_exit_start, exit_here, exit_code, run_inBlock, n53_0, n53_1, n53_2, n53_3, n53_4, n53_5, n53_6, n53_7, n53_8, n53_9, n53_10, n53_11, n53_12, n53_13, n53_14, n53_15, n53_16, n53_17, n53_18, n53_19, n53_20, n53_21, n53_22, n53_23, n53_24, n53_25, n53_26, n53_27, n53_28, n53_29, n53_30, n53_31, n53_32, n53_33, n53_34, n53_35, n53_36, n53_37, n53_38, n53_39, n53_40, n53_41, n53_42, n53_43, n53_44, n53_45, n53_46, n53_47, n53_49, n53_50, n53_51, n53_52, n53_53, n53_54, n53_55, n53_56, n53_57, n53_58, n53_59, o53_1, o53_4, o53_6, o53_12, o53_15, o53_18, o53_22, o53_25, o53_29, o53_32, o53_35, o53_38, o53_41, o53_45, o53_47, o53_50, o53_53, o53_57, o53_59, res53, TT_3, TT_4, TT_5, TT_9, TT_21, TT_22, TT_25, TT_33, TT_35, TT_37, TT_39, TT_47, TT_52, TT_56, TT_59, TT_60, TT_62, TT_63, TT_65, TT_73, TT_77, TT_82, TT_84, bb, primP, primM, ev, evs, parts_, ofConst, bin, un, intBin, putA, enterT, Nat.reduceEqDiff, Nat.reduceAdd, Nat.reduceMul, Nat.reduceLeDiff, Nat.reduceLT, ↓reduceIte, reduceCtorEq, RunRes, resultsA, oneOf, AV.plain, AV.cells, AHeap.push, AHeap.set, AHeap.empty, fieldOf, loadA, storeA, BX.part, TK.isAgg, convA, builtinA, inertB, builtinP, buildA, fillA, splice, eqv, cellsEq, sizeT, adT, ldT, fwT, Nat.reduceBeqDiff, Nat.reduceBneDiff, Int.reduceBNe, Int.reduceBEq, Int.reduceEq, Int.reduceLT, Int.reduceLE, Int.reduceAdd, Int.reduceSub, Int.reduceMul, Int.reduceNeg, strBin, indexAddrA, elems, lenOf, chunk, List.reduceReplicate, Int.reduceToNat]
    unfold c53_48
    rw [run_goto text_goto1, run_seq, run_skip]
    refine hp _ _ _ ?_ ?_ ?_ ?_ ?_ (.inr ⟨h + 1, ?_, ?_, ?_, ?_⟩)
    all_goals first | omega | (simp only [upd_app, t0, t2, a0, e0, e00, e1, f5, List.length_append, List.length_singleton, Nat.reduceEqDiff, ↓reduceIte]; done)
theorem px_gen {s : Bytes} (hs : s.length ≤ 1000000) : ∀ (m : Nat) (l : Bytes) (i : Nat) (acc : Bytes), l.length ≤ m → s.drop i = l → acc.length ≤ i → i ≤ s.length → PX s (toAT (txX l acc i)) i acc := by
  intro m
  induction m with
  | zero =>
    intro l i acc hm hd ha hi
    have hl : l = [] := List.eq_nil_of_length_eq_zero (by omega)
    subst hl
    rw [txX]
    refine px_short ?_
    have := congrArg List.length hd
    rw [List.length_drop] at this
    simp at this; omega
  | succ m ih =>
    intro l i acc hm hd ha hi
    cases l with
    | nil =>
      rw [txX]
      refine px_short ?_
      have := congrArg List.length hd
      rw [List.length_drop] at this
      simp at this; omega
    | cons c r =>
      obtain ⟨h1, h2, h3⟩ := drop_get hd
      rw [List.length_cons] at hm
      rw [txX]
      by_cases h34 : c = 34
      · subst h34
        rw [if_pos rfl]
        exact px_end hs h1
      · rw [if_neg h34]
        by_cases h92 : c = 92
        · subst h92
          rw [if_pos rfl]
          cases he : escX r with
          | error e =>
            exact px_escE hs h1 (by rw [h2]; exact he)
          | ok n =>
            have hr := (escX_ok he).2.2
            have hrl : r.length = s.length - (i + 1) := by rw [← h2, List.length_drop]
            refine px_esc hs h1 (by rw [h2]; exact he) (by omega) ?_
            refine ih (r.drop 2) (i + 3) _ (by rw [List.length_drop]; omega) ?_ (by simp; omega) (by omega)
            rw [← h2, List.drop_drop]
        · rw [if_neg h92]
          cases hc : plainB c with
          | true =>
            simp only [if_true]
            exact px_plain hs h1 h34 h92 hc (by omega) (ih r (i + 1) _ (by omega) h2 (by simp; omega) (by omega))
          | false =>
            simp only [Bool.false_eq_true, if_false]
            exact px_form hs h1 h34 h92 hc
theorem text_gen {s : Bytes} (hs : s.length ≤ 1000000) (h1 : 1 ≤ s.length) : PCall Cx 53 [.str s] (toAT (txX (s.drop 1) [] 1)) := by
  refine pcall_run (noext _) body53 ?_
  have hp := px_gen hs (s.drop 1).length (s.drop 1) 1 [] (Nat.le_refl _) rfl (by simp) h1
  simp only [run_label, n53_0, n53_1, n53_2, n53_3, n53_4, n53_5, n53_6, n53_7, n53_8, n53_10, n53_11, n53_12, n53_13, n53_14, n53_15, n53_16, n53_17, n53_18, n53_19, n53_20, n53_21, n53_22, n53_23, n53_24, n53_25, n53_26, n53_27, n53_28, n53_29, n53_30, n53_31, n53_32, n53_33, n53_34, n53_35, n53_36, n53_37, n53_38, n53_39, n53_40, n53_41, n53_42, n53_43, n53_44, n53_45, n53_46, n53_47, n53_49, n53_50, n53_51, n53_52, n53_53, n53_54, n53_55, n53_56, n53_57, n53_58, n53_59, o53_1, o53_4, o53_6, o53_12, o53_15, o53_18, o53_22, o53_25, o53_29, o53_32, o53_35, o53_38, o53_41, o53_45, o53_47, o53_50, o53_53, o53_57, o53_59, res53, TT_3, TT_4, TT_5, TT_9, TT_21, TT_22, TT_25, TT_33, TT_35, TT_37, TT_39, TT_47, TT_52, TT_56, TT_59, TT_60, TT_62, TT_63, TT_65, TT_73, TT_77, TT_82, TT_84, bb, primP, primM, ev, evs, parts_, ofConst, bin, un, intBin, putA, enterT, Nat.reduceEqDiff, Nat.reduceAdd, Nat.reduceMul, Nat.reduceLeDiff, Nat.reduceLT, ↓reduceIte, reduceCtorEq, RunRes, resultsA, oneOf, AV.plain, AV.cells, AHeap.push, AHeap.set, AHeap.empty, fieldOf, loadA, storeA, BX.part, TK.isAgg, convA, builtinA, inertB, builtinP, buildA, fillA, splice, eqv, cellsEq, sizeT, adT, ldT, fwT, Nat.reduceBeqDiff, Nat.reduceBneDiff, Int.reduceBNe, Int.reduceBEq, Int.reduceEq, Int.reduceLT, Int.reduceLE, Int.reduceAdd, Int.reduceSub, Int.reduceMul, Int.reduceNeg, strBin, indexAddrA, elems, lenOf, chunk, List.reduceReplicate, Int.reduceToNat]
  refine hp _ _ _ ?_ ?_ ?_ ?_ ?_ (.inl ⟨?_, rfl⟩)
  all_goals first | omega | (simp only [upd_app, enterT, List.getElem?_cons_zero, Option.getD_some, Nat.reduceEqDiff, ↓reduceIte]; done) | (simp only [upd_app, Nat.reduceEqDiff, ↓reduceIte]; rfl)
def parseX (s : Bytes) : Except Int (Vl × Nat) :=
  match s with
  | [] => .error 10
  | c :: r =>
    if c = 34 then
      match txX r [] 1 with
      | .error e => .error e
      | .ok (t, i) => .ok (⟨1, 0, t, 0, 0⟩, i)
    else if c = 45 ∨ dg c = true then numericX s
    else .error 10
theorem parseX_cons (c : UInt8) (r : Bytes) : parseX (c :: r) = if c = 34 then (match txX r [] 1 with
      | .error e => .error e
      | .ok (t, i) => .ok (⟨1, 0, t, 0, 0⟩, i)) else if c = 45 ∨ dg c = true then numericX (c :: r) else .error 10 := rfl
theorem toAV_shape (z : Except Int (Vl × Nat)) : ∃ (v : Vl) (i e : Int), toAV z = .tuple [.agg [.int .i64 v.k, .int .i64 v.n, .str v.s, .int .i64 v.x, .int .i64 v.y], .int .i64 i, .int .i64 e] := by
  cases z with
  | error e => exact ⟨⟨0, 0, [], 0, 0⟩, 0, e, rfl⟩
  | ok p => obtain ⟨v, i⟩ := p; exact ⟨v, i, 0, rfl⟩
theorem Parse_gen {s : Bytes} (hs : s.length ≤ 1000000) : PCall Cx 44 [.str s] (toAV (parseX s)) := by
  refine pcall_run (noext _) body44 ?_
  cases s with
  | nil =>
    have e : (([] : Bytes) != []) = false := rfl
    simp only [parseX, toAV, e, run_exit_start, exit_here, exit_code, run_inBlock, n44_0, n44_1, n44_2, n44_3, n44_4, n44_5, n44_6, n44_7, n44_8, n44_9, n44_10, n44_11, n44_12, n44_13, n44_14, n44_15, n44_16, n44_17, n44_18, n44_19, o44_1, o44_5, o44_8, o44_11, o44_14, o44_18, res44, TT_3, TT_4, TT_5, TT_9, TT_21, TT_22, TT_25, TT_33, TT_35, TT_37, TT_39, TT_47, TT_52, TT_56, TT_59, TT_60, TT_62, TT_63, TT_65, TT_73, TT_77, TT_82, TT_84, bb, primP, primM, ev, evs, parts_, ofConst, bin, un, intBin, putA, enterT, Nat.reduceEqDiff, Nat.reduceAdd, Nat.reduceMul, Nat.reduceLeDiff, Nat.reduceLT, ↓reduceIte, reduceCtorEq, RunRes, resultsA, oneOf, AV.plain, AV.cells, AHeap.push, AHeap.set, AHeap.empty, fieldOf, loadA, storeA, BX.part, TK.isAgg, convA, builtinA, inertB, builtinP, buildA, fillA, splice, eqv, cellsEq, sizeT, adT, ldT, fwT, Nat.reduceBeqDiff, Nat.reduceBneDiff, Int.reduceBNe, Int.reduceBEq, Int.reduceEq, Int.reduceLT, Int.reduceLE, Int.reduceAdd, Int.reduceSub, Int.reduceMul, Int.reduceNeg, strBin, indexAddrA, elems, lenOf, chunk, List.reduceReplicate, Int.reduceToNat]
  | cons c r =>
    have e : ((c :: r : Bytes) != []) = true := rfl
    have g0 : (c :: r)[0]? = some c := rfl
    have p0 : (0 : Int) ≤ 0 := by omega
    rw [parseX_cons]
    by_cases h34 : c = 34
    · subst h34
      rw [if_pos rfl]
      have g3 : (((34 : UInt8).toNat : Int) == 34) = true := rfl
      have ht := text_gen (s := 34 :: r) hs (by simp)
      have hd : (34 :: r : Bytes).drop 1 = r := rfl
      rw [hd] at ht
      cases hx : txX r [] 1 with
      | error q =>
        rw [hx] at ht
        simp only [toAT] at ht
        simp only [toAV, e, g0, g3, p0, indexA, Int.toNat_zero, call_pure pure53 rfl ht, run_exit_start, exit_here, exit_code, run_inBlock, n44_0, n44_1, n44_2, n44_3, n44_4, n44_5, n44_6, n44_7, n44_8, n44_9, n44_10, n44_11, n44_12, n44_13, n44_14, n44_15, n44_16, n44_17, n44_18, n44_19, o44_1, o44_5, o44_8, o44_11, o44_14, o44_18, res44, TT_3, TT_4, TT_5, TT_9, TT_21, TT_22, TT_25, TT_33, TT_35, TT_37, TT_39, TT_47, TT_52, TT_56, TT_59, TT_60, TT_62, TT_63, TT_65, TT_73, TT_77, TT_82, TT_84, bb, primP, primM, ev, evs, parts_, ofConst, bin, un, intBin, putA, enterT, Nat.reduceEqDiff, Nat.reduceAdd, Nat.reduceMul, Nat.reduceLeDiff, Nat.reduceLT, ↓reduceIte, reduceCtorEq, RunRes, resultsA, oneOf, AV.plain, AV.cells, AHeap.push, AHeap.set, AHeap.empty, fieldOf, loadA, storeA, BX.part, TK.isAgg, convA, builtinA, inertB, builtinP, buildA, fillA, splice, eqv, cellsEq, sizeT, adT, ldT, fwT, Nat.reduceBeqDiff, Nat.reduceBneDiff, Int.reduceBNe, Int.reduceBEq, Int.reduceEq, Int.reduceLT, Int.reduceLE, Int.reduceAdd, Int.reduceSub, Int.reduceMul, Int.reduceNeg, strBin, indexAddrA, elems, lenOf, chunk, List.reduceReplicate, Int.reduceToNat]
      | ok q =>
        obtain ⟨t, i⟩ := q
        rw [hx] at ht
        simp only [toAT] at ht
        simp only [toAV, e, g0, g3, p0, indexA, Int.toNat_zero, call_pure pure53 rfl ht, run_exit_start, exit_here, exit_code, run_inBlock, n44_0, n44_1, n44_2, n44_3, n44_4, n44_5, n44_6, n44_7, n44_8, n44_9, n44_10, n44_11, n44_12, n44_13, n44_14, n44_15, n44_16, n44_17, n44_18, n44_19, o44_1, o44_5, o44_8, o44_11, o44_14, o44_18, res44, TT_3, TT_4, TT_5, TT_9, TT_21, TT_22, TT_25, TT_33, TT_35, TT_37, TT_39, TT_47, TT_52, TT_56, TT_59, TT_60, TT_62, TT_63, TT_65, TT_73, TT_77, TT_82, TT_84, bb, primP, primM, ev, evs, parts_, ofConst, bin, un, intBin, putA, enterT, Nat.reduceEqDiff, Nat.reduceAdd, Nat.reduceMul, Nat.reduceLeDiff, Nat.reduceLT, ↓reduceIte, reduceCtorEq, RunRes, resultsA, oneOf, AV.plain, AV.cells, AHeap.push, AHeap.set, AHeap.empty, fieldOf, loadA, storeA, BX.part, TK.isAgg, convA, builtinA, inertB, builtinP, buildA, fillA, splice, eqv, cellsEq, sizeT, adT, ldT, fwT, Nat.reduceBeqDiff, Nat.reduceBneDiff, Int.reduceBNe, Int.reduceBEq, Int.reduceEq, Int.reduceLT, Int.reduceLE, Int.reduceAdd, Int.reduceSub, Int.reduceMul, Int.reduceNeg, strBin, indexAddrA, elems, lenOf, chunk, List.reduceReplicate, Int.reduceToNat]
    · rw [if_neg h34]
      have g3 : ((c.toNat : Int) == 34) = false := u8_ne (n := 34) (by omega) h34
      have hn := numeric_gen hs
      obtain ⟨v, i, q, hv⟩ := toAV_shape (numericX (c :: r))
      by_cases h45 : c = 45
      · subst h45
        rw [if_pos (.inl rfl)]
        have g4 : (((45 : UInt8).toNat : Int) == 45) = true := rfl
        rw [hv] at hn ⊢
        simp only [e, g0, g3, g4, p0, indexA, Int.toNat_zero, call_pure pure55 rfl hn, run_exit_start, exit_here, exit_code, run_inBlock, n44_0, n44_1, n44_2, n44_3, n44_4, n44_5, n44_6, n44_7, n44_8, n44_9, n44_10, n44_11, n44_12, n44_13, n44_14, n44_15, n44_16, n44_17, n44_18, n44_19, o44_1, o44_5, o44_8, o44_11, o44_14, o44_18, res44, TT_3, TT_4, TT_5, TT_9, TT_21, TT_22, TT_25, TT_33, TT_35, TT_37, TT_39, TT_47, TT_52, TT_56, TT_59, TT_60, TT_62, TT_63, TT_65, TT_73, TT_77, TT_82, TT_84, bb, primP, primM, ev, evs, parts_, ofConst, bin, un, intBin, putA, enterT, Nat.reduceEqDiff, Nat.reduceAdd, Nat.reduceMul, Nat.reduceLeDiff, Nat.reduceLT, ↓reduceIte, reduceCtorEq, RunRes, resultsA, oneOf, AV.plain, AV.cells, AHeap.push, AHeap.set, AHeap.empty, fieldOf, loadA, storeA, BX.part, TK.isAgg, convA, builtinA, inertB, builtinP, buildA, fillA, splice, eqv, cellsEq, sizeT, adT, ldT, fwT, Nat.reduceBeqDiff, Nat.reduceBneDiff, Int.reduceBNe, Int.reduceBEq, Int.reduceEq, Int.reduceLT, Int.reduceLE, Int.reduceAdd, Int.reduceSub, Int.reduceMul, Int.reduceNeg, strBin, indexAddrA, elems, lenOf, chunk, List.reduceReplicate, Int.reduceToNat]
      · have g4 : ((c.toNat : Int) == 45) = false := u8_ne (n := 45) (by omega) h45
        have hdg := digit_ok (c.toNat : Int)
        have hde : digI (c.toNat : Int) = dg c := rfl
        rw [hde] at hdg
        cases hdc : dg c with
        | true =>
          rw [hdc] at hdg
          rw [if_pos (.inr rfl), hv]
          rw [hv] at hn
          simp only [e, g0, g3, g4, p0, indexA, Int.toNat_zero, call_pure pure54 rfl hdg, call_pure pure55 rfl hn, run_exit_start, exit_here, exit_code, run_inBlock, n44_0, n44_1, n44_2, n44_3, n44_4, n44_5, n44_6, n44_7, n44_8, n44_9, n44_10, n44_11, n44_12, n44_13, n44_14, n44_15, n44_16, n44_17, n44_18, n44_19, o44_1, o44_5, o44_8, o44_11, o44_14, o44_18, res44, TT_3, TT_4, TT_5, TT_9, TT_21, TT_22, TT_25, TT_33, TT_35, TT_37, TT_39, TT_47, TT_52, TT_56, TT_59, TT_60, TT_62, TT_63, TT_65, TT_73, TT_77, TT_82, TT_84, bb, primP, primM, ev, evs, parts_, ofConst, bin, un, intBin, putA, enterT, Nat.reduceEqDiff, Nat.reduceAdd, Nat.reduceMul, Nat.reduceLeDiff, Nat.reduceLT, ↓reduceIte, reduceCtorEq, RunRes, resultsA, oneOf, AV.plain, AV.cells, AHeap.push, AHeap.set, AHeap.empty, fieldOf, loadA, storeA, BX.part, TK.isAgg, convA, builtinA, inertB, builtinP, buildA, fillA, splice, eqv, cellsEq, sizeT, adT, ldT, fwT, Nat.reduceBeqDiff, Nat.reduceBneDiff, Int.reduceBNe, Int.reduceBEq, Int.reduceEq, Int.reduceLT, Int.reduceLE, Int.reduceAdd, Int.reduceSub, Int.reduceMul, Int.reduceNeg, strBin, indexAddrA, elems, lenOf, chunk, List.reduceReplicate, Int.reduceToNat]
        | false =>
          rw [hdc] at hdg
          rw [if_neg (by simp [h45])]
          simp only [toAV, e, g0, g3, g4, p0, indexA, Int.toNat_zero, call_pure pure54 rfl hdg, run_exit_start, exit_here, exit_code, run_inBlock, n44_0, n44_1, n44_2, n44_3, n44_4, n44_5, n44_6, n44_7, n44_8, n44_9, n44_10, n44_11, n44_12, n44_13, n44_14, n44_15, n44_16, n44_17, n44_18, n44_19, o44_1, o44_5, o44_8, o44_11, o44_14, o44_18, res44, TT_3, TT_4, TT_5, TT_9, TT_21, TT_22, TT_25, TT_33, TT_35, TT_37, TT_39, TT_47, TT_52, TT_56, TT_59, TT_60, TT_62, TT_63, TT_65, TT_73, TT_77, TT_82, TT_84, bb, primP, primM, ev, evs, parts_, ofConst, bin, un, intBin, putA, enterT, Nat.reduceEqDiff, Nat.reduceAdd, Nat.reduceMul, Nat.reduceLeDiff, Nat.reduceLT, ↓reduceIte, reduceCtorEq, RunRes, resultsA, oneOf, AV.plain, AV.cells, AHeap.push, AHeap.set, AHeap.empty, fieldOf, loadA, storeA, BX.part, TK.isAgg, convA, builtinA, inertB, builtinP, buildA, fillA, splice, eqv, cellsEq, sizeT, adT, ldT, fwT, Nat.reduceBeqDiff, Nat.reduceBneDiff, Int.reduceBNe, Int.reduceBEq, Int.reduceEq, Int.reduceLT, Int.reduceLE, Int.reduceAdd, Int.reduceSub, Int.reduceMul, Int.reduceNeg, strBin, indexAddrA, elems, lenOf, chunk, List.reduceReplicate, Int.reduceToNat]
end Go.Proofs.Ytkedlkcknhinoaa.G

namespace Go.Proofs.Ytkedlkcknhinoaa.G
open Go.BX
set_option linter.unusedSimpArgs false
set_option linter.unusedVariables false
def endN (rest : Bytes) : Prop := rest = [] ∨ ∃ c r, rest = c :: r ∧ dg c = false ∧ c ≠ 58
theorem tw_dec {m : Nat} {rest : Bytes} (h : endN rest ∨ ∃ r, rest = 58 :: r) : (decN m ++ rest).takeWhile dg = decN m := by
  have h1 : ∀ c, c ∈ decN m → dg c = true := by
    intro c hc
    have := decN_dig m c hc
    unfold dg digI
    simp; omega
  have h2 : rest.takeWhile dg = [] := by
    rcases h with (rfl | ⟨c, r, rfl, hc, _⟩) | ⟨r, rfl⟩
    · rfl
    · rw [List.takeWhile_cons_of_neg (by simp [hc])]
    · rw [List.takeWhile_cons_of_neg (by decide)]
  generalize decN m = l at h1
  induction l with
  | nil => simpa using h2
  | cons c l ih =>
    rw [List.cons_append, List.takeWhile_cons_of_pos (h1 c (by simp)), ih (fun d hd => h1 d (by simp [hd]))]
theorem capF_val : ∀ (l : Bytes) (a : Nat), valF a l ≤ 18014398509481984 → capF a l = valF a l
  | [], a, h => rfl
  | c :: l, a, h => by
    have h' : valF (a * 10 + (c.toNat - 48)) l ≤ 18014398509481984 := h
    have hle := valF_le l (a * 10 + (c.toNat - 48))
    show capF (min (10 * a + (c.toNat - 48)) 18014398509481984) l = valF (a * 10 + (c.toNat - 48)) l
    rw [show min (10 * a + (c.toNat - 48)) 18014398509481984 = a * 10 + (c.toNat - 48) by omega]
    exact capF_val l _ h'
theorem numX_dec {s rest : Bytes} {i : Nat} {n : Int} (hd : s.drop i = decS n ++ rest) (hr : endN rest ∨ ∃ r, rest = 58 :: r) (hn : -9007199254740992 ≤ n ∧ n ≤ 9007199254740992) : numX s i = .ok (n, i + (decS n).length) := by
  by_cases hneg : n < 0
  · have e : decS n = 45 :: decN (-n).toNat := by unfold decS; rw [if_pos hneg]
    rw [e] at hd ⊢
    rw [List.cons_append] at hd
    obtain ⟨h1, h2, hlt⟩ := drop_get hd
    unfold numX
    rw [if_pos h1]
    unfold resX
    have hv : valF 0 (decN (-n).toNat) = (-n).toNat := valD_dec _
    rw [h2, tw_dec hr, capF_val _ _ (by rw [hv]; omega), hv]
    cases hl : decN (-n).toNat with
    | nil => exact absurd hl (decN_ne _)
    | cons c l =>
      have h3 : s.drop (i + 1) = c :: (l ++ rest) := by rw [h2, hl]; rfl
      obtain ⟨h4, _, _⟩ := drop_get h3
      have hcd := decN_dig _ c (by rw [hl]; simp)
      have hdc : dg c = true := by unfold dg digI; simp; omega
      rw [h4]
      simp only [hdc, if_true]
      unfold finX
      rw [if_neg (by
        rintro ⟨h5, _⟩
        rw [h4] at h5
        have := (decN_head _ hl (Option.some.inj h5)).1
        omega)]
      congr 2
      · omega
      · simp; omega
  · have e : decS n = decN n.toNat := by unfold decS; rw [if_neg hneg]
    rw [e] at hd ⊢
    have hv : valF 0 (decN n.toNat) = n.toNat := valD_dec _
    cases hl : decN n.toNat with
    | nil => exact absurd hl (decN_ne _)
    | cons c l =>
      have h3 : s.drop i = c :: (l ++ rest) := by rw [hd, hl]; rfl
      obtain ⟨h4, _, _⟩ := drop_get h3
      have hcd := decN_dig _ c (by rw [hl]; simp)
      have hdc : dg c = true := by unfold dg digI; simp; omega
      unfold numX
      rw [if_neg (by
        rw [h4]
        intro h5
        have : c.toNat = 45 := by rw [Option.some.inj h5]; rfl
        omega)]
      unfold resX
      rw [hd, tw_dec hr, capF_val _ _ (by rw [hv]; omega), hv, h4, hl]
      simp only [hdc, if_true]
      unfold finX
      rw [if_neg (by
        rintro ⟨h5, h6⟩
        rw [h4] at h5
        have := (decN_head _ hl (Option.some.inj h5)).2
        rw [this] at h6
        simp at h6)]
      congr 2
      omega
theorem hx_hex (d : Nat) (h : d < 16) : hx (hexB d) = (d : Int) := by
  have : ∀ d : Fin 16, idxL (hexB d.val) digits 0 = (d.val : Int) := by decide
  exact this ⟨d, h⟩
theorem txX_quo {rest : Bytes} : ∀ (t acc : Bytes) (i : Nat), acc.length + t.length ≤ 4096 → txX (quoM t ++ 34 :: rest) acc i = .ok (acc ++ t, i + (quoM t).length + 1)
  | [], acc, i, h => by
    show txX (34 :: rest) acc i = _
    rw [txX, if_pos rfl, if_neg (by simp at h; omega)]
    simp [quoM]
  | c :: t, acc, i, h => by
    rw [quoM_cons]
    rw [List.length_cons] at h
    have ec : acc ++ c :: t = (acc ++ [c]) ++ t := by simp
    rw [ec]
    by_cases hc : plainB c = true
    · have hq : q1 c = [c] := by unfold q1; rw [if_pos hc]
      rw [hq]
      show txX (c :: (quoM t ++ 34 :: rest)) acc i = _
      have hne := plain_ne hc
      rw [txX, if_neg hne.2, if_neg hne.1, if_pos hc, txX_quo t (acc ++ [c]) (i + 1) (by rw [List.length_append, List.length_singleton]; omega)]
      congr 2
      simp; omega
    · have hcf : plainB c = false := by simpa using hc
      have hq : q1 c = [92, hexB (c.toNat / 16), hexB (c.toNat % 16)] := by unfold q1; rw [if_neg hc]
      rw [hq]
      show txX (92 :: (hexB (c.toNat / 16) :: hexB (c.toNat % 16) :: (quoM t ++ 34 :: rest))) acc i = _
      have hcu := c.toNat_lt
      have he : escX (hexB (c.toNat / 16) :: hexB (c.toNat % 16) :: (quoM t ++ 34 :: rest)) = .ok (c.toNat : Int) := by
        have e1 : 16 * (((c.toNat / 16 : Nat)) : Int) + ((c.toNat % 16 : Nat) : Int) = (c.toNat : Int) := by omega
        have hcc : plainI (c.toNat : Int) = false := hcf
        unfold escX
        simp only [hx_hex _ (show c.toNat / 16 < 16 by omega), hx_hex _ (show c.toNat % 16 < 16 by omega), e1, hcc]
        rw [if_neg (by omega), if_neg (by omega)]
        rfl
      rw [txX, if_neg (by decide), if_pos rfl, he]
      simp only [List.drop_succ_cons, List.drop_zero, Int.toNat_natCast]
      rw [show UInt8.ofNat c.toNat = c from UInt8.ofNat_toNat, txX_quo t (acc ++ [c]) (i + 3) (by rw [List.length_append, List.length_singleton]; omega)]
      congr 2
      simp; omega
theorem parse_write {v : Vl} {rest : Bytes} (h : okV v = true) (hr : endN rest) : parseX (writeV v.k v.n v.s v.x v.y ++ rest) = .ok (v, (writeV v.k v.n v.s v.x v.y).length) := by
  obtain ⟨k, n, z, x, y⟩ := v
  have first : ∀ (m : Int) (l : Bytes), ∃ c r, decS m ++ l = c :: r ∧ c ≠ 34 ∧ (c = 45 ∨ dg c = true) := by
    intro m l
    unfold decS
    split
    · exact ⟨45, _, rfl, by decide, .inl rfl⟩
    · cases hl : decN m.toNat with
      | nil => exact absurd hl (decN_ne _)
      | cons c r =>
        have hcd := decN_dig _ c (by rw [hl]; simp)
        refine ⟨c, r ++ l, rfl, ?_, .inr (by unfold dg digI; simp; omega)⟩
        intro e
        have : c.toNat = 34 := by rw [e]; rfl
        omega
  simp only
  unfold writeV
  rcases right_cases h with ⟨rfl, hn, rfl, rfl, rfl⟩ | ⟨rfl, hs', rfl, rfl, rfl⟩ | ⟨rfl, ⟨hx, hy⟩, rfl, rfl⟩
  · simp only [if_true]
    obtain ⟨c, r, e, h34, hc⟩ := first n rest
    have hd : (decS n ++ rest).drop 0 = decS n ++ rest := rfl
    have hnum := numX_dec hd (.inl hr) hn
    rw [Nat.zero_add] at hnum
    rw [e, parseX_cons, if_neg h34, if_pos hc, ← e]
    unfold numericX
    rw [hnum]
    simp only
    rw [if_neg ?_, if_pos h]
    rw [List.getElem?_append_right (Nat.le_refl _), Nat.sub_self]
    rcases hr with rfl | ⟨d, r2, rfl, _, hd58⟩
    · simp
    · simp [hd58]
  · simp only [Int.reduceEq, if_false, if_true]
    show parseX (34 :: (quoM z ++ [34]) ++ rest) = _
    have e1 : (34 :: (quoM z ++ [34]) ++ rest : Bytes) = 34 :: (quoM z ++ 34 :: rest) := by simp
    rw [e1, parseX_cons, if_pos rfl, txX_quo z [] 1 (by simpa using hs')]
    simp only [List.nil_append]
    congr 2
    unfold quoS
    simp; omega
  · simp only [Int.reduceEq, if_false]
    rw [inR_iff] at hx hy
    replace hx : -16777216 ≤ x ∧ x ≤ 16777216 := hx
    replace hy : -16777216 ≤ y ∧ y ≤ 16777216 := hy
    have e0 : decS x ++ [58] ++ decS y ++ rest = decS x ++ (58 :: (decS y ++ rest)) := by simp
    rw [e0]
    obtain ⟨c, r, e, h34, hc⟩ := first x (58 :: (decS y ++ rest))
    have hnum := numX_dec (s := decS x ++ (58 :: (decS y ++ rest))) (i := 0) (n := x) rfl (.inr ⟨_, rfl⟩) (by omega)
    rw [Nat.zero_add] at hnum
    have hd2 : (decS x ++ (58 :: (decS y ++ rest))).drop ((decS x).length + 1) = decS y ++ rest := by
      rw [← List.drop_drop, List.drop_left]; rfl
    have hnum2 := numX_dec hd2 (.inl hr) (n := y) (by omega)
    rw [e, parseX_cons, if_neg h34, if_pos hc, ← e]
    unfold numericX
    rw [hnum]
    simp only
    rw [if_pos (by rw [List.getElem?_append_right (Nat.le_refl _)]; simp), hnum2]
    simp only
    rw [if_pos h]
    congr 2
    simp; omega
theorem txX_ok : ∀ (m : Nat) (l acc : Bytes) (i : Nat) (t : Bytes) (k : Nat), l.length ≤ m → txX l acc i = .ok (t, k) → t.length ≤ 4096 ∧ i < k ∧ k ≤ i + l.length := by
  intro m
  induction m with
  | zero =>
    intro l acc i t k hm h
    have hl : l = [] := List.eq_nil_of_length_eq_zero (by omega)
    subst hl
    rw [txX] at h
    cases h
  | succ m ih =>
    intro l acc i t k hm h
    cases l with
    | nil => rw [txX] at h; cases h
    | cons c r =>
      rw [List.length_cons] at hm ⊢
      rw [txX] at h
      split at h
      · split at h
        · cases h
        · cases h; omega
      · split at h
        · split at h
          · cases h
          · rename_i n he
            have h2 := (escX_ok he).2.2
            have := ih (r.drop 2) _ _ _ _ (by rw [List.length_drop]; omega) h
            rw [List.length_drop] at this
            omega
        · split at h
          · have := ih r _ _ _ _ (by omega) h
            omega
          · cases h
theorem txX_err : ∀ (m : Nat) (l acc : Bytes) (i : Nat) (e : Int), l.length ≤ m → txX l acc i = .error e → e = 2 ∨ e = 3 ∨ e = 6 := by
  intro m
  induction m with
  | zero =>
    intro l acc i e hm h
    have hl : l = [] := List.eq_nil_of_length_eq_zero (by omega)
    subst hl
    rw [txX] at h
    cases h; exact .inl rfl
  | succ m ih =>
    intro l acc i e hm h
    cases l with
    | nil => rw [txX] at h; cases h; exact .inl rfl
    | cons c r =>
      rw [List.length_cons] at hm
      rw [txX] at h
      split at h
      · split at h
        · cases h; exact .inr (.inl rfl)
        · cases h
      · split at h
        · split at h
          · rename_i e' he
            cases h
            rcases escX_err he with rfl | rfl
            · exact .inl rfl
            · exact .inr (.inr rfl)
          · exact ih _ _ _ _ (by rw [List.length_drop]; omega) h
        · split at h
          · exact ih r _ _ _ (by omega) h
          · cases h; exact .inr (.inr rfl)
theorem parseX_ok {s : Bytes} {v : Vl} {n : Nat} (h : parseX s = .ok (v, n)) : okV v = true ∧ 0 < n ∧ n ≤ s.length := by
  have hnum : ∀ {s : Bytes} {v : Vl} {n : Nat}, numericX s = .ok (v, n) → okV v = true ∧ 0 < n ∧ n ≤ s.length := by
    intro s v n h
    unfold numericX at h
    rcases numX_cases s 0 (Nat.zero_le _) with ⟨e, _, h1⟩ | ⟨a, i, h1, hi0, hi1, _, _⟩
    · rw [h1] at h; cases h
    · rw [h1] at h
      simp only at h
      split at h
      · rcases numX_cases s (i + 1) (by
          rename_i hq
          have := (List.getElem?_eq_some_iff.mp hq).1
          omega) with ⟨e, _, h2⟩ | ⟨b, k, h2, hk0, hk1, _, _⟩
        · rw [h2] at h; cases h
        · rw [h2] at h
          simp only at h
          split at h
          · cases h
            exact ⟨by assumption, by omega, by omega⟩
          · cases h
      · split at h
        · cases h
          exact ⟨by assumption, by omega, by omega⟩
        · cases h
  cases s with
  | nil => cases h
  | cons c r =>
    rw [parseX_cons] at h
    split at h
    · split at h
      · cases h
      · rename_i t i ht
        cases h
        have := txX_ok r.length r [] 1 t n (Nat.le_refl _) ht
        refine ⟨?_, by omega, by rw [List.length_cons]; omega⟩
        unfold okV rightV
        simp
        omega
    · split at h
      · exact hnum h
      · cases h
theorem parseX_err {s : Bytes} {e : Int} (h : parseX s = .error e) : e = 2 ∨ e = 3 ∨ e = 6 ∨ e = 10 ∨ e = 14 := by
  have hnum : ∀ {s : Bytes} {e : Int}, numericX s = .error e → e = 2 ∨ e = 6 ∨ e = 14 := by
    intro s e h
    unfold numericX at h
    rcases numX_cases s 0 (Nat.zero_le _) with ⟨e', he, h1⟩ | ⟨a, i, h1, hi0, hi1, _, _⟩
    · rw [h1] at h; cases h; omega
    · rw [h1] at h
      simp only at h
      split at h
      · rcases numX_cases s (i + 1) (by
          rename_i hq
          have := (List.getElem?_eq_some_iff.mp hq).1
          omega) with ⟨e', he, h2⟩ | ⟨b, k, h2, hk0, hk1, _, _⟩
        · rw [h2] at h; cases h; omega
        · rw [h2] at h
          simp only at h
          split at h
          · cases h
          · cases h; omega
      · split at h
        · cases h
        · cases h; omega
  cases s with
  | nil => cases h; omega
  | cons c r =>
    rw [parseX_cons] at h
    split at h
    · split at h
      · rename_i e' ht
        cases h
        have := txX_err r.length r [] 1 e (Nat.le_refl _) ht
        omega
      · cases h
    · split at h
      · have := hnum h
        omega
      · cases h; omega
end Go.Proofs.Ytkedlkcknhinoaa.G

namespace Go.Proofs.Ytkedlkcknhinoaa.G
open Go.BX
set_option linter.unusedSimpArgs false
set_option linter.unusedVariables false
structure Nd where
  op : Int
  v : Vl
abbrev encN (n : Nd) : List AV := [.int .i64 n.op, .int .i64 n.v.k, .int .i64 n.v.n, .str n.v.s, .int .i64 n.v.x, .int .i64 n.v.y]
abbrev ndA (n : Nd) : AV := .agg [.int .i64 n.op, .int .i64 n.v.k, .int .i64 n.v.n, .str n.v.s, .int .i64 n.v.x, .int .i64 n.v.y]
def ops : List (Bytes × Nat) := [([97, 100, 100], 2), ([115, 117, 98], 2), ([109, 117, 108], 2), ([100, 105, 118], 2), ([109, 111, 100], 2), ([110, 101, 103], 1), ([108, 101, 115, 115], 2), ([115, 97, 109, 101], 2), ([110, 111, 116], 1), ([105, 102], 3), ([109, 97, 120], 2), ([109, 105, 110], 2), ([99, 97, 116], 2), ([108, 101, 110], 1), ([99, 117, 116], 3), ([119, 111, 114, 100], 2), ([119, 111, 114, 100, 115], 1), ([110, 117, 109], 1), ([116, 101, 120, 116], 1), ([97, 116], 2), ([114, 101], 1), ([105, 109], 1), ([110, 111, 114, 109], 1), ([99, 111, 110, 106], 1), ([101, 109, 105, 116], 2), ([116, 104, 101, 110], 2), ([101, 97, 99, 104], 2), ([108, 101, 116], 2)]
def isOp (op : Int) : Bool := decide (2 ≤ op) && decide (op ≤ 29)
def opOf (op : Int) : Bytes × Nat := if isOp op then ops.getD (op - 2).toNat ([], 0) else ([], 0)
def wordM (op : Int) : Bytes := (opOf op).1
def partsM (op : Int) : Nat := (opOf op).2
theorem ops_len : ops.length = 28 := rfl
theorem ops_get {op : Int} (h : isOp op = true) : ∃ h2 : (op - 2).toNat < ops.length, opOf op = ops[(op - 2).toNat] := by
  unfold isOp at h
  simp only [Bool.and_eq_true, decide_eq_true_eq] at h
  have h2 : (op - 2).toNat < ops.length := by rw [ops_len]; omega
  refine ⟨h2, ?_⟩
  unfold opOf isOp
  rw [if_pos (by simp; omega)]
  simp [List.getD, List.getElem?_eq_getElem h2]
theorem parts_pos {op : Int} (h : isOp op = true) : 1 ≤ partsM op ∧ partsM op ≤ 3 := by
  obtain ⟨h2, e⟩ := ops_get h
  unfold partsM
  rw [e]
  have key : ∀ x, x ∈ ops → 1 ≤ x.2 ∧ x.2 ≤ 3 := by decide
  exact key _ (List.getElem_mem h2)
theorem parts_no {op : Int} (h : isOp op = false) : partsM op = 0 ∧ wordM op = [] := by
  unfold partsM wordM opOf
  rw [h]
  exact ⟨rfl, rfl⟩
def zeroV (v : Vl) : Bool := v.k == 0 && (v.n == 0 && (v.s == [] && (v.x == 0 && v.y == 0)))
def aloneM (n : Nd) : Bool :=
  if n.op = 1 then ((n.v.k == 0 && okV n.v) && decide (0 ≤ n.v.n)) && decide (n.v.n < 5)
  else n.op == 0 && okV n.v
def partsN (n : Nd) : Nat × Bool := if isOp n.op then (partsM n.op, zeroV n.v) else (0, aloneM n)
theorem alone_op {n : Nd} (h : aloneM n = true) : isOp n.op = false ∧ (n.op = 0 ∨ n.op = 1) := by
  unfold aloneM at h
  split at h
  · rename_i e
    rw [e]
    exact ⟨rfl, .inr rfl⟩
  · rw [Bool.and_eq_true, beq_iff_eq] at h
    rw [h.1]
    exact ⟨rfl, .inl rfl⟩
theorem alone_ok {n : Nd} (h : aloneM n = true) : okV n.v = true := by
  unfold aloneM at h
  split at h
  · simp only [Bool.and_eq_true] at h; exact h.1.1.2
  · simp only [Bool.and_eq_true] at h; exact h.2
def nameT (n : Int) : Bytes := [[107, 101, 121], [118, 97, 108], [97, 99, 99], [105], [105, 116]].getD n.toNat []
def leafT (n : Nd) : Bytes := if n.op = 0 then writeV n.v.k n.v.n n.v.s n.v.x n.v.y else nameT n.v.n
def nodeT (n : Nd) (cs : List Bytes) : Bytes := 40 :: (wordM n.op ++ (cs.flatMap (fun c => 32 :: c) ++ [41]))
inductive Es : Nat → Nat → List Nd → List Bytes → Prop
  | nil (d : Nat) : Es d 0 [] []
  | leaf {d k : Nat} {n : Nd} {ls : List Nd} {bs : List Bytes} (h : aloneM n = true) (hs : Es d k ls bs) : Es d (k + 1) (n :: ls) (leafT n :: bs)
  | node {d k : Nat} {n : Nd} {ps ls : List Nd} {cs bs : List Bytes} (h : isOp n.op = true) (hz : zeroV n.v = true) (hp : Es d (partsM n.op) ps cs) (hs : Es (d + 1) k ls bs) : Es (d + 1) (k + 1) (n :: (ps ++ ls)) (nodeT n cs :: bs)
theorem Es.up {d k : Nat} {l : List Nd} {bs : List Bytes} (h : Es d k l bs) : ∀ {d' : Nat}, d ≤ d' → Es d' k l bs := by
  induction h with
  | nil => intro d' _; exact .nil _
  | leaf h hs ih => intro d' hd; exact .leaf h (ih hd)
  | node h hz hp hs ih1 ih2 =>
    intro d' hd
    obtain ⟨e, rfl⟩ : ∃ e, d' = e + 1 := ⟨d' - 1, by omega⟩
    exact .node h hz (ih1 (by omega)) (ih2 (by omega))
theorem Es.len {d k : Nat} {l : List Nd} {bs : List Bytes} (h : Es d k l bs) : k ≤ l.length ∧ bs.length = k := by
  induction h with
  | nil => exact ⟨Nat.le_refl _, rfl⟩
  | leaf h hs ih => simp only [List.length_cons]; omega
  | node h hz hp hs ih1 ih2 => simp only [List.length_cons, List.length_append]; omega
theorem Es.split {d k : Nat} {l : List Nd} {bs : List Bytes} (h : Es d (k + 1) l bs) : ∃ e ls b bs', l = e ++ ls ∧ bs = b :: bs' ∧ Es d 1 e [b] ∧ Es d k ls bs' := by
  cases h with
  | leaf h hs => exact ⟨[_], _, _, _, rfl, rfl, .leaf h (.nil _), hs⟩
  | node h hz hp hs => exact ⟨_, _, _, _, (by rw [List.cons_append]), rfl, by have := Es.node h hz hp (.nil _); rwa [List.append_nil] at this, hs⟩
theorem Es.uniq {d k : Nat} {l : List Nd} {bs : List Bytes} (h : Es d k l bs) : ∀ {d' : Nat} {l' : List Nd} {bs' : List Bytes} {p p' : List Nd}, Es d' k l' bs' → l ++ p = l' ++ p' → l = l' ∧ p = p' ∧ bs = bs' := by
  induction h with
  | nil =>
    intro d' l' bs' p p' h' e
    cases h'
    exact ⟨rfl, e, rfl⟩
  | leaf h hs ih =>
    intro d' l' bs' p p' h' e
    cases h' with
    | leaf h2 hs2 =>
      rw [List.cons_append, List.cons_append] at e
      obtain ⟨rfl, e2⟩ := List.cons.inj e
      obtain ⟨rfl, rfl, rfl⟩ := ih hs2 e2
      exact ⟨rfl, rfl, rfl⟩
    | node h2 hz2 hp2 hs2 =>
      rw [List.cons_append, List.cons_append] at e
      obtain ⟨rfl, e2⟩ := List.cons.inj e
      have := (alone_op h).1
      rw [h2] at this
      cases this
  | node h hz hp hs ih1 ih2 =>
    intro d' l' bs' p p' h' e
    cases h' with
    | leaf h2 hs2 =>
      rw [List.cons_append, List.cons_append] at e
      obtain ⟨rfl, e2⟩ := List.cons.inj e
      have := (alone_op h2).1
      rw [h] at this
      cases this
    | node h2 hz2 hp2 hs2 =>
      rw [List.cons_append, List.cons_append, List.append_assoc, List.append_assoc] at e
      obtain ⟨rfl, e2⟩ := List.cons.inj e
      obtain ⟨rfl, e3, rfl⟩ := ih1 hp2 e2
      obtain ⟨rfl, rfl, rfl⟩ := ih2 hs2 e3
      exact ⟨rfl, rfl, rfl⟩
theorem Es.at {d k : Nat} {l : List Nd} {bs : List Bytes} (h : Es d k l bs) : ∀ (i : Nat), i < l.length → ∃ d' e post b, l.drop i = e ++ post ∧ Es d' 1 e [b] ∧ d' ≤ d := by
  induction h with
  | nil => intro i hi; simp at hi
  | @leaf d k n ls bs h hs ih =>
    intro i hi
    cases i with
    | zero => exact ⟨d, [n], ls, _, rfl, .leaf h (.nil _), Nat.le_refl _⟩
    | succ i =>
      obtain ⟨d', e, post, b, h1, h2, h3⟩ := ih i (by simpa using hi)
      exact ⟨d', e, post, b, h1, h2, h3⟩
  | @node d k n ps ls cs bs h hz hp hs ih1 ih2 =>
    intro i hi
    cases i with
    | zero =>
      refine ⟨d + 1, n :: ps, ls, _, (by simp), by have := Es.node h hz hp (.nil (d + 1)); rwa [List.append_nil] at this, Nat.le_refl _⟩
    | succ i =>
      by_cases hi1 : i < ps.length
      · obtain ⟨d', e, post, b, h1, h2, h3⟩ := ih1 i hi1
        refine ⟨d', e, post ++ ls, b, ?_, h2, by omega⟩
        rw [List.drop_succ_cons, List.drop_append_of_le_length (by omega), h1, List.append_assoc]
      · obtain ⟨d', e, post, b, h1, h2, h3⟩ := ih2 (i - ps.length) (by simp at hi; omega)
        refine ⟨d', e, post, b, ?_, h2, h3⟩
        rw [List.drop_succ_cons, List.drop_append, List.drop_of_length_le (by omega), h1]
        rfl
def popZ : List Nat → List Nat
  | 0 :: r => popZ r
  | l => l
def stepM (st : List Nat) (n : Nd) : Option (List Nat) :=
  match st with
  | [] => none
  | t :: r => if (partsN n).2 = true ∧ r.length ≤ 24 then some (popZ ((partsN n).1 :: (t - 1) :: r)) else none
def runM : List Nat → List Nd → Option (List Nat)
  | st, [] => some st
  | st, n :: l => match stepM st n with
    | some st' => runM st' l
    | none => none
def rightM (l : List Nd) : Bool := (!(l.isEmpty || decide (400 < l.length))) && (runM [1] l == some [])
theorem popZ_pos {t : Nat} {r : List Nat} (h : 1 ≤ t) : popZ (t :: r) = t :: r := by
  cases t with
  | zero => omega
  | succ t => rfl
theorem run_Es {d k : Nat} {e : List Nd} {bs : List Bytes} (h : Es d k e bs) : ∀ {t : Nat} {r : List Nat} {post : List Nd}, r.length + d = 24 → 1 ≤ k → runM ((k + t) :: r) (e ++ post) = runM (popZ (t :: r)) post := by
  induction h with
  | nil => intro t r post hd hk; omega
  | @leaf d k n ls bs h hs ih =>
    intro t r post hd hk
    have hp : partsN n = (0, true) := by unfold partsN; rw [(alone_op h).1, h]; rfl
    rw [List.cons_append]
    show (match stepM ((k + 1 + t) :: r) n with | some st' => runM st' (ls ++ post) | none => none) = _
    unfold stepM
    rw [hp]
    simp only [true_and]
    rw [if_pos (by omega)]
    simp only
    show runM (popZ ((k + 1 + t - 1) :: r)) (ls ++ post) = _
    rw [show k + 1 + t - 1 = k + t by omega]
    by_cases hk0 : k = 0
    · subst hk0
      cases hs
      rw [Nat.zero_add]
      rfl
    · rw [popZ_pos (by omega)]
      exact ih hd (by omega)
  | @node d k n ps ls cs bs h hz hp hs ih1 ih2 =>
    intro t r post hd hk
    have hpn : partsN n = (partsM n.op, true) := by unfold partsN; rw [h, hz]; rfl
    have hpp := (parts_pos h).1
    rw [List.cons_append]
    show (match stepM ((k + 1 + t) :: r) n with | some st' => runM st' (ps ++ ls ++ post) | none => none) = _
    unfold stepM
    rw [hpn]
    simp only [true_and]
    rw [if_pos (by omega)]
    simp only
    rw [popZ_pos hpp, show k + 1 + t - 1 = k + t by omega, List.append_assoc]
    have h1 := ih1 (t := 0) (r := (k + t) :: r) (post := ls ++ post) (by rw [List.length_cons]; omega) hpp
    rw [Nat.add_zero] at h1
    rw [h1]
    show runM (popZ ((k + t) :: r)) (ls ++ post) = _
    by_cases hk0 : k = 0
    · subst hk0
      cases hs
      rw [Nat.zero_add]
      rfl
    · rw [popZ_pos (by omega)]
      exact ih2 hd (by omega)
theorem Es_run : ∀ (m : Nat) (l : List Nd) (t d : Nat) (r : List Nat), l.length ≤ m → 1 ≤ t → r.length + d = 24 → runM (t :: r) l = some [] → ∃ e post bs, l = e ++ post ∧ Es d t e bs ∧ runM (popZ r) post = some [] := by
  intro m
  induction m with
  | zero =>
    intro l t d r hm ht hd h
    have hl : l = [] := List.eq_nil_of_length_eq_zero (by omega)
    subst hl
    cases h
  | succ m ih =>
    intro l t d r hm ht hd h
    cases l with
    | nil => cases h
    | cons n l =>
      rw [List.length_cons] at hm
      replace h : (match stepM (t :: r) n with | some st' => runM st' l | none => none) = some [] := h
      unfold stepM at h
      simp only at h
      split at h
      · rename_i st' hst
        split at hst
        · rename_i hc
          cases hst
          cases ho : isOp n.op with
          | false =>
            have hp : partsN n = (0, aloneM n) := by unfold partsN; rw [ho]; rfl
            rw [hp] at hc h
            have ha : aloneM n = true := hc.1
            replace h : runM (popZ ((t - 1) :: r)) l = some [] := h
            by_cases ht1 : t = 1
            · subst ht1
              exact ⟨[n], l, _, rfl, .leaf ha (.nil _), h⟩
            · rw [popZ_pos (by omega)] at h
              obtain ⟨e, post, bs, rfl, h2, h3⟩ := ih l (t - 1) d r (by omega) (by omega) hd h
              refine ⟨n :: e, post, leafT n :: bs, rfl, ?_, h3⟩
              have := Es.leaf ha h2
              rwa [show t - 1 + 1 = t by omega] at this
          | true =>
            have hp : partsN n = (partsM n.op, zeroV n.v) := by unfold partsN; rw [ho]; rfl
            rw [hp] at hc h
            have hz : zeroV n.v = true := hc.1
            have hpp := (parts_pos ho).1
            rw [popZ_pos hpp] at h
            have hd1 : 1 ≤ d := by
              cases l with
              | nil => cases h
              | cons n2 l2 =>
                replace h : (match stepM (partsM n.op :: (t - 1) :: r) n2 with | some st' => runM st' l2 | none => none) = some [] := h
                unfold stepM at h
                simp only at h
                split at h
                · rename_i st2 hst2
                  split at hst2
                  · rename_i hc2
                    have := hc2.2
                    rw [List.length_cons] at this
                    omega
                  · cases hst2
                · cases h
            obtain ⟨d, rfl⟩ : ∃ d', d = d' + 1 := ⟨d - 1, by omega⟩
            obtain ⟨ps, post, cs, rfl, h2, h3⟩ := ih l (partsM n.op) d ((t - 1) :: r) (by omega) hpp (by rw [List.length_cons]; omega) h
            by_cases ht1 : t = 1
            · subst ht1
              refine ⟨n :: ps, post, [nodeT n cs], rfl, ?_, h3⟩
              have := Es.node ho hz h2 (.nil (d + 1))
              rwa [List.append_nil] at this
            · rw [popZ_pos (by omega)] at h3
              rw [List.length_append] at hm
              obtain ⟨e, post2, bs, rfl, h4, h5⟩ := ih post (t - 1) (d + 1) r (by omega) (by omega) hd h3
              refine ⟨n :: (ps ++ e), post2, nodeT n cs :: bs, by simp, ?_, h5⟩
              have := Es.node ho hz h2 h4
              rwa [show t - 1 + 1 = t by omega] at this
        · cases hst
      · cases h
theorem right_iff {l : List Nd} : rightM l = true ↔ l.length ≤ 400 ∧ ∃ b, Es 24 1 l [b] := by
  unfold rightM
  rw [Bool.and_eq_true, beq_iff_eq, Bool.not_eq_true', Bool.or_eq_false_iff, decide_eq_false_iff_not]
  constructor
  · rintro ⟨⟨_, h1⟩, h2⟩
    obtain ⟨e, post, bs, rfl, h3, h4⟩ := Es_run l.length l 1 24 [] (Nat.le_refl _) (Nat.le_refl _) rfl h2
    have hpost : post = [] := by
      cases post with
      | nil => rfl
      | cons n p => cases h4
    subst hpost
    refine ⟨by omega, ?_⟩
    rw [List.append_nil]
    match bs, h3.len.2 with
    | [b], _ => exact ⟨b, h3⟩
  · rintro ⟨h1, b, h2⟩
    refine ⟨⟨?_, by omega⟩, ?_⟩
    · have := h2.len.1
      cases l with
      | nil => simp at this
      | cons n l => rfl
    · have := run_Es h2 (t := 0) (r := []) (post := []) rfl (Nat.le_refl _)
      rw [List.append_nil] at this
      exact this
end Go.Proofs.Ytkedlkcknhinoaa.G

namespace Go.Proofs.Ytkedlkcknhinoaa.G
open Go.BX
set_option linter.unusedSimpArgs false
set_option linter.unusedVariables false
theorem upd2 (A : Nat → Blk) (g : Nat) (x y : Blk) : upd (upd A g x) g y = upd A g y := by
  funext c
  unfold upd
  split <;> rfl
def encK (x : Bytes × Nat) : List AV := [.str x.1, .int .i64 (x.2 : Int)]
theorem kinds_ok : PCall Cx 25 [] (.vec 2 (ops.map encK)) := ⟨200, by kernel_rfl⟩
theorem names_ok : PCall Cx 38 [] (.vec 1 [[.str [107, 101, 121]], [.str [118, 97, 108]], [.str [97, 99, 99]], [.str [105]], [.str [105, 116]]]) := ⟨100, by kernel_rfl⟩
theorem kinds_get {i : Nat} (h : i < ops.length) : (ops.map encK)[i]? = some [.str (ops[i]).1, .int .i64 ((ops[i]).2 : Int)] := by
  rw [List.getElem?_map, List.getElem?_eq_getElem h]
  rfl
theorem Parts_ok (op : Int) (h1 : -9223372036854775808 ≤ op) (h2 : op ≤ 9223372036854775807) : PCall Cx 12 [.int .i64 op] (.tuple [.str (wordM op), .int .i64 (partsM op : Int), .bool (isOp op)]) := by
  refine pcall_run (noext _) body12 ?_
  cases ho : isOp op with
  | false =>
    obtain ⟨e1, e2⟩ := parts_no ho
    rw [e1, e2]
    have ho' := ho
    unfold isOp at ho'
    by_cases c1 : op ≤ 1
    · simp only [c1, freeze2_str, Int.cast_ofNat_Int, n12_0, n12_1, n12_2, n12_3, n12_4, n12_5, n12_6, n12_7, n12_8, n12_9, n12_10, n12_11, n12_12, n12_13, n12_14, o12_1, o12_4, o12_7, o12_11, o12_13, res12, TT_3, TT_4, TT_5, TT_9, TT_21, TT_22, TT_25, TT_33, TT_35, TT_37, TT_39, TT_47, TT_52, TT_56, TT_59, TT_60, TT_62, TT_63, TT_65, TT_73, TT_77, TT_82, TT_84, bb, primP, primM, ev, evs, parts_, ofConst, bin, un, intBin, putA, enterT, Nat.reduceEqDiff, Nat.reduceAdd, Nat.reduceMul, Nat.reduceLeDiff, Nat.reduceLT, ↓reduceIte, reduceCtorEq, RunRes, resultsA, oneOf, AV.plain, AV.cells, AHeap.push, AHeap.set, AHeap.empty, fieldOf, loadA, storeA, BX.part, TK.isAgg, convA, builtinA, inertB, builtinP, buildA, fillA, splice, eqv, cellsEq, sizeT, adT, ldT, fwT, Nat.reduceBeqDiff, Nat.reduceBneDiff, Int.reduceBNe, Int.reduceBEq, Int.reduceEq, Int.reduceLT, Int.reduceLE, Int.reduceAdd, Int.reduceSub, Int.reduceMul, Int.reduceNeg, strBin, indexAddrA, elems, lenOf, chunk, List.reduceReplicate, Int.reduceToNat]
    · have c2 : 29 < op := by
        simp only [Bool.and_eq_false_iff, decide_eq_false_iff_not] at ho'
        omega
      simp only [c1, c2, freeze2_str, Int.cast_ofNat_Int, n12_0, n12_1, n12_2, n12_3, n12_4, n12_5, n12_6, n12_7, n12_8, n12_9, n12_10, n12_11, n12_12, n12_13, n12_14, o12_1, o12_4, o12_7, o12_11, o12_13, res12, TT_3, TT_4, TT_5, TT_9, TT_21, TT_22, TT_25, TT_33, TT_35, TT_37, TT_39, TT_47, TT_52, TT_56, TT_59, TT_60, TT_62, TT_63, TT_65, TT_73, TT_77, TT_82, TT_84, bb, primP, primM, ev, evs, parts_, ofConst, bin, un, intBin, putA, enterT, Nat.reduceEqDiff, Nat.reduceAdd, Nat.reduceMul, Nat.reduceLeDiff, Nat.reduceLT, ↓reduceIte, reduceCtorEq, RunRes, resultsA, oneOf, AV.plain, AV.cells, AHeap.push, AHeap.set, AHeap.empty, fieldOf, loadA, storeA, BX.part, TK.isAgg, convA, builtinA, inertB, builtinP, buildA, fillA, splice, eqv, cellsEq, sizeT, adT, ldT, fwT, Nat.reduceBeqDiff, Nat.reduceBneDiff, Int.reduceBNe, Int.reduceBEq, Int.reduceEq, Int.reduceLT, Int.reduceLE, Int.reduceAdd, Int.reduceSub, Int.reduceMul, Int.reduceNeg, strBin, indexAddrA, elems, lenOf, chunk, List.reduceReplicate, Int.reduceToNat]
  | true =>
    obtain ⟨hl, e⟩ := ops_get ho
    unfold wordM partsM
    rw [e]
    have ho' := ho
    unfold isOp at ho'
    simp only [Bool.and_eq_true, decide_eq_true_eq] at ho'
    have c1 : ¬ op ≤ 1 := by omega
    have c2 : ¬ 29 < op := by omega
    have w1 : IntKind.i64.wrap (op - 1) = op - 1 := wr64 (by omega) (by omega)
    have w2 : IntKind.i64.wrap (op - 1 - 1) = (((op - 2).toNat : Nat) : Int) := by rw [wr64 (by omega) (by omega)]; omega
    have p0 : (0 : Int) ≤ (((op - 2).toNat : Nat) : Int) := by omega
    have l0 : (((op - 2).toNat : Nat) : Int) < ((ops.map encK).length : Int) := by rw [List.length_map]; omega
    have g0 := kinds_get hl
    simp only [c1, c2, w1, w2, p0, l0, g0, freeze2_str, Int.toNat_natCast, call_pure pure25 rfl kinds_ok, n12_0, n12_1, n12_2, n12_3, n12_4, n12_5, n12_6, n12_7, n12_8, n12_9, n12_10, n12_11, n12_12, n12_13, n12_14, o12_1, o12_4, o12_7, o12_11, o12_13, res12, TT_3, TT_4, TT_5, TT_9, TT_21, TT_22, TT_25, TT_33, TT_35, TT_37, TT_39, TT_47, TT_52, TT_56, TT_59, TT_60, TT_62, TT_63, TT_65, TT_73, TT_77, TT_82, TT_84, bb, primP, primM, ev, evs, parts_, ofConst, bin, un, intBin, putA, enterT, Nat.reduceEqDiff, Nat.reduceAdd, Nat.reduceMul, Nat.reduceLeDiff, Nat.reduceLT, ↓reduceIte, reduceCtorEq, RunRes, resultsA, oneOf, AV.plain, AV.cells, AHeap.push, AHeap.set, AHeap.empty, fieldOf, loadA, storeA, BX.part, TK.isAgg, convA, builtinA, inertB, builtinP, buildA, fillA, splice, eqv, cellsEq, sizeT, adT, ldT, fwT, Nat.reduceBeqDiff, Nat.reduceBneDiff, Int.reduceBNe, Int.reduceBEq, Int.reduceEq, Int.reduceLT, Int.reduceLE, Int.reduceAdd, Int.reduceSub, Int.reduceMul, Int.reduceNeg, strBin, indexAddrA, elems, lenOf, chunk, List.reduceReplicate, Int.reduceToNat]
def numN (n : Nd) : Prop := (-9223372036854775808 ≤ n.op ∧ n.op ≤ 9223372036854775807)
theorem alone_okk (n : Nd) : PCall Cx 35 [ndA n] (.bool (aloneM n)) := by
  refine pcall_run (noext _) body35 ?_
  have r := Right_ok n.v.k n.v.n n.v.s n.v.x n.v.y
  have eo : rightV n.v.k n.v.n n.v.s n.v.x n.v.y = okV n.v := rfl
  rw [eo] at r
  unfold aloneM
  have w5 : IntKind.i64.wrap 5 = 5 := rfl
  by_cases h1 : n.op = 1
  · have e1 : (n.op == 1) = true := by simp [h1]
    rw [if_pos h1]
    cases hk : (n.v.k == 0) with
    | false => simp only [e1, hk, Bool.false_and, n35_0, n35_1, n35_2, n35_3, n35_4, n35_5, n35_6, n35_7, n35_8, n35_9, n35_10, n35_11, n35_12, o35_1, o35_4, o35_7, o35_11, res35, TT_3, TT_4, TT_5, TT_9, TT_21, TT_22, TT_25, TT_33, TT_35, TT_37, TT_39, TT_47, TT_52, TT_56, TT_59, TT_60, TT_62, TT_63, TT_65, TT_73, TT_77, TT_82, TT_84, bb, primP, primM, ev, evs, parts_, ofConst, bin, un, intBin, putA, enterT, Nat.reduceEqDiff, Nat.reduceAdd, Nat.reduceMul, Nat.reduceLeDiff, Nat.reduceLT, ↓reduceIte, reduceCtorEq, RunRes, resultsA, oneOf, AV.plain, AV.cells, AHeap.push, AHeap.set, AHeap.empty, fieldOf, loadA, storeA, BX.part, TK.isAgg, convA, builtinA, inertB, builtinP, buildA, fillA, splice, eqv, cellsEq, sizeT, adT, ldT, fwT, Nat.reduceBeqDiff, Nat.reduceBneDiff, Int.reduceBNe, Int.reduceBEq, Int.reduceEq, Int.reduceLT, Int.reduceLE, Int.reduceAdd, Int.reduceSub, Int.reduceMul, Int.reduceNeg, strBin, indexAddrA, elems, lenOf, chunk, List.reduceReplicate, Int.reduceToNat]
    | true =>
      cases hok : okV n.v with
      | false =>
        rw [hok] at r
        simp only [e1, hk, Bool.false_and, Bool.true_and, call_pure pure49 rfl r, n35_0, n35_1, n35_2, n35_3, n35_4, n35_5, n35_6, n35_7, n35_8, n35_9, n35_10, n35_11, n35_12, o35_1, o35_4, o35_7, o35_11, res35, TT_3, TT_4, TT_5, TT_9, TT_21, TT_22, TT_25, TT_33, TT_35, TT_37, TT_39, TT_47, TT_52, TT_56, TT_59, TT_60, TT_62, TT_63, TT_65, TT_73, TT_77, TT_82, TT_84, bb, primP, primM, ev, evs, parts_, ofConst, bin, un, intBin, putA, enterT, Nat.reduceEqDiff, Nat.reduceAdd, Nat.reduceMul, Nat.reduceLeDiff, Nat.reduceLT, ↓reduceIte, reduceCtorEq, RunRes, resultsA, oneOf, AV.plain, AV.cells, AHeap.push, AHeap.set, AHeap.empty, fieldOf, loadA, storeA, BX.part, TK.isAgg, convA, builtinA, inertB, builtinP, buildA, fillA, splice, eqv, cellsEq, sizeT, adT, ldT, fwT, Nat.reduceBeqDiff, Nat.reduceBneDiff, Int.reduceBNe, Int.reduceBEq, Int.reduceEq, Int.reduceLT, Int.reduceLE, Int.reduceAdd, Int.reduceSub, Int.reduceMul, Int.reduceNeg, strBin, indexAddrA, elems, lenOf, chunk, List.reduceReplicate, Int.reduceToNat]
      | true =>
        rw [hok] at r
        by_cases h0 : 0 ≤ n.v.n
        · simp only [e1, hk, h0, i64, Int.cast_ofNat_Int, Bool.false_and, Bool.true_and, call_pure pure49 rfl r, call_pure pure38 rfl names_ok, n35_0, n35_1, n35_2, n35_3, n35_4, n35_5, n35_6, n35_7, n35_8, n35_9, n35_10, n35_11, n35_12, o35_1, o35_4, o35_7, o35_11, res35, TT_3, TT_4, TT_5, TT_9, TT_21, TT_22, TT_25, TT_33, TT_35, TT_37, TT_39, TT_47, TT_52, TT_56, TT_59, TT_60, TT_62, TT_63, TT_65, TT_73, TT_77, TT_82, TT_84, bb, primP, primM, ev, evs, parts_, ofConst, bin, un, intBin, putA, enterT, Nat.reduceEqDiff, Nat.reduceAdd, Nat.reduceMul, Nat.reduceLeDiff, Nat.reduceLT, ↓reduceIte, reduceCtorEq, RunRes, resultsA, oneOf, AV.plain, AV.cells, AHeap.push, AHeap.set, AHeap.empty, fieldOf, loadA, storeA, BX.part, TK.isAgg, convA, builtinA, inertB, builtinP, buildA, fillA, splice, eqv, cellsEq, sizeT, adT, ldT, fwT, Nat.reduceBeqDiff, Nat.reduceBneDiff, Int.reduceBNe, Int.reduceBEq, Int.reduceEq, Int.reduceLT, Int.reduceLE, Int.reduceAdd, Int.reduceSub, Int.reduceMul, Int.reduceNeg, strBin, indexAddrA, elems, lenOf, chunk, List.reduceReplicate, Int.reduceToNat]
        · simp only [e1, hk, h0, Bool.false_and, Bool.true_and, call_pure pure49 rfl r, n35_0, n35_1, n35_2, n35_3, n35_4, n35_5, n35_6, n35_7, n35_8, n35_9, n35_10, n35_11, n35_12, o35_1, o35_4, o35_7, o35_11, res35, TT_3, TT_4, TT_5, TT_9, TT_21, TT_22, TT_25, TT_33, TT_35, TT_37, TT_39, TT_47, TT_52, TT_56, TT_59, TT_60, TT_62, TT_63, TT_65, TT_73, TT_77, TT_82, TT_84, bb, primP, primM, ev, evs, parts_, ofConst, bin, un, intBin, putA, enterT, Nat.reduceEqDiff, Nat.reduceAdd, Nat.reduceMul, Nat.reduceLeDiff, Nat.reduceLT, ↓reduceIte, reduceCtorEq, RunRes, resultsA, oneOf, AV.plain, AV.cells, AHeap.push, AHeap.set, AHeap.empty, fieldOf, loadA, storeA, BX.part, TK.isAgg, convA, builtinA, inertB, builtinP, buildA, fillA, splice, eqv, cellsEq, sizeT, adT, ldT, fwT, Nat.reduceBeqDiff, Nat.reduceBneDiff, Int.reduceBNe, Int.reduceBEq, Int.reduceEq, Int.reduceLT, Int.reduceLE, Int.reduceAdd, Int.reduceSub, Int.reduceMul, Int.reduceNeg, strBin, indexAddrA, elems, lenOf, chunk, List.reduceReplicate, Int.reduceToNat]
  · have e1 : (n.op == 1) = false := by simp [h1]
    rw [if_neg h1]
    cases h0 : (n.op == 0) with
    | false => simp only [e1, h0, Bool.false_and, n35_0, n35_1, n35_2, n35_3, n35_4, n35_5, n35_6, n35_7, n35_8, n35_9, n35_10, n35_11, n35_12, o35_1, o35_4, o35_7, o35_11, res35, TT_3, TT_4, TT_5, TT_9, TT_21, TT_22, TT_25, TT_33, TT_35, TT_37, TT_39, TT_47, TT_52, TT_56, TT_59, TT_60, TT_62, TT_63, TT_65, TT_73, TT_77, TT_82, TT_84, bb, primP, primM, ev, evs, parts_, ofConst, bin, un, intBin, putA, enterT, Nat.reduceEqDiff, Nat.reduceAdd, Nat.reduceMul, Nat.reduceLeDiff, Nat.reduceLT, ↓reduceIte, reduceCtorEq, RunRes, resultsA, oneOf, AV.plain, AV.cells, AHeap.push, AHeap.set, AHeap.empty, fieldOf, loadA, storeA, BX.part, TK.isAgg, convA, builtinA, inertB, builtinP, buildA, fillA, splice, eqv, cellsEq, sizeT, adT, ldT, fwT, Nat.reduceBeqDiff, Nat.reduceBneDiff, Int.reduceBNe, Int.reduceBEq, Int.reduceEq, Int.reduceLT, Int.reduceLE, Int.reduceAdd, Int.reduceSub, Int.reduceMul, Int.reduceNeg, strBin, indexAddrA, elems, lenOf, chunk, List.reduceReplicate, Int.reduceToNat]
    | true =>
      simp only [e1, h0, Bool.true_and, call_pure pure49 rfl r, n35_0, n35_1, n35_2, n35_3, n35_4, n35_5, n35_6, n35_7, n35_8, n35_9, n35_10, n35_11, n35_12, o35_1, o35_4, o35_7, o35_11, res35, TT_3, TT_4, TT_5, TT_9, TT_21, TT_22, TT_25, TT_33, TT_35, TT_37, TT_39, TT_47, TT_52, TT_56, TT_59, TT_60, TT_62, TT_63, TT_65, TT_73, TT_77, TT_82, TT_84, bb, primP, primM, ev, evs, parts_, ofConst, bin, un, intBin, putA, enterT, Nat.reduceEqDiff, Nat.reduceAdd, Nat.reduceMul, Nat.reduceLeDiff, Nat.reduceLT, ↓reduceIte, reduceCtorEq, RunRes, resultsA, oneOf, AV.plain, AV.cells, AHeap.push, AHeap.set, AHeap.empty, fieldOf, loadA, storeA, BX.part, TK.isAgg, convA, builtinA, inertB, builtinP, buildA, fillA, splice, eqv, cellsEq, sizeT, adT, ldT, fwT, Nat.reduceBeqDiff, Nat.reduceBneDiff, Int.reduceBNe, Int.reduceBEq, Int.reduceEq, Int.reduceLT, Int.reduceLE, Int.reduceAdd, Int.reduceSub, Int.reduceMul, Int.reduceNeg, strBin, indexAddrA, elems, lenOf, chunk, List.reduceReplicate, Int.reduceToNat]
theorem parts_ok (n : Nd) (hn : numN n) : PCall Cx 24 [ndA n] (.tuple [.int .i64 ((partsN n).1 : Int), .bool (partsN n).2]) := by
  refine pcall_run (noext _) body24 ?_
  have hp := Parts_ok n.op hn.1 hn.2
  unfold partsN
  cases ho : isOp n.op with
  | false =>
    rw [ho] at hp
    simp only [Bool.false_eq_true, if_false]
    simp only [Int.cast_ofNat_Int, call_pure pure12 rfl hp, call_pure pure35 rfl (alone_okk n), n24_0, n24_1, n24_2, n24_3, n24_4, n24_5, n24_6, n24_7, n24_8, n24_9, n24_10, n24_11, n24_12, n24_13, n24_14, o24_1, o24_4, o24_6, o24_9, o24_13, res24, TT_3, TT_4, TT_5, TT_9, TT_21, TT_22, TT_25, TT_33, TT_35, TT_37, TT_39, TT_47, TT_52, TT_56, TT_59, TT_60, TT_62, TT_63, TT_65, TT_73, TT_77, TT_82, TT_84, bb, primP, primM, ev, evs, parts_, ofConst, bin, un, intBin, putA, enterT, Nat.reduceEqDiff, Nat.reduceAdd, Nat.reduceMul, Nat.reduceLeDiff, Nat.reduceLT, ↓reduceIte, reduceCtorEq, RunRes, resultsA, oneOf, AV.plain, AV.cells, AHeap.push, AHeap.set, AHeap.empty, fieldOf, loadA, storeA, BX.part, TK.isAgg, convA, builtinA, inertB, builtinP, buildA, fillA, splice, eqv, cellsEq, sizeT, adT, ldT, fwT, Nat.reduceBeqDiff, Nat.reduceBneDiff, Int.reduceBNe, Int.reduceBEq, Int.reduceEq, Int.reduceLT, Int.reduceLE, Int.reduceAdd, Int.reduceSub, Int.reduceMul, Int.reduceNeg, strBin, indexAddrA, elems, lenOf, chunk, List.reduceReplicate, Int.reduceToNat]
  | true =>
    rw [ho] at hp
    simp only [if_true]
    unfold zeroV
    simp only [call_pure pure12 rfl hp, n24_0, n24_1, n24_2, n24_3, n24_4, n24_5, n24_6, n24_7, n24_8, n24_9, n24_10, n24_11, n24_12, n24_13, n24_14, o24_1, o24_4, o24_6, o24_9, o24_13, res24, TT_3, TT_4, TT_5, TT_9, TT_21, TT_22, TT_25, TT_33, TT_35, TT_37, TT_39, TT_47, TT_52, TT_56, TT_59, TT_60, TT_62, TT_63, TT_65, TT_73, TT_77, TT_82, TT_84, bb, primP, primM, ev, evs, parts_, ofConst, bin, un, intBin, putA, enterT, Nat.reduceEqDiff, Nat.reduceAdd, Nat.reduceMul, Nat.reduceLeDiff, Nat.reduceLT, ↓reduceIte, reduceCtorEq, RunRes, resultsA, oneOf, AV.plain, AV.cells, AHeap.push, AHeap.set, AHeap.empty, fieldOf, loadA, storeA, BX.part, TK.isAgg, convA, builtinA, inertB, builtinP, buildA, fillA, splice, eqv, cellsEq, sizeT, adT, ldT, fwT, Nat.reduceBeqDiff, Nat.reduceBneDiff, Int.reduceBNe, Int.reduceBEq, Int.reduceEq, Int.reduceLT, Int.reduceLE, Int.reduceAdd, Int.reduceSub, Int.reduceMul, Int.reduceNeg, strBin, indexAddrA, elems, lenOf, chunk, List.reduceReplicate, Int.reduceToNat]
def InN (v : AV) (l : List Nd) : Prop := (v = .nilS ∧ l = []) ∨ v = .vec 6 (l.map encN)
theorem InN.flat {v : AV} {l : List Nd} (h : InN v l) : v.flat = true := by
  rcases h with ⟨rfl, _⟩ | rfl <;> rfl
theorem InN.len {v : AV} {l : List Nd} (h : InN v l) : lenOf v = some l.length := by
  rcases h with ⟨rfl, rfl⟩ | rfl
  · rfl
  · show some _ = _
    rw [List.length_map]
theorem InN.vec {v : AV} {l : List Nd} (h : InN v l) (h0 : l ≠ []) : v = .vec 6 (l.map encN) := by
  rcases h with ⟨_, h⟩ | h
  · exact absurd h h0
  · exact h
theorem encN_get {l : List Nd} {i : Nat} (h : i < l.length) : (l.map encN)[i]? = some [.int .i64 (l[i]).op, .int .i64 (l[i]).v.k, .int .i64 (l[i]).v.n, .str (l[i]).v.s, .int .i64 (l[i]).v.x, .int .i64 (l[i]).v.y] := by
  rw [List.getElem?_map, List.getElem?_eq_getElem h]
  rfl
def numL (l : List Nd) : Prop := ∀ n, n ∈ l → numN n
def stR (st : List Nat) : List (List AV) := st.reverse.map fun (t : Nat) => [AV.int .i64 (t : Int)]
theorem stR_len (st : List Nat) : (stR st).length = st.length := by simp [stR]
theorem stR_top {t : Nat} {r : List Nat} : (stR (t :: r))[r.length]? = some [.int .i64 (t : Int)] := by
  unfold stR
  rw [List.reverse_cons, List.map_append, List.getElem?_append_right (by simp)]
  simp
theorem stR_set {t : Nat} {r : List Nat} (x : Nat) : (stR (t :: r)).set r.length [.int .i64 (x : Int)] = stR (x :: r) := by
  unfold stR
  rw [List.reverse_cons, List.map_append, List.set_append, if_neg (by simp)]
  simp
theorem stR_cons (t : Nat) (st : List Nat) : stR st ++ [[.int .i64 (t : Int)]] = stR (t :: st) := by
  unfold stR
  simp
def StB (h : Nat) (A : Nat → Blk) (v : AV) (st : List Nat) : Prop := ∃ g es, v = .slc g 1 0 st.length ∧ g < h ∧ A g = .cells 3 1 es ∧ es.take st.length = stR st ∧ st.length ≤ es.length
theorem StB.top {h : Nat} {A : Nat → Blk} {es : List (List AV)} {t : Nat} {r : List Nat} (h1 : es.take (t :: r).length = stR (t :: r)) : es[r.length]? = some [.int .i64 (t : Int)] := by
  have := stR_top (t := t) (r := r)
  rw [← h1, List.getElem?_take, if_pos (by simp)] at this
  exact this
theorem isl : isSl Cx 56 3 := ⟨_, TT_56, rfl⟩
theorem iti : ∃ ti, Cx.TT 3 = some ti ∧ ti.size = 1 ∧ ti.bytes = 8 := ⟨_, TT_3, rfl, rfl⟩
theorem er2_all {l : List Nd} {i : Nat} {h : Nat} {A : Nat → Blk} {Q : AV → AHeap → Prop} :
    ∀ (st : List Nat) (T : Nat → AV), T 17 = .vec 6 (l.map encN) → T 18 = .int .i64 (l.length : Int) → T 19 = .int .i64 (i : Int) → StB h A (T 3) st → st.length ≤ 1000 →
      (∀ T', T' 17 = .vec 6 (l.map encN) → T' 18 = .int .i64 (l.length : Int) → T' 19 = .int .i64 (i : Int) → StB h A (T' 3) (popZ st) → Run Cx 11 T' [] none [.inBlock 1, .code c11_51, .inLoop c11_17, .inBlock 0, .code c11_52] ⟨h, A⟩ Q) →
      Run Cx 11 T [] none [.inLoop c11_43, .inBlock 2, .inBlock 1, .code c11_51, .inLoop c11_17, .inBlock 0, .code c11_52] ⟨h, A⟩ Q := by
  intro st
  induction st with
  | nil =>
    intro T t17 t18 t19 hst hl hK
    rw [run_inLoop]
    obtain ⟨g, es, t3, hg, hA, ht, hle⟩ := hst
    simp only [List.length_nil] at t3
    simp only [t3, t17, t18, t19, lenOf, i64, Int.cast_ofNat_Int, run_exit_start, exit_here, exit_code, exit_inLoop, n11_0, n11_1, n11_2, n11_3, n11_4, n11_5, n11_6, n11_7, n11_8, n11_9, n11_10, n11_11, n11_12, n11_13, n11_14, n11_15, n11_16, n11_17, n11_18, n11_19, n11_20, n11_21, n11_22, n11_23, n11_24, n11_25, n11_26, n11_27, n11_28, n11_29, n11_30, n11_31, n11_32, n11_33, n11_34, n11_35, n11_36, n11_37, n11_38, n11_39, n11_40, n11_41, n11_42, n11_43, n11_44, n11_45, n11_46, n11_47, n11_48, n11_49, n11_50, n11_52, n11_53, n11_54, o11_1, o11_4, o11_7, o11_11, o11_14, o11_18, o11_26, o11_28, o11_31, o11_34, o11_38, o11_40, o11_45, o11_50, o11_51, o11_53, res11, TT_3, TT_4, TT_5, TT_9, TT_21, TT_22, TT_25, TT_33, TT_35, TT_37, TT_39, TT_47, TT_52, TT_56, TT_59, TT_60, TT_62, TT_63, TT_65, TT_73, TT_77, TT_82, TT_84, bb, primP, primM, ev, evs, parts_, ofConst, bin, un, intBin, putA, enterT, Nat.reduceEqDiff, Nat.reduceAdd, Nat.reduceMul, Nat.reduceLeDiff, Nat.reduceLT, ↓reduceIte, reduceCtorEq, RunRes, resultsA, oneOf, AV.plain, AV.cells, AHeap.push, AHeap.set, AHeap.empty, fieldOf, loadA, storeA, BX.part, TK.isAgg, convA, builtinA, inertB, builtinP, buildA, fillA, splice, eqv, cellsEq, sizeT, adT, ldT, fwT, Nat.reduceBeqDiff, Nat.reduceBneDiff, Int.reduceBNe, Int.reduceBEq, Int.reduceEq, Int.reduceLT, Int.reduceLE, Int.reduceAdd, Int.reduceSub, Int.reduceMul, Int.reduceNeg, strBin, indexAddrA, elems, lenOf, chunk, List.reduceReplicate, Int.reduceToNat]
    refine hK _ ?_ ?_ ?_ ⟨g, es, ?_, hg, hA, ht, hle⟩
    all_goals simp only [upd_app, t3, t17, t18, t19, Nat.reduceEqDiff, ↓reduceIte]
    all_goals rfl
  | cons t r ih =>
    intro T t17 t18 t19 hst hl hK
    rw [run_inLoop]
    have hst' := hst
    obtain ⟨g, es, t3, hg, hA, ht, hle⟩ := hst
    rw [List.length_cons] at hl t3
    have c0 : (0 : Int) < ((r.length + 1 : Nat) : Int) := by omega
    have w1 : IntKind.i64.wrap (((r.length + 1 : Nat) : Int) - 1) = (r.length : Int) := by rw [wr64 (by omega) (by omega)]; omega
    have p0 : (0 : Int) ≤ (r.length : Int) := by omega
    have l0 : (r.length : Int) < ((r.length + 1 : Nat) : Int) := by omega
    have l1 : (r.length : Int) ≤ ((r.length + 1 : Nat) : Int) := by omega
    have g0 := StB.top (h := h) (A := A) ht
    cases t with
    | zero =>
      have e0 : (((0 : Nat) : Int) == 0) = true := rfl
      simp only [t3, t17, t18, t19, c0, w1, p0, l0, l1, g0, hA, e0, lenOf, i64, sliceA, bnds, bound, evo, Int.toNat_natCast, Nat.sub_zero, Nat.zero_le, run_exit_start, exit_here, exit_code, exit_inLoop, run_inBlock, n11_0, n11_1, n11_2, n11_3, n11_4, n11_5, n11_6, n11_7, n11_8, n11_9, n11_10, n11_11, n11_12, n11_13, n11_14, n11_15, n11_16, n11_17, n11_18, n11_19, n11_20, n11_21, n11_22, n11_23, n11_24, n11_25, n11_26, n11_27, n11_28, n11_29, n11_30, n11_31, n11_32, n11_33, n11_34, n11_35, n11_36, n11_37, n11_38, n11_39, n11_40, n11_41, n11_42, n11_43, n11_44, n11_45, n11_46, n11_47, n11_48, n11_49, n11_50, n11_52, n11_53, n11_54, o11_1, o11_4, o11_7, o11_11, o11_14, o11_18, o11_26, o11_28, o11_31, o11_34, o11_38, o11_40, o11_45, o11_50, o11_51, o11_53, res11, TT_3, TT_4, TT_5, TT_9, TT_21, TT_22, TT_25, TT_33, TT_35, TT_37, TT_39, TT_47, TT_52, TT_56, TT_59, TT_60, TT_62, TT_63, TT_65, TT_73, TT_77, TT_82, TT_84, bb, primP, primM, ev, evs, parts_, ofConst, bin, un, intBin, putA, enterT, Nat.reduceEqDiff, Nat.reduceAdd, Nat.reduceMul, Nat.reduceLeDiff, Nat.reduceLT, ↓reduceIte, reduceCtorEq, RunRes, resultsA, oneOf, AV.plain, AV.cells, AHeap.push, AHeap.set, AHeap.empty, fieldOf, loadA, storeA, BX.part, TK.isAgg, convA, builtinA, inertB, builtinP, buildA, fillA, splice, eqv, cellsEq, sizeT, adT, ldT, fwT, Nat.reduceBeqDiff, Nat.reduceBneDiff, Int.reduceBNe, Int.reduceBEq, Int.reduceEq, Int.reduceLT, Int.reduceLE, Int.reduceAdd, Int.reduceSub, Int.reduceMul, Int.reduceNeg, strBin, indexAddrA, elems, lenOf, chunk, List.reduceReplicate, Int.reduceToNat]
      refine ih _ ?_ ?_ ?_ ⟨g, es, ?_, hg, hA, ?_, by rw [List.length_cons] at hle; omega⟩ (by omega) hK
      · simp only [upd_app, t17, Nat.reduceEqDiff, ↓reduceIte]
      · simp only [upd_app, t18, Nat.reduceEqDiff, ↓reduceIte]
      · simp only [upd_app, t19, Nat.reduceEqDiff, ↓reduceIte]
      · simp only [upd_app, Nat.reduceEqDiff, ↓reduceIte]
      · have : es.take r.length = (es.take (0 :: r).length).take r.length := by rw [List.take_take, List.length_cons]; congr 1; omega
        rw [this, ht]
        unfold stR
        rw [List.reverse_cons, List.map_append, List.take_append_of_le_length (by simp)]
        exact List.take_of_length_le (by simp)
    | succ t =>
      have e0 : (((t + 1 : Nat) : Int) == 0) = false := by rw [beq_eq_false_iff_ne]; omega
      simp only [t3, t17, t18, t19, c0, w1, p0, l0, l1, g0, hA, e0, lenOf, i64, Int.toNat_natCast, run_exit_start, exit_here, exit_code, exit_inLoop, n11_0, n11_1, n11_2, n11_3, n11_4, n11_5, n11_6, n11_7, n11_8, n11_9, n11_10, n11_11, n11_12, n11_13, n11_14, n11_15, n11_16, n11_17, n11_18, n11_19, n11_20, n11_21, n11_22, n11_23, n11_24, n11_25, n11_26, n11_27, n11_28, n11_29, n11_30, n11_31, n11_32, n11_33, n11_34, n11_35, n11_36, n11_37, n11_38, n11_39, n11_40, n11_41, n11_42, n11_43, n11_44, n11_45, n11_46, n11_47, n11_48, n11_49, n11_50, n11_52, n11_53, n11_54, o11_1, o11_4, o11_7, o11_11, o11_14, o11_18, o11_26, o11_28, o11_31, o11_34, o11_38, o11_40, o11_45, o11_50, o11_51, o11_53, res11, TT_3, TT_4, TT_5, TT_9, TT_21, TT_22, TT_25, TT_33, TT_35, TT_37, TT_39, TT_47, TT_52, TT_56, TT_59, TT_60, TT_62, TT_63, TT_65, TT_73, TT_77, TT_82, TT_84, bb, primP, primM, ev, evs, parts_, ofConst, bin, un, intBin, putA, enterT, Nat.reduceEqDiff, Nat.reduceAdd, Nat.reduceMul, Nat.reduceLeDiff, Nat.reduceLT, ↓reduceIte, reduceCtorEq, RunRes, resultsA, oneOf, AV.plain, AV.cells, AHeap.push, AHeap.set, AHeap.empty, fieldOf, loadA, storeA, BX.part, TK.isAgg, convA, builtinA, inertB, builtinP, buildA, fillA, splice, eqv, cellsEq, sizeT, adT, ldT, fwT, Nat.reduceBeqDiff, Nat.reduceBneDiff, Int.reduceBNe, Int.reduceBEq, Int.reduceEq, Int.reduceLT, Int.reduceLE, Int.reduceAdd, Int.reduceSub, Int.reduceMul, Int.reduceNeg, strBin, indexAddrA, elems, lenOf, chunk, List.reduceReplicate, Int.reduceToNat]
      refine hK _ ?_ ?_ ?_ ⟨g, es, ?_, hg, hA, ht, hle⟩
      all_goals simp only [upd_app, t3, t17, t18, t19, Nat.reduceEqDiff, ↓reduceIte]
      all_goals rfl
theorem er1_all {l : List Nd} {Q : AV → AHeap → Prop} (hl : l.length ≤ 400) (hn : numL l) (hQ : ∀ b h A, b = (runM [1] l == some []) → Q (.bool b) ⟨h, A⟩) :
    ∀ (j i : Nat) (T : Nat → AV) (h : Nat) (A : Nat → Blk) (st : List Nat), i + j = l.length → T 17 = .vec 6 (l.map encN) → T 18 = .int .i64 (l.length : Int) → T 19 = .int .i64 (i : Int) → StB h A (T 3) st → st.length ≤ i + 1 → (∀ t r, st = t :: r → 1 ≤ t) → (∀ t, t ∈ st → t ≤ 3) → runM st (l.drop i) = runM [1] l →
      Run Cx 11 T [] none [.inLoop c11_17, .inBlock 0, .code c11_52] ⟨h, A⟩ Q
  | 0, i, T, h, A, st, hij, t17, t18, t19, hst, hsl, htop, h3, hrun => by
    rw [run_inLoop]
    have c0 : ¬ (i : Int) < (l.length : Int) := by omega
    rw [List.drop_of_length_le (by omega)] at hrun
    obtain ⟨g, es, t3, hg, hA, ht, hle⟩ := hst
    have e1 : ((st.length : Int) == 0) = (runM [1] l == some []) := by
      rw [← hrun]
      show _ = (some st == some [])
      cases st with
      | nil => rfl
      | cons t r =>
        have : (((t :: r).length : Int) == 0) = false := by rw [beq_eq_false_iff_ne, List.length_cons]; omega
        rw [this]; rfl
    simp only [t3, t17, t18, t19, c0, e1, lenOf, i64, run_exit_start, exit_here, exit_code, exit_inLoop, run_inBlock, n11_0, n11_1, n11_2, n11_3, n11_4, n11_5, n11_6, n11_7, n11_8, n11_9, n11_10, n11_11, n11_12, n11_13, n11_14, n11_15, n11_16, n11_17, n11_18, n11_19, n11_20, n11_21, n11_22, n11_23, n11_24, n11_25, n11_26, n11_27, n11_28, n11_29, n11_30, n11_31, n11_32, n11_33, n11_34, n11_35, n11_36, n11_37, n11_38, n11_39, n11_40, n11_41, n11_42, n11_43, n11_44, n11_45, n11_46, n11_47, n11_48, n11_49, n11_50, n11_51, n11_52, n11_53, n11_54, o11_1, o11_4, o11_7, o11_11, o11_14, o11_18, o11_26, o11_28, o11_31, o11_34, o11_38, o11_40, o11_45, o11_50, o11_51, o11_53, res11, TT_3, TT_4, TT_5, TT_9, TT_21, TT_22, TT_25, TT_33, TT_35, TT_37, TT_39, TT_47, TT_52, TT_56, TT_59, TT_60, TT_62, TT_63, TT_65, TT_73, TT_77, TT_82, TT_84, bb, primP, primM, ev, evs, parts_, ofConst, bin, un, intBin, putA, enterT, Nat.reduceEqDiff, Nat.reduceAdd, Nat.reduceMul, Nat.reduceLeDiff, Nat.reduceLT, ↓reduceIte, reduceCtorEq, RunRes, resultsA, oneOf, AV.plain, AV.cells, AHeap.push, AHeap.set, AHeap.empty, fieldOf, loadA, storeA, BX.part, TK.isAgg, convA, builtinA, inertB, builtinP, buildA, fillA, splice, eqv, cellsEq, sizeT, adT, ldT, fwT, Nat.reduceBeqDiff, Nat.reduceBneDiff, Int.reduceBNe, Int.reduceBEq, Int.reduceEq, Int.reduceLT, Int.reduceLE, Int.reduceAdd, Int.reduceSub, Int.reduceMul, Int.reduceNeg, strBin, indexAddrA, elems, lenOf, chunk, List.reduceReplicate, Int.reduceToNat]
    exact hQ _ _ _ rfl
  | j + 1, i, T, h, A, st, hij, t17, t18, t19, hst, hsl, htop, h3, hrun => by
    rw [run_inLoop]
    have hi : i < l.length := by omega
    have c0 : (i : Int) < (l.length : Int) := by omega
    have p0 : (0 : Int) ≤ (i : Int) := by omega
    have l0 : (i : Int) < ((l.map encN).length : Int) := by rw [List.length_map]; omega
    have g0 := encN_get hi
    have w1 : IntKind.i64.wrap ((i : Int) + 1) = ((i + 1 : Nat) : Int) := by rw [wr64 (by omega) (by omega)]; omega
    have hpo := parts_ok l[i] (hn _ (List.getElem_mem hi))
    have hd : l.drop i = l[i] :: l.drop (i + 1) := List.drop_eq_getElem_cons hi
    rw [hd] at hrun
    replace hrun : (match stepM st l[i] with | some st' => runM st' (l.drop (i + 1)) | none => none) = runM [1] l := hrun
    obtain ⟨g, es, t3, hg, hA, ht, hle⟩ := hst
    cases hp2 : (partsN l[i]).2 with
    | false =>
      rw [hp2] at hpo
      have hno : runM [1] l = none := by
        rw [← hrun]
        unfold stepM
        rw [hp2]
        cases st <;> simp
      simp only [t3, t17, t18, t19, c0, p0, l0, g0, upd2, lenOf, i64, Int.toNat_natCast, call_pure pure24 rfl hpo, run_exit_start, exit_here, exit_code, exit_inLoop, run_inBlock, n11_0, n11_1, n11_2, n11_3, n11_4, n11_5, n11_6, n11_7, n11_8, n11_9, n11_10, n11_11, n11_12, n11_13, n11_14, n11_15, n11_16, n11_17, n11_18, n11_19, n11_20, n11_21, n11_22, n11_23, n11_24, n11_25, n11_26, n11_27, n11_28, n11_29, n11_30, n11_31, n11_32, n11_33, n11_34, n11_35, n11_36, n11_37, n11_38, n11_39, n11_40, n11_41, n11_42, n11_43, n11_44, n11_45, n11_46, n11_47, n11_48, n11_49, n11_50, n11_51, n11_52, n11_53, n11_54, o11_1, o11_4, o11_7, o11_11, o11_14, o11_18, o11_26, o11_28, o11_31, o11_34, o11_38, o11_40, o11_45, o11_50, o11_51, o11_53, res11, TT_3, TT_4, TT_5, TT_9, TT_21, TT_22, TT_25, TT_33, TT_35, TT_37, TT_39, TT_47, TT_52, TT_56, TT_59, TT_60, TT_62, TT_63, TT_65, TT_73, TT_77, TT_82, TT_84, bb, primP, primM, ev, evs, parts_, ofConst, bin, un, intBin, putA, enterT, Nat.reduceEqDiff, Nat.reduceAdd, Nat.reduceMul, Nat.reduceLeDiff, Nat.reduceLT, ↓reduceIte, reduceCtorEq, RunRes, resultsA, oneOf, AV.plain, AV.cells, AHeap.push, AHeap.set, AHeap.empty, fieldOf, loadA, storeA, BX.part, TK.isAgg, convA, builtinA, inertB, builtinP, buildA, fillA, splice, eqv, cellsEq, sizeT, adT, ldT, fwT, Nat.reduceBeqDiff, Nat.reduceBneDiff, Int.reduceBNe, Int.reduceBEq, Int.reduceEq, Int.reduceLT, Int.reduceLE, Int.reduceAdd, Int.reduceSub, Int.reduceMul, Int.reduceNeg, strBin, indexAddrA, elems, lenOf, chunk, List.reduceReplicate, Int.reduceToNat]
      exact hQ false _ _ (by rw [hno]; rfl)
    | true =>
      rw [hp2] at hpo
      cases st with
      | nil =>
        have hno : runM [1] l = none := by rw [← hrun]; rfl
        simp only [List.length_nil] at t3
        simp only [t3, t17, t18, t19, c0, p0, l0, g0, upd2, lenOf, i64, Int.cast_ofNat_Int, Int.toNat_natCast, call_pure pure24 rfl hpo, run_exit_start, exit_here, exit_code, exit_inLoop, run_inBlock, n11_0, n11_1, n11_2, n11_3, n11_4, n11_5, n11_6, n11_7, n11_8, n11_9, n11_10, n11_11, n11_12, n11_13, n11_14, n11_15, n11_16, n11_17, n11_18, n11_19, n11_20, n11_21, n11_22, n11_23, n11_24, n11_25, n11_26, n11_27, n11_28, n11_29, n11_30, n11_31, n11_32, n11_33, n11_34, n11_35, n11_36, n11_37, n11_38, n11_39, n11_40, n11_41, n11_42, n11_43, n11_44, n11_45, n11_46, n11_47, n11_48, n11_49, n11_50, n11_51, n11_52, n11_53, n11_54, o11_1, o11_4, o11_7, o11_11, o11_14, o11_18, o11_26, o11_28, o11_31, o11_34, o11_38, o11_40, o11_45, o11_50, o11_51, o11_53, res11, TT_3, TT_4, TT_5, TT_9, TT_21, TT_22, TT_25, TT_33, TT_35, TT_37, TT_39, TT_47, TT_52, TT_56, TT_59, TT_60, TT_62, TT_63, TT_65, TT_73, TT_77, TT_82, TT_84, bb, primP, primM, ev, evs, parts_, ofConst, bin, un, intBin, putA, enterT, Nat.reduceEqDiff, Nat.reduceAdd, Nat.reduceMul, Nat.reduceLeDiff, Nat.reduceLT, ↓reduceIte, reduceCtorEq, RunRes, resultsA, oneOf, AV.plain, AV.cells, AHeap.push, AHeap.set, AHeap.empty, fieldOf, loadA, storeA, BX.part, TK.isAgg, convA, builtinA, inertB, builtinP, buildA, fillA, splice, eqv, cellsEq, sizeT, adT, ldT, fwT, Nat.reduceBeqDiff, Nat.reduceBneDiff, Int.reduceBNe, Int.reduceBEq, Int.reduceEq, Int.reduceLT, Int.reduceLE, Int.reduceAdd, Int.reduceSub, Int.reduceMul, Int.reduceNeg, strBin, indexAddrA, elems, lenOf, chunk, List.reduceReplicate, Int.reduceToNat]
        exact hQ false _ _ (by rw [hno]; rfl)
      | cons t r =>
        have ht1 := htop t r rfl
        rw [List.length_cons] at t3
        have c1 : (((r.length + 1 : Nat) : Int) == 0) = false := by rw [beq_eq_false_iff_ne]; omega
        have hrl : r.length ≤ 400 := by rw [List.length_cons] at hsl; omega
        have w2 : IntKind.i64.wrap (((r.length + 1 : Nat) : Int) - 1) = (r.length : Int) := by rw [wr64 (by omega) (by omega)]; omega
        by_cases hdep : r.length ≤ 24
        · have c2 : ¬ (24 : Int) < (r.length : Int) := by omega
          have hst' : stepM (t :: r) l[i] = some (popZ ((partsN l[i]).1 :: (t - 1) :: r)) := by
            unfold stepM
            simp only
            rw [if_pos ⟨hp2, hdep⟩]
          rw [hst'] at hrun
          replace hrun : runM (popZ ((partsN l[i]).1 :: (t - 1) :: r)) (l.drop (i + 1)) = runM [1] l := hrun
          have p1 : (0 : Int) ≤ (r.length : Int) := by omega
          have l1 : (r.length : Int) < ((r.length + 1 : Nat) : Int) := by omega
          have g1 := StB.top (h := h) (A := A) ht
          have ht3 := h3 t (by simp)
          have w3 : IntKind.i64.wrap ((t : Int) - 1) = ((t - 1 : Nat) : Int) := by rw [wr64 (by omega) (by omega)]; omega
          have gh : (g = h) = False := eq_false (by omega)
          have hg' : (h = g) = False := eq_false (by omega)
          have hA2 : (upd (upd A h (.cells 37 6 [[.int .i64 (l[i]).op, .int .i64 (l[i]).v.k, .int .i64 (l[i]).v.n, .str (l[i]).v.s, .int .i64 (l[i]).v.x, .int .i64 (l[i]).v.y]])) g (.cells 3 1 (es.set r.length [.int .i64 ((t - 1 : Nat) : Int)]))) g = .cells 3 1 (es.set r.length [.int .i64 ((t - 1 : Nat) : Int)]) := by
            simp only [upd_app, ↓reduceIte]
          have happ := app_rowT (C := Cx) (g := g) (n := h + 1) (m := r.length + 1) (row := [.int .i64 ((partsN l[i]).1 : Int)]) isl iti hA2 (by omega) (by rw [List.length_set]; exact hle) (by unfold most; omega) (by unfold most; omega)
          have htk : (es.set r.length [.int .i64 ((t - 1 : Nat) : Int)]).take (r.length + 1) ++ [[AV.int .i64 ((partsN l[i]).1 : Int)]] = stR ((partsN l[i]).1 :: (t - 1) :: r) := by
            rw [List.take_set, show es.take (r.length + 1) = stR (t :: r) from ht, stR_set, stR_cons]
          rw [htk] at happ
          simp only [t3, t17, t18, t19, c0, c1, c2, p0, p1, l0, l1, g0, g1, gh, hg', hA, w2, w3, happ, upd2, lenOf, i64, runVH_some, Int.toNat_natCast, call_pure pure24 rfl hpo, run_exit_start, exit_here, exit_code, exit_inLoop, run_inBlock, n11_0, n11_1, n11_2, n11_3, n11_4, n11_5, n11_6, n11_7, n11_8, n11_9, n11_10, n11_11, n11_12, n11_13, n11_14, n11_15, n11_16, n11_17, n11_18, n11_19, n11_20, n11_21, n11_22, n11_23, n11_24, n11_25, n11_26, n11_27, n11_28, n11_29, n11_30, n11_31, n11_32, n11_33, n11_34, n11_35, n11_36, n11_37, n11_38, n11_39, n11_40, n11_41, n11_42, n11_44, n11_45, n11_46, n11_47, n11_48, n11_49, n11_50, n11_52, n11_53, n11_54, o11_1, o11_4, o11_7, o11_11, o11_14, o11_18, o11_26, o11_28, o11_31, o11_34, o11_38, o11_40, o11_45, o11_50, o11_51, o11_53, res11, TT_3, TT_4, TT_5, TT_9, TT_21, TT_22, TT_25, TT_33, TT_35, TT_37, TT_39, TT_47, TT_52, TT_56, TT_59, TT_60, TT_62, TT_63, TT_65, TT_73, TT_77, TT_82, TT_84, bb, primP, primM, ev, evs, parts_, ofConst, bin, un, intBin, putA, enterT, Nat.reduceEqDiff, Nat.reduceAdd, Nat.reduceMul, Nat.reduceLeDiff, Nat.reduceLT, ↓reduceIte, reduceCtorEq, RunRes, resultsA, oneOf, AV.plain, AV.cells, AHeap.push, AHeap.set, AHeap.empty, fieldOf, loadA, storeA, BX.part, TK.isAgg, convA, builtinA, inertB, builtinP, buildA, fillA, splice, eqv, cellsEq, sizeT, adT, ldT, fwT, Nat.reduceBeqDiff, Nat.reduceBneDiff, Int.reduceBNe, Int.reduceBEq, Int.reduceEq, Int.reduceLT, Int.reduceLE, Int.reduceAdd, Int.reduceSub, Int.reduceMul, Int.reduceNeg, strBin, indexAddrA, elems, lenOf, chunk, List.reduceReplicate, Int.reduceToNat]
          have hpl : (partsN l[i]).1 ≤ 3 := by
            unfold partsN
            split
            · rename_i ho
              exact (parts_pos ho).2
            · omega
          refine er2_all (l := l) (i := i) ((partsN l[i]).1 :: (t - 1) :: r) _ ?_ ?_ ?_ ⟨h + 1 + 1, stR ((partsN l[i]).1 :: (t - 1) :: r), ?_, ?_, ?_, ?_, ?_⟩ (by simp only [List.length_cons] at hsl ⊢; omega) ?_
          · simp only [upd_app, t17, Nat.reduceEqDiff, ↓reduceIte]
          · simp only [upd_app, t18, Nat.reduceEqDiff, ↓reduceIte]
          · simp only [upd_app, t19, Nat.reduceEqDiff, ↓reduceIte]
          · simp only [upd_app, Nat.reduceEqDiff, ↓reduceIte]
            rfl
          · omega
          · simp only [upd_app, ↓reduceIte]
          · exact List.take_of_length_le (by rw [stR_len]; exact Nat.le_refl _)
          · rw [stR_len]; exact Nat.le_refl _
          · intro T' t17 t18 t19 hstB
            simp only [t17, t18, t19, w1, run_exit_start, exit_here, exit_code, exit_inLoop, run_inBlock, n11_0, n11_1, n11_2, n11_3, n11_4, n11_5, n11_6, n11_7, n11_8, n11_9, n11_10, n11_11, n11_12, n11_13, n11_14, n11_15, n11_16, n11_17, n11_18, n11_19, n11_20, n11_21, n11_22, n11_23, n11_24, n11_25, n11_26, n11_27, n11_28, n11_29, n11_30, n11_31, n11_32, n11_33, n11_34, n11_35, n11_36, n11_37, n11_38, n11_39, n11_40, n11_41, n11_42, n11_43, n11_44, n11_45, n11_46, n11_47, n11_48, n11_49, n11_50, n11_51, n11_53, n11_54, o11_1, o11_4, o11_7, o11_11, o11_14, o11_18, o11_26, o11_28, o11_31, o11_34, o11_38, o11_40, o11_45, o11_50, o11_51, o11_53, res11, TT_3, TT_4, TT_5, TT_9, TT_21, TT_22, TT_25, TT_33, TT_35, TT_37, TT_39, TT_47, TT_52, TT_56, TT_59, TT_60, TT_62, TT_63, TT_65, TT_73, TT_77, TT_82, TT_84, bb, primP, primM, ev, evs, parts_, ofConst, bin, un, intBin, putA, enterT, Nat.reduceEqDiff, Nat.reduceAdd, Nat.reduceMul, Nat.reduceLeDiff, Nat.reduceLT, ↓reduceIte, reduceCtorEq, RunRes, resultsA, oneOf, AV.plain, AV.cells, AHeap.push, AHeap.set, AHeap.empty, fieldOf, loadA, storeA, BX.part, TK.isAgg, convA, builtinA, inertB, builtinP, buildA, fillA, splice, eqv, cellsEq, sizeT, adT, ldT, fwT, Nat.reduceBeqDiff, Nat.reduceBneDiff, Int.reduceBNe, Int.reduceBEq, Int.reduceEq, Int.reduceLT, Int.reduceLE, Int.reduceAdd, Int.reduceSub, Int.reduceMul, Int.reduceNeg, strBin, indexAddrA, elems, lenOf, chunk, List.reduceReplicate, Int.reduceToNat]
            have popk : ∀ st : List Nat, (popZ st).length ≤ st.length ∧ (∀ t, t ∈ popZ st → t ∈ st) ∧ (∀ t r, popZ st = t :: r → 1 ≤ t) := by
              intro st
              induction st with
              | nil => exact ⟨Nat.le_refl _, fun t h => h, fun t r h => by cases h⟩
              | cons a st ih =>
                cases a with
                | zero =>
                  obtain ⟨i1, i2, i3⟩ := ih
                  exact ⟨by show (popZ st).length ≤ _; rw [List.length_cons]; omega, fun t h => List.mem_cons_of_mem _ (i2 t h), i3⟩
                | succ a => exact ⟨Nat.le_refl _, fun t h => h, fun t r h => by cases h; omega⟩
            obtain ⟨k1, k2, k3⟩ := popk ((partsN l[i]).1 :: (t - 1) :: r)
            refine er1_all hl hn hQ j (i + 1) _ _ _ (popZ ((partsN l[i]).1 :: (t - 1) :: r)) (by omega) ?_ ?_ ?_ ?_ (by simp only [List.length_cons] at hsl k1 ⊢; omega) k3 ?_ hrun
            · simp only [upd_app, t17, Nat.reduceEqDiff, ↓reduceIte]
            · simp only [upd_app, t18, Nat.reduceEqDiff, ↓reduceIte]
            · simp only [upd_app, Nat.reduceEqDiff, ↓reduceIte]
            · simp only [upd_app, Nat.reduceEqDiff, ↓reduceIte]
              exact hstB
            · intro x hx
              have := k2 x hx
              simp only [List.mem_cons] at this
              rcases this with rfl | rfl | h
              · exact hpl
              · omega
              · exact h3 x (by simp [h])
        · have c2 : (24 : Int) < (r.length : Int) := by omega
          have hno : runM [1] l = none := by
            rw [← hrun]
            unfold stepM
            simp only
            rw [if_neg (by rintro ⟨_, h⟩; exact hdep h)]
          simp only [t3, t17, t18, t19, c0, c1, c2, p0, l0, g0, w2, upd2, lenOf, i64, Int.toNat_natCast, call_pure pure24 rfl hpo, run_exit_start, exit_here, exit_code, exit_inLoop, run_inBlock, n11_0, n11_1, n11_2, n11_3, n11_4, n11_5, n11_6, n11_7, n11_8, n11_9, n11_10, n11_11, n11_12, n11_13, n11_14, n11_15, n11_16, n11_17, n11_18, n11_19, n11_20, n11_21, n11_22, n11_23, n11_24, n11_25, n11_26, n11_27, n11_28, n11_29, n11_30, n11_31, n11_32, n11_33, n11_34, n11_35, n11_36, n11_37, n11_38, n11_39, n11_40, n11_41, n11_42, n11_43, n11_44, n11_45, n11_46, n11_47, n11_48, n11_49, n11_50, n11_51, n11_52, n11_53, n11_54, o11_1, o11_4, o11_7, o11_11, o11_14, o11_18, o11_26, o11_28, o11_31, o11_34, o11_38, o11_40, o11_45, o11_50, o11_51, o11_53, res11, TT_3, TT_4, TT_5, TT_9, TT_21, TT_22, TT_25, TT_33, TT_35, TT_37, TT_39, TT_47, TT_52, TT_56, TT_59, TT_60, TT_62, TT_63, TT_65, TT_73, TT_77, TT_82, TT_84, bb, primP, primM, ev, evs, parts_, ofConst, bin, un, intBin, putA, enterT, Nat.reduceEqDiff, Nat.reduceAdd, Nat.reduceMul, Nat.reduceLeDiff, Nat.reduceLT, ↓reduceIte, reduceCtorEq, RunRes, resultsA, oneOf, AV.plain, AV.cells, AHeap.push, AHeap.set, AHeap.empty, fieldOf, loadA, storeA, BX.part, TK.isAgg, convA, builtinA, inertB, builtinP, buildA, fillA, splice, eqv, cellsEq, sizeT, adT, ldT, fwT, Nat.reduceBeqDiff, Nat.reduceBneDiff, Int.reduceBNe, Int.reduceBEq, Int.reduceEq, Int.reduceLT, Int.reduceLE, Int.reduceAdd, Int.reduceSub, Int.reduceMul, Int.reduceNeg, strBin, indexAddrA, elems, lenOf, chunk, List.reduceReplicate, Int.reduceToNat]
          exact hQ false _ _ (by rw [hno]; rfl)
theorem ERight_ok {v : AV} {l : List Nd} (hv : InN v l) (hn : numL l) (hl : l.length ≤ 1000000) : PCall Cx 11 [v] (.bool (rightM l)) := by
  refine pcall_run (noext _) body11 ?_
  have hlen := hv.len
  simp only [lenOf] at hlen
  by_cases h0 : l = []
  · subst h0
    have e : rightM [] = false := rfl
    rw [e]
    simp only [List.length_nil] at hlen
    simp only [hlen, lenOf, i64, Int.cast_ofNat_Int, n11_0, n11_1, n11_2, n11_3, n11_4, n11_5, n11_6, n11_7, n11_8, n11_9, n11_10, n11_11, n11_12, n11_13, n11_14, n11_15, n11_16, n11_17, n11_18, n11_19, n11_20, n11_21, n11_22, n11_23, n11_24, n11_25, n11_26, n11_27, n11_28, n11_29, n11_30, n11_31, n11_32, n11_33, n11_34, n11_35, n11_36, n11_37, n11_38, n11_39, n11_40, n11_41, n11_42, n11_43, n11_44, n11_45, n11_46, n11_47, n11_48, n11_49, n11_50, n11_51, n11_52, n11_53, n11_54, o11_1, o11_4, o11_7, o11_11, o11_14, o11_18, o11_26, o11_28, o11_31, o11_34, o11_38, o11_40, o11_45, o11_50, o11_51, o11_53, res11, TT_3, TT_4, TT_5, TT_9, TT_21, TT_22, TT_25, TT_33, TT_35, TT_37, TT_39, TT_47, TT_52, TT_56, TT_59, TT_60, TT_62, TT_63, TT_65, TT_73, TT_77, TT_82, TT_84, bb, primP, primM, ev, evs, parts_, ofConst, bin, un, intBin, putA, enterT, Nat.reduceEqDiff, Nat.reduceAdd, Nat.reduceMul, Nat.reduceLeDiff, Nat.reduceLT, ↓reduceIte, reduceCtorEq, RunRes, resultsA, oneOf, AV.plain, AV.cells, AHeap.push, AHeap.set, AHeap.empty, fieldOf, loadA, storeA, BX.part, TK.isAgg, convA, builtinA, inertB, builtinP, buildA, fillA, splice, eqv, cellsEq, sizeT, adT, ldT, fwT, Nat.reduceBeqDiff, Nat.reduceBneDiff, Int.reduceBNe, Int.reduceBEq, Int.reduceEq, Int.reduceLT, Int.reduceLE, Int.reduceAdd, Int.reduceSub, Int.reduceMul, Int.reduceNeg, strBin, indexAddrA, elems, lenOf, chunk, List.reduceReplicate, Int.reduceToNat]
  · have hpos := List.length_pos_iff.mpr h0
    have e1 : ((l.length : Int) == 0) = false := by rw [beq_eq_false_iff_ne]; omega
    have hemp : l.isEmpty = false := by cases l with
      | nil => exact absurd rfl h0
      | cons a b => rfl
    by_cases h400 : 400 < l.length
    · have e2 : (400 : Int) < (l.length : Int) := by omega
      have e : rightM l = false := by unfold rightM; simp [h400]
      rw [e]
      simp only [hlen, e1, e2, lenOf, i64, n11_0, n11_1, n11_2, n11_3, n11_4, n11_5, n11_6, n11_7, n11_8, n11_9, n11_10, n11_11, n11_12, n11_13, n11_14, n11_15, n11_16, n11_17, n11_18, n11_19, n11_20, n11_21, n11_22, n11_23, n11_24, n11_25, n11_26, n11_27, n11_28, n11_29, n11_30, n11_31, n11_32, n11_33, n11_34, n11_35, n11_36, n11_37, n11_38, n11_39, n11_40, n11_41, n11_42, n11_43, n11_44, n11_45, n11_46, n11_47, n11_48, n11_49, n11_50, n11_51, n11_52, n11_53, n11_54, o11_1, o11_4, o11_7, o11_11, o11_14, o11_18, o11_26, o11_28, o11_31, o11_34, o11_38, o11_40, o11_45, o11_50, o11_51, o11_53, res11, TT_3, TT_4, TT_5, TT_9, TT_21, TT_22, TT_25, TT_33, TT_35, TT_37, TT_39, TT_47, TT_52, TT_56, TT_59, TT_60, TT_62, TT_63, TT_65, TT_73, TT_77, TT_82, TT_84, bb, primP, primM, ev, evs, parts_, ofConst, bin, un, intBin, putA, enterT, Nat.reduceEqDiff, Nat.reduceAdd, Nat.reduceMul, Nat.reduceLeDiff, Nat.reduceLT, ↓reduceIte, reduceCtorEq, RunRes, resultsA, oneOf, AV.plain, AV.cells, AHeap.push, AHeap.set, AHeap.empty, fieldOf, loadA, storeA, BX.part, TK.isAgg, convA, builtinA, inertB, builtinP, buildA, fillA, splice, eqv, cellsEq, sizeT, adT, ldT, fwT, Nat.reduceBeqDiff, Nat.reduceBneDiff, Int.reduceBNe, Int.reduceBEq, Int.reduceEq, Int.reduceLT, Int.reduceLE, Int.reduceAdd, Int.reduceSub, Int.reduceMul, Int.reduceNeg, strBin, indexAddrA, elems, lenOf, chunk, List.reduceReplicate, Int.reduceToNat]
    · have e2 : ¬ (400 : Int) < (l.length : Int) := by omega
      have e : rightM l = (runM [1] l == some []) := by unfold rightM; simp [h400, hemp]
      obtain rfl := hv.vec h0
      simp only [List.length_map, e1, e2, lenOf, i64, n11_0, n11_1, n11_2, n11_3, n11_4, n11_5, n11_6, n11_7, n11_8, n11_9, n11_10, n11_11, n11_12, n11_13, n11_14, n11_15, n11_16, n11_18, n11_19, n11_20, n11_21, n11_22, n11_23, n11_24, n11_25, n11_26, n11_27, n11_28, n11_29, n11_30, n11_31, n11_32, n11_33, n11_34, n11_35, n11_36, n11_37, n11_38, n11_39, n11_40, n11_41, n11_42, n11_43, n11_44, n11_45, n11_46, n11_47, n11_48, n11_49, n11_50, n11_51, n11_53, n11_54, o11_1, o11_4, o11_7, o11_11, o11_14, o11_18, o11_26, o11_28, o11_31, o11_34, o11_38, o11_40, o11_45, o11_50, o11_51, o11_53, res11, TT_3, TT_4, TT_5, TT_9, TT_21, TT_22, TT_25, TT_33, TT_35, TT_37, TT_39, TT_47, TT_52, TT_56, TT_59, TT_60, TT_62, TT_63, TT_65, TT_73, TT_77, TT_82, TT_84, bb, primP, primM, ev, evs, parts_, ofConst, bin, un, intBin, putA, enterT, Nat.reduceEqDiff, Nat.reduceAdd, Nat.reduceMul, Nat.reduceLeDiff, Nat.reduceLT, ↓reduceIte, reduceCtorEq, RunRes, resultsA, oneOf, AV.plain, AV.cells, AHeap.push, AHeap.set, AHeap.empty, fieldOf, loadA, storeA, BX.part, TK.isAgg, convA, builtinA, inertB, builtinP, buildA, fillA, splice, eqv, cellsEq, sizeT, adT, ldT, fwT, Nat.reduceBeqDiff, Nat.reduceBneDiff, Int.reduceBNe, Int.reduceBEq, Int.reduceEq, Int.reduceLT, Int.reduceLE, Int.reduceAdd, Int.reduceSub, Int.reduceMul, Int.reduceNeg, strBin, indexAddrA, elems, lenOf, chunk, List.reduceReplicate, Int.reduceToNat]
      refine er1_all (by omega) hn ?_ l.length 0 _ _ _ [1] (by omega) ?_ ?_ ?_ ⟨0, [[.int .i64 1]], ?_, by omega, ?_, ?_, by simp⟩ (by simp) (fun t r h => by cases h; exact Nat.le_refl _) (fun t h => by simp at h; omega) (by rw [List.drop_zero])
      · intro b h A hb
        rw [e, hb]
        rfl
      all_goals try simp only [upd_app, enterT, List.getElem?_cons_zero, Option.getD_some, Nat.reduceEqDiff, ↓reduceIte]
      all_goals rfl
end Go.Proofs.Ytkedlkcknhinoaa.G

namespace Go.Proofs.Ytkedlkcknhinoaa.G
open Go.BX
set_option linter.unusedSimpArgs false
set_option linter.unusedVariables false
def PE2 (l : List Nd) (r : AV) (left at_ : Nat) : Prop :=
  ∀ (T : Nat → AV) (H : AHeap), T 0 = .vec 6 (l.map encN) → T 1 = .int .i64 (at_ : Int) → T 5 = .int .i64 (left : Int) →
    Run Cx 23 T [] none [.inLoop c23_7, .inBlock 0, .code c23_21] H (fun r0 H' => BX.freeze H' r0 = some r)
theorem pe2_end {l : List Nd} {at_ : Nat} : PE2 l (.int .i64 (at_ : Int)) 0 at_ := by
  intro T H t0 t1 t5
  rw [run_inLoop]
  have c0 : ¬ (0 : Int) < ((0 : Nat) : Int) := by omega
  simp only [t0, t1, t5, c0, run_exit_start, exit_here, exit_code, exit_inLoop, run_inBlock, n23_0, n23_1, n23_2, n23_3, n23_4, n23_5, n23_6, n23_7, n23_8, n23_9, n23_10, n23_11, n23_12, n23_13, n23_14, n23_15, n23_16, n23_17, n23_18, n23_19, n23_20, n23_21, n23_22, n23_23, o23_1, o23_4, o23_9, o23_16, o23_18, o23_19, o23_20, o23_22, res23, TT_3, TT_4, TT_5, TT_9, TT_21, TT_22, TT_25, TT_33, TT_35, TT_37, TT_39, TT_47, TT_52, TT_56, TT_59, TT_60, TT_62, TT_63, TT_65, TT_73, TT_77, TT_82, TT_84, bb, primP, primM, ev, evs, parts_, ofConst, bin, un, intBin, putA, enterT, Nat.reduceEqDiff, Nat.reduceAdd, Nat.reduceMul, Nat.reduceLeDiff, Nat.reduceLT, ↓reduceIte, reduceCtorEq, RunRes, resultsA, oneOf, AV.plain, AV.cells, AHeap.push, AHeap.set, AHeap.empty, fieldOf, loadA, storeA, BX.part, TK.isAgg, convA, builtinA, inertB, builtinP, buildA, fillA, splice, eqv, cellsEq, sizeT, adT, ldT, fwT, Nat.reduceBeqDiff, Nat.reduceBneDiff, Int.reduceBNe, Int.reduceBEq, Int.reduceEq, Int.reduceLT, Int.reduceLE, Int.reduceAdd, Int.reduceSub, Int.reduceMul, Int.reduceNeg, strBin, indexAddrA, elems, lenOf, chunk, List.reduceReplicate, Int.reduceToNat]
theorem pe2_step {l : List Nd} {r : AV} {left at_ : Nat} {n : Nd} (hl : l.length ≤ 1000) (hn : numL l) (hlt : at_ < l.length) (hg : l[at_] = n) (h1 : 1 ≤ left) (h2 : left ≤ 100000) (hp : PE2 l r (left + (partsN n).1 - 1) (at_ + 1)) : PE2 l r left at_ := by
  subst hg
  intro T H t0 t1 t5
  rw [run_inLoop]
  have c0 : (0 : Int) < (left : Int) := by omega
  have p0 : (0 : Int) ≤ (at_ : Int) := by omega
  have l0 : (at_ : Int) < ((l.map encN).length : Int) := by rw [List.length_map]; omega
  have g0 := encN_get hlt
  have hpo := parts_ok l[at_] (hn _ (List.getElem_mem hlt))
  have hpl : (partsN l[at_]).1 ≤ 3 := by
    unfold partsN
    split
    · rename_i ho
      exact (parts_pos ho).2
    · omega
  have w1 : IntKind.i64.wrap ((left : Int) + ((partsN l[at_]).1 : Int)) = ((left + (partsN l[at_]).1 : Nat) : Int) := by rw [wr64 (by omega) (by omega)]; omega
  have w2 : IntKind.i64.wrap ((at_ : Int) + 1) = ((at_ + 1 : Nat) : Int) := by rw [wr64 (by omega) (by omega)]; omega
  have w3 : IntKind.i64.wrap (((left + (partsN l[at_]).1 : Nat) : Int) - 1) = ((left + (partsN l[at_]).1 - 1 : Nat) : Int) := by rw [wr64 (by omega) (by omega)]; omega
  simp only [t0, t1, t5, c0, p0, l0, g0, w1, w2, w3, Int.toNat_natCast, call_pure pure24 rfl hpo, run_exit_start, exit_here, exit_code, exit_inLoop, run_inBlock, n23_0, n23_1, n23_2, n23_3, n23_4, n23_5, n23_6, n23_7, n23_8, n23_9, n23_10, n23_11, n23_12, n23_13, n23_14, n23_15, n23_16, n23_17, n23_18, n23_19, n23_20, n23_22, n23_23, o23_1, o23_4, o23_9, o23_16, o23_18, o23_19, o23_20, o23_22, res23, TT_3, TT_4, TT_5, TT_9, TT_21, TT_22, TT_25, TT_33, TT_35, TT_37, TT_39, TT_47, TT_52, TT_56, TT_59, TT_60, TT_62, TT_63, TT_65, TT_73, TT_77, TT_82, TT_84, bb, primP, primM, ev, evs, parts_, ofConst, bin, un, intBin, putA, enterT, Nat.reduceEqDiff, Nat.reduceAdd, Nat.reduceMul, Nat.reduceLeDiff, Nat.reduceLT, ↓reduceIte, reduceCtorEq, RunRes, resultsA, oneOf, AV.plain, AV.cells, AHeap.push, AHeap.set, AHeap.empty, fieldOf, loadA, storeA, BX.part, TK.isAgg, convA, builtinA, inertB, builtinP, buildA, fillA, splice, eqv, cellsEq, sizeT, adT, ldT, fwT, Nat.reduceBeqDiff, Nat.reduceBneDiff, Int.reduceBNe, Int.reduceBEq, Int.reduceEq, Int.reduceLT, Int.reduceLE, Int.reduceAdd, Int.reduceSub, Int.reduceMul, Int.reduceNeg, strBin, indexAddrA, elems, lenOf, chunk, List.reduceReplicate, Int.reduceToNat]
  refine hp _ _ ?_ ?_ ?_
  all_goals simp only [upd_app, t0, Nat.reduceEqDiff, ↓reduceIte]
theorem drop_nd {l : List Nd} {i : Nat} {n : Nd} {r : List Nd} (h : l.drop i = n :: r) : ∃ hl : i < l.length, l[i] = n ∧ l.drop (i + 1) = r := by
  have hlt : i < l.length := by
    rcases Nat.lt_or_ge i l.length with h1 | h1
    · exact h1
    · rw [List.drop_of_length_le h1] at h; cases h
  rw [List.drop_eq_getElem_cons hlt] at h
  obtain ⟨h1, h2⟩ := List.cons.inj h
  exact ⟨hlt, h1, h2⟩
theorem pe2_Es {l : List Nd} {r : AV} (hl : l.length ≤ 1000) (hn : numL l) {d k : Nat} {e : List Nd} {bs : List Bytes} (h : Es d k e bs) : ∀ {t at_ : Nat} {post : List Nd}, l.drop at_ = e ++ post → t + 3 * l.length + k ≤ 90000 + 3 * at_ → PE2 l r t (at_ + e.length) → PE2 l r (k + t) at_ := by
  induction h with
  | nil =>
    intro t at_ post hd hb hp
    rw [Nat.zero_add]
    exact hp
  | @leaf d k n ls bs h hs ih =>
    intro t at_ post hd hb hp
    rw [List.cons_append] at hd
    obtain ⟨hlt, hg, hd2⟩ := drop_nd hd
    have hpn : (partsN n).1 = 0 := by unfold partsN; rw [(alone_op h).1]; rfl
    refine pe2_step hl hn hlt hg (by omega) (by omega) ?_
    rw [hpn]
    have := ih (t := t) hd2 (by omega) (by rw [List.length_cons] at hp; rw [show at_ + 1 + ls.length = at_ + (ls.length + 1) by omega]; exact hp)
    rwa [show k + 1 + t + 0 - 1 = k + t by omega]
  | @node d k n ps ls cs bs h hz hp hs ih1 ih2 =>
    intro t at_ post hd hb hpp
    rw [List.cons_append, List.append_assoc] at hd
    obtain ⟨hlt, hg, hd2⟩ := drop_nd hd
    have hpn : (partsN n).1 = partsM n.op := by unfold partsN; rw [h]; rfl
    have h3 := (parts_pos h).2
    have hd3 : l.drop (at_ + 1 + ps.length) = ls ++ post := by
      rw [← List.drop_drop, hd2, List.drop_left]
    have hlen := hp.len.1
    have hle : at_ + 1 + ps.length ≤ l.length := by
      have := congrArg List.length hd2
      rw [List.length_drop, List.length_append] at this
      omega
    refine pe2_step hl hn hlt hg (by omega) (by omega) ?_
    rw [hpn, show k + 1 + t + partsM n.op - 1 = partsM n.op + (k + t) by omega]
    refine ih1 (t := k + t) hd2 (by omega) ?_
    refine ih2 (t := t) hd3 (by omega) ?_
    rw [List.length_cons, List.length_append] at hpp
    rw [show at_ + 1 + ps.length + ls.length = at_ + (ps.length + ls.length + 1) by omega]
    exact hpp
theorem end_ok {l : List Nd} (hl : l.length ≤ 400) (hn : numL l) {d : Nat} {e post : List Nd} {b : Bytes} (h : Es d 1 e [b]) {at_ : Nat} (hd : l.drop at_ = e ++ post) : PCall Cx 23 [.vec 6 (l.map encN), .int .i64 (at_ : Int)] (.int .i64 ((at_ + e.length : Nat) : Int)) := by
  refine pcall_run (noext _) body23 ?_
  have hp := pe2_Es (r := .int .i64 ((at_ + e.length : Nat) : Int)) (by omega) hn h (t := 0) hd (by omega) pe2_end
  rw [Nat.add_zero] at hp
  simp only [n23_0, n23_1, n23_2, n23_3, n23_4, n23_5, n23_6, n23_8, n23_9, n23_10, n23_11, n23_12, n23_13, n23_14, n23_15, n23_16, n23_17, n23_18, n23_19, n23_20, n23_22, n23_23, o23_1, o23_4, o23_9, o23_16, o23_18, o23_19, o23_20, o23_22, res23, TT_3, TT_4, TT_5, TT_9, TT_21, TT_22, TT_25, TT_33, TT_35, TT_37, TT_39, TT_47, TT_52, TT_56, TT_59, TT_60, TT_62, TT_63, TT_65, TT_73, TT_77, TT_82, TT_84, bb, primP, primM, ev, evs, parts_, ofConst, bin, un, intBin, putA, enterT, Nat.reduceEqDiff, Nat.reduceAdd, Nat.reduceMul, Nat.reduceLeDiff, Nat.reduceLT, ↓reduceIte, reduceCtorEq, RunRes, resultsA, oneOf, AV.plain, AV.cells, AHeap.push, AHeap.set, AHeap.empty, fieldOf, loadA, storeA, BX.part, TK.isAgg, convA, builtinA, inertB, builtinP, buildA, fillA, splice, eqv, cellsEq, sizeT, adT, ldT, fwT, Nat.reduceBeqDiff, Nat.reduceBneDiff, Int.reduceBNe, Int.reduceBEq, Int.reduceEq, Int.reduceLT, Int.reduceLE, Int.reduceAdd, Int.reduceSub, Int.reduceMul, Int.reduceNeg, strBin, indexAddrA, elems, lenOf, chunk, List.reduceReplicate, Int.reduceToNat]
  refine hp _ _ ?_ ?_ ?_
  all_goals simp only [upd_app, enterT, List.getElem?_cons_zero, List.getElem?_cons_succ, Option.getD_some, Nat.reduceEqDiff, ↓reduceIte]
  all_goals rfl
theorem End_no {v : AV} {l : List Nd} (hv : InN v l) (hn : numL l) (hl : l.length ≤ 1000000) {at_ : Int} (h : at_ < 0 ∨ (l.length : Int) ≤ at_ ∨ rightM l = false) : PCall Cx 10 [v, .int .i64 at_] (.tuple [.int .i64 0, .bool false]) := by
  refine pcall_run (noext _) body10 ?_
  have hr := ERight_ok hv hn hl
  have hlen := hv.len
  simp only [lenOf] at hlen
  have f0 : [v].all AV.flat = true := by simp [hv.flat]
  by_cases c0 : at_ < 0
  · simp only [c0, hlen, lenOf, i64, n10_0, n10_1, n10_2, n10_3, n10_4, n10_5, n10_6, n10_7, n10_8, n10_9, n10_10, n10_11, n10_12, o10_1, o10_4, o10_7, o10_11, res10, TT_3, TT_4, TT_5, TT_9, TT_21, TT_22, TT_25, TT_33, TT_35, TT_37, TT_39, TT_47, TT_52, TT_56, TT_59, TT_60, TT_62, TT_63, TT_65, TT_73, TT_77, TT_82, TT_84, bb, primP, primM, ev, evs, parts_, ofConst, bin, un, intBin, putA, enterT, Nat.reduceEqDiff, Nat.reduceAdd, Nat.reduceMul, Nat.reduceLeDiff, Nat.reduceLT, ↓reduceIte, reduceCtorEq, RunRes, resultsA, oneOf, AV.plain, AV.cells, AHeap.push, AHeap.set, AHeap.empty, fieldOf, loadA, storeA, BX.part, TK.isAgg, convA, builtinA, inertB, builtinP, buildA, fillA, splice, eqv, cellsEq, sizeT, adT, ldT, fwT, Nat.reduceBeqDiff, Nat.reduceBneDiff, Int.reduceBNe, Int.reduceBEq, Int.reduceEq, Int.reduceLT, Int.reduceLE, Int.reduceAdd, Int.reduceSub, Int.reduceMul, Int.reduceNeg, strBin, indexAddrA, elems, lenOf, chunk, List.reduceReplicate, Int.reduceToNat]
  · by_cases c1 : (l.length : Int) ≤ at_
    · simp only [c0, c1, hlen, lenOf, i64, n10_0, n10_1, n10_2, n10_3, n10_4, n10_5, n10_6, n10_7, n10_8, n10_9, n10_10, n10_11, n10_12, o10_1, o10_4, o10_7, o10_11, res10, TT_3, TT_4, TT_5, TT_9, TT_21, TT_22, TT_25, TT_33, TT_35, TT_37, TT_39, TT_47, TT_52, TT_56, TT_59, TT_60, TT_62, TT_63, TT_65, TT_73, TT_77, TT_82, TT_84, bb, primP, primM, ev, evs, parts_, ofConst, bin, un, intBin, putA, enterT, Nat.reduceEqDiff, Nat.reduceAdd, Nat.reduceMul, Nat.reduceLeDiff, Nat.reduceLT, ↓reduceIte, reduceCtorEq, RunRes, resultsA, oneOf, AV.plain, AV.cells, AHeap.push, AHeap.set, AHeap.empty, fieldOf, loadA, storeA, BX.part, TK.isAgg, convA, builtinA, inertB, builtinP, buildA, fillA, splice, eqv, cellsEq, sizeT, adT, ldT, fwT, Nat.reduceBeqDiff, Nat.reduceBneDiff, Int.reduceBNe, Int.reduceBEq, Int.reduceEq, Int.reduceLT, Int.reduceLE, Int.reduceAdd, Int.reduceSub, Int.reduceMul, Int.reduceNeg, strBin, indexAddrA, elems, lenOf, chunk, List.reduceReplicate, Int.reduceToNat]
    · have h2 : rightM l = false := by
        rcases h with h | h | h
        · exact absurd h c0
        · exact absurd h c1
        · exact h
      rw [h2] at hr
      simp only [c0, c1, hlen, lenOf, i64, call_pure pure11 f0 hr, n10_0, n10_1, n10_2, n10_3, n10_4, n10_5, n10_6, n10_7, n10_8, n10_9, n10_10, n10_11, n10_12, o10_1, o10_4, o10_7, o10_11, res10, TT_3, TT_4, TT_5, TT_9, TT_21, TT_22, TT_25, TT_33, TT_35, TT_37, TT_39, TT_47, TT_52, TT_56, TT_59, TT_60, TT_62, TT_63, TT_65, TT_73, TT_77, TT_82, TT_84, bb, primP, primM, ev, evs, parts_, ofConst, bin, un, intBin, putA, enterT, Nat.reduceEqDiff, Nat.reduceAdd, Nat.reduceMul, Nat.reduceLeDiff, Nat.reduceLT, ↓reduceIte, reduceCtorEq, RunRes, resultsA, oneOf, AV.plain, AV.cells, AHeap.push, AHeap.set, AHeap.empty, fieldOf, loadA, storeA, BX.part, TK.isAgg, convA, builtinA, inertB, builtinP, buildA, fillA, splice, eqv, cellsEq, sizeT, adT, ldT, fwT, Nat.reduceBeqDiff, Nat.reduceBneDiff, Int.reduceBNe, Int.reduceBEq, Int.reduceEq, Int.reduceLT, Int.reduceLE, Int.reduceAdd, Int.reduceSub, Int.reduceMul, Int.reduceNeg, strBin, indexAddrA, elems, lenOf, chunk, List.reduceReplicate, Int.reduceToNat]
theorem End_yes {l : List Nd} (hn : numL l) (hr : rightM l = true) {d : Nat} {e post : List Nd} {b : Bytes} (h : Es d 1 e [b]) {at_ : Nat} (hat : at_ < l.length) (hd : l.drop at_ = e ++ post) : PCall Cx 10 [.vec 6 (l.map encN), .int .i64 (at_ : Int)] (.tuple [.int .i64 ((at_ + e.length : Nat) : Int), .bool true]) := by
  refine pcall_run (noext _) body10 ?_
  have hle := (right_iff.mp hr).1
  have hro := ERight_ok (v := .vec 6 (l.map encN)) (.inr rfl) hn (by omega)
  rw [hr] at hro
  have he := end_ok hle hn h hd
  have c0 : ¬ (at_ : Int) < 0 := by omega
  have c1 : ¬ ((l.map encN).length : Int) ≤ (at_ : Int) := by rw [List.length_map]; omega
  simp only [c0, c1, lenOf, i64, call_pure pure11 rfl hro, call_pure pure23 rfl he, n10_0, n10_1, n10_2, n10_3, n10_4, n10_5, n10_6, n10_7, n10_8, n10_9, n10_10, n10_11, n10_12, o10_1, o10_4, o10_7, o10_11, res10, TT_3, TT_4, TT_5, TT_9, TT_21, TT_22, TT_25, TT_33, TT_35, TT_37, TT_39, TT_47, TT_52, TT_56, TT_59, TT_60, TT_62, TT_63, TT_65, TT_73, TT_77, TT_82, TT_84, bb, primP, primM, ev, evs, parts_, ofConst, bin, un, intBin, putA, enterT, Nat.reduceEqDiff, Nat.reduceAdd, Nat.reduceMul, Nat.reduceLeDiff, Nat.reduceLT, ↓reduceIte, reduceCtorEq, RunRes, resultsA, oneOf, AV.plain, AV.cells, AHeap.push, AHeap.set, AHeap.empty, fieldOf, loadA, storeA, BX.part, TK.isAgg, convA, builtinA, inertB, builtinP, buildA, fillA, splice, eqv, cellsEq, sizeT, adT, ldT, fwT, Nat.reduceBeqDiff, Nat.reduceBneDiff, Int.reduceBNe, Int.reduceBEq, Int.reduceEq, Int.reduceLT, Int.reduceLE, Int.reduceAdd, Int.reduceSub, Int.reduceMul, Int.reduceNeg, strBin, indexAddrA, elems, lenOf, chunk, List.reduceReplicate, Int.reduceToNat]
theorem nsl : isSl Cx 25 37 := ⟨_, TT_25, rfl⟩
theorem nti : ∃ ti, Cx.TT 37 = some ti ∧ ti.size = 6 ∧ ti.bytes = 56 := ⟨_, TT_37, rfl, rfl⟩
def BufN (te : Nat) (d : AV) (h : Nat) (A : Nat → Blk) (acc : List Nd) : Prop := (d = .nilS ∧ acc = []) ∨ ∃ g, d = .slc g 6 0 acc.length ∧ g < h ∧ A g = .cells te 6 (acc.map encN)
theorem BufN.freeze {te h : Nat} {d : AV} {A : Nat → Blk} {acc : List Nd} (hb : BufN te d h A acc) : ∃ w, InN w acc ∧ BX.freeze ⟨h, A⟩ d = some w := by
  rcases hb with ⟨rfl, rfl⟩ | ⟨g, rfl, hg, hA⟩
  · exact ⟨.nilS, .inl ⟨rfl, rfl⟩, rfl⟩
  · refine ⟨.vec 6 (acc.map encN), .inr rfl, ?_⟩
    have he : elems ⟨h, A⟩ 6 (.slc g 6 0 acc.length) = some (acc.map encN) := by
      unfold elems
      simp only [hA]
      rw [if_pos ⟨trivial, trivial, by simp⟩, List.drop_zero, List.take_of_length_le (by simp)]
    rw [freeze_slc, he, frzE_some]
    have : ∀ l : List Nd, mapO (mapO (freeze1 ⟨h, A⟩ 3)) (l.map encN) = some (l.map encN) := by
      intro l
      induction l with
      | nil => rfl
      | cons p l ih =>
        rw [List.map_cons, mapO_cons, ih]
        have : mapO (freeze1 ⟨h, A⟩ 3) (encN p) = some (encN p) := mapO_all (p := AV.flat1) (fun v hv => freeze1_flat hv) rfl
        rw [this]; rfl
    rw [this]; rfl
theorem of_all {l : List Nd} {Q : AV → AHeap → Prop} (hl : l.length ≤ 100000) (hQ : ∀ d h A, BufN 37 d h A l → Q d ⟨h, A⟩) :
    ∀ (j i : Nat) (T : Nat → AV) (h : Nat) (A : Nat → Blk), i + j = l.length → T 0 = .vec 6 (l.map encN) → T 4 = .int .i64 (i : Int) → BufN 37 (T 3) h A (l.take i) →
      Run Cx 9 T [] none [.inLoop c9_9, .inBlock 0, .code c9_19] ⟨h, A⟩ Q
  | 0, i, T, h, A, hij, t0, t4, hb => by
    rw [run_inLoop]
    have c0 : ¬ (i : Int) < ((l.map encN).length : Int) := by rw [List.length_map]; omega
    rw [List.take_of_length_le (by omega)] at hb
    simp only [t0, t4, c0, lenOf, i64, run_exit_start, exit_here, exit_code, exit_inLoop, run_inBlock, n9_0, n9_1, n9_2, n9_3, n9_4, n9_5, n9_6, n9_7, n9_8, n9_9, n9_10, n9_11, n9_12, n9_13, n9_14, n9_15, n9_16, n9_17, n9_18, n9_19, n9_20, n9_21, o9_1, o9_3, o9_6, o9_11, o9_17, o9_18, o9_20, res9, TT_3, TT_4, TT_5, TT_9, TT_21, TT_22, TT_25, TT_33, TT_35, TT_37, TT_39, TT_47, TT_52, TT_56, TT_59, TT_60, TT_62, TT_63, TT_65, TT_73, TT_77, TT_82, TT_84, bb, primP, primM, ev, evs, parts_, ofConst, bin, un, intBin, putA, enterT, Nat.reduceEqDiff, Nat.reduceAdd, Nat.reduceMul, Nat.reduceLeDiff, Nat.reduceLT, ↓reduceIte, reduceCtorEq, RunRes, resultsA, oneOf, AV.plain, AV.cells, AHeap.push, AHeap.set, AHeap.empty, fieldOf, loadA, storeA, BX.part, TK.isAgg, convA, builtinA, inertB, builtinP, buildA, fillA, splice, eqv, cellsEq, sizeT, adT, ldT, fwT, Nat.reduceBeqDiff, Nat.reduceBneDiff, Int.reduceBNe, Int.reduceBEq, Int.reduceEq, Int.reduceLT, Int.reduceLE, Int.reduceAdd, Int.reduceSub, Int.reduceMul, Int.reduceNeg, strBin, indexAddrA, elems, lenOf, chunk, List.reduceReplicate, Int.reduceToNat]
    exact hQ _ _ _ hb
  | j + 1, i, T, h, A, hij, t0, t4, hb => by
    rw [run_inLoop]
    have hi : i < l.length := by omega
    have c0 : (i : Int) < ((l.map encN).length : Int) := by rw [List.length_map]; omega
    have p0 : (0 : Int) ≤ (i : Int) := by omega
    have g0 := encN_get hi
    have w1 : IntKind.i64.wrap ((i : Int) + 1) = ((i + 1 : Nat) : Int) := by rw [wr64 (by omega) (by omega)]; omega
    have htk : (l.take i).map encN ++ [encN l[i]] = (l.take (i + 1)).map encN := by rw [List.take_succ_eq_append_getElem hi, List.map_append]; rfl
    have hle : (l.take i).length = i := by rw [List.length_take]; omega
    have hle2 : (l.take (i + 1)).length = i + 1 := by rw [List.length_take]; omega
    rcases hb with ⟨t3, hnil⟩ | ⟨g, t3, hg, hA⟩
    · have hi0 : i = 0 := by rw [hnil] at hle; simpa using hle.symm
      subst hi0
      have ha := app_nil (C := Cx) (n := h) (A := A) (row := encN l[0]) nsl nti (show 56 ≤ most by decide)
      replace t4 : T 4 = .int .i64 0 := t4
      simp only [Int.cast_ofNat_Int, Int.zero_add] at c0 p0 w1
      simp only [t0, t3, t4, c0, g0, ha, w1, Int.le_refl, lenOf, i64, runVH_some, Int.toNat_zero, run_exit_start, exit_here, exit_code, exit_inLoop, run_inBlock, n9_0, n9_1, n9_2, n9_3, n9_4, n9_5, n9_6, n9_7, n9_8, n9_9, n9_10, n9_11, n9_12, n9_13, n9_14, n9_15, n9_16, n9_17, n9_18, n9_20, n9_21, o9_1, o9_3, o9_6, o9_11, o9_17, o9_18, o9_20, res9, TT_3, TT_4, TT_5, TT_9, TT_21, TT_22, TT_25, TT_33, TT_35, TT_37, TT_39, TT_47, TT_52, TT_56, TT_59, TT_60, TT_62, TT_63, TT_65, TT_73, TT_77, TT_82, TT_84, bb, primP, primM, ev, evs, parts_, ofConst, bin, un, intBin, putA, enterT, Nat.reduceEqDiff, Nat.reduceAdd, Nat.reduceMul, Nat.reduceLeDiff, Nat.reduceLT, ↓reduceIte, reduceCtorEq, RunRes, resultsA, oneOf, AV.plain, AV.cells, AHeap.push, AHeap.set, AHeap.empty, fieldOf, loadA, storeA, BX.part, TK.isAgg, convA, builtinA, inertB, builtinP, buildA, fillA, splice, eqv, cellsEq, sizeT, adT, ldT, fwT, Nat.reduceBeqDiff, Nat.reduceBneDiff, Int.reduceBNe, Int.reduceBEq, Int.reduceEq, Int.reduceLT, Int.reduceLE, Int.reduceAdd, Int.reduceSub, Int.reduceMul, Int.reduceNeg, strBin, indexAddrA, elems, lenOf, chunk, List.reduceReplicate, Int.reduceToNat]
      refine of_all hl hQ j 1 _ _ _ (by omega) ?_ ?_ (.inr ⟨h + 1, ?_, ?_, ?_⟩)
      · simp only [upd_app, t0, Nat.reduceEqDiff, ↓reduceIte]
      · simp only [upd_app, Nat.reduceEqDiff, ↓reduceIte] <;> rfl
      · rw [hle2]; simp only [upd_app, Nat.reduceEqDiff, ↓reduceIte]
      · omega
      · rw [← htk]; simp only [upd_app, ↓reduceIte]; rfl
    · rw [hle] at t3
      have hcl : ((l.take i).map encN).length = i := by rw [List.length_map, hle]
      have ha := app_row (C := Cx) (g := g) (n := h) (A := A) (es := (l.take i).map encN) (row := encN l[i]) nsl nti hA (by omega) (by rw [hcl]; unfold most; omega) (by rw [hcl]; unfold most; omega)
      rw [hcl, htk] at ha
      simp only [t0, t3, t4, c0, p0, g0, ha, w1, lenOf, i64, runVH_some, Int.toNat_natCast, run_exit_start, exit_here, exit_code, exit_inLoop, run_inBlock, n9_0, n9_1, n9_2, n9_3, n9_4, n9_5, n9_6, n9_7, n9_8, n9_9, n9_10, n9_11, n9_12, n9_13, n9_14, n9_15, n9_16, n9_17, n9_18, n9_20, n9_21, o9_1, o9_3, o9_6, o9_11, o9_17, o9_18, o9_20, res9, TT_3, TT_4, TT_5, TT_9, TT_21, TT_22, TT_25, TT_33, TT_35, TT_37, TT_39, TT_47, TT_52, TT_56, TT_59, TT_60, TT_62, TT_63, TT_65, TT_73, TT_77, TT_82, TT_84, bb, primP, primM, ev, evs, parts_, ofConst, bin, un, intBin, putA, enterT, Nat.reduceEqDiff, Nat.reduceAdd, Nat.reduceMul, Nat.reduceLeDiff, Nat.reduceLT, ↓reduceIte, reduceCtorEq, RunRes, resultsA, oneOf, AV.plain, AV.cells, AHeap.push, AHeap.set, AHeap.empty, fieldOf, loadA, storeA, BX.part, TK.isAgg, convA, builtinA, inertB, builtinP, buildA, fillA, splice, eqv, cellsEq, sizeT, adT, ldT, fwT, Nat.reduceBeqDiff, Nat.reduceBneDiff, Int.reduceBNe, Int.reduceBEq, Int.reduceEq, Int.reduceLT, Int.reduceLE, Int.reduceAdd, Int.reduceSub, Int.reduceMul, Int.reduceNeg, strBin, indexAddrA, elems, lenOf, chunk, List.reduceReplicate, Int.reduceToNat]
      refine of_all hl hQ j (i + 1) _ _ _ (by omega) ?_ ?_ (.inr ⟨h + 1, ?_, ?_, ?_⟩)
      · simp only [upd_app, t0, Nat.reduceEqDiff, ↓reduceIte]
      · simp only [upd_app, Nat.reduceEqDiff, ↓reduceIte]
      · rw [hle2]; simp only [upd_app, Nat.reduceEqDiff, ↓reduceIte]
      · omega
      · simp only [upd_app, ↓reduceIte]
theorem pcall_ex {f : FuncId} {args : List AV} {body : AC} {P : AV → Prop} (hx : Cx.ext f = none) (hb : bodyOf Cx f = some body) (h : Run Cx f (enterT args) [] none [.code body] AHeap.empty (fun r0 H' => ∃ r, P r ∧ BX.freeze H' r0 = some r)) : ∃ r, P r ∧ PCall Cx f args r := by
  obtain ⟨n, r0, H', he, r, hP, hf⟩ := h
  exact ⟨r, hP, pcall_run hx hb ⟨n, r0, H', he, hf⟩⟩
theorem Of_ok {v : AV} {l : List Nd} (hv : InN v l) (hl : l.length ≤ 100000) : ∃ w, InN w l ∧ PCall Cx 9 [v] w := by
  by_cases h0 : l = []
  · subst h0
    refine ⟨.nilS, .inl ⟨rfl, rfl⟩, ?_⟩
    rcases hv with ⟨rfl, _⟩ | rfl
    · exact ⟨60, by kernel_rfl⟩
    · exact ⟨60, by kernel_rfl⟩
  · obtain rfl := hv.vec h0
    refine pcall_ex (noext _) body9 ?_
    simp only [n9_0, n9_1, n9_2, n9_3, n9_4, n9_5, n9_6, n9_7, n9_8, n9_10, n9_11, n9_12, n9_13, n9_14, n9_15, n9_16, n9_17, n9_18, n9_20, n9_21, o9_1, o9_3, o9_6, o9_11, o9_17, o9_18, o9_20, res9, TT_3, TT_4, TT_5, TT_9, TT_21, TT_22, TT_25, TT_33, TT_35, TT_37, TT_39, TT_47, TT_52, TT_56, TT_59, TT_60, TT_62, TT_63, TT_65, TT_73, TT_77, TT_82, TT_84, bb, primP, primM, ev, evs, parts_, ofConst, bin, un, intBin, putA, enterT, Nat.reduceEqDiff, Nat.reduceAdd, Nat.reduceMul, Nat.reduceLeDiff, Nat.reduceLT, ↓reduceIte, reduceCtorEq, RunRes, resultsA, oneOf, AV.plain, AV.cells, AHeap.push, AHeap.set, AHeap.empty, fieldOf, loadA, storeA, BX.part, TK.isAgg, convA, builtinA, inertB, builtinP, buildA, fillA, splice, eqv, cellsEq, sizeT, adT, ldT, fwT, Nat.reduceBeqDiff, Nat.reduceBneDiff, Int.reduceBNe, Int.reduceBEq, Int.reduceEq, Int.reduceLT, Int.reduceLE, Int.reduceAdd, Int.reduceSub, Int.reduceMul, Int.reduceNeg, strBin, indexAddrA, elems, lenOf, chunk, List.reduceReplicate, Int.reduceToNat]
    refine of_all hl (fun d h A hb => hb.freeze) l.length 0 _ AHeap.empty.next AHeap.empty.at_ (by omega) ?_ ?_ (.inl ⟨?_, rfl⟩)
    all_goals simp only [upd_app, enterT, List.getElem?_cons_zero, Option.getD_some, Nat.reduceEqDiff, ↓reduceIte]
    all_goals rfl
def PF (l : List Nd) (b : Bool) (i : Nat) (acc : Int) : Prop :=
  ∀ (T : Nat → AV) (H : AHeap), T 0 = .vec 6 (l.map encN) → T 3 = .int .i64 acc → T 4 = .int .i64 (i : Int) →
    Run Cx 8 T [] none [.inLoop c8_9, .inBlock 0, .code c8_27] H (fun r0 H' => BX.freeze H' r0 = some (.bool b))
theorem pf_end {l : List Nd} {i : Nat} {acc : Int} (hi : l.length ≤ i ∨ 450 < i) : ∃ b, (b = true → l.length ≤ 450) ∧ PF l b i acc := by
  by_cases h450 : l.length ≤ 450
  · have c2 : ((l.map encN).length : Int) ≤ 450 := by rw [List.length_map]; omega
    have c1 : ¬ (i : Int) < ((l.map encN).length : Int) := by rw [List.length_map]; omega
    by_cases h3 : acc ≤ 20000
    · refine ⟨true, fun _ => h450, fun T H t0 t3 t4 => ?_⟩
      rw [run_inLoop]
      simp only [t0, t3, t4, c1, c2, h3, lenOf, i64, run_exit_start, exit_here, exit_code, exit_inLoop, run_inBlock, n8_0, n8_1, n8_2, n8_3, n8_4, n8_5, n8_6, n8_7, n8_8, n8_9, n8_10, n8_11, n8_12, n8_13, n8_14, n8_15, n8_16, n8_17, n8_18, n8_19, n8_20, n8_21, n8_22, n8_23, n8_24, n8_25, n8_26, n8_27, n8_28, n8_29, o8_1, o8_3, o8_6, o8_11, o8_19, o8_22, o8_25, o8_26, o8_28, res8, TT_3, TT_4, TT_5, TT_9, TT_21, TT_22, TT_25, TT_33, TT_35, TT_37, TT_39, TT_47, TT_52, TT_56, TT_59, TT_60, TT_62, TT_63, TT_65, TT_73, TT_77, TT_82, TT_84, bb, primP, primM, ev, evs, parts_, ofConst, bin, un, intBin, putA, enterT, Nat.reduceEqDiff, Nat.reduceAdd, Nat.reduceMul, Nat.reduceLeDiff, Nat.reduceLT, ↓reduceIte, reduceCtorEq, RunRes, resultsA, oneOf, AV.plain, AV.cells, AHeap.push, AHeap.set, AHeap.empty, fieldOf, loadA, storeA, BX.part, TK.isAgg, convA, builtinA, inertB, builtinP, buildA, fillA, splice, eqv, cellsEq, sizeT, adT, ldT, fwT, Nat.reduceBeqDiff, Nat.reduceBneDiff, Int.reduceBNe, Int.reduceBEq, Int.reduceEq, Int.reduceLT, Int.reduceLE, Int.reduceAdd, Int.reduceSub, Int.reduceMul, Int.reduceNeg, strBin, indexAddrA, elems, lenOf, chunk, List.reduceReplicate, Int.reduceToNat]
    · refine ⟨false, fun h => (by cases h), fun T H t0 t3 t4 => ?_⟩
      rw [run_inLoop]
      simp only [t0, t3, t4, c1, c2, h3, lenOf, i64, run_exit_start, exit_here, exit_code, exit_inLoop, run_inBlock, n8_0, n8_1, n8_2, n8_3, n8_4, n8_5, n8_6, n8_7, n8_8, n8_9, n8_10, n8_11, n8_12, n8_13, n8_14, n8_15, n8_16, n8_17, n8_18, n8_19, n8_20, n8_21, n8_22, n8_23, n8_24, n8_25, n8_26, n8_27, n8_28, n8_29, o8_1, o8_3, o8_6, o8_11, o8_19, o8_22, o8_25, o8_26, o8_28, res8, TT_3, TT_4, TT_5, TT_9, TT_21, TT_22, TT_25, TT_33, TT_35, TT_37, TT_39, TT_47, TT_52, TT_56, TT_59, TT_60, TT_62, TT_63, TT_65, TT_73, TT_77, TT_82, TT_84, bb, primP, primM, ev, evs, parts_, ofConst, bin, un, intBin, putA, enterT, Nat.reduceEqDiff, Nat.reduceAdd, Nat.reduceMul, Nat.reduceLeDiff, Nat.reduceLT, ↓reduceIte, reduceCtorEq, RunRes, resultsA, oneOf, AV.plain, AV.cells, AHeap.push, AHeap.set, AHeap.empty, fieldOf, loadA, storeA, BX.part, TK.isAgg, convA, builtinA, inertB, builtinP, buildA, fillA, splice, eqv, cellsEq, sizeT, adT, ldT, fwT, Nat.reduceBeqDiff, Nat.reduceBneDiff, Int.reduceBNe, Int.reduceBEq, Int.reduceEq, Int.reduceLT, Int.reduceLE, Int.reduceAdd, Int.reduceSub, Int.reduceMul, Int.reduceNeg, strBin, indexAddrA, elems, lenOf, chunk, List.reduceReplicate, Int.reduceToNat]
  · have c2 : ¬ ((l.map encN).length : Int) ≤ 450 := by rw [List.length_map]; omega
    refine ⟨false, fun h => (by cases h), fun T H t0 t3 t4 => ?_⟩
    rw [run_inLoop]
    by_cases c1 : (i : Int) < ((l.map encN).length : Int)
    · have c3 : ¬ (i : Int) ≤ 450 := by rw [List.length_map] at c1; omega
      simp only [t0, t3, t4, c1, c2, c3, lenOf, i64, run_exit_start, exit_here, exit_code, exit_inLoop, run_inBlock, n8_0, n8_1, n8_2, n8_3, n8_4, n8_5, n8_6, n8_7, n8_8, n8_9, n8_10, n8_11, n8_12, n8_13, n8_14, n8_15, n8_16, n8_17, n8_18, n8_19, n8_20, n8_21, n8_22, n8_23, n8_24, n8_25, n8_26, n8_27, n8_28, n8_29, o8_1, o8_3, o8_6, o8_11, o8_19, o8_22, o8_25, o8_26, o8_28, res8, TT_3, TT_4, TT_5, TT_9, TT_21, TT_22, TT_25, TT_33, TT_35, TT_37, TT_39, TT_47, TT_52, TT_56, TT_59, TT_60, TT_62, TT_63, TT_65, TT_73, TT_77, TT_82, TT_84, bb, primP, primM, ev, evs, parts_, ofConst, bin, un, intBin, putA, enterT, Nat.reduceEqDiff, Nat.reduceAdd, Nat.reduceMul, Nat.reduceLeDiff, Nat.reduceLT, ↓reduceIte, reduceCtorEq, RunRes, resultsA, oneOf, AV.plain, AV.cells, AHeap.push, AHeap.set, AHeap.empty, fieldOf, loadA, storeA, BX.part, TK.isAgg, convA, builtinA, inertB, builtinP, buildA, fillA, splice, eqv, cellsEq, sizeT, adT, ldT, fwT, Nat.reduceBeqDiff, Nat.reduceBneDiff, Int.reduceBNe, Int.reduceBEq, Int.reduceEq, Int.reduceLT, Int.reduceLE, Int.reduceAdd, Int.reduceSub, Int.reduceMul, Int.reduceNeg, strBin, indexAddrA, elems, lenOf, chunk, List.reduceReplicate, Int.reduceToNat]
    · simp only [t0, t3, t4, c1, c2, lenOf, i64, run_exit_start, exit_here, exit_code, exit_inLoop, run_inBlock, n8_0, n8_1, n8_2, n8_3, n8_4, n8_5, n8_6, n8_7, n8_8, n8_9, n8_10, n8_11, n8_12, n8_13, n8_14, n8_15, n8_16, n8_17, n8_18, n8_19, n8_20, n8_21, n8_22, n8_23, n8_24, n8_25, n8_26, n8_27, n8_28, n8_29, o8_1, o8_3, o8_6, o8_11, o8_19, o8_22, o8_25, o8_26, o8_28, res8, TT_3, TT_4, TT_5, TT_9, TT_21, TT_22, TT_25, TT_33, TT_35, TT_37, TT_39, TT_47, TT_52, TT_56, TT_59, TT_60, TT_62, TT_63, TT_65, TT_73, TT_77, TT_82, TT_84, bb, primP, primM, ev, evs, parts_, ofConst, bin, un, intBin, putA, enterT, Nat.reduceEqDiff, Nat.reduceAdd, Nat.reduceMul, Nat.reduceLeDiff, Nat.reduceLT, ↓reduceIte, reduceCtorEq, RunRes, resultsA, oneOf, AV.plain, AV.cells, AHeap.push, AHeap.set, AHeap.empty, fieldOf, loadA, storeA, BX.part, TK.isAgg, convA, builtinA, inertB, builtinP, buildA, fillA, splice, eqv, cellsEq, sizeT, adT, ldT, fwT, Nat.reduceBeqDiff, Nat.reduceBneDiff, Int.reduceBNe, Int.reduceBEq, Int.reduceEq, Int.reduceLT, Int.reduceLE, Int.reduceAdd, Int.reduceSub, Int.reduceMul, Int.reduceNeg, strBin, indexAddrA, elems, lenOf, chunk, List.reduceReplicate, Int.reduceToNat]
theorem pf_all {l : List Nd} : ∀ (j i : Nat) (acc : Int), 452 ≤ i + j → i ≤ 451 → 0 ≤ acc → acc ≤ 5000 * i → ∃ b, (b = true → l.length ≤ 450) ∧ PF l b i acc
  | 0, i, acc, hj, hi, h0, h1 => by omega
  | j + 1, i, acc, hj, hi, h0, h1 => by
    by_cases hend : l.length ≤ i ∨ 450 < i
    · exact pf_end hend
    · have hil : i < l.length := by omega
      have c1 : (i : Int) < ((l.map encN).length : Int) := by rw [List.length_map]; omega
      have c3 : (i : Int) ≤ 450 := by omega
      have p0 : (0 : Int) ≤ (i : Int) := by omega
      have g0 := encN_get hil
      have w1 : IntKind.i64.wrap ((i : Int) + 1) = ((i + 1 : Nat) : Int) := by rw [wr64 (by omega) (by omega)]; omega
      by_cases hs : (5000 : Int) < ((l[i]).v.s.length : Int)
      · refine ⟨false, fun h => (by cases h), fun T H t0 t3 t4 => ?_⟩
        rw [run_inLoop]
        simp only [t0, t3, t4, c1, c3, p0, g0, hs, lenOf, i64, Int.toNat_natCast, run_exit_start, exit_here, exit_code, exit_inLoop, run_inBlock, n8_0, n8_1, n8_2, n8_3, n8_4, n8_5, n8_6, n8_7, n8_8, n8_9, n8_10, n8_11, n8_12, n8_13, n8_14, n8_15, n8_16, n8_17, n8_18, n8_19, n8_20, n8_21, n8_22, n8_23, n8_24, n8_25, n8_26, n8_27, n8_28, n8_29, o8_1, o8_3, o8_6, o8_11, o8_19, o8_22, o8_25, o8_26, o8_28, res8, TT_3, TT_4, TT_5, TT_9, TT_21, TT_22, TT_25, TT_33, TT_35, TT_37, TT_39, TT_47, TT_52, TT_56, TT_59, TT_60, TT_62, TT_63, TT_65, TT_73, TT_77, TT_82, TT_84, bb, primP, primM, ev, evs, parts_, ofConst, bin, un, intBin, putA, enterT, Nat.reduceEqDiff, Nat.reduceAdd, Nat.reduceMul, Nat.reduceLeDiff, Nat.reduceLT, ↓reduceIte, reduceCtorEq, RunRes, resultsA, oneOf, AV.plain, AV.cells, AHeap.push, AHeap.set, AHeap.empty, fieldOf, loadA, storeA, BX.part, TK.isAgg, convA, builtinA, inertB, builtinP, buildA, fillA, splice, eqv, cellsEq, sizeT, adT, ldT, fwT, Nat.reduceBeqDiff, Nat.reduceBneDiff, Int.reduceBNe, Int.reduceBEq, Int.reduceEq, Int.reduceLT, Int.reduceLE, Int.reduceAdd, Int.reduceSub, Int.reduceMul, Int.reduceNeg, strBin, indexAddrA, elems, lenOf, chunk, List.reduceReplicate, Int.reduceToNat]
      · have w2 : IntKind.i64.wrap (acc + ((l[i]).v.s.length : Int)) = acc + ((l[i]).v.s.length : Int) := wr64 (by omega) (by omega)
        obtain ⟨b, hb, hp⟩ := pf_all (l := l) j (i + 1) (acc + ((l[i]).v.s.length : Int)) (by omega) (by omega) (by omega) (by omega)
        refine ⟨b, hb, fun T H t0 t3 t4 => ?_⟩
        rw [run_inLoop]
        simp only [t0, t3, t4, c1, c3, p0, g0, hs, w1, w2, lenOf, i64, Int.toNat_natCast, run_exit_start, exit_here, exit_code, exit_inLoop, run_inBlock, n8_0, n8_1, n8_2, n8_3, n8_4, n8_5, n8_6, n8_7, n8_8, n8_9, n8_10, n8_11, n8_12, n8_13, n8_14, n8_15, n8_16, n8_17, n8_18, n8_19, n8_20, n8_21, n8_22, n8_23, n8_24, n8_25, n8_26, n8_28, n8_29, o8_1, o8_3, o8_6, o8_11, o8_19, o8_22, o8_25, o8_26, o8_28, res8, TT_3, TT_4, TT_5, TT_9, TT_21, TT_22, TT_25, TT_33, TT_35, TT_37, TT_39, TT_47, TT_52, TT_56, TT_59, TT_60, TT_62, TT_63, TT_65, TT_73, TT_77, TT_82, TT_84, bb, primP, primM, ev, evs, parts_, ofConst, bin, un, intBin, putA, enterT, Nat.reduceEqDiff, Nat.reduceAdd, Nat.reduceMul, Nat.reduceLeDiff, Nat.reduceLT, ↓reduceIte, reduceCtorEq, RunRes, resultsA, oneOf, AV.plain, AV.cells, AHeap.push, AHeap.set, AHeap.empty, fieldOf, loadA, storeA, BX.part, TK.isAgg, convA, builtinA, inertB, builtinP, buildA, fillA, splice, eqv, cellsEq, sizeT, adT, ldT, fwT, Nat.reduceBeqDiff, Nat.reduceBneDiff, Int.reduceBNe, Int.reduceBEq, Int.reduceEq, Int.reduceLT, Int.reduceLE, Int.reduceAdd, Int.reduceSub, Int.reduceMul, Int.reduceNeg, strBin, indexAddrA, elems, lenOf, chunk, List.reduceReplicate, Int.reduceToNat]
        refine hp _ _ ?_ ?_ ?_
        all_goals simp only [upd_app, t0, Nat.reduceEqDiff, ↓reduceIte]
theorem few_ok {v : AV} {l : List Nd} (hv : InN v l) : ∃ b, (b = true → l.length ≤ 450) ∧ PCall Cx 8 [v] (.bool b) := by
  by_cases h0 : l = []
  · subst h0
    refine ⟨true, fun _ => by simp, ?_⟩
    rcases hv with ⟨rfl, _⟩ | rfl
    · exact ⟨60, by kernel_rfl⟩
    · exact ⟨60, by kernel_rfl⟩
  · obtain rfl := hv.vec h0
    obtain ⟨b, hb, hp⟩ := pf_all (l := l) 452 0 0 (by omega) (by omega) (by omega) (by omega)
    refine ⟨b, hb, pcall_run (noext _) body8 ?_⟩
    simp only [n8_0, n8_1, n8_2, n8_3, n8_4, n8_5, n8_6, n8_7, n8_8, n8_10, n8_11, n8_12, n8_13, n8_14, n8_15, n8_16, n8_17, n8_18, n8_19, n8_20, n8_21, n8_22, n8_23, n8_24, n8_25, n8_26, n8_28, n8_29, o8_1, o8_3, o8_6, o8_11, o8_19, o8_22, o8_25, o8_26, o8_28, res8, TT_3, TT_4, TT_5, TT_9, TT_21, TT_22, TT_25, TT_33, TT_35, TT_37, TT_39, TT_47, TT_52, TT_56, TT_59, TT_60, TT_62, TT_63, TT_65, TT_73, TT_77, TT_82, TT_84, bb, primP, primM, ev, evs, parts_, ofConst, bin, un, intBin, putA, enterT, Nat.reduceEqDiff, Nat.reduceAdd, Nat.reduceMul, Nat.reduceLeDiff, Nat.reduceLT, ↓reduceIte, reduceCtorEq, RunRes, resultsA, oneOf, AV.plain, AV.cells, AHeap.push, AHeap.set, AHeap.empty, fieldOf, loadA, storeA, BX.part, TK.isAgg, convA, builtinA, inertB, builtinP, buildA, fillA, splice, eqv, cellsEq, sizeT, adT, ldT, fwT, Nat.reduceBeqDiff, Nat.reduceBneDiff, Int.reduceBNe, Int.reduceBEq, Int.reduceEq, Int.reduceLT, Int.reduceLE, Int.reduceAdd, Int.reduceSub, Int.reduceMul, Int.reduceNeg, strBin, indexAddrA, elems, lenOf, chunk, List.reduceReplicate, Int.reduceToNat]
    refine hp _ _ ?_ ?_ ?_
    all_goals simp only [upd_app, enterT, List.getElem?_cons_zero, Option.getD_some, Nat.reduceEqDiff, ↓reduceIte]
    all_goals rfl
end Go.Proofs.Ytkedlkcknhinoaa.G

namespace Go.Proofs.Ytkedlkcknhinoaa.G
open Go.BX
set_option linter.unusedSimpArgs false
set_option linter.unusedVariables false
theorem isB_new {n b0 : Nat} {A : Nat → Blk} {g : Option Nat} {acc : Bytes} (x : Blk) (h : IsB 65 5 ⟨n, A⟩ b0 g acc) : IsB 65 5 ⟨n + 1, upd A n x⟩ b0 g acc := by
  obtain ⟨lt, ⟨a, ha, hb⟩, hbuf⟩ := h
  have lt' : b0 < n := lt
  refine ⟨by show b0 < n + 1; omega, ⟨a, ha, ?_⟩, ?_⟩
  · show upd A n x b0 = _
    rw [upd_app, if_neg (by omega)]
    exact hb
  · cases g with
    | none => exact hbuf
    | some g =>
      obtain ⟨h1, h2, h3⟩ := hbuf
      have h2' : g < n := h2
      refine ⟨h1, by show g < n + 1; omega, ?_⟩
      show upd A n x g = _
      rw [upd_app, if_neg (by omega)]
      exact h3
def spread (bs : List Bytes) : Bytes := bs.flatMap (fun c => 32 :: c)
def CW (l : List Nd) (at_ : Nat) (b : Bytes) : Prop :=
  ∀ (b0 : Nat) (fn : FuncId) (T : Nat → AV) (ds : List ADef) (ro : Option Nat) (k : List AItem) (dst : Option Nat) (os : List AO) (n : Nat) (A : Nat → Blk) (g : Option Nat) (acc : Bytes) (Q : AV → AHeap → Prop),
    IsB 65 5 ⟨n, A⟩ b0 g acc → acc.length + b.length + 10 ≤ most → (∀ r H' g', IsB 65 5 H' b0 g' (acc ++ b) → RunOps Cx fn (putA T dst r) ds ro os k H' Q) →
    RunCall Cx fn T ds ro 26 [.vec 6 (l.map encN), .int .i64 (at_ : Int), .ptr b0 2 0 0] dst os k ⟨n, A⟩ Q
def LpW (l : List Nd) (bs : List Bytes) (at_ kk i : Nat) : Prop :=
  ∀ (b0 : Nat) (T : Nat → AV) (n : Nat) (A : Nat → Blk) (g : Option Nat) (acc : Bytes) (Q : AV → AHeap → Prop), T 0 = .vec 6 (l.map encN) → T 1 = .int .i64 (at_ : Int) → T 2 = .ptr b0 2 0 0 → T 29 = .int .i64 (kk : Int) → T 30 = .int .i64 (i : Int) →
    IsB 65 5 ⟨n, A⟩ b0 g acc → acc.length + (spread bs).length + 10 ≤ most → (∀ T' H' g', T' 2 = .ptr b0 2 0 0 → IsB 65 5 H' b0 g' (acc ++ spread bs) → Run Cx 26 T' [] none [.code c26_38, .inBlock 0] H' Q) →
    Run Cx 26 T [] none [.inLoop c26_24, .inBlock 1, .code c26_38, .inBlock 0] ⟨n, A⟩ Q
theorem lp_end {l : List Nd} {at_ kk i : Nat} (h : kk ≤ i) : LpW l [] at_ kk i := by
  intro b0 T n A g acc Q t0 t1 t2 t29 t30 hB hm hk
  rw [run_inLoop]
  have hc : ¬ (i : Int) < (kk : Int) := by omega
  simp only [t0, t1, t2, t29, t30, hc, run_exit_start, exit_here, exit_code, exit_inLoop, run_inBlock, n26_0, n26_1, n26_2, n26_3, n26_4, n26_5, n26_6, n26_7, n26_8, n26_9, n26_10, n26_11, n26_12, n26_13, n26_14, n26_15, n26_16, n26_17, n26_18, n26_19, n26_20, n26_21, n26_22, n26_23, n26_24, n26_25, n26_26, n26_27, n26_28, n26_29, n26_30, n26_31, n26_32, n26_33, n26_34, n26_35, n26_36, n26_37, o26_1, o26_3, o26_6, o26_8, o26_10, o26_12, o26_14, o26_16, o26_18, o26_21, o26_25, o26_33, o26_35, o26_36, o26_37, o26_38, res26, TT_3, TT_4, TT_5, TT_9, TT_21, TT_22, TT_25, TT_33, TT_35, TT_37, TT_39, TT_47, TT_52, TT_56, TT_59, TT_60, TT_62, TT_63, TT_65, TT_73, TT_77, TT_82, TT_84, bb, primP, primM, ev, evs, parts_, ofConst, bin, un, intBin, putA, enterT, Nat.reduceEqDiff, Nat.reduceAdd, Nat.reduceMul, Nat.reduceLeDiff, Nat.reduceLT, ↓reduceIte, reduceCtorEq, RunRes, resultsA, oneOf, AV.plain, AV.cells, AHeap.push, AHeap.set, AHeap.empty, fieldOf, loadA, storeA, BX.part, TK.isAgg, convA, builtinA, inertB, builtinP, buildA, fillA, splice, eqv, cellsEq, sizeT, adT, ldT, fwT, Nat.reduceBeqDiff, Nat.reduceBneDiff, Int.reduceBNe, Int.reduceBEq, Int.reduceEq, Int.reduceLT, Int.reduceLE, Int.reduceAdd, Int.reduceSub, Int.reduceMul, Int.reduceNeg, strBin, indexAddrA, elems, lenOf, chunk, List.reduceReplicate, Int.reduceToNat]
  refine hk _ _ g ?_ (by rw [show spread [] = [] from rfl, List.append_nil]; exact hB)
  simp only [upd_app, t2, Nat.reduceEqDiff, ↓reduceIte]
theorem lp_step {l : List Nd} {b : Bytes} {bs : List Bytes} {at_ kk i m : Nat} (hi : i < kk) (hkk : kk ≤ 3) (hb : CW l at_ b) (he : PCall Cx 23 [.vec 6 (l.map encN), .int .i64 (at_ : Int)] (.int .i64 ((at_ + m : Nat) : Int))) (hr : LpW l bs (at_ + m) kk (i + 1)) : LpW l (b :: bs) at_ kk i := by
  intro b0 T n A g acc Q t0 t1 t2 t29 t30 hB hm hk
  have hsp : spread (b :: bs) = 32 :: (b ++ spread bs) := rfl
  rw [hsp] at hm hk
  simp only [List.length_cons, List.length_append] at hm
  rw [run_inLoop]
  have hc : (i : Int) < (kk : Int) := by omega
  have w1 : IntKind.i64.wrap ((i : Int) + 1) = ((i + 1 : Nat) : Int) := by rw [wr64 (by omega) (by omega)]; omega
  simp only [t0, t1, t2, t29, t30, hc, run_exit_start, exit_here, exit_code, exit_inLoop, run_inBlock, n26_0, n26_1, n26_2, n26_3, n26_4, n26_5, n26_6, n26_7, n26_8, n26_9, n26_10, n26_11, n26_12, n26_13, n26_14, n26_15, n26_16, n26_17, n26_18, n26_19, n26_20, n26_21, n26_22, n26_23, n26_24, n26_25, n26_26, n26_27, n26_28, n26_29, n26_30, n26_31, n26_32, n26_33, n26_34, n26_35, n26_36, n26_37, o26_1, o26_3, o26_6, o26_8, o26_10, o26_12, o26_14, o26_16, o26_18, o26_21, o26_25, o26_33, o26_35, o26_36, o26_37, o26_38, res26, TT_3, TT_4, TT_5, TT_9, TT_21, TT_22, TT_25, TT_33, TT_35, TT_37, TT_39, TT_47, TT_52, TT_56, TT_59, TT_60, TT_62, TT_63, TT_65, TT_73, TT_77, TT_82, TT_84, bb, primP, primM, ev, evs, parts_, ofConst, bin, un, intBin, putA, enterT, Nat.reduceEqDiff, Nat.reduceAdd, Nat.reduceMul, Nat.reduceLeDiff, Nat.reduceLT, ↓reduceIte, reduceCtorEq, RunRes, resultsA, oneOf, AV.plain, AV.cells, AHeap.push, AHeap.set, AHeap.empty, fieldOf, loadA, storeA, BX.part, TK.isAgg, convA, builtinA, inertB, builtinP, buildA, fillA, splice, eqv, cellsEq, sizeT, adT, ldT, fwT, Nat.reduceBeqDiff, Nat.reduceBneDiff, Int.reduceBNe, Int.reduceBEq, Int.reduceEq, Int.reduceLT, Int.reduceLE, Int.reduceAdd, Int.reduceSub, Int.reduceMul, Int.reduceNeg, strBin, indexAddrA, elems, lenOf, chunk, List.reduceReplicate, Int.reduceToNat]
  refine WriteByte_call (x := 32) hB (by omega) ?_
  intro H1 z hB1 _
  simp only [t0, t1, t2, t29, t30, hc, run_exit_start, exit_here, exit_code, exit_inLoop, run_inBlock, n26_0, n26_1, n26_2, n26_3, n26_4, n26_5, n26_6, n26_7, n26_8, n26_9, n26_10, n26_11, n26_12, n26_13, n26_14, n26_15, n26_16, n26_17, n26_18, n26_19, n26_20, n26_21, n26_22, n26_23, n26_24, n26_25, n26_26, n26_27, n26_28, n26_29, n26_30, n26_31, n26_32, n26_33, n26_34, n26_35, n26_36, n26_37, o26_1, o26_3, o26_6, o26_8, o26_10, o26_12, o26_14, o26_16, o26_18, o26_21, o26_25, o26_33, o26_35, o26_36, o26_37, o26_38, res26, TT_3, TT_4, TT_5, TT_9, TT_21, TT_22, TT_25, TT_33, TT_35, TT_37, TT_39, TT_47, TT_52, TT_56, TT_59, TT_60, TT_62, TT_63, TT_65, TT_73, TT_77, TT_82, TT_84, bb, primP, primM, ev, evs, parts_, ofConst, bin, un, intBin, putA, enterT, Nat.reduceEqDiff, Nat.reduceAdd, Nat.reduceMul, Nat.reduceLeDiff, Nat.reduceLT, ↓reduceIte, reduceCtorEq, RunRes, resultsA, oneOf, AV.plain, AV.cells, AHeap.push, AHeap.set, AHeap.empty, fieldOf, loadA, storeA, BX.part, TK.isAgg, convA, builtinA, inertB, builtinP, buildA, fillA, splice, eqv, cellsEq, sizeT, adT, ldT, fwT, Nat.reduceBeqDiff, Nat.reduceBneDiff, Int.reduceBNe, Int.reduceBEq, Int.reduceEq, Int.reduceLT, Int.reduceLE, Int.reduceAdd, Int.reduceSub, Int.reduceMul, Int.reduceNeg, strBin, indexAddrA, elems, lenOf, chunk, List.reduceReplicate, Int.reduceToNat]
  obtain ⟨n1, A1⟩ := H1
  refine hb b0 _ _ _ _ _ _ _ n1 A1 _ _ _ hB1 (by rw [List.length_append, List.length_singleton]; omega) ?_
  intro r H2 g2 hB2
  simp only [t0, t1, t2, t29, t30, hc, w1, call_pure pure23 rfl he, run_exit_start, exit_here, exit_code, exit_inLoop, run_inBlock, n26_0, n26_1, n26_2, n26_3, n26_4, n26_5, n26_6, n26_7, n26_8, n26_9, n26_10, n26_11, n26_12, n26_13, n26_14, n26_15, n26_16, n26_17, n26_18, n26_19, n26_20, n26_21, n26_22, n26_23, n26_24, n26_25, n26_26, n26_27, n26_28, n26_29, n26_30, n26_31, n26_32, n26_33, n26_34, n26_35, n26_36, n26_37, o26_1, o26_3, o26_6, o26_8, o26_10, o26_12, o26_14, o26_16, o26_18, o26_21, o26_25, o26_33, o26_35, o26_36, o26_37, o26_38, res26, TT_3, TT_4, TT_5, TT_9, TT_21, TT_22, TT_25, TT_33, TT_35, TT_37, TT_39, TT_47, TT_52, TT_56, TT_59, TT_60, TT_62, TT_63, TT_65, TT_73, TT_77, TT_82, TT_84, bb, primP, primM, ev, evs, parts_, ofConst, bin, un, intBin, putA, enterT, Nat.reduceEqDiff, Nat.reduceAdd, Nat.reduceMul, Nat.reduceLeDiff, Nat.reduceLT, ↓reduceIte, reduceCtorEq, RunRes, resultsA, oneOf, AV.plain, AV.cells, AHeap.push, AHeap.set, AHeap.empty, fieldOf, loadA, storeA, BX.part, TK.isAgg, convA, builtinA, inertB, builtinP, buildA, fillA, splice, eqv, cellsEq, sizeT, adT, ldT, fwT, Nat.reduceBeqDiff, Nat.reduceBneDiff, Int.reduceBNe, Int.reduceBEq, Int.reduceEq, Int.reduceLT, Int.reduceLE, Int.reduceAdd, Int.reduceSub, Int.reduceMul, Int.reduceNeg, strBin, indexAddrA, elems, lenOf, chunk, List.reduceReplicate, Int.reduceToNat]
  obtain ⟨n2, A2⟩ := H2
  refine hr b0 _ n2 A2 g2 _ Q ?_ ?_ ?_ ?_ ?_ hB2 (by simp only [List.length_append, List.length_singleton]; omega) ?_
  · simp only [upd_app, t0, Nat.reduceEqDiff, ↓reduceIte]
  · simp only [upd_app, Nat.reduceEqDiff, ↓reduceIte]
  · simp only [upd_app, t2, Nat.reduceEqDiff, ↓reduceIte]
  · simp only [upd_app, t29, Nat.reduceEqDiff, ↓reduceIte]
  · simp only [upd_app, Nat.reduceEqDiff, ↓reduceIte]
  · intro T' H' g' t2' hB'
    refine hk T' H' g' t2' ?_
    rw [show acc ++ 32 :: (b ++ spread bs) = acc ++ [32] ++ b ++ spread bs by simp]
    exact hB'
theorem cw_leaf {l : List Nd} {at_ : Nat} {n : Nd} (hlt : at_ < l.length) (hg : l[at_] = n) (ha : aloneM n = true) : CW l at_ (leafT n) := by
  subst hg
  intro b0 fn T ds ro k dst os n A g acc Q hB hm hk
  refine call_body pure26 (noext _) body26 ?_
  have p0 : (0 : Int) ≤ (at_ : Int) := by omega
  have l0 : (at_ : Int) < ((l.map encN).length : Int) := by rw [List.length_map]; omega
  have g0 := encN_get hlt
  have hok := alone_ok ha
  have hB1 := isB_new (.cells 37 6 [encN l[at_]]) hB
  rcases (alone_op ha).2 with ho | ho
  · have hw := Write_ok (k := (l[at_]).v.k) (n := (l[at_]).v.n) (s := (l[at_]).v.s) (x := (l[at_]).v.x) (y := (l[at_]).v.y) hok
    have e0 : ((0 : Int) == 0) = true := rfl
    have hl : leafT l[at_] = writeV (l[at_]).v.k (l[at_]).v.n (l[at_]).v.s (l[at_]).v.x (l[at_]).v.y := by unfold leafT; rw [if_pos ho]
    rw [hl] at hk hm
    simp only [encN, ho] at hB1 g0
    simp only [p0, l0, g0, e0, upd2, Int.toNat_natCast, call_pure pure37 rfl hw, run_exit_start, exit_here, exit_code, exit_inLoop, run_inBlock, n26_0, n26_1, n26_2, n26_3, n26_4, n26_5, n26_6, n26_7, n26_8, n26_9, n26_10, n26_11, n26_12, n26_13, n26_14, n26_15, n26_16, n26_17, n26_18, n26_19, n26_20, n26_21, n26_22, n26_23, n26_24, n26_25, n26_26, n26_27, n26_28, n26_29, n26_30, n26_31, n26_32, n26_33, n26_34, n26_35, n26_36, n26_37, n26_38, o26_1, o26_3, o26_6, o26_8, o26_10, o26_12, o26_14, o26_16, o26_18, o26_21, o26_25, o26_33, o26_35, o26_36, o26_37, o26_38, res26, TT_3, TT_4, TT_5, TT_9, TT_21, TT_22, TT_25, TT_33, TT_35, TT_37, TT_39, TT_47, TT_52, TT_56, TT_59, TT_60, TT_62, TT_63, TT_65, TT_73, TT_77, TT_82, TT_84, bb, primP, primM, ev, evs, parts_, ofConst, bin, un, intBin, putA, enterT, Nat.reduceEqDiff, Nat.reduceAdd, Nat.reduceMul, Nat.reduceLeDiff, Nat.reduceLT, ↓reduceIte, reduceCtorEq, RunRes, resultsA, oneOf, AV.plain, AV.cells, AHeap.push, AHeap.set, AHeap.empty, fieldOf, loadA, storeA, BX.part, TK.isAgg, convA, builtinA, inertB, builtinP, buildA, fillA, splice, eqv, cellsEq, sizeT, adT, ldT, fwT, Nat.reduceBeqDiff, Nat.reduceBneDiff, Int.reduceBNe, Int.reduceBEq, Int.reduceEq, Int.reduceLT, Int.reduceLE, Int.reduceAdd, Int.reduceSub, Int.reduceMul, Int.reduceNeg, strBin, indexAddrA, elems, lenOf, chunk, List.reduceReplicate, Int.reduceToNat]
    refine WriteString_call hB1 (by omega) ?_
    intro H' g' hB' _
    simp only [run_inBlock, run_nil, n26_0, n26_1, n26_2, n26_3, n26_4, n26_5, n26_6, n26_7, n26_8, n26_9, n26_10, n26_11, n26_12, n26_13, n26_14, n26_15, n26_16, n26_17, n26_18, n26_19, n26_20, n26_21, n26_22, n26_23, n26_24, n26_25, n26_26, n26_27, n26_28, n26_29, n26_30, n26_31, n26_32, n26_33, n26_34, n26_35, n26_36, n26_37, n26_38, o26_1, o26_3, o26_6, o26_8, o26_10, o26_12, o26_14, o26_16, o26_18, o26_21, o26_25, o26_33, o26_35, o26_36, o26_37, o26_38, res26, TT_3, TT_4, TT_5, TT_9, TT_21, TT_22, TT_25, TT_33, TT_35, TT_37, TT_39, TT_47, TT_52, TT_56, TT_59, TT_60, TT_62, TT_63, TT_65, TT_73, TT_77, TT_82, TT_84, bb, primP, primM, ev, evs, parts_, ofConst, bin, un, intBin, putA, enterT, Nat.reduceEqDiff, Nat.reduceAdd, Nat.reduceMul, Nat.reduceLeDiff, Nat.reduceLT, ↓reduceIte, reduceCtorEq, RunRes, resultsA, oneOf, AV.plain, AV.cells, AHeap.push, AHeap.set, AHeap.empty, fieldOf, loadA, storeA, BX.part, TK.isAgg, convA, builtinA, inertB, builtinP, buildA, fillA, splice, eqv, cellsEq, sizeT, adT, ldT, fwT, Nat.reduceBeqDiff, Nat.reduceBneDiff, Int.reduceBNe, Int.reduceBEq, Int.reduceEq, Int.reduceLT, Int.reduceLE, Int.reduceAdd, Int.reduceSub, Int.reduceMul, Int.reduceNeg, strBin, indexAddrA, elems, lenOf, chunk, List.reduceReplicate, Int.reduceToNat]
    exact hk _ _ _ hB'
  · have e0 : ((1 : Int) == 0) = false := rfl
    have e1 : ((1 : Int) == 1) = true := rfl
    have ha' := ha
    unfold aloneM at ha'
    rw [if_pos ho] at ha'
    simp only [Bool.and_eq_true, decide_eq_true_eq] at ha'
    have h5 := ha'.2
    have h0 := ha'.1.2
    have hl : leafT l[at_] = nameT (l[at_]).v.n := by unfold leafT; rw [if_neg (by rw [ho]; decide)]
    rw [hl] at hk hm
    simp only [encN, ho] at hB1 g0
    have hcase : (l[at_]).v.n = 0 ∨ (l[at_]).v.n = 1 ∨ (l[at_]).v.n = 2 ∨ (l[at_]).v.n = 3 ∨ (l[at_]).v.n = 4 := by omega
    rcases hcase with hv | hv | hv | hv | hv <;>
    (rw [hv] at hB1 g0 hk hm
     simp only [p0, l0, g0, e0, e1, upd2, Int.toNat_natCast, call_pure pure38 rfl names_ok, run_exit_start, exit_here, exit_code, exit_inLoop, run_inBlock, n26_0, n26_1, n26_2, n26_3, n26_4, n26_5, n26_6, n26_7, n26_8, n26_9, n26_10, n26_11, n26_12, n26_13, n26_14, n26_15, n26_16, n26_17, n26_18, n26_19, n26_20, n26_21, n26_22, n26_23, n26_24, n26_25, n26_26, n26_27, n26_28, n26_29, n26_30, n26_31, n26_32, n26_33, n26_34, n26_35, n26_36, n26_37, n26_38, o26_1, o26_3, o26_6, o26_8, o26_10, o26_12, o26_14, o26_16, o26_18, o26_21, o26_25, o26_33, o26_35, o26_36, o26_37, o26_38, res26, TT_3, TT_4, TT_5, TT_9, TT_21, TT_22, TT_25, TT_33, TT_35, TT_37, TT_39, TT_47, TT_52, TT_56, TT_59, TT_60, TT_62, TT_63, TT_65, TT_73, TT_77, TT_82, TT_84, bb, primP, primM, ev, evs, parts_, ofConst, bin, un, intBin, putA, enterT, Nat.reduceEqDiff, Nat.reduceAdd, Nat.reduceMul, Nat.reduceLeDiff, Nat.reduceLT, ↓reduceIte, reduceCtorEq, RunRes, resultsA, oneOf, AV.plain, AV.cells, AHeap.push, AHeap.set, AHeap.empty, fieldOf, loadA, storeA, BX.part, TK.isAgg, convA, builtinA, inertB, builtinP, buildA, fillA, splice, eqv, cellsEq, sizeT, adT, ldT, fwT, Nat.reduceBeqDiff, Nat.reduceBneDiff, Int.reduceBNe, Int.reduceBEq, Int.reduceEq, Int.reduceLT, Int.reduceLE, Int.reduceAdd, Int.reduceSub, Int.reduceMul, Int.reduceNeg, strBin, indexAddrA, elems, lenOf, chunk, List.reduceReplicate, Int.reduceToNat]
     refine WriteString_call hB1 (by simp [nameT] at hm ⊢; omega) ?_
     intro H' g' hB' _
     simp only [run_inBlock, run_nil, n26_0, n26_1, n26_2, n26_3, n26_4, n26_5, n26_6, n26_7, n26_8, n26_9, n26_10, n26_11, n26_12, n26_13, n26_14, n26_15, n26_16, n26_17, n26_18, n26_19, n26_20, n26_21, n26_22, n26_23, n26_24, n26_25, n26_26, n26_27, n26_28, n26_29, n26_30, n26_31, n26_32, n26_33, n26_34, n26_35, n26_36, n26_37, n26_38, o26_1, o26_3, o26_6, o26_8, o26_10, o26_12, o26_14, o26_16, o26_18, o26_21, o26_25, o26_33, o26_35, o26_36, o26_37, o26_38, res26, TT_3, TT_4, TT_5, TT_9, TT_21, TT_22, TT_25, TT_33, TT_35, TT_37, TT_39, TT_47, TT_52, TT_56, TT_59, TT_60, TT_62, TT_63, TT_65, TT_73, TT_77, TT_82, TT_84, bb, primP, primM, ev, evs, parts_, ofConst, bin, un, intBin, putA, enterT, Nat.reduceEqDiff, Nat.reduceAdd, Nat.reduceMul, Nat.reduceLeDiff, Nat.reduceLT, ↓reduceIte, reduceCtorEq, RunRes, resultsA, oneOf, AV.plain, AV.cells, AHeap.push, AHeap.set, AHeap.empty, fieldOf, loadA, storeA, BX.part, TK.isAgg, convA, builtinA, inertB, builtinP, buildA, fillA, splice, eqv, cellsEq, sizeT, adT, ldT, fwT, Nat.reduceBeqDiff, Nat.reduceBneDiff, Int.reduceBNe, Int.reduceBEq, Int.reduceEq, Int.reduceLT, Int.reduceLE, Int.reduceAdd, Int.reduceSub, Int.reduceMul, Int.reduceNeg, strBin, indexAddrA, elems, lenOf, chunk, List.reduceReplicate, Int.reduceToNat]
     exact hk _ _ _ hB')
theorem word_len {op : Int} (h : isOp op = true) : (wordM op).length ≤ 5 := by
  obtain ⟨h2, e⟩ := ops_get h
  unfold wordM
  rw [e]
  have key : ∀ x, x ∈ ops → x.1.length ≤ 5 := by decide
  exact key _ (List.getElem_mem h2)
theorem cw_node {l : List Nd} {at_ : Nat} {n : Nd} {cs : List Bytes} (hle : l.length ≤ 1000) (hlt : at_ < l.length) (hg : l[at_] = n) (ho : isOp n.op = true) (hn : numN n) (hr : LpW l cs (at_ + 1) (partsM n.op) 0) : CW l at_ (nodeT n cs) := by
  subst hg
  intro b0 fn T ds ro k dst os n A g acc Q hB hm hk
  refine call_body pure26 (noext _) body26 ?_
  have p0 : (0 : Int) ≤ (at_ : Int) := by omega
  have l0 : (at_ : Int) < ((l.map encN).length : Int) := by rw [List.length_map]; omega
  have g0 := encN_get hlt
  have hB1 := isB_new (.cells 37 6 [encN l[at_]]) hB
  have ho' := ho
  unfold isOp at ho'
  simp only [Bool.and_eq_true, decide_eq_true_eq] at ho'
  have e0 : ((l[at_]).op == 0) = false := by rw [beq_eq_false_iff_ne]; omega
  have e1 : ((l[at_]).op == 1) = false := by rw [beq_eq_false_iff_ne]; omega
  have hp := Parts_ok (l[at_]).op hn.1 hn.2
  have hwl := word_len ho
  have w1 : IntKind.i64.wrap ((at_ : Int) + 1) = ((at_ + 1 : Nat) : Int) := by rw [wr64 (by omega) (by omega)]; omega
  have hnT : nodeT l[at_] cs = [40] ++ wordM (l[at_]).op ++ spread cs ++ [41] := by simp [nodeT, spread]
  rw [hnT] at hm hk
  simp only [List.length_append, List.length_singleton] at hm
  have hml : (1 + (wordM (l[at_]).op).length ≤ 9223372036854775807) = True := eq_true (by omega)
  simp only [p0, l0, g0, e0, e1, w1, hml, upd2, Int.toNat_natCast, List.length_singleton, call_pure pure12 rfl hp, run_exit_start, exit_here, exit_code, exit_inLoop, run_inBlock, n26_0, n26_1, n26_2, n26_3, n26_4, n26_5, n26_6, n26_7, n26_8, n26_9, n26_10, n26_11, n26_12, n26_13, n26_14, n26_15, n26_16, n26_17, n26_18, n26_19, n26_20, n26_21, n26_22, n26_23, n26_25, n26_26, n26_27, n26_28, n26_29, n26_30, n26_31, n26_32, n26_33, n26_34, n26_35, n26_36, n26_37, o26_1, o26_3, o26_6, o26_8, o26_10, o26_12, o26_14, o26_16, o26_18, o26_21, o26_25, o26_33, o26_35, o26_36, o26_37, o26_38, res26, TT_3, TT_4, TT_5, TT_9, TT_21, TT_22, TT_25, TT_33, TT_35, TT_37, TT_39, TT_47, TT_52, TT_56, TT_59, TT_60, TT_62, TT_63, TT_65, TT_73, TT_77, TT_82, TT_84, bb, primP, primM, ev, evs, parts_, ofConst, bin, un, intBin, putA, enterT, Nat.reduceEqDiff, Nat.reduceAdd, Nat.reduceMul, Nat.reduceLeDiff, Nat.reduceLT, ↓reduceIte, reduceCtorEq, RunRes, resultsA, oneOf, AV.plain, AV.cells, AHeap.push, AHeap.set, AHeap.empty, fieldOf, loadA, storeA, BX.part, TK.isAgg, convA, builtinA, inertB, builtinP, buildA, fillA, splice, eqv, cellsEq, sizeT, adT, ldT, fwT, Nat.reduceBeqDiff, Nat.reduceBneDiff, Int.reduceBNe, Int.reduceBEq, Int.reduceEq, Int.reduceLT, Int.reduceLE, Int.reduceAdd, Int.reduceSub, Int.reduceMul, Int.reduceNeg, strBin, indexAddrA, elems, lenOf, chunk, List.reduceReplicate, Int.reduceToNat]
  refine WriteString_call (s := 40 :: wordM (l[at_]).op) hB1 (by rw [List.length_cons]; omega) ?_
  intro H1 g1 hB2 _
  obtain ⟨n1, A1⟩ := H1
  simp only [w1, run_exit_start, exit_here, exit_code, exit_inLoop, run_inBlock, n26_0, n26_1, n26_2, n26_3, n26_4, n26_5, n26_6, n26_7, n26_8, n26_9, n26_10, n26_11, n26_12, n26_13, n26_14, n26_15, n26_16, n26_17, n26_18, n26_19, n26_20, n26_21, n26_22, n26_23, n26_25, n26_26, n26_27, n26_28, n26_29, n26_30, n26_31, n26_32, n26_33, n26_34, n26_35, n26_36, n26_37, o26_1, o26_3, o26_6, o26_8, o26_10, o26_12, o26_14, o26_16, o26_18, o26_21, o26_25, o26_33, o26_35, o26_36, o26_37, o26_38, res26, TT_3, TT_4, TT_5, TT_9, TT_21, TT_22, TT_25, TT_33, TT_35, TT_37, TT_39, TT_47, TT_52, TT_56, TT_59, TT_60, TT_62, TT_63, TT_65, TT_73, TT_77, TT_82, TT_84, bb, primP, primM, ev, evs, parts_, ofConst, bin, un, intBin, putA, enterT, Nat.reduceEqDiff, Nat.reduceAdd, Nat.reduceMul, Nat.reduceLeDiff, Nat.reduceLT, ↓reduceIte, reduceCtorEq, RunRes, resultsA, oneOf, AV.plain, AV.cells, AHeap.push, AHeap.set, AHeap.empty, fieldOf, loadA, storeA, BX.part, TK.isAgg, convA, builtinA, inertB, builtinP, buildA, fillA, splice, eqv, cellsEq, sizeT, adT, ldT, fwT, Nat.reduceBeqDiff, Nat.reduceBneDiff, Int.reduceBNe, Int.reduceBEq, Int.reduceEq, Int.reduceLT, Int.reduceLE, Int.reduceAdd, Int.reduceSub, Int.reduceMul, Int.reduceNeg, strBin, indexAddrA, elems, lenOf, chunk, List.reduceReplicate, Int.reduceToNat]
  refine hr b0 _ n1 A1 g1 _ _ ?_ ?_ ?_ ?_ ?_ hB2 (by simp only [List.length_append, List.length_cons]; omega) ?_
  · simp only [upd_app, enterT, List.getElem?_cons_zero, Option.getD_some, Nat.reduceEqDiff, ↓reduceIte]
  · simp only [upd_app, Nat.reduceEqDiff, ↓reduceIte]
  · simp only [upd_app, enterT, List.getElem?_cons_zero, List.getElem?_cons_succ, Option.getD_some, Nat.reduceEqDiff, ↓reduceIte]
  · simp only [upd_app, Nat.reduceEqDiff, ↓reduceIte]
  · simp only [upd_app, Nat.reduceEqDiff, ↓reduceIte]; rfl
  · intro T' H' g' t2' hB'
    obtain ⟨n2, A2⟩ := H'
    simp only [t2', run_inBlock, n26_0, n26_1, n26_2, n26_3, n26_4, n26_5, n26_6, n26_7, n26_8, n26_9, n26_10, n26_11, n26_12, n26_13, n26_14, n26_15, n26_16, n26_17, n26_18, n26_19, n26_20, n26_21, n26_22, n26_23, n26_24, n26_25, n26_26, n26_27, n26_28, n26_29, n26_30, n26_31, n26_32, n26_33, n26_34, n26_35, n26_36, n26_37, n26_38, o26_1, o26_3, o26_6, o26_8, o26_10, o26_12, o26_14, o26_16, o26_18, o26_21, o26_25, o26_33, o26_35, o26_36, o26_37, o26_38, res26, TT_3, TT_4, TT_5, TT_9, TT_21, TT_22, TT_25, TT_33, TT_35, TT_37, TT_39, TT_47, TT_52, TT_56, TT_59, TT_60, TT_62, TT_63, TT_65, TT_73, TT_77, TT_82, TT_84, bb, primP, primM, ev, evs, parts_, ofConst, bin, un, intBin, putA, enterT, Nat.reduceEqDiff, Nat.reduceAdd, Nat.reduceMul, Nat.reduceLeDiff, Nat.reduceLT, ↓reduceIte, reduceCtorEq, RunRes, resultsA, oneOf, AV.plain, AV.cells, AHeap.push, AHeap.set, AHeap.empty, fieldOf, loadA, storeA, BX.part, TK.isAgg, convA, builtinA, inertB, builtinP, buildA, fillA, splice, eqv, cellsEq, sizeT, adT, ldT, fwT, Nat.reduceBeqDiff, Nat.reduceBneDiff, Int.reduceBNe, Int.reduceBEq, Int.reduceEq, Int.reduceLT, Int.reduceLE, Int.reduceAdd, Int.reduceSub, Int.reduceMul, Int.reduceNeg, strBin, indexAddrA, elems, lenOf, chunk, List.reduceReplicate, Int.reduceToNat]
    refine WriteByte_call (x := 41) hB' (by simp only [List.length_append, List.length_cons]; omega) ?_
    intro H3 z hB3 _
    simp only [run_inBlock, run_nil, n26_0, n26_1, n26_2, n26_3, n26_4, n26_5, n26_6, n26_7, n26_8, n26_9, n26_10, n26_11, n26_12, n26_13, n26_14, n26_15, n26_16, n26_17, n26_18, n26_19, n26_20, n26_21, n26_22, n26_23, n26_24, n26_25, n26_26, n26_27, n26_28, n26_29, n26_30, n26_31, n26_32, n26_33, n26_34, n26_35, n26_36, n26_37, n26_38, o26_1, o26_3, o26_6, o26_8, o26_10, o26_12, o26_14, o26_16, o26_18, o26_21, o26_25, o26_33, o26_35, o26_36, o26_37, o26_38, res26, TT_3, TT_4, TT_5, TT_9, TT_21, TT_22, TT_25, TT_33, TT_35, TT_37, TT_39, TT_47, TT_52, TT_56, TT_59, TT_60, TT_62, TT_63, TT_65, TT_73, TT_77, TT_82, TT_84, bb, primP, primM, ev, evs, parts_, ofConst, bin, un, intBin, putA, enterT, Nat.reduceEqDiff, Nat.reduceAdd, Nat.reduceMul, Nat.reduceLeDiff, Nat.reduceLT, ↓reduceIte, reduceCtorEq, RunRes, resultsA, oneOf, AV.plain, AV.cells, AHeap.push, AHeap.set, AHeap.empty, fieldOf, loadA, storeA, BX.part, TK.isAgg, convA, builtinA, inertB, builtinP, buildA, fillA, splice, eqv, cellsEq, sizeT, adT, ldT, fwT, Nat.reduceBeqDiff, Nat.reduceBneDiff, Int.reduceBNe, Int.reduceBEq, Int.reduceEq, Int.reduceLT, Int.reduceLE, Int.reduceAdd, Int.reduceSub, Int.reduceMul, Int.reduceNeg, strBin, indexAddrA, elems, lenOf, chunk, List.reduceReplicate, Int.reduceToNat]
    refine hk _ _ (some z) ?_
    rw [show acc ++ ([40] ++ wordM (l[at_]).op ++ spread cs ++ [41]) = acc ++ (40 :: wordM (l[at_]).op) ++ spread cs ++ [41] by simp]
    exact hB3
theorem lp_all {l : List Nd} (hl : l.length ≤ 400) (hn : numL l) {d k : Nat} {e : List Nd} {bs : List Bytes} (h : Es d k e bs) : ∀ {at_ kk i : Nat} {post : List Nd}, l.drop at_ = e ++ post → kk = i + k → kk ≤ 3 → LpW l bs at_ kk i := by
  induction h with
  | nil =>
    intro at_ kk i post hd hk h3
    exact lp_end (by omega)
  | @leaf d k n ls bs h hs ih =>
    intro at_ kk i post hd hk h3
    rw [List.cons_append] at hd
    obtain ⟨hlt, hg, hd2⟩ := drop_nd hd
    refine lp_step (m := 1) (by omega) h3 (cw_leaf hlt hg h) ?_ (ih hd2 (by omega) h3)
    have := end_ok hl hn (Es.leaf (d := d) h (.nil _)) (at_ := at_) (post := ls ++ post) hd
    exact this
  | @node d k n ps ls cs bs h hz hp hs ih1 ih2 =>
    intro at_ kk i post hd hk h3
    rw [List.cons_append, List.append_assoc] at hd
    obtain ⟨hlt, hg, hd2⟩ := drop_nd hd
    have hpp := parts_pos h
    have hnn : numN n := by rw [← hg]; exact hn _ (List.getElem_mem hlt)
    have hd3 : l.drop (at_ + (ps.length + 1)) = ls ++ post := by
      rw [show at_ + (ps.length + 1) = at_ + 1 + ps.length by omega, ← List.drop_drop, hd2, List.drop_left]
    refine lp_step (m := ps.length + 1) (by omega) h3 (cw_node (by omega) hlt hg h hnn (ih1 hd2 (by omega) hpp.2)) ?_ (ih2 hd3 (by omega) h3)
    have := end_ok hl hn (Es.node (k := 0) (bs := []) h hz hp (.nil _)) (at_ := at_) (post := ls ++ post) (by rw [List.append_nil]; exact hd)
    rw [List.append_nil, List.length_cons] at this
    exact this
theorem cw_all {l : List Nd} (hl : l.length ≤ 400) (hn : numL l) {d : Nat} {b : Bytes} {e post : List Nd} {at_ : Nat} (h : Es d 1 e [b]) (hd : l.drop at_ = e ++ post) : CW l at_ b := by
  cases h with
  | leaf h hs =>
    cases hs
    obtain ⟨hlt, hg, hd2⟩ := drop_nd hd
    exact cw_leaf hlt hg h
  | node h hz hp hs =>
    cases hs
    rw [List.append_nil, List.cons_append] at hd
    obtain ⟨hlt, hg, hd2⟩ := drop_nd hd
    have hnn := hn _ (List.getElem_mem hlt)
    rw [hg] at hnn
    exact cw_node (by omega) hlt hg h hnn (lp_all hl hn hp hd2 (by omega) (parts_pos h).2)
end Go.Proofs.Ytkedlkcknhinoaa.G

namespace Go.Proofs.Ytkedlkcknhinoaa.G
open Go.BX
set_option linter.unusedSimpArgs false
set_option linter.unusedVariables false
theorem leaf_len {n : Nd} (h : aloneM n = true) : (leafT n).length ≤ 20000 ∧ leafT n ≠ [] := by
  have hok := alone_ok h
  unfold leafT
  split
  · unfold writeV
    rcases right_cases hok with ⟨h1, h2, _⟩ | ⟨h1, h2, _⟩ | ⟨h1, h2, _⟩
    · rw [if_pos h1]
      exact ⟨by have := decS_len n.v.n h2; omega, decS_ne _⟩
    · rw [h1, if_neg (by decide), if_pos rfl]
      unfold quoS
      have := quoM_len n.v.s
      exact ⟨by rw [List.length_cons, List.length_append, List.length_singleton]; omega, by simp⟩
    · rw [h1, if_neg (by decide), if_neg (by decide)]
      obtain ⟨h3, h4⟩ := h2
      rw [inR_iff] at h3 h4
      have l1 := decS_len n.v.x (by omega)
      have l2 := decS_len n.v.y (by omega)
      exact ⟨by rw [List.length_append, List.length_append, List.length_singleton]; omega, by simp⟩
  · have ha := h
    unfold aloneM at ha
    rename_i h0
    have h1 : n.op = 1 := by rcases (alone_op h).2 with h | h; exact absurd h h0; exact h
    rw [if_pos h1] at ha
    simp only [Bool.and_eq_true, decide_eq_true_eq] at ha
    have hcase : n.v.n = 0 ∨ n.v.n = 1 ∨ n.v.n = 2 ∨ n.v.n = 3 ∨ n.v.n = 4 := by omega
    rcases hcase with hv | hv | hv | hv | hv <;> rw [hv] <;> exact ⟨by decide, by decide⟩
theorem spread_cons (b : Bytes) (bs : List Bytes) : spread (b :: bs) = 32 :: (b ++ spread bs) := rfl
theorem nodeT_len {n : Nd} (h : isOp n.op = true) (cs : List Bytes) : (nodeT n cs).length ≤ (spread cs).length + 7 := by
  have := word_len h
  unfold nodeT
  rw [List.length_cons, List.length_append, List.length_append, List.length_singleton]
  show _ + ((spread cs).length + 1) + 1 ≤ _
  omega
theorem Es.blen {d k : Nat} {l : List Nd} {bs : List Bytes} (h : Es d k l bs) : (spread bs).length ≤ 20010 * l.length := by
  induction h with
  | nil => simp [spread]
  | leaf h hs ih =>
    have := (leaf_len h).1
    rw [spread_cons, List.length_cons, List.length_append, List.length_cons]
    omega
  | @node d k n ps ls cs bs h hz hp hs ih1 ih2 =>
    have := nodeT_len h cs
    rw [spread_cons, List.length_cons, List.length_append, List.length_cons, List.length_append]
    omega
theorem Es.one_len {d : Nat} {l : List Nd} {b : Bytes} (h : Es d 1 l [b]) : b.length ≤ 20010 * l.length ∧ b ≠ [] := by
  have := h.blen
  rw [spread_cons, List.length_cons, List.length_append] at this
  refine ⟨by omega, ?_⟩
  cases h with
  | leaf h hs => exact (leaf_len h).2
  | node h hz hp hs => unfold nodeT; simp
theorem EWrite_no {v : AV} {l : List Nd} (hv : InN v l) (hn : numL l) (hl : l.length ≤ 1000000) (h : rightM l = false) : PCall Cx 13 [v] (.tuple [.str [], .int .i64 1]) := by
  refine pcall_run (noext _) body13 ?_
  have f0 : [v].all AV.flat = true := by simp [hv.flat]
  have hr := ERight_ok hv hn hl
  rw [h] at hr
  simp only [call_pure pure11 f0 hr, freeze2_str, n13_0, n13_1, n13_2, n13_3, n13_4, n13_5, n13_6, n13_7, n13_8, n13_9, n13_10, n13_11, n13_12, n13_13, n13_14, n13_15, n13_16, n13_17, n13_18, n13_19, n13_20, n13_21, n13_22, n13_23, n13_24, o13_1, o13_4, o13_7, o13_11, o13_13, o13_16, o13_19, o13_23, res13, TT_3, TT_4, TT_5, TT_9, TT_21, TT_22, TT_25, TT_33, TT_35, TT_37, TT_39, TT_47, TT_52, TT_56, TT_59, TT_60, TT_62, TT_63, TT_65, TT_73, TT_77, TT_82, TT_84, bb, primP, primM, ev, evs, parts_, ofConst, bin, un, intBin, putA, enterT, Nat.reduceEqDiff, Nat.reduceAdd, Nat.reduceMul, Nat.reduceLeDiff, Nat.reduceLT, ↓reduceIte, reduceCtorEq, RunRes, resultsA, oneOf, AV.plain, AV.cells, AHeap.push, AHeap.set, AHeap.empty, fieldOf, loadA, storeA, BX.part, TK.isAgg, convA, builtinA, inertB, builtinP, buildA, fillA, splice, eqv, cellsEq, sizeT, adT, ldT, fwT, Nat.reduceBeqDiff, Nat.reduceBneDiff, Int.reduceBNe, Int.reduceBEq, Int.reduceEq, Int.reduceLT, Int.reduceLE, Int.reduceAdd, Int.reduceSub, Int.reduceMul, Int.reduceNeg, strBin, indexAddrA, elems, lenOf, chunk, List.reduceReplicate, Int.reduceToNat]
theorem Len_call {fn : FuncId} {T : Nat → AV} {ds : List ADef} {ro : Option Nat} {k : List AItem} {Q : AV → AHeap → Prop} {dst : Option Nat} {os : List AO} {n : Nat} {A : Nat → Blk} {b : Nat} {g : Option Nat} {acc : Bytes} (h : IsB 65 5 ⟨n, A⟩ b g acc)
    (hk : RunOps Cx fn (putA T dst (.int .i64 (acc.length : Int))) ds ro os k ⟨n, A⟩ Q) : RunCall Cx fn T ds ro 27 [.ptr b 2 0 0] dst os k ⟨n, A⟩ Q := by
  refine call_body pure27 (noext _) body27 ?_
  obtain ⟨lt, ⟨a, ha, hb⟩, hbuf⟩ := h
  cases g with
  | none =>
    have hacc : acc = [] := hbuf
    subst hacc
    have hb' : A b = .cells 65 2 [[a, .nilS]] := hb
    simp only [hb', lenOf, i64, n27_0, n27_1, n27_2, n27_3, n27_4, o27_1, o27_3, res27, TT_3, TT_4, TT_5, TT_9, TT_21, TT_22, TT_25, TT_33, TT_35, TT_37, TT_39, TT_47, TT_52, TT_56, TT_59, TT_60, TT_62, TT_63, TT_65, TT_73, TT_77, TT_82, TT_84, bb, primP, primM, ev, evs, parts_, ofConst, bin, un, intBin, putA, enterT, Nat.reduceEqDiff, Nat.reduceAdd, Nat.reduceMul, Nat.reduceLeDiff, Nat.reduceLT, ↓reduceIte, reduceCtorEq, RunRes, resultsA, oneOf, AV.plain, AV.cells, AHeap.push, AHeap.set, AHeap.empty, fieldOf, loadA, storeA, BX.part, TK.isAgg, convA, builtinA, inertB, builtinP, buildA, fillA, splice, eqv, cellsEq, sizeT, adT, ldT, fwT, Nat.reduceBeqDiff, Nat.reduceBneDiff, Int.reduceBNe, Int.reduceBEq, Int.reduceEq, Int.reduceLT, Int.reduceLE, Int.reduceAdd, Int.reduceSub, Int.reduceMul, Int.reduceNeg, strBin, indexAddrA, elems, lenOf, chunk, List.reduceReplicate, Int.reduceToNat]
    exact hk
  | some g =>
    have hb' : A b = .cells 65 2 [[a, .slc g 1 0 acc.length]] := hb
    simp only [hb', lenOf, i64, n27_0, n27_1, n27_2, n27_3, n27_4, o27_1, o27_3, res27, TT_3, TT_4, TT_5, TT_9, TT_21, TT_22, TT_25, TT_33, TT_35, TT_37, TT_39, TT_47, TT_52, TT_56, TT_59, TT_60, TT_62, TT_63, TT_65, TT_73, TT_77, TT_82, TT_84, bb, primP, primM, ev, evs, parts_, ofConst, bin, un, intBin, putA, enterT, Nat.reduceEqDiff, Nat.reduceAdd, Nat.reduceMul, Nat.reduceLeDiff, Nat.reduceLT, ↓reduceIte, reduceCtorEq, RunRes, resultsA, oneOf, AV.plain, AV.cells, AHeap.push, AHeap.set, AHeap.empty, fieldOf, loadA, storeA, BX.part, TK.isAgg, convA, builtinA, inertB, builtinP, buildA, fillA, splice, eqv, cellsEq, sizeT, adT, ldT, fwT, Nat.reduceBeqDiff, Nat.reduceBneDiff, Int.reduceBNe, Int.reduceBEq, Int.reduceEq, Int.reduceLT, Int.reduceLE, Int.reduceAdd, Int.reduceSub, Int.reduceMul, Int.reduceNeg, strBin, indexAddrA, elems, lenOf, chunk, List.reduceReplicate, Int.reduceToNat]
    exact hk
def writeM (b : Bytes) : AV := if 4096 < b.length then .tuple [.str [], .int .i64 3] else .tuple [.str b, .int .i64 0]
theorem EWrite_yes {l : List Nd} (hn : numL l) (hr : rightM l = true) {b : Bytes} {d : Nat} (hb : Es d 1 l [b]) : PCall Cx 13 [.vec 6 (l.map encN)] (writeM b) := by
  refine pcall_run (noext _) body13 ?_
  have hle := (right_iff.mp hr).1
  have hro := ERight_ok (v := .vec 6 (l.map encN)) (.inr rfl) hn (by omega)
  rw [hr] at hro
  obtain ⟨hbl, hbn⟩ := hb.one_len
  have hcw := cw_all hle hn hb (at_ := 0) (post := []) (by rw [List.append_nil, List.drop_zero])
  simp only [call_pure pure11 rfl hro, n13_0, n13_1, n13_2, n13_3, n13_4, n13_5, n13_6, n13_7, n13_8, n13_9, n13_10, n13_11, n13_12, n13_13, n13_14, n13_15, n13_16, n13_17, n13_18, n13_19, n13_20, n13_21, n13_22, n13_23, n13_24, o13_1, o13_4, o13_7, o13_11, o13_13, o13_16, o13_19, o13_23, res13, TT_3, TT_4, TT_5, TT_9, TT_21, TT_22, TT_25, TT_33, TT_35, TT_37, TT_39, TT_47, TT_52, TT_56, TT_59, TT_60, TT_62, TT_63, TT_65, TT_73, TT_77, TT_82, TT_84, bb, primP, primM, ev, evs, parts_, ofConst, bin, un, intBin, putA, enterT, Nat.reduceEqDiff, Nat.reduceAdd, Nat.reduceMul, Nat.reduceLeDiff, Nat.reduceLT, ↓reduceIte, reduceCtorEq, RunRes, resultsA, oneOf, AV.plain, AV.cells, AHeap.push, AHeap.set, AHeap.empty, fieldOf, loadA, storeA, BX.part, TK.isAgg, convA, builtinA, inertB, builtinP, buildA, fillA, splice, eqv, cellsEq, sizeT, adT, ldT, fwT, Nat.reduceBeqDiff, Nat.reduceBneDiff, Int.reduceBNe, Int.reduceBEq, Int.reduceEq, Int.reduceLT, Int.reduceLE, Int.reduceAdd, Int.reduceSub, Int.reduceMul, Int.reduceNeg, strBin, indexAddrA, elems, lenOf, chunk, List.reduceReplicate, Int.reduceToNat]
  refine hcw 0 _ _ _ _ _ _ _ _ _ none [] _ ⟨by show 0 < 1; omega, ⟨.nilP, .inl rfl, by simp only [upd_app, ↓reduceIte]⟩, rfl⟩ (by simp only [List.length_nil]; unfold most; omega) ?_
  intro r H' g' hB
  rw [List.nil_append] at hB
  obtain ⟨n1, A1⟩ := H'
  simp only [n13_0, n13_1, n13_2, n13_3, n13_4, n13_5, n13_6, n13_7, n13_8, n13_9, n13_10, n13_11, n13_12, n13_13, n13_14, n13_15, n13_16, n13_17, n13_18, n13_19, n13_20, n13_21, n13_22, n13_23, n13_24, o13_1, o13_4, o13_7, o13_11, o13_13, o13_16, o13_19, o13_23, res13, TT_3, TT_4, TT_5, TT_9, TT_21, TT_22, TT_25, TT_33, TT_35, TT_37, TT_39, TT_47, TT_52, TT_56, TT_59, TT_60, TT_62, TT_63, TT_65, TT_73, TT_77, TT_82, TT_84, bb, primP, primM, ev, evs, parts_, ofConst, bin, un, intBin, putA, enterT, Nat.reduceEqDiff, Nat.reduceAdd, Nat.reduceMul, Nat.reduceLeDiff, Nat.reduceLT, ↓reduceIte, reduceCtorEq, RunRes, resultsA, oneOf, AV.plain, AV.cells, AHeap.push, AHeap.set, AHeap.empty, fieldOf, loadA, storeA, BX.part, TK.isAgg, convA, builtinA, inertB, builtinP, buildA, fillA, splice, eqv, cellsEq, sizeT, adT, ldT, fwT, Nat.reduceBeqDiff, Nat.reduceBneDiff, Int.reduceBNe, Int.reduceBEq, Int.reduceEq, Int.reduceLT, Int.reduceLE, Int.reduceAdd, Int.reduceSub, Int.reduceMul, Int.reduceNeg, strBin, indexAddrA, elems, lenOf, chunk, List.reduceReplicate, Int.reduceToNat]
  refine Len_call hB ?_
  unfold writeM
  by_cases h4 : 4096 < b.length
  · have c4 : (4096 : Int) < (b.length : Int) := by omega
    rw [if_pos h4]
    simp only [c4, freeze2_str, n13_0, n13_1, n13_2, n13_3, n13_4, n13_5, n13_6, n13_7, n13_8, n13_9, n13_10, n13_11, n13_12, n13_13, n13_14, n13_15, n13_16, n13_17, n13_18, n13_19, n13_20, n13_21, n13_22, n13_23, n13_24, o13_1, o13_4, o13_7, o13_11, o13_13, o13_16, o13_19, o13_23, res13, TT_3, TT_4, TT_5, TT_9, TT_21, TT_22, TT_25, TT_33, TT_35, TT_37, TT_39, TT_47, TT_52, TT_56, TT_59, TT_60, TT_62, TT_63, TT_65, TT_73, TT_77, TT_82, TT_84, bb, primP, primM, ev, evs, parts_, ofConst, bin, un, intBin, putA, enterT, Nat.reduceEqDiff, Nat.reduceAdd, Nat.reduceMul, Nat.reduceLeDiff, Nat.reduceLT, ↓reduceIte, reduceCtorEq, RunRes, resultsA, oneOf, AV.plain, AV.cells, AHeap.push, AHeap.set, AHeap.empty, fieldOf, loadA, storeA, BX.part, TK.isAgg, convA, builtinA, inertB, builtinP, buildA, fillA, splice, eqv, cellsEq, sizeT, adT, ldT, fwT, Nat.reduceBeqDiff, Nat.reduceBneDiff, Int.reduceBNe, Int.reduceBEq, Int.reduceEq, Int.reduceLT, Int.reduceLE, Int.reduceAdd, Int.reduceSub, Int.reduceMul, Int.reduceNeg, strBin, indexAddrA, elems, lenOf, chunk, List.reduceReplicate, Int.reduceToNat]
  · have c4 : ¬ (4096 : Int) < (b.length : Int) := by omega
    rw [if_neg h4]
    simp only [c4, n13_0, n13_1, n13_2, n13_3, n13_4, n13_5, n13_6, n13_7, n13_8, n13_9, n13_10, n13_11, n13_12, n13_13, n13_14, n13_15, n13_16, n13_17, n13_18, n13_19, n13_20, n13_21, n13_22, n13_23, n13_24, o13_1, o13_4, o13_7, o13_11, o13_13, o13_16, o13_19, o13_23, res13, TT_3, TT_4, TT_5, TT_9, TT_21, TT_22, TT_25, TT_33, TT_35, TT_37, TT_39, TT_47, TT_52, TT_56, TT_59, TT_60, TT_62, TT_63, TT_65, TT_73, TT_77, TT_82, TT_84, bb, primP, primM, ev, evs, parts_, ofConst, bin, un, intBin, putA, enterT, Nat.reduceEqDiff, Nat.reduceAdd, Nat.reduceMul, Nat.reduceLeDiff, Nat.reduceLT, ↓reduceIte, reduceCtorEq, RunRes, resultsA, oneOf, AV.plain, AV.cells, AHeap.push, AHeap.set, AHeap.empty, fieldOf, loadA, storeA, BX.part, TK.isAgg, convA, builtinA, inertB, builtinP, buildA, fillA, splice, eqv, cellsEq, sizeT, adT, ldT, fwT, Nat.reduceBeqDiff, Nat.reduceBneDiff, Int.reduceBNe, Int.reduceBEq, Int.reduceEq, Int.reduceLT, Int.reduceLE, Int.reduceAdd, Int.reduceSub, Int.reduceMul, Int.reduceNeg, strBin, indexAddrA, elems, lenOf, chunk, List.reduceReplicate, Int.reduceToNat]
    have hg : ∃ z, g' = some z := by
      cases g' with
      | some z => exact ⟨z, rfl⟩
      | none => have := hB.buf; exact absurd this hbn
    obtain ⟨z, rfl⟩ := hg
    rw [String_call hB hbn (by unfold maxLen; omega)]
    simp only [freeze2_str, n13_0, n13_1, n13_2, n13_3, n13_4, n13_5, n13_6, n13_7, n13_8, n13_9, n13_10, n13_11, n13_12, n13_13, n13_14, n13_15, n13_16, n13_17, n13_18, n13_19, n13_20, n13_21, n13_22, n13_23, n13_24, o13_1, o13_4, o13_7, o13_11, o13_13, o13_16, o13_19, o13_23, res13, TT_3, TT_4, TT_5, TT_9, TT_21, TT_22, TT_25, TT_33, TT_35, TT_37, TT_39, TT_47, TT_52, TT_56, TT_59, TT_60, TT_62, TT_63, TT_65, TT_73, TT_77, TT_82, TT_84, bb, primP, primM, ev, evs, parts_, ofConst, bin, un, intBin, putA, enterT, Nat.reduceEqDiff, Nat.reduceAdd, Nat.reduceMul, Nat.reduceLeDiff, Nat.reduceLT, ↓reduceIte, reduceCtorEq, RunRes, resultsA, oneOf, AV.plain, AV.cells, AHeap.push, AHeap.set, AHeap.empty, fieldOf, loadA, storeA, BX.part, TK.isAgg, convA, builtinA, inertB, builtinP, buildA, fillA, splice, eqv, cellsEq, sizeT, adT, ldT, fwT, Nat.reduceBeqDiff, Nat.reduceBneDiff, Int.reduceBNe, Int.reduceBEq, Int.reduceEq, Int.reduceLT, Int.reduceLE, Int.reduceAdd, Int.reduceSub, Int.reduceMul, Int.reduceNeg, strBin, indexAddrA, elems, lenOf, chunk, List.reduceReplicate, Int.reduceToNat]
def nameF (l : List Nd) (j : Int) : Bool := l.any (fun n => n.op == 1 && n.v.n == j)
def arr (f : Int → Bool) : AV := .agg [.bool (f 0), .bool (f 1), .bool (f 2), .bool (f 3), .bool (f 4)]
def arrR (f : Int → Bool) : List AV := [.bool (f 0), .bool (f 1), .bool (f 2), .bool (f 3), .bool (f 4)]
theorem alone_name {n : Nd} (h : aloneM n = true) (h1 : n.op = 1) : n.v.n = 0 ∨ n.v.n = 1 ∨ n.v.n = 2 ∨ n.v.n = 3 ∨ n.v.n = 4 := by
  unfold aloneM at h
  rw [if_pos h1] at h
  simp only [Bool.and_eq_true, decide_eq_true_eq] at h
  omega
theorem Es.alone {d k : Nat} {l : List Nd} {bs : List Bytes} (h : Es d k l bs) : ∀ n, n ∈ l → isOp n.op = true ∨ aloneM n = true := by
  induction h with
  | nil => intro n h; cases h
  | leaf h hs ih =>
    intro n hm
    rcases List.mem_cons.mp hm with rfl | hm
    · exact .inr h
    · exact ih n hm
  | node h hz hp hs ih1 ih2 =>
    intro n hm
    rcases List.mem_cons.mp hm with rfl | hm
    · exact .inl h
    · rcases List.mem_append.mp hm with hm | hm
      · exact ih1 n hm
      · exact ih2 n hm
theorem right_name {l : List Nd} (h : rightM l = true) : ∀ n, n ∈ l → n.op = 1 → n.v.n = 0 ∨ n.v.n = 1 ∨ n.v.n = 2 ∨ n.v.n = 3 ∨ n.v.n = 4 := by
  obtain ⟨_, b, hb⟩ := right_iff.mp h
  intro n hm h1
  rcases hb.alone n hm with ho | ha
  · rw [h1] at ho; cases ho
  · exact alone_name ha h1
theorem nameF_next {l : List Nd} {i : Nat} (hi : i < l.length) (j : Int) : nameF (l.take (i + 1)) j = (nameF (l.take i) j || ((l[i]).op == 1 && (l[i]).v.n == j)) := by
  unfold nameF
  rw [List.take_succ_eq_append_getElem hi, List.any_append]
  simp
theorem nameF_skip {l : List Nd} {i : Nat} (hi : i < l.length) (h : ((l[i]).op == 1) = false) : nameF (l.take (i + 1)) = nameF (l.take i) := by
  funext j
  rw [nameF_next hi, h]
  simp
theorem en_all {l : List Nd} (hl : l.length ≤ 1000) (hr : ∀ n, n ∈ l → n.op = 1 → n.v.n = 0 ∨ n.v.n = 1 ∨ n.v.n = 2 ∨ n.v.n = 3 ∨ n.v.n = 4) :
    ∀ (j i : Nat) (T : Nat → AV) (h : Nat) (A : Nat → Blk), i + j = l.length → T 10 = .vec 6 (l.map encN) → T 11 = .int .i64 (l.length : Int) → T 12 = .int .i64 (i : Int) → T 2 = .ptr 0 5 0 0 → T 3 = .ptr 1 5 0 0 → 2 ≤ h → A 0 = .cells 47 5 [[.bool false, .bool false, .bool false, .bool false, .bool false]] → A 1 = .cells 47 5 [arrR (nameF (l.take i))] →
      Run Cx 18 T [] none [.inLoop c18_17, .inBlock 0, .code c18_33] ⟨h, A⟩ (fun r0 H' => BX.freeze H' r0 = some (arr (nameF l)))
  | 0, i, T, h, A, hij, t10, t11, t12, t2, t3, hh, a0, a1 => by
    rw [run_inLoop]
    have c0 : ¬ (i : Int) < (l.length : Int) := by omega
    rw [List.take_of_length_le (by omega)] at a1
    have f0 : ((0 : Nat) = 1) = False := by simp
    unfold arrR at a1
    unfold arr
    simp only [t2, t3, t10, t11, t12, c0, a0, a1, f0, run_exit_start, exit_here, exit_code, exit_inLoop, run_inBlock, n18_0, n18_1, n18_2, n18_3, n18_4, n18_5, n18_6, n18_7, n18_8, n18_9, n18_10, n18_11, n18_12, n18_13, n18_14, n18_15, n18_16, n18_17, n18_18, n18_19, n18_20, n18_21, n18_22, n18_23, n18_24, n18_25, n18_26, n18_27, n18_28, n18_29, n18_30, n18_31, n18_32, n18_33, n18_34, n18_35, o18_1, o18_3, o18_6, o18_9, o18_14, o18_18, o18_26, o18_28, o18_30, o18_32, o18_34, res18, TT_3, TT_4, TT_5, TT_9, TT_21, TT_22, TT_25, TT_33, TT_35, TT_37, TT_39, TT_47, TT_52, TT_56, TT_59, TT_60, TT_62, TT_63, TT_65, TT_73, TT_77, TT_82, TT_84, bb, primP, primM, ev, evs, parts_, ofConst, bin, un, intBin, putA, enterT, Nat.reduceEqDiff, Nat.reduceAdd, Nat.reduceMul, Nat.reduceLeDiff, Nat.reduceLT, ↓reduceIte, reduceCtorEq, RunRes, resultsA, oneOf, AV.plain, AV.cells, AHeap.push, AHeap.set, AHeap.empty, fieldOf, loadA, storeA, BX.part, TK.isAgg, convA, builtinA, inertB, builtinP, buildA, fillA, splice, eqv, cellsEq, sizeT, adT, ldT, fwT, Nat.reduceBeqDiff, Nat.reduceBneDiff, Int.reduceBNe, Int.reduceBEq, Int.reduceEq, Int.reduceLT, Int.reduceLE, Int.reduceAdd, Int.reduceSub, Int.reduceMul, Int.reduceNeg, strBin, indexAddrA, elems, lenOf, chunk, List.reduceReplicate, Int.reduceToNat]
  | j + 1, i, T, h, A, hij, t10, t11, t12, t2, t3, hh, a0, a1 => by
    rw [run_inLoop]
    have hi : i < l.length := by omega
    have c0 : (i : Int) < (l.length : Int) := by omega
    have p0 : (0 : Int) ≤ (i : Int) := by omega
    have l0 : (i : Int) < ((l.map encN).length : Int) := by rw [List.length_map]; omega
    have g0 := encN_get hi
    have w1 : IntKind.i64.wrap ((i : Int) + 1) = ((i + 1 : Nat) : Int) := by rw [wr64 (by omega) (by omega)]; omega
    have e1 : (1 = h) = False := eq_false (by omega)
    have e0 : (0 = h) = False := eq_false (by omega)
    have e2 : (h = 1) = False := eq_false (by omega)
    cases hop : ((l[i]).op == 1) with
    | false =>
      have hnx := nameF_skip hi hop
      simp only [t2, t3, t10, t11, t12, c0, p0, l0, g0, w1, hop, upd2, Int.toNat_natCast, run_exit_start, exit_here, exit_code, exit_inLoop, run_inBlock, n18_0, n18_1, n18_2, n18_3, n18_4, n18_5, n18_6, n18_7, n18_8, n18_9, n18_10, n18_11, n18_12, n18_13, n18_14, n18_15, n18_16, n18_17, n18_18, n18_19, n18_20, n18_21, n18_22, n18_23, n18_24, n18_25, n18_26, n18_27, n18_28, n18_29, n18_30, n18_31, n18_32, n18_34, n18_35, o18_1, o18_3, o18_6, o18_9, o18_14, o18_18, o18_26, o18_28, o18_30, o18_32, o18_34, res18, TT_3, TT_4, TT_5, TT_9, TT_21, TT_22, TT_25, TT_33, TT_35, TT_37, TT_39, TT_47, TT_52, TT_56, TT_59, TT_60, TT_62, TT_63, TT_65, TT_73, TT_77, TT_82, TT_84, bb, primP, primM, ev, evs, parts_, ofConst, bin, un, intBin, putA, enterT, Nat.reduceEqDiff, Nat.reduceAdd, Nat.reduceMul, Nat.reduceLeDiff, Nat.reduceLT, ↓reduceIte, reduceCtorEq, RunRes, resultsA, oneOf, AV.plain, AV.cells, AHeap.push, AHeap.set, AHeap.empty, fieldOf, loadA, storeA, BX.part, TK.isAgg, convA, builtinA, inertB, builtinP, buildA, fillA, splice, eqv, cellsEq, sizeT, adT, ldT, fwT, Nat.reduceBeqDiff, Nat.reduceBneDiff, Int.reduceBNe, Int.reduceBEq, Int.reduceEq, Int.reduceLT, Int.reduceLE, Int.reduceAdd, Int.reduceSub, Int.reduceMul, Int.reduceNeg, strBin, indexAddrA, elems, lenOf, chunk, List.reduceReplicate, Int.reduceToNat]
      refine en_all hl hr j (i + 1) _ _ _ (by omega) ?_ ?_ ?_ ?_ ?_ (by omega) ?_ ?_
      all_goals simp only [upd_app, t2, t3, t10, t11, e0, e1, a0, a1, hnx, Nat.reduceEqDiff, ↓reduceIte]
    | true =>
      have hv := hr l[i] (List.getElem_mem hi) (by simpa using hop)
      have hnx := nameF_next hi
      rw [hop] at hnx
      unfold arrR at a1
      rcases hv with hv | hv | hv | hv | hv <;>
      (rw [hv] at hnx g0
       simp only [t2, t3, t10, t11, t12, c0, p0, l0, g0, w1, hop, e1, e2, a1, upd2, Int.toNat_natCast, run_exit_start, exit_here, exit_code, exit_inLoop, run_inBlock, n18_0, n18_1, n18_2, n18_3, n18_4, n18_5, n18_6, n18_7, n18_8, n18_9, n18_10, n18_11, n18_12, n18_13, n18_14, n18_15, n18_16, n18_17, n18_18, n18_19, n18_20, n18_21, n18_22, n18_23, n18_24, n18_25, n18_26, n18_27, n18_28, n18_29, n18_30, n18_31, n18_32, n18_34, n18_35, o18_1, o18_3, o18_6, o18_9, o18_14, o18_18, o18_26, o18_28, o18_30, o18_32, o18_34, res18, TT_3, TT_4, TT_5, TT_9, TT_21, TT_22, TT_25, TT_33, TT_35, TT_37, TT_39, TT_47, TT_52, TT_56, TT_59, TT_60, TT_62, TT_63, TT_65, TT_73, TT_77, TT_82, TT_84, bb, primP, primM, ev, evs, parts_, ofConst, bin, un, intBin, putA, enterT, Nat.reduceEqDiff, Nat.reduceAdd, Nat.reduceMul, Nat.reduceLeDiff, Nat.reduceLT, ↓reduceIte, reduceCtorEq, RunRes, resultsA, oneOf, AV.plain, AV.cells, AHeap.push, AHeap.set, AHeap.empty, fieldOf, loadA, storeA, BX.part, TK.isAgg, convA, builtinA, inertB, builtinP, buildA, fillA, splice, eqv, cellsEq, sizeT, adT, ldT, fwT, Nat.reduceBeqDiff, Nat.reduceBneDiff, Int.reduceBNe, Int.reduceBEq, Int.reduceEq, Int.reduceLT, Int.reduceLE, Int.reduceAdd, Int.reduceSub, Int.reduceMul, Int.reduceNeg, strBin, indexAddrA, elems, lenOf, chunk, List.reduceReplicate, Int.reduceToNat]
       refine en_all hl hr j (i + 1) _ _ _ (by omega) ?_ ?_ ?_ ?_ ?_ (by omega) ?_ ?_
       all_goals simp only [upd_app, t2, t3, t10, t11, e0, e1, a0, a1, hnx, Nat.reduceEqDiff, ↓reduceIte]
       all_goals (unfold arrR; simp [hnx]))
theorem Names_no {v : AV} {l : List Nd} (hv : InN v l) (hn : numL l) (hl : l.length ≤ 1000000) (h : rightM l = false) : PCall Cx 18 [v] (arr fun _ => false) := by
  refine pcall_run (noext _) body18 ?_
  have f0 : [v].all AV.flat = true := by simp [hv.flat]
  have hr := ERight_ok hv hn hl
  rw [h] at hr
  unfold arr
  simp only [call_pure pure11 f0 hr, n18_0, n18_1, n18_2, n18_3, n18_4, n18_5, n18_6, n18_7, n18_8, n18_9, n18_10, n18_11, n18_12, n18_13, n18_14, n18_15, n18_16, n18_17, n18_18, n18_19, n18_20, n18_21, n18_22, n18_23, n18_24, n18_25, n18_26, n18_27, n18_28, n18_29, n18_30, n18_31, n18_32, n18_33, n18_34, n18_35, o18_1, o18_3, o18_6, o18_9, o18_14, o18_18, o18_26, o18_28, o18_30, o18_32, o18_34, res18, TT_3, TT_4, TT_5, TT_9, TT_21, TT_22, TT_25, TT_33, TT_35, TT_37, TT_39, TT_47, TT_52, TT_56, TT_59, TT_60, TT_62, TT_63, TT_65, TT_73, TT_77, TT_82, TT_84, bb, primP, primM, ev, evs, parts_, ofConst, bin, un, intBin, putA, enterT, Nat.reduceEqDiff, Nat.reduceAdd, Nat.reduceMul, Nat.reduceLeDiff, Nat.reduceLT, ↓reduceIte, reduceCtorEq, RunRes, resultsA, oneOf, AV.plain, AV.cells, AHeap.push, AHeap.set, AHeap.empty, fieldOf, loadA, storeA, BX.part, TK.isAgg, convA, builtinA, inertB, builtinP, buildA, fillA, splice, eqv, cellsEq, sizeT, adT, ldT, fwT, Nat.reduceBeqDiff, Nat.reduceBneDiff, Int.reduceBNe, Int.reduceBEq, Int.reduceEq, Int.reduceLT, Int.reduceLE, Int.reduceAdd, Int.reduceSub, Int.reduceMul, Int.reduceNeg, strBin, indexAddrA, elems, lenOf, chunk, List.reduceReplicate, Int.reduceToNat]
theorem Names_ok {l : List Nd} (hn : numL l) (hr : rightM l = true) : PCall Cx 18 [.vec 6 (l.map encN)] (arr (nameF l)) := by
  refine pcall_run (noext _) body18 ?_
  have hle := (right_iff.mp hr).1
  have hro := ERight_ok (v := .vec 6 (l.map encN)) (.inr rfl) hn (by omega)
  rw [hr] at hro
  simp only [call_pure pure11 rfl hro, n18_0, n18_1, n18_2, n18_3, n18_4, n18_5, n18_6, n18_7, n18_8, n18_9, n18_10, n18_11, n18_12, n18_13, n18_14, n18_15, n18_16, n18_18, n18_19, n18_20, n18_21, n18_22, n18_23, n18_24, n18_25, n18_26, n18_27, n18_28, n18_29, n18_30, n18_31, n18_32, n18_34, n18_35, o18_1, o18_3, o18_6, o18_9, o18_14, o18_18, o18_26, o18_28, o18_30, o18_32, o18_34, res18, TT_3, TT_4, TT_5, TT_9, TT_21, TT_22, TT_25, TT_33, TT_35, TT_37, TT_39, TT_47, TT_52, TT_56, TT_59, TT_60, TT_62, TT_63, TT_65, TT_73, TT_77, TT_82, TT_84, bb, primP, primM, ev, evs, parts_, ofConst, bin, un, intBin, putA, enterT, Nat.reduceEqDiff, Nat.reduceAdd, Nat.reduceMul, Nat.reduceLeDiff, Nat.reduceLT, ↓reduceIte, reduceCtorEq, RunRes, resultsA, oneOf, AV.plain, AV.cells, AHeap.push, AHeap.set, AHeap.empty, fieldOf, loadA, storeA, BX.part, TK.isAgg, convA, builtinA, inertB, builtinP, buildA, fillA, splice, eqv, cellsEq, sizeT, adT, ldT, fwT, Nat.reduceBeqDiff, Nat.reduceBneDiff, Int.reduceBNe, Int.reduceBEq, Int.reduceEq, Int.reduceLT, Int.reduceLE, Int.reduceAdd, Int.reduceSub, Int.reduceMul, Int.reduceNeg, strBin, indexAddrA, elems, lenOf, chunk, List.reduceReplicate, Int.reduceToNat]
  refine en_all (by omega) (right_name hr) l.length 0 _ _ _ (by omega) ?_ ?_ ?_ ?_ ?_ (by omega) ?_ ?_
  all_goals simp only [upd_app, enterT, List.getElem?_cons_zero, Option.getD_some, Nat.reduceEqDiff, List.length_map, i64, ↓reduceIte]
  all_goals rfl
end Go.Proofs.Ytkedlkcknhinoaa.G

namespace Go.Proofs.Ytkedlkcknhinoaa.G
open Go.BX
set_option linter.unusedSimpArgs false
set_option linter.unusedVariables false
theorem get_at {s : Bytes} {p : Nat} {c : UInt8} (h : s[p]? = some c) : (⟨s.toArray⟩ : ByteArray).get! p = c := by
  show s.toArray[p]! = c
  obtain ⟨h1, h2⟩ := List.getElem?_eq_some_iff.mp h
  simp [h1, h2]
theorem dec_ascii {s : Bytes} {p : Nat} {c : UInt8} (h : s[p]? = some c) (hc : c.toNat < 128) : Utf8.decode ⟨s.toArray⟩ p = (c.toNat, 1) := by
  unfold Utf8.decode
  simp only [Nat.add_zero, get_at h]
  rw [if_pos hc]
theorem dec_high {s : Bytes} {p : Nat} {c : UInt8} (h : s[p]? = some c) (hc : 128 ≤ c.toNat) : 128 ≤ (Utf8.decode ⟨s.toArray⟩ p).1 := by
  unfold Utf8.decode
  simp only [Nat.add_zero, get_at h]
  rw [if_neg (by omega)]
  split
  · split
    · rename_i h; exact h
    · decide
  · split
    · split
      · rename_i h; simp only [ge_iff_le, Bool.and_eq_true, decide_eq_true_eq] at h; omega
      · decide
    · split
      · split
        · rename_i h; simp only [ge_iff_le, Bool.and_eq_true, decide_eq_true_eq] at h; omega
        · decide
      · decide
def lt (c : UInt8) : Bool := decide (97 ≤ (c.toNat : Int)) && decide ((c.toNat : Int) ≤ 122)
def letM (s : Bytes) (i : Nat) : Nat := i + ((s.drop i).takeWhile lt).length
def sp (c : UInt8) : Bool := c == 32
def blankM (s : Bytes) (i : Nat) : Nat := i + ((s.drop i).takeWhile sp).length
theorem letM_le {s : Bytes} {i : Nat} (h : i ≤ s.length) : i ≤ letM s i ∧ letM s i ≤ s.length := by
  unfold letM
  have := (List.takeWhile_sublist (l := s.drop i) lt).length_le
  rw [List.length_drop] at this
  omega
theorem blankM_le {s : Bytes} {i : Nat} (h : i ≤ s.length) : i ≤ blankM s i ∧ blankM s i ≤ s.length := by
  unfold blankM
  have := (List.takeWhile_sublist (l := s.drop i) sp).length_le
  rw [List.length_drop] at this
  omega
theorem tw_at {p : UInt8 → Bool} : ∀ {u : Bytes} {c : UInt8}, u[(u.takeWhile p).length]? = some c → p c = false
  | [], c, h => by simp at h
  | d :: u, c, h => by
    cases hd : p d with
    | true =>
      rw [List.takeWhile_cons_of_pos hd, List.length_cons, List.getElem?_cons_succ] at h
      exact tw_at h
    | false =>
      rw [List.takeWhile_cons_of_neg (by simp [hd]), List.length_nil, List.getElem?_cons_zero] at h
      cases h
      exact hd
theorem blankM_at {s : Bytes} {i : Nat} {c : UInt8} (h : s[blankM s i]? = some c) : c ≠ 32 := by
  unfold blankM at h
  rw [← List.getElem?_drop] at h
  have := tw_at h
  rintro rfl
  cases this
def PLt (s : Bytes) (i pos r : Nat) : Prop :=
  ∀ (T : Nat → AV) (h : Nat) (A : Nat → Blk), T 0 = .str s → T 1 = .int .i64 (i : Int) → T 10 = .ptr 0 0 0 0 → A 0 = .iter (s.drop i) pos →
    Run Cx 40 T [] none [.inLoop c40_7, .inBlock 0, .code c40_23] ⟨h, A⟩ (fun r0 H' => BX.freeze H' r0 = some (.int .i64 (r : Int)))
theorem plt_all {s : Bytes} {i : Nat} (hs : s.length ≤ 1000000) (hi : i ≤ s.length) : ∀ (j pos : Nat), pos + j = s.length - i → PLt s i pos (i + pos + (((s.drop i).drop pos).takeWhile lt).length)
  | 0, pos, hj => by
    intro T h A t0 t1 t10 a0
    rw [run_inLoop]
    have hl : ¬ pos < (s.drop i).length := by rw [List.length_drop]; omega
    rw [List.drop_of_length_le (by omega)]
    have e : i + pos = s.length := by omega
    simp only [t0, t1, t10, a0, hl, List.takeWhile_nil, List.length_nil, Nat.add_zero, e, lenOf, i64, run_exit_start, exit_here, exit_code, exit_inLoop, run_inBlock, rop_next, rop_range, n40_0, n40_1, n40_2, n40_3, n40_4, n40_5, n40_6, n40_7, n40_8, n40_9, n40_10, n40_11, n40_12, n40_13, n40_14, n40_15, n40_16, n40_17, n40_18, n40_19, n40_20, n40_21, n40_22, n40_23, n40_24, n40_25, o40_1, o40_4, o40_8, o40_15, o40_17, o40_20, o40_24, res40, TT_3, TT_4, TT_5, TT_9, TT_21, TT_22, TT_25, TT_33, TT_35, TT_37, TT_39, TT_47, TT_52, TT_56, TT_59, TT_60, TT_62, TT_63, TT_65, TT_73, TT_77, TT_82, TT_84, bb, primP, primM, ev, evs, parts_, ofConst, bin, un, intBin, putA, enterT, Nat.reduceEqDiff, Nat.reduceAdd, Nat.reduceMul, Nat.reduceLeDiff, Nat.reduceLT, ↓reduceIte, reduceCtorEq, RunRes, resultsA, oneOf, AV.plain, AV.cells, AHeap.push, AHeap.set, AHeap.empty, fieldOf, loadA, storeA, BX.part, TK.isAgg, convA, builtinA, inertB, builtinP, buildA, fillA, splice, eqv, cellsEq, sizeT, adT, ldT, fwT, Nat.reduceBeqDiff, Nat.reduceBneDiff, Int.reduceBNe, Int.reduceBEq, Int.reduceEq, Int.reduceLT, Int.reduceLE, Int.reduceAdd, Int.reduceSub, Int.reduceMul, Int.reduceNeg, strBin, indexAddrA, elems, lenOf, chunk, List.reduceReplicate, Int.reduceToNat]
  | j + 1, pos, hj => by
    intro T h A t0 t1 t10 a0
    rw [run_inLoop]
    have hl : pos < (s.drop i).length := by rw [List.length_drop]; omega
    have hd : (s.drop i).drop pos = (s.drop i)[pos] :: (s.drop i).drop (pos + 1) := List.drop_eq_getElem_cons hl
    have hg : (s.drop i)[pos]? = some (s.drop i)[pos] := List.getElem?_eq_getElem hl
    have w1 : IntKind.i64.wrap ((i : Int) + (pos : Int)) = ((i + pos : Nat) : Int) := by rw [wr64 (by omega) (by omega)]; omega
    generalize (s.drop i)[pos] = c at hd hg
    rw [hd]
    by_cases h128 : c.toNat < 128
    · have hdec := dec_ascii hg h128
      by_cases hlt : lt c = true
      · rw [List.takeWhile_cons_of_pos hlt, List.length_cons]
        unfold lt at hlt
        simp only [Bool.and_eq_true, decide_eq_true_eq] at hlt
        have c1 : ¬ (c.toNat : Int) < 97 := by omega
        have c2 : ¬ (122 : Int) < (c.toNat : Int) := by omega
        simp only [t0, t1, t10, a0, hl, hdec, c1, c2, lenOf, i64, run_exit_start, exit_here, exit_code, exit_inLoop, run_inBlock, rop_next, rop_range, n40_0, n40_1, n40_2, n40_3, n40_4, n40_5, n40_6, n40_7, n40_8, n40_9, n40_10, n40_11, n40_12, n40_13, n40_14, n40_15, n40_16, n40_17, n40_18, n40_19, n40_20, n40_21, n40_22, n40_24, n40_25, o40_1, o40_4, o40_8, o40_15, o40_17, o40_20, o40_24, res40, TT_3, TT_4, TT_5, TT_9, TT_21, TT_22, TT_25, TT_33, TT_35, TT_37, TT_39, TT_47, TT_52, TT_56, TT_59, TT_60, TT_62, TT_63, TT_65, TT_73, TT_77, TT_82, TT_84, bb, primP, primM, ev, evs, parts_, ofConst, bin, un, intBin, putA, enterT, Nat.reduceEqDiff, Nat.reduceAdd, Nat.reduceMul, Nat.reduceLeDiff, Nat.reduceLT, ↓reduceIte, reduceCtorEq, RunRes, resultsA, oneOf, AV.plain, AV.cells, AHeap.push, AHeap.set, AHeap.empty, fieldOf, loadA, storeA, BX.part, TK.isAgg, convA, builtinA, inertB, builtinP, buildA, fillA, splice, eqv, cellsEq, sizeT, adT, ldT, fwT, Nat.reduceBeqDiff, Nat.reduceBneDiff, Int.reduceBNe, Int.reduceBEq, Int.reduceEq, Int.reduceLT, Int.reduceLE, Int.reduceAdd, Int.reduceSub, Int.reduceMul, Int.reduceNeg, strBin, indexAddrA, elems, lenOf, chunk, List.reduceReplicate, Int.reduceToNat]
        rw [show i + pos + ((((s.drop i).drop (pos + 1)).takeWhile lt).length + 1) = i + (pos + 1) + (((s.drop i).drop (pos + 1)).takeWhile lt).length by omega]
        refine plt_all hs hi j (pos + 1) (by omega) _ _ _ ?_ ?_ ?_ ?_
        all_goals simp only [upd_app, t0, t1, t10, Nat.reduceEqDiff, ↓reduceIte]
      · rw [List.takeWhile_cons_of_neg hlt, List.length_nil, Nat.add_zero]
        unfold lt at hlt
        by_cases c1 : (c.toNat : Int) < 97
        · simp only [t0, t1, t10, a0, hl, hdec, c1, w1, lenOf, i64, run_exit_start, exit_here, exit_code, exit_inLoop, run_inBlock, rop_next, rop_range, n40_0, n40_1, n40_2, n40_3, n40_4, n40_5, n40_6, n40_7, n40_8, n40_9, n40_10, n40_11, n40_12, n40_13, n40_14, n40_15, n40_16, n40_17, n40_18, n40_19, n40_20, n40_21, n40_22, n40_24, n40_25, o40_1, o40_4, o40_8, o40_15, o40_17, o40_20, o40_24, res40, TT_3, TT_4, TT_5, TT_9, TT_21, TT_22, TT_25, TT_33, TT_35, TT_37, TT_39, TT_47, TT_52, TT_56, TT_59, TT_60, TT_62, TT_63, TT_65, TT_73, TT_77, TT_82, TT_84, bb, primP, primM, ev, evs, parts_, ofConst, bin, un, intBin, putA, enterT, Nat.reduceEqDiff, Nat.reduceAdd, Nat.reduceMul, Nat.reduceLeDiff, Nat.reduceLT, ↓reduceIte, reduceCtorEq, RunRes, resultsA, oneOf, AV.plain, AV.cells, AHeap.push, AHeap.set, AHeap.empty, fieldOf, loadA, storeA, BX.part, TK.isAgg, convA, builtinA, inertB, builtinP, buildA, fillA, splice, eqv, cellsEq, sizeT, adT, ldT, fwT, Nat.reduceBeqDiff, Nat.reduceBneDiff, Int.reduceBNe, Int.reduceBEq, Int.reduceEq, Int.reduceLT, Int.reduceLE, Int.reduceAdd, Int.reduceSub, Int.reduceMul, Int.reduceNeg, strBin, indexAddrA, elems, lenOf, chunk, List.reduceReplicate, Int.reduceToNat]
        · have c2 : (122 : Int) < (c.toNat : Int) := by
            simp only [Bool.and_eq_true, decide_eq_true_eq] at hlt
            omega
          simp only [t0, t1, t10, a0, hl, hdec, c1, c2, w1, lenOf, i64, run_exit_start, exit_here, exit_code, exit_inLoop, run_inBlock, rop_next, rop_range, n40_0, n40_1, n40_2, n40_3, n40_4, n40_5, n40_6, n40_7, n40_8, n40_9, n40_10, n40_11, n40_12, n40_13, n40_14, n40_15, n40_16, n40_17, n40_18, n40_19, n40_20, n40_21, n40_22, n40_24, n40_25, o40_1, o40_4, o40_8, o40_15, o40_17, o40_20, o40_24, res40, TT_3, TT_4, TT_5, TT_9, TT_21, TT_22, TT_25, TT_33, TT_35, TT_37, TT_39, TT_47, TT_52, TT_56, TT_59, TT_60, TT_62, TT_63, TT_65, TT_73, TT_77, TT_82, TT_84, bb, primP, primM, ev, evs, parts_, ofConst, bin, un, intBin, putA, enterT, Nat.reduceEqDiff, Nat.reduceAdd, Nat.reduceMul, Nat.reduceLeDiff, Nat.reduceLT, ↓reduceIte, reduceCtorEq, RunRes, resultsA, oneOf, AV.plain, AV.cells, AHeap.push, AHeap.set, AHeap.empty, fieldOf, loadA, storeA, BX.part, TK.isAgg, convA, builtinA, inertB, builtinP, buildA, fillA, splice, eqv, cellsEq, sizeT, adT, ldT, fwT, Nat.reduceBeqDiff, Nat.reduceBneDiff, Int.reduceBNe, Int.reduceBEq, Int.reduceEq, Int.reduceLT, Int.reduceLE, Int.reduceAdd, Int.reduceSub, Int.reduceMul, Int.reduceNeg, strBin, indexAddrA, elems, lenOf, chunk, List.reduceReplicate, Int.reduceToNat]
    · have hdec := dec_high hg (by omega)
      have hlt : ¬ lt c = true := by
        unfold lt
        simp only [Bool.and_eq_true, decide_eq_true_eq]
        omega
      rw [List.takeWhile_cons_of_neg hlt, List.length_nil, Nat.add_zero]
      have c1 : ¬ ((Utf8.decode ⟨(s.drop i).toArray⟩ pos).1 : Int) < 97 := by omega
      have c2 : (122 : Int) < ((Utf8.decode ⟨(s.drop i).toArray⟩ pos).1 : Int) := by omega
      simp only [t0, t1, t10, a0, hl, c1, c2, w1, lenOf, i64, run_exit_start, exit_here, exit_code, exit_inLoop, run_inBlock, rop_next, rop_range, n40_0, n40_1, n40_2, n40_3, n40_4, n40_5, n40_6, n40_7, n40_8, n40_9, n40_10, n40_11, n40_12, n40_13, n40_14, n40_15, n40_16, n40_17, n40_18, n40_19, n40_20, n40_21, n40_22, n40_24, n40_25, o40_1, o40_4, o40_8, o40_15, o40_17, o40_20, o40_24, res40, TT_3, TT_4, TT_5, TT_9, TT_21, TT_22, TT_25, TT_33, TT_35, TT_37, TT_39, TT_47, TT_52, TT_56, TT_59, TT_60, TT_62, TT_63, TT_65, TT_73, TT_77, TT_82, TT_84, bb, primP, primM, ev, evs, parts_, ofConst, bin, un, intBin, putA, enterT, Nat.reduceEqDiff, Nat.reduceAdd, Nat.reduceMul, Nat.reduceLeDiff, Nat.reduceLT, ↓reduceIte, reduceCtorEq, RunRes, resultsA, oneOf, AV.plain, AV.cells, AHeap.push, AHeap.set, AHeap.empty, fieldOf, loadA, storeA, BX.part, TK.isAgg, convA, builtinA, inertB, builtinP, buildA, fillA, splice, eqv, cellsEq, sizeT, adT, ldT, fwT, Nat.reduceBeqDiff, Nat.reduceBneDiff, Int.reduceBNe, Int.reduceBEq, Int.reduceEq, Int.reduceLT, Int.reduceLE, Int.reduceAdd, Int.reduceSub, Int.reduceMul, Int.reduceNeg, strBin, indexAddrA, elems, lenOf, chunk, List.reduceReplicate, Int.reduceToNat]
theorem slice_from {s : Bytes} {i : Nat} (h : i ≤ s.length) : sliceA Cx 9 (.str s) (some (.int .i64 (i : Int))) none none = some (.str (s.drop i)) := by
  unfold sliceA
  rw [TT_9]
  simp only [bnds, bound]
  rw [if_pos (by omega)]
  simp
theorem letters_ok {s : Bytes} {i : Nat} (hs : s.length ≤ 1000000) (hi : i ≤ s.length) : PCall Cx 40 [.str s, .int .i64 (i : Int)] (.int .i64 (letM s i : Int)) := by
  refine pcall_run (noext _) body40 ?_
  have hsl := slice_from hi
  simp only [evo, hsl, rop_next, rop_range, n40_0, n40_1, n40_2, n40_3, n40_4, n40_5, n40_6, n40_8, n40_9, n40_10, n40_11, n40_12, n40_13, n40_14, n40_15, n40_16, n40_17, n40_18, n40_19, n40_20, n40_21, n40_22, n40_24, n40_25, o40_1, o40_4, o40_8, o40_15, o40_17, o40_20, o40_24, res40, TT_3, TT_4, TT_5, TT_9, TT_21, TT_22, TT_25, TT_33, TT_35, TT_37, TT_39, TT_47, TT_52, TT_56, TT_59, TT_60, TT_62, TT_63, TT_65, TT_73, TT_77, TT_82, TT_84, bb, primP, primM, ev, evs, parts_, ofConst, bin, un, intBin, putA, enterT, Nat.reduceEqDiff, Nat.reduceAdd, Nat.reduceMul, Nat.reduceLeDiff, Nat.reduceLT, ↓reduceIte, reduceCtorEq, RunRes, resultsA, oneOf, AV.plain, AV.cells, AHeap.push, AHeap.set, AHeap.empty, fieldOf, loadA, storeA, BX.part, TK.isAgg, convA, builtinA, inertB, builtinP, buildA, fillA, splice, eqv, cellsEq, sizeT, adT, ldT, fwT, Nat.reduceBeqDiff, Nat.reduceBneDiff, Int.reduceBNe, Int.reduceBEq, Int.reduceEq, Int.reduceLT, Int.reduceLE, Int.reduceAdd, Int.reduceSub, Int.reduceMul, Int.reduceNeg, strBin, indexAddrA, elems, lenOf, chunk, List.reduceReplicate, Int.reduceToNat]
  have := plt_all hs hi (s.length - i) 0 (by omega)
  rw [List.drop_zero, Nat.add_zero] at this
  refine this _ _ _ ?_ ?_ ?_ ?_
  all_goals simp only [upd_app, enterT, List.getElem?_cons_zero, List.getElem?_cons_succ, Option.getD_some, Nat.reduceEqDiff, ↓reduceIte]
  all_goals rfl
def PBl (s : Bytes) (i r : Nat) : Prop :=
  ∀ (T : Nat → AV) (H : AHeap), T 0 = .str s → T 1 = .int .i64 (i : Int) →
    Run Cx 29 T [] none [.inLoop c29_5, .inBlock 0, .code c29_13] H (fun r0 H' => BX.freeze H' r0 = some (.int .i64 (r : Int)))
theorem pbl_all {s : Bytes} (hs : s.length ≤ 1000000) : ∀ (j i : Nat), i + j = s.length → PBl s i (i + ((s.drop i).takeWhile sp).length)
  | 0, i, hj => by
    intro T H t0 t1
    rw [run_inLoop]
    have hl : ¬ (i : Int) < (s.length : Int) := by omega
    rw [List.drop_of_length_le (by omega)]
    simp only [t0, t1, hl, List.takeWhile_nil, List.length_nil, Nat.add_zero, lenOf, i64, run_exit_start, exit_here, exit_code, exit_inLoop, run_inBlock, n29_0, n29_1, n29_2, n29_3, n29_4, n29_5, n29_6, n29_7, n29_8, n29_9, n29_10, n29_11, n29_12, n29_13, n29_14, n29_15, o29_1, o29_7, o29_12, o29_14, res29, TT_3, TT_4, TT_5, TT_9, TT_21, TT_22, TT_25, TT_33, TT_35, TT_37, TT_39, TT_47, TT_52, TT_56, TT_59, TT_60, TT_62, TT_63, TT_65, TT_73, TT_77, TT_82, TT_84, bb, primP, primM, ev, evs, parts_, ofConst, bin, un, intBin, putA, enterT, Nat.reduceEqDiff, Nat.reduceAdd, Nat.reduceMul, Nat.reduceLeDiff, Nat.reduceLT, ↓reduceIte, reduceCtorEq, RunRes, resultsA, oneOf, AV.plain, AV.cells, AHeap.push, AHeap.set, AHeap.empty, fieldOf, loadA, storeA, BX.part, TK.isAgg, convA, builtinA, inertB, builtinP, buildA, fillA, splice, eqv, cellsEq, sizeT, adT, ldT, fwT, Nat.reduceBeqDiff, Nat.reduceBneDiff, Int.reduceBNe, Int.reduceBEq, Int.reduceEq, Int.reduceLT, Int.reduceLE, Int.reduceAdd, Int.reduceSub, Int.reduceMul, Int.reduceNeg, strBin, indexAddrA, elems, lenOf, chunk, List.reduceReplicate, Int.reduceToNat]
  | j + 1, i, hj => by
    intro T H t0 t1
    rw [run_inLoop]
    have hi : i < s.length := by omega
    have hl : (i : Int) < (s.length : Int) := by omega
    have p0 : (0 : Int) ≤ (i : Int) := by omega
    have hd : s.drop i = s[i] :: s.drop (i + 1) := List.drop_eq_getElem_cons hi
    have hg : s[i]? = some s[i] := List.getElem?_eq_getElem hi
    have w1 : IntKind.i64.wrap ((i : Int) + 1) = ((i + 1 : Nat) : Int) := by rw [wr64 (by omega) (by omega)]; omega
    generalize s[i] = c at hd hg
    rw [hd]
    by_cases hc : c = 32
    · subst hc
      have e : (((32 : UInt8).toNat : Int) == 32) = true := rfl
      rw [List.takeWhile_cons_of_pos (by rfl), List.length_cons]
      simp only [t0, t1, hl, p0, hg, e, w1, indexA, Int.toNat_natCast, lenOf, i64, run_exit_start, exit_here, exit_code, exit_inLoop, run_inBlock, n29_0, n29_1, n29_2, n29_3, n29_4, n29_5, n29_6, n29_7, n29_8, n29_9, n29_10, n29_11, n29_12, n29_14, n29_15, o29_1, o29_7, o29_12, o29_14, res29, TT_3, TT_4, TT_5, TT_9, TT_21, TT_22, TT_25, TT_33, TT_35, TT_37, TT_39, TT_47, TT_52, TT_56, TT_59, TT_60, TT_62, TT_63, TT_65, TT_73, TT_77, TT_82, TT_84, bb, primP, primM, ev, evs, parts_, ofConst, bin, un, intBin, putA, enterT, Nat.reduceEqDiff, Nat.reduceAdd, Nat.reduceMul, Nat.reduceLeDiff, Nat.reduceLT, ↓reduceIte, reduceCtorEq, RunRes, resultsA, oneOf, AV.plain, AV.cells, AHeap.push, AHeap.set, AHeap.empty, fieldOf, loadA, storeA, BX.part, TK.isAgg, convA, builtinA, inertB, builtinP, buildA, fillA, splice, eqv, cellsEq, sizeT, adT, ldT, fwT, Nat.reduceBeqDiff, Nat.reduceBneDiff, Int.reduceBNe, Int.reduceBEq, Int.reduceEq, Int.reduceLT, Int.reduceLE, Int.reduceAdd, Int.reduceSub, Int.reduceMul, Int.reduceNeg, strBin, indexAddrA, elems, lenOf, chunk, List.reduceReplicate, Int.reduceToNat]
      rw [show i + (((s.drop (i + 1)).takeWhile sp).length + 1) = i + 1 + ((s.drop (i + 1)).takeWhile sp).length by omega]
      refine pbl_all hs j (i + 1) (by omega) _ _ ?_ ?_
      all_goals simp only [upd_app, t0, Nat.reduceEqDiff, ↓reduceIte]
    · have e : ((c.toNat : Int) == 32) = false := u8_ne (n := 32) (by decide) hc
      rw [List.takeWhile_cons_of_neg (by unfold sp; simpa using hc), List.length_nil, Nat.add_zero]
      simp only [t0, t1, hl, p0, hg, e, indexA, Int.toNat_natCast, lenOf, i64, run_exit_start, exit_here, exit_code, exit_inLoop, run_inBlock, n29_0, n29_1, n29_2, n29_3, n29_4, n29_5, n29_6, n29_7, n29_8, n29_9, n29_10, n29_11, n29_12, n29_13, n29_14, n29_15, o29_1, o29_7, o29_12, o29_14, res29, TT_3, TT_4, TT_5, TT_9, TT_21, TT_22, TT_25, TT_33, TT_35, TT_37, TT_39, TT_47, TT_52, TT_56, TT_59, TT_60, TT_62, TT_63, TT_65, TT_73, TT_77, TT_82, TT_84, bb, primP, primM, ev, evs, parts_, ofConst, bin, un, intBin, putA, enterT, Nat.reduceEqDiff, Nat.reduceAdd, Nat.reduceMul, Nat.reduceLeDiff, Nat.reduceLT, ↓reduceIte, reduceCtorEq, RunRes, resultsA, oneOf, AV.plain, AV.cells, AHeap.push, AHeap.set, AHeap.empty, fieldOf, loadA, storeA, BX.part, TK.isAgg, convA, builtinA, inertB, builtinP, buildA, fillA, splice, eqv, cellsEq, sizeT, adT, ldT, fwT, Nat.reduceBeqDiff, Nat.reduceBneDiff, Int.reduceBNe, Int.reduceBEq, Int.reduceEq, Int.reduceLT, Int.reduceLE, Int.reduceAdd, Int.reduceSub, Int.reduceMul, Int.reduceNeg, strBin, indexAddrA, elems, lenOf, chunk, List.reduceReplicate, Int.reduceToNat]
theorem blanks_ok {s : Bytes} {i : Nat} (hs : s.length ≤ 1000000) (hi : i ≤ s.length) : PCall Cx 29 [.str s, .int .i64 (i : Int)] (.int .i64 (blankM s i : Int)) := by
  refine pcall_run (noext _) body29 ?_
  simp only [n29_0, n29_1, n29_2, n29_3, n29_4, n29_6, n29_7, n29_8, n29_9, n29_10, n29_11, n29_12, n29_14, n29_15, o29_1, o29_7, o29_12, o29_14, res29, TT_3, TT_4, TT_5, TT_9, TT_21, TT_22, TT_25, TT_33, TT_35, TT_37, TT_39, TT_47, TT_52, TT_56, TT_59, TT_60, TT_62, TT_63, TT_65, TT_73, TT_77, TT_82, TT_84, bb, primP, primM, ev, evs, parts_, ofConst, bin, un, intBin, putA, enterT, Nat.reduceEqDiff, Nat.reduceAdd, Nat.reduceMul, Nat.reduceLeDiff, Nat.reduceLT, ↓reduceIte, reduceCtorEq, RunRes, resultsA, oneOf, AV.plain, AV.cells, AHeap.push, AHeap.set, AHeap.empty, fieldOf, loadA, storeA, BX.part, TK.isAgg, convA, builtinA, inertB, builtinP, buildA, fillA, splice, eqv, cellsEq, sizeT, adT, ldT, fwT, Nat.reduceBeqDiff, Nat.reduceBneDiff, Int.reduceBNe, Int.reduceBEq, Int.reduceEq, Int.reduceLT, Int.reduceLE, Int.reduceAdd, Int.reduceSub, Int.reduceMul, Int.reduceNeg, strBin, indexAddrA, elems, lenOf, chunk, List.reduceReplicate, Int.reduceToNat]
  refine pbl_all hs (s.length - i) i (by omega) _ _ ?_ ?_
  all_goals simp only [upd_app, enterT, List.getElem?_cons_zero, List.getElem?_cons_succ, Option.getD_some, Nat.reduceEqDiff, ↓reduceIte]
  all_goals rfl
end Go.Proofs.Ytkedlkcknhinoaa.G

namespace Go.Proofs.Ytkedlkcknhinoaa.G
open Go.BX
set_option linter.unusedSimpArgs false
set_option linter.unusedVariables false
theorem slice_mid {s : Bytes} {i k : Nat} (h : i ≤ k) (h2 : k ≤ s.length) : sliceA Cx 9 (.str s) (some (.int .i64 (i : Int))) (some (.int .i64 (k : Int))) none = some (.str ((s.drop i).take (k - i))) := by
  unfold sliceA
  rw [TT_9]
  simp only [bnds, bound]
  rw [if_pos (by omega)]
  simp only [Int.toNat_natCast]
  rw [if_pos (by omega)]
  simp only [Option.map_some, Int.toNat_natCast, List.drop_take]
def idxB (w : Bytes) : List Bytes → Nat → Int
  | [], _ => -1
  | b :: l, k => if b = w then (k : Int) else idxB w l (k + 1)
def wordsL : List Bytes := ops.map (·.1)
def kindI (w : Bytes) : Int := idxB w wordsL 0
def nameL : List Bytes := [[107, 101, 121], [118, 97, 108], [97, 99, 99], [105], [105, 116]]
def nameI (w : Bytes) : Int := idxB w nameL 0
theorem idxB_cases (w : Bytes) : ∀ (l : List Bytes) (k : Nat), idxB w l k = -1 ∧ w ∉ l ∨ ∃ j, j < l.length ∧ l[j]? = some w ∧ idxB w l k = ((k + j : Nat) : Int)
  | [], k => .inl ⟨rfl, by simp⟩
  | b :: l, k => by
    unfold idxB
    by_cases h : b = w
    · rw [if_pos h]
      exact .inr ⟨0, by simp, by simp [h], rfl⟩
    · rw [if_neg h]
      rcases idxB_cases w l (k + 1) with ⟨h1, h2⟩ | ⟨j, h1, h2, h3⟩
      · exact .inl ⟨h1, by simp [h2]; exact fun e => h e.symm⟩
      · exact .inr ⟨j + 1, by simpa using h1, by simpa using h2, by rw [h3]; omega⟩
def PNx (ls : List Bytes) (w : Bytes) (i : Nat) (r : Int) : Prop :=
  ∀ (T : Nat → AV) (H : AHeap), T 0 = .vec 1 (ls.map fun b => [AV.str b]) → T 1 = .str w → T 7 = .int .i64 (ls.length : Int) → T 8 = .int .i64 (i : Int) →
    Run Cx 43 T [] none [.inLoop c43_7, .inBlock 0, .code c43_25] H (fun r0 H' => BX.freeze H' r0 = some (.int .i64 r))
theorem pnx_all {ls : List Bytes} {w : Bytes} (hl : ls.length ≤ 1000) : ∀ (j i : Nat), i + j = ls.length → PNx ls w i (idxB w (ls.drop i) i)
  | 0, i, hj => by
    intro T H t0 t1 t7 t8
    rw [run_inLoop]
    have c0 : ¬ (i : Int) < (ls.length : Int) := by omega
    rw [List.drop_of_length_le (by omega)]
    have e : idxB w [] i = -1 := rfl
    rw [e]
    simp only [t0, t1, t7, t8, c0, lenOf, i64, run_exit_start, exit_here, exit_code, exit_inLoop, run_inBlock, n43_0, n43_1, n43_2, n43_3, n43_4, n43_5, n43_6, n43_7, n43_8, n43_9, n43_10, n43_11, n43_12, n43_13, n43_14, n43_15, n43_16, n43_17, n43_18, n43_19, n43_20, n43_21, n43_22, n43_23, n43_24, n43_25, n43_26, n43_27, o43_1, o43_4, o43_8, o43_16, o43_18, o43_21, o43_24, o43_26, res43, TT_3, TT_4, TT_5, TT_9, TT_21, TT_22, TT_25, TT_33, TT_35, TT_37, TT_39, TT_47, TT_52, TT_56, TT_59, TT_60, TT_62, TT_63, TT_65, TT_73, TT_77, TT_82, TT_84, bb, primP, primM, ev, evs, parts_, ofConst, bin, un, intBin, putA, enterT, Nat.reduceEqDiff, Nat.reduceAdd, Nat.reduceMul, Nat.reduceLeDiff, Nat.reduceLT, ↓reduceIte, reduceCtorEq, RunRes, resultsA, oneOf, AV.plain, AV.cells, AHeap.push, AHeap.set, AHeap.empty, fieldOf, loadA, storeA, BX.part, TK.isAgg, convA, builtinA, inertB, builtinP, buildA, fillA, splice, eqv, cellsEq, sizeT, adT, ldT, fwT, Nat.reduceBeqDiff, Nat.reduceBneDiff, Int.reduceBNe, Int.reduceBEq, Int.reduceEq, Int.reduceLT, Int.reduceLE, Int.reduceAdd, Int.reduceSub, Int.reduceMul, Int.reduceNeg, strBin, indexAddrA, elems, lenOf, chunk, List.reduceReplicate, Int.reduceToNat]
  | j + 1, i, hj => by
    intro T H t0 t1 t7 t8
    rw [run_inLoop]
    have hi : i < ls.length := by omega
    have c0 : (i : Int) < (ls.length : Int) := by omega
    have p0 : (0 : Int) ≤ (i : Int) := by omega
    have l0 : (i : Int) < ((ls.map fun b => [AV.str b]).length : Int) := by rw [List.length_map]; omega
    have g0 : (ls.map fun b => [AV.str b])[i]? = some [AV.str ls[i]] := by rw [List.getElem?_map, List.getElem?_eq_getElem hi]; rfl
    have hd : ls.drop i = ls[i] :: ls.drop (i + 1) := List.drop_eq_getElem_cons hi
    have w1 : IntKind.i64.wrap ((i : Int) + 1) = ((i + 1 : Nat) : Int) := by rw [wr64 (by omega) (by omega)]; omega
    rw [hd]
    unfold idxB
    by_cases hw : ls[i] = w
    · have e : (w == ls[i]) = true := by simp [hw]
      rw [if_pos hw]
      simp only [t0, t1, t7, t8, c0, p0, l0, g0, e, lenOf, i64, Int.toNat_natCast, run_exit_start, exit_here, exit_code, exit_inLoop, run_inBlock, n43_0, n43_1, n43_2, n43_3, n43_4, n43_5, n43_6, n43_7, n43_8, n43_9, n43_10, n43_11, n43_12, n43_13, n43_14, n43_15, n43_16, n43_17, n43_18, n43_19, n43_20, n43_21, n43_22, n43_23, n43_24, n43_25, n43_26, n43_27, o43_1, o43_4, o43_8, o43_16, o43_18, o43_21, o43_24, o43_26, res43, TT_3, TT_4, TT_5, TT_9, TT_21, TT_22, TT_25, TT_33, TT_35, TT_37, TT_39, TT_47, TT_52, TT_56, TT_59, TT_60, TT_62, TT_63, TT_65, TT_73, TT_77, TT_82, TT_84, bb, primP, primM, ev, evs, parts_, ofConst, bin, un, intBin, putA, enterT, Nat.reduceEqDiff, Nat.reduceAdd, Nat.reduceMul, Nat.reduceLeDiff, Nat.reduceLT, ↓reduceIte, reduceCtorEq, RunRes, resultsA, oneOf, AV.plain, AV.cells, AHeap.push, AHeap.set, AHeap.empty, fieldOf, loadA, storeA, BX.part, TK.isAgg, convA, builtinA, inertB, builtinP, buildA, fillA, splice, eqv, cellsEq, sizeT, adT, ldT, fwT, Nat.reduceBeqDiff, Nat.reduceBneDiff, Int.reduceBNe, Int.reduceBEq, Int.reduceEq, Int.reduceLT, Int.reduceLE, Int.reduceAdd, Int.reduceSub, Int.reduceMul, Int.reduceNeg, strBin, indexAddrA, elems, lenOf, chunk, List.reduceReplicate, Int.reduceToNat]
    · have e : (w == ls[i]) = false := by simp; exact fun e => hw e.symm
      rw [if_neg hw]
      simp only [t0, t1, t7, t8, c0, p0, l0, g0, e, w1, lenOf, i64, Int.toNat_natCast, run_exit_start, exit_here, exit_code, exit_inLoop, run_inBlock, n43_0, n43_1, n43_2, n43_3, n43_4, n43_5, n43_6, n43_7, n43_8, n43_9, n43_10, n43_11, n43_12, n43_13, n43_14, n43_15, n43_16, n43_17, n43_18, n43_19, n43_20, n43_21, n43_22, n43_23, n43_24, n43_26, n43_27, o43_1, o43_4, o43_8, o43_16, o43_18, o43_21, o43_24, o43_26, res43, TT_3, TT_4, TT_5, TT_9, TT_21, TT_22, TT_25, TT_33, TT_35, TT_37, TT_39, TT_47, TT_52, TT_56, TT_59, TT_60, TT_62, TT_63, TT_65, TT_73, TT_77, TT_82, TT_84, bb, primP, primM, ev, evs, parts_, ofConst, bin, un, intBin, putA, enterT, Nat.reduceEqDiff, Nat.reduceAdd, Nat.reduceMul, Nat.reduceLeDiff, Nat.reduceLT, ↓reduceIte, reduceCtorEq, RunRes, resultsA, oneOf, AV.plain, AV.cells, AHeap.push, AHeap.set, AHeap.empty, fieldOf, loadA, storeA, BX.part, TK.isAgg, convA, builtinA, inertB, builtinP, buildA, fillA, splice, eqv, cellsEq, sizeT, adT, ldT, fwT, Nat.reduceBeqDiff, Nat.reduceBneDiff, Int.reduceBNe, Int.reduceBEq, Int.reduceEq, Int.reduceLT, Int.reduceLE, Int.reduceAdd, Int.reduceSub, Int.reduceMul, Int.reduceNeg, strBin, indexAddrA, elems, lenOf, chunk, List.reduceReplicate, Int.reduceToNat]
      refine pnx_all hl j (i + 1) (by omega) _ _ ?_ ?_ ?_ ?_
      all_goals simp only [upd_app, t0, t1, t7, Nat.reduceEqDiff, ↓reduceIte]
theorem nameI_ok (w : Bytes) : PCall Cx 43 [.vec 1 [[.str [107, 101, 121]], [.str [118, 97, 108]], [.str [97, 99, 99]], [.str [105]], [.str [105, 116]]], .str w] (.int .i64 (nameI w)) := by
  refine pcall_run (noext _) body43 ?_
  simp only [lenOf, i64, n43_0, n43_1, n43_2, n43_3, n43_4, n43_5, n43_6, n43_8, n43_9, n43_10, n43_11, n43_12, n43_13, n43_14, n43_15, n43_16, n43_17, n43_18, n43_19, n43_20, n43_21, n43_22, n43_23, n43_24, n43_26, n43_27, o43_1, o43_4, o43_8, o43_16, o43_18, o43_21, o43_24, o43_26, res43, TT_3, TT_4, TT_5, TT_9, TT_21, TT_22, TT_25, TT_33, TT_35, TT_37, TT_39, TT_47, TT_52, TT_56, TT_59, TT_60, TT_62, TT_63, TT_65, TT_73, TT_77, TT_82, TT_84, bb, primP, primM, ev, evs, parts_, ofConst, bin, un, intBin, putA, enterT, Nat.reduceEqDiff, Nat.reduceAdd, Nat.reduceMul, Nat.reduceLeDiff, Nat.reduceLT, ↓reduceIte, reduceCtorEq, RunRes, resultsA, oneOf, AV.plain, AV.cells, AHeap.push, AHeap.set, AHeap.empty, fieldOf, loadA, storeA, BX.part, TK.isAgg, convA, builtinA, inertB, builtinP, buildA, fillA, splice, eqv, cellsEq, sizeT, adT, ldT, fwT, Nat.reduceBeqDiff, Nat.reduceBneDiff, Int.reduceBNe, Int.reduceBEq, Int.reduceEq, Int.reduceLT, Int.reduceLE, Int.reduceAdd, Int.reduceSub, Int.reduceMul, Int.reduceNeg, strBin, indexAddrA, elems, lenOf, chunk, List.reduceReplicate, Int.reduceToNat]
  refine pnx_all (ls := nameL) (w := w) (by decide) 5 0 rfl _ _ ?_ ?_ ?_ ?_
  all_goals simp only [upd_app, enterT, List.getElem?_cons_zero, List.getElem?_cons_succ, Option.getD_some, Nat.reduceEqDiff, ↓reduceIte]
  all_goals rfl
section
variable {fn : FuncId} {T : Nat → AV} {ds : List ADef} {ro : Option Nat} {k : List AItem} {Q : AV → AHeap → Prop} {dst : Option Nat} {os : List AO}
structure Cap (s : Bytes) (i m : Nat) (n : Nat) (A : Nat → Blk) : Prop where
  lt : 4 ≤ n
  s : A 0 = .cells 9 1 [[.str s]]
  i : A 1 = .cells 3 1 [[.int .i64 (i : Int)]]
  m : A 3 = .cells 3 1 [[.int .i64 (m : Int)]]
  r : A 2 = .cells 37 6 [[.int .i64 0, .int .i64 0, .int .i64 0, .str [], .int .i64 0, .int .i64 0]]
theorem closure_call {s : Bytes} {i m n : Nat} {A : Nat → Blk} {b : Bytes} {p : Int} (h : Cap s i m n A) (hi : i ≤ m) (hm : m ≤ s.length)
    (hk : RunOps Cx fn (putA T dst (.bool (b == (s.drop i).take (m - i)))) ds ro os k ⟨n + 1, upd A n (.cells 59 2 [[.str b, .int .i64 p]])⟩ Q) :
    RunCall Cx fn T ds ro 42 [.agg [.str b, .int .i64 p], .ptr 0 1 0 0, .ptr 1 1 0 0, .ptr 3 1 0 0] dst os k ⟨n, A⟩ Q := by
  refine call_body pure42 (noext _) body42 ?_
  obtain ⟨h4, a0, a1, a3, a2⟩ := h
  have e0 : (0 = n) = False := eq_false (by omega)
  have e1 : (1 = n) = False := eq_false (by omega)
  have e3 : (3 = n) = False := eq_false (by omega)
  have hsl := slice_mid hi hm
  simp only [a0, a1, a3, e0, e1, e3, evo, hsl, n42_0, n42_1, n42_2, n42_3, n42_4, o42_1, o42_3, res42, TT_3, TT_4, TT_5, TT_9, TT_21, TT_22, TT_25, TT_33, TT_35, TT_37, TT_39, TT_47, TT_52, TT_56, TT_59, TT_60, TT_62, TT_63, TT_65, TT_73, TT_77, TT_82, TT_84, bb, primP, primM, ev, evs, parts_, ofConst, bin, un, intBin, putA, enterT, Nat.reduceEqDiff, Nat.reduceAdd, Nat.reduceMul, Nat.reduceLeDiff, Nat.reduceLT, ↓reduceIte, reduceCtorEq, RunRes, resultsA, oneOf, AV.plain, AV.cells, AHeap.push, AHeap.set, AHeap.empty, fieldOf, loadA, storeA, BX.part, TK.isAgg, convA, builtinA, inertB, builtinP, buildA, fillA, splice, eqv, cellsEq, sizeT, adT, ldT, fwT, Nat.reduceBeqDiff, Nat.reduceBneDiff, Int.reduceBNe, Int.reduceBEq, Int.reduceEq, Int.reduceLT, Int.reduceLE, Int.reduceAdd, Int.reduceSub, Int.reduceMul, Int.reduceNeg, strBin, indexAddrA, elems, lenOf, chunk, List.reduceReplicate, Int.reduceToNat]
  exact hk
end
end Go.Proofs.Ytkedlkcknhinoaa.G

