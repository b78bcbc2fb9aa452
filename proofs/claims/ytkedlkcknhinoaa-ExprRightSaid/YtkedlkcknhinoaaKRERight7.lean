import Derived.Test.YtkedlkcknhinoaaKRERight6
import Derived.Test.YtkedlkcknhinoaaKRERight2
import Derived.WalkKit
import Derived.ProofKit
import Derived.OpenShut
import Derived.ShutString
import Derived.ChangeOld
import Derived.Below
import Derived.DataReads
import Derived.ChangeArms
import Derived.Test.YtkedlkcknhinoaaKRERight5
import Derived.Test.YtkedlkcknhinoaaKRERight3
namespace Go.Proofs.Ytkedlkcknhinoaa.G
open Go.BX
set_option linter.unusedSimpArgs false
set_option linter.unusedVariables false
theorem Cap.new {s : Bytes} {i m n : Nat} {A : Nat → Blk} (h : Cap s i m n A) (x : Blk) : Cap s i m (n + 1) (upd A n x) := by
  obtain ⟨h4, a0, a1, a3, a2⟩ := h
  exact ⟨by omega, by rw [upd_app, if_neg (by omega)]; exact a0, by rw [upd_app, if_neg (by omega)]; exact a1, by rw [upd_app, if_neg (by omega)]; exact a3, by rw [upd_app, if_neg (by omega)]; exact a2⟩
theorem idxB_map_drop (w : Bytes) {i : Nat} (hi : i < ops.length) : idxB w (wordsL.drop i) i = if (ops[i]).1 = w then (i : Int) else idxB w (wordsL.drop (i + 1)) (i + 1) := by
  have hl : i < wordsL.length := by unfold wordsL; rw [List.length_map]; exact hi
  have hd : wordsL.drop i = wordsL[i] :: wordsL.drop (i + 1) := List.drop_eq_getElem_cons hl
  have he : wordsL[i] = (ops[i]).1 := by simp [wordsL] <;> rfl
  rw [hd, he]
  rfl
theorem pif_all {s : Bytes} {k m : Nat} (hkm : k ≤ m) (hm : m ≤ s.length) {n0 : Nat} {Q : AV → AHeap → Prop} {w : Bytes} (hw : w = (s.drop k).take (m - k)) (hQ : ∀ n A, Cap s k m n A → Q (.int .i64 (kindI w)) ⟨n, A⟩) :
    ∀ (j i : Nat) (T : Nat → AV) (n : Nat) (A : Nat → Blk), i + j = 28 → Cap s k m n A → idxB w (wordsL.drop i) i = kindI w → T 0 = .vec 2 (ops.map encK) → T 1 = .fn 42 [] [.ptr 0 1 0 0, .ptr 1 1 0 0, .ptr 3 1 0 0] → T 7 = .int .i64 28 → T 8 = .int .i64 (i : Int) →
      Run Cx 41 T [] none [.inLoop c41_7, .inBlock 0, .code c41_25] ⟨n, A⟩ Q
  | 0, i, T, n, A, hj, hc, hx, t0, t1, t7, t8 => by
    rw [run_inLoop]
    have c0 : ¬ (i : Int) < 28 := by omega
    have e : kindI w = -1 := by
      rw [← hx, List.drop_of_length_le (by show 28 ≤ i; omega)]
      rfl
    have := hQ n A hc
    rw [e] at this
    simp only [t0, t1, t7, t8, c0, lenOf, i64, run_exit_start, exit_here, exit_code, exit_inLoop, run_inBlock, n41_0, n41_1, n41_2, n41_3, n41_4, n41_5, n41_6, n41_7, n41_8, n41_9, n41_10, n41_11, n41_12, n41_13, n41_14, n41_15, n41_16, n41_17, n41_18, n41_19, n41_20, n41_21, n41_22, n41_23, n41_24, n41_25, n41_26, n41_27, o41_1, o41_4, o41_8, o41_16, o41_18, o41_21, o41_24, o41_26, res41, TT_3, TT_4, TT_5, TT_9, TT_21, TT_22, TT_25, TT_33, TT_35, TT_37, TT_39, TT_47, TT_52, TT_56, TT_59, TT_60, TT_62, TT_63, TT_65, TT_73, TT_77, TT_82, TT_84, bb, primP, primM, ev, evs, parts_, ofConst, bin, un, intBin, putA, enterT, Nat.reduceEqDiff, Nat.reduceAdd, Nat.reduceMul, Nat.reduceLeDiff, Nat.reduceLT, ↓reduceIte, reduceCtorEq, RunRes, resultsA, oneOf, AV.plain, AV.cells, AHeap.push, AHeap.set, AHeap.empty, fieldOf, loadA, storeA, BX.part, TK.isAgg, convA, builtinA, inertB, builtinP, buildA, fillA, splice, eqv, cellsEq, sizeT, adT, ldT, fwT, Nat.reduceBeqDiff, Nat.reduceBneDiff, Int.reduceBNe, Int.reduceBEq, Int.reduceEq, Int.reduceLT, Int.reduceLE, Int.reduceAdd, Int.reduceSub, Int.reduceMul, Int.reduceNeg, strBin, indexAddrA, elems, lenOf, chunk, List.reduceReplicate, Int.reduceToNat]
    exact this
  | j + 1, i, T, n, A, hj, hc, hx, t0, t1, t7, t8 => by
    rw [run_inLoop]
    have hi : i < ops.length := by rw [ops_len]; omega
    have c0 : (i : Int) < 28 := by omega
    have p0 : (0 : Int) ≤ (i : Int) := by omega
    have l0 : (i : Int) < ((ops.map encK).length : Int) := by rw [List.length_map, ops_len]; omega
    have g0 := kinds_get hi
    have w1 : IntKind.i64.wrap ((i : Int) + 1) = ((i + 1 : Nat) : Int) := by rw [wr64 (by omega) (by omega)]; omega
    rw [idxB_map_drop w hi] at hx
    simp only [t0, t1, t7, t8, c0, p0, l0, g0, rop_callC, runA_fn, lenOf, i64, Int.toNat_natCast, List.nil_append, List.cons_append, run_exit_start, exit_here, exit_code, exit_inLoop, run_inBlock, n41_0, n41_1, n41_2, n41_3, n41_4, n41_5, n41_6, n41_7, n41_8, n41_9, n41_10, n41_11, n41_12, n41_13, n41_14, n41_15, n41_16, n41_17, n41_18, n41_19, n41_20, n41_21, n41_22, n41_23, n41_24, n41_26, n41_27, o41_1, o41_4, o41_8, o41_16, o41_18, o41_21, o41_24, o41_26, res41, TT_3, TT_4, TT_5, TT_9, TT_21, TT_22, TT_25, TT_33, TT_35, TT_37, TT_39, TT_47, TT_52, TT_56, TT_59, TT_60, TT_62, TT_63, TT_65, TT_73, TT_77, TT_82, TT_84, bb, primP, primM, ev, evs, parts_, ofConst, bin, un, intBin, putA, enterT, Nat.reduceEqDiff, Nat.reduceAdd, Nat.reduceMul, Nat.reduceLeDiff, Nat.reduceLT, ↓reduceIte, reduceCtorEq, RunRes, resultsA, oneOf, AV.plain, AV.cells, AHeap.push, AHeap.set, AHeap.empty, fieldOf, loadA, storeA, BX.part, TK.isAgg, convA, builtinA, inertB, builtinP, buildA, fillA, splice, eqv, cellsEq, sizeT, adT, ldT, fwT, Nat.reduceBeqDiff, Nat.reduceBneDiff, Int.reduceBNe, Int.reduceBEq, Int.reduceEq, Int.reduceLT, Int.reduceLE, Int.reduceAdd, Int.reduceSub, Int.reduceMul, Int.reduceNeg, strBin, indexAddrA, elems, lenOf, chunk, List.reduceReplicate, Int.reduceToNat]
    refine closure_call hc hkm hm ?_
    rw [← hw]
    by_cases he : (ops[i]).1 = w
    · have e : ((ops[i]).1 == w) = true := by simp [he]
      rw [if_pos he] at hx
      have := hQ _ _ (hc.new (.cells 59 2 [[.str (ops[i]).1, .int .i64 ((ops[i]).2 : Int)]]))
      rw [← hx] at this
      simp only [e, lenOf, i64, run_exit_start, exit_here, exit_code, exit_inLoop, run_inBlock, n41_0, n41_1, n41_2, n41_3, n41_4, n41_5, n41_6, n41_7, n41_8, n41_9, n41_10, n41_11, n41_12, n41_13, n41_14, n41_15, n41_16, n41_17, n41_18, n41_19, n41_20, n41_21, n41_22, n41_23, n41_24, n41_25, n41_26, n41_27, o41_1, o41_4, o41_8, o41_16, o41_18, o41_21, o41_24, o41_26, res41, TT_3, TT_4, TT_5, TT_9, TT_21, TT_22, TT_25, TT_33, TT_35, TT_37, TT_39, TT_47, TT_52, TT_56, TT_59, TT_60, TT_62, TT_63, TT_65, TT_73, TT_77, TT_82, TT_84, bb, primP, primM, ev, evs, parts_, ofConst, bin, un, intBin, putA, enterT, Nat.reduceEqDiff, Nat.reduceAdd, Nat.reduceMul, Nat.reduceLeDiff, Nat.reduceLT, ↓reduceIte, reduceCtorEq, RunRes, resultsA, oneOf, AV.plain, AV.cells, AHeap.push, AHeap.set, AHeap.empty, fieldOf, loadA, storeA, BX.part, TK.isAgg, convA, builtinA, inertB, builtinP, buildA, fillA, splice, eqv, cellsEq, sizeT, adT, ldT, fwT, Nat.reduceBeqDiff, Nat.reduceBneDiff, Int.reduceBNe, Int.reduceBEq, Int.reduceEq, Int.reduceLT, Int.reduceLE, Int.reduceAdd, Int.reduceSub, Int.reduceMul, Int.reduceNeg, strBin, indexAddrA, elems, lenOf, chunk, List.reduceReplicate, Int.reduceToNat]
      exact this
    · have e : ((ops[i]).1 == w) = false := by simp [he]
      rw [if_neg he] at hx
      simp only [e, t0, t1, t7, t8, w1, lenOf, i64, run_exit_start, exit_here, exit_code, exit_inLoop, run_inBlock, n41_0, n41_1, n41_2, n41_3, n41_4, n41_5, n41_6, n41_7, n41_8, n41_9, n41_10, n41_11, n41_12, n41_13, n41_14, n41_15, n41_16, n41_17, n41_18, n41_19, n41_20, n41_21, n41_22, n41_23, n41_24, n41_26, n41_27, o41_1, o41_4, o41_8, o41_16, o41_18, o41_21, o41_24, o41_26, res41, TT_3, TT_4, TT_5, TT_9, TT_21, TT_22, TT_25, TT_33, TT_35, TT_37, TT_39, TT_47, TT_52, TT_56, TT_59, TT_60, TT_62, TT_63, TT_65, TT_73, TT_77, TT_82, TT_84, bb, primP, primM, ev, evs, parts_, ofConst, bin, un, intBin, putA, enterT, Nat.reduceEqDiff, Nat.reduceAdd, Nat.reduceMul, Nat.reduceLeDiff, Nat.reduceLT, ↓reduceIte, reduceCtorEq, RunRes, resultsA, oneOf, AV.plain, AV.cells, AHeap.push, AHeap.set, AHeap.empty, fieldOf, loadA, storeA, BX.part, TK.isAgg, convA, builtinA, inertB, builtinP, buildA, fillA, splice, eqv, cellsEq, sizeT, adT, ldT, fwT, Nat.reduceBeqDiff, Nat.reduceBneDiff, Int.reduceBNe, Int.reduceBEq, Int.reduceEq, Int.reduceLT, Int.reduceLE, Int.reduceAdd, Int.reduceSub, Int.reduceMul, Int.reduceNeg, strBin, indexAddrA, elems, lenOf, chunk, List.reduceReplicate, Int.reduceToNat]
      refine pif_all hkm hm (n0 := n0) hw hQ j (i + 1) _ _ _ (by omega) (hc.new _) hx ?_ ?_ ?_ ?_
      all_goals simp only [upd_app, t0, t1, t7, Nat.reduceEqDiff, ↓reduceIte]
theorem IndexFunc_call {fn : FuncId} {T : Nat → AV} {ds : List ADef} {ro : Option Nat} {kk : List AItem} {Q : AV → AHeap → Prop} {dst : Option Nat} {os : List AO} {s : Bytes} {k m n : Nat} {A : Nat → Blk} (h : Cap s k m n A) (hkm : k ≤ m) (hm : m ≤ s.length)
    (hk : ∀ n' A', Cap s k m n' A' → RunOps Cx fn (putA T dst (.int .i64 (kindI ((s.drop k).take (m - k))))) ds ro os kk ⟨n', A'⟩ Q) :
    RunCall Cx fn T ds ro 41 [.vec 2 (ops.map encK), .fn 42 [] [.ptr 0 1 0 0, .ptr 1 1 0 0, .ptr 3 1 0 0]] dst os kk ⟨n, A⟩ Q := by
  refine call_body pure41 (noext _) body41 ?_
  have hlen : ((ops.map encK).length : Int) = 28 := by rw [List.length_map, ops_len]; rfl
  simp only [lenOf, i64, hlen, n41_0, n41_1, n41_2, n41_3, n41_4, n41_5, n41_6, n41_8, n41_9, n41_10, n41_11, n41_12, n41_13, n41_14, n41_15, n41_16, n41_17, n41_18, n41_19, n41_20, n41_21, n41_22, n41_23, n41_24, n41_26, n41_27, o41_1, o41_4, o41_8, o41_16, o41_18, o41_21, o41_24, o41_26, res41, TT_3, TT_4, TT_5, TT_9, TT_21, TT_22, TT_25, TT_33, TT_35, TT_37, TT_39, TT_47, TT_52, TT_56, TT_59, TT_60, TT_62, TT_63, TT_65, TT_73, TT_77, TT_82, TT_84, bb, primP, primM, ev, evs, parts_, ofConst, bin, un, intBin, putA, enterT, Nat.reduceEqDiff, Nat.reduceAdd, Nat.reduceMul, Nat.reduceLeDiff, Nat.reduceLT, ↓reduceIte, reduceCtorEq, RunRes, resultsA, oneOf, AV.plain, AV.cells, AHeap.push, AHeap.set, AHeap.empty, fieldOf, loadA, storeA, BX.part, TK.isAgg, convA, builtinA, inertB, builtinP, buildA, fillA, splice, eqv, cellsEq, sizeT, adT, ldT, fwT, Nat.reduceBeqDiff, Nat.reduceBneDiff, Int.reduceBNe, Int.reduceBEq, Int.reduceEq, Int.reduceLT, Int.reduceLE, Int.reduceAdd, Int.reduceSub, Int.reduceMul, Int.reduceNeg, strBin, indexAddrA, elems, lenOf, chunk, List.reduceReplicate, Int.reduceToNat]
  refine pif_all hkm hm (n0 := 0) rfl (fun n' A' h' => hk n' A' h') 28 0 _ n A rfl h rfl ?_ ?_ ?_ ?_
  all_goals simp only [upd_app, enterT, List.getElem?_cons_zero, List.getElem?_cons_succ, Option.getD_some, Nat.reduceEqDiff, ↓reduceIte]
  all_goals rfl
def wordAt (s : Bytes) (i : Nat) : Bytes := (s.drop i).takeWhile lt
theorem take_tw (p : UInt8 → Bool) : ∀ u : Bytes, u.take (u.takeWhile p).length = u.takeWhile p
  | [] => rfl
  | c :: u => by
    cases h : p c with
    | true => rw [List.takeWhile_cons_of_pos h, List.length_cons, List.take_succ_cons, take_tw p u]
    | false => rw [List.takeWhile_cons_of_neg (by simp [h])]; rfl
theorem wordAt_eq (s : Bytes) (i : Nat) : (s.drop i).take (letM s i - i) = wordAt s i := by
  unfold letM wordAt
  rw [show i + ((s.drop i).takeWhile lt).length - i = ((s.drop i).takeWhile lt).length by omega, take_tw]
def ndO (op : Int) : Nd := ⟨op, ⟨0, 0, [], 0, 0⟩⟩
def toAN : Except Int (Nd × Nat) → Nat → AV
  | .ok (n, k), _ => .tuple [ndA n, .int .i64 (k : Int), .int .i64 0, .int .i64 0]
  | .error e, i => .tuple [ndA (ndO 0), .int .i64 0, .int .i64 (i : Int), .int .i64 e]
def openX (s : Bytes) (i : Nat) : Except Int (Nd × Nat) := if kindI (wordAt s i) < 0 then .error 10 else .ok (ndO (kindI (wordAt s i) + 2), letM s i)
theorem kindI_rng (w : Bytes) : -1 ≤ kindI w ∧ kindI w < 28 := by
  unfold kindI
  rcases idxB_cases w wordsL 0 with ⟨h, _⟩ | ⟨j, h1, _, h3⟩
  · rw [h]; decide
  · have : wordsL.length = 28 := rfl
    rw [h3]; omega
theorem opened_ok {s : Bytes} {i : Nat} (hs : s.length ≤ 1000000) (hi : i ≤ s.length) : PCall Cx 30 [.str s, .int .i64 (i : Int)] (toAN (openX s i) i) := by
  refine pcall_run (noext _) body30 ?_
  have hl := letters_ok hs hi
  have hle := letM_le hi
  simp only [evo, call_pure pure40 rfl hl, call_pure pure25 rfl kinds_ok, n30_0, n30_1, n30_2, n30_3, n30_4, n30_5, n30_7, n30_8, n30_9, n30_10, n30_11, n30_12, n30_13, n30_14, n30_15, n30_16, o30_1, o30_3, o30_5, o30_8, o30_11, o30_15, res30, TT_3, TT_4, TT_5, TT_9, TT_21, TT_22, TT_25, TT_33, TT_35, TT_37, TT_39, TT_47, TT_52, TT_56, TT_59, TT_60, TT_62, TT_63, TT_65, TT_73, TT_77, TT_82, TT_84, bb, primP, primM, ev, evs, parts_, ofConst, bin, un, intBin, putA, enterT, Nat.reduceEqDiff, Nat.reduceAdd, Nat.reduceMul, Nat.reduceLeDiff, Nat.reduceLT, ↓reduceIte, reduceCtorEq, RunRes, resultsA, oneOf, AV.plain, AV.cells, AHeap.push, AHeap.set, AHeap.empty, fieldOf, loadA, storeA, BX.part, TK.isAgg, convA, builtinA, inertB, builtinP, buildA, fillA, splice, eqv, cellsEq, sizeT, adT, ldT, fwT, Nat.reduceBeqDiff, Nat.reduceBneDiff, Int.reduceBNe, Int.reduceBEq, Int.reduceEq, Int.reduceLT, Int.reduceLE, Int.reduceAdd, Int.reduceSub, Int.reduceMul, Int.reduceNeg, strBin, indexAddrA, elems, lenOf, chunk, List.reduceReplicate, Int.reduceToNat]
  refine IndexFunc_call (m := letM s i) ⟨by omega, ?_, ?_, ?_, ?_⟩ hle.1 hle.2 ?_
  · simp only [upd_app, Nat.reduceEqDiff, ↓reduceIte]
  · simp only [upd_app, Nat.reduceEqDiff, ↓reduceIte]
  · simp only [upd_app, Nat.reduceEqDiff, ↓reduceIte]
  · simp only [upd_app, Nat.reduceEqDiff, ↓reduceIte]
  intro n' A' hc
  rw [wordAt_eq]
  obtain ⟨h4, a0, a1, a3, a2⟩ := hc
  have hr := kindI_rng (wordAt s i)
  unfold openX
  generalize kindI (wordAt s i) = x at hr
  have e02 : ((1 : Nat) = 2) = False := by simp
  by_cases hx : x < 0
  · rw [if_pos hx]
    unfold toAN ndA ndO
    simp only [hx, a0, a1, a2, a3, n30_0, n30_1, n30_2, n30_3, n30_4, n30_5, n30_6, n30_7, n30_8, n30_9, n30_10, n30_11, n30_12, n30_13, n30_14, n30_15, n30_16, o30_1, o30_3, o30_5, o30_8, o30_11, o30_15, res30, TT_3, TT_4, TT_5, TT_9, TT_21, TT_22, TT_25, TT_33, TT_35, TT_37, TT_39, TT_47, TT_52, TT_56, TT_59, TT_60, TT_62, TT_63, TT_65, TT_73, TT_77, TT_82, TT_84, bb, primP, primM, ev, evs, parts_, ofConst, bin, un, intBin, putA, enterT, Nat.reduceEqDiff, Nat.reduceAdd, Nat.reduceMul, Nat.reduceLeDiff, Nat.reduceLT, ↓reduceIte, reduceCtorEq, RunRes, resultsA, oneOf, AV.plain, AV.cells, AHeap.push, AHeap.set, AHeap.empty, fieldOf, loadA, storeA, BX.part, TK.isAgg, convA, builtinA, inertB, builtinP, buildA, fillA, splice, eqv, cellsEq, sizeT, adT, ldT, fwT, Nat.reduceBeqDiff, Nat.reduceBneDiff, Int.reduceBNe, Int.reduceBEq, Int.reduceEq, Int.reduceLT, Int.reduceLE, Int.reduceAdd, Int.reduceSub, Int.reduceMul, Int.reduceNeg, strBin, indexAddrA, elems, lenOf, chunk, List.reduceReplicate, Int.reduceToNat]
  · rw [if_neg hx]
    unfold toAN ndA ndO
    have w1 : IntKind.i64.wrap (x + 1) = x + 1 := wr64 (by omega) (by omega)
    have w2 : IntKind.i64.wrap (x + 1 + 1) = x + 2 := by rw [wr64 (by omega) (by omega)]; omega
    simp only [hx, a0, a1, a2, a3, w1, w2, n30_0, n30_1, n30_2, n30_3, n30_4, n30_5, n30_6, n30_7, n30_8, n30_9, n30_10, n30_11, n30_12, n30_13, n30_14, n30_15, n30_16, o30_1, o30_3, o30_5, o30_8, o30_11, o30_15, res30, TT_3, TT_4, TT_5, TT_9, TT_21, TT_22, TT_25, TT_33, TT_35, TT_37, TT_39, TT_47, TT_52, TT_56, TT_59, TT_60, TT_62, TT_63, TT_65, TT_73, TT_77, TT_82, TT_84, bb, primP, primM, ev, evs, parts_, ofConst, bin, un, intBin, putA, enterT, Nat.reduceEqDiff, Nat.reduceAdd, Nat.reduceMul, Nat.reduceLeDiff, Nat.reduceLT, ↓reduceIte, reduceCtorEq, RunRes, resultsA, oneOf, AV.plain, AV.cells, AHeap.push, AHeap.set, AHeap.empty, fieldOf, loadA, storeA, BX.part, TK.isAgg, convA, builtinA, inertB, builtinP, buildA, fillA, splice, eqv, cellsEq, sizeT, adT, ldT, fwT, Nat.reduceBeqDiff, Nat.reduceBneDiff, Int.reduceBNe, Int.reduceBEq, Int.reduceEq, Int.reduceLT, Int.reduceLE, Int.reduceAdd, Int.reduceSub, Int.reduceMul, Int.reduceNeg, strBin, indexAddrA, elems, lenOf, chunk, List.reduceReplicate, Int.reduceToNat]
def singleX (s : Bytes) (i : Nat) (c : UInt8) : Except Int (Nd × Nat) :=
  if lt c then (if nameI (wordAt s i) < 0 then .error 10 else .ok (⟨1, ⟨0, nameI (wordAt s i), [], 0, 0⟩⟩, letM s i))
  else match parseX (s.drop i) with
    | .error e => .error e
    | .ok (v, n) => .ok (⟨0, v⟩, i + n)
theorem nameI_rng (w : Bytes) : -1 ≤ nameI w ∧ nameI w < 5 := by
  unfold nameI
  rcases idxB_cases w nameL 0 with ⟨h, _⟩ | ⟨j, h1, _, h3⟩
  · rw [h]; decide
  · have : nameL.length = 5 := rfl
    rw [h3]; omega
theorem single_ok {s : Bytes} {i : Nat} {c : UInt8} (hs : s.length ≤ 1000000) (hc : s[i]? = some c) : PCall Cx 31 [.str s, .int .i64 (i : Int)] (toAN (singleX s i c) i) := by
  have hi : i < s.length := (List.getElem?_eq_some_iff.mp hc).1
  refine pcall_run (noext _) body31 ?_
  have hl := letters_ok hs (i := i) (by omega)
  have hle := letM_le (s := s) (i := i) (by omega)
  have p0 : (0 : Int) ≤ (i : Int) := by omega
  have hsl := slice_mid hle.1 hle.2
  rw [wordAt_eq] at hsl
  have hsf := slice_from (s := s) (i := i) (by omega)
  have hn := nameI_ok (wordAt s i)
  have hr := nameI_rng (wordAt s i)
  have hp := Parse_gen (s := s.drop i) (by rw [List.length_drop]; omega)
  unfold singleX
  cases hlt : lt c with
  | true =>
    rw [if_pos rfl]
    unfold lt at hlt
    simp only [Bool.and_eq_true, decide_eq_true_eq] at hlt
    obtain ⟨h1, h2⟩ := hlt
    generalize nameI (wordAt s i) = x at hr hn
    by_cases hx : x < 0
    · rw [if_pos hx]
      unfold toAN ndA ndO
      simp only [h1, h2, p0, hc, hx, evo, hsl, indexA, Int.toNat_natCast, call_pure pure40 rfl hl, call_pure pure38 rfl names_ok, call_pure pure43 rfl hn, n31_0, n31_1, n31_2, n31_3, n31_4, n31_5, n31_6, n31_7, n31_8, n31_9, n31_10, n31_11, n31_12, n31_13, n31_14, n31_15, n31_16, n31_17, n31_18, n31_19, n31_20, n31_21, n31_22, n31_23, n31_24, n31_25, n31_26, n31_27, n31_28, n31_29, n31_30, n31_31, n31_32, n31_33, n31_34, n31_35, n31_36, o31_1, o31_4, o31_6, o31_9, o31_11, o31_14, o31_17, o31_21, o31_25, o31_28, o31_31, o31_35, res31, TT_3, TT_4, TT_5, TT_9, TT_21, TT_22, TT_25, TT_33, TT_35, TT_37, TT_39, TT_47, TT_52, TT_56, TT_59, TT_60, TT_62, TT_63, TT_65, TT_73, TT_77, TT_82, TT_84, bb, primP, primM, ev, evs, parts_, ofConst, bin, un, intBin, putA, enterT, Nat.reduceEqDiff, Nat.reduceAdd, Nat.reduceMul, Nat.reduceLeDiff, Nat.reduceLT, ↓reduceIte, reduceCtorEq, RunRes, resultsA, oneOf, AV.plain, AV.cells, AHeap.push, AHeap.set, AHeap.empty, fieldOf, loadA, storeA, BX.part, TK.isAgg, convA, builtinA, inertB, builtinP, buildA, fillA, splice, eqv, cellsEq, sizeT, adT, ldT, fwT, Nat.reduceBeqDiff, Nat.reduceBneDiff, Int.reduceBNe, Int.reduceBEq, Int.reduceEq, Int.reduceLT, Int.reduceLE, Int.reduceAdd, Int.reduceSub, Int.reduceMul, Int.reduceNeg, strBin, indexAddrA, elems, lenOf, chunk, List.reduceReplicate, Int.reduceToNat]
    · rw [if_neg hx]
      unfold toAN ndA
      simp only [h1, h2, p0, hc, hx, evo, hsl, indexA, Int.toNat_natCast, call_pure pure40 rfl hl, call_pure pure38 rfl names_ok, call_pure pure43 rfl hn, n31_0, n31_1, n31_2, n31_3, n31_4, n31_5, n31_6, n31_7, n31_8, n31_9, n31_10, n31_11, n31_12, n31_13, n31_14, n31_15, n31_16, n31_17, n31_18, n31_19, n31_20, n31_21, n31_22, n31_23, n31_24, n31_25, n31_26, n31_27, n31_28, n31_29, n31_30, n31_31, n31_32, n31_33, n31_34, n31_35, n31_36, o31_1, o31_4, o31_6, o31_9, o31_11, o31_14, o31_17, o31_21, o31_25, o31_28, o31_31, o31_35, res31, TT_3, TT_4, TT_5, TT_9, TT_21, TT_22, TT_25, TT_33, TT_35, TT_37, TT_39, TT_47, TT_52, TT_56, TT_59, TT_60, TT_62, TT_63, TT_65, TT_73, TT_77, TT_82, TT_84, bb, primP, primM, ev, evs, parts_, ofConst, bin, un, intBin, putA, enterT, Nat.reduceEqDiff, Nat.reduceAdd, Nat.reduceMul, Nat.reduceLeDiff, Nat.reduceLT, ↓reduceIte, reduceCtorEq, RunRes, resultsA, oneOf, AV.plain, AV.cells, AHeap.push, AHeap.set, AHeap.empty, fieldOf, loadA, storeA, BX.part, TK.isAgg, convA, builtinA, inertB, builtinP, buildA, fillA, splice, eqv, cellsEq, sizeT, adT, ldT, fwT, Nat.reduceBeqDiff, Nat.reduceBneDiff, Int.reduceBNe, Int.reduceBEq, Int.reduceEq, Int.reduceLT, Int.reduceLE, Int.reduceAdd, Int.reduceSub, Int.reduceMul, Int.reduceNeg, strBin, indexAddrA, elems, lenOf, chunk, List.reduceReplicate, Int.reduceToNat]
  | false =>
    simp only [Bool.false_eq_true, if_false]
    by_cases h1 : 97 ≤ (c.toNat : Int)
    · have h2 : ¬ (c.toNat : Int) ≤ 122 := by
        unfold lt at hlt
        simp [h1] at hlt
        omega
      cases hpx : parseX (s.drop i) with
      | error e =>
        rw [hpx] at hp
        have he := parseX_err hpx
        have e0 : (e != 0) = true := by rcases he with rfl | rfl | rfl | rfl | rfl <;> rfl
        unfold toAN ndA ndO
        unfold toAV val at hp
        simp only [h1, h2, p0, hc, e0, evo, hsf, indexA, Int.toNat_natCast, call_pure pure44 rfl hp, n31_0, n31_1, n31_2, n31_3, n31_4, n31_5, n31_6, n31_7, n31_8, n31_9, n31_10, n31_11, n31_12, n31_13, n31_14, n31_15, n31_16, n31_17, n31_18, n31_19, n31_20, n31_21, n31_22, n31_23, n31_24, n31_25, n31_26, n31_27, n31_28, n31_29, n31_30, n31_31, n31_32, n31_33, n31_34, n31_35, n31_36, o31_1, o31_4, o31_6, o31_9, o31_11, o31_14, o31_17, o31_21, o31_25, o31_28, o31_31, o31_35, res31, TT_3, TT_4, TT_5, TT_9, TT_21, TT_22, TT_25, TT_33, TT_35, TT_37, TT_39, TT_47, TT_52, TT_56, TT_59, TT_60, TT_62, TT_63, TT_65, TT_73, TT_77, TT_82, TT_84, bb, primP, primM, ev, evs, parts_, ofConst, bin, un, intBin, putA, enterT, Nat.reduceEqDiff, Nat.reduceAdd, Nat.reduceMul, Nat.reduceLeDiff, Nat.reduceLT, ↓reduceIte, reduceCtorEq, RunRes, resultsA, oneOf, AV.plain, AV.cells, AHeap.push, AHeap.set, AHeap.empty, fieldOf, loadA, storeA, BX.part, TK.isAgg, convA, builtinA, inertB, builtinP, buildA, fillA, splice, eqv, cellsEq, sizeT, adT, ldT, fwT, Nat.reduceBeqDiff, Nat.reduceBneDiff, Int.reduceBNe, Int.reduceBEq, Int.reduceEq, Int.reduceLT, Int.reduceLE, Int.reduceAdd, Int.reduceSub, Int.reduceMul, Int.reduceNeg, strBin, indexAddrA, elems, lenOf, chunk, List.reduceReplicate, Int.reduceToNat]
      | ok vn =>
        obtain ⟨v, n⟩ := vn
        rw [hpx] at hp
        have hok := parseX_ok hpx
        rw [List.length_drop] at hok
        have w1 : IntKind.i64.wrap ((i : Int) + (n : Int)) = ((i + n : Nat) : Int) := by rw [wr64 (by omega) (by omega)]; omega
        unfold toAN ndA
        unfold toAV valA at hp
        simp only [h1, h2, p0, hc, w1, bne_self_eq_false, evo, hsf, indexA, Int.toNat_natCast, call_pure pure44 rfl hp, n31_0, n31_1, n31_2, n31_3, n31_4, n31_5, n31_6, n31_7, n31_8, n31_9, n31_10, n31_11, n31_12, n31_13, n31_14, n31_15, n31_16, n31_17, n31_18, n31_19, n31_20, n31_21, n31_22, n31_23, n31_24, n31_25, n31_26, n31_27, n31_28, n31_29, n31_30, n31_31, n31_32, n31_33, n31_34, n31_35, n31_36, o31_1, o31_4, o31_6, o31_9, o31_11, o31_14, o31_17, o31_21, o31_25, o31_28, o31_31, o31_35, res31, TT_3, TT_4, TT_5, TT_9, TT_21, TT_22, TT_25, TT_33, TT_35, TT_37, TT_39, TT_47, TT_52, TT_56, TT_59, TT_60, TT_62, TT_63, TT_65, TT_73, TT_77, TT_82, TT_84, bb, primP, primM, ev, evs, parts_, ofConst, bin, un, intBin, putA, enterT, Nat.reduceEqDiff, Nat.reduceAdd, Nat.reduceMul, Nat.reduceLeDiff, Nat.reduceLT, ↓reduceIte, reduceCtorEq, RunRes, resultsA, oneOf, AV.plain, AV.cells, AHeap.push, AHeap.set, AHeap.empty, fieldOf, loadA, storeA, BX.part, TK.isAgg, convA, builtinA, inertB, builtinP, buildA, fillA, splice, eqv, cellsEq, sizeT, adT, ldT, fwT, Nat.reduceBeqDiff, Nat.reduceBneDiff, Int.reduceBNe, Int.reduceBEq, Int.reduceEq, Int.reduceLT, Int.reduceLE, Int.reduceAdd, Int.reduceSub, Int.reduceMul, Int.reduceNeg, strBin, indexAddrA, elems, lenOf, chunk, List.reduceReplicate, Int.reduceToNat]
    · cases hpx : parseX (s.drop i) with
      | error e =>
        rw [hpx] at hp
        have he := parseX_err hpx
        have e0 : (e != 0) = true := by rcases he with rfl | rfl | rfl | rfl | rfl <;> rfl
        unfold toAN ndA ndO
        unfold toAV val at hp
        simp only [h1, p0, hc, e0, evo, hsf, indexA, Int.toNat_natCast, call_pure pure44 rfl hp, n31_0, n31_1, n31_2, n31_3, n31_4, n31_5, n31_6, n31_7, n31_8, n31_9, n31_10, n31_11, n31_12, n31_13, n31_14, n31_15, n31_16, n31_17, n31_18, n31_19, n31_20, n31_21, n31_22, n31_23, n31_24, n31_25, n31_26, n31_27, n31_28, n31_29, n31_30, n31_31, n31_32, n31_33, n31_34, n31_35, n31_36, o31_1, o31_4, o31_6, o31_9, o31_11, o31_14, o31_17, o31_21, o31_25, o31_28, o31_31, o31_35, res31, TT_3, TT_4, TT_5, TT_9, TT_21, TT_22, TT_25, TT_33, TT_35, TT_37, TT_39, TT_47, TT_52, TT_56, TT_59, TT_60, TT_62, TT_63, TT_65, TT_73, TT_77, TT_82, TT_84, bb, primP, primM, ev, evs, parts_, ofConst, bin, un, intBin, putA, enterT, Nat.reduceEqDiff, Nat.reduceAdd, Nat.reduceMul, Nat.reduceLeDiff, Nat.reduceLT, ↓reduceIte, reduceCtorEq, RunRes, resultsA, oneOf, AV.plain, AV.cells, AHeap.push, AHeap.set, AHeap.empty, fieldOf, loadA, storeA, BX.part, TK.isAgg, convA, builtinA, inertB, builtinP, buildA, fillA, splice, eqv, cellsEq, sizeT, adT, ldT, fwT, Nat.reduceBeqDiff, Nat.reduceBneDiff, Int.reduceBNe, Int.reduceBEq, Int.reduceEq, Int.reduceLT, Int.reduceLE, Int.reduceAdd, Int.reduceSub, Int.reduceMul, Int.reduceNeg, strBin, indexAddrA, elems, lenOf, chunk, List.reduceReplicate, Int.reduceToNat]
      | ok vn =>
        obtain ⟨v, n⟩ := vn
        rw [hpx] at hp
        have hok := parseX_ok hpx
        rw [List.length_drop] at hok
        have w1 : IntKind.i64.wrap ((i : Int) + (n : Int)) = ((i + n : Nat) : Int) := by rw [wr64 (by omega) (by omega)]; omega
        unfold toAN ndA
        unfold toAV valA at hp
        simp only [h1, p0, hc, w1, bne_self_eq_false, evo, hsf, indexA, Int.toNat_natCast, call_pure pure44 rfl hp, n31_0, n31_1, n31_2, n31_3, n31_4, n31_5, n31_6, n31_7, n31_8, n31_9, n31_10, n31_11, n31_12, n31_13, n31_14, n31_15, n31_16, n31_17, n31_18, n31_19, n31_20, n31_21, n31_22, n31_23, n31_24, n31_25, n31_26, n31_27, n31_28, n31_29, n31_30, n31_31, n31_32, n31_33, n31_34, n31_35, n31_36, o31_1, o31_4, o31_6, o31_9, o31_11, o31_14, o31_17, o31_21, o31_25, o31_28, o31_31, o31_35, res31, TT_3, TT_4, TT_5, TT_9, TT_21, TT_22, TT_25, TT_33, TT_35, TT_37, TT_39, TT_47, TT_52, TT_56, TT_59, TT_60, TT_62, TT_63, TT_65, TT_73, TT_77, TT_82, TT_84, bb, primP, primM, ev, evs, parts_, ofConst, bin, un, intBin, putA, enterT, Nat.reduceEqDiff, Nat.reduceAdd, Nat.reduceMul, Nat.reduceLeDiff, Nat.reduceLT, ↓reduceIte, reduceCtorEq, RunRes, resultsA, oneOf, AV.plain, AV.cells, AHeap.push, AHeap.set, AHeap.empty, fieldOf, loadA, storeA, BX.part, TK.isAgg, convA, builtinA, inertB, builtinP, buildA, fillA, splice, eqv, cellsEq, sizeT, adT, ldT, fwT, Nat.reduceBeqDiff, Nat.reduceBneDiff, Int.reduceBNe, Int.reduceBEq, Int.reduceEq, Int.reduceLT, Int.reduceLE, Int.reduceAdd, Int.reduceSub, Int.reduceMul, Int.reduceNeg, strBin, indexAddrA, elems, lenOf, chunk, List.reduceReplicate, Int.reduceToNat]
end Go.Proofs.Ytkedlkcknhinoaa.G

namespace Go.Proofs.Ytkedlkcknhinoaa.G
open Go.BX
set_option linter.unusedSimpArgs false
set_option linter.unusedVariables false
theorem BufN.keep {te n n' : Nat} {d : AV} {A A' : Nat → Blk} {acc : List Nd} (h : BufN te d n A acc) (hn : n ≤ n') (hk : ∀ c, c < n → (∃ es, A c = .cells te 6 es) → A' c = A c) : BufN te d n' A' acc := by
  rcases h with h | ⟨g, h1, h2, h3⟩
  · exact .inl h
  · exact .inr ⟨g, h1, by omega, by rw [hk g h2 ⟨_, h3⟩]; exact h3⟩
theorem BufN.app {n : Nat} {d : AV} {A : Nat → Blk} {acc : List Nd} (h : BufN 37 d n A acc) (hl : acc.length ≤ 100000) (row : Nd) :
    ∃ A', builtinM Cx ⟨n + 1, upd A n (.cells 37 6 [encN row])⟩ .append [25, 25] [d, .slc n 6 0 1] = some (.slc (n + 1) 6 0 (acc.length + 1), ⟨n + 1 + 1, A'⟩) ∧ BufN 37 (.slc (n + 1) 6 0 (acc.length + 1)) (n + 1 + 1) A' (acc ++ [row]) ∧ ∀ c, c < n → (∀ es, A c ≠ .cells 37 6 es) → A' c = A c := by
  rcases h with ⟨rfl, rfl⟩ | ⟨g, rfl, hg, hA⟩
  · refine ⟨_, app_nil nsl nti (show 56 ≤ most by decide), .inr ⟨n + 1, by simp, by omega, by simp [upd_app]⟩, fun c hc _ => ?_⟩
    rw [upd_app, if_neg (by omega), upd_app, if_neg (by omega)]
  · have hcl : (acc.map encN).length = acc.length := by rw [List.length_map]
    have ha := app_row (C := Cx) (g := g) (n := n) (A := A) (es := acc.map encN) (row := encN row) nsl nti hA (by omega) (by rw [hcl]; unfold most; omega) (by rw [hcl]; unfold most; omega)
    rw [hcl] at ha
    refine ⟨_, ha, .inr ⟨n + 1, by simp, by omega, by simp [upd_app]⟩, fun c hc hne => ?_⟩
    have : c ≠ g := by rintro rfl; exact hne _ hA
    rw [upd_app, if_neg (by omega), upd_app, if_neg this, upd_app, if_neg (by omega)]
theorem BufN.lenO {te n : Nat} {d : AV} {A : Nat → Blk} {acc : List Nd} (h : BufN te d n A acc) : lenOf d = some acc.length := by
  rcases h with ⟨rfl, rfl⟩ | ⟨g, rfl, _⟩ <;> rfl
theorem BufN.plain {te n : Nat} {d : AV} {A : Nat → Blk} {acc : List Nd} (h : BufN te d n A acc) : d.plain = true := by
  rcases h with ⟨rfl, rfl⟩ | ⟨g, rfl, _⟩ <;> rfl
def StO (n : Nat) (A : Nat → Blk) (v : AV) (st : List Nat) : Prop := (v = .nilS ∧ st = []) ∨ StB n A v st
theorem StO.lenO {n : Nat} {A : Nat → Blk} {v : AV} {st : List Nat} (h : StO n A v st) : lenOf v = some st.length := by
  rcases h with ⟨rfl, rfl⟩ | ⟨g, es, rfl, _⟩ <;> rfl
theorem StO.plain {n : Nat} {A : Nat → Blk} {v : AV} {st : List Nat} (h : StO n A v st) : v.plain = true := by
  rcases h with ⟨rfl, rfl⟩ | ⟨g, es, rfl, _⟩ <;> rfl
theorem StO.keep {n n' : Nat} {A A' : Nat → Blk} {v : AV} {st : List Nat} (h : StO n A v st) (hn : n ≤ n') (hk : ∀ c, c < n → (∃ es, A c = .cells 3 1 es) → A' c = A c) : StO n' A' v st := by
  rcases h with h | ⟨g, es, h1, h2, h3, h4, h5⟩
  · exact .inl h
  · exact .inr ⟨g, es, h1, by omega, by rw [hk g h2 ⟨_, h3⟩]; exact h3, h4, h5⟩
theorem StO.app {n : Nat} {v : AV} {A : Nat → Blk} {st : List Nat} (h : StO n A v st) (hl : st.length ≤ 100000) (t : Nat) :
    ∃ A', builtinM Cx ⟨n + 1, upd A n (.cells 3 1 [[.int .i64 (t : Int)]])⟩ .append [56, 56] [v, .slc n 1 0 1] = some (.slc (n + 1) 1 0 (st.length + 1), ⟨n + 1 + 1, A'⟩) ∧ StO (n + 1 + 1) A' (.slc (n + 1) 1 0 (st.length + 1)) (t :: st) ∧ ∀ c, c < n → (∀ es, A c ≠ .cells 3 1 es) → A' c = A c := by
  rcases h with ⟨rfl, rfl⟩ | ⟨g, es, rfl, hg, hA, ht, hle⟩
  · refine ⟨_, app_nil isl iti (show 8 ≤ most by decide), .inr ⟨n + 1, [[.int .i64 (t : Int)]], rfl, by omega, by simp [upd_app], rfl, by simp⟩, fun c hc _ => ?_⟩
    rw [upd_app, if_neg (by omega), upd_app, if_neg (by omega)]
  · have ha := app_rowT (C := Cx) (g := g) (n := n) (m := st.length) (A := A) (es := es) (row := [.int .i64 (t : Int)]) isl iti hA (by omega) hle (by unfold most; omega) (by unfold most; omega)
    rw [ht, stR_cons] at ha
    refine ⟨_, ha, .inr ⟨n + 1, stR (t :: st), rfl, by omega, by simp [upd_app], ?_, ?_⟩, fun c hc hne => ?_⟩
    · exact List.take_of_length_le (by rw [stR_len]; exact Nat.le_refl _)
    · rw [stR_len]; exact Nat.le_refl _
    · have : c ≠ g := by rintro rfl; exact hne _ hA
      rw [upd_app, if_neg (by omega), upd_app, if_neg this, upd_app, if_neg (by omega)]
structure PS (s : Bytes) (out : List Nd) (st : List Nat) (i : Nat) (T : Nat → AV) (h : Nat) (A : Nat → Blk) : Prop where
  t0 : T 0 = .str s
  t7 : T 7 = .int .i64 (i : Int)
  bo : BufN 37 (T 5) h A out
  so : StO h A (T 6) st
def PartP (s : Bytes) (out : List Nd) (st : List Nat) (i : Nat) (r : AV) : Prop :=
  ∀ (T : Nat → AV) (h : Nat) (A : Nat → Blk), PS s out st i T h A → Run Cx 14 T [] none [.code c14_19, .inScope c14_3] ⟨h, A⟩ (fun r0 H' => BX.freeze H' r0 = some r)
def DoneP (s : Bytes) (out : List Nd) (st : List Nat) (i : Nat) (r : AV) : Prop :=
  ∀ (T : Nat → AV) (h : Nat) (A : Nat → Blk), PS s out st i T h A → Run Cx 14 T [] none [.code c14_80, .inScope c14_3] ⟨h, A⟩ (fun r0 H' => BX.freeze H' r0 = some r)
theorem goto_a : gotoA 0 [.inBlock 0, .code c14_66, .inScope c14_3] = some [.code (.seq .skip c14_19), .inScope c14_3] := by kernel_rfl
theorem goto_b : gotoA 0 [.code c14_106, .inScope c14_3] = some [.code (.seq .skip c14_19), .inScope c14_3] := by kernel_rfl
theorem goto_c : gotoA 1 [.inScope c14_3] = some [.code (.seq .skip c14_80), .inScope c14_3] := by kernel_rfl
def errP (at_ : Nat) (e : Int) : AV := .tuple [.nilS, .int .i64 (at_ : Int), .int .i64 e]
section
variable {s : Bytes} {out : List Nd} {st : List Nat} {i : Nat}
theorem p_short (hs : s.length ≤ 1000000) (hi : i ≤ s.length) (hj : blankM s i = s.length) : PartP s out st i (errP (blankM s i) 2) := by
  rintro T h A ⟨t0, t7, bo, so⟩
  have hb := blanks_ok hs hi
  rw [hj] at hb
  unfold errP
  rw [hj]
  simp only [t0, t7, lenOf, i64, beq_self_eq_true, freeze2_nilS, call_pure pure29 rfl hb, run_exit_start, exit_here, exit_code, exit_inLoop, run_inBlock, n14_0, n14_1, n14_2, n14_3, n14_4, n14_5, n14_6, n14_7, n14_8, n14_9, n14_10, n14_11, n14_12, n14_13, n14_14, n14_15, n14_16, n14_17, n14_18, n14_19, n14_20, n14_21, n14_22, n14_23, n14_24, n14_25, n14_26, n14_27, n14_28, n14_29, n14_30, n14_31, n14_32, n14_33, n14_34, n14_35, n14_36, n14_37, n14_38, n14_39, n14_40, n14_41, n14_42, n14_43, n14_44, n14_45, n14_46, n14_47, n14_48, n14_49, n14_50, n14_51, n14_52, n14_53, n14_54, n14_55, n14_56, n14_57, n14_58, n14_59, n14_60, n14_61, n14_62, n14_63, n14_65, n14_67, n14_68, n14_69, n14_70, n14_71, n14_72, n14_73, n14_74, n14_75, n14_76, n14_77, n14_78, n14_79, n14_80, n14_81, n14_82, n14_83, n14_84, n14_85, n14_86, n14_87, n14_88, n14_89, n14_90, n14_91, n14_92, n14_93, n14_94, n14_95, n14_96, n14_97, n14_98, n14_99, n14_100, n14_101, n14_102, n14_103, n14_105, n14_106, n14_107, n14_108, n14_109, n14_110, n14_111, n14_112, n14_113, n14_114, n14_115, n14_116, n14_117, n14_118, n14_119, n14_120, n14_121, n14_122, n14_123, n14_124, o14_1, o14_5, o14_8, o14_12, o14_14, o14_16, o14_20, o14_24, o14_27, o14_30, o14_33, o14_36, o14_39, o14_42, o14_45, o14_48, o14_51, o14_54, o14_57, o14_61, o14_63, o14_68, o14_71, o14_74, o14_77, o14_82, o14_86, o14_88, o14_91, o14_95, o14_99, o14_102, o14_108, o14_111, o14_114, o14_117, o14_120, o14_124, res14, TT_3, TT_4, TT_5, TT_9, TT_21, TT_22, TT_25, TT_33, TT_35, TT_37, TT_39, TT_47, TT_52, TT_56, TT_59, TT_60, TT_62, TT_63, TT_65, TT_73, TT_77, TT_82, TT_84, bb, primP, primM, ev, evs, parts_, ofConst, bin, un, intBin, putA, enterT, Nat.reduceEqDiff, Nat.reduceAdd, Nat.reduceMul, Nat.reduceLeDiff, Nat.reduceLT, ↓reduceIte, reduceCtorEq, RunRes, resultsA, oneOf, AV.plain, AV.cells, AHeap.push, AHeap.set, AHeap.empty, fieldOf, loadA, storeA, BX.part, TK.isAgg, convA, builtinA, inertB, builtinP, buildA, fillA, splice, eqv, cellsEq, sizeT, adT, ldT, fwT, Nat.reduceBeqDiff, Nat.reduceBneDiff, Int.reduceBNe, Int.reduceBEq, Int.reduceEq, Int.reduceLT, Int.reduceLE, Int.reduceAdd, Int.reduceSub, Int.reduceMul, Int.reduceNeg, strBin, indexAddrA, elems, lenOf, chunk, List.reduceReplicate, Int.reduceToNat]
theorem p_arity (hs : s.length ≤ 1000000) (hi : i ≤ s.length) (hj : s[blankM s i]? = some 41) (hst : st ≠ []) : PartP s out st i (errP (blankM s i) 12) := by
  rintro T h A ⟨t0, t7, bo, so⟩
  have hb := blanks_ok hs hi
  have hlt : blankM s i < s.length := (List.getElem?_eq_some_iff.mp hj).1
  have e0 : ((blankM s i : Int) == (s.length : Int)) = false := by rw [beq_eq_false_iff_ne]; omega
  have p0 : (0 : Int) ≤ (blankM s i : Int) := by omega
  have hl := so.lenO
  simp only [lenOf] at hl
  have e1 : (((41 : UInt8).toNat : Int) == 41) = true := rfl
  have hpos := List.length_pos_iff.mpr hst
  have c1 : (0 : Int) < (st.length : Int) := by omega
  unfold errP
  simp only [t0, t7, e0, e1, p0, hj, hl, c1, indexA, Int.toNat_natCast, lenOf, i64, freeze2_nilS, call_pure pure29 rfl hb, run_exit_start, exit_here, exit_code, exit_inLoop, run_inBlock, n14_0, n14_1, n14_2, n14_3, n14_4, n14_5, n14_6, n14_7, n14_8, n14_9, n14_10, n14_11, n14_12, n14_13, n14_14, n14_15, n14_16, n14_17, n14_18, n14_19, n14_20, n14_21, n14_22, n14_23, n14_24, n14_25, n14_26, n14_27, n14_28, n14_29, n14_30, n14_31, n14_32, n14_33, n14_34, n14_35, n14_36, n14_37, n14_38, n14_39, n14_40, n14_41, n14_42, n14_43, n14_44, n14_45, n14_46, n14_47, n14_48, n14_49, n14_50, n14_51, n14_52, n14_53, n14_54, n14_55, n14_56, n14_57, n14_58, n14_59, n14_60, n14_61, n14_62, n14_63, n14_65, n14_67, n14_68, n14_69, n14_70, n14_71, n14_72, n14_73, n14_74, n14_75, n14_76, n14_77, n14_78, n14_79, n14_80, n14_81, n14_82, n14_83, n14_84, n14_85, n14_86, n14_87, n14_88, n14_89, n14_90, n14_91, n14_92, n14_93, n14_94, n14_95, n14_96, n14_97, n14_98, n14_99, n14_100, n14_101, n14_102, n14_103, n14_105, n14_106, n14_107, n14_108, n14_109, n14_110, n14_111, n14_112, n14_113, n14_114, n14_115, n14_116, n14_117, n14_118, n14_119, n14_120, n14_121, n14_122, n14_123, n14_124, o14_1, o14_5, o14_8, o14_12, o14_14, o14_16, o14_20, o14_24, o14_27, o14_30, o14_33, o14_36, o14_39, o14_42, o14_45, o14_48, o14_51, o14_54, o14_57, o14_61, o14_63, o14_68, o14_71, o14_74, o14_77, o14_82, o14_86, o14_88, o14_91, o14_95, o14_99, o14_102, o14_108, o14_111, o14_114, o14_117, o14_120, o14_124, res14, TT_3, TT_4, TT_5, TT_9, TT_21, TT_22, TT_25, TT_33, TT_35, TT_37, TT_39, TT_47, TT_52, TT_56, TT_59, TT_60, TT_62, TT_63, TT_65, TT_73, TT_77, TT_82, TT_84, bb, primP, primM, ev, evs, parts_, ofConst, bin, un, intBin, putA, enterT, Nat.reduceEqDiff, Nat.reduceAdd, Nat.reduceMul, Nat.reduceLeDiff, Nat.reduceLT, ↓reduceIte, reduceCtorEq, RunRes, resultsA, oneOf, AV.plain, AV.cells, AHeap.push, AHeap.set, AHeap.empty, fieldOf, loadA, storeA, BX.part, TK.isAgg, convA, builtinA, inertB, builtinP, buildA, fillA, splice, eqv, cellsEq, sizeT, adT, ldT, fwT, Nat.reduceBeqDiff, Nat.reduceBneDiff, Int.reduceBNe, Int.reduceBEq, Int.reduceEq, Int.reduceLT, Int.reduceLE, Int.reduceAdd, Int.reduceSub, Int.reduceMul, Int.reduceNeg, strBin, indexAddrA, elems, lenOf, chunk, List.reduceReplicate, Int.reduceToNat]
end
end Go.Proofs.Ytkedlkcknhinoaa.G

namespace Go.Proofs.Ytkedlkcknhinoaa.G
open Go.BX
set_option linter.unusedSimpArgs false
set_option linter.unusedVariables false
section
variable {s : Bytes} {out : List Nd} {st : List Nat} {i : Nat}
theorem p_many {c : UInt8} (hs : s.length ≤ 1000000) (hi : i ≤ s.length) (hj : s[blankM s i]? = some c) (hna : c = 41 → st = []) (hm : out.length = 400) : PartP s out st i (errP (blankM s i) 22) := by
  rintro T h A ⟨t0, t7, bo, so⟩
  have hb := blanks_ok hs hi
  have hlt : blankM s i < s.length := (List.getElem?_eq_some_iff.mp hj).1
  have e0 : ((blankM s i : Int) == (s.length : Int)) = false := by rw [beq_eq_false_iff_ne]; omega
  have p0 : (0 : Int) ≤ (blankM s i : Int) := by omega
  have hl := so.lenO
  simp only [lenOf] at hl
  have ho := bo.lenO
  simp only [lenOf] at ho
  have e4 : ((out.length : Int) == 400) = true := by rw [hm]; rfl
  unfold errP
  by_cases h41 : c = 41
  · have e1 : ((c.toNat : Int) == 41) = true := by rw [h41]; rfl
    have c1 : ¬ (0 : Int) < (st.length : Int) := by rw [hna h41]; simp
    simp only [t0, t7, e0, p0, hj, hl, ho, e1, c1, e4, indexA, Int.toNat_natCast, lenOf, i64, freeze2_nilS, call_pure pure29 rfl hb, run_exit_start, exit_here, exit_code, exit_inLoop, run_inBlock, n14_0, n14_1, n14_2, n14_3, n14_4, n14_5, n14_6, n14_7, n14_8, n14_9, n14_10, n14_11, n14_12, n14_13, n14_14, n14_15, n14_16, n14_17, n14_18, n14_19, n14_20, n14_21, n14_22, n14_23, n14_24, n14_25, n14_26, n14_27, n14_28, n14_29, n14_30, n14_31, n14_32, n14_33, n14_34, n14_35, n14_36, n14_37, n14_38, n14_39, n14_40, n14_41, n14_42, n14_43, n14_44, n14_45, n14_46, n14_47, n14_48, n14_49, n14_50, n14_51, n14_52, n14_53, n14_54, n14_55, n14_56, n14_57, n14_58, n14_59, n14_60, n14_61, n14_62, n14_63, n14_65, n14_67, n14_68, n14_69, n14_70, n14_71, n14_72, n14_73, n14_74, n14_75, n14_76, n14_77, n14_78, n14_79, n14_80, n14_81, n14_82, n14_83, n14_84, n14_85, n14_86, n14_87, n14_88, n14_89, n14_90, n14_91, n14_92, n14_93, n14_94, n14_95, n14_96, n14_97, n14_98, n14_99, n14_100, n14_101, n14_102, n14_103, n14_105, n14_106, n14_107, n14_108, n14_109, n14_110, n14_111, n14_112, n14_113, n14_114, n14_115, n14_116, n14_117, n14_118, n14_119, n14_120, n14_121, n14_122, n14_123, n14_124, o14_1, o14_5, o14_8, o14_12, o14_14, o14_16, o14_20, o14_24, o14_27, o14_30, o14_33, o14_36, o14_39, o14_42, o14_45, o14_48, o14_51, o14_54, o14_57, o14_61, o14_63, o14_68, o14_71, o14_74, o14_77, o14_82, o14_86, o14_88, o14_91, o14_95, o14_99, o14_102, o14_108, o14_111, o14_114, o14_117, o14_120, o14_124, res14, TT_3, TT_4, TT_5, TT_9, TT_21, TT_22, TT_25, TT_33, TT_35, TT_37, TT_39, TT_47, TT_52, TT_56, TT_59, TT_60, TT_62, TT_63, TT_65, TT_73, TT_77, TT_82, TT_84, bb, primP, primM, ev, evs, parts_, ofConst, bin, un, intBin, putA, enterT, Nat.reduceEqDiff, Nat.reduceAdd, Nat.reduceMul, Nat.reduceLeDiff, Nat.reduceLT, ↓reduceIte, reduceCtorEq, RunRes, resultsA, oneOf, AV.plain, AV.cells, AHeap.push, AHeap.set, AHeap.empty, fieldOf, loadA, storeA, BX.part, TK.isAgg, convA, builtinA, inertB, builtinP, buildA, fillA, splice, eqv, cellsEq, sizeT, adT, ldT, fwT, Nat.reduceBeqDiff, Nat.reduceBneDiff, Int.reduceBNe, Int.reduceBEq, Int.reduceEq, Int.reduceLT, Int.reduceLE, Int.reduceAdd, Int.reduceSub, Int.reduceMul, Int.reduceNeg, strBin, indexAddrA, elems, lenOf, chunk, List.reduceReplicate, Int.reduceToNat]
  · have e1 : ((c.toNat : Int) == 41) = false := u8_ne (n := 41) (by decide) h41
    simp only [t0, t7, e0, p0, hj, hl, ho, e1, e4, indexA, Int.toNat_natCast, lenOf, i64, freeze2_nilS, call_pure pure29 rfl hb, run_exit_start, exit_here, exit_code, exit_inLoop, run_inBlock, n14_0, n14_1, n14_2, n14_3, n14_4, n14_5, n14_6, n14_7, n14_8, n14_9, n14_10, n14_11, n14_12, n14_13, n14_14, n14_15, n14_16, n14_17, n14_18, n14_19, n14_20, n14_21, n14_22, n14_23, n14_24, n14_25, n14_26, n14_27, n14_28, n14_29, n14_30, n14_31, n14_32, n14_33, n14_34, n14_35, n14_36, n14_37, n14_38, n14_39, n14_40, n14_41, n14_42, n14_43, n14_44, n14_45, n14_46, n14_47, n14_48, n14_49, n14_50, n14_51, n14_52, n14_53, n14_54, n14_55, n14_56, n14_57, n14_58, n14_59, n14_60, n14_61, n14_62, n14_63, n14_65, n14_67, n14_68, n14_69, n14_70, n14_71, n14_72, n14_73, n14_74, n14_75, n14_76, n14_77, n14_78, n14_79, n14_80, n14_81, n14_82, n14_83, n14_84, n14_85, n14_86, n14_87, n14_88, n14_89, n14_90, n14_91, n14_92, n14_93, n14_94, n14_95, n14_96, n14_97, n14_98, n14_99, n14_100, n14_101, n14_102, n14_103, n14_105, n14_106, n14_107, n14_108, n14_109, n14_110, n14_111, n14_112, n14_113, n14_114, n14_115, n14_116, n14_117, n14_118, n14_119, n14_120, n14_121, n14_122, n14_123, n14_124, o14_1, o14_5, o14_8, o14_12, o14_14, o14_16, o14_20, o14_24, o14_27, o14_30, o14_33, o14_36, o14_39, o14_42, o14_45, o14_48, o14_51, o14_54, o14_57, o14_61, o14_63, o14_68, o14_71, o14_74, o14_77, o14_82, o14_86, o14_88, o14_91, o14_95, o14_99, o14_102, o14_108, o14_111, o14_114, o14_117, o14_120, o14_124, res14, TT_3, TT_4, TT_5, TT_9, TT_21, TT_22, TT_25, TT_33, TT_35, TT_37, TT_39, TT_47, TT_52, TT_56, TT_59, TT_60, TT_62, TT_63, TT_65, TT_73, TT_77, TT_82, TT_84, bb, primP, primM, ev, evs, parts_, ofConst, bin, un, intBin, putA, enterT, Nat.reduceEqDiff, Nat.reduceAdd, Nat.reduceMul, Nat.reduceLeDiff, Nat.reduceLT, ↓reduceIte, reduceCtorEq, RunRes, resultsA, oneOf, AV.plain, AV.cells, AHeap.push, AHeap.set, AHeap.empty, fieldOf, loadA, storeA, BX.part, TK.isAgg, convA, builtinA, inertB, builtinP, buildA, fillA, splice, eqv, cellsEq, sizeT, adT, ldT, fwT, Nat.reduceBeqDiff, Nat.reduceBneDiff, Int.reduceBNe, Int.reduceBEq, Int.reduceEq, Int.reduceLT, Int.reduceLE, Int.reduceAdd, Int.reduceSub, Int.reduceMul, Int.reduceNeg, strBin, indexAddrA, elems, lenOf, chunk, List.reduceReplicate, Int.reduceToNat]
theorem p_nest {c : UInt8} (hs : s.length ≤ 1000000) (hi : i ≤ s.length) (hj : s[blankM s i]? = some c) (hna : c = 41 → st = []) (hm : out.length < 400) (hn : 24 < st.length) : PartP s out st i (errP (blankM s i) 23) := by
  rintro T h A ⟨t0, t7, bo, so⟩
  have hb := blanks_ok hs hi
  have hlt : blankM s i < s.length := (List.getElem?_eq_some_iff.mp hj).1
  have e0 : ((blankM s i : Int) == (s.length : Int)) = false := by rw [beq_eq_false_iff_ne]; omega
  have p0 : (0 : Int) ≤ (blankM s i : Int) := by omega
  have hl := so.lenO
  simp only [lenOf] at hl
  have ho := bo.lenO
  simp only [lenOf] at ho
  have e4 : ((out.length : Int) == 400) = false := by rw [beq_eq_false_iff_ne]; omega
  have c4 : (24 : Int) < (st.length : Int) := by omega
  unfold errP
  by_cases h41 : c = 41
  · have e1 : ((c.toNat : Int) == 41) = true := by rw [h41]; rfl
    have c1 : ¬ (0 : Int) < (st.length : Int) := by rw [hna h41]; simp
    simp only [t0, t7, e0, p0, hj, hl, ho, e1, c1, e4, c4, indexA, Int.toNat_natCast, lenOf, i64, freeze2_nilS, call_pure pure29 rfl hb, run_exit_start, exit_here, exit_code, exit_inLoop, run_inBlock, n14_0, n14_1, n14_2, n14_3, n14_4, n14_5, n14_6, n14_7, n14_8, n14_9, n14_10, n14_11, n14_12, n14_13, n14_14, n14_15, n14_16, n14_17, n14_18, n14_19, n14_20, n14_21, n14_22, n14_23, n14_24, n14_25, n14_26, n14_27, n14_28, n14_29, n14_30, n14_31, n14_32, n14_33, n14_34, n14_35, n14_36, n14_37, n14_38, n14_39, n14_40, n14_41, n14_42, n14_43, n14_44, n14_45, n14_46, n14_47, n14_48, n14_49, n14_50, n14_51, n14_52, n14_53, n14_54, n14_55, n14_56, n14_57, n14_58, n14_59, n14_60, n14_61, n14_62, n14_63, n14_65, n14_67, n14_68, n14_69, n14_70, n14_71, n14_72, n14_73, n14_74, n14_75, n14_76, n14_77, n14_78, n14_79, n14_80, n14_81, n14_82, n14_83, n14_84, n14_85, n14_86, n14_87, n14_88, n14_89, n14_90, n14_91, n14_92, n14_93, n14_94, n14_95, n14_96, n14_97, n14_98, n14_99, n14_100, n14_101, n14_102, n14_103, n14_105, n14_106, n14_107, n14_108, n14_109, n14_110, n14_111, n14_112, n14_113, n14_114, n14_115, n14_116, n14_117, n14_118, n14_119, n14_120, n14_121, n14_122, n14_123, n14_124, o14_1, o14_5, o14_8, o14_12, o14_14, o14_16, o14_20, o14_24, o14_27, o14_30, o14_33, o14_36, o14_39, o14_42, o14_45, o14_48, o14_51, o14_54, o14_57, o14_61, o14_63, o14_68, o14_71, o14_74, o14_77, o14_82, o14_86, o14_88, o14_91, o14_95, o14_99, o14_102, o14_108, o14_111, o14_114, o14_117, o14_120, o14_124, res14, TT_3, TT_4, TT_5, TT_9, TT_21, TT_22, TT_25, TT_33, TT_35, TT_37, TT_39, TT_47, TT_52, TT_56, TT_59, TT_60, TT_62, TT_63, TT_65, TT_73, TT_77, TT_82, TT_84, bb, primP, primM, ev, evs, parts_, ofConst, bin, un, intBin, putA, enterT, Nat.reduceEqDiff, Nat.reduceAdd, Nat.reduceMul, Nat.reduceLeDiff, Nat.reduceLT, ↓reduceIte, reduceCtorEq, RunRes, resultsA, oneOf, AV.plain, AV.cells, AHeap.push, AHeap.set, AHeap.empty, fieldOf, loadA, storeA, BX.part, TK.isAgg, convA, builtinA, inertB, builtinP, buildA, fillA, splice, eqv, cellsEq, sizeT, adT, ldT, fwT, Nat.reduceBeqDiff, Nat.reduceBneDiff, Int.reduceBNe, Int.reduceBEq, Int.reduceEq, Int.reduceLT, Int.reduceLE, Int.reduceAdd, Int.reduceSub, Int.reduceMul, Int.reduceNeg, strBin, indexAddrA, elems, lenOf, chunk, List.reduceReplicate, Int.reduceToNat]
  · have e1 : ((c.toNat : Int) == 41) = false := u8_ne (n := 41) (by decide) h41
    simp only [t0, t7, e0, p0, hj, hl, ho, e1, e4, c4, indexA, Int.toNat_natCast, lenOf, i64, freeze2_nilS, call_pure pure29 rfl hb, run_exit_start, exit_here, exit_code, exit_inLoop, run_inBlock, n14_0, n14_1, n14_2, n14_3, n14_4, n14_5, n14_6, n14_7, n14_8, n14_9, n14_10, n14_11, n14_12, n14_13, n14_14, n14_15, n14_16, n14_17, n14_18, n14_19, n14_20, n14_21, n14_22, n14_23, n14_24, n14_25, n14_26, n14_27, n14_28, n14_29, n14_30, n14_31, n14_32, n14_33, n14_34, n14_35, n14_36, n14_37, n14_38, n14_39, n14_40, n14_41, n14_42, n14_43, n14_44, n14_45, n14_46, n14_47, n14_48, n14_49, n14_50, n14_51, n14_52, n14_53, n14_54, n14_55, n14_56, n14_57, n14_58, n14_59, n14_60, n14_61, n14_62, n14_63, n14_65, n14_67, n14_68, n14_69, n14_70, n14_71, n14_72, n14_73, n14_74, n14_75, n14_76, n14_77, n14_78, n14_79, n14_80, n14_81, n14_82, n14_83, n14_84, n14_85, n14_86, n14_87, n14_88, n14_89, n14_90, n14_91, n14_92, n14_93, n14_94, n14_95, n14_96, n14_97, n14_98, n14_99, n14_100, n14_101, n14_102, n14_103, n14_105, n14_106, n14_107, n14_108, n14_109, n14_110, n14_111, n14_112, n14_113, n14_114, n14_115, n14_116, n14_117, n14_118, n14_119, n14_120, n14_121, n14_122, n14_123, n14_124, o14_1, o14_5, o14_8, o14_12, o14_14, o14_16, o14_20, o14_24, o14_27, o14_30, o14_33, o14_36, o14_39, o14_42, o14_45, o14_48, o14_51, o14_54, o14_57, o14_61, o14_63, o14_68, o14_71, o14_74, o14_77, o14_82, o14_86, o14_88, o14_91, o14_95, o14_99, o14_102, o14_108, o14_111, o14_114, o14_117, o14_120, o14_124, res14, TT_3, TT_4, TT_5, TT_9, TT_21, TT_22, TT_25, TT_33, TT_35, TT_37, TT_39, TT_47, TT_52, TT_56, TT_59, TT_60, TT_62, TT_63, TT_65, TT_73, TT_77, TT_82, TT_84, bb, primP, primM, ev, evs, parts_, ofConst, bin, un, intBin, putA, enterT, Nat.reduceEqDiff, Nat.reduceAdd, Nat.reduceMul, Nat.reduceLeDiff, Nat.reduceLT, ↓reduceIte, reduceCtorEq, RunRes, resultsA, oneOf, AV.plain, AV.cells, AHeap.push, AHeap.set, AHeap.empty, fieldOf, loadA, storeA, BX.part, TK.isAgg, convA, builtinA, inertB, builtinP, buildA, fillA, splice, eqv, cellsEq, sizeT, adT, ldT, fwT, Nat.reduceBeqDiff, Nat.reduceBneDiff, Int.reduceBNe, Int.reduceBEq, Int.reduceEq, Int.reduceLT, Int.reduceLE, Int.reduceAdd, Int.reduceSub, Int.reduceMul, Int.reduceNeg, strBin, indexAddrA, elems, lenOf, chunk, List.reduceReplicate, Int.reduceToNat]
theorem p_single_err {c : UInt8} {e : Int} (hs : s.length ≤ 1000000) (hi : i ≤ s.length) (hj : s[blankM s i]? = some c) (hna : c = 41 → st = []) (hm : out.length < 400) (hn : st.length ≤ 24) (h40 : c ≠ 40) (he : singleX s (blankM s i) c = .error e) (he0 : e ≠ 0) : PartP s out st i (errP (blankM s i) e) := by
  rintro T h A ⟨t0, t7, bo, so⟩
  have hb := blanks_ok hs hi
  have hlt : blankM s i < s.length := (List.getElem?_eq_some_iff.mp hj).1
  have e0 : ((blankM s i : Int) == (s.length : Int)) = false := by rw [beq_eq_false_iff_ne]; omega
  have p0 : (0 : Int) ≤ (blankM s i : Int) := by omega
  have hl := so.lenO
  simp only [lenOf] at hl
  have ho := bo.lenO
  simp only [lenOf] at ho
  have e4 : ((out.length : Int) == 400) = false := by rw [beq_eq_false_iff_ne]; omega
  have c4 : ¬ (24 : Int) < (st.length : Int) := by omega
  have e2 : ((c.toNat : Int) == 40) = false := u8_ne (n := 40) (by decide) h40
  have hsi := single_ok hs hj
  rw [he] at hsi
  simp only [toAN, ndA, ndO] at hsi
  have e5 : (e != 0) = true := by simpa using he0
  unfold errP
  by_cases h41 : c = 41
  · have e1 : ((c.toNat : Int) == 41) = true := by rw [h41]; rfl
    have c1 : ¬ (0 : Int) < (st.length : Int) := by rw [hna h41]; simp
    simp only [t0, t7, e0, p0, hj, hl, ho, e1, c1, e4, c4, e2, e5, call_pure pure31 rfl hsi, indexA, Int.toNat_natCast, lenOf, i64, freeze2_nilS, call_pure pure29 rfl hb, run_exit_start, exit_here, exit_code, exit_inLoop, run_inBlock, n14_0, n14_1, n14_2, n14_3, n14_4, n14_5, n14_6, n14_7, n14_8, n14_9, n14_10, n14_11, n14_12, n14_13, n14_14, n14_15, n14_16, n14_17, n14_18, n14_19, n14_20, n14_21, n14_22, n14_23, n14_24, n14_25, n14_26, n14_27, n14_28, n14_29, n14_30, n14_31, n14_32, n14_33, n14_34, n14_35, n14_36, n14_37, n14_38, n14_39, n14_40, n14_41, n14_42, n14_43, n14_44, n14_45, n14_46, n14_47, n14_48, n14_49, n14_50, n14_51, n14_52, n14_53, n14_54, n14_55, n14_56, n14_57, n14_58, n14_59, n14_60, n14_61, n14_62, n14_63, n14_65, n14_66, n14_67, n14_68, n14_69, n14_70, n14_71, n14_72, n14_73, n14_74, n14_75, n14_76, n14_77, n14_78, n14_79, n14_81, n14_82, n14_83, n14_84, n14_85, n14_86, n14_87, n14_88, n14_89, n14_90, n14_91, n14_92, n14_93, n14_94, n14_95, n14_96, n14_97, n14_98, n14_99, n14_100, n14_101, n14_102, n14_103, n14_105, n14_106, n14_107, n14_108, n14_109, n14_110, n14_111, n14_112, n14_113, n14_114, n14_115, n14_116, n14_117, n14_118, n14_119, n14_120, n14_121, n14_122, n14_123, n14_124, o14_1, o14_5, o14_8, o14_12, o14_14, o14_16, o14_20, o14_24, o14_27, o14_30, o14_33, o14_36, o14_39, o14_42, o14_45, o14_48, o14_51, o14_54, o14_57, o14_61, o14_63, o14_68, o14_71, o14_74, o14_77, o14_82, o14_86, o14_88, o14_91, o14_95, o14_99, o14_102, o14_108, o14_111, o14_114, o14_117, o14_120, o14_124, res14, TT_3, TT_4, TT_5, TT_9, TT_21, TT_22, TT_25, TT_33, TT_35, TT_37, TT_39, TT_47, TT_52, TT_56, TT_59, TT_60, TT_62, TT_63, TT_65, TT_73, TT_77, TT_82, TT_84, bb, primP, primM, ev, evs, parts_, ofConst, bin, un, intBin, putA, enterT, Nat.reduceEqDiff, Nat.reduceAdd, Nat.reduceMul, Nat.reduceLeDiff, Nat.reduceLT, ↓reduceIte, reduceCtorEq, RunRes, resultsA, oneOf, AV.plain, AV.cells, AHeap.push, AHeap.set, AHeap.empty, fieldOf, loadA, storeA, BX.part, TK.isAgg, convA, builtinA, inertB, builtinP, buildA, fillA, splice, eqv, cellsEq, sizeT, adT, ldT, fwT, Nat.reduceBeqDiff, Nat.reduceBneDiff, Int.reduceBNe, Int.reduceBEq, Int.reduceEq, Int.reduceLT, Int.reduceLE, Int.reduceAdd, Int.reduceSub, Int.reduceMul, Int.reduceNeg, strBin, indexAddrA, elems, lenOf, chunk, List.reduceReplicate, Int.reduceToNat]
  · have e1 : ((c.toNat : Int) == 41) = false := u8_ne (n := 41) (by decide) h41
    simp only [t0, t7, e0, p0, hj, hl, ho, e1, e4, c4, e2, e5, call_pure pure31 rfl hsi, indexA, Int.toNat_natCast, lenOf, i64, freeze2_nilS, call_pure pure29 rfl hb, run_exit_start, exit_here, exit_code, exit_inLoop, run_inBlock, n14_0, n14_1, n14_2, n14_3, n14_4, n14_5, n14_6, n14_7, n14_8, n14_9, n14_10, n14_11, n14_12, n14_13, n14_14, n14_15, n14_16, n14_17, n14_18, n14_19, n14_20, n14_21, n14_22, n14_23, n14_24, n14_25, n14_26, n14_27, n14_28, n14_29, n14_30, n14_31, n14_32, n14_33, n14_34, n14_35, n14_36, n14_37, n14_38, n14_39, n14_40, n14_41, n14_42, n14_43, n14_44, n14_45, n14_46, n14_47, n14_48, n14_49, n14_50, n14_51, n14_52, n14_53, n14_54, n14_55, n14_56, n14_57, n14_58, n14_59, n14_60, n14_61, n14_62, n14_63, n14_65, n14_66, n14_67, n14_68, n14_69, n14_70, n14_71, n14_72, n14_73, n14_74, n14_75, n14_76, n14_77, n14_78, n14_79, n14_81, n14_82, n14_83, n14_84, n14_85, n14_86, n14_87, n14_88, n14_89, n14_90, n14_91, n14_92, n14_93, n14_94, n14_95, n14_96, n14_97, n14_98, n14_99, n14_100, n14_101, n14_102, n14_103, n14_105, n14_106, n14_107, n14_108, n14_109, n14_110, n14_111, n14_112, n14_113, n14_114, n14_115, n14_116, n14_117, n14_118, n14_119, n14_120, n14_121, n14_122, n14_123, n14_124, o14_1, o14_5, o14_8, o14_12, o14_14, o14_16, o14_20, o14_24, o14_27, o14_30, o14_33, o14_36, o14_39, o14_42, o14_45, o14_48, o14_51, o14_54, o14_57, o14_61, o14_63, o14_68, o14_71, o14_74, o14_77, o14_82, o14_86, o14_88, o14_91, o14_95, o14_99, o14_102, o14_108, o14_111, o14_114, o14_117, o14_120, o14_124, res14, TT_3, TT_4, TT_5, TT_9, TT_21, TT_22, TT_25, TT_33, TT_35, TT_37, TT_39, TT_47, TT_52, TT_56, TT_59, TT_60, TT_62, TT_63, TT_65, TT_73, TT_77, TT_82, TT_84, bb, primP, primM, ev, evs, parts_, ofConst, bin, un, intBin, putA, enterT, Nat.reduceEqDiff, Nat.reduceAdd, Nat.reduceMul, Nat.reduceLeDiff, Nat.reduceLT, ↓reduceIte, reduceCtorEq, RunRes, resultsA, oneOf, AV.plain, AV.cells, AHeap.push, AHeap.set, AHeap.empty, fieldOf, loadA, storeA, BX.part, TK.isAgg, convA, builtinA, inertB, builtinP, buildA, fillA, splice, eqv, cellsEq, sizeT, adT, ldT, fwT, Nat.reduceBeqDiff, Nat.reduceBneDiff, Int.reduceBNe, Int.reduceBEq, Int.reduceEq, Int.reduceLT, Int.reduceLE, Int.reduceAdd, Int.reduceSub, Int.reduceMul, Int.reduceNeg, strBin, indexAddrA, elems, lenOf, chunk, List.reduceReplicate, Int.reduceToNat]
theorem p_single_ok {c : UInt8} {n : Nd} {k : Nat} {r : AV} (hs : s.length ≤ 1000000) (hi : i ≤ s.length) (hj : s[blankM s i]? = some c) (hna : c = 41 → st = []) (hm : out.length < 400) (hn : st.length ≤ 24) (h40 : c ≠ 40) (he : singleX s (blankM s i) c = .ok (n, k)) (hd : DoneP s (out ++ [n]) st k r) : PartP s out st i r := by
  rintro T h A ⟨t0, t7, bo, so⟩
  have hb := blanks_ok hs hi
  have hlt : blankM s i < s.length := (List.getElem?_eq_some_iff.mp hj).1
  have e0 : ((blankM s i : Int) == (s.length : Int)) = false := by rw [beq_eq_false_iff_ne]; omega
  have p0 : (0 : Int) ≤ (blankM s i : Int) := by omega
  have hl := so.lenO
  simp only [lenOf] at hl
  have ho := bo.lenO
  simp only [lenOf] at ho
  have e4 : ((out.length : Int) == 400) = false := by rw [beq_eq_false_iff_ne]; omega
  have c4 : ¬ (24 : Int) < (st.length : Int) := by omega
  have e2 : ((c.toNat : Int) == 40) = false := u8_ne (n := 40) (by decide) h40
  have hsi := single_ok hs hj
  rw [he] at hsi
  simp only [toAN, ndA, ndO] at hsi
  have bo' := bo.keep (n' := h + 1) (A' := upd A h (.cells 37 6 [encN n])) (by omega) (fun c hc _ => by rw [upd_app, if_neg (by omega)])
  have so' := so.keep (n' := h + 1) (A' := upd A h (.cells 37 6 [encN n])) (by omega) (fun c hc _ => by rw [upd_app, if_neg (by omega)])
  obtain ⟨A', ha, hb2, hk⟩ := bo'.app (by omega) n
  simp only [encN] at ha
  have so2 : StO (h + 1 + 1 + 1) A' (T 6) st := so'.keep (by omega) (fun c hc ⟨es, he⟩ => hk c hc (fun es2 h2 => by rw [he] at h2; cases h2))
  have fin : ∀ T' : Nat → AV, T' 0 = .str s → T' 7 = .int .i64 (k : Int) → T' 5 = .slc (h + 1 + 1) 6 0 (out.length + 1) → T' 6 = T 6 → Run Cx 14 T' [] none [.code c14_80, .inScope c14_3] ⟨h + 1 + 1 + 1, A'⟩ (fun r0 H' => BX.freeze H' r0 = some r) := by
    intro T' s0 s7 s5 s6
    refine hd T' _ _ ⟨s0, s7, ?_, ?_⟩
    · rw [s5]; exact hb2
    · rw [s6]; exact so2
  by_cases h41 : c = 41
  · have e1 : ((c.toNat : Int) == 41) = true := by rw [h41]; rfl
    have c1 : ¬ (0 : Int) < (st.length : Int) := by rw [hna h41]; simp
    simp only [t0, t7, e0, p0, hj, hl, ho, e1, c1, e4, c4, e2, ha, upd2, runVH_some, bne_self_eq_false, call_pure pure31 rfl hsi, indexA, Int.toNat_natCast, lenOf, i64, freeze2_nilS, call_pure pure29 rfl hb, run_exit_start, exit_here, exit_code, exit_inLoop, run_inBlock, n14_0, n14_1, n14_2, n14_3, n14_4, n14_5, n14_6, n14_7, n14_8, n14_9, n14_10, n14_11, n14_12, n14_13, n14_14, n14_15, n14_16, n14_17, n14_18, n14_19, n14_20, n14_21, n14_22, n14_23, n14_24, n14_25, n14_26, n14_27, n14_28, n14_29, n14_30, n14_31, n14_32, n14_33, n14_34, n14_35, n14_36, n14_37, n14_38, n14_39, n14_40, n14_41, n14_42, n14_43, n14_44, n14_45, n14_46, n14_47, n14_48, n14_49, n14_50, n14_51, n14_52, n14_53, n14_54, n14_55, n14_56, n14_57, n14_58, n14_59, n14_60, n14_61, n14_62, n14_63, n14_65, n14_66, n14_67, n14_68, n14_69, n14_70, n14_71, n14_72, n14_73, n14_74, n14_75, n14_76, n14_77, n14_78, n14_79, n14_81, n14_82, n14_83, n14_84, n14_85, n14_86, n14_87, n14_88, n14_89, n14_90, n14_91, n14_92, n14_93, n14_94, n14_95, n14_96, n14_97, n14_98, n14_99, n14_100, n14_101, n14_102, n14_103, n14_105, n14_106, n14_107, n14_108, n14_109, n14_110, n14_111, n14_112, n14_113, n14_114, n14_115, n14_116, n14_117, n14_118, n14_119, n14_120, n14_121, n14_122, n14_123, n14_124, o14_1, o14_5, o14_8, o14_12, o14_14, o14_16, o14_20, o14_24, o14_27, o14_30, o14_33, o14_36, o14_39, o14_42, o14_45, o14_48, o14_51, o14_54, o14_57, o14_61, o14_63, o14_68, o14_71, o14_74, o14_77, o14_82, o14_86, o14_88, o14_91, o14_95, o14_99, o14_102, o14_108, o14_111, o14_114, o14_117, o14_120, o14_124, res14, TT_3, TT_4, TT_5, TT_9, TT_21, TT_22, TT_25, TT_33, TT_35, TT_37, TT_39, TT_47, TT_52, TT_56, TT_59, TT_60, TT_62, TT_63, TT_65, TT_73, TT_77, TT_82, TT_84, bb, primP, primM, ev, evs, parts_, ofConst, bin, un, intBin, putA, enterT, Nat.reduceEqDiff, Nat.reduceAdd, Nat.reduceMul, Nat.reduceLeDiff, Nat.reduceLT, ↓reduceIte, reduceCtorEq, RunRes, resultsA, oneOf, AV.plain, AV.cells, AHeap.push, AHeap.set, AHeap.empty, fieldOf, loadA, storeA, BX.part, TK.isAgg, convA, builtinA, inertB, builtinP, buildA, fillA, splice, eqv, cellsEq, sizeT, adT, ldT, fwT, Nat.reduceBeqDiff, Nat.reduceBneDiff, Int.reduceBNe, Int.reduceBEq, Int.reduceEq, Int.reduceLT, Int.reduceLE, Int.reduceAdd, Int.reduceSub, Int.reduceMul, Int.reduceNeg, strBin, indexAddrA, elems, lenOf, chunk, List.reduceReplicate, Int.reduceToNat]
    refine fin _ ?_ ?_ ?_ ?_
    all_goals simp only [upd_app, t0, Nat.reduceEqDiff, ↓reduceIte]
  · have e1 : ((c.toNat : Int) == 41) = false := u8_ne (n := 41) (by decide) h41
    simp only [t0, t7, e0, p0, hj, hl, ho, e1, e4, c4, e2, ha, upd2, runVH_some, bne_self_eq_false, call_pure pure31 rfl hsi, indexA, Int.toNat_natCast, lenOf, i64, freeze2_nilS, call_pure pure29 rfl hb, run_exit_start, exit_here, exit_code, exit_inLoop, run_inBlock, n14_0, n14_1, n14_2, n14_3, n14_4, n14_5, n14_6, n14_7, n14_8, n14_9, n14_10, n14_11, n14_12, n14_13, n14_14, n14_15, n14_16, n14_17, n14_18, n14_19, n14_20, n14_21, n14_22, n14_23, n14_24, n14_25, n14_26, n14_27, n14_28, n14_29, n14_30, n14_31, n14_32, n14_33, n14_34, n14_35, n14_36, n14_37, n14_38, n14_39, n14_40, n14_41, n14_42, n14_43, n14_44, n14_45, n14_46, n14_47, n14_48, n14_49, n14_50, n14_51, n14_52, n14_53, n14_54, n14_55, n14_56, n14_57, n14_58, n14_59, n14_60, n14_61, n14_62, n14_63, n14_65, n14_66, n14_67, n14_68, n14_69, n14_70, n14_71, n14_72, n14_73, n14_74, n14_75, n14_76, n14_77, n14_78, n14_79, n14_81, n14_82, n14_83, n14_84, n14_85, n14_86, n14_87, n14_88, n14_89, n14_90, n14_91, n14_92, n14_93, n14_94, n14_95, n14_96, n14_97, n14_98, n14_99, n14_100, n14_101, n14_102, n14_103, n14_105, n14_106, n14_107, n14_108, n14_109, n14_110, n14_111, n14_112, n14_113, n14_114, n14_115, n14_116, n14_117, n14_118, n14_119, n14_120, n14_121, n14_122, n14_123, n14_124, o14_1, o14_5, o14_8, o14_12, o14_14, o14_16, o14_20, o14_24, o14_27, o14_30, o14_33, o14_36, o14_39, o14_42, o14_45, o14_48, o14_51, o14_54, o14_57, o14_61, o14_63, o14_68, o14_71, o14_74, o14_77, o14_82, o14_86, o14_88, o14_91, o14_95, o14_99, o14_102, o14_108, o14_111, o14_114, o14_117, o14_120, o14_124, res14, TT_3, TT_4, TT_5, TT_9, TT_21, TT_22, TT_25, TT_33, TT_35, TT_37, TT_39, TT_47, TT_52, TT_56, TT_59, TT_60, TT_62, TT_63, TT_65, TT_73, TT_77, TT_82, TT_84, bb, primP, primM, ev, evs, parts_, ofConst, bin, un, intBin, putA, enterT, Nat.reduceEqDiff, Nat.reduceAdd, Nat.reduceMul, Nat.reduceLeDiff, Nat.reduceLT, ↓reduceIte, reduceCtorEq, RunRes, resultsA, oneOf, AV.plain, AV.cells, AHeap.push, AHeap.set, AHeap.empty, fieldOf, loadA, storeA, BX.part, TK.isAgg, convA, builtinA, inertB, builtinP, buildA, fillA, splice, eqv, cellsEq, sizeT, adT, ldT, fwT, Nat.reduceBeqDiff, Nat.reduceBneDiff, Int.reduceBNe, Int.reduceBEq, Int.reduceEq, Int.reduceLT, Int.reduceLE, Int.reduceAdd, Int.reduceSub, Int.reduceMul, Int.reduceNeg, strBin, indexAddrA, elems, lenOf, chunk, List.reduceReplicate, Int.reduceToNat]
    refine fin _ ?_ ?_ ?_ ?_
    all_goals simp only [upd_app, t0, Nat.reduceEqDiff, ↓reduceIte]
end
end Go.Proofs.Ytkedlkcknhinoaa.G

namespace Go.Proofs.Ytkedlkcknhinoaa.G
open Go.BX
set_option linter.unusedSimpArgs false
set_option linter.unusedVariables false
section
variable {s : Bytes} {out : List Nd} {st : List Nat} {i : Nat}
theorem p_open_err {e : Int} (hs : s.length ≤ 1000000) (hi : i ≤ s.length) (hj : s[blankM s i]? = some 40) (hm : out.length < 400) (hn : st.length ≤ 24) (he : openX s (blankM s i + 1) = .error e) (he0 : e ≠ 0) : PartP s out st i (errP (blankM s i + 1) e) := by
  rintro T h A ⟨t0, t7, bo, so⟩
  have hb := blanks_ok hs hi
  have hlt : blankM s i < s.length := (List.getElem?_eq_some_iff.mp hj).1
  have e0 : ((blankM s i : Int) == (s.length : Int)) = false := by rw [beq_eq_false_iff_ne]; omega
  have p0 : (0 : Int) ≤ (blankM s i : Int) := by omega
  have hl := so.lenO
  simp only [lenOf] at hl
  have ho := bo.lenO
  simp only [lenOf] at ho
  have e4 : ((out.length : Int) == 400) = false := by rw [beq_eq_false_iff_ne]; omega
  have c4 : ¬ (24 : Int) < (st.length : Int) := by omega
  have e1 : (((40 : UInt8).toNat : Int) == 41) = false := rfl
  have e2 : (((40 : UInt8).toNat : Int) == 40) = true := rfl
  have w1 : IntKind.i64.wrap ((blankM s i : Int) + 1) = ((blankM s i + 1 : Nat) : Int) := by rw [wr64 (by omega) (by omega)]; omega
  have hop := opened_ok (i := blankM s i + 1) hs (by omega)
  rw [he] at hop
  simp only [toAN, ndA, ndO] at hop
  have e5 : (e != 0) = true := by simpa using he0
  unfold errP
  simp only [t0, t7, e0, p0, hj, hl, ho, e1, e2, e4, c4, e5, w1, call_pure pure30 rfl hop, indexA, Int.toNat_natCast, lenOf, i64, freeze2_nilS, call_pure pure29 rfl hb, run_exit_start, exit_here, exit_code, exit_inLoop, run_inBlock, n14_0, n14_1, n14_2, n14_3, n14_4, n14_5, n14_6, n14_7, n14_8, n14_9, n14_10, n14_11, n14_12, n14_13, n14_14, n14_15, n14_16, n14_17, n14_18, n14_19, n14_20, n14_21, n14_22, n14_23, n14_24, n14_25, n14_26, n14_27, n14_28, n14_29, n14_30, n14_31, n14_32, n14_33, n14_34, n14_35, n14_36, n14_37, n14_38, n14_39, n14_40, n14_41, n14_42, n14_43, n14_44, n14_45, n14_46, n14_47, n14_48, n14_49, n14_50, n14_51, n14_52, n14_53, n14_54, n14_55, n14_56, n14_57, n14_58, n14_59, n14_60, n14_61, n14_62, n14_63, n14_65, n14_67, n14_68, n14_69, n14_70, n14_71, n14_72, n14_73, n14_74, n14_75, n14_76, n14_77, n14_78, n14_79, n14_80, n14_81, n14_82, n14_83, n14_84, n14_85, n14_86, n14_87, n14_88, n14_89, n14_90, n14_91, n14_92, n14_93, n14_94, n14_95, n14_96, n14_97, n14_98, n14_99, n14_100, n14_101, n14_102, n14_103, n14_105, n14_106, n14_107, n14_108, n14_109, n14_110, n14_111, n14_112, n14_113, n14_114, n14_115, n14_116, n14_117, n14_118, n14_119, n14_120, n14_121, n14_122, n14_123, n14_124, o14_1, o14_5, o14_8, o14_12, o14_14, o14_16, o14_20, o14_24, o14_27, o14_30, o14_33, o14_36, o14_39, o14_42, o14_45, o14_48, o14_51, o14_54, o14_57, o14_61, o14_63, o14_68, o14_71, o14_74, o14_77, o14_82, o14_86, o14_88, o14_91, o14_95, o14_99, o14_102, o14_108, o14_111, o14_114, o14_117, o14_120, o14_124, res14, TT_3, TT_4, TT_5, TT_9, TT_21, TT_22, TT_25, TT_33, TT_35, TT_37, TT_39, TT_47, TT_52, TT_56, TT_59, TT_60, TT_62, TT_63, TT_65, TT_73, TT_77, TT_82, TT_84, bb, primP, primM, ev, evs, parts_, ofConst, bin, un, intBin, putA, enterT, Nat.reduceEqDiff, Nat.reduceAdd, Nat.reduceMul, Nat.reduceLeDiff, Nat.reduceLT, ↓reduceIte, reduceCtorEq, RunRes, resultsA, oneOf, AV.plain, AV.cells, AHeap.push, AHeap.set, AHeap.empty, fieldOf, loadA, storeA, BX.part, TK.isAgg, convA, builtinA, inertB, builtinP, buildA, fillA, splice, eqv, cellsEq, sizeT, adT, ldT, fwT, Nat.reduceBeqDiff, Nat.reduceBneDiff, Int.reduceBNe, Int.reduceBEq, Int.reduceEq, Int.reduceLT, Int.reduceLE, Int.reduceAdd, Int.reduceSub, Int.reduceMul, Int.reduceNeg, strBin, indexAddrA, elems, lenOf, chunk, List.reduceReplicate, Int.reduceToNat]
theorem p_open_ok {n : Nd} {k : Nat} {r : AV} (hs : s.length ≤ 1000000) (hi : i ≤ s.length) (hj : s[blankM s i]? = some 40) (hm : out.length < 400) (hn : st.length ≤ 24) (he : openX s (blankM s i + 1) = .ok (n, k)) (hnn : numN n) (hd : PartP s (out ++ [n]) (partsM n.op :: st) k r) : PartP s out st i r := by
  rintro T h A ⟨t0, t7, bo, so⟩
  have hb := blanks_ok hs hi
  have hlt : blankM s i < s.length := (List.getElem?_eq_some_iff.mp hj).1
  have e0 : ((blankM s i : Int) == (s.length : Int)) = false := by rw [beq_eq_false_iff_ne]; omega
  have p0 : (0 : Int) ≤ (blankM s i : Int) := by omega
  have hl := so.lenO
  simp only [lenOf] at hl
  have ho := bo.lenO
  simp only [lenOf] at ho
  have e4 : ((out.length : Int) == 400) = false := by rw [beq_eq_false_iff_ne]; omega
  have c4 : ¬ (24 : Int) < (st.length : Int) := by omega
  have e1 : (((40 : UInt8).toNat : Int) == 41) = false := rfl
  have e2 : (((40 : UInt8).toNat : Int) == 40) = true := rfl
  have w1 : IntKind.i64.wrap ((blankM s i : Int) + 1) = ((blankM s i + 1 : Nat) : Int) := by rw [wr64 (by omega) (by omega)]; omega
  have hop := opened_ok (i := blankM s i + 1) hs (by omega)
  rw [he] at hop
  simp only [toAN, ndA, ndO] at hop
  have hpa := Parts_ok n.op hnn.1 hnn.2
  have bo' := bo.keep (n' := h + 1) (A' := upd A h (.cells 37 6 [encN n])) (by omega) (fun c hc _ => by rw [upd_app, if_neg (by omega)])
  have so' := so.keep (n' := h + 1) (A' := upd A h (.cells 37 6 [encN n])) (by omega) (fun c hc _ => by rw [upd_app, if_neg (by omega)])
  obtain ⟨A1, ha, hb1, hk⟩ := bo'.app (by omega) n
  have so1 : StO (h + 1 + 1 + 1) A1 (T 6) st := so'.keep (by omega) (fun c hc ⟨es, he⟩ => hk c hc (fun es2 h2 => by rw [he] at h2; cases h2))
  obtain ⟨A2, ha2, so2, hk2⟩ := so1.app (by omega) (partsM n.op)
  have hb2 : BufN 37 (.slc (h + 1 + 1) 6 0 (out.length + 1)) (h + 1 + 1 + 1 + 1 + 1) A2 (out ++ [n]) := hb1.keep (by omega) (fun c hc ⟨es, he⟩ => hk2 c hc (fun es2 h2 => by rw [he] at h2; cases h2))
  simp only [encN] at ha
  have fin : ∀ T' : Nat → AV, T' 0 = .str s → T' 7 = .int .i64 (k : Int) → T' 5 = .slc (h + 1 + 1) 6 0 (out.length + 1) → T' 6 = .slc (h + 1 + 1 + 1 + 1) 1 0 (st.length + 1) → Run Cx 14 T' [] none [.code c14_19, .inScope c14_3] ⟨h + 1 + 1 + 1 + 1 + 1, A2⟩ (fun r0 H' => BX.freeze H' r0 = some r) := by
    intro T' s0 s7 s5 s6
    refine hd T' _ _ ⟨s0, s7, ?_, ?_⟩
    · rw [s5]; exact hb2
    · rw [s6]; exact so2
  simp only [t0, t7, e0, p0, hj, hl, ho, e1, e2, e4, c4, w1, ha, ha2, upd2, runVH_some, bne_self_eq_false, call_pure pure30 rfl hop, call_pure pure12 rfl hpa, indexA, Int.toNat_natCast, lenOf, i64, call_pure pure29 rfl hb, run_exit_start, exit_here, exit_code, exit_inLoop, run_inBlock, n14_0, n14_1, n14_2, n14_3, n14_4, n14_5, n14_6, n14_7, n14_8, n14_9, n14_10, n14_11, n14_12, n14_13, n14_14, n14_15, n14_16, n14_17, n14_18, n14_19, n14_20, n14_21, n14_22, n14_23, n14_24, n14_25, n14_26, n14_27, n14_28, n14_29, n14_30, n14_31, n14_32, n14_33, n14_34, n14_35, n14_36, n14_37, n14_38, n14_39, n14_40, n14_41, n14_42, n14_43, n14_44, n14_45, n14_46, n14_47, n14_48, n14_49, n14_50, n14_51, n14_52, n14_53, n14_54, n14_55, n14_56, n14_57, n14_58, n14_59, n14_60, n14_61, n14_62, n14_63, n14_65, n14_67, n14_68, n14_69, n14_70, n14_71, n14_72, n14_73, n14_74, n14_75, n14_76, n14_77, n14_78, n14_79, n14_80, n14_81, n14_82, n14_83, n14_84, n14_85, n14_86, n14_87, n14_88, n14_89, n14_90, n14_91, n14_92, n14_93, n14_94, n14_95, n14_96, n14_97, n14_98, n14_99, n14_100, n14_101, n14_102, n14_103, n14_105, n14_106, n14_107, n14_108, n14_109, n14_110, n14_111, n14_112, n14_113, n14_114, n14_115, n14_116, n14_117, n14_118, n14_119, n14_120, n14_121, n14_122, n14_123, n14_124, o14_1, o14_5, o14_8, o14_12, o14_14, o14_16, o14_20, o14_24, o14_27, o14_30, o14_33, o14_36, o14_39, o14_42, o14_45, o14_48, o14_51, o14_54, o14_57, o14_61, o14_63, o14_68, o14_71, o14_74, o14_77, o14_82, o14_86, o14_88, o14_91, o14_95, o14_99, o14_102, o14_108, o14_111, o14_114, o14_117, o14_120, o14_124, res14, TT_3, TT_4, TT_5, TT_9, TT_21, TT_22, TT_25, TT_33, TT_35, TT_37, TT_39, TT_47, TT_52, TT_56, TT_59, TT_60, TT_62, TT_63, TT_65, TT_73, TT_77, TT_82, TT_84, bb, primP, primM, ev, evs, parts_, ofConst, bin, un, intBin, putA, enterT, Nat.reduceEqDiff, Nat.reduceAdd, Nat.reduceMul, Nat.reduceLeDiff, Nat.reduceLT, ↓reduceIte, reduceCtorEq, RunRes, resultsA, oneOf, AV.plain, AV.cells, AHeap.push, AHeap.set, AHeap.empty, fieldOf, loadA, storeA, BX.part, TK.isAgg, convA, builtinA, inertB, builtinP, buildA, fillA, splice, eqv, cellsEq, sizeT, adT, ldT, fwT, Nat.reduceBeqDiff, Nat.reduceBneDiff, Int.reduceBNe, Int.reduceBEq, Int.reduceEq, Int.reduceLT, Int.reduceLE, Int.reduceAdd, Int.reduceSub, Int.reduceMul, Int.reduceNeg, strBin, indexAddrA, elems, lenOf, chunk, List.reduceReplicate, Int.reduceToNat]
  unfold c14_64
  rw [run_goto goto_a, run_seq, run_skip]
  refine fin _ ?_ ?_ ?_ ?_
  all_goals simp only [upd_app, t0, Nat.reduceEqDiff, ↓reduceIte]
theorem d_word (hs : s.length ≤ 1000000) (hi : i ≤ s.length) (hj : blankM s i < s.length) : DoneP s out [] i (errP (blankM s i) 10) := by
  rintro T h A ⟨t0, t7, bo, so⟩
  have hb := blanks_ok hs hi
  have hl := so.lenO
  simp only [lenOf, List.length_nil] at hl
  have c0 : (blankM s i : Int) < (s.length : Int) := by omega
  unfold errP
  simp only [t0, t7, hl, c0, lenOf, i64, Int.cast_ofNat_Int, beq_self_eq_true, freeze2_nilS, call_pure pure29 rfl hb, run_exit_start, exit_here, exit_code, exit_inLoop, run_inBlock, n14_0, n14_1, n14_2, n14_3, n14_4, n14_5, n14_6, n14_7, n14_8, n14_9, n14_10, n14_11, n14_12, n14_13, n14_14, n14_15, n14_16, n14_17, n14_18, n14_19, n14_20, n14_21, n14_22, n14_23, n14_24, n14_25, n14_26, n14_27, n14_28, n14_29, n14_30, n14_31, n14_32, n14_33, n14_34, n14_35, n14_36, n14_37, n14_38, n14_39, n14_40, n14_41, n14_42, n14_43, n14_44, n14_45, n14_46, n14_47, n14_48, n14_49, n14_50, n14_51, n14_52, n14_53, n14_54, n14_55, n14_56, n14_57, n14_58, n14_59, n14_60, n14_61, n14_62, n14_63, n14_65, n14_66, n14_67, n14_68, n14_69, n14_70, n14_71, n14_72, n14_73, n14_74, n14_75, n14_76, n14_77, n14_78, n14_79, n14_80, n14_81, n14_82, n14_83, n14_84, n14_85, n14_86, n14_87, n14_88, n14_89, n14_90, n14_91, n14_92, n14_93, n14_94, n14_95, n14_96, n14_97, n14_98, n14_99, n14_100, n14_101, n14_102, n14_103, n14_105, n14_106, n14_107, n14_108, n14_109, n14_110, n14_111, n14_112, n14_113, n14_114, n14_115, n14_116, n14_117, n14_118, n14_119, n14_120, n14_121, n14_122, n14_123, n14_124, o14_1, o14_5, o14_8, o14_12, o14_14, o14_16, o14_20, o14_24, o14_27, o14_30, o14_33, o14_36, o14_39, o14_42, o14_45, o14_48, o14_51, o14_54, o14_57, o14_61, o14_63, o14_68, o14_71, o14_74, o14_77, o14_82, o14_86, o14_88, o14_91, o14_95, o14_99, o14_102, o14_108, o14_111, o14_114, o14_117, o14_120, o14_124, res14, TT_3, TT_4, TT_5, TT_9, TT_21, TT_22, TT_25, TT_33, TT_35, TT_37, TT_39, TT_47, TT_52, TT_56, TT_59, TT_60, TT_62, TT_63, TT_65, TT_73, TT_77, TT_82, TT_84, bb, primP, primM, ev, evs, parts_, ofConst, bin, un, intBin, putA, enterT, Nat.reduceEqDiff, Nat.reduceAdd, Nat.reduceMul, Nat.reduceLeDiff, Nat.reduceLT, ↓reduceIte, reduceCtorEq, RunRes, resultsA, oneOf, AV.plain, AV.cells, AHeap.push, AHeap.set, AHeap.empty, fieldOf, loadA, storeA, BX.part, TK.isAgg, convA, builtinA, inertB, builtinP, buildA, fillA, splice, eqv, cellsEq, sizeT, adT, ldT, fwT, Nat.reduceBeqDiff, Nat.reduceBneDiff, Int.reduceBNe, Int.reduceBEq, Int.reduceEq, Int.reduceLT, Int.reduceLE, Int.reduceAdd, Int.reduceSub, Int.reduceMul, Int.reduceNeg, strBin, indexAddrA, elems, lenOf, chunk, List.reduceReplicate, Int.reduceToNat]
theorem d_end (hs : s.length ≤ 1000000) (hi : i ≤ s.length) (hj : blankM s i = s.length) (hne : out ≠ []) : DoneP s out [] i (.tuple [.vec 6 (out.map encN), .int .i64 0, .int .i64 0]) := by
  rintro T h A ⟨t0, t7, bo, so⟩
  have hb := blanks_ok hs hi
  rw [hj] at hb
  have hl := so.lenO
  simp only [lenOf, List.length_nil] at hl
  have c0 : ¬ (s.length : Int) < (s.length : Int) := by omega
  obtain ⟨w, hw, hf⟩ := bo.freeze
  obtain rfl := hw.vec hne
  rcases bo with ⟨_, h2⟩ | ⟨g, t5, hg, hA⟩
  · exact absurd h2 hne
  · rw [t5] at hf
    rw [freeze_slc, ← freeze2_slc] at hf
    simp only [t0, t5, t7, hl, c0, hf, lenOf, i64, Int.cast_ofNat_Int, beq_self_eq_true, call_pure pure29 rfl hb, run_exit_start, exit_here, exit_code, exit_inLoop, run_inBlock, n14_0, n14_1, n14_2, n14_3, n14_4, n14_5, n14_6, n14_7, n14_8, n14_9, n14_10, n14_11, n14_12, n14_13, n14_14, n14_15, n14_16, n14_17, n14_18, n14_19, n14_20, n14_21, n14_22, n14_23, n14_24, n14_25, n14_26, n14_27, n14_28, n14_29, n14_30, n14_31, n14_32, n14_33, n14_34, n14_35, n14_36, n14_37, n14_38, n14_39, n14_40, n14_41, n14_42, n14_43, n14_44, n14_45, n14_46, n14_47, n14_48, n14_49, n14_50, n14_51, n14_52, n14_53, n14_54, n14_55, n14_56, n14_57, n14_58, n14_59, n14_60, n14_61, n14_62, n14_63, n14_65, n14_66, n14_67, n14_68, n14_69, n14_70, n14_71, n14_72, n14_73, n14_74, n14_75, n14_76, n14_77, n14_78, n14_79, n14_80, n14_81, n14_82, n14_83, n14_84, n14_85, n14_86, n14_87, n14_88, n14_89, n14_90, n14_91, n14_92, n14_93, n14_94, n14_95, n14_96, n14_97, n14_98, n14_99, n14_100, n14_101, n14_102, n14_103, n14_105, n14_106, n14_107, n14_108, n14_109, n14_110, n14_111, n14_112, n14_113, n14_114, n14_115, n14_116, n14_117, n14_118, n14_119, n14_120, n14_121, n14_122, n14_123, n14_124, o14_1, o14_5, o14_8, o14_12, o14_14, o14_16, o14_20, o14_24, o14_27, o14_30, o14_33, o14_36, o14_39, o14_42, o14_45, o14_48, o14_51, o14_54, o14_57, o14_61, o14_63, o14_68, o14_71, o14_74, o14_77, o14_82, o14_86, o14_88, o14_91, o14_95, o14_99, o14_102, o14_108, o14_111, o14_114, o14_117, o14_120, o14_124, res14, TT_3, TT_4, TT_5, TT_9, TT_21, TT_22, TT_25, TT_33, TT_35, TT_37, TT_39, TT_47, TT_52, TT_56, TT_59, TT_60, TT_62, TT_63, TT_65, TT_73, TT_77, TT_82, TT_84, bb, primP, primM, ev, evs, parts_, ofConst, bin, un, intBin, putA, enterT, Nat.reduceEqDiff, Nat.reduceAdd, Nat.reduceMul, Nat.reduceLeDiff, Nat.reduceLT, ↓reduceIte, reduceCtorEq, RunRes, resultsA, oneOf, AV.plain, AV.cells, AHeap.push, AHeap.set, AHeap.empty, fieldOf, loadA, storeA, BX.part, TK.isAgg, convA, builtinA, inertB, builtinP, buildA, fillA, splice, eqv, cellsEq, sizeT, adT, ldT, fwT, Nat.reduceBeqDiff, Nat.reduceBneDiff, Int.reduceBNe, Int.reduceBEq, Int.reduceEq, Int.reduceLT, Int.reduceLE, Int.reduceAdd, Int.reduceSub, Int.reduceMul, Int.reduceNeg, strBin, indexAddrA, elems, lenOf, chunk, List.reduceReplicate, Int.reduceToNat]
theorem StB.dec {n g : Nat} {A : Nat → Blk} {es : List (List AV)} {t x : Nat} {r : List Nat} (hg : g < n) (ht : es.take (t :: r).length = stR (t :: r)) (hle : (t :: r).length ≤ es.length) :
    StB n (upd A g (.cells 3 1 (es.set r.length [.int .i64 (x : Int)]))) (.slc g 1 0 (r.length + 1)) (x :: r) := by
  refine ⟨g, _, rfl, hg, by rw [upd_app, if_pos rfl], ?_, by rw [List.length_set]; exact hle⟩
  rw [List.take_set, show (x :: r).length = (t :: r).length from rfl, ht, stR_set]
theorem StB.pop {n g : Nat} {A : Nat → Blk} {es : List (List AV)} {t x : Nat} {r : List Nat} (hg : g < n) (ht : es.take (t :: r).length = stR (t :: r)) (hle : (t :: r).length ≤ es.length) :
    StB n (upd A g (.cells 3 1 (es.set r.length [.int .i64 (x : Int)]))) (.slc g 1 0 r.length) r := by
  refine ⟨g, _, rfl, hg, by rw [upd_app, if_pos rfl], ?_, by rw [List.length_set]; rw [List.length_cons] at hle; omega⟩
  have h1 : es.take r.length = stR r := by
    have : es.take r.length = (es.take (t :: r).length).take r.length := by rw [List.take_take, List.length_cons]; congr 1; omega
    rw [this, ht]
    unfold stR
    rw [List.reverse_cons, List.map_append, List.take_append_of_le_length (by simp)]
    exact List.take_of_length_le (by simp)
  rw [← h1, List.take_set_of_le (by omega)]
theorem d_more {t : Nat} {r : AV} {rs : List Nat} (hst : rs.length ≤ 1000) (ht2 : 2 ≤ t) (ht3 : t ≤ 1000) (hd : PartP s out ((t - 1) :: rs) i r) : DoneP s out (t :: rs) i r := by
  rintro T h A ⟨t0, t7, bo, so⟩
  rcases so with ⟨_, h2⟩ | ⟨g, es, t6, hg, hA, htk, hle⟩
  · cases h2
  rw [List.length_cons] at t6
  have e0 : (((rs.length + 1 : Nat) : Int) == 0) = false := by rw [beq_eq_false_iff_ne]; omega
  have w1 : IntKind.i64.wrap (((rs.length + 1 : Nat) : Int) - 1) = (rs.length : Int) := by rw [wr64 (by omega) (by omega)]; omega
  have w2 : IntKind.i64.wrap ((t : Int) - 1) = ((t - 1 : Nat) : Int) := by rw [wr64 (by omega) (by omega)]; omega
  have p0 : (0 : Int) ≤ (rs.length : Int) := by omega
  have l0 : (rs.length : Int) < ((rs.length + 1 : Nat) : Int) := by omega
  have c0 : (0 : Int) < ((t - 1 : Nat) : Int) := by omega
  have g0 := StB.top (h := h) (A := A) htk
  have g1 : (es.set rs.length [AV.int .i64 ((t - 1 : Nat) : Int)])[rs.length]? = some [.int .i64 ((t - 1 : Nat) : Int)] := by
    rw [List.getElem?_set, if_pos rfl, if_pos (by rw [List.length_cons] at hle; omega)]
  simp only [t0, t6, t7, e0, w1, w2, p0, l0, c0, g0, g1, hA, lenOf, i64, Int.toNat_natCast, run_exit_start, exit_here, exit_code, exit_inLoop, run_inBlock, n14_0, n14_1, n14_2, n14_3, n14_4, n14_5, n14_6, n14_7, n14_8, n14_9, n14_10, n14_11, n14_12, n14_13, n14_14, n14_15, n14_16, n14_17, n14_18, n14_19, n14_20, n14_21, n14_22, n14_23, n14_24, n14_25, n14_26, n14_27, n14_28, n14_29, n14_30, n14_31, n14_32, n14_33, n14_34, n14_35, n14_36, n14_37, n14_38, n14_39, n14_40, n14_41, n14_42, n14_43, n14_44, n14_45, n14_46, n14_47, n14_48, n14_49, n14_50, n14_51, n14_52, n14_53, n14_54, n14_55, n14_56, n14_57, n14_58, n14_59, n14_60, n14_61, n14_62, n14_63, n14_65, n14_66, n14_67, n14_68, n14_69, n14_70, n14_71, n14_72, n14_73, n14_74, n14_75, n14_76, n14_77, n14_78, n14_79, n14_80, n14_81, n14_82, n14_83, n14_84, n14_85, n14_86, n14_87, n14_88, n14_89, n14_90, n14_91, n14_92, n14_93, n14_94, n14_95, n14_96, n14_97, n14_98, n14_99, n14_100, n14_101, n14_102, n14_103, n14_105, n14_107, n14_108, n14_109, n14_110, n14_111, n14_112, n14_113, n14_114, n14_115, n14_116, n14_117, n14_118, n14_119, n14_120, n14_121, n14_122, n14_123, n14_124, o14_1, o14_5, o14_8, o14_12, o14_14, o14_16, o14_20, o14_24, o14_27, o14_30, o14_33, o14_36, o14_39, o14_42, o14_45, o14_48, o14_51, o14_54, o14_57, o14_61, o14_63, o14_68, o14_71, o14_74, o14_77, o14_82, o14_86, o14_88, o14_91, o14_95, o14_99, o14_102, o14_108, o14_111, o14_114, o14_117, o14_120, o14_124, res14, TT_3, TT_4, TT_5, TT_9, TT_21, TT_22, TT_25, TT_33, TT_35, TT_37, TT_39, TT_47, TT_52, TT_56, TT_59, TT_60, TT_62, TT_63, TT_65, TT_73, TT_77, TT_82, TT_84, bb, primP, primM, ev, evs, parts_, ofConst, bin, un, intBin, putA, enterT, Nat.reduceEqDiff, Nat.reduceAdd, Nat.reduceMul, Nat.reduceLeDiff, Nat.reduceLT, ↓reduceIte, reduceCtorEq, RunRes, resultsA, oneOf, AV.plain, AV.cells, AHeap.push, AHeap.set, AHeap.empty, fieldOf, loadA, storeA, BX.part, TK.isAgg, convA, builtinA, inertB, builtinP, buildA, fillA, splice, eqv, cellsEq, sizeT, adT, ldT, fwT, Nat.reduceBeqDiff, Nat.reduceBneDiff, Int.reduceBNe, Int.reduceBEq, Int.reduceEq, Int.reduceLT, Int.reduceLE, Int.reduceAdd, Int.reduceSub, Int.reduceMul, Int.reduceNeg, strBin, indexAddrA, elems, lenOf, chunk, List.reduceReplicate, Int.reduceToNat]
  unfold c14_104
  rw [run_goto goto_b, run_seq, run_skip]
  refine hd _ _ _ ⟨?_, ?_, ?_, ?_⟩
  · simp only [upd_app, t0, Nat.reduceEqDiff, ↓reduceIte]
  · simp only [upd_app, t7, Nat.reduceEqDiff, ↓reduceIte]
  · simp only [upd_app, Nat.reduceEqDiff, ↓reduceIte]
    refine bo.keep (Nat.le_refl _) (fun c hc ⟨es2, h2⟩ => ?_)
    rw [upd_app, if_neg]
    rintro rfl
    rw [hA] at h2
    cases h2
  · simp only [upd_app, t6, Nat.reduceEqDiff, ↓reduceIte]
    exact .inr (StB.dec hg htk hle)
end
end Go.Proofs.Ytkedlkcknhinoaa.G

namespace Go.Proofs.Ytkedlkcknhinoaa.G
open Go.BX
set_option linter.unusedSimpArgs false
set_option linter.unusedVariables false
section
variable {s : Bytes} {out : List Nd} {i : Nat}
theorem d_short {rs : List Nat} (hs : s.length ≤ 1000000) (hi : i ≤ s.length) (hst : rs.length ≤ 1000) (hj : blankM s i = s.length) : DoneP s out (1 :: rs) i (errP (blankM s i) 2) := by
  rintro T h A ⟨t0, t7, bo, so⟩
  rcases so with ⟨_, h2⟩ | ⟨g, es, t6, hg, hA, htk, hle⟩
  · cases h2
  rw [List.length_cons] at t6
  have e0 : (((rs.length + 1 : Nat) : Int) == 0) = false := by rw [beq_eq_false_iff_ne]; omega
  have w1 : IntKind.i64.wrap (((rs.length + 1 : Nat) : Int) - 1) = (rs.length : Int) := by rw [wr64 (by omega) (by omega)]; omega
  have w2 : IntKind.i64.wrap 0 = 0 := rfl
  have p0 : (0 : Int) ≤ (rs.length : Int) := by omega
  have l0 : (rs.length : Int) < ((rs.length + 1 : Nat) : Int) := by omega
  have l1 : (rs.length : Int) ≤ ((rs.length + 1 : Nat) : Int) := by omega
  have c0 : ¬ (0 : Int) < 0 := by omega
  have g0 := StB.top (h := h) (A := A) htk
  simp only [Int.cast_ofNat_Int] at g0
  have g1 : (es.set rs.length [AV.int .i64 0])[rs.length]? = some [.int .i64 0] := by
    rw [List.getElem?_set, if_pos rfl, if_pos (by rw [List.length_cons] at hle; omega)]
  have hb := blanks_ok hs hi
  rw [hj] at hb ⊢
  unfold errP
  simp only [t0, t6, t7, e0, w1, w2, p0, l0, l1, c0, g0, g1, hA, beq_self_eq_true, lenOf, i64, indexA, Int.toNat_natCast, freeze2_nilS, call_pure pure29 rfl hb, run_exit_start, exit_here, exit_code, exit_inLoop, run_inBlock, n14_0, n14_1, n14_2, n14_3, n14_4, n14_5, n14_6, n14_7, n14_8, n14_9, n14_10, n14_11, n14_12, n14_13, n14_14, n14_15, n14_16, n14_17, n14_18, n14_19, n14_20, n14_21, n14_22, n14_23, n14_24, n14_25, n14_26, n14_27, n14_28, n14_29, n14_30, n14_31, n14_32, n14_33, n14_34, n14_35, n14_36, n14_37, n14_38, n14_39, n14_40, n14_41, n14_42, n14_43, n14_44, n14_45, n14_46, n14_47, n14_48, n14_49, n14_50, n14_51, n14_52, n14_53, n14_54, n14_55, n14_56, n14_57, n14_58, n14_59, n14_60, n14_61, n14_62, n14_63, n14_65, n14_66, n14_67, n14_68, n14_69, n14_70, n14_71, n14_72, n14_73, n14_74, n14_75, n14_76, n14_77, n14_78, n14_79, n14_80, n14_81, n14_82, n14_83, n14_84, n14_85, n14_86, n14_87, n14_88, n14_89, n14_90, n14_91, n14_92, n14_93, n14_94, n14_95, n14_96, n14_97, n14_98, n14_99, n14_100, n14_101, n14_102, n14_103, n14_105, n14_106, n14_107, n14_108, n14_109, n14_110, n14_111, n14_112, n14_113, n14_114, n14_115, n14_116, n14_117, n14_118, n14_119, n14_120, n14_121, n14_122, n14_123, n14_124, o14_1, o14_5, o14_8, o14_12, o14_14, o14_16, o14_20, o14_24, o14_27, o14_30, o14_33, o14_36, o14_39, o14_42, o14_45, o14_48, o14_51, o14_54, o14_57, o14_61, o14_63, o14_68, o14_71, o14_74, o14_77, o14_82, o14_86, o14_88, o14_91, o14_95, o14_99, o14_102, o14_108, o14_111, o14_114, o14_117, o14_120, o14_124, res14, TT_3, TT_4, TT_5, TT_9, TT_21, TT_22, TT_25, TT_33, TT_35, TT_37, TT_39, TT_47, TT_52, TT_56, TT_59, TT_60, TT_62, TT_63, TT_65, TT_73, TT_77, TT_82, TT_84, bb, primP, primM, ev, evs, parts_, ofConst, bin, un, intBin, putA, enterT, Nat.reduceEqDiff, Nat.reduceAdd, Nat.reduceMul, Nat.reduceLeDiff, Nat.reduceLT, ↓reduceIte, reduceCtorEq, RunRes, resultsA, oneOf, AV.plain, AV.cells, AHeap.push, AHeap.set, AHeap.empty, fieldOf, loadA, storeA, BX.part, TK.isAgg, convA, builtinA, inertB, builtinP, buildA, fillA, splice, eqv, cellsEq, sizeT, adT, ldT, fwT, Nat.reduceBeqDiff, Nat.reduceBneDiff, Int.reduceBNe, Int.reduceBEq, Int.reduceEq, Int.reduceLT, Int.reduceLE, Int.reduceAdd, Int.reduceSub, Int.reduceMul, Int.reduceNeg, strBin, indexAddrA, elems, lenOf, chunk, List.reduceReplicate, Int.reduceToNat]
theorem d_arity {c : UInt8} {rs : List Nat} (hs : s.length ≤ 1000000) (hi : i ≤ s.length) (hst : rs.length ≤ 1000) (hj : s[blankM s i]? = some c) (hc : c ≠ 41) : DoneP s out (1 :: rs) i (errP (blankM s i) 12) := by
  rintro T h A ⟨t0, t7, bo, so⟩
  rcases so with ⟨_, h2⟩ | ⟨g, es, t6, hg, hA, htk, hle⟩
  · cases h2
  rw [List.length_cons] at t6
  have e0 : (((rs.length + 1 : Nat) : Int) == 0) = false := by rw [beq_eq_false_iff_ne]; omega
  have w1 : IntKind.i64.wrap (((rs.length + 1 : Nat) : Int) - 1) = (rs.length : Int) := by rw [wr64 (by omega) (by omega)]; omega
  have w2 : IntKind.i64.wrap 0 = 0 := rfl
  have p0 : (0 : Int) ≤ (rs.length : Int) := by omega
  have l0 : (rs.length : Int) < ((rs.length + 1 : Nat) : Int) := by omega
  have l1 : (rs.length : Int) ≤ ((rs.length + 1 : Nat) : Int) := by omega
  have c0 : ¬ (0 : Int) < 0 := by omega
  have g0 := StB.top (h := h) (A := A) htk
  simp only [Int.cast_ofNat_Int] at g0
  have g1 : (es.set rs.length [AV.int .i64 0])[rs.length]? = some [.int .i64 0] := by
    rw [List.getElem?_set, if_pos rfl, if_pos (by rw [List.length_cons] at hle; omega)]
  have hb := blanks_ok hs hi
  have hlt : blankM s i < s.length := (List.getElem?_eq_some_iff.mp hj).1
  have e3 : ((blankM s i : Int) == (s.length : Int)) = false := by rw [beq_eq_false_iff_ne]; omega
  have p1 : (0 : Int) ≤ (blankM s i : Int) := by omega
  have e4 : ((c.toNat : Int) != 41) = true := by
    have := u8_ne (c := c) (n := 41) (by decide) hc
    rw [bne, show ((c.toNat : Int) == 41) = false from this]; rfl
  unfold errP
  simp only [t0, t6, t7, e0, w1, w2, p0, l0, l1, c0, g0, g1, hA, e3, e4, p1, hj, lenOf, i64, indexA, Int.toNat_natCast, freeze2_nilS, call_pure pure29 rfl hb, run_exit_start, exit_here, exit_code, exit_inLoop, run_inBlock, n14_0, n14_1, n14_2, n14_3, n14_4, n14_5, n14_6, n14_7, n14_8, n14_9, n14_10, n14_11, n14_12, n14_13, n14_14, n14_15, n14_16, n14_17, n14_18, n14_19, n14_20, n14_21, n14_22, n14_23, n14_24, n14_25, n14_26, n14_27, n14_28, n14_29, n14_30, n14_31, n14_32, n14_33, n14_34, n14_35, n14_36, n14_37, n14_38, n14_39, n14_40, n14_41, n14_42, n14_43, n14_44, n14_45, n14_46, n14_47, n14_48, n14_49, n14_50, n14_51, n14_52, n14_53, n14_54, n14_55, n14_56, n14_57, n14_58, n14_59, n14_60, n14_61, n14_62, n14_63, n14_65, n14_66, n14_67, n14_68, n14_69, n14_70, n14_71, n14_72, n14_73, n14_74, n14_75, n14_76, n14_77, n14_78, n14_79, n14_80, n14_81, n14_82, n14_83, n14_84, n14_85, n14_86, n14_87, n14_88, n14_89, n14_90, n14_91, n14_92, n14_93, n14_94, n14_95, n14_96, n14_97, n14_98, n14_99, n14_100, n14_101, n14_102, n14_103, n14_105, n14_106, n14_107, n14_108, n14_109, n14_110, n14_111, n14_112, n14_113, n14_114, n14_115, n14_116, n14_117, n14_118, n14_119, n14_120, n14_121, n14_122, n14_123, n14_124, o14_1, o14_5, o14_8, o14_12, o14_14, o14_16, o14_20, o14_24, o14_27, o14_30, o14_33, o14_36, o14_39, o14_42, o14_45, o14_48, o14_51, o14_54, o14_57, o14_61, o14_63, o14_68, o14_71, o14_74, o14_77, o14_82, o14_86, o14_88, o14_91, o14_95, o14_99, o14_102, o14_108, o14_111, o14_114, o14_117, o14_120, o14_124, res14, TT_3, TT_4, TT_5, TT_9, TT_21, TT_22, TT_25, TT_33, TT_35, TT_37, TT_39, TT_47, TT_52, TT_56, TT_59, TT_60, TT_62, TT_63, TT_65, TT_73, TT_77, TT_82, TT_84, bb, primP, primM, ev, evs, parts_, ofConst, bin, un, intBin, putA, enterT, Nat.reduceEqDiff, Nat.reduceAdd, Nat.reduceMul, Nat.reduceLeDiff, Nat.reduceLT, ↓reduceIte, reduceCtorEq, RunRes, resultsA, oneOf, AV.plain, AV.cells, AHeap.push, AHeap.set, AHeap.empty, fieldOf, loadA, storeA, BX.part, TK.isAgg, convA, builtinA, inertB, builtinP, buildA, fillA, splice, eqv, cellsEq, sizeT, adT, ldT, fwT, Nat.reduceBeqDiff, Nat.reduceBneDiff, Int.reduceBNe, Int.reduceBEq, Int.reduceEq, Int.reduceLT, Int.reduceLE, Int.reduceAdd, Int.reduceSub, Int.reduceMul, Int.reduceNeg, strBin, indexAddrA, elems, lenOf, chunk, List.reduceReplicate, Int.reduceToNat]
theorem d_close {r : AV} {rs : List Nat} (hs : s.length ≤ 1000000) (hi : i ≤ s.length) (hst : rs.length ≤ 1000) (hj : s[blankM s i]? = some 41) (hd : DoneP s out rs (blankM s i + 1) r) : DoneP s out (1 :: rs) i r := by
  rintro T h A ⟨t0, t7, bo, so⟩
  rcases so with ⟨_, h2⟩ | ⟨g, es, t6, hg, hA, htk, hle⟩
  · cases h2
  rw [List.length_cons] at t6
  have e0 : (((rs.length + 1 : Nat) : Int) == 0) = false := by rw [beq_eq_false_iff_ne]; omega
  have w1 : IntKind.i64.wrap (((rs.length + 1 : Nat) : Int) - 1) = (rs.length : Int) := by rw [wr64 (by omega) (by omega)]; omega
  have w2 : IntKind.i64.wrap 0 = 0 := rfl
  have p0 : (0 : Int) ≤ (rs.length : Int) := by omega
  have l0 : (rs.length : Int) < ((rs.length + 1 : Nat) : Int) := by omega
  have l1 : (rs.length : Int) ≤ ((rs.length + 1 : Nat) : Int) := by omega
  have c0 : ¬ (0 : Int) < 0 := by omega
  have g0 := StB.top (h := h) (A := A) htk
  simp only [Int.cast_ofNat_Int] at g0
  have g1 : (es.set rs.length [AV.int .i64 0])[rs.length]? = some [.int .i64 0] := by
    rw [List.getElem?_set, if_pos rfl, if_pos (by rw [List.length_cons] at hle; omega)]
  have hb := blanks_ok hs hi
  have hlt : blankM s i < s.length := (List.getElem?_eq_some_iff.mp hj).1
  have e3 : ((blankM s i : Int) == (s.length : Int)) = false := by rw [beq_eq_false_iff_ne]; omega
  have p1 : (0 : Int) ≤ (blankM s i : Int) := by omega
  have e4 : (((41 : UInt8).toNat : Int) != 41) = false := rfl
  have w3 : IntKind.i64.wrap ((blankM s i : Int) + 1) = ((blankM s i + 1 : Nat) : Int) := by rw [wr64 (by omega) (by omega)]; omega
  simp only [t0, t6, t7, e0, w1, w2, p0, l0, l1, c0, g0, g1, hA, e3, e4, p1, w3, hj, sliceA, bnds, bound, evo, Nat.sub_zero, Nat.zero_le, Nat.add_zero, Nat.zero_add, lenOf, i64, indexA, Int.toNat_natCast, freeze2_nilS, call_pure pure29 rfl hb, run_exit_start, exit_here, exit_code, exit_inLoop, run_inBlock, n14_0, n14_1, n14_2, n14_3, n14_4, n14_5, n14_6, n14_7, n14_8, n14_9, n14_10, n14_11, n14_12, n14_13, n14_14, n14_15, n14_16, n14_17, n14_18, n14_19, n14_20, n14_21, n14_22, n14_23, n14_24, n14_25, n14_26, n14_27, n14_28, n14_29, n14_30, n14_31, n14_32, n14_33, n14_34, n14_35, n14_36, n14_37, n14_38, n14_39, n14_40, n14_41, n14_42, n14_43, n14_44, n14_45, n14_46, n14_47, n14_48, n14_49, n14_50, n14_51, n14_52, n14_53, n14_54, n14_55, n14_56, n14_57, n14_58, n14_59, n14_60, n14_61, n14_62, n14_63, n14_65, n14_66, n14_67, n14_68, n14_69, n14_70, n14_71, n14_72, n14_73, n14_74, n14_75, n14_76, n14_77, n14_78, n14_79, n14_80, n14_81, n14_82, n14_83, n14_84, n14_85, n14_86, n14_87, n14_88, n14_89, n14_90, n14_91, n14_92, n14_93, n14_94, n14_95, n14_96, n14_97, n14_98, n14_99, n14_100, n14_101, n14_102, n14_103, n14_105, n14_106, n14_107, n14_108, n14_109, n14_110, n14_111, n14_112, n14_113, n14_114, n14_115, n14_116, n14_117, n14_118, n14_119, n14_120, n14_121, n14_122, n14_123, n14_124, o14_1, o14_5, o14_8, o14_12, o14_14, o14_16, o14_20, o14_24, o14_27, o14_30, o14_33, o14_36, o14_39, o14_42, o14_45, o14_48, o14_51, o14_54, o14_57, o14_61, o14_63, o14_68, o14_71, o14_74, o14_77, o14_82, o14_86, o14_88, o14_91, o14_95, o14_99, o14_102, o14_108, o14_111, o14_114, o14_117, o14_120, o14_124, res14, TT_3, TT_4, TT_5, TT_9, TT_21, TT_22, TT_25, TT_33, TT_35, TT_37, TT_39, TT_47, TT_52, TT_56, TT_59, TT_60, TT_62, TT_63, TT_65, TT_73, TT_77, TT_82, TT_84, bb, primP, primM, ev, evs, parts_, ofConst, bin, un, intBin, putA, enterT, Nat.reduceEqDiff, Nat.reduceAdd, Nat.reduceMul, Nat.reduceLeDiff, Nat.reduceLT, ↓reduceIte, reduceCtorEq, RunRes, resultsA, oneOf, AV.plain, AV.cells, AHeap.push, AHeap.set, AHeap.empty, fieldOf, loadA, storeA, BX.part, TK.isAgg, convA, builtinA, inertB, builtinP, buildA, fillA, splice, eqv, cellsEq, sizeT, adT, ldT, fwT, Nat.reduceBeqDiff, Nat.reduceBneDiff, Int.reduceBNe, Int.reduceBEq, Int.reduceEq, Int.reduceLT, Int.reduceLE, Int.reduceAdd, Int.reduceSub, Int.reduceMul, Int.reduceNeg, strBin, indexAddrA, elems, lenOf, chunk, List.reduceReplicate, Int.reduceToNat]
  unfold c14_125
  rw [run_goto goto_c, run_seq, run_skip]
  refine hd _ _ _ ⟨?_, ?_, ?_, ?_⟩
  · simp only [upd_app, t0, Nat.reduceEqDiff, ↓reduceIte]
  · simp only [upd_app, Nat.reduceEqDiff, ↓reduceIte]
  · simp only [upd_app, Nat.reduceEqDiff, ↓reduceIte]
    refine bo.keep (Nat.le_refl _) (fun c hc ⟨es2, h2⟩ => ?_)
    rw [upd_app, if_neg]
    rintro rfl
    rw [hA] at h2
    cases h2
  · simp only [upd_app, Nat.reduceEqDiff, ↓reduceIte]
    exact .inr (StB.pop (x := 0) hg htk hle)
end
theorem Parse_long {s : Bytes} (hl : s.length ≤ maxLen) (h : 4096 < s.length) : PCall Cx 14 [.str s] (errP 0 3) := by
  refine pcall_run (noext _) body14 ?_
  have c0 : (4096 : Int) < (s.length : Int) := by omega
  unfold errP
  simp only [c0, lenOf, i64, Int.cast_ofNat_Int, freeze2_nilS, run_exit_start, exit_here, exit_code, exit_inLoop, run_inBlock, n14_0, n14_1, n14_2, n14_3, n14_4, n14_5, n14_6, n14_7, n14_8, n14_9, n14_10, n14_11, n14_12, n14_13, n14_14, n14_15, n14_16, n14_17, n14_18, n14_20, n14_21, n14_22, n14_23, n14_24, n14_25, n14_26, n14_27, n14_28, n14_29, n14_30, n14_31, n14_32, n14_33, n14_34, n14_35, n14_36, n14_37, n14_38, n14_39, n14_40, n14_41, n14_42, n14_43, n14_44, n14_45, n14_46, n14_47, n14_48, n14_49, n14_50, n14_51, n14_52, n14_53, n14_54, n14_55, n14_56, n14_57, n14_58, n14_59, n14_60, n14_61, n14_62, n14_63, n14_65, n14_66, n14_67, n14_68, n14_69, n14_70, n14_71, n14_72, n14_73, n14_74, n14_75, n14_76, n14_77, n14_78, n14_79, n14_80, n14_81, n14_82, n14_83, n14_84, n14_85, n14_86, n14_87, n14_88, n14_89, n14_90, n14_91, n14_92, n14_93, n14_94, n14_95, n14_96, n14_97, n14_98, n14_99, n14_100, n14_101, n14_102, n14_103, n14_105, n14_106, n14_107, n14_108, n14_109, n14_110, n14_111, n14_112, n14_113, n14_114, n14_115, n14_116, n14_117, n14_118, n14_119, n14_120, n14_121, n14_122, n14_123, n14_124, o14_1, o14_5, o14_8, o14_12, o14_14, o14_16, o14_20, o14_24, o14_27, o14_30, o14_33, o14_36, o14_39, o14_42, o14_45, o14_48, o14_51, o14_54, o14_57, o14_61, o14_63, o14_68, o14_71, o14_74, o14_77, o14_82, o14_86, o14_88, o14_91, o14_95, o14_99, o14_102, o14_108, o14_111, o14_114, o14_117, o14_120, o14_124, res14, TT_3, TT_4, TT_5, TT_9, TT_21, TT_22, TT_25, TT_33, TT_35, TT_37, TT_39, TT_47, TT_52, TT_56, TT_59, TT_60, TT_62, TT_63, TT_65, TT_73, TT_77, TT_82, TT_84, bb, primP, primM, ev, evs, parts_, ofConst, bin, un, intBin, putA, enterT, Nat.reduceEqDiff, Nat.reduceAdd, Nat.reduceMul, Nat.reduceLeDiff, Nat.reduceLT, ↓reduceIte, reduceCtorEq, RunRes, resultsA, oneOf, AV.plain, AV.cells, AHeap.push, AHeap.set, AHeap.empty, fieldOf, loadA, storeA, BX.part, TK.isAgg, convA, builtinA, inertB, builtinP, buildA, fillA, splice, eqv, cellsEq, sizeT, adT, ldT, fwT, Nat.reduceBeqDiff, Nat.reduceBneDiff, Int.reduceBNe, Int.reduceBEq, Int.reduceEq, Int.reduceLT, Int.reduceLE, Int.reduceAdd, Int.reduceSub, Int.reduceMul, Int.reduceNeg, strBin, indexAddrA, elems, lenOf, chunk, List.reduceReplicate, Int.reduceToNat]
theorem Parse_run {s : Bytes} {r : AV} (h : s.length ≤ 4096) (hp : PartP s [] [] 0 r) : PCall Cx 14 [.str s] r := by
  refine pcall_run (noext _) body14 ?_
  have c0 : ¬ (4096 : Int) < (s.length : Int) := by omega
  simp only [c0, lenOf, i64, run_exit_start, exit_here, exit_code, exit_inLoop, run_inBlock, n14_0, n14_1, n14_2, n14_3, n14_4, n14_5, n14_6, n14_7, n14_8, n14_9, n14_10, n14_11, n14_12, n14_13, n14_14, n14_15, n14_16, n14_17, n14_18, n14_20, n14_21, n14_22, n14_23, n14_24, n14_25, n14_26, n14_27, n14_28, n14_29, n14_30, n14_31, n14_32, n14_33, n14_34, n14_35, n14_36, n14_37, n14_38, n14_39, n14_40, n14_41, n14_42, n14_43, n14_44, n14_45, n14_46, n14_47, n14_48, n14_49, n14_50, n14_51, n14_52, n14_53, n14_54, n14_55, n14_56, n14_57, n14_58, n14_59, n14_60, n14_61, n14_62, n14_63, n14_65, n14_66, n14_67, n14_68, n14_69, n14_70, n14_71, n14_72, n14_73, n14_74, n14_75, n14_76, n14_77, n14_78, n14_79, n14_80, n14_81, n14_82, n14_83, n14_84, n14_85, n14_86, n14_87, n14_88, n14_89, n14_90, n14_91, n14_92, n14_93, n14_94, n14_95, n14_96, n14_97, n14_98, n14_99, n14_100, n14_101, n14_102, n14_103, n14_105, n14_106, n14_107, n14_108, n14_109, n14_110, n14_111, n14_112, n14_113, n14_114, n14_115, n14_116, n14_117, n14_118, n14_119, n14_120, n14_121, n14_122, n14_123, n14_124, o14_1, o14_5, o14_8, o14_12, o14_14, o14_16, o14_20, o14_24, o14_27, o14_30, o14_33, o14_36, o14_39, o14_42, o14_45, o14_48, o14_51, o14_54, o14_57, o14_61, o14_63, o14_68, o14_71, o14_74, o14_77, o14_82, o14_86, o14_88, o14_91, o14_95, o14_99, o14_102, o14_108, o14_111, o14_114, o14_117, o14_120, o14_124, res14, TT_3, TT_4, TT_5, TT_9, TT_21, TT_22, TT_25, TT_33, TT_35, TT_37, TT_39, TT_47, TT_52, TT_56, TT_59, TT_60, TT_62, TT_63, TT_65, TT_73, TT_77, TT_82, TT_84, bb, primP, primM, ev, evs, parts_, ofConst, bin, un, intBin, putA, enterT, Nat.reduceEqDiff, Nat.reduceAdd, Nat.reduceMul, Nat.reduceLeDiff, Nat.reduceLT, ↓reduceIte, reduceCtorEq, RunRes, resultsA, oneOf, AV.plain, AV.cells, AHeap.push, AHeap.set, AHeap.empty, fieldOf, loadA, storeA, BX.part, TK.isAgg, convA, builtinA, inertB, builtinP, buildA, fillA, splice, eqv, cellsEq, sizeT, adT, ldT, fwT, Nat.reduceBeqDiff, Nat.reduceBneDiff, Int.reduceBNe, Int.reduceBEq, Int.reduceEq, Int.reduceLT, Int.reduceLE, Int.reduceAdd, Int.reduceSub, Int.reduceMul, Int.reduceNeg, strBin, indexAddrA, elems, lenOf, chunk, List.reduceReplicate, Int.reduceToNat]
  refine hp _ _ _ ⟨?_, ?_, .inl ⟨?_, rfl⟩, .inl ⟨?_, rfl⟩⟩
  all_goals simp only [upd_app, enterT, List.getElem?_cons_zero, List.getElem?_cons_succ, Option.getD_some, Nat.reduceEqDiff, ↓reduceIte]
  all_goals rfl
end Go.Proofs.Ytkedlkcknhinoaa.G

namespace Go.Proofs.Ytkedlkcknhinoaa.G
open Go.BX
set_option linter.unusedSimpArgs false
set_option linter.unusedVariables false
def endT (rest : Bytes) : Prop := rest = [] ∨ ∃ c r, rest = c :: r ∧ (c = 32 ∨ c = 41)
theorem endT_N {rest : Bytes} (h : endT rest) : endN rest := by
  rcases h with rfl | ⟨c, r, rfl, rfl | rfl⟩
  · exact .inl rfl
  · exact .inr ⟨_, _, rfl, by decide, by decide⟩
  · exact .inr ⟨_, _, rfl, by decide, by decide⟩
theorem tw_word {w rest : Bytes} (h : ∀ c, c ∈ w → lt c = true) (hr : endT rest) : (w ++ rest).takeWhile lt = w := by
  induction w with
  | nil =>
    rcases hr with rfl | ⟨c, r, rfl, rfl | rfl⟩
    · rfl
    · rfl
    · rfl
  | cons c w ih => rw [List.cons_append, List.takeWhile_cons_of_pos (h c (by simp)), ih (fun d hd => h d (by simp [hd]))]
theorem blankM_here {s : Bytes} {j : Nat} {c : UInt8} (h : s[j]? = some c) (hc : c ≠ 32) : blankM s j = j := by
  unfold blankM
  obtain ⟨h1, h2⟩ := List.getElem?_eq_some_iff.mp h
  rw [List.drop_eq_getElem_cons h1, h2, List.takeWhile_cons_of_neg (by unfold sp; simpa using hc)]
  rfl
theorem blankM_one {s : Bytes} {i : Nat} {c : UInt8} (h0 : s[i]? = some 32) (h : s[i + 1]? = some c) (hc : c ≠ 32) : blankM s i = i + 1 := by
  unfold blankM
  obtain ⟨h1, h2⟩ := List.getElem?_eq_some_iff.mp h0
  obtain ⟨h3, h4⟩ := List.getElem?_eq_some_iff.mp h
  rw [List.drop_eq_getElem_cons h1, h2, List.takeWhile_cons_of_pos (by rfl), List.drop_eq_getElem_cons h3, h4, List.takeWhile_cons_of_neg (by unfold sp; simpa using hc)]
  rfl
theorem drop_hd {s : Bytes} {i : Nat} {c : UInt8} {r : Bytes} (h : s.drop i = c :: r) : s[i]? = some c ∧ s.drop (i + 1) = r ∧ i < s.length := by
  have hl : i < s.length := by
    rcases Nat.lt_or_ge i s.length with h1 | h1
    · exact h1
    · rw [List.drop_of_length_le h1] at h; cases h
  rw [List.drop_eq_getElem_cons hl] at h
  obtain ⟨h1, h2⟩ := List.cons.inj h
  exact ⟨by rw [List.getElem?_eq_getElem hl, h1], h2, hl⟩
theorem decS_head {n : Int} : ∃ c t, decS n = c :: t ∧ (c = 45 ∨ 48 ≤ c.toNat ∧ c.toNat ≤ 57) := by
  unfold decS
  split
  · exact ⟨_, _, rfl, .inl rfl⟩
  · cases hl : decN n.toNat with
    | nil => exact absurd hl (decN_ne _)
    | cons c l =>
      have := decN_dig _ c (by rw [hl]; simp)
      exact ⟨_, _, rfl, .inr this⟩
theorem hd_ok {c : UInt8} (h : c = 45 ∨ 48 ≤ c.toNat ∧ c.toNat ≤ 57) : c ≠ 32 ∧ c ≠ 40 ∧ c ≠ 41 ∧ lt c = false := by
  rcases h with rfl | ⟨h1, h2⟩
  · decide
  · refine ⟨?_, ?_, ?_, ?_⟩
    · rintro rfl; revert h1; decide
    · rintro rfl; revert h1; decide
    · rintro rfl; revert h1; decide
    · unfold lt; simp; omega
theorem leaf_lit {n : Nd} (h : aloneM n = true) (h0 : n.op = 0) : ∃ c t, leafT n = c :: t ∧ c ≠ 32 ∧ c ≠ 40 ∧ c ≠ 41 ∧ lt c = false := by
  have hok := alone_ok h
  unfold leafT
  rw [if_pos h0]
  unfold writeV
  rcases right_cases hok with ⟨h1, _⟩ | ⟨h1, _⟩ | ⟨h1, _⟩
  · rw [if_pos h1]
    obtain ⟨c, t, e, hc⟩ := decS_head (n := n.v.n)
    exact ⟨c, t, e, hd_ok hc⟩
  · rw [h1, if_neg (by decide), if_pos rfl]
    exact ⟨34, _, rfl, by decide⟩
  · rw [h1, if_neg (by decide), if_neg (by decide)]
    obtain ⟨c, t, e, hc⟩ := decS_head (n := n.v.x)
    exact ⟨c, t ++ [58] ++ decS n.v.y, by rw [e]; rfl, hd_ok hc⟩
theorem name_ok : ∀ k : Int, (k = 0 ∨ k = 1 ∨ k = 2 ∨ k = 3 ∨ k = 4) → nameI (nameT k) = k ∧ (∀ c, c ∈ nameT k → lt c = true) ∧ ∃ c t, nameT k = c :: t ∧ c ≠ 32 ∧ c ≠ 40 ∧ c ≠ 41 := by
  rintro k (rfl | rfl | rfl | rfl | rfl)
  · exact ⟨by decide, by decide, _, _, rfl, by decide⟩
  · exact ⟨by decide, by decide, _, _, rfl, by decide⟩
  · exact ⟨by decide, by decide, _, _, rfl, by decide⟩
  · exact ⟨by decide, by decide, _, _, rfl, by decide⟩
  · exact ⟨by decide, by decide, _, _, rfl, by decide⟩
theorem op_cs {op : Int} (h : isOp op = true) : op = 2 ∨ op = 3 ∨ op = 4 ∨ op = 5 ∨ op = 6 ∨ op = 7 ∨ op = 8 ∨ op = 9 ∨ op = 10 ∨ op = 11 ∨ op = 12 ∨ op = 13 ∨ op = 14 ∨ op = 15 ∨ op = 16 ∨ op = 17 ∨ op = 18 ∨ op = 19 ∨ op = 20 ∨ op = 21 ∨ op = 22 ∨ op = 23 ∨ op = 24 ∨ op = 25 ∨ op = 26 ∨ op = 27 ∨ op = 28 ∨ op = 29 := by
  unfold isOp at h
  simp only [Bool.and_eq_true, decide_eq_true_eq] at h
  omega
theorem kind_ok {op : Int} (h : isOp op = true) : kindI (wordM op) = op - 2 ∧ ∀ c, c ∈ wordM op → lt c = true := by
  rcases op_cs h with rfl | rfl | rfl | rfl | rfl | rfl | rfl | rfl | rfl | rfl | rfl | rfl | rfl | rfl | rfl | rfl | rfl | rfl | rfl | rfl | rfl | rfl | rfl | rfl | rfl | rfl | rfl | rfl <;> exact ⟨by decide, by decide⟩
theorem single_leaf {s rest : Bytes} {j : Nat} {n : Nd} (ha : aloneM n = true) (hd : s.drop j = leafT n ++ rest) (hr : endT rest) : ∃ c, s[j]? = some c ∧ c ≠ 32 ∧ c ≠ 40 ∧ c ≠ 41 ∧ singleX s j c = .ok (n, j + (leafT n).length) := by
  rcases (alone_op ha).2 with h0 | h1
  · obtain ⟨c, t, e, c1, c2, c3, c4⟩ := leaf_lit ha h0
    have hd' := hd
    rw [e, List.cons_append] at hd'
    refine ⟨c, (drop_hd hd').1, c1, c2, c3, ?_⟩
    unfold singleX
    rw [c4, if_neg (by decide), hd]
    have hw := parse_write (v := n.v) (alone_ok ha) (endT_N hr)
    have hl : leafT n = writeV n.v.k n.v.n n.v.s n.v.x n.v.y := by unfold leafT; rw [if_pos h0]
    rw [hl, hw]
    simp only
    congr 2
    cases n
    simp only at h0
    rw [h0]
  · have hv := alone_name ha h1
    obtain ⟨k1, k2, c, t, e, c1, c2, c3⟩ := name_ok n.v.n hv
    have hl : leafT n = nameT n.v.n := by unfold leafT; rw [if_neg (by rw [h1]; decide)]
    rw [hl] at hd ⊢
    have hd' := hd
    rw [e, List.cons_append] at hd'
    refine ⟨c, (drop_hd hd').1, c1, c2, c3, ?_⟩
    have hw : wordAt s j = nameT n.v.n := by unfold wordAt; rw [hd, tw_word k2 hr]
    have hm : letM s j = j + (nameT n.v.n).length := by unfold letM; rw [hd, tw_word k2 hr]
    unfold singleX
    rw [k2 c (by rw [e]; simp), if_pos rfl, hw, k1, if_neg (by omega), hm]
    have hal := ha
    unfold aloneM at hal
    rw [if_pos h1] at hal
    simp only [Bool.and_eq_true, decide_eq_true_eq, beq_iff_eq] at hal
    have hok := hal.1.1.2
    have hk := hal.1.1.1
    congr 2
    obtain ⟨op, k, m, str, x, y⟩ := n
    simp only at h1 hk
    subst h1
    subst hk
    rcases right_cases hok with ⟨_, _, q1, q2, q3⟩ | ⟨q, _⟩ | ⟨q, _⟩
    · simp only at q1 q2 q3
      rw [q1, q2, q3]
    · cases q
    · cases q
end Go.Proofs.Ytkedlkcknhinoaa.G

namespace Go.Proofs.Ytkedlkcknhinoaa.G
open Go.BX
set_option linter.unusedSimpArgs false
set_option linter.unusedVariables false
section
variable {s : Bytes} {out : List Nd} {st : List Nat} {i j : Nat} {r : AV}
theorem rd_leaf {n : Nd} {rest : Bytes} (hs : s.length ≤ 1000000) (hi : i ≤ s.length) (hj : blankM s i = j) (ha : aloneM n = true) (hd : s.drop j = leafT n ++ rest) (hr : endT rest) (hm : out.length < 400) (hn : st.length ≤ 24) (hp : DoneP s (out ++ [n]) st (j + (leafT n).length) r) : PartP s out st i r := by
  obtain ⟨c, h1, h2, h3, h4, h5⟩ := single_leaf ha hd hr
  subst hj
  exact p_single_ok hs hi h1 (fun h => absurd h h4) hm hn h3 h5 hp
theorem zero_nd {n : Nd} (hz : zeroV n.v = true) : n = ndO n.op := by
  obtain ⟨op, k, m, str, x, y⟩ := n
  unfold zeroV at hz
  simp only [Bool.and_eq_true, beq_iff_eq] at hz
  obtain ⟨h1, h2, h3, h4, h5⟩ := hz
  subst h1 h2 h3 h4 h5
  rfl
theorem endT_spread (cs : List Bytes) (rest : Bytes) : endT (spread cs ++ 41 :: rest) := by
  cases cs with
  | nil => exact .inr ⟨41, rest, rfl, .inr rfl⟩
  | cons b bs => rw [spread_cons]; exact .inr ⟨32, _, rfl, .inl rfl⟩
theorem rd_node {n : Nd} {cs : List Bytes} {rest : Bytes} (hs : s.length ≤ 1000000) (hi : i ≤ s.length) (hj : blankM s i = j) (ho : isOp n.op = true) (hz : zeroV n.v = true) (hd : s.drop j = nodeT n cs ++ rest) (hm : out.length < 400) (hn : st.length ≤ 24)
    (hp : ∀ p, s.drop p = spread cs ++ 41 :: rest → p + (spread cs).length + 1 = j + (nodeT n cs).length → PartP s (out ++ [n]) (partsM n.op :: st) p r) : PartP s out st i r := by
  have e : nodeT n cs ++ rest = 40 :: (wordM n.op ++ (spread cs ++ 41 :: rest)) := by simp [nodeT, spread]
  rw [e] at hd
  obtain ⟨h1, h2, h3⟩ := drop_hd hd
  obtain ⟨k1, k2⟩ := kind_ok ho
  have hw : wordAt s (j + 1) = wordM n.op := by unfold wordAt; rw [h2, tw_word k2 (endT_spread cs rest)]
  have hl : letM s (j + 1) = j + 1 + (wordM n.op).length := by unfold letM; rw [h2, tw_word k2 (endT_spread cs rest)]
  have ho' := ho
  unfold isOp at ho'
  simp only [Bool.and_eq_true, decide_eq_true_eq] at ho'
  have hop : openX s (j + 1) = .ok (n, j + 1 + (wordM n.op).length) := by
    unfold openX
    rw [hw, k1, if_neg (by omega), hl, show n.op - 2 + 2 = n.op by omega, ← zero_nd hz]
  subst hj
  refine p_open_ok hs hi h1 hm hn hop ⟨by omega, by omega⟩ ?_
  refine hp _ ?_ ?_
  · rw [← List.drop_drop, h2, List.drop_left]
  · unfold nodeT
    rw [List.length_cons, List.length_append, List.length_append, List.length_singleton]
    show _ = _ + ((wordM n.op).length + ((spread cs).length + 1) + 1)
    omega
end
theorem drop_len {s a b : Bytes} {i : Nat} (h : s.drop i = a ++ b) (ha : a ≠ []) : i + a.length ≤ s.length := by
  have := congrArg List.length h
  rw [List.length_drop, List.length_append] at this
  have := List.length_pos_iff.mpr ha
  omega
theorem rd_all {d k : Nat} {e : List Nd} {bs : List Bytes} (h : Es d k e bs) : ∀ {s rest : Bytes} {out : List Nd} {st : List Nat} {i : Nat} {r : AV}, s.length ≤ 1000000 → 1 ≤ k → k ≤ 1000 → s.drop i = spread bs ++ 41 :: rest → st.length + 1 + d ≤ 24 → out.length + e.length ≤ 400 → DoneP s (out ++ e) st (i + (spread bs).length + 1) r → PartP s out (k :: st) i r := by
  induction h with
  | nil => intro s rest out st i r hs h1; omega
  | @leaf d k n ls bs h hs ih =>
    intro s rest out st i r hsl hk hk2 hd hdep hout hp
    rw [spread_cons] at hd hp
    rw [List.cons_append, List.append_assoc] at hd
    obtain ⟨g1, g2, g3⟩ := drop_hd hd
    have hT : endT (spread bs ++ 41 :: rest) := endT_spread bs rest
    obtain ⟨c, h1, h2, h3, h4, h5⟩ := single_leaf h g2 hT
    have hne := (leaf_len h).2
    have hbl := blankM_one g1 h1 h2
    rw [List.length_cons] at hout
    refine rd_leaf hsl (by omega) hbl h g2 hT (by omega) (by rw [List.length_cons]; omega) ?_
    have hd2 : s.drop (i + 1 + (leafT n).length) = spread bs ++ 41 :: rest := by rw [← List.drop_drop, g2, List.drop_left]
    simp only [List.length_cons, List.length_append] at hp
    have hi2 := drop_len g2 hne
    by_cases hk0 : k = 0
    · subst hk0
      cases hs
      obtain ⟨q1, q2, q3⟩ := drop_hd (show s.drop (i + 1 + (leafT n).length) = 41 :: rest from hd2)
      have hb := blankM_here q1 (by decide)
      refine d_close hsl hi2 (by omega) (by rw [hb]; exact q1) ?_
      rw [hb]
      have e0 : (spread []).length = 0 := rfl
      rw [e0, show i + ((leafT n).length + 0 + 1) + 1 = i + 1 + (leafT n).length + 1 by omega] at hp
      exact hp
    · refine d_more (by omega) (by omega) (by omega) ?_
      rw [show k + 1 - 1 = k by omega]
      refine ih hsl (by omega) (by omega) hd2 hdep (by rw [List.length_append, List.length_singleton]; omega) ?_
      rw [List.append_assoc, List.singleton_append, show i + 1 + (leafT n).length + (spread bs).length + 1 = i + ((leafT n).length + (spread bs).length + 1) + 1 by omega]
      exact hp
  | @node d k n ps ls cs bs h hz hps hs ih1 ih2 =>
    intro s rest out st i r hsl hk hk2 hd hdep hout hp
    rw [spread_cons] at hd hp
    rw [List.cons_append, List.append_assoc] at hd
    obtain ⟨g1, g2, g3⟩ := drop_hd hd
    have hpp := parts_pos h
    have g4 : s.drop (i + 1) = 40 :: (wordM n.op ++ (spread cs ++ [41]) ++ (spread bs ++ 41 :: rest)) := by rw [g2]; simp [nodeT, spread]
    obtain ⟨g5, _, _⟩ := drop_hd g4
    have hbl := blankM_one g1 g5 (by decide)
    have hne : nodeT n cs ≠ [] := by unfold nodeT; simp
    have hi2 := drop_len g2 hne
    rw [List.length_cons, List.length_append] at hout
    refine rd_node hsl (by omega) hbl h hz g2 (by omega) (by rw [List.length_cons]; omega) ?_
    intro p hp1 hp2
    refine ih1 hsl hpp.1 (by omega) hp1 (by rw [List.length_cons]; omega) (by rw [List.length_append, List.length_singleton]; omega) ?_
    rw [hp2, List.append_assoc, List.singleton_append]
    have hd2 : s.drop (i + 1 + (nodeT n cs).length) = spread bs ++ 41 :: rest := by rw [← List.drop_drop, g2, List.drop_left]
    simp only [List.length_cons, List.length_append] at hp
    by_cases hk0 : k = 0
    · subst hk0
      cases hs
      obtain ⟨q1, q2, q3⟩ := drop_hd (show s.drop (i + 1 + (nodeT n cs).length) = 41 :: rest from hd2)
      have hb := blankM_here q1 (by decide)
      refine d_close hsl hi2 (by omega) (by rw [hb]; exact q1) ?_
      rw [hb]
      have e0 : (spread []).length = 0 := rfl
      rw [e0, show i + ((nodeT n cs).length + 0 + 1) + 1 = i + 1 + (nodeT n cs).length + 1 by omega, List.append_nil] at hp
      exact hp
    · refine d_more (by omega) (by omega) (by omega) ?_
      rw [show k + 1 - 1 = k by omega]
      refine ih2 hsl (by omega) (by omega) hd2 hdep (by simp only [List.length_append, List.length_cons]; omega) ?_
      rw [List.append_assoc, List.cons_append, show i + 1 + (nodeT n cs).length + (spread bs).length + 1 = i + ((nodeT n cs).length + (spread bs).length + 1) + 1 by omega]
      exact hp
theorem Parse_back {l : List Nd} {b : Bytes} (h : Es 24 1 l [b]) (hl : l.length ≤ 400) (hb : b.length ≤ 4096) : PCall Cx 14 [.str b] (.tuple [.vec 6 (l.map encN), .int .i64 0, .int .i64 0]) := by
  refine Parse_run hb ?_
  have hne : l ≠ [] := by
    have := h.len.1
    intro h0
    rw [h0] at this
    simp at this
  have fin : DoneP b l [] b.length (.tuple [.vec 6 (l.map encN), .int .i64 0, .int .i64 0]) := d_end (by omega) (Nat.le_refl _) (by unfold blankM; rw [List.drop_length]; rfl) hne
  cases h with
  | @leaf d k n ls bs h hs =>
    cases hs
    have hd : (leafT n).drop 0 = leafT n ++ [] := by rw [List.drop_zero, List.append_nil]
    obtain ⟨c, h1, h2, h3, h4, h5⟩ := single_leaf h hd (.inl rfl)
    refine rd_leaf (by omega) (Nat.zero_le _) (blankM_here h1 h2) h hd (.inl rfl) (by simp) (by simp) ?_
    rw [Nat.zero_add]
    exact fin
  | @node d k n ps ls cs bs h hz hps hs =>
    cases hs
    have hpp := parts_pos h
    have hd : (nodeT n cs).drop 0 = nodeT n cs ++ [] := by rw [List.drop_zero, List.append_nil]
    have g4 : (nodeT n cs).drop 0 = 40 :: (wordM n.op ++ (spread cs ++ [41])) := by rw [List.drop_zero]; simp [nodeT, spread]
    obtain ⟨g5, _, _⟩ := drop_hd g4
    refine rd_node (by omega) (Nat.zero_le _) (blankM_here g5 (by decide)) h hz hd (by simp) (by simp) ?_
    intro p hp1 hp2
    rw [List.append_nil] at fin hl
    rw [List.length_cons] at hl
    refine rd_all hps (by omega) hpp.1 (by omega) hp1 (by simp) (by simp; omega) ?_
    rw [hp2, Nat.zero_add]
    rw [List.append_nil]
    exact fin
end Go.Proofs.Ytkedlkcknhinoaa.G

namespace Go.Proofs.Ytkedlkcknhinoaa.G
open Go.BX
set_option linter.unusedSimpArgs false
set_option linter.unusedVariables false
theorem awake08_ok : PCall Cx 7 [] (.bool true) := ⟨3000, by kernel_rfl⟩
theorem slice_vec {l : List Nd} {x n : Nat} (h : x + n ≤ l.length) : sliceA Cx 25 (.vec 6 (l.map encN)) (some (.int .i64 (x : Int))) (some (.int .i64 ((x + n : Nat) : Int))) none = some (.vec 6 (((l.drop x).take n).map encN)) := by
  unfold sliceA
  rw [TT_25]
  have hs : sizeT Cx 37 = some 6 := by unfold sizeT; rw [TT_37]; rfl
  simp only [hs, if_pos, bnds, bound, evo, List.length_map]
  rw [if_pos (by omega)]
  simp only [Int.toNat_natCast]
  rw [if_pos (by omega)]
  simp only [Option.map_some, Option.some.injEq, AV.vec.injEq, true_and]
  rw [← List.map_take, ← List.map_drop, List.drop_take, show x + n - x = n by omega]
def PXE (l : List Nd) (k fin : Nat) (i pos : Nat) : Prop :=
  ∀ (T : Nat → AV) (H : AHeap), T 5 = .vec 6 (l.map encN) → T 6 = .int .i64 (fin : Int) → T 9 = .int .i64 (k : Int) → T 11 = .int .i64 (pos : Int) → T 12 = .int .i64 (i : Int) →
    Run Cx 3 T [] none [.inLoop c3_39, .inBlock 0, .code c3_59] H (fun r0 H' => BX.freeze H' r0 = some (.bool true))
theorem px_all {l : List Nd} (hn : numL l) (hr : rightM l = true) {k fin : Nat} (hk : k ≤ 3) : ∀ (j i pos : Nat) (d : Nat) (cs : List Nd) (bs : List Bytes) (post : List Nd), i + j = k → Es d j cs bs → l.drop pos = cs ++ post → fin = pos + cs.length → PXE l k fin i pos := by
  intro j
  induction j with
  | zero =>
    intro i pos d cs bs post hij hs hd hf T H t5 t6 t9 t11 t12
    cases hs
    rw [run_inLoop]
    have hf' : fin = pos := by simpa using hf
    subst hf'
    have c0 : ¬ (i : Int) < (k : Int) := by omega
    simp only [t5, t6, t9, t11, t12, c0, beq_self_eq_true, run_exit_start, exit_here, exit_code, exit_inLoop, run_inBlock, n3_0, n3_1, n3_2, n3_3, n3_4, n3_5, n3_6, n3_7, n3_8, n3_9, n3_10, n3_11, n3_12, n3_13, n3_14, n3_15, n3_16, n3_17, n3_18, n3_19, n3_20, n3_21, n3_22, n3_23, n3_24, n3_25, n3_26, n3_27, n3_28, n3_29, n3_30, n3_31, n3_32, n3_33, n3_34, n3_35, n3_36, n3_37, n3_38, n3_39, n3_40, n3_41, n3_42, n3_43, n3_44, n3_45, n3_46, n3_47, n3_48, n3_49, n3_50, n3_51, n3_52, n3_53, n3_54, n3_55, n3_56, n3_57, n3_58, n3_59, n3_60, n3_61, o3_1, o3_4, o3_7, o3_11, o3_13, o3_16, o3_19, o3_24, o3_27, o3_31, o3_33, o3_36, o3_41, o3_48, o3_51, o3_54, o3_57, o3_58, o3_60, res3, TT_3, TT_4, TT_5, TT_9, TT_21, TT_22, TT_25, TT_33, TT_35, TT_37, TT_39, TT_47, TT_52, TT_56, TT_59, TT_60, TT_62, TT_63, TT_65, TT_73, TT_77, TT_82, TT_84, bb, primP, primM, ev, evs, parts_, ofConst, bin, un, intBin, putA, enterT, Nat.reduceEqDiff, Nat.reduceAdd, Nat.reduceMul, Nat.reduceLeDiff, Nat.reduceLT, ↓reduceIte, reduceCtorEq, RunRes, resultsA, oneOf, AV.plain, AV.cells, AHeap.push, AHeap.set, AHeap.empty, fieldOf, loadA, storeA, BX.part, TK.isAgg, convA, builtinA, inertB, builtinP, buildA, fillA, splice, eqv, cellsEq, sizeT, adT, ldT, fwT, Nat.reduceBeqDiff, Nat.reduceBneDiff, Int.reduceBNe, Int.reduceBEq, Int.reduceEq, Int.reduceLT, Int.reduceLE, Int.reduceAdd, Int.reduceSub, Int.reduceMul, Int.reduceNeg, strBin, indexAddrA, elems, lenOf, chunk, List.reduceReplicate, Int.reduceToNat]
  | succ j ih =>
    intro i pos d cs bs post hij hs hd hf T H t5 t6 t9 t11 t12
    obtain ⟨e, ls, b, bs', rfl, rfl, he, hls⟩ := hs.split
    rw [List.append_assoc] at hd
    have hel := he.len.1
    have hlt : pos < l.length := by
      rcases Nat.lt_or_ge pos l.length with h | h
      · exact h
      · rw [List.drop_of_length_le h] at hd
        have := congrArg List.length hd
        simp only [List.length_nil, List.length_append] at this
        omega
    have hle := (right_iff.mp hr).1
    have hd2 : l.drop (pos + e.length) = ls ++ post := by rw [← List.drop_drop, hd, List.drop_left]
    have hel2 : e.length ≤ l.length := by
      have := congrArg List.length hd
      simp only [List.length_append, List.length_drop] at this
      omega
    have hy := End_yes hn hr he hlt hd
    rw [run_inLoop]
    have c0 : (i : Int) < (k : Int) := by omega
    have c1 : ¬ ((pos + e.length : Nat) : Int) ≤ (pos : Int) := by omega
    have w1 : IntKind.i64.wrap ((i : Int) + 1) = ((i + 1 : Nat) : Int) := by rw [wr64 (by omega) (by omega)]; omega
    simp only [t5, t6, t9, t11, t12, c0, c1, w1, call_pure pure10 rfl hy, run_exit_start, exit_here, exit_code, exit_inLoop, run_inBlock, n3_0, n3_1, n3_2, n3_3, n3_4, n3_5, n3_6, n3_7, n3_8, n3_9, n3_10, n3_11, n3_12, n3_13, n3_14, n3_15, n3_16, n3_17, n3_18, n3_19, n3_20, n3_21, n3_22, n3_23, n3_24, n3_25, n3_26, n3_27, n3_28, n3_29, n3_30, n3_31, n3_32, n3_33, n3_34, n3_35, n3_36, n3_37, n3_38, n3_39, n3_40, n3_41, n3_42, n3_43, n3_44, n3_45, n3_46, n3_47, n3_48, n3_49, n3_50, n3_51, n3_52, n3_53, n3_54, n3_55, n3_56, n3_57, n3_58, n3_60, n3_61, o3_1, o3_4, o3_7, o3_11, o3_13, o3_16, o3_19, o3_24, o3_27, o3_31, o3_33, o3_36, o3_41, o3_48, o3_51, o3_54, o3_57, o3_58, o3_60, res3, TT_3, TT_4, TT_5, TT_9, TT_21, TT_22, TT_25, TT_33, TT_35, TT_37, TT_39, TT_47, TT_52, TT_56, TT_59, TT_60, TT_62, TT_63, TT_65, TT_73, TT_77, TT_82, TT_84, bb, primP, primM, ev, evs, parts_, ofConst, bin, un, intBin, putA, enterT, Nat.reduceEqDiff, Nat.reduceAdd, Nat.reduceMul, Nat.reduceLeDiff, Nat.reduceLT, ↓reduceIte, reduceCtorEq, RunRes, resultsA, oneOf, AV.plain, AV.cells, AHeap.push, AHeap.set, AHeap.empty, fieldOf, loadA, storeA, BX.part, TK.isAgg, convA, builtinA, inertB, builtinP, buildA, fillA, splice, eqv, cellsEq, sizeT, adT, ldT, fwT, Nat.reduceBeqDiff, Nat.reduceBneDiff, Int.reduceBNe, Int.reduceBEq, Int.reduceEq, Int.reduceLT, Int.reduceLE, Int.reduceAdd, Int.reduceSub, Int.reduceMul, Int.reduceNeg, strBin, indexAddrA, elems, lenOf, chunk, List.reduceReplicate, Int.reduceToNat]
    refine ih (i + 1) (pos + e.length) d ls bs' post (by omega) hls hd2 (by rw [hf, List.length_append]; omega) _ _ ?_ ?_ ?_ ?_ ?_
    all_goals simp only [upd_app, t5, t6, t9, Nat.reduceEqDiff, ↓reduceIte]
theorem ExprEnds_ok {v : AV} {l : List Nd} {at_ : Int} (hv : InN v l) (hn : numL l) (hl : l.length ≤ maxLen) (h1 : -9223372036854775808 ≤ at_) (h2 : at_ ≤ 9223372036854775807) : PCall Cx 3 [v, .int .i64 at_] (.bool true) := by
  refine pcall_run (noext _) body3 ?_
  have f0 : [v].all AV.flat = true := by simp [hv.flat]
  obtain ⟨b, hb, hfew⟩ := few_ok hv
  cases b with
  | false =>
    simp only [call_pure pure7 rfl awake08_ok, call_pure pure8 f0 hfew, n3_0, n3_1, n3_2, n3_3, n3_4, n3_5, n3_6, n3_7, n3_8, n3_9, n3_10, n3_11, n3_12, n3_13, n3_14, n3_15, n3_16, n3_17, n3_18, n3_19, n3_20, n3_21, n3_22, n3_23, n3_24, n3_25, n3_26, n3_27, n3_28, n3_29, n3_30, n3_31, n3_32, n3_33, n3_34, n3_35, n3_36, n3_37, n3_38, n3_39, n3_40, n3_41, n3_42, n3_43, n3_44, n3_45, n3_46, n3_47, n3_48, n3_49, n3_50, n3_51, n3_52, n3_53, n3_54, n3_55, n3_56, n3_57, n3_58, n3_59, n3_60, n3_61, o3_1, o3_4, o3_7, o3_11, o3_13, o3_16, o3_19, o3_24, o3_27, o3_31, o3_33, o3_36, o3_41, o3_48, o3_51, o3_54, o3_57, o3_58, o3_60, res3, TT_3, TT_4, TT_5, TT_9, TT_21, TT_22, TT_25, TT_33, TT_35, TT_37, TT_39, TT_47, TT_52, TT_56, TT_59, TT_60, TT_62, TT_63, TT_65, TT_73, TT_77, TT_82, TT_84, bb, primP, primM, ev, evs, parts_, ofConst, bin, un, intBin, putA, enterT, Nat.reduceEqDiff, Nat.reduceAdd, Nat.reduceMul, Nat.reduceLeDiff, Nat.reduceLT, ↓reduceIte, reduceCtorEq, RunRes, resultsA, oneOf, AV.plain, AV.cells, AHeap.push, AHeap.set, AHeap.empty, fieldOf, loadA, storeA, BX.part, TK.isAgg, convA, builtinA, inertB, builtinP, buildA, fillA, splice, eqv, cellsEq, sizeT, adT, ldT, fwT, Nat.reduceBeqDiff, Nat.reduceBneDiff, Int.reduceBNe, Int.reduceBEq, Int.reduceEq, Int.reduceLT, Int.reduceLE, Int.reduceAdd, Int.reduceSub, Int.reduceMul, Int.reduceNeg, strBin, indexAddrA, elems, lenOf, chunk, List.reduceReplicate, Int.reduceToNat]
  | true =>
    have hl450 := hb rfl
    obtain ⟨w, hw, hof⟩ := Of_ok hv (by omega)
    have fw : [w, AV.int .i64 at_].all AV.flat = true := by simp only [List.all_cons, List.all_nil, hw.flat, Bool.and_true, Bool.true_and]; rfl
    by_cases hno : at_ < 0 ∨ (l.length : Int) ≤ at_ ∨ rightM l = false
    · have he := End_no hw hn (by omega) hno
      simp only [call_pure pure7 rfl awake08_ok, call_pure pure8 f0 hfew, call_pure pure9 f0 hof, call_pure pure10 fw he, n3_0, n3_1, n3_2, n3_3, n3_4, n3_5, n3_6, n3_7, n3_8, n3_9, n3_10, n3_11, n3_12, n3_13, n3_14, n3_15, n3_16, n3_17, n3_18, n3_19, n3_20, n3_21, n3_22, n3_23, n3_24, n3_25, n3_26, n3_27, n3_28, n3_29, n3_30, n3_31, n3_32, n3_33, n3_34, n3_35, n3_36, n3_37, n3_38, n3_39, n3_40, n3_41, n3_42, n3_43, n3_44, n3_45, n3_46, n3_47, n3_48, n3_49, n3_50, n3_51, n3_52, n3_53, n3_54, n3_55, n3_56, n3_57, n3_58, n3_59, n3_60, n3_61, o3_1, o3_4, o3_7, o3_11, o3_13, o3_16, o3_19, o3_24, o3_27, o3_31, o3_33, o3_36, o3_41, o3_48, o3_51, o3_54, o3_57, o3_58, o3_60, res3, TT_3, TT_4, TT_5, TT_9, TT_21, TT_22, TT_25, TT_33, TT_35, TT_37, TT_39, TT_47, TT_52, TT_56, TT_59, TT_60, TT_62, TT_63, TT_65, TT_73, TT_77, TT_82, TT_84, bb, primP, primM, ev, evs, parts_, ofConst, bin, un, intBin, putA, enterT, Nat.reduceEqDiff, Nat.reduceAdd, Nat.reduceMul, Nat.reduceLeDiff, Nat.reduceLT, ↓reduceIte, reduceCtorEq, RunRes, resultsA, oneOf, AV.plain, AV.cells, AHeap.push, AHeap.set, AHeap.empty, fieldOf, loadA, storeA, BX.part, TK.isAgg, convA, builtinA, inertB, builtinP, buildA, fillA, splice, eqv, cellsEq, sizeT, adT, ldT, fwT, Nat.reduceBeqDiff, Nat.reduceBneDiff, Int.reduceBNe, Int.reduceBEq, Int.reduceEq, Int.reduceLT, Int.reduceLE, Int.reduceAdd, Int.reduceSub, Int.reduceMul, Int.reduceNeg, strBin, indexAddrA, elems, lenOf, chunk, List.reduceReplicate, Int.reduceToNat]
    · simp only [not_or, Int.not_lt, Int.not_le, Bool.not_eq_false] at hno
      obtain ⟨n1, n2, hr⟩ := hno
      obtain ⟨x, rfl⟩ : ∃ x : Nat, at_ = (x : Int) := ⟨at_.toNat, by omega⟩
      have hx : x < l.length := by omega
      have hle := (right_iff.mp hr).1
      obtain ⟨_, bt, hall⟩ := right_iff.mp hr
      obtain ⟨d', e, post, be, hd, he, hd24⟩ := hall.at x hx
      have hne : l ≠ [] := by intro h; rw [h] at hx; simp at hx
      obtain rfl := hw.vec hne
      have hy := End_yes hn hr he hx hd
      have hel := he.len.1
      have hlen := congrArg List.length hd
      simp only [List.length_append, List.length_drop] at hlen
      have hsl := slice_vec (l := l) (x := x) (n := e.length) (by omega)
      have htk : (l.drop x).take e.length = e := by rw [hd, List.take_left]
      rw [htk] at hsl
      have hne2 : numL e := by
        intro n hm
        refine hn n ?_
        have : n ∈ l.drop x := by rw [hd]; simp [hm]
        exact List.mem_of_mem_drop this
      have hre : rightM e = true := right_iff.mpr ⟨by omega, be, he.up hd24⟩
      have hro := ERight_ok (v := .vec 6 (e.map encN)) (.inr rfl) hne2 (by omega)
      rw [hre] at hro
      have p0 : (0 : Int) ≤ (x : Int) := by omega
      have l0 : (x : Int) < ((l.map encN).length : Int) := by rw [List.length_map]; omega
      have g0 := encN_get hx
      have hpa := Parts_ok (l[x]).op (hn _ (List.getElem_mem hx)).1 (hn _ (List.getElem_mem hx)).2
      have w1 : IntKind.i64.wrap ((x : Int) + 1) = ((x + 1 : Nat) : Int) := by rw [wr64 (by omega) (by omega)]; omega
      simp only [p0, l0, g0, w1, hsl, evo, Int.toNat_natCast, call_pure pure7 rfl awake08_ok, call_pure pure8 f0 hfew, call_pure pure9 f0 hof, call_pure pure10 fw hy, call_pure pure11 rfl hro, call_pure pure12 rfl hpa, n3_0, n3_1, n3_2, n3_3, n3_4, n3_5, n3_6, n3_7, n3_8, n3_9, n3_10, n3_11, n3_12, n3_13, n3_14, n3_15, n3_16, n3_17, n3_18, n3_19, n3_20, n3_21, n3_22, n3_23, n3_24, n3_25, n3_26, n3_27, n3_28, n3_29, n3_30, n3_31, n3_32, n3_33, n3_34, n3_35, n3_36, n3_37, n3_38, n3_40, n3_41, n3_42, n3_43, n3_44, n3_45, n3_46, n3_47, n3_48, n3_49, n3_50, n3_51, n3_52, n3_53, n3_54, n3_55, n3_56, n3_57, n3_58, n3_60, n3_61, o3_1, o3_4, o3_7, o3_11, o3_13, o3_16, o3_19, o3_24, o3_27, o3_31, o3_33, o3_36, o3_41, o3_48, o3_51, o3_54, o3_57, o3_58, o3_60, res3, TT_3, TT_4, TT_5, TT_9, TT_21, TT_22, TT_25, TT_33, TT_35, TT_37, TT_39, TT_47, TT_52, TT_56, TT_59, TT_60, TT_62, TT_63, TT_65, TT_73, TT_77, TT_82, TT_84, bb, primP, primM, ev, evs, parts_, ofConst, bin, un, intBin, putA, enterT, Nat.reduceEqDiff, Nat.reduceAdd, Nat.reduceMul, Nat.reduceLeDiff, Nat.reduceLT, ↓reduceIte, reduceCtorEq, RunRes, resultsA, oneOf, AV.plain, AV.cells, AHeap.push, AHeap.set, AHeap.empty, fieldOf, loadA, storeA, BX.part, TK.isAgg, convA, builtinA, inertB, builtinP, buildA, fillA, splice, eqv, cellsEq, sizeT, adT, ldT, fwT, Nat.reduceBeqDiff, Nat.reduceBneDiff, Int.reduceBNe, Int.reduceBEq, Int.reduceEq, Int.reduceLT, Int.reduceLE, Int.reduceAdd, Int.reduceSub, Int.reduceMul, Int.reduceNeg, strBin, indexAddrA, elems, lenOf, chunk, List.reduceReplicate, Int.reduceToNat]
      have hcs : ∃ d cs bs, Es d (partsM (l[x]).op) cs bs ∧ l.drop (x + 1) = cs ++ post ∧ x + e.length = (x + 1) + cs.length ∧ partsM (l[x]).op ≤ 3 := by
        cases he with
        | leaf h hs =>
          cases hs
          obtain ⟨_, hg, hd2⟩ := drop_nd hd
          refine ⟨0, [], [], ?_, hd2, rfl, ?_⟩
          · rw [hg, (parts_no (alone_op h).1).1]; exact .nil _
          · rw [hg, (parts_no (alone_op h).1).1]; omega
        | node h hz hp hs =>
          cases hs
          rw [List.append_nil, List.cons_append] at hd
          obtain ⟨_, hg, hd2⟩ := drop_nd hd
          refine ⟨_, _, _, by rw [hg]; exact hp, hd2, ?_, ?_⟩
          · simp only [List.append_nil, List.length_cons]; omega
          · rw [hg]; exact (parts_pos h).2
      obtain ⟨d, cs, bs, c1, c2, c3, c4⟩ := hcs
      refine px_all hn hr c4 (partsM (l[x]).op) 0 (x + 1) d cs bs post (by omega) c1 c2 c3 _ _ ?_ ?_ ?_ ?_ ?_
      all_goals simp only [upd_app, enterT, List.getElem?_cons_zero, List.getElem?_cons_succ, Option.getD_some, Nat.reduceEqDiff, ↓reduceIte]
      all_goals rfl
end Go.Proofs.Ytkedlkcknhinoaa.G

namespace Go.Proofs.Ytkedlkcknhinoaa.G
open Go.BX
set_option linter.unusedSimpArgs false
set_option linter.unusedVariables false
theorem nslR : isSl Cx 22 52 := ⟨_, TT_22, rfl⟩
theorem ntiR : ∃ ti, Cx.TT 52 = some ti ∧ ti.size = 6 ∧ ti.bytes = 56 := ⟨_, TT_52, rfl, rfl⟩
theorem pl_all {l : List Nd} {Q : AV → AHeap → Prop} (hl : l.length ≤ 100000) (hQ : ∀ d h A, BufN 52 d h A l → Q d ⟨h, A⟩) :
    ∀ (j i : Nat) (T : Nat → AV) (h : Nat) (A : Nat → Blk), i + j = l.length → T 0 = .vec 6 (l.map encN) → T 4 = .int .i64 (i : Int) → BufN 52 (T 3) h A (l.take i) →
      Run Cx 16 T [] none [.inLoop c16_9, .inBlock 0, .code c16_19] ⟨h, A⟩ Q
  | 0, i, T, h, A, hij, t0, t4, hb => by
    rw [run_inLoop]
    have c0 : ¬ (i : Int) < ((l.map encN).length : Int) := by rw [List.length_map]; omega
    rw [List.take_of_length_le (by omega)] at hb
    simp only [t0, t4, c0, lenOf, i64, run_exit_start, exit_here, exit_code, exit_inLoop, run_inBlock, n16_0, n16_1, n16_2, n16_3, n16_4, n16_5, n16_6, n16_7, n16_8, n16_9, n16_10, n16_11, n16_12, n16_13, n16_14, n16_15, n16_16, n16_17, n16_18, n16_19, n16_20, n16_21, o16_1, o16_3, o16_6, o16_11, o16_17, o16_18, o16_20, res16, TT_3, TT_4, TT_5, TT_9, TT_21, TT_22, TT_25, TT_33, TT_35, TT_37, TT_39, TT_47, TT_52, TT_56, TT_59, TT_60, TT_62, TT_63, TT_65, TT_73, TT_77, TT_82, TT_84, bb, primP, primM, ev, evs, parts_, ofConst, bin, un, intBin, putA, enterT, Nat.reduceEqDiff, Nat.reduceAdd, Nat.reduceMul, Nat.reduceLeDiff, Nat.reduceLT, ↓reduceIte, reduceCtorEq, RunRes, resultsA, oneOf, AV.plain, AV.cells, AHeap.push, AHeap.set, AHeap.empty, fieldOf, loadA, storeA, BX.part, TK.isAgg, convA, builtinA, inertB, builtinP, buildA, fillA, splice, eqv, cellsEq, sizeT, adT, ldT, fwT, Nat.reduceBeqDiff, Nat.reduceBneDiff, Int.reduceBNe, Int.reduceBEq, Int.reduceEq, Int.reduceLT, Int.reduceLE, Int.reduceAdd, Int.reduceSub, Int.reduceMul, Int.reduceNeg, strBin, indexAddrA, elems, lenOf, chunk, List.reduceReplicate, Int.reduceToNat]
    exact hQ _ _ _ hb
  | j + 1, i, T, h, A, hij, t0, t4, hb => by
    rw [run_inLoop]
    have hi : i < l.length := by omega
    have c0 : (i : Int) < ((l.map encN).length : Int) := by rw [List.length_map]; omega
    have p0 : (0 : Int) ≤ (i : Int) := by omega
    have g0 := encN_get hi
    have w1 : IntKind.i64.wrap ((i : Int) + 1) = ((i + 1 : Nat) : Int) := by rw [wr64 (by omega) (by omega)]; omega
    have htk : (l.take i).map encN ++ [encN l[i]] = (l.take (i + 1)).map encN := by rw [List.take_succ_eq_append_getElem hi, List.map_append]; rfl
    have hle : (l.take i).length = i := by rw [List.length_take]; omega
    have hle2 : (l.take (i + 1)).length = i + 1 := by rw [List.length_take]; omega
    rcases hb with ⟨t3, hnil⟩ | ⟨g, t3, hg, hA⟩
    · have hi0 : i = 0 := by rw [hnil] at hle; simpa using hle.symm
      subst hi0
      have ha := app_nil (C := Cx) (n := h) (A := A) (row := encN l[0]) nslR ntiR (show 56 ≤ most by decide)
      replace t4 : T 4 = .int .i64 0 := t4
      simp only [Int.cast_ofNat_Int, Int.zero_add] at c0 p0 w1
      simp only [t0, t3, t4, c0, g0, ha, w1, Int.le_refl, lenOf, i64, runVH_some, Int.toNat_zero, run_exit_start, exit_here, exit_code, exit_inLoop, run_inBlock, n16_0, n16_1, n16_2, n16_3, n16_4, n16_5, n16_6, n16_7, n16_8, n16_9, n16_10, n16_11, n16_12, n16_13, n16_14, n16_15, n16_16, n16_17, n16_18, n16_20, n16_21, o16_1, o16_3, o16_6, o16_11, o16_17, o16_18, o16_20, res16, TT_3, TT_4, TT_5, TT_9, TT_21, TT_22, TT_25, TT_33, TT_35, TT_37, TT_39, TT_47, TT_52, TT_56, TT_59, TT_60, TT_62, TT_63, TT_65, TT_73, TT_77, TT_82, TT_84, bb, primP, primM, ev, evs, parts_, ofConst, bin, un, intBin, putA, enterT, Nat.reduceEqDiff, Nat.reduceAdd, Nat.reduceMul, Nat.reduceLeDiff, Nat.reduceLT, ↓reduceIte, reduceCtorEq, RunRes, resultsA, oneOf, AV.plain, AV.cells, AHeap.push, AHeap.set, AHeap.empty, fieldOf, loadA, storeA, BX.part, TK.isAgg, convA, builtinA, inertB, builtinP, buildA, fillA, splice, eqv, cellsEq, sizeT, adT, ldT, fwT, Nat.reduceBeqDiff, Nat.reduceBneDiff, Int.reduceBNe, Int.reduceBEq, Int.reduceEq, Int.reduceLT, Int.reduceLE, Int.reduceAdd, Int.reduceSub, Int.reduceMul, Int.reduceNeg, strBin, indexAddrA, elems, lenOf, chunk, List.reduceReplicate, Int.reduceToNat]
      refine pl_all hl hQ j 1 _ _ _ (by omega) ?_ ?_ (.inr ⟨h + 1, ?_, ?_, ?_⟩)
      · simp only [upd_app, t0, Nat.reduceEqDiff, ↓reduceIte]
      · simp only [upd_app, Nat.reduceEqDiff, ↓reduceIte] <;> rfl
      · rw [hle2]; simp only [upd_app, Nat.reduceEqDiff, ↓reduceIte]
      · omega
      · rw [← htk]; simp only [upd_app, ↓reduceIte]; rfl
    · rw [hle] at t3
      have hcl : ((l.take i).map encN).length = i := by rw [List.length_map, hle]
      have ha := app_row (C := Cx) (g := g) (n := h) (A := A) (es := (l.take i).map encN) (row := encN l[i]) nslR ntiR hA (by omega) (by rw [hcl]; unfold most; omega) (by rw [hcl]; unfold most; omega)
      rw [hcl, htk] at ha
      simp only [t0, t3, t4, c0, p0, g0, ha, w1, lenOf, i64, runVH_some, Int.toNat_natCast, run_exit_start, exit_here, exit_code, exit_inLoop, run_inBlock, n16_0, n16_1, n16_2, n16_3, n16_4, n16_5, n16_6, n16_7, n16_8, n16_9, n16_10, n16_11, n16_12, n16_13, n16_14, n16_15, n16_16, n16_17, n16_18, n16_20, n16_21, o16_1, o16_3, o16_6, o16_11, o16_17, o16_18, o16_20, res16, TT_3, TT_4, TT_5, TT_9, TT_21, TT_22, TT_25, TT_33, TT_35, TT_37, TT_39, TT_47, TT_52, TT_56, TT_59, TT_60, TT_62, TT_63, TT_65, TT_73, TT_77, TT_82, TT_84, bb, primP, primM, ev, evs, parts_, ofConst, bin, un, intBin, putA, enterT, Nat.reduceEqDiff, Nat.reduceAdd, Nat.reduceMul, Nat.reduceLeDiff, Nat.reduceLT, ↓reduceIte, reduceCtorEq, RunRes, resultsA, oneOf, AV.plain, AV.cells, AHeap.push, AHeap.set, AHeap.empty, fieldOf, loadA, storeA, BX.part, TK.isAgg, convA, builtinA, inertB, builtinP, buildA, fillA, splice, eqv, cellsEq, sizeT, adT, ldT, fwT, Nat.reduceBeqDiff, Nat.reduceBneDiff, Int.reduceBNe, Int.reduceBEq, Int.reduceEq, Int.reduceLT, Int.reduceLE, Int.reduceAdd, Int.reduceSub, Int.reduceMul, Int.reduceNeg, strBin, indexAddrA, elems, lenOf, chunk, List.reduceReplicate, Int.reduceToNat]
      refine pl_all hl hQ j (i + 1) _ _ _ (by omega) ?_ ?_ (.inr ⟨h + 1, ?_, ?_, ?_⟩)
      · simp only [upd_app, t0, Nat.reduceEqDiff, ↓reduceIte]
      · simp only [upd_app, Nat.reduceEqDiff, ↓reduceIte]
      · rw [hle2]; simp only [upd_app, Nat.reduceEqDiff, ↓reduceIte]
      · omega
      · simp only [upd_app, ↓reduceIte]
theorem Plain_ok {v : AV} {l : List Nd} (hv : InN v l) (hl : l.length ≤ 100000) : ∃ w, InN w l ∧ PCall Cx 16 [v] w := by
  by_cases h0 : l = []
  · subst h0
    refine ⟨.nilS, .inl ⟨rfl, rfl⟩, ?_⟩
    rcases hv with ⟨rfl, _⟩ | rfl
    · exact ⟨60, by kernel_rfl⟩
    · exact ⟨60, by kernel_rfl⟩
  · obtain rfl := hv.vec h0
    refine pcall_ex (noext _) body16 ?_
    simp only [n16_0, n16_1, n16_2, n16_3, n16_4, n16_5, n16_6, n16_7, n16_8, n16_10, n16_11, n16_12, n16_13, n16_14, n16_15, n16_16, n16_17, n16_18, n16_20, n16_21, o16_1, o16_3, o16_6, o16_11, o16_17, o16_18, o16_20, res16, TT_3, TT_4, TT_5, TT_9, TT_21, TT_22, TT_25, TT_33, TT_35, TT_37, TT_39, TT_47, TT_52, TT_56, TT_59, TT_60, TT_62, TT_63, TT_65, TT_73, TT_77, TT_82, TT_84, bb, primP, primM, ev, evs, parts_, ofConst, bin, un, intBin, putA, enterT, Nat.reduceEqDiff, Nat.reduceAdd, Nat.reduceMul, Nat.reduceLeDiff, Nat.reduceLT, ↓reduceIte, reduceCtorEq, RunRes, resultsA, oneOf, AV.plain, AV.cells, AHeap.push, AHeap.set, AHeap.empty, fieldOf, loadA, storeA, BX.part, TK.isAgg, convA, builtinA, inertB, builtinP, buildA, fillA, splice, eqv, cellsEq, sizeT, adT, ldT, fwT, Nat.reduceBeqDiff, Nat.reduceBneDiff, Int.reduceBNe, Int.reduceBEq, Int.reduceEq, Int.reduceLT, Int.reduceLE, Int.reduceAdd, Int.reduceSub, Int.reduceMul, Int.reduceNeg, strBin, indexAddrA, elems, lenOf, chunk, List.reduceReplicate, Int.reduceToNat]
    refine pl_all hl (fun d h A hb => hb.freeze) l.length 0 _ AHeap.empty.next AHeap.empty.at_ (by omega) ?_ ?_ (.inl ⟨?_, rfl⟩)
    all_goals simp only [upd_app, enterT, List.getElem?_cons_zero, Option.getD_some, Nat.reduceEqDiff, ↓reduceIte]
    all_goals rfl
def PSm (l : List Nd) (i : Nat) : Prop :=
  ∀ (T : Nat → AV) (H : AHeap), T 0 = .vec 6 (l.map encN) → T 1 = .vec 6 (l.map encN) → T 5 = .int .i64 (i : Int) →
    Run Cx 15 T [] none [.inLoop c15_15, .inBlock 0, .code c15_31] H (fun r0 H' => BX.freeze H' r0 = some (.int .i64 1))
theorem psm_all {l : List Nd} (hl : l.length ≤ 100000) : ∀ (j i : Nat), i + j = l.length → PSm l i
  | 0, i, hj => by
    intro T H t0 t1 t5
    rw [run_inLoop]
    have c0 : ¬ (i : Int) < ((l.map encN).length : Int) := by rw [List.length_map]; omega
    simp only [t0, t1, t5, c0, lenOf, i64, run_exit_start, exit_here, exit_code, exit_inLoop, run_inBlock, n15_0, n15_1, n15_2, n15_3, n15_4, n15_5, n15_6, n15_7, n15_8, n15_9, n15_10, n15_11, n15_12, n15_13, n15_14, n15_15, n15_16, n15_17, n15_18, n15_19, n15_20, n15_21, n15_22, n15_23, n15_24, n15_25, n15_26, n15_27, n15_28, n15_29, n15_30, n15_31, n15_32, n15_33, o15_1, o15_4, o15_7, o15_12, o15_17, o15_24, o15_27, o15_30, o15_32, res15, TT_3, TT_4, TT_5, TT_9, TT_21, TT_22, TT_25, TT_33, TT_35, TT_37, TT_39, TT_47, TT_52, TT_56, TT_59, TT_60, TT_62, TT_63, TT_65, TT_73, TT_77, TT_82, TT_84, bb, primP, primM, ev, evs, parts_, ofConst, bin, un, intBin, putA, enterT, Nat.reduceEqDiff, Nat.reduceAdd, Nat.reduceMul, Nat.reduceLeDiff, Nat.reduceLT, ↓reduceIte, reduceCtorEq, RunRes, resultsA, oneOf, AV.plain, AV.cells, AHeap.push, AHeap.set, AHeap.empty, fieldOf, loadA, storeA, BX.part, TK.isAgg, convA, builtinA, inertB, builtinP, buildA, fillA, splice, eqv, cellsEq, sizeT, adT, ldT, fwT, Nat.reduceBeqDiff, Nat.reduceBneDiff, Int.reduceBNe, Int.reduceBEq, Int.reduceEq, Int.reduceLT, Int.reduceLE, Int.reduceAdd, Int.reduceSub, Int.reduceMul, Int.reduceNeg, strBin, indexAddrA, elems, lenOf, chunk, List.reduceReplicate, Int.reduceToNat]
  | j + 1, i, hj => by
    intro T H t0 t1 t5
    rw [run_inLoop]
    have hi : i < l.length := by omega
    have c0 : (i : Int) < ((l.map encN).length : Int) := by rw [List.length_map]; omega
    have p0 : (0 : Int) ≤ (i : Int) := by omega
    have g0 := encN_get hi
    have w1 : IntKind.i64.wrap ((i : Int) + 1) = ((i + 1 : Nat) : Int) := by rw [wr64 (by omega) (by omega)]; omega
    simp only [t0, t1, t5, c0, p0, g0, w1, beq_self_eq_true, bne_self_eq_false, Bool.and_self, Bool.not_true, lenOf, i64, Int.toNat_natCast, run_exit_start, exit_here, exit_code, exit_inLoop, run_inBlock, n15_0, n15_1, n15_2, n15_3, n15_4, n15_5, n15_6, n15_7, n15_8, n15_9, n15_10, n15_11, n15_12, n15_13, n15_14, n15_15, n15_16, n15_17, n15_18, n15_19, n15_20, n15_21, n15_22, n15_23, n15_24, n15_25, n15_26, n15_27, n15_28, n15_29, n15_30, n15_32, n15_33, o15_1, o15_4, o15_7, o15_12, o15_17, o15_24, o15_27, o15_30, o15_32, res15, TT_3, TT_4, TT_5, TT_9, TT_21, TT_22, TT_25, TT_33, TT_35, TT_37, TT_39, TT_47, TT_52, TT_56, TT_59, TT_60, TT_62, TT_63, TT_65, TT_73, TT_77, TT_82, TT_84, bb, primP, primM, ev, evs, parts_, ofConst, bin, un, intBin, putA, enterT, Nat.reduceEqDiff, Nat.reduceAdd, Nat.reduceMul, Nat.reduceLeDiff, Nat.reduceLT, ↓reduceIte, reduceCtorEq, RunRes, resultsA, oneOf, AV.plain, AV.cells, AHeap.push, AHeap.set, AHeap.empty, fieldOf, loadA, storeA, BX.part, TK.isAgg, convA, builtinA, inertB, builtinP, buildA, fillA, splice, eqv, cellsEq, sizeT, adT, ldT, fwT, Nat.reduceBeqDiff, Nat.reduceBneDiff, Int.reduceBNe, Int.reduceBEq, Int.reduceEq, Int.reduceLT, Int.reduceLE, Int.reduceAdd, Int.reduceSub, Int.reduceMul, Int.reduceNeg, strBin, indexAddrA, elems, lenOf, chunk, List.reduceReplicate, Int.reduceToNat]
    refine psm_all hl j (i + 1) (by omega) _ _ ?_ ?_ ?_
    all_goals simp only [upd_app, t0, t1, Nat.reduceEqDiff, ↓reduceIte]
theorem Same_ok {v w : AV} {l : List Nd} (hv : InN v l) (hw : InN w l) (hl : l.length ≤ 100000) : PCall Cx 15 [v, w] (.int .i64 1) := by
  by_cases h0 : l = []
  · subst h0
    rcases hv with ⟨rfl, _⟩ | rfl <;> rcases hw with ⟨rfl, _⟩ | rfl <;> exact ⟨60, by kernel_rfl⟩
  · obtain rfl := hv.vec h0
    obtain rfl := hw.vec h0
    refine pcall_run (noext _) body15 ?_
    simp only [lenOf, i64, bne_self_eq_false, n15_0, n15_1, n15_2, n15_3, n15_4, n15_5, n15_6, n15_7, n15_8, n15_9, n15_10, n15_11, n15_12, n15_13, n15_14, n15_16, n15_17, n15_18, n15_19, n15_20, n15_21, n15_22, n15_23, n15_24, n15_25, n15_26, n15_27, n15_28, n15_29, n15_30, n15_32, n15_33, o15_1, o15_4, o15_7, o15_12, o15_17, o15_24, o15_27, o15_30, o15_32, res15, TT_3, TT_4, TT_5, TT_9, TT_21, TT_22, TT_25, TT_33, TT_35, TT_37, TT_39, TT_47, TT_52, TT_56, TT_59, TT_60, TT_62, TT_63, TT_65, TT_73, TT_77, TT_82, TT_84, bb, primP, primM, ev, evs, parts_, ofConst, bin, un, intBin, putA, enterT, Nat.reduceEqDiff, Nat.reduceAdd, Nat.reduceMul, Nat.reduceLeDiff, Nat.reduceLT, ↓reduceIte, reduceCtorEq, RunRes, resultsA, oneOf, AV.plain, AV.cells, AHeap.push, AHeap.set, AHeap.empty, fieldOf, loadA, storeA, BX.part, TK.isAgg, convA, builtinA, inertB, builtinP, buildA, fillA, splice, eqv, cellsEq, sizeT, adT, ldT, fwT, Nat.reduceBeqDiff, Nat.reduceBneDiff, Int.reduceBNe, Int.reduceBEq, Int.reduceEq, Int.reduceLT, Int.reduceLE, Int.reduceAdd, Int.reduceSub, Int.reduceMul, Int.reduceNeg, strBin, indexAddrA, elems, lenOf, chunk, List.reduceReplicate, Int.reduceToNat]
    refine psm_all hl l.length 0 (by omega) _ _ ?_ ?_ ?_
    all_goals simp only [upd_app, enterT, List.getElem?_cons_zero, List.getElem?_cons_succ, Option.getD_some, Nat.reduceEqDiff, ↓reduceIte]
    all_goals rfl
theorem ExprBack_ok {v : AV} {l : List Nd} (hv : InN v l) (hn : numL l) (hl : l.length ≤ maxLen) : PCall Cx 4 [v] (.bool true) := by
  refine pcall_run (noext _) body4 ?_
  have f0 : [v].all AV.flat = true := by simp [hv.flat]
  obtain ⟨b, hb, hfew⟩ := few_ok hv
  cases b with
  | false =>
    simp only [call_pure pure7 rfl awake08_ok, call_pure pure8 f0 hfew, n4_0, n4_1, n4_2, n4_3, n4_4, n4_5, n4_6, n4_7, n4_8, n4_9, n4_11, n4_12, n4_13, n4_14, n4_15, n4_16, n4_17, n4_18, n4_19, n4_20, n4_21, n4_22, n4_23, n4_24, o4_1, o4_4, o4_7, o4_11, o4_14, o4_17, o4_21, o4_23, res4, TT_3, TT_4, TT_5, TT_9, TT_21, TT_22, TT_25, TT_33, TT_35, TT_37, TT_39, TT_47, TT_52, TT_56, TT_59, TT_60, TT_62, TT_63, TT_65, TT_73, TT_77, TT_82, TT_84, bb, primP, primM, ev, evs, parts_, ofConst, bin, un, intBin, putA, enterT, Nat.reduceEqDiff, Nat.reduceAdd, Nat.reduceMul, Nat.reduceLeDiff, Nat.reduceLT, ↓reduceIte, reduceCtorEq, RunRes, resultsA, oneOf, AV.plain, AV.cells, AHeap.push, AHeap.set, AHeap.empty, fieldOf, loadA, storeA, BX.part, TK.isAgg, convA, builtinA, inertB, builtinP, buildA, fillA, splice, eqv, cellsEq, sizeT, adT, ldT, fwT, Nat.reduceBeqDiff, Nat.reduceBneDiff, Int.reduceBNe, Int.reduceBEq, Int.reduceEq, Int.reduceLT, Int.reduceLE, Int.reduceAdd, Int.reduceSub, Int.reduceMul, Int.reduceNeg, strBin, indexAddrA, elems, lenOf, chunk, List.reduceReplicate, Int.reduceToNat]
  | true =>
    have hl450 := hb rfl
    obtain ⟨w, hw, hof⟩ := Of_ok hv (by omega)
    have fw0 : [w].all AV.flat = true := by simp [hw.flat]
    have her := ERight_ok hw hn (by omega)
    have e1 : (([] : Bytes) == []) = true := rfl
    cases hr : rightM l with
    | false =>
      have hwr := EWrite_no hw hn (by omega) hr
      simp only [e1, call_pure pure7 rfl awake08_ok, call_pure pure8 f0 hfew, call_pure pure9 f0 hof, call_pure pure13 fw0 hwr, n4_0, n4_1, n4_2, n4_3, n4_4, n4_5, n4_6, n4_7, n4_8, n4_9, n4_10, n4_11, n4_12, n4_13, n4_14, n4_15, n4_16, n4_17, n4_18, n4_19, n4_21, n4_22, n4_23, n4_24, o4_1, o4_4, o4_7, o4_11, o4_14, o4_17, o4_21, o4_23, res4, TT_3, TT_4, TT_5, TT_9, TT_21, TT_22, TT_25, TT_33, TT_35, TT_37, TT_39, TT_47, TT_52, TT_56, TT_59, TT_60, TT_62, TT_63, TT_65, TT_73, TT_77, TT_82, TT_84, bb, primP, primM, ev, evs, parts_, ofConst, bin, un, intBin, putA, enterT, Nat.reduceEqDiff, Nat.reduceAdd, Nat.reduceMul, Nat.reduceLeDiff, Nat.reduceLT, ↓reduceIte, reduceCtorEq, RunRes, resultsA, oneOf, AV.plain, AV.cells, AHeap.push, AHeap.set, AHeap.empty, fieldOf, loadA, storeA, BX.part, TK.isAgg, convA, builtinA, inertB, builtinP, buildA, fillA, splice, eqv, cellsEq, sizeT, adT, ldT, fwT, Nat.reduceBeqDiff, Nat.reduceBneDiff, Int.reduceBNe, Int.reduceBEq, Int.reduceEq, Int.reduceLT, Int.reduceLE, Int.reduceAdd, Int.reduceSub, Int.reduceMul, Int.reduceNeg, strBin, indexAddrA, elems, lenOf, chunk, List.reduceReplicate, Int.reduceToNat]
    | true =>
      have hne : l ≠ [] := by intro h; rw [h] at hr; cases hr
      obtain rfl := hw.vec hne
      obtain rfl := hv.vec hne
      rw [hr] at her
      obtain ⟨hle, bt, hbt⟩ := right_iff.mp hr
      have hwr := EWrite_yes hn hr hbt
      unfold writeM at hwr
      by_cases h4 : 4096 < bt.length
      · rw [if_pos h4] at hwr
        simp only [e1, call_pure pure7 rfl awake08_ok, call_pure pure8 f0 hfew, call_pure pure9 f0 hof, call_pure pure13 fw0 hwr, call_pure pure11 fw0 her, n4_0, n4_1, n4_2, n4_3, n4_4, n4_5, n4_6, n4_7, n4_8, n4_9, n4_10, n4_11, n4_12, n4_13, n4_14, n4_15, n4_16, n4_17, n4_18, n4_19, n4_21, n4_22, n4_23, n4_24, o4_1, o4_4, o4_7, o4_11, o4_14, o4_17, o4_21, o4_23, res4, TT_3, TT_4, TT_5, TT_9, TT_21, TT_22, TT_25, TT_33, TT_35, TT_37, TT_39, TT_47, TT_52, TT_56, TT_59, TT_60, TT_62, TT_63, TT_65, TT_73, TT_77, TT_82, TT_84, bb, primP, primM, ev, evs, parts_, ofConst, bin, un, intBin, putA, enterT, Nat.reduceEqDiff, Nat.reduceAdd, Nat.reduceMul, Nat.reduceLeDiff, Nat.reduceLT, ↓reduceIte, reduceCtorEq, RunRes, resultsA, oneOf, AV.plain, AV.cells, AHeap.push, AHeap.set, AHeap.empty, fieldOf, loadA, storeA, BX.part, TK.isAgg, convA, builtinA, inertB, builtinP, buildA, fillA, splice, eqv, cellsEq, sizeT, adT, ldT, fwT, Nat.reduceBeqDiff, Nat.reduceBneDiff, Int.reduceBNe, Int.reduceBEq, Int.reduceEq, Int.reduceLT, Int.reduceLE, Int.reduceAdd, Int.reduceSub, Int.reduceMul, Int.reduceNeg, strBin, indexAddrA, elems, lenOf, chunk, List.reduceReplicate, Int.reduceToNat]
      · rw [if_neg h4] at hwr
        have hpb := Parse_back hbt hle (by omega)
        obtain ⟨u, hu, hpl⟩ := Plain_ok (v := .vec 6 (l.map encN)) (.inr rfl) (by omega)
        have fu : [u, AV.vec 6 (l.map encN)].all AV.flat = true := by simp only [List.all_cons, List.all_nil, hu.flat, Bool.and_true, Bool.true_and]; rfl
        have hsm := Same_ok hu (w := .vec 6 (l.map encN)) (.inr rfl) (by omega)
        simp only [call_pure pure7 rfl awake08_ok, call_pure pure8 f0 hfew, call_pure pure9 f0 hof, call_pure pure13 fw0 hwr, call_pure pure14 rfl hpb, call_pure pure16 fw0 hpl, call_pure pure15 fu hsm, n4_0, n4_1, n4_2, n4_3, n4_4, n4_5, n4_6, n4_7, n4_8, n4_9, n4_10, n4_11, n4_12, n4_13, n4_14, n4_15, n4_16, n4_17, n4_18, n4_19, n4_20, n4_21, n4_22, n4_23, n4_24, o4_1, o4_4, o4_7, o4_11, o4_14, o4_17, o4_21, o4_23, res4, TT_3, TT_4, TT_5, TT_9, TT_21, TT_22, TT_25, TT_33, TT_35, TT_37, TT_39, TT_47, TT_52, TT_56, TT_59, TT_60, TT_62, TT_63, TT_65, TT_73, TT_77, TT_82, TT_84, bb, primP, primM, ev, evs, parts_, ofConst, bin, un, intBin, putA, enterT, Nat.reduceEqDiff, Nat.reduceAdd, Nat.reduceMul, Nat.reduceLeDiff, Nat.reduceLT, ↓reduceIte, reduceCtorEq, RunRes, resultsA, oneOf, AV.plain, AV.cells, AHeap.push, AHeap.set, AHeap.empty, fieldOf, loadA, storeA, BX.part, TK.isAgg, convA, builtinA, inertB, builtinP, buildA, fillA, splice, eqv, cellsEq, sizeT, adT, ldT, fwT, Nat.reduceBeqDiff, Nat.reduceBneDiff, Int.reduceBNe, Int.reduceBEq, Int.reduceEq, Int.reduceLT, Int.reduceLE, Int.reduceAdd, Int.reduceSub, Int.reduceMul, Int.reduceNeg, strBin, indexAddrA, elems, lenOf, chunk, List.reduceReplicate, Int.reduceToNat]
end Go.Proofs.Ytkedlkcknhinoaa.G

namespace Go.Proofs.Ytkedlkcknhinoaa.G
open Go.BX
set_option linter.unusedSimpArgs false
set_option linter.unusedVariables false
def Rr : List Nat → List Nat
  | [] => [0]
  | u :: r => (u - 1) :: Rr r
def Rp : List Nat → List Nat
  | [] => [1]
  | t :: r => t :: Rr r
theorem Rr_len : ∀ st : List Nat, (Rr st).length = st.length + 1
  | [] => rfl
  | u :: r => by show (Rr r).length + 1 = _; rw [Rr_len r]; rfl
theorem Rp_cons (st : List Nat) : ∃ h tl, Rp st = h :: tl ∧ Rr st = (h - 1) :: tl ∧ tl.length = st.length := by
  cases st with
  | nil => exact ⟨1, [], rfl, rfl, rfl⟩
  | cons t r => exact ⟨t, Rr r, rfl, rfl, by rw [Rr_len]; rfl⟩
theorem runM_snoc : ∀ (a : List Nd) (st : List Nat) (n : Nd) (st' : List Nat), runM st a = some st' → runM st (a ++ [n]) = stepM st' n
  | [], st, n, st', h => by
    cases h
    show (match stepM st n with | some st' => runM st' [] | none => none) = _
    cases stepM st n <;> rfl
  | m :: a, st, n, st', h => by
    replace h : (match stepM st m with | some st2 => runM st2 a | none => none) = some st' := h
    show (match stepM st m with | some st2 => runM st2 (a ++ [n]) | none => none) = _
    cases hs : stepM st m with
    | none => rw [hs] at h; cases h
    | some st2 =>
      rw [hs] at h
      exact runM_snoc a st2 n st' h
structure Inv (out : List Nd) (st : List Nat) : Prop where
  len : out.length ≤ 400
  num : numL out
  one : ∀ t, t ∈ st → 1 ≤ t ∧ t ≤ 3
  dep : st.length ≤ 25
def Res (s : Bytes) (r : AV) : Prop := (∃ at_ e, r = errP at_ e ∧ at_ ≤ s.length ∧ e ≠ 0) ∨ ∃ out : List Nd, r = .tuple [.vec 6 (out.map encN), .int .i64 0, .int .i64 0] ∧ rightM out = true ∧ numL out
theorem Inv.snoc {out : List Nd} {st : List Nat} (h : Inv out st) {n : Nd} (hn : numN n) (hl : out.length < 400) : Inv (out ++ [n]) st := by
  refine ⟨by rw [List.length_append, List.length_singleton]; omega, fun x hx => ?_, h.one, h.dep⟩
  rcases List.mem_append.mp hx with hx | hx
  · exact h.num x hx
  · rw [List.mem_singleton.mp hx]; exact hn
theorem step_part {out : List Nd} {st : List Nat} {n : Nd} (hr : runM [1] out = some (Rp st)) (hp : (partsN n).2 = true) (hd : st.length ≤ 24) : runM [1] (out ++ [n]) = some (popZ ((partsN n).1 :: Rr st)) := by
  rw [runM_snoc _ _ _ _ hr]
  obtain ⟨h, tl, h1, h2, h3⟩ := Rp_cons st
  rw [h1, h2]
  unfold stepM
  simp only
  rw [if_pos ⟨hp, by omega⟩]
theorem openX_ok {s : Bytes} {i : Nat} {n : Nd} {k : Nat} (hi : i ≤ s.length) (h : openX s i = .ok (n, k)) : isOp n.op = true ∧ partsN n = (partsM n.op, true) ∧ numN n ∧ i ≤ k ∧ k ≤ s.length := by
  unfold openX at h
  have hr := kindI_rng (wordAt s i)
  split at h
  · cases h
  · rename_i hx
    cases h
    have ho : isOp (kindI (wordAt s i) + 2) = true := by unfold isOp; simp; omega
    have hl := letM_le hi
    refine ⟨ho, ?_, ⟨?_, ?_⟩, hl.1, hl.2⟩
    · unfold partsN ndO
      simp only
      rw [ho]
      rfl
    · show _ ≤ kindI (wordAt s i) + 2; omega
    · show kindI (wordAt s i) + 2 ≤ _; omega
theorem openX_err {s : Bytes} {i : Nat} {e : Int} (h : openX s i = .error e) : e = 10 := by
  unfold openX at h
  split at h
  · cases h; rfl
  · cases h
theorem singleX_ok {s : Bytes} {i : Nat} {c : UInt8} {n : Nd} {k : Nat} (hc : s[i]? = some c) (h : singleX s i c = .ok (n, k)) : aloneM n = true ∧ numN n ∧ i < k ∧ k ≤ s.length := by
  have hi : i < s.length := (List.getElem?_eq_some_iff.mp hc).1
  unfold singleX at h
  split at h
  · rename_i hlt
    have hr := nameI_rng (wordAt s i)
    split at h
    · cases h
    · rename_i hx
      cases h
      have hl := letM_le (s := s) (i := i) (by omega)
      refine ⟨?_, ⟨by show _ ≤ (1 : Int); decide, by show (1 : Int) ≤ _; decide⟩, ?_, hl.2⟩
      · generalize nameI (wordAt s i) = x at hr hx
        have : x = 0 ∨ x = 1 ∨ x = 2 ∨ x = 3 ∨ x = 4 := by omega
        rcases this with rfl | rfl | rfl | rfl | rfl <;> decide
      · unfold letM
        obtain ⟨h1, h2⟩ := List.getElem?_eq_some_iff.mp hc
        rw [List.drop_eq_getElem_cons h1, h2, List.takeWhile_cons_of_pos hlt, List.length_cons]
        omega
  · split at h
    · cases h
    · rename_i v m hp
      cases h
      obtain ⟨h1, h2, h3⟩ := parseX_ok hp
      rw [List.length_drop] at h3
      refine ⟨?_, ⟨by show _ ≤ (0 : Int); decide, by show (0 : Int) ≤ _; decide⟩, by omega, by omega⟩
      unfold aloneM
      rw [if_neg (by show ¬ (0 : Int) = 1; decide)]
      show ((0 : Int) == 0 && okV v) = true
      rw [h1]; rfl
theorem singleX_err {s : Bytes} {i : Nat} {c : UInt8} {e : Int} (h : singleX s i c = .error e) : e ≠ 0 := by
  unfold singleX at h
  split at h
  · split at h
    · cases h; decide
    · cases h
  · split at h
    · rename_i e2 hp
      cases h
      rcases parseX_err hp with rfl | rfl | rfl | rfl | rfl <;> decide
    · cases h
theorem any_all {s : Bytes} (hs : s.length ≤ 1000000) : ∀ (m : Nat), (∀ out st i, i ≤ s.length → s.length - i ≤ m → Inv out st → runM [1] out = some (Rp st) → ∃ r, Res s r ∧ PartP s out st i r) ∧ (∀ out st i, i ≤ s.length → s.length - i ≤ m → Inv out st → runM [1] out = some (popZ (Rr st)) → out ≠ [] → ∃ r, Res s r ∧ DoneP s out st i r) := by
  intro m
  induction m using Nat.strongRecOn with
  | _ m ih =>
    have part : ∀ out st i, i ≤ s.length → s.length - i ≤ m → Inv out st → runM [1] out = some (Rp st) → ∃ r, Res s r ∧ PartP s out st i r := by
      intro out st i hi hm hv hr
      have hb := blankM_le hi
      by_cases hj : blankM s i = s.length
      · exact ⟨_, .inl ⟨_, _, rfl, hb.2, by decide⟩, p_short hs hi hj⟩
      · have hlt : blankM s i < s.length := by omega
        have hc : s[blankM s i]? = some s[blankM s i] := List.getElem?_eq_getElem hlt
        generalize s[blankM s i] = c at hc
        by_cases h41 : c = 41 ∧ st ≠ []
        · obtain ⟨rfl, hst⟩ := h41
          exact ⟨_, .inl ⟨_, _, rfl, hb.2, by decide⟩, p_arity hs hi hc hst⟩
        · have hna : c = 41 → st = [] := by
            intro h
            cases st with
            | nil => rfl
            | cons a b => exact absurd ⟨h, by simp⟩ h41
          have hlen := hv.len
          by_cases h400 : out.length = 400
          · exact ⟨_, .inl ⟨_, _, rfl, hb.2, by decide⟩, p_many hs hi hc hna h400⟩
          · by_cases h24 : 24 < st.length
            · exact ⟨_, .inl ⟨_, _, rfl, hb.2, by decide⟩, p_nest hs hi hc hna (by omega) h24⟩
            · by_cases h40 : c = 40
              · subst h40
                cases hop : openX s (blankM s i + 1) with
                | error e =>
                  have he := openX_err hop
                  subst he
                  exact ⟨_, .inl ⟨_, _, rfl, by omega, by decide⟩, p_open_err hs hi hc (by omega) (by omega) hop (by decide)⟩
                | ok nk =>
                  obtain ⟨n, k⟩ := nk
                  obtain ⟨o1, o2, o3, o4, o5⟩ := openX_ok (by omega) hop
                  have hpp := parts_pos o1
                  have hst := step_part (n := n) hr (by rw [o2]) (by omega)
                  rw [o2] at hst
                  simp only at hst
                  rw [popZ_pos hpp.1] at hst
                  have hinv := hv.snoc o3 (by omega)
                  obtain ⟨r, h1, h2⟩ := (ih (s.length - k) (by omega)).1 (out ++ [n]) (partsM n.op :: st) k o5 (Nat.le_refl _) ⟨hinv.len, hinv.num, fun t ht => by
                    rcases List.mem_cons.mp ht with rfl | ht
                    · exact hpp
                    · exact hv.one t ht, by rw [List.length_cons]; omega⟩ hst
                  exact ⟨r, h1, p_open_ok hs hi hc (by omega) (by omega) hop o3 h2⟩
              · cases hsi : singleX s (blankM s i) c with
                | error e =>
                  have he := singleX_err hsi
                  exact ⟨_, .inl ⟨_, _, rfl, hb.2, he⟩, p_single_err hs hi hc hna (by omega) (by omega) h40 hsi he⟩
                | ok nk =>
                  obtain ⟨n, k⟩ := nk
                  obtain ⟨o1, o2, o3, o4⟩ := singleX_ok hc hsi
                  have hpn : partsN n = (0, true) := by unfold partsN; rw [(alone_op o1).1, o1]; rfl
                  have hst := step_part (n := n) hr (by rw [hpn]) (by omega)
                  rw [hpn] at hst
                  obtain ⟨r, h1, h2⟩ := (ih (s.length - k) (by omega)).2 (out ++ [n]) st k o4 (Nat.le_refl _) (hv.snoc o2 (by omega)) hst (by simp)
                  exact ⟨r, h1, p_single_ok hs hi hc hna (by omega) (by omega) h40 hsi h2⟩
    refine ⟨part, ?_⟩
    intro out st i hi hm hv hr hne
    have hb := blankM_le hi
    have hdep := hv.dep
    cases st with
    | nil =>
      by_cases hj : blankM s i < s.length
      · exact ⟨_, .inl ⟨_, _, rfl, hb.2, by decide⟩, d_word hs hi hj⟩
      · refine ⟨_, .inr ⟨out, rfl, ?_, hv.num⟩, d_end hs hi (by omega) hne⟩
        have hlen := hv.len
        unfold rightM
        rw [hr]
        have h1 : out.isEmpty = false := by cases out with
          | nil => exact absurd rfl hne
          | cons a b => rfl
        have h2 : ¬ 400 < out.length := by omega
        simp only [h1, h2, decide_false, Bool.or_false, Bool.not_false, Bool.true_and]
        rfl
    | cons t rs =>
      rw [List.length_cons] at hdep
      have ht := hv.one t (by simp)
      by_cases ht1 : t = 1
      · subst ht1
        by_cases hj : blankM s i = s.length
        · exact ⟨_, .inl ⟨_, _, rfl, hb.2, by decide⟩, d_short hs hi (by omega) hj⟩
        · have hlt : blankM s i < s.length := by omega
          have hc : s[blankM s i]? = some s[blankM s i] := List.getElem?_eq_getElem hlt
          generalize s[blankM s i] = c at hc
          by_cases h41 : c = 41
          · subst h41
            obtain ⟨r, h1, h2⟩ := (ih (s.length - (blankM s i + 1)) (by omega)).2 out rs (blankM s i + 1) (by omega) (Nat.le_refl _) ⟨hv.len, hv.num, fun t ht => hv.one t (by simp [ht]), by omega⟩ hr hne
            exact ⟨r, h1, d_close hs hi (by omega) hc h2⟩
          · exact ⟨_, .inl ⟨_, _, rfl, hb.2, by decide⟩, d_arity hs hi (by omega) hc h41⟩
      · obtain ⟨r, h1, h2⟩ := part out ((t - 1) :: rs) i hi hm ⟨hv.len, hv.num, fun x hx => by
          rcases List.mem_cons.mp hx with rfl | hx
          · omega
          · exact hv.one x (by simp [hx]), by rw [List.length_cons]; omega⟩ (by
            rw [hr]
            show some (popZ ((t - 1) :: Rr rs)) = _
            rw [popZ_pos (by omega)]
            rfl)
        exact ⟨r, h1, d_more (by omega) (by omega) (by omega) h2⟩
theorem Parse_any {s : Bytes} (hl : s.length ≤ maxLen) : ∃ r, Res s r ∧ PCall Cx 14 [.str s] r := by
  by_cases h : 4096 < s.length
  · exact ⟨_, .inl ⟨0, 3, rfl, Nat.zero_le _, by decide⟩, Parse_long hl h⟩
  · obtain ⟨r, h1, h2⟩ := (any_all (s := s) (by omega) s.length).1 [] [] 0 (Nat.zero_le _) (by omega) ⟨by simp, (fun n h => by cases h), (fun t h => by cases h), by simp⟩ rfl
    exact ⟨r, h1, Parse_run (by omega) h2⟩
theorem Parse_nil : PCall Cx 14 [.str []] (errP 0 2) := ⟨200, by kernel_rfl⟩
theorem ExprRight_ok {s : Bytes} (hl : s.length ≤ maxLen) : PCall Cx 5 [.str s] (.bool true) := by
  refine pcall_run (noext _) body5 ?_
  by_cases h5 : 5000 < s.length
  · have c5 : (5000 : Int) < (s.length : Int) := by omega
    simp only [c5, lenOf, i64, call_pure pure7 rfl awake08_ok, n5_0, n5_1, n5_2, n5_3, n5_4, n5_5, n5_6, n5_7, n5_8, n5_9, n5_11, n5_12, n5_13, n5_14, n5_15, n5_16, n5_17, n5_18, n5_19, n5_20, n5_21, n5_22, n5_23, n5_24, n5_25, n5_26, o5_1, o5_4, o5_7, o5_11, o5_14, o5_17, o5_21, o5_23, o5_25, res5, TT_3, TT_4, TT_5, TT_9, TT_21, TT_22, TT_25, TT_33, TT_35, TT_37, TT_39, TT_47, TT_52, TT_56, TT_59, TT_60, TT_62, TT_63, TT_65, TT_73, TT_77, TT_82, TT_84, bb, primP, primM, ev, evs, parts_, ofConst, bin, un, intBin, putA, enterT, Nat.reduceEqDiff, Nat.reduceAdd, Nat.reduceMul, Nat.reduceLeDiff, Nat.reduceLT, ↓reduceIte, reduceCtorEq, RunRes, resultsA, oneOf, AV.plain, AV.cells, AHeap.push, AHeap.set, AHeap.empty, fieldOf, loadA, storeA, BX.part, TK.isAgg, convA, builtinA, inertB, builtinP, buildA, fillA, splice, eqv, cellsEq, sizeT, adT, ldT, fwT, Nat.reduceBeqDiff, Nat.reduceBneDiff, Int.reduceBNe, Int.reduceBEq, Int.reduceEq, Int.reduceLT, Int.reduceLE, Int.reduceAdd, Int.reduceSub, Int.reduceMul, Int.reduceNeg, strBin, indexAddrA, elems, lenOf, chunk, List.reduceReplicate, Int.reduceToNat]
  · have c5 : ¬ (5000 : Int) < (s.length : Int) := by omega
    obtain ⟨r, hr, hp⟩ := Parse_any hl
    rcases hr with ⟨at_, e, rfl, ha, he⟩ | ⟨out, rfl, hrt, hn⟩
    · unfold errP at hp
      have e1 : (e != 0) = true := by simpa using he
      have p0 : (0 : Int) ≤ (at_ : Int) := by omega
      have c1 : (at_ : Int) ≤ (s.length : Int) := by omega
      simp only [c5, e1, p0, c1, lenOf, i64, call_pure pure7 rfl awake08_ok, call_pure pure14 rfl hp, n5_0, n5_1, n5_2, n5_3, n5_4, n5_5, n5_6, n5_7, n5_8, n5_9, n5_10, n5_11, n5_12, n5_13, n5_14, n5_15, n5_16, n5_17, n5_18, n5_19, n5_21, n5_22, n5_23, n5_24, n5_25, n5_26, o5_1, o5_4, o5_7, o5_11, o5_14, o5_17, o5_21, o5_23, o5_25, res5, TT_3, TT_4, TT_5, TT_9, TT_21, TT_22, TT_25, TT_33, TT_35, TT_37, TT_39, TT_47, TT_52, TT_56, TT_59, TT_60, TT_62, TT_63, TT_65, TT_73, TT_77, TT_82, TT_84, bb, primP, primM, ev, evs, parts_, ofConst, bin, un, intBin, putA, enterT, Nat.reduceEqDiff, Nat.reduceAdd, Nat.reduceMul, Nat.reduceLeDiff, Nat.reduceLT, ↓reduceIte, reduceCtorEq, RunRes, resultsA, oneOf, AV.plain, AV.cells, AHeap.push, AHeap.set, AHeap.empty, fieldOf, loadA, storeA, BX.part, TK.isAgg, convA, builtinA, inertB, builtinP, buildA, fillA, splice, eqv, cellsEq, sizeT, adT, ldT, fwT, Nat.reduceBeqDiff, Nat.reduceBneDiff, Int.reduceBNe, Int.reduceBEq, Int.reduceEq, Int.reduceLT, Int.reduceLE, Int.reduceAdd, Int.reduceSub, Int.reduceMul, Int.reduceNeg, strBin, indexAddrA, elems, lenOf, chunk, List.reduceReplicate, Int.reduceToNat]
    · obtain ⟨hle, bt, hbt⟩ := right_iff.mp hrt
      have her := ERight_ok (v := .vec 6 (out.map encN)) (.inr rfl) hn (by omega)
      rw [hrt] at her
      have hwr := EWrite_yes hn hrt hbt
      unfold writeM at hwr
      by_cases h4 : 4096 < bt.length
      · rw [if_pos h4] at hwr
        have hpn := Parse_nil
        unfold errP at hpn
        simp only [c5, lenOf, i64, Int.cast_ofNat_Int, beq_self_eq_true, bne_self_eq_false, call_pure pure7 rfl awake08_ok, call_pure pure14 rfl hp, call_pure pure14 rfl hpn, call_pure pure13 rfl hwr, call_pure pure11 rfl her, n5_0, n5_1, n5_2, n5_3, n5_4, n5_5, n5_6, n5_7, n5_8, n5_9, n5_10, n5_11, n5_12, n5_13, n5_14, n5_15, n5_16, n5_17, n5_18, n5_19, n5_20, n5_21, n5_22, n5_23, n5_24, n5_25, n5_26, o5_1, o5_4, o5_7, o5_11, o5_14, o5_17, o5_21, o5_23, o5_25, res5, TT_3, TT_4, TT_5, TT_9, TT_21, TT_22, TT_25, TT_33, TT_35, TT_37, TT_39, TT_47, TT_52, TT_56, TT_59, TT_60, TT_62, TT_63, TT_65, TT_73, TT_77, TT_82, TT_84, bb, primP, primM, ev, evs, parts_, ofConst, bin, un, intBin, putA, enterT, Nat.reduceEqDiff, Nat.reduceAdd, Nat.reduceMul, Nat.reduceLeDiff, Nat.reduceLT, ↓reduceIte, reduceCtorEq, RunRes, resultsA, oneOf, AV.plain, AV.cells, AHeap.push, AHeap.set, AHeap.empty, fieldOf, loadA, storeA, BX.part, TK.isAgg, convA, builtinA, inertB, builtinP, buildA, fillA, splice, eqv, cellsEq, sizeT, adT, ldT, fwT, Nat.reduceBeqDiff, Nat.reduceBneDiff, Int.reduceBNe, Int.reduceBEq, Int.reduceEq, Int.reduceLT, Int.reduceLE, Int.reduceAdd, Int.reduceSub, Int.reduceMul, Int.reduceNeg, strBin, indexAddrA, elems, lenOf, chunk, List.reduceReplicate, Int.reduceToNat]
      · rw [if_neg h4] at hwr
        have hpb := Parse_back hbt hle (by omega)
        obtain ⟨u, hu, hpl⟩ := Plain_ok (v := .vec 6 (out.map encN)) (.inr rfl) (by omega)
        have fu : [u, u].all AV.flat = true := by simp only [List.all_cons, List.all_nil, hu.flat, Bool.and_true, Bool.true_and]
        have hsm := Same_ok hu hu (by omega)
        simp only [c5, lenOf, i64, beq_self_eq_true, bne_self_eq_false, call_pure pure7 rfl awake08_ok, call_pure pure14 rfl hp, call_pure pure14 rfl hpb, call_pure pure13 rfl hwr, call_pure pure11 rfl her, call_pure pure16 rfl hpl, call_pure pure15 fu hsm, n5_0, n5_1, n5_2, n5_3, n5_4, n5_5, n5_6, n5_7, n5_8, n5_9, n5_10, n5_11, n5_12, n5_13, n5_14, n5_15, n5_16, n5_17, n5_18, n5_19, n5_20, n5_21, n5_22, n5_23, n5_24, n5_25, n5_26, o5_1, o5_4, o5_7, o5_11, o5_14, o5_17, o5_21, o5_23, o5_25, res5, TT_3, TT_4, TT_5, TT_9, TT_21, TT_22, TT_25, TT_33, TT_35, TT_37, TT_39, TT_47, TT_52, TT_56, TT_59, TT_60, TT_62, TT_63, TT_65, TT_73, TT_77, TT_82, TT_84, bb, primP, primM, ev, evs, parts_, ofConst, bin, un, intBin, putA, enterT, Nat.reduceEqDiff, Nat.reduceAdd, Nat.reduceMul, Nat.reduceLeDiff, Nat.reduceLT, ↓reduceIte, reduceCtorEq, RunRes, resultsA, oneOf, AV.plain, AV.cells, AHeap.push, AHeap.set, AHeap.empty, fieldOf, loadA, storeA, BX.part, TK.isAgg, convA, builtinA, inertB, builtinP, buildA, fillA, splice, eqv, cellsEq, sizeT, adT, ldT, fwT, Nat.reduceBeqDiff, Nat.reduceBneDiff, Int.reduceBNe, Int.reduceBEq, Int.reduceEq, Int.reduceLT, Int.reduceLE, Int.reduceAdd, Int.reduceSub, Int.reduceMul, Int.reduceNeg, strBin, indexAddrA, elems, lenOf, chunk, List.reduceReplicate, Int.reduceToNat]
end Go.Proofs.Ytkedlkcknhinoaa.G

namespace Go.BX
open Go.ChangeShapes Go.WideShapes Go.ChangeAt Go.RowKit
variable {P : Program} {w : World} {H : Type} {enc : TypeId × Value → H} {base : Nat} {spare : Nat → Bool} {held : Bool}
theorem open_ints_struct {t : TypeId} {k : IntKind} {fs : Array Field} {v : Value} {d : DataW H} {ps : List MemPlace} {r : Reach} {b0 : Nat} (ht : P.underlying t = some (.struct fs)) (hval : Value.okWide P w r b0 t v) (hd : DataW.Trod enc P w base spare held t v d ps)
    (hf : ∀ (i : Nat) (f : Field), fs[i]? = some f → f.offset = i ∧ P.cellsOf f.type = 1 ∧ P.underlying f.type = some (.int k)) (hc : P.cellsOf t = fs.size) :
    ∃ ns : List Int, ns.length = fs.size ∧ v = .agg (ns.map (Value.int k)).toArray ∧ ∀ n, n ∈ ns → (Lit.int k n).wf = true := by
  obtain ⟨cs, rfl, hcs⟩ := okWide_struct ht hval
  obtain ⟨fuel, hfu⟩ := hd
  obtain ⟨xs, n, rfl, _, hlen, hxl, hx⟩ := DataW.trod_struct ht hfu
  have hcell : ∀ i, i < fs.size → ∃ m, cs[i]? = some (.int k m) ∧ (Lit.int k m).wf = true := by
    intro i hi
    obtain ⟨ho, hc1, hu⟩ := hf i fs[i] (Array.getElem?_eq_getElem hi)
    have h1 := hx i fs[i] (Array.getElem?_eq_getElem hi)
    rw [List.getElem?_eq_getElem (by omega)] at h1
    rw [ho, hc1] at h1
    obtain ⟨m, hm, _, hw⟩ := DataW.trod_int hu h1
    refine ⟨m, ?_, hw⟩
    have hil : i < cs.toList.length := by rw [show cs.toList.length = (Value.agg cs).cells.toList.length from rfl, hlen, hc]; exact hi
    simp only [Value.cells] at hm
    rw [List.drop_eq_getElem_cons hil] at hm
    simp only [List.take_succ_cons, List.take_zero, List.cons.injEq, and_true] at hm
    rw [← Array.getElem?_toList, List.getElem?_eq_getElem hil, hm]
  have hsz : cs.size = fs.size := by rw [hcs, hc]
  let nm : Value → Int := fun | .int _ n => n | _ => 0
  have hget : ∀ i (h : i < cs.size), ∃ m, cs[i] = .int k m ∧ (Lit.int k m).wf = true := fun i h => by
    obtain ⟨m, hm, hw⟩ := hcell i (by omega)
    rw [Array.getElem?_eq_getElem h] at hm
    exact ⟨m, by simpa using hm, hw⟩
  refine ⟨cs.toList.map nm, by simp [hsz], ?_, fun n hn => ?_⟩
  · congr 1
    apply Array.ext'
    simp only [List.map_map]
    apply List.ext_getElem
    · simp
    · intro i h1 h2
      obtain ⟨m, hm, _⟩ := hget i (by simpa using h1)
      simp only [List.getElem_map, Function.comp_apply, Array.getElem_toList, hm, nm]
  · simp only [List.mem_map] at hn
    obtain ⟨v, hv, rfl⟩ := hn
    obtain ⟨i, hi⟩ := List.getElem?_of_mem hv
    have hlt : i < cs.size := by simpa using (List.getElem?_eq_some_iff.mp hi).1
    obtain ⟨m, hm, hw⟩ := hget i hlt
    rw [Array.getElem?_toList, Array.getElem?_eq_getElem hlt, hm] at hi
    cases hi
    exact hw
end Go.BX

namespace Go.BX
open Go.ChangeShapes Go.WideShapes Go.ChangeAt Go.RowKit
set_option linter.unusedVariables false
set_option linter.unusedSimpArgs false
inductive Shp (P : Program) : TypeId → List AV → Prop
  | bool {t b} (h : P.underlying t = some .bool) : Shp P t [.bool b]
  | int {t k n} (h : P.underlying t = some (.int k)) (hw : (Lit.int k n).wf = true) : Shp P t [.int k n]
  | str {t s} (h : P.underlying t = some .string) (hl : s.length ≤ maxLen) : Shp P t [.str s]
  | nilS {t e} (h : P.underlying t = some (.slice e)) : Shp P t [.nilS]
  | vec {t e es} (h : P.underlying t = some (.slice e)) (hl : es.length ≤ maxLen) (he : ∀ r, r ∈ es → Shp P e r) : Shp P t [.vec (P.cellsOf e) es]
  | struct {t fs az} (h : P.underlying t = some (.struct fs)) (hl : az.length = P.cellsOf t) (hf : ∀ (i : Nat) (f : Field), fs[i]? = some f → Shp P f.type ((az.drop f.offset).take (P.cellsOf f.type))) : Shp P t az
variable {P : Program}
theorem shp_bool {t : TypeId} {az : List AV} (h : P.underlying t = some .bool) (hs : Shp P t az) : ∃ b, az = [.bool b] := by
  cases hs with
  | bool h' => exact ⟨_, rfl⟩
  | int h' | str h' | nilS h' | vec h' | struct h' => rw [h] at h'; cases h'
theorem shp_int {t : TypeId} {k : IntKind} {az : List AV} (h : P.underlying t = some (.int k)) (hs : Shp P t az) : ∃ n, az = [.int k n] ∧ (Lit.int k n).wf = true := by
  cases hs with
  | int h' hw => rw [h] at h'; cases h'; exact ⟨_, rfl, hw⟩
  | bool h' | str h' | nilS h' | vec h' | struct h' => rw [h] at h'; cases h'
theorem shp_str {t : TypeId} {az : List AV} (h : P.underlying t = some .string) (hs : Shp P t az) : ∃ s, az = [.str s] ∧ s.length ≤ maxLen := by
  cases hs with
  | str h' hl => exact ⟨_, rfl, hl⟩
  | bool h' | int h' | nilS h' | vec h' | struct h' => rw [h] at h'; cases h'
theorem shp_slice {t e : TypeId} {az : List AV} (h : P.underlying t = some (.slice e)) (hs : Shp P t az) : az = [.nilS] ∨ ∃ es, az = [.vec (P.cellsOf e) es] ∧ es.length ≤ maxLen ∧ ∀ r, r ∈ es → Shp P e r := by
  cases hs with
  | nilS h' => exact .inl rfl
  | vec h' hl he => rw [h] at h'; cases h'; exact .inr ⟨_, rfl, hl, he⟩
  | bool h' | int h' | str h' | struct h' => rw [h] at h'; cases h'
theorem shp_struct {t : TypeId} {fs : Array Field} {az : List AV} (h : P.underlying t = some (.struct fs)) (hs : Shp P t az) :
    az.length = P.cellsOf t ∧ ∀ (i : Nat) (f : Field), fs[i]? = some f → Shp P f.type ((az.drop f.offset).take (P.cellsOf f.type)) := by
  cases hs with
  | struct h' hl hf => rw [h] at h'; cases h'; exact ⟨hl, hf⟩
  | bool h' | int h' | str h' | nilS h' | vec h' => rw [h] at h'; cases h'
def ownF (P : Program) (fs : Array Field) (c : Nat) : Option Nat :=
  (List.range fs.size).find? fun i => match fs[i]? with
    | some f => decide (f.offset ≤ c) && decide (c < f.offset + P.cellsOf f.type)
    | none => false
def dataT (P : Program) : Nat → TypeId → Bool
  | 0, _ => false
  | d + 1, t =>
    match P.underlying t with
    | some .bool | some (.int _) | some .string => true
    | some (.slice e) => dataT P d e && decide (P.cellsOf e ≠ 0)
    | some (.struct fs) =>
      ((List.range (P.cellsOf t)).all fun c => (ownF P fs c).isSome) &&
      (List.range fs.size).all fun i => match fs[i]? with
        | some f => dataT P d f.type && decide (f.offset + P.cellsOf f.type ≤ P.cellsOf t) && (List.range (P.cellsOf f.type)).all fun j => ownF P fs (f.offset + j) == some i
        | none => false
    | _ => false
variable {w : World} {H : Type} {enc : TypeId × Value → H} {base : Nat} {spare : Nat → Bool} {held : Bool}
def Sts (w : World) (az : List AV) (cs : List Value) : Prop :=
  az.length = cs.length ∧ ∀ (i : Nat) (a : AV) (v : Value), az[i]? = some a → cs[i]? = some v → a.one = true ∧ VRel w (Old w) (fun _ => none) a v
theorem sts_one {a : AV} {v : Value} (h1 : a.one = true) (h : VRel w (Old w) (fun _ => none) a v) : Sts w [a] [v] := by
  refine ⟨rfl, fun i x y hx hy => ?_⟩
  match i, hx, hy with
  | 0, hx, hy => cases hx; cases hy; exact ⟨h1, h⟩
theorem cells_length {a : Addr} {n : Nat} {cs : List Value} (h : w.cells? base a n = some cs) : cs.length = n := by
  unfold World.cells? at h
  split at h
  · simpa using mapM_some_length h
  · cases h
theorem cells_get {a : Addr} {n : Nat} {cs : List Value} (h : w.cells? base a n = some cs) {i : Nat} (hi : i < n) : w.cell? (a.add i) = cs[i]? := by
  unfold World.cells? at h
  split at h
  · exact mapM_some_get h i i (by simp [hi])
  · cases h
theorem cell_spot {a : Addr} {v : Value} (h : w.cell? a = some v) : a.spot = none := by
  unfold World.cell? at h
  split at h
  · split at h
    · cases h
    · rename_i hs; simpa using hs
  · cases h
theorem add_eq {a : Addr} (hs : a.spot = none) (n : Nat) : a.add n = ⟨a.block, a.off + n, none⟩ := by
  unfold Addr.add
  split
  · rename_i h; subst h; cases a; simp_all
  · rfl
theorem list_choose {α : Type} {p : Nat → α → Prop} (n : Nat) (h : ∀ i, i < n → ∃ x, p i x) : ∃ l : List α, l.length = n ∧ ∀ (i : Nat) (x : α), l[i]? = some x → p i x := by
  have : ∀ i, ∃ x : Option α, (i < n → ∃ y, x = some y ∧ p i y) := fun i => by
    by_cases hi : i < n
    · obtain ⟨x, hx⟩ := h i hi; exact ⟨some x, fun _ => ⟨x, rfl, hx⟩⟩
    · exact ⟨none, fun h => absurd h hi⟩
  let F : Nat → Option α := fun i => Classical.choose (this i)
  have hF : ∀ i, i < n → ∃ y, F i = some y ∧ p i y := fun i => Classical.choose_spec (this i)
  refine ⟨(List.range n).filterMap F, ?_, ?_⟩
  · have : ∀ l : List Nat, (∀ i ∈ l, i < n) → (l.filterMap F).length = l.length := by
      intro l hl
      induction l with
      | nil => rfl
      | cons x xs ih =>
        obtain ⟨y, hy, _⟩ := hF x (hl x (by simp))
        rw [List.filterMap_cons, hy]
        simp [ih fun i hi => hl i (by simp [hi])]
    rw [this _ (by simp), List.length_range]
  · have key : ∀ l : List Nat, (∀ i ∈ l, i < n) → ∀ (j : Nat) (x : α), (l.filterMap F)[j]? = some x → ∃ i, l[j]? = some i ∧ F i = some x := by
      intro l hl
      induction l with
      | nil => intro j x h; simp at h
      | cons z zs ih =>
        intro j x h
        obtain ⟨y, hy, _⟩ := hF z (hl z (by simp))
        rw [List.filterMap_cons, hy] at h
        cases j with
        | zero => simp at h; subst h; exact ⟨z, rfl, hy⟩
        | succ j => exact ih (fun i hi => hl i (by simp [hi])) j x (by simpa using h)
    intro i x hx
    obtain ⟨i', hi', hx'⟩ := key _ (by simp) i x hx
    have hlt : i < n := by
      rcases Nat.lt_or_ge i n with h | h
      · exact h
      · rw [List.getElem?_eq_none (by simpa using h)] at hi'; cases hi'
    have : i' = i := by simp [List.getElem?_range hlt] at hi'; exact hi'.symm
    subst this
    obtain ⟨y, hy, hp⟩ := hF i' hlt
    rw [hx'] at hy; cases hy; exact hp
theorem open_cells : ∀ (d : Nat) {t : TypeId} {fuel : Nat} {cs : List Value} {x : DataW H × List MemPlace}, dataT P d t = true → DataW.trod enc P w base spare held fuel t cs = some x → ∃ az, Sts w az cs ∧ Shp P t az := by
  intro d
  induction d with
  | zero => intro t fuel cs x h; cases h
  | succ d ih =>
    intro t fuel cs x hd hx
    unfold dataT at hd
    split at hd
    · rename_i ht
      obtain ⟨b, rfl, _⟩ := DataW.trod_bool ht hx
      exact ⟨[.bool b], sts_one rfl (.bool b), .bool ht⟩
    · rename_i k ht
      obtain ⟨n, rfl, _, hw⟩ := DataW.trod_int ht hx
      exact ⟨[.int k n], sts_one rfl (.int k n), .int ht hw⟩
    · rename_i ht
      obtain ⟨s, rfl, _, hl⟩ := DataW.trod_string ht hx
      exact ⟨[.str s.data.toList], sts_one rfl (.str _ s rfl), .str ht (by simpa using hl)⟩
    · rename_i e ht
      simp only [Bool.and_eq_true, decide_eq_true_eq] at hd
      rcases DataW.trod_slice ht hx with ⟨rfl, _⟩ | ⟨a, len, cap, elems, rest, n, _, rfl, _, hb, hlc, hcm, hel, he, _, _⟩
      · exact ⟨[.nilS], sts_one rfl .nilS, .nilS ht⟩
      · have hrow : ∀ i, i < len → ∃ cs az, w.cells? base (a.add (i * P.cellsOf e)) (P.cellsOf e) = some cs ∧ Sts w az cs ∧ Shp P e az := by
          intro i hi
          have h1 := he i hi
          rw [List.getElem?_eq_getElem (by omega)] at h1
          simp only [Option.bind_eq_some_iff] at h1
          obtain ⟨cs, hcs, h2⟩ := h1
          obtain ⟨az, h3, h4⟩ := ih hd.1 h2
          exact ⟨cs, az, hcs, h3, h4⟩
        obtain ⟨rows, hrl, hrows⟩ := list_choose (α := List Value × List AV) (p := fun i z => w.cells? base (a.add (i * P.cellsOf e)) (P.cellsOf e) = some z.1 ∧ Sts w z.2 z.1 ∧ Shp P e z.2) len (fun i hi => by
          obtain ⟨cs, az, h⟩ := hrow i hi; exact ⟨(cs, az), h⟩)
        have hspot : len ≠ 0 → a.spot = none ∧ a.block < w.heap.size := by
          intro hne
          obtain ⟨cs, az, h, _⟩ := hrow 0 (by omega)
          have h0 := cells_get h (i := 0) (by omega)
          rw [List.getElem?_eq_getElem (by rw [cells_length h]; omega)] at h0
          simp only [Nat.zero_mul] at h0
          have e0 : (a.add 0).add 0 = a := rfl
          rw [e0] at h0
          exact ⟨cell_spot h0, cell_lt h0⟩
        have hz : ∀ (i : Nat) (r : List AV), (rows.map (·.2))[i]? = some r → ∃ cs, rows[i]? = some (cs, r) ∧ w.cells? base (a.add (i * P.cellsOf e)) (P.cellsOf e) = some cs ∧ Sts w r cs ∧ Shp P e r := by
          intro i r h
          rw [List.getElem?_map, Option.map_eq_some_iff] at h
          obtain ⟨z, hz, rfl⟩ := h
          obtain ⟨h1, h2, h3⟩ := hrows i z hz
          exact ⟨z.1, hz, h1, h2, h3⟩
        refine ⟨[.vec (P.cellsOf e) (rows.map (·.2))], sts_one rfl ?_, .vec ht (by simp; omega) ?_⟩
        · have hll : (rows.map (·.2)).length = len := by simp [hrl]
          have hgoal := VRel.vec (w := w) (U := Old w) (ι := fun _ => none) (rows.map (·.2)) a (P.cellsOf e) cap (fun i j => ((rows[i]?).bind fun z => z.1[j]?).getD undef) (by omega)
            (fun r hr => by
              obtain ⟨i, hi⟩ := List.getElem?_of_mem hr
              obtain ⟨cs, _, h1, h2, _⟩ := hz i r hi
              rw [h2.1, cells_length h1])
            (fun hne => (hspot (by intro h0; apply hne; apply List.eq_nil_of_length_eq_zero; omega)).2)
            (fun hne => (hspot (by intro h0; apply hne; apply List.eq_nil_of_length_eq_zero; omega)).1)
            (fun i j hi hj => by
              have hs := (hspot (by omega)).1
              obtain ⟨cs, hcs, h1, h2, _⟩ := hz i (rows.map (·.2))[i] (List.getElem?_eq_getElem hi)
              have h3 := cells_get h1 hj
              rw [hcs]
              simp only [Option.bind_some]
              rw [List.getElem?_eq_getElem (by rw [cells_length h1]; exact hj)] at h3 ⊢
              rw [← add_eq (a := ⟨a.block, a.off + i * P.cellsOf e, none⟩) rfl j, ← add_eq hs]
              exact h3)
            (fun r hr x hxr => by
              obtain ⟨i, hi⟩ := List.getElem?_of_mem hr
              obtain ⟨cs, _, h1, h2, _⟩ := hz i r hi
              obtain ⟨j, hj⟩ := List.getElem?_of_mem hxr
              have hjl : j < cs.length := by rw [← h2.1]; exact (List.getElem?_eq_some_iff.mp hj).1
              exact (h2.2 j x cs[j] hj (List.getElem?_eq_getElem hjl)).1)
            (fun i r j x hi hj => by
              obtain ⟨cs, hcs, h1, h2, _⟩ := hz i r hi
              have hjl : j < cs.length := by rw [← h2.1]; exact (List.getElem?_eq_some_iff.mp hj).1
              have h4 := (h2.2 j x cs[j] hj (List.getElem?_eq_getElem hjl)).2
              simp only [hcs, Option.bind_some, List.getElem?_eq_getElem hjl, Option.getD_some]
              exact h4)
          rw [hll] at hgoal
          exact hgoal
        · intro r hr
          obtain ⟨i, hi⟩ := List.getElem?_of_mem hr
          obtain ⟨_, _, _, _, h⟩ := hz i r hi
          exact h
    · rename_i fs ht
      simp only [Bool.and_eq_true, List.all_eq_true, List.mem_range] at hd
      obtain ⟨hcov, hflds⟩ := hd
      obtain ⟨xs, n, _, _, hcl, hxl, hxf⟩ := DataW.trod_struct ht hx
      have hfi : ∀ i, i < fs.size → ∃ az, ∀ f, fs[i]? = some f → Sts w az ((cs.drop f.offset).take (P.cellsOf f.type)) ∧ Shp P f.type az ∧ f.offset + P.cellsOf f.type ≤ P.cellsOf t ∧ ∀ j, j < P.cellsOf f.type → ownF P fs (f.offset + j) = some i := by
        intro i hi
        have hf0 : fs[i]? = some fs[i] := Array.getElem?_eq_getElem hi
        have h1 := hxf i fs[i] hf0
        rw [List.getElem?_eq_getElem (by omega)] at h1
        have h2 := hflds i hi
        rw [hf0] at h2
        simp only [Bool.and_eq_true, decide_eq_true_eq, List.all_eq_true, List.mem_range, beq_iff_eq] at h2
        obtain ⟨az, h3, h4⟩ := ih h2.1.1 h1
        exact ⟨az, fun f hf => by rw [hf0] at hf; cases hf; exact ⟨h3, h4, h2.1.2, h2.2⟩⟩
      obtain ⟨rows, hrl, hrows⟩ := list_choose fs.size hfi
      have hcell : ∀ c, c < P.cellsOf t → ∃ a, ∀ i f r, ownF P fs c = some i → fs[i]? = some f → rows[i]? = some r → f.offset ≤ c ∧ c < f.offset + P.cellsOf f.type ∧ r[c - f.offset]? = some a := by
        intro c hc
        have h1 := hcov c hc
        obtain ⟨i, hi⟩ := Option.isSome_iff_exists.mp h1
        have h2 := List.find?_some hi
        have h3 : i < fs.size := by simpa using List.mem_of_find?_eq_some hi
        have hf0 : fs[i]? = some fs[i] := Array.getElem?_eq_getElem h3
        rw [hf0] at h2
        simp only [Bool.and_eq_true, decide_eq_true_eq] at h2
        have hr0 : rows[i]? = some rows[i] := List.getElem?_eq_getElem (by omega)
        obtain ⟨hst, _, hle, _⟩ := hrows i rows[i] hr0 fs[i] hf0
        have hlen : rows[i].length = P.cellsOf fs[i].type := by rw [hst.1, List.length_take, List.length_drop, hcl]; omega
        refine ⟨(rows[i])[c - fs[i].offset]'(by omega), fun i' f r hi' hf hr => ?_⟩
        rw [hi] at hi'; cases hi'
        rw [hf0] at hf; cases hf
        rw [hr0] at hr; cases hr
        exact ⟨h2.1, h2.2, List.getElem?_eq_getElem _⟩
      obtain ⟨az, hal, has⟩ := list_choose (P.cellsOf t) hcell
      have hfield : ∀ (i : Nat) (f : Field) (r : List AV), fs[i]? = some f → rows[i]? = some r → (az.drop f.offset).take (P.cellsOf f.type) = r := by
        intro i f r hf hr
        obtain ⟨hst, _, hle, hown⟩ := hrows i r hr f hf
        have hlen : r.length = P.cellsOf f.type := by rw [hst.1, List.length_take, List.length_drop, hcl]; omega
        apply List.ext_getElem?
        intro j
        rcases Nat.lt_or_ge j (P.cellsOf f.type) with hj | hj
        · rw [List.getElem?_take_of_lt hj, List.getElem?_drop]
          have hc : az[f.offset + j]? = some (az[f.offset + j]'(by omega)) := List.getElem?_eq_getElem (by omega)
          obtain ⟨_, _, h3⟩ := has (f.offset + j) _ hc i f r (hown j hj) hf hr
          rw [hc, ← h3]
          congr 1; omega
        · rw [List.getElem?_eq_none (by simp; omega), List.getElem?_eq_none (by omega)]
      refine ⟨az, ⟨by omega, ?_⟩, .struct ht hal ?_⟩
      · intro c a v ha hv
        have hc : c < P.cellsOf t := by rw [← hal]; exact (List.getElem?_eq_some_iff.mp ha).1
        obtain ⟨i, hi⟩ := Option.isSome_iff_exists.mp (hcov c hc)
        have h3 : i < fs.size := by simpa using List.mem_of_find?_eq_some hi
        have hf0 : fs[i]? = some fs[i] := Array.getElem?_eq_getElem h3
        have hr0 : rows[i]? = some rows[i] := List.getElem?_eq_getElem (by omega)
        obtain ⟨hst, _, hle, _⟩ := hrows i rows[i] hr0 fs[i] hf0
        obtain ⟨h4, h5, h6⟩ := has c a ha i fs[i] rows[i] hi hf0 hr0
        refine hst.2 (c - fs[i].offset) a v h6 ?_
        rw [List.getElem?_take_of_lt (by omega), List.getElem?_drop, show fs[i].offset + (c - fs[i].offset) = c by omega]
        exact hv
      · intro i f hf
        have h3 : i < fs.size := (Array.getElem?_eq_some_iff.mp hf).1
        have hr0 : rows[i]? = some rows[i] := List.getElem?_eq_getElem (by omega)
        rw [hfield i f rows[i] hf hr0]
        exact (hrows i rows[i] hr0 f hf).2.1
    · cases hd
theorem open_val {t : TypeId} {v : Value} {x : DataW H} {ps : List MemPlace} {r : Reach} {b0 : Nat} (hd : dataT P 8 t = true) (hval : Value.okWide P w r b0 t v) (hx : DataW.Trod enc P w base spare held t v x ps) :
    ∃ av az, VRel w (Old w) (fun _ => none) av v ∧ Shp P t az ∧ (match P.underlying t with | some (.struct _) => av = .agg az | _ => az = [av]) := by
  obtain ⟨fuel, hf⟩ := hx
  obtain ⟨az, hst, hsh⟩ := open_cells 8 hd hf
  cases hu : P.underlying t with
  | none => exfalso; unfold dataT at hd; rw [hu] at hd; cases hd
  | some u =>
    by_cases hs : ∃ fs, u = .struct fs
    · obtain ⟨fs, rfl⟩ := hs
      obtain ⟨cs, rfl, hcs⟩ := okWide_struct hu hval
      refine ⟨.agg az, az, ?_, hsh, rfl⟩
      have hl : cs.toList.length = az.length := hst.1.symm
      have := VRel.agg (w := w) (U := Old w) (ι := fun _ => none) az cs.toList hl (fun a ha => by
        obtain ⟨i, hi⟩ := List.getElem?_of_mem ha
        have hil : i < cs.toList.length := by rw [hl]; exact (List.getElem?_eq_some_iff.mp hi).1
        exact (hst.2 i a cs.toList[i] hi (List.getElem?_eq_getElem hil)).1) (fun i a v ha hv => (hst.2 i a v ha hv).2)
      simpa using this
    · have hone : ∃ a, az = [a] := by
        cases hsh with
        | struct h' => rw [hu] at h'; cases h'; exact absurd ⟨_, rfl⟩ hs
        | bool _ | int _ | str _ | nilS _ | vec _ => exact ⟨_, rfl⟩
      obtain ⟨a, rfl⟩ := hone
      have hcl : v.cells.toList.length = 1 := hst.1.symm
      have hv : v.cells.toList = [v] := by
        cases v with
        | agg cs =>
          exfalso
          unfold Value.okWide at hval
          rw [hu] at hval
          have hcs : cs.toList.length = 1 := hcl
          obtain ⟨c, hc⟩ : ∃ c, cs.toList = [c] := List.length_eq_one_iff.mp hcs
          unfold dataT at hd
          rw [hu] at hd
          cases u <;> first | (cases hd; done) | (exact absurd ⟨_, rfl⟩ hs) | (simp [Cell.okWide, Cell.ok, hu] at hval)
        | _ => rfl
      refine ⟨a, [a], ?_, hsh, ?_⟩
      · exact (hst.2 0 a v rfl (by rw [hv]; rfl)).2
      · cases u <;> first | rfl | exact absurd ⟨_, rfl⟩ hs
end Go.BX

namespace Go.Proofs.Ytkedlkcknhinoaa.G
open Go.BX
open Go.ChangeShapes Go.WideShapes Go.ChangeAt Go.RowKit
set_option linter.unusedVariables false
theorem own : ownKnob Try.prog.godebug = none := by kernel_rfl
theorem laidOut : laidOutB Try.prog = true := by kernel_rfl
theorem law_calls {f : FuncId} {args : List AV} (hx : Cx.ext f = none) (h : PCall Cx f args (.bool true)) {w : World} {vs : List Value} (ha : LsRel w (Old w) (fun _ => none) args vs) :
    Calls Try.prog f vs.toArray w (fun e w' => e = .returned (.bool true) ∧ Below w.heap.size w w') := by
  obtain ⟨n, hn⟩ := h
  refine (pcall_calls cok hx hn ha).mono ?_
  rintro e w' ⟨⟨v, U', rfl, hv⟩, hb⟩
  cases hv
  exact ⟨rfl, hb⟩
theorem i64_wf {n : Int} (h : (Lit.int .i64 n).wf = true) : -9223372036854775808 ≤ n ∧ n ≤ 9223372036854775807 := bounds_i64 h
end Go.Proofs.Ytkedlkcknhinoaa.G

namespace Go.Proofs.Ytkedlkcknhinoaa.G
open Go.BX
theorem dec_int {cs : List AV} (h : Shp Try.prog 3 cs) : ∃ n, cs = [.int .i64 n] ∧ (-9223372036854775808 ≤ n ∧ n ≤ 9223372036854775807) := by
  obtain ⟨n, h1, h2⟩ := shp_int Try.underlying3 h
  exact ⟨n, h1, i64_wf h2⟩
theorem dec_str {cs : List AV} (h : Shp Try.prog 9 cs) : ∃ s, cs = [.str s] ∧ s.length ≤ maxLen := shp_str Try.underlying9 h
theorem dec_spot {cs : List AV} (h : Shp Try.prog 33 cs) : ∃ x y, cs = [.int .i64 x, .int .i64 y] := by
  obtain ⟨hl, hf⟩ := shp_struct Try.underlying33 h
  have hl2 : cs.length = 2 := hl.trans (by kernel_rfl)
  match cs, hl2 with
  | [a0, a1], _ =>
    have f0 := hf 0 _ rfl
    have f1 := hf 1 _ rfl
    obtain ⟨x, hx, bx⟩ := dec_int f0
    obtain ⟨y, hy, by'⟩ := dec_int f1
    cases hx
    cases hy
    exact ⟨_, _, rfl⟩
theorem dec_val {cs : List AV} (h : Shp Try.prog 35 cs) : ∃ k n s x y, cs = [.int .i64 k, .int .i64 n, .str s, .int .i64 x, .int .i64 y] := by
  obtain ⟨hl, hf⟩ := shp_struct Try.underlying35 h
  have hl2 : cs.length = 5 := hl.trans (by kernel_rfl)
  match cs, hl2 with
  | [a0, a1, a2, a3, a4], _ =>
    have f0 := hf 0 _ rfl
    have f1 := hf 1 _ rfl
    have f2 := hf 2 _ rfl
    have f3 := hf 3 _ rfl
    obtain ⟨k, hk, bk⟩ := dec_int f0
    obtain ⟨n, hn, bn⟩ := dec_int f1
    obtain ⟨s, hs, bs⟩ := dec_str f2
    obtain ⟨x, y, hxy⟩ := dec_spot f3
    cases hk
    cases hn
    cases hs
    have hxy' : [a3, a4] = [.int .i64 x, .int .i64 y] := hxy
    cases hxy'
    exact ⟨_, _, _, _, _, rfl⟩
theorem dec_node {cs : List AV} (h : Shp Try.prog 52 cs) : ∃ p : Nd, cs = encN p ∧ numN p := by
  obtain ⟨hl, hf⟩ := shp_struct Try.underlying52 h
  have hl2 : cs.length = 6 := hl.trans (by kernel_rfl)
  match cs, hl2 with
  | [a0, a1, a2, a3, a4, a5], _ =>
    have f0 := hf 0 _ rfl
    have f1 := hf 1 _ rfl
    obtain ⟨o, ho, bo⟩ := dec_int f0
    obtain ⟨k, n, s, x, y, hv⟩ := dec_val f1
    cases ho
    have hv' : [a1, a2, a3, a4, a5] = [.int .i64 k, .int .i64 n, .str s, .int .i64 x, .int .i64 y] := hv
    cases hv'
    exact ⟨⟨o, ⟨k, n, s, x, y⟩⟩, rfl, bo⟩
theorem rows_nodes : ∀ {es : List (List AV)}, (∀ r, r ∈ es → ∃ p : Nd, r = encN p ∧ numN p) → ∃ l : List Nd, es = l.map encN ∧ numL l
  | [], _ => ⟨[], rfl, fun n h => by cases h⟩
  | r :: es, h => by
    obtain ⟨p, rfl, hp⟩ := h r (by simp)
    obtain ⟨l, rfl, hl⟩ := rows_nodes (es := es) (fun r hr => h r (by simp [hr]))
    exact ⟨p :: l, rfl, fun n hm => by rcases List.mem_cons.mp hm with rfl | hm; exact hp; exact hl n hm⟩
theorem dec_nodes {a : AV} (h : Shp Try.prog 22 [a]) : ∃ l : List Nd, InN a l ∧ numL l ∧ l.length ≤ maxLen := by
  rcases shp_slice Try.underlying22 h with e | ⟨es, e, hl, hr⟩
  · cases e
    exact ⟨[], .inl ⟨rfl, rfl⟩, (fun n h => by cases h), by simp⟩
  · cases e
    obtain ⟨l, rfl, hn⟩ := rows_nodes (fun r hm => dec_node (hr r hm))
    have hc : Try.prog.cellsOf 52 = 6 := by kernel_rfl
    refine ⟨l, .inr (by rw [hc]), hn, by simpa using hl⟩
end Go.Proofs.Ytkedlkcknhinoaa.G

