import Derived.Test.YtkcanidmdjfclaaGV1
namespace Go.Proofs.Ytkcanidmdjfclaa.G
open Go.BX
set_option linter.unusedSimpArgs false

/-- An order by three answers. -/
structure IsCmp {α : Type} (c : α → α → Int) : Prop where
  rng : ∀ a b, c a b = -1 ∨ c a b = 0 ∨ c a b = 1
  anti : ∀ a b, c b a = - c a b
  zero : ∀ a b, c a b = 0 ↔ a = b
  trans : ∀ a b d, c a b ≤ 0 → c b d ≤ 0 → c a d ≤ 0

theorem cmpI_cmp : IsCmp cmpI where
  rng a b := by
    unfold cmpI
    split
    · exact .inl rfl
    · split
      · exact .inr (.inr rfl)
      · exact .inr (.inl rfl)
  anti a b := by
    unfold cmpI
    rcases Int.lt_trichotomy a b with h | h | h
    · rw [if_neg (by omega), if_pos h, if_pos h]; rfl
    · subst h; simp
    · rw [if_pos h, if_neg (by omega), if_pos h]
  zero a b := by
    unfold cmpI
    rcases Int.lt_trichotomy a b with h | h | h
    · rw [if_pos h]; constructor <;> intro h2 <;> omega
    · subst h; simp
    · rw [if_neg (by omega), if_pos h]; constructor <;> intro h2 <;> omega
  trans a b d h1 h2 := by
    unfold cmpI at *
    split at h1 <;> split at h2 <;> split <;> (try split at h1) <;> (try split at h2) <;> (try split) <;> omega

theorem u8_lt_trichotomy (x y : UInt8) : x < y ∨ x = y ∨ y < x := by
  rcases Nat.lt_trichotomy x.toNat y.toNat with h | h | h
  · exact .inl h
  · exact .inr (.inl (UInt8.toNat_inj.mp h))
  · exact .inr (.inr h)

theorem cmpL_rng : ∀ a b, cmpL a b = -1 ∨ cmpL a b = 0 ∨ cmpL a b = 1
  | [], [] => by simp [cmpL]
  | [], _ :: _ => by simp [cmpL]
  | _ :: _, [] => by simp [cmpL]
  | x :: xs, y :: ys => by
    unfold cmpL
    have ih := cmpL_rng xs ys
    split
    · exact ih
    · split
      · exact .inl rfl
      · exact .inr (.inr rfl)

theorem cmpL_anti : ∀ a b, cmpL b a = - cmpL a b
  | [], [] => by simp [cmpL]
  | [], _ :: _ => by simp [cmpL]
  | _ :: _, [] => by simp [cmpL]
  | x :: xs, y :: ys => by
    have ih := cmpL_anti xs ys
    unfold cmpL
    rcases u8_lt_trichotomy x y with h | h | h
    · have h1 : ¬ x = y := fun e => by subst e; exact absurd h (UInt8.lt_irrefl _)
      have h2 : ¬ y < x := fun e => absurd (UInt8.lt_trans h e) (UInt8.lt_irrefl _)
      rw [if_neg (fun e => h1 e.symm), if_neg h2, if_neg h1, if_pos h]; rfl
    · subst h; simp [ih]
    · have h1 : ¬ x = y := fun e => by subst e; exact absurd h (UInt8.lt_irrefl _)
      have h2 : ¬ x < y := fun e => absurd (UInt8.lt_trans h e) (UInt8.lt_irrefl _)
      rw [if_neg (fun e => h1 e.symm), if_pos h, if_neg h1, if_neg h2]

theorem cmpL_zero : ∀ a b, cmpL a b = 0 ↔ a = b
  | [], [] => by simp [cmpL]
  | [], _ :: _ => by simp [cmpL]
  | _ :: _, [] => by simp [cmpL]
  | x :: xs, y :: ys => by
    have ih := cmpL_zero xs ys
    unfold cmpL
    by_cases h : x = y
    · subst h; simp [ih]
    · rw [if_neg h]
      split <;> simp [h]

theorem cmpL_trans : ∀ a b d, cmpL a b ≤ 0 → cmpL b d ≤ 0 → cmpL a d ≤ 0
  | [], _, [] => by simp [cmpL]
  | [], _, _ :: _ => by simp [cmpL]
  | _ :: _, [], _ => by simp [cmpL]
  | _ :: _, _ :: _, [] => by simp [cmpL]
  | x :: xs, y :: ys, z :: zs => by
    have ih := cmpL_trans xs ys zs
    unfold cmpL
    intro h1 h2
    by_cases hxy : x = y
    · subst hxy
      rw [if_pos rfl] at h1
      by_cases hz : x = z
      · subst hz
        rw [if_pos rfl] at h2 ⊢
        exact ih h1 h2
      · rw [if_neg hz] at h2 ⊢
        exact h2
    · rw [if_neg hxy] at h1
      have hlt : x < y := by
        by_cases h : x < y
        · exact h
        · rw [if_neg h] at h1; omega
      by_cases hyz : y = z
      · subst hyz
        rw [if_neg hxy, if_pos hlt]; omega
      · rw [if_neg hyz] at h2
        have hlt2 : y < z := by
          by_cases h : y < z
          · exact h
          · rw [if_neg h] at h2; omega
        have hxz := UInt8.lt_trans hlt hlt2
        have hne : ¬ x = z := fun e => by subst e; exact absurd hxz (UInt8.lt_irrefl _)
        rw [if_neg hne, if_pos hxz]; omega

theorem cmpL_cmp : IsCmp cmpL := ⟨cmpL_rng, cmpL_anti, cmpL_zero, cmpL_trans⟩

theorem lex_cmp {α β : Type} {c : α → α → Int} {d : β → β → Int} (hc : IsCmp c) (hd : IsCmp d) : IsCmp (fun (a b : α × β) => oc (c a.1 b.1) (d a.2 b.2)) where
  rng a b := by
    unfold oc
    split
    · exact hd.rng _ _
    · exact hc.rng _ _
  anti a b := by
    unfold oc
    have h1 := hc.anti a.1 b.1
    have h2 := hd.anti a.2 b.2
    by_cases h : c a.1 b.1 = 0
    · rw [if_pos h, if_pos (by omega), h2]
    · rw [if_neg h, if_neg (by omega), h1]
  zero a b := by
    unfold oc
    have h1 := hc.zero a.1 b.1
    have h2 := hd.zero a.2 b.2
    by_cases h : c a.1 b.1 = 0
    · rw [if_pos h, h2]
      constructor
      · intro e; exact Prod.ext (h1.mp h) e
      · intro e; rw [e]
    · rw [if_neg h]
      constructor
      · intro e; exact absurd e h
      · intro e; exact h1.mpr (by rw [e])
  trans a b e h1 h2 := by
    unfold oc at *
    by_cases g1 : c a.1 b.1 = 0
    · have e1 := (hc.zero _ _).mp g1
      rw [if_pos g1] at h1
      rw [e1]
      by_cases g2 : c b.1 e.1 = 0
      · rw [if_pos g2] at h2 ⊢
        exact hd.trans _ _ _ h1 h2
      · rw [if_neg g2] at h2 ⊢
        exact h2
    · rw [if_neg g1] at h1
      by_cases g2 : c b.1 e.1 = 0
      · have e2 := (hc.zero _ _).mp g2
        rw [← e2, if_neg g1]
        exact h1
      · rw [if_neg g2] at h2
        have h3 := hc.trans _ _ _ h1 h2
        have h4 : c a.1 e.1 ≠ 0 := by
          intro h0
          have e0 := (hc.zero _ _).mp h0
          have := hc.anti b.1 e.1
          rw [← e0] at this h2 g2
          omega
        rw [if_neg h4]; exact h3

abbrev V5 := Int × Int × Bytes × Int × Int

theorem ord_cmp : IsCmp (fun (a b : V5) => ordV a.1 a.2.1 a.2.2.1 a.2.2.2.1 a.2.2.2.2 b.1 b.2.1 b.2.2.1 b.2.2.2.1 b.2.2.2.2) :=
  lex_cmp cmpI_cmp (lex_cmp cmpI_cmp (lex_cmp cmpL_cmp (lex_cmp cmpI_cmp cmpI_cmp)))

theorem ord_same (k n : Int) (s : Bytes) (x y : Int) (k' n' : Int) (s' : Bytes) (x' y' : Int) :
    ((k == k') && ((n == n') && ((s == s') && ((x == x') && (y == y'))))) = (ordV k n s x y k' n' s' x' y' == 0) := by
  have h := ord_cmp.zero (k, n, s, x, y) (k', n', s', x', y')
  rw [Bool.eq_iff_iff]
  simp only [Bool.and_eq_true, beq_iff_eq]
  rw [h]
  simp only [Prod.mk.injEq]

set_option maxRecDepth 20000 in
set_option maxHeartbeats 4000000 in
theorem ValueOrder_ok (k1 n1 : Int) (s1 : Bytes) (x1 y1 : Int) (k2 n2 : Int) (s2 : Bytes) (x2 y2 : Int) (k3 n3 : Int) (s3 : Bytes) (x3 y3 : Int) :
    PCall Cx 3 [val k1 n1 s1 x1 y1, val k2 n2 s2 x2 y2, val k3 n3 s3 x3 y3] (.bool true) := by
  refine pcall_run (noext _) body3 ?_
  have r1 := Right_ok k1 n1 s1 x1 y1
  have r2 := Right_ok k2 n2 s2 x2 y2
  have r3 := Right_ok k3 n3 s3 x3 y3
  generalize rightV k1 n1 s1 x1 y1 = R1 at *
  generalize rightV k2 n2 s2 x2 y2 = R2 at *
  generalize rightV k3 n3 s3 x3 y3 = R3 at *
  cases R1 with
  | false => simp (config := { maxSteps := 3000000 }) only [call_pure pure_awake rfl awake_ok, call_pure pure8 rfl r1, n3_0, n3_1, n3_2, n3_3, n3_4, n3_5, n3_6, n3_7, n3_8, n3_9, n3_10, n3_11, n3_12, n3_13, n3_14, o3_1, o3_4, o3_7, o3_11, o3_13, res3, TT_3, TT_4, TT_5, TT_9, TT_23, TT_24, TT_25, TT_32, TT_34, TT_49, TT_51, TT_57, TT_58, TT_59, TT_61, ro_cons, ro_nil, ro_guardC, runGuard_bool, runGuard_undef, rop_assign, rop_move, rop_binOp, rop_unOp, rop_pick, rop_box, rop_alloc, rop_build, rop_field, rop_fieldAddr, rop_load, rop_store, rop_convert, rop_extract, rop_nilCheck, rop_builtinC, rop_callC, rop_callC, runA_fn, runB_some, runV_some, runVH_some, runCond_bool, primP, primM, ev, evs, parts_, ofConst, fltOf_0, bin, un, intBin, putA, enterT, upd_app, decide_true, decide_false, Nat.reduceEqDiff, Nat.reduceAdd, Nat.reduceMul, Nat.reduceLeDiff, Nat.reduceLT, Nat.zero_add, Bool.false_eq_true, Bool.not_true, Bool.not_false, ↓reduceIte, reduceCtorEq, List.getElem?_cons_zero, List.getElem?_cons_succ, List.getElem?_nil, Option.getD_some, Option.map_some, RunRes, resultsA, oneOf, freeze_int, freeze_bool, freeze_str, freeze_flt, freeze_cpx, freeze_agg, freeze_tuple, freeze2_int, freeze2_bool, freeze2_agg, freeze2_cpx, freeze2_flt, freeze1_int, freeze1_bool, freeze1_str, mapO_nil, mapO_cons, consO_some, AV.plain, AV.cells, AHeap.push, AHeap.set, AHeap.empty, fieldOf, loadA, storeA, BX.part, TK.isAgg, convA, builtinA, inertB, builtinP, buildA, fillA, splice, List.length_cons, List.length_nil, List.take_succ_cons, List.take_zero, List.take_nil, List.drop_succ_cons, List.drop_zero, List.drop_nil, List.cons_append, List.nil_append, List.append_nil, List.set_cons_zero, List.set_cons_succ, true_and, and_true, and_self, eqv, cellsEq, Option.bind_some, sizeT, dyn_nil, dyn_end, dyn_cons, dop_move, dop_assign, dop_build, dop_nilCheck, dop_fieldAddr, dop_field, dop_indexAddr, dop_binOp, dop_extract, dop_load, dop_store, dop_alloc, dop_box, dop_buildSlice, dynV_some, chk_nil, chk_cons, apart_ptr, adT, ldT, fwT, bne_iff_ne, ne_eq, not_false_eq_true, not_true_eq_false, Nat.le_refl, Nat.add_zero, Bool.true_and, Bool.and_true, Bool.false_and, Bool.and_false, Nat.reduceBeqDiff, Nat.reduceBneDiff, Int.reduceBNe, Int.reduceBEq, Int.reduceEq, Int.reduceLT, Int.reduceLE, Int.reduceAdd, Int.reduceSub, Int.reduceMul, Int.reduceNeg, beq_self_eq_true, bne_self_eq_false, strBin, rop_indexAddr, rop_buildSlice, rop_index, rop_slice, rop_makeSlice, rop_makeFunc, indexAddrA, elems, lenOf, chunk, List.reduceReplicate, List.flatten_cons, List.flatten_nil, freeze_slc, freeze2_slc, freeze1_slc, frzE_some, freeze1_emp, freeze_emp, freeze2_emp, freeze_nilS, freeze2_nilS, freeze1_nilS, freeze_vec, freeze2_vec, freeze1_vec, Int.toNat_zero, Int.toNat_one, Int.reduceToNat, Int.cast_ofNat_Int]
  | true =>
    cases R2 with
    | false => simp (config := { maxSteps := 3000000 }) only [call_pure pure_awake rfl awake_ok, call_pure pure8 rfl r1, call_pure pure8 rfl r2, n3_0, n3_1, n3_2, n3_3, n3_4, n3_5, n3_6, n3_7, n3_8, n3_9, n3_10, n3_11, n3_12, n3_13, n3_14, o3_1, o3_4, o3_7, o3_11, o3_13, res3, TT_3, TT_4, TT_5, TT_9, TT_23, TT_24, TT_25, TT_32, TT_34, TT_49, TT_51, TT_57, TT_58, TT_59, TT_61, ro_cons, ro_nil, ro_guardC, runGuard_bool, runGuard_undef, rop_assign, rop_move, rop_binOp, rop_unOp, rop_pick, rop_box, rop_alloc, rop_build, rop_field, rop_fieldAddr, rop_load, rop_store, rop_convert, rop_extract, rop_nilCheck, rop_builtinC, rop_callC, rop_callC, runA_fn, runB_some, runV_some, runVH_some, runCond_bool, primP, primM, ev, evs, parts_, ofConst, fltOf_0, bin, un, intBin, putA, enterT, upd_app, decide_true, decide_false, Nat.reduceEqDiff, Nat.reduceAdd, Nat.reduceMul, Nat.reduceLeDiff, Nat.reduceLT, Nat.zero_add, Bool.false_eq_true, Bool.not_true, Bool.not_false, ↓reduceIte, reduceCtorEq, List.getElem?_cons_zero, List.getElem?_cons_succ, List.getElem?_nil, Option.getD_some, Option.map_some, RunRes, resultsA, oneOf, freeze_int, freeze_bool, freeze_str, freeze_flt, freeze_cpx, freeze_agg, freeze_tuple, freeze2_int, freeze2_bool, freeze2_agg, freeze2_cpx, freeze2_flt, freeze1_int, freeze1_bool, freeze1_str, mapO_nil, mapO_cons, consO_some, AV.plain, AV.cells, AHeap.push, AHeap.set, AHeap.empty, fieldOf, loadA, storeA, BX.part, TK.isAgg, convA, builtinA, inertB, builtinP, buildA, fillA, splice, List.length_cons, List.length_nil, List.take_succ_cons, List.take_zero, List.take_nil, List.drop_succ_cons, List.drop_zero, List.drop_nil, List.cons_append, List.nil_append, List.append_nil, List.set_cons_zero, List.set_cons_succ, true_and, and_true, and_self, eqv, cellsEq, Option.bind_some, sizeT, dyn_nil, dyn_end, dyn_cons, dop_move, dop_assign, dop_build, dop_nilCheck, dop_fieldAddr, dop_field, dop_indexAddr, dop_binOp, dop_extract, dop_load, dop_store, dop_alloc, dop_box, dop_buildSlice, dynV_some, chk_nil, chk_cons, apart_ptr, adT, ldT, fwT, bne_iff_ne, ne_eq, not_false_eq_true, not_true_eq_false, Nat.le_refl, Nat.add_zero, Bool.true_and, Bool.and_true, Bool.false_and, Bool.and_false, Nat.reduceBeqDiff, Nat.reduceBneDiff, Int.reduceBNe, Int.reduceBEq, Int.reduceEq, Int.reduceLT, Int.reduceLE, Int.reduceAdd, Int.reduceSub, Int.reduceMul, Int.reduceNeg, beq_self_eq_true, bne_self_eq_false, strBin, rop_indexAddr, rop_buildSlice, rop_index, rop_slice, rop_makeSlice, rop_makeFunc, indexAddrA, elems, lenOf, chunk, List.reduceReplicate, List.flatten_cons, List.flatten_nil, freeze_slc, freeze2_slc, freeze1_slc, frzE_some, freeze1_emp, freeze_emp, freeze2_emp, freeze_nilS, freeze2_nilS, freeze1_nilS, freeze_vec, freeze2_vec, freeze1_vec, Int.toNat_zero, Int.toNat_one, Int.reduceToNat, Int.cast_ofNat_Int]
    | true =>
      cases R3 with
      | false => simp (config := { maxSteps := 3000000 }) only [call_pure pure_awake rfl awake_ok, call_pure pure8 rfl r1, call_pure pure8 rfl r2, call_pure pure8 rfl r3, n3_0, n3_1, n3_2, n3_3, n3_4, n3_5, n3_6, n3_7, n3_8, n3_9, n3_10, n3_11, n3_12, n3_13, n3_14, o3_1, o3_4, o3_7, o3_11, o3_13, res3, TT_3, TT_4, TT_5, TT_9, TT_23, TT_24, TT_25, TT_32, TT_34, TT_49, TT_51, TT_57, TT_58, TT_59, TT_61, ro_cons, ro_nil, ro_guardC, runGuard_bool, runGuard_undef, rop_assign, rop_move, rop_binOp, rop_unOp, rop_pick, rop_box, rop_alloc, rop_build, rop_field, rop_fieldAddr, rop_load, rop_store, rop_convert, rop_extract, rop_nilCheck, rop_builtinC, rop_callC, rop_callC, runA_fn, runB_some, runV_some, runVH_some, runCond_bool, primP, primM, ev, evs, parts_, ofConst, fltOf_0, bin, un, intBin, putA, enterT, upd_app, decide_true, decide_false, Nat.reduceEqDiff, Nat.reduceAdd, Nat.reduceMul, Nat.reduceLeDiff, Nat.reduceLT, Nat.zero_add, Bool.false_eq_true, Bool.not_true, Bool.not_false, ↓reduceIte, reduceCtorEq, List.getElem?_cons_zero, List.getElem?_cons_succ, List.getElem?_nil, Option.getD_some, Option.map_some, RunRes, resultsA, oneOf, freeze_int, freeze_bool, freeze_str, freeze_flt, freeze_cpx, freeze_agg, freeze_tuple, freeze2_int, freeze2_bool, freeze2_agg, freeze2_cpx, freeze2_flt, freeze1_int, freeze1_bool, freeze1_str, mapO_nil, mapO_cons, consO_some, AV.plain, AV.cells, AHeap.push, AHeap.set, AHeap.empty, fieldOf, loadA, storeA, BX.part, TK.isAgg, convA, builtinA, inertB, builtinP, buildA, fillA, splice, List.length_cons, List.length_nil, List.take_succ_cons, List.take_zero, List.take_nil, List.drop_succ_cons, List.drop_zero, List.drop_nil, List.cons_append, List.nil_append, List.append_nil, List.set_cons_zero, List.set_cons_succ, true_and, and_true, and_self, eqv, cellsEq, Option.bind_some, sizeT, dyn_nil, dyn_end, dyn_cons, dop_move, dop_assign, dop_build, dop_nilCheck, dop_fieldAddr, dop_field, dop_indexAddr, dop_binOp, dop_extract, dop_load, dop_store, dop_alloc, dop_box, dop_buildSlice, dynV_some, chk_nil, chk_cons, apart_ptr, adT, ldT, fwT, bne_iff_ne, ne_eq, not_false_eq_true, not_true_eq_false, Nat.le_refl, Nat.add_zero, Bool.true_and, Bool.and_true, Bool.false_and, Bool.and_false, Nat.reduceBeqDiff, Nat.reduceBneDiff, Int.reduceBNe, Int.reduceBEq, Int.reduceEq, Int.reduceLT, Int.reduceLE, Int.reduceAdd, Int.reduceSub, Int.reduceMul, Int.reduceNeg, beq_self_eq_true, bne_self_eq_false, strBin, rop_indexAddr, rop_buildSlice, rop_index, rop_slice, rop_makeSlice, rop_makeFunc, indexAddrA, elems, lenOf, chunk, List.reduceReplicate, List.flatten_cons, List.flatten_nil, freeze_slc, freeze2_slc, freeze1_slc, frzE_some, freeze1_emp, freeze_emp, freeze2_emp, freeze_nilS, freeze2_nilS, freeze1_nilS, freeze_vec, freeze2_vec, freeze1_vec, Int.toNat_zero, Int.toNat_one, Int.reduceToNat, Int.cast_ofNat_Int]
      | true =>
        have o12 := Order_ok k1 n1 s1 x1 y1 k2 n2 s2 x2 y2
        have o21 := Order_ok k2 n2 s2 x2 y2 k1 n1 s1 x1 y1
        have o23 := Order_ok k2 n2 s2 x2 y2 k3 n3 s3 x3 y3
        have o13 := Order_ok k1 n1 s1 x1 y1 k3 n3 s3 x3 y3
        have sm := ord_same k1 n1 s1 x1 y1 k2 n2 s2 x2 y2
        have an : ordV k2 n2 s2 x2 y2 k1 n1 s1 x1 y1 = - ordV k1 n1 s1 x1 y1 k2 n2 s2 x2 y2 := ord_cmp.anti (k1, n1, s1, x1, y1) (k2, n2, s2, x2, y2)
        have rg1 : ordV k1 n1 s1 x1 y1 k2 n2 s2 x2 y2 = -1 ∨ ordV k1 n1 s1 x1 y1 k2 n2 s2 x2 y2 = 0 ∨ ordV k1 n1 s1 x1 y1 k2 n2 s2 x2 y2 = 1 := ord_cmp.rng (k1, n1, s1, x1, y1) (k2, n2, s2, x2, y2)
        have rg3 : ordV k1 n1 s1 x1 y1 k3 n3 s3 x3 y3 = -1 ∨ ordV k1 n1 s1 x1 y1 k3 n3 s3 x3 y3 = 0 ∨ ordV k1 n1 s1 x1 y1 k3 n3 s3 x3 y3 = 1 := ord_cmp.rng (k1, n1, s1, x1, y1) (k3, n3, s3, x3, y3)
        have tr : ordV k1 n1 s1 x1 y1 k2 n2 s2 x2 y2 ≤ 0 → ordV k2 n2 s2 x2 y2 k3 n3 s3 x3 y3 ≤ 0 → ordV k1 n1 s1 x1 y1 k3 n3 s3 x3 y3 ≤ 0 := ord_cmp.trans (k1, n1, s1, x1, y1) (k2, n2, s2, x2, y2) (k3, n3, s3, x3, y3)
        rw [an] at o21
        generalize ordV k1 n1 s1 x1 y1 k2 n2 s2 x2 y2 = X at *
        generalize ordV k2 n2 s2 x2 y2 k3 n3 s3 x3 y3 = Y at *
        generalize ordV k1 n1 s1 x1 y1 k3 n3 s3 x3 y3 = Z at *
        have w1 : IntKind.i64.wrap (0 - -X) = X := by rcases rg1 with rfl | rfl | rfl <;> rfl
        have w2 : IntKind.i64.wrap (X * X) = X * X := by rcases rg1 with rfl | rfl | rfl <;> rfl
        have w3 : (X * X ≤ 1) = True := by rcases rg1 with rfl | rfl | rfl <;> simp
        have w4 : (-1 ≤ Z) = True := eq_true (by omega)
        by_cases g1 : 0 < X
        · simp (config := { maxSteps := 3000000 }) only [sm, w1, w2, w3, w4, g1, call_pure pure_awake rfl awake_ok, call_pure pure8 rfl r1, call_pure pure8 rfl r2, call_pure pure8 rfl r3, call_pure pure9 rfl o12, call_pure pure9 rfl o21, call_pure pure9 rfl o23, call_pure pure9 rfl o13, n3_0, n3_1, n3_2, n3_3, n3_4, n3_5, n3_6, n3_7, n3_8, n3_9, n3_10, n3_11, n3_12, n3_13, n3_14, o3_1, o3_4, o3_7, o3_11, o3_13, res3, TT_3, TT_4, TT_5, TT_9, TT_23, TT_24, TT_25, TT_32, TT_34, TT_49, TT_51, TT_57, TT_58, TT_59, TT_61, ro_cons, ro_nil, ro_guardC, runGuard_bool, runGuard_undef, rop_assign, rop_move, rop_binOp, rop_unOp, rop_pick, rop_box, rop_alloc, rop_build, rop_field, rop_fieldAddr, rop_load, rop_store, rop_convert, rop_extract, rop_nilCheck, rop_builtinC, rop_callC, rop_callC, runA_fn, runB_some, runV_some, runVH_some, runCond_bool, primP, primM, ev, evs, parts_, ofConst, fltOf_0, bin, un, intBin, putA, enterT, upd_app, decide_true, decide_false, Nat.reduceEqDiff, Nat.reduceAdd, Nat.reduceMul, Nat.reduceLeDiff, Nat.reduceLT, Nat.zero_add, Bool.false_eq_true, Bool.not_true, Bool.not_false, ↓reduceIte, reduceCtorEq, List.getElem?_cons_zero, List.getElem?_cons_succ, List.getElem?_nil, Option.getD_some, Option.map_some, RunRes, resultsA, oneOf, freeze_int, freeze_bool, freeze_str, freeze_flt, freeze_cpx, freeze_agg, freeze_tuple, freeze2_int, freeze2_bool, freeze2_agg, freeze2_cpx, freeze2_flt, freeze1_int, freeze1_bool, freeze1_str, mapO_nil, mapO_cons, consO_some, AV.plain, AV.cells, AHeap.push, AHeap.set, AHeap.empty, fieldOf, loadA, storeA, BX.part, TK.isAgg, convA, builtinA, inertB, builtinP, buildA, fillA, splice, List.length_cons, List.length_nil, List.take_succ_cons, List.take_zero, List.take_nil, List.drop_succ_cons, List.drop_zero, List.drop_nil, List.cons_append, List.nil_append, List.append_nil, List.set_cons_zero, List.set_cons_succ, true_and, and_true, and_self, eqv, cellsEq, Option.bind_some, sizeT, dyn_nil, dyn_end, dyn_cons, dop_move, dop_assign, dop_build, dop_nilCheck, dop_fieldAddr, dop_field, dop_indexAddr, dop_binOp, dop_extract, dop_load, dop_store, dop_alloc, dop_box, dop_buildSlice, dynV_some, chk_nil, chk_cons, apart_ptr, adT, ldT, fwT, bne_iff_ne, ne_eq, not_false_eq_true, not_true_eq_false, Nat.le_refl, Nat.add_zero, Bool.true_and, Bool.and_true, Bool.false_and, Bool.and_false, Nat.reduceBeqDiff, Nat.reduceBneDiff, Int.reduceBNe, Int.reduceBEq, Int.reduceEq, Int.reduceLT, Int.reduceLE, Int.reduceAdd, Int.reduceSub, Int.reduceMul, Int.reduceNeg, beq_self_eq_true, bne_self_eq_false, strBin, rop_indexAddr, rop_buildSlice, rop_index, rop_slice, rop_makeSlice, rop_makeFunc, indexAddrA, elems, lenOf, chunk, List.reduceReplicate, List.flatten_cons, List.flatten_nil, freeze_slc, freeze2_slc, freeze1_slc, frzE_some, freeze1_emp, freeze_emp, freeze2_emp, freeze_nilS, freeze2_nilS, freeze1_nilS, freeze_vec, freeze2_vec, freeze1_vec, Int.toNat_zero, Int.toNat_one, Int.reduceToNat, Int.cast_ofNat_Int]
        · by_cases g2 : 0 < Y
          · simp (config := { maxSteps := 3000000 }) only [sm, w1, w2, w3, w4, g1, g2, call_pure pure_awake rfl awake_ok, call_pure pure8 rfl r1, call_pure pure8 rfl r2, call_pure pure8 rfl r3, call_pure pure9 rfl o12, call_pure pure9 rfl o21, call_pure pure9 rfl o23, call_pure pure9 rfl o13, n3_0, n3_1, n3_2, n3_3, n3_4, n3_5, n3_6, n3_7, n3_8, n3_9, n3_10, n3_11, n3_12, n3_13, n3_14, o3_1, o3_4, o3_7, o3_11, o3_13, res3, TT_3, TT_4, TT_5, TT_9, TT_23, TT_24, TT_25, TT_32, TT_34, TT_49, TT_51, TT_57, TT_58, TT_59, TT_61, ro_cons, ro_nil, ro_guardC, runGuard_bool, runGuard_undef, rop_assign, rop_move, rop_binOp, rop_unOp, rop_pick, rop_box, rop_alloc, rop_build, rop_field, rop_fieldAddr, rop_load, rop_store, rop_convert, rop_extract, rop_nilCheck, rop_builtinC, rop_callC, rop_callC, runA_fn, runB_some, runV_some, runVH_some, runCond_bool, primP, primM, ev, evs, parts_, ofConst, fltOf_0, bin, un, intBin, putA, enterT, upd_app, decide_true, decide_false, Nat.reduceEqDiff, Nat.reduceAdd, Nat.reduceMul, Nat.reduceLeDiff, Nat.reduceLT, Nat.zero_add, Bool.false_eq_true, Bool.not_true, Bool.not_false, ↓reduceIte, reduceCtorEq, List.getElem?_cons_zero, List.getElem?_cons_succ, List.getElem?_nil, Option.getD_some, Option.map_some, RunRes, resultsA, oneOf, freeze_int, freeze_bool, freeze_str, freeze_flt, freeze_cpx, freeze_agg, freeze_tuple, freeze2_int, freeze2_bool, freeze2_agg, freeze2_cpx, freeze2_flt, freeze1_int, freeze1_bool, freeze1_str, mapO_nil, mapO_cons, consO_some, AV.plain, AV.cells, AHeap.push, AHeap.set, AHeap.empty, fieldOf, loadA, storeA, BX.part, TK.isAgg, convA, builtinA, inertB, builtinP, buildA, fillA, splice, List.length_cons, List.length_nil, List.take_succ_cons, List.take_zero, List.take_nil, List.drop_succ_cons, List.drop_zero, List.drop_nil, List.cons_append, List.nil_append, List.append_nil, List.set_cons_zero, List.set_cons_succ, true_and, and_true, and_self, eqv, cellsEq, Option.bind_some, sizeT, dyn_nil, dyn_end, dyn_cons, dop_move, dop_assign, dop_build, dop_nilCheck, dop_fieldAddr, dop_field, dop_indexAddr, dop_binOp, dop_extract, dop_load, dop_store, dop_alloc, dop_box, dop_buildSlice, dynV_some, chk_nil, chk_cons, apart_ptr, adT, ldT, fwT, bne_iff_ne, ne_eq, not_false_eq_true, not_true_eq_false, Nat.le_refl, Nat.add_zero, Bool.true_and, Bool.and_true, Bool.false_and, Bool.and_false, Nat.reduceBeqDiff, Nat.reduceBneDiff, Int.reduceBNe, Int.reduceBEq, Int.reduceEq, Int.reduceLT, Int.reduceLE, Int.reduceAdd, Int.reduceSub, Int.reduceMul, Int.reduceNeg, beq_self_eq_true, bne_self_eq_false, strBin, rop_indexAddr, rop_buildSlice, rop_index, rop_slice, rop_makeSlice, rop_makeFunc, indexAddrA, elems, lenOf, chunk, List.reduceReplicate, List.flatten_cons, List.flatten_nil, freeze_slc, freeze2_slc, freeze1_slc, frzE_some, freeze1_emp, freeze_emp, freeze2_emp, freeze_nilS, freeze2_nilS, freeze1_nilS, freeze_vec, freeze2_vec, freeze1_vec, Int.toNat_zero, Int.toNat_one, Int.reduceToNat, Int.cast_ofNat_Int]
          · have g3 : (Z ≤ 0) = True := eq_true (tr (by omega) (by omega))
            simp (config := { maxSteps := 3000000 }) only [sm, w1, w2, w3, w4, g1, g2, g3, call_pure pure_awake rfl awake_ok, call_pure pure8 rfl r1, call_pure pure8 rfl r2, call_pure pure8 rfl r3, call_pure pure9 rfl o12, call_pure pure9 rfl o21, call_pure pure9 rfl o23, call_pure pure9 rfl o13, n3_0, n3_1, n3_2, n3_3, n3_4, n3_5, n3_6, n3_7, n3_8, n3_9, n3_10, n3_11, n3_12, n3_13, n3_14, o3_1, o3_4, o3_7, o3_11, o3_13, res3, TT_3, TT_4, TT_5, TT_9, TT_23, TT_24, TT_25, TT_32, TT_34, TT_49, TT_51, TT_57, TT_58, TT_59, TT_61, ro_cons, ro_nil, ro_guardC, runGuard_bool, runGuard_undef, rop_assign, rop_move, rop_binOp, rop_unOp, rop_pick, rop_box, rop_alloc, rop_build, rop_field, rop_fieldAddr, rop_load, rop_store, rop_convert, rop_extract, rop_nilCheck, rop_builtinC, rop_callC, rop_callC, runA_fn, runB_some, runV_some, runVH_some, runCond_bool, primP, primM, ev, evs, parts_, ofConst, fltOf_0, bin, un, intBin, putA, enterT, upd_app, decide_true, decide_false, Nat.reduceEqDiff, Nat.reduceAdd, Nat.reduceMul, Nat.reduceLeDiff, Nat.reduceLT, Nat.zero_add, Bool.false_eq_true, Bool.not_true, Bool.not_false, ↓reduceIte, reduceCtorEq, List.getElem?_cons_zero, List.getElem?_cons_succ, List.getElem?_nil, Option.getD_some, Option.map_some, RunRes, resultsA, oneOf, freeze_int, freeze_bool, freeze_str, freeze_flt, freeze_cpx, freeze_agg, freeze_tuple, freeze2_int, freeze2_bool, freeze2_agg, freeze2_cpx, freeze2_flt, freeze1_int, freeze1_bool, freeze1_str, mapO_nil, mapO_cons, consO_some, AV.plain, AV.cells, AHeap.push, AHeap.set, AHeap.empty, fieldOf, loadA, storeA, BX.part, TK.isAgg, convA, builtinA, inertB, builtinP, buildA, fillA, splice, List.length_cons, List.length_nil, List.take_succ_cons, List.take_zero, List.take_nil, List.drop_succ_cons, List.drop_zero, List.drop_nil, List.cons_append, List.nil_append, List.append_nil, List.set_cons_zero, List.set_cons_succ, true_and, and_true, and_self, eqv, cellsEq, Option.bind_some, sizeT, dyn_nil, dyn_end, dyn_cons, dop_move, dop_assign, dop_build, dop_nilCheck, dop_fieldAddr, dop_field, dop_indexAddr, dop_binOp, dop_extract, dop_load, dop_store, dop_alloc, dop_box, dop_buildSlice, dynV_some, chk_nil, chk_cons, apart_ptr, adT, ldT, fwT, bne_iff_ne, ne_eq, not_false_eq_true, not_true_eq_false, Nat.le_refl, Nat.add_zero, Bool.true_and, Bool.and_true, Bool.false_and, Bool.and_false, Nat.reduceBeqDiff, Nat.reduceBneDiff, Int.reduceBNe, Int.reduceBEq, Int.reduceEq, Int.reduceLT, Int.reduceLE, Int.reduceAdd, Int.reduceSub, Int.reduceMul, Int.reduceNeg, beq_self_eq_true, bne_self_eq_false, strBin, rop_indexAddr, rop_buildSlice, rop_index, rop_slice, rop_makeSlice, rop_makeFunc, indexAddrA, elems, lenOf, chunk, List.reduceReplicate, List.flatten_cons, List.flatten_nil, freeze_slc, freeze2_slc, freeze1_slc, frzE_some, freeze1_emp, freeze_emp, freeze2_emp, freeze_nilS, freeze2_nilS, freeze1_nilS, freeze_vec, freeze2_vec, freeze1_vec, Int.toNat_zero, Int.toNat_one, Int.reduceToNat, Int.cast_ofNat_Int]
end Go.Proofs.Ytkcanidmdjfclaa.G
