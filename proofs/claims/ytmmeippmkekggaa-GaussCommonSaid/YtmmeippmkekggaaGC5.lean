import Derived.Test.YtmmeippmkekggaaGC4
namespace Go.Proofs.Ytmmeippmkekggaa.G
open Go.BX
set_option linter.unusedSimpArgs false
set_option linter.unusedVariables false

/-- c + di divides a + bi. -/
def Dv (c d a b : Int) : Prop := ∃ x y, a = x * c - y * d ∧ b = x * d + y * c

theorem nr_mul {x n : Int} (hn : 0 < n) : nr (x * n) n = x := by
  unfold nr
  refine ((Int.ediv_emod_unique (r := n) (by omega)).mpr ⟨?_, by omega, by omega⟩).1
  grind

theorem dv_div {x y c d : Int} (h0 : ¬ (c = 0 ∧ d = 0)) : qX (x * c - y * d) (x * d + y * c) c d = x ∧ qY (x * c - y * d) (x * d + y * c) c d = y ∧ rX (x * c - y * d) (x * d + y * c) c d = 0 ∧ rY (x * c - y * d) (x * d + y * c) c d = 0 := by
  have hp := nrm_pos h0
  have e1 : qX (x * c - y * d) (x * d + y * c) c d = x := by
    unfold qX
    have : zx (x * c - y * d) (x * d + y * c) c d = x * nrm c d := by unfold zx nrm; grind
    rw [this]; exact nr_mul hp
  have e2 : qY (x * c - y * d) (x * d + y * c) c d = y := by
    unfold qY
    have : zy (x * c - y * d) (x * d + y * c) c d = y * nrm c d := by unfold zy nrm; grind
    rw [this]; exact nr_mul hp
  refine ⟨e1, e2, ?_, ?_⟩
  · unfold rX; rw [e1, e2]; omega
  · unfold rY; rw [e1, e2]; omega

theorem dv_of_rest {a b c d : Int} (h1 : rX a b c d = 0) (h2 : rY a b c d = 0) : Dv c d a b := by
  refine ⟨qX a b c d, qY a b c d, ?_, ?_⟩
  · unfold rX at h1; omega
  · unfold rY at h2; omega

theorem dv_refl (c d : Int) : Dv c d c d := ⟨1, 0, by grind, by grind⟩
theorem dv_zero (c d : Int) : Dv c d 0 0 := ⟨0, 0, by grind, by grind⟩
theorem dv_trans {p q c d a b : Int} (h1 : Dv p q c d) (h2 : Dv c d a b) : Dv p q a b := by
  obtain ⟨x, y, e1, e2⟩ := h1
  obtain ⟨u, v, e3, e4⟩ := h2
  exact ⟨u * x - v * y, u * y + v * x, by rw [e3, e1, e2]; grind, by rw [e4, e1, e2]; grind⟩
/-- What divides two, divides the rest. -/
theorem dv_rest {p q a b c d : Int} (h1 : Dv p q a b) (h2 : Dv p q c d) : Dv p q (rX a b c d) (rY a b c d) := by
  obtain ⟨x, y, e1, e2⟩ := h1
  obtain ⟨u, v, e3, e4⟩ := h2
  unfold rX rY
  generalize qX a b c d = s
  generalize qY a b c d = t
  exact ⟨x - (s * u - t * v), y - (s * v + t * u), by rw [e1, e3, e4]; grind, by rw [e2, e3, e4]; grind⟩
theorem dv_back {p q a b c d : Int} (h1 : Dv p q c d) (h2 : Dv p q (rX a b c d) (rY a b c d)) : Dv p q a b := by
  obtain ⟨u, v, e3, e4⟩ := h1
  obtain ⟨x, y, e1, e2⟩ := h2
  unfold rX at e1
  unfold rY at e2
  generalize qX a b c d = s at *
  generalize qY a b c d = t at *
  refine ⟨x + (s * u - t * v), y + (s * v + t * u), ?_, ?_⟩
  · rw [e3, e4] at e1; grind
  · rw [e3, e4] at e2; grind

theorem gcd_dv (a b c d : Int) : Dv (gcdG a b c d).1 (gcdG a b c d).2 a b ∧ Dv (gcdG a b c d).1 (gcdG a b c d).2 c d := by
  induction a, b, c, d using gcdG.induct with
  | case1 a b c d h => rw [gcdG, dif_pos h]; obtain ⟨rfl, rfl⟩ := h; exact ⟨dv_refl _ _, dv_zero _ _⟩
  | case2 a b c d h ih => rw [gcdG, dif_neg h]; exact ⟨dv_back ih.1 ih.2, ih.1⟩

theorem gcd_most (p q a b c d : Int) (h1 : Dv p q a b) (h2 : Dv p q c d) : Dv p q (gcdG a b c d).1 (gcdG a b c d).2 := by
  induction a, b, c, d using gcdG.induct with
  | case1 a b c d h => rw [gcdG, dif_pos h]; exact h1
  | case2 a b c d h ih => rw [gcdG, dif_neg h]; exact ih h2 (dv_rest h1 h2)

theorem fst_dv (a b : Int) : Dv a b (fst2 a b).1 (fst2 a b).2 ∧ Dv (fst2 a b).1 (fst2 a b).2 a b := by
  unfold fst2
  split
  · rename_i h; obtain ⟨rfl, rfl⟩ := h; exact ⟨dv_refl _ _, dv_refl _ _⟩
  split
  · exact ⟨dv_refl _ _, dv_refl _ _⟩
  split
  · exact ⟨⟨0, 1, by grind, by grind⟩, ⟨0, -1, by grind, by grind⟩⟩
  split
  · exact ⟨⟨-1, 0, by grind, by grind⟩, ⟨-1, 0, by grind, by grind⟩⟩
  · exact ⟨⟨0, -1, by grind, by grind⟩, ⟨0, 1, by grind, by grind⟩⟩

theorem fst_sign (a b : Int) : (fst2 a b).1 = 0 ∧ (fst2 a b).2 = 0 ∨ 0 < (fst2 a b).1 ∧ 0 ≤ (fst2 a b).2 := by
  unfold fst2
  split
  · exact Or.inl ⟨rfl, rfl⟩
  split
  · right; assumption
  split
  · right; assumption
  split
  · right; assumption
  · right; show 0 < b ∧ 0 ≤ -a; omega

theorem comm_dv (a b c d : Int) : Dv (CommV a b c d).1 (CommV a b c d).2 a b ∧ Dv (CommV a b c d).1 (CommV a b c d).2 c d := by
  have h1 := gcd_dv a b c d
  have h2 := fst_dv (gcdG a b c d).1 (gcdG a b c d).2
  exact ⟨dv_trans h2.2 h1.1, dv_trans h2.2 h1.2⟩
theorem comm_most (p q a b c d : Int) (h1 : Dv p q a b) (h2 : Dv p q c d) : Dv p q (CommV a b c d).1 (CommV a b c d).2 :=
  dv_trans (gcd_most p q a b c d h1 h2) (fst_dv _ _).1

theorem fst_in {a b : Int} (ha : inR a = true) (hb : inR b = true) : inR (fst2 a b).1 = true ∧ inR (fst2 a b).2 = true := by
  unfold fst2
  simp only [inR_iff] at *
  split
  · exact ⟨by show _ ≤ (0:Int) ∧ _; omega, by show _ ≤ (0:Int) ∧ _; omega⟩
  split
  · exact ⟨ha, hb⟩
  split
  · exact ⟨by show _ ≤ -b ∧ _; omega, ha⟩
  split
  · exact ⟨by show _ ≤ -a ∧ _; omega, by show _ ≤ -b ∧ _; omega⟩
  · exact ⟨hb, by show _ ≤ -a ∧ _; omega⟩

theorem comm_in {a b c d : Int} (ha : inR a = true) (hb : inR b = true) (hc : inR c = true) (hd : inR d = true) : inR (CommV a b c d).1 = true ∧ inR (CommV a b c d).2 = true := by
  have h := gcd_in a b c d ha hb hc hd
  exact fst_in h.1 h.2

theorem one_of {c : Int} (h : c * c ≤ 1) : c = 0 ∨ c = 1 ∨ c = -1 := by have := sq_ge c; omega

/-- A quotient without a rest is right. -/
theorem quot_in {x y c d a b : Int} (ha : inR a = true) (hb : inR b = true) (h0 : ¬ (c = 0 ∧ d = 0)) (e1 : a = x * c - y * d) (e2 : b = x * d + y * c) : inR x = true ∧ inR y = true := by
  have hp := nrm_pos h0
  have hN := nrm_le ha hb
  have e : nrm a b = nrm x y * nrm c d := by rw [e1, e2]; unfold nrm; grind
  have hx := sq_nonneg x
  have hy := sq_nonneg y
  rcases Int.lt_or_le 1 (nrm c d) with h | h
  · have h2 : nrm x y * 2 ≤ nrm x y * nrm c d := Int.mul_le_mul_of_nonneg_left (by omega) (nrm_nonneg x y)
    unfold nrm at h2 e hN hp
    have hN2 := nrm_bound ha hb
    exact ⟨sq_le (by omega), sq_le (by omega)⟩
  · have h1 := sq_nonneg c
    have h2 := sq_nonneg d
    unfold nrm at h hp
    have h3 := one_of (c := c) (by omega)
    have h4 := one_of (c := d) (by omega)
    simp only [inR_iff] at *
    rcases h3 with rfl | rfl | rfl <;> rcases h4 with rfl | rfl | rfl <;> simp at h hp e1 e2 <;> omega

/-- Div, where nothing is left. -/
theorem Div_dv {a b c d : Int} (h1 : (inR a && inR b) = true) (h2 : (inR c && inR d) = true) (h0 : ¬ (c = 0 ∧ d = 0)) (h : Dv c d a b) : ∃ x y, PCall Cx 9 [spot a b, spot c d] (.tuple [spot x y, spot 0 0, .int .i64 0]) := by
  obtain ⟨x, y, e1, e2⟩ := h
  have hD := Div_ok a b c d
  have h1' := h1
  simp only [Bool.and_eq_true] at h1'
  have hi := quot_in h1'.1 h1'.2 h0 e1 e2
  obtain ⟨f1, f2, f3, f4⟩ := dv_div (x := x) (y := y) h0
  rw [← e1, ← e2] at f1 f2 f3 f4
  rw [DivR_ok (by rw [h1, h2]; rfl) h0 (by rw [f1, f2, hi.1, hi.2]; rfl), f1, f2, f3, f4] at hD
  exact ⟨x, y, hD⟩

/-- What Div may answer. -/
theorem Div_ex (a b c d : Int) : (∃ n, n ≠ 0 ∧ PCall Cx 9 [spot a b, spot c d] (.tuple [spot 0 0, spot 0 0, .int .i64 n])) ∨ ((inR a && inR b) = true ∧ (inR c && inR d) = true ∧ ¬ (c = 0 ∧ d = 0) ∧ PCall Cx 9 [spot a b, spot c d] (.tuple [spot (qX a b c d) (qY a b c d), spot (rX a b c d) (rY a b c d), .int .i64 0])) := by
  have hD := Div_ok a b c d
  unfold DivR errT at hD
  split at hD
  · rename_i g1
    split at hD
    · exact .inl ⟨16, by decide, hD⟩
    · rename_i g2
      split at hD
      · rename_i g3
        simp only [Bool.and_eq_true] at g1
        exact .inr ⟨by rw [g1.1.1, g1.1.2]; rfl, by rw [g1.2.1, g1.2.2]; rfl, g2, hD⟩
      · exact .inl ⟨14, by decide, hD⟩
  · exact .inl ⟨14, by decide, hD⟩

theorem sEq {a b : Int} (h : ¬ (a = 0 ∧ b = 0)) : ((a == 0) && (b == 0)) = false := by
  have hq : ∀ p q : Bool, (p && q) = false ↔ ¬ (p = true ∧ q = true) := by decide
  rw [hq]; simpa using h

set_option maxRecDepth 20000 in
set_option maxHeartbeats 4000000 in
theorem GaussCommon_ok (a b c d x y : Int) : PCall Cx 4 [spot a b, spot c d, spot x y] (.bool true) := by
  refine pcall_run (noext _) body4 ?_
  have hC := Common_ok a b c d
  unfold CommR errS at hC
  by_cases hin : ((inR a && inR b) && (inR c && inR d)) = true
  · rw [if_pos hin] at hC
    have hin' := hin
    simp only [Bool.and_eq_true] at hin'
    have h1 : (inR a && inR b) = true := by rw [hin'.1.1, hin'.1.2]; rfl
    have h2 : (inR c && inR d) = true := by rw [hin'.2.1, hin'.2.2]; rfl
    have hv := comm_dv a b c d
    have hm := fun u v => comm_most u v a b c d
    have hi := comm_in hin'.1.1 hin'.1.2 hin'.2.1 hin'.2.2
    have hs := fst_sign (gcdG a b c d).1 (gcdG a b c d).2
    change (CommV a b c d).1 = 0 ∧ (CommV a b c d).2 = 0 ∨ 0 < (CommV a b c d).1 ∧ 0 ≤ (CommV a b c d).2 at hs
    generalize (CommV a b c d).1 = p at *
    generalize (CommV a b c d).2 = q at *
    rcases hs with ⟨rfl, rfl⟩ | ⟨hs1, hs2⟩
    · obtain ⟨⟨u, v, e1, e2⟩, ⟨u', v', e3, e4⟩⟩ := hv
      simp only [Int.mul_zero, Int.sub_zero, Int.add_zero] at e1 e2 e3 e4
      subst e1 e2 e3 e4
      simp (config := { maxSteps := 3000000 }) only [call_pure pure10 rfl awake_ok, call_pure pure12 rfl hC, n4_0, n4_1, n4_2, n4_3, n4_4, n4_5, n4_6, n4_7, n4_8, n4_9, n4_10, n4_11, n4_12, n4_13, n4_14, n4_15, n4_16, n4_17, n4_18, n4_19, n4_20, n4_21, n4_22, n4_23, n4_24, n4_25, n4_26, n4_27, n4_28, n4_29, n4_30, n4_31, n4_32, n4_33, n4_34, n4_35, n4_36, n4_37, n4_38, n4_39, n4_40, n4_41, n4_42, n4_43, n4_44, n4_45, n4_46, n4_47, n4_48, n4_49, n4_50, n4_51, n4_52, n4_53, n4_54, n4_55, n4_56, o4_1, o4_4, o4_7, o4_11, o4_14, o4_17, o4_22, o4_25, o4_29, o4_31, o4_34, o4_37, o4_41, o4_43, o4_46, o4_49, o4_53, o4_55, res4, TT_3, TT_4, TT_23, TT_24, TT_47, TT_51, TT_52, ro_cons, ro_nil, ro_guardC, runGuard_bool, runGuard_undef, rop_assign, rop_move, rop_binOp, rop_unOp, rop_pick, rop_box, rop_alloc, rop_build, rop_field, rop_fieldAddr, rop_load, rop_store, rop_convert, rop_extract, rop_nilCheck, rop_builtinC, rop_callC, rop_callC, runA_fn, runB_some, runV_some, runVH_some, runCond_bool, primP, primM, ev, evs, parts_, ofConst, fltOf_0, bin, un, intBin, putA, enterT, upd_app, decide_true, decide_false, Nat.reduceEqDiff, Nat.reduceAdd, Nat.reduceMul, Nat.reduceLeDiff, Nat.reduceLT, Nat.zero_add, Bool.false_eq_true, Bool.not_true, Bool.not_false, ↓reduceIte, reduceCtorEq, List.getElem?_cons_zero, List.getElem?_cons_succ, List.getElem?_nil, Option.getD_some, Option.map_some, RunRes, resultsA, oneOf, freeze_int, freeze_bool, freeze_str, freeze_flt, freeze_cpx, freeze_agg, freeze_tuple, freeze2_int, freeze2_bool, freeze2_agg, freeze2_cpx, freeze2_flt, freeze1_int, freeze1_bool, freeze1_str, mapO_nil, mapO_cons, consO_some, AV.plain, AV.cells, AHeap.push, AHeap.set, AHeap.empty, fieldOf, loadA, storeA, BX.part, TK.isAgg, convA, builtinA, inertB, builtinP, buildA, fillA, splice, List.length_cons, List.length_nil, List.take_succ_cons, List.take_zero, List.take_nil, List.drop_succ_cons, List.drop_zero, List.drop_nil, List.cons_append, List.nil_append, List.append_nil, List.set_cons_zero, List.set_cons_succ, true_and, and_true, and_self, eqv, cellsEq, Option.bind_some, sizeT, dyn_nil, dyn_end, dyn_cons, dop_move, dop_assign, dop_build, dop_nilCheck, dop_fieldAddr, dop_field, dop_indexAddr, dop_binOp, dop_extract, dop_load, dop_store, dop_alloc, dop_box, dop_buildSlice, dynV_some, chk_nil, chk_cons, apart_ptr, adT, ldT, fwT, bne_iff_ne, ne_eq, not_false_eq_true, not_true_eq_false, Nat.le_refl, Nat.add_zero, Bool.true_and, Bool.and_true, Bool.false_and, Bool.and_false, Nat.reduceBeqDiff, Nat.reduceBneDiff, Int.reduceBNe, Int.reduceBEq, Int.reduceEq, Int.reduceLT, Int.reduceLE, Int.reduceAdd, Int.reduceSub, Int.reduceMul, Int.reduceNeg, beq_self_eq_true, bne_self_eq_false]
    · have h0 : ¬ (p = 0 ∧ q = 0) := by omega
      have h3 : (inR p && inR q) = true := by rw [hi.1, hi.2]; rfl
      obtain ⟨x1, y1, d1⟩ := Div_dv h1 h3 h0 hv.1
      obtain ⟨x2, y2, d2⟩ := Div_dv h2 h3 h0 hv.2
      have k1 : (p ≤ 0) = False := eq_false (by omega)
      have k2 : (q < 0) = False := eq_false (by omega)
      have k3 := sEq h0
      rcases Div_ex a b x y with ⟨n, hn, d3⟩ | ⟨_, h4, h5, d3⟩
      · have k4 : (n != 0) = true := by simpa using hn
        rcases Div_ex c d x y with ⟨m, hm2, d4⟩ | ⟨_, _, _, d4⟩ <;>
        simp (config := { maxSteps := 3000000 }) only [k1, k2, k3, k4, call_pure pure10 rfl awake_ok, call_pure pure12 rfl hC, call_pure pure9 rfl d1, call_pure pure9 rfl d2, call_pure pure9 rfl d3, call_pure pure9 rfl d4, n4_0, n4_1, n4_2, n4_3, n4_4, n4_5, n4_6, n4_7, n4_8, n4_9, n4_10, n4_11, n4_12, n4_13, n4_14, n4_15, n4_16, n4_17, n4_18, n4_19, n4_20, n4_21, n4_22, n4_23, n4_24, n4_25, n4_26, n4_27, n4_28, n4_29, n4_30, n4_31, n4_32, n4_33, n4_34, n4_35, n4_36, n4_37, n4_38, n4_39, n4_40, n4_41, n4_42, n4_43, n4_44, n4_45, n4_46, n4_47, n4_48, n4_49, n4_50, n4_51, n4_52, n4_53, n4_54, n4_55, n4_56, o4_1, o4_4, o4_7, o4_11, o4_14, o4_17, o4_22, o4_25, o4_29, o4_31, o4_34, o4_37, o4_41, o4_43, o4_46, o4_49, o4_53, o4_55, res4, TT_3, TT_4, TT_23, TT_24, TT_47, TT_51, TT_52, ro_cons, ro_nil, ro_guardC, runGuard_bool, runGuard_undef, rop_assign, rop_move, rop_binOp, rop_unOp, rop_pick, rop_box, rop_alloc, rop_build, rop_field, rop_fieldAddr, rop_load, rop_store, rop_convert, rop_extract, rop_nilCheck, rop_builtinC, rop_callC, rop_callC, runA_fn, runB_some, runV_some, runVH_some, runCond_bool, primP, primM, ev, evs, parts_, ofConst, fltOf_0, bin, un, intBin, putA, enterT, upd_app, decide_true, decide_false, Nat.reduceEqDiff, Nat.reduceAdd, Nat.reduceMul, Nat.reduceLeDiff, Nat.reduceLT, Nat.zero_add, Bool.false_eq_true, Bool.not_true, Bool.not_false, ↓reduceIte, reduceCtorEq, List.getElem?_cons_zero, List.getElem?_cons_succ, List.getElem?_nil, Option.getD_some, Option.map_some, RunRes, resultsA, oneOf, freeze_int, freeze_bool, freeze_str, freeze_flt, freeze_cpx, freeze_agg, freeze_tuple, freeze2_int, freeze2_bool, freeze2_agg, freeze2_cpx, freeze2_flt, freeze1_int, freeze1_bool, freeze1_str, mapO_nil, mapO_cons, consO_some, AV.plain, AV.cells, AHeap.push, AHeap.set, AHeap.empty, fieldOf, loadA, storeA, BX.part, TK.isAgg, convA, builtinA, inertB, builtinP, buildA, fillA, splice, List.length_cons, List.length_nil, List.take_succ_cons, List.take_zero, List.take_nil, List.drop_succ_cons, List.drop_zero, List.drop_nil, List.cons_append, List.nil_append, List.append_nil, List.set_cons_zero, List.set_cons_succ, true_and, and_true, and_self, eqv, cellsEq, Option.bind_some, sizeT, dyn_nil, dyn_end, dyn_cons, dop_move, dop_assign, dop_build, dop_nilCheck, dop_fieldAddr, dop_field, dop_indexAddr, dop_binOp, dop_extract, dop_load, dop_store, dop_alloc, dop_box, dop_buildSlice, dynV_some, chk_nil, chk_cons, apart_ptr, adT, ldT, fwT, bne_iff_ne, ne_eq, not_false_eq_true, not_true_eq_false, Nat.le_refl, Nat.add_zero, Bool.true_and, Bool.and_true, Bool.false_and, Bool.and_false, Nat.reduceBeqDiff, Nat.reduceBneDiff, Int.reduceBNe, Int.reduceBEq, Int.reduceEq, Int.reduceLT, Int.reduceLE, Int.reduceAdd, Int.reduceSub, Int.reduceMul, Int.reduceNeg, beq_self_eq_true, bne_self_eq_false]
      · rcases Div_ex c d x y with ⟨m, hm2, d4⟩ | ⟨_, _, _, d4⟩
        · have k4 : (m != 0) = true := by simpa using hm2
          simp (config := { maxSteps := 3000000 }) only [k1, k2, k3, k4, call_pure pure10 rfl awake_ok, call_pure pure12 rfl hC, call_pure pure9 rfl d1, call_pure pure9 rfl d2, call_pure pure9 rfl d3, call_pure pure9 rfl d4, n4_0, n4_1, n4_2, n4_3, n4_4, n4_5, n4_6, n4_7, n4_8, n4_9, n4_10, n4_11, n4_12, n4_13, n4_14, n4_15, n4_16, n4_17, n4_18, n4_19, n4_20, n4_21, n4_22, n4_23, n4_24, n4_25, n4_26, n4_27, n4_28, n4_29, n4_30, n4_31, n4_32, n4_33, n4_34, n4_35, n4_36, n4_37, n4_38, n4_39, n4_40, n4_41, n4_42, n4_43, n4_44, n4_45, n4_46, n4_47, n4_48, n4_49, n4_50, n4_51, n4_52, n4_53, n4_54, n4_55, n4_56, o4_1, o4_4, o4_7, o4_11, o4_14, o4_17, o4_22, o4_25, o4_29, o4_31, o4_34, o4_37, o4_41, o4_43, o4_46, o4_49, o4_53, o4_55, res4, TT_3, TT_4, TT_23, TT_24, TT_47, TT_51, TT_52, ro_cons, ro_nil, ro_guardC, runGuard_bool, runGuard_undef, rop_assign, rop_move, rop_binOp, rop_unOp, rop_pick, rop_box, rop_alloc, rop_build, rop_field, rop_fieldAddr, rop_load, rop_store, rop_convert, rop_extract, rop_nilCheck, rop_builtinC, rop_callC, rop_callC, runA_fn, runB_some, runV_some, runVH_some, runCond_bool, primP, primM, ev, evs, parts_, ofConst, fltOf_0, bin, un, intBin, putA, enterT, upd_app, decide_true, decide_false, Nat.reduceEqDiff, Nat.reduceAdd, Nat.reduceMul, Nat.reduceLeDiff, Nat.reduceLT, Nat.zero_add, Bool.false_eq_true, Bool.not_true, Bool.not_false, ↓reduceIte, reduceCtorEq, List.getElem?_cons_zero, List.getElem?_cons_succ, List.getElem?_nil, Option.getD_some, Option.map_some, RunRes, resultsA, oneOf, freeze_int, freeze_bool, freeze_str, freeze_flt, freeze_cpx, freeze_agg, freeze_tuple, freeze2_int, freeze2_bool, freeze2_agg, freeze2_cpx, freeze2_flt, freeze1_int, freeze1_bool, freeze1_str, mapO_nil, mapO_cons, consO_some, AV.plain, AV.cells, AHeap.push, AHeap.set, AHeap.empty, fieldOf, loadA, storeA, BX.part, TK.isAgg, convA, builtinA, inertB, builtinP, buildA, fillA, splice, List.length_cons, List.length_nil, List.take_succ_cons, List.take_zero, List.take_nil, List.drop_succ_cons, List.drop_zero, List.drop_nil, List.cons_append, List.nil_append, List.append_nil, List.set_cons_zero, List.set_cons_succ, true_and, and_true, and_self, eqv, cellsEq, Option.bind_some, sizeT, dyn_nil, dyn_end, dyn_cons, dop_move, dop_assign, dop_build, dop_nilCheck, dop_fieldAddr, dop_field, dop_indexAddr, dop_binOp, dop_extract, dop_load, dop_store, dop_alloc, dop_box, dop_buildSlice, dynV_some, chk_nil, chk_cons, apart_ptr, adT, ldT, fwT, bne_iff_ne, ne_eq, not_false_eq_true, not_true_eq_false, Nat.le_refl, Nat.add_zero, Bool.true_and, Bool.and_true, Bool.false_and, Bool.and_false, Nat.reduceBeqDiff, Nat.reduceBneDiff, Int.reduceBNe, Int.reduceBEq, Int.reduceEq, Int.reduceLT, Int.reduceLE, Int.reduceAdd, Int.reduceSub, Int.reduceMul, Int.reduceNeg, beq_self_eq_true, bne_self_eq_false]
        · by_cases g1 : rX a b x y = 0 ∧ rY a b x y = 0
          · by_cases g2 : rX c d x y = 0 ∧ rY c d x y = 0
            · obtain ⟨x5, y5, d5⟩ := Div_dv h3 h4 h5 (hm x y (dv_of_rest g1.1 g1.2) (dv_of_rest g2.1 g2.2))
              rw [g1.1, g1.2] at d3
              rw [g2.1, g2.2] at d4
              simp (config := { maxSteps := 3000000 }) only [k1, k2, k3, call_pure pure10 rfl awake_ok, call_pure pure12 rfl hC, call_pure pure9 rfl d1, call_pure pure9 rfl d2, call_pure pure9 rfl d3, call_pure pure9 rfl d4, call_pure pure9 rfl d5, n4_0, n4_1, n4_2, n4_3, n4_4, n4_5, n4_6, n4_7, n4_8, n4_9, n4_10, n4_11, n4_12, n4_13, n4_14, n4_15, n4_16, n4_17, n4_18, n4_19, n4_20, n4_21, n4_22, n4_23, n4_24, n4_25, n4_26, n4_27, n4_28, n4_29, n4_30, n4_31, n4_32, n4_33, n4_34, n4_35, n4_36, n4_37, n4_38, n4_39, n4_40, n4_41, n4_42, n4_43, n4_44, n4_45, n4_46, n4_47, n4_48, n4_49, n4_50, n4_51, n4_52, n4_53, n4_54, n4_55, n4_56, o4_1, o4_4, o4_7, o4_11, o4_14, o4_17, o4_22, o4_25, o4_29, o4_31, o4_34, o4_37, o4_41, o4_43, o4_46, o4_49, o4_53, o4_55, res4, TT_3, TT_4, TT_23, TT_24, TT_47, TT_51, TT_52, ro_cons, ro_nil, ro_guardC, runGuard_bool, runGuard_undef, rop_assign, rop_move, rop_binOp, rop_unOp, rop_pick, rop_box, rop_alloc, rop_build, rop_field, rop_fieldAddr, rop_load, rop_store, rop_convert, rop_extract, rop_nilCheck, rop_builtinC, rop_callC, rop_callC, runA_fn, runB_some, runV_some, runVH_some, runCond_bool, primP, primM, ev, evs, parts_, ofConst, fltOf_0, bin, un, intBin, putA, enterT, upd_app, decide_true, decide_false, Nat.reduceEqDiff, Nat.reduceAdd, Nat.reduceMul, Nat.reduceLeDiff, Nat.reduceLT, Nat.zero_add, Bool.false_eq_true, Bool.not_true, Bool.not_false, ↓reduceIte, reduceCtorEq, List.getElem?_cons_zero, List.getElem?_cons_succ, List.getElem?_nil, Option.getD_some, Option.map_some, RunRes, resultsA, oneOf, freeze_int, freeze_bool, freeze_str, freeze_flt, freeze_cpx, freeze_agg, freeze_tuple, freeze2_int, freeze2_bool, freeze2_agg, freeze2_cpx, freeze2_flt, freeze1_int, freeze1_bool, freeze1_str, mapO_nil, mapO_cons, consO_some, AV.plain, AV.cells, AHeap.push, AHeap.set, AHeap.empty, fieldOf, loadA, storeA, BX.part, TK.isAgg, convA, builtinA, inertB, builtinP, buildA, fillA, splice, List.length_cons, List.length_nil, List.take_succ_cons, List.take_zero, List.take_nil, List.drop_succ_cons, List.drop_zero, List.drop_nil, List.cons_append, List.nil_append, List.append_nil, List.set_cons_zero, List.set_cons_succ, true_and, and_true, and_self, eqv, cellsEq, Option.bind_some, sizeT, dyn_nil, dyn_end, dyn_cons, dop_move, dop_assign, dop_build, dop_nilCheck, dop_fieldAddr, dop_field, dop_indexAddr, dop_binOp, dop_extract, dop_load, dop_store, dop_alloc, dop_box, dop_buildSlice, dynV_some, chk_nil, chk_cons, apart_ptr, adT, ldT, fwT, bne_iff_ne, ne_eq, not_false_eq_true, not_true_eq_false, Nat.le_refl, Nat.add_zero, Bool.true_and, Bool.and_true, Bool.false_and, Bool.and_false, Nat.reduceBeqDiff, Nat.reduceBneDiff, Int.reduceBNe, Int.reduceBEq, Int.reduceEq, Int.reduceLT, Int.reduceLE, Int.reduceAdd, Int.reduceSub, Int.reduceMul, Int.reduceNeg, beq_self_eq_true, bne_self_eq_false]
            · have k4 : ((rX c d x y == 0) && (rY c d x y == 0)) = false := sEq g2
              rw [g1.1, g1.2] at d3
              simp (config := { maxSteps := 3000000 }) only [k1, k2, k3, k4, call_pure pure10 rfl awake_ok, call_pure pure12 rfl hC, call_pure pure9 rfl d1, call_pure pure9 rfl d2, call_pure pure9 rfl d3, call_pure pure9 rfl d4, n4_0, n4_1, n4_2, n4_3, n4_4, n4_5, n4_6, n4_7, n4_8, n4_9, n4_10, n4_11, n4_12, n4_13, n4_14, n4_15, n4_16, n4_17, n4_18, n4_19, n4_20, n4_21, n4_22, n4_23, n4_24, n4_25, n4_26, n4_27, n4_28, n4_29, n4_30, n4_31, n4_32, n4_33, n4_34, n4_35, n4_36, n4_37, n4_38, n4_39, n4_40, n4_41, n4_42, n4_43, n4_44, n4_45, n4_46, n4_47, n4_48, n4_49, n4_50, n4_51, n4_52, n4_53, n4_54, n4_55, n4_56, o4_1, o4_4, o4_7, o4_11, o4_14, o4_17, o4_22, o4_25, o4_29, o4_31, o4_34, o4_37, o4_41, o4_43, o4_46, o4_49, o4_53, o4_55, res4, TT_3, TT_4, TT_23, TT_24, TT_47, TT_51, TT_52, ro_cons, ro_nil, ro_guardC, runGuard_bool, runGuard_undef, rop_assign, rop_move, rop_binOp, rop_unOp, rop_pick, rop_box, rop_alloc, rop_build, rop_field, rop_fieldAddr, rop_load, rop_store, rop_convert, rop_extract, rop_nilCheck, rop_builtinC, rop_callC, rop_callC, runA_fn, runB_some, runV_some, runVH_some, runCond_bool, primP, primM, ev, evs, parts_, ofConst, fltOf_0, bin, un, intBin, putA, enterT, upd_app, decide_true, decide_false, Nat.reduceEqDiff, Nat.reduceAdd, Nat.reduceMul, Nat.reduceLeDiff, Nat.reduceLT, Nat.zero_add, Bool.false_eq_true, Bool.not_true, Bool.not_false, ↓reduceIte, reduceCtorEq, List.getElem?_cons_zero, List.getElem?_cons_succ, List.getElem?_nil, Option.getD_some, Option.map_some, RunRes, resultsA, oneOf, freeze_int, freeze_bool, freeze_str, freeze_flt, freeze_cpx, freeze_agg, freeze_tuple, freeze2_int, freeze2_bool, freeze2_agg, freeze2_cpx, freeze2_flt, freeze1_int, freeze1_bool, freeze1_str, mapO_nil, mapO_cons, consO_some, AV.plain, AV.cells, AHeap.push, AHeap.set, AHeap.empty, fieldOf, loadA, storeA, BX.part, TK.isAgg, convA, builtinA, inertB, builtinP, buildA, fillA, splice, List.length_cons, List.length_nil, List.take_succ_cons, List.take_zero, List.take_nil, List.drop_succ_cons, List.drop_zero, List.drop_nil, List.cons_append, List.nil_append, List.append_nil, List.set_cons_zero, List.set_cons_succ, true_and, and_true, and_self, eqv, cellsEq, Option.bind_some, sizeT, dyn_nil, dyn_end, dyn_cons, dop_move, dop_assign, dop_build, dop_nilCheck, dop_fieldAddr, dop_field, dop_indexAddr, dop_binOp, dop_extract, dop_load, dop_store, dop_alloc, dop_box, dop_buildSlice, dynV_some, chk_nil, chk_cons, apart_ptr, adT, ldT, fwT, bne_iff_ne, ne_eq, not_false_eq_true, not_true_eq_false, Nat.le_refl, Nat.add_zero, Bool.true_and, Bool.and_true, Bool.false_and, Bool.and_false, Nat.reduceBeqDiff, Nat.reduceBneDiff, Int.reduceBNe, Int.reduceBEq, Int.reduceEq, Int.reduceLT, Int.reduceLE, Int.reduceAdd, Int.reduceSub, Int.reduceMul, Int.reduceNeg, beq_self_eq_true, bne_self_eq_false]
          · have k4 : ((rX a b x y == 0) && (rY a b x y == 0)) = false := sEq g1
            simp (config := { maxSteps := 3000000 }) only [k1, k2, k3, k4, call_pure pure10 rfl awake_ok, call_pure pure12 rfl hC, call_pure pure9 rfl d1, call_pure pure9 rfl d2, call_pure pure9 rfl d3, call_pure pure9 rfl d4, n4_0, n4_1, n4_2, n4_3, n4_4, n4_5, n4_6, n4_7, n4_8, n4_9, n4_10, n4_11, n4_12, n4_13, n4_14, n4_15, n4_16, n4_17, n4_18, n4_19, n4_20, n4_21, n4_22, n4_23, n4_24, n4_25, n4_26, n4_27, n4_28, n4_29, n4_30, n4_31, n4_32, n4_33, n4_34, n4_35, n4_36, n4_37, n4_38, n4_39, n4_40, n4_41, n4_42, n4_43, n4_44, n4_45, n4_46, n4_47, n4_48, n4_49, n4_50, n4_51, n4_52, n4_53, n4_54, n4_55, n4_56, o4_1, o4_4, o4_7, o4_11, o4_14, o4_17, o4_22, o4_25, o4_29, o4_31, o4_34, o4_37, o4_41, o4_43, o4_46, o4_49, o4_53, o4_55, res4, TT_3, TT_4, TT_23, TT_24, TT_47, TT_51, TT_52, ro_cons, ro_nil, ro_guardC, runGuard_bool, runGuard_undef, rop_assign, rop_move, rop_binOp, rop_unOp, rop_pick, rop_box, rop_alloc, rop_build, rop_field, rop_fieldAddr, rop_load, rop_store, rop_convert, rop_extract, rop_nilCheck, rop_builtinC, rop_callC, rop_callC, runA_fn, runB_some, runV_some, runVH_some, runCond_bool, primP, primM, ev, evs, parts_, ofConst, fltOf_0, bin, un, intBin, putA, enterT, upd_app, decide_true, decide_false, Nat.reduceEqDiff, Nat.reduceAdd, Nat.reduceMul, Nat.reduceLeDiff, Nat.reduceLT, Nat.zero_add, Bool.false_eq_true, Bool.not_true, Bool.not_false, ↓reduceIte, reduceCtorEq, List.getElem?_cons_zero, List.getElem?_cons_succ, List.getElem?_nil, Option.getD_some, Option.map_some, RunRes, resultsA, oneOf, freeze_int, freeze_bool, freeze_str, freeze_flt, freeze_cpx, freeze_agg, freeze_tuple, freeze2_int, freeze2_bool, freeze2_agg, freeze2_cpx, freeze2_flt, freeze1_int, freeze1_bool, freeze1_str, mapO_nil, mapO_cons, consO_some, AV.plain, AV.cells, AHeap.push, AHeap.set, AHeap.empty, fieldOf, loadA, storeA, BX.part, TK.isAgg, convA, builtinA, inertB, builtinP, buildA, fillA, splice, List.length_cons, List.length_nil, List.take_succ_cons, List.take_zero, List.take_nil, List.drop_succ_cons, List.drop_zero, List.drop_nil, List.cons_append, List.nil_append, List.append_nil, List.set_cons_zero, List.set_cons_succ, true_and, and_true, and_self, eqv, cellsEq, Option.bind_some, sizeT, dyn_nil, dyn_end, dyn_cons, dop_move, dop_assign, dop_build, dop_nilCheck, dop_fieldAddr, dop_field, dop_indexAddr, dop_binOp, dop_extract, dop_load, dop_store, dop_alloc, dop_box, dop_buildSlice, dynV_some, chk_nil, chk_cons, apart_ptr, adT, ldT, fwT, bne_iff_ne, ne_eq, not_false_eq_true, not_true_eq_false, Nat.le_refl, Nat.add_zero, Bool.true_and, Bool.and_true, Bool.false_and, Bool.and_false, Nat.reduceBeqDiff, Nat.reduceBneDiff, Int.reduceBNe, Int.reduceBEq, Int.reduceEq, Int.reduceLT, Int.reduceLE, Int.reduceAdd, Int.reduceSub, Int.reduceMul, Int.reduceNeg, beq_self_eq_true, bne_self_eq_false]
  · rw [if_neg hin] at hC
    simp (config := { maxSteps := 3000000 }) only [call_pure pure10 rfl awake_ok, call_pure pure12 rfl hC, n4_0, n4_1, n4_2, n4_3, n4_4, n4_5, n4_6, n4_7, n4_8, n4_9, n4_10, n4_11, n4_12, n4_13, n4_14, n4_15, n4_16, n4_17, n4_18, n4_19, n4_20, n4_21, n4_22, n4_23, n4_24, n4_25, n4_26, n4_27, n4_28, n4_29, n4_30, n4_31, n4_32, n4_33, n4_34, n4_35, n4_36, n4_37, n4_38, n4_39, n4_40, n4_41, n4_42, n4_43, n4_44, n4_45, n4_46, n4_47, n4_48, n4_49, n4_50, n4_51, n4_52, n4_53, n4_54, n4_55, n4_56, o4_1, o4_4, o4_7, o4_11, o4_14, o4_17, o4_22, o4_25, o4_29, o4_31, o4_34, o4_37, o4_41, o4_43, o4_46, o4_49, o4_53, o4_55, res4, TT_3, TT_4, TT_23, TT_24, TT_47, TT_51, TT_52, ro_cons, ro_nil, ro_guardC, runGuard_bool, runGuard_undef, rop_assign, rop_move, rop_binOp, rop_unOp, rop_pick, rop_box, rop_alloc, rop_build, rop_field, rop_fieldAddr, rop_load, rop_store, rop_convert, rop_extract, rop_nilCheck, rop_builtinC, rop_callC, rop_callC, runA_fn, runB_some, runV_some, runVH_some, runCond_bool, primP, primM, ev, evs, parts_, ofConst, fltOf_0, bin, un, intBin, putA, enterT, upd_app, decide_true, decide_false, Nat.reduceEqDiff, Nat.reduceAdd, Nat.reduceMul, Nat.reduceLeDiff, Nat.reduceLT, Nat.zero_add, Bool.false_eq_true, Bool.not_true, Bool.not_false, ↓reduceIte, reduceCtorEq, List.getElem?_cons_zero, List.getElem?_cons_succ, List.getElem?_nil, Option.getD_some, Option.map_some, RunRes, resultsA, oneOf, freeze_int, freeze_bool, freeze_str, freeze_flt, freeze_cpx, freeze_agg, freeze_tuple, freeze2_int, freeze2_bool, freeze2_agg, freeze2_cpx, freeze2_flt, freeze1_int, freeze1_bool, freeze1_str, mapO_nil, mapO_cons, consO_some, AV.plain, AV.cells, AHeap.push, AHeap.set, AHeap.empty, fieldOf, loadA, storeA, BX.part, TK.isAgg, convA, builtinA, inertB, builtinP, buildA, fillA, splice, List.length_cons, List.length_nil, List.take_succ_cons, List.take_zero, List.take_nil, List.drop_succ_cons, List.drop_zero, List.drop_nil, List.cons_append, List.nil_append, List.append_nil, List.set_cons_zero, List.set_cons_succ, true_and, and_true, and_self, eqv, cellsEq, Option.bind_some, sizeT, dyn_nil, dyn_end, dyn_cons, dop_move, dop_assign, dop_build, dop_nilCheck, dop_fieldAddr, dop_field, dop_indexAddr, dop_binOp, dop_extract, dop_load, dop_store, dop_alloc, dop_box, dop_buildSlice, dynV_some, chk_nil, chk_cons, apart_ptr, adT, ldT, fwT, bne_iff_ne, ne_eq, not_false_eq_true, not_true_eq_false, Nat.le_refl, Nat.add_zero, Bool.true_and, Bool.and_true, Bool.false_and, Bool.and_false, Nat.reduceBeqDiff, Nat.reduceBneDiff, Int.reduceBNe, Int.reduceBEq, Int.reduceEq, Int.reduceLT, Int.reduceLE, Int.reduceAdd, Int.reduceSub, Int.reduceMul, Int.reduceNeg, beq_self_eq_true, bne_self_eq_false]
end Go.Proofs.Ytmmeippmkekggaa.G
