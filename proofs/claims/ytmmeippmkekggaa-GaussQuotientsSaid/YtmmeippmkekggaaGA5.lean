import Derived.Test.YtmmeippmkekggaaGA4
namespace Go.Proofs.Ytmmeippmkekggaa.G
open Go.BX
set_option linter.unusedSimpArgs false

def zx (a b c d : Int) : Int := a * c - b * (0 - d)
def zy (a b c d : Int) : Int := a * (0 - d) + b * c
def qX (a b c d : Int) : Int := nr (zx a b c d) (nrm c d)
def qY (a b c d : Int) : Int := nr (zy a b c d) (nrm c d)
def rX (a b c d : Int) : Int := a - (qX a b c d * c - qY a b c d * d)
def rY (a b c d : Int) : Int := b - (qX a b c d * d + qY a b c d * c)

theorem sq_ge (x : Int) : x ≤ x * x ∧ -x ≤ x * x := by
  constructor
  · rcases Int.le_total 1 x with h | h
    · have := Int.mul_nonneg (a := x) (b := x - 1) (by omega) (by omega)
      rw [Int.mul_sub] at this; omega
    · have := Int.mul_nonneg (a := 1 - x) (b := 1 - x) (by omega) (by omega)
      simp only [Int.sub_mul, Int.mul_sub] at this
      rcases Int.le_total x 0 with h0 | h0
      · have := Int.mul_nonneg_of_nonpos_of_nonpos h0 h0; omega
      · have : x = 0 ∨ x = 1 := by omega
        rcases this with rfl | rfl <;> simp
  · rcases Int.le_total x (-1) with h | h
    · have := Int.mul_nonneg (a := -x) (b := -x - 1) (by omega) (by omega)
      simp only [Int.mul_sub, Int.neg_mul, Int.mul_neg, Int.mul_one] at this; omega
    · rcases Int.le_total 0 x with h0 | h0
      · have := Int.mul_nonneg h0 h0; omega
      · have : x = 0 ∨ x = -1 := by omega
        rcases this with rfl | rfl <;> simp

theorem nrm_pos {c d : Int} (h : ¬ (c = 0 ∧ d = 0)) : 0 < nrm c d := by
  have h1 := sq_ge c
  have h2 := sq_ge d
  unfold nrm
  by_cases hc : c = 0
  · have hd : d ≠ 0 := fun e => h ⟨hc, e⟩
    subst hc
    omega
  · omega

theorem z_bound {a b c d : Int} (ha : inR a = true) (hb : inR b = true) : -(16777216 * nrm c d) ≤ a * c - b * (0 - d) ∧ a * c - b * (0 - d) ≤ 16777216 * nrm c d ∧ -(16777216 * nrm c d) ≤ a * (0 - d) + b * c ∧ a * (0 - d) + b * c ≤ 16777216 * nrm c d := by
  rw [inR_iff] at ha hb
  obtain ⟨c1, c2⟩ := sq_ge c
  obtain ⟨d1, d2⟩ := sq_ge d
  have e1 := mulB (A := 16777216) (M := c * c) ha (b := c) (by omega)
  have e2 := mulB (A := 16777216) (M := d * d) hb (b := 0 - d) (by omega)
  have e3 := mulB (A := 16777216) (M := d * d) ha (b := 0 - d) (by omega)
  have e4 := mulB (A := 16777216) (M := c * c) hb (b := c) (by omega)
  unfold nrm
  rw [Int.mul_add]
  omega

theorem nr_bound {n d : Int} (hd : 0 < d) (h : -(16777216 * d) ≤ n ∧ n ≤ 16777216 * d) : -16777216 ≤ nr n d ∧ nr n d ≤ 16777217 := by
  unfold nr
  constructor
  · exact Int.le_ediv_of_mul_le (by omega) (by omega)
  · exact Int.ediv_le_of_le_mul (by omega) (by omega)

theorem div_ok (a b c d : Int) (ha : inR a = true) (hb : inR b = true) (hc : inR c = true) (hd : inR d = true) (h0 : ¬ (c = 0 ∧ d = 0)) :
    PCall Cx 26 [spot a b, spot c d] (.tuple [spot (qX a b c d) (qY a b c d), spot (rX a b c d) (rY a b c d)]) := by
  refine pcall_run (noext _) body26 ?_
  have hp := nrm_pos h0
  have hN := nrm_bound hc hd
  have hNm : nrm c d ≤ 562949953421312 := by unfold nrm; omega
  obtain ⟨z1, z2, z3, z4⟩ := z_bound (c := c) (d := d) ha hb
  have ha' := inR_iff.mp ha
  have hb' := inR_iff.mp hb
  have hc' := inR_iff.mp hc
  have hd' := inR_iff.mp hd
  have m1 := mulB ha' hc'
  have m2 := mulB hb' (b := 0 - d) (M := 16777216) (by omega)
  have m3 := mulB ha' (b := 0 - d) (M := 16777216) (by omega)
  have m4 := mulB hb' hc'
  have q1 : -16777216 ≤ qX a b c d ∧ qX a b c d ≤ 16777217 := nr_bound hp ⟨z1, z2⟩
  have q2 : -16777216 ≤ qY a b c d ∧ qY a b c d ≤ 16777217 := nr_bound hp ⟨z3, z4⟩
  have p1 := mulB (a := qX a b c d) (A := 16777217) (by omega) hc'
  have p2 := mulB (a := qY a b c d) (A := 16777217) (by omega) hd'
  have p3 := mulB (a := qX a b c d) (A := 16777217) (by omega) hd'
  have p4 := mulB (a := qY a b c d) (A := 16777217) (by omega) hc'
  have w1 : IntKind.i64.wrap (0 - d) = 0 - d := wr64 (by omega) (by omega)
  have f0 : fits (0 - d) = true := fits_of (by omega)
  have f1 : fits (a * c) = true := fits_of (by omega)
  have f2 : fits (b * (0 - d)) = true := fits_of (by omega)
  have f3 : fits (a * c - b * (0 - d)) = true := fits_of (by omega)
  have f4 : fits (a * (0 - d)) = true := fits_of (by omega)
  have f5 : fits (b * c) = true := fits_of (by omega)
  have f6 : fits (a * (0 - d) + b * c) = true := fits_of (by omega)
  have fa : fits a = true := fits_of (by omega)
  have fb : fits b = true := fits_of (by omega)
  have fc : fits c = true := fits_of (by omega)
  have fd : fits d = true := fits_of (by omega)
  have fq1 : fits (qX a b c d) = true := fits_of (by omega)
  have fq2 : fits (qY a b c d) = true := fits_of (by omega)
  have g1 : fits (qX a b c d * c) = true := fits_of (by omega)
  have g2 : fits (qY a b c d * d) = true := fits_of (by omega)
  have g3 : fits (qX a b c d * d) = true := fits_of (by omega)
  have g4 : fits (qY a b c d * c) = true := fits_of (by omega)
  have g5 : fits (qX a b c d * c - qY a b c d * d) = true := fits_of (by omega)
  have g6 : fits (qX a b c d * d + qY a b c d * c) = true := fits_of (by omega)
  have g7 : fits (a - (qX a b c d * c - qY a b c d * d)) = true := fits_of (by omega)
  have g8 : fits (b - (qX a b c d * d + qY a b c d * c)) = true := fits_of (by omega)
  have hmin : IntKind.i64.min = -9223372036854775808 := rfl
  have hmax : IntKind.i64.max = 9223372036854775807 := rfl
  have v1 : (-9223372036854775808 ≤ a * c - b * (0 - d) ∧ a * c - b * (0 - d) ≤ 9223372036854775807) = True := eq_true (by omega)
  have v2 : (-9223372036854775808 ≤ a * (0 - d) + b * c ∧ a * (0 - d) + b * c ≤ 9223372036854775807) = True := eq_true (by omega)
  have v3 : (-9223372036854775808 ≤ a - (qX a b c d * c - qY a b c d * d) ∧ a - (qX a b c d * c - qY a b c d * d) ≤ 9223372036854775807) = True := eq_true (by omega)
  have v4 : (-9223372036854775808 ≤ b - (qX a b c d * d + qY a b c d * c) ∧ b - (qX a b c d * d + qY a b c d * c) ≤ 9223372036854775807) = True := eq_true (by omega)
  have e1 : PCall Cx 35 [.int .i64 (a * c - b * (0 - d)), .int .i64 (nrm c d)] (.int .i64 (qX a b c d)) := nearest_ok _ _ (by omega) (by omega)
  have e2 : PCall Cx 35 [.int .i64 (a * (0 - d) + b * c), .int .i64 (nrm c d)] (.int .i64 (qY a b c d)) := nearest_ok _ _ (by omega) (by omega)
  simp only [w1, f0, f1, f2, f3, f4, f5, f6, g1, g2, g3, g4, g5, g6, g7, g8, hmin, hmax, v1, v2, v3, v4, cpxBin, call_pure pure31 rfl (number_ok' a b fa fb), call_pure pure31 rfl (number_ok' c (0 - d) fc f0), call_pure pure31 rfl (number_ok' c d fc fd), call_pure pure31 rfl (number_ok' (qX a b c d) (qY a b c d) fq1 fq2), call_pure pure27 rfl (norm_ok c d hc hd), call_pure pure35 rfl e1, call_pure pure35 rfl e2, rX, rY, n26_0, n26_1, n26_2, n26_3, n26_4, n26_5, n26_6, n26_7, n26_8, n26_9, n26_10, n26_11, n26_12, o26_1, o26_3, o26_5, o26_7, o26_9, o26_11, res26, TT_3, TT_4, TT_23, TT_24, TT_47, TT_51, TT_52, ro_cons, ro_nil, ro_guardC, runGuard_bool, runGuard_undef, rop_assign, rop_move, rop_binOp, rop_unOp, rop_pick, rop_box, rop_alloc, rop_build, rop_field, rop_fieldAddr, rop_load, rop_store, rop_convert, rop_extract, rop_nilCheck, rop_builtinC, rop_callC, rop_callC, runA_fn, runB_some, runV_some, runVH_some, runCond_bool, primP, primM, ev, evs, parts_, ofConst, fltOf_0, bin, un, intBin, putA, enterT, upd_app, decide_true, decide_false, Nat.reduceEqDiff, Nat.reduceAdd, Nat.reduceMul, Nat.reduceLeDiff, Nat.reduceLT, Nat.zero_add, Bool.false_eq_true, Bool.not_true, Bool.not_false, ↓reduceIte, reduceCtorEq, List.getElem?_cons_zero, List.getElem?_cons_succ, List.getElem?_nil, Option.getD_some, Option.map_some, RunRes, resultsA, oneOf, freeze_int, freeze_bool, freeze_str, freeze_flt, freeze_cpx, freeze_agg, freeze_tuple, freeze2_int, freeze2_bool, freeze2_agg, freeze2_cpx, freeze2_flt, freeze1_int, freeze1_bool, freeze1_str, mapO_nil, mapO_cons, consO_some, AV.plain, AV.cells, AHeap.push, AHeap.set, AHeap.empty, fieldOf, loadA, storeA, BX.part, TK.isAgg, convA, builtinA, inertB, builtinP, buildA, fillA, splice, List.length_cons, List.length_nil, List.take_succ_cons, List.take_zero, List.take_nil, List.drop_succ_cons, List.drop_zero, List.drop_nil, List.cons_append, List.nil_append, List.append_nil, List.set_cons_zero, List.set_cons_succ, true_and, and_true, and_self, eqv, cellsEq, Option.bind_some, sizeT, dyn_nil, dyn_end, dyn_cons, dop_move, dop_assign, dop_build, dop_nilCheck, dop_fieldAddr, dop_field, dop_indexAddr, dop_binOp, dop_extract, dop_load, dop_store, dop_alloc, dop_box, dop_buildSlice, dynV_some, chk_nil, chk_cons, apart_ptr, adT, ldT, fwT, bne_iff_ne, ne_eq, not_false_eq_true, not_true_eq_false, Nat.le_refl, Nat.add_zero, Bool.true_and, Bool.and_true, Bool.false_and, Bool.and_false, Int.reduceBNe, Int.reduceBEq, Int.reduceEq, Int.reduceLT, Int.reduceLE, Int.reduceAdd, Int.reduceSub, Int.reduceMul, Int.reduceNeg, beq_self_eq_true, bne_self_eq_false]
end Go.Proofs.Ytmmeippmkekggaa.G
