import Derived.Test.YtmbagennmeahhaaGS6
namespace Go.Proofs.Ytmbagennmeahhaa.G
open Go.BX
set_option linter.unusedSimpArgs false
set_option linter.unusedVariables false

/-! # pairs.Sort: the one list that is sorted and keeps the order of each key -/

/-- What a slice of pairs may be: nothing, nothing laid, or rows. -/
def InE (v : AV) (l : List Pr) : Prop := (v = .nilS ∧ l = []) ∨ (v = .emp ∧ l = []) ∨ v = .vec 6 (l.map encP)

theorem InL.e {v : AV} {l : List Pr} (h : InL v l) : InE v l := h.elim .inl (fun h => .inr (.inr h))

theorem InE.flat {v : AV} {l : List Pr} (h : InE v l) : v.flat = true := by
  rcases h with ⟨rfl, _⟩ | ⟨rfl, _⟩ | rfl <;> rfl

structure IsSort (l m : List Pr) : Prop where
  keys : ∀ κ, ofKey κ m = ofKey κ l
  ord : m.Pairwise fun p q => ltP q p = false
  len : m.length = l.length

theorem mem_ofKey {p : Pr} {l : List Pr} : p ∈ ofKey p.key l ↔ p ∈ l := by
  unfold ofKey
  rw [List.mem_filter]
  simp

theorem uniq_sort : ∀ {a b : List Pr}, (∀ κ, ofKey κ a = ofKey κ b) → a.Pairwise (fun p q => ltP q p = false) → b.Pairwise (fun p q => ltP q p = false) → a = b
  | [], [], _, _, _ => rfl
  | [], q :: b, hk, _, _ => by
    have : q ∈ ofKey q.key (q :: b) := mem_ofKey.mpr (by simp)
    rw [← hk] at this
    cases mem_ofKey.mp this
  | p :: a, [], hk, _, _ => by
    have : p ∈ ofKey p.key (p :: a) := mem_ofKey.mpr (by simp)
    rw [hk] at this
    cases mem_ofKey.mp this
  | p :: a, q :: b, hk, ha, hb => by
    rw [List.pairwise_cons] at ha hb
    have hpb : p ∈ q :: b := by
      have : p ∈ ofKey p.key (p :: a) := mem_ofKey.mpr (by simp)
      rw [hk] at this
      exact mem_ofKey.mp this
    have hqa : q ∈ p :: a := by
      have : q ∈ ofKey q.key (q :: b) := mem_ofKey.mpr (by simp)
      rw [← hk] at this
      exact mem_ofKey.mp this
    have e1 : lessB p.key q.key = false := by
      rcases List.mem_cons.mp hpb with e | h
      · rw [e]; exact bl_irr _
      · exact hb.1 p h
    have e2 : lessB q.key p.key = false := by
      rcases List.mem_cons.mp hqa with e | h
      · rw [e]; exact bl_irr _
      · exact ha.1 q h
    have ek := bl_tot _ _ e1 e2
    have hp := hk p.key
    unfold ofKey at hp
    rw [List.filter_cons_of_pos (by simp), List.filter_cons_of_pos (by simp [ek])] at hp
    obtain ⟨rfl, ht⟩ := List.cons.inj hp
    congr 1
    refine uniq_sort (fun κ => ?_) ha.2 hb.2
    have h2 := hk κ
    unfold ofKey at h2 ⊢
    by_cases e : (p.key == κ) = true
    · have : p.key = κ := by simpa using e
      subst this; exact ht
    · have e' : (p.key == κ) = false := by simpa using e
      simp only [List.filter_cons, e', Bool.false_eq_true, if_false] at h2
      exact h2

theorem IsSort.uniq {l a b : List Pr} (ha : IsSort l a) (hb : IsSort l b) : a = b :=
  uniq_sort (fun κ => (ha.keys κ).trans (hb.keys κ).symm) ha.ord hb.ord

theorem IsSort.self {l m : List Pr} (h : IsSort l m) : IsSort m m := ⟨fun _ => rfl, h.ord, rfl⟩

/-- The rows of a list as a function. -/
def fnOf (l : List Pr) : Nat → Pr := fun i => l.getD i ⟨[], 0, 0, [], 0, 0⟩

theorem seg_fnOf (l : List Pr) : seg (fnOf l) 0 l.length = l := by
  apply List.ext_getElem?
  intro i
  unfold seg fnOf
  rw [List.getElem?_map]
  by_cases h : i < l.length
  · rw [List.getElem?_range h, List.getElem?_eq_getElem h]
    simp [List.getD, List.getElem?_eq_getElem h]
  · rw [List.getElem?_eq_none (by simpa using h), List.getElem?_eq_none (by omega)]
    rfl

theorem R_seg (n : Nat) (f : Nat → Pr) : R n f = (seg f 0 n).map encP := by
  unfold R seg
  rw [List.map_map]
  apply List.map_congr_left
  intro i _
  simp

theorem R_fnOf (l : List Pr) : R l.length (fnOf l) = l.map encP := by rw [R_seg, seg_fnOf]

theorem isSort_of {l : List Pr} {f : Nat → Pr} (hm : Mv 0 l.length (fnOf l) f) (hs : Srt f 0 l.length) : IsSort l (seg f 0 l.length) where
  keys κ := by
    have := hm.2 κ
    rw [Nat.sub_zero, seg_fnOf] at this
    exact this
  ord := by
    rw [List.pairwise_iff_getElem]
    intro i j hi hj hij
    unfold seg at *
    rw [List.length_map, List.length_range] at hi hj
    simp only [List.getElem_map, List.getElem_range, Nat.zero_add]
    exact hs i j (Nat.zero_le _) hij hj
  len := seg_len _ _ _

theorem freeze_rows' {H : AHeap} {d : Nat} (l : List Pr) : mapO (mapO (freeze1 H d)) (l.map encP) = some (l.map encP) := by
  induction l with
  | nil => rfl
  | cons p l ih =>
    rw [List.map_cons, mapO_cons, ih]
    have : mapO (freeze1 H d) (encP p) = some (encP p) := mapO_all (p := AV.flat1) (fun v hv => freeze1_flat hv) rfl
    rw [this]; rfl

theorem solid_rows (l : List Pr) : (l.map encP).all (fun e => e.all AV.solid1) = true := by
  induction l with
  | nil => rfl
  | cons p l ih => rw [List.map_cons, List.all_cons, ih]; rfl

section
variable {fn : FuncId} {T : Nat → AV} {ds : List ADef} {ro : Option Nat} {k : List AItem} {Q : AV → AHeap → Prop} {dst : Option Nat} {os : List AO} {h : Nat} {A : Nat → Blk}

theorem Clone_vec {l : List Pr} (hl : l.length ≤ 1000000) (h0 : l ≠ []) (hk : RunOps Cx fn (putA T dst (.slc (h + 1) 6 0 l.length)) ds ro os k ⟨h + 1 + 1, SB (upd A h .dead) (h + 1) l.length (fnOf l)⟩ Q) :
    RunCall Cx fn T ds ro 14 [.vec 6 (l.map encP)] dst os k ⟨h, A⟩ Q := by
  refine call_body pure14 (noext _) body14 ?_
  have e0 : (l.map encP = []) = False := eq_false (by simp [h0])
  have m1 : (l.map encP).length * 64 ≤ most := by unfold most; rw [List.length_map]; omega
  have m2 : (l.map encP).length ≤ most := by unfold most; rw [List.length_map]; omega
  simp only [e0, m1, m2, builtinM, appendA, source, isNilSl, runVH_some, n14_0, n14_1, n14_2, n14_3, n14_4, n14_5, n14_6, n14_7, n14_8, n14_9, n14_10, n14_11, n14_12, o14_1, o14_4, o14_7, o14_11, res14, TT_3, TT_4, TT_5, TT_9, TT_22, TT_24, TT_26, TT_28, TT_35, TT_37, TT_43, TT_44, TT_45, TT_53, ro_cons, ro_nil, ro_guardC, runGuard_bool, runGuard_undef, rop_assign, rop_move, rop_binOp, rop_unOp, rop_pick, rop_box, rop_alloc, rop_build, rop_field, rop_fieldAddr, rop_load, rop_store, rop_convert, rop_extract, rop_nilCheck, rop_builtinC, rop_callC, rop_callC, runA_fn, runB_some, runV_some, runVH_some, runCond_bool, primP, primM, ev, evs, parts_, ofConst, fltOf_0, bin, un, intBin, putA, enterT, upd_app, decide_true, decide_false, Nat.reduceEqDiff, Nat.reduceAdd, Nat.reduceMul, Nat.reduceLeDiff, Nat.reduceLT, Nat.zero_add, Bool.false_eq_true, Bool.not_true, Bool.not_false, ↓reduceIte, reduceCtorEq, List.getElem?_cons_zero, List.getElem?_cons_succ, List.getElem?_nil, Option.getD_some, Option.map_some, RunRes, resultsA, oneOf, freeze_int, freeze_bool, freeze_str, freeze_flt, freeze_cpx, freeze_agg, freeze_tuple, freeze2_int, freeze2_bool, freeze2_agg, freeze2_cpx, freeze2_flt, freeze1_int, freeze1_bool, freeze1_str, mapO_nil, mapO_cons, consO_some, AV.plain, AV.cells, AHeap.push, AHeap.set, AHeap.empty, fieldOf, loadA, storeA, BX.part, TK.isAgg, convA, builtinA, inertB, builtinP, buildA, fillA, splice, List.length_cons, List.length_nil, List.take_succ_cons, List.take_zero, List.take_nil, List.drop_succ_cons, List.drop_zero, List.drop_nil, List.cons_append, List.nil_append, List.append_nil, List.set_cons_zero, List.set_cons_succ, true_and, and_true, and_self, eqv, cellsEq, Option.bind_some, sizeT, dyn_nil, dyn_end, dyn_cons, dop_move, dop_assign, dop_build, dop_nilCheck, dop_fieldAddr, dop_field, dop_indexAddr, dop_binOp, dop_extract, dop_load, dop_store, dop_alloc, dop_box, dop_buildSlice, dynV_some, chk_nil, chk_cons, apart_ptr, adT, ldT, fwT, bne_iff_ne, ne_eq, not_false_eq_true, not_true_eq_false, Nat.le_refl, Nat.add_zero, Bool.true_and, Bool.and_true, Bool.false_and, Bool.and_false, Nat.reduceBeqDiff, Nat.reduceBneDiff, Int.reduceBNe, Int.reduceBEq, Int.reduceEq, Int.reduceLT, Int.reduceLE, Int.reduceAdd, Int.reduceSub, Int.reduceMul, Int.reduceNeg, beq_self_eq_true, bne_self_eq_false, strBin, rop_indexAddr, rop_buildSlice, rop_index, rop_slice, rop_makeSlice, rop_makeFunc, indexAddrA, elems, lenOf, chunk, List.reduceReplicate, List.flatten_cons, List.flatten_nil, freeze_slc, freeze2_slc, freeze1_slc, frzE_some, freeze1_emp, freeze_emp, freeze2_emp, freeze_nilS, freeze2_nilS, freeze1_nilS, freeze_vec, freeze2_vec, freeze1_vec, Int.toNat_zero, Int.toNat_one, Int.reduceToNat, Int.cast_ofNat_Int]
  rw [List.length_map]
  unfold SB at hk
  rw [R_fnOf] at hk
  rw [upd2]
  exact hk

theorem Sort_body {l : List Pr} {Q : AV → AHeap → Prop} {A : Nat → Blk} {h : Nat} (hl : l.length ≤ 1000000) (h0 : l ≠ []) (hQ : ∀ m, IsSort l m → Q (.slc (h + 1) 6 0 m.length) ⟨h + 1 + 1, upd (upd A h .dead) (h + 1) (.cells 28 6 (m.map encP))⟩) (body : AC) (hb : bodyOf Cx 8 = some body) :
    Run Cx 8 (enterT [.vec 6 (l.map encP)]) [] none [.code body] ⟨h, A⟩ Q := by
  have e := body8
  rw [e] at hb
  cases hb
  simp only [n8_0, n8_1, n8_2, n8_3, n8_4, n8_5, n8_6, n8_7, n8_8, o8_1, o8_3, o8_5, o8_7, res8, TT_3, TT_4, TT_5, TT_9, TT_22, TT_24, TT_26, TT_28, TT_35, TT_37, TT_43, TT_44, TT_45, TT_53, ro_cons, ro_nil, ro_guardC, runGuard_bool, runGuard_undef, rop_assign, rop_move, rop_binOp, rop_unOp, rop_pick, rop_box, rop_alloc, rop_build, rop_field, rop_fieldAddr, rop_load, rop_store, rop_convert, rop_extract, rop_nilCheck, rop_builtinC, rop_callC, rop_callC, runA_fn, runB_some, runV_some, runVH_some, runCond_bool, primP, primM, ev, evs, parts_, ofConst, fltOf_0, bin, un, intBin, putA, enterT, upd_app, decide_true, decide_false, Nat.reduceEqDiff, Nat.reduceAdd, Nat.reduceMul, Nat.reduceLeDiff, Nat.reduceLT, Nat.zero_add, Bool.false_eq_true, Bool.not_true, Bool.not_false, ↓reduceIte, reduceCtorEq, List.getElem?_cons_zero, List.getElem?_cons_succ, List.getElem?_nil, Option.getD_some, Option.map_some, RunRes, resultsA, oneOf, freeze_int, freeze_bool, freeze_str, freeze_flt, freeze_cpx, freeze_agg, freeze_tuple, freeze2_int, freeze2_bool, freeze2_agg, freeze2_cpx, freeze2_flt, freeze1_int, freeze1_bool, freeze1_str, mapO_nil, mapO_cons, consO_some, AV.plain, AV.cells, AHeap.push, AHeap.set, AHeap.empty, fieldOf, loadA, storeA, BX.part, TK.isAgg, convA, builtinA, inertB, builtinP, buildA, fillA, splice, List.length_cons, List.length_nil, List.take_succ_cons, List.take_zero, List.take_nil, List.drop_succ_cons, List.drop_zero, List.drop_nil, List.cons_append, List.nil_append, List.append_nil, List.set_cons_zero, List.set_cons_succ, true_and, and_true, and_self, eqv, cellsEq, Option.bind_some, sizeT, dyn_nil, dyn_end, dyn_cons, dop_move, dop_assign, dop_build, dop_nilCheck, dop_fieldAddr, dop_field, dop_indexAddr, dop_binOp, dop_extract, dop_load, dop_store, dop_alloc, dop_box, dop_buildSlice, dynV_some, chk_nil, chk_cons, apart_ptr, adT, ldT, fwT, bne_iff_ne, ne_eq, not_false_eq_true, not_true_eq_false, Nat.le_refl, Nat.add_zero, Bool.true_and, Bool.and_true, Bool.false_and, Bool.and_false, Nat.reduceBeqDiff, Nat.reduceBneDiff, Int.reduceBNe, Int.reduceBEq, Int.reduceEq, Int.reduceLT, Int.reduceLE, Int.reduceAdd, Int.reduceSub, Int.reduceMul, Int.reduceNeg, beq_self_eq_true, bne_self_eq_false, strBin, rop_indexAddr, rop_buildSlice, rop_index, rop_slice, rop_makeSlice, rop_makeFunc, indexAddrA, elems, lenOf, chunk, List.reduceReplicate, List.flatten_cons, List.flatten_nil, freeze_slc, freeze2_slc, freeze1_slc, frzE_some, freeze1_emp, freeze_emp, freeze2_emp, freeze_nilS, freeze2_nilS, freeze1_nilS, freeze_vec, freeze2_vec, freeze1_vec, Int.toNat_zero, Int.toNat_one, Int.reduceToNat, Int.cast_ofNat_Int]
  refine Clone_vec hl h0 ?_
  simp only [n8_0, n8_1, n8_2, n8_3, n8_4, n8_5, n8_6, n8_7, n8_8, o8_1, o8_3, o8_5, o8_7, res8, TT_3, TT_4, TT_5, TT_9, TT_22, TT_24, TT_26, TT_28, TT_35, TT_37, TT_43, TT_44, TT_45, TT_53, ro_cons, ro_nil, ro_guardC, runGuard_bool, runGuard_undef, rop_assign, rop_move, rop_binOp, rop_unOp, rop_pick, rop_box, rop_alloc, rop_build, rop_field, rop_fieldAddr, rop_load, rop_store, rop_convert, rop_extract, rop_nilCheck, rop_builtinC, rop_callC, rop_callC, runA_fn, runB_some, runV_some, runVH_some, runCond_bool, primP, primM, ev, evs, parts_, ofConst, fltOf_0, bin, un, intBin, putA, enterT, upd_app, decide_true, decide_false, Nat.reduceEqDiff, Nat.reduceAdd, Nat.reduceMul, Nat.reduceLeDiff, Nat.reduceLT, Nat.zero_add, Bool.false_eq_true, Bool.not_true, Bool.not_false, ↓reduceIte, reduceCtorEq, List.getElem?_cons_zero, List.getElem?_cons_succ, List.getElem?_nil, Option.getD_some, Option.map_some, RunRes, resultsA, oneOf, freeze_int, freeze_bool, freeze_str, freeze_flt, freeze_cpx, freeze_agg, freeze_tuple, freeze2_int, freeze2_bool, freeze2_agg, freeze2_cpx, freeze2_flt, freeze1_int, freeze1_bool, freeze1_str, mapO_nil, mapO_cons, consO_some, AV.plain, AV.cells, AHeap.push, AHeap.set, AHeap.empty, fieldOf, loadA, storeA, BX.part, TK.isAgg, convA, builtinA, inertB, builtinP, buildA, fillA, splice, List.length_cons, List.length_nil, List.take_succ_cons, List.take_zero, List.take_nil, List.drop_succ_cons, List.drop_zero, List.drop_nil, List.cons_append, List.nil_append, List.append_nil, List.set_cons_zero, List.set_cons_succ, true_and, and_true, and_self, eqv, cellsEq, Option.bind_some, sizeT, dyn_nil, dyn_end, dyn_cons, dop_move, dop_assign, dop_build, dop_nilCheck, dop_fieldAddr, dop_field, dop_indexAddr, dop_binOp, dop_extract, dop_load, dop_store, dop_alloc, dop_box, dop_buildSlice, dynV_some, chk_nil, chk_cons, apart_ptr, adT, ldT, fwT, bne_iff_ne, ne_eq, not_false_eq_true, not_true_eq_false, Nat.le_refl, Nat.add_zero, Bool.true_and, Bool.and_true, Bool.false_and, Bool.and_false, Nat.reduceBeqDiff, Nat.reduceBneDiff, Int.reduceBNe, Int.reduceBEq, Int.reduceEq, Int.reduceLT, Int.reduceLE, Int.reduceAdd, Int.reduceSub, Int.reduceMul, Int.reduceNeg, beq_self_eq_true, bne_self_eq_false, strBin, rop_indexAddr, rop_buildSlice, rop_index, rop_slice, rop_makeSlice, rop_makeFunc, indexAddrA, elems, lenOf, chunk, List.reduceReplicate, List.flatten_cons, List.flatten_nil, freeze_slc, freeze2_slc, freeze1_slc, frzE_some, freeze1_emp, freeze_emp, freeze2_emp, freeze_nilS, freeze2_nilS, freeze1_nilS, freeze_vec, freeze2_vec, freeze1_vec, Int.toNat_zero, Int.toNat_one, Int.reduceToNat, Int.cast_ofNat_Int]
  refine SortStable_call (A := upd A h .dead) (g := h + 1) (f := fnOf l) hl ?_
  intro f hm hs
  have hi := isSort_of hm hs
  have hq := hQ _ hi
  rw [hi.len, ← R_seg] at hq
  simp only [n8_0, n8_1, n8_2, n8_3, n8_4, n8_5, n8_6, n8_7, n8_8, o8_1, o8_3, o8_5, o8_7, res8, TT_3, TT_4, TT_5, TT_9, TT_22, TT_24, TT_26, TT_28, TT_35, TT_37, TT_43, TT_44, TT_45, TT_53, ro_cons, ro_nil, ro_guardC, runGuard_bool, runGuard_undef, rop_assign, rop_move, rop_binOp, rop_unOp, rop_pick, rop_box, rop_alloc, rop_build, rop_field, rop_fieldAddr, rop_load, rop_store, rop_convert, rop_extract, rop_nilCheck, rop_builtinC, rop_callC, rop_callC, runA_fn, runB_some, runV_some, runVH_some, runCond_bool, primP, primM, ev, evs, parts_, ofConst, fltOf_0, bin, un, intBin, putA, enterT, upd_app, decide_true, decide_false, Nat.reduceEqDiff, Nat.reduceAdd, Nat.reduceMul, Nat.reduceLeDiff, Nat.reduceLT, Nat.zero_add, Bool.false_eq_true, Bool.not_true, Bool.not_false, ↓reduceIte, reduceCtorEq, List.getElem?_cons_zero, List.getElem?_cons_succ, List.getElem?_nil, Option.getD_some, Option.map_some, RunRes, resultsA, oneOf, freeze_int, freeze_bool, freeze_str, freeze_flt, freeze_cpx, freeze_agg, freeze_tuple, freeze2_int, freeze2_bool, freeze2_agg, freeze2_cpx, freeze2_flt, freeze1_int, freeze1_bool, freeze1_str, mapO_nil, mapO_cons, consO_some, AV.plain, AV.cells, AHeap.push, AHeap.set, AHeap.empty, fieldOf, loadA, storeA, BX.part, TK.isAgg, convA, builtinA, inertB, builtinP, buildA, fillA, splice, List.length_cons, List.length_nil, List.take_succ_cons, List.take_zero, List.take_nil, List.drop_succ_cons, List.drop_zero, List.drop_nil, List.cons_append, List.nil_append, List.append_nil, List.set_cons_zero, List.set_cons_succ, true_and, and_true, and_self, eqv, cellsEq, Option.bind_some, sizeT, dyn_nil, dyn_end, dyn_cons, dop_move, dop_assign, dop_build, dop_nilCheck, dop_fieldAddr, dop_field, dop_indexAddr, dop_binOp, dop_extract, dop_load, dop_store, dop_alloc, dop_box, dop_buildSlice, dynV_some, chk_nil, chk_cons, apart_ptr, adT, ldT, fwT, bne_iff_ne, ne_eq, not_false_eq_true, not_true_eq_false, Nat.le_refl, Nat.add_zero, Bool.true_and, Bool.and_true, Bool.false_and, Bool.and_false, Nat.reduceBeqDiff, Nat.reduceBneDiff, Int.reduceBNe, Int.reduceBEq, Int.reduceEq, Int.reduceLT, Int.reduceLE, Int.reduceAdd, Int.reduceSub, Int.reduceMul, Int.reduceNeg, beq_self_eq_true, bne_self_eq_false, strBin, rop_indexAddr, rop_buildSlice, rop_index, rop_slice, rop_makeSlice, rop_makeFunc, indexAddrA, elems, lenOf, chunk, List.reduceReplicate, List.flatten_cons, List.flatten_nil, freeze_slc, freeze2_slc, freeze1_slc, frzE_some, freeze1_emp, freeze_emp, freeze2_emp, freeze_nilS, freeze2_nilS, freeze1_nilS, freeze_vec, freeze2_vec, freeze1_vec, Int.toNat_zero, Int.toNat_one, Int.reduceToNat, Int.cast_ofNat_Int]
  exact hq
end

theorem freeze_slc_rows {A : Nat → Blk} {h g : Nat} {m : List Pr} : BX.freeze ⟨h, upd A g (.cells 28 6 (m.map encP))⟩ (.slc g 6 0 m.length) = some (.vec 6 (m.map encP)) ∧ madeT ⟨h, upd A g (.cells 28 6 (m.map encP))⟩ (.slc g 6 0 m.length) = some (.vec 6 (m.map encP)) := by
  have f8 : (m.map encP).take m.length = m.map encP := List.take_of_length_le (by rw [List.length_map]; omega)
  have he : elems ⟨h, upd A g (.cells 28 6 (m.map encP))⟩ 6 (.slc g 6 0 m.length) = some (m.map encP) := by
    unfold elems
    simp only [upd_app, ↓reduceIte]
    rw [if_pos ⟨trivial, trivial, by rw [List.length_map]; omega⟩, List.drop_zero, f8]
  constructor
  · rw [freeze_slc, he, frzE_some, freeze_rows']
    rfl
  · show made1 _ _ = _
    unfold made1
    rw [if_neg (by simp [AV.solid2, AV.solid1])]
    simp only [he]
    rw [if_pos (solid_rows m)]

theorem pmade_of {n : Nat} {f : FuncId} {args : List AV} {r : AV} (h : (match (clOf Cx n).call f args AHeap.empty with | some (r0, H') => (match BX.freeze H' r0 with | some r1 => if r1.solid then some r1 else madeT H' r0 | none => none) | none => none) = some r) : PMade Cx f args r := by
  split at h
  · rename_i r0 H' hc
    split at h
    · rename_i r1 hf
      exact ⟨n, r0, H', r1, hc, hf, h⟩
    · cases h
  · cases h

/-- Sort: answers at any list that comes in. -/
theorem Sort_ok {v : AV} {l : List Pr} (hv : InE v l) (hl : l.length ≤ 1000000) : ∃ m w, IsSort l m ∧ InE w m ∧ PCall Cx 8 [v] w ∧ PMade Cx 8 [v] w := by
  have nil_ok : IsSort [] [] := ⟨fun _ => rfl, List.Pairwise.nil, rfl⟩
  by_cases h0 : l = []
  · subst h0
    rcases hv with ⟨rfl, _⟩ | ⟨rfl, _⟩ | rfl
    · exact ⟨[], .nilS, nil_ok, .inl ⟨rfl, rfl⟩, ⟨60, by kernel_rfl⟩, ⟨60, .nilS, AHeap.empty, .nilS, by kernel_rfl, rfl, rfl⟩⟩
    · refine ⟨[], .vec 6 [], nil_ok, .inr (.inr rfl), ⟨60, by kernel_rfl⟩, ?_⟩
      exact pmade_of (n := 60) (by kernel_rfl)
    · refine ⟨[], .vec 6 [], nil_ok, .inr (.inr rfl), ⟨60, by kernel_rfl⟩, ?_⟩
      exact pmade_of (n := 60) (by kernel_rfl)
  · have hv' : v = .vec 6 (l.map encP) := by
      rcases hv with ⟨_, h⟩ | ⟨_, h⟩ | h
      · exact absurd h h0
      · exact absurd h h0
      · exact h
    subst hv'
    have hx : ∃ n m g H, IsSort l m ∧ (clOf Cx n).call 8 [.vec 6 (l.map encP)] AHeap.empty = some (.slc g 6 0 m.length, H) ∧ BX.freeze H (.slc g 6 0 m.length) = some (.vec 6 (m.map encP)) ∧ madeT H (.slc g 6 0 m.length) = some (.vec 6 (m.map encP)) := by
      have hr := Sort_body (A := AHeap.empty.at_) (h := AHeap.empty.next) (Q := fun r0 H => ∃ m g, IsSort l m ∧ r0 = .slc g 6 0 m.length ∧ BX.freeze H (.slc g 6 0 m.length) = some (.vec 6 (m.map encP)) ∧ madeT H (.slc g 6 0 m.length) = some (.vec 6 (m.map encP))) hl h0 (fun m hm => ⟨m, _, hm, rfl, freeze_slc_rows.1, freeze_slc_rows.2⟩) _ body8
      obtain ⟨n, r0, H, he, m, g, hm, rfl, h1, h2⟩ := hr
      have hb := body8
      unfold bodyOf at hb
      simp only [Option.map_eq_some_iff] at hb
      obtain ⟨fi, hfi, hfb⟩ := hb
      refine ⟨n, m, g, H, hm, ?_, h1, h2⟩
      show (clMk Cx (exec Cx n)).call _ _ AHeap.empty = _
      simp only [clMk, noext 8, hfi]
      rw [hfb]
      exact he
    obtain ⟨n, m, g, H, hm, hc, h1, h2⟩ := hx
    refine ⟨m, .vec 6 (m.map encP), hm, .inr (.inr rfl), ⟨n, ?_⟩, ⟨n, _, H, _, hc, h1, ?_⟩⟩
    · unfold pcall
      rw [hc]
      exact h1
    · rw [if_neg (by simp [AV.solid, AV.solid2, AV.solid1]), h2]
end Go.Proofs.Ytmbagennmeahhaa.G
