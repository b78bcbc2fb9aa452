import Derived.Test.YtkcanidmdjfclaaGN4
namespace Go.Proofs.Ytkcanidmdjfclaa.G
open Go.BX
set_option linter.unusedSimpArgs false
set_option linter.unusedVariables false

theorem ofNat_inj {a b : Nat} (ha : a < 256) (hb : b < 256) (h : UInt8.ofNat a = UInt8.ofNat b) : a = b := by
  have := congrArg UInt8.toNat h
  rw [UInt8.toNat_ofNat', UInt8.toNat_ofNat'] at this
  omega

theorem numB_prefix (n : Nat) : ∀ (m : Nat) (r r' : Bytes), numB n ++ r = numB m ++ r' → n = m ∧ r = r' := by
  induction n using Nat.strongRecOn with
  | _ n ih =>
    intro m r r' h
    by_cases h1 : n < 128
    · by_cases h2 : m < 128
      · rw [numB_lt h1, numB_lt h2] at h
        simp only [List.singleton_append, List.cons.injEq] at h
        exact ⟨ofNat_inj (by omega) (by omega) h.1, h.2⟩
      · rw [numB_lt h1, numB_ge h2] at h
        simp only [List.singleton_append, List.cons_append, List.cons.injEq] at h
        have := ofNat_inj (by omega) (by omega) h.1
        omega
    · by_cases h2 : m < 128
      · rw [numB_ge h1, numB_lt h2] at h
        simp only [List.singleton_append, List.cons_append, List.cons.injEq] at h
        have := ofNat_inj (by omega) (by omega) h.1
        omega
      · rw [numB_ge h1, numB_ge h2] at h
        simp only [List.cons_append, List.cons.injEq] at h
        have e1 := ofNat_inj (by omega) (by omega) h.1
        obtain ⟨e2, e3⟩ := ih (n / 128) (by omega) (m / 128) r r' h.2
        exact ⟨by omega, e3⟩

theorem numS_prefix {n m : Int} {r r' : Bytes} (hn : 0 ≤ n ∧ n ≤ 9007199254740991) (hm : 0 ≤ m ∧ m ≤ 9007199254740991) (h : numS n ++ r = numS m ++ r') : n = m ∧ r = r' := by
  rw [numS_nat hn.1 hn.2, numS_nat hm.1 hm.2] at h
  obtain ⟨e1, e2⟩ := numB_prefix _ _ _ _ h
  exact ⟨by omega, e2⟩

theorem wholeS_prefix {n m : Int} {r r' : Bytes} (hn : -4503599627370496 ≤ n ∧ n < 4503599627370496) (hm : -4503599627370496 ≤ m ∧ m < 4503599627370496) (h : wholeS n ++ r = wholeS m ++ r') : n = m ∧ r = r' := by
  have a1 : ¬ (n < -4503599627370496 ∨ 4503599627370496 ≤ n) := by omega
  have a2 : ¬ (m < -4503599627370496 ∨ 4503599627370496 ≤ m) := by omega
  unfold wholeS at h
  rw [if_neg a1, if_neg a2] at h
  split at h <;> split at h <;> obtain ⟨e1, e2⟩ := numS_prefix (by omega) (by omega) h
  · exact ⟨by omega, e2⟩
  · omega
  · omega
  · exact ⟨by omega, e2⟩

theorem bytes_inj {k n : Int} {s : Bytes} {x y : Int} {k' n' : Int} {s' : Bytes} {x' y' : Int} (h : rightV k n s x y = true) (h' : rightV k' n' s' x' y' = true) (e : bytesV k n s x y = bytesV k' n' s' x' y') :
    k = k' ∧ n = n' ∧ s = s' ∧ x = x' ∧ y = y' := by
  unfold bytesV at e
  rcases right_cases h with ⟨rfl, hn, rfl, rfl, rfl⟩ | ⟨rfl, hs, rfl, rfl, rfl⟩ | ⟨rfl, ⟨hx, hy⟩, rfl, rfl⟩ <;>
  rcases right_cases h' with ⟨rfl, hn', rfl, rfl, rfl⟩ | ⟨rfl, hs', rfl, rfl, rfl⟩ | ⟨rfl, ⟨hx', hy'⟩, rfl, rfl⟩ <;>
  simp only [Int.reduceEq, if_true, if_false, List.append_assoc] at e <;>
  obtain ⟨e1, e2⟩ := numS_prefix (by omega) (by omega) e <;>
  first | omega | skip
  · have hh : 0 ≤ half n ∧ half n < 134217728 := by unfold half; omega
    have hh' : 0 ≤ half n' ∧ half n' < 134217728 := by unfold half; omega
    obtain ⟨e3, e4⟩ := wholeS_prefix (by omega) (by omega) e2
    obtain ⟨e5, _⟩ := numS_prefix (n := half n) (m := half n') (r := []) (r' := []) (by omega) (by omega) (by rw [e4])
    have d1 : n - half n = (n / 134217728) * 134217728 := by unfold half; omega
    have d2 : n' - half n' = (n' / 134217728) * 134217728 := by unfold half; omega
    rw [d1, d2, Int.mul_ediv_cancel _ (by omega), Int.mul_ediv_cancel _ (by omega)] at e3
    exact ⟨rfl, by unfold half at e5; omega, rfl, rfl, rfl⟩
  · unfold textS at e2
    obtain ⟨e3, e4⟩ := numS_prefix (by omega) (by omega) e2
    exact ⟨rfl, rfl, e4, rfl, rfl⟩
  · rw [inR_iff] at hx hy hx' hy'
    obtain ⟨e3, e4⟩ := wholeS_prefix (by omega) (by omega) e2
    obtain ⟨e5, _⟩ := wholeS_prefix (n := y) (m := y') (r := []) (r' := []) (by omega) (by omega) (by rw [e4])
    exact ⟨rfl, rfl, rfl, e3, e5⟩

/-! ## What is written is written once -/

def valD (l : Bytes) : Nat := l.foldl (fun a c => a * 10 + (c.toNat - 48)) 0

theorem digB_val {d : Nat} (h : d < 10) : (digB d).toNat = 48 + d := by
  unfold digB
  rw [UInt8.toNat_ofNat']; omega

theorem valD_dec (m : Nat) : valD (decN m) = m := by
  induction m using Nat.strongRecOn with
  | _ m ih =>
    by_cases h : m < 10
    · rw [decN_lt h]
      unfold valD
      simp only [List.foldl_cons, List.foldl_nil]
      rw [digB_val h]; omega
    · rw [decN_ge h]
      have := ih (m / 10) (by omega)
      unfold valD at this ⊢
      rw [List.foldl_append, this]
      simp only [List.foldl_cons, List.foldl_nil]
      rw [digB_val (by omega)]; omega

theorem decN_dig (m : Nat) : ∀ c, c ∈ decN m → 48 ≤ c.toNat ∧ c.toNat ≤ 57 := by
  induction m using Nat.strongRecOn with
  | _ m ih =>
    intro c hc
    by_cases h : m < 10
    · rw [decN_lt h] at hc
      simp only [List.mem_singleton] at hc
      subst hc
      rw [digB_val h]; omega
    · rw [decN_ge h] at hc
      rcases List.mem_append.mp hc with h1 | h1
      · exact ih (m / 10) (by omega) c h1
      · simp only [List.mem_singleton] at h1
        subst h1
        rw [digB_val (by omega)]; omega

theorem decN_ne (m : Nat) : decN m ≠ [] := by
  by_cases h : m < 10
  · rw [decN_lt h]; simp
  · rw [decN_ge h]; simp

theorem decS_chars (n : Int) : ∀ c, c ∈ decS n → 45 ≤ c.toNat ∧ c.toNat ≤ 57 := by
  intro c hc
  unfold decS at hc
  split at hc
  · rcases List.mem_cons.mp hc with h | h
    · subst h; decide
    · have := decN_dig _ c h; omega
  · have := decN_dig _ c hc; omega

theorem decS_ne (n : Int) : decS n ≠ [] := by
  unfold decS
  split
  · simp
  · exact decN_ne _

theorem decS_inj {n m : Int} (h : decS n = decS m) : n = m := by
  unfold decS at h
  split at h <;> split at h
  · simp only [List.cons.injEq, true_and] at h
    have := congrArg valD h
    rw [valD_dec, valD_dec] at this
    omega
  · exfalso
    have : (45 : UInt8) ∈ decN m.toNat := by rw [← h]; simp
    have := decN_dig _ _ this
    revert this; decide
  · exfalso
    have : (45 : UInt8) ∈ decN n.toNat := by rw [h]; simp
    have := decN_dig _ _ this
    revert this; decide
  · have := congrArg valD h
    rw [valD_dec, valD_dec] at this
    omega

theorem split_at {z : UInt8} : ∀ {l l' r r' : Bytes}, z ∉ l → z ∉ l' → l ++ z :: r = l' ++ z :: r' → l = l' ∧ r = r'
  | [], [], r, r', _, _, h => by simpa using h
  | [], c :: l', r, r', _, h2, h => by
    simp only [List.nil_append, List.cons_append, List.cons.injEq] at h
    exact absurd h.1 (fun e => h2 (by simp [e]))
  | c :: l, [], r, r', h1, _, h => by
    simp only [List.nil_append, List.cons_append, List.cons.injEq] at h
    exact absurd h.1.symm (fun e => h1 (by simp [e]))
  | c :: l, c' :: l', r, r', h1, h2, h => by
    simp only [List.cons_append, List.cons.injEq] at h
    obtain ⟨e1, e2⟩ := split_at (l := l) (l' := l') (fun e => h1 (by simp [e])) (fun e => h2 (by simp [e])) h.2
    exact ⟨by rw [h.1, e1], e2⟩

theorem hexB_inj {a b : Nat} (ha : a < 16) (hb : b < 16) (h : hexB a = hexB b) : a = b := by
  unfold hexB at h
  split at h <;> split at h <;> have := ofNat_inj (by omega) (by omega) h <;> omega

theorem plain_ne {c : UInt8} (h : plainB c = true) : c ≠ 92 ∧ c ≠ 34 := by
  constructor
  · rintro rfl; revert h; decide
  · rintro rfl; revert h; decide

theorem quoM_inj : ∀ {s t : Bytes}, quoM s = quoM t → s = t
  | [], [], _ => rfl
  | [], c :: t, h => by
    exfalso
    rw [quoM_cons] at h
    unfold q1 at h
    split at h <;> simp [quoM] at h
  | c :: s, [], h => by
    exfalso
    rw [quoM_cons] at h
    unfold q1 at h
    split at h <;> simp [quoM] at h
  | c :: s, d :: t, h => by
    rw [quoM_cons, quoM_cons] at h
    unfold q1 at h
    split at h <;> split at h
    · simp only [List.singleton_append, List.cons.injEq] at h
      rw [h.1, quoM_inj h.2]
    · rename_i h1 _
      simp only [List.singleton_append, List.cons_append, List.cons.injEq] at h
      exact absurd h.1 (plain_ne h1).1
    · rename_i _ h1
      simp only [List.singleton_append, List.cons_append, List.cons.injEq] at h
      exact absurd h.1.symm (plain_ne h1).1
    · simp only [List.cons_append, List.nil_append, List.cons.injEq, true_and] at h
      have hc := c.toNat_lt
      have hd := d.toNat_lt
      have e1 := hexB_inj (by omega) (by omega) h.1
      have e2 := hexB_inj (by omega) (by omega) h.2.1
      have e3 : c = d := UInt8.toNat_inj.mp (by omega)
      rw [e3, quoM_inj h.2.2]

theorem write_inj {k n : Int} {s : Bytes} {x y : Int} {k' n' : Int} {s' : Bytes} {x' y' : Int} (h : rightV k n s x y = true) (h' : rightV k' n' s' x' y' = true) (e : writeV k n s x y = writeV k' n' s' x' y') :
    k = k' ∧ n = n' ∧ s = s' ∧ x = x' ∧ y = y' := by
  have nodot : ∀ m : Int, (58 : UInt8) ∉ decS m := fun m hm => by have := decS_chars m _ hm; revert this; decide
  have noq : ∀ (m : Int) (r : Bytes), decS m ++ r ≠ quoS r → True := fun _ _ _ => trivial
  have hd : ∀ (m : Int) (r t : Bytes), decS m ++ r = quoS t → False := by
    intro m r t he
    cases hm : decS m with
    | nil => exact decS_ne m hm
    | cons c l =>
      rw [hm] at he
      unfold quoS at he
      simp only [List.cons_append, List.cons.injEq] at he
      have := decS_chars m c (by rw [hm]; simp)
      rw [he.1] at this
      revert this; decide
  unfold writeV at e
  rcases right_cases h with ⟨rfl, hn, rfl, rfl, rfl⟩ | ⟨rfl, hs, rfl, rfl, rfl⟩ | ⟨rfl, ⟨hx, hy⟩, rfl, rfl⟩ <;>
  rcases right_cases h' with ⟨rfl, hn', rfl, rfl, rfl⟩ | ⟨rfl, hs', rfl, rfl, rfl⟩ | ⟨rfl, ⟨hx', hy'⟩, rfl, rfl⟩ <;>
  simp only [Int.reduceEq, if_true, if_false, List.append_assoc, List.singleton_append] at e
  · exact ⟨rfl, decS_inj e, rfl, rfl, rfl⟩
  · exact (hd n [] s' (by rw [List.append_nil]; exact e)).elim
  · exact (nodot n (by rw [e]; simp)).elim
  · exact (hd n' [] s (by rw [List.append_nil]; exact e.symm)).elim
  · unfold quoS at e
    simp only [List.cons.injEq, true_and, List.append_cancel_right_eq] at e
    exact ⟨rfl, rfl, quoM_inj e, rfl, rfl⟩
  · exact (hd x' (58 :: decS y') s e.symm).elim
  · exact (nodot n' (by rw [← e]; simp)).elim
  · exact (hd x (58 :: decS y) s' e).elim
  · obtain ⟨e1, e2⟩ := split_at (nodot _) (nodot _) e
    exact ⟨rfl, rfl, rfl, decS_inj e1, decS_inj e2⟩

theorem bytes_same {k n : Int} {s : Bytes} {x y : Int} {k' n' : Int} {s' : Bytes} {x' y' : Int} (h : rightV k n s x y = true) (h' : rightV k' n' s' x' y' = true) :
    (bytesV k n s x y == bytesV k' n' s' x' y') = (ordV k n s x y k' n' s' x' y' == 0) := by
  rw [← ord_same, Bool.eq_iff_iff]
  simp only [Bool.and_eq_true, beq_iff_eq]
  constructor
  · intro e; exact bytes_inj h h' e
  · rintro ⟨rfl, rfl, rfl, rfl, rfl⟩; rfl

theorem write_same {k n : Int} {s : Bytes} {x y : Int} {k' n' : Int} {s' : Bytes} {x' y' : Int} (h : rightV k n s x y = true) (h' : rightV k' n' s' x' y' = true) :
    (writeV k n s x y == writeV k' n' s' x' y') = (ordV k n s x y k' n' s' x' y' == 0) := by
  rw [← ord_same, Bool.eq_iff_iff]
  simp only [Bool.and_eq_true, beq_iff_eq]
  constructor
  · intro e; exact write_inj h h' e
  · rintro ⟨rfl, rfl, rfl, rfl, rfl⟩; rfl

set_option maxRecDepth 20000 in
set_option maxHeartbeats 4000000 in
theorem ValueOne_ok (k n : Int) (s : Bytes) (x y : Int) (k' n' : Int) (s' : Bytes) (x' y' : Int) :
    PCall Cx 5 [val k n s x y, val k' n' s' x' y'] (.bool true) := by
  refine pcall_run (noext _) body5 ?_
  have r1 := Right_ok k n s x y
  have r2 := Right_ok k' n' s' x' y'
  by_cases g1 : (6000 : Int) < (s.length : Int)
  · simp (config := { maxSteps := 3000000 }) only [g1, call_pure pure_awake rfl awake_ok, n5_0, n5_1, n5_2, n5_3, n5_4, n5_5, n5_6, n5_7, n5_8, n5_9, n5_10, n5_11, n5_12, n5_13, n5_14, o5_1, o5_4, o5_7, o5_11, o5_13, res5, TT_3, TT_4, TT_5, TT_9, TT_23, TT_24, TT_25, TT_32, TT_34, TT_49, TT_51, TT_57, TT_58, TT_59, TT_61, ro_cons, ro_nil, ro_guardC, runGuard_bool, runGuard_undef, rop_assign, rop_move, rop_binOp, rop_unOp, rop_pick, rop_box, rop_alloc, rop_build, rop_field, rop_fieldAddr, rop_load, rop_store, rop_convert, rop_extract, rop_nilCheck, rop_builtinC, rop_callC, rop_callC, runA_fn, runB_some, runV_some, runVH_some, runCond_bool, primP, primM, ev, evs, parts_, ofConst, fltOf_0, bin, un, intBin, putA, enterT, upd_app, decide_true, decide_false, Nat.reduceEqDiff, Nat.reduceAdd, Nat.reduceMul, Nat.reduceLeDiff, Nat.reduceLT, Nat.zero_add, Bool.false_eq_true, Bool.not_true, Bool.not_false, ↓reduceIte, reduceCtorEq, List.getElem?_cons_zero, List.getElem?_cons_succ, List.getElem?_nil, Option.getD_some, Option.map_some, RunRes, resultsA, oneOf, freeze_int, freeze_bool, freeze_str, freeze_flt, freeze_cpx, freeze_agg, freeze_tuple, freeze2_int, freeze2_bool, freeze2_agg, freeze2_cpx, freeze2_flt, freeze1_int, freeze1_bool, freeze1_str, mapO_nil, mapO_cons, consO_some, AV.plain, AV.cells, AHeap.push, AHeap.set, AHeap.empty, fieldOf, loadA, storeA, BX.part, TK.isAgg, convA, builtinA, inertB, builtinP, buildA, fillA, splice, List.length_cons, List.length_nil, List.take_succ_cons, List.take_zero, List.take_nil, List.drop_succ_cons, List.drop_zero, List.drop_nil, List.cons_append, List.nil_append, List.append_nil, List.set_cons_zero, List.set_cons_succ, true_and, and_true, and_self, eqv, cellsEq, Option.bind_some, sizeT, dyn_nil, dyn_end, dyn_cons, dop_move, dop_assign, dop_build, dop_nilCheck, dop_fieldAddr, dop_field, dop_indexAddr, dop_binOp, dop_extract, dop_load, dop_store, dop_alloc, dop_box, dop_buildSlice, dynV_some, chk_nil, chk_cons, apart_ptr, adT, ldT, fwT, bne_iff_ne, ne_eq, not_false_eq_true, not_true_eq_false, Nat.le_refl, Nat.add_zero, Bool.true_and, Bool.and_true, Bool.false_and, Bool.and_false, Nat.reduceBeqDiff, Nat.reduceBneDiff, Int.reduceBNe, Int.reduceBEq, Int.reduceEq, Int.reduceLT, Int.reduceLE, Int.reduceAdd, Int.reduceSub, Int.reduceMul, Int.reduceNeg, beq_self_eq_true, bne_self_eq_false, strBin, rop_indexAddr, rop_buildSlice, rop_index, rop_slice, rop_makeSlice, rop_makeFunc, indexAddrA, elems, lenOf, chunk, List.reduceReplicate, List.flatten_cons, List.flatten_nil, freeze_slc, freeze2_slc, freeze1_slc, frzE_some, freeze1_emp, freeze_emp, freeze2_emp, freeze_nilS, freeze2_nilS, freeze1_nilS, freeze_vec, freeze2_vec, freeze1_vec, Int.toNat_zero, Int.toNat_one, Int.reduceToNat, Int.cast_ofNat_Int]
  by_cases g2 : (6000 : Int) < (s'.length : Int)
  · simp (config := { maxSteps := 3000000 }) only [g1, g2, call_pure pure_awake rfl awake_ok, n5_0, n5_1, n5_2, n5_3, n5_4, n5_5, n5_6, n5_7, n5_8, n5_9, n5_10, n5_11, n5_12, n5_13, n5_14, o5_1, o5_4, o5_7, o5_11, o5_13, res5, TT_3, TT_4, TT_5, TT_9, TT_23, TT_24, TT_25, TT_32, TT_34, TT_49, TT_51, TT_57, TT_58, TT_59, TT_61, ro_cons, ro_nil, ro_guardC, runGuard_bool, runGuard_undef, rop_assign, rop_move, rop_binOp, rop_unOp, rop_pick, rop_box, rop_alloc, rop_build, rop_field, rop_fieldAddr, rop_load, rop_store, rop_convert, rop_extract, rop_nilCheck, rop_builtinC, rop_callC, rop_callC, runA_fn, runB_some, runV_some, runVH_some, runCond_bool, primP, primM, ev, evs, parts_, ofConst, fltOf_0, bin, un, intBin, putA, enterT, upd_app, decide_true, decide_false, Nat.reduceEqDiff, Nat.reduceAdd, Nat.reduceMul, Nat.reduceLeDiff, Nat.reduceLT, Nat.zero_add, Bool.false_eq_true, Bool.not_true, Bool.not_false, ↓reduceIte, reduceCtorEq, List.getElem?_cons_zero, List.getElem?_cons_succ, List.getElem?_nil, Option.getD_some, Option.map_some, RunRes, resultsA, oneOf, freeze_int, freeze_bool, freeze_str, freeze_flt, freeze_cpx, freeze_agg, freeze_tuple, freeze2_int, freeze2_bool, freeze2_agg, freeze2_cpx, freeze2_flt, freeze1_int, freeze1_bool, freeze1_str, mapO_nil, mapO_cons, consO_some, AV.plain, AV.cells, AHeap.push, AHeap.set, AHeap.empty, fieldOf, loadA, storeA, BX.part, TK.isAgg, convA, builtinA, inertB, builtinP, buildA, fillA, splice, List.length_cons, List.length_nil, List.take_succ_cons, List.take_zero, List.take_nil, List.drop_succ_cons, List.drop_zero, List.drop_nil, List.cons_append, List.nil_append, List.append_nil, List.set_cons_zero, List.set_cons_succ, true_and, and_true, and_self, eqv, cellsEq, Option.bind_some, sizeT, dyn_nil, dyn_end, dyn_cons, dop_move, dop_assign, dop_build, dop_nilCheck, dop_fieldAddr, dop_field, dop_indexAddr, dop_binOp, dop_extract, dop_load, dop_store, dop_alloc, dop_box, dop_buildSlice, dynV_some, chk_nil, chk_cons, apart_ptr, adT, ldT, fwT, bne_iff_ne, ne_eq, not_false_eq_true, not_true_eq_false, Nat.le_refl, Nat.add_zero, Bool.true_and, Bool.and_true, Bool.false_and, Bool.and_false, Nat.reduceBeqDiff, Nat.reduceBneDiff, Int.reduceBNe, Int.reduceBEq, Int.reduceEq, Int.reduceLT, Int.reduceLE, Int.reduceAdd, Int.reduceSub, Int.reduceMul, Int.reduceNeg, beq_self_eq_true, bne_self_eq_false, strBin, rop_indexAddr, rop_buildSlice, rop_index, rop_slice, rop_makeSlice, rop_makeFunc, indexAddrA, elems, lenOf, chunk, List.reduceReplicate, List.flatten_cons, List.flatten_nil, freeze_slc, freeze2_slc, freeze1_slc, frzE_some, freeze1_emp, freeze_emp, freeze2_emp, freeze_nilS, freeze2_nilS, freeze1_nilS, freeze_vec, freeze2_vec, freeze1_vec, Int.toNat_zero, Int.toNat_one, Int.reduceToNat, Int.cast_ofNat_Int]
  cases h1 : rightV k n s x y with
  | false =>
    rw [h1] at r1
    simp (config := { maxSteps := 3000000 }) only [g1, g2, call_pure pure_awake rfl awake_ok, call_pure pure8 rfl r1, n5_0, n5_1, n5_2, n5_3, n5_4, n5_5, n5_6, n5_7, n5_8, n5_9, n5_10, n5_11, n5_12, n5_13, n5_14, o5_1, o5_4, o5_7, o5_11, o5_13, res5, TT_3, TT_4, TT_5, TT_9, TT_23, TT_24, TT_25, TT_32, TT_34, TT_49, TT_51, TT_57, TT_58, TT_59, TT_61, ro_cons, ro_nil, ro_guardC, runGuard_bool, runGuard_undef, rop_assign, rop_move, rop_binOp, rop_unOp, rop_pick, rop_box, rop_alloc, rop_build, rop_field, rop_fieldAddr, rop_load, rop_store, rop_convert, rop_extract, rop_nilCheck, rop_builtinC, rop_callC, rop_callC, runA_fn, runB_some, runV_some, runVH_some, runCond_bool, primP, primM, ev, evs, parts_, ofConst, fltOf_0, bin, un, intBin, putA, enterT, upd_app, decide_true, decide_false, Nat.reduceEqDiff, Nat.reduceAdd, Nat.reduceMul, Nat.reduceLeDiff, Nat.reduceLT, Nat.zero_add, Bool.false_eq_true, Bool.not_true, Bool.not_false, ↓reduceIte, reduceCtorEq, List.getElem?_cons_zero, List.getElem?_cons_succ, List.getElem?_nil, Option.getD_some, Option.map_some, RunRes, resultsA, oneOf, freeze_int, freeze_bool, freeze_str, freeze_flt, freeze_cpx, freeze_agg, freeze_tuple, freeze2_int, freeze2_bool, freeze2_agg, freeze2_cpx, freeze2_flt, freeze1_int, freeze1_bool, freeze1_str, mapO_nil, mapO_cons, consO_some, AV.plain, AV.cells, AHeap.push, AHeap.set, AHeap.empty, fieldOf, loadA, storeA, BX.part, TK.isAgg, convA, builtinA, inertB, builtinP, buildA, fillA, splice, List.length_cons, List.length_nil, List.take_succ_cons, List.take_zero, List.take_nil, List.drop_succ_cons, List.drop_zero, List.drop_nil, List.cons_append, List.nil_append, List.append_nil, List.set_cons_zero, List.set_cons_succ, true_and, and_true, and_self, eqv, cellsEq, Option.bind_some, sizeT, dyn_nil, dyn_end, dyn_cons, dop_move, dop_assign, dop_build, dop_nilCheck, dop_fieldAddr, dop_field, dop_indexAddr, dop_binOp, dop_extract, dop_load, dop_store, dop_alloc, dop_box, dop_buildSlice, dynV_some, chk_nil, chk_cons, apart_ptr, adT, ldT, fwT, bne_iff_ne, ne_eq, not_false_eq_true, not_true_eq_false, Nat.le_refl, Nat.add_zero, Bool.true_and, Bool.and_true, Bool.false_and, Bool.and_false, Nat.reduceBeqDiff, Nat.reduceBneDiff, Int.reduceBNe, Int.reduceBEq, Int.reduceEq, Int.reduceLT, Int.reduceLE, Int.reduceAdd, Int.reduceSub, Int.reduceMul, Int.reduceNeg, beq_self_eq_true, bne_self_eq_false, strBin, rop_indexAddr, rop_buildSlice, rop_index, rop_slice, rop_makeSlice, rop_makeFunc, indexAddrA, elems, lenOf, chunk, List.reduceReplicate, List.flatten_cons, List.flatten_nil, freeze_slc, freeze2_slc, freeze1_slc, frzE_some, freeze1_emp, freeze_emp, freeze2_emp, freeze_nilS, freeze2_nilS, freeze1_nilS, freeze_vec, freeze2_vec, freeze1_vec, Int.toNat_zero, Int.toNat_one, Int.reduceToNat, Int.cast_ofNat_Int]
  | true =>
    cases h2 : rightV k' n' s' x' y' with
    | false =>
      rw [h1] at r1
      rw [h2] at r2
      simp (config := { maxSteps := 3000000 }) only [g1, g2, call_pure pure_awake rfl awake_ok, call_pure pure8 rfl r1, call_pure pure8 rfl r2, n5_0, n5_1, n5_2, n5_3, n5_4, n5_5, n5_6, n5_7, n5_8, n5_9, n5_10, n5_11, n5_12, n5_13, n5_14, o5_1, o5_4, o5_7, o5_11, o5_13, res5, TT_3, TT_4, TT_5, TT_9, TT_23, TT_24, TT_25, TT_32, TT_34, TT_49, TT_51, TT_57, TT_58, TT_59, TT_61, ro_cons, ro_nil, ro_guardC, runGuard_bool, runGuard_undef, rop_assign, rop_move, rop_binOp, rop_unOp, rop_pick, rop_box, rop_alloc, rop_build, rop_field, rop_fieldAddr, rop_load, rop_store, rop_convert, rop_extract, rop_nilCheck, rop_builtinC, rop_callC, rop_callC, runA_fn, runB_some, runV_some, runVH_some, runCond_bool, primP, primM, ev, evs, parts_, ofConst, fltOf_0, bin, un, intBin, putA, enterT, upd_app, decide_true, decide_false, Nat.reduceEqDiff, Nat.reduceAdd, Nat.reduceMul, Nat.reduceLeDiff, Nat.reduceLT, Nat.zero_add, Bool.false_eq_true, Bool.not_true, Bool.not_false, ↓reduceIte, reduceCtorEq, List.getElem?_cons_zero, List.getElem?_cons_succ, List.getElem?_nil, Option.getD_some, Option.map_some, RunRes, resultsA, oneOf, freeze_int, freeze_bool, freeze_str, freeze_flt, freeze_cpx, freeze_agg, freeze_tuple, freeze2_int, freeze2_bool, freeze2_agg, freeze2_cpx, freeze2_flt, freeze1_int, freeze1_bool, freeze1_str, mapO_nil, mapO_cons, consO_some, AV.plain, AV.cells, AHeap.push, AHeap.set, AHeap.empty, fieldOf, loadA, storeA, BX.part, TK.isAgg, convA, builtinA, inertB, builtinP, buildA, fillA, splice, List.length_cons, List.length_nil, List.take_succ_cons, List.take_zero, List.take_nil, List.drop_succ_cons, List.drop_zero, List.drop_nil, List.cons_append, List.nil_append, List.append_nil, List.set_cons_zero, List.set_cons_succ, true_and, and_true, and_self, eqv, cellsEq, Option.bind_some, sizeT, dyn_nil, dyn_end, dyn_cons, dop_move, dop_assign, dop_build, dop_nilCheck, dop_fieldAddr, dop_field, dop_indexAddr, dop_binOp, dop_extract, dop_load, dop_store, dop_alloc, dop_box, dop_buildSlice, dynV_some, chk_nil, chk_cons, apart_ptr, adT, ldT, fwT, bne_iff_ne, ne_eq, not_false_eq_true, not_true_eq_false, Nat.le_refl, Nat.add_zero, Bool.true_and, Bool.and_true, Bool.false_and, Bool.and_false, Nat.reduceBeqDiff, Nat.reduceBneDiff, Int.reduceBNe, Int.reduceBEq, Int.reduceEq, Int.reduceLT, Int.reduceLE, Int.reduceAdd, Int.reduceSub, Int.reduceMul, Int.reduceNeg, beq_self_eq_true, bne_self_eq_false, strBin, rop_indexAddr, rop_buildSlice, rop_index, rop_slice, rop_makeSlice, rop_makeFunc, indexAddrA, elems, lenOf, chunk, List.reduceReplicate, List.flatten_cons, List.flatten_nil, freeze_slc, freeze2_slc, freeze1_slc, frzE_some, freeze1_emp, freeze_emp, freeze2_emp, freeze_nilS, freeze2_nilS, freeze1_nilS, freeze_vec, freeze2_vec, freeze1_vec, Int.toNat_zero, Int.toNat_one, Int.reduceToNat, Int.cast_ofNat_Int]
    | true =>
      rw [h1] at r1
      rw [h2] at r2
      have sm := ord_same k n s x y k' n' s' x' y'
      have o := Order_ok k n s x y k' n' s' x' y'
      have b1 := Bytes_ok h1
      have b2 := Bytes_ok h2
      have w1 := Write_ok h1
      have w2 := Write_ok h2
      have sb := bytes_same h1 h2
      have sw := write_same h1 h2
      simp (config := { maxSteps := 3000000 }) only [g1, g2, sm, sb, sw, call_pure pure_awake rfl awake_ok, call_pure pure8 rfl r1, call_pure pure8 rfl r2, call_pure pure9 rfl o, call_pure pure11 rfl b1, call_pure pure11 rfl b2, call_pure pure12 rfl w1, call_pure pure12 rfl w2, n5_0, n5_1, n5_2, n5_3, n5_4, n5_5, n5_6, n5_7, n5_8, n5_9, n5_10, n5_11, n5_12, n5_13, n5_14, o5_1, o5_4, o5_7, o5_11, o5_13, res5, TT_3, TT_4, TT_5, TT_9, TT_23, TT_24, TT_25, TT_32, TT_34, TT_49, TT_51, TT_57, TT_58, TT_59, TT_61, ro_cons, ro_nil, ro_guardC, runGuard_bool, runGuard_undef, rop_assign, rop_move, rop_binOp, rop_unOp, rop_pick, rop_box, rop_alloc, rop_build, rop_field, rop_fieldAddr, rop_load, rop_store, rop_convert, rop_extract, rop_nilCheck, rop_builtinC, rop_callC, rop_callC, runA_fn, runB_some, runV_some, runVH_some, runCond_bool, primP, primM, ev, evs, parts_, ofConst, fltOf_0, bin, un, intBin, putA, enterT, upd_app, decide_true, decide_false, Nat.reduceEqDiff, Nat.reduceAdd, Nat.reduceMul, Nat.reduceLeDiff, Nat.reduceLT, Nat.zero_add, Bool.false_eq_true, Bool.not_true, Bool.not_false, ↓reduceIte, reduceCtorEq, List.getElem?_cons_zero, List.getElem?_cons_succ, List.getElem?_nil, Option.getD_some, Option.map_some, RunRes, resultsA, oneOf, freeze_int, freeze_bool, freeze_str, freeze_flt, freeze_cpx, freeze_agg, freeze_tuple, freeze2_int, freeze2_bool, freeze2_agg, freeze2_cpx, freeze2_flt, freeze1_int, freeze1_bool, freeze1_str, mapO_nil, mapO_cons, consO_some, AV.plain, AV.cells, AHeap.push, AHeap.set, AHeap.empty, fieldOf, loadA, storeA, BX.part, TK.isAgg, convA, builtinA, inertB, builtinP, buildA, fillA, splice, List.length_cons, List.length_nil, List.take_succ_cons, List.take_zero, List.take_nil, List.drop_succ_cons, List.drop_zero, List.drop_nil, List.cons_append, List.nil_append, List.append_nil, List.set_cons_zero, List.set_cons_succ, true_and, and_true, and_self, eqv, cellsEq, Option.bind_some, sizeT, dyn_nil, dyn_end, dyn_cons, dop_move, dop_assign, dop_build, dop_nilCheck, dop_fieldAddr, dop_field, dop_indexAddr, dop_binOp, dop_extract, dop_load, dop_store, dop_alloc, dop_box, dop_buildSlice, dynV_some, chk_nil, chk_cons, apart_ptr, adT, ldT, fwT, bne_iff_ne, ne_eq, not_false_eq_true, not_true_eq_false, Nat.le_refl, Nat.add_zero, Bool.true_and, Bool.and_true, Bool.false_and, Bool.and_false, Nat.reduceBeqDiff, Nat.reduceBneDiff, Int.reduceBNe, Int.reduceBEq, Int.reduceEq, Int.reduceLT, Int.reduceLE, Int.reduceAdd, Int.reduceSub, Int.reduceMul, Int.reduceNeg, beq_self_eq_true, bne_self_eq_false, strBin, rop_indexAddr, rop_buildSlice, rop_index, rop_slice, rop_makeSlice, rop_makeFunc, indexAddrA, elems, lenOf, chunk, List.reduceReplicate, List.flatten_cons, List.flatten_nil, freeze_slc, freeze2_slc, freeze1_slc, frzE_some, freeze1_emp, freeze_emp, freeze2_emp, freeze_nilS, freeze2_nilS, freeze1_nilS, freeze_vec, freeze2_vec, freeze1_vec, Int.toNat_zero, Int.toNat_one, Int.reduceToNat, Int.cast_ofNat_Int]
end Go.Proofs.Ytkcanidmdjfclaa.G
