import Derived.Test.YtjnopnlgcmlkfaaKRSMerges5
namespace Go.Proofs.Ytjnopnlgcmlkfaa.G
open Go.BX
set_option linter.unusedSimpArgs false
set_option linter.unusedVariables false
theorem u64_half {N : Nat} (h : N ≤ 4000000) : IntKind.i64.wrap ((IntKind.u64.wrap ((N : Nat) : Int)).fdiv (2 ^ min 1 IntKind.u64.bits)) = ((N / 2 : Nat) : Int) := by
  have e1 : IntKind.u64.wrap ((N : Nat) : Int) = (N : Int) := by
    unfold IntKind.wrap
    simp only [show IntKind.u64.signed = false from rfl, show IntKind.u64.bits = 64 from rfl, Bool.false_eq_true, if_false]
    first | omega | (rw [if_neg (by simp)]; omega)
  rw [e1, show min 1 IntKind.u64.bits = 1 from rfl, Int.fdiv_eq_ediv_of_nonneg _ (by omega)]
  rw [wr64 (by omega) (by omega)]
  omega
section
variable {n h : Nat} {A : Nat → Blk} {g a m b : Nat} {f : Nat → Pr} {Q : AV → AHeap → Prop}
theorem bs1_all (hn : n ≤ 1000000) (ham : a < m) (hbn : b ≤ n) (hs : Srt f m b)
    (hK : ∀ (T : Nat → AV) (i : Nat), T 0 = .slc g 6 0 n → T 1 = .int .i64 (a : Int) → T 10 = .int .i64 (i : Int) → m ≤ i → i ≤ b → (∀ q, m ≤ q → q < i → ltP (f q) (f a) = true) → (∀ q, i ≤ q → q < b → ltP (f q) (f a) = false) →
      Run Cx 64 T [] none [.code c64_25, .code c64_42] ⟨h, SB A g n f⟩ Q) :
    ∀ (d i j : Nat) (T : Nat → AV), j ≤ i + d → m ≤ i → i ≤ j → j ≤ b → T 0 = .slc g 6 0 n → T 1 = .int .i64 (a : Int) → T 4 = .fn 26 [] [] → T 10 = .int .i64 (i : Int) → T 11 = .int .i64 (j : Int) → (∀ q, m ≤ q → q < i → ltP (f q) (f a) = true) → (∀ q, j ≤ q → q < b → ltP (f q) (f a) = false) →
      Run Cx 64 T [] none [.inLoop c64_11, .inBlock 0, .code c64_25, .code c64_42] ⟨h, SB A g n f⟩ Q := by
  intro d
  induction d with
  | zero =>
    intro i j T hd hi hij hj t0 t1 t4 t10 t11 hl hr
    obtain rfl : i = j := by omega
    rw [run_inLoop]
    have h0 : ((i : Int) < (i : Int)) = False := eq_false (by omega)
    simp only [t0, t1, t4, t10, t11, h0, xx, r64_0, r64_1, r64_2, r64_3.1, r64_3.2.2.1, r64_3.2.2.2.1, r64_3.2.2.2.2.1, r64_3.2.2.2.2.2.1, r64_3.2.2.2.2.2.2.1, r64_3.2.2.2.2.2.2.2, r64_4, r64_5.1, r64_5.2.1, r64_5.2.2.2.1, r64_5.2.2.2.2.1, r64_5.2.2.2.2.2.1, r64_5.2.2.2.2.2.2.1, r64_5.2.2.2.2.2.2.2, r64_6, r64_7, r64_8, r64_9, r64_10, r64_11, r64_12, r64_13, r64_14, r64_15, r64_16, r64_17, res64, tt, bb, bc, ↓bd, Nat.reduceEqDiff, Nat.reduceAdd, Nat.reduceMul, Nat.reduceLeDiff, Nat.reduceLT, ↓reduceIte, reduceCtorEq, Nat.reduceBeqDiff, Nat.reduceBneDiff, Int.reduceBNe, Int.reduceBEq, Int.reduceEq, Int.reduceLT, Int.reduceLE, Int.reduceAdd, Int.reduceSub, Int.reduceMul, Int.reduceNeg, List.reduceReplicate, Int.reduceToNat]
    refine hK _ i ?_ ?_ ?_ hi hj hl hr
    all_goals simp only [upd_app, t0, t1, t10, Nat.reduceEqDiff, ↓reduceIte]
  | succ d ih =>
    intro i j T hd hi hij hj t0 t1 t4 t10 t11 hl hr
    rw [run_inLoop]
    by_cases e : i = j
    · subst e
      have h0 : ((i : Int) < (i : Int)) = False := eq_false (by omega)
      simp only [t0, t1, t4, t10, t11, h0, xx, r64_0, r64_1, r64_2, r64_3.1, r64_3.2.2.1, r64_3.2.2.2.1, r64_3.2.2.2.2.1, r64_3.2.2.2.2.2.1, r64_3.2.2.2.2.2.2.1, r64_3.2.2.2.2.2.2.2, r64_4, r64_5.1, r64_5.2.1, r64_5.2.2.2.1, r64_5.2.2.2.2.1, r64_5.2.2.2.2.2.1, r64_5.2.2.2.2.2.2.1, r64_5.2.2.2.2.2.2.2, r64_6, r64_7, r64_8, r64_9, r64_10, r64_11, r64_12, r64_13, r64_14, r64_15, r64_16, r64_17, res64, tt, bb, bc, ↓bd, Nat.reduceEqDiff, Nat.reduceAdd, Nat.reduceMul, Nat.reduceLeDiff, Nat.reduceLT, ↓reduceIte, reduceCtorEq, Nat.reduceBeqDiff, Nat.reduceBneDiff, Int.reduceBNe, Int.reduceBEq, Int.reduceEq, Int.reduceLT, Int.reduceLE, Int.reduceAdd, Int.reduceSub, Int.reduceMul, Int.reduceNeg, List.reduceReplicate, Int.reduceToNat]
      refine hK _ i ?_ ?_ ?_ hi hj hl hr
      all_goals simp only [upd_app, t0, t1, t10, Nat.reduceEqDiff, ↓reduceIte]
    · have h0 : ((i : Int) < (j : Int)) = True := eq_true (by omega)
      have w1 : IntKind.i64.wrap ((i : Int) + (j : Int)) = ((i + j : Nat) : Int) := by rw [wr64 (by omega) (by omega)]; omega
      have w2 := u64_half (N := i + j) (by omega)
      generalize hc0 : (i + j) / 2 = c at w2
      have w3 : IntKind.i64.wrap ((c : Int) + 1) = ((c + 1 : Nat) : Int) := by rw [wr64 (by omega) (by omega)]; omega
      have l1 : (c : Int) < (n : Int) := by omega
      have l2 : (a : Int) < (n : Int) := by omega
      have p1 : (0 : Int) ≤ (c : Int) := by omega
      have p2 : (0 : Int) ≤ (a : Int) := by omega
      have g1 : ∀ f', (R n f')[c]? = _ := fun f' => R_get (n := n) (f := f') (show c < n by omega)
      have g2 : ∀ f', (R n f')[a]? = _ := fun f' => R_get (n := n) (f := f') (show a < n by omega)
      have hc := byKey_ok (f c) (f a)
      have hlt := cmpK_lt (f c) (f a)
      by_cases hl' : ltP (f c) (f a) = true
      · have hlt' : (cmpK (f c) (f a) < 0) = True := by rw [hlt]; exact eq_true hl'
        simp only [t0, t1, t4, t10, t11, h0, w1, w2, w3, l1, l2, p1, p2, g1, g2, hlt', shiftBin, call_pure pure26 rfl hc, Int.toNat_natCast, xx, r64_0, r64_1, r64_2, r64_3.1, r64_3.2.2.1, r64_3.2.2.2.1, r64_3.2.2.2.2.1, r64_3.2.2.2.2.2.1, r64_3.2.2.2.2.2.2.1, r64_3.2.2.2.2.2.2.2, r64_4, r64_5.1, r64_5.2.1, r64_5.2.2.2.1, r64_5.2.2.2.2.1, r64_5.2.2.2.2.2.1, r64_5.2.2.2.2.2.2.1, r64_5.2.2.2.2.2.2.2, r64_6, r64_7, r64_8, r64_9, r64_10, r64_11, r64_12, r64_13, r64_14, r64_15, r64_16, r64_17, res64, tt, bb, bc, ↓bd, Nat.reduceEqDiff, Nat.reduceAdd, Nat.reduceMul, Nat.reduceLeDiff, Nat.reduceLT, ↓reduceIte, reduceCtorEq, Nat.reduceBeqDiff, Nat.reduceBneDiff, Int.reduceBNe, Int.reduceBEq, Int.reduceEq, Int.reduceLT, Int.reduceLE, Int.reduceAdd, Int.reduceSub, Int.reduceMul, Int.reduceNeg, List.reduceReplicate, Int.reduceToNat]
        refine ih (c + 1) j _ (by omega) (by omega) (by omega) hj ?_ ?_ ?_ ?_ ?_ ?_ hr
        all_goals first | (simp only [upd_app, t0, t1, t4, t10, t11, Nat.reduceEqDiff, ↓reduceIte]; done) | skip
        intro q x y
        exact bl_le_lt (hs.le x (show q ≤ c by omega) (by omega)) hl'
      · have hlt' : (cmpK (f c) (f a) < 0) = False := by rw [hlt]; exact eq_false hl'
        simp only [t0, t1, t4, t10, t11, h0, w1, w2, w3, l1, l2, p1, p2, g1, g2, hlt', shiftBin, call_pure pure26 rfl hc, Int.toNat_natCast, xx, r64_0, r64_1, r64_2, r64_3.1, r64_3.2.2.1, r64_3.2.2.2.1, r64_3.2.2.2.2.1, r64_3.2.2.2.2.2.1, r64_3.2.2.2.2.2.2.1, r64_3.2.2.2.2.2.2.2, r64_4, r64_5.1, r64_5.2.1, r64_5.2.2.2.1, r64_5.2.2.2.2.1, r64_5.2.2.2.2.2.1, r64_5.2.2.2.2.2.2.1, r64_5.2.2.2.2.2.2.2, r64_6, r64_7, r64_8, r64_9, r64_10, r64_11, r64_12, r64_13, r64_14, r64_15, r64_16, r64_17, res64, tt, bb, bc, ↓bd, Nat.reduceEqDiff, Nat.reduceAdd, Nat.reduceMul, Nat.reduceLeDiff, Nat.reduceLT, ↓reduceIte, reduceCtorEq, Nat.reduceBeqDiff, Nat.reduceBneDiff, Int.reduceBNe, Int.reduceBEq, Int.reduceEq, Int.reduceLT, Int.reduceLE, Int.reduceAdd, Int.reduceSub, Int.reduceMul, Int.reduceNeg, List.reduceReplicate, Int.reduceToNat]
        refine ih i c _ (by omega) hi (by omega) (by omega) ?_ ?_ ?_ ?_ ?_ hl ?_
        all_goals first | (simp only [upd_app, t0, t1, t4, t10, t11, Nat.reduceEqDiff, ↓reduceIte]; done) | skip
        intro q x y
        exact bl_le (by simpa using hl') (hs.le (show m ≤ c by omega) x y)
theorem up_all {i : Nat} (hn : n ≤ 1000000) (hai : a < i) (hin : i ≤ n) (hQ : Q (.tuple []) ⟨h, SB A g n (rot f a (a + 1) i)⟩) :
    ∀ (d k : Nat) (T : Nat → AV), k + 1 + d = i → a ≤ k → T 0 = .slc g 6 0 n → T 10 = .int .i64 (i : Int) → T 13 = .int .i64 (k : Int) →
      Run Cx 64 T [] none [.inLoop c64_30, .inBlock 2, .code c64_40, .code c64_42] ⟨h, SB A g n (rot f a (a + 1) (k + 1))⟩ Q
  | 0, k, T, hd, hak, t0, t10, t13 => by
    obtain rfl : i = k + 1 := by omega
    rw [run_inLoop]
    have w1 : IntKind.i64.wrap (((k + 1 : Nat) : Int) - 1) = (k : Int) := by rw [wr64 (by omega) (by omega)]; omega
    have h0 : ((k : Int) < (k : Int)) = False := eq_false (by omega)
    simp only [t0, t10, t13, w1, h0, xx, r64_0, r64_1, r64_2, r64_3, r64_4, r64_5, r64_6, r64_7, r64_8, r64_9, r64_10, r64_11, r64_12, r64_13, r64_14, r64_15, r64_16, r64_17, res64, tt, bb, bc, ↓bd, Nat.reduceEqDiff, Nat.reduceAdd, Nat.reduceMul, Nat.reduceLeDiff, Nat.reduceLT, ↓reduceIte, reduceCtorEq, Nat.reduceBeqDiff, Nat.reduceBneDiff, Int.reduceBNe, Int.reduceBEq, Int.reduceEq, Int.reduceLT, Int.reduceLE, Int.reduceAdd, Int.reduceSub, Int.reduceMul, Int.reduceNeg, List.reduceReplicate, Int.reduceToNat]
    exact hQ
  | d + 1, k, T, hd, hak, t0, t10, t13 => by
    rw [run_inLoop]
    have w1 : IntKind.i64.wrap ((i : Int) - 1) = ((i - 1 : Nat) : Int) := by rw [wr64 (by omega) (by omega)]; omega
    have w2 : IntKind.i64.wrap ((k : Int) + 1) = ((k + 1 : Nat) : Int) := by rw [wr64 (by omega) (by omega)]; omega
    have h0 : ((k : Int) < ((i - 1 : Nat) : Int)) = True := eq_true (by omega)
    have l1 : (k : Int) < (n : Int) := by omega
    have l2 : ((k + 1 : Nat) : Int) < (n : Int) := by omega
    have p1 : (0 : Int) ≤ (k : Int) := by omega
    have p2 : (0 : Int) ≤ ((k + 1 : Nat) : Int) := by omega
    have g1 : ∀ f', (R n f')[k]? = _ := fun f' => R_get (n := n) (f := f') (show k < n by omega)
    have g2 : ∀ f', (R n f')[k + 1]? = _ := fun f' => R_get (n := n) (f := f') (show k + 1 < n by omega)
    simp only [t0, t10, t13, w1, w2, h0, l1, l2, p1, p2, g1, g2, Int.toNat_natCast, R_set, upd2, sw_eq, xx, r64_0, r64_1, r64_2, r64_3, r64_4, r64_5.2.1, r64_5.2.2.2.1, r64_5.2.2.2.2.1, r64_5.2.2.2.2.2.1, r64_5.2.2.2.2.2.2.1, r64_5.2.2.2.2.2.2.2, r64_6, r64_7, r64_8, r64_9, r64_10, r64_11, r64_12, r64_13, r64_14, r64_15, r64_16, r64_17, res64, tt, bb, bc, ↓bd, Nat.reduceEqDiff, Nat.reduceAdd, Nat.reduceMul, Nat.reduceLeDiff, Nat.reduceLT, ↓reduceIte, reduceCtorEq, Nat.reduceBeqDiff, Nat.reduceBneDiff, Int.reduceBNe, Int.reduceBEq, Int.reduceEq, Int.reduceLT, Int.reduceLE, Int.reduceAdd, Int.reduceSub, Int.reduceMul, Int.reduceNeg, List.reduceReplicate, Int.reduceToNat]
    rw [rot_up f hak]
    refine up_all hn hai hin hQ d (k + 1) _ (by omega) (by omega) ?_ ?_ ?_
    all_goals simp only [upd_app, t0, t10, Nat.reduceEqDiff, ↓reduceIte]
theorem bs2_all (hn : n ≤ 1000000) (hmn : m < n) (hs : Srt f a m)
    (hK : ∀ (T : Nat → AV) (i : Nat), T 0 = .slc g 6 0 n → T 2 = .int .i64 (m : Int) → T 14 = .int .i64 (i : Int) → a ≤ i → i ≤ m → (∀ q, a ≤ q → q < i → ltP (f m) (f q) = false) → (∀ q, i ≤ q → q < m → ltP (f m) (f q) = true) →
      Run Cx 64 T [] none [.code c64_67, .code c64_84] ⟨h, SB A g n f⟩ Q) :
    ∀ (d i j : Nat) (T : Nat → AV), j ≤ i + d → a ≤ i → i ≤ j → j ≤ m → T 0 = .slc g 6 0 n → T 2 = .int .i64 (m : Int) → T 4 = .fn 26 [] [] → T 14 = .int .i64 (i : Int) → T 15 = .int .i64 (j : Int) → (∀ q, a ≤ q → q < i → ltP (f m) (f q) = false) → (∀ q, j ≤ q → q < m → ltP (f m) (f q) = true) →
      Run Cx 64 T [] none [.inLoop c64_53, .inBlock 4, .code c64_67, .code c64_84] ⟨h, SB A g n f⟩ Q := by
  intro d
  induction d with
  | zero =>
    intro i j T hd hi hij hj t0 t2 t4 t14 t15 hl hr
    obtain rfl : i = j := by omega
    rw [run_inLoop]
    have h0 : ((i : Int) < (i : Int)) = False := eq_false (by omega)
    simp only [t0, t2, t4, t14, t15, h0, xx, r64_0, r64_1, r64_2, r64_3, r64_4, r64_5, r64_6, r64_7, r64_8.1, r64_8.2.1, r64_8.2.2.1, r64_8.2.2.2.2.1, r64_8.2.2.2.2.2.1, r64_8.2.2.2.2.2.2.1, r64_8.2.2.2.2.2.2.2, r64_9, r64_10.1, r64_10.2.1, r64_10.2.2.1, r64_10.2.2.2.1, r64_10.2.2.2.2.2.1, r64_10.2.2.2.2.2.2.1, r64_10.2.2.2.2.2.2.2, r64_11, r64_12, r64_13, r64_14, r64_15, r64_16, r64_17, res64, tt, bb, bc, ↓bd, Nat.reduceEqDiff, Nat.reduceAdd, Nat.reduceMul, Nat.reduceLeDiff, Nat.reduceLT, ↓reduceIte, reduceCtorEq, Nat.reduceBeqDiff, Nat.reduceBneDiff, Int.reduceBNe, Int.reduceBEq, Int.reduceEq, Int.reduceLT, Int.reduceLE, Int.reduceAdd, Int.reduceSub, Int.reduceMul, Int.reduceNeg, List.reduceReplicate, Int.reduceToNat]
    refine hK _ i ?_ ?_ ?_ hi hj hl hr
    all_goals simp only [upd_app, t0, t2, t14, Nat.reduceEqDiff, ↓reduceIte]
  | succ d ih =>
    intro i j T hd hi hij hj t0 t2 t4 t14 t15 hl hr
    rw [run_inLoop]
    by_cases e : i = j
    · subst e
      have h0 : ((i : Int) < (i : Int)) = False := eq_false (by omega)
      simp only [t0, t2, t4, t14, t15, h0, xx, r64_0, r64_1, r64_2, r64_3, r64_4, r64_5, r64_6, r64_7, r64_8.1, r64_8.2.1, r64_8.2.2.1, r64_8.2.2.2.2.1, r64_8.2.2.2.2.2.1, r64_8.2.2.2.2.2.2.1, r64_8.2.2.2.2.2.2.2, r64_9, r64_10.1, r64_10.2.1, r64_10.2.2.1, r64_10.2.2.2.1, r64_10.2.2.2.2.2.1, r64_10.2.2.2.2.2.2.1, r64_10.2.2.2.2.2.2.2, r64_11, r64_12, r64_13, r64_14, r64_15, r64_16, r64_17, res64, tt, bb, bc, ↓bd, Nat.reduceEqDiff, Nat.reduceAdd, Nat.reduceMul, Nat.reduceLeDiff, Nat.reduceLT, ↓reduceIte, reduceCtorEq, Nat.reduceBeqDiff, Nat.reduceBneDiff, Int.reduceBNe, Int.reduceBEq, Int.reduceEq, Int.reduceLT, Int.reduceLE, Int.reduceAdd, Int.reduceSub, Int.reduceMul, Int.reduceNeg, List.reduceReplicate, Int.reduceToNat]
      refine hK _ i ?_ ?_ ?_ hi hj hl hr
      all_goals simp only [upd_app, t0, t2, t14, Nat.reduceEqDiff, ↓reduceIte]
    · have h0 : ((i : Int) < (j : Int)) = True := eq_true (by omega)
      have w1 : IntKind.i64.wrap ((i : Int) + (j : Int)) = ((i + j : Nat) : Int) := by rw [wr64 (by omega) (by omega)]; omega
      have w2 := u64_half (N := i + j) (by omega)
      generalize hc0 : (i + j) / 2 = c at w2
      have w3 : IntKind.i64.wrap ((c : Int) + 1) = ((c + 1 : Nat) : Int) := by rw [wr64 (by omega) (by omega)]; omega
      have l1 : (c : Int) < (n : Int) := by omega
      have l2 : (m : Int) < (n : Int) := by omega
      have p1 : (0 : Int) ≤ (c : Int) := by omega
      have p2 : (0 : Int) ≤ (m : Int) := by omega
      have g1 : ∀ f', (R n f')[c]? = _ := fun f' => R_get (n := n) (f := f') (show c < n by omega)
      have g2 : ∀ f', (R n f')[m]? = _ := fun f' => R_get (n := n) (f := f') (show m < n by omega)
      have hc := byKey_ok (f m) (f c)
      have hlt := cmpK_lt (f m) (f c)
      by_cases hl' : ltP (f m) (f c) = true
      · have hlt' : (cmpK (f m) (f c) < 0) = True := by rw [hlt]; exact eq_true hl'
        simp only [t0, t2, t4, t14, t15, h0, w1, w2, w3, l1, l2, p1, p2, g1, g2, hlt', un, shiftBin, call_pure pure26 rfl hc, Int.toNat_natCast, xx, r64_0, r64_1, r64_2, r64_3, r64_4, r64_5, r64_6, r64_7, r64_8.1, r64_8.2.1, r64_8.2.2.1, r64_8.2.2.2.2.1, r64_8.2.2.2.2.2.1, r64_8.2.2.2.2.2.2.1, r64_8.2.2.2.2.2.2.2, r64_9, r64_10.1, r64_10.2.1, r64_10.2.2.1, r64_10.2.2.2.1, r64_10.2.2.2.2.2.1, r64_10.2.2.2.2.2.2.1, r64_10.2.2.2.2.2.2.2, r64_11, r64_12, r64_13, r64_14, r64_15, r64_16, r64_17, res64, tt, bb, bc, ↓bd, Nat.reduceEqDiff, Nat.reduceAdd, Nat.reduceMul, Nat.reduceLeDiff, Nat.reduceLT, ↓reduceIte, reduceCtorEq, Nat.reduceBeqDiff, Nat.reduceBneDiff, Int.reduceBNe, Int.reduceBEq, Int.reduceEq, Int.reduceLT, Int.reduceLE, Int.reduceAdd, Int.reduceSub, Int.reduceMul, Int.reduceNeg, List.reduceReplicate, Int.reduceToNat]
        refine ih i c _ (by omega) hi (by omega) (by omega) ?_ ?_ ?_ ?_ ?_ hl ?_
        all_goals first | (simp only [upd_app, t0, t2, t4, t14, t15, Nat.reduceEqDiff, ↓reduceIte]; done) | skip
        intro q x y
        exact bl_lt_le hl' (hs.le (show a ≤ c by omega) x y)
      · have hlt' : (cmpK (f m) (f c) < 0) = False := by rw [hlt]; exact eq_false hl'
        simp only [t0, t2, t4, t14, t15, h0, w1, w2, w3, l1, l2, p1, p2, g1, g2, hlt', un, shiftBin, call_pure pure26 rfl hc, Int.toNat_natCast, xx, r64_0, r64_1, r64_2, r64_3, r64_4, r64_5, r64_6, r64_7, r64_8.1, r64_8.2.1, r64_8.2.2.1, r64_8.2.2.2.2.1, r64_8.2.2.2.2.2.1, r64_8.2.2.2.2.2.2.1, r64_8.2.2.2.2.2.2.2, r64_9, r64_10.1, r64_10.2.1, r64_10.2.2.1, r64_10.2.2.2.1, r64_10.2.2.2.2.2.1, r64_10.2.2.2.2.2.2.1, r64_10.2.2.2.2.2.2.2, r64_11, r64_12, r64_13, r64_14, r64_15, r64_16, r64_17, res64, tt, bb, bc, ↓bd, Nat.reduceEqDiff, Nat.reduceAdd, Nat.reduceMul, Nat.reduceLeDiff, Nat.reduceLT, ↓reduceIte, reduceCtorEq, Nat.reduceBeqDiff, Nat.reduceBneDiff, Int.reduceBNe, Int.reduceBEq, Int.reduceEq, Int.reduceLT, Int.reduceLE, Int.reduceAdd, Int.reduceSub, Int.reduceMul, Int.reduceNeg, List.reduceReplicate, Int.reduceToNat]
        refine ih (c + 1) j _ (by omega) (by omega) (by omega) hj ?_ ?_ ?_ ?_ ?_ ?_ hr
        all_goals first | (simp only [upd_app, t0, t2, t4, t14, t15, Nat.reduceEqDiff, ↓reduceIte]; done) | skip
        intro q x y
        exact bl_le (hs.le x (show q ≤ c by omega) (by omega)) (by simpa using hl')
theorem down_all {i : Nat} (hn : n ≤ 1000000) (him : i ≤ m) (hmn : m < n) (hQ : Q (.tuple []) ⟨h, SB A g n (rot f i m (m + 1))⟩) :
    ∀ (d k : Nat) (T : Nat → AV), k = i + d → k ≤ m → T 0 = .slc g 6 0 n → T 14 = .int .i64 (i : Int) → T 17 = .int .i64 (k : Int) →
      Run Cx 64 T [] none [.inLoop c64_72, .inBlock 6, .code c64_82, .code c64_84] ⟨h, SB A g n (rot f k m (m + 1))⟩ Q
  | 0, k, T, hd, hkm, t0, t14, t17 => by
    obtain rfl : k = i := by omega
    rw [run_inLoop]
    have h0 : ((k : Int) < (k : Int)) = False := eq_false (by omega)
    simp only [t0, t14, t17, h0, xx, r64_0, r64_1, r64_2, r64_3, r64_4, r64_5, r64_6, r64_7, r64_8, r64_9, r64_10, r64_11, r64_12, r64_13, r64_14, r64_15, r64_16, r64_17, res64, tt, bb, bc, ↓bd, Nat.reduceEqDiff, Nat.reduceAdd, Nat.reduceMul, Nat.reduceLeDiff, Nat.reduceLT, ↓reduceIte, reduceCtorEq, Nat.reduceBeqDiff, Nat.reduceBneDiff, Int.reduceBNe, Int.reduceBEq, Int.reduceEq, Int.reduceLT, Int.reduceLE, Int.reduceAdd, Int.reduceSub, Int.reduceMul, Int.reduceNeg, List.reduceReplicate, Int.reduceToNat]
    exact hQ
  | d + 1, k, T, hd, hkm, t0, t14, t17 => by
    obtain ⟨k, rfl⟩ : ∃ k', k = k' + 1 := ⟨k - 1, by omega⟩
    rw [run_inLoop]
    have w1 : IntKind.i64.wrap (((k + 1 : Nat) : Int) - 1) = (k : Int) := by rw [wr64 (by omega) (by omega)]; omega
    have h0 : ((i : Int) < ((k + 1 : Nat) : Int)) = True := eq_true (by omega)
    have l1 : (k : Int) < (n : Int) := by omega
    have l2 : ((k + 1 : Nat) : Int) < (n : Int) := by omega
    have p1 : (0 : Int) ≤ (k : Int) := by omega
    have p2 : (0 : Int) ≤ ((k + 1 : Nat) : Int) := by omega
    have g1 : ∀ f', (R n f')[k]? = _ := fun f' => R_get (n := n) (f := f') (show k < n by omega)
    have g2 : ∀ f', (R n f')[k + 1]? = _ := fun f' => R_get (n := n) (f := f') (show k + 1 < n by omega)
    simp only [t0, t14, t17, w1, h0, l1, l2, p1, p2, g1, g2, Int.toNat_natCast, R_set, upd2, sw_eq, xx, r64_0, r64_1, r64_2, r64_3, r64_4, r64_5, r64_6, r64_7, r64_8, r64_9, r64_10.1, r64_10.2.1, r64_10.2.2.2.1, r64_10.2.2.2.2.2.1, r64_10.2.2.2.2.2.2.1, r64_10.2.2.2.2.2.2.2, r64_11, r64_12, r64_13, r64_14, r64_15, r64_16, r64_17, res64, tt, bb, bc, ↓bd, Nat.reduceEqDiff, Nat.reduceAdd, Nat.reduceMul, Nat.reduceLeDiff, Nat.reduceLT, ↓reduceIte, reduceCtorEq, Nat.reduceBeqDiff, Nat.reduceBneDiff, Int.reduceBNe, Int.reduceBEq, Int.reduceEq, Int.reduceLT, Int.reduceLE, Int.reduceAdd, Int.reduceSub, Int.reduceMul, Int.reduceNeg, List.reduceReplicate, Int.reduceToNat]
    rw [rot_down f (by omega)]
    refine down_all hn him hmn hQ d k _ (by omega) (by omega) ?_ ?_ ?_
    all_goals simp only [upd_app, t0, t14, Nat.reduceEqDiff, ↓reduceIte]
theorem bs3_all {p lo r0 : Nat} {mv nv : AV} (hn : n ≤ 1000000) (hbn : b ≤ n) (hmb : m ≤ b) (hp : p ≤ 2000000) (h1 : Srt f a m) (h2 : Srt f m b) (hrng : ∀ c, lo ≤ c → c < r0 → a ≤ c ∧ c < m ∧ m + c ≤ p ∧ p < b + c) (hlr : r0 ≤ n)
    (hK : ∀ (T : Nat → AV) (s : Nat), T 0 = .slc g 6 0 n → T 1 = .int .i64 (a : Int) → T 2 = .int .i64 (m : Int) → T 3 = .int .i64 (b : Int) → T 4 = .fn 26 [] [] → T 18 = mv → T 19 = nv → T 20 = .int .i64 (s : Int) → lo ≤ s → s ≤ r0 → (∀ c, lo ≤ c → c < s → ltP (f (p - c)) (f c) = false) → (∀ c, s ≤ c → c < r0 → ltP (f (p - c)) (f c) = true) →
      Run Cx 64 T [] none [.code c64_119] ⟨h, SB A g n f⟩ Q) :
    ∀ (d s r : Nat) (T : Nat → AV), r ≤ s + d → lo ≤ s → s ≤ r → r ≤ r0 → T 0 = .slc g 6 0 n → T 1 = .int .i64 (a : Int) → T 2 = .int .i64 (m : Int) → T 3 = .int .i64 (b : Int) → T 4 = .fn 26 [] [] → T 18 = mv → T 19 = nv → T 20 = .int .i64 (s : Int) → T 21 = .int .i64 (r : Int) → T 22 = .int .i64 (p : Int) → (∀ c, lo ≤ c → c < s → ltP (f (p - c)) (f c) = false) → (∀ c, r ≤ c → c < r0 → ltP (f (p - c)) (f c) = true) →
      Run Cx 64 T [] none [.inLoop c64_105, .inBlock 8, .code c64_119] ⟨h, SB A g n f⟩ Q := by
  intro d
  induction d with
  | zero =>
    intro s r T hd hi hij hj t0 t1 t2 t3 t4 t18 t19 t20 t21 t22 hl hr
    obtain rfl : s = r := by omega
    rw [run_inLoop]
    have h0 : ((s : Int) < (s : Int)) = False := eq_false (by omega)
    simp only [t0, t20, t21, h0, xx, r64_0, r64_1, r64_2, r64_3, r64_4, r64_5, r64_6, r64_7, r64_8, r64_9, r64_10, r64_11, r64_12, r64_13, r64_14.1, r64_14.2.1, r64_14.2.2.1, r64_14.2.2.2.1, r64_14.2.2.2.2.1, r64_14.2.2.2.2.2.1, r64_14.2.2.2.2.2.2.1, r64_15, r64_16, r64_17, res64, tt, bb, bc, ↓bd, Nat.reduceEqDiff, Nat.reduceAdd, Nat.reduceMul, Nat.reduceLeDiff, Nat.reduceLT, ↓reduceIte, reduceCtorEq, Nat.reduceBeqDiff, Nat.reduceBneDiff, Int.reduceBNe, Int.reduceBEq, Int.reduceEq, Int.reduceLT, Int.reduceLE, Int.reduceAdd, Int.reduceSub, Int.reduceMul, Int.reduceNeg, List.reduceReplicate, Int.reduceToNat]
    refine hK _ s ?_ ?_ ?_ ?_ ?_ ?_ ?_ ?_ hi hj hl hr
    all_goals simp only [upd_app, t0, t1, t2, t3, t4, t18, t19, t20, Nat.reduceEqDiff, ↓reduceIte]
  | succ d ih =>
    intro s r T hd hi hij hj t0 t1 t2 t3 t4 t18 t19 t20 t21 t22 hl hr
    rw [run_inLoop]
    by_cases e : s = r
    · subst e
      have h0 : ((s : Int) < (s : Int)) = False := eq_false (by omega)
      simp only [t0, t20, t21, h0, xx, r64_0, r64_1, r64_2, r64_3, r64_4, r64_5, r64_6, r64_7, r64_8, r64_9, r64_10, r64_11, r64_12, r64_13, r64_14.1, r64_14.2.1, r64_14.2.2.1, r64_14.2.2.2.1, r64_14.2.2.2.2.1, r64_14.2.2.2.2.2.1, r64_14.2.2.2.2.2.2.1, r64_15, r64_16, r64_17, res64, tt, bb, bc, ↓bd, Nat.reduceEqDiff, Nat.reduceAdd, Nat.reduceMul, Nat.reduceLeDiff, Nat.reduceLT, ↓reduceIte, reduceCtorEq, Nat.reduceBeqDiff, Nat.reduceBneDiff, Int.reduceBNe, Int.reduceBEq, Int.reduceEq, Int.reduceLT, Int.reduceLE, Int.reduceAdd, Int.reduceSub, Int.reduceMul, Int.reduceNeg, List.reduceReplicate, Int.reduceToNat]
      refine hK _ s ?_ ?_ ?_ ?_ ?_ ?_ ?_ ?_ hi hj hl hr
      all_goals simp only [upd_app, t0, t1, t2, t3, t4, t18, t19, t20, Nat.reduceEqDiff, ↓reduceIte]
    · have h0 : ((s : Int) < (r : Int)) = True := eq_true (by omega)
      have w1 : IntKind.i64.wrap ((s : Int) + (r : Int)) = ((s + r : Nat) : Int) := by rw [wr64 (by omega) (by omega)]; omega
      have w2 := u64_half (N := s + r) (by omega)
      generalize hc0 : (s + r) / 2 = c at w2
      obtain ⟨r1, r2, r3, r4⟩ := hrng c (by omega) (by omega)
      have w3 : IntKind.i64.wrap ((c : Int) + 1) = ((c + 1 : Nat) : Int) := by rw [wr64 (by omega) (by omega)]; omega
      have w4 : IntKind.i64.wrap ((p : Int) - (c : Int)) = ((p - c : Nat) : Int) := by rw [wr64 (by omega) (by omega)]; omega
      have l1 : (c : Int) < (n : Int) := by omega
      have l2 : ((p - c : Nat) : Int) < (n : Int) := by omega
      have p1 : (0 : Int) ≤ (c : Int) := by omega
      have p2 : (0 : Int) ≤ ((p - c : Nat) : Int) := by omega
      have g1 : ∀ f', (R n f')[c]? = _ := fun f' => R_get (n := n) (f := f') (show c < n by omega)
      have g2 : ∀ f', (R n f')[p - c]? = _ := fun f' => R_get (n := n) (f := f') (show p - c < n by omega)
      have hc := byKey_ok (f (p - c)) (f c)
      have hlt := cmpK_lt (f (p - c)) (f c)
      by_cases hl' : ltP (f (p - c)) (f c) = true
      · have hlt' : (cmpK (f (p - c)) (f c) < 0) = True := by rw [hlt]; exact eq_true hl'
        simp only [t0, t4, t20, t21, t22, h0, w1, w2, w3, w4, l1, l2, p1, p2, g1, g2, hlt', un, shiftBin, call_pure pure26 rfl hc, Int.toNat_natCast, xx, r64_0, r64_1, r64_2, r64_3, r64_4, r64_5, r64_6, r64_7, r64_8, r64_9, r64_10, r64_11, r64_12, r64_13, r64_14.1, r64_14.2.1, r64_14.2.2.1, r64_14.2.2.2.1, r64_14.2.2.2.2.1, r64_14.2.2.2.2.2.1, r64_14.2.2.2.2.2.2.1, r64_15, r64_16, r64_17, res64, tt, bb, bc, ↓bd, Nat.reduceEqDiff, Nat.reduceAdd, Nat.reduceMul, Nat.reduceLeDiff, Nat.reduceLT, ↓reduceIte, reduceCtorEq, Nat.reduceBeqDiff, Nat.reduceBneDiff, Int.reduceBNe, Int.reduceBEq, Int.reduceEq, Int.reduceLT, Int.reduceLE, Int.reduceAdd, Int.reduceSub, Int.reduceMul, Int.reduceNeg, List.reduceReplicate, Int.reduceToNat]
        refine ih s c _ (by omega) hi (by omega) (by omega) ?_ ?_ ?_ ?_ ?_ ?_ ?_ ?_ ?_ ?_ hl ?_
        all_goals first | (simp only [upd_app, t0, t1, t2, t3, t4, t18, t19, t20, t21, t22, Nat.reduceEqDiff, ↓reduceIte]; done) | skip
        intro q x y
        obtain ⟨q1, q2, q3, q4⟩ := hrng q (by omega) y
        exact bl_lt_le (bl_le_lt (h2.le (show m ≤ p - q by omega) (show p - q ≤ p - c by omega) (by omega)) hl') (h1.le r1 x q2)
      · have hlt' : (cmpK (f (p - c)) (f c) < 0) = False := by rw [hlt]; exact eq_false hl'
        simp only [t0, t4, t20, t21, t22, h0, w1, w2, w3, w4, l1, l2, p1, p2, g1, g2, hlt', un, shiftBin, call_pure pure26 rfl hc, Int.toNat_natCast, xx, r64_0, r64_1, r64_2, r64_3, r64_4, r64_5, r64_6, r64_7, r64_8, r64_9, r64_10, r64_11, r64_12, r64_13, r64_14.1, r64_14.2.1, r64_14.2.2.1, r64_14.2.2.2.1, r64_14.2.2.2.2.1, r64_14.2.2.2.2.2.1, r64_14.2.2.2.2.2.2.1, r64_15, r64_16, r64_17, res64, tt, bb, bc, ↓bd, Nat.reduceEqDiff, Nat.reduceAdd, Nat.reduceMul, Nat.reduceLeDiff, Nat.reduceLT, ↓reduceIte, reduceCtorEq, Nat.reduceBeqDiff, Nat.reduceBneDiff, Int.reduceBNe, Int.reduceBEq, Int.reduceEq, Int.reduceLT, Int.reduceLE, Int.reduceAdd, Int.reduceSub, Int.reduceMul, Int.reduceNeg, List.reduceReplicate, Int.reduceToNat]
        refine ih (c + 1) r _ (by omega) (by omega) (by omega) hj ?_ ?_ ?_ ?_ ?_ ?_ ?_ ?_ ?_ ?_ ?_ hr
        all_goals first | (simp only [upd_app, t0, t1, t2, t3, t4, t18, t19, t20, t21, t22, Nat.reduceEqDiff, ↓reduceIte]; done) | skip
        intro q x y
        obtain ⟨q1, q2, q3, q4⟩ := hrng q x (by omega)
        exact bl_le (bl_le (h1.le q1 (show q ≤ c by omega) r2) (by simpa using hl')) (h2.le (show m ≤ p - c by omega) (show p - c ≤ p - q by omega) (by omega))
end
end Go.Proofs.Ytjnopnlgcmlkfaa.G

namespace Go.Proofs.Ytjnopnlgcmlkfaa.G
open Go.BX
set_option linter.unusedSimpArgs false
set_option linter.unusedVariables false
theorem cut_of {f : Nat → Pr} {a m b mid lo r0 s : Nat} (ham : a < m) (hmb : m < b) (hmid : mid = (a + b) / 2) (hlo : (mid < m ∧ lo = mid + m - b ∧ r0 = mid) ∨ (m ≤ mid ∧ lo = a ∧ r0 = m)) (h1 : Srt f a m) (h2 : Srt f m b) (hs1 : lo ≤ s) (hs2 : s ≤ r0)
    (hl : ∀ c, lo ≤ c → c < s → ltP (f (mid + m - 1 - c)) (f c) = false) (hr : ∀ c, s ≤ c → c < r0 → ltP (f (mid + m - 1 - c)) (f c) = true) : Cut f a m b mid s where
  am := ham
  mb := hmb
  lo := by omega
  hi := by omega
  mi := by omega
  me := by omega
  ms := by omega
  gt := by
    intro p q x y z w
    have hsr : s < r0 := by omega
    have k1 := hr s (Nat.le_refl _) hsr
    exact bl_lt_le (bl_le_lt (h2.le z (show q ≤ mid + m - 1 - s by omega) (by omega)) k1) (h1.le (show a ≤ s by omega) x y)
  le := by
    intro p q x y z w
    have hsr : lo < s := by omega
    have k1 := hl (s - 1) (by omega) (by omega)
    rw [show mid + m - 1 - (s - 1) = mid + m - s by omega] at k1
    exact bl_le (bl_le (h1.le x (show p ≤ s - 1 by omega) (by omega)) k1) (h2.le (show m ≤ mid + m - s by omega) z w)
theorem symMerge_call {n h : Nat} {A : Nat → Blk} {g : Nat} (hn : n ≤ 1000000) : ∀ (N a m b : Nat) (f : Nat → Pr) (fn : FuncId) (T : Nat → AV) (ds : List ADef) (ro : Option Nat) (k : List AItem) (Q : AV → AHeap → Prop) (dst : Option Nat) (os : List AO),
    b - a ≤ N → a < m → m < b → b ≤ n → Srt f a m → Srt f m b → (∀ f', Mv a b f f' → Srt f' a b → RunOps Cx fn (putA T dst (.tuple [])) ds ro os k ⟨h, SB A g n f'⟩ Q) →
    RunCall Cx fn T ds ro 64 [.slc g 6 0 n, .int .i64 (a : Int), .int .i64 (m : Int), .int .i64 (b : Int), .fn 26 [] []] dst os k ⟨h, SB A g n f⟩ Q := by
  intro N
  induction N with
  | zero => intro a m b f fn T ds ro k Q dst os hN ham hmb; omega
  | succ N ih =>
    intro a m b f fn T ds ro k Q dst os hN ham hmb hbn h1 h2 hk
    refine call_body pure64 (noext _) body64 ?_
    have hQ : ∀ f', Mv a b f f' → Srt f' a b → (fun r H1 => RunOps Cx fn (putA T dst r) ds ro os k H1 Q) (.tuple []) ⟨h, SB A g n f'⟩ := hk
    generalize (fun r H1 => RunOps Cx fn (putA T dst r) ds ro os k H1 Q) = Q' at hQ ⊢
    clear hk
    have w1 : IntKind.i64.wrap ((m : Int) - (a : Int)) = ((m - a : Nat) : Int) := by rw [wr64 (by omega) (by omega)]; omega
    have w2 : IntKind.i64.wrap ((b : Int) - (m : Int)) = ((b - m : Nat) : Int) := by rw [wr64 (by omega) (by omega)]; omega
    by_cases c1 : m - a = 1
    · obtain rfl : m = a + 1 := by omega
      have e1 : (((a + 1 - a : Nat) : Int) == 1) = true := by rw [c1]; rfl
      simp only [w1, e1, r64_0, r64_1.1, r64_1.2.1, r64_1.2.2.1, r64_1.2.2.2.2.1, r64_1.2.2.2.2.2.1, r64_1.2.2.2.2.2.2.1, r64_1.2.2.2.2.2.2.2, r64_2, r64_3.1, r64_3.2.2.1, r64_3.2.2.2.1, r64_3.2.2.2.2.1, r64_3.2.2.2.2.2.1, r64_3.2.2.2.2.2.2.1, r64_3.2.2.2.2.2.2.2, r64_4, r64_5.1, r64_5.2.1, r64_5.2.2.2.1, r64_5.2.2.2.2.1, r64_5.2.2.2.2.2.1, r64_5.2.2.2.2.2.2.1, r64_5.2.2.2.2.2.2.2, r64_6, r64_7, r64_8, r64_9, r64_10, r64_11, r64_12, r64_13, r64_14, r64_15, r64_16, r64_17, res64, tt, bb, bc, ↓bd, Nat.reduceEqDiff, Nat.reduceAdd, Nat.reduceMul, Nat.reduceLeDiff, Nat.reduceLT, ↓reduceIte, reduceCtorEq, Nat.reduceBeqDiff, Nat.reduceBneDiff, Int.reduceBNe, Int.reduceBEq, Int.reduceEq, Int.reduceLT, Int.reduceLE, Int.reduceAdd, Int.reduceSub, Int.reduceMul, Int.reduceNeg, List.reduceReplicate, Int.reduceToNat]
      refine bs1_all (a := a) (m := a + 1) (b := b) hn (by omega) hbn h2 ?_ b (a + 1) b _ (by omega) (by omega) (by omega) (by omega) ?_ ?_ ?_ ?_ ?_ (fun q x y => absurd y (by omega)) (fun q x y => absurd y (by omega))
      · intro T' i t0 t1 t10 hi1 hi2 hl hr
        obtain ⟨hm, hs⟩ := mrg_one hi1 hi2 h2 hl hr
        have hu := up_all (a := a) (f := f) (i := i) (A := A) (h := h) (g := g) hn (by omega) (by omega) (hQ _ hm hs) (i - (a + 1)) a
        rw [rot_nil'] at hu
        simp only [t0, t1, t10, r64_0, r64_1, r64_2, r64_3.1, r64_3.2.1, r64_3.2.2.1, r64_3.2.2.2.1, r64_3.2.2.2.2.1, r64_3.2.2.2.2.2.1, r64_3.2.2.2.2.2.2.2, r64_4, r64_5.2.1, r64_5.2.2.2.1, r64_5.2.2.2.2.1, r64_5.2.2.2.2.2.1, r64_5.2.2.2.2.2.2.1, r64_5.2.2.2.2.2.2.2, r64_6, r64_7, r64_8, r64_9, r64_10, r64_11, r64_12, r64_13, r64_14, r64_15, r64_16, r64_17, res64, tt, bb, bc, ↓bd, Nat.reduceEqDiff, Nat.reduceAdd, Nat.reduceMul, Nat.reduceLeDiff, Nat.reduceLT, ↓reduceIte, reduceCtorEq, Nat.reduceBeqDiff, Nat.reduceBneDiff, Int.reduceBNe, Int.reduceBEq, Int.reduceEq, Int.reduceLT, Int.reduceLE, Int.reduceAdd, Int.reduceSub, Int.reduceMul, Int.reduceNeg, List.reduceReplicate, Int.reduceToNat]
        refine hu _ (by omega) (Nat.le_refl _) ?_ ?_ ?_
        all_goals simp only [upd_app, t0, t1, t10, Nat.reduceEqDiff, ↓reduceIte]
      all_goals simp only [upd_app, enterT, List.getElem?_cons_zero, List.getElem?_cons_succ, Option.getD_some, Nat.reduceEqDiff, ↓reduceIte]
      all_goals rfl
    · have e1 : (((m - a : Nat) : Int) == 1) = false := by simp; omega
      by_cases c2 : b - m = 1
      · obtain rfl : b = m + 1 := by omega
        have e2 : (((m + 1 - m : Nat) : Int) == 1) = true := by rw [c2]; rfl
        simp only [w1, w2, e1, e2, r64_0, r64_1, r64_2, r64_3, r64_4, r64_5, r64_6.1, r64_6.2.1, r64_6.2.2.1, r64_6.2.2.2.1, r64_6.2.2.2.2.1, r64_6.2.2.2.2.2.2.1, r64_6.2.2.2.2.2.2.2, r64_7, r64_8.1, r64_8.2.1, r64_8.2.2.1, r64_8.2.2.2.2.1, r64_8.2.2.2.2.2.1, r64_8.2.2.2.2.2.2.1, r64_8.2.2.2.2.2.2.2, r64_9, r64_10.1, r64_10.2.1, r64_10.2.2.1, r64_10.2.2.2.1, r64_10.2.2.2.2.2.1, r64_10.2.2.2.2.2.2.1, r64_10.2.2.2.2.2.2.2, r64_11, r64_12, r64_13, r64_14, r64_15, r64_16, r64_17, res64, tt, bb, bc, ↓bd, Nat.reduceEqDiff, Nat.reduceAdd, Nat.reduceMul, Nat.reduceLeDiff, Nat.reduceLT, ↓reduceIte, reduceCtorEq, Nat.reduceBeqDiff, Nat.reduceBneDiff, Int.reduceBNe, Int.reduceBEq, Int.reduceEq, Int.reduceLT, Int.reduceLE, Int.reduceAdd, Int.reduceSub, Int.reduceMul, Int.reduceNeg, List.reduceReplicate, Int.reduceToNat]
        refine bs2_all (a := a) (m := m) hn (by omega) h1 ?_ m a m _ (by omega) (by omega) (by omega) (by omega) ?_ ?_ ?_ ?_ ?_ (fun q x y => absurd y (by omega)) (fun q x y => absurd y (by omega))
        · intro T' i t0 t2 t14 hi1 hi2 hl hr
          obtain ⟨hm, hs⟩ := mrg_last hi1 hi2 h1 hl hr
          have hu := down_all (m := m) (f := f) (i := i) (A := A) (h := h) (g := g) hn hi2 (by omega) (hQ _ hm hs) (m - i) m
          rw [rot_nil] at hu
          first
          | (simp only [t0, t2, t14, r64_0, r64_1, r64_2, r64_3, r64_4, r64_5, r64_6, r64_7, r64_8, r64_9.2.1, r64_9.2.2.1, r64_9.2.2.2.1, r64_9.2.2.2.2.1, r64_9.2.2.2.2.2.1, r64_9.2.2.2.2.2.2.1, r64_9.2.2.2.2.2.2.2, r64_10.1, r64_10.2.1, r64_10.2.2.2.1, r64_10.2.2.2.2.2.1, r64_10.2.2.2.2.2.2.1, r64_10.2.2.2.2.2.2.2, r64_11, r64_12, r64_13, r64_14, r64_15, r64_16, r64_17, res64, tt, bb, bc, ↓bd, Nat.reduceEqDiff, Nat.reduceAdd, Nat.reduceMul, Nat.reduceLeDiff, Nat.reduceLT, ↓reduceIte, reduceCtorEq, Nat.reduceBeqDiff, Nat.reduceBneDiff, Int.reduceBNe, Int.reduceBEq, Int.reduceEq, Int.reduceLT, Int.reduceLE, Int.reduceAdd, Int.reduceSub, Int.reduceMul, Int.reduceNeg, List.reduceReplicate, Int.reduceToNat]
             refine hu _ (by omega) (Nat.le_refl _) ?_ ?_ ?_
             all_goals simp only [upd_app, t0, t2, t14, Nat.reduceEqDiff, ↓reduceIte])
        all_goals simp only [upd_app, enterT, List.getElem?_cons_zero, List.getElem?_cons_succ, Option.getD_some, Nat.reduceEqDiff, ↓reduceIte]
        all_goals rfl
      · have e2 : (((b - m : Nat) : Int) == 1) = false := by simp; omega
        have w3 : IntKind.i64.wrap ((a : Int) + (b : Int)) = ((a + b : Nat) : Int) := by rw [wr64 (by omega) (by omega)]; omega
        have w4 := u64_half (N := a + b) (by omega)
        generalize hmid : (a + b) / 2 = mid at w4
        have w5 : IntKind.i64.wrap ((mid : Int) + (m : Int)) = ((mid + m : Nat) : Int) := by rw [wr64 (by omega) (by omega)]; omega
        have w6 : IntKind.i64.wrap (((mid + m : Nat) : Int) - (b : Int)) = ((mid + m : Nat) : Int) - (b : Int) := wr64 (by omega) (by omega)
        have w7 : IntKind.i64.wrap (((mid + m : Nat) : Int) - 1) = ((mid + m - 1 : Nat) : Int) := by rw [wr64 (by omega) (by omega)]; omega
        have hend : ∀ (T' : Nat → AV) (s lo r0 : Nat), ((mid < m ∧ lo = mid + m - b ∧ r0 = mid) ∨ (m ≤ mid ∧ lo = a ∧ r0 = m)) → T' 0 = .slc g 6 0 n → T' 1 = .int .i64 (a : Int) → T' 2 = .int .i64 (m : Int) → T' 3 = .int .i64 (b : Int) → T' 4 = .fn 26 [] [] → T' 18 = .int .i64 (mid : Int) → T' 19 = .int .i64 ((mid + m : Nat) : Int) → T' 20 = .int .i64 (s : Int) → lo ≤ s → s ≤ r0 → (∀ c, lo ≤ c → c < s → ltP (f (mid + m - 1 - c)) (f c) = false) → (∀ c, s ≤ c → c < r0 → ltP (f (mid + m - 1 - c)) (f c) = true) →
            Run Cx 64 T' [] none [.code c64_119] ⟨h, SB A g n f⟩ Q' := by
          intro T' s lo r0 hlo t0 t1 t2 t3 t4 t18 t19 t20 hs1 hs2 hl hr
          have cut := cut_of ham hmb hmid.symm hlo h1 h2 hs1 hs2 hl hr
          obtain ⟨s1, s2, s3, s4⟩ := cut.srt h1 h2
          have cross := cut.cross h1 h2
          have cmv := cut.mv
          have k1 := cut.lo
          have k2 := cut.hi
          have k3 := cut.mi
          have k4 := cut.me
          have k5 := cut.ms
          have w8 : IntKind.i64.wrap (((mid + m : Nat) : Int) - (s : Int)) = ((mid + m - s : Nat) : Int) := by rw [wr64 (by omega) (by omega)]; omega
          generalize hF : rot f s m (mid + m - s) = F at s1 s2 s3 s4 cross cmv
          have he : ∃ e, e = mid + m - s := ⟨_, rfl⟩
          obtain ⟨e, he⟩ := he
          rw [← he] at w8 s3 s4 hF k4 k5
          have hK3 : ∀ (T' : Nat → AV) (F2 : Nat → Pr), T' 0 = .slc g 6 0 n → T' 3 = .int .i64 (b : Int) → T' 4 = .fn 26 [] [] → T' 18 = .int .i64 (mid : Int) → T' 24 = .int .i64 (e : Int) → Mv a mid F F2 → Srt F2 a mid →
              Run Cx 64 T' [] none [.code c64_133] ⟨h, SB A g n F2⟩ Q' := by
            intro T' F2 t0 t3 t4 t18 t24 hm2 hs2
            have s3' : Srt F2 mid e := s3.congr fun k x y => hm2.1 k (.inr x)
            have s4' : Srt F2 e b := s4.congr fun k x y => hm2.1 k (.inr (by omega))
            by_cases d1 : mid < e ∧ e < b
            · have i1 : (mid : Int) < (e : Int) := by omega
              have i2 : (e : Int) < (b : Int) := by omega
              simp only [t0, t3, t4, t18, t24, i1, i2, r64_0, r64_1, r64_2, r64_3, r64_4, r64_5, r64_6, r64_7, r64_8, r64_9, r64_10, r64_11, r64_12, r64_13, r64_14, r64_15, r64_16, r64_17, res64, tt, bb, bc, ↓bd, Nat.reduceEqDiff, Nat.reduceAdd, Nat.reduceMul, Nat.reduceLeDiff, Nat.reduceLT, ↓reduceIte, reduceCtorEq, Nat.reduceBeqDiff, Nat.reduceBneDiff, Int.reduceBNe, Int.reduceBEq, Int.reduceEq, Int.reduceLT, Int.reduceLE, Int.reduceAdd, Int.reduceSub, Int.reduceMul, Int.reduceNeg, List.reduceReplicate, Int.reduceToNat]
              refine ih mid e b F2 _ _ _ _ _ _ _ _ (by omega) d1.1 d1.2 hbn s3' s4' ?_
              intro F3 hm3 hs3
              simp only [run_nil, r64_0, r64_1, r64_2, r64_3, r64_4, r64_5, r64_6, r64_7, r64_8, r64_9, r64_10, r64_11, r64_12, r64_13, r64_14, r64_15, r64_16, r64_17, res64, tt, bb, bc, ↓bd, Nat.reduceEqDiff, Nat.reduceAdd, Nat.reduceMul, Nat.reduceLeDiff, Nat.reduceLT, ↓reduceIte, reduceCtorEq, Nat.reduceBeqDiff, Nat.reduceBneDiff, Int.reduceBNe, Int.reduceBEq, Int.reduceEq, Int.reduceLT, Int.reduceLE, Int.reduceAdd, Int.reduceSub, Int.reduceMul, Int.reduceNeg, List.reduceReplicate, Int.reduceToNat]
              obtain ⟨hm4, hs4⟩ := halves (by omega) (by omega) cross hm2 hm3 hs2 hs3
              exact hQ _ (cmv.trans hm4) hs4
            · have hs3 : Srt F2 mid b := by
                by_cases d2 : mid < e
                · have : e = b := by omega
                  rw [← this]; exact s3'
                · have : e = mid := by omega
                  rw [← this]; exact s4'
              obtain ⟨hm4, hs4⟩ := halves (by omega) (by omega) cross hm2 (Mv.refl mid b F2) hs2 hs3
              have hq := hQ _ (cmv.trans hm4) hs4
              by_cases i1 : (mid : Int) < (e : Int)
              · have i2 : ((e : Int) < (b : Int)) = False := eq_false (by omega)
                simp only [t0, t3, t4, t18, t24, i1, i2, run_nil, r64_0, r64_1, r64_2, r64_3, r64_4, r64_5, r64_6, r64_7, r64_8, r64_9, r64_10, r64_11, r64_12, r64_13, r64_14, r64_15, r64_16, r64_17, res64, tt, bb, bc, ↓bd, Nat.reduceEqDiff, Nat.reduceAdd, Nat.reduceMul, Nat.reduceLeDiff, Nat.reduceLT, ↓reduceIte, reduceCtorEq, Nat.reduceBeqDiff, Nat.reduceBneDiff, Int.reduceBNe, Int.reduceBEq, Int.reduceEq, Int.reduceLT, Int.reduceLE, Int.reduceAdd, Int.reduceSub, Int.reduceMul, Int.reduceNeg, List.reduceReplicate, Int.reduceToNat]
                exact hq
              · simp only [t0, t3, t4, t18, t24, i1, run_nil, r64_0, r64_1, r64_2, r64_3, r64_4, r64_5, r64_6, r64_7, r64_8, r64_9, r64_10, r64_11, r64_12, r64_13, r64_14, r64_15, r64_16, r64_17, res64, tt, bb, bc, ↓bd, Nat.reduceEqDiff, Nat.reduceAdd, Nat.reduceMul, Nat.reduceLeDiff, Nat.reduceLT, ↓reduceIte, reduceCtorEq, Nat.reduceBeqDiff, Nat.reduceBneDiff, Int.reduceBNe, Int.reduceBEq, Int.reduceEq, Int.reduceLT, Int.reduceLE, Int.reduceAdd, Int.reduceSub, Int.reduceMul, Int.reduceNeg, List.reduceReplicate, Int.reduceToNat]
                exact hq
          have hK2 : ∀ (T' : Nat → AV), T' 0 = .slc g 6 0 n → T' 1 = .int .i64 (a : Int) → T' 3 = .int .i64 (b : Int) → T' 4 = .fn 26 [] [] → T' 18 = .int .i64 (mid : Int) → T' 20 = .int .i64 (s : Int) → T' 24 = .int .i64 (e : Int) →
              Run Cx 64 T' [] none [.code c64_127] ⟨h, SB A g n F⟩ Q' := by
            intro T' t0 t1 t3 t4 t18 t20 t24
            by_cases d1 : a < s ∧ s < mid
            · have i1 : (a : Int) < (s : Int) := by omega
              have i2 : (s : Int) < (mid : Int) := by omega
              simp only [t0, t1, t3, t4, t18, t20, t24, i1, i2, r64_0, r64_1, r64_2, r64_3, r64_4, r64_5, r64_6, r64_7, r64_8, r64_9, r64_10, r64_11, r64_12, r64_13, r64_14, r64_15, r64_16.1, r64_16.2.1, r64_16.2.2.1, r64_16.2.2.2.1, r64_16.2.2.2.2.1, r64_16.2.2.2.2.2.2.1, r64_16.2.2.2.2.2.2.2, r64_17, res64, tt, bb, bc, ↓bd, Nat.reduceEqDiff, Nat.reduceAdd, Nat.reduceMul, Nat.reduceLeDiff, Nat.reduceLT, ↓reduceIte, reduceCtorEq, Nat.reduceBeqDiff, Nat.reduceBneDiff, Int.reduceBNe, Int.reduceBEq, Int.reduceEq, Int.reduceLT, Int.reduceLE, Int.reduceAdd, Int.reduceSub, Int.reduceMul, Int.reduceNeg, List.reduceReplicate, Int.reduceToNat]
              refine ih a s mid F _ _ _ _ _ _ _ _ (by omega) d1.1 d1.2 (by omega) s1 s2 ?_
              intro F2 hm2 hs2
              simp only [r64_0, r64_1, r64_2, r64_3, r64_4, r64_5, r64_6, r64_7, r64_8, r64_9, r64_10, r64_11, r64_12, r64_13, r64_14, r64_15, r64_16.1, r64_16.2.1, r64_16.2.2.1, r64_16.2.2.2.1, r64_16.2.2.2.2.1, r64_16.2.2.2.2.2.2.1, r64_16.2.2.2.2.2.2.2, r64_17, res64, tt, bb, bc, ↓bd, Nat.reduceEqDiff, Nat.reduceAdd, Nat.reduceMul, Nat.reduceLeDiff, Nat.reduceLT, ↓reduceIte, reduceCtorEq, Nat.reduceBeqDiff, Nat.reduceBneDiff, Int.reduceBNe, Int.reduceBEq, Int.reduceEq, Int.reduceLT, Int.reduceLE, Int.reduceAdd, Int.reduceSub, Int.reduceMul, Int.reduceNeg, List.reduceReplicate, Int.reduceToNat]
              refine hK3 _ F2 ?_ ?_ ?_ ?_ ?_ hm2 hs2
              all_goals simp only [upd_app, t0, t3, t4, t18, t24, Nat.reduceEqDiff, ↓reduceIte]
            · have hs2 : Srt F a mid := by
                by_cases d2 : a < s
                · have : s = mid := by omega
                  rw [← this]; exact s1
                · have : s = a := by omega
                  rw [← this]; exact s2
              by_cases i1 : (a : Int) < (s : Int)
              · have i2 : ((s : Int) < (mid : Int)) = False := eq_false (by omega)
                simp only [t0, t1, t3, t4, t18, t20, t24, i1, i2, r64_0, r64_1, r64_2, r64_3, r64_4, r64_5, r64_6, r64_7, r64_8, r64_9, r64_10, r64_11, r64_12, r64_13, r64_14, r64_15, r64_16.1, r64_16.2.1, r64_16.2.2.1, r64_16.2.2.2.1, r64_16.2.2.2.2.1, r64_16.2.2.2.2.2.2.1, r64_16.2.2.2.2.2.2.2, r64_17, res64, tt, bb, bc, ↓bd, Nat.reduceEqDiff, Nat.reduceAdd, Nat.reduceMul, Nat.reduceLeDiff, Nat.reduceLT, ↓reduceIte, reduceCtorEq, Nat.reduceBeqDiff, Nat.reduceBneDiff, Int.reduceBNe, Int.reduceBEq, Int.reduceEq, Int.reduceLT, Int.reduceLE, Int.reduceAdd, Int.reduceSub, Int.reduceMul, Int.reduceNeg, List.reduceReplicate, Int.reduceToNat]
                refine hK3 _ F ?_ ?_ ?_ ?_ ?_ (Mv.refl _ _ _) hs2
                all_goals simp only [upd_app, t0, t3, t4, t18, t24, Nat.reduceEqDiff, ↓reduceIte]
              · simp only [t0, t1, t3, t4, t18, t20, t24, i1, r64_0, r64_1, r64_2, r64_3, r64_4, r64_5, r64_6, r64_7, r64_8, r64_9, r64_10, r64_11, r64_12, r64_13, r64_14, r64_15, r64_16.1, r64_16.2.1, r64_16.2.2.1, r64_16.2.2.2.1, r64_16.2.2.2.2.1, r64_16.2.2.2.2.2.2.1, r64_16.2.2.2.2.2.2.2, r64_17, res64, tt, bb, bc, ↓bd, Nat.reduceEqDiff, Nat.reduceAdd, Nat.reduceMul, Nat.reduceLeDiff, Nat.reduceLT, ↓reduceIte, reduceCtorEq, Nat.reduceBeqDiff, Nat.reduceBneDiff, Int.reduceBNe, Int.reduceBEq, Int.reduceEq, Int.reduceLT, Int.reduceLE, Int.reduceAdd, Int.reduceSub, Int.reduceMul, Int.reduceNeg, List.reduceReplicate, Int.reduceToNat]
                refine hK3 _ F ?_ ?_ ?_ ?_ ?_ (Mv.refl _ _ _) hs2
                all_goals simp only [upd_app, t0, t3, t4, t18, t24, Nat.reduceEqDiff, ↓reduceIte]
          by_cases d1 : s < m ∧ m < e
          · have i1 : (s : Int) < (m : Int) := by omega
            have i2 : (m : Int) < (e : Int) := by omega
            simp only [t0, t1, t2, t3, t4, t18, t19, t20, w8, i1, i2, r64_0, r64_1, r64_2, r64_3, r64_4, r64_5, r64_6, r64_7, r64_8, r64_9, r64_10, r64_11, r64_12, r64_13, r64_14, r64_15.1, r64_15.2.1, r64_15.2.2.1, r64_15.2.2.2.1, r64_15.2.2.2.2.1, r64_15.2.2.2.2.2.1, r64_15.2.2.2.2.2.2.1, r64_16, r64_17, res64, tt, bb, bc, ↓bd, Nat.reduceEqDiff, Nat.reduceAdd, Nat.reduceMul, Nat.reduceLeDiff, Nat.reduceLT, ↓reduceIte, reduceCtorEq, Nat.reduceBeqDiff, Nat.reduceBneDiff, Int.reduceBNe, Int.reduceBEq, Int.reduceEq, Int.reduceLT, Int.reduceLE, Int.reduceAdd, Int.reduceSub, Int.reduceMul, Int.reduceNeg, List.reduceReplicate, Int.reduceToNat]
            refine rotate_call hn d1.1 d1.2 (by omega) ?_
            rw [hF]
            simp only [r64_0, r64_1, r64_2, r64_3, r64_4, r64_5, r64_6, r64_7, r64_8, r64_9, r64_10, r64_11, r64_12, r64_13, r64_14, r64_15.1, r64_15.2.1, r64_15.2.2.1, r64_15.2.2.2.1, r64_15.2.2.2.2.1, r64_15.2.2.2.2.2.1, r64_15.2.2.2.2.2.2.1, r64_16, r64_17, res64, tt, bb, bc, ↓bd, Nat.reduceEqDiff, Nat.reduceAdd, Nat.reduceMul, Nat.reduceLeDiff, Nat.reduceLT, ↓reduceIte, reduceCtorEq, Nat.reduceBeqDiff, Nat.reduceBneDiff, Int.reduceBNe, Int.reduceBEq, Int.reduceEq, Int.reduceLT, Int.reduceLE, Int.reduceAdd, Int.reduceSub, Int.reduceMul, Int.reduceNeg, List.reduceReplicate, Int.reduceToNat]
            refine hK2 _ ?_ ?_ ?_ ?_ ?_ ?_ ?_
            all_goals simp only [upd_app, t0, t1, t3, t4, t18, t20, Nat.reduceEqDiff, ↓reduceIte]
          · have hFf : F = f := by
              rw [← hF]
              by_cases d2 : s < m
              · have : e = m := by omega
                rw [this, rot_nil']
              · have : s = m := by omega
                rw [this, rot_nil]
            subst hFf
            by_cases i1 : (s : Int) < (m : Int)
            · have i2 : ((m : Int) < (e : Int)) = False := eq_false (by omega)
              simp only [t0, t1, t2, t3, t4, t18, t19, t20, w8, i1, i2, r64_0, r64_1, r64_2, r64_3, r64_4, r64_5, r64_6, r64_7, r64_8, r64_9, r64_10, r64_11, r64_12, r64_13, r64_14, r64_15.1, r64_15.2.1, r64_15.2.2.1, r64_15.2.2.2.1, r64_15.2.2.2.2.1, r64_15.2.2.2.2.2.1, r64_15.2.2.2.2.2.2.1, r64_16, r64_17, res64, tt, bb, bc, ↓bd, Nat.reduceEqDiff, Nat.reduceAdd, Nat.reduceMul, Nat.reduceLeDiff, Nat.reduceLT, ↓reduceIte, reduceCtorEq, Nat.reduceBeqDiff, Nat.reduceBneDiff, Int.reduceBNe, Int.reduceBEq, Int.reduceEq, Int.reduceLT, Int.reduceLE, Int.reduceAdd, Int.reduceSub, Int.reduceMul, Int.reduceNeg, List.reduceReplicate, Int.reduceToNat]
              refine hK2 _ ?_ ?_ ?_ ?_ ?_ ?_ ?_
              all_goals simp only [upd_app, t0, t1, t3, t4, t18, t20, Nat.reduceEqDiff, ↓reduceIte]
            · simp only [t0, t1, t2, t3, t4, t18, t19, t20, w8, i1, r64_0, r64_1, r64_2, r64_3, r64_4, r64_5, r64_6, r64_7, r64_8, r64_9, r64_10, r64_11, r64_12, r64_13, r64_14, r64_15.1, r64_15.2.1, r64_15.2.2.1, r64_15.2.2.2.1, r64_15.2.2.2.2.1, r64_15.2.2.2.2.2.1, r64_15.2.2.2.2.2.2.1, r64_16, r64_17, res64, tt, bb, bc, ↓bd, Nat.reduceEqDiff, Nat.reduceAdd, Nat.reduceMul, Nat.reduceLeDiff, Nat.reduceLT, ↓reduceIte, reduceCtorEq, Nat.reduceBeqDiff, Nat.reduceBneDiff, Int.reduceBNe, Int.reduceBEq, Int.reduceEq, Int.reduceLT, Int.reduceLE, Int.reduceAdd, Int.reduceSub, Int.reduceMul, Int.reduceNeg, List.reduceReplicate, Int.reduceToNat]
              refine hK2 _ ?_ ?_ ?_ ?_ ?_ ?_ ?_
              all_goals simp only [upd_app, t0, t1, t3, t4, t18, t20, Nat.reduceEqDiff, ↓reduceIte]
        by_cases c3 : mid < m
        · have i1 : (mid : Int) < (m : Int) := by omega
          have w6' : ((mid + m : Nat) : Int) - (b : Int) = ((mid + m - b : Nat) : Int) := by omega
          replace w6 : IntKind.i64.wrap (((mid + m : Nat) : Int) - (b : Int)) = ((mid + m - b : Nat) : Int) := w6.trans w6'
          simp only [w1, w2, w3, w4, w5, w6, w7, e1, e2, i1, shiftBin, r64_0, r64_1, r64_2, r64_3, r64_4, r64_5, r64_6, r64_7, r64_8, r64_9, r64_10, r64_11, r64_12, r64_13.1, r64_13.2.2.1, r64_13.2.2.2.1, r64_13.2.2.2.2.1, r64_13.2.2.2.2.2.1, r64_13.2.2.2.2.2.2.1, r64_13.2.2.2.2.2.2.2, r64_14.1, r64_14.2.1, r64_14.2.2.1, r64_14.2.2.2.1, r64_14.2.2.2.2.1, r64_14.2.2.2.2.2.1, r64_14.2.2.2.2.2.2.1, r64_15, r64_16, r64_17, res64, tt, bb, bc, ↓bd, Nat.reduceEqDiff, Nat.reduceAdd, Nat.reduceMul, Nat.reduceLeDiff, Nat.reduceLT, ↓reduceIte, reduceCtorEq, Nat.reduceBeqDiff, Nat.reduceBneDiff, Int.reduceBNe, Int.reduceBEq, Int.reduceEq, Int.reduceLT, Int.reduceLE, Int.reduceAdd, Int.reduceSub, Int.reduceMul, Int.reduceNeg, List.reduceReplicate, Int.reduceToNat]
          refine bs3_all (a := a) (m := m) (b := b) (p := mid + m - 1) (lo := mid + m - b) (r0 := mid) (mv := .int .i64 (mid : Int)) (nv := .int .i64 ((mid + m : Nat) : Int)) hn hbn (by omega) (by omega) h1 h2 (fun c x y => ⟨by omega, by omega, by omega, by omega⟩) (by omega) ?_ mid (mid + m - b) mid _ (by omega) (by omega) (by omega) (by omega) ?_ ?_ ?_ ?_ ?_ ?_ ?_ ?_ ?_ ?_ (fun q x y => absurd y (by omega)) (fun q x y => absurd y (by omega))
          · intro T' s t0 t1 t2 t3 t4 t18 t19 t20 k1 k2 k3 k4
            exact hend T' s _ _ (.inl ⟨c3, rfl, rfl⟩) t0 t1 t2 t3 t4 t18 t19 t20 k1 k2 k3 k4
          all_goals simp only [upd_app, enterT, List.getElem?_cons_zero, List.getElem?_cons_succ, Option.getD_some, Nat.reduceEqDiff, ↓reduceIte]
          all_goals rfl
        · have i1 : ¬ (mid : Int) < (m : Int) := by omega
          simp only [w1, w2, w3, w4, w5, w6, w7, e1, e2, i1, shiftBin, r64_0, r64_1, r64_2, r64_3, r64_4, r64_5, r64_6, r64_7, r64_8, r64_9, r64_10, r64_11, r64_12, r64_13.1, r64_13.2.2.1, r64_13.2.2.2.1, r64_13.2.2.2.2.1, r64_13.2.2.2.2.2.1, r64_13.2.2.2.2.2.2.1, r64_13.2.2.2.2.2.2.2, r64_14.1, r64_14.2.1, r64_14.2.2.1, r64_14.2.2.2.1, r64_14.2.2.2.2.1, r64_14.2.2.2.2.2.1, r64_14.2.2.2.2.2.2.1, r64_15, r64_16, r64_17, res64, tt, bb, bc, ↓bd, Nat.reduceEqDiff, Nat.reduceAdd, Nat.reduceMul, Nat.reduceLeDiff, Nat.reduceLT, ↓reduceIte, reduceCtorEq, Nat.reduceBeqDiff, Nat.reduceBneDiff, Int.reduceBNe, Int.reduceBEq, Int.reduceEq, Int.reduceLT, Int.reduceLE, Int.reduceAdd, Int.reduceSub, Int.reduceMul, Int.reduceNeg, List.reduceReplicate, Int.reduceToNat]
          refine bs3_all (a := a) (m := m) (b := b) (p := mid + m - 1) (lo := a) (r0 := m) (mv := .int .i64 (mid : Int)) (nv := .int .i64 ((mid + m : Nat) : Int)) hn hbn (by omega) (by omega) h1 h2 (fun c x y => ⟨by omega, by omega, by omega, by omega⟩) (by omega) ?_ m a m _ (by omega) (by omega) (by omega) (by omega) ?_ ?_ ?_ ?_ ?_ ?_ ?_ ?_ ?_ ?_ (fun q x y => absurd y (by omega)) (fun q x y => absurd y (by omega))
          · intro T' s t0 t1 t2 t3 t4 t18 t19 t20 k1 k2 k3 k4
            exact hend T' s _ _ (.inr ⟨by omega, rfl, rfl⟩) t0 t1 t2 t3 t4 t18 t19 t20 k1 k2 k3 k4
          all_goals simp only [upd_app, enterT, List.getElem?_cons_zero, List.getElem?_cons_succ, Option.getD_some, Nat.reduceEqDiff, ↓reduceIte]
          all_goals rfl
end Go.Proofs.Ytjnopnlgcmlkfaa.G

namespace Go.Proofs.Ytjnopnlgcmlkfaa.G
open Go.BX
set_option linter.unusedSimpArgs false
set_option linter.unusedVariables false
theorem bk_of {f : Nat → Pr} {bs t a n : Nat} (ha : a = t * bs) (hd : ∀ u, u < t → Srt f (u * bs) (u * bs + bs)) (hl : Srt f a n) (hn : n < a + bs) : ∀ u, Srt f (u * bs) (min (u * bs + bs) n) := by
  intro u
  by_cases c : u < t
  · exact (hd u c).sub (Nat.le_refl _) (Nat.min_le_left _ _)
  · by_cases e : u = t
    · subst e
      rw [← ha]
      exact hl.sub (Nat.le_refl _) (Nat.min_le_right _ _)
    · have h1 : (t + 1) * bs ≤ u * bs := Nat.mul_le_mul_right bs (by omega)
      rw [Nat.add_mul] at h1
      exact Srt.one (by omega)
section
variable {n h : Nat} {A : Nat → Blk} {g : Nat} {f0 : Nat → Pr} {Q : AV → AHeap → Prop}
theorem st1_all (hn : n ≤ 1000000)
    (hK : ∀ (T : Nat → AV) (f : Nat → Pr), T 0 = .slc g 6 0 n → T 1 = .int .i64 (n : Int) → T 2 = .fn 26 [] [] → T 6 = .int .i64 20 → Mv 0 n f0 f → (∀ u, Srt f (u * 20) (min (u * 20 + 20) n)) →
      Run Cx 41 T [] none [.code c41_21] ⟨h, SB A g n f⟩ Q) :
    ∀ (d t a : Nat) (T : Nat → AV) (f : Nat → Pr), n ≤ a + d → a = t * 20 → a ≤ n → T 0 = .slc g 6 0 n → T 1 = .int .i64 (n : Int) → T 2 = .fn 26 [] [] → T 6 = .int .i64 20 → T 7 = .int .i64 (a : Int) → T 8 = .int .i64 ((a + 20 : Nat) : Int) → Mv 0 n f0 f → (∀ u, u < t → Srt f (u * 20) (u * 20 + 20)) →
      Run Cx 41 T [] none [.inLoop c41_7, .inBlock 0, .code c41_19] ⟨h, SB A g n f⟩ Q := by
  intro d
  induction d with
  | zero =>
    intro t a T f hd hat ha t0 t1 t2 t6 t7 t8 hm hs
    rw [run_inLoop]
    have h0 : ¬ ((a + 20 : Nat) : Int) ≤ (n : Int) := by omega
    simp only [t0, t1, t2, t6, t7, t8, h0, xx, r41_0, r41_1, r41_2.1, r41_2.2.1, r41_2.2.2.1, r41_2.2.2.2.1, r41_2.2.2.2.2.1, r41_2.2.2.2.2.2.2.1, r41_2.2.2.2.2.2.2.2, r41_3, r41_4, r41_5, r41_6, res41, tt, bb, bc, ↓bd, Nat.reduceEqDiff, Nat.reduceAdd, Nat.reduceMul, Nat.reduceLeDiff, Nat.reduceLT, ↓reduceIte, reduceCtorEq, Nat.reduceBeqDiff, Nat.reduceBneDiff, Int.reduceBNe, Int.reduceBEq, Int.reduceEq, Int.reduceLT, Int.reduceLE, Int.reduceAdd, Int.reduceSub, Int.reduceMul, Int.reduceNeg, List.reduceReplicate, Int.reduceToNat]
    refine insertion_call hn (by omega) (Nat.le_refl _) ?_
    intro f' hm' hs'
    have hm2 := hm.trans (hm'.wide (Nat.zero_le _) ha (Nat.le_refl _))
    simp only [r41_0, r41_1, r41_2.1, r41_2.2.1, r41_2.2.2.1, r41_2.2.2.2.1, r41_2.2.2.2.2.1, r41_2.2.2.2.2.2.2.1, r41_2.2.2.2.2.2.2.2, r41_3, r41_4, r41_5, r41_6, res41, tt, bb, bc, ↓bd, Nat.reduceEqDiff, Nat.reduceAdd, Nat.reduceMul, Nat.reduceLeDiff, Nat.reduceLT, ↓reduceIte, reduceCtorEq, Nat.reduceBeqDiff, Nat.reduceBneDiff, Int.reduceBNe, Int.reduceBEq, Int.reduceEq, Int.reduceLT, Int.reduceLE, Int.reduceAdd, Int.reduceSub, Int.reduceMul, Int.reduceNeg, List.reduceReplicate, Int.reduceToNat]
    refine hK _ f' ?_ ?_ ?_ ?_ hm2 (bk_of (t := t) hat (fun u hu => (hs u hu).congr fun k x y => hm'.1 k (.inl ?_)) hs' (by omega))
    all_goals first | omega | simp only [upd_app, t0, t1, t2, t6, Nat.reduceEqDiff, ↓reduceIte]
  | succ d ih =>
    intro t a T f hd hat ha t0 t1 t2 t6 t7 t8 hm hs
    rw [run_inLoop]
    by_cases c : a + 20 ≤ n
    · have h0 : ((a + 20 : Nat) : Int) ≤ (n : Int) := by omega
      have w1 : IntKind.i64.wrap (((a + 20 : Nat) : Int) + 20) = ((a + 20 + 20 : Nat) : Int) := by rw [wr64 (by omega) (by omega)]; omega
      simp only [t0, t1, t2, t6, t7, t8, h0, xx, r41_0, r41_1, r41_2.1, r41_2.2.1, r41_2.2.2.1, r41_2.2.2.2.2.1, r41_2.2.2.2.2.2.1, r41_2.2.2.2.2.2.2.1, r41_2.2.2.2.2.2.2.2, r41_3, r41_4, r41_5, r41_6, res41, tt, bb, bc, ↓bd, Nat.reduceEqDiff, Nat.reduceAdd, Nat.reduceMul, Nat.reduceLeDiff, Nat.reduceLT, ↓reduceIte, reduceCtorEq, Nat.reduceBeqDiff, Nat.reduceBneDiff, Int.reduceBNe, Int.reduceBEq, Int.reduceEq, Int.reduceLT, Int.reduceLE, Int.reduceAdd, Int.reduceSub, Int.reduceMul, Int.reduceNeg, List.reduceReplicate, Int.reduceToNat]
      refine insertion_call hn (by omega) c ?_
      intro f' hm' hs'
      have hm2 := hm.trans (hm'.wide (Nat.zero_le _) (by omega) c)
      simp only [t0, t1, t2, t6, t7, t8, w1, xx, r41_0, r41_1, r41_2.1, r41_2.2.1, r41_2.2.2.1, r41_2.2.2.2.2.1, r41_2.2.2.2.2.2.1, r41_2.2.2.2.2.2.2.1, r41_2.2.2.2.2.2.2.2, r41_3, r41_4, r41_5, r41_6, res41, tt, bb, bc, ↓bd, Nat.reduceEqDiff, Nat.reduceAdd, Nat.reduceMul, Nat.reduceLeDiff, Nat.reduceLT, ↓reduceIte, reduceCtorEq, Nat.reduceBeqDiff, Nat.reduceBneDiff, Int.reduceBNe, Int.reduceBEq, Int.reduceEq, Int.reduceLT, Int.reduceLE, Int.reduceAdd, Int.reduceSub, Int.reduceMul, Int.reduceNeg, List.reduceReplicate, Int.reduceToNat]
      refine ih (t + 1) (a + 20) _ f' (by omega) (by omega) c ?_ ?_ ?_ ?_ ?_ ?_ hm2 ?_
      all_goals first | (simp only [upd_app, t0, t1, t2, t6, Nat.reduceEqDiff, ↓reduceIte]; done) | skip
      intro u hu
      by_cases e : u = t
      · subst e; rw [← hat]; exact hs'
      · exact (hs u (by omega)).congr fun k x y => hm'.1 k (.inl (by omega))
    · have h0 : ¬ ((a + 20 : Nat) : Int) ≤ (n : Int) := by omega
      simp only [t0, t1, t2, t6, t7, t8, h0, xx, r41_0, r41_1, r41_2.1, r41_2.2.1, r41_2.2.2.1, r41_2.2.2.2.1, r41_2.2.2.2.2.1, r41_2.2.2.2.2.2.2.1, r41_2.2.2.2.2.2.2.2, r41_3, r41_4, r41_5, r41_6, res41, tt, bb, bc, ↓bd, Nat.reduceEqDiff, Nat.reduceAdd, Nat.reduceMul, Nat.reduceLeDiff, Nat.reduceLT, ↓reduceIte, reduceCtorEq, Nat.reduceBeqDiff, Nat.reduceBneDiff, Int.reduceBNe, Int.reduceBEq, Int.reduceEq, Int.reduceLT, Int.reduceLE, Int.reduceAdd, Int.reduceSub, Int.reduceMul, Int.reduceNeg, List.reduceReplicate, Int.reduceToNat]
      refine insertion_call hn (by omega) (Nat.le_refl _) ?_
      intro f' hm' hs'
      have hm2 := hm.trans (hm'.wide (Nat.zero_le _) ha (Nat.le_refl _))
      simp only [r41_0, r41_1, r41_2.1, r41_2.2.1, r41_2.2.2.1, r41_2.2.2.2.1, r41_2.2.2.2.2.1, r41_2.2.2.2.2.2.2.1, r41_2.2.2.2.2.2.2.2, r41_3, r41_4, r41_5, r41_6, res41, tt, bb, bc, ↓bd, Nat.reduceEqDiff, Nat.reduceAdd, Nat.reduceMul, Nat.reduceLeDiff, Nat.reduceLT, ↓reduceIte, reduceCtorEq, Nat.reduceBeqDiff, Nat.reduceBneDiff, Int.reduceBNe, Int.reduceBEq, Int.reduceEq, Int.reduceLT, Int.reduceLE, Int.reduceAdd, Int.reduceSub, Int.reduceMul, Int.reduceNeg, List.reduceReplicate, Int.reduceToNat]
      refine hK _ f' ?_ ?_ ?_ ?_ hm2 (bk_of (t := t) hat (fun u hu => (hs u hu).congr fun k x y => hm'.1 k (.inl ?_)) hs' (by omega))
      all_goals first | omega | simp only [upd_app, t0, t1, t2, t6, Nat.reduceEqDiff, ↓reduceIte]
theorem st2_all {bs : Nat} (hn : n ≤ 1000000) (hb : 0 < bs) (hbn : bs < n)
    (hK : ∀ (T : Nat → AV) (f : Nat → Pr), T 0 = .slc g 6 0 n → T 1 = .int .i64 (n : Int) → T 2 = .fn 26 [] [] → T 6 = .int .i64 ((bs * 2 : Nat) : Int) → Mv 0 n f0 f → (∀ u, Srt f (u * (bs * 2)) (min (u * (bs * 2) + bs * 2) n)) →
      Run Cx 41 T [] none [.inLoop c41_23, .inBlock 2] ⟨h, SB A g n f⟩ Q) :
    ∀ (d t a : Nat) (T : Nat → AV) (f : Nat → Pr), n ≤ a + d → a = t * (bs * 2) → a ≤ n → T 0 = .slc g 6 0 n → T 1 = .int .i64 (n : Int) → T 2 = .fn 26 [] [] → T 6 = .int .i64 (bs : Int) → T 7 = .int .i64 (a : Int) → T 8 = .int .i64 ((a + bs * 2 : Nat) : Int) → Mv 0 n f0 f → (∀ u, u < t → Srt f (u * (bs * 2)) (u * (bs * 2) + bs * 2)) → (∀ u, Srt f (a + u * bs) (min (a + u * bs + bs) n)) →
      Run Cx 41 T [] none [.inLoop c41_35, .inBlock 4, .code c41_47, .inBlock 3, .inLoop c41_23, .inBlock 2] ⟨h, SB A g n f⟩ Q := by
  have hend : ∀ (t a : Nat) (T : Nat → AV) (f : Nat → Pr), n < a + bs * 2 → a = t * (bs * 2) → a ≤ n → T 0 = .slc g 6 0 n → T 1 = .int .i64 (n : Int) → T 2 = .fn 26 [] [] → T 6 = .int .i64 (bs : Int) → T 7 = .int .i64 (a : Int) → Mv 0 n f0 f → (∀ u, u < t → Srt f (u * (bs * 2)) (u * (bs * 2) + bs * 2)) → (∀ u, Srt f (a + u * bs) (min (a + u * bs + bs) n)) →
      Run Cx 41 T [] none [.code c41_47, .inBlock 3, .inLoop c41_23, .inBlock 2] ⟨h, SB A g n f⟩ Q := by
    intro t a T f hd hat ha t0 t1 t2 t6 t7 hm hs hb2
    have w1 : IntKind.i64.wrap ((a : Int) + (bs : Int)) = ((a + bs : Nat) : Int) := by rw [wr64 (by omega) (by omega)]; omega
    have w2 : IntKind.i64.wrap ((bs : Int) * 2) = ((bs * 2 : Nat) : Int) := by rw [wr64 (by omega) (by omega)]; omega
    have q0 := hb2 0
    have q1 := hb2 1
    rw [Nat.zero_mul, Nat.add_zero] at q0
    rw [Nat.one_mul] at q1
    by_cases c : a + bs < n
    · have h0 : ((a + bs : Nat) : Int) < (n : Int) := by omega
      rw [Nat.min_eq_left (by omega)] at q0
      rw [Nat.min_eq_right (by omega)] at q1
      simp only [t0, t1, t2, t6, t7, w1, h0, xx, r41_0, r41_1, r41_2, r41_3, r41_4, r41_5, r41_6, res41, tt, bb, bc, ↓bd, Nat.reduceEqDiff, Nat.reduceAdd, Nat.reduceMul, Nat.reduceLeDiff, Nat.reduceLT, ↓reduceIte, reduceCtorEq, Nat.reduceBeqDiff, Nat.reduceBneDiff, Int.reduceBNe, Int.reduceBEq, Int.reduceEq, Int.reduceLT, Int.reduceLE, Int.reduceAdd, Int.reduceSub, Int.reduceMul, Int.reduceNeg, List.reduceReplicate, Int.reduceToNat]
      refine symMerge_call hn (n - a) a (a + bs) n f _ _ _ _ _ _ _ _ (Nat.le_refl _) (by omega) c (Nat.le_refl _) q0 q1 ?_
      intro f' hm' hs'
      have hm2 := hm.trans (hm'.wide (Nat.zero_le _) ha (Nat.le_refl _))
      simp only [t0, t1, t2, t6, t7, w2, xx, r41_0, r41_1, r41_2, r41_3, r41_4, r41_5, r41_6, res41, tt, bb, bc, ↓bd, Nat.reduceEqDiff, Nat.reduceAdd, Nat.reduceMul, Nat.reduceLeDiff, Nat.reduceLT, ↓reduceIte, reduceCtorEq, Nat.reduceBeqDiff, Nat.reduceBneDiff, Int.reduceBNe, Int.reduceBEq, Int.reduceEq, Int.reduceLT, Int.reduceLE, Int.reduceAdd, Int.reduceSub, Int.reduceMul, Int.reduceNeg, List.reduceReplicate, Int.reduceToNat]
      refine hK _ f' ?_ ?_ ?_ ?_ hm2 (bk_of (t := t) hat (fun u hu => (hs u hu).congr fun k x y => hm'.1 k (.inl ?_)) hs' hd)
      all_goals first | (simp only [upd_app, t0, t1, t2, t6, Nat.reduceEqDiff, ↓reduceIte]; done) | skip
      have h1 : (u + 1) * (bs * 2) ≤ t * (bs * 2) := Nat.mul_le_mul_right _ (by omega)
      rw [Nat.add_mul] at h1
      omega
    · have h0 : ¬ ((a + bs : Nat) : Int) < (n : Int) := by omega
      rw [Nat.min_eq_right (by omega)] at q0
      simp only [t0, t1, t2, t6, t7, w1, w2, h0, xx, r41_0, r41_1, r41_2, r41_3, r41_4, r41_5, r41_6, res41, tt, bb, bc, ↓bd, Nat.reduceEqDiff, Nat.reduceAdd, Nat.reduceMul, Nat.reduceLeDiff, Nat.reduceLT, ↓reduceIte, reduceCtorEq, Nat.reduceBeqDiff, Nat.reduceBneDiff, Int.reduceBNe, Int.reduceBEq, Int.reduceEq, Int.reduceLT, Int.reduceLE, Int.reduceAdd, Int.reduceSub, Int.reduceMul, Int.reduceNeg, List.reduceReplicate, Int.reduceToNat]
      refine hK _ f ?_ ?_ ?_ ?_ hm (bk_of (t := t) hat hs q0 hd)
      all_goals simp only [upd_app, t0, t1, t2, t6, Nat.reduceEqDiff, ↓reduceIte]
  intro d
  induction d with
  | zero =>
    intro t a T f hd hat ha t0 t1 t2 t6 t7 t8 hm hs hb2
    rw [run_inLoop]
    have h0 : ¬ ((a + bs * 2 : Nat) : Int) ≤ (n : Int) := by omega
    simp only [t0, t1, t2, t6, t7, t8, h0, xx, r41_0, r41_1, r41_2, r41_3, r41_4, r41_5.1, r41_5.2.1, r41_5.2.2.1, r41_5.2.2.2.1, r41_5.2.2.2.2.1, r41_5.2.2.2.2.2.1, r41_5.2.2.2.2.2.2.1, r41_6, res41, tt, bb, bc, ↓bd, Nat.reduceEqDiff, Nat.reduceAdd, Nat.reduceMul, Nat.reduceLeDiff, Nat.reduceLT, ↓reduceIte, reduceCtorEq, Nat.reduceBeqDiff, Nat.reduceBneDiff, Int.reduceBNe, Int.reduceBEq, Int.reduceEq, Int.reduceLT, Int.reduceLE, Int.reduceAdd, Int.reduceSub, Int.reduceMul, Int.reduceNeg, List.reduceReplicate, Int.reduceToNat]
    refine hend t a _ f (by omega) hat ha ?_ ?_ ?_ ?_ ?_ hm hs hb2
    all_goals simp only [upd_app, t0, t1, t2, t6, t7, Nat.reduceEqDiff, ↓reduceIte]
  | succ d ih =>
    intro t a T f hd hat ha t0 t1 t2 t6 t7 t8 hm hs hb2
    rw [run_inLoop]
    by_cases c : a + bs * 2 ≤ n
    · have h0 : ((a + bs * 2 : Nat) : Int) ≤ (n : Int) := by omega
      have w1 : IntKind.i64.wrap ((a : Int) + (bs : Int)) = ((a + bs : Nat) : Int) := by rw [wr64 (by omega) (by omega)]; omega
      have w2 : IntKind.i64.wrap (2 * (bs : Int)) = ((bs * 2 : Nat) : Int) := by rw [wr64 (by omega) (by omega)]; omega
      have w3 : IntKind.i64.wrap (((a + bs * 2 : Nat) : Int) + ((bs * 2 : Nat) : Int)) = ((a + bs * 2 + bs * 2 : Nat) : Int) := by rw [wr64 (by omega) (by omega)]; omega
      have q0 := hb2 0
      have q1 := hb2 1
      rw [Nat.zero_mul, Nat.add_zero, Nat.min_eq_left (by omega)] at q0
      rw [Nat.one_mul, Nat.min_eq_left (by omega), show a + bs + bs = a + bs * 2 by omega] at q1
      simp only [t0, t1, t2, t6, t7, t8, w1, h0, xx, r41_0, r41_1, r41_2, r41_3, r41_4, r41_5.1, r41_5.2.1, r41_5.2.2.1, r41_5.2.2.2.1, r41_5.2.2.2.2.1, r41_5.2.2.2.2.2.1, r41_5.2.2.2.2.2.2.1, r41_6, res41, tt, bb, bc, ↓bd, Nat.reduceEqDiff, Nat.reduceAdd, Nat.reduceMul, Nat.reduceLeDiff, Nat.reduceLT, ↓reduceIte, reduceCtorEq, Nat.reduceBeqDiff, Nat.reduceBneDiff, Int.reduceBNe, Int.reduceBEq, Int.reduceEq, Int.reduceLT, Int.reduceLE, Int.reduceAdd, Int.reduceSub, Int.reduceMul, Int.reduceNeg, List.reduceReplicate, Int.reduceToNat]
      refine symMerge_call hn (a + bs * 2 - a) a (a + bs) (a + bs * 2) f _ _ _ _ _ _ _ _ (Nat.le_refl _) (by omega) (by omega) c q0 q1 ?_
      intro f' hm' hs'
      have hm2 := hm.trans (hm'.wide (Nat.zero_le _) (by omega) c)
      simp only [t0, t1, t2, t6, t7, t8, w2, w3, xx, r41_0, r41_1, r41_2, r41_3, r41_4, r41_5.1, r41_5.2.1, r41_5.2.2.1, r41_5.2.2.2.1, r41_5.2.2.2.2.1, r41_5.2.2.2.2.2.1, r41_5.2.2.2.2.2.2.1, r41_6, res41, tt, bb, bc, ↓bd, Nat.reduceEqDiff, Nat.reduceAdd, Nat.reduceMul, Nat.reduceLeDiff, Nat.reduceLT, ↓reduceIte, reduceCtorEq, Nat.reduceBeqDiff, Nat.reduceBneDiff, Int.reduceBNe, Int.reduceBEq, Int.reduceEq, Int.reduceLT, Int.reduceLE, Int.reduceAdd, Int.reduceSub, Int.reduceMul, Int.reduceNeg, List.reduceReplicate, Int.reduceToNat]
      refine ih (t + 1) (a + bs * 2) _ f' (by omega) (by rw [Nat.add_mul, ← hat, Nat.one_mul]) c ?_ ?_ ?_ ?_ ?_ ?_ hm2 ?_ ?_
      all_goals first | (simp only [upd_app, t0, t1, t2, t6, Nat.reduceEqDiff, ↓reduceIte]; done) | skip
      · intro u hu
        by_cases e : u = t
        · subst e; rw [← hat]; exact hs'
        · refine (hs u (by omega)).congr fun k x y => hm'.1 k (.inl ?_)
          have h1 : (u + 1) * (bs * 2) ≤ t * (bs * 2) := Nat.mul_le_mul_right _ (by omega)
          rw [Nat.add_mul] at h1
          omega
      · intro u
        have q2 := hb2 (u + 2)
        rw [Nat.add_mul, show a + (u * bs + 2 * bs) = a + bs * 2 + u * bs by omega] at q2
        exact q2.congr fun k x y => hm'.1 k (.inr (by omega))
    · have h0 : ¬ ((a + bs * 2 : Nat) : Int) ≤ (n : Int) := by omega
      simp only [t0, t1, t2, t6, t7, t8, h0, xx, r41_0, r41_1, r41_2, r41_3, r41_4, r41_5.1, r41_5.2.1, r41_5.2.2.1, r41_5.2.2.2.1, r41_5.2.2.2.2.1, r41_5.2.2.2.2.2.1, r41_5.2.2.2.2.2.2.1, r41_6, res41, tt, bb, bc, ↓bd, Nat.reduceEqDiff, Nat.reduceAdd, Nat.reduceMul, Nat.reduceLeDiff, Nat.reduceLT, ↓reduceIte, reduceCtorEq, Nat.reduceBeqDiff, Nat.reduceBneDiff, Int.reduceBNe, Int.reduceBEq, Int.reduceEq, Int.reduceLT, Int.reduceLE, Int.reduceAdd, Int.reduceSub, Int.reduceMul, Int.reduceNeg, List.reduceReplicate, Int.reduceToNat]
      refine hend t a _ f (by omega) hat ha ?_ ?_ ?_ ?_ ?_ hm hs hb2
      all_goals simp only [upd_app, t0, t1, t2, t6, t7, Nat.reduceEqDiff, ↓reduceIte]
theorem st3_all (hn : n ≤ 1000000) (hQ : ∀ f, Mv 0 n f0 f → Srt f 0 n → Q (.tuple []) ⟨h, SB A g n f⟩) :
    ∀ (d bs : Nat) (T : Nat → AV) (f : Nat → Pr), n ≤ bs + d → 0 < bs → bs ≤ 2000000 → T 0 = .slc g 6 0 n → T 1 = .int .i64 (n : Int) → T 2 = .fn 26 [] [] → T 6 = .int .i64 (bs : Int) → Mv 0 n f0 f → (∀ u, Srt f (u * bs) (min (u * bs + bs) n)) →
      Run Cx 41 T [] none [.inLoop c41_23, .inBlock 2] ⟨h, SB A g n f⟩ Q := by
  have hend : ∀ (bs : Nat) (T : Nat → AV) (f : Nat → Pr), n ≤ bs → T 0 = .slc g 6 0 n → T 1 = .int .i64 (n : Int) → T 2 = .fn 26 [] [] → T 6 = .int .i64 (bs : Int) → Mv 0 n f0 f → (∀ u, Srt f (u * bs) (min (u * bs + bs) n)) →
      Run Cx 41 T [] none [.inLoop c41_23, .inBlock 2] ⟨h, SB A g n f⟩ Q := by
    intro bs T f hd t0 t1 t2 t6 hm hs
    rw [run_inLoop]
    have h0 : ¬ (bs : Int) < (n : Int) := by omega
    have q0 := hs 0
    rw [Nat.zero_mul, Nat.zero_add, Nat.min_eq_right hd] at q0
    simp only [t0, t1, t2, t6, h0, run_nil, xx, r41_0, r41_1, r41_2, r41_3, r41_4, r41_5, r41_6, res41, tt, bb, bc, ↓bd, Nat.reduceEqDiff, Nat.reduceAdd, Nat.reduceMul, Nat.reduceLeDiff, Nat.reduceLT, ↓reduceIte, reduceCtorEq, Nat.reduceBeqDiff, Nat.reduceBneDiff, Int.reduceBNe, Int.reduceBEq, Int.reduceEq, Int.reduceLT, Int.reduceLE, Int.reduceAdd, Int.reduceSub, Int.reduceMul, Int.reduceNeg, List.reduceReplicate, Int.reduceToNat]
    exact hQ f hm q0
  intro d
  induction d with
  | zero =>
    intro bs T f hd hb hb2 t0 t1 t2 t6 hm hs
    exact hend bs T f (by omega) t0 t1 t2 t6 hm hs
  | succ d ih =>
    intro bs T f hd hb hb2 t0 t1 t2 t6 hm hs
    by_cases c : n ≤ bs
    · exact hend bs T f c t0 t1 t2 t6 hm hs
    · rw [run_inLoop]
      have h0 : (bs : Int) < (n : Int) := by omega
      have w2 : IntKind.i64.wrap (2 * (bs : Int)) = ((bs * 2 : Nat) : Int) := by rw [wr64 (by omega) (by omega)]; omega
      simp only [t0, t1, t2, t6, w2, h0, xx, r41_0, r41_1, r41_2, r41_3, r41_4.1, r41_4.2.1, r41_4.2.2.1, r41_4.2.2.2.2.1, r41_4.2.2.2.2.2.1, r41_4.2.2.2.2.2.2.1, r41_4.2.2.2.2.2.2.2, r41_5.1, r41_5.2.1, r41_5.2.2.1, r41_5.2.2.2.1, r41_5.2.2.2.2.1, r41_5.2.2.2.2.2.1, r41_5.2.2.2.2.2.2.1, r41_6, res41, tt, bb, bc, ↓bd, Nat.reduceEqDiff, Nat.reduceAdd, Nat.reduceMul, Nat.reduceLeDiff, Nat.reduceLT, ↓reduceIte, reduceCtorEq, Nat.reduceBeqDiff, Nat.reduceBneDiff, Int.reduceBNe, Int.reduceBEq, Int.reduceEq, Int.reduceLT, Int.reduceLE, Int.reduceAdd, Int.reduceSub, Int.reduceMul, Int.reduceNeg, List.reduceReplicate, Int.reduceToNat]
      refine st2_all (bs := bs) hn hb (by omega) ?_ n 0 0 _ f (by omega) (by omega) (by omega) ?_ ?_ ?_ ?_ ?_ ?_ hm (fun u hu => absurd hu (by omega)) ?_
      · intro T' f' t0' t1' t2' t6' hm' hs'
        exact ih (bs * 2) T' f' (by omega) (by omega) (by omega) t0' t1' t2' t6' hm' hs'
      all_goals first | (simp only [upd_app, t0, t1, t2, t6, Nat.reduceEqDiff, ↓reduceIte]; done) | skip
      · simp only [upd_app, Nat.reduceEqDiff, ↓reduceIte]; rfl
      · simp only [upd_app, Nat.reduceEqDiff, ↓reduceIte, Nat.zero_add]
      · intro u; rw [Nat.zero_add]; exact hs u
end
section
variable {fn : FuncId} {T : Nat → AV} {ds : List ADef} {ro : Option Nat} {k : List AItem} {Q : AV → AHeap → Prop} {dst : Option Nat} {os : List AO} {h n : Nat} {A : Nat → Blk} {g : Nat} {f : Nat → Pr}
theorem SortStable_call (hn : n ≤ 1000000) (hk : ∀ f', Mv 0 n f f' → Srt f' 0 n → RunOps Cx fn (putA T dst (.tuple [])) ds ro os k ⟨h, SB A g n f'⟩ Q) :
    RunCall Cx fn T ds ro 25 [.slc g 6 0 n, .fn 26 [] []] dst os k ⟨h, SB A g n f⟩ Q := by
  refine call_body pure25 (noext _) body25 ?_
  simp only [r25_0, res25, tt, bb, bc, ↓bd, Nat.reduceEqDiff, Nat.reduceAdd, Nat.reduceMul, Nat.reduceLeDiff, Nat.reduceLT, ↓reduceIte, reduceCtorEq, Nat.reduceBeqDiff, Nat.reduceBneDiff, Int.reduceBNe, Int.reduceBEq, Int.reduceEq, Int.reduceLT, Int.reduceLE, Int.reduceAdd, Int.reduceSub, Int.reduceMul, Int.reduceNeg, List.reduceReplicate, Int.reduceToNat]
  refine call_body pure41 (noext _) body41 ?_
  simp only [r41_0.1, r41_0.2.1, r41_0.2.2.1, r41_0.2.2.2.1, r41_0.2.2.2.2.1, r41_0.2.2.2.2.2.1, r41_0.2.2.2.2.2.2.1, r41_1, r41_2.1, r41_2.2.1, r41_2.2.2.1, r41_2.2.2.2.2.1, r41_2.2.2.2.2.2.1, r41_2.2.2.2.2.2.2.1, r41_2.2.2.2.2.2.2.2, r41_3, r41_4, r41_5, r41_6, res41, tt, bb, bc, ↓bd, Nat.reduceEqDiff, Nat.reduceAdd, Nat.reduceMul, Nat.reduceLeDiff, Nat.reduceLT, ↓reduceIte, reduceCtorEq, Nat.reduceBeqDiff, Nat.reduceBneDiff, Int.reduceBNe, Int.reduceBEq, Int.reduceEq, Int.reduceLT, Int.reduceLE, Int.reduceAdd, Int.reduceSub, Int.reduceMul, Int.reduceNeg, List.reduceReplicate, Int.reduceToNat]
  refine st1_all (f0 := f) hn ?_ n 0 0 _ f (by omega) (by omega) (by omega) ?_ ?_ ?_ ?_ ?_ ?_ (Mv.refl _ _ _) (fun u hu => absurd hu (by omega))
  · intro T' f' t0 t1 t2 t6 hm hs
    simp only [r41_0, r41_1, r41_2.1, r41_2.2.1, r41_2.2.2.1, r41_2.2.2.2.1, r41_2.2.2.2.2.1, r41_2.2.2.2.2.2.1, r41_2.2.2.2.2.2.2.1, r41_3, r41_4, r41_5, r41_6, res41, tt, bb, bc, ↓bd, Nat.reduceEqDiff, Nat.reduceAdd, Nat.reduceMul, Nat.reduceLeDiff, Nat.reduceLT, ↓reduceIte, reduceCtorEq, Nat.reduceBeqDiff, Nat.reduceBneDiff, Int.reduceBNe, Int.reduceBEq, Int.reduceEq, Int.reduceLT, Int.reduceLE, Int.reduceAdd, Int.reduceSub, Int.reduceMul, Int.reduceNeg, List.reduceReplicate, Int.reduceToNat]
    refine st3_all (f0 := f) hn ?_ n 20 T' f' (by omega) (by omega) (by omega) t0 t1 t2 t6 hm hs
    intro f2 hm2 hs2
    simp only [run_nil, r25_0, res25, tt, bb, bc, ↓bd, Nat.reduceEqDiff, Nat.reduceAdd, Nat.reduceMul, Nat.reduceLeDiff, Nat.reduceLT, ↓reduceIte, reduceCtorEq, Nat.reduceBeqDiff, Nat.reduceBneDiff, Int.reduceBNe, Int.reduceBEq, Int.reduceEq, Int.reduceLT, Int.reduceLE, Int.reduceAdd, Int.reduceSub, Int.reduceMul, Int.reduceNeg, List.reduceReplicate, Int.reduceToNat]
    exact hk f2 hm2 hs2
  all_goals simp only [upd_app, enterT, List.getElem?_cons_zero, List.getElem?_cons_succ, Option.getD_some, Nat.reduceEqDiff, ↓reduceIte]
  all_goals rfl
end
end Go.Proofs.Ytjnopnlgcmlkfaa.G

namespace Go.Proofs.Ytjnopnlgcmlkfaa.G
open Go.BX
set_option linter.unusedSimpArgs false
set_option linter.unusedVariables false
def InE (v : AV) (l : List Pr) : Prop := (v = .nilS ∧ l = []) ∨ (v = .emp ∧ l = []) ∨ v = .vec 6 (l.map encP)
theorem InL.e {v : AV} {l : List Pr} (h : InL v l) : InE v l := h.elim .inl (fun h => .inr (.inr h))
theorem InE.flat {v : AV} {l : List Pr} (h : InE v l) : v.flat = true := by
  rcases h with ⟨rfl, _⟩ | ⟨rfl, _⟩ | rfl <;> rfl
structure IsSort (l m : List Pr) : Prop where
  keys : ∀ κ, ofKey κ m = ofKey κ l
  ord : m.Pairwise fun p q => ltP q p = false
  len : m.length = l.length
theorem mem_ofKey {p : Pr} {l : List Pr} : p ∈ ofKey p.key l ↔ p ∈ l := by
  unfold ofKey
  rw [List.mem_filter]
  simp
theorem uniq_sort : ∀ {a b : List Pr}, (∀ κ, ofKey κ a = ofKey κ b) → a.Pairwise (fun p q => ltP q p = false) → b.Pairwise (fun p q => ltP q p = false) → a = b
  | [], [], _, _, _ => rfl
  | [], q :: b, hk, _, _ => by
    have : q ∈ ofKey q.key (q :: b) := mem_ofKey.mpr (by simp)
    rw [← hk] at this
    cases mem_ofKey.mp this
  | p :: a, [], hk, _, _ => by
    have : p ∈ ofKey p.key (p :: a) := mem_ofKey.mpr (by simp)
    rw [hk] at this
    cases mem_ofKey.mp this
  | p :: a, q :: b, hk, ha, hb => by
    rw [List.pairwise_cons] at ha hb
    have hpb : p ∈ q :: b := by
      have : p ∈ ofKey p.key (p :: a) := mem_ofKey.mpr (by simp)
      rw [hk] at this
      exact mem_ofKey.mp this
    have hqa : q ∈ p :: a := by
      have : q ∈ ofKey q.key (q :: b) := mem_ofKey.mpr (by simp)
      rw [← hk] at this
      exact mem_ofKey.mp this
    have e1 : lessB p.key q.key = false := by
      rcases List.mem_cons.mp hpb with e | h
      · rw [e]; exact bl_irr _
      · exact hb.1 p h
    have e2 : lessB q.key p.key = false := by
      rcases List.mem_cons.mp hqa with e | h
      · rw [e]; exact bl_irr _
      · exact ha.1 q h
    have ek := bl_tot _ _ e1 e2
    have hp := hk p.key
    unfold ofKey at hp
    rw [List.filter_cons_of_pos (by simp), List.filter_cons_of_pos (by simp [ek])] at hp
    obtain ⟨rfl, ht⟩ := List.cons.inj hp
    congr 1
    refine uniq_sort (fun κ => ?_) ha.2 hb.2
    have h2 := hk κ
    unfold ofKey at h2 ⊢
    by_cases e : (p.key == κ) = true
    · have : p.key = κ := by simpa using e
      subst this; exact ht
    · have e' : (p.key == κ) = false := by simpa using e
      simp only [List.filter_cons, e', Bool.false_eq_true, if_false] at h2
      exact h2
theorem IsSort.uniq {l a b : List Pr} (ha : IsSort l a) (hb : IsSort l b) : a = b :=
  uniq_sort (fun κ => (ha.keys κ).trans (hb.keys κ).symm) ha.ord hb.ord
def fnOf (l : List Pr) : Nat → Pr := fun i => l.getD i ⟨[], 0, 0, [], 0, 0⟩
theorem seg_fnOf (l : List Pr) : seg (fnOf l) 0 l.length = l := by
  apply List.ext_getElem?
  intro i
  unfold seg fnOf
  rw [List.getElem?_map]
  by_cases h : i < l.length
  · rw [List.getElem?_range h, List.getElem?_eq_getElem h]
    simp [List.getD, List.getElem?_eq_getElem h]
  · rw [List.getElem?_eq_none (by simpa using h), List.getElem?_eq_none (by omega)]
    rfl
theorem R_seg (n : Nat) (f : Nat → Pr) : R n f = (seg f 0 n).map encP := by
  unfold R seg
  rw [List.map_map]
  apply List.map_congr_left
  intro i _
  simp
theorem R_fnOf (l : List Pr) : R l.length (fnOf l) = l.map encP := by rw [R_seg, seg_fnOf]
theorem isSort_of {l : List Pr} {f : Nat → Pr} (hm : Mv 0 l.length (fnOf l) f) (hs : Srt f 0 l.length) : IsSort l (seg f 0 l.length) where
  keys κ := by
    have := hm.2 κ
    rw [Nat.sub_zero, seg_fnOf] at this
    exact this
  ord := by
    rw [List.pairwise_iff_getElem]
    intro i j hi hj hij
    unfold seg at *
    rw [List.length_map, List.length_range] at hi hj
    simp only [List.getElem_map, List.getElem_range, Nat.zero_add]
    exact hs i j (Nat.zero_le _) hij hj
  len := seg_len _ _ _
theorem freeze_rows' {H : AHeap} {d : Nat} (l : List Pr) : mapO (mapO (freeze1 H d)) (l.map encP) = some (l.map encP) := by
  induction l with
  | nil => rfl
  | cons p l ih =>
    rw [List.map_cons, mapO_cons, ih]
    have : mapO (freeze1 H d) (encP p) = some (encP p) := mapO_all (p := AV.flat1) (fun v hv => freeze1_flat hv) rfl
    rw [this]; rfl
theorem solid_rows (l : List Pr) : (l.map encP).all (fun e => e.all AV.solid1) = true := by
  induction l with
  | nil => rfl
  | cons p l ih => rw [List.map_cons, List.all_cons, ih]; rfl
section
variable {fn : FuncId} {T : Nat → AV} {ds : List ADef} {ro : Option Nat} {k : List AItem} {Q : AV → AHeap → Prop} {dst : Option Nat} {os : List AO} {h : Nat} {A : Nat → Blk}
theorem Clone_vec {l : List Pr} (hl : l.length ≤ 1000000) (h0 : l ≠ []) (hk : RunOps Cx fn (putA T dst (.slc (h + 1) 6 0 l.length)) ds ro os k ⟨h + 1 + 1, SB (upd A h .dead) (h + 1) l.length (fnOf l)⟩ Q) :
    RunCall Cx fn T ds ro 24 [.vec 6 (l.map encP)] dst os k ⟨h, A⟩ Q := by
  refine call_body pure24 (noext _) body24 ?_
  have e0 : (l.map encP = []) = False := eq_false (by simp [h0])
  have m1 : (l.map encP).length * 64 ≤ most := by unfold most; rw [List.length_map]; omega
  have m2 : (l.map encP).length ≤ most := by unfold most; rw [List.length_map]; omega
  simp only [e0, m1, m2, builtinM, appendA, source, isNilSl, runVH_some, r24_0, r24_1, res24, tt, bb, bc, ↓bd, Nat.reduceEqDiff, Nat.reduceAdd, Nat.reduceMul, Nat.reduceLeDiff, Nat.reduceLT, ↓reduceIte, reduceCtorEq, Nat.reduceBeqDiff, Nat.reduceBneDiff, Int.reduceBNe, Int.reduceBEq, Int.reduceEq, Int.reduceLT, Int.reduceLE, Int.reduceAdd, Int.reduceSub, Int.reduceMul, Int.reduceNeg, List.reduceReplicate, Int.reduceToNat]
  rw [List.length_map]
  unfold SB at hk
  rw [R_fnOf] at hk
  rw [upd2]
  exact hk
theorem Sort_body {l : List Pr} {Q : AV → AHeap → Prop} {A : Nat → Blk} {h : Nat} (hl : l.length ≤ 1000000) (h0 : l ≠ []) (hQ : ∀ m, IsSort l m → Q (.slc (h + 1) 6 0 m.length) ⟨h + 1 + 1, upd (upd A h .dead) (h + 1) (.cells 47 6 (m.map encP))⟩) (body : AC) (hb : bodyOf Cx 9 = some body) :
    Run Cx 9 (enterT [.vec 6 (l.map encP)]) [] none [.code body] ⟨h, A⟩ Q := by
  have e := body9
  rw [e] at hb
  cases hb
  simp only [r9_0, r9_1, res9, tt, bb, bc, ↓bd, Nat.reduceEqDiff, Nat.reduceAdd, Nat.reduceMul, Nat.reduceLeDiff, Nat.reduceLT, ↓reduceIte, reduceCtorEq, Nat.reduceBeqDiff, Nat.reduceBneDiff, Int.reduceBNe, Int.reduceBEq, Int.reduceEq, Int.reduceLT, Int.reduceLE, Int.reduceAdd, Int.reduceSub, Int.reduceMul, Int.reduceNeg, List.reduceReplicate, Int.reduceToNat]
  refine Clone_vec hl h0 ?_
  simp only [r9_0, r9_1, res9, tt, bb, bc, ↓bd, Nat.reduceEqDiff, Nat.reduceAdd, Nat.reduceMul, Nat.reduceLeDiff, Nat.reduceLT, ↓reduceIte, reduceCtorEq, Nat.reduceBeqDiff, Nat.reduceBneDiff, Int.reduceBNe, Int.reduceBEq, Int.reduceEq, Int.reduceLT, Int.reduceLE, Int.reduceAdd, Int.reduceSub, Int.reduceMul, Int.reduceNeg, List.reduceReplicate, Int.reduceToNat]
  refine SortStable_call (A := upd A h .dead) (g := h + 1) (f := fnOf l) hl ?_
  intro f hm hs
  have hi := isSort_of hm hs
  have hq := hQ _ hi
  rw [hi.len, ← R_seg] at hq
  simp only [r9_0, r9_1, res9, tt, bb, bc, ↓bd, Nat.reduceEqDiff, Nat.reduceAdd, Nat.reduceMul, Nat.reduceLeDiff, Nat.reduceLT, ↓reduceIte, reduceCtorEq, Nat.reduceBeqDiff, Nat.reduceBneDiff, Int.reduceBNe, Int.reduceBEq, Int.reduceEq, Int.reduceLT, Int.reduceLE, Int.reduceAdd, Int.reduceSub, Int.reduceMul, Int.reduceNeg, List.reduceReplicate, Int.reduceToNat]
  exact hq
end
theorem freeze_slc_rows {A : Nat → Blk} {h g : Nat} {m : List Pr} : BX.freeze ⟨h, upd A g (.cells 47 6 (m.map encP))⟩ (.slc g 6 0 m.length) = some (.vec 6 (m.map encP)) ∧ madeT ⟨h, upd A g (.cells 47 6 (m.map encP))⟩ (.slc g 6 0 m.length) = some (.vec 6 (m.map encP)) := by
  have f8 : (m.map encP).take m.length = m.map encP := List.take_of_length_le (by rw [List.length_map]; omega)
  have he : elems ⟨h, upd A g (.cells 47 6 (m.map encP))⟩ 6 (.slc g 6 0 m.length) = some (m.map encP) := by
    unfold elems
    simp only [upd_app, ↓reduceIte]
    rw [if_pos ⟨trivial, trivial, by rw [List.length_map]; omega⟩, List.drop_zero, f8]
  constructor
  · rw [freeze_slc, he, frzE_some, freeze_rows']
    rfl
  · show made1 _ _ = _
    unfold made1
    rw [if_neg (by simp [AV.solid2, AV.solid1])]
    simp only [he]
    rw [if_pos (solid_rows m)]
theorem pmade_of {n : Nat} {f : FuncId} {args : List AV} {r : AV} (h : (match (clOf Cx n).call f args AHeap.empty with | some (r0, H') => (match BX.freeze H' r0 with | some r1 => if r1.solid then some r1 else madeT H' r0 | none => none) | none => none) = some r) : PMade Cx f args r := by
  split at h
  · rename_i r0 H' hc
    split at h
    · rename_i r1 hf
      exact ⟨n, r0, H', r1, hc, hf, h⟩
    · cases h
  · cases h
theorem Sort_ok {v : AV} {l : List Pr} (hv : InE v l) (hl : l.length ≤ 1000000) : ∃ m w, IsSort l m ∧ InE w m ∧ PCall Cx 9 [v] w ∧ PMade Cx 9 [v] w := by
  have nil_ok : IsSort [] [] := ⟨fun _ => rfl, List.Pairwise.nil, rfl⟩
  by_cases h0 : l = []
  · subst h0
    rcases hv with ⟨rfl, _⟩ | ⟨rfl, _⟩ | rfl
    · exact ⟨[], .nilS, nil_ok, .inl ⟨rfl, rfl⟩, ⟨60, by kernel_rfl⟩, ⟨60, .nilS, AHeap.empty, .nilS, by kernel_rfl, rfl, rfl⟩⟩
    · refine ⟨[], .vec 6 [], nil_ok, .inr (.inr rfl), ⟨60, by kernel_rfl⟩, ?_⟩
      exact pmade_of (n := 60) (by kernel_rfl)
    · refine ⟨[], .vec 6 [], nil_ok, .inr (.inr rfl), ⟨60, by kernel_rfl⟩, ?_⟩
      exact pmade_of (n := 60) (by kernel_rfl)
  · have hv' : v = .vec 6 (l.map encP) := by
      rcases hv with ⟨_, h⟩ | ⟨_, h⟩ | h
      · exact absurd h h0
      · exact absurd h h0
      · exact h
    subst hv'
    have hx : ∃ n m g H, IsSort l m ∧ (clOf Cx n).call 9 [.vec 6 (l.map encP)] AHeap.empty = some (.slc g 6 0 m.length, H) ∧ BX.freeze H (.slc g 6 0 m.length) = some (.vec 6 (m.map encP)) ∧ madeT H (.slc g 6 0 m.length) = some (.vec 6 (m.map encP)) := by
      have hr := Sort_body (A := AHeap.empty.at_) (h := AHeap.empty.next) (Q := fun r0 H => ∃ m g, IsSort l m ∧ r0 = .slc g 6 0 m.length ∧ BX.freeze H (.slc g 6 0 m.length) = some (.vec 6 (m.map encP)) ∧ madeT H (.slc g 6 0 m.length) = some (.vec 6 (m.map encP))) hl h0 (fun m hm => ⟨m, _, hm, rfl, freeze_slc_rows.1, freeze_slc_rows.2⟩) _ body9
      obtain ⟨n, r0, H, he, m, g, hm, rfl, h1, h2⟩ := hr
      have hb := body9
      unfold bodyOf at hb
      simp only [Option.map_eq_some_iff] at hb
      obtain ⟨fi, hfi, hfb⟩ := hb
      refine ⟨n, m, g, H, hm, ?_, h1, h2⟩
      show (clMk Cx (exec Cx n)).call _ _ AHeap.empty = _
      simp only [clMk, noext 9, hfi]
      rw [hfb]
      exact he
    obtain ⟨n, m, g, H, hm, hc, h1, h2⟩ := hx
    refine ⟨m, .vec 6 (m.map encP), hm, .inr (.inr rfl), ⟨n, ?_⟩, ⟨n, _, H, _, hc, h1, ?_⟩⟩
    · unfold pcall
      rw [hc]
      exact h1
    · rw [if_neg (by simp [AV.solid, AV.solid2, AV.solid1]), h2]
end Go.Proofs.Ytjnopnlgcmlkfaa.G

namespace Go.Proofs.Ytjnopnlgcmlkfaa.G
open Go.BX
set_option linter.unusedSimpArgs false
set_option linter.unusedVariables false
theorem SamePairs_e {v w : AV} {l : List Pr} (hv : InE v l) (hw : InE w l) (hl : l.length ≤ 100000) : PCall Cx 11 [v, w] (.bool true) := by
  by_cases he : l = []
  · refine pcall_run (noext _) body11 ?_
    subst he
    rcases hv with ⟨rfl, _⟩ | ⟨rfl, _⟩ | rfl <;> rcases hw with ⟨rfl, _⟩ | ⟨rfl, _⟩ | rfl <;>
    simp only [List.map_nil, xx, run_inLoop, r11_0, r11_1, r11_2, r11_3, r11_4, res11, tt, bb, bc, ↓bd, Nat.reduceEqDiff, Nat.reduceAdd, Nat.reduceMul, Nat.reduceLeDiff, Nat.reduceLT, ↓reduceIte, reduceCtorEq, Nat.reduceBeqDiff, Nat.reduceBneDiff, Int.reduceBNe, Int.reduceBEq, Int.reduceEq, Int.reduceLT, Int.reduceLE, Int.reduceAdd, Int.reduceSub, Int.reduceMul, Int.reduceNeg, List.reduceReplicate, Int.reduceToNat]
  · have hv' : v = .vec 6 (l.map encP) := by
      rcases hv with ⟨_, h⟩ | ⟨_, h⟩ | h
      · exact absurd h he
      · exact absurd h he
      · exact h
    have hw' : w = .vec 6 (l.map encP) := by
      rcases hw with ⟨_, h⟩ | ⟨_, h⟩ | h
      · exact absurd h he
      · exact absurd h he
      · exact h
    exact SamePairs_ok (.inr hv') (.inr hw') hl
theorem InE.vec {v : AV} {l : List Pr} (h : InE v l) (h0 : l ≠ []) : v = .vec 6 (l.map encP) := by
  rcases h with ⟨_, h⟩ | ⟨_, h⟩ | h
  · exact absurd h h0
  · exact absurd h h0
  · exact h
def eqP (p a : Pr) : Bool := a.key == p.key && (a.k == p.k && (a.n == p.n && (a.s == p.s && (a.x == p.x && a.y == p.y))))
def cnt (p : Pr) (l : List Pr) : Nat := (l.filter (eqP p)).length
end Go.Proofs.Ytjnopnlgcmlkfaa.G
namespace Go.Proofs.Ytjnopnlgcmlkfaa.G
open Go.BX
set_option linter.unusedSimpArgs false
set_option linter.unusedVariables false
theorem InE.len {v : AV} {l : List Pr} (h : InE v l) : lenOf v = some l.length := by
  rcases h with ⟨rfl, rfl⟩ | ⟨rfl, rfl⟩ | rfl
  · rfl
  · rfl
  · show some _ = _
    rw [List.length_map]
end Go.Proofs.Ytjnopnlgcmlkfaa.G
namespace Go.Proofs.Ytjnopnlgcmlkfaa.G
open Go.BX
set_option linter.unusedSimpArgs false
set_option linter.unusedVariables false
theorem pcall_ex {f : FuncId} {args : List AV} {body : AC} {P : AV → Prop} (hx : Cx.ext f = none) (hb : bodyOf Cx f = some body) (h : Run Cx f (enterT args) [] none [.code body] AHeap.empty (fun r0 H' => ∃ r, P r ∧ BX.freeze H' r0 = some r)) : ∃ r, P r ∧ PCall Cx f args r := by
  obtain ⟨n, r0, H', he, r, hP, hf⟩ := h
  exact ⟨r, hP, pcall_run hx hb ⟨n, r0, H', he, hf⟩⟩
theorem fnOf_get {l : List Pr} {i : Nat} (h : i < l.length) : fnOf l i = l[i] := by
  unfold fnOf
  simp [List.getD, List.getElem?_eq_getElem h]
theorem pair_srt {l : List Pr} : (l.Pairwise fun p q => ltP q p = false) ↔ Srt (fnOf l) 0 l.length := by
  rw [List.pairwise_iff_getElem]
  constructor
  · intro h i j _ hij hj
    rw [fnOf_get hj, fnOf_get (by omega)]
    exact h i j (by omega) hj hij
  · intro h i j hi hj hij
    have := h i j (Nat.zero_le _) hij hj
    rw [fnOf_get hj, fnOf_get hi] at this
    exact this
theorem srt_adj {f : Nat → Pr} {n : Nat} (h : ∀ k, 0 < k → k < n → ltP (f k) (f (k - 1)) = false) : Srt f 0 n := by
  intro i j _ hij hj
  induction j with
  | zero => omega
  | succ j ih =>
    by_cases e : i = j
    · subst e; exact h (i + 1) (by omega) hj
    · exact bl_le (ih (by omega) (by omega)) (h (j + 1) (by omega) hj)
theorem is_all {l : List Pr} {Q : AV → AHeap → Prop} {H : AHeap} {n : Nat} (hn : n = l.length) (hl : n ≤ 1000000) (hQ : ∀ b, (b = true ↔ Srt (fnOf l) 0 n) → Q (.bool b) H) :
    ∀ (i : Nat) (T : Nat → AV), i < n → T 0 = .vec 6 (l.map encP) → T 1 = .fn 26 [] [] → T 5 = .int .i64 (i : Int) → (∀ k, i < k → k < n → ltP (fnOf l k) (fnOf l (k - 1)) = false) →
      Run Cx 34 T [] none [.inLoop c34_7, .inBlock 0, .code c34_23] H Q := by
  intro i
  induction i with
  | zero =>
    intro T hi t0 t1 t5 hs
    replace t5 : T 5 = .int .i64 0 := t5
    rw [run_inLoop]
    simp only [t0, t1, t5, xx, r34_0, r34_1, r34_2, r34_3, res34, tt, bb, bc, ↓bd, Nat.reduceEqDiff, Nat.reduceAdd, Nat.reduceMul, Nat.reduceLeDiff, Nat.reduceLT, ↓reduceIte, reduceCtorEq, Nat.reduceBeqDiff, Nat.reduceBneDiff, Int.reduceBNe, Int.reduceBEq, Int.reduceEq, Int.reduceLT, Int.reduceLE, Int.reduceAdd, Int.reduceSub, Int.reduceMul, Int.reduceNeg, List.reduceReplicate, Int.reduceToNat]
    exact hQ true ⟨fun _ => srt_adj (fun k a b => hs k a b), fun _ => rfl⟩
  | succ i ih =>
    intro T hi t0 t1 t5 hs
    rw [run_inLoop]
    have h0 : (0 : Int) < ((i + 1 : Nat) : Int) := by omega
    have w1 : IntKind.i64.wrap (((i + 1 : Nat) : Int) - 1) = (i : Int) := by rw [wr64 (by omega) (by omega)]; omega
    have l1 : ((i + 1 : Nat) : Int) < ((l.map encP).length : Int) := by rw [List.length_map]; omega
    have l2 : (i : Int) < ((l.map encP).length : Int) := by rw [List.length_map]; omega
    have p1 : (0 : Int) ≤ ((i + 1 : Nat) : Int) := by omega
    have p2 : (0 : Int) ≤ (i : Int) := by omega
    have g1 := enc_get (List.getElem?_eq_getElem (show i + 1 < l.length by omega))
    have g2 := enc_get (List.getElem?_eq_getElem (show i < l.length by omega))
    have hc := byKey_ok l[i + 1] l[i]
    have hlt := cmpK_lt l[i + 1] l[i]
    have e1 := fnOf_get (show i + 1 < l.length by omega)
    have e2 := fnOf_get (show i < l.length by omega)
    by_cases hl' : ltP l[i + 1] l[i] = true
    · have hlt' : (cmpK l[i + 1] l[i] < 0) = True := by rw [hlt]; exact eq_true hl'
      simp only [t0, t1, t5, h0, w1, l1, l2, p1, p2, g1, g2, hlt', call_pure pure26 rfl hc, Int.toNat_natCast, xx, r34_0, r34_1, r34_2, r34_3, res34, tt, bb, bc, ↓bd, Nat.reduceEqDiff, Nat.reduceAdd, Nat.reduceMul, Nat.reduceLeDiff, Nat.reduceLT, ↓reduceIte, reduceCtorEq, Nat.reduceBeqDiff, Nat.reduceBneDiff, Int.reduceBNe, Int.reduceBEq, Int.reduceEq, Int.reduceLT, Int.reduceLE, Int.reduceAdd, Int.reduceSub, Int.reduceMul, Int.reduceNeg, List.reduceReplicate, Int.reduceToNat]
      refine hQ false ⟨fun h => (by cases h), fun h => ?_⟩
      have := h i (i + 1) (by omega) (by omega) hi
      rw [e1, e2, hl'] at this
      cases this
    · have hlt' : (cmpK l[i + 1] l[i] < 0) = False := by rw [hlt]; exact eq_false hl'
      simp only [t0, t1, t5, h0, w1, l1, l2, p1, p2, g1, g2, hlt', call_pure pure26 rfl hc, Int.toNat_natCast, xx, r34_0, r34_1, r34_2.1, r34_2.2.1, r34_2.2.2.1, r34_2.2.2.2.1, r34_2.2.2.2.2.1, r34_2.2.2.2.2.2.1, r34_2.2.2.2.2.2.2.1, r34_3, res34, tt, bb, bc, ↓bd, Nat.reduceEqDiff, Nat.reduceAdd, Nat.reduceMul, Nat.reduceLeDiff, Nat.reduceLT, ↓reduceIte, reduceCtorEq, Nat.reduceBeqDiff, Nat.reduceBneDiff, Int.reduceBNe, Int.reduceBEq, Int.reduceEq, Int.reduceLT, Int.reduceLE, Int.reduceAdd, Int.reduceSub, Int.reduceMul, Int.reduceNeg, List.reduceReplicate, Int.reduceToNat]
      refine ih _ (by omega) ?_ ?_ ?_ ?_
      all_goals first | (simp only [upd_app, t0, t1, t5, Nat.reduceEqDiff, ↓reduceIte]; done) | skip
      intro k a b
      by_cases e : k = i + 1
      · subst e
        rw [show i + 1 - 1 = i by omega, e1, e2]
        simpa using hl'
      · exact hs k (by omega) b
theorem Ordered_ok {v : AV} {l : List Pr} (hv : InE v l) (hl : l.length ≤ 1000000) : ∃ b, PCall Cx 21 [v] (.bool b) ∧ (b = true ↔ l.Pairwise fun p q => ltP q p = false) := by
  by_cases h0 : l = []
  · subst h0
    refine ⟨true, ?_, by simp⟩
    rcases hv with ⟨rfl, _⟩ | ⟨rfl, _⟩ | rfl
    · exact ⟨60, by kernel_rfl⟩
    · exact ⟨60, by kernel_rfl⟩
    · exact ⟨60, by kernel_rfl⟩
  · obtain rfl := hv.vec h0
    have hpos : 0 < l.length := List.length_pos_iff.mpr h0
    have hx : ∃ r, (∃ b, r = AV.bool b ∧ (b = true ↔ Srt (fnOf l) 0 l.length)) ∧ PCall Cx 21 [.vec 6 (l.map encP)] r := by
      refine pcall_ex (noext _) body21 ?_
      simp only [r21_0, res21, tt, bb, bc, ↓bd, Nat.reduceEqDiff, Nat.reduceAdd, Nat.reduceMul, Nat.reduceLeDiff, Nat.reduceLT, ↓reduceIte, reduceCtorEq, Nat.reduceBeqDiff, Nat.reduceBneDiff, Int.reduceBNe, Int.reduceBEq, Int.reduceEq, Int.reduceLT, Int.reduceLE, Int.reduceAdd, Int.reduceSub, Int.reduceMul, Int.reduceNeg, List.reduceReplicate, Int.reduceToNat]
      refine call_body pure34 (noext _) body34 ?_
      have w1 : IntKind.i64.wrap (((l.map encP).length : Int) - 1) = ((l.length - 1 : Nat) : Int) := by rw [List.length_map, wr64 (by omega) (by omega)]; omega
      simp only [w1, r34_0.1, r34_0.2.1, r34_0.2.2.1, r34_0.2.2.2.1, r34_0.2.2.2.2.1, r34_0.2.2.2.2.2.1, r34_0.2.2.2.2.2.2.1, r34_1, r34_2.1, r34_2.2.1, r34_2.2.2.1, r34_2.2.2.2.1, r34_2.2.2.2.2.1, r34_2.2.2.2.2.2.1, r34_2.2.2.2.2.2.2.1, r34_3, res34, tt, bb, bc, ↓bd, Nat.reduceEqDiff, Nat.reduceAdd, Nat.reduceMul, Nat.reduceLeDiff, Nat.reduceLT, ↓reduceIte, reduceCtorEq, Nat.reduceBeqDiff, Nat.reduceBneDiff, Int.reduceBNe, Int.reduceBEq, Int.reduceEq, Int.reduceLT, Int.reduceLE, Int.reduceAdd, Int.reduceSub, Int.reduceMul, Int.reduceNeg, List.reduceReplicate, Int.reduceToNat]
      refine is_all (l := l) rfl hl ?_ (l.length - 1) _ (by omega) ?_ ?_ ?_ (fun k a b => absurd a (by omega))
      · intro b hb
        simp only [r21_0, res21, tt, bb, bc, ↓bd, Nat.reduceEqDiff, Nat.reduceAdd, Nat.reduceMul, Nat.reduceLeDiff, Nat.reduceLT, ↓reduceIte, reduceCtorEq, Nat.reduceBeqDiff, Nat.reduceBneDiff, Int.reduceBNe, Int.reduceBEq, Int.reduceEq, Int.reduceLT, Int.reduceLE, Int.reduceAdd, Int.reduceSub, Int.reduceMul, Int.reduceNeg, List.reduceReplicate, Int.reduceToNat]
        exact ⟨_, ⟨b, rfl, hb⟩, rfl⟩
      all_goals simp only [upd_app, enterT, List.getElem?_cons_zero, List.getElem?_cons_succ, Option.getD_some, Nat.reduceEqDiff, ↓reduceIte]
      all_goals rfl
    obtain ⟨r, ⟨b, rfl, hb⟩, hp⟩ := hx
    exact ⟨b, hp, hb.trans pair_srt.symm⟩
end Go.Proofs.Ytjnopnlgcmlkfaa.G

namespace Go.Proofs.Ytjnopnlgcmlkfaa.G
open Go.BX
set_option linter.unusedSimpArgs false
set_option linter.unusedVariables false
def Buf (h0 : Nat) (d : AV) (H : AHeap) (acc : List Pr) : Prop :=
  (d = .nilS ∧ acc = []) ∨ ∃ g es, d = .slc g 6 0 acc.length ∧ h0 ≤ g ∧ g < H.next ∧ H.at_ g = .cells 47 6 es ∧ es.take acc.length = acc.map encP ∧ acc.length ≤ es.length
theorem InE.source {v : AV} {l : List Pr} (h : InE v l) (H : AHeap) : source H 6 v = some (l.map encP) := by
  rcases h with ⟨rfl, rfl⟩ | ⟨rfl, rfl⟩ | rfl <;> rfl
theorem InE.plain {v : AV} {l : List Pr} (h : InE v l) : v.plain = true := by
  rcases h with ⟨rfl, rfl⟩ | ⟨rfl, rfl⟩ | rfl <;> rfl
theorem InE.cells {v : AV} {l : List Pr} (h : InE v l) : v.cells = [v] := by
  rcases h with ⟨rfl, rfl⟩ | ⟨rfl, rfl⟩ | rfl <;> rfl
theorem InE.freeze1 {v : AV} {l : List Pr} (h : InE v l) {H : AHeap} {d : Nat} : BX.freeze1 H d v = some v := by
  refine freeze1_flat ?_
  rcases h with ⟨rfl, rfl⟩ | ⟨rfl, rfl⟩ | rfl <;> rfl
theorem InE.freeze {v : AV} {l : List Pr} (h : InE v l) {H : AHeap} : BX.freeze H v = some v := freeze_flat h.flat
theorem Buf.lenOf {h0 : Nat} {d : AV} {H : AHeap} {acc : List Pr} (h : Buf h0 d H acc) : BX.lenOf d = some acc.length := by
  rcases h with ⟨rfl, rfl⟩ | ⟨g, es, rfl, _⟩ <;> rfl
theorem Buf.keep {h0 : Nat} {d : AV} {H H' : AHeap} {acc : List Pr} (h : Buf h0 d H acc) (hn : H.next ≤ H'.next) (hk : ∀ b, b < H.next → H'.at_ b = H.at_ b) : Buf h0 d H' acc := by
  rcases h with h | ⟨g, es, h1, h2, h3, h4, h5, h6⟩
  · exact .inl h
  · exact .inr ⟨g, es, h1, h2, by omega, by rw [hk g h3]; exact h4, h5, h6⟩
theorem Buf.freeze {h0 : Nat} {d : AV} {H : AHeap} {acc : List Pr} (h : Buf h0 d H acc) : ∃ w, InE w acc ∧ BX.freeze H d = some w ∧ (d.flat = true → w = d) := by
  rcases h with ⟨rfl, rfl⟩ | ⟨g, es, rfl, h2, h3, h4, h5, h6⟩
  · exact ⟨.nilS, .inl ⟨rfl, rfl⟩, rfl, fun _ => rfl⟩
  · refine ⟨.vec 6 (acc.map encP), .inr (.inr rfl), ?_, fun h => by cases h⟩
    have he : elems H 6 (.slc g 6 0 acc.length) = some (acc.map encP) := by
      unfold elems
      simp only [h4]
      rw [if_pos ⟨trivial, trivial, by omega⟩, List.drop_zero, h5]
    rw [freeze_slc, he, frzE_some, freeze_rows']
    rfl
section
variable {fn : FuncId} {T : Nat → AV} {ds : List ADef} {ro : Option Nat} {k : List AItem} {Q : AV → AHeap → Prop} {dst : Option Nat} {os : List AO} {H : AHeap}
end
end Go.Proofs.Ytjnopnlgcmlkfaa.G

namespace Go.Proofs.Ytjnopnlgcmlkfaa.G
open Go.BX
set_option linter.unusedSimpArgs false
set_option linter.unusedVariables false
def Own (h0 : Nat) (d : AV) (H : AHeap) (acc : List Pr) : Prop :=
  (d = .nilS ∧ acc = []) ∨ ∃ g, d = .slc g 6 0 acc.length ∧ h0 ≤ g ∧ g < H.next ∧ H.at_ g = .cells 47 6 (acc.map encP)
theorem Own.buf {h0 : Nat} {d : AV} {H : AHeap} {acc : List Pr} (h : Own h0 d H acc) : Buf h0 d H acc := by
  rcases h with h | ⟨g, h1, h2, h3, h4⟩
  · exact .inl h
  · exact .inr ⟨g, _, h1, h2, h3, h4, List.take_of_length_le (by simp), by simp⟩
theorem Own.nil {h0 : Nat} {H : AHeap} : Own h0 .nilS H [] := .inl ⟨rfl, rfl⟩
theorem rows_set {l : List Pr} {i : Nat} (p : Pr) : (l.map encP).set i [.str p.key, .int .i64 p.k, .int .i64 p.n, .str p.s, .int .i64 p.x, .int .i64 p.y] = (l.set i p).map encP := by
  rw [List.map_set]; rfl
theorem Own.app1 {h0 : Nat} {d : AV} {H : AHeap} {acc : List Pr} (hd : Own h0 d H acc) (hh : h0 ≤ H.next) (p : Pr) (hl : acc.length + 1 ≤ 1000000) :
    ∃ g H', builtinM Cx (H.push (.cells 47 6 [[.str p.key, .int .i64 p.k, .int .i64 p.n, .str p.s, .int .i64 p.x, .int .i64 p.y]])) .append [22, 22] [d, .slc H.next 6 0 1] = some (.slc g 6 0 (acc.length + 1), H') ∧ h0 ≤ g ∧ g < H'.next ∧ H'.at_ g = .cells 47 6 ((acc ++ [p]).map encP) ∧ H.next ≤ H'.next ∧ ∀ b, b < h0 → H'.at_ b = H.at_ b := by
  have hs : source (H.push (.cells 47 6 [[.str p.key, .int .i64 p.k, .int .i64 p.n, .str p.s, .int .i64 p.x, .int .i64 p.y]])) 6 (.slc H.next 6 0 1) = some [[.str p.key, .int .i64 p.k, .int .i64 p.n, .str p.s, .int .i64 p.x, .int .i64 p.y]] := by
    simp [source, elems, AHeap.push, upd_app]
  simp only [AHeap.push] at hs
  rcases hd with ⟨rfl, rfl⟩ | ⟨g, rfl, h1, h2, h3⟩
  · refine ⟨H.next + 1, (H.push (.cells 47 6 [encP p])).push (.cells 47 6 [encP p]), ?_, by omega, Nat.lt_succ_self _, by simp [AHeap.push, upd_app], ?_, fun b hb => ?_⟩
    · have m1 : 1 * 64 ≤ most := by unfold most; omega
      have m2 : 1 ≤ most := by unfold most; omega
      simp only [builtinM, appendA, hs, m1, m2, List.length_singleton, tt, bb, bc, ↓bd, Nat.reduceEqDiff, Nat.reduceAdd, Nat.reduceMul, Nat.reduceLeDiff, Nat.reduceLT, ↓reduceIte, reduceCtorEq, Nat.reduceBeqDiff, Nat.reduceBneDiff, Int.reduceBNe, Int.reduceBEq, Int.reduceEq, Int.reduceLT, Int.reduceLE, Int.reduceAdd, Int.reduceSub, Int.reduceMul, Int.reduceNeg, List.reduceReplicate, Int.reduceToNat]
      rfl
    · show H.next ≤ H.next + 1 + 1
      omega
    · show upd (upd H.at_ H.next _) (H.next + 1) _ b = _
      rw [upd_app, if_neg (by omega), upd_app, if_neg (by omega)]
  · have m1 : (acc.length + 1) * 64 ≤ most := by unfold most; omega
    have m2 : acc.length + 1 ≤ most := by unfold most; omega
    have hg : (upd H.at_ H.next (Blk.cells 47 6 [[.str p.key, .int .i64 p.k, .int .i64 p.n, .str p.s, .int .i64 p.x, .int .i64 p.y]])) g = .cells 47 6 (acc.map encP) := by
      rw [upd_app, if_neg (by omega)]; exact h3
    have ht : (acc.map encP).take acc.length = acc.map encP := List.take_of_length_le (by simp)
    refine ⟨H.next + 1, ((H.push (.cells 47 6 [encP p])).set g .dead).push (.cells 47 6 (acc.map encP ++ [encP p])), ?_, by omega, Nat.lt_succ_self _, ?_, ?_, fun b hb => ?_⟩
    rotate_left
    · simp [AHeap.push, AHeap.set, upd_app]
    · show H.next ≤ H.next + 1 + 1
      omega
    · show upd (upd (upd H.at_ H.next _) g .dead) (H.next + 1) _ b = _
      rw [upd_app, if_neg (by omega), upd_app, if_neg (by omega), upd_app, if_neg (by omega)]
    · simp only [builtinM, appendA, hs, m1, m2, hg, ht, List.length_map, List.length_singleton, tt, bb, bc, ↓bd, Nat.reduceEqDiff, Nat.reduceAdd, Nat.reduceMul, Nat.reduceLeDiff, Nat.reduceLT, ↓reduceIte, reduceCtorEq, Nat.reduceBeqDiff, Nat.reduceBneDiff, Int.reduceBNe, Int.reduceBEq, Int.reduceEq, Int.reduceLT, Int.reduceLE, Int.reduceAdd, Int.reduceSub, Int.reduceMul, Int.reduceNeg, List.reduceReplicate, Int.reduceToNat]
      rfl
def Spot (out : List Pr) (p : Pr) (k : Nat) : Prop := ∀ i, k ≤ i → ∀ h : i < out.length, lessB p.key (out[i]).key = true
theorem isSort_ins {l out : List Pr} {p : Pr} {k : Nat} (h : IsSort l out) (hk : k ≤ out.length) (hs : Spot out p k) (hb : k = 0 ∨ ∃ h : k - 1 < out.length, lessB p.key (out[k - 1]).key = false) : IsSort (l ++ [p]) (out.take k ++ p :: out.drop k) where
  keys κ := by
    have h1 := h.keys κ
    rw [ofKey_app κ l [p], ← h1]
    have h2 : ofKey κ (out.take k ++ p :: out.drop k) = ofKey κ (out.take k) ++ (ofKey κ [p] ++ ofKey κ (out.drop k)) := by
      rw [show p :: out.drop k = [p] ++ out.drop k from rfl, ofKey_app, ofKey_app]
    have h3 : ofKey κ out = ofKey κ (out.take k) ++ ofKey κ (out.drop k) := by rw [← ofKey_app, List.take_append_drop]
    rw [h2, h3]
    by_cases e : p.key = κ
    · have : ofKey κ (out.drop k) = [] := by
        refine ofKey_none fun q hq e2 => ?_
        obtain ⟨i, hi, rfl⟩ := List.getElem_of_mem hq
        rw [List.length_drop] at hi
        have := hs (k + i) (by omega) (by omega)
        rw [List.getElem_drop] at e2
        rw [e2, e, bl_irr] at this
        cases this
      rw [this]; simp
    · have : ofKey κ [p] = [] := ofKey_none fun q hq e2 => by
        simp only [List.mem_singleton] at hq
        subst hq; exact e e2
      rw [this]; simp
  ord := by
    have ho := h.ord
    rw [← List.take_append_drop k out, List.pairwise_append] at ho
    obtain ⟨o1, o2, o3⟩ := ho
    have h4 : ∀ q, q ∈ out.drop k → ltP q p = false := fun q hq => by
      obtain ⟨i, hi, rfl⟩ := List.getElem_of_mem hq
      rw [List.length_drop] at hi
      have := hs (k + i) (by omega) (by omega)
      rw [List.getElem_drop]
      exact bl_asym this
    refine List.pairwise_append.mpr ⟨o1, List.pairwise_cons.mpr ⟨h4, o2⟩, fun a ha b hb' => ?_⟩
    rcases List.mem_cons.mp hb' with rfl | hb'
    · obtain ⟨i, hi, rfl⟩ := List.getElem_of_mem ha
      rw [List.length_take] at hi
      rw [List.getElem_take]
      rcases hb with rfl | ⟨hk1, hb⟩
      · omega
      · by_cases e : i = k - 1
        · subst e; exact hb
        · have := List.pairwise_iff_getElem.mp h.ord i (k - 1) (by omega) hk1 (by omega)
          exact bl_le this hb
    · exact o3 a ha b hb'
  len := by
    have := h.len
    simp only [List.length_append, List.length_cons, List.length_take, List.length_drop, List.length_nil]
    omega
section
variable {l : List Pr} {Q : AV → AHeap → Prop}
theorem rs2_all {i : Nat} (hl : l.length ≤ 100000) (hi : i < l.length) {out : List Pr} (ho : out.length = i) {d : AV} {H : AHeap} (hd : Own 0 d H out)
    (hK : ∀ (T : Nat → AV) (k : Nat), k ≤ out.length → Spot out l[i] k → (k = 0 ∨ ∃ h : k - 1 < out.length, lessB (l[i]).key (out[k - 1]).key = false) → T 0 = .vec 6 (l.map encP) → T 3 = d → T 4 = .int .i64 (i : Int) → T 5 = .int .i64 (k : Int) →
      Run Cx 12 T [] none [.code c12_30, .inBlock 1, .code c12_48, .inLoop c12_9, .inBlock 0, .code c12_49] H Q) :
    ∀ (k : Nat) (T : Nat → AV), k ≤ out.length → Spot out l[i] k → T 0 = .vec 6 (l.map encP) → T 3 = d → T 4 = .int .i64 (i : Int) → T 5 = .int .i64 (k : Int) →
      Run Cx 12 T [] none [.inLoop c12_22, .inBlock 2, .code c12_30, .inBlock 1, .code c12_48, .inLoop c12_9, .inBlock 0, .code c12_49] H Q := by
  intro k
  induction k with
  | zero =>
    intro T hk hs t0 t3 t4 t5
    replace t5 : T 5 = .int .i64 0 := t5
    rw [run_inLoop]
    simp only [t0, t3, t4, t5, xx, r12_0, r12_1, r12_2, r12_3.1, r12_3.2.1, r12_3.2.2.1, r12_3.2.2.2.1, r12_3.2.2.2.2.1, r12_3.2.2.2.2.2.1, r12_3.2.2.2.2.2.2.2, r12_4, r12_5, r12_6.2.2.1, r12_6.2.2.2, res12, tt, bb, bc, ↓bd, Nat.reduceEqDiff, Nat.reduceAdd, Nat.reduceMul, Nat.reduceLeDiff, Nat.reduceLT, ↓reduceIte, reduceCtorEq, Nat.reduceBeqDiff, Nat.reduceBneDiff, Int.reduceBNe, Int.reduceBEq, Int.reduceEq, Int.reduceLT, Int.reduceLE, Int.reduceAdd, Int.reduceSub, Int.reduceMul, Int.reduceNeg, List.reduceReplicate, Int.reduceToNat]
    refine hK _ 0 hk hs (.inl rfl) ?_ ?_ ?_ ?_
    all_goals first | (simp only [upd_app, t0, t3, t4, t5, Nat.reduceEqDiff, ↓reduceIte]; done) | (simp only [upd_app, t0, t3, t4, t5, Nat.reduceEqDiff, ↓reduceIte]; rfl) | rfl
  | succ k ih =>
    intro T hk hs t0 t3 t4 t5
    rw [run_inLoop]
    rcases hd with ⟨rfl, rfl⟩ | ⟨g, rfl, _, hg, hat⟩
    · simp at hk
    have c0 : (0 : Int) < ((k + 1 : Nat) : Int) := by omega
    have w1 : IntKind.i64.wrap (((k + 1 : Nat) : Int) - 1) = (k : Int) := by rw [wr64 (by omega) (by omega)]; omega
    have l1 : (k : Int) < (out.length : Int) := by omega
    have l2 : (i : Int) < ((l.map encP).length : Int) := by rw [List.length_map]; omega
    have p1 : (0 : Int) ≤ (k : Int) := by omega
    have p2 : (0 : Int) ≤ (i : Int) := by omega
    have g1 := enc_get (List.getElem?_eq_getElem (show k < out.length by omega))
    have g2 := enc_get (List.getElem?_eq_getElem hi)
    have hk' : k < out.length := by omega
    cases hle : lessB (l[i]).key (out[k]).key with
    | false =>
      have hx : (!(lessB (out[k]).key (l[i]).key || (out[k]).key == (l[i]).key)) = false := by
        cases h1 : lessB (out[k]).key (l[i]).key with
        | true => rfl
        | false => rw [bl_tot _ _ h1 hle]; simp
      simp only [t0, t3, t4, t5, c0, w1, l1, l2, p1, p2, g1, g2, hat, hx, Int.toNat_natCast, xx, r12_0, r12_1, r12_2, r12_3.1, r12_3.2.1, r12_3.2.2.1, r12_3.2.2.2.1, r12_3.2.2.2.2.1, r12_3.2.2.2.2.2.1, r12_3.2.2.2.2.2.2.2, r12_4, r12_5, r12_6.2.2.1, r12_6.2.2.2, res12, tt, bb, bc, ↓bd, Nat.reduceEqDiff, Nat.reduceAdd, Nat.reduceMul, Nat.reduceLeDiff, Nat.reduceLT, ↓reduceIte, reduceCtorEq, Nat.reduceBeqDiff, Nat.reduceBneDiff, Int.reduceBNe, Int.reduceBEq, Int.reduceEq, Int.reduceLT, Int.reduceLE, Int.reduceAdd, Int.reduceSub, Int.reduceMul, Int.reduceNeg, List.reduceReplicate, Int.reduceToNat]
      refine hK _ (k + 1) hk hs (.inr ⟨by omega, hle⟩) ?_ ?_ ?_ ?_
      all_goals first | (simp only [upd_app, t0, t3, t4, t5, Nat.reduceEqDiff, ↓reduceIte]; done) | (simp only [upd_app, t0, t3, t4, t5, Nat.reduceEqDiff, ↓reduceIte]; rfl) | rfl
    | true =>
      have hx : (!(lessB (out[k]).key (l[i]).key || (out[k]).key == (l[i]).key)) = true := by
        rw [bl_asym hle]
        have := bl_ne hle
        simp [Ne.symm this]
      simp only [t0, t3, t4, t5, c0, w1, l1, l2, p1, p2, g1, g2, hat, hx, Int.toNat_natCast, xx, r12_0, r12_1, r12_2, r12_3.1, r12_3.2.1, r12_3.2.2.1, r12_3.2.2.2.1, r12_3.2.2.2.2.1, r12_3.2.2.2.2.2.1, r12_3.2.2.2.2.2.2.2, r12_4, r12_5, r12_6.2.2.1, r12_6.2.2.2, res12, tt, bb, bc, ↓bd, Nat.reduceEqDiff, Nat.reduceAdd, Nat.reduceMul, Nat.reduceLeDiff, Nat.reduceLT, ↓reduceIte, reduceCtorEq, Nat.reduceBeqDiff, Nat.reduceBneDiff, Int.reduceBNe, Int.reduceBEq, Int.reduceEq, Int.reduceLT, Int.reduceLE, Int.reduceAdd, Int.reduceSub, Int.reduceMul, Int.reduceNeg, List.reduceReplicate, Int.reduceToNat]
      refine ih _ (by omega) ?_ ?_ ?_ ?_ ?_
      · intro j hj hjl
        by_cases e : j = k
        · subst e; exact hle
        · exact hs j (by omega) hjl
      all_goals first | (simp only [upd_app, t0, t3, t4, t5, Nat.reduceEqDiff, ↓reduceIte]; done) | (simp only [upd_app, t0, t3, t4, t5, Nat.reduceEqDiff, ↓reduceIte]; rfl) | rfl
theorem sh_get {out : List Pr} {j : Nat} {x : Pr} (hj : j + 1 ≤ out.length) : (out.take (j + 1) ++ x :: out.drop (j + 1))[j]? = some out[j] := by
  rw [List.getElem?_append_left (by rw [List.length_take]; omega), List.getElem?_take, if_pos (by omega), List.getElem?_eq_getElem (by omega)]
theorem sh_set {out : List Pr} {j : Nat} {x y : Pr} (hj : j ≤ out.length) : (out.take j ++ x :: out.drop j).set j y = out.take j ++ y :: out.drop j := by
  have hl : (out.take j).length = j := by rw [List.length_take]; omega
  rw [List.set_append, if_neg (by omega), hl, Nat.sub_self]
  rfl
theorem sh_step {out : List Pr} {j : Nat} (hj : j < out.length) : out.take (j + 1) ++ out[j] :: out.drop (j + 1) = out.take j ++ out[j] :: out.drop j := by
  rw [List.take_succ_eq_append_getElem hj, List.append_assoc]
  congr 1
  show out[j] :: out[j] :: out.drop (j + 1) = out[j] :: out.drop j
  rw [← List.drop_eq_getElem_cons hj]
theorem rs3_all {i : Nat} (hl : l.length ≤ 100000) (hi : i < l.length) {out : List Pr} (ho : out.length = i) {g k : Nat} {H : AHeap} (hk : k ≤ out.length)
    (hK : ∀ (T : Nat → AV) (x : Pr), T 0 = .vec 6 (l.map encP) → T 3 = .slc g 6 0 (out.length + 1) → T 4 = .int .i64 (i : Int) → T 5 = .int .i64 (k : Int) →
      Run Cx 12 T [] none [.code c12_47, .inBlock 1, .code c12_48, .inLoop c12_9, .inBlock 0, .code c12_49] (H.set g (.cells 47 6 ((out.take k ++ x :: out.drop k).map encP))) Q) :
    ∀ (m j : Nat) (T : Nat → AV) (x : Pr), j = k + m → j ≤ out.length → T 0 = .vec 6 (l.map encP) → T 3 = .slc g 6 0 (out.length + 1) → T 4 = .int .i64 (i : Int) → T 5 = .int .i64 (k : Int) → T 6 = .int .i64 (j : Int) →
      Run Cx 12 T [] none [.inLoop c12_37, .inBlock 4, .code c12_47, .inBlock 1, .code c12_48, .inLoop c12_9, .inBlock 0, .code c12_49] (H.set g (.cells 47 6 ((out.take j ++ x :: out.drop j).map encP))) Q := by
  intro m
  induction m with
  | zero =>
    intro j T x hj hjl t0 t3 t4 t5 t6
    obtain rfl : j = k := by omega
    rw [run_inLoop]
    have c0 : ¬ ((j : Int) < (j : Int)) := by omega
    simp only [t0, t3, t4, t5, t6, c0, xx, r12_0, r12_1, r12_2, r12_3, r12_4, r12_5.1, r12_5.2.1, r12_5.2.2.1, r12_5.2.2.2.1, r12_5.2.2.2.2.1, r12_5.2.2.2.2.2.1, r12_5.2.2.2.2.2.2.1, r12_6.2.2.1, r12_6.2.2.2, res12, tt, bb, bc, ↓bd, Nat.reduceEqDiff, Nat.reduceAdd, Nat.reduceMul, Nat.reduceLeDiff, Nat.reduceLT, ↓reduceIte, reduceCtorEq, Nat.reduceBeqDiff, Nat.reduceBneDiff, Int.reduceBNe, Int.reduceBEq, Int.reduceEq, Int.reduceLT, Int.reduceLE, Int.reduceAdd, Int.reduceSub, Int.reduceMul, Int.reduceNeg, List.reduceReplicate, Int.reduceToNat]
    refine hK _ x ?_ ?_ ?_ ?_
    all_goals first | (simp only [upd_app, t0, t3, t4, t5, Nat.reduceEqDiff, ↓reduceIte]; done) | (simp only [upd_app, t0, t3, t4, t5, Nat.reduceEqDiff, ↓reduceIte]; rfl) | rfl
  | succ m ih =>
    intro j T x hj hjl t0 t3 t4 t5 t6
    obtain ⟨j, rfl⟩ : ∃ j', j = j' + 1 := ⟨j - 1, by omega⟩
    rw [run_inLoop]
    have c0 : (k : Int) < ((j + 1 : Nat) : Int) := by omega
    have w1 : IntKind.i64.wrap (((j + 1 : Nat) : Int) - 1) = (j : Int) := by rw [wr64 (by omega) (by omega)]; omega
    have l1 : (j : Int) < ((out.length + 1 : Nat) : Int) := by omega
    have l2 : ((j + 1 : Nat) : Int) < ((out.length + 1 : Nat) : Int) := by omega
    have p1 : (0 : Int) ≤ (j : Int) := by omega
    have p2 : (0 : Int) ≤ ((j + 1 : Nat) : Int) := by omega
    have g1 := enc_get (sh_get (x := x) hjl)
    have g2 : ((out.take (j + 1) ++ x :: out.drop (j + 1)).map encP)[j + 1]? = some (encP x) := by
      rw [List.getElem?_map, List.getElem?_append_right (by rw [List.length_take]; omega), show j + 1 - (out.take (j + 1)).length = 0 by rw [List.length_take]; omega]
      rfl
    simp only [encP] at g2
    have e1 := sh_set (out := out) (j := j + 1) (x := x) (y := out[j]) hjl
    rw [sh_step (by omega)] at e1
    simp only [t0, t3, t4, t5, t6, c0, w1, l1, l2, p1, p2, g1, g2, Int.toNat_natCast, rows_set, e1, upd2, xx, r12_0, r12_1, r12_2, r12_3, r12_4, r12_5.1, r12_5.2.1, r12_5.2.2.1, r12_5.2.2.2.1, r12_5.2.2.2.2.1, r12_5.2.2.2.2.2.1, r12_5.2.2.2.2.2.2.1, r12_6.2.2.1, r12_6.2.2.2, res12, tt, bb, bc, ↓bd, Nat.reduceEqDiff, Nat.reduceAdd, Nat.reduceMul, Nat.reduceLeDiff, Nat.reduceLT, ↓reduceIte, reduceCtorEq, Nat.reduceBeqDiff, Nat.reduceBneDiff, Int.reduceBNe, Int.reduceBEq, Int.reduceEq, Int.reduceLT, Int.reduceLE, Int.reduceAdd, Int.reduceSub, Int.reduceMul, Int.reduceNeg, List.reduceReplicate, Int.reduceToNat]
    refine ih j _ out[j] (by omega) (by omega) ?_ ?_ ?_ ?_ ?_
    all_goals first | (simp only [upd_app, t0, t3, t4, t5, Nat.reduceEqDiff, ↓reduceIte]; done) | (simp only [upd_app, t0, t3, t4, t5, Nat.reduceEqDiff, ↓reduceIte]; rfl) | rfl
theorem rs1_all (hl : l.length ≤ 100000) (hQ : ∀ d H m, Own 0 d H m → IsSort l m → Q d H) :
    ∀ (j i : Nat) (T : Nat → AV) (H : AHeap) (d : AV) (out : List Pr), i + j = l.length → T 0 = .vec 6 (l.map encP) → T 3 = d → T 4 = .int .i64 (i : Int) → Own 0 d H out → IsSort (l.take i) out →
      Run Cx 12 T [] none [.inLoop c12_9, .inBlock 0, .code c12_49] H Q
  | 0, i, T, H, d, out, hij, t0, t3, t4, hd, hs => by
    rw [run_inLoop]
    rw [List.take_of_length_le (by omega)] at hs
    have c0 : ¬ (i : Int) < ((l.map encP).length : Int) := by rw [List.length_map]; omega
    simp only [t0, t3, t4, c0, xx, r12_0, r12_1, r12_2, r12_3, r12_4, r12_5, r12_6, res12, tt, bb, bc, ↓bd, Nat.reduceEqDiff, Nat.reduceAdd, Nat.reduceMul, Nat.reduceLeDiff, Nat.reduceLT, ↓reduceIte, reduceCtorEq, Nat.reduceBeqDiff, Nat.reduceBneDiff, Int.reduceBNe, Int.reduceBEq, Int.reduceEq, Int.reduceLT, Int.reduceLE, Int.reduceAdd, Int.reduceSub, Int.reduceMul, Int.reduceNeg, List.reduceReplicate, Int.reduceToNat]
    exact hQ d H out hd hs
  | j + 1, i, T, H, d, out, hij, t0, t3, t4, hd, hs => by
    rw [run_inLoop]
    have hi : i < l.length := by omega
    have ho : out.length = i := by rw [hs.len, List.length_take]; omega
    have c0 : (i : Int) < ((l.map encP).length : Int) := by rw [List.length_map]; omega
    have hlen := hd.buf.lenOf
    simp only [lenOf] at hlen
    simp only [t0, t3, t4, c0, hlen, i64, xx, r12_0, r12_1, r12_2.1, r12_2.2.1, r12_2.2.2.1, r12_2.2.2.2.1, r12_2.2.2.2.2.1, r12_2.2.2.2.2.2.1, r12_2.2.2.2.2.2.2.2, r12_3.1, r12_3.2.1, r12_3.2.2.1, r12_3.2.2.2.1, r12_3.2.2.2.2.1, r12_3.2.2.2.2.2.1, r12_3.2.2.2.2.2.2.2, r12_4, r12_5, r12_6.2.2.1, r12_6.2.2.2, res12, tt, bb, bc, ↓bd, Nat.reduceEqDiff, Nat.reduceAdd, Nat.reduceMul, Nat.reduceLeDiff, Nat.reduceLT, ↓reduceIte, reduceCtorEq, Nat.reduceBeqDiff, Nat.reduceBneDiff, Int.reduceBNe, Int.reduceBEq, Int.reduceEq, Int.reduceLT, Int.reduceLE, Int.reduceAdd, Int.reduceSub, Int.reduceMul, Int.reduceNeg, List.reduceReplicate, Int.reduceToNat]
    refine rs2_all hl hi ho hd ?_ out.length _ (Nat.le_refl _) (fun a b h => absurd h (by omega)) ?_ ?_ ?_ ?_
    rotate_left
    · simp only [upd_app, t0, t3, t4, Nat.reduceEqDiff, ↓reduceIte]
    · simp only [upd_app, t0, t3, t4, Nat.reduceEqDiff, ↓reduceIte]
    · simp only [upd_app, t0, t3, t4, Nat.reduceEqDiff, ↓reduceIte]
    · simp only [upd_app, t0, t3, t4, Nat.reduceEqDiff, ↓reduceIte]
    clear t0 t3 t4 T
    intro T k hk hsp hb t0 t3 t4 t5
    have p2 : (0 : Int) ≤ (i : Int) := by omega
    have g2 := enc_get (List.getElem?_eq_getElem hi)
    obtain ⟨g, H', ha, hg0, hg1, hat, hn, hkeep⟩ := hd.app1 (Nat.zero_le _) l[i] (by omega)
    simp only [AHeap.push] at ha
    have w1 : IntKind.i64.wrap (((out.length + 1 : Nat) : Int) - 1) = (out.length : Int) := by rw [wr64 (by omega) (by omega)]; omega
    simp only [t0, t3, t4, t5, c0, p2, g2, ha, w1, i64, runVH_some, Int.toNat_natCast, xx, r12_0, r12_1, r12_2, r12_3, r12_4.1, r12_4.2.1, r12_4.2.2.1, r12_4.2.2.2.1, r12_4.2.2.2.2.1, r12_4.2.2.2.2.2.2.1, r12_4.2.2.2.2.2.2.2, r12_5.1, r12_5.2.1, r12_5.2.2.1, r12_5.2.2.2.1, r12_5.2.2.2.2.1, r12_5.2.2.2.2.2.1, r12_5.2.2.2.2.2.2.1, r12_6.2.2.1, r12_6.2.2.2, res12, tt, bb, bc, ↓bd, Nat.reduceEqDiff, Nat.reduceAdd, Nat.reduceMul, Nat.reduceLeDiff, Nat.reduceLT, ↓reduceIte, reduceCtorEq, Nat.reduceBeqDiff, Nat.reduceBneDiff, Int.reduceBNe, Int.reduceBEq, Int.reduceEq, Int.reduceLT, Int.reduceLE, Int.reduceAdd, Int.reduceSub, Int.reduceMul, Int.reduceNeg, List.reduceReplicate, Int.reduceToNat]
    have hh : H' = H'.set g (.cells 47 6 ((out.take out.length ++ l[i] :: out.drop out.length).map encP)) := by
      unfold AHeap.set
      rw [List.take_length, List.drop_length, ← hat]
      have : upd H'.at_ g (H'.at_ g) = H'.at_ := by
        funext c
        rw [upd_app]
        split
        · rename_i e; rw [e]
        · rfl
      rw [this]
    rw [hh]
    refine rs3_all (H := H') hl hi ho hk ?_ (out.length - k) out.length _ l[i] (by omega) (Nat.le_refl _) ?_ ?_ ?_ ?_ ?_
    rotate_left
    · simp only [upd_app, t0, t3, t4, Nat.reduceEqDiff, ↓reduceIte]
    · simp only [upd_app, t0, t3, t4, Nat.reduceEqDiff, ↓reduceIte]
    · simp only [upd_app, t0, t3, t4, Nat.reduceEqDiff, ↓reduceIte]
    · simp only [upd_app, t0, t3, t4, t5, Nat.reduceEqDiff, ↓reduceIte]
    · simp only [upd_app, t0, t3, t4, t5, Nat.reduceEqDiff, ↓reduceIte]
    clear t0 t3 t4 t5 T
    intro T x t0 t3 t4 t5
    have l1 : (k : Int) < ((out.length + 1 : Nat) : Int) := by omega
    have p1 : (0 : Int) ≤ (k : Int) := by omega
    have w2 : IntKind.i64.wrap ((i : Int) + 1) = ((i + 1 : Nat) : Int) := by rw [wr64 (by omega) (by omega)]; omega
    have g3 : ((out.take k ++ x :: out.drop k).map encP)[k]? = some (encP x) := by
      rw [List.getElem?_map, List.getElem?_append_right (by rw [List.length_take]; omega), show k - (out.take k).length = 0 by rw [List.length_take]; omega]
      rfl
    simp only [encP] at g3
    have e1 := sh_set (out := out) (j := k) (x := x) (y := l[i]) hk
    simp only [t0, t3, t4, t5, c0, p1, p2, l1, g2, g3, w2, rows_set, e1, upd2, i64, runVH_some, Int.toNat_natCast, xx, r12_0, r12_1.1, r12_1.2.2.1, r12_1.2.2.2.1, r12_1.2.2.2.2.1, r12_1.2.2.2.2.2.1, r12_1.2.2.2.2.2.2.1, r12_1.2.2.2.2.2.2.2, r12_2, r12_3, r12_4, r12_5, r12_6.1, r12_6.2.2.1, r12_6.2.2.2, res12, tt, bb, bc, ↓bd, Nat.reduceEqDiff, Nat.reduceAdd, Nat.reduceMul, Nat.reduceLeDiff, Nat.reduceLT, ↓reduceIte, reduceCtorEq, Nat.reduceBeqDiff, Nat.reduceBneDiff, Int.reduceBNe, Int.reduceBEq, Int.reduceEq, Int.reduceLT, Int.reduceLE, Int.reduceAdd, Int.reduceSub, Int.reduceMul, Int.reduceNeg, List.reduceReplicate, Int.reduceToNat]
    have hs' : IsSort (l.take (i + 1)) (out.take k ++ l[i] :: out.drop k) := by
      rw [List.take_succ_eq_append_getElem hi]
      exact isSort_ins hs hk hsp hb
    have hlen' : (out.take k ++ l[i] :: out.drop k).length = out.length + 1 := by
      simp only [List.length_append, List.length_cons, List.length_take, List.length_drop]; omega
    refine rs1_all hl hQ j (i + 1) _ _ (.slc g 6 0 (out.length + 1)) _ (by omega) ?_ ?_ ?_ (.inr ⟨g, by rw [hlen'], hg0, hg1, by simp [upd_app]⟩) hs'
    all_goals first | (simp only [upd_app, t0, t3, t4, Nat.reduceEqDiff, ↓reduceIte]; done) | rfl
end
theorem RefSort_ok {v : AV} {l : List Pr} (hv : InE v l) (hl : l.length ≤ 100000) : ∃ m w, IsSort l m ∧ InE w m ∧ PCall Cx 12 [v] w := by
  by_cases h0 : l = []
  · subst h0
    refine ⟨[], .nilS, ⟨fun _ => rfl, List.Pairwise.nil, rfl⟩, .inl ⟨rfl, rfl⟩, ?_⟩
    rcases hv with ⟨rfl, _⟩ | ⟨rfl, _⟩ | rfl
    · exact ⟨60, by kernel_rfl⟩
    · exact ⟨60, by kernel_rfl⟩
    · exact ⟨60, by kernel_rfl⟩
  · obtain rfl := hv.vec h0
    have hx : ∃ r, (∃ m, IsSort l m ∧ InE r m) ∧ PCall Cx 12 [.vec 6 (l.map encP)] r := by
      refine pcall_ex (noext _) body12 ?_
      simp only [r12_0, r12_1.1, r12_1.2.2.1, r12_1.2.2.2.1, r12_1.2.2.2.2.1, r12_1.2.2.2.2.2.1, r12_1.2.2.2.2.2.2.1, r12_1.2.2.2.2.2.2.2, r12_2, r12_3, r12_4, r12_5, r12_6.1, r12_6.2.2.1, r12_6.2.2.2, res12, tt, bb, bc, ↓bd, Nat.reduceEqDiff, Nat.reduceAdd, Nat.reduceMul, Nat.reduceLeDiff, Nat.reduceLT, ↓reduceIte, reduceCtorEq, Nat.reduceBeqDiff, Nat.reduceBneDiff, Int.reduceBNe, Int.reduceBEq, Int.reduceEq, Int.reduceLT, Int.reduceLE, Int.reduceAdd, Int.reduceSub, Int.reduceMul, Int.reduceNeg, List.reduceReplicate, Int.reduceToNat]
      refine rs1_all hl ?_ l.length 0 _ AHeap.empty .nilS [] (by omega) ?_ ?_ ?_ .nil ⟨fun _ => rfl, List.Pairwise.nil, rfl⟩
      · intro d H m hd hs
        obtain ⟨w, hw, hf, _⟩ := hd.buf.freeze
        exact ⟨w, ⟨m, hs, hw⟩, hf⟩
      all_goals simp only [upd_app, enterT, List.getElem?_cons_zero, List.getElem?_cons_succ, Option.getD_some, Nat.reduceEqDiff, ↓reduceIte]
      all_goals rfl
    obtain ⟨r, ⟨m, hs, hw⟩, hp⟩ := hx
    exact ⟨m, r, hs, hw, hp⟩
end Go.Proofs.Ytjnopnlgcmlkfaa.G

namespace Go.Proofs.Ytjnopnlgcmlkfaa.G
open Go.BX
set_option linter.unusedSimpArgs false
set_option linter.unusedVariables false
def OwnK (h0 te kk : Nat) (d : AV) (n : Nat) (A : Nat → Blk) (es : List (List AV)) : Prop :=
  (d = .nilS ∧ es = []) ∨ ∃ g, d = .slc g kk 0 es.length ∧ h0 ≤ g ∧ g < n ∧ A g = .cells te kk es
theorem OwnK.lenOf {h0 te kk : Nat} {d : AV} {n : Nat} {A : Nat → Blk} {es : List (List AV)} (h : OwnK h0 te kk d n A es) : BX.lenOf d = some es.length := by
  rcases h with ⟨rfl, rfl⟩ | ⟨g, rfl, _⟩ <;> rfl
theorem OwnK.plain {h0 te kk : Nat} {d : AV} {n : Nat} {A : Nat → Blk} {es : List (List AV)} (h : OwnK h0 te kk d n A es) : d.plain = true := by
  rcases h with ⟨rfl, rfl⟩ | ⟨g, rfl, _⟩ <;> rfl
theorem OwnK.cells {h0 te kk : Nat} {d : AV} {n : Nat} {A : Nat → Blk} {es : List (List AV)} (h : OwnK h0 te kk d n A es) : d.cells = [d] := by
  rcases h with ⟨rfl, rfl⟩ | ⟨g, rfl, _⟩ <;> rfl
theorem OwnK.keep {h0 te kk : Nat} {d : AV} {n n' : Nat} {A A' : Nat → Blk} {es : List (List AV)} (h : OwnK h0 te kk d n A es) (hn : n ≤ n') (hk : ∀ g, g < n → A g = .cells te kk es → A' g = A g) : OwnK h0 te kk d n' A' es := by
  rcases h with h | ⟨g, h1, h2, h3, h4⟩
  · exact .inl h
  · exact .inr ⟨g, h1, h2, by omega, by rw [hk g h3 h4]; exact h4⟩
theorem OwnK.own {h0 : Nat} {d : AV} {n : Nat} {A : Nat → Blk} {l : List Pr} (h : OwnK h0 47 6 d n A (l.map encP)) : Own h0 d ⟨n, A⟩ l := by
  rcases h with ⟨h1, h2⟩ | ⟨g, h1, h2, h3, h4⟩
  · exact .inl ⟨h1, by simpa using h2⟩
  · exact .inr ⟨g, by rw [h1, List.length_map], h2, h3, h4⟩
theorem OwnK.app1s {h0 t te kk by_ n : Nat} {d : AV} {A : Nat → Blk} {es : List (List AV)} {row : List AV} (hd : OwnK h0 te kk d n A es) (hh : h0 ≤ n) (h1 : isSl Cx t te) (h2 : ∃ ti, Cx.TT te = some ti ∧ ti.size = kk ∧ ti.bytes = by_) (hm : (es.length + 1) * by_ ≤ most) (hm2 : es.length + 1 ≤ most) :
    ∃ A', builtinM Cx ⟨n + 1, upd A n (.cells te kk [row])⟩ .append [t, t] [d, .slc n kk 0 1] = some (.slc (n + 1) kk 0 (es.length + 1), ⟨n + 1 + 1, A'⟩) ∧ OwnK h0 te kk (.slc (n + 1) kk 0 (es.length + 1)) (n + 1 + 1) A' (es ++ [row]) ∧ (∀ c, c < n → A c ≠ .cells te kk es ∨ c < h0 → A' c = A c) ∧ ∀ c, c < n → (∀ m, d ≠ .slc c kk 0 m) → A' c = A c := by
  rcases hd with ⟨rfl, rfl⟩ | ⟨g, rfl, g1, g2, g3⟩
  · have hk : ∀ c, c < n → (upd (upd A n (.cells te kk [row])) (n + 1) (.cells te kk [row])) c = A c := fun c hc => by rw [upd_app, if_neg (by omega), upd_app, if_neg (by omega)]
    exact ⟨_, app_nil h1 h2 (by simpa using hm), .inr ⟨n + 1, by simp, by omega, by omega, by simp⟩, fun c hc _ => hk c hc, fun c hc _ => hk c hc⟩
  · have hk : ∀ c, c < n → c ≠ g → (upd (upd (upd A n (.cells te kk [row])) g .dead) (n + 1) (.cells te kk (es ++ [row]))) c = A c := fun c hc hne => by rw [upd_app, if_neg (by omega), upd_app, if_neg hne, upd_app, if_neg (by omega)]
    refine ⟨_, app_row h1 h2 g3 (by omega) hm hm2, .inr ⟨n + 1, by simp, by omega, by omega, by simp⟩, fun c hc hne => hk c hc ?_, fun c hc hne => hk c hc ?_⟩
    · rintro rfl
      rcases hne with h | h
      · exact h g3
      · omega
    · rintro rfl
      exact hne _ rfl
theorem OwnK.app1 {h0 t te kk by_ n : Nat} {d : AV} {A : Nat → Blk} {es : List (List AV)} {row : List AV} (hd : OwnK h0 te kk d n A es) (hh : h0 ≤ n) (h1 : isSl Cx t te) (h2 : ∃ ti, Cx.TT te = some ti ∧ ti.size = kk ∧ ti.bytes = by_) (hm : (es.length + 1) * by_ ≤ most) (hm2 : es.length + 1 ≤ most) :
    ∃ A', builtinM Cx ⟨n + 1, upd A n (.cells te kk [row])⟩ .append [t, t] [d, .slc n kk 0 1] = some (.slc (n + 1) kk 0 (es.length + 1), ⟨n + 1 + 1, A'⟩) ∧ OwnK h0 te kk (.slc (n + 1) kk 0 (es.length + 1)) (n + 1 + 1) A' (es ++ [row]) ∧ ∀ c, c < n → A c ≠ .cells te kk es ∨ c < h0 → A' c = A c := by
  obtain ⟨A', e1, e2, e3, _⟩ := hd.app1s (row := row) hh h1 h2 hm hm2
  exact ⟨A', e1, e2, e3⟩
def RV (n : Nat) (A : Nat → Blk) (v : AV) (l : List Pr) : Prop := InE v l ∨ ∃ g, v = .slc g 6 0 l.length ∧ g < n ∧ A g = .cells 47 6 (l.map encP)
theorem RV.keep {n n' : Nat} {A A' : Nat → Blk} {v : AV} {l : List Pr} (h : RV n A v l) (hn : n ≤ n') (hk : ∀ g, g < n → A g = .cells 47 6 (l.map encP) → A' g = A g) : RV n' A' v l := by
  rcases h with h | ⟨g, h1, h2, h3⟩
  · exact .inl h
  · exact .inr ⟨g, h1, by omega, by rw [hk g h2 h3]; exact h3⟩
theorem RV.lenOf {n : Nat} {A : Nat → Blk} {v : AV} {l : List Pr} (h : RV n A v l) : BX.lenOf v = some l.length := by
  rcases h with h | ⟨g, rfl, _⟩
  · exact h.len
  · rfl
theorem RV.plain {n : Nat} {A : Nat → Blk} {v : AV} {l : List Pr} (h : RV n A v l) : v.plain = true := by
  rcases h with h | ⟨g, rfl, _⟩
  · exact h.plain
  · rfl
theorem RV.cells {n : Nat} {A : Nat → Blk} {v : AV} {l : List Pr} (h : RV n A v l) : v.cells = [v] := by
  rcases h with h | ⟨g, rfl, _⟩
  · exact h.cells
  · rfl
theorem RV.freeze1 {n : Nat} {A : Nat → Blk} {v : AV} {l : List Pr} (h : RV n A v l) (d : Nat) : ∃ w, InE w l ∧ BX.freeze1 ⟨n, A⟩ (d + 1) v = some w := by
  rcases h with h | ⟨g, rfl, h2, h3⟩
  · exact ⟨v, h, h.freeze1⟩
  · refine ⟨.vec 6 (l.map encP), .inr (.inr rfl), ?_⟩
    have he : elems ⟨n, A⟩ 6 (.slc g 6 0 l.length) = some (l.map encP) := by
      unfold elems
      simp only [h3]
      rw [if_pos ⟨trivial, trivial, by simp⟩, List.drop_zero, List.take_of_length_le (by simp)]
    rw [freeze1_slc, he, frzE_some, freeze_rows']
    rfl
theorem RV.freeze {n : Nat} {A : Nat → Blk} {v : AV} {l : List Pr} (h : RV n A v l) : ∃ w, InE w l ∧ BX.freeze ⟨n, A⟩ v = some w := by
  obtain ⟨w, hw, hf⟩ := h.freeze1 3
  refine ⟨w, hw, ?_⟩
  rcases h with h | ⟨g, rfl, h2, h3⟩
  · rw [h.freeze1] at hf
    cases hf
    exact h.freeze
  · exact hf
theorem rows_at {xs : List (AV × List Pr)} {i : Nat} (h : i < xs.length) : (xs.map fun x => [x.1])[i]? = some [(xs[i]).1] := by
  rw [List.getElem?_map, List.getElem?_eq_getElem h]
  rfl
def piece (P : List Pr) (room i : Nat) : List Pr := (P.drop (i * room)).take room
structure Chk (room : Nat) (P now : List Pr) (rs : List (AV × List Pr)) : Prop where
  le : rs.length * room ≤ P.length
  rst : now = P.drop (rs.length * room)
  lt : now.length < room
  srt : ∀ (i : Nat) (h : i < rs.length), IsSort (piece P room i) (rs[i]).2
theorem Chk.nil {room : Nat} (h : 0 < room) : Chk room [] [] [] := ⟨by simp, by simp, by simpa using h, fun i h => by simp at h⟩
theorem piece_app {P : List Pr} {room i : Nat} (q : Pr) (h : (i + 1) * room ≤ P.length) : piece (P ++ [q]) room i = piece P room i := by
  unfold piece
  rw [Nat.succ_mul] at h
  rw [List.drop_append_of_le_length (by omega), List.take_append_of_le_length (by rw [List.length_drop]; omega)]
theorem Chk.full {room : Nat} {P now : List Pr} {rs : List (AV × List Pr)} (h : Chk room P now rs) (q : Pr) (he : now.length + 1 = room) {w : AV} {m : List Pr} (hm : IsSort (now ++ [q]) m) : Chk room (P ++ [q]) [] (rs ++ [(w, m)]) := by
  obtain ⟨h1, h2, h3, h4⟩ := h
  have hl : now.length = P.length - rs.length * room := by rw [h2, List.length_drop]
  have e : (rs ++ [(w, m)]).length * room = P.length + 1 := by
    rw [List.length_append, List.length_singleton, Nat.succ_mul]; omega
  refine ⟨by rw [e]; simp, ?_, by simp; omega, fun i hi => ?_⟩
  · rw [e, List.drop_of_length_le (by simp)]
  · by_cases hir : i < rs.length
    · rw [List.getElem_append_left hir, piece_app q (Nat.le_trans (Nat.mul_le_mul_right _ hir) h1)]
      exact h4 i hir
    · have hie : i = rs.length := by
        rw [List.length_append, List.length_singleton] at hi; omega
      subst hie
      rw [List.getElem_append_right (Nat.le_refl _)]
      simp only [Nat.sub_self, List.getElem_cons_zero]
      unfold piece
      rw [List.drop_append_of_le_length h1, ← h2, List.take_of_length_le (by simp; omega)]
      exact hm
end Go.Proofs.Ytjnopnlgcmlkfaa.G

namespace Go.Proofs.Ytjnopnlgcmlkfaa.G
open Go.BX
set_option linter.unusedSimpArgs false
set_option linter.unusedVariables false
theorem psl : isSl Cx 22 47 := ⟨_, TT_22, rfl⟩
theorem pti : ∃ ti, Cx.TT 47 = some ti ∧ ti.size = 6 ∧ ti.bytes = 64 := ⟨_, TT_47, rfl, rfl⟩
def rowsR (rs : List (AV × List Pr)) : List (List AV) := rs.map fun x => [x.1]
structure SS (h0 : Nat) (room b n : Nat) (A : Nat → Blk) (now : List Pr) (rs : List (AV × List Pr)) (cnt : Nat) : Prop where
  hb0 : h0 ≤ b
  hb : b < n
  at_ : ∃ vn vr, A b = .cells 68 4 [[.int .i64 (room : Int), vn, vr, .int .i64 (cnt : Int)]] ∧ OwnK h0 47 6 vn n A (now.map encP) ∧ OwnK h0 22 1 vr n A (rowsR rs)
  all : ∀ x, x ∈ rs → InE x.1 x.2
def Sep (F : Nat → Prop) (b : Nat) (A : Nat → Blk) : Prop := ¬ F b ∧ ∀ r vn vr c, A b = .cells 68 4 [[r, vn, vr, c]] → ∀ g, F g → (∀ kk m, vn ≠ .slc g kk 0 m) ∧ ∀ kk m, vr ≠ .slc g kk 0 m
theorem Sep.none {b : Nat} {A : Nat → Blk} : Sep (fun _ => False) b A := ⟨fun h => h, fun _ _ _ _ _ _ h => h.elim⟩
theorem SS.keep {h0 room b n n' : Nat} {A A' : Nat → Blk} {now : List Pr} {rs : List (AV × List Pr)} {cnt : Nat} (h : SS h0 room b n A now rs cnt) (hn : n ≤ n') (hk : ∀ g, h0 ≤ g → g < n → A' g = A g) : SS h0 room b n' A' now rs cnt := by
  obtain ⟨h1, h2, ⟨vn, vr, h3, h4, h5⟩, h6⟩ := h
  refine ⟨h1, by omega, ⟨vn, vr, by rw [hk b h1 h2]; exact h3, ?_, ?_⟩, h6⟩
  · rcases h4 with h | ⟨g, g1, g2, g3, g4⟩
    · exact .inl h
    · exact .inr ⟨g, g1, g2, by omega, by rw [hk g g2 g3]; exact g4⟩
  · rcases h5 with h | ⟨g, g1, g2, g3, g4⟩
    · exact .inl h
    · exact .inr ⟨g, g1, g2, by omega, by rw [hk g g2 g3]; exact g4⟩
section
variable {fn : FuncId} {T : Nat → AV} {ds : List ADef} {ro : Option Nat} {k : List AItem} {Q : AV → AHeap → Prop} {dst : Option Nat} {os : List AO}
end
end Go.Proofs.Ytjnopnlgcmlkfaa.G

namespace Go.Proofs.Ytjnopnlgcmlkfaa.G
open Go.BX
set_option linter.unusedSimpArgs false
set_option linter.unusedVariables false
structure Pcs (room : Nat) (P : List Pr) (ms : List (List Pr)) : Prop where
  full : P.length ≤ ms.length * room
  lst : ms.length = 0 ∨ (ms.length - 1) * room < P.length
  srt : ∀ (i : Nat) (h : i < ms.length), IsSort (piece P room i) ms[i]
theorem piece_len {P : List Pr} {room i : Nat} (h : (i + 1) * room ≤ P.length) : (piece P room i).length = room := by
  unfold piece
  rw [Nat.succ_mul] at h
  rw [List.length_take, List.length_drop]; omega
theorem Chk.cut {room : Nat} {P now : List Pr} {rs : List (AV × List Pr)} (h : Chk room P now rs) (hr : 0 < room) : now = [] ∧ Pcs room P (rs.map (·.2)) ∨ now ≠ [] ∧ ∀ m, IsSort now m → Pcs room P (rs.map (·.2) ++ [m]) := by
  obtain ⟨h1, h2, h3, h4⟩ := h
  have hl : now.length = P.length - rs.length * room := by rw [h2, List.length_drop]
  by_cases h0 : now = []
  · refine .inl ⟨h0, ?_, ?_, ?_⟩
    · rw [h0] at hl
      rw [List.length_map]
      simp only [List.length_nil] at hl
      omega
    · rw [List.length_map]
      by_cases e : rs.length = 0
      · exact .inl e
      · refine .inr (Nat.lt_of_lt_of_le ?_ h1)
        exact Nat.mul_lt_mul_of_pos_right (by omega) hr
    · intro i hi
      rw [List.length_map] at hi
      rw [List.getElem_map]
      exact h4 i hi
  · refine .inr ⟨h0, fun m hm => ⟨?_, .inr ?_, ?_⟩⟩
    · rw [List.length_append, List.length_map, List.length_singleton, Nat.succ_mul]
      omega
    · have : 0 < now.length := List.length_pos_iff.mpr h0
      rw [List.length_append, List.length_map, List.length_singleton, Nat.add_sub_cancel]
      omega
    · intro i hi
      by_cases hir : i < (rs.map (·.2)).length
      · rw [List.getElem_append_left hir, List.getElem_map]
        rw [List.length_map] at hir
        exact h4 i hir
      · have hie : i = (rs.map (·.2)).length := by
          rw [List.length_append, List.length_singleton] at hi; omega
        subst hie
        rw [List.getElem_append_right (Nat.le_refl _)]
        simp only [Nat.sub_self, List.getElem_cons_zero]
        unfold piece
        rw [List.length_map, ← h2, List.take_of_length_le (by omega)]
        exact hm
theorem Chk.ne {room : Nat} {P now : List Pr} {rs : List (AV × List Pr)} (h : Chk room P now rs) (hr : 0 < room) : ∀ x, x ∈ rs → x.2 ≠ [] := by
  intro x hx e
  obtain ⟨i, hi, rfl⟩ := List.getElem_of_mem hx
  have h1 := (h.srt i hi).len
  rw [e, piece_len (Nat.le_trans (Nat.mul_le_mul_right _ hi) h.le)] at h1
  simp at h1
  omega
section
variable {fn : FuncId} {T : Nat → AV} {ds : List ADef} {ro : Option Nat} {k : List AItem} {Q : AV → AHeap → Prop} {dst : Option Nat} {os : List AO}
end
end Go.Proofs.Ytjnopnlgcmlkfaa.G
namespace Go.Proofs.Ytjnopnlgcmlkfaa.G
open Go.BX
set_option linter.unusedSimpArgs false
set_option linter.unusedVariables false
theorem Pcs.len {room : Nat} {P : List Pr} {ms : List (List Pr)} (h : Pcs room P ms) {i : Nat} (hi : i < ms.length) : (ms[i]).length = min room (P.length - i * room) := by
  rw [(h.srt i hi).len]
  unfold piece
  rw [List.length_take, List.length_drop]
theorem Pcs.mul {room : Nat} {P : List Pr} {ms : List (List Pr)} (h : Pcs room P ms) {i : Nat} (hi : i < ms.length) : i * room < P.length ∧ (i + 1 < ms.length → (i + 1) * room ≤ P.length) := by
  rcases h.lst with h1 | h1
  · omega
  · have h2 : i * room ≤ (ms.length - 1) * room := Nat.mul_le_mul_right _ (by omega)
    refine ⟨by omega, fun h3 => ?_⟩
    have h4 : (i + 1) * room ≤ (ms.length - 1) * room := Nat.mul_le_mul_right _ (by omega)
    omega
end Go.Proofs.Ytjnopnlgcmlkfaa.G
namespace Go.Proofs.Ytjnopnlgcmlkfaa.G
open Go.BX
set_option linter.unusedSimpArgs false
set_option linter.unusedVariables false
section
variable {α : Type} {lt : α → α → Bool}
structure Ord (lt : α → α → Bool) (S : α → Prop) : Prop where
  tr : ∀ a b c, S a → S b → S c → lt b a = false → lt c b = false → lt c a = false
  asym : ∀ a b, S a → S b → lt a b = true → lt b a = false
def swA (f : Nat → α) (i j : Nat) : Nat → α := fun k => if k = i then f j else if k = j then f i else f k
structure Cont (n : Nat) (f : Nat → α) (S : α → Prop) : Prop where
  mem : ∀ i, i < n → S (f i)
  all : ∀ c, S c → ∃ i, i < n ∧ f i = c
  inj : ∀ i j, i < n → j < n → f i = f j → i = j
theorem Cont.sw {n : Nat} {f : Nat → α} {S : α → Prop} (h : Cont n f S) {i j : Nat} (hi : i < n) (hj : j < n) : Cont n (swA f i j) S where
  mem k hk := by
    unfold swA
    split
    · exact h.mem j hj
    · split
      · exact h.mem i hi
      · exact h.mem k hk
  all c hc := by
    obtain ⟨k, hk, rfl⟩ := h.all c hc
    unfold swA
    by_cases h1 : k = i
    · subst h1
      refine ⟨j, hj, ?_⟩
      by_cases h2 : j = k
      · subst h2; simp
      · simp [h2]
    · by_cases h2 : k = j
      · subst h2; exact ⟨i, hi, by simp⟩
      · exact ⟨k, hk, by simp [h1, h2]⟩
  inj a b ha hb he := by
    have key := fun x y (hx : x < n) (hy : y < n) (e : f x = f y) => h.inj x y hx hy e
    unfold swA at he
    repeat' split at he
    all_goals first
      | (have := key _ _ ‹_› ‹_› he; omega)
      | (have := key _ _ hi hj he; omega)
      | (have := key _ _ hj hi he; omega)
      | (have := key _ _ hi hb he; omega)
      | (have := key _ _ hj hb he; omega)
      | (have := key _ _ ha hi he; omega)
      | (have := key _ _ ha hj he; omega)
      | (have := key _ _ ha hb he; omega)
      | omega
theorem Cont.congr {n : Nat} {f g : Nat → α} {S : α → Prop} (h : Cont n f S) (e : ∀ i, i < n → g i = f i) : Cont n g S where
  mem i hi := by rw [e i hi]; exact h.mem i hi
  all c hc := by
    obtain ⟨i, hi, rfl⟩ := h.all c hc
    exact ⟨i, hi, e i hi⟩
  inj i j hi hj he := h.inj i j hi hj (by rw [← e i hi, ← e j hj]; exact he)
theorem Cont.push {n : Nat} {f : Nat → α} {S : α → Prop} (h : Cont n f S) {x : α} (hx : ¬ S x) : Cont (n + 1) (fun i => if i = n then x else f i) (fun c => c = x ∨ S c) where
  mem i hi := by
    by_cases e : i = n
    · simp [e]
    · simp only [e, if_false]
      exact .inr (h.mem i (by omega))
  all c hc := by
    rcases hc with rfl | hc
    · exact ⟨n, by omega, by simp⟩
    · obtain ⟨i, hi, rfl⟩ := h.all c hc
      exact ⟨i, by omega, by simp [show i ≠ n by omega]⟩
  inj i j hi hj he := by
    by_cases e1 : i = n <;> by_cases e2 : j = n <;> simp only [e1, e2, if_true, if_false] at he
    · omega
    · exact absurd (he ▸ h.mem j (by omega)) hx
    · exact absurd (he ▸ h.mem i (by omega)) hx
    · exact h.inj i j (by omega) (by omega) he
theorem Cont.pop {n : Nat} {f : Nat → α} {S : α → Prop} (h : Cont (n + 1) f S) : Cont n (fun i => if i = 0 then f n else f i) (fun c => S c ∧ c ≠ f 0) where
  mem i hi := by
    by_cases e : i = 0
    · simp only [e, if_true]
      refine ⟨h.mem n (by omega), fun e2 => ?_⟩
      have := h.inj n 0 (by omega) (by omega) e2
      omega
    · simp only [e, if_false]
      refine ⟨h.mem i (by omega), fun e2 => ?_⟩
      have := h.inj i 0 (by omega) (by omega) e2
      omega
  all c hc := by
    obtain ⟨i, hi, rfl⟩ := h.all c hc.1
    by_cases e : i = n
    · subst e
      by_cases e0 : i = 0
      · exact absurd (by rw [e0]) hc.2
      · exact ⟨0, by omega, by simp⟩
    · by_cases e0 : i = 0
      · exact absurd (by rw [e0]) hc.2
      · exact ⟨i, by omega, by simp [e0]⟩
  inj i j hi hj he := by
    by_cases e1 : i = 0 <;> by_cases e2 : j = 0 <;> simp only [e1, e2, if_true, if_false] at he
    · omega
    · have := h.inj n j (by omega) (by omega) he; omega
    · have := h.inj i n (by omega) (by omega) he; omega
    · exact h.inj i j (by omega) (by omega) he
def par (i : Nat) : Nat := (i - 1) / 2
theorem par_lt {i : Nat} (h : 0 < i) : par i < i := by unfold par; omega
def Heap (lt : α → α → Bool) (n : Nat) (f : Nat → α) : Prop := ∀ i, 0 < i → i < n → lt (f i) (f (par i)) = false
structure Up (lt : α → α → Bool) (n : Nat) (f : Nat → α) (j : Nat) : Prop where
  a : ∀ i, 0 < i → i < n → i ≠ j → lt (f i) (f (par i)) = false
  b : ∀ i, 0 < i → i < n → par i = j → 0 < j → lt (f i) (f (par j)) = false
structure Dn (lt : α → α → Bool) (n : Nat) (f : Nat → α) (j : Nat) : Prop where
  a : ∀ i, 0 < i → i < n → par i ≠ j → lt (f i) (f (par i)) = false
  b : ∀ i, 0 < i → i < n → par i = j → 0 < j → lt (f i) (f (par j)) = false
theorem Heap.root {S : α → Prop} (ho : Ord lt S) {n : Nat} {f : Nat → α} (h : Heap lt n f) (hc : ∀ i, i < n → S (f i)) : ∀ (m i : Nat), i ≤ m → 0 < i → i < n → lt (f i) (f 0) = false
  | 0, i, hm, h0, hi => by omega
  | m + 1, i, hm, h0, hi => by
    have hp := par_lt h0
    by_cases e : par i = 0
    · have := h i h0 hi
      rwa [e] at this
    · exact ho.tr _ _ _ (hc 0 (by omega)) (hc _ (by omega)) (hc i hi) (Heap.root ho h hc m (par i) (by omega) (by omega) (by omega)) (h i h0 hi)
theorem Up.start {n : Nat} {f : Nat → α} (h : Heap lt n f) (x : α) : Up lt (n + 1) (fun i => if i = n then x else f i) n where
  a i h0 hi hne := by
    have hp := par_lt h0
    simp only [hne, if_false, show par i ≠ n by omega]
    exact h i h0 (by omega)
  b i h0 hi he hn := by
    have hp := par_lt h0
    omega
theorem Up.stop {n : Nat} {f : Nat → α} {j : Nat} (h : Up lt n f j) (hs : j = 0 ∨ lt (f j) (f (par j)) = false) : Heap lt n f := by
  intro i h0 hi
  by_cases e : i = j
  · subst e
    rcases hs with hs | hs
    · omega
    · exact hs
  · exact h.a i h0 hi e
theorem Up.step {S : α → Prop} (ho : Ord lt S) {n : Nat} {f : Nat → α} {j : Nat} (h : Up lt n f j) (hc : ∀ i, i < n → S (f i)) (h0 : 0 < j) (hj : j < n) (hs : lt (f j) (f (par j)) = true) : Up lt n (swA f j (par j)) (par j) := by
  have hpj := par_lt h0
  have has := ho.asym _ _ (hc j hj) (hc (par j) (by omega)) hs
  constructor
  · intro i i0 hi hne
    have hp := par_lt i0
    unfold swA
    by_cases e : i = j
    · subst e
      simp only [if_true, if_neg (show par i ≠ i by omega)]
      exact has
    · by_cases e2 : par i = j
      · simp only [e, if_false, hne, e2, if_true]
        exact h.b i i0 hi e2 h0
      · by_cases e3 : par i = par j
        · simp only [e, if_false, hne, e2, e3, if_true, if_neg (show par j ≠ j by omega)]
          have h1 := h.a i i0 hi e
          rw [e3] at h1
          exact ho.tr _ _ _ (hc j hj) (hc (par j) (by omega)) (hc i hi) has h1
        · simp only [e, if_false, hne, e2, e3]
          exact h.a i i0 hi e
  · intro i i0 hi he hp0
    have hp := par_lt hp0
    unfold swA
    rw [if_neg (show par (par j) ≠ j by omega), if_neg (show par (par j) ≠ par j by omega)]
    have h1 := h.a (par j) hp0 (by omega) (by omega)
    by_cases e : i = j
    · rw [if_pos e]; exact h1
    · rw [if_neg e]
      have hpi := par_lt i0
      rw [if_neg (show i ≠ par j by omega)]
      have h2 := h.a i i0 hi e
      rw [he] at h2
      exact ho.tr _ _ _ (hc _ (by omega)) (hc (par j) (by omega)) (hc i hi) h1 h2
theorem Dn.start {n : Nat} {f : Nat → α} (h : Heap lt (n + 1) f) (x : α) : Dn lt n (fun i => if i = 0 then x else f i) 0 where
  a i h0 hi hne := by
    simp only [show i ≠ 0 by omega, if_false, hne]
    exact h i h0 (by omega)
  b i h0 hi he hn := by omega
theorem Dn.stop {S : α → Prop} (ho : Ord lt S) {n : Nat} {f : Nat → α} {j : Nat} (h : Dn lt n f j) (hc : ∀ i, i < n → S (f i)) (hj : j < n) (hs : n ≤ 2 * j + 1 ∨ ∃ k, k < n ∧ par k = j ∧ 0 < k ∧ (∀ i, 0 < i → i < n → par i = j → lt (f i) (f k) = false) ∧ lt (f k) (f j) = false) : Heap lt n f := by
  intro i h0 hi
  by_cases e : par i = j
  · rcases hs with hs | ⟨k, hk, hpk, hk0, hm, hl⟩
    · unfold par at e; omega
    · rw [e]
      exact ho.tr _ _ _ (hc j hj) (hc k hk) (hc i hi) hl (hm i h0 hi e)
  · exact h.a i h0 hi e
theorem Dn.step {S : α → Prop} (ho : Ord lt S) {n : Nat} {f : Nat → α} {j k : Nat} (h : Dn lt n f j) (hc : ∀ i, i < n → S (f i)) (hk : k < n) (hpk : par k = j) (hk0 : 0 < k) (hm : ∀ i, 0 < i → i < n → par i = j → lt (f i) (f k) = false) (hs : lt (f k) (f j) = true) : Dn lt n (swA f j k) k := by
  have hkj := par_lt hk0
  have has := ho.asym _ _ (hc k hk) (hc j (by omega)) hs
  constructor
  · intro i i0 hi hne
    have hp := par_lt i0
    unfold swA
    by_cases e1 : i = k
    · subst e1
      rw [if_neg (show i ≠ j by omega), if_pos rfl, if_pos hpk]
      exact has
    · by_cases e2 : i = j
      · subst e2
        rw [if_pos rfl, if_neg (show par i ≠ i by omega), if_neg hne]
        exact h.b k hk0 hk hpk i0
      · rw [if_neg e2, if_neg e1]
        by_cases e3 : par i = j
        · rw [if_pos e3]
          exact hm i i0 hi e3
        · rw [if_neg e3, if_neg hne]
          exact h.a i i0 hi e3
  · intro i i0 hi he _
    have hp := par_lt i0
    unfold swA
    rw [if_neg (show i ≠ j by omega), if_neg (show i ≠ k by omega), hpk, if_pos rfl]
    have := h.a i i0 hi (by omega)
    rwa [he] at this
theorem Dn.nil {n : Nat} {f : Nat → α} (h : n = 0) : Heap lt n f := fun i h0 hi => by omega
end
end Go.Proofs.Ytjnopnlgcmlkfaa.G

namespace Go.Proofs.Ytjnopnlgcmlkfaa.G
open Go.BX
set_option linter.unusedSimpArgs false
set_option linter.unusedVariables false
structure Cur where
  r : Nat
  a : Nat
def encC (vs : Nat → AV) (c : Cur) : List AV := [vs c.r, .int .i64 (c.a : Int), .int .i64 (c.r : Int)]
def OkC (xs : Nat → List Pr) (c : Cur) : Prop := c.a < (xs c.r).length ∧ (xs c.r).length ≤ 100000 ∧ c.r ≤ 100000
def ky (xs : Nat → List Pr) (c : Cur) : Bytes := (fnOf (xs c.r) c.a).key
def ltC (xs : Nat → List Pr) (c d : Cur) : Bool := lessB (ky xs c) (ky xs d) || (ky xs c == ky xs d && decide (c.r < d.r))
theorem ltC_false {xs : Nat → List Pr} {c d : Cur} : ltC xs c d = false ↔ lessB (ky xs c) (ky xs d) = false ∧ (ky xs c = ky xs d → d.r ≤ c.r) := by
  unfold ltC
  rw [Bool.or_eq_false_iff]
  refine and_congr_right fun _ => ?_
  cases h : (ky xs c == ky xs d) with
  | true =>
    have : ky xs c = ky xs d := by simpa using h
    simp [this]
  | false =>
    have : ky xs c ≠ ky xs d := by simpa using h
    simp [this]
theorem ordC (xs : Nat → List Pr) : Ord (ltC xs) (OkC xs) where
  tr a b c _ _ _ h1 h2 := by
    rw [ltC_false] at h1 h2 ⊢
    refine ⟨bl_le h1.1 h2.1, fun e => ?_⟩
    have e1 : ky xs b = ky xs a := by
      refine bl_tot _ _ h1.1 ?_
      rw [← e]
      exact h2.1
    have := h1.2 e1
    have := h2.2 (e.trans e1.symm)
    omega
  asym a b _ _ h := by
    rw [ltC_false]
    unfold ltC at h
    rw [Bool.or_eq_true, Bool.and_eq_true, beq_iff_eq, decide_eq_true_eq] at h
    rcases h with h | ⟨h1, h2⟩
    · exact ⟨bl_asym h, fun e => absurd e.symm (bl_ne h)⟩
    · exact ⟨by rw [h1]; exact bl_irr _, fun _ => by omega⟩
theorem less_ok {xs : Nat → List Pr} {c d : Cur} (hc : OkC xs c) (hd : OkC xs d) : PCall Cx 46 [.agg [.vec 6 ((xs c.r).map encP), .int .i64 (c.a : Int), .int .i64 (c.r : Int)], .agg [.vec 6 ((xs d.r).map encP), .int .i64 (d.a : Int), .int .i64 (d.r : Int)]] (.bool (ltC xs c d)) := by
  refine pcall_run (noext _) body46 ?_
  unfold ltC ky
  obtain ⟨hc1, hc2, hc3⟩ := hc
  obtain ⟨hd1, hd2, hd3⟩ := hd
  rw [fnOf_get hc1, fnOf_get hd1]
  have g1 := enc_get (List.getElem?_eq_getElem hc1)
  have g2 := enc_get (List.getElem?_eq_getElem hd1)
  have l1 : (c.a : Int) < (((xs c.r).map encP).length : Int) := by rw [List.length_map]; omega
  have l2 : (d.a : Int) < (((xs d.r).map encP).length : Int) := by rw [List.length_map]; omega
  have p1 : (0 : Int) ≤ (c.a : Int) := by omega
  have p2 : (0 : Int) ≤ (d.a : Int) := by omega
  have e : ((c.r : Int) < (d.r : Int)) ↔ c.r < d.r := by omega
  cases h1 : lessB ((xs c.r)[c.a]).key ((xs d.r)[d.a]).key with
  | true => simp only [g1, g2, l1, l2, p1, p2, h1, Bool.true_or, Int.toNat_natCast, r46_0, res46, tt, bb, bc, ↓bd, Nat.reduceEqDiff, Nat.reduceAdd, Nat.reduceMul, Nat.reduceLeDiff, Nat.reduceLT, ↓reduceIte, reduceCtorEq, Nat.reduceBeqDiff, Nat.reduceBneDiff, Int.reduceBNe, Int.reduceBEq, Int.reduceEq, Int.reduceLT, Int.reduceLE, Int.reduceAdd, Int.reduceSub, Int.reduceMul, Int.reduceNeg, List.reduceReplicate, Int.reduceToNat]
  | false =>
    cases h2 : (((xs c.r)[c.a]).key == ((xs d.r)[d.a]).key) with
    | true => simp only [g1, g2, l1, l2, p1, p2, h1, h2, e, Bool.false_or, Bool.true_and, Int.toNat_natCast, r46_0, res46, tt, bb, bc, ↓bd, Nat.reduceEqDiff, Nat.reduceAdd, Nat.reduceMul, Nat.reduceLeDiff, Nat.reduceLT, ↓reduceIte, reduceCtorEq, Nat.reduceBeqDiff, Nat.reduceBneDiff, Int.reduceBNe, Int.reduceBEq, Int.reduceEq, Int.reduceLT, Int.reduceLE, Int.reduceAdd, Int.reduceSub, Int.reduceMul, Int.reduceNeg, List.reduceReplicate, Int.reduceToNat]
    | false => simp only [g1, g2, l1, l2, p1, p2, h1, h2, e, Bool.false_or, Bool.false_and, Int.toNat_natCast, r46_0, res46, tt, bb, bc, ↓bd, Nat.reduceEqDiff, Nat.reduceAdd, Nat.reduceMul, Nat.reduceLeDiff, Nat.reduceLT, ↓reduceIte, reduceCtorEq, Nat.reduceBeqDiff, Nat.reduceBneDiff, Int.reduceBNe, Int.reduceBEq, Int.reduceEq, Int.reduceLT, Int.reduceLE, Int.reduceAdd, Int.reduceSub, Int.reduceMul, Int.reduceNeg, List.reduceReplicate, Int.reduceToNat]
theorem less_call {n : Nat} {A : Nat → Blk} {vs : Nat → AV} {xs : Nat → List Pr} {c d : Cur} (hc : OkC xs c) (hd : OkC xs d) (hvc : RV n A (vs c.r) (xs c.r)) (hvd : RV n A (vs d.r) (xs d.r)) {fn : FuncId} {T : Nat → AV} {ds : List ADef} {ro : Option Nat} {k : List AItem} {Q : AV → AHeap → Prop} {dst : Option Nat} {os : List AO} :
    RunCall Cx fn T ds ro 46 [.agg [vs c.r, .int .i64 (c.a : Int), .int .i64 (c.r : Int)], .agg [vs d.r, .int .i64 (d.a : Int), .int .i64 (d.r : Int)]] dst os k ⟨n, A⟩ Q = RunOps Cx fn (putA T dst (.bool (ltC xs c d))) ds ro os k ⟨n, A⟩ Q := by
  obtain ⟨w1, hw1, hf1⟩ := hvc.freeze1 3
  obtain ⟨w2, hw2, hf2⟩ := hvd.freeze1 3
  have ne : ∀ {c : Cur}, OkC xs c → xs c.r ≠ [] := fun h e => by
    have := h.1
    rw [e] at this
    simp at this
  obtain rfl := hw1.vec (ne hc)
  obtain rfl := hw2.vec (ne hd)
  refine call_any pure46 rfl (less_ok hc hd) ?_
  simp only [mapO_cons, mapO_nil, freeze_agg, hf1, hf2, freeze1_int, consO_some, Option.map_some]
def RC (vs : Nat → AV) (N : Nat) (f : Nat → Cur) : List (List AV) := (List.range N).map fun i => encC vs (f i)
theorem RC_len {vs : Nat → AV} {N : Nat} {f : Nat → Cur} : (RC vs N f).length = N := by simp [RC]
theorem RC_get {vs : Nat → AV} {N : Nat} {f : Nat → Cur} {i : Nat} (h : i < N) : (RC vs N f)[i]? = some [vs (f i).r, .int .i64 ((f i).a : Int), .int .i64 ((f i).r : Int)] := by
  unfold RC
  rw [List.getElem?_map, List.getElem?_range h]
  rfl
theorem RC_set {vs : Nat → AV} {N : Nat} {f : Nat → Cur} {i : Nat} (c : Cur) : (RC vs N f).set i [vs c.r, .int .i64 (c.a : Int), .int .i64 (c.r : Int)] = RC vs N (fun k => if k = i then c else f k) := by
  apply List.ext_getElem?
  intro k
  rw [List.getElem?_set]
  by_cases hk : k < N
  · unfold RC
    rw [List.getElem?_map, List.getElem?_range hk, List.length_map, List.length_range]
    by_cases e : i = k
    · subst e
      rw [if_pos rfl, if_pos hk, List.getElem?_map, List.getElem?_range hk]
      simp [encC]
    · rw [if_neg e, List.getElem?_map, List.getElem?_range hk]
      simp [show k ≠ i by omega]
  · have h1 : (RC vs N f)[k]? = none := List.getElem?_eq_none (by rw [RC_len]; omega)
    have h2 : (RC vs N (fun k => if k = i then c else f k))[k]? = none := List.getElem?_eq_none (by rw [RC_len]; omega)
    rw [h1, h2]
    split
    · rw [if_neg (by rw [RC_len]; omega)]
    · rfl
theorem RC_push {vs : Nat → AV} {n N : Nat} {f : Nat → Cur} (c : Cur) (h : n ≤ N) : (RC vs N f).take n ++ [encC vs c] = RC vs (n + 1) (fun i => if i = n then c else f i) := by
  have : (RC vs N f).take n = RC vs n f := by
    unfold RC
    rw [← List.map_take, List.take_range, Nat.min_eq_left h]
  rw [this]
  unfold RC
  rw [List.range_succ, List.map_append]
  congr 1
  · apply List.map_congr_left
    intro i hi
    have := List.mem_range.mp hi
    show _ = encC vs (if i = n then c else f i)
    rw [if_neg (by omega)]
  · simp
theorem swA_eq (f : Nat → Cur) (i j : Nat) : (fun k => if k = j then f i else if k = i then f j else f k) = swA f i j := by
  funext k
  unfold swA
  by_cases h1 : k = i <;> by_cases h2 : k = j
  · subst h1; subst h2; simp
  · rw [if_neg h2, if_pos h1, if_pos h1]
  · rw [if_pos h2, if_neg h1, if_pos h2]
  · rw [if_neg h2, if_neg h1, if_neg h1, if_neg h2]
def HL (vs : Nat → AV) (hb nx : Nat) (A : Nat → Blk) (n : Nat) (f : Nat → Cur) : Prop :=
  hb < nx ∧ ((A hb = .cells 88 2 [[.nilS, .fn 46 [] []]] ∧ n = 0) ∨
    ∃ g N, A hb = .cells 88 2 [[.slc g 3 0 n, .fn 46 [] []]] ∧ hb < g ∧ g < nx ∧ n ≤ N ∧ A g = .cells 84 3 (RC vs N f))
theorem HL.keep {vs : Nat → AV} {hb nx nx' : Nat} {A A' : Nat → Blk} {n : Nat} {f : Nat → Cur} (h : HL vs hb nx A n f) (hn : nx ≤ nx') (hk : ∀ g, hb ≤ g → g < nx → A' g = A g) : HL vs hb nx' A' n f := by
  obtain ⟨h1, h2⟩ := h
  refine ⟨by omega, ?_⟩
  rcases h2 with ⟨h2, h3⟩ | ⟨g, N, h2, h3, h4, h5, h6⟩
  · exact .inl ⟨by rw [hk hb (Nat.le_refl _) h1]; exact h2, h3⟩
  · exact .inr ⟨g, N, by rw [hk hb (Nat.le_refl _) h1]; exact h2, h3, by omega, h5, by rw [hk g (by omega) h4]; exact h6⟩
def notCur (b : Blk) : Prop := ∀ es, b ≠ .cells 84 3 es
theorem csl : isSl Cx 86 84 := ⟨_, TT_86, rfl⟩
theorem cti : ∃ ti, Cx.TT 84 = some ti ∧ ti.size = 3 ∧ ti.bytes = 40 := ⟨_, TT_84, rfl, rfl⟩
theorem pu_all {vs : Nat → AV} {xs : Nat → List Pr} {hb g nx n : Nat} {A : Nat → Blk} {S : Cur → Prop} {Q : AV → AHeap → Prop} (hn : n ≤ 100000) (hg : hb < g) (hbn : hb ≤ nx) (hA : A hb = .cells 88 2 [[.slc g 3 0 n, .fn 46 [] []]]) (hS : ∀ c, S c → OkC xs c) (hV : ∀ c, S c → RV hb A (vs c.r) (xs c.r))
    (hK : ∀ f', Heap (ltC xs) n f' → Cont n f' S → Q (.tuple []) ⟨nx, upd A g (.cells 84 3 (RC vs n f'))⟩) :
    ∀ (m i : Nat) (T : Nat → AV) (f : Nat → Cur), i ≤ m → i < n → T 0 = .ptr hb 2 0 0 → T 4 = .int .i64 (i : Int) → Up (ltC xs) n f i → Cont n f S →
      Run Cx 47 T [] none [.inLoop c47_8, .inBlock 0] ⟨nx, upd A g (.cells 84 3 (RC vs n f))⟩ Q := by
  intro m
  induction m with
  | zero =>
    intro i T f him hin t0 t4 hU hC
    obtain rfl : i = 0 := by omega
    replace t4 : T 4 = .int .i64 0 := t4
    rw [run_inLoop]
    simp only [t0, t4, xx, run_nil, r47_0, r47_1, r47_2, res47, tt, bb, bc, ↓bd, Nat.reduceEqDiff, Nat.reduceAdd, Nat.reduceMul, Nat.reduceLeDiff, Nat.reduceLT, ↓reduceIte, reduceCtorEq, Nat.reduceBeqDiff, Nat.reduceBneDiff, Int.reduceBNe, Int.reduceBEq, Int.reduceEq, Int.reduceLT, Int.reduceLE, Int.reduceAdd, Int.reduceSub, Int.reduceMul, Int.reduceNeg, List.reduceReplicate, Int.reduceToNat]
    exact hK f (hU.stop (.inl rfl)) hC
  | succ m ih =>
    intro i T f him hin t0 t4 hU hC
    by_cases hi0 : i = 0
    · subst hi0
      replace t4 : T 4 = .int .i64 0 := t4
      rw [run_inLoop]
      simp only [t0, t4, xx, run_nil, r47_0, r47_1, r47_2, res47, tt, bb, bc, ↓bd, Nat.reduceEqDiff, Nat.reduceAdd, Nat.reduceMul, Nat.reduceLeDiff, Nat.reduceLT, ↓reduceIte, reduceCtorEq, Nat.reduceBeqDiff, Nat.reduceBneDiff, Int.reduceBNe, Int.reduceBEq, Int.reduceEq, Int.reduceLT, Int.reduceLE, Int.reduceAdd, Int.reduceSub, Int.reduceMul, Int.reduceNeg, List.reduceReplicate, Int.reduceToNat]
      exact hK f (hU.stop (.inl rfl)) hC
    · rw [run_inLoop]
      have hp := par_lt (Nat.pos_of_ne_zero hi0)
      have c0 : (0 : Int) < (i : Int) := by omega
      have w1 : IntKind.i64.wrap ((i : Int) - 1) = ((i - 1 : Nat) : Int) := by rw [wr64 (by omega) (by omega)]; omega
      have w2 : IntKind.i64.wrap (((i - 1 : Nat) : Int).tdiv 2) = ((par i : Nat) : Int) := by
        have e : ((i - 1 : Nat) : Int).tdiv 2 = ((par i : Nat) : Int) := by
          rw [Int.tdiv_eq_ediv_of_nonneg (by omega)]; unfold par; omega
        rw [e, wr64 (by omega) (by omega)]
      have l1 : (i : Int) < (n : Int) := by omega
      have l2 : ((par i : Nat) : Int) < (n : Int) := by omega
      have p1 : (0 : Int) ≤ (i : Int) := by omega
      have p2 : (0 : Int) ≤ ((par i : Nat) : Int) := by omega
      have g1 : ∀ f', (RC vs n f')[i]? = _ := fun f' => RC_get (f := f') hin
      have g2 : ∀ f', (RC vs n f')[par i]? = _ := fun f' => RC_get (f := f') (show par i < n by omega)
      have hVu : ∀ c, S c → RV nx (upd A g (.cells 84 3 (RC vs n f))) (vs c.r) (xs c.r) := fun c hc => (hV c hc).keep hbn (fun b hb' _ => by rw [upd_app, if_neg (by omega)])
      have hl : ∀ {T : Nat → AV} {dst : Option Nat} {os : List AO} {k : List AItem}, RunCall Cx 47 T [] none 46 [.agg [vs (f i).r, .int .i64 ((f i).a : Int), .int .i64 ((f i).r : Int)], .agg [vs (f (par i)).r, .int .i64 ((f (par i)).a : Int), .int .i64 ((f (par i)).r : Int)]] dst os k ⟨nx, upd A g (.cells 84 3 (RC vs n f))⟩ Q = _ := less_call (hS _ (hC.mem i hin)) (hS _ (hC.mem (par i) (by omega))) (hVu _ (hC.mem i hin)) (hVu _ (hC.mem (par i) (by omega)))
      have hgb : (hb = g) = False := eq_false (by omega)
      cases hlt : ltC xs (f i) (f (par i)) with
      | false =>
        simp only [hlt] at hl
        simp only [t0, t4, hA, hgb, c0, w1, w2, l1, l2, p1, p2, g1, g2, hl, Int.toNat_natCast, xx, run_nil, r47_0, r47_1, r47_2, res47, tt, bb, bc, ↓bd, Nat.reduceEqDiff, Nat.reduceAdd, Nat.reduceMul, Nat.reduceLeDiff, Nat.reduceLT, ↓reduceIte, reduceCtorEq, Nat.reduceBeqDiff, Nat.reduceBneDiff, Int.reduceBNe, Int.reduceBEq, Int.reduceEq, Int.reduceLT, Int.reduceLE, Int.reduceAdd, Int.reduceSub, Int.reduceMul, Int.reduceNeg, List.reduceReplicate, Int.reduceToNat]
        exact hK f (hU.stop (.inr hlt)) hC
      | true =>
        simp only [hlt] at hl
        simp only [t0, t4, hA, hgb, c0, w1, w2, l1, l2, p1, p2, g1, g2, hl, Int.toNat_natCast, RC_set, upd2, swA_eq, xx, run_nil, r47_0, r47_1, r47_2, res47, tt, bb, bc, ↓bd, Nat.reduceEqDiff, Nat.reduceAdd, Nat.reduceMul, Nat.reduceLeDiff, Nat.reduceLT, ↓reduceIte, reduceCtorEq, Nat.reduceBeqDiff, Nat.reduceBneDiff, Int.reduceBNe, Int.reduceBEq, Int.reduceEq, Int.reduceLT, Int.reduceLE, Int.reduceAdd, Int.reduceSub, Int.reduceMul, Int.reduceNeg, List.reduceReplicate, Int.reduceToNat]
        refine ih (par i) _ (swA f i (par i)) (by omega) (by omega) ?_ ?_ (hU.step (ordC xs) (fun j hj => hS _ (hC.mem j hj)) (by omega) hin hlt) (hC.sw hin (by omega))
        all_goals simp only [upd_app, t0, Nat.reduceEqDiff, ↓reduceIte]
theorem upd_back {A : Nat → Blk} {g : Nat} {x : Blk} (h : A g = x) : A = upd A g x := by
  funext c
  rw [upd_app]
  split
  · rename_i e; rw [e, h]
  · rfl
theorem pu_go {vs : Nat → AV} {xs : Nat → List Pr} {hb g nx n : Nat} {A : Nat → Blk} {S : Cur → Prop} {Q : AV → AHeap → Prop} {T : Nat → AV} {f : Nat → Cur} {i : Nat} (hn : n ≤ 100000) (hg : hb < g) (hbn : hb ≤ nx) (hA : A hb = .cells 88 2 [[.slc g 3 0 n, .fn 46 [] []]]) (hAg : A g = .cells 84 3 (RC vs n f)) (hS : ∀ c, S c → OkC xs c) (hV : ∀ c, S c → RV hb A (vs c.r) (xs c.r)) (hin : i < n) (t0 : T 0 = .ptr hb 2 0 0) (t4 : T 4 = .int .i64 (i : Int)) (hU : Up (ltC xs) n f i) (hC : Cont n f S)
    (hK : ∀ f' A', Heap (ltC xs) n f' → Cont n f' S → A' hb = A hb → A' g = .cells 84 3 (RC vs n f') → (∀ c, c ≠ g → A' c = A c) → Q (.tuple []) ⟨nx, A'⟩) :
    Run Cx 47 T [] none [.inLoop c47_8, .inBlock 0] ⟨nx, A⟩ Q := by
  rw [upd_back hAg]
  refine pu_all hn hg hbn hA hS hV ?_ i i T f (Nat.le_refl _) hin t0 t4 hU hC
  intro f' h1 h2
  exact hK f' _ h1 h2 (by rw [upd_app, if_neg (by omega)]) (by simp only [upd_app, ↓reduceIte]) (fun c hc => by rw [upd_app, if_neg hc])
section
variable {fn : FuncId} {T : Nat → AV} {ds : List ADef} {ro : Option Nat} {k : List AItem} {Q : AV → AHeap → Prop} {dst : Option Nat} {os : List AO}
theorem push_call {vs : Nat → AV} {xs : Nat → List Pr} {hb nx n : Nat} {A : Nat → Blk} {f : Nat → Cur} {S : Cur → Prop} {x : Cur} (hn : n ≤ 90000) (hH : HL vs hb nx A n f) (hp : Heap (ltC xs) n f) (hC : Cont n f S) (hS : ∀ c, S c → OkC xs c) (hx : ¬ S x) (hxo : OkC xs x) (hV : ∀ c, c = x ∨ S c → RV hb A (vs c.r) (xs c.r))
    (hk : ∀ nx' A' f', HL vs hb nx' A' (n + 1) f' → Heap (ltC xs) (n + 1) f' → Cont (n + 1) f' (fun c => c = x ∨ S c) → nx ≤ nx' → (∀ c, c < nx → c ≠ hb → c < hb ∨ notCur (A c) → A' c = A c) → RunOps Cx fn (putA T dst (.tuple [])) ds ro os k ⟨nx', A'⟩ Q) :
    RunCall Cx fn T ds ro 47 [.ptr hb 2 0 0, .agg [vs x.r, .int .i64 (x.a : Int), .int .i64 (x.r : Int)]] dst os k ⟨nx, A⟩ Q := by
  refine call_body pure47 (noext _) body47 ?_
  obtain ⟨hbn, hH⟩ := hH
  have e1 : (hb = nx) = False := eq_false (by omega)
  have w1 : IntKind.i64.wrap (((n + 1 : Nat) : Int) - 1) = (n : Int) := by rw [wr64 (by omega) (by omega)]; omega
  have hS' : ∀ c, (c = x ∨ S c) → OkC xs c := by
    rintro c (rfl | h)
    · exact hxo
    · exact hS c h
  rcases hH with ⟨hA, rfl⟩ | ⟨g, N, hA, g1, g2, g3, g4⟩
  · have ha := app_nil (C := Cx) (n := nx + 1) (A := upd A nx (.cells 84 3 [[vs x.r, .int .i64 (x.a : Int), .int .i64 (x.r : Int)]])) (row := [vs x.r, .int .i64 (x.a : Int), .int .i64 (x.r : Int)]) csl cti (show 40 ≤ most by decide)
    have e2 : (hb = nx + 1) = False := eq_false (by omega)
    have e3 : (hb = nx + 1 + 1) = False := eq_false (by omega)
    have w2 : IntKind.i64.wrap 0 = 0 := rfl
    simp only [hA, e1, e2, e3, ha, w2, i64, runVH_some, lenOf, Int.cast_ofNat_Int, r47_0, r47_1.2.1, r47_1.2.2.1, r47_1.2.2.2.1, r47_1.2.2.2.2.1, r47_1.2.2.2.2.2.1, r47_1.2.2.2.2.2.2.1, r47_1.2.2.2.2.2.2.2, r47_2, res47, tt, bb, bc, ↓bd, Nat.reduceEqDiff, Nat.reduceAdd, Nat.reduceMul, Nat.reduceLeDiff, Nat.reduceLT, ↓reduceIte, reduceCtorEq, Nat.reduceBeqDiff, Nat.reduceBneDiff, Int.reduceBNe, Int.reduceBEq, Int.reduceEq, Int.reduceLT, Int.reduceLE, Int.reduceAdd, Int.reduceSub, Int.reduceMul, Int.reduceNeg, List.reduceReplicate, Int.reduceToNat]
    refine pu_go (vs := vs) (xs := xs) (hb := hb) (g := nx + 1 + 1) (n := 1) (i := 0) (f := fun i => if i = 0 then x else f i) (S := fun c => c = x ∨ S c) (by omega) (by omega) (by omega) ?_ ?_ hS' ?_ (by omega) ?_ ?_ (Up.start hp x) (hC.push hx) ?_
    · simp only [upd_app, ↓reduceIte]
    · simp only [upd_app, ↓reduceIte]
      rw [if_neg (by omega)]
      rfl
    · exact fun c hc => (hV c hc).keep (Nat.le_refl _) (fun b hb' _ => by simp only [upd_app]; rw [if_neg (by omega), if_neg (by omega), if_neg (by omega), if_neg (by omega)])
    · simp only [upd_app, enterT, List.getElem?_cons_zero, Option.getD_some, Nat.reduceEqDiff, ↓reduceIte]
    · simp only [upd_app, ↓reduceIte]
      rfl
    · intro f' A' h1 h2 h3 h4 h5
      refine hk _ A' f' ⟨by omega, .inr ⟨nx + 1 + 1, 1, ?_, by omega, by omega, by omega, h4⟩⟩ h1 h2 (by omega) ?_
      · rw [h3]
        simp only [upd_app, ↓reduceIte]
      · intro c hc hch _
        rw [h5 c (by omega)]
        simp only [upd_app]
        rw [if_neg (by omega), if_neg (by omega), if_neg (by omega), if_neg (by omega)]
  · have ha := app_rowT (C := Cx) (g := g) (n := nx + 1) (m := n) (A := upd A nx (.cells 84 3 [[vs x.r, .int .i64 (x.a : Int), .int .i64 (x.r : Int)]])) (es := RC vs N f) (row := [vs x.r, .int .i64 (x.a : Int), .int .i64 (x.r : Int)]) csl cti (by rw [upd_app, if_neg (by omega)]; exact g4) (by omega) (by rw [RC_len]; exact g3) (by unfold most; omega) (by unfold most; omega)
    have hpu : (RC vs N f).take n ++ [[vs x.r, .int .i64 (x.a : Int), .int .i64 (x.r : Int)]] = RC vs (n + 1) (fun i => if i = n then x else f i) := RC_push x g3
    rw [hpu] at ha
    have e2 : (hb = nx + 1) = False := eq_false (by omega)
    have e3 : (hb = nx + 1 + 1) = False := eq_false (by omega)
    have e4 : (hb = g) = False := eq_false (by omega)
    simp only [hA, e1, e2, e3, e4, ha, w1, i64, runVH_some, lenOf, r47_0, r47_1.2.1, r47_1.2.2.1, r47_1.2.2.2.1, r47_1.2.2.2.2.1, r47_1.2.2.2.2.2.1, r47_1.2.2.2.2.2.2.1, r47_1.2.2.2.2.2.2.2, r47_2, res47, tt, bb, bc, ↓bd, Nat.reduceEqDiff, Nat.reduceAdd, Nat.reduceMul, Nat.reduceLeDiff, Nat.reduceLT, ↓reduceIte, reduceCtorEq, Nat.reduceBeqDiff, Nat.reduceBneDiff, Int.reduceBNe, Int.reduceBEq, Int.reduceEq, Int.reduceLT, Int.reduceLE, Int.reduceAdd, Int.reduceSub, Int.reduceMul, Int.reduceNeg, List.reduceReplicate, Int.reduceToNat]
    refine pu_go (vs := vs) (xs := xs) (hb := hb) (g := nx + 1 + 1) (n := n + 1) (i := n) (f := fun i => if i = n then x else f i) (S := fun c => c = x ∨ S c) (by omega) (by omega) (by omega) ?_ ?_ hS' ?_ (by omega) ?_ ?_ (Up.start hp x) (hC.push hx) ?_
    · simp only [upd_app, ↓reduceIte]
    · simp only [upd_app, ↓reduceIte]
      rw [if_neg (by omega)]
    · exact fun c hc => (hV c hc).keep (Nat.le_refl _) (fun b hb' _ => by simp only [upd_app]; rw [if_neg (by omega), if_neg (by omega), if_neg (by omega), if_neg (by omega), if_neg (by omega)])
    · simp only [upd_app, enterT, List.getElem?_cons_zero, Option.getD_some, Nat.reduceEqDiff, ↓reduceIte]
    · simp only [upd_app, ↓reduceIte]
    · intro f' A' h1 h2 h3 h4 h5
      refine hk _ A' f' ⟨by omega, .inr ⟨nx + 1 + 1, n + 1, ?_, by omega, by omega, by omega, h4⟩⟩ h1 h2 (by omega) ?_
      · rw [h3]
        simp only [upd_app, ↓reduceIte]
      · intro c hc hch hcc
        have hcg : c ≠ g := by
          rintro rfl
          rcases hcc with h | h
          · omega
          · exact h _ g4
        rw [h5 c (by omega)]
        simp only [upd_app]
        rw [if_neg (by omega), if_neg (by omega), if_neg hcg, if_neg (by omega), if_neg (by omega)]
end
end Go.Proofs.Ytjnopnlgcmlkfaa.G

namespace Go.Proofs.Ytjnopnlgcmlkfaa.G
open Go.BX
set_option linter.unusedSimpArgs false
set_option linter.unusedVariables false
theorem goto41 {T : Nat → AV} {ds : List ADef} {ro : Option Nat} {H : AHeap} {Q : AV → AHeap → Prop} {k : List AItem} {c : AC} : Run Cx 48 T ds ro (.code c48_34 :: .code c :: .inScope c48_3 :: k) H Q = Run Cx 48 T ds ro (.code c48_15 :: .inScope c48_3 :: k) H Q := by
  unfold c48_34
  rw [run_goto (k' := .code (.seq .skip c48_15) :: .inScope c48_3 :: k) rfl, run_seq, run_skip]
theorem pp_all {vs : Nat → AV} {xs : Nat → List Pr} {hb g nx n N x : Nat} {A : Nat → Blk} {S : Cur → Prop} {Q : AV → AHeap → Prop} (hn : n ≤ 100000) (hnN : n ≤ N) (hg : hb < g) (hbn : hb ≤ nx) (hA : A hb = .cells 88 2 [[.slc g 3 0 n, .fn 46 [] []]]) (hS : ∀ c, S c → OkC xs c) (hV : ∀ c, S c → RV hb A (vs c.r) (xs c.r))
    (hK : ∀ (T : Nat → AV) f', T 2 = .ptr x 3 0 0 → T 3 = .ptr (x + 1) 3 0 0 → Heap (ltC xs) n f' → Cont n f' S → Run Cx 48 T [] none [.code c48_37, .inScope c48_3] ⟨nx, upd A g (.cells 84 3 (RC vs N f'))⟩ Q) :
    ∀ (m j : Nat) (T : Nat → AV) (f : Nat → Cur), n ≤ m + j → j ≤ n → T 0 = .ptr hb 2 0 0 → T 2 = .ptr x 3 0 0 → T 3 = .ptr (x + 1) 3 0 0 → T 4 = .int .i64 (n : Int) → T 5 = .int .i64 (j : Int) → (j < n → Dn (ltC xs) n f j) → (j = n → n = 0) → Cont n f S →
      Run Cx 48 T [] none [.code c48_15, .inScope c48_3] ⟨nx, upd A g (.cells 84 3 (RC vs N f))⟩ Q := by
  intro m
  induction m with
  | zero =>
    intro j T f hm hj t0 t2 t3 t4 t5 hD h0 hC
    have hn0 : n = 0 := h0 (by omega)
    subst hn0
    obtain rfl : j = 0 := by omega
    replace t5 : T 5 = .int .i64 0 := t5
    replace t4 : T 4 = .int .i64 0 := t4
    simp only [t0, t2, t3, t4, t5, xx, show IntKind.i64.wrap 0 = 0 from rfl, show IntKind.i64.wrap 1 = 1 from rfl, r48_0, r48_1, r48_2, r48_3, r48_4.1, r48_4.2.1, r48_4.2.2.1, r48_4.2.2.2.1, r48_4.2.2.2.2.2.1, r48_4.2.2.2.2.2.2, res48, tt, bb, bc, ↓bd, Nat.reduceEqDiff, Nat.reduceAdd, Nat.reduceMul, Nat.reduceLeDiff, Nat.reduceLT, ↓reduceIte, reduceCtorEq, Nat.reduceBeqDiff, Nat.reduceBneDiff, Int.reduceBNe, Int.reduceBEq, Int.reduceEq, Int.reduceLT, Int.reduceLE, Int.reduceAdd, Int.reduceSub, Int.reduceMul, Int.reduceNeg, List.reduceReplicate, Int.reduceToNat]
    refine hK _ f ?_ ?_ (fun i h0 hi => by omega) hC
    all_goals simp only [upd_app, t2, t3, Nat.reduceEqDiff, ↓reduceIte]
  | succ m ih =>
    intro j T f hm hj t0 t2 t3 t4 t5 hD h0 hC
    have w1 : IntKind.i64.wrap (2 * (j : Int)) = 2 * (j : Int) := wr64 (by omega) (by omega)
    have w2 : IntKind.i64.wrap (2 * (j : Int) + 1) = ((2 * j + 1 : Nat) : Int) := by rw [wr64 (by omega) (by omega)]; omega
    by_cases hk : 2 * j + 1 < n
    · have hjn : j < n := by omega
      have hD' := hD hjn
      have c0 : ((2 * j + 1 : Nat) : Int) < (n : Int) := by omega
      have hgb : (hb = g) = False := eq_false (by omega)
      have hVu : ∀ c, S c → RV nx (upd A g (.cells 84 3 (RC vs N f))) (vs c.r) (xs c.r) := fun c hc => (hV c hc).keep hbn (fun b hb' _ => by rw [upd_app, if_neg (by omega)])
      have hlc : ∀ c d, S c → S d → ∀ {T : Nat → AV} {dst : Option Nat} {os : List AO} {k : List AItem}, RunCall Cx 48 T [] none 46 [.agg [vs c.r, .int .i64 (c.a : Int), .int .i64 (c.r : Int)], .agg [vs d.r, .int .i64 (d.a : Int), .int .i64 (d.r : Int)]] dst os k ⟨nx, upd A g (.cells 84 3 (RC vs N f))⟩ Q = RunOps Cx 48 (putA T dst (.bool (ltC xs c d))) [] none os k ⟨nx, upd A g (.cells 84 3 (RC vs N f))⟩ Q := fun c d hc hd => less_call (hS c hc) (hS d hd) (hVu c hc) (hVu d hd)
      have hirr : ∀ c, S c → ltC xs c c = false := fun c hc => by
        cases h : ltC xs c c with
        | false => rfl
        | true =>
          have := (ordC xs).asym c c (hS c hc) (hS c hc) h
          rw [h] at this; cases this
      have second : ∀ (kk : Nat) (T : Nat → AV), kk < n → par kk = j → 0 < kk → (∀ i, 0 < i → i < n → par i = j → ltC xs (f i) (f kk) = false) → T 0 = .ptr hb 2 0 0 → T 2 = .ptr x 3 0 0 → T 3 = .ptr (x + 1) 3 0 0 → T 4 = .int .i64 (n : Int) → T 5 = .int .i64 (j : Int) → T 6 = .int .i64 (kk : Int) →
          Run Cx 48 T [] none [.code c48_27, .code c48_37, .inScope c48_3] ⟨nx, upd A g (.cells 84 3 (RC vs N f))⟩ Q := by
        intro kk T hkk hpk hk0 hmin t0 t2 t3 t4 t5 t6
        have l1 : (kk : Int) < (n : Int) := by omega
        have l2 : (j : Int) < (n : Int) := by omega
        have p1 : (0 : Int) ≤ (kk : Int) := by omega
        have p2 : (0 : Int) ≤ (j : Int) := by omega
        have g1 : ∀ f', (RC vs N f')[kk]? = _ := fun f' => RC_get (f := f') (show kk < N by omega)
        have g2 : ∀ f', (RC vs N f')[j]? = _ := fun f' => RC_get (f := f') (show j < N by omega)
        have hl := fun {T} {dst} {os} {k} => hlc _ _ (hC.mem kk hkk) (hC.mem j hjn) (T := T) (dst := dst) (os := os) (k := k)
        cases hlt : ltC xs (f kk) (f j) with
        | false =>
          simp only [hlt] at hl
          simp only [t0, t2, t3, t4, t5, t6, hA, hgb, l1, l2, p1, p2, g1, g2, hl, Int.toNat_natCast, xx, r48_0, r48_1, r48_2, r48_3, r48_4.1, r48_4.2.1, r48_4.2.2.1, r48_4.2.2.2.1, r48_4.2.2.2.2.2.1, r48_4.2.2.2.2.2.2, res48, tt, bb, bc, ↓bd, Nat.reduceEqDiff, Nat.reduceAdd, Nat.reduceMul, Nat.reduceLeDiff, Nat.reduceLT, ↓reduceIte, reduceCtorEq, Nat.reduceBeqDiff, Nat.reduceBneDiff, Int.reduceBNe, Int.reduceBEq, Int.reduceEq, Int.reduceLT, Int.reduceLE, Int.reduceAdd, Int.reduceSub, Int.reduceMul, Int.reduceNeg, List.reduceReplicate, Int.reduceToNat]
          refine hK _ f ?_ ?_ (hD'.stop (ordC xs) (fun i hi => hS _ (hC.mem i hi)) hjn (.inr ⟨kk, hkk, hpk, hk0, hmin, hlt⟩)) hC
          all_goals simp only [upd_app, t2, t3, Nat.reduceEqDiff, ↓reduceIte]
        | true =>
          simp only [hlt] at hl
          simp only [t0, t2, t3, t4, t5, t6, hA, hgb, l1, l2, p1, p2, g1, g2, hl, Int.toNat_natCast, RC_set, upd2, swA_eq, goto41, xx, r48_0, r48_1.1, r48_1.2.1, r48_1.2.2.1, r48_1.2.2.2.1, r48_1.2.2.2.2.1, r48_1.2.2.2.2.2.1, r48_1.2.2.2.2.2.2.1, r48_2, r48_3, r48_4.1, r48_4.2.1, r48_4.2.2.1, r48_4.2.2.2.1, r48_4.2.2.2.2.2.1, r48_4.2.2.2.2.2.2, res48, tt, bb, bc, ↓bd, Nat.reduceEqDiff, Nat.reduceAdd, Nat.reduceMul, Nat.reduceLeDiff, Nat.reduceLT, ↓reduceIte, reduceCtorEq, Nat.reduceBeqDiff, Nat.reduceBneDiff, Int.reduceBNe, Int.reduceBEq, Int.reduceEq, Int.reduceLT, Int.reduceLE, Int.reduceAdd, Int.reduceSub, Int.reduceMul, Int.reduceNeg, List.reduceReplicate, Int.reduceToNat]
          have hpl := par_lt hk0
          refine ih kk _ (swA f j kk) (by omega) (by omega) ?_ ?_ ?_ ?_ ?_ (fun _ => hD'.step (ordC xs) (fun i hi => hS _ (hC.mem i hi)) hkk hpk hk0 hmin hlt) (fun e => by omega) (hC.sw hjn hkk)
          all_goals simp only [upd_app, t0, t2, t3, t4, Nat.reduceEqDiff, ↓reduceIte]
      have p1 : (0 : Int) ≤ ((2 * j + 1 : Nat) : Int) := by omega
      have g1 : ∀ f', (RC vs N f')[2 * j + 1]? = _ := fun f' => RC_get (f := f') (show 2 * j + 1 < N by omega)
      have w3 : IntKind.i64.wrap (((2 * j + 1 : Nat) : Int) + 1) = ((2 * j + 2 : Nat) : Int) := by rw [wr64 (by omega) (by omega)]; omega
      have pk1 : par (2 * j + 1) = j := by unfold par; omega
      have pk2 : par (2 * j + 2) = j := by unfold par; omega
      have pch : ∀ i, 0 < i → par i = j → i = 2 * j + 1 ∨ i = 2 * j + 2 := fun i hi e => by unfold par at e; omega
      by_cases hk2 : 2 * j + 2 < n
      · have c1 : ((2 * j + 2 : Nat) : Int) < (n : Int) := by omega
        have p2 : (0 : Int) ≤ ((2 * j + 2 : Nat) : Int) := by omega
        have g2 : ∀ f', (RC vs N f')[2 * j + 2]? = _ := fun f' => RC_get (f := f') (show 2 * j + 2 < N by omega)
        have hl := fun {T} {dst} {os} {k} => hlc _ _ (hC.mem (2 * j + 2) hk2) (hC.mem (2 * j + 1) hk) (T := T) (dst := dst) (os := os) (k := k)
        cases hlt : ltC xs (f (2 * j + 2)) (f (2 * j + 1)) with
        | false =>
          simp only [hlt] at hl
          simp only [t0, t2, t3, t4, t5, hA, hgb, w1, w2, w3, c0, c1, p1, p2, g1, g2, hl, Int.toNat_natCast, xx, r48_0, r48_1, r48_2, r48_3.1, r48_3.2.1, r48_3.2.2.1, r48_3.2.2.2.2.1, r48_3.2.2.2.2.2.1, r48_3.2.2.2.2.2.2.1, r48_3.2.2.2.2.2.2.2, r48_4.1, r48_4.2.1, r48_4.2.2.1, r48_4.2.2.2.1, r48_4.2.2.2.2.2.1, r48_4.2.2.2.2.2.2, res48, tt, bb, bc, ↓bd, Nat.reduceEqDiff, Nat.reduceAdd, Nat.reduceMul, Nat.reduceLeDiff, Nat.reduceLT, ↓reduceIte, reduceCtorEq, Nat.reduceBeqDiff, Nat.reduceBneDiff, Int.reduceBNe, Int.reduceBEq, Int.reduceEq, Int.reduceLT, Int.reduceLE, Int.reduceAdd, Int.reduceSub, Int.reduceMul, Int.reduceNeg, List.reduceReplicate, Int.reduceToNat]
          refine second (2 * j + 1) _ hk pk1 (by omega) ?_ ?_ ?_ ?_ ?_ ?_ ?_
          · intro i hi hin he
            rcases pch i hi he with rfl | rfl
            · exact hirr _ (hC.mem _ hk)
            · exact hlt
          all_goals simp only [upd_app, t0, t2, t3, t4, t5, Nat.reduceEqDiff, ↓reduceIte]
        | true =>
          simp only [hlt] at hl
          simp only [t0, t2, t3, t4, t5, hA, hgb, w1, w2, w3, c0, c1, p1, p2, g1, g2, hl, Int.toNat_natCast, xx, r48_0, r48_1, r48_2, r48_3.1, r48_3.2.1, r48_3.2.2.1, r48_3.2.2.2.2.1, r48_3.2.2.2.2.2.1, r48_3.2.2.2.2.2.2.1, r48_3.2.2.2.2.2.2.2, r48_4.1, r48_4.2.1, r48_4.2.2.1, r48_4.2.2.2.1, r48_4.2.2.2.2.2.1, r48_4.2.2.2.2.2.2, res48, tt, bb, bc, ↓bd, Nat.reduceEqDiff, Nat.reduceAdd, Nat.reduceMul, Nat.reduceLeDiff, Nat.reduceLT, ↓reduceIte, reduceCtorEq, Nat.reduceBeqDiff, Nat.reduceBneDiff, Int.reduceBNe, Int.reduceBEq, Int.reduceEq, Int.reduceLT, Int.reduceLE, Int.reduceAdd, Int.reduceSub, Int.reduceMul, Int.reduceNeg, List.reduceReplicate, Int.reduceToNat]
          refine second (2 * j + 2) _ hk2 pk2 (by omega) ?_ ?_ ?_ ?_ ?_ ?_ ?_
          · intro i hi hin he
            rcases pch i hi he with rfl | rfl
            · exact (ordC xs).asym _ _ (hS _ (hC.mem _ hk2)) (hS _ (hC.mem _ hk)) hlt
            · exact hirr _ (hC.mem _ hk2)
          all_goals simp only [upd_app, t0, t2, t3, t4, t5, Nat.reduceEqDiff, ↓reduceIte]
      · have c1 : ¬ ((2 * j + 2 : Nat) : Int) < (n : Int) := by omega
        simp only [t0, t2, t3, t4, t5, hA, hgb, w1, w2, w3, c0, c1, Int.toNat_natCast, xx, r48_0, r48_1, r48_2, r48_3.1, r48_3.2.1, r48_3.2.2.1, r48_3.2.2.2.2.1, r48_3.2.2.2.2.2.1, r48_3.2.2.2.2.2.2.1, r48_3.2.2.2.2.2.2.2, r48_4.1, r48_4.2.1, r48_4.2.2.1, r48_4.2.2.2.1, r48_4.2.2.2.2.2.1, r48_4.2.2.2.2.2.2, res48, tt, bb, bc, ↓bd, Nat.reduceEqDiff, Nat.reduceAdd, Nat.reduceMul, Nat.reduceLeDiff, Nat.reduceLT, ↓reduceIte, reduceCtorEq, Nat.reduceBeqDiff, Nat.reduceBneDiff, Int.reduceBNe, Int.reduceBEq, Int.reduceEq, Int.reduceLT, Int.reduceLE, Int.reduceAdd, Int.reduceSub, Int.reduceMul, Int.reduceNeg, List.reduceReplicate, Int.reduceToNat]
        refine second (2 * j + 1) _ hk pk1 (by omega) ?_ ?_ ?_ ?_ ?_ ?_ ?_
        · intro i hi hin he
          rcases pch i hi he with rfl | rfl
          · exact hirr _ (hC.mem _ hk)
          · omega
        all_goals simp only [upd_app, t0, t2, t3, t4, t5, Nat.reduceEqDiff, ↓reduceIte]
    · have c0 : ¬ ((2 * j + 1 : Nat) : Int) < (n : Int) := by omega
      simp only [t0, t2, t3, t4, t5, w1, w2, c0, xx, r48_0, r48_1, r48_2, r48_3, r48_4.1, r48_4.2.1, r48_4.2.2.1, r48_4.2.2.2.1, r48_4.2.2.2.2.2.1, r48_4.2.2.2.2.2.2, res48, tt, bb, bc, ↓bd, Nat.reduceEqDiff, Nat.reduceAdd, Nat.reduceMul, Nat.reduceLeDiff, Nat.reduceLT, ↓reduceIte, reduceCtorEq, Nat.reduceBeqDiff, Nat.reduceBneDiff, Int.reduceBNe, Int.reduceBEq, Int.reduceEq, Int.reduceLT, Int.reduceLE, Int.reduceAdd, Int.reduceSub, Int.reduceMul, Int.reduceNeg, List.reduceReplicate, Int.reduceToNat]
      refine hK _ f ?_ ?_ ?_ hC
      · simp only [upd_app, t2, Nat.reduceEqDiff, ↓reduceIte]
      · simp only [upd_app, t3, Nat.reduceEqDiff, ↓reduceIte]
      · by_cases hjn : j < n
        · exact (hD hjn).stop (ordC xs) (fun i hi => hS _ (hC.mem i hi)) hjn (.inl (by omega))
        · have := h0 (by omega)
          exact fun i h0 hi => by omega
section
variable {fn : FuncId} {T : Nat → AV} {ds : List ADef} {ro : Option Nat} {k : List AItem} {Q : AV → AHeap → Prop} {dst : Option Nat} {os : List AO}
theorem pop_call {vs : Nat → AV} {xs : Nat → List Pr} {hb nx n : Nat} {A : Nat → Blk} {f : Nat → Cur} {S : Cur → Prop} (hn : n ≤ 90000) (hH : HL vs hb nx A (n + 1) f) (hp : Heap (ltC xs) (n + 1) f) (hC : Cont (n + 1) f S) (hS : ∀ c, S c → OkC xs c) (hV : ∀ c, S c → RV hb A (vs c.r) (xs c.r))
    (hk : ∀ x nx' A' f', S x → (∀ c, S c → ltC xs c x = false) → HL vs hb nx' A' n f' → Heap (ltC xs) n f' → Cont n f' (fun c => S c ∧ c ≠ x) → nx ≤ nx' → (∀ c, c < nx → c ≠ hb → c < hb ∨ notCur (A c) → A' c = A c) → RunOps Cx fn (putA T dst (.agg [vs x.r, .int .i64 (x.a : Int), .int .i64 (x.r : Int)])) ds ro os k ⟨nx', A'⟩ Q) :
    RunCall Cx fn T ds ro 48 [.ptr hb 2 0 0] dst os k ⟨nx, A⟩ Q := by
  refine call_body pure48 (noext _) body48 ?_
  obtain ⟨hbn, hH⟩ := hH
  rcases hH with ⟨hA, h0⟩ | ⟨g, N, hA, g1, g2, g3, g4⟩
  · omega
  have e1 : (hb = nx) = False := eq_false (by omega)
  have e2 : (hb = nx + 1) = False := eq_false (by omega)
  have e3 : (g = nx) = False := eq_false (by omega)
  have e4 : (g = nx + 1) = False := eq_false (by omega)
  have e5 : (hb = g) = False := eq_false (by omega)
  have e6 : (g = hb) = False := eq_false (by omega)
  have w1 : IntKind.i64.wrap (((n + 1 : Nat) : Int) - 1) = (n : Int) := by rw [wr64 (by omega) (by omega)]; omega
  have l0 : (0 : Int) < ((n + 1 : Nat) : Int) := by omega
  have l1 : (n : Int) < ((n + 1 : Nat) : Int) := by omega
  have l2 : (n : Int) ≤ ((n + 1 : Nat) : Int) := by omega
  have p1 : (0 : Int) ≤ (n : Int) := by omega
  have q0 : ∀ f', (RC vs N f')[0]? = _ := fun f' => RC_get (f := f') (show 0 < N by omega)
  have q1 : ∀ f', (RC vs N f')[n]? = _ := fun f' => RC_get (f := f') (show n < N by omega)
  have hSx := hC.mem 0 (by omega)
  have hmin : ∀ c, S c → ltC xs c (f 0) = false := by
    intro c hc
    obtain ⟨i, hi, rfl⟩ := hC.all c hc
    by_cases e : i = 0
    · subst e
      cases h : ltC xs (f 0) (f 0) with
      | false => rfl
      | true =>
        have := (ordC xs).asym _ _ (hS _ hSx) (hS _ hSx) h
        rw [h] at this; cases this
    · exact hp.root (ordC xs) (fun i hi => hS _ (hC.mem i hi)) i i (Nat.le_refl _) (by omega) hi
  have e7 : (nx = nx + 1) = False := eq_false (by omega)
  have e8 : (nx + 1 = nx) = False := eq_false (by omega)
  have e9 : (nx = hb) = False := eq_false (by omega)
  have e10 : (nx + 1 = hb) = False := eq_false (by omega)
  have e11 : (nx = g) = False := eq_false (by omega)
  have e12 : (nx + 1 = g) = False := eq_false (by omega)
  simp only [hA, g4, e1, e2, e3, e4, e5, e6, e7, e8, e9, e10, e11, e12, w1, l0, l1, l2, p1, q0, q1, lenOf, i64, RC_set, sliceA, bnds, bound, evo, Int.toNat_natCast, Nat.sub_zero, Nat.zero_le, r48_0, r48_1.1, r48_1.2.1, r48_1.2.2.1, r48_1.2.2.2.1, r48_1.2.2.2.2.1, r48_1.2.2.2.2.2.1, r48_1.2.2.2.2.2.2.1, r48_2, r48_3, r48_4, res48, tt, bb, bc, ↓bd, Nat.reduceEqDiff, Nat.reduceAdd, Nat.reduceMul, Nat.reduceLeDiff, Nat.reduceLT, ↓reduceIte, reduceCtorEq, Nat.reduceBeqDiff, Nat.reduceBneDiff, Int.reduceBNe, Int.reduceBEq, Int.reduceEq, Int.reduceLT, Int.reduceLE, Int.reduceAdd, Int.reduceSub, Int.reduceMul, Int.reduceNeg, List.reduceReplicate, Int.reduceToNat]
  generalize hA1 : upd (upd (upd (upd (upd A nx _) (nx + 1) _) (nx + 1) _) g _) hb _ = A1
  have b1 : A1 hb = .cells 88 2 [[.slc g 3 0 n, .fn 46 [] []]] := by
    rw [← hA1]; simp only [upd_app, ↓reduceIte]
  have b2 : A1 g = .cells 84 3 (RC vs N (fun i => if i = 0 then f n else f i)) := by
    rw [← hA1]; simp only [upd_app, e6, ↓reduceIte]
  have b3 : A1 (nx + 1) = .cells 84 3 [[vs (f 0).r, .int .i64 ((f 0).a : Int), .int .i64 ((f 0).r : Int)]] := by
    rw [← hA1]; simp only [upd_app, e10, e12, ↓reduceIte]
  have b4 : A1 nx = .cells 84 3 [[.nilS, .int .i64 0, .int .i64 0]] := by
    rw [← hA1]; simp only [upd_app, e7, e9, e11, ↓reduceIte]
  have b5 : ∀ c, c < nx → c ≠ hb → c ≠ g → A1 c = A c := by
    intro c hc h1 h2
    rw [← hA1]
    simp only [upd_app]
    rw [if_neg (by omega), if_neg (by omega), if_neg (by omega), if_neg (by omega), if_neg (by omega)]
  clear hA1
  rw [upd_back b2]
  refine pp_all (x := nx) (S := fun c => S c ∧ c ≠ f 0) (by omega) (show n ≤ N by omega) (by omega) (by omega) b1 (fun c hc => hS c hc.1) (fun c hc => (hV c hc.1).keep (Nat.le_refl _) (fun b hb' _ => b5 b (by omega) (by omega) (by omega))) ?_ n 0 _ _ (by omega) (Nat.zero_le _) ?_ ?_ ?_ ?_ ?_ (fun _ => Dn.start hp (f n)) (fun e => by omega) hC.pop
  · intro T' f' t2 t3 h1 h2
    simp only [t2, t3, b3, b4, e7, e8, e11, e12, run_inScope, run_nil, r48_0, r48_1, r48_2, r48_3, r48_4, res48, tt, bb, bc, ↓bd, Nat.reduceEqDiff, Nat.reduceAdd, Nat.reduceMul, Nat.reduceLeDiff, Nat.reduceLT, ↓reduceIte, reduceCtorEq, Nat.reduceBeqDiff, Nat.reduceBneDiff, Int.reduceBNe, Int.reduceBEq, Int.reduceEq, Int.reduceLT, Int.reduceLE, Int.reduceAdd, Int.reduceSub, Int.reduceMul, Int.reduceNeg, List.reduceReplicate, Int.reduceToNat]
    refine hk (f 0) _ _ f' hSx hmin ⟨by omega, .inr ⟨g, N, ?_, g1, by omega, by omega, ?_⟩⟩ h1 h2 (by omega) ?_
    · simp only [upd_app, e1, e5, ↓reduceIte]
      exact b1
    · simp only [upd_app, e3, ↓reduceIte]
    · intro c hc hch hcc
      have hcg : c ≠ g := by
        rintro rfl
        rcases hcc with h | h
        · omega
        · exact h _ g4
      simp only [upd_app]
      rw [if_neg (by omega), if_neg hcg]
      exact b5 c hc hch hcg
  all_goals simp only [upd_app, enterT, List.getElem?_cons_zero, Option.getD_some, Nat.reduceEqDiff, ↓reduceIte]
  all_goals rfl
end
end Go.Proofs.Ytjnopnlgcmlkfaa.G

namespace Go.Proofs.Ytjnopnlgcmlkfaa.G
open Go.BX
set_option linter.unusedSimpArgs false
set_option linter.unusedVariables false
def rest (xs : Nat → List Pr) (R : Nat) (pos : Nat → Nat) : List Pr := (List.range R).flatMap fun r => (xs r).drop (pos r)
def Sp (xs : Nat → List Pr) (R : Nat) (pos : Nat → Nat) (c : Cur) : Prop := c.r < R ∧ c.a = pos c.r ∧ c.a < (xs c.r).length
def adv (pos : Nat → Nat) (r : Nat) : Nat → Nat := fun i => if i = r then pos r + 1 else pos i
theorem ofKey_flat (κ : Bytes) (f : Nat → List Pr) : ∀ l : List Nat, ofKey κ (l.flatMap f) = l.flatMap fun r => ofKey κ (f r)
  | [] => rfl
  | x :: l => by
    rw [List.flatMap_cons, List.flatMap_cons, ofKey_app, ofKey_flat κ f l]
theorem flat_split {R r0 : Nat} (h : r0 < R) (f : Nat → List Pr) : (List.range R).flatMap f = (List.range r0).flatMap f ++ (f r0 ++ ((List.range (R - r0 - 1)).map (fun i => r0 + 1 + i)).flatMap f) := by
  have e : R = (r0 + 1) + (R - r0 - 1) := by omega
  conv => lhs; rw [e, List.range_add, List.range_succ]
  rw [List.flatMap_append, List.flatMap_append]
  simp
theorem flat_nil {f : Nat → List Pr} {l : List Nat} (h : ∀ r, r ∈ l → f r = []) : l.flatMap f = [] := by
  rw [List.flatMap_eq_nil_iff]
  exact h
theorem flat_congr {f g : Nat → List Pr} {l : List Nat} (h : ∀ r, r ∈ l → f r = g r) : l.flatMap f = l.flatMap g := by
  induction l with
  | nil => rfl
  | cons x l ih =>
    rw [List.flatMap_cons, List.flatMap_cons, h x (by simp), ih (fun r hr => h r (by simp [hr]))]
theorem mem_of_sort {l m : List Pr} (h : IsSort l m) {p : Pr} (hp : p ∈ m) : p ∈ l := by
  have : p ∈ ofKey p.key m := mem_ofKey.mpr hp
  rw [h.keys] at this
  exact mem_ofKey.mp this
theorem ky_eq {xs : Nat → List Pr} {c : Cur} (h : c.a < (xs c.r).length) : ky xs c = ((xs c.r)[c.a]).key := by
  unfold ky; rw [fnOf_get h]
theorem sorted_ge {l : List Pr} (hs : l.Pairwise fun p q => ltP q p = false) {a : Nat} (h : a < l.length) {q : Pr} (hq : q ∈ l.drop a) : lessB q.key (l[a]).key = false := by
  obtain ⟨i, hi, rfl⟩ := List.getElem_of_mem hq
  rw [List.length_drop] at hi
  rw [List.getElem_drop]
  by_cases e : i = 0
  · subst e
    exact bl_irr _
  · exact List.pairwise_iff_getElem.mp hs a (a + i) h (by omega) (by omega)
theorem pick {xs : Nat → List Pr} {R : Nat} {pos : Nat → Nat} {x : Cur} {m : List Pr} (hs : ∀ r, r < R → (xs r).Pairwise fun p q => ltP q p = false) (hx : Sp xs R pos x) (hmin : ∀ c, Sp xs R pos c → ltC xs c x = false) (hm : IsSort (rest xs R pos) m) (hlen : (rest xs R pos).length ≤ 100000) :
    ∃ m', m = (xs x.r)[x.a]'hx.2.2 :: m' ∧ IsSort (rest xs R (adv pos x.r)) m' := by
  obtain ⟨hxR, hxa, hxl⟩ := hx
  generalize hp : (xs x.r)[x.a] = p
  have hkx : ky xs x = p.key := by rw [ky_eq hxl, hp]
  have hge : ∀ r, r < R → ∀ q, q ∈ (xs r).drop (pos r) → lessB q.key p.key = false ∧ (r < x.r → q.key ≠ p.key) := by
    intro r hr q hq
    have hl : pos r < (xs r).length := by
      rw [← Decidable.not_not (p := pos r < (xs r).length)]
      intro h
      rw [List.drop_of_length_le (by omega)] at hq
      cases hq
    have hc := hmin ⟨r, pos r⟩ ⟨hr, rfl, hl⟩
    rw [ltC_false, hkx, ky_eq (c := ⟨r, pos r⟩) hl] at hc
    have hq' := sorted_ge (hs r hr) hl hq
    refine ⟨bl_le hc.1 hq', fun hlt e => ?_⟩
    have e2 : ((xs r)[pos r]).key = p.key := by
      refine bl_tot _ _ hc.1 ?_
      rw [← e]; exact hq'
    have := hc.2 e2
    simp only at this
    omega
  have hd : (xs x.r).drop (pos x.r) = p :: (xs x.r).drop (pos x.r + 1) := by
    subst hp
    rw [← hxa]
    exact List.drop_eq_getElem_cons hxl
  have hadv : ∀ r, r ≠ x.r → adv pos x.r r = pos r := fun r hr => by unfold adv; rw [if_neg hr]
  have hadv' : adv pos x.r x.r = pos x.r + 1 := by unfold adv; rw [if_pos rfl]
  have hlen' : (rest xs R pos).length = (rest xs R (adv pos x.r)).length + 1 := by
    unfold rest
    rw [flat_split hxR, flat_split hxR (fun r => (xs r).drop (adv pos x.r r))]
    rw [flat_congr (f := fun r => (xs r).drop (adv pos x.r r)) (g := fun r => (xs r).drop (pos r)) (l := List.range x.r) (fun r hr => by rw [hadv r (by have := List.mem_range.mp hr; omega)])]
    rw [flat_congr (f := fun r => (xs r).drop (adv pos x.r r)) (g := fun r => (xs r).drop (pos r)) (l := (List.range (R - x.r - 1)).map _) (fun r hr => by
      obtain ⟨i, _, rfl⟩ := List.mem_map.mp hr
      rw [hadv _ (by omega)])]
    simp only [hadv', hd, List.length_append, List.length_cons]
    omega
  obtain ⟨m', w, hm', _, _⟩ := RefSort_ok (l := rest xs R (adv pos x.r)) (.inr (.inr rfl)) (by omega)
  refine ⟨m', ?_, hm'⟩
  refine hm.uniq ⟨fun κ => ?_, ?_, ?_⟩
  · rw [show p :: m' = [p] ++ m' from rfl, ofKey_app, hm'.keys]
    unfold rest
    rw [ofKey_flat, ofKey_flat, flat_split hxR, flat_split hxR (fun r => ofKey κ ((xs r).drop (pos r)))]
    rw [flat_congr (f := fun r => ofKey κ ((xs r).drop (adv pos x.r r))) (g := fun r => ofKey κ ((xs r).drop (pos r))) (l := List.range x.r) (fun r hr => by rw [hadv r (by have := List.mem_range.mp hr; omega)])]
    rw [flat_congr (f := fun r => ofKey κ ((xs r).drop (adv pos x.r r))) (g := fun r => ofKey κ ((xs r).drop (pos r))) (l := (List.range (R - x.r - 1)).map _) (fun r hr => by
      obtain ⟨i, _, rfl⟩ := List.mem_map.mp hr
      rw [hadv _ (by omega)])]
    simp only [hadv', hd]
    rw [show p :: (xs x.r).drop (pos x.r + 1) = [p] ++ (xs x.r).drop (pos x.r + 1) from rfl, ofKey_app]
    by_cases e : p.key = κ
    · have : (List.range x.r).flatMap (fun r => ofKey κ ((xs r).drop (pos r))) = [] := by
        refine flat_nil fun r hr => ofKey_none fun q hq e2 => ?_
        have hr' := List.mem_range.mp hr
        exact (hge r (by omega) q hq).2 hr' (e2.trans e.symm)
      rw [this]
      simp
    · have : ofKey κ [p] = [] := ofKey_none fun q hq e2 => by
        simp only [List.mem_singleton] at hq
        subst hq; exact e e2
      rw [this]
      simp
  · refine List.pairwise_cons.mpr ⟨fun q hq => ?_, hm'.ord⟩
    have hq' := mem_of_sort hm' hq
    unfold rest at hq'
    obtain ⟨r, hr, hqr⟩ := List.mem_flatMap.mp hq'
    have hr' := List.mem_range.mp hr
    by_cases e : r = x.r
    · subst e
      rw [hadv'] at hqr
      exact (hge _ hr' q (by rw [hd]; exact List.mem_cons_of_mem _ hqr)).1
    · rw [hadv r e] at hqr
      exact (hge r hr' q hqr).1
  · rw [List.length_cons, hm'.len, hlen']
theorem Sp_next {xs : Nat → List Pr} {R : Nat} {pos : Nat → Nat} {x : Cur} (hx : Sp xs R pos x) (c : Cur) : Sp xs R (adv pos x.r) c ↔ ((x.a + 1 < (xs x.r).length ∧ c = ⟨x.r, x.a + 1⟩) ∨ (Sp xs R pos c ∧ c ≠ x)) := by
  obtain ⟨h1, h2, h3⟩ := hx
  obtain ⟨r, a⟩ := c
  obtain ⟨r0, a0⟩ := x
  simp only at h1 h2 h3
  subst h2
  unfold Sp adv
  simp only [Cur.mk.injEq, ne_eq]
  by_cases e : r = r0
  · subst e
    simp only [if_true, true_and]
    constructor
    · rintro ⟨h4, rfl, h5⟩
      exact .inl ⟨h5, rfl⟩
    · rintro (⟨h4, rfl⟩ | ⟨⟨h4, h5, h6⟩, h7⟩)
      · exact ⟨h1, rfl, h4⟩
      · exact absurd h5 h7
  · simp only [e, if_false, false_and, not_false_eq_true, and_true, and_false, false_or]
theorem rest_nil {xs : Nat → List Pr} {R : Nat} {pos : Nat → Nat} (h : ∀ c, ¬ Sp xs R pos c) : rest xs R pos = [] := by
  unfold rest
  refine flat_nil fun r hr => ?_
  have := h ⟨r, pos r⟩
  unfold Sp at this
  simp only [not_and] at this
  have := this (List.mem_range.mp hr) trivial
  exact List.drop_of_length_le (by omega)
theorem Cont.iff {α : Type} {n : Nat} {f : Nat → α} {S S' : α → Prop} (h : Cont n f S) (e : ∀ c, S' c ↔ S c) : Cont n f S' := by
  have : S' = S := funext fun c => propext (e c)
  rw [this]; exact h
end Go.Proofs.Ytjnopnlgcmlkfaa.G

namespace Go.Proofs.Ytjnopnlgcmlkfaa.G
open Go.BX
set_option linter.unusedSimpArgs false
set_option linter.unusedVariables false
structure RunsIn (hb : Nat) (A : Nat → Blk) (rv : AV) (R : Nat) (vs : Nat → AV) (xs : Nat → List Pr) : Prop where
  rows : (rv = .nilS ∧ R = 0) ∨ rv = .vec 1 ((List.range R).map fun r => [vs r]) ∨ ∃ g, rv = .slc g 1 0 R ∧ g < hb ∧ A g = .cells 22 1 ((List.range R).map fun r => [vs r])
  vals : ∀ r, r < R → RV hb A (vs r) (xs r)
  srt : ∀ r, r < R → (xs r).Pairwise fun p q => ltP q p = false
  len : ∀ r, r < R → (xs r).length ≤ 10000
  few : R ≤ 1000
  tot : (rest xs R (fun _ => 0)).length ≤ 100000
def Frm (hb nx : Nat) (A A' : Nat → Blk) : Prop := ∀ c, c < nx → (c = hb ∨ (∃ es, A c = .cells 84 3 es) ∨ (c < hb ∧ ∃ es, A c = .cells 47 6 es)) → A' c = A c
def Oth (hb nx : Nat) (A A' : Nat → Blk) : Prop := ∀ c, c < nx → c ≠ hb → c < hb ∨ notCur (A c) → A' c = A c
section
variable {hb R : Nat} {vs : Nat → AV} {xs : Nat → List Pr} {Q : AV → AHeap → Prop} {l : Nat} {L : ALoop} {I : List Pr → Nat → (Nat → Blk) → Prop} {Stp : Nat → (Nat → Blk) → Prop} {m : List Pr}
def Rnd (hb : Nat) (l : Nat) (L : ALoop) (I : List Pr → Nat → (Nat → Blk) → Prop) (Stp : Nat → (Nat → Blk) → Prop) (m : List Pr) : Prop :=
  ∀ (out more : List Pr) (p : Pr) (nx : Nat) (A : Nat → Blk) (Q : AV → AHeap → Prop), m = out ++ p :: more → hb < nx → I out nx A → (∀ nx' A', I (out ++ [p]) nx' A' → nx ≤ nx' → Frm hb nx A A' → Q (.bool true) ⟨nx', A'⟩) → (∀ nx' A', Stp nx' A' → Q (.bool false) ⟨nx', A'⟩) →
    Run Cx L.fn (foldPut L.T L.params [pairA p]) [] (some l) [.code L.assign, .beginRound, .code L.body] ⟨nx, A⟩ Q
theorem Sp_ok {pos : Nat → Nat} (hlen : ∀ r, r < R → (xs r).length ≤ 10000) (hR : R ≤ 1000) {c : Cur} (h : Sp xs R pos c) : OkC xs c := by
  obtain ⟨h1, h2, h3⟩ := h
  have := hlen c.r h1
  exact ⟨h3, by omega, by omega⟩
theorem mg_all (hlen : ∀ r, r < R → (xs r).length ≤ 10000) (hR : R ≤ 1000) (hsr : ∀ r, r < R → (xs r).Pairwise fun p q => ltP q p = false) (hpar : L.params.length = 1)
    (hI : ∀ out nx A, I out nx A → A l = .loop L) (hIk : ∀ out nx nx' A A', I out nx A → hb < nx → nx ≤ nx' → Oth hb nx A A' → I out nx' A')
    (hRnd : Rnd hb l L I Stp m) (hE : ∀ nx A, I m nx A → Q (.tuple []) ⟨nx, A⟩) (hStp : ∀ nx A, Stp nx A → Q (.tuple []) ⟨nx, A⟩) :
    ∀ (more out : List Pr) (T : Nat → AV) (nx : Nat) (A : Nat → Blk) (n : Nat) (f : Nat → Cur) (pos : Nat → Nat), m = out ++ more → T 0 = .yld l → T 3 = .ptr hb 2 0 0 → HL vs hb nx A n f → Heap (ltC xs) n f → Cont n f (Sp xs R pos) → n ≤ 1000 → (∀ r, r < R → RV hb A (vs r) (xs r)) → IsSort (rest xs R pos) more → (rest xs R pos).length ≤ 100000 → I out nx A →
      Run Cx 45 T [] none [.inLoop c45_25, .inBlock 2] ⟨nx, A⟩ Q := by
  intro more
  induction more with
  | nil =>
    intro out T nx A n f pos hm t0 t3 hH hp hC hn hV hs hrl hIo
    rw [run_inLoop]
    have hr0 : rest xs R pos = [] := List.eq_nil_of_length_eq_zero (hs.len.symm)
    have hn0 : n = 0 := by
      rw [← Decidable.not_not (p := n = 0)]
      intro hne
      have h0 := hC.mem 0 (by omega)
      obtain ⟨h1, h2, h3⟩ := h0
      unfold rest at hr0
      rw [List.flatMap_eq_nil_iff] at hr0
      have := hr0 (f 0).r (List.mem_range.mpr h1)
      have := congrArg List.length this
      rw [List.length_drop] at this
      simp only [List.length_nil] at this
      omega
    subst hn0
    rw [List.append_nil] at hm
    subst hm
    obtain ⟨hbn, hH⟩ := hH
    rcases hH with ⟨hA, _⟩ | ⟨g, N, hA, _⟩ <;>
    · simp only [t0, t3, hA, lenOf, i64, Int.cast_ofNat_Int, xx, run_nil, r45_0, r45_1, r45_2, r45_3, r45_4, r45_5, res45, tt, bb, bc, ↓bd, Nat.reduceEqDiff, Nat.reduceAdd, Nat.reduceMul, Nat.reduceLeDiff, Nat.reduceLT, ↓reduceIte, reduceCtorEq, Nat.reduceBeqDiff, Nat.reduceBneDiff, Int.reduceBNe, Int.reduceBEq, Int.reduceEq, Int.reduceLT, Int.reduceLE, Int.reduceAdd, Int.reduceSub, Int.reduceMul, Int.reduceNeg, List.reduceReplicate, Int.reduceToNat]
      exact hE nx A hIo
  | cons p more ih =>
    intro out T nx A n f pos hm t0 t3 hH hp hC hn hV hs hrl hIo
    rw [run_inLoop]
    have hn0 : n ≠ 0 := by
      intro e
      subst e
      have : rest xs R pos = [] := rest_nil fun c hc => by
        obtain ⟨i, hi, _⟩ := hC.all c hc
        omega
      have h1 := hs.len
      rw [this] at h1
      simp at h1
    obtain ⟨n, rfl⟩ : ∃ n', n = n' + 1 := ⟨n - 1, by omega⟩
    have hS := fun c hc => Sp_ok (pos := pos) hlen hR (c := c) hc
    have c0 : (0 : Int) < ((n + 1 : Nat) : Int) := by omega
    have hH' := hH
    obtain ⟨hbn, hHc⟩ := hH
    rcases hHc with ⟨_, h0⟩ | ⟨g, N, hA, _⟩
    · omega
    simp only [t0, t3, hA, c0, lenOf, i64, xx, r45_0, r45_1, r45_2, r45_3, r45_4.1, r45_4.2.1, r45_4.2.2.1, r45_4.2.2.2.2.1, r45_4.2.2.2.2.2.1, r45_4.2.2.2.2.2.2.1, r45_4.2.2.2.2.2.2.2, r45_5.2.1, r45_5.2.2.1, r45_5.2.2.2.1, r45_5.2.2.2.2.2.1, r45_5.2.2.2.2.2.2, res45, tt, bb, bc, ↓bd, Nat.reduceEqDiff, Nat.reduceAdd, Nat.reduceMul, Nat.reduceLeDiff, Nat.reduceLT, ↓reduceIte, reduceCtorEq, Nat.reduceBeqDiff, Nat.reduceBneDiff, Int.reduceBNe, Int.reduceBEq, Int.reduceEq, Int.reduceLT, Int.reduceLE, Int.reduceAdd, Int.reduceSub, Int.reduceMul, Int.reduceNeg, List.reduceReplicate, Int.reduceToNat]
    refine pop_call (S := Sp xs R pos) (by omega) hH' hp hC hS (fun c hc => hV c.r hc.1) ?_
    intro x nx1 A1 f1 hSx hmin hH1 hp1 hC1 hn1 hO1
    have hxR := hSx.1
    have hxl := hSx.2.2
    obtain ⟨m', hpm, hs'⟩ := pick hsr hSx hmin hs hrl
    obtain ⟨rfl, rfl⟩ := List.cons.inj hpm
    have hI1 := hIk _ _ _ _ _ hIo hbn hn1 hO1
    have hV1 : ∀ r, r < R → RV hb A1 (vs r) (xs r) := fun r hr => (hV r hr).keep (Nat.le_refl _) (fun g hg _ => hO1 g (by omega) (by omega) (.inl hg))
    have hvx := hV1 x.r hxR
    have hpl := hvx.plain
    have hcl := hvx.cells
    have hln := hvx.lenOf
    simp only [AV.plain] at hpl
    simp only [AV.cells] at hcl
    simp only [lenOf] at hln
    have hxlen := hlen x.r hxR
    have hbn1 := hH1.1
    simp only [t0, t3, upd2, xx, r45_0, r45_1, r45_2, r45_3, r45_4.1, r45_4.2.1, r45_4.2.2.1, r45_4.2.2.2.2.1, r45_4.2.2.2.2.2.1, r45_4.2.2.2.2.2.2.1, r45_4.2.2.2.2.2.2.2, r45_5.2.1, r45_5.2.2.1, r45_5.2.2.2.1, r45_5.2.2.2.2.2.1, r45_5.2.2.2.2.2.2, res45, tt, bb, bc, ↓bd, Nat.reduceEqDiff, Nat.reduceAdd, Nat.reduceMul, Nat.reduceLeDiff, Nat.reduceLT, ↓reduceIte, reduceCtorEq, Nat.reduceBeqDiff, Nat.reduceBneDiff, Int.reduceBNe, Int.reduceBEq, Int.reduceEq, Int.reduceLT, Int.reduceLE, Int.reduceAdd, Int.reduceSub, Int.reduceMul, Int.reduceNeg, List.reduceReplicate, Int.reduceToNat]
    generalize hA2 : upd A1 nx1 (.cells 84 3 [[vs x.r, .int .i64 (x.a : Int), .int .i64 (x.r : Int)]]) = A2
    have hO2 : Oth hb nx1 A1 A2 := fun c hc _ _ => by rw [← hA2, upd_app, if_neg (by omega)]
    have hI2 := hIk _ _ _ _ _ hI1 hbn1 (Nat.le_succ nx1) hO2
    have hcell : A2 nx1 = .cells 84 3 [[vs x.r, .int .i64 (x.a : Int), .int .i64 (x.r : Int)]] := by rw [← hA2]; simp only [upd_app, ↓reduceIte]
    have hH2 : HL vs hb (nx1 + 1) A2 n f1 := hH1.keep (by omega) (fun g _ hg => by rw [← hA2, upd_app, if_neg (by omega)])
    have hV2 : ∀ r, r < R → RV hb A2 (vs r) (xs r) := fun r hr => (hV1 r hr).keep (Nat.le_refl _) (fun g hg _ => by rw [← hA2, upd_app, if_neg (by omega)])
    have p0 : (0 : Int) ≤ (x.a : Int) := by omega
    have l0 : (x.a : Int) < ((xs x.r).length : Int) := by omega
    have l1 : (x.a : Int) < (((xs x.r).map encP).length : Int) := by rw [List.length_map]; omega
    have g0 := enc_get (List.getElem?_eq_getElem hxl)
    have go : ∀ (T' : Nat → AV) (nx3 : Nat) (A3 : Nat → Blk), T' 0 = .yld l → T' 3 = .ptr hb 2 0 0 → T' 6 = .ptr nx1 3 0 0 → I (out ++ [(xs x.r)[x.a]]) nx3 A3 → nx1 + 1 ≤ nx3 → Frm hb (nx1 + 1) A2 A3 →
        Run Cx 45 T' [] none [.code c45_40, .inBlock 3, .inLoop c45_25, .inBlock 2] ⟨nx3, A3⟩ Q := by
      intro T' nx3 A3 t0 t3 t6 hI3 hn3 hF3
      have hcell3 : A3 nx1 = .cells 84 3 [[vs x.r, .int .i64 (x.a : Int), .int .i64 (x.r : Int)]] := by
        rw [hF3 nx1 (by omega) (.inr (.inl ⟨_, hcell⟩)), hcell]
      have w1 : IntKind.i64.wrap ((x.a : Int) + 1) = ((x.a + 1 : Nat) : Int) := by rw [wr64 (by omega) (by omega)]; omega
      have hH3 : HL vs hb nx3 A3 n f1 := by
        obtain ⟨a1, a2⟩ := hH2
        refine ⟨by omega, ?_⟩
        rcases a2 with ⟨a2, a3⟩ | ⟨g, N, a2, a3, a4, a5, a6⟩
        · exact .inl ⟨by rw [hF3 hb a1 (.inl rfl)]; exact a2, a3⟩
        · exact .inr ⟨g, N, by rw [hF3 hb a1 (.inl rfl)]; exact a2, a3, by omega, a5, by rw [hF3 g a4 (.inr (.inl ⟨_, a6⟩))]; exact a6⟩
      have hV3 : ∀ r, r < R → RV hb A3 (vs r) (xs r) := fun r hr => (hV2 r hr).keep (Nat.le_refl _) (fun g hg hgA => hF3 g (by omega) (.inr (.inr ⟨hg, ⟨_, hgA⟩⟩)))
      generalize hA4 : upd A3 nx1 (.cells 84 3 [[vs x.r, .int .i64 ((x.a + 1 : Nat) : Int), .int .i64 (x.r : Int)]]) = A4
      have hgne : ∀ g, hb ≤ g → g < nx1 + 1 → (g = hb ∨ ∃ N, A2 g = .cells 84 3 (RC vs N f1) ∧ n ≤ N ∧ g ≠ nx1) → A4 g = A3 g := by
        intro g hg1 hg2 hg3
        rw [← hA4, upd_app, if_neg ?_]
        rintro rfl
        rcases hg3 with h | ⟨N, _, _, h⟩
        · omega
        · exact h rfl
      have hH4 : HL vs hb nx3 A4 n f1 := by
        obtain ⟨a1, a2⟩ := hH1
        obtain ⟨b1, b2⟩ := hH3
        refine ⟨b1, ?_⟩
        rcases a2 with ⟨a2, a3⟩ | ⟨g, N, a2, a3, a4, a5, a6⟩
        · refine .inl ⟨?_, a3⟩
          rw [← hA4, upd_app, if_neg (by omega), hF3 hb (by omega) (.inl rfl), ← hA2, upd_app, if_neg (by omega)]
          exact a2
        · refine .inr ⟨g, N, ?_, a3, by omega, a5, ?_⟩
          · rw [← hA4, upd_app, if_neg (by omega), hF3 hb (by omega) (.inl rfl), ← hA2, upd_app, if_neg (by omega)]
            exact a2
          · have hg2 : A2 g = A1 g := by rw [← hA2, upd_app, if_neg (by omega)]
            rw [← hA4, upd_app, if_neg (by omega), hF3 g (by omega) (.inr (.inl ⟨_, by rw [hg2]; exact a6⟩)), hg2]
            exact a6
      have hV4 : ∀ r, r < R → RV hb A4 (vs r) (xs r) := fun r hr => (hV3 r hr).keep (Nat.le_refl _) (fun g hg hgA => by rw [← hA4, upd_app, if_neg (by omega)])
      have hO4 : Oth hb nx3 A3 A4 := fun c hc h1 h2 => by
        rw [← hA4, upd_app, if_neg ?_]
        rintro rfl
        rcases h2 with h | h
        · omega
        · exact h _ hcell3
      have hI4 := hIk _ _ _ _ _ hI3 (by omega) (Nat.le_refl _) hO4
      have hrl' : (rest xs R (adv pos x.r)).length ≤ 100000 := by
        have e1 := hs'.len
        have e2 := hs.len
        rw [List.length_cons] at e2
        omega
      have hm3 : m = (out ++ [(xs x.r)[x.a]]) ++ more := by rw [hm]; simp
      by_cases hlast : x.a + 1 < (xs x.r).length
      · have c1 : ((x.a + 1 : Nat) : Int) < ((xs x.r).length : Int) := by omega
        simp only [t0, t3, t6, hcell3, upd2, hln, hpl, hcl, c1, w1, lenOf, i64, xx, r45_0, r45_1, r45_2, r45_3.1, r45_3.2.2.1, r45_3.2.2.2.1, r45_3.2.2.2.2.1, r45_3.2.2.2.2.2.1, r45_3.2.2.2.2.2.2.1, r45_3.2.2.2.2.2.2.2, r45_4, r45_5, res45, tt, bb, bc, ↓bd, Nat.reduceEqDiff, Nat.reduceAdd, Nat.reduceMul, Nat.reduceLeDiff, Nat.reduceLT, ↓reduceIte, reduceCtorEq, Nat.reduceBeqDiff, Nat.reduceBneDiff, Int.reduceBNe, Int.reduceBEq, Int.reduceEq, Int.reduceLT, Int.reduceLE, Int.reduceAdd, Int.reduceSub, Int.reduceMul, Int.reduceNeg, List.reduceReplicate, Int.reduceToNat]
        rw [hA4]
        refine push_call (S := fun c => Sp xs R pos c ∧ c ≠ x) (x := ⟨x.r, x.a + 1⟩) (by omega) hH4 hp1 hC1 (fun c hc => hS c hc.1) ?_ ⟨hlast, by simp only; omega, by simp only; omega⟩ ?_ ?_
        · rintro ⟨⟨_, h, _⟩, _⟩
          have := hSx.2.1
          simp only at h
          omega
        · rintro c (rfl | hc)
          · exact hV4 x.r hxR
          · exact hV4 c.r hc.1.1
        · intro nx5 A5 f5 hH5 hp5 hC5 hn5 hO5
          simp only [xx, r45_0, r45_1, r45_2, r45_3.1, r45_3.2.2.1, r45_3.2.2.2.1, r45_3.2.2.2.2.1, r45_3.2.2.2.2.2.1, r45_3.2.2.2.2.2.2.1, r45_3.2.2.2.2.2.2.2, r45_4, r45_5, res45, tt, bb, bc, ↓bd, Nat.reduceEqDiff, Nat.reduceAdd, Nat.reduceMul, Nat.reduceLeDiff, Nat.reduceLT, ↓reduceIte, reduceCtorEq, Nat.reduceBeqDiff, Nat.reduceBneDiff, Int.reduceBNe, Int.reduceBEq, Int.reduceEq, Int.reduceLT, Int.reduceLE, Int.reduceAdd, Int.reduceSub, Int.reduceMul, Int.reduceNeg, List.reduceReplicate, Int.reduceToNat]
          refine ih (out ++ [(xs x.r)[x.a]]) _ nx5 A5 (n + 1) f5 (adv pos x.r) hm3 ?_ ?_ hH5 hp5 (hC5.iff fun c => ?_) hn ?_ hs' hrl' (hIk _ _ _ _ _ hI4 (by omega) hn5 hO5)
          · simp only [upd_app, t0, Nat.reduceEqDiff, ↓reduceIte]
          · simp only [upd_app, t3, Nat.reduceEqDiff, ↓reduceIte]
          · rw [Sp_next hSx c]
            simp only [hlast, true_and]
          · exact fun r hr => (hV4 r hr).keep (Nat.le_refl _) (fun g hg _ => hO5 g (by omega) (by omega) (.inl hg))
      · have c1 : ¬ ((x.a + 1 : Nat) : Int) < ((xs x.r).length : Int) := by omega
        simp only [t0, t3, t6, hcell3, upd2, hln, hpl, hcl, c1, w1, lenOf, i64, xx, r45_0, r45_1, r45_2, r45_3.1, r45_3.2.2.1, r45_3.2.2.2.1, r45_3.2.2.2.2.1, r45_3.2.2.2.2.2.1, r45_3.2.2.2.2.2.2.1, r45_3.2.2.2.2.2.2.2, r45_4, r45_5, res45, tt, bb, bc, ↓bd, Nat.reduceEqDiff, Nat.reduceAdd, Nat.reduceMul, Nat.reduceLeDiff, Nat.reduceLT, ↓reduceIte, reduceCtorEq, Nat.reduceBeqDiff, Nat.reduceBneDiff, Int.reduceBNe, Int.reduceBEq, Int.reduceEq, Int.reduceLT, Int.reduceLE, Int.reduceAdd, Int.reduceSub, Int.reduceMul, Int.reduceNeg, List.reduceReplicate, Int.reduceToNat]
        rw [hA4]
        refine ih (out ++ [(xs x.r)[x.a]]) _ nx3 A4 n f1 (adv pos x.r) hm3 ?_ ?_ hH4 hp1 (hC1.iff fun c => ?_) (by omega) hV4 hs' hrl' hI4
        · simp only [upd_app, t0, Nat.reduceEqDiff, ↓reduceIte]
        · simp only [upd_app, t3, Nat.reduceEqDiff, ↓reduceIte]
        · rw [Sp_next hSx c]
          simp only [hlast, false_and, false_or]
    have hv2 := hV2 x.r hxR
    rcases hv2 with hv | ⟨gv, hv, hgv, hgA⟩
    · have hv' := hv.vec (fun e => by rw [e] at hxl; simp at hxl)
      rw [hv'] at hcell
      simp only [t0, t3, hcell, p0, l1, g0, Int.toNat_natCast, xx, r45_0, r45_1, r45_2, r45_3, r45_4, r45_5.2.1, r45_5.2.2.1, r45_5.2.2.2.1, r45_5.2.2.2.2.1, r45_5.2.2.2.2.2.1, r45_5.2.2.2.2.2.2, res45, tt, bb, bc, ↓bd, Nat.reduceEqDiff, Nat.reduceAdd, Nat.reduceMul, Nat.reduceLeDiff, Nat.reduceLT, ↓reduceIte, reduceCtorEq, Nat.reduceBeqDiff, Nat.reduceBneDiff, Int.reduceBNe, Int.reduceBEq, Int.reduceEq, Int.reduceLT, Int.reduceLE, Int.reduceAdd, Int.reduceSub, Int.reduceMul, Int.reduceNeg, List.reduceReplicate, Int.reduceToNat]
      refine runA_yield (L := L) ?_ ?_ (hI _ _ _ hI2) hpar.symm ?_
      · simp only [evs, ev, upd_app, t0, t3, Nat.reduceEqDiff, ↓reduceIte]
      · simp only [evs, ev, upd_app, t0, t3, Nat.reduceEqDiff, ↓reduceIte]
      refine hRnd out more (xs x.r)[x.a] (nx1 + 1) A2 _ hm (by omega) hI2 ?_ ?_
      · intro nx3 A3 hI3 hn3 hF3
        simp only [xx, r45_0, r45_1, r45_2, r45_3, r45_4, r45_5.2.1, r45_5.2.2.1, r45_5.2.2.2.1, r45_5.2.2.2.2.1, r45_5.2.2.2.2.2.1, r45_5.2.2.2.2.2.2, res45, tt, bb, bc, ↓bd, Nat.reduceEqDiff, Nat.reduceAdd, Nat.reduceMul, Nat.reduceLeDiff, Nat.reduceLT, ↓reduceIte, reduceCtorEq, Nat.reduceBeqDiff, Nat.reduceBneDiff, Int.reduceBNe, Int.reduceBEq, Int.reduceEq, Int.reduceLT, Int.reduceLE, Int.reduceAdd, Int.reduceSub, Int.reduceMul, Int.reduceNeg, List.reduceReplicate, Int.reduceToNat]
        refine go _ nx3 A3 ?_ ?_ ?_ hI3 hn3 hF3
        all_goals simp only [upd_app, t0, t3, Nat.reduceEqDiff, ↓reduceIte]
      · intro nx3 A3 h
        simp only [xx, r45_0, r45_1, r45_2, r45_3, r45_4, r45_5, res45, tt, bb, bc, ↓bd, Nat.reduceEqDiff, Nat.reduceAdd, Nat.reduceMul, Nat.reduceLeDiff, Nat.reduceLT, ↓reduceIte, reduceCtorEq, Nat.reduceBeqDiff, Nat.reduceBneDiff, Int.reduceBNe, Int.reduceBEq, Int.reduceEq, Int.reduceLT, Int.reduceLE, Int.reduceAdd, Int.reduceSub, Int.reduceMul, Int.reduceNeg, List.reduceReplicate, Int.reduceToNat]
        exact hStp _ _ h
    · rw [hv] at hcell
      simp only [t0, t3, hcell, hgA, p0, l0, l1, g0, Int.toNat_natCast, xx, r45_0, r45_1, r45_2, r45_3, r45_4, r45_5.2.1, r45_5.2.2.1, r45_5.2.2.2.1, r45_5.2.2.2.2.1, r45_5.2.2.2.2.2.1, r45_5.2.2.2.2.2.2, res45, tt, bb, bc, ↓bd, Nat.reduceEqDiff, Nat.reduceAdd, Nat.reduceMul, Nat.reduceLeDiff, Nat.reduceLT, ↓reduceIte, reduceCtorEq, Nat.reduceBeqDiff, Nat.reduceBneDiff, Int.reduceBNe, Int.reduceBEq, Int.reduceEq, Int.reduceLT, Int.reduceLE, Int.reduceAdd, Int.reduceSub, Int.reduceMul, Int.reduceNeg, List.reduceReplicate, Int.reduceToNat]
      refine runA_yield (L := L) ?_ ?_ (hI _ _ _ hI2) hpar.symm ?_
      · simp only [evs, ev, upd_app, t0, t3, Nat.reduceEqDiff, ↓reduceIte]
      · simp only [evs, ev, upd_app, t0, t3, Nat.reduceEqDiff, ↓reduceIte]
      refine hRnd out more (xs x.r)[x.a] (nx1 + 1) A2 _ hm (by omega) hI2 ?_ ?_
      · intro nx3 A3 hI3 hn3 hF3
        simp only [xx, r45_0, r45_1, r45_2, r45_3, r45_4, r45_5.2.1, r45_5.2.2.1, r45_5.2.2.2.1, r45_5.2.2.2.2.1, r45_5.2.2.2.2.2.1, r45_5.2.2.2.2.2.2, res45, tt, bb, bc, ↓bd, Nat.reduceEqDiff, Nat.reduceAdd, Nat.reduceMul, Nat.reduceLeDiff, Nat.reduceLT, ↓reduceIte, reduceCtorEq, Nat.reduceBeqDiff, Nat.reduceBneDiff, Int.reduceBNe, Int.reduceBEq, Int.reduceEq, Int.reduceLT, Int.reduceLE, Int.reduceAdd, Int.reduceSub, Int.reduceMul, Int.reduceNeg, List.reduceReplicate, Int.reduceToNat]
        refine go _ nx3 A3 ?_ ?_ ?_ hI3 hn3 hF3
        all_goals simp only [upd_app, t0, t3, Nat.reduceEqDiff, ↓reduceIte]
      · intro nx3 A3 h
        simp only [xx, r45_0, r45_1, r45_2, r45_3, r45_4, r45_5, res45, tt, bb, bc, ↓bd, Nat.reduceEqDiff, Nat.reduceAdd, Nat.reduceMul, Nat.reduceLeDiff, Nat.reduceLT, ↓reduceIte, reduceCtorEq, Nat.reduceBeqDiff, Nat.reduceBneDiff, Int.reduceBNe, Int.reduceBEq, Int.reduceEq, Int.reduceLT, Int.reduceLE, Int.reduceAdd, Int.reduceSub, Int.reduceMul, Int.reduceNeg, List.reduceReplicate, Int.reduceToNat]
        exact hStp _ _ h
end
end Go.Proofs.Ytjnopnlgcmlkfaa.G

namespace Go.Proofs.Ytjnopnlgcmlkfaa.G
open Go.BX
set_option linter.unusedSimpArgs false
set_option linter.unusedVariables false
section
variable {hb R : Nat} {vs : Nat → AV} {xs : Nat → List Pr} {Q : AV → AHeap → Prop} {l : Nat} {L : ALoop} {I : List Pr → Nat → (Nat → Blk) → Prop} {Stp : Nat → (Nat → Blk) → Prop} {m : List Pr}
theorem rows_r {R i : Nat} {vs : Nat → AV} (h : i < R) : ((List.range R).map fun r => [vs r])[i]? = some [vs i] := by
  rw [List.getElem?_map, List.getElem?_range h]
  rfl
theorem ml_all {A0 : Nat → Blk} {rv : AV} (hin : RunsIn hb A0 rv R vs xs) (hpar : L.params.length = 1)
    (hI : ∀ out nx A, I out nx A → A l = .loop L) (hIk : ∀ out nx nx' A A', I out nx A → hb < nx → nx ≤ nx' → Oth hb nx A A' → I out nx' A')
    (hRnd : Rnd hb l L I Stp m) (hE : ∀ nx A, I m nx A → Q (.tuple []) ⟨nx, A⟩) (hStp : ∀ nx A, Stp nx A → Q (.tuple []) ⟨nx, A⟩) (hm : IsSort (rest xs R (fun _ => 0)) m) :
    ∀ (j i : Nat) (T : Nat → AV) (nx : Nat) (A : Nat → Blk) (n : Nat) (f : Nat → Cur), i + j = R → T 0 = .yld l → T 3 = .ptr hb 2 0 0 → T 9 = rv → T 10 = .int .i64 (R : Int) → T 11 = .int .i64 (i : Int) → HL vs hb nx A n f → Heap (ltC xs) n f → Cont n f (fun c => Sp xs R (fun _ => 0) c ∧ c.r < i) → n ≤ i → (∀ c, c < hb → A c = A0 c) → I [] nx A →
      Run Cx 45 T [] none [.inLoop c45_7, .inBlock 0, .code c45_23] ⟨nx, A⟩ Q := by
  have hV : ∀ A, (∀ c, c < hb → A c = A0 c) → ∀ r, r < R → RV hb A (vs r) (xs r) := fun A hA r hr => (hin.vals r hr).keep (Nat.le_refl _) (fun g hg _ => hA g hg)
  have hfew := hin.few
  intro j
  induction j with
  | zero =>
    intro i T nx A n f hij t0 t3 t9 t10 t11 hH hp hC hn hk hIo
    rw [run_inLoop]
    have c0 : ¬ (i : Int) < (R : Int) := by omega
    simp only [t0, t3, t9, t10, t11, c0, xx, r45_0, r45_1, r45_2, r45_3.1, r45_3.2.2.1, r45_3.2.2.2.1, r45_3.2.2.2.2.1, r45_3.2.2.2.2.2.1, r45_3.2.2.2.2.2.2.1, r45_3.2.2.2.2.2.2.2, r45_4, r45_5, res45, tt, bb, bc, ↓bd, Nat.reduceEqDiff, Nat.reduceAdd, Nat.reduceMul, Nat.reduceLeDiff, Nat.reduceLT, ↓reduceIte, reduceCtorEq, Nat.reduceBeqDiff, Nat.reduceBneDiff, Int.reduceBNe, Int.reduceBEq, Int.reduceEq, Int.reduceLT, Int.reduceLE, Int.reduceAdd, Int.reduceSub, Int.reduceMul, Int.reduceNeg, List.reduceReplicate, Int.reduceToNat]
    refine mg_all (vs := vs) (L := L) hin.len hin.few hin.srt hpar hI hIk hRnd hE hStp m [] _ nx A n f (fun _ => 0) rfl ?_ ?_ hH hp (hC.iff fun c => ⟨fun h => ⟨h, by have := h.1; omega⟩, fun h => h.1⟩) (by omega) (hV A hk) hm hin.tot hIo
    all_goals simp only [upd_app, t0, t3, Nat.reduceEqDiff, ↓reduceIte]
  | succ j ih =>
    intro i T nx A n f hij t0 t3 t9 t10 t11 hH hp hC hn hk hIo
    rw [run_inLoop]
    have hi : i < R := by omega
    have c0 : (i : Int) < (R : Int) := by omega
    have p0 : (0 : Int) ≤ (i : Int) := by omega
    have w1 : IntKind.i64.wrap ((i : Int) + 1) = ((i + 1 : Nat) : Int) := by rw [wr64 (by omega) (by omega)]; omega
    have hvi := hV A hk i hi
    have hpl := hvi.plain
    have hcl := hvi.cells
    have hln := hvi.lenOf
    simp only [AV.plain] at hpl
    simp only [AV.cells] at hcl
    simp only [lenOf] at hln
    have hg := rows_r (vs := vs) hi
    have l1 : (i : Int) < (((List.range R).map fun r => [vs r]).length : Int) := by rw [List.length_map, List.length_range]; omega
    have hbn := hH.1
    have hlen := hin.len i hi
    have go : ∀ (T' : Nat → AV), T' 0 = .yld l → T' 3 = .ptr hb 2 0 0 → T' 9 = rv → T' 10 = .int .i64 (R : Int) → T' 11 = .int .i64 (i : Int) → T' 4 = .int .i64 (i : Int) → T' 5 = vs i →
        Run Cx 45 T' [] none [.code c45_17, .inBlock 1, .code c45_22, .inLoop c45_7, .inBlock 0, .code c45_23] ⟨nx, A⟩ Q := by
      intro T' t0 t3 t9 t10 t11 t4 t5
      by_cases hx0 : xs i = []
      · rw [hx0] at hln
        simp only [List.length_nil] at hln
        simp only [t0, t3, t9, t10, t11, t4, t5, hln, w1, lenOf, i64, Int.cast_ofNat_Int, xx, r45_0.1, r45_0.2.1, r45_0.2.2.1, r45_0.2.2.2.1, r45_0.2.2.2.2.1, r45_0.2.2.2.2.2.1, r45_0.2.2.2.2.2.2.1, r45_1, r45_2.1, r45_2.2.1, r45_2.2.2.1, r45_2.2.2.2.1, r45_2.2.2.2.2.1, r45_2.2.2.2.2.2.1, r45_2.2.2.2.2.2.2.1, r45_3, r45_4, r45_5, res45, tt, bb, bc, ↓bd, Nat.reduceEqDiff, Nat.reduceAdd, Nat.reduceMul, Nat.reduceLeDiff, Nat.reduceLT, ↓reduceIte, reduceCtorEq, Nat.reduceBeqDiff, Nat.reduceBneDiff, Int.reduceBNe, Int.reduceBEq, Int.reduceEq, Int.reduceLT, Int.reduceLE, Int.reduceAdd, Int.reduceSub, Int.reduceMul, Int.reduceNeg, List.reduceReplicate, Int.reduceToNat]
        refine ih (i + 1) _ nx A n f (by omega) ?_ ?_ ?_ ?_ ?_ hH hp (hC.iff fun c => ⟨fun h => ⟨h.1, ?_⟩, fun h => ⟨h.1, by omega⟩⟩) (by omega) hk hIo
        rotate_right
        · have h2 := h.1.2.2
          have h3 := h.2
          rw [← Decidable.not_not (p := c.r < i)]
          intro h4
          have : c.r = i := by omega
          rw [this, hx0] at h2
          simp at h2
        all_goals simp only [upd_app, t0, t3, t9, t10, Nat.reduceEqDiff, ↓reduceIte]
      · have c1 : (0 : Int) < ((xs i).length : Int) := by
          have := List.length_pos_iff.mpr hx0
          omega
        simp only [t0, t3, t9, t10, t11, t4, t5, hln, hpl, hcl, c1, lenOf, i64, xx, r45_0.1, r45_0.2.1, r45_0.2.2.1, r45_0.2.2.2.1, r45_0.2.2.2.2.1, r45_0.2.2.2.2.2.1, r45_0.2.2.2.2.2.2.1, r45_1, r45_2.1, r45_2.2.1, r45_2.2.2.1, r45_2.2.2.2.1, r45_2.2.2.2.2.1, r45_2.2.2.2.2.2.1, r45_3, r45_4, r45_5, res45, tt, bb, bc, ↓bd, Nat.reduceEqDiff, Nat.reduceAdd, Nat.reduceMul, Nat.reduceLeDiff, Nat.reduceLT, ↓reduceIte, reduceCtorEq, Nat.reduceBeqDiff, Nat.reduceBneDiff, Int.reduceBNe, Int.reduceBEq, Int.reduceEq, Int.reduceLT, Int.reduceLE, Int.reduceAdd, Int.reduceSub, Int.reduceMul, Int.reduceNeg, List.reduceReplicate, Int.reduceToNat]
        refine push_call (vs := vs) (S := fun c => Sp xs R (fun _ => 0) c ∧ c.r < i) (x := ⟨i, 0⟩) (by omega) hH hp hC (fun c hc => Sp_ok hin.len hin.few hc.1) ?_ ⟨List.length_pos_iff.mpr hx0, by simp only; omega, by simp only; omega⟩ ?_ ?_
        · rintro ⟨_, h⟩
          simp only at h
          omega
        · rintro c (rfl | hc)
          · exact hvi
          · exact hV A hk c.r hc.1.1
        · intro nx' A' f' hH' hp' hC' hn' hO'
          simp only [t0, t3, t9, t10, t11, t4, t5, w1, xx, r45_0.1, r45_0.2.1, r45_0.2.2.1, r45_0.2.2.2.1, r45_0.2.2.2.2.1, r45_0.2.2.2.2.2.1, r45_0.2.2.2.2.2.2.1, r45_1, r45_2.1, r45_2.2.1, r45_2.2.2.1, r45_2.2.2.2.1, r45_2.2.2.2.2.1, r45_2.2.2.2.2.2.1, r45_2.2.2.2.2.2.2.1, r45_3, r45_4, r45_5, res45, tt, bb, bc, ↓bd, Nat.reduceEqDiff, Nat.reduceAdd, Nat.reduceMul, Nat.reduceLeDiff, Nat.reduceLT, ↓reduceIte, reduceCtorEq, Nat.reduceBeqDiff, Nat.reduceBneDiff, Int.reduceBNe, Int.reduceBEq, Int.reduceEq, Int.reduceLT, Int.reduceLE, Int.reduceAdd, Int.reduceSub, Int.reduceMul, Int.reduceNeg, List.reduceReplicate, Int.reduceToNat]
          refine ih (i + 1) _ nx' A' (n + 1) f' (by omega) ?_ ?_ ?_ ?_ ?_ hH' hp' (hC'.iff fun c => ?_) (by omega) (fun c hc => by rw [hO' c (by omega) (by omega) (.inl hc)]; exact hk c hc) (hIk _ _ _ _ _ hIo hbn hn' hO')
          rotate_right
          · constructor
            · rintro ⟨h1, h2⟩
              by_cases e : c.r = i
              · left
                obtain ⟨r, a⟩ := c
                simp only at e
                subst e
                have := h1.2.1
                simp only at this
                subst this
                rfl
              · exact .inr ⟨h1, by omega⟩
            · rintro (rfl | ⟨h1, h2⟩)
              · exact ⟨⟨hi, rfl, List.length_pos_iff.mpr hx0⟩, by simp only; omega⟩
              · exact ⟨h1, by omega⟩
          all_goals simp only [upd_app, t0, t3, t9, t10, Nat.reduceEqDiff, ↓reduceIte]
    rcases hin.rows with ⟨rfl, h0⟩ | rfl | ⟨g, rfl, hg1, hg2⟩
    · omega
    · simp only [t0, t3, t9, t10, t11, c0, p0, l1, hg, Int.toNat_natCast, xx, r45_0, r45_1, r45_2.1, r45_2.2.2.1, r45_2.2.2.2.1, r45_2.2.2.2.2.1, r45_2.2.2.2.2.2.1, r45_3, r45_4, r45_5, res45, tt, bb, bc, ↓bd, Nat.reduceEqDiff, Nat.reduceAdd, Nat.reduceMul, Nat.reduceLeDiff, Nat.reduceLT, ↓reduceIte, reduceCtorEq, Nat.reduceBeqDiff, Nat.reduceBneDiff, Int.reduceBNe, Int.reduceBEq, Int.reduceEq, Int.reduceLT, Int.reduceLE, Int.reduceAdd, Int.reduceSub, Int.reduceMul, Int.reduceNeg, List.reduceReplicate, Int.reduceToNat]
      refine go _ ?_ ?_ ?_ ?_ ?_ ?_ ?_
      all_goals simp only [upd_app, t0, t3, t9, t10, t11, Nat.reduceEqDiff, ↓reduceIte]
    · have hAg := (hk g hg1).trans hg2
      simp only [t0, t3, t9, t10, t11, c0, p0, hAg, hg, Int.toNat_natCast, xx, r45_0, r45_1, r45_2.1, r45_2.2.2.1, r45_2.2.2.2.1, r45_2.2.2.2.2.1, r45_2.2.2.2.2.2.1, r45_3, r45_4, r45_5, res45, tt, bb, bc, ↓bd, Nat.reduceEqDiff, Nat.reduceAdd, Nat.reduceMul, Nat.reduceLeDiff, Nat.reduceLT, ↓reduceIte, reduceCtorEq, Nat.reduceBeqDiff, Nat.reduceBneDiff, Int.reduceBNe, Int.reduceBEq, Int.reduceEq, Int.reduceLT, Int.reduceLE, Int.reduceAdd, Int.reduceSub, Int.reduceMul, Int.reduceNeg, List.reduceReplicate, Int.reduceToNat]
      refine go _ ?_ ?_ ?_ ?_ ?_ ?_ ?_
      all_goals simp only [upd_app, t0, t3, t9, t10, t11, Nat.reduceEqDiff, ↓reduceIte]
theorem merged_run {nx b1 : Nat} {A : Nat → Blk} {rv : AV} (hin : RunsIn nx A rv R vs xs) (hb1 : A b1 = .cells 48 1 [[rv]]) (hb1n : b1 < nx) (hpar : L.params.length = 1)
    (hI : ∀ out nx A, I out nx A → A l = .loop L) (hIk : ∀ out nx' nx'' A A', I out nx' A → nx < nx' → nx' ≤ nx'' → Oth nx nx' A A' → I out nx'' A')
    (hRnd : Rnd nx l L I Stp m) (hE : ∀ nx A, I m nx A → Q (.tuple []) ⟨nx, A⟩) (hStp : ∀ nx A, Stp nx A → Q (.tuple []) ⟨nx, A⟩) (hm : IsSort (rest xs R (fun _ => 0)) m) (hI0 : ∀ A', (∀ c, c < nx → A' c = A c) → I [] (nx + 1) A') :
    Run Cx 45 (enterT ([] ++ [.yld l] ++ [.ptr b1 1 0 0])) [] none [.code c45_0] ⟨nx, A⟩ Q := by
  have hlen : ∃ z, lenOf rv = some z ∧ z = R := by
    rcases hin.rows with ⟨rfl, h0⟩ | rfl | ⟨g, rfl, hg1, hg2⟩
    · exact ⟨0, rfl, h0.symm⟩
    · exact ⟨_, rfl, by rw [List.length_map, List.length_range]⟩
    · exact ⟨_, rfl, rfl⟩
  obtain ⟨z, hz, rfl⟩ := hlen
  simp only [lenOf] at hz
  have e1 : (b1 = nx) = False := eq_false (by omega)
  simp only [hb1, e1, hz, lenOf, i64, r45_0.1, r45_0.2.1, r45_0.2.2.1, r45_0.2.2.2.1, r45_0.2.2.2.2.1, r45_0.2.2.2.2.2.1, r45_0.2.2.2.2.2.2.1, r45_1, r45_2.1, r45_2.2.1, r45_2.2.2.1, r45_2.2.2.2.1, r45_2.2.2.2.2.1, r45_2.2.2.2.2.2.1, r45_2.2.2.2.2.2.2.1, r45_3, r45_4, r45_5, res45, tt, bb, bc, ↓bd, Nat.reduceEqDiff, Nat.reduceAdd, Nat.reduceMul, Nat.reduceLeDiff, Nat.reduceLT, ↓reduceIte, reduceCtorEq, Nat.reduceBeqDiff, Nat.reduceBneDiff, Int.reduceBNe, Int.reduceBEq, Int.reduceEq, Int.reduceLT, Int.reduceLE, Int.reduceAdd, Int.reduceSub, Int.reduceMul, Int.reduceNeg, List.reduceReplicate, Int.reduceToNat]
  generalize hA' : upd A nx _ = A'
  have hk : ∀ c, c < nx → A' c = A c := fun c hc => by rw [← hA', upd_app, if_neg (by omega)]
  refine ml_all (hb := nx) (vs := vs) (xs := xs) (L := L) (A0 := A) (rv := rv) hin hpar hI hIk hRnd hE hStp hm z 0 _ (nx + 1) A' 0 (fun _ => ⟨0, 0⟩) (by omega) ?_ ?_ ?_ ?_ ?_ ⟨by omega, .inl ⟨?_, rfl⟩⟩ (fun i h0 hi => by omega) ⟨fun i hi => by omega, fun c hc => by have := hc.2; omega, fun i j hi => by omega⟩ (Nat.le_refl _) hk (hI0 A' hk)
  rotate_right
  · rw [← hA']; simp only [upd_app, ↓reduceIte]
  all_goals simp only [upd_app, enterT, List.nil_append, List.cons_append, List.getElem?_cons_zero, List.getElem?_cons_succ, Option.getD_some, Nat.reduceEqDiff, ↓reduceIte]
  all_goals rfl
end
end Go.Proofs.Ytjnopnlgcmlkfaa.G

namespace Go.Proofs.Ytjnopnlgcmlkfaa.G
open Go.BX
set_option linter.unusedSimpArgs false
set_option linter.unusedVariables false
def isOrd (l : List Pr) : Bool := decide (l.Pairwise fun p q => ltP q p = false)
theorem Ordered_ok' {v : AV} {l : List Pr} (hv : InE v l) (hl : l.length ≤ 1000000) : PCall Cx 21 [v] (.bool (isOrd l)) := by
  obtain ⟨b, hb, hb'⟩ := Ordered_ok hv hl
  have : b = isOrd l := by
    unfold isOrd
    rw [Bool.eq_iff_iff, decide_eq_true_eq]
    exact hb'
  rw [← this]; exact hb
theorem notOrd_ok {v : AV} {l : List Pr} (hv : InE v l) (hl : l.length ≤ 1000000) : PCall Cx 29 [v] (.bool (!isOrd l)) := by
  refine pcall_run (noext _) body29 ?_
  have f0 : [v].all AV.flat = true := by simp [hv.flat]
  simp only [call_pure pure21 f0 (Ordered_ok' hv hl), r29_0, res29, tt, bb, bc, ↓bd, Nat.reduceEqDiff, Nat.reduceAdd, Nat.reduceMul, Nat.reduceLeDiff, Nat.reduceLT, ↓reduceIte, reduceCtorEq, Nat.reduceBeqDiff, Nat.reduceBneDiff, Int.reduceBNe, Int.reduceBEq, Int.reduceEq, Int.reduceLT, Int.reduceLE, Int.reduceAdd, Int.reduceSub, Int.reduceMul, Int.reduceNeg, List.reduceReplicate, Int.reduceToNat]
def idxU : List (AV × List Pr) → Int → Int
  | [], _ => -1
  | x :: l, i => if isOrd x.2 = true then idxU l (i + 1) else i
theorem idxU_good : ∀ (l : List (AV × List Pr)) (i : Int), 0 ≤ i → (idxU l i < 0 ↔ ∀ p, p ∈ l → isOrd p.2 = true)
  | [], i, h => by simp [idxU]
  | p :: l, i, h => by
    unfold idxU
    have ih := idxU_good l (i + 1) (by omega)
    cases hb : isOrd p.2 with
    | false => simp [hb]; omega
    | true => simp [hb, ih]
section
variable {fn : FuncId} {T : Nat → AV} {ds : List ADef} {ro : Option Nat} {k : List AItem} {Q : AV → AHeap → Prop} {dst : Option Nat} {os : List AO} {H : AHeap}
theorem ui_all {l : List (AV × List Pr)} {H : AHeap} {Q : AV → AHeap → Prop} (hl : l.length ≤ 1000) (hx : ∀ x, x ∈ l → InE x.1 x.2 ∧ x.2.length ≤ 100000) : ∀ (j i : Nat), i + j = l.length → Q (.int .i64 (idxU (l.drop i) (i : Int))) H → ∀ (T : Nat → AV), T 0 = .vec 1 (rowsR l) → T 1 = .fn 29 [] [] → T 7 = .int .i64 ((rowsR l).length : Int) → T 8 = .int .i64 (i : Int) →
    Run Cx 44 T [] none [.inLoop c44_7, .inBlock 0, .code c44_25] H Q
  | 0, i, hij, hQ => by
    intro T t0 t1 t7 t8
    rw [run_inLoop]
    have h0 : ((i : Int) < ((rowsR l).length : Int)) = False := eq_false (by rw [rowsR, List.length_map]; omega)
    rw [List.drop_of_length_le (show l.length ≤ i by omega)] at hQ
    have hQ' : Q (.int .i64 (-1)) H := hQ
    simp only [t0, t1, t7, t8, h0, xx, r44_0, r44_1, r44_2, r44_3, res44, tt, bb, bc, ↓bd, Nat.reduceEqDiff, Nat.reduceAdd, Nat.reduceMul, Nat.reduceLeDiff, Nat.reduceLT, ↓reduceIte, reduceCtorEq, Nat.reduceBeqDiff, Nat.reduceBneDiff, Int.reduceBNe, Int.reduceBEq, Int.reduceEq, Int.reduceLT, Int.reduceLE, Int.reduceAdd, Int.reduceSub, Int.reduceMul, Int.reduceNeg, List.reduceReplicate, Int.reduceToNat]
    exact hQ'
  | j + 1, i, hij, hQ => by
    intro T t0 t1 t7 t8
    rw [run_inLoop]
    have hi : i < l.length := by omega
    have h0 : ((i : Int) < ((rowsR l).length : Int)) = True := eq_true (by rw [rowsR, List.length_map]; omega)
    have hi0 : (0 : Int) ≤ (i : Int) := by omega
    have hg : (rowsR l)[i]? = some [(l[i]).1] := rows_at hi
    obtain ⟨hie, hil⟩ := hx _ (List.getElem_mem hi)
    have hb := notOrd_ok hie (by omega)
    have f0 : [(l[i]).1].all AV.flat = true := by simp [hie.flat]
    have w1 : IntKind.i64.wrap ((i : Int) + 1) = ((i + 1 : Nat) : Int) := by rw [wr64 (by omega) (by omega)]; omega
    rw [List.drop_eq_getElem_cons hi] at hQ
    unfold idxU at hQ
    cases hbb : isOrd (l[i]).2 with
    | false =>
      rw [hbb] at hQ hb
      rw [if_neg (by simp)] at hQ
      simp only [t0, t1, t7, t8, h0, hi0, hg, Int.toNat_natCast, call_pure pure29 f0 hb, xx, r44_0, r44_1, r44_2, r44_3, res44, tt, bb, bc, ↓bd, Nat.reduceEqDiff, Nat.reduceAdd, Nat.reduceMul, Nat.reduceLeDiff, Nat.reduceLT, ↓reduceIte, reduceCtorEq, Nat.reduceBeqDiff, Nat.reduceBneDiff, Int.reduceBNe, Int.reduceBEq, Int.reduceEq, Int.reduceLT, Int.reduceLE, Int.reduceAdd, Int.reduceSub, Int.reduceMul, Int.reduceNeg, List.reduceReplicate, Int.reduceToNat]
      exact hQ
    | true =>
      rw [hbb] at hQ hb
      rw [if_pos rfl] at hQ
      simp only [t0, t1, t7, t8, h0, hi0, hg, w1, Int.toNat_natCast, call_pure pure29 f0 hb, xx, r44_0, r44_1, r44_2, r44_3, res44, tt, bb, bc, ↓bd, Nat.reduceEqDiff, Nat.reduceAdd, Nat.reduceMul, Nat.reduceLeDiff, Nat.reduceLT, ↓reduceIte, reduceCtorEq, Nat.reduceBeqDiff, Nat.reduceBneDiff, Int.reduceBNe, Int.reduceBEq, Int.reduceEq, Int.reduceLT, Int.reduceLE, Int.reduceAdd, Int.reduceSub, Int.reduceMul, Int.reduceNeg, List.reduceReplicate, Int.reduceToNat]
      refine ui_all hl hx j (i + 1) (by omega) (by rw [show ((i + 1 : Nat) : Int) = (i : Int) + 1 by omega]; exact hQ) _ ?_ ?_ ?_ ?_
      all_goals simp only [upd_app, t0, t1, t7, Nat.reduceEqDiff, ↓reduceIte]
theorem Contains2_call {v : AV} {l : List (AV × List Pr)} (hv : v = .vec 1 (rowsR l) ∨ v = .nilS ∧ l = []) (hl : l.length ≤ 1000) (hx : ∀ x, x ∈ l → InE x.1 x.2 ∧ x.2.length ≤ 100000) (hk : RunOps Cx fn (putA T dst (.bool (decide (0 ≤ idxU l 0)))) ds ro os k H Q) :
    RunCall Cx fn T ds ro 28 [v, .fn 29 [] []] dst os k H Q := by
  refine call_body pure28 (noext _) body28 ?_
  simp only [r28_0, res28, tt, bb, bc, ↓bd, Nat.reduceEqDiff, Nat.reduceAdd, Nat.reduceMul, Nat.reduceLeDiff, Nat.reduceLT, ↓reduceIte, reduceCtorEq, Nat.reduceBeqDiff, Nat.reduceBneDiff, Int.reduceBNe, Int.reduceBEq, Int.reduceEq, Int.reduceLT, Int.reduceLE, Int.reduceAdd, Int.reduceSub, Int.reduceMul, Int.reduceNeg, List.reduceReplicate, Int.reduceToNat]
  refine call_body pure44 (noext _) body44 ?_
  rcases hv with rfl | ⟨rfl, rfl⟩
  · simp only [r44_0.1, r44_0.2.1, r44_0.2.2.1, r44_0.2.2.2.1, r44_0.2.2.2.2.1, r44_0.2.2.2.2.2.1, r44_0.2.2.2.2.2.2.1, r44_1, r44_2, r44_3.1, r44_3.2.2.1, r44_3.2.2.2, res44, tt, bb, bc, ↓bd, Nat.reduceEqDiff, Nat.reduceAdd, Nat.reduceMul, Nat.reduceLeDiff, Nat.reduceLT, ↓reduceIte, reduceCtorEq, Nat.reduceBeqDiff, Nat.reduceBneDiff, Int.reduceBNe, Int.reduceBEq, Int.reduceEq, Int.reduceLT, Int.reduceLE, Int.reduceAdd, Int.reduceSub, Int.reduceMul, Int.reduceNeg, List.reduceReplicate, Int.reduceToNat]
    refine ui_all hl hx l.length 0 (by omega) ?_ _ ?_ ?_ ?_ ?_
    · rw [List.drop_zero]
      simp only [r28_0, res28, tt, bb, bc, ↓bd, Nat.reduceEqDiff, Nat.reduceAdd, Nat.reduceMul, Nat.reduceLeDiff, Nat.reduceLT, ↓reduceIte, reduceCtorEq, Nat.reduceBeqDiff, Nat.reduceBneDiff, Int.reduceBNe, Int.reduceBEq, Int.reduceEq, Int.reduceLT, Int.reduceLE, Int.reduceAdd, Int.reduceSub, Int.reduceMul, Int.reduceNeg, List.reduceReplicate, Int.reduceToNat, Int.cast_ofNat_Int]
      exact hk
    all_goals simp only [upd_app, enterT, List.getElem?_cons_zero, List.getElem?_cons_succ, Option.getD_some, Nat.reduceEqDiff, ↓reduceIte]
    all_goals rfl
  · have hk' : RunOps Cx fn (putA T dst (.bool false)) ds ro os k H Q := hk
    have e : decide ((0 : Int) ≤ -1) = false := rfl
    simp only [e, xx, run_inLoop, r44_0, r44_1, r44_2, r44_3, res44, r28_0, res28, tt, bb, bc, ↓bd, Nat.reduceEqDiff, Nat.reduceAdd, Nat.reduceMul, Nat.reduceLeDiff, Nat.reduceLT, ↓reduceIte, reduceCtorEq, Nat.reduceBeqDiff, Nat.reduceBneDiff, Int.reduceBNe, Int.reduceBEq, Int.reduceEq, Int.reduceLT, Int.reduceLE, Int.reduceAdd, Int.reduceSub, Int.reduceMul, Int.reduceNeg, List.reduceReplicate, Int.reduceToNat]
    exact hk'
end
theorem both_of {f : FuncId} {args : List AV} {body : AC} {P : AV → Prop} (hx : Cx.ext f = none) (hb : bodyOf Cx f = some body) (h : Run Cx f (enterT args) [] none [.code body] AHeap.empty (fun r0 H' => ∃ r, P r ∧ BX.freeze H' r0 = some r ∧ (if r.solid then some r else madeT H' r0) = some r)) : ∃ r, P r ∧ PCall Cx f args r ∧ PMade Cx f args r := by
  obtain ⟨n, r0, H', he, r, hP, hf, hm⟩ := h
  exact ⟨r, hP, pcall_run hx hb ⟨n, r0, H', he, hf⟩, pmade_run hx hb ⟨n, r0, H', he, r, hf, hm⟩⟩
def MI (rv : AV) (L : ALoop) (out : List Pr) (nx : Nat) (A : Nat → Blk) : Prop :=
  4 < nx ∧ out.length ≤ 200000 ∧ (∃ d, A 0 = .cells 22 1 [[d]] ∧ OwnK 5 47 6 d nx A (out.map encP)) ∧ A 1 = .cells 48 1 [[rv]] ∧ A 2 = .dfr ∧ A 3 = .loop L
def mL (T : Nat → AV) : ALoop := { state := .ready, pending := none, fn := 13, T := T, params := [10], assign := c13_17, body := c13_18, defers := 2 }
theorem MI_keep {rv : AV} {L : ALoop} {out : List Pr} {nx nx' : Nat} {A A' : Nat → Blk} (h : MI rv L out nx A) (hn : nx ≤ nx') (ho : Oth 4 nx A A') : MI rv L out nx' A' := by
  obtain ⟨h1, h2, ⟨d, h3, h4⟩, h5, h6, h7⟩ := h
  refine ⟨by omega, h2, ⟨d, by rw [ho 0 (by omega) (by omega) (.inl (by omega))]; exact h3, ?_⟩, by rw [ho 1 (by omega) (by omega) (.inl (by omega))]; exact h5, by rw [ho 2 (by omega) (by omega) (.inl (by omega))]; exact h6, by rw [ho 3 (by omega) (by omega) (.inl (by omega))]; exact h7⟩
  rcases h4 with h | ⟨g, g1, g2, g3, g4⟩
  · exact .inl h
  · exact .inr ⟨g, g1, g2, by omega, by rw [ho g g3 (by omega) (.inr (by intro es e; rw [g4] at e; cases e))]; exact g4⟩
theorem mrg_round {T : Nat → AV} {rv : AV} {m : List Pr} (hm : m.length ≤ 100000) (t4 : T 4 = .ptr 0 1 0 0) : Rnd 4 3 (mL T) (MI rv (mL T)) (fun _ _ => False) m := by
  intro out more p nx A Q hmo hb hI hQ _
  have hol : out.length < 100000 := by
    have := congrArg List.length hmo
    rw [List.length_append, List.length_cons] at this
    omega
  obtain ⟨h1, h2, ⟨d, h3, h4⟩, h5, h6, h7⟩ := hI
  have e0 : (0 = nx) = False := eq_false (by omega)
  have e3 : (3 = nx) = False := eq_false (by omega)
  have n3 : (nx = 3) = False := eq_false (by omega)
  have hpl := h4.plain
  have hcl := h4.cells
  simp only [AV.plain] at hpl
  simp only [AV.cells] at hcl
  show Run Cx 13 (foldPut T [10] [pairA p]) [] (some 3) [.code c13_17, .beginRound, .code c13_18] ⟨nx, A⟩ Q
  simp only [foldPut, upd2, r13_0, r13_1, r13_2.1, r13_2.2.2.1, r13_2.2.2.2.1, r13_2.2.2.2.2.1, r13_2.2.2.2.2.2, res13, tt, bb, bc, ↓bd, Nat.reduceEqDiff, Nat.reduceAdd, Nat.reduceMul, Nat.reduceLeDiff, Nat.reduceLT, ↓reduceIte, reduceCtorEq, Nat.reduceBeqDiff, Nat.reduceBneDiff, Int.reduceBNe, Int.reduceBEq, Int.reduceEq, Int.reduceLT, Int.reduceLE, Int.reduceAdd, Int.reduceSub, Int.reduceMul, Int.reduceNeg, List.reduceReplicate, Int.reduceToNat]
  rw [run_begin (L := mL T) (by simp only [upd_app, e3, ↓reduceIte]; exact h7) rfl]
  simp only [AHeap.set]
  generalize hA1 : upd (upd A nx _) 3 _ = A1
  have b0 : A1 0 = .cells 22 1 [[d]] := by rw [← hA1]; simp only [upd_app, e0, Nat.reduceEqDiff, ↓reduceIte]; exact h3
  have bx : A1 nx = .cells 47 6 [[.str p.key, .int .i64 p.k, .int .i64 p.n, .str p.s, .int .i64 p.x, .int .i64 p.y]] := by rw [← hA1]; simp only [upd_app, n3, ↓reduceIte]
  have b3 : A1 3 = .loop { mL T with state := .busy } := by rw [← hA1]; simp only [upd_app, ↓reduceIte]
  have bo : ∀ c, c < nx → c ≠ 3 → A1 c = A c := fun c hc hc3 => by rw [← hA1]; simp only [upd_app]; rw [if_neg hc3, if_neg (by omega)]
  have h4' : OwnK 5 47 6 d (nx + 1) A1 (out.map encP) := h4.keep (by omega) (fun g hg hgA => bo g hg (fun e => by subst e; rw [h7] at hgA; cases hgA))
  obtain ⟨A2, ha, hown, hkeep⟩ := h4'.app1 (row := encP p) (by omega) psl pti (by unfold most; rw [List.length_map]; omega) (by unfold most; rw [List.length_map]; omega)
  simp only [encP] at ha
  have c0 : A2 0 = A1 0 := hkeep 0 (by omega) (.inr (by omega))
  rw [b0] at c0
  simp only [t4, b0, bx, ha, c0, runVH_some, xx, r13_0, r13_1, r13_2, res13, tt, bb, bc, ↓bd, Nat.reduceEqDiff, Nat.reduceAdd, Nat.reduceMul, Nat.reduceLeDiff, Nat.reduceLT, ↓reduceIte, reduceCtorEq, Nat.reduceBeqDiff, Nat.reduceBneDiff, Int.reduceBNe, Int.reduceBEq, Int.reduceEq, Int.reduceLT, Int.reduceLE, Int.reduceAdd, Int.reduceSub, Int.reduceMul, Int.reduceNeg, List.reduceReplicate, Int.reduceToNat]
  rw [round_nil (L := { mL T with state := .busy }) (by simp only [upd_app, Nat.reduceEqDiff, ↓reduceIte]; rw [hkeep 3 (by omega) (.inr (by omega))]; exact b3)]
  have hre : ∀ c, c ≠ 0 → c ≠ 3 → (upd (upd A2 0 (.cells 22 1 [[.slc (nx + 1 + 1) 6 0 ((out.map encP).length + 1)]])) 3 (.loop (mL T))) c = A2 c := fun c h1 h2 => by rw [upd_app, if_neg h2, upd_app, if_neg h1]
  refine hQ (nx + 1 + 1 + 1) _ ⟨by omega, by simp; omega, ⟨.slc (nx + 1 + 1) 6 0 ((out.map encP).length + 1), ?_, ?_⟩, ?_, ?_, ?_⟩ (by omega) ?_
  · simp only [AHeap.set, upd_app, Nat.reduceEqDiff, ↓reduceIte]
  · have e : (out ++ [p]).map encP = out.map encP ++ [encP p] := by simp
    rw [e]
    refine hown.keep (Nat.le_refl _) (fun g hg hgA => hre g ?_ ?_)
    · rintro rfl
      rw [c0] at hgA
      cases hgA
    · rintro rfl
      rw [hkeep 3 (by omega) (.inr (by omega)), b3] at hgA
      cases hgA
  · exact (hre 1 (by omega) (by omega)).trans ((hkeep 1 (by omega) (.inr (by omega))).trans ((bo 1 (by omega) (by omega)).trans h5))
  · exact (hre 2 (by omega) (by omega)).trans ((hkeep 2 (by omega) (.inr (by omega))).trans ((bo 2 (by omega) (by omega)).trans h6))
  · simp only [AHeap.set, upd_app, ↓reduceIte]
    rfl
  · intro c hc hcc
    have h03 : c ≠ 0 ∧ c ≠ 3 := by
      rcases hcc with rfl | ⟨es, he⟩ | ⟨hc4, es, he⟩
      · exact ⟨by omega, by omega⟩
      · refine ⟨?_, ?_⟩ <;> rintro rfl
        · rw [h3] at he; cases he
        · rw [h7] at he; cases he
      · refine ⟨?_, ?_⟩ <;> rintro rfl
        · rw [h3] at he; cases he
        · rw [h7] at he; cases he
    refine (hre c h03.1 h03.2).trans ((hkeep c (by omega) ?_).trans (bo c hc h03.2))
    rcases hcc with rfl | ⟨es, he⟩ | ⟨hc4, _⟩
    · exact .inr (by omega)
    · left
      rw [bo c hc h03.2, he]
      intro e; cases e
    · exact .inr (by omega)
end Go.Proofs.Ytjnopnlgcmlkfaa.G

