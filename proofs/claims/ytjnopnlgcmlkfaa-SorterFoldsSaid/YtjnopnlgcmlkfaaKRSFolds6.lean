import Derived.Test.YtjnopnlgcmlkfaaKRSFolds5
import Derived.Test.YtjnopnlgcmlkfaaKRSFolds3
namespace Go.Proofs.Ytjnopnlgcmlkfaa.G
open Go.BX
set_option linter.unusedSimpArgs false
set_option linter.unusedVariables false
theorem cut_of {f : Nat → Pr} {a m b mid lo r0 s : Nat} (ham : a < m) (hmb : m < b) (hmid : mid = (a + b) / 2) (hlo : (mid < m ∧ lo = mid + m - b ∧ r0 = mid) ∨ (m ≤ mid ∧ lo = a ∧ r0 = m)) (h1 : Srt f a m) (h2 : Srt f m b) (hs1 : lo ≤ s) (hs2 : s ≤ r0)
    (hl : ∀ c, lo ≤ c → c < s → ltP (f (mid + m - 1 - c)) (f c) = false) (hr : ∀ c, s ≤ c → c < r0 → ltP (f (mid + m - 1 - c)) (f c) = true) : Cut f a m b mid s where
  am := ham
  mb := hmb
  lo := by omega
  hi := by omega
  mi := by omega
  me := by omega
  ms := by omega
  gt := by
    intro p q x y z w
    have hsr : s < r0 := by omega
    have k1 := hr s (Nat.le_refl _) hsr
    exact bl_lt_le (bl_le_lt (h2.le z (show q ≤ mid + m - 1 - s by omega) (by omega)) k1) (h1.le (show a ≤ s by omega) x y)
  le := by
    intro p q x y z w
    have hsr : lo < s := by omega
    have k1 := hl (s - 1) (by omega) (by omega)
    rw [show mid + m - 1 - (s - 1) = mid + m - s by omega] at k1
    exact bl_le (bl_le (h1.le x (show p ≤ s - 1 by omega) (by omega)) k1) (h2.le (show m ≤ mid + m - s by omega) z w)
theorem symMerge_call {n h : Nat} {A : Nat → Blk} {g : Nat} (hn : n ≤ 1000000) : ∀ (N a m b : Nat) (f : Nat → Pr) (fn : FuncId) (T : Nat → AV) (ds : List ADef) (ro : Option Nat) (k : List AItem) (Q : AV → AHeap → Prop) (dst : Option Nat) (os : List AO),
    b - a ≤ N → a < m → m < b → b ≤ n → Srt f a m → Srt f m b → (∀ f', Mv a b f f' → Srt f' a b → RunOps Cx fn (putA T dst (.tuple [])) ds ro os k ⟨h, SB A g n f'⟩ Q) →
    RunCall Cx fn T ds ro 64 [.slc g 6 0 n, .int .i64 (a : Int), .int .i64 (m : Int), .int .i64 (b : Int), .fn 26 [] []] dst os k ⟨h, SB A g n f⟩ Q := by
  intro N
  induction N with
  | zero => intro a m b f fn T ds ro k Q dst os hN ham hmb; omega
  | succ N ih =>
    intro a m b f fn T ds ro k Q dst os hN ham hmb hbn h1 h2 hk
    refine call_body pure64 (noext _) body64 ?_
    have hQ : ∀ f', Mv a b f f' → Srt f' a b → (fun r H1 => RunOps Cx fn (putA T dst r) ds ro os k H1 Q) (.tuple []) ⟨h, SB A g n f'⟩ := hk
    generalize (fun r H1 => RunOps Cx fn (putA T dst r) ds ro os k H1 Q) = Q' at hQ ⊢
    clear hk
    have w1 : IntKind.i64.wrap ((m : Int) - (a : Int)) = ((m - a : Nat) : Int) := by rw [wr64 (by omega) (by omega)]; omega
    have w2 : IntKind.i64.wrap ((b : Int) - (m : Int)) = ((b - m : Nat) : Int) := by rw [wr64 (by omega) (by omega)]; omega
    by_cases c1 : m - a = 1
    · obtain rfl : m = a + 1 := by omega
      have e1 : (((a + 1 - a : Nat) : Int) == 1) = true := by rw [c1]; rfl
      simp only [w1, e1, r64_0, r64_1.1, r64_1.2.1, r64_1.2.2.1, r64_1.2.2.2.2.1, r64_1.2.2.2.2.2.1, r64_1.2.2.2.2.2.2.1, r64_1.2.2.2.2.2.2.2, r64_2, r64_3.1, r64_3.2.2.1, r64_3.2.2.2.1, r64_3.2.2.2.2.1, r64_3.2.2.2.2.2.1, r64_3.2.2.2.2.2.2.1, r64_3.2.2.2.2.2.2.2, r64_4, r64_5.1, r64_5.2.1, r64_5.2.2.2.1, r64_5.2.2.2.2.1, r64_5.2.2.2.2.2.1, r64_5.2.2.2.2.2.2.1, r64_5.2.2.2.2.2.2.2, r64_6, r64_7, r64_8, r64_9, r64_10, r64_11, r64_12, r64_13, r64_14, r64_15, r64_16, r64_17, res64, tt, bb, bc, ↓bd, Nat.reduceEqDiff, Nat.reduceAdd, Nat.reduceMul, Nat.reduceLeDiff, Nat.reduceLT, ↓reduceIte, reduceCtorEq, Nat.reduceBeqDiff, Nat.reduceBneDiff, Int.reduceBNe, Int.reduceBEq, Int.reduceEq, Int.reduceLT, Int.reduceLE, Int.reduceAdd, Int.reduceSub, Int.reduceMul, Int.reduceNeg, List.reduceReplicate, Int.reduceToNat]
      refine bs1_all (a := a) (m := a + 1) (b := b) hn (by omega) hbn h2 ?_ b (a + 1) b _ (by omega) (by omega) (by omega) (by omega) ?_ ?_ ?_ ?_ ?_ (fun q x y => absurd y (by omega)) (fun q x y => absurd y (by omega))
      · intro T' i t0 t1 t10 hi1 hi2 hl hr
        obtain ⟨hm, hs⟩ := mrg_one hi1 hi2 h2 hl hr
        have hu := up_all (a := a) (f := f) (i := i) (A := A) (h := h) (g := g) hn (by omega) (by omega) (hQ _ hm hs) (i - (a + 1)) a
        rw [rot_nil'] at hu
        simp only [t0, t1, t10, r64_0, r64_1, r64_2, r64_3.1, r64_3.2.1, r64_3.2.2.1, r64_3.2.2.2.1, r64_3.2.2.2.2.1, r64_3.2.2.2.2.2.1, r64_3.2.2.2.2.2.2.2, r64_4, r64_5.2.1, r64_5.2.2.2.1, r64_5.2.2.2.2.1, r64_5.2.2.2.2.2.1, r64_5.2.2.2.2.2.2.1, r64_5.2.2.2.2.2.2.2, r64_6, r64_7, r64_8, r64_9, r64_10, r64_11, r64_12, r64_13, r64_14, r64_15, r64_16, r64_17, res64, tt, bb, bc, ↓bd, Nat.reduceEqDiff, Nat.reduceAdd, Nat.reduceMul, Nat.reduceLeDiff, Nat.reduceLT, ↓reduceIte, reduceCtorEq, Nat.reduceBeqDiff, Nat.reduceBneDiff, Int.reduceBNe, Int.reduceBEq, Int.reduceEq, Int.reduceLT, Int.reduceLE, Int.reduceAdd, Int.reduceSub, Int.reduceMul, Int.reduceNeg, List.reduceReplicate, Int.reduceToNat]
        refine hu _ (by omega) (Nat.le_refl _) ?_ ?_ ?_
        all_goals simp only [upd_app, t0, t1, t10, Nat.reduceEqDiff, ↓reduceIte]
      all_goals simp only [upd_app, enterT, List.getElem?_cons_zero, List.getElem?_cons_succ, Option.getD_some, Nat.reduceEqDiff, ↓reduceIte]
      all_goals rfl
    · have e1 : (((m - a : Nat) : Int) == 1) = false := by simp; omega
      by_cases c2 : b - m = 1
      · obtain rfl : b = m + 1 := by omega
        have e2 : (((m + 1 - m : Nat) : Int) == 1) = true := by rw [c2]; rfl
        simp only [w1, w2, e1, e2, r64_0, r64_1, r64_2, r64_3, r64_4, r64_5, r64_6.1, r64_6.2.1, r64_6.2.2.1, r64_6.2.2.2.1, r64_6.2.2.2.2.1, r64_6.2.2.2.2.2.2.1, r64_6.2.2.2.2.2.2.2, r64_7, r64_8.1, r64_8.2.1, r64_8.2.2.1, r64_8.2.2.2.2.1, r64_8.2.2.2.2.2.1, r64_8.2.2.2.2.2.2.1, r64_8.2.2.2.2.2.2.2, r64_9, r64_10.1, r64_10.2.1, r64_10.2.2.1, r64_10.2.2.2.1, r64_10.2.2.2.2.2.1, r64_10.2.2.2.2.2.2.1, r64_10.2.2.2.2.2.2.2, r64_11, r64_12, r64_13, r64_14, r64_15, r64_16, r64_17, res64, tt, bb, bc, ↓bd, Nat.reduceEqDiff, Nat.reduceAdd, Nat.reduceMul, Nat.reduceLeDiff, Nat.reduceLT, ↓reduceIte, reduceCtorEq, Nat.reduceBeqDiff, Nat.reduceBneDiff, Int.reduceBNe, Int.reduceBEq, Int.reduceEq, Int.reduceLT, Int.reduceLE, Int.reduceAdd, Int.reduceSub, Int.reduceMul, Int.reduceNeg, List.reduceReplicate, Int.reduceToNat]
        refine bs2_all (a := a) (m := m) hn (by omega) h1 ?_ m a m _ (by omega) (by omega) (by omega) (by omega) ?_ ?_ ?_ ?_ ?_ (fun q x y => absurd y (by omega)) (fun q x y => absurd y (by omega))
        · intro T' i t0 t2 t14 hi1 hi2 hl hr
          obtain ⟨hm, hs⟩ := mrg_last hi1 hi2 h1 hl hr
          have hu := down_all (m := m) (f := f) (i := i) (A := A) (h := h) (g := g) hn hi2 (by omega) (hQ _ hm hs) (m - i) m
          rw [rot_nil] at hu
          first
          | (simp only [t0, t2, t14, r64_0, r64_1, r64_2, r64_3, r64_4, r64_5, r64_6, r64_7, r64_8, r64_9.2.1, r64_9.2.2.1, r64_9.2.2.2.1, r64_9.2.2.2.2.1, r64_9.2.2.2.2.2.1, r64_9.2.2.2.2.2.2.1, r64_9.2.2.2.2.2.2.2, r64_10.1, r64_10.2.1, r64_10.2.2.2.1, r64_10.2.2.2.2.2.1, r64_10.2.2.2.2.2.2.1, r64_10.2.2.2.2.2.2.2, r64_11, r64_12, r64_13, r64_14, r64_15, r64_16, r64_17, res64, tt, bb, bc, ↓bd, Nat.reduceEqDiff, Nat.reduceAdd, Nat.reduceMul, Nat.reduceLeDiff, Nat.reduceLT, ↓reduceIte, reduceCtorEq, Nat.reduceBeqDiff, Nat.reduceBneDiff, Int.reduceBNe, Int.reduceBEq, Int.reduceEq, Int.reduceLT, Int.reduceLE, Int.reduceAdd, Int.reduceSub, Int.reduceMul, Int.reduceNeg, List.reduceReplicate, Int.reduceToNat]
             refine hu _ (by omega) (Nat.le_refl _) ?_ ?_ ?_
             all_goals simp only [upd_app, t0, t2, t14, Nat.reduceEqDiff, ↓reduceIte])
        all_goals simp only [upd_app, enterT, List.getElem?_cons_zero, List.getElem?_cons_succ, Option.getD_some, Nat.reduceEqDiff, ↓reduceIte]
        all_goals rfl
      · have e2 : (((b - m : Nat) : Int) == 1) = false := by simp; omega
        have w3 : IntKind.i64.wrap ((a : Int) + (b : Int)) = ((a + b : Nat) : Int) := by rw [wr64 (by omega) (by omega)]; omega
        have w4 := u64_half (N := a + b) (by omega)
        generalize hmid : (a + b) / 2 = mid at w4
        have w5 : IntKind.i64.wrap ((mid : Int) + (m : Int)) = ((mid + m : Nat) : Int) := by rw [wr64 (by omega) (by omega)]; omega
        have w6 : IntKind.i64.wrap (((mid + m : Nat) : Int) - (b : Int)) = ((mid + m : Nat) : Int) - (b : Int) := wr64 (by omega) (by omega)
        have w7 : IntKind.i64.wrap (((mid + m : Nat) : Int) - 1) = ((mid + m - 1 : Nat) : Int) := by rw [wr64 (by omega) (by omega)]; omega
        have hend : ∀ (T' : Nat → AV) (s lo r0 : Nat), ((mid < m ∧ lo = mid + m - b ∧ r0 = mid) ∨ (m ≤ mid ∧ lo = a ∧ r0 = m)) → T' 0 = .slc g 6 0 n → T' 1 = .int .i64 (a : Int) → T' 2 = .int .i64 (m : Int) → T' 3 = .int .i64 (b : Int) → T' 4 = .fn 26 [] [] → T' 18 = .int .i64 (mid : Int) → T' 19 = .int .i64 ((mid + m : Nat) : Int) → T' 20 = .int .i64 (s : Int) → lo ≤ s → s ≤ r0 → (∀ c, lo ≤ c → c < s → ltP (f (mid + m - 1 - c)) (f c) = false) → (∀ c, s ≤ c → c < r0 → ltP (f (mid + m - 1 - c)) (f c) = true) →
            Run Cx 64 T' [] none [.code c64_119] ⟨h, SB A g n f⟩ Q' := by
          intro T' s lo r0 hlo t0 t1 t2 t3 t4 t18 t19 t20 hs1 hs2 hl hr
          have cut := cut_of ham hmb hmid.symm hlo h1 h2 hs1 hs2 hl hr
          obtain ⟨s1, s2, s3, s4⟩ := cut.srt h1 h2
          have cross := cut.cross h1 h2
          have cmv := cut.mv
          have k1 := cut.lo
          have k2 := cut.hi
          have k3 := cut.mi
          have k4 := cut.me
          have k5 := cut.ms
          have w8 : IntKind.i64.wrap (((mid + m : Nat) : Int) - (s : Int)) = ((mid + m - s : Nat) : Int) := by rw [wr64 (by omega) (by omega)]; omega
          generalize hF : rot f s m (mid + m - s) = F at s1 s2 s3 s4 cross cmv
          have he : ∃ e, e = mid + m - s := ⟨_, rfl⟩
          obtain ⟨e, he⟩ := he
          rw [← he] at w8 s3 s4 hF k4 k5
          have hK3 : ∀ (T' : Nat → AV) (F2 : Nat → Pr), T' 0 = .slc g 6 0 n → T' 3 = .int .i64 (b : Int) → T' 4 = .fn 26 [] [] → T' 18 = .int .i64 (mid : Int) → T' 24 = .int .i64 (e : Int) → Mv a mid F F2 → Srt F2 a mid →
              Run Cx 64 T' [] none [.code c64_133] ⟨h, SB A g n F2⟩ Q' := by
            intro T' F2 t0 t3 t4 t18 t24 hm2 hs2
            have s3' : Srt F2 mid e := s3.congr fun k x y => hm2.1 k (.inr x)
            have s4' : Srt F2 e b := s4.congr fun k x y => hm2.1 k (.inr (by omega))
            by_cases d1 : mid < e ∧ e < b
            · have i1 : (mid : Int) < (e : Int) := by omega
              have i2 : (e : Int) < (b : Int) := by omega
              simp only [t0, t3, t4, t18, t24, i1, i2, r64_0, r64_1, r64_2, r64_3, r64_4, r64_5, r64_6, r64_7, r64_8, r64_9, r64_10, r64_11, r64_12, r64_13, r64_14, r64_15, r64_16, r64_17, res64, tt, bb, bc, ↓bd, Nat.reduceEqDiff, Nat.reduceAdd, Nat.reduceMul, Nat.reduceLeDiff, Nat.reduceLT, ↓reduceIte, reduceCtorEq, Nat.reduceBeqDiff, Nat.reduceBneDiff, Int.reduceBNe, Int.reduceBEq, Int.reduceEq, Int.reduceLT, Int.reduceLE, Int.reduceAdd, Int.reduceSub, Int.reduceMul, Int.reduceNeg, List.reduceReplicate, Int.reduceToNat]
              refine ih mid e b F2 _ _ _ _ _ _ _ _ (by omega) d1.1 d1.2 hbn s3' s4' ?_
              intro F3 hm3 hs3
              simp only [run_nil, r64_0, r64_1, r64_2, r64_3, r64_4, r64_5, r64_6, r64_7, r64_8, r64_9, r64_10, r64_11, r64_12, r64_13, r64_14, r64_15, r64_16, r64_17, res64, tt, bb, bc, ↓bd, Nat.reduceEqDiff, Nat.reduceAdd, Nat.reduceMul, Nat.reduceLeDiff, Nat.reduceLT, ↓reduceIte, reduceCtorEq, Nat.reduceBeqDiff, Nat.reduceBneDiff, Int.reduceBNe, Int.reduceBEq, Int.reduceEq, Int.reduceLT, Int.reduceLE, Int.reduceAdd, Int.reduceSub, Int.reduceMul, Int.reduceNeg, List.reduceReplicate, Int.reduceToNat]
              obtain ⟨hm4, hs4⟩ := halves (by omega) (by omega) cross hm2 hm3 hs2 hs3
              exact hQ _ (cmv.trans hm4) hs4
            · have hs3 : Srt F2 mid b := by
                by_cases d2 : mid < e
                · have : e = b := by omega
                  rw [← this]; exact s3'
                · have : e = mid := by omega
                  rw [← this]; exact s4'
              obtain ⟨hm4, hs4⟩ := halves (by omega) (by omega) cross hm2 (Mv.refl mid b F2) hs2 hs3
              have hq := hQ _ (cmv.trans hm4) hs4
              by_cases i1 : (mid : Int) < (e : Int)
              · have i2 : ((e : Int) < (b : Int)) = False := eq_false (by omega)
                simp only [t0, t3, t4, t18, t24, i1, i2, run_nil, r64_0, r64_1, r64_2, r64_3, r64_4, r64_5, r64_6, r64_7, r64_8, r64_9, r64_10, r64_11, r64_12, r64_13, r64_14, r64_15, r64_16, r64_17, res64, tt, bb, bc, ↓bd, Nat.reduceEqDiff, Nat.reduceAdd, Nat.reduceMul, Nat.reduceLeDiff, Nat.reduceLT, ↓reduceIte, reduceCtorEq, Nat.reduceBeqDiff, Nat.reduceBneDiff, Int.reduceBNe, Int.reduceBEq, Int.reduceEq, Int.reduceLT, Int.reduceLE, Int.reduceAdd, Int.reduceSub, Int.reduceMul, Int.reduceNeg, List.reduceReplicate, Int.reduceToNat]
                exact hq
              · simp only [t0, t3, t4, t18, t24, i1, run_nil, r64_0, r64_1, r64_2, r64_3, r64_4, r64_5, r64_6, r64_7, r64_8, r64_9, r64_10, r64_11, r64_12, r64_13, r64_14, r64_15, r64_16, r64_17, res64, tt, bb, bc, ↓bd, Nat.reduceEqDiff, Nat.reduceAdd, Nat.reduceMul, Nat.reduceLeDiff, Nat.reduceLT, ↓reduceIte, reduceCtorEq, Nat.reduceBeqDiff, Nat.reduceBneDiff, Int.reduceBNe, Int.reduceBEq, Int.reduceEq, Int.reduceLT, Int.reduceLE, Int.reduceAdd, Int.reduceSub, Int.reduceMul, Int.reduceNeg, List.reduceReplicate, Int.reduceToNat]
                exact hq
          have hK2 : ∀ (T' : Nat → AV), T' 0 = .slc g 6 0 n → T' 1 = .int .i64 (a : Int) → T' 3 = .int .i64 (b : Int) → T' 4 = .fn 26 [] [] → T' 18 = .int .i64 (mid : Int) → T' 20 = .int .i64 (s : Int) → T' 24 = .int .i64 (e : Int) →
              Run Cx 64 T' [] none [.code c64_127] ⟨h, SB A g n F⟩ Q' := by
            intro T' t0 t1 t3 t4 t18 t20 t24
            by_cases d1 : a < s ∧ s < mid
            · have i1 : (a : Int) < (s : Int) := by omega
              have i2 : (s : Int) < (mid : Int) := by omega
              simp only [t0, t1, t3, t4, t18, t20, t24, i1, i2, r64_0, r64_1, r64_2, r64_3, r64_4, r64_5, r64_6, r64_7, r64_8, r64_9, r64_10, r64_11, r64_12, r64_13, r64_14, r64_15, r64_16.1, r64_16.2.1, r64_16.2.2.1, r64_16.2.2.2.1, r64_16.2.2.2.2.1, r64_16.2.2.2.2.2.2.1, r64_16.2.2.2.2.2.2.2, r64_17, res64, tt, bb, bc, ↓bd, Nat.reduceEqDiff, Nat.reduceAdd, Nat.reduceMul, Nat.reduceLeDiff, Nat.reduceLT, ↓reduceIte, reduceCtorEq, Nat.reduceBeqDiff, Nat.reduceBneDiff, Int.reduceBNe, Int.reduceBEq, Int.reduceEq, Int.reduceLT, Int.reduceLE, Int.reduceAdd, Int.reduceSub, Int.reduceMul, Int.reduceNeg, List.reduceReplicate, Int.reduceToNat]
              refine ih a s mid F _ _ _ _ _ _ _ _ (by omega) d1.1 d1.2 (by omega) s1 s2 ?_
              intro F2 hm2 hs2
              simp only [r64_0, r64_1, r64_2, r64_3, r64_4, r64_5, r64_6, r64_7, r64_8, r64_9, r64_10, r64_11, r64_12, r64_13, r64_14, r64_15, r64_16.1, r64_16.2.1, r64_16.2.2.1, r64_16.2.2.2.1, r64_16.2.2.2.2.1, r64_16.2.2.2.2.2.2.1, r64_16.2.2.2.2.2.2.2, r64_17, res64, tt, bb, bc, ↓bd, Nat.reduceEqDiff, Nat.reduceAdd, Nat.reduceMul, Nat.reduceLeDiff, Nat.reduceLT, ↓reduceIte, reduceCtorEq, Nat.reduceBeqDiff, Nat.reduceBneDiff, Int.reduceBNe, Int.reduceBEq, Int.reduceEq, Int.reduceLT, Int.reduceLE, Int.reduceAdd, Int.reduceSub, Int.reduceMul, Int.reduceNeg, List.reduceReplicate, Int.reduceToNat]
              refine hK3 _ F2 ?_ ?_ ?_ ?_ ?_ hm2 hs2
              all_goals simp only [upd_app, t0, t3, t4, t18, t24, Nat.reduceEqDiff, ↓reduceIte]
            · have hs2 : Srt F a mid := by
                by_cases d2 : a < s
                · have : s = mid := by omega
                  rw [← this]; exact s1
                · have : s = a := by omega
                  rw [← this]; exact s2
              by_cases i1 : (a : Int) < (s : Int)
              · have i2 : ((s : Int) < (mid : Int)) = False := eq_false (by omega)
                simp only [t0, t1, t3, t4, t18, t20, t24, i1, i2, r64_0, r64_1, r64_2, r64_3, r64_4, r64_5, r64_6, r64_7, r64_8, r64_9, r64_10, r64_11, r64_12, r64_13, r64_14, r64_15, r64_16.1, r64_16.2.1, r64_16.2.2.1, r64_16.2.2.2.1, r64_16.2.2.2.2.1, r64_16.2.2.2.2.2.2.1, r64_16.2.2.2.2.2.2.2, r64_17, res64, tt, bb, bc, ↓bd, Nat.reduceEqDiff, Nat.reduceAdd, Nat.reduceMul, Nat.reduceLeDiff, Nat.reduceLT, ↓reduceIte, reduceCtorEq, Nat.reduceBeqDiff, Nat.reduceBneDiff, Int.reduceBNe, Int.reduceBEq, Int.reduceEq, Int.reduceLT, Int.reduceLE, Int.reduceAdd, Int.reduceSub, Int.reduceMul, Int.reduceNeg, List.reduceReplicate, Int.reduceToNat]
                refine hK3 _ F ?_ ?_ ?_ ?_ ?_ (Mv.refl _ _ _) hs2
                all_goals simp only [upd_app, t0, t3, t4, t18, t24, Nat.reduceEqDiff, ↓reduceIte]
              · simp only [t0, t1, t3, t4, t18, t20, t24, i1, r64_0, r64_1, r64_2, r64_3, r64_4, r64_5, r64_6, r64_7, r64_8, r64_9, r64_10, r64_11, r64_12, r64_13, r64_14, r64_15, r64_16.1, r64_16.2.1, r64_16.2.2.1, r64_16.2.2.2.1, r64_16.2.2.2.2.1, r64_16.2.2.2.2.2.2.1, r64_16.2.2.2.2.2.2.2, r64_17, res64, tt, bb, bc, ↓bd, Nat.reduceEqDiff, Nat.reduceAdd, Nat.reduceMul, Nat.reduceLeDiff, Nat.reduceLT, ↓reduceIte, reduceCtorEq, Nat.reduceBeqDiff, Nat.reduceBneDiff, Int.reduceBNe, Int.reduceBEq, Int.reduceEq, Int.reduceLT, Int.reduceLE, Int.reduceAdd, Int.reduceSub, Int.reduceMul, Int.reduceNeg, List.reduceReplicate, Int.reduceToNat]
                refine hK3 _ F ?_ ?_ ?_ ?_ ?_ (Mv.refl _ _ _) hs2
                all_goals simp only [upd_app, t0, t3, t4, t18, t24, Nat.reduceEqDiff, ↓reduceIte]
          by_cases d1 : s < m ∧ m < e
          · have i1 : (s : Int) < (m : Int) := by omega
            have i2 : (m : Int) < (e : Int) := by omega
            simp only [t0, t1, t2, t3, t4, t18, t19, t20, w8, i1, i2, r64_0, r64_1, r64_2, r64_3, r64_4, r64_5, r64_6, r64_7, r64_8, r64_9, r64_10, r64_11, r64_12, r64_13, r64_14, r64_15.1, r64_15.2.1, r64_15.2.2.1, r64_15.2.2.2.1, r64_15.2.2.2.2.1, r64_15.2.2.2.2.2.1, r64_15.2.2.2.2.2.2.1, r64_16, r64_17, res64, tt, bb, bc, ↓bd, Nat.reduceEqDiff, Nat.reduceAdd, Nat.reduceMul, Nat.reduceLeDiff, Nat.reduceLT, ↓reduceIte, reduceCtorEq, Nat.reduceBeqDiff, Nat.reduceBneDiff, Int.reduceBNe, Int.reduceBEq, Int.reduceEq, Int.reduceLT, Int.reduceLE, Int.reduceAdd, Int.reduceSub, Int.reduceMul, Int.reduceNeg, List.reduceReplicate, Int.reduceToNat]
            refine rotate_call hn d1.1 d1.2 (by omega) ?_
            rw [hF]
            simp only [r64_0, r64_1, r64_2, r64_3, r64_4, r64_5, r64_6, r64_7, r64_8, r64_9, r64_10, r64_11, r64_12, r64_13, r64_14, r64_15.1, r64_15.2.1, r64_15.2.2.1, r64_15.2.2.2.1, r64_15.2.2.2.2.1, r64_15.2.2.2.2.2.1, r64_15.2.2.2.2.2.2.1, r64_16, r64_17, res64, tt, bb, bc, ↓bd, Nat.reduceEqDiff, Nat.reduceAdd, Nat.reduceMul, Nat.reduceLeDiff, Nat.reduceLT, ↓reduceIte, reduceCtorEq, Nat.reduceBeqDiff, Nat.reduceBneDiff, Int.reduceBNe, Int.reduceBEq, Int.reduceEq, Int.reduceLT, Int.reduceLE, Int.reduceAdd, Int.reduceSub, Int.reduceMul, Int.reduceNeg, List.reduceReplicate, Int.reduceToNat]
            refine hK2 _ ?_ ?_ ?_ ?_ ?_ ?_ ?_
            all_goals simp only [upd_app, t0, t1, t3, t4, t18, t20, Nat.reduceEqDiff, ↓reduceIte]
          · have hFf : F = f := by
              rw [← hF]
              by_cases d2 : s < m
              · have : e = m := by omega
                rw [this, rot_nil']
              · have : s = m := by omega
                rw [this, rot_nil]
            subst hFf
            by_cases i1 : (s : Int) < (m : Int)
            · have i2 : ((m : Int) < (e : Int)) = False := eq_false (by omega)
              simp only [t0, t1, t2, t3, t4, t18, t19, t20, w8, i1, i2, r64_0, r64_1, r64_2, r64_3, r64_4, r64_5, r64_6, r64_7, r64_8, r64_9, r64_10, r64_11, r64_12, r64_13, r64_14, r64_15.1, r64_15.2.1, r64_15.2.2.1, r64_15.2.2.2.1, r64_15.2.2.2.2.1, r64_15.2.2.2.2.2.1, r64_15.2.2.2.2.2.2.1, r64_16, r64_17, res64, tt, bb, bc, ↓bd, Nat.reduceEqDiff, Nat.reduceAdd, Nat.reduceMul, Nat.reduceLeDiff, Nat.reduceLT, ↓reduceIte, reduceCtorEq, Nat.reduceBeqDiff, Nat.reduceBneDiff, Int.reduceBNe, Int.reduceBEq, Int.reduceEq, Int.reduceLT, Int.reduceLE, Int.reduceAdd, Int.reduceSub, Int.reduceMul, Int.reduceNeg, List.reduceReplicate, Int.reduceToNat]
              refine hK2 _ ?_ ?_ ?_ ?_ ?_ ?_ ?_
              all_goals simp only [upd_app, t0, t1, t3, t4, t18, t20, Nat.reduceEqDiff, ↓reduceIte]
            · simp only [t0, t1, t2, t3, t4, t18, t19, t20, w8, i1, r64_0, r64_1, r64_2, r64_3, r64_4, r64_5, r64_6, r64_7, r64_8, r64_9, r64_10, r64_11, r64_12, r64_13, r64_14, r64_15.1, r64_15.2.1, r64_15.2.2.1, r64_15.2.2.2.1, r64_15.2.2.2.2.1, r64_15.2.2.2.2.2.1, r64_15.2.2.2.2.2.2.1, r64_16, r64_17, res64, tt, bb, bc, ↓bd, Nat.reduceEqDiff, Nat.reduceAdd, Nat.reduceMul, Nat.reduceLeDiff, Nat.reduceLT, ↓reduceIte, reduceCtorEq, Nat.reduceBeqDiff, Nat.reduceBneDiff, Int.reduceBNe, Int.reduceBEq, Int.reduceEq, Int.reduceLT, Int.reduceLE, Int.reduceAdd, Int.reduceSub, Int.reduceMul, Int.reduceNeg, List.reduceReplicate, Int.reduceToNat]
              refine hK2 _ ?_ ?_ ?_ ?_ ?_ ?_ ?_
              all_goals simp only [upd_app, t0, t1, t3, t4, t18, t20, Nat.reduceEqDiff, ↓reduceIte]
        by_cases c3 : mid < m
        · have i1 : (mid : Int) < (m : Int) := by omega
          have w6' : ((mid + m : Nat) : Int) - (b : Int) = ((mid + m - b : Nat) : Int) := by omega
          replace w6 : IntKind.i64.wrap (((mid + m : Nat) : Int) - (b : Int)) = ((mid + m - b : Nat) : Int) := w6.trans w6'
          simp only [w1, w2, w3, w4, w5, w6, w7, e1, e2, i1, shiftBin, r64_0, r64_1, r64_2, r64_3, r64_4, r64_5, r64_6, r64_7, r64_8, r64_9, r64_10, r64_11, r64_12, r64_13.1, r64_13.2.2.1, r64_13.2.2.2.1, r64_13.2.2.2.2.1, r64_13.2.2.2.2.2.1, r64_13.2.2.2.2.2.2.1, r64_13.2.2.2.2.2.2.2, r64_14.1, r64_14.2.1, r64_14.2.2.1, r64_14.2.2.2.1, r64_14.2.2.2.2.1, r64_14.2.2.2.2.2.1, r64_14.2.2.2.2.2.2.1, r64_15, r64_16, r64_17, res64, tt, bb, bc, ↓bd, Nat.reduceEqDiff, Nat.reduceAdd, Nat.reduceMul, Nat.reduceLeDiff, Nat.reduceLT, ↓reduceIte, reduceCtorEq, Nat.reduceBeqDiff, Nat.reduceBneDiff, Int.reduceBNe, Int.reduceBEq, Int.reduceEq, Int.reduceLT, Int.reduceLE, Int.reduceAdd, Int.reduceSub, Int.reduceMul, Int.reduceNeg, List.reduceReplicate, Int.reduceToNat]
          refine bs3_all (a := a) (m := m) (b := b) (p := mid + m - 1) (lo := mid + m - b) (r0 := mid) (mv := .int .i64 (mid : Int)) (nv := .int .i64 ((mid + m : Nat) : Int)) hn hbn (by omega) (by omega) h1 h2 (fun c x y => ⟨by omega, by omega, by omega, by omega⟩) (by omega) ?_ mid (mid + m - b) mid _ (by omega) (by omega) (by omega) (by omega) ?_ ?_ ?_ ?_ ?_ ?_ ?_ ?_ ?_ ?_ (fun q x y => absurd y (by omega)) (fun q x y => absurd y (by omega))
          · intro T' s t0 t1 t2 t3 t4 t18 t19 t20 k1 k2 k3 k4
            exact hend T' s _ _ (.inl ⟨c3, rfl, rfl⟩) t0 t1 t2 t3 t4 t18 t19 t20 k1 k2 k3 k4
          all_goals simp only [upd_app, enterT, List.getElem?_cons_zero, List.getElem?_cons_succ, Option.getD_some, Nat.reduceEqDiff, ↓reduceIte]
          all_goals rfl
        · have i1 : ¬ (mid : Int) < (m : Int) := by omega
          simp only [w1, w2, w3, w4, w5, w6, w7, e1, e2, i1, shiftBin, r64_0, r64_1, r64_2, r64_3, r64_4, r64_5, r64_6, r64_7, r64_8, r64_9, r64_10, r64_11, r64_12, r64_13.1, r64_13.2.2.1, r64_13.2.2.2.1, r64_13.2.2.2.2.1, r64_13.2.2.2.2.2.1, r64_13.2.2.2.2.2.2.1, r64_13.2.2.2.2.2.2.2, r64_14.1, r64_14.2.1, r64_14.2.2.1, r64_14.2.2.2.1, r64_14.2.2.2.2.1, r64_14.2.2.2.2.2.1, r64_14.2.2.2.2.2.2.1, r64_15, r64_16, r64_17, res64, tt, bb, bc, ↓bd, Nat.reduceEqDiff, Nat.reduceAdd, Nat.reduceMul, Nat.reduceLeDiff, Nat.reduceLT, ↓reduceIte, reduceCtorEq, Nat.reduceBeqDiff, Nat.reduceBneDiff, Int.reduceBNe, Int.reduceBEq, Int.reduceEq, Int.reduceLT, Int.reduceLE, Int.reduceAdd, Int.reduceSub, Int.reduceMul, Int.reduceNeg, List.reduceReplicate, Int.reduceToNat]
          refine bs3_all (a := a) (m := m) (b := b) (p := mid + m - 1) (lo := a) (r0 := m) (mv := .int .i64 (mid : Int)) (nv := .int .i64 ((mid + m : Nat) : Int)) hn hbn (by omega) (by omega) h1 h2 (fun c x y => ⟨by omega, by omega, by omega, by omega⟩) (by omega) ?_ m a m _ (by omega) (by omega) (by omega) (by omega) ?_ ?_ ?_ ?_ ?_ ?_ ?_ ?_ ?_ ?_ (fun q x y => absurd y (by omega)) (fun q x y => absurd y (by omega))
          · intro T' s t0 t1 t2 t3 t4 t18 t19 t20 k1 k2 k3 k4
            exact hend T' s _ _ (.inr ⟨by omega, rfl, rfl⟩) t0 t1 t2 t3 t4 t18 t19 t20 k1 k2 k3 k4
          all_goals simp only [upd_app, enterT, List.getElem?_cons_zero, List.getElem?_cons_succ, Option.getD_some, Nat.reduceEqDiff, ↓reduceIte]
          all_goals rfl
end Go.Proofs.Ytjnopnlgcmlkfaa.G

namespace Go.Proofs.Ytjnopnlgcmlkfaa.G
open Go.BX
set_option linter.unusedSimpArgs false
set_option linter.unusedVariables false
theorem bk_of {f : Nat → Pr} {bs t a n : Nat} (ha : a = t * bs) (hd : ∀ u, u < t → Srt f (u * bs) (u * bs + bs)) (hl : Srt f a n) (hn : n < a + bs) : ∀ u, Srt f (u * bs) (min (u * bs + bs) n) := by
  intro u
  by_cases c : u < t
  · exact (hd u c).sub (Nat.le_refl _) (Nat.min_le_left _ _)
  · by_cases e : u = t
    · subst e
      rw [← ha]
      exact hl.sub (Nat.le_refl _) (Nat.min_le_right _ _)
    · have h1 : (t + 1) * bs ≤ u * bs := Nat.mul_le_mul_right bs (by omega)
      rw [Nat.add_mul] at h1
      exact Srt.one (by omega)
section
variable {n h : Nat} {A : Nat → Blk} {g : Nat} {f0 : Nat → Pr} {Q : AV → AHeap → Prop}
theorem st1_all (hn : n ≤ 1000000)
    (hK : ∀ (T : Nat → AV) (f : Nat → Pr), T 0 = .slc g 6 0 n → T 1 = .int .i64 (n : Int) → T 2 = .fn 26 [] [] → T 6 = .int .i64 20 → Mv 0 n f0 f → (∀ u, Srt f (u * 20) (min (u * 20 + 20) n)) →
      Run Cx 41 T [] none [.code c41_21] ⟨h, SB A g n f⟩ Q) :
    ∀ (d t a : Nat) (T : Nat → AV) (f : Nat → Pr), n ≤ a + d → a = t * 20 → a ≤ n → T 0 = .slc g 6 0 n → T 1 = .int .i64 (n : Int) → T 2 = .fn 26 [] [] → T 6 = .int .i64 20 → T 7 = .int .i64 (a : Int) → T 8 = .int .i64 ((a + 20 : Nat) : Int) → Mv 0 n f0 f → (∀ u, u < t → Srt f (u * 20) (u * 20 + 20)) →
      Run Cx 41 T [] none [.inLoop c41_7, .inBlock 0, .code c41_19] ⟨h, SB A g n f⟩ Q := by
  intro d
  induction d with
  | zero =>
    intro t a T f hd hat ha t0 t1 t2 t6 t7 t8 hm hs
    rw [run_inLoop]
    have h0 : ¬ ((a + 20 : Nat) : Int) ≤ (n : Int) := by omega
    simp only [t0, t1, t2, t6, t7, t8, h0, xx, r41_0, r41_1, r41_2.1, r41_2.2.1, r41_2.2.2.1, r41_2.2.2.2.1, r41_2.2.2.2.2.1, r41_2.2.2.2.2.2.2.1, r41_2.2.2.2.2.2.2.2, r41_3, r41_4, r41_5, r41_6, res41, tt, bb, bc, ↓bd, Nat.reduceEqDiff, Nat.reduceAdd, Nat.reduceMul, Nat.reduceLeDiff, Nat.reduceLT, ↓reduceIte, reduceCtorEq, Nat.reduceBeqDiff, Nat.reduceBneDiff, Int.reduceBNe, Int.reduceBEq, Int.reduceEq, Int.reduceLT, Int.reduceLE, Int.reduceAdd, Int.reduceSub, Int.reduceMul, Int.reduceNeg, List.reduceReplicate, Int.reduceToNat]
    refine insertion_call hn (by omega) (Nat.le_refl _) ?_
    intro f' hm' hs'
    have hm2 := hm.trans (hm'.wide (Nat.zero_le _) ha (Nat.le_refl _))
    simp only [r41_0, r41_1, r41_2.1, r41_2.2.1, r41_2.2.2.1, r41_2.2.2.2.1, r41_2.2.2.2.2.1, r41_2.2.2.2.2.2.2.1, r41_2.2.2.2.2.2.2.2, r41_3, r41_4, r41_5, r41_6, res41, tt, bb, bc, ↓bd, Nat.reduceEqDiff, Nat.reduceAdd, Nat.reduceMul, Nat.reduceLeDiff, Nat.reduceLT, ↓reduceIte, reduceCtorEq, Nat.reduceBeqDiff, Nat.reduceBneDiff, Int.reduceBNe, Int.reduceBEq, Int.reduceEq, Int.reduceLT, Int.reduceLE, Int.reduceAdd, Int.reduceSub, Int.reduceMul, Int.reduceNeg, List.reduceReplicate, Int.reduceToNat]
    refine hK _ f' ?_ ?_ ?_ ?_ hm2 (bk_of (t := t) hat (fun u hu => (hs u hu).congr fun k x y => hm'.1 k (.inl ?_)) hs' (by omega))
    all_goals first | omega | simp only [upd_app, t0, t1, t2, t6, Nat.reduceEqDiff, ↓reduceIte]
  | succ d ih =>
    intro t a T f hd hat ha t0 t1 t2 t6 t7 t8 hm hs
    rw [run_inLoop]
    by_cases c : a + 20 ≤ n
    · have h0 : ((a + 20 : Nat) : Int) ≤ (n : Int) := by omega
      have w1 : IntKind.i64.wrap (((a + 20 : Nat) : Int) + 20) = ((a + 20 + 20 : Nat) : Int) := by rw [wr64 (by omega) (by omega)]; omega
      simp only [t0, t1, t2, t6, t7, t8, h0, xx, r41_0, r41_1, r41_2.1, r41_2.2.1, r41_2.2.2.1, r41_2.2.2.2.2.1, r41_2.2.2.2.2.2.1, r41_2.2.2.2.2.2.2.1, r41_2.2.2.2.2.2.2.2, r41_3, r41_4, r41_5, r41_6, res41, tt, bb, bc, ↓bd, Nat.reduceEqDiff, Nat.reduceAdd, Nat.reduceMul, Nat.reduceLeDiff, Nat.reduceLT, ↓reduceIte, reduceCtorEq, Nat.reduceBeqDiff, Nat.reduceBneDiff, Int.reduceBNe, Int.reduceBEq, Int.reduceEq, Int.reduceLT, Int.reduceLE, Int.reduceAdd, Int.reduceSub, Int.reduceMul, Int.reduceNeg, List.reduceReplicate, Int.reduceToNat]
      refine insertion_call hn (by omega) c ?_
      intro f' hm' hs'
      have hm2 := hm.trans (hm'.wide (Nat.zero_le _) (by omega) c)
      simp only [t0, t1, t2, t6, t7, t8, w1, xx, r41_0, r41_1, r41_2.1, r41_2.2.1, r41_2.2.2.1, r41_2.2.2.2.2.1, r41_2.2.2.2.2.2.1, r41_2.2.2.2.2.2.2.1, r41_2.2.2.2.2.2.2.2, r41_3, r41_4, r41_5, r41_6, res41, tt, bb, bc, ↓bd, Nat.reduceEqDiff, Nat.reduceAdd, Nat.reduceMul, Nat.reduceLeDiff, Nat.reduceLT, ↓reduceIte, reduceCtorEq, Nat.reduceBeqDiff, Nat.reduceBneDiff, Int.reduceBNe, Int.reduceBEq, Int.reduceEq, Int.reduceLT, Int.reduceLE, Int.reduceAdd, Int.reduceSub, Int.reduceMul, Int.reduceNeg, List.reduceReplicate, Int.reduceToNat]
      refine ih (t + 1) (a + 20) _ f' (by omega) (by omega) c ?_ ?_ ?_ ?_ ?_ ?_ hm2 ?_
      all_goals first | (simp only [upd_app, t0, t1, t2, t6, Nat.reduceEqDiff, ↓reduceIte]; done) | skip
      intro u hu
      by_cases e : u = t
      · subst e; rw [← hat]; exact hs'
      · exact (hs u (by omega)).congr fun k x y => hm'.1 k (.inl (by omega))
    · have h0 : ¬ ((a + 20 : Nat) : Int) ≤ (n : Int) := by omega
      simp only [t0, t1, t2, t6, t7, t8, h0, xx, r41_0, r41_1, r41_2.1, r41_2.2.1, r41_2.2.2.1, r41_2.2.2.2.1, r41_2.2.2.2.2.1, r41_2.2.2.2.2.2.2.1, r41_2.2.2.2.2.2.2.2, r41_3, r41_4, r41_5, r41_6, res41, tt, bb, bc, ↓bd, Nat.reduceEqDiff, Nat.reduceAdd, Nat.reduceMul, Nat.reduceLeDiff, Nat.reduceLT, ↓reduceIte, reduceCtorEq, Nat.reduceBeqDiff, Nat.reduceBneDiff, Int.reduceBNe, Int.reduceBEq, Int.reduceEq, Int.reduceLT, Int.reduceLE, Int.reduceAdd, Int.reduceSub, Int.reduceMul, Int.reduceNeg, List.reduceReplicate, Int.reduceToNat]
      refine insertion_call hn (by omega) (Nat.le_refl _) ?_
      intro f' hm' hs'
      have hm2 := hm.trans (hm'.wide (Nat.zero_le _) ha (Nat.le_refl _))
      simp only [r41_0, r41_1, r41_2.1, r41_2.2.1, r41_2.2.2.1, r41_2.2.2.2.1, r41_2.2.2.2.2.1, r41_2.2.2.2.2.2.2.1, r41_2.2.2.2.2.2.2.2, r41_3, r41_4, r41_5, r41_6, res41, tt, bb, bc, ↓bd, Nat.reduceEqDiff, Nat.reduceAdd, Nat.reduceMul, Nat.reduceLeDiff, Nat.reduceLT, ↓reduceIte, reduceCtorEq, Nat.reduceBeqDiff, Nat.reduceBneDiff, Int.reduceBNe, Int.reduceBEq, Int.reduceEq, Int.reduceLT, Int.reduceLE, Int.reduceAdd, Int.reduceSub, Int.reduceMul, Int.reduceNeg, List.reduceReplicate, Int.reduceToNat]
      refine hK _ f' ?_ ?_ ?_ ?_ hm2 (bk_of (t := t) hat (fun u hu => (hs u hu).congr fun k x y => hm'.1 k (.inl ?_)) hs' (by omega))
      all_goals first | omega | simp only [upd_app, t0, t1, t2, t6, Nat.reduceEqDiff, ↓reduceIte]
theorem st2_all {bs : Nat} (hn : n ≤ 1000000) (hb : 0 < bs) (hbn : bs < n)
    (hK : ∀ (T : Nat → AV) (f : Nat → Pr), T 0 = .slc g 6 0 n → T 1 = .int .i64 (n : Int) → T 2 = .fn 26 [] [] → T 6 = .int .i64 ((bs * 2 : Nat) : Int) → Mv 0 n f0 f → (∀ u, Srt f (u * (bs * 2)) (min (u * (bs * 2) + bs * 2) n)) →
      Run Cx 41 T [] none [.inLoop c41_23, .inBlock 2] ⟨h, SB A g n f⟩ Q) :
    ∀ (d t a : Nat) (T : Nat → AV) (f : Nat → Pr), n ≤ a + d → a = t * (bs * 2) → a ≤ n → T 0 = .slc g 6 0 n → T 1 = .int .i64 (n : Int) → T 2 = .fn 26 [] [] → T 6 = .int .i64 (bs : Int) → T 7 = .int .i64 (a : Int) → T 8 = .int .i64 ((a + bs * 2 : Nat) : Int) → Mv 0 n f0 f → (∀ u, u < t → Srt f (u * (bs * 2)) (u * (bs * 2) + bs * 2)) → (∀ u, Srt f (a + u * bs) (min (a + u * bs + bs) n)) →
      Run Cx 41 T [] none [.inLoop c41_35, .inBlock 4, .code c41_47, .inBlock 3, .inLoop c41_23, .inBlock 2] ⟨h, SB A g n f⟩ Q := by
  have hend : ∀ (t a : Nat) (T : Nat → AV) (f : Nat → Pr), n < a + bs * 2 → a = t * (bs * 2) → a ≤ n → T 0 = .slc g 6 0 n → T 1 = .int .i64 (n : Int) → T 2 = .fn 26 [] [] → T 6 = .int .i64 (bs : Int) → T 7 = .int .i64 (a : Int) → Mv 0 n f0 f → (∀ u, u < t → Srt f (u * (bs * 2)) (u * (bs * 2) + bs * 2)) → (∀ u, Srt f (a + u * bs) (min (a + u * bs + bs) n)) →
      Run Cx 41 T [] none [.code c41_47, .inBlock 3, .inLoop c41_23, .inBlock 2] ⟨h, SB A g n f⟩ Q := by
    intro t a T f hd hat ha t0 t1 t2 t6 t7 hm hs hb2
    have w1 : IntKind.i64.wrap ((a : Int) + (bs : Int)) = ((a + bs : Nat) : Int) := by rw [wr64 (by omega) (by omega)]; omega
    have w2 : IntKind.i64.wrap ((bs : Int) * 2) = ((bs * 2 : Nat) : Int) := by rw [wr64 (by omega) (by omega)]; omega
    have q0 := hb2 0
    have q1 := hb2 1
    rw [Nat.zero_mul, Nat.add_zero] at q0
    rw [Nat.one_mul] at q1
    by_cases c : a + bs < n
    · have h0 : ((a + bs : Nat) : Int) < (n : Int) := by omega
      rw [Nat.min_eq_left (by omega)] at q0
      rw [Nat.min_eq_right (by omega)] at q1
      simp only [t0, t1, t2, t6, t7, w1, h0, xx, r41_0, r41_1, r41_2, r41_3, r41_4, r41_5, r41_6, res41, tt, bb, bc, ↓bd, Nat.reduceEqDiff, Nat.reduceAdd, Nat.reduceMul, Nat.reduceLeDiff, Nat.reduceLT, ↓reduceIte, reduceCtorEq, Nat.reduceBeqDiff, Nat.reduceBneDiff, Int.reduceBNe, Int.reduceBEq, Int.reduceEq, Int.reduceLT, Int.reduceLE, Int.reduceAdd, Int.reduceSub, Int.reduceMul, Int.reduceNeg, List.reduceReplicate, Int.reduceToNat]
      refine symMerge_call hn (n - a) a (a + bs) n f _ _ _ _ _ _ _ _ (Nat.le_refl _) (by omega) c (Nat.le_refl _) q0 q1 ?_
      intro f' hm' hs'
      have hm2 := hm.trans (hm'.wide (Nat.zero_le _) ha (Nat.le_refl _))
      simp only [t0, t1, t2, t6, t7, w2, xx, r41_0, r41_1, r41_2, r41_3, r41_4, r41_5, r41_6, res41, tt, bb, bc, ↓bd, Nat.reduceEqDiff, Nat.reduceAdd, Nat.reduceMul, Nat.reduceLeDiff, Nat.reduceLT, ↓reduceIte, reduceCtorEq, Nat.reduceBeqDiff, Nat.reduceBneDiff, Int.reduceBNe, Int.reduceBEq, Int.reduceEq, Int.reduceLT, Int.reduceLE, Int.reduceAdd, Int.reduceSub, Int.reduceMul, Int.reduceNeg, List.reduceReplicate, Int.reduceToNat]
      refine hK _ f' ?_ ?_ ?_ ?_ hm2 (bk_of (t := t) hat (fun u hu => (hs u hu).congr fun k x y => hm'.1 k (.inl ?_)) hs' hd)
      all_goals first | (simp only [upd_app, t0, t1, t2, t6, Nat.reduceEqDiff, ↓reduceIte]; done) | skip
      have h1 : (u + 1) * (bs * 2) ≤ t * (bs * 2) := Nat.mul_le_mul_right _ (by omega)
      rw [Nat.add_mul] at h1
      omega
    · have h0 : ¬ ((a + bs : Nat) : Int) < (n : Int) := by omega
      rw [Nat.min_eq_right (by omega)] at q0
      simp only [t0, t1, t2, t6, t7, w1, w2, h0, xx, r41_0, r41_1, r41_2, r41_3, r41_4, r41_5, r41_6, res41, tt, bb, bc, ↓bd, Nat.reduceEqDiff, Nat.reduceAdd, Nat.reduceMul, Nat.reduceLeDiff, Nat.reduceLT, ↓reduceIte, reduceCtorEq, Nat.reduceBeqDiff, Nat.reduceBneDiff, Int.reduceBNe, Int.reduceBEq, Int.reduceEq, Int.reduceLT, Int.reduceLE, Int.reduceAdd, Int.reduceSub, Int.reduceMul, Int.reduceNeg, List.reduceReplicate, Int.reduceToNat]
      refine hK _ f ?_ ?_ ?_ ?_ hm (bk_of (t := t) hat hs q0 hd)
      all_goals simp only [upd_app, t0, t1, t2, t6, Nat.reduceEqDiff, ↓reduceIte]
  intro d
  induction d with
  | zero =>
    intro t a T f hd hat ha t0 t1 t2 t6 t7 t8 hm hs hb2
    rw [run_inLoop]
    have h0 : ¬ ((a + bs * 2 : Nat) : Int) ≤ (n : Int) := by omega
    simp only [t0, t1, t2, t6, t7, t8, h0, xx, r41_0, r41_1, r41_2, r41_3, r41_4, r41_5.1, r41_5.2.1, r41_5.2.2.1, r41_5.2.2.2.1, r41_5.2.2.2.2.1, r41_5.2.2.2.2.2.1, r41_5.2.2.2.2.2.2.1, r41_6, res41, tt, bb, bc, ↓bd, Nat.reduceEqDiff, Nat.reduceAdd, Nat.reduceMul, Nat.reduceLeDiff, Nat.reduceLT, ↓reduceIte, reduceCtorEq, Nat.reduceBeqDiff, Nat.reduceBneDiff, Int.reduceBNe, Int.reduceBEq, Int.reduceEq, Int.reduceLT, Int.reduceLE, Int.reduceAdd, Int.reduceSub, Int.reduceMul, Int.reduceNeg, List.reduceReplicate, Int.reduceToNat]
    refine hend t a _ f (by omega) hat ha ?_ ?_ ?_ ?_ ?_ hm hs hb2
    all_goals simp only [upd_app, t0, t1, t2, t6, t7, Nat.reduceEqDiff, ↓reduceIte]
  | succ d ih =>
    intro t a T f hd hat ha t0 t1 t2 t6 t7 t8 hm hs hb2
    rw [run_inLoop]
    by_cases c : a + bs * 2 ≤ n
    · have h0 : ((a + bs * 2 : Nat) : Int) ≤ (n : Int) := by omega
      have w1 : IntKind.i64.wrap ((a : Int) + (bs : Int)) = ((a + bs : Nat) : Int) := by rw [wr64 (by omega) (by omega)]; omega
      have w2 : IntKind.i64.wrap (2 * (bs : Int)) = ((bs * 2 : Nat) : Int) := by rw [wr64 (by omega) (by omega)]; omega
      have w3 : IntKind.i64.wrap (((a + bs * 2 : Nat) : Int) + ((bs * 2 : Nat) : Int)) = ((a + bs * 2 + bs * 2 : Nat) : Int) := by rw [wr64 (by omega) (by omega)]; omega
      have q0 := hb2 0
      have q1 := hb2 1
      rw [Nat.zero_mul, Nat.add_zero, Nat.min_eq_left (by omega)] at q0
      rw [Nat.one_mul, Nat.min_eq_left (by omega), show a + bs + bs = a + bs * 2 by omega] at q1
      simp only [t0, t1, t2, t6, t7, t8, w1, h0, xx, r41_0, r41_1, r41_2, r41_3, r41_4, r41_5.1, r41_5.2.1, r41_5.2.2.1, r41_5.2.2.2.1, r41_5.2.2.2.2.1, r41_5.2.2.2.2.2.1, r41_5.2.2.2.2.2.2.1, r41_6, res41, tt, bb, bc, ↓bd, Nat.reduceEqDiff, Nat.reduceAdd, Nat.reduceMul, Nat.reduceLeDiff, Nat.reduceLT, ↓reduceIte, reduceCtorEq, Nat.reduceBeqDiff, Nat.reduceBneDiff, Int.reduceBNe, Int.reduceBEq, Int.reduceEq, Int.reduceLT, Int.reduceLE, Int.reduceAdd, Int.reduceSub, Int.reduceMul, Int.reduceNeg, List.reduceReplicate, Int.reduceToNat]
      refine symMerge_call hn (a + bs * 2 - a) a (a + bs) (a + bs * 2) f _ _ _ _ _ _ _ _ (Nat.le_refl _) (by omega) (by omega) c q0 q1 ?_
      intro f' hm' hs'
      have hm2 := hm.trans (hm'.wide (Nat.zero_le _) (by omega) c)
      simp only [t0, t1, t2, t6, t7, t8, w2, w3, xx, r41_0, r41_1, r41_2, r41_3, r41_4, r41_5.1, r41_5.2.1, r41_5.2.2.1, r41_5.2.2.2.1, r41_5.2.2.2.2.1, r41_5.2.2.2.2.2.1, r41_5.2.2.2.2.2.2.1, r41_6, res41, tt, bb, bc, ↓bd, Nat.reduceEqDiff, Nat.reduceAdd, Nat.reduceMul, Nat.reduceLeDiff, Nat.reduceLT, ↓reduceIte, reduceCtorEq, Nat.reduceBeqDiff, Nat.reduceBneDiff, Int.reduceBNe, Int.reduceBEq, Int.reduceEq, Int.reduceLT, Int.reduceLE, Int.reduceAdd, Int.reduceSub, Int.reduceMul, Int.reduceNeg, List.reduceReplicate, Int.reduceToNat]
      refine ih (t + 1) (a + bs * 2) _ f' (by omega) (by rw [Nat.add_mul, ← hat, Nat.one_mul]) c ?_ ?_ ?_ ?_ ?_ ?_ hm2 ?_ ?_
      all_goals first | (simp only [upd_app, t0, t1, t2, t6, Nat.reduceEqDiff, ↓reduceIte]; done) | skip
      · intro u hu
        by_cases e : u = t
        · subst e; rw [← hat]; exact hs'
        · refine (hs u (by omega)).congr fun k x y => hm'.1 k (.inl ?_)
          have h1 : (u + 1) * (bs * 2) ≤ t * (bs * 2) := Nat.mul_le_mul_right _ (by omega)
          rw [Nat.add_mul] at h1
          omega
      · intro u
        have q2 := hb2 (u + 2)
        rw [Nat.add_mul, show a + (u * bs + 2 * bs) = a + bs * 2 + u * bs by omega] at q2
        exact q2.congr fun k x y => hm'.1 k (.inr (by omega))
    · have h0 : ¬ ((a + bs * 2 : Nat) : Int) ≤ (n : Int) := by omega
      simp only [t0, t1, t2, t6, t7, t8, h0, xx, r41_0, r41_1, r41_2, r41_3, r41_4, r41_5.1, r41_5.2.1, r41_5.2.2.1, r41_5.2.2.2.1, r41_5.2.2.2.2.1, r41_5.2.2.2.2.2.1, r41_5.2.2.2.2.2.2.1, r41_6, res41, tt, bb, bc, ↓bd, Nat.reduceEqDiff, Nat.reduceAdd, Nat.reduceMul, Nat.reduceLeDiff, Nat.reduceLT, ↓reduceIte, reduceCtorEq, Nat.reduceBeqDiff, Nat.reduceBneDiff, Int.reduceBNe, Int.reduceBEq, Int.reduceEq, Int.reduceLT, Int.reduceLE, Int.reduceAdd, Int.reduceSub, Int.reduceMul, Int.reduceNeg, List.reduceReplicate, Int.reduceToNat]
      refine hend t a _ f (by omega) hat ha ?_ ?_ ?_ ?_ ?_ hm hs hb2
      all_goals simp only [upd_app, t0, t1, t2, t6, t7, Nat.reduceEqDiff, ↓reduceIte]
theorem st3_all (hn : n ≤ 1000000) (hQ : ∀ f, Mv 0 n f0 f → Srt f 0 n → Q (.tuple []) ⟨h, SB A g n f⟩) :
    ∀ (d bs : Nat) (T : Nat → AV) (f : Nat → Pr), n ≤ bs + d → 0 < bs → bs ≤ 2000000 → T 0 = .slc g 6 0 n → T 1 = .int .i64 (n : Int) → T 2 = .fn 26 [] [] → T 6 = .int .i64 (bs : Int) → Mv 0 n f0 f → (∀ u, Srt f (u * bs) (min (u * bs + bs) n)) →
      Run Cx 41 T [] none [.inLoop c41_23, .inBlock 2] ⟨h, SB A g n f⟩ Q := by
  have hend : ∀ (bs : Nat) (T : Nat → AV) (f : Nat → Pr), n ≤ bs → T 0 = .slc g 6 0 n → T 1 = .int .i64 (n : Int) → T 2 = .fn 26 [] [] → T 6 = .int .i64 (bs : Int) → Mv 0 n f0 f → (∀ u, Srt f (u * bs) (min (u * bs + bs) n)) →
      Run Cx 41 T [] none [.inLoop c41_23, .inBlock 2] ⟨h, SB A g n f⟩ Q := by
    intro bs T f hd t0 t1 t2 t6 hm hs
    rw [run_inLoop]
    have h0 : ¬ (bs : Int) < (n : Int) := by omega
    have q0 := hs 0
    rw [Nat.zero_mul, Nat.zero_add, Nat.min_eq_right hd] at q0
    simp only [t0, t1, t2, t6, h0, run_nil, xx, r41_0, r41_1, r41_2, r41_3, r41_4, r41_5, r41_6, res41, tt, bb, bc, ↓bd, Nat.reduceEqDiff, Nat.reduceAdd, Nat.reduceMul, Nat.reduceLeDiff, Nat.reduceLT, ↓reduceIte, reduceCtorEq, Nat.reduceBeqDiff, Nat.reduceBneDiff, Int.reduceBNe, Int.reduceBEq, Int.reduceEq, Int.reduceLT, Int.reduceLE, Int.reduceAdd, Int.reduceSub, Int.reduceMul, Int.reduceNeg, List.reduceReplicate, Int.reduceToNat]
    exact hQ f hm q0
  intro d
  induction d with
  | zero =>
    intro bs T f hd hb hb2 t0 t1 t2 t6 hm hs
    exact hend bs T f (by omega) t0 t1 t2 t6 hm hs
  | succ d ih =>
    intro bs T f hd hb hb2 t0 t1 t2 t6 hm hs
    by_cases c : n ≤ bs
    · exact hend bs T f c t0 t1 t2 t6 hm hs
    · rw [run_inLoop]
      have h0 : (bs : Int) < (n : Int) := by omega
      have w2 : IntKind.i64.wrap (2 * (bs : Int)) = ((bs * 2 : Nat) : Int) := by rw [wr64 (by omega) (by omega)]; omega
      simp only [t0, t1, t2, t6, w2, h0, xx, r41_0, r41_1, r41_2, r41_3, r41_4.1, r41_4.2.1, r41_4.2.2.1, r41_4.2.2.2.2.1, r41_4.2.2.2.2.2.1, r41_4.2.2.2.2.2.2.1, r41_4.2.2.2.2.2.2.2, r41_5.1, r41_5.2.1, r41_5.2.2.1, r41_5.2.2.2.1, r41_5.2.2.2.2.1, r41_5.2.2.2.2.2.1, r41_5.2.2.2.2.2.2.1, r41_6, res41, tt, bb, bc, ↓bd, Nat.reduceEqDiff, Nat.reduceAdd, Nat.reduceMul, Nat.reduceLeDiff, Nat.reduceLT, ↓reduceIte, reduceCtorEq, Nat.reduceBeqDiff, Nat.reduceBneDiff, Int.reduceBNe, Int.reduceBEq, Int.reduceEq, Int.reduceLT, Int.reduceLE, Int.reduceAdd, Int.reduceSub, Int.reduceMul, Int.reduceNeg, List.reduceReplicate, Int.reduceToNat]
      refine st2_all (bs := bs) hn hb (by omega) ?_ n 0 0 _ f (by omega) (by omega) (by omega) ?_ ?_ ?_ ?_ ?_ ?_ hm (fun u hu => absurd hu (by omega)) ?_
      · intro T' f' t0' t1' t2' t6' hm' hs'
        exact ih (bs * 2) T' f' (by omega) (by omega) (by omega) t0' t1' t2' t6' hm' hs'
      all_goals first | (simp only [upd_app, t0, t1, t2, t6, Nat.reduceEqDiff, ↓reduceIte]; done) | skip
      · simp only [upd_app, Nat.reduceEqDiff, ↓reduceIte]; rfl
      · simp only [upd_app, Nat.reduceEqDiff, ↓reduceIte, Nat.zero_add]
      · intro u; rw [Nat.zero_add]; exact hs u
end
section
variable {fn : FuncId} {T : Nat → AV} {ds : List ADef} {ro : Option Nat} {k : List AItem} {Q : AV → AHeap → Prop} {dst : Option Nat} {os : List AO} {h n : Nat} {A : Nat → Blk} {g : Nat} {f : Nat → Pr}
theorem SortStable_call (hn : n ≤ 1000000) (hk : ∀ f', Mv 0 n f f' → Srt f' 0 n → RunOps Cx fn (putA T dst (.tuple [])) ds ro os k ⟨h, SB A g n f'⟩ Q) :
    RunCall Cx fn T ds ro 25 [.slc g 6 0 n, .fn 26 [] []] dst os k ⟨h, SB A g n f⟩ Q := by
  refine call_body pure25 (noext _) body25 ?_
  simp only [r25_0, res25, tt, bb, bc, ↓bd, Nat.reduceEqDiff, Nat.reduceAdd, Nat.reduceMul, Nat.reduceLeDiff, Nat.reduceLT, ↓reduceIte, reduceCtorEq, Nat.reduceBeqDiff, Nat.reduceBneDiff, Int.reduceBNe, Int.reduceBEq, Int.reduceEq, Int.reduceLT, Int.reduceLE, Int.reduceAdd, Int.reduceSub, Int.reduceMul, Int.reduceNeg, List.reduceReplicate, Int.reduceToNat]
  refine call_body pure41 (noext _) body41 ?_
  simp only [r41_0.1, r41_0.2.1, r41_0.2.2.1, r41_0.2.2.2.1, r41_0.2.2.2.2.1, r41_0.2.2.2.2.2.1, r41_0.2.2.2.2.2.2.1, r41_1, r41_2.1, r41_2.2.1, r41_2.2.2.1, r41_2.2.2.2.2.1, r41_2.2.2.2.2.2.1, r41_2.2.2.2.2.2.2.1, r41_2.2.2.2.2.2.2.2, r41_3, r41_4, r41_5, r41_6, res41, tt, bb, bc, ↓bd, Nat.reduceEqDiff, Nat.reduceAdd, Nat.reduceMul, Nat.reduceLeDiff, Nat.reduceLT, ↓reduceIte, reduceCtorEq, Nat.reduceBeqDiff, Nat.reduceBneDiff, Int.reduceBNe, Int.reduceBEq, Int.reduceEq, Int.reduceLT, Int.reduceLE, Int.reduceAdd, Int.reduceSub, Int.reduceMul, Int.reduceNeg, List.reduceReplicate, Int.reduceToNat]
  refine st1_all (f0 := f) hn ?_ n 0 0 _ f (by omega) (by omega) (by omega) ?_ ?_ ?_ ?_ ?_ ?_ (Mv.refl _ _ _) (fun u hu => absurd hu (by omega))
  · intro T' f' t0 t1 t2 t6 hm hs
    simp only [r41_0, r41_1, r41_2.1, r41_2.2.1, r41_2.2.2.1, r41_2.2.2.2.1, r41_2.2.2.2.2.1, r41_2.2.2.2.2.2.1, r41_2.2.2.2.2.2.2.1, r41_3, r41_4, r41_5, r41_6, res41, tt, bb, bc, ↓bd, Nat.reduceEqDiff, Nat.reduceAdd, Nat.reduceMul, Nat.reduceLeDiff, Nat.reduceLT, ↓reduceIte, reduceCtorEq, Nat.reduceBeqDiff, Nat.reduceBneDiff, Int.reduceBNe, Int.reduceBEq, Int.reduceEq, Int.reduceLT, Int.reduceLE, Int.reduceAdd, Int.reduceSub, Int.reduceMul, Int.reduceNeg, List.reduceReplicate, Int.reduceToNat]
    refine st3_all (f0 := f) hn ?_ n 20 T' f' (by omega) (by omega) (by omega) t0 t1 t2 t6 hm hs
    intro f2 hm2 hs2
    simp only [run_nil, r25_0, res25, tt, bb, bc, ↓bd, Nat.reduceEqDiff, Nat.reduceAdd, Nat.reduceMul, Nat.reduceLeDiff, Nat.reduceLT, ↓reduceIte, reduceCtorEq, Nat.reduceBeqDiff, Nat.reduceBneDiff, Int.reduceBNe, Int.reduceBEq, Int.reduceEq, Int.reduceLT, Int.reduceLE, Int.reduceAdd, Int.reduceSub, Int.reduceMul, Int.reduceNeg, List.reduceReplicate, Int.reduceToNat]
    exact hk f2 hm2 hs2
  all_goals simp only [upd_app, enterT, List.getElem?_cons_zero, List.getElem?_cons_succ, Option.getD_some, Nat.reduceEqDiff, ↓reduceIte]
  all_goals rfl
end
end Go.Proofs.Ytjnopnlgcmlkfaa.G

namespace Go.Proofs.Ytjnopnlgcmlkfaa.G
open Go.BX
set_option linter.unusedSimpArgs false
set_option linter.unusedVariables false
def InE (v : AV) (l : List Pr) : Prop := (v = .nilS ∧ l = []) ∨ (v = .emp ∧ l = []) ∨ v = .vec 6 (l.map encP)
theorem InL.e {v : AV} {l : List Pr} (h : InL v l) : InE v l := h.elim .inl (fun h => .inr (.inr h))
theorem InE.flat {v : AV} {l : List Pr} (h : InE v l) : v.flat = true := by
  rcases h with ⟨rfl, _⟩ | ⟨rfl, _⟩ | rfl <;> rfl
structure IsSort (l m : List Pr) : Prop where
  keys : ∀ κ, ofKey κ m = ofKey κ l
  ord : m.Pairwise fun p q => ltP q p = false
  len : m.length = l.length
theorem mem_ofKey {p : Pr} {l : List Pr} : p ∈ ofKey p.key l ↔ p ∈ l := by
  unfold ofKey
  rw [List.mem_filter]
  simp
theorem uniq_sort : ∀ {a b : List Pr}, (∀ κ, ofKey κ a = ofKey κ b) → a.Pairwise (fun p q => ltP q p = false) → b.Pairwise (fun p q => ltP q p = false) → a = b
  | [], [], _, _, _ => rfl
  | [], q :: b, hk, _, _ => by
    have : q ∈ ofKey q.key (q :: b) := mem_ofKey.mpr (by simp)
    rw [← hk] at this
    cases mem_ofKey.mp this
  | p :: a, [], hk, _, _ => by
    have : p ∈ ofKey p.key (p :: a) := mem_ofKey.mpr (by simp)
    rw [hk] at this
    cases mem_ofKey.mp this
  | p :: a, q :: b, hk, ha, hb => by
    rw [List.pairwise_cons] at ha hb
    have hpb : p ∈ q :: b := by
      have : p ∈ ofKey p.key (p :: a) := mem_ofKey.mpr (by simp)
      rw [hk] at this
      exact mem_ofKey.mp this
    have hqa : q ∈ p :: a := by
      have : q ∈ ofKey q.key (q :: b) := mem_ofKey.mpr (by simp)
      rw [← hk] at this
      exact mem_ofKey.mp this
    have e1 : lessB p.key q.key = false := by
      rcases List.mem_cons.mp hpb with e | h
      · rw [e]; exact bl_irr _
      · exact hb.1 p h
    have e2 : lessB q.key p.key = false := by
      rcases List.mem_cons.mp hqa with e | h
      · rw [e]; exact bl_irr _
      · exact ha.1 q h
    have ek := bl_tot _ _ e1 e2
    have hp := hk p.key
    unfold ofKey at hp
    rw [List.filter_cons_of_pos (by simp), List.filter_cons_of_pos (by simp [ek])] at hp
    obtain ⟨rfl, ht⟩ := List.cons.inj hp
    congr 1
    refine uniq_sort (fun κ => ?_) ha.2 hb.2
    have h2 := hk κ
    unfold ofKey at h2 ⊢
    by_cases e : (p.key == κ) = true
    · have : p.key = κ := by simpa using e
      subst this; exact ht
    · have e' : (p.key == κ) = false := by simpa using e
      simp only [List.filter_cons, e', Bool.false_eq_true, if_false] at h2
      exact h2
theorem IsSort.uniq {l a b : List Pr} (ha : IsSort l a) (hb : IsSort l b) : a = b :=
  uniq_sort (fun κ => (ha.keys κ).trans (hb.keys κ).symm) ha.ord hb.ord
def fnOf (l : List Pr) : Nat → Pr := fun i => l.getD i ⟨[], 0, 0, [], 0, 0⟩
theorem seg_fnOf (l : List Pr) : seg (fnOf l) 0 l.length = l := by
  apply List.ext_getElem?
  intro i
  unfold seg fnOf
  rw [List.getElem?_map]
  by_cases h : i < l.length
  · rw [List.getElem?_range h, List.getElem?_eq_getElem h]
    simp [List.getD, List.getElem?_eq_getElem h]
  · rw [List.getElem?_eq_none (by simpa using h), List.getElem?_eq_none (by omega)]
    rfl
theorem R_seg (n : Nat) (f : Nat → Pr) : R n f = (seg f 0 n).map encP := by
  unfold R seg
  rw [List.map_map]
  apply List.map_congr_left
  intro i _
  simp
theorem R_fnOf (l : List Pr) : R l.length (fnOf l) = l.map encP := by rw [R_seg, seg_fnOf]
theorem isSort_of {l : List Pr} {f : Nat → Pr} (hm : Mv 0 l.length (fnOf l) f) (hs : Srt f 0 l.length) : IsSort l (seg f 0 l.length) where
  keys κ := by
    have := hm.2 κ
    rw [Nat.sub_zero, seg_fnOf] at this
    exact this
  ord := by
    rw [List.pairwise_iff_getElem]
    intro i j hi hj hij
    unfold seg at *
    rw [List.length_map, List.length_range] at hi hj
    simp only [List.getElem_map, List.getElem_range, Nat.zero_add]
    exact hs i j (Nat.zero_le _) hij hj
  len := seg_len _ _ _
theorem freeze_rows' {H : AHeap} {d : Nat} (l : List Pr) : mapO (mapO (freeze1 H d)) (l.map encP) = some (l.map encP) := by
  induction l with
  | nil => rfl
  | cons p l ih =>
    rw [List.map_cons, mapO_cons, ih]
    have : mapO (freeze1 H d) (encP p) = some (encP p) := mapO_all (p := AV.flat1) (fun v hv => freeze1_flat hv) rfl
    rw [this]; rfl
theorem solid_rows (l : List Pr) : (l.map encP).all (fun e => e.all AV.solid1) = true := by
  induction l with
  | nil => rfl
  | cons p l ih => rw [List.map_cons, List.all_cons, ih]; rfl
section
variable {fn : FuncId} {T : Nat → AV} {ds : List ADef} {ro : Option Nat} {k : List AItem} {Q : AV → AHeap → Prop} {dst : Option Nat} {os : List AO} {h : Nat} {A : Nat → Blk}
theorem Clone_vec {l : List Pr} (hl : l.length ≤ 1000000) (h0 : l ≠ []) (hk : RunOps Cx fn (putA T dst (.slc (h + 1) 6 0 l.length)) ds ro os k ⟨h + 1 + 1, SB (upd A h .dead) (h + 1) l.length (fnOf l)⟩ Q) :
    RunCall Cx fn T ds ro 24 [.vec 6 (l.map encP)] dst os k ⟨h, A⟩ Q := by
  refine call_body pure24 (noext _) body24 ?_
  have e0 : (l.map encP = []) = False := eq_false (by simp [h0])
  have m1 : (l.map encP).length * 64 ≤ most := by unfold most; rw [List.length_map]; omega
  have m2 : (l.map encP).length ≤ most := by unfold most; rw [List.length_map]; omega
  simp only [e0, m1, m2, builtinM, appendA, source, isNilSl, runVH_some, r24_0, r24_1, res24, tt, bb, bc, ↓bd, Nat.reduceEqDiff, Nat.reduceAdd, Nat.reduceMul, Nat.reduceLeDiff, Nat.reduceLT, ↓reduceIte, reduceCtorEq, Nat.reduceBeqDiff, Nat.reduceBneDiff, Int.reduceBNe, Int.reduceBEq, Int.reduceEq, Int.reduceLT, Int.reduceLE, Int.reduceAdd, Int.reduceSub, Int.reduceMul, Int.reduceNeg, List.reduceReplicate, Int.reduceToNat]
  rw [List.length_map]
  unfold SB at hk
  rw [R_fnOf] at hk
  rw [upd2]
  exact hk
theorem Sort_body {l : List Pr} {Q : AV → AHeap → Prop} {A : Nat → Blk} {h : Nat} (hl : l.length ≤ 1000000) (h0 : l ≠ []) (hQ : ∀ m, IsSort l m → Q (.slc (h + 1) 6 0 m.length) ⟨h + 1 + 1, upd (upd A h .dead) (h + 1) (.cells 47 6 (m.map encP))⟩) (body : AC) (hb : bodyOf Cx 9 = some body) :
    Run Cx 9 (enterT [.vec 6 (l.map encP)]) [] none [.code body] ⟨h, A⟩ Q := by
  have e := body9
  rw [e] at hb
  cases hb
  simp only [r9_0, r9_1, res9, tt, bb, bc, ↓bd, Nat.reduceEqDiff, Nat.reduceAdd, Nat.reduceMul, Nat.reduceLeDiff, Nat.reduceLT, ↓reduceIte, reduceCtorEq, Nat.reduceBeqDiff, Nat.reduceBneDiff, Int.reduceBNe, Int.reduceBEq, Int.reduceEq, Int.reduceLT, Int.reduceLE, Int.reduceAdd, Int.reduceSub, Int.reduceMul, Int.reduceNeg, List.reduceReplicate, Int.reduceToNat]
  refine Clone_vec hl h0 ?_
  simp only [r9_0, r9_1, res9, tt, bb, bc, ↓bd, Nat.reduceEqDiff, Nat.reduceAdd, Nat.reduceMul, Nat.reduceLeDiff, Nat.reduceLT, ↓reduceIte, reduceCtorEq, Nat.reduceBeqDiff, Nat.reduceBneDiff, Int.reduceBNe, Int.reduceBEq, Int.reduceEq, Int.reduceLT, Int.reduceLE, Int.reduceAdd, Int.reduceSub, Int.reduceMul, Int.reduceNeg, List.reduceReplicate, Int.reduceToNat]
  refine SortStable_call (A := upd A h .dead) (g := h + 1) (f := fnOf l) hl ?_
  intro f hm hs
  have hi := isSort_of hm hs
  have hq := hQ _ hi
  rw [hi.len, ← R_seg] at hq
  simp only [r9_0, r9_1, res9, tt, bb, bc, ↓bd, Nat.reduceEqDiff, Nat.reduceAdd, Nat.reduceMul, Nat.reduceLeDiff, Nat.reduceLT, ↓reduceIte, reduceCtorEq, Nat.reduceBeqDiff, Nat.reduceBneDiff, Int.reduceBNe, Int.reduceBEq, Int.reduceEq, Int.reduceLT, Int.reduceLE, Int.reduceAdd, Int.reduceSub, Int.reduceMul, Int.reduceNeg, List.reduceReplicate, Int.reduceToNat]
  exact hq
end
theorem freeze_slc_rows {A : Nat → Blk} {h g : Nat} {m : List Pr} : BX.freeze ⟨h, upd A g (.cells 47 6 (m.map encP))⟩ (.slc g 6 0 m.length) = some (.vec 6 (m.map encP)) ∧ madeT ⟨h, upd A g (.cells 47 6 (m.map encP))⟩ (.slc g 6 0 m.length) = some (.vec 6 (m.map encP)) := by
  have f8 : (m.map encP).take m.length = m.map encP := List.take_of_length_le (by rw [List.length_map]; omega)
  have he : elems ⟨h, upd A g (.cells 47 6 (m.map encP))⟩ 6 (.slc g 6 0 m.length) = some (m.map encP) := by
    unfold elems
    simp only [upd_app, ↓reduceIte]
    rw [if_pos ⟨trivial, trivial, by rw [List.length_map]; omega⟩, List.drop_zero, f8]
  constructor
  · rw [freeze_slc, he, frzE_some, freeze_rows']
    rfl
  · show made1 _ _ = _
    unfold made1
    rw [if_neg (by simp [AV.solid2, AV.solid1])]
    simp only [he]
    rw [if_pos (solid_rows m)]
theorem pmade_of {n : Nat} {f : FuncId} {args : List AV} {r : AV} (h : (match (clOf Cx n).call f args AHeap.empty with | some (r0, H') => (match BX.freeze H' r0 with | some r1 => if r1.solid then some r1 else madeT H' r0 | none => none) | none => none) = some r) : PMade Cx f args r := by
  split at h
  · rename_i r0 H' hc
    split at h
    · rename_i r1 hf
      exact ⟨n, r0, H', r1, hc, hf, h⟩
    · cases h
  · cases h
theorem Sort_ok {v : AV} {l : List Pr} (hv : InE v l) (hl : l.length ≤ 1000000) : ∃ m w, IsSort l m ∧ InE w m ∧ PCall Cx 9 [v] w ∧ PMade Cx 9 [v] w := by
  have nil_ok : IsSort [] [] := ⟨fun _ => rfl, List.Pairwise.nil, rfl⟩
  by_cases h0 : l = []
  · subst h0
    rcases hv with ⟨rfl, _⟩ | ⟨rfl, _⟩ | rfl
    · exact ⟨[], .nilS, nil_ok, .inl ⟨rfl, rfl⟩, ⟨60, by kernel_rfl⟩, ⟨60, .nilS, AHeap.empty, .nilS, by kernel_rfl, rfl, rfl⟩⟩
    · refine ⟨[], .vec 6 [], nil_ok, .inr (.inr rfl), ⟨60, by kernel_rfl⟩, ?_⟩
      exact pmade_of (n := 60) (by kernel_rfl)
    · refine ⟨[], .vec 6 [], nil_ok, .inr (.inr rfl), ⟨60, by kernel_rfl⟩, ?_⟩
      exact pmade_of (n := 60) (by kernel_rfl)
  · have hv' : v = .vec 6 (l.map encP) := by
      rcases hv with ⟨_, h⟩ | ⟨_, h⟩ | h
      · exact absurd h h0
      · exact absurd h h0
      · exact h
    subst hv'
    have hx : ∃ n m g H, IsSort l m ∧ (clOf Cx n).call 9 [.vec 6 (l.map encP)] AHeap.empty = some (.slc g 6 0 m.length, H) ∧ BX.freeze H (.slc g 6 0 m.length) = some (.vec 6 (m.map encP)) ∧ madeT H (.slc g 6 0 m.length) = some (.vec 6 (m.map encP)) := by
      have hr := Sort_body (A := AHeap.empty.at_) (h := AHeap.empty.next) (Q := fun r0 H => ∃ m g, IsSort l m ∧ r0 = .slc g 6 0 m.length ∧ BX.freeze H (.slc g 6 0 m.length) = some (.vec 6 (m.map encP)) ∧ madeT H (.slc g 6 0 m.length) = some (.vec 6 (m.map encP))) hl h0 (fun m hm => ⟨m, _, hm, rfl, freeze_slc_rows.1, freeze_slc_rows.2⟩) _ body9
      obtain ⟨n, r0, H, he, m, g, hm, rfl, h1, h2⟩ := hr
      have hb := body9
      unfold bodyOf at hb
      simp only [Option.map_eq_some_iff] at hb
      obtain ⟨fi, hfi, hfb⟩ := hb
      refine ⟨n, m, g, H, hm, ?_, h1, h2⟩
      show (clMk Cx (exec Cx n)).call _ _ AHeap.empty = _
      simp only [clMk, noext 9, hfi]
      rw [hfb]
      exact he
    obtain ⟨n, m, g, H, hm, hc, h1, h2⟩ := hx
    refine ⟨m, .vec 6 (m.map encP), hm, .inr (.inr rfl), ⟨n, ?_⟩, ⟨n, _, H, _, hc, h1, ?_⟩⟩
    · unfold pcall
      rw [hc]
      exact h1
    · rw [if_neg (by simp [AV.solid, AV.solid2, AV.solid1]), h2]
end Go.Proofs.Ytjnopnlgcmlkfaa.G

namespace Go.Proofs.Ytjnopnlgcmlkfaa.G
open Go.BX
set_option linter.unusedSimpArgs false
set_option linter.unusedVariables false
theorem SamePairs_e {v w : AV} {l : List Pr} (hv : InE v l) (hw : InE w l) (hl : l.length ≤ 100000) : PCall Cx 11 [v, w] (.bool true) := by
  by_cases he : l = []
  · refine pcall_run (noext _) body11 ?_
    subst he
    rcases hv with ⟨rfl, _⟩ | ⟨rfl, _⟩ | rfl <;> rcases hw with ⟨rfl, _⟩ | ⟨rfl, _⟩ | rfl <;>
    simp only [List.map_nil, xx, run_inLoop, r11_0, r11_1, r11_2, r11_3, r11_4, res11, tt, bb, bc, ↓bd, Nat.reduceEqDiff, Nat.reduceAdd, Nat.reduceMul, Nat.reduceLeDiff, Nat.reduceLT, ↓reduceIte, reduceCtorEq, Nat.reduceBeqDiff, Nat.reduceBneDiff, Int.reduceBNe, Int.reduceBEq, Int.reduceEq, Int.reduceLT, Int.reduceLE, Int.reduceAdd, Int.reduceSub, Int.reduceMul, Int.reduceNeg, List.reduceReplicate, Int.reduceToNat]
  · have hv' : v = .vec 6 (l.map encP) := by
      rcases hv with ⟨_, h⟩ | ⟨_, h⟩ | h
      · exact absurd h he
      · exact absurd h he
      · exact h
    have hw' : w = .vec 6 (l.map encP) := by
      rcases hw with ⟨_, h⟩ | ⟨_, h⟩ | h
      · exact absurd h he
      · exact absurd h he
      · exact h
    exact SamePairs_ok (.inr hv') (.inr hw') hl
theorem InE.vec {v : AV} {l : List Pr} (h : InE v l) (h0 : l ≠ []) : v = .vec 6 (l.map encP) := by
  rcases h with ⟨_, h⟩ | ⟨_, h⟩ | h
  · exact absurd h h0
  · exact absurd h h0
  · exact h
def eqP (p a : Pr) : Bool := a.key == p.key && (a.k == p.k && (a.n == p.n && (a.s == p.s && (a.x == p.x && a.y == p.y))))
def cnt (p : Pr) (l : List Pr) : Nat := (l.filter (eqP p)).length
end Go.Proofs.Ytjnopnlgcmlkfaa.G
namespace Go.Proofs.Ytjnopnlgcmlkfaa.G
open Go.BX
set_option linter.unusedSimpArgs false
set_option linter.unusedVariables false
theorem InE.len {v : AV} {l : List Pr} (h : InE v l) : lenOf v = some l.length := by
  rcases h with ⟨rfl, rfl⟩ | ⟨rfl, rfl⟩ | rfl
  · rfl
  · rfl
  · show some _ = _
    rw [List.length_map]
end Go.Proofs.Ytjnopnlgcmlkfaa.G
namespace Go.Proofs.Ytjnopnlgcmlkfaa.G
open Go.BX
set_option linter.unusedSimpArgs false
set_option linter.unusedVariables false
theorem pcall_ex {f : FuncId} {args : List AV} {body : AC} {P : AV → Prop} (hx : Cx.ext f = none) (hb : bodyOf Cx f = some body) (h : Run Cx f (enterT args) [] none [.code body] AHeap.empty (fun r0 H' => ∃ r, P r ∧ BX.freeze H' r0 = some r)) : ∃ r, P r ∧ PCall Cx f args r := by
  obtain ⟨n, r0, H', he, r, hP, hf⟩ := h
  exact ⟨r, hP, pcall_run hx hb ⟨n, r0, H', he, hf⟩⟩
theorem fnOf_get {l : List Pr} {i : Nat} (h : i < l.length) : fnOf l i = l[i] := by
  unfold fnOf
  simp [List.getD, List.getElem?_eq_getElem h]
theorem pair_srt {l : List Pr} : (l.Pairwise fun p q => ltP q p = false) ↔ Srt (fnOf l) 0 l.length := by
  rw [List.pairwise_iff_getElem]
  constructor
  · intro h i j _ hij hj
    rw [fnOf_get hj, fnOf_get (by omega)]
    exact h i j (by omega) hj hij
  · intro h i j hi hj hij
    have := h i j (Nat.zero_le _) hij hj
    rw [fnOf_get hj, fnOf_get hi] at this
    exact this
theorem srt_adj {f : Nat → Pr} {n : Nat} (h : ∀ k, 0 < k → k < n → ltP (f k) (f (k - 1)) = false) : Srt f 0 n := by
  intro i j _ hij hj
  induction j with
  | zero => omega
  | succ j ih =>
    by_cases e : i = j
    · subst e; exact h (i + 1) (by omega) hj
    · exact bl_le (ih (by omega) (by omega)) (h (j + 1) (by omega) hj)
theorem is_all {l : List Pr} {Q : AV → AHeap → Prop} {H : AHeap} {n : Nat} (hn : n = l.length) (hl : n ≤ 1000000) (hQ : ∀ b, (b = true ↔ Srt (fnOf l) 0 n) → Q (.bool b) H) :
    ∀ (i : Nat) (T : Nat → AV), i < n → T 0 = .vec 6 (l.map encP) → T 1 = .fn 26 [] [] → T 5 = .int .i64 (i : Int) → (∀ k, i < k → k < n → ltP (fnOf l k) (fnOf l (k - 1)) = false) →
      Run Cx 34 T [] none [.inLoop c34_7, .inBlock 0, .code c34_23] H Q := by
  intro i
  induction i with
  | zero =>
    intro T hi t0 t1 t5 hs
    replace t5 : T 5 = .int .i64 0 := t5
    rw [run_inLoop]
    simp only [t0, t1, t5, xx, r34_0, r34_1, r34_2, r34_3, res34, tt, bb, bc, ↓bd, Nat.reduceEqDiff, Nat.reduceAdd, Nat.reduceMul, Nat.reduceLeDiff, Nat.reduceLT, ↓reduceIte, reduceCtorEq, Nat.reduceBeqDiff, Nat.reduceBneDiff, Int.reduceBNe, Int.reduceBEq, Int.reduceEq, Int.reduceLT, Int.reduceLE, Int.reduceAdd, Int.reduceSub, Int.reduceMul, Int.reduceNeg, List.reduceReplicate, Int.reduceToNat]
    exact hQ true ⟨fun _ => srt_adj (fun k a b => hs k a b), fun _ => rfl⟩
  | succ i ih =>
    intro T hi t0 t1 t5 hs
    rw [run_inLoop]
    have h0 : (0 : Int) < ((i + 1 : Nat) : Int) := by omega
    have w1 : IntKind.i64.wrap (((i + 1 : Nat) : Int) - 1) = (i : Int) := by rw [wr64 (by omega) (by omega)]; omega
    have l1 : ((i + 1 : Nat) : Int) < ((l.map encP).length : Int) := by rw [List.length_map]; omega
    have l2 : (i : Int) < ((l.map encP).length : Int) := by rw [List.length_map]; omega
    have p1 : (0 : Int) ≤ ((i + 1 : Nat) : Int) := by omega
    have p2 : (0 : Int) ≤ (i : Int) := by omega
    have g1 := enc_get (List.getElem?_eq_getElem (show i + 1 < l.length by omega))
    have g2 := enc_get (List.getElem?_eq_getElem (show i < l.length by omega))
    have hc := byKey_ok l[i + 1] l[i]
    have hlt := cmpK_lt l[i + 1] l[i]
    have e1 := fnOf_get (show i + 1 < l.length by omega)
    have e2 := fnOf_get (show i < l.length by omega)
    by_cases hl' : ltP l[i + 1] l[i] = true
    · have hlt' : (cmpK l[i + 1] l[i] < 0) = True := by rw [hlt]; exact eq_true hl'
      simp only [t0, t1, t5, h0, w1, l1, l2, p1, p2, g1, g2, hlt', call_pure pure26 rfl hc, Int.toNat_natCast, xx, r34_0, r34_1, r34_2, r34_3, res34, tt, bb, bc, ↓bd, Nat.reduceEqDiff, Nat.reduceAdd, Nat.reduceMul, Nat.reduceLeDiff, Nat.reduceLT, ↓reduceIte, reduceCtorEq, Nat.reduceBeqDiff, Nat.reduceBneDiff, Int.reduceBNe, Int.reduceBEq, Int.reduceEq, Int.reduceLT, Int.reduceLE, Int.reduceAdd, Int.reduceSub, Int.reduceMul, Int.reduceNeg, List.reduceReplicate, Int.reduceToNat]
      refine hQ false ⟨fun h => (by cases h), fun h => ?_⟩
      have := h i (i + 1) (by omega) (by omega) hi
      rw [e1, e2, hl'] at this
      cases this
    · have hlt' : (cmpK l[i + 1] l[i] < 0) = False := by rw [hlt]; exact eq_false hl'
      simp only [t0, t1, t5, h0, w1, l1, l2, p1, p2, g1, g2, hlt', call_pure pure26 rfl hc, Int.toNat_natCast, xx, r34_0, r34_1, r34_2.1, r34_2.2.1, r34_2.2.2.1, r34_2.2.2.2.1, r34_2.2.2.2.2.1, r34_2.2.2.2.2.2.1, r34_2.2.2.2.2.2.2.1, r34_3, res34, tt, bb, bc, ↓bd, Nat.reduceEqDiff, Nat.reduceAdd, Nat.reduceMul, Nat.reduceLeDiff, Nat.reduceLT, ↓reduceIte, reduceCtorEq, Nat.reduceBeqDiff, Nat.reduceBneDiff, Int.reduceBNe, Int.reduceBEq, Int.reduceEq, Int.reduceLT, Int.reduceLE, Int.reduceAdd, Int.reduceSub, Int.reduceMul, Int.reduceNeg, List.reduceReplicate, Int.reduceToNat]
      refine ih _ (by omega) ?_ ?_ ?_ ?_
      all_goals first | (simp only [upd_app, t0, t1, t5, Nat.reduceEqDiff, ↓reduceIte]; done) | skip
      intro k a b
      by_cases e : k = i + 1
      · subst e
        rw [show i + 1 - 1 = i by omega, e1, e2]
        simpa using hl'
      · exact hs k (by omega) b
theorem Ordered_ok {v : AV} {l : List Pr} (hv : InE v l) (hl : l.length ≤ 1000000) : ∃ b, PCall Cx 21 [v] (.bool b) ∧ (b = true ↔ l.Pairwise fun p q => ltP q p = false) := by
  by_cases h0 : l = []
  · subst h0
    refine ⟨true, ?_, by simp⟩
    rcases hv with ⟨rfl, _⟩ | ⟨rfl, _⟩ | rfl
    · exact ⟨60, by kernel_rfl⟩
    · exact ⟨60, by kernel_rfl⟩
    · exact ⟨60, by kernel_rfl⟩
  · obtain rfl := hv.vec h0
    have hpos : 0 < l.length := List.length_pos_iff.mpr h0
    have hx : ∃ r, (∃ b, r = AV.bool b ∧ (b = true ↔ Srt (fnOf l) 0 l.length)) ∧ PCall Cx 21 [.vec 6 (l.map encP)] r := by
      refine pcall_ex (noext _) body21 ?_
      simp only [r21_0, res21, tt, bb, bc, ↓bd, Nat.reduceEqDiff, Nat.reduceAdd, Nat.reduceMul, Nat.reduceLeDiff, Nat.reduceLT, ↓reduceIte, reduceCtorEq, Nat.reduceBeqDiff, Nat.reduceBneDiff, Int.reduceBNe, Int.reduceBEq, Int.reduceEq, Int.reduceLT, Int.reduceLE, Int.reduceAdd, Int.reduceSub, Int.reduceMul, Int.reduceNeg, List.reduceReplicate, Int.reduceToNat]
      refine call_body pure34 (noext _) body34 ?_
      have w1 : IntKind.i64.wrap (((l.map encP).length : Int) - 1) = ((l.length - 1 : Nat) : Int) := by rw [List.length_map, wr64 (by omega) (by omega)]; omega
      simp only [w1, r34_0.1, r34_0.2.1, r34_0.2.2.1, r34_0.2.2.2.1, r34_0.2.2.2.2.1, r34_0.2.2.2.2.2.1, r34_0.2.2.2.2.2.2.1, r34_1, r34_2.1, r34_2.2.1, r34_2.2.2.1, r34_2.2.2.2.1, r34_2.2.2.2.2.1, r34_2.2.2.2.2.2.1, r34_2.2.2.2.2.2.2.1, r34_3, res34, tt, bb, bc, ↓bd, Nat.reduceEqDiff, Nat.reduceAdd, Nat.reduceMul, Nat.reduceLeDiff, Nat.reduceLT, ↓reduceIte, reduceCtorEq, Nat.reduceBeqDiff, Nat.reduceBneDiff, Int.reduceBNe, Int.reduceBEq, Int.reduceEq, Int.reduceLT, Int.reduceLE, Int.reduceAdd, Int.reduceSub, Int.reduceMul, Int.reduceNeg, List.reduceReplicate, Int.reduceToNat]
      refine is_all (l := l) rfl hl ?_ (l.length - 1) _ (by omega) ?_ ?_ ?_ (fun k a b => absurd a (by omega))
      · intro b hb
        simp only [r21_0, res21, tt, bb, bc, ↓bd, Nat.reduceEqDiff, Nat.reduceAdd, Nat.reduceMul, Nat.reduceLeDiff, Nat.reduceLT, ↓reduceIte, reduceCtorEq, Nat.reduceBeqDiff, Nat.reduceBneDiff, Int.reduceBNe, Int.reduceBEq, Int.reduceEq, Int.reduceLT, Int.reduceLE, Int.reduceAdd, Int.reduceSub, Int.reduceMul, Int.reduceNeg, List.reduceReplicate, Int.reduceToNat]
        exact ⟨_, ⟨b, rfl, hb⟩, rfl⟩
      all_goals simp only [upd_app, enterT, List.getElem?_cons_zero, List.getElem?_cons_succ, Option.getD_some, Nat.reduceEqDiff, ↓reduceIte]
      all_goals rfl
    obtain ⟨r, ⟨b, rfl, hb⟩, hp⟩ := hx
    exact ⟨b, hp, hb.trans pair_srt.symm⟩
end Go.Proofs.Ytjnopnlgcmlkfaa.G

namespace Go.Proofs.Ytjnopnlgcmlkfaa.G
open Go.BX
set_option linter.unusedSimpArgs false
set_option linter.unusedVariables false
def Buf (h0 : Nat) (d : AV) (H : AHeap) (acc : List Pr) : Prop :=
  (d = .nilS ∧ acc = []) ∨ ∃ g es, d = .slc g 6 0 acc.length ∧ h0 ≤ g ∧ g < H.next ∧ H.at_ g = .cells 47 6 es ∧ es.take acc.length = acc.map encP ∧ acc.length ≤ es.length
theorem InE.source {v : AV} {l : List Pr} (h : InE v l) (H : AHeap) : source H 6 v = some (l.map encP) := by
  rcases h with ⟨rfl, rfl⟩ | ⟨rfl, rfl⟩ | rfl <;> rfl
theorem InE.plain {v : AV} {l : List Pr} (h : InE v l) : v.plain = true := by
  rcases h with ⟨rfl, rfl⟩ | ⟨rfl, rfl⟩ | rfl <;> rfl
theorem InE.cells {v : AV} {l : List Pr} (h : InE v l) : v.cells = [v] := by
  rcases h with ⟨rfl, rfl⟩ | ⟨rfl, rfl⟩ | rfl <;> rfl
theorem InE.freeze1 {v : AV} {l : List Pr} (h : InE v l) {H : AHeap} {d : Nat} : BX.freeze1 H d v = some v := by
  refine freeze1_flat ?_
  rcases h with ⟨rfl, rfl⟩ | ⟨rfl, rfl⟩ | rfl <;> rfl
theorem InE.freeze {v : AV} {l : List Pr} (h : InE v l) {H : AHeap} : BX.freeze H v = some v := freeze_flat h.flat
theorem Buf.lenOf {h0 : Nat} {d : AV} {H : AHeap} {acc : List Pr} (h : Buf h0 d H acc) : BX.lenOf d = some acc.length := by
  rcases h with ⟨rfl, rfl⟩ | ⟨g, es, rfl, _⟩ <;> rfl
theorem Buf.keep {h0 : Nat} {d : AV} {H H' : AHeap} {acc : List Pr} (h : Buf h0 d H acc) (hn : H.next ≤ H'.next) (hk : ∀ b, b < H.next → H'.at_ b = H.at_ b) : Buf h0 d H' acc := by
  rcases h with h | ⟨g, es, h1, h2, h3, h4, h5, h6⟩
  · exact .inl h
  · exact .inr ⟨g, es, h1, h2, by omega, by rw [hk g h3]; exact h4, h5, h6⟩
theorem Buf.freeze {h0 : Nat} {d : AV} {H : AHeap} {acc : List Pr} (h : Buf h0 d H acc) : ∃ w, InE w acc ∧ BX.freeze H d = some w ∧ (d.flat = true → w = d) := by
  rcases h with ⟨rfl, rfl⟩ | ⟨g, es, rfl, h2, h3, h4, h5, h6⟩
  · exact ⟨.nilS, .inl ⟨rfl, rfl⟩, rfl, fun _ => rfl⟩
  · refine ⟨.vec 6 (acc.map encP), .inr (.inr rfl), ?_, fun h => by cases h⟩
    have he : elems H 6 (.slc g 6 0 acc.length) = some (acc.map encP) := by
      unfold elems
      simp only [h4]
      rw [if_pos ⟨trivial, trivial, by omega⟩, List.drop_zero, h5]
    rw [freeze_slc, he, frzE_some, freeze_rows']
    rfl
theorem app_eq {h0 : Nat} {d v : AV} {H : AHeap} {acc l : List Pr} (hd : Buf h0 d H acc) (hh : h0 ≤ H.next) (hv : InE v l) (hl : acc.length + l.length ≤ 1000000) :
    ∃ d' H', builtinM Cx H .append [22, 22] [d, v] = some (d', H') ∧ Buf h0 d' H' (acc ++ l) ∧ H.next ≤ H'.next ∧ ∀ b, b < h0 → H'.at_ b = H.at_ b := by
  have hs := hv.source H
  by_cases hl0 : l = []
  · subst hl0
    refine ⟨d, H, ?_, by rw [List.append_nil]; exact hd, Nat.le_refl _, fun _ _ => rfl⟩
    rcases hd with ⟨rfl, rfl⟩ | ⟨g, es, rfl, h2, h3, h4, h5, h6⟩
    · simp only [builtinM, appendA, hs, List.map_nil, tt, bb, bc, ↓bd, Nat.reduceEqDiff, Nat.reduceAdd, Nat.reduceMul, Nat.reduceLeDiff, Nat.reduceLT, ↓reduceIte, reduceCtorEq, Nat.reduceBeqDiff, Nat.reduceBneDiff, Int.reduceBNe, Int.reduceBEq, Int.reduceEq, Int.reduceLT, Int.reduceLE, Int.reduceAdd, Int.reduceSub, Int.reduceMul, Int.reduceNeg, List.reduceReplicate, Int.reduceToNat]
    · have m1 : acc.length * 64 ≤ most := by unfold most; simp at hl; omega
      have m2 : acc.length ≤ most := by unfold most; simp at hl; omega
      simp only [builtinM, appendA, hs, h4, h6, m1, m2, List.map_nil, tt, bb, bc, ↓bd, Nat.reduceEqDiff, Nat.reduceAdd, Nat.reduceMul, Nat.reduceLeDiff, Nat.reduceLT, ↓reduceIte, reduceCtorEq, Nat.reduceBeqDiff, Nat.reduceBneDiff, Int.reduceBNe, Int.reduceBEq, Int.reduceEq, Int.reduceLT, Int.reduceLE, Int.reduceAdd, Int.reduceSub, Int.reduceMul, Int.reduceNeg, List.reduceReplicate, Int.reduceToNat]
  · have e0 : (l.map encP = []) = False := eq_false (by simp [hl0])
    rcases hd with ⟨rfl, rfl⟩ | ⟨g, es, rfl, h2, h3, h4, h5, h6⟩
    · have m1 : (l.map encP).length * 64 ≤ most := by unfold most; rw [List.length_map]; simp at hl; omega
      have m2 : (l.map encP).length ≤ most := by unfold most; rw [List.length_map]; simp at hl; omega
      refine ⟨.slc H.next 6 0 (l.map encP).length, H.push (.cells 47 6 (l.map encP)), ?_, .inr ⟨H.next, l.map encP, by rw [List.length_map]; rfl, hh, Nat.lt_succ_self _, by simp [AHeap.push, upd_app], List.take_of_length_le (by simp), by simp⟩, Nat.le_succ _, fun b hb => ?_⟩
      · simp only [builtinM, appendA, hs, e0, m1, m2, tt, bb, bc, ↓bd, Nat.reduceEqDiff, Nat.reduceAdd, Nat.reduceMul, Nat.reduceLeDiff, Nat.reduceLT, ↓reduceIte, reduceCtorEq, Nat.reduceBeqDiff, Nat.reduceBneDiff, Int.reduceBNe, Int.reduceBEq, Int.reduceEq, Int.reduceLT, Int.reduceLE, Int.reduceAdd, Int.reduceSub, Int.reduceMul, Int.reduceNeg, List.reduceReplicate, Int.reduceToNat]
      · show upd H.at_ H.next _ b = _
        rw [upd_app, if_neg (by omega)]
    · have m1 : (acc.length + (l.map encP).length) * 64 ≤ most := by unfold most; rw [List.length_map]; omega
      have m2 : acc.length + (l.map encP).length ≤ most := by unfold most; rw [List.length_map]; omega
      refine ⟨.slc H.next 6 0 (acc.length + (l.map encP).length), (H.set g .dead).push (.cells 47 6 (es.take acc.length ++ l.map encP)), ?_, .inr ⟨H.next, es.take acc.length ++ l.map encP, by rw [List.length_map, List.length_append], hh, Nat.lt_succ_self _, ?_, ?_, ?_⟩, Nat.le_succ _, fun b hb => ?_⟩
      · simp only [builtinM, appendA, hs, h4, h6, e0, m1, m2, tt, bb, bc, ↓bd, Nat.reduceEqDiff, Nat.reduceAdd, Nat.reduceMul, Nat.reduceLeDiff, Nat.reduceLT, ↓reduceIte, reduceCtorEq, Nat.reduceBeqDiff, Nat.reduceBneDiff, Int.reduceBNe, Int.reduceBEq, Int.reduceEq, Int.reduceLT, Int.reduceLE, Int.reduceAdd, Int.reduceSub, Int.reduceMul, Int.reduceNeg, List.reduceReplicate, Int.reduceToNat]
      · simp [AHeap.push, AHeap.set, upd_app]
      · rw [h5, ← List.map_append]
        exact List.take_of_length_le (by simp)
      · rw [h5, ← List.map_append]; simp
      · show upd (upd H.at_ g .dead) H.next _ b = _
        rw [upd_app, if_neg (by omega), upd_app, if_neg (by omega)]
section
variable {fn : FuncId} {T : Nat → AV} {ds : List ADef} {ro : Option Nat} {k : List AItem} {Q : AV → AHeap → Prop} {dst : Option Nat} {os : List AO} {H : AHeap}
theorem Sort_buf {h0 : Nat} {d : AV} {acc : List Pr} (hd : Buf h0 d H acc) (hl : acc.length ≤ 1000000) : ∃ m w, IsSort acc m ∧ InE w m ∧ ∀ {fn : FuncId} {T : Nat → AV} {ds : List ADef} {ro : Option Nat} {k : List AItem} {Q : AV → AHeap → Prop} {dst : Option Nat} {os : List AO}, RunCall Cx fn T ds ro 9 [d] dst os k H Q = RunOps Cx fn (putA T dst w) ds ro os k H Q := by
  obtain ⟨v, hv, hf, hfl⟩ := hd.freeze
  obtain ⟨m, w, hs, hw, hp, hm⟩ := Sort_ok hv hl
  refine ⟨m, w, hs, hw, ?_⟩
  intro fn T ds ro k Q dst os
  cases hfd : d.flat with
  | true =>
    obtain rfl := hfl hfd
    exact call_pure pure9 (by simp [hfd]) hp
  | false => exact call_made pure9 (by simp [hfd]) (by rw [mapO_cons, hf, mapO_nil]; rfl) hm
theorem Grow_zero (hk : RunOps Cx fn (putA T dst .nilS) ds ro os k H Q) : RunCall Cx fn T ds ro 43 [.nilS, .int .i64 0] dst os k H Q := by
  refine call_body pure43 (noext _) body43 ?_
  simp only [show IntKind.i64.wrap 0 = 0 from rfl, i64, r43_0, r43_1, r43_2, res43, tt, bb, bc, ↓bd, Nat.reduceEqDiff, Nat.reduceAdd, Nat.reduceMul, Nat.reduceLeDiff, Nat.reduceLT, ↓reduceIte, reduceCtorEq, Nat.reduceBeqDiff, Nat.reduceBneDiff, Int.reduceBNe, Int.reduceBEq, Int.reduceEq, Int.reduceLT, Int.reduceLE, Int.reduceAdd, Int.reduceSub, Int.reduceMul, Int.reduceNeg, List.reduceReplicate, Int.reduceToNat]
  exact hk
theorem Grow_pos {n : Nat} (h0 : 0 < n) (hn : n ≤ 1000000) (hk : ∀ es, RunOps Cx fn (putA T dst (.slc H.next 6 0 0)) ds ro os k ⟨H.next + 1, upd H.at_ H.next (.cells 47 6 es)⟩ Q) : RunCall Cx fn T ds ro 43 [.nilS, .int .i64 (n : Int)] dst os k H Q := by
  refine call_body pure43 (noext _) body43 ?_
  have e1 : ¬ (n : Int) < 0 := by omega
  have e2 : (0 : Int) < (n : Int) := by omega
  have w0 : IntKind.i64.wrap 0 = 0 := rfl
  have w1 : IntKind.i64.wrap (n : Int) = (n : Int) := wr64 (by omega) (by omega)
  have w2 : IntKind.i64.wrap ((n : Int) - 0) = (n : Int) := by rw [Int.sub_zero]; exact w1
  have m1 : (n : Int) * 64 ≤ (most : Int) := by unfold most; omega
  have m2 : (n : Int) ≤ (most : Int) := by unfold most; omega
  have p0 : (0 : Int) ≤ (n : Int) := by omega
  simp only [w0, w1, w2, e1, e2, m1, m2, p0, i64, builtinM, appendZ, sliceA, bnds, bound, evo, Int.toNat_natCast, Nat.zero_le, Int.zero_le_ofNat, Nat.sub_zero,  runVH_some, r43_0, r43_1, r43_2, res43, tt, bb, bc, ↓bd, Nat.reduceEqDiff, Nat.reduceAdd, Nat.reduceMul, Nat.reduceLeDiff, Nat.reduceLT, ↓reduceIte, reduceCtorEq, Nat.reduceBeqDiff, Nat.reduceBneDiff, Int.reduceBNe, Int.reduceBEq, Int.reduceEq, Int.reduceLT, Int.reduceLE, Int.reduceAdd, Int.reduceSub, Int.reduceMul, Int.reduceNeg, List.reduceReplicate, Int.reduceToNat]
  exact hk _
end
end Go.Proofs.Ytjnopnlgcmlkfaa.G

namespace Go.Proofs.Ytjnopnlgcmlkfaa.G
open Go.BX
set_option linter.unusedSimpArgs false
set_option linter.unusedVariables false
def Own (h0 : Nat) (d : AV) (H : AHeap) (acc : List Pr) : Prop :=
  (d = .nilS ∧ acc = []) ∨ ∃ g, d = .slc g 6 0 acc.length ∧ h0 ≤ g ∧ g < H.next ∧ H.at_ g = .cells 47 6 (acc.map encP)
theorem Own.buf {h0 : Nat} {d : AV} {H : AHeap} {acc : List Pr} (h : Own h0 d H acc) : Buf h0 d H acc := by
  rcases h with h | ⟨g, h1, h2, h3, h4⟩
  · exact .inl h
  · exact .inr ⟨g, _, h1, h2, h3, h4, List.take_of_length_le (by simp), by simp⟩
theorem Own.nil {h0 : Nat} {H : AHeap} : Own h0 .nilS H [] := .inl ⟨rfl, rfl⟩
theorem rows_set {l : List Pr} {i : Nat} (p : Pr) : (l.map encP).set i [.str p.key, .int .i64 p.k, .int .i64 p.n, .str p.s, .int .i64 p.x, .int .i64 p.y] = (l.set i p).map encP := by
  rw [List.map_set]; rfl
theorem Own.app1 {h0 : Nat} {d : AV} {H : AHeap} {acc : List Pr} (hd : Own h0 d H acc) (hh : h0 ≤ H.next) (p : Pr) (hl : acc.length + 1 ≤ 1000000) :
    ∃ g H', builtinM Cx (H.push (.cells 47 6 [[.str p.key, .int .i64 p.k, .int .i64 p.n, .str p.s, .int .i64 p.x, .int .i64 p.y]])) .append [22, 22] [d, .slc H.next 6 0 1] = some (.slc g 6 0 (acc.length + 1), H') ∧ h0 ≤ g ∧ g < H'.next ∧ H'.at_ g = .cells 47 6 ((acc ++ [p]).map encP) ∧ H.next ≤ H'.next ∧ ∀ b, b < h0 → H'.at_ b = H.at_ b := by
  have hs : source (H.push (.cells 47 6 [[.str p.key, .int .i64 p.k, .int .i64 p.n, .str p.s, .int .i64 p.x, .int .i64 p.y]])) 6 (.slc H.next 6 0 1) = some [[.str p.key, .int .i64 p.k, .int .i64 p.n, .str p.s, .int .i64 p.x, .int .i64 p.y]] := by
    simp [source, elems, AHeap.push, upd_app]
  simp only [AHeap.push] at hs
  rcases hd with ⟨rfl, rfl⟩ | ⟨g, rfl, h1, h2, h3⟩
  · refine ⟨H.next + 1, (H.push (.cells 47 6 [encP p])).push (.cells 47 6 [encP p]), ?_, by omega, Nat.lt_succ_self _, by simp [AHeap.push, upd_app], ?_, fun b hb => ?_⟩
    · have m1 : 1 * 64 ≤ most := by unfold most; omega
      have m2 : 1 ≤ most := by unfold most; omega
      simp only [builtinM, appendA, hs, m1, m2, List.length_singleton, tt, bb, bc, ↓bd, Nat.reduceEqDiff, Nat.reduceAdd, Nat.reduceMul, Nat.reduceLeDiff, Nat.reduceLT, ↓reduceIte, reduceCtorEq, Nat.reduceBeqDiff, Nat.reduceBneDiff, Int.reduceBNe, Int.reduceBEq, Int.reduceEq, Int.reduceLT, Int.reduceLE, Int.reduceAdd, Int.reduceSub, Int.reduceMul, Int.reduceNeg, List.reduceReplicate, Int.reduceToNat]
      rfl
    · show H.next ≤ H.next + 1 + 1
      omega
    · show upd (upd H.at_ H.next _) (H.next + 1) _ b = _
      rw [upd_app, if_neg (by omega), upd_app, if_neg (by omega)]
  · have m1 : (acc.length + 1) * 64 ≤ most := by unfold most; omega
    have m2 : acc.length + 1 ≤ most := by unfold most; omega
    have hg : (upd H.at_ H.next (Blk.cells 47 6 [[.str p.key, .int .i64 p.k, .int .i64 p.n, .str p.s, .int .i64 p.x, .int .i64 p.y]])) g = .cells 47 6 (acc.map encP) := by
      rw [upd_app, if_neg (by omega)]; exact h3
    have ht : (acc.map encP).take acc.length = acc.map encP := List.take_of_length_le (by simp)
    refine ⟨H.next + 1, ((H.push (.cells 47 6 [encP p])).set g .dead).push (.cells 47 6 (acc.map encP ++ [encP p])), ?_, by omega, Nat.lt_succ_self _, ?_, ?_, fun b hb => ?_⟩
    rotate_left
    · simp [AHeap.push, AHeap.set, upd_app]
    · show H.next ≤ H.next + 1 + 1
      omega
    · show upd (upd (upd H.at_ H.next _) g .dead) (H.next + 1) _ b = _
      rw [upd_app, if_neg (by omega), upd_app, if_neg (by omega), upd_app, if_neg (by omega)]
    · simp only [builtinM, appendA, hs, m1, m2, hg, ht, List.length_map, List.length_singleton, tt, bb, bc, ↓bd, Nat.reduceEqDiff, Nat.reduceAdd, Nat.reduceMul, Nat.reduceLeDiff, Nat.reduceLT, ↓reduceIte, reduceCtorEq, Nat.reduceBeqDiff, Nat.reduceBneDiff, Int.reduceBNe, Int.reduceBEq, Int.reduceEq, Int.reduceLT, Int.reduceLE, Int.reduceAdd, Int.reduceSub, Int.reduceMul, Int.reduceNeg, List.reduceReplicate, Int.reduceToNat]
      rfl
def Spot (out : List Pr) (p : Pr) (k : Nat) : Prop := ∀ i, k ≤ i → ∀ h : i < out.length, lessB p.key (out[i]).key = true
theorem isSort_ins {l out : List Pr} {p : Pr} {k : Nat} (h : IsSort l out) (hk : k ≤ out.length) (hs : Spot out p k) (hb : k = 0 ∨ ∃ h : k - 1 < out.length, lessB p.key (out[k - 1]).key = false) : IsSort (l ++ [p]) (out.take k ++ p :: out.drop k) where
  keys κ := by
    have h1 := h.keys κ
    rw [ofKey_app κ l [p], ← h1]
    have h2 : ofKey κ (out.take k ++ p :: out.drop k) = ofKey κ (out.take k) ++ (ofKey κ [p] ++ ofKey κ (out.drop k)) := by
      rw [show p :: out.drop k = [p] ++ out.drop k from rfl, ofKey_app, ofKey_app]
    have h3 : ofKey κ out = ofKey κ (out.take k) ++ ofKey κ (out.drop k) := by rw [← ofKey_app, List.take_append_drop]
    rw [h2, h3]
    by_cases e : p.key = κ
    · have : ofKey κ (out.drop k) = [] := by
        refine ofKey_none fun q hq e2 => ?_
        obtain ⟨i, hi, rfl⟩ := List.getElem_of_mem hq
        rw [List.length_drop] at hi
        have := hs (k + i) (by omega) (by omega)
        rw [List.getElem_drop] at e2
        rw [e2, e, bl_irr] at this
        cases this
      rw [this]; simp
    · have : ofKey κ [p] = [] := ofKey_none fun q hq e2 => by
        simp only [List.mem_singleton] at hq
        subst hq; exact e e2
      rw [this]; simp
  ord := by
    have ho := h.ord
    rw [← List.take_append_drop k out, List.pairwise_append] at ho
    obtain ⟨o1, o2, o3⟩ := ho
    have h4 : ∀ q, q ∈ out.drop k → ltP q p = false := fun q hq => by
      obtain ⟨i, hi, rfl⟩ := List.getElem_of_mem hq
      rw [List.length_drop] at hi
      have := hs (k + i) (by omega) (by omega)
      rw [List.getElem_drop]
      exact bl_asym this
    refine List.pairwise_append.mpr ⟨o1, List.pairwise_cons.mpr ⟨h4, o2⟩, fun a ha b hb' => ?_⟩
    rcases List.mem_cons.mp hb' with rfl | hb'
    · obtain ⟨i, hi, rfl⟩ := List.getElem_of_mem ha
      rw [List.length_take] at hi
      rw [List.getElem_take]
      rcases hb with rfl | ⟨hk1, hb⟩
      · omega
      · by_cases e : i = k - 1
        · subst e; exact hb
        · have := List.pairwise_iff_getElem.mp h.ord i (k - 1) (by omega) hk1 (by omega)
          exact bl_le this hb
    · exact o3 a ha b hb'
  len := by
    have := h.len
    simp only [List.length_append, List.length_cons, List.length_take, List.length_drop, List.length_nil]
    omega
section
variable {l : List Pr} {Q : AV → AHeap → Prop}
theorem rs2_all {i : Nat} (hl : l.length ≤ 100000) (hi : i < l.length) {out : List Pr} (ho : out.length = i) {d : AV} {H : AHeap} (hd : Own 0 d H out)
    (hK : ∀ (T : Nat → AV) (k : Nat), k ≤ out.length → Spot out l[i] k → (k = 0 ∨ ∃ h : k - 1 < out.length, lessB (l[i]).key (out[k - 1]).key = false) → T 0 = .vec 6 (l.map encP) → T 3 = d → T 4 = .int .i64 (i : Int) → T 5 = .int .i64 (k : Int) →
      Run Cx 12 T [] none [.code c12_30, .inBlock 1, .code c12_48, .inLoop c12_9, .inBlock 0, .code c12_49] H Q) :
    ∀ (k : Nat) (T : Nat → AV), k ≤ out.length → Spot out l[i] k → T 0 = .vec 6 (l.map encP) → T 3 = d → T 4 = .int .i64 (i : Int) → T 5 = .int .i64 (k : Int) →
      Run Cx 12 T [] none [.inLoop c12_22, .inBlock 2, .code c12_30, .inBlock 1, .code c12_48, .inLoop c12_9, .inBlock 0, .code c12_49] H Q := by
  intro k
  induction k with
  | zero =>
    intro T hk hs t0 t3 t4 t5
    replace t5 : T 5 = .int .i64 0 := t5
    rw [run_inLoop]
    simp only [t0, t3, t4, t5, xx, r12_0, r12_1, r12_2, r12_3.1, r12_3.2.1, r12_3.2.2.1, r12_3.2.2.2.1, r12_3.2.2.2.2.1, r12_3.2.2.2.2.2.1, r12_3.2.2.2.2.2.2.2, r12_4, r12_5, r12_6.2.2.1, r12_6.2.2.2, res12, tt, bb, bc, ↓bd, Nat.reduceEqDiff, Nat.reduceAdd, Nat.reduceMul, Nat.reduceLeDiff, Nat.reduceLT, ↓reduceIte, reduceCtorEq, Nat.reduceBeqDiff, Nat.reduceBneDiff, Int.reduceBNe, Int.reduceBEq, Int.reduceEq, Int.reduceLT, Int.reduceLE, Int.reduceAdd, Int.reduceSub, Int.reduceMul, Int.reduceNeg, List.reduceReplicate, Int.reduceToNat]
    refine hK _ 0 hk hs (.inl rfl) ?_ ?_ ?_ ?_
    all_goals first | (simp only [upd_app, t0, t3, t4, t5, Nat.reduceEqDiff, ↓reduceIte]; done) | (simp only [upd_app, t0, t3, t4, t5, Nat.reduceEqDiff, ↓reduceIte]; rfl) | rfl
  | succ k ih =>
    intro T hk hs t0 t3 t4 t5
    rw [run_inLoop]
    rcases hd with ⟨rfl, rfl⟩ | ⟨g, rfl, _, hg, hat⟩
    · simp at hk
    have c0 : (0 : Int) < ((k + 1 : Nat) : Int) := by omega
    have w1 : IntKind.i64.wrap (((k + 1 : Nat) : Int) - 1) = (k : Int) := by rw [wr64 (by omega) (by omega)]; omega
    have l1 : (k : Int) < (out.length : Int) := by omega
    have l2 : (i : Int) < ((l.map encP).length : Int) := by rw [List.length_map]; omega
    have p1 : (0 : Int) ≤ (k : Int) := by omega
    have p2 : (0 : Int) ≤ (i : Int) := by omega
    have g1 := enc_get (List.getElem?_eq_getElem (show k < out.length by omega))
    have g2 := enc_get (List.getElem?_eq_getElem hi)
    have hk' : k < out.length := by omega
    cases hle : lessB (l[i]).key (out[k]).key with
    | false =>
      have hx : (!(lessB (out[k]).key (l[i]).key || (out[k]).key == (l[i]).key)) = false := by
        cases h1 : lessB (out[k]).key (l[i]).key with
        | true => rfl
        | false => rw [bl_tot _ _ h1 hle]; simp
      simp only [t0, t3, t4, t5, c0, w1, l1, l2, p1, p2, g1, g2, hat, hx, Int.toNat_natCast, xx, r12_0, r12_1, r12_2, r12_3.1, r12_3.2.1, r12_3.2.2.1, r12_3.2.2.2.1, r12_3.2.2.2.2.1, r12_3.2.2.2.2.2.1, r12_3.2.2.2.2.2.2.2, r12_4, r12_5, r12_6.2.2.1, r12_6.2.2.2, res12, tt, bb, bc, ↓bd, Nat.reduceEqDiff, Nat.reduceAdd, Nat.reduceMul, Nat.reduceLeDiff, Nat.reduceLT, ↓reduceIte, reduceCtorEq, Nat.reduceBeqDiff, Nat.reduceBneDiff, Int.reduceBNe, Int.reduceBEq, Int.reduceEq, Int.reduceLT, Int.reduceLE, Int.reduceAdd, Int.reduceSub, Int.reduceMul, Int.reduceNeg, List.reduceReplicate, Int.reduceToNat]
      refine hK _ (k + 1) hk hs (.inr ⟨by omega, hle⟩) ?_ ?_ ?_ ?_
      all_goals first | (simp only [upd_app, t0, t3, t4, t5, Nat.reduceEqDiff, ↓reduceIte]; done) | (simp only [upd_app, t0, t3, t4, t5, Nat.reduceEqDiff, ↓reduceIte]; rfl) | rfl
    | true =>
      have hx : (!(lessB (out[k]).key (l[i]).key || (out[k]).key == (l[i]).key)) = true := by
        rw [bl_asym hle]
        have := bl_ne hle
        simp [Ne.symm this]
      simp only [t0, t3, t4, t5, c0, w1, l1, l2, p1, p2, g1, g2, hat, hx, Int.toNat_natCast, xx, r12_0, r12_1, r12_2, r12_3.1, r12_3.2.1, r12_3.2.2.1, r12_3.2.2.2.1, r12_3.2.2.2.2.1, r12_3.2.2.2.2.2.1, r12_3.2.2.2.2.2.2.2, r12_4, r12_5, r12_6.2.2.1, r12_6.2.2.2, res12, tt, bb, bc, ↓bd, Nat.reduceEqDiff, Nat.reduceAdd, Nat.reduceMul, Nat.reduceLeDiff, Nat.reduceLT, ↓reduceIte, reduceCtorEq, Nat.reduceBeqDiff, Nat.reduceBneDiff, Int.reduceBNe, Int.reduceBEq, Int.reduceEq, Int.reduceLT, Int.reduceLE, Int.reduceAdd, Int.reduceSub, Int.reduceMul, Int.reduceNeg, List.reduceReplicate, Int.reduceToNat]
      refine ih _ (by omega) ?_ ?_ ?_ ?_ ?_
      · intro j hj hjl
        by_cases e : j = k
        · subst e; exact hle
        · exact hs j (by omega) hjl
      all_goals first | (simp only [upd_app, t0, t3, t4, t5, Nat.reduceEqDiff, ↓reduceIte]; done) | (simp only [upd_app, t0, t3, t4, t5, Nat.reduceEqDiff, ↓reduceIte]; rfl) | rfl
theorem sh_get {out : List Pr} {j : Nat} {x : Pr} (hj : j + 1 ≤ out.length) : (out.take (j + 1) ++ x :: out.drop (j + 1))[j]? = some out[j] := by
  rw [List.getElem?_append_left (by rw [List.length_take]; omega), List.getElem?_take, if_pos (by omega), List.getElem?_eq_getElem (by omega)]
theorem sh_set {out : List Pr} {j : Nat} {x y : Pr} (hj : j ≤ out.length) : (out.take j ++ x :: out.drop j).set j y = out.take j ++ y :: out.drop j := by
  have hl : (out.take j).length = j := by rw [List.length_take]; omega
  rw [List.set_append, if_neg (by omega), hl, Nat.sub_self]
  rfl
theorem sh_step {out : List Pr} {j : Nat} (hj : j < out.length) : out.take (j + 1) ++ out[j] :: out.drop (j + 1) = out.take j ++ out[j] :: out.drop j := by
  rw [List.take_succ_eq_append_getElem hj, List.append_assoc]
  congr 1
  show out[j] :: out[j] :: out.drop (j + 1) = out[j] :: out.drop j
  rw [← List.drop_eq_getElem_cons hj]
theorem rs3_all {i : Nat} (hl : l.length ≤ 100000) (hi : i < l.length) {out : List Pr} (ho : out.length = i) {g k : Nat} {H : AHeap} (hk : k ≤ out.length)
    (hK : ∀ (T : Nat → AV) (x : Pr), T 0 = .vec 6 (l.map encP) → T 3 = .slc g 6 0 (out.length + 1) → T 4 = .int .i64 (i : Int) → T 5 = .int .i64 (k : Int) →
      Run Cx 12 T [] none [.code c12_47, .inBlock 1, .code c12_48, .inLoop c12_9, .inBlock 0, .code c12_49] (H.set g (.cells 47 6 ((out.take k ++ x :: out.drop k).map encP))) Q) :
    ∀ (m j : Nat) (T : Nat → AV) (x : Pr), j = k + m → j ≤ out.length → T 0 = .vec 6 (l.map encP) → T 3 = .slc g 6 0 (out.length + 1) → T 4 = .int .i64 (i : Int) → T 5 = .int .i64 (k : Int) → T 6 = .int .i64 (j : Int) →
      Run Cx 12 T [] none [.inLoop c12_37, .inBlock 4, .code c12_47, .inBlock 1, .code c12_48, .inLoop c12_9, .inBlock 0, .code c12_49] (H.set g (.cells 47 6 ((out.take j ++ x :: out.drop j).map encP))) Q := by
  intro m
  induction m with
  | zero =>
    intro j T x hj hjl t0 t3 t4 t5 t6
    obtain rfl : j = k := by omega
    rw [run_inLoop]
    have c0 : ¬ ((j : Int) < (j : Int)) := by omega
    simp only [t0, t3, t4, t5, t6, c0, xx, r12_0, r12_1, r12_2, r12_3, r12_4, r12_5.1, r12_5.2.1, r12_5.2.2.1, r12_5.2.2.2.1, r12_5.2.2.2.2.1, r12_5.2.2.2.2.2.1, r12_5.2.2.2.2.2.2.1, r12_6.2.2.1, r12_6.2.2.2, res12, tt, bb, bc, ↓bd, Nat.reduceEqDiff, Nat.reduceAdd, Nat.reduceMul, Nat.reduceLeDiff, Nat.reduceLT, ↓reduceIte, reduceCtorEq, Nat.reduceBeqDiff, Nat.reduceBneDiff, Int.reduceBNe, Int.reduceBEq, Int.reduceEq, Int.reduceLT, Int.reduceLE, Int.reduceAdd, Int.reduceSub, Int.reduceMul, Int.reduceNeg, List.reduceReplicate, Int.reduceToNat]
    refine hK _ x ?_ ?_ ?_ ?_
    all_goals first | (simp only [upd_app, t0, t3, t4, t5, Nat.reduceEqDiff, ↓reduceIte]; done) | (simp only [upd_app, t0, t3, t4, t5, Nat.reduceEqDiff, ↓reduceIte]; rfl) | rfl
  | succ m ih =>
    intro j T x hj hjl t0 t3 t4 t5 t6
    obtain ⟨j, rfl⟩ : ∃ j', j = j' + 1 := ⟨j - 1, by omega⟩
    rw [run_inLoop]
    have c0 : (k : Int) < ((j + 1 : Nat) : Int) := by omega
    have w1 : IntKind.i64.wrap (((j + 1 : Nat) : Int) - 1) = (j : Int) := by rw [wr64 (by omega) (by omega)]; omega
    have l1 : (j : Int) < ((out.length + 1 : Nat) : Int) := by omega
    have l2 : ((j + 1 : Nat) : Int) < ((out.length + 1 : Nat) : Int) := by omega
    have p1 : (0 : Int) ≤ (j : Int) := by omega
    have p2 : (0 : Int) ≤ ((j + 1 : Nat) : Int) := by omega
    have g1 := enc_get (sh_get (x := x) hjl)
    have g2 : ((out.take (j + 1) ++ x :: out.drop (j + 1)).map encP)[j + 1]? = some (encP x) := by
      rw [List.getElem?_map, List.getElem?_append_right (by rw [List.length_take]; omega), show j + 1 - (out.take (j + 1)).length = 0 by rw [List.length_take]; omega]
      rfl
    simp only [encP] at g2
    have e1 := sh_set (out := out) (j := j + 1) (x := x) (y := out[j]) hjl
    rw [sh_step (by omega)] at e1
    simp only [t0, t3, t4, t5, t6, c0, w1, l1, l2, p1, p2, g1, g2, Int.toNat_natCast, rows_set, e1, upd2, xx, r12_0, r12_1, r12_2, r12_3, r12_4, r12_5.1, r12_5.2.1, r12_5.2.2.1, r12_5.2.2.2.1, r12_5.2.2.2.2.1, r12_5.2.2.2.2.2.1, r12_5.2.2.2.2.2.2.1, r12_6.2.2.1, r12_6.2.2.2, res12, tt, bb, bc, ↓bd, Nat.reduceEqDiff, Nat.reduceAdd, Nat.reduceMul, Nat.reduceLeDiff, Nat.reduceLT, ↓reduceIte, reduceCtorEq, Nat.reduceBeqDiff, Nat.reduceBneDiff, Int.reduceBNe, Int.reduceBEq, Int.reduceEq, Int.reduceLT, Int.reduceLE, Int.reduceAdd, Int.reduceSub, Int.reduceMul, Int.reduceNeg, List.reduceReplicate, Int.reduceToNat]
    refine ih j _ out[j] (by omega) (by omega) ?_ ?_ ?_ ?_ ?_
    all_goals first | (simp only [upd_app, t0, t3, t4, t5, Nat.reduceEqDiff, ↓reduceIte]; done) | (simp only [upd_app, t0, t3, t4, t5, Nat.reduceEqDiff, ↓reduceIte]; rfl) | rfl
theorem rs1_all (hl : l.length ≤ 100000) (hQ : ∀ d H m, Own 0 d H m → IsSort l m → Q d H) :
    ∀ (j i : Nat) (T : Nat → AV) (H : AHeap) (d : AV) (out : List Pr), i + j = l.length → T 0 = .vec 6 (l.map encP) → T 3 = d → T 4 = .int .i64 (i : Int) → Own 0 d H out → IsSort (l.take i) out →
      Run Cx 12 T [] none [.inLoop c12_9, .inBlock 0, .code c12_49] H Q
  | 0, i, T, H, d, out, hij, t0, t3, t4, hd, hs => by
    rw [run_inLoop]
    rw [List.take_of_length_le (by omega)] at hs
    have c0 : ¬ (i : Int) < ((l.map encP).length : Int) := by rw [List.length_map]; omega
    simp only [t0, t3, t4, c0, xx, r12_0, r12_1, r12_2, r12_3, r12_4, r12_5, r12_6, res12, tt, bb, bc, ↓bd, Nat.reduceEqDiff, Nat.reduceAdd, Nat.reduceMul, Nat.reduceLeDiff, Nat.reduceLT, ↓reduceIte, reduceCtorEq, Nat.reduceBeqDiff, Nat.reduceBneDiff, Int.reduceBNe, Int.reduceBEq, Int.reduceEq, Int.reduceLT, Int.reduceLE, Int.reduceAdd, Int.reduceSub, Int.reduceMul, Int.reduceNeg, List.reduceReplicate, Int.reduceToNat]
    exact hQ d H out hd hs
  | j + 1, i, T, H, d, out, hij, t0, t3, t4, hd, hs => by
    rw [run_inLoop]
    have hi : i < l.length := by omega
    have ho : out.length = i := by rw [hs.len, List.length_take]; omega
    have c0 : (i : Int) < ((l.map encP).length : Int) := by rw [List.length_map]; omega
    have hlen := hd.buf.lenOf
    simp only [lenOf] at hlen
    simp only [t0, t3, t4, c0, hlen, i64, xx, r12_0, r12_1, r12_2.1, r12_2.2.1, r12_2.2.2.1, r12_2.2.2.2.1, r12_2.2.2.2.2.1, r12_2.2.2.2.2.2.1, r12_2.2.2.2.2.2.2.2, r12_3.1, r12_3.2.1, r12_3.2.2.1, r12_3.2.2.2.1, r12_3.2.2.2.2.1, r12_3.2.2.2.2.2.1, r12_3.2.2.2.2.2.2.2, r12_4, r12_5, r12_6.2.2.1, r12_6.2.2.2, res12, tt, bb, bc, ↓bd, Nat.reduceEqDiff, Nat.reduceAdd, Nat.reduceMul, Nat.reduceLeDiff, Nat.reduceLT, ↓reduceIte, reduceCtorEq, Nat.reduceBeqDiff, Nat.reduceBneDiff, Int.reduceBNe, Int.reduceBEq, Int.reduceEq, Int.reduceLT, Int.reduceLE, Int.reduceAdd, Int.reduceSub, Int.reduceMul, Int.reduceNeg, List.reduceReplicate, Int.reduceToNat]
    refine rs2_all hl hi ho hd ?_ out.length _ (Nat.le_refl _) (fun a b h => absurd h (by omega)) ?_ ?_ ?_ ?_
    rotate_left
    · simp only [upd_app, t0, t3, t4, Nat.reduceEqDiff, ↓reduceIte]
    · simp only [upd_app, t0, t3, t4, Nat.reduceEqDiff, ↓reduceIte]
    · simp only [upd_app, t0, t3, t4, Nat.reduceEqDiff, ↓reduceIte]
    · simp only [upd_app, t0, t3, t4, Nat.reduceEqDiff, ↓reduceIte]
    clear t0 t3 t4 T
    intro T k hk hsp hb t0 t3 t4 t5
    have p2 : (0 : Int) ≤ (i : Int) := by omega
    have g2 := enc_get (List.getElem?_eq_getElem hi)
    obtain ⟨g, H', ha, hg0, hg1, hat, hn, hkeep⟩ := hd.app1 (Nat.zero_le _) l[i] (by omega)
    simp only [AHeap.push] at ha
    have w1 : IntKind.i64.wrap (((out.length + 1 : Nat) : Int) - 1) = (out.length : Int) := by rw [wr64 (by omega) (by omega)]; omega
    simp only [t0, t3, t4, t5, c0, p2, g2, ha, w1, i64, runVH_some, Int.toNat_natCast, xx, r12_0, r12_1, r12_2, r12_3, r12_4.1, r12_4.2.1, r12_4.2.2.1, r12_4.2.2.2.1, r12_4.2.2.2.2.1, r12_4.2.2.2.2.2.2.1, r12_4.2.2.2.2.2.2.2, r12_5.1, r12_5.2.1, r12_5.2.2.1, r12_5.2.2.2.1, r12_5.2.2.2.2.1, r12_5.2.2.2.2.2.1, r12_5.2.2.2.2.2.2.1, r12_6.2.2.1, r12_6.2.2.2, res12, tt, bb, bc, ↓bd, Nat.reduceEqDiff, Nat.reduceAdd, Nat.reduceMul, Nat.reduceLeDiff, Nat.reduceLT, ↓reduceIte, reduceCtorEq, Nat.reduceBeqDiff, Nat.reduceBneDiff, Int.reduceBNe, Int.reduceBEq, Int.reduceEq, Int.reduceLT, Int.reduceLE, Int.reduceAdd, Int.reduceSub, Int.reduceMul, Int.reduceNeg, List.reduceReplicate, Int.reduceToNat]
    have hh : H' = H'.set g (.cells 47 6 ((out.take out.length ++ l[i] :: out.drop out.length).map encP)) := by
      unfold AHeap.set
      rw [List.take_length, List.drop_length, ← hat]
      have : upd H'.at_ g (H'.at_ g) = H'.at_ := by
        funext c
        rw [upd_app]
        split
        · rename_i e; rw [e]
        · rfl
      rw [this]
    rw [hh]
    refine rs3_all (H := H') hl hi ho hk ?_ (out.length - k) out.length _ l[i] (by omega) (Nat.le_refl _) ?_ ?_ ?_ ?_ ?_
    rotate_left
    · simp only [upd_app, t0, t3, t4, Nat.reduceEqDiff, ↓reduceIte]
    · simp only [upd_app, t0, t3, t4, Nat.reduceEqDiff, ↓reduceIte]
    · simp only [upd_app, t0, t3, t4, Nat.reduceEqDiff, ↓reduceIte]
    · simp only [upd_app, t0, t3, t4, t5, Nat.reduceEqDiff, ↓reduceIte]
    · simp only [upd_app, t0, t3, t4, t5, Nat.reduceEqDiff, ↓reduceIte]
    clear t0 t3 t4 t5 T
    intro T x t0 t3 t4 t5
    have l1 : (k : Int) < ((out.length + 1 : Nat) : Int) := by omega
    have p1 : (0 : Int) ≤ (k : Int) := by omega
    have w2 : IntKind.i64.wrap ((i : Int) + 1) = ((i + 1 : Nat) : Int) := by rw [wr64 (by omega) (by omega)]; omega
    have g3 : ((out.take k ++ x :: out.drop k).map encP)[k]? = some (encP x) := by
      rw [List.getElem?_map, List.getElem?_append_right (by rw [List.length_take]; omega), show k - (out.take k).length = 0 by rw [List.length_take]; omega]
      rfl
    simp only [encP] at g3
    have e1 := sh_set (out := out) (j := k) (x := x) (y := l[i]) hk
    simp only [t0, t3, t4, t5, c0, p1, p2, l1, g2, g3, w2, rows_set, e1, upd2, i64, runVH_some, Int.toNat_natCast, xx, r12_0, r12_1.1, r12_1.2.2.1, r12_1.2.2.2.1, r12_1.2.2.2.2.1, r12_1.2.2.2.2.2.1, r12_1.2.2.2.2.2.2.1, r12_1.2.2.2.2.2.2.2, r12_2, r12_3, r12_4, r12_5, r12_6.1, r12_6.2.2.1, r12_6.2.2.2, res12, tt, bb, bc, ↓bd, Nat.reduceEqDiff, Nat.reduceAdd, Nat.reduceMul, Nat.reduceLeDiff, Nat.reduceLT, ↓reduceIte, reduceCtorEq, Nat.reduceBeqDiff, Nat.reduceBneDiff, Int.reduceBNe, Int.reduceBEq, Int.reduceEq, Int.reduceLT, Int.reduceLE, Int.reduceAdd, Int.reduceSub, Int.reduceMul, Int.reduceNeg, List.reduceReplicate, Int.reduceToNat]
    have hs' : IsSort (l.take (i + 1)) (out.take k ++ l[i] :: out.drop k) := by
      rw [List.take_succ_eq_append_getElem hi]
      exact isSort_ins hs hk hsp hb
    have hlen' : (out.take k ++ l[i] :: out.drop k).length = out.length + 1 := by
      simp only [List.length_append, List.length_cons, List.length_take, List.length_drop]; omega
    refine rs1_all hl hQ j (i + 1) _ _ (.slc g 6 0 (out.length + 1)) _ (by omega) ?_ ?_ ?_ (.inr ⟨g, by rw [hlen'], hg0, hg1, by simp [upd_app]⟩) hs'
    all_goals first | (simp only [upd_app, t0, t3, t4, Nat.reduceEqDiff, ↓reduceIte]; done) | rfl
end
theorem RefSort_ok {v : AV} {l : List Pr} (hv : InE v l) (hl : l.length ≤ 100000) : ∃ m w, IsSort l m ∧ InE w m ∧ PCall Cx 12 [v] w := by
  by_cases h0 : l = []
  · subst h0
    refine ⟨[], .nilS, ⟨fun _ => rfl, List.Pairwise.nil, rfl⟩, .inl ⟨rfl, rfl⟩, ?_⟩
    rcases hv with ⟨rfl, _⟩ | ⟨rfl, _⟩ | rfl
    · exact ⟨60, by kernel_rfl⟩
    · exact ⟨60, by kernel_rfl⟩
    · exact ⟨60, by kernel_rfl⟩
  · obtain rfl := hv.vec h0
    have hx : ∃ r, (∃ m, IsSort l m ∧ InE r m) ∧ PCall Cx 12 [.vec 6 (l.map encP)] r := by
      refine pcall_ex (noext _) body12 ?_
      simp only [r12_0, r12_1.1, r12_1.2.2.1, r12_1.2.2.2.1, r12_1.2.2.2.2.1, r12_1.2.2.2.2.2.1, r12_1.2.2.2.2.2.2.1, r12_1.2.2.2.2.2.2.2, r12_2, r12_3, r12_4, r12_5, r12_6.1, r12_6.2.2.1, r12_6.2.2.2, res12, tt, bb, bc, ↓bd, Nat.reduceEqDiff, Nat.reduceAdd, Nat.reduceMul, Nat.reduceLeDiff, Nat.reduceLT, ↓reduceIte, reduceCtorEq, Nat.reduceBeqDiff, Nat.reduceBneDiff, Int.reduceBNe, Int.reduceBEq, Int.reduceEq, Int.reduceLT, Int.reduceLE, Int.reduceAdd, Int.reduceSub, Int.reduceMul, Int.reduceNeg, List.reduceReplicate, Int.reduceToNat]
      refine rs1_all hl ?_ l.length 0 _ AHeap.empty .nilS [] (by omega) ?_ ?_ ?_ .nil ⟨fun _ => rfl, List.Pairwise.nil, rfl⟩
      · intro d H m hd hs
        obtain ⟨w, hw, hf, _⟩ := hd.buf.freeze
        exact ⟨w, ⟨m, hs, hw⟩, hf⟩
      all_goals simp only [upd_app, enterT, List.getElem?_cons_zero, List.getElem?_cons_succ, Option.getD_some, Nat.reduceEqDiff, ↓reduceIte]
      all_goals rfl
    obtain ⟨r, ⟨m, hs, hw⟩, hp⟩ := hx
    exact ⟨m, r, hs, hw, hp⟩
end Go.Proofs.Ytjnopnlgcmlkfaa.G

namespace Go.Proofs.Ytjnopnlgcmlkfaa.G
open Go.BX
set_option linter.unusedSimpArgs false
set_option linter.unusedVariables false
def OwnK (h0 te kk : Nat) (d : AV) (n : Nat) (A : Nat → Blk) (es : List (List AV)) : Prop :=
  (d = .nilS ∧ es = []) ∨ ∃ g, d = .slc g kk 0 es.length ∧ h0 ≤ g ∧ g < n ∧ A g = .cells te kk es
theorem OwnK.lenOf {h0 te kk : Nat} {d : AV} {n : Nat} {A : Nat → Blk} {es : List (List AV)} (h : OwnK h0 te kk d n A es) : BX.lenOf d = some es.length := by
  rcases h with ⟨rfl, rfl⟩ | ⟨g, rfl, _⟩ <;> rfl
theorem OwnK.plain {h0 te kk : Nat} {d : AV} {n : Nat} {A : Nat → Blk} {es : List (List AV)} (h : OwnK h0 te kk d n A es) : d.plain = true := by
  rcases h with ⟨rfl, rfl⟩ | ⟨g, rfl, _⟩ <;> rfl
theorem OwnK.cells {h0 te kk : Nat} {d : AV} {n : Nat} {A : Nat → Blk} {es : List (List AV)} (h : OwnK h0 te kk d n A es) : d.cells = [d] := by
  rcases h with ⟨rfl, rfl⟩ | ⟨g, rfl, _⟩ <;> rfl
theorem OwnK.keep {h0 te kk : Nat} {d : AV} {n n' : Nat} {A A' : Nat → Blk} {es : List (List AV)} (h : OwnK h0 te kk d n A es) (hn : n ≤ n') (hk : ∀ g, g < n → A g = .cells te kk es → A' g = A g) : OwnK h0 te kk d n' A' es := by
  rcases h with h | ⟨g, h1, h2, h3, h4⟩
  · exact .inl h
  · exact .inr ⟨g, h1, h2, by omega, by rw [hk g h3 h4]; exact h4⟩
theorem OwnK.own {h0 : Nat} {d : AV} {n : Nat} {A : Nat → Blk} {l : List Pr} (h : OwnK h0 47 6 d n A (l.map encP)) : Own h0 d ⟨n, A⟩ l := by
  rcases h with ⟨h1, h2⟩ | ⟨g, h1, h2, h3, h4⟩
  · exact .inl ⟨h1, by simpa using h2⟩
  · exact .inr ⟨g, by rw [h1, List.length_map], h2, h3, h4⟩
theorem OwnK.app1s {h0 t te kk by_ n : Nat} {d : AV} {A : Nat → Blk} {es : List (List AV)} {row : List AV} (hd : OwnK h0 te kk d n A es) (hh : h0 ≤ n) (h1 : isSl Cx t te) (h2 : ∃ ti, Cx.TT te = some ti ∧ ti.size = kk ∧ ti.bytes = by_) (hm : (es.length + 1) * by_ ≤ most) (hm2 : es.length + 1 ≤ most) :
    ∃ A', builtinM Cx ⟨n + 1, upd A n (.cells te kk [row])⟩ .append [t, t] [d, .slc n kk 0 1] = some (.slc (n + 1) kk 0 (es.length + 1), ⟨n + 1 + 1, A'⟩) ∧ OwnK h0 te kk (.slc (n + 1) kk 0 (es.length + 1)) (n + 1 + 1) A' (es ++ [row]) ∧ (∀ c, c < n → A c ≠ .cells te kk es ∨ c < h0 → A' c = A c) ∧ ∀ c, c < n → (∀ m, d ≠ .slc c kk 0 m) → A' c = A c := by
  rcases hd with ⟨rfl, rfl⟩ | ⟨g, rfl, g1, g2, g3⟩
  · have hk : ∀ c, c < n → (upd (upd A n (.cells te kk [row])) (n + 1) (.cells te kk [row])) c = A c := fun c hc => by rw [upd_app, if_neg (by omega), upd_app, if_neg (by omega)]
    exact ⟨_, app_nil h1 h2 (by simpa using hm), .inr ⟨n + 1, by simp, by omega, by omega, by simp⟩, fun c hc _ => hk c hc, fun c hc _ => hk c hc⟩
  · have hk : ∀ c, c < n → c ≠ g → (upd (upd (upd A n (.cells te kk [row])) g .dead) (n + 1) (.cells te kk (es ++ [row]))) c = A c := fun c hc hne => by rw [upd_app, if_neg (by omega), upd_app, if_neg hne, upd_app, if_neg (by omega)]
    refine ⟨_, app_row h1 h2 g3 (by omega) hm hm2, .inr ⟨n + 1, by simp, by omega, by omega, by simp⟩, fun c hc hne => hk c hc ?_, fun c hc hne => hk c hc ?_⟩
    · rintro rfl
      rcases hne with h | h
      · exact h g3
      · omega
    · rintro rfl
      exact hne _ rfl
theorem OwnK.app1 {h0 t te kk by_ n : Nat} {d : AV} {A : Nat → Blk} {es : List (List AV)} {row : List AV} (hd : OwnK h0 te kk d n A es) (hh : h0 ≤ n) (h1 : isSl Cx t te) (h2 : ∃ ti, Cx.TT te = some ti ∧ ti.size = kk ∧ ti.bytes = by_) (hm : (es.length + 1) * by_ ≤ most) (hm2 : es.length + 1 ≤ most) :
    ∃ A', builtinM Cx ⟨n + 1, upd A n (.cells te kk [row])⟩ .append [t, t] [d, .slc n kk 0 1] = some (.slc (n + 1) kk 0 (es.length + 1), ⟨n + 1 + 1, A'⟩) ∧ OwnK h0 te kk (.slc (n + 1) kk 0 (es.length + 1)) (n + 1 + 1) A' (es ++ [row]) ∧ ∀ c, c < n → A c ≠ .cells te kk es ∨ c < h0 → A' c = A c := by
  obtain ⟨A', e1, e2, e3, _⟩ := hd.app1s (row := row) hh h1 h2 hm hm2
  exact ⟨A', e1, e2, e3⟩
def RV (n : Nat) (A : Nat → Blk) (v : AV) (l : List Pr) : Prop := InE v l ∨ ∃ g, v = .slc g 6 0 l.length ∧ g < n ∧ A g = .cells 47 6 (l.map encP)
theorem RV.keep {n n' : Nat} {A A' : Nat → Blk} {v : AV} {l : List Pr} (h : RV n A v l) (hn : n ≤ n') (hk : ∀ g, g < n → A g = .cells 47 6 (l.map encP) → A' g = A g) : RV n' A' v l := by
  rcases h with h | ⟨g, h1, h2, h3⟩
  · exact .inl h
  · exact .inr ⟨g, h1, by omega, by rw [hk g h2 h3]; exact h3⟩
theorem RV.lenOf {n : Nat} {A : Nat → Blk} {v : AV} {l : List Pr} (h : RV n A v l) : BX.lenOf v = some l.length := by
  rcases h with h | ⟨g, rfl, _⟩
  · exact h.len
  · rfl
theorem RV.plain {n : Nat} {A : Nat → Blk} {v : AV} {l : List Pr} (h : RV n A v l) : v.plain = true := by
  rcases h with h | ⟨g, rfl, _⟩
  · exact h.plain
  · rfl
theorem RV.cells {n : Nat} {A : Nat → Blk} {v : AV} {l : List Pr} (h : RV n A v l) : v.cells = [v] := by
  rcases h with h | ⟨g, rfl, _⟩
  · exact h.cells
  · rfl
theorem RV.freeze1 {n : Nat} {A : Nat → Blk} {v : AV} {l : List Pr} (h : RV n A v l) (d : Nat) : ∃ w, InE w l ∧ BX.freeze1 ⟨n, A⟩ (d + 1) v = some w := by
  rcases h with h | ⟨g, rfl, h2, h3⟩
  · exact ⟨v, h, h.freeze1⟩
  · refine ⟨.vec 6 (l.map encP), .inr (.inr rfl), ?_⟩
    have he : elems ⟨n, A⟩ 6 (.slc g 6 0 l.length) = some (l.map encP) := by
      unfold elems
      simp only [h3]
      rw [if_pos ⟨trivial, trivial, by simp⟩, List.drop_zero, List.take_of_length_le (by simp)]
    rw [freeze1_slc, he, frzE_some, freeze_rows']
    rfl
theorem RV.freeze {n : Nat} {A : Nat → Blk} {v : AV} {l : List Pr} (h : RV n A v l) : ∃ w, InE w l ∧ BX.freeze ⟨n, A⟩ v = some w := by
  obtain ⟨w, hw, hf⟩ := h.freeze1 3
  refine ⟨w, hw, ?_⟩
  rcases h with h | ⟨g, rfl, h2, h3⟩
  · rw [h.freeze1] at hf
    cases hf
    exact h.freeze
  · exact hf
def piece (P : List Pr) (room i : Nat) : List Pr := (P.drop (i * room)).take room
structure Chk (room : Nat) (P now : List Pr) (rs : List (AV × List Pr)) : Prop where
  le : rs.length * room ≤ P.length
  rst : now = P.drop (rs.length * room)
  lt : now.length < room
  srt : ∀ (i : Nat) (h : i < rs.length), IsSort (piece P room i) (rs[i]).2
theorem Chk.nil {room : Nat} (h : 0 < room) : Chk room [] [] [] := ⟨by simp, by simp, by simpa using h, fun i h => by simp at h⟩
theorem piece_app {P : List Pr} {room i : Nat} (q : Pr) (h : (i + 1) * room ≤ P.length) : piece (P ++ [q]) room i = piece P room i := by
  unfold piece
  rw [Nat.succ_mul] at h
  rw [List.drop_append_of_le_length (by omega), List.take_append_of_le_length (by rw [List.length_drop]; omega)]
theorem Chk.full {room : Nat} {P now : List Pr} {rs : List (AV × List Pr)} (h : Chk room P now rs) (q : Pr) (he : now.length + 1 = room) {w : AV} {m : List Pr} (hm : IsSort (now ++ [q]) m) : Chk room (P ++ [q]) [] (rs ++ [(w, m)]) := by
  obtain ⟨h1, h2, h3, h4⟩ := h
  have hl : now.length = P.length - rs.length * room := by rw [h2, List.length_drop]
  have e : (rs ++ [(w, m)]).length * room = P.length + 1 := by
    rw [List.length_append, List.length_singleton, Nat.succ_mul]; omega
  refine ⟨by rw [e]; simp, ?_, by simp; omega, fun i hi => ?_⟩
  · rw [e, List.drop_of_length_le (by simp)]
  · by_cases hir : i < rs.length
    · rw [List.getElem_append_left hir, piece_app q (Nat.le_trans (Nat.mul_le_mul_right _ hir) h1)]
      exact h4 i hir
    · have hie : i = rs.length := by
        rw [List.length_append, List.length_singleton] at hi; omega
      subst hie
      rw [List.getElem_append_right (Nat.le_refl _)]
      simp only [Nat.sub_self, List.getElem_cons_zero]
      unfold piece
      rw [List.drop_append_of_le_length h1, ← h2, List.take_of_length_le (by simp; omega)]
      exact hm
end Go.Proofs.Ytjnopnlgcmlkfaa.G

namespace Go.Proofs.Ytjnopnlgcmlkfaa.G
open Go.BX
set_option linter.unusedSimpArgs false
set_option linter.unusedVariables false
theorem psl : isSl Cx 22 47 := ⟨_, TT_22, rfl⟩
theorem pti : ∃ ti, Cx.TT 47 = some ti ∧ ti.size = 6 ∧ ti.bytes = 64 := ⟨_, TT_47, rfl, rfl⟩
def rowsR (rs : List (AV × List Pr)) : List (List AV) := rs.map fun x => [x.1]
structure SS (h0 : Nat) (room b n : Nat) (A : Nat → Blk) (now : List Pr) (rs : List (AV × List Pr)) (cnt : Nat) : Prop where
  hb0 : h0 ≤ b
  hb : b < n
  at_ : ∃ vn vr, A b = .cells 68 4 [[.int .i64 (room : Int), vn, vr, .int .i64 (cnt : Int)]] ∧ OwnK h0 47 6 vn n A (now.map encP) ∧ OwnK h0 22 1 vr n A (rowsR rs)
  all : ∀ x, x ∈ rs → InE x.1 x.2
def Sep (F : Nat → Prop) (b : Nat) (A : Nat → Blk) : Prop := ¬ F b ∧ ∀ r vn vr c, A b = .cells 68 4 [[r, vn, vr, c]] → ∀ g, F g → (∀ kk m, vn ≠ .slc g kk 0 m) ∧ ∀ kk m, vr ≠ .slc g kk 0 m
theorem Sep.none {b : Nat} {A : Nat → Blk} : Sep (fun _ => False) b A := ⟨fun h => h, fun _ _ _ _ _ _ h => h.elim⟩
theorem SS.keep {h0 room b n n' : Nat} {A A' : Nat → Blk} {now : List Pr} {rs : List (AV × List Pr)} {cnt : Nat} (h : SS h0 room b n A now rs cnt) (hn : n ≤ n') (hk : ∀ g, h0 ≤ g → g < n → A' g = A g) : SS h0 room b n' A' now rs cnt := by
  obtain ⟨h1, h2, ⟨vn, vr, h3, h4, h5⟩, h6⟩ := h
  refine ⟨h1, by omega, ⟨vn, vr, by rw [hk b h1 h2]; exact h3, ?_, ?_⟩, h6⟩
  · rcases h4 with h | ⟨g, g1, g2, g3, g4⟩
    · exact .inl h
    · exact .inr ⟨g, g1, g2, by omega, by rw [hk g g2 g3]; exact g4⟩
  · rcases h5 with h | ⟨g, g1, g2, g3, g4⟩
    · exact .inl h
    · exact .inr ⟨g, g1, g2, by omega, by rw [hk g g2 g3]; exact g4⟩
section
variable {fn : FuncId} {T : Nat → AV} {ds : List ADef} {ro : Option Nat} {k : List AItem} {Q : AV → AHeap → Prop} {dst : Option Nat} {os : List AO}
end
end Go.Proofs.Ytjnopnlgcmlkfaa.G

namespace Go.Proofs.Ytjnopnlgcmlkfaa.G
open Go.BX
set_option linter.unusedSimpArgs false
set_option linter.unusedVariables false
structure Pcs (room : Nat) (P : List Pr) (ms : List (List Pr)) : Prop where
  full : P.length ≤ ms.length * room
  lst : ms.length = 0 ∨ (ms.length - 1) * room < P.length
  srt : ∀ (i : Nat) (h : i < ms.length), IsSort (piece P room i) ms[i]
theorem Chk.cut {room : Nat} {P now : List Pr} {rs : List (AV × List Pr)} (h : Chk room P now rs) (hr : 0 < room) : now = [] ∧ Pcs room P (rs.map (·.2)) ∨ now ≠ [] ∧ ∀ m, IsSort now m → Pcs room P (rs.map (·.2) ++ [m]) := by
  obtain ⟨h1, h2, h3, h4⟩ := h
  have hl : now.length = P.length - rs.length * room := by rw [h2, List.length_drop]
  by_cases h0 : now = []
  · refine .inl ⟨h0, ?_, ?_, ?_⟩
    · rw [h0] at hl
      rw [List.length_map]
      simp only [List.length_nil] at hl
      omega
    · rw [List.length_map]
      by_cases e : rs.length = 0
      · exact .inl e
      · refine .inr (Nat.lt_of_lt_of_le ?_ h1)
        exact Nat.mul_lt_mul_of_pos_right (by omega) hr
    · intro i hi
      rw [List.length_map] at hi
      rw [List.getElem_map]
      exact h4 i hi
  · refine .inr ⟨h0, fun m hm => ⟨?_, .inr ?_, ?_⟩⟩
    · rw [List.length_append, List.length_map, List.length_singleton, Nat.succ_mul]
      omega
    · have : 0 < now.length := List.length_pos_iff.mpr h0
      rw [List.length_append, List.length_map, List.length_singleton, Nat.add_sub_cancel]
      omega
    · intro i hi
      by_cases hir : i < (rs.map (·.2)).length
      · rw [List.getElem_append_left hir, List.getElem_map]
        rw [List.length_map] at hir
        exact h4 i hir
      · have hie : i = (rs.map (·.2)).length := by
          rw [List.length_append, List.length_singleton] at hi; omega
        subst hie
        rw [List.getElem_append_right (Nat.le_refl _)]
        simp only [Nat.sub_self, List.getElem_cons_zero]
        unfold piece
        rw [List.length_map, ← h2, List.take_of_length_le (by omega)]
        exact hm
section
variable {fn : FuncId} {T : Nat → AV} {ds : List ADef} {ro : Option Nat} {k : List AItem} {Q : AV → AHeap → Prop} {dst : Option Nat} {os : List AO}
end
end Go.Proofs.Ytjnopnlgcmlkfaa.G
namespace Go.Proofs.Ytjnopnlgcmlkfaa.G
open Go.BX
set_option linter.unusedSimpArgs false
set_option linter.unusedVariables false
theorem Pcs.len {room : Nat} {P : List Pr} {ms : List (List Pr)} (h : Pcs room P ms) {i : Nat} (hi : i < ms.length) : (ms[i]).length = min room (P.length - i * room) := by
  rw [(h.srt i hi).len]
  unfold piece
  rw [List.length_take, List.length_drop]
theorem Pcs.mul {room : Nat} {P : List Pr} {ms : List (List Pr)} (h : Pcs room P ms) {i : Nat} (hi : i < ms.length) : i * room < P.length ∧ (i + 1 < ms.length → (i + 1) * room ≤ P.length) := by
  rcases h.lst with h1 | h1
  · omega
  · have h2 : i * room ≤ (ms.length - 1) * room := Nat.mul_le_mul_right _ (by omega)
    refine ⟨by omega, fun h3 => ?_⟩
    have h4 : (i + 1) * room ≤ (ms.length - 1) * room := Nat.mul_le_mul_right _ (by omega)
    omega
end Go.Proofs.Ytjnopnlgcmlkfaa.G
namespace Go.Proofs.Ytjnopnlgcmlkfaa.G
open Go.BX
set_option linter.unusedSimpArgs false
set_option linter.unusedVariables false
section
variable {α : Type} {lt : α → α → Bool}
structure Ord (lt : α → α → Bool) (S : α → Prop) : Prop where
  tr : ∀ a b c, S a → S b → S c → lt b a = false → lt c b = false → lt c a = false
  asym : ∀ a b, S a → S b → lt a b = true → lt b a = false
def swA (f : Nat → α) (i j : Nat) : Nat → α := fun k => if k = i then f j else if k = j then f i else f k
structure Cont (n : Nat) (f : Nat → α) (S : α → Prop) : Prop where
  mem : ∀ i, i < n → S (f i)
  all : ∀ c, S c → ∃ i, i < n ∧ f i = c
  inj : ∀ i j, i < n → j < n → f i = f j → i = j
theorem Cont.sw {n : Nat} {f : Nat → α} {S : α → Prop} (h : Cont n f S) {i j : Nat} (hi : i < n) (hj : j < n) : Cont n (swA f i j) S where
  mem k hk := by
    unfold swA
    split
    · exact h.mem j hj
    · split
      · exact h.mem i hi
      · exact h.mem k hk
  all c hc := by
    obtain ⟨k, hk, rfl⟩ := h.all c hc
    unfold swA
    by_cases h1 : k = i
    · subst h1
      refine ⟨j, hj, ?_⟩
      by_cases h2 : j = k
      · subst h2; simp
      · simp [h2]
    · by_cases h2 : k = j
      · subst h2; exact ⟨i, hi, by simp⟩
      · exact ⟨k, hk, by simp [h1, h2]⟩
  inj a b ha hb he := by
    have key := fun x y (hx : x < n) (hy : y < n) (e : f x = f y) => h.inj x y hx hy e
    unfold swA at he
    repeat' split at he
    all_goals first
      | (have := key _ _ ‹_› ‹_› he; omega)
      | (have := key _ _ hi hj he; omega)
      | (have := key _ _ hj hi he; omega)
      | (have := key _ _ hi hb he; omega)
      | (have := key _ _ hj hb he; omega)
      | (have := key _ _ ha hi he; omega)
      | (have := key _ _ ha hj he; omega)
      | (have := key _ _ ha hb he; omega)
      | omega
theorem Cont.congr {n : Nat} {f g : Nat → α} {S : α → Prop} (h : Cont n f S) (e : ∀ i, i < n → g i = f i) : Cont n g S where
  mem i hi := by rw [e i hi]; exact h.mem i hi
  all c hc := by
    obtain ⟨i, hi, rfl⟩ := h.all c hc
    exact ⟨i, hi, e i hi⟩
  inj i j hi hj he := h.inj i j hi hj (by rw [← e i hi, ← e j hj]; exact he)
theorem Cont.push {n : Nat} {f : Nat → α} {S : α → Prop} (h : Cont n f S) {x : α} (hx : ¬ S x) : Cont (n + 1) (fun i => if i = n then x else f i) (fun c => c = x ∨ S c) where
  mem i hi := by
    by_cases e : i = n
    · simp [e]
    · simp only [e, if_false]
      exact .inr (h.mem i (by omega))
  all c hc := by
    rcases hc with rfl | hc
    · exact ⟨n, by omega, by simp⟩
    · obtain ⟨i, hi, rfl⟩ := h.all c hc
      exact ⟨i, by omega, by simp [show i ≠ n by omega]⟩
  inj i j hi hj he := by
    by_cases e1 : i = n <;> by_cases e2 : j = n <;> simp only [e1, e2, if_true, if_false] at he
    · omega
    · exact absurd (he ▸ h.mem j (by omega)) hx
    · exact absurd (he ▸ h.mem i (by omega)) hx
    · exact h.inj i j (by omega) (by omega) he
def par (i : Nat) : Nat := (i - 1) / 2
theorem par_lt {i : Nat} (h : 0 < i) : par i < i := by unfold par; omega
def Heap (lt : α → α → Bool) (n : Nat) (f : Nat → α) : Prop := ∀ i, 0 < i → i < n → lt (f i) (f (par i)) = false
structure Up (lt : α → α → Bool) (n : Nat) (f : Nat → α) (j : Nat) : Prop where
  a : ∀ i, 0 < i → i < n → i ≠ j → lt (f i) (f (par i)) = false
  b : ∀ i, 0 < i → i < n → par i = j → 0 < j → lt (f i) (f (par j)) = false
structure Dn (lt : α → α → Bool) (n : Nat) (f : Nat → α) (j : Nat) : Prop where
  a : ∀ i, 0 < i → i < n → par i ≠ j → lt (f i) (f (par i)) = false
  b : ∀ i, 0 < i → i < n → par i = j → 0 < j → lt (f i) (f (par j)) = false
theorem Up.start {n : Nat} {f : Nat → α} (h : Heap lt n f) (x : α) : Up lt (n + 1) (fun i => if i = n then x else f i) n where
  a i h0 hi hne := by
    have hp := par_lt h0
    simp only [hne, if_false, show par i ≠ n by omega]
    exact h i h0 (by omega)
  b i h0 hi he hn := by
    have hp := par_lt h0
    omega
theorem Up.stop {n : Nat} {f : Nat → α} {j : Nat} (h : Up lt n f j) (hs : j = 0 ∨ lt (f j) (f (par j)) = false) : Heap lt n f := by
  intro i h0 hi
  by_cases e : i = j
  · subst e
    rcases hs with hs | hs
    · omega
    · exact hs
  · exact h.a i h0 hi e
theorem Up.step {S : α → Prop} (ho : Ord lt S) {n : Nat} {f : Nat → α} {j : Nat} (h : Up lt n f j) (hc : ∀ i, i < n → S (f i)) (h0 : 0 < j) (hj : j < n) (hs : lt (f j) (f (par j)) = true) : Up lt n (swA f j (par j)) (par j) := by
  have hpj := par_lt h0
  have has := ho.asym _ _ (hc j hj) (hc (par j) (by omega)) hs
  constructor
  · intro i i0 hi hne
    have hp := par_lt i0
    unfold swA
    by_cases e : i = j
    · subst e
      simp only [if_true, if_neg (show par i ≠ i by omega)]
      exact has
    · by_cases e2 : par i = j
      · simp only [e, if_false, hne, e2, if_true]
        exact h.b i i0 hi e2 h0
      · by_cases e3 : par i = par j
        · simp only [e, if_false, hne, e2, e3, if_true, if_neg (show par j ≠ j by omega)]
          have h1 := h.a i i0 hi e
          rw [e3] at h1
          exact ho.tr _ _ _ (hc j hj) (hc (par j) (by omega)) (hc i hi) has h1
        · simp only [e, if_false, hne, e2, e3]
          exact h.a i i0 hi e
  · intro i i0 hi he hp0
    have hp := par_lt hp0
    unfold swA
    rw [if_neg (show par (par j) ≠ j by omega), if_neg (show par (par j) ≠ par j by omega)]
    have h1 := h.a (par j) hp0 (by omega) (by omega)
    by_cases e : i = j
    · rw [if_pos e]; exact h1
    · rw [if_neg e]
      have hpi := par_lt i0
      rw [if_neg (show i ≠ par j by omega)]
      have h2 := h.a i i0 hi e
      rw [he] at h2
      exact ho.tr _ _ _ (hc _ (by omega)) (hc (par j) (by omega)) (hc i hi) h1 h2
theorem Dn.start {n : Nat} {f : Nat → α} (h : Heap lt (n + 1) f) (x : α) : Dn lt n (fun i => if i = 0 then x else f i) 0 where
  a i h0 hi hne := by
    simp only [show i ≠ 0 by omega, if_false, hne]
    exact h i h0 (by omega)
  b i h0 hi he hn := by omega
theorem Dn.stop {S : α → Prop} (ho : Ord lt S) {n : Nat} {f : Nat → α} {j : Nat} (h : Dn lt n f j) (hc : ∀ i, i < n → S (f i)) (hj : j < n) (hs : n ≤ 2 * j + 1 ∨ ∃ k, k < n ∧ par k = j ∧ 0 < k ∧ (∀ i, 0 < i → i < n → par i = j → lt (f i) (f k) = false) ∧ lt (f k) (f j) = false) : Heap lt n f := by
  intro i h0 hi
  by_cases e : par i = j
  · rcases hs with hs | ⟨k, hk, hpk, hk0, hm, hl⟩
    · unfold par at e; omega
    · rw [e]
      exact ho.tr _ _ _ (hc j hj) (hc k hk) (hc i hi) hl (hm i h0 hi e)
  · exact h.a i h0 hi e
theorem Dn.step {S : α → Prop} (ho : Ord lt S) {n : Nat} {f : Nat → α} {j k : Nat} (h : Dn lt n f j) (hc : ∀ i, i < n → S (f i)) (hk : k < n) (hpk : par k = j) (hk0 : 0 < k) (hm : ∀ i, 0 < i → i < n → par i = j → lt (f i) (f k) = false) (hs : lt (f k) (f j) = true) : Dn lt n (swA f j k) k := by
  have hkj := par_lt hk0
  have has := ho.asym _ _ (hc k hk) (hc j (by omega)) hs
  constructor
  · intro i i0 hi hne
    have hp := par_lt i0
    unfold swA
    by_cases e1 : i = k
    · subst e1
      rw [if_neg (show i ≠ j by omega), if_pos rfl, if_pos hpk]
      exact has
    · by_cases e2 : i = j
      · subst e2
        rw [if_pos rfl, if_neg (show par i ≠ i by omega), if_neg hne]
        exact h.b k hk0 hk hpk i0
      · rw [if_neg e2, if_neg e1]
        by_cases e3 : par i = j
        · rw [if_pos e3]
          exact hm i i0 hi e3
        · rw [if_neg e3, if_neg hne]
          exact h.a i i0 hi e3
  · intro i i0 hi he _
    have hp := par_lt i0
    unfold swA
    rw [if_neg (show i ≠ j by omega), if_neg (show i ≠ k by omega), hpk, if_pos rfl]
    have := h.a i i0 hi (by omega)
    rwa [he] at this
theorem Dn.nil {n : Nat} {f : Nat → α} (h : n = 0) : Heap lt n f := fun i h0 hi => by omega
end
end Go.Proofs.Ytjnopnlgcmlkfaa.G

namespace Go.Proofs.Ytjnopnlgcmlkfaa.G
open Go.BX
set_option linter.unusedSimpArgs false
set_option linter.unusedVariables false
structure Cur where
  r : Nat
  a : Nat
def encC (vs : Nat → AV) (c : Cur) : List AV := [vs c.r, .int .i64 (c.a : Int), .int .i64 (c.r : Int)]
def ky (xs : Nat → List Pr) (c : Cur) : Bytes := (fnOf (xs c.r) c.a).key
def ltC (xs : Nat → List Pr) (c d : Cur) : Bool := lessB (ky xs c) (ky xs d) || (ky xs c == ky xs d && decide (c.r < d.r))
theorem ltC_false {xs : Nat → List Pr} {c d : Cur} : ltC xs c d = false ↔ lessB (ky xs c) (ky xs d) = false ∧ (ky xs c = ky xs d → d.r ≤ c.r) := by
  unfold ltC
  rw [Bool.or_eq_false_iff]
  refine and_congr_right fun _ => ?_
  cases h : (ky xs c == ky xs d) with
  | true =>
    have : ky xs c = ky xs d := by simpa using h
    simp [this]
  | false =>
    have : ky xs c ≠ ky xs d := by simpa using h
    simp [this]
def RC (vs : Nat → AV) (N : Nat) (f : Nat → Cur) : List (List AV) := (List.range N).map fun i => encC vs (f i)
def HL (vs : Nat → AV) (hb nx : Nat) (A : Nat → Blk) (n : Nat) (f : Nat → Cur) : Prop :=
  hb < nx ∧ ((A hb = .cells 88 2 [[.nilS, .fn 46 [] []]] ∧ n = 0) ∨
    ∃ g N, A hb = .cells 88 2 [[.slc g 3 0 n, .fn 46 [] []]] ∧ hb < g ∧ g < nx ∧ n ≤ N ∧ A g = .cells 84 3 (RC vs N f))
theorem HL.keep {vs : Nat → AV} {hb nx nx' : Nat} {A A' : Nat → Blk} {n : Nat} {f : Nat → Cur} (h : HL vs hb nx A n f) (hn : nx ≤ nx') (hk : ∀ g, hb ≤ g → g < nx → A' g = A g) : HL vs hb nx' A' n f := by
  obtain ⟨h1, h2⟩ := h
  refine ⟨by omega, ?_⟩
  rcases h2 with ⟨h2, h3⟩ | ⟨g, N, h2, h3, h4, h5, h6⟩
  · exact .inl ⟨by rw [hk hb (Nat.le_refl _) h1]; exact h2, h3⟩
  · exact .inr ⟨g, N, by rw [hk hb (Nat.le_refl _) h1]; exact h2, h3, by omega, h5, by rw [hk g (by omega) h4]; exact h6⟩
section
variable {fn : FuncId} {T : Nat → AV} {ds : List ADef} {ro : Option Nat} {k : List AItem} {Q : AV → AHeap → Prop} {dst : Option Nat} {os : List AO}
end
end Go.Proofs.Ytjnopnlgcmlkfaa.G

namespace Go.Proofs.Ytjnopnlgcmlkfaa.G
open Go.BX
set_option linter.unusedSimpArgs false
set_option linter.unusedVariables false
section
variable {fn : FuncId} {T : Nat → AV} {ds : List ADef} {ro : Option Nat} {k : List AItem} {Q : AV → AHeap → Prop} {dst : Option Nat} {os : List AO}
end
end Go.Proofs.Ytjnopnlgcmlkfaa.G

namespace Go.Proofs.Ytjnopnlgcmlkfaa.G
open Go.BX
set_option linter.unusedSimpArgs false
set_option linter.unusedVariables false
def rest (xs : Nat → List Pr) (R : Nat) (pos : Nat → Nat) : List Pr := (List.range R).flatMap fun r => (xs r).drop (pos r)
def Sp (xs : Nat → List Pr) (R : Nat) (pos : Nat → Nat) (c : Cur) : Prop := c.r < R ∧ c.a = pos c.r ∧ c.a < (xs c.r).length
def adv (pos : Nat → Nat) (r : Nat) : Nat → Nat := fun i => if i = r then pos r + 1 else pos i
theorem ofKey_flat (κ : Bytes) (f : Nat → List Pr) : ∀ l : List Nat, ofKey κ (l.flatMap f) = l.flatMap fun r => ofKey κ (f r)
  | [] => rfl
  | x :: l => by
    rw [List.flatMap_cons, List.flatMap_cons, ofKey_app, ofKey_flat κ f l]
theorem flat_split {R r0 : Nat} (h : r0 < R) (f : Nat → List Pr) : (List.range R).flatMap f = (List.range r0).flatMap f ++ (f r0 ++ ((List.range (R - r0 - 1)).map (fun i => r0 + 1 + i)).flatMap f) := by
  have e : R = (r0 + 1) + (R - r0 - 1) := by omega
  conv => lhs; rw [e, List.range_add, List.range_succ]
  rw [List.flatMap_append, List.flatMap_append]
  simp
theorem flat_nil {f : Nat → List Pr} {l : List Nat} (h : ∀ r, r ∈ l → f r = []) : l.flatMap f = [] := by
  rw [List.flatMap_eq_nil_iff]
  exact h
theorem flat_congr {f g : Nat → List Pr} {l : List Nat} (h : ∀ r, r ∈ l → f r = g r) : l.flatMap f = l.flatMap g := by
  induction l with
  | nil => rfl
  | cons x l ih =>
    rw [List.flatMap_cons, List.flatMap_cons, h x (by simp), ih (fun r hr => h r (by simp [hr]))]
theorem mem_of_sort {l m : List Pr} (h : IsSort l m) {p : Pr} (hp : p ∈ m) : p ∈ l := by
  have : p ∈ ofKey p.key m := mem_ofKey.mpr hp
  rw [h.keys] at this
  exact mem_ofKey.mp this
theorem ky_eq {xs : Nat → List Pr} {c : Cur} (h : c.a < (xs c.r).length) : ky xs c = ((xs c.r)[c.a]).key := by
  unfold ky; rw [fnOf_get h]
theorem sorted_ge {l : List Pr} (hs : l.Pairwise fun p q => ltP q p = false) {a : Nat} (h : a < l.length) {q : Pr} (hq : q ∈ l.drop a) : lessB q.key (l[a]).key = false := by
  obtain ⟨i, hi, rfl⟩ := List.getElem_of_mem hq
  rw [List.length_drop] at hi
  rw [List.getElem_drop]
  by_cases e : i = 0
  · subst e
    exact bl_irr _
  · exact List.pairwise_iff_getElem.mp hs a (a + i) h (by omega) (by omega)
theorem pick {xs : Nat → List Pr} {R : Nat} {pos : Nat → Nat} {x : Cur} {m : List Pr} (hs : ∀ r, r < R → (xs r).Pairwise fun p q => ltP q p = false) (hx : Sp xs R pos x) (hmin : ∀ c, Sp xs R pos c → ltC xs c x = false) (hm : IsSort (rest xs R pos) m) (hlen : (rest xs R pos).length ≤ 100000) :
    ∃ m', m = (xs x.r)[x.a]'hx.2.2 :: m' ∧ IsSort (rest xs R (adv pos x.r)) m' := by
  obtain ⟨hxR, hxa, hxl⟩ := hx
  generalize hp : (xs x.r)[x.a] = p
  have hkx : ky xs x = p.key := by rw [ky_eq hxl, hp]
  have hge : ∀ r, r < R → ∀ q, q ∈ (xs r).drop (pos r) → lessB q.key p.key = false ∧ (r < x.r → q.key ≠ p.key) := by
    intro r hr q hq
    have hl : pos r < (xs r).length := by
      rw [← Decidable.not_not (p := pos r < (xs r).length)]
      intro h
      rw [List.drop_of_length_le (by omega)] at hq
      cases hq
    have hc := hmin ⟨r, pos r⟩ ⟨hr, rfl, hl⟩
    rw [ltC_false, hkx, ky_eq (c := ⟨r, pos r⟩) hl] at hc
    have hq' := sorted_ge (hs r hr) hl hq
    refine ⟨bl_le hc.1 hq', fun hlt e => ?_⟩
    have e2 : ((xs r)[pos r]).key = p.key := by
      refine bl_tot _ _ hc.1 ?_
      rw [← e]; exact hq'
    have := hc.2 e2
    simp only at this
    omega
  have hd : (xs x.r).drop (pos x.r) = p :: (xs x.r).drop (pos x.r + 1) := by
    subst hp
    rw [← hxa]
    exact List.drop_eq_getElem_cons hxl
  have hadv : ∀ r, r ≠ x.r → adv pos x.r r = pos r := fun r hr => by unfold adv; rw [if_neg hr]
  have hadv' : adv pos x.r x.r = pos x.r + 1 := by unfold adv; rw [if_pos rfl]
  have hlen' : (rest xs R pos).length = (rest xs R (adv pos x.r)).length + 1 := by
    unfold rest
    rw [flat_split hxR, flat_split hxR (fun r => (xs r).drop (adv pos x.r r))]
    rw [flat_congr (f := fun r => (xs r).drop (adv pos x.r r)) (g := fun r => (xs r).drop (pos r)) (l := List.range x.r) (fun r hr => by rw [hadv r (by have := List.mem_range.mp hr; omega)])]
    rw [flat_congr (f := fun r => (xs r).drop (adv pos x.r r)) (g := fun r => (xs r).drop (pos r)) (l := (List.range (R - x.r - 1)).map _) (fun r hr => by
      obtain ⟨i, _, rfl⟩ := List.mem_map.mp hr
      rw [hadv _ (by omega)])]
    simp only [hadv', hd, List.length_append, List.length_cons]
    omega
  obtain ⟨m', w, hm', _, _⟩ := RefSort_ok (l := rest xs R (adv pos x.r)) (.inr (.inr rfl)) (by omega)
  refine ⟨m', ?_, hm'⟩
  refine hm.uniq ⟨fun κ => ?_, ?_, ?_⟩
  · rw [show p :: m' = [p] ++ m' from rfl, ofKey_app, hm'.keys]
    unfold rest
    rw [ofKey_flat, ofKey_flat, flat_split hxR, flat_split hxR (fun r => ofKey κ ((xs r).drop (pos r)))]
    rw [flat_congr (f := fun r => ofKey κ ((xs r).drop (adv pos x.r r))) (g := fun r => ofKey κ ((xs r).drop (pos r))) (l := List.range x.r) (fun r hr => by rw [hadv r (by have := List.mem_range.mp hr; omega)])]
    rw [flat_congr (f := fun r => ofKey κ ((xs r).drop (adv pos x.r r))) (g := fun r => ofKey κ ((xs r).drop (pos r))) (l := (List.range (R - x.r - 1)).map _) (fun r hr => by
      obtain ⟨i, _, rfl⟩ := List.mem_map.mp hr
      rw [hadv _ (by omega)])]
    simp only [hadv', hd]
    rw [show p :: (xs x.r).drop (pos x.r + 1) = [p] ++ (xs x.r).drop (pos x.r + 1) from rfl, ofKey_app]
    by_cases e : p.key = κ
    · have : (List.range x.r).flatMap (fun r => ofKey κ ((xs r).drop (pos r))) = [] := by
        refine flat_nil fun r hr => ofKey_none fun q hq e2 => ?_
        have hr' := List.mem_range.mp hr
        exact (hge r (by omega) q hq).2 hr' (e2.trans e.symm)
      rw [this]
      simp
    · have : ofKey κ [p] = [] := ofKey_none fun q hq e2 => by
        simp only [List.mem_singleton] at hq
        subst hq; exact e e2
      rw [this]
      simp
  · refine List.pairwise_cons.mpr ⟨fun q hq => ?_, hm'.ord⟩
    have hq' := mem_of_sort hm' hq
    unfold rest at hq'
    obtain ⟨r, hr, hqr⟩ := List.mem_flatMap.mp hq'
    have hr' := List.mem_range.mp hr
    by_cases e : r = x.r
    · subst e
      rw [hadv'] at hqr
      exact (hge _ hr' q (by rw [hd]; exact List.mem_cons_of_mem _ hqr)).1
    · rw [hadv r e] at hqr
      exact (hge r hr' q hqr).1
  · rw [List.length_cons, hm'.len, hlen']
end Go.Proofs.Ytjnopnlgcmlkfaa.G

namespace Go.Proofs.Ytjnopnlgcmlkfaa.G
open Go.BX
set_option linter.unusedSimpArgs false
set_option linter.unusedVariables false
structure RunsIn (hb : Nat) (A : Nat → Blk) (rv : AV) (R : Nat) (vs : Nat → AV) (xs : Nat → List Pr) : Prop where
  rows : (rv = .nilS ∧ R = 0) ∨ rv = .vec 1 ((List.range R).map fun r => [vs r]) ∨ ∃ g, rv = .slc g 1 0 R ∧ g < hb ∧ A g = .cells 22 1 ((List.range R).map fun r => [vs r])
  vals : ∀ r, r < R → RV hb A (vs r) (xs r)
  srt : ∀ r, r < R → (xs r).Pairwise fun p q => ltP q p = false
  len : ∀ r, r < R → (xs r).length ≤ 10000
  few : R ≤ 1000
  tot : (rest xs R (fun _ => 0)).length ≤ 100000
section
variable {hb R : Nat} {vs : Nat → AV} {xs : Nat → List Pr} {Q : AV → AHeap → Prop} {l : Nat} {L : ALoop} {I : List Pr → Nat → (Nat → Blk) → Prop} {Stp : Nat → (Nat → Blk) → Prop} {m : List Pr}
end
end Go.Proofs.Ytjnopnlgcmlkfaa.G

namespace Go.Proofs.Ytjnopnlgcmlkfaa.G
open Go.BX
set_option linter.unusedSimpArgs false
set_option linter.unusedVariables false
section
variable {hb R : Nat} {vs : Nat → AV} {xs : Nat → List Pr} {Q : AV → AHeap → Prop} {l : Nat} {L : ALoop} {I : List Pr → Nat → (Nat → Blk) → Prop} {Stp : Nat → (Nat → Blk) → Prop} {m : List Pr}
end
end Go.Proofs.Ytjnopnlgcmlkfaa.G

namespace Go.Proofs.Ytjnopnlgcmlkfaa.G
open Go.BX
set_option linter.unusedSimpArgs false
set_option linter.unusedVariables false
def isOrd (l : List Pr) : Bool := decide (l.Pairwise fun p q => ltP q p = false)
theorem Ordered_ok' {v : AV} {l : List Pr} (hv : InE v l) (hl : l.length ≤ 1000000) : PCall Cx 21 [v] (.bool (isOrd l)) := by
  obtain ⟨b, hb, hb'⟩ := Ordered_ok hv hl
  have : b = isOrd l := by
    unfold isOrd
    rw [Bool.eq_iff_iff, decide_eq_true_eq]
    exact hb'
  rw [← this]; exact hb
section
variable {fn : FuncId} {T : Nat → AV} {ds : List ADef} {ro : Option Nat} {k : List AItem} {Q : AV → AHeap → Prop} {dst : Option Nat} {os : List AO} {H : AHeap}
end
end Go.Proofs.Ytjnopnlgcmlkfaa.G

namespace Go.Proofs.Ytjnopnlgcmlkfaa.G
open Go.BX
set_option linter.unusedSimpArgs false
set_option linter.unusedVariables false
def vsO (ys : List (AV × List Pr)) (r : Nat) : AV := (ys.getD r (.nilS, [])).1
def xsO (ys : List (AV × List Pr)) (r : Nat) : List Pr := (ys.getD r (.nilS, [])).2
theorem vsO_get {ys : List (AV × List Pr)} {r : Nat} (h : r < ys.length) : vsO ys r = (ys[r]).1 ∧ xsO ys r = (ys[r]).2 := by
  unfold vsO xsO
  simp [List.getD, List.getElem?_eq_getElem h]
theorem restO (ys : List (AV × List Pr)) : rest (xsO ys) ys.length (fun _ => 0) = ys.flatMap (·.2) := by
  unfold rest
  simp only [List.drop_zero]
  have : ys.map (·.2) = (List.range ys.length).map (xsO ys) := by
    apply List.ext_getElem?
    intro i
    by_cases h : i < ys.length
    · rw [List.getElem?_map, List.getElem?_eq_getElem h, List.getElem?_map, List.getElem?_range h]
      simp [(vsO_get h).2]
    · rw [List.getElem?_eq_none (by simpa using h), List.getElem?_eq_none (by simpa using h)]
  rw [List.flatMap_def, List.flatMap_def, this]
end Go.Proofs.Ytjnopnlgcmlkfaa.G

namespace Go.Proofs.Ytjnopnlgcmlkfaa.G
open Go.BX
set_option linter.unusedSimpArgs false
set_option linter.unusedVariables false
abbrev fstP (p : Pr) : Vl := ⟨p.k, p.n, p.s, p.x, p.y⟩
abbrev setP (p : Pr) (v : Vl) : Pr := ⟨p.key, v.k, v.n, v.s, v.x, v.y⟩
def goF (w : Bytes) : List Pr → Pr → List Pr → Except Int (List Pr)
  | done, cur, [] => .ok (done ++ [cur])
  | done, cur, p :: r =>
    if p.key = cur.key then (if (foldR w (fstP cur) (fstP p)).2 = 0 then goF w done (setP cur (foldR w (fstP cur) (fstP p)).1) r else .error (foldR w (fstP cur) (fstP p)).2)
    else goF w (done ++ [cur]) p r
def foldL (w : Bytes) : List Pr → Except Int (List Pr)
  | [] => .ok []
  | p :: r => goF w [] p r
def toAF : Except Int (List Pr) → AV
  | .ok [] => .tuple [.nilS, .int .i64 0]
  | .ok (p :: r) => .tuple [.vec 6 ((p :: r).map encP), .int .i64 0]
  | .error e => .tuple [.nilS, .int .i64 e]
theorem toAF_ne {l : List Pr} (h : l ≠ []) : toAF (.ok l) = .tuple [.vec 6 (l.map encP), .int .i64 0] := by
  cases l with
  | nil => exact absurd rfl h
  | cons p r => rfl
theorem frz_rows {n g : Nat} {A : Nat → Blk} {es : List Pr} (hA : A g = .cells 47 6 (es.map encP)) : freeze2 ⟨n, A⟩ (.slc g 6 0 es.length) = some (.vec 6 (es.map encP)) := by
  rw [freeze2_slc]
  have he : elems ⟨n, A⟩ 6 (.slc g 6 0 es.length) = some (es.map encP) := by
    unfold elems
    simp only [hA]
    rw [if_pos ⟨trivial, trivial, by simp⟩, List.drop_zero, List.take_of_length_le (by simp)]
  rw [he, frzE_some]
  have : ∀ l : List Pr, mapO (mapO (freeze1 ⟨n, A⟩ 3)) (l.map encP) = some (l.map encP) := by
    intro l
    induction l with
    | nil => rfl
    | cons p l ih =>
      rw [List.map_cons, mapO_cons, ih]
      have : mapO (freeze1 ⟨n, A⟩ 3) (encP p) = some (encP p) := mapO_all (p := AV.flat1) (fun v hv => freeze1_flat hv) rfl
      rw [this]; rfl
  rw [this]; rfl
end Go.Proofs.Ytjnopnlgcmlkfaa.G

namespace Go.Proofs.Ytjnopnlgcmlkfaa.G
open Go.BX
set_option linter.unusedSimpArgs false
set_option linter.unusedVariables false
def fvs (w : Bytes) (v : Vl) : List Pr → Except Int Vl
  | [] => .ok v
  | p :: r => if (foldR w v (fstP p)).2 = 0 then fvs w (foldR w v (fstP p)).1 r else .error (foldR w v (fstP p)).2
def goG (w : Bytes) (done : List Pr) : List Pr → Except Int (List Pr)
  | [] => .ok done
  | p :: r => goF w done p r
theorem foldL_goG (w : Bytes) (l : List Pr) : foldL w l = goG w [] l := by
  cases l <;> rfl
theorem goF_group (w : Bytes) (done : List Pr) : ∀ (qs rest : List Pr) (p : Pr), (∀ q, q ∈ qs → q.key = p.key) → (∀ q r, rest = q :: r → q.key ≠ p.key) →
    goF w done p (qs ++ rest) = match fvs w (fstP p) qs with
      | .error e => .error e
      | .ok v => goG w (done ++ [setP p v]) rest
  | [], rest, p, h1, h2 => by
    show goF w done p rest = goG w (done ++ [setP p (fstP p)]) rest
    cases rest with
    | nil => rfl
    | cons q r =>
      show (if q.key = p.key then _ else _) = _
      rw [if_neg (h2 q r rfl)]
      rfl
  | q :: qs, rest, p, h1, h2 => by
    show (if q.key = p.key then _ else _) = _
    rw [if_pos (h1 q (by simp))]
    by_cases he : (foldR w (fstP p) (fstP q)).2 = 0
    · rw [if_pos he]
      have := goF_group w done qs rest (setP p (foldR w (fstP p) (fstP q)).1) (fun x hx => h1 x (by simp [hx])) h2
      show goF w done (setP p _) (qs ++ rest) = _
      rw [this]
      show _ = match (if (foldR w (fstP p) (fstP q)).2 = 0 then fvs w _ qs else _) with | .error e => _ | .ok v => _
      rw [if_pos he]
    · rw [if_neg he]
      show _ = match (if (foldR w (fstP p) (fstP q)).2 = 0 then fvs w _ qs else _) with | .error e => _ | .ok v => _
      rw [if_neg he]
abbrev encVl (v : Vl) : List AV := [.int .i64 v.k, .int .i64 v.n, .str v.s, .int .i64 v.x, .int .i64 v.y]
def sL (T : Nat → AV) : ALoop := { state := .ready, pending := none, fn := 8, T := T, params := [19, 20], assign := c8_17, body := c8_20, defers := 5 }
structure SFT (T : Nat → AV) : Prop where
  t3 : T 3 = .ptr 0 1 0 0
  t4 : T 4 = .ptr 1 1 0 0
  t5 : T 5 = .ptr 2 1 0 0
  t6 : T 6 = .ptr 3 1 0 0
structure SFH (w : Bytes) (e : Int) (d : AV) (H : AHeap) (L : ALoop) : Prop where
  h0 : H.at_ 0 = .cells 9 1 [[.str w]]
  h1 : H.at_ 1 = .cells 22 1 [[.nilS]]
  h2 : H.at_ 2 = .cells 27 1 [[.int .i64 e]]
  h3 : H.at_ 3 = .cells 22 1 [[d]]
  h5 : H.at_ 5 = .dfr
  h6 : H.at_ 6 = .loop L
  hn : 7 ≤ H.next
abbrev encVp (p : Pr) : List AV := [.int .i64 p.k, .int .i64 p.n, .str p.s, .int .i64 p.x, .int .i64 p.y]
theorem encVp_get {l : List Pr} {i : Nat} (h : i < l.length) : (l.map encVp)[i]? = some [.int .i64 (l[i]).k, .int .i64 (l[i]).n, .str (l[i]).s, .int .i64 (l[i]).x, .int .i64 (l[i]).y] := by
  rw [List.getElem?_map, List.getElem?_eq_getElem h]; rfl
theorem SFH.up {w : Bytes} {e : Int} {d : AV} {H H' : AHeap} {L : ALoop} (h : SFH w e d H L) (hk : ∀ b, b < 7 → H'.at_ b = H.at_ b) (hn : H.next ≤ H'.next) : SFH w e d H' L := by
  obtain ⟨h0, h1, h2, h3, h5, h6, hx⟩ := h
  refine ⟨?_, ?_, ?_, ?_, ?_, ?_, by omega⟩ <;> rw [hk _ (by omega)] <;> assumption
theorem sf_in {w : Bytes} {d : AV} {L : ALoop} {g hv next0 : Nat} {κ : Bytes} {A0 : Nat → Blk} {vs : List Pr} {R : Except Int Vl} {Q : AV → AHeap → Prop} (hn1 : vs.length ≤ 100000) (hg7 : 7 ≤ g) (hv7 : 7 ≤ hv) (hgv : g ≠ hv) (hgn : g < next0) (hvn : hv < next0)
    (hAg : A0 g = .cells 45 5 (vs.map encVp))
    (hok : ∀ (T : Nat → AV) (H : AHeap) (v : Vl), R = .ok v → SFT T → SFH w 0 d H L → T 7 = .str κ → T 9 = .ptr hv 5 0 0 → H.at_ hv = .cells 45 5 [encVl v] → next0 ≤ H.next → (∀ b, 7 ≤ b → b < next0 → b ≠ hv → H.at_ b = A0 b) → Run Cx 8 T [] (some 6) [.code c8_50, .inBlock 1] H Q)
    (herr : ∀ (H : AHeap) (e : Int), R = .error e → e ≠ 0 → SFH w e d H { L with state := .done, pending := some .ret } → Q (.bool false) H) :
    ∀ (j i : Nat) (T : Nat → AV) (H : AHeap) (v : Vl), 1 + i + j = vs.length → fvs w v (vs.drop (1 + i)) = R → SFT T → SFH w 0 d H L → T 7 = .str κ → T 9 = .ptr hv 5 0 0 → H.at_ hv = .cells 45 5 [encVl v] → T 25 = .slc g 5 1 (vs.length - 1) → T 26 = .int .i64 ((vs.length - 1 : Nat) : Int) → T 27 = .int .i64 (i : Int) → next0 ≤ H.next → (∀ b, 7 ≤ b → b < next0 → b ≠ hv → H.at_ b = A0 b) →
      Run Cx 8 T [] (some 6) [.inLoop c8_28, .inBlock 2, .code c8_50, .inBlock 1] H Q
  | 0, i, T, H, v, hij, hR, hT, hh, t7, t9, hA, t25, t26, t27, hnx, hkp => by
    rw [run_inLoop]
    have c0 : ¬ (i : Int) < ((vs.length - 1 : Nat) : Int) := by omega
    rw [List.drop_of_length_le (by omega)] at hR
    obtain ⟨t3, t4, t5, t6⟩ := hT
    simp only [t26, t27, c0, xx, r8_0, r8_1, r8_2, r8_3, r8_4, r8_5, r8_6.1, r8_6.2.2.1, r8_6.2.2.2.1, r8_6.2.2.2.2, res8, tt, bb, bc, ↓bd, Nat.reduceEqDiff, Nat.reduceAdd, Nat.reduceMul, Nat.reduceLeDiff, Nat.reduceLT, ↓reduceIte, reduceCtorEq, Nat.reduceBeqDiff, Nat.reduceBneDiff, Int.reduceBNe, Int.reduceBEq, Int.reduceEq, Int.reduceLT, Int.reduceLE, Int.reduceAdd, Int.reduceSub, Int.reduceMul, Int.reduceNeg, List.reduceReplicate, Int.reduceToNat]
    refine hok _ H v hR.symm ⟨?_, ?_, ?_, ?_⟩ hh ?_ ?_ hA hnx hkp
    all_goals simp only [upd_app, t3, t4, t5, t6, t7, t9, Nat.reduceEqDiff, ↓reduceIte]
  | j + 1, i, T, H, v, hij, hR, hT, hh, t7, t9, hA, t25, t26, t27, hnx, hkp => by
    rw [run_inLoop]
    have hi : 1 + i < vs.length := by omega
    have c0 : (i : Int) < ((vs.length - 1 : Nat) : Int) := by omega
    have p0 : (0 : Int) ≤ (i : Int) := by omega
    have w1 : IntKind.i64.wrap ((i : Int) + 1) = ((i + 1 : Nat) : Int) := by rw [wr64 (by omega) (by omega)]; omega
    have hgA : H.at_ g = .cells 45 5 (vs.map encVp) := by rw [hkp g hg7 hgn hgv, hAg]
    have g0 := encVp_get hi
    have hd : vs.drop (1 + i) = vs[1 + i] :: vs.drop (1 + i + 1) := List.drop_eq_getElem_cons hi
    rw [hd] at hR
    generalize vs[1 + i] = p at g0 hR
    have hT' := hT
    obtain ⟨t3, t4, t5, t6⟩ := hT
    obtain ⟨h0, h1, h2, h3, h5, h6, hx⟩ := hh
    have hfo := jobFold_ok w v (fstP p)
    have hR' : (if (foldR w v (fstP p)).2 = 0 then fvs w (foldR w v (fstP p)).1 (vs.drop (1 + i + 1)) else .error (foldR w v (fstP p)).2) = R := hR
    generalize foldR w v (fstP p) = z at hfo hR'
    obtain ⟨v2, e⟩ := z
    simp only [valA, fstP] at hfo
    simp only [encVl] at hA
    have en : (H.next = g) = False := eq_false (by omega)
    have en1 : (g = H.next) = False := eq_false (by omega)
    have ev1 : (hv = H.next) = False := eq_false (by omega)
    have ev2 : (hv = H.next + 1) = False := eq_false (by omega)
    have ev3 : (H.next = hv) = False := eq_false (by omega)
    have ev4 : (H.next + 1 = hv) = False := eq_false (by omega)
    have ev5 : (H.next = H.next + 1) = False := eq_false (by omega)
    have z0 : (0 = H.next) = False := eq_false (by omega)
    have z01 : (0 = H.next + 1) = False := eq_false (by omega)
    have z1 : (1 = H.next) = False := eq_false (by omega)
    have z11 : (1 = H.next + 1) = False := eq_false (by omega)
    have z2 : (2 = H.next) = False := eq_false (by omega)
    have z21 : (2 = H.next + 1) = False := eq_false (by omega)
    by_cases he : e = 0
    · subst he
      rw [if_pos rfl] at hR'
      simp only [t3, t4, t5, t6, t7, t9, t25, t26, t27, h0, c0, p0, w1, hgA, hA, g0, en, en1, ev1, ev2, ev3, ev4, ev5, z0, z01, updS, bne_self_eq_false, lenOf, i64, Int.toNat_natCast, call_pure pure23 rfl hfo, xx, r8_0, r8_1, r8_2, r8_3, r8_4, r8_5, r8_6.1, r8_6.2.2.1, r8_6.2.2.2.1, r8_6.2.2.2.2, res8, tt, bb, bc, ↓bd, Nat.reduceEqDiff, Nat.reduceAdd, Nat.reduceMul, Nat.reduceLeDiff, Nat.reduceLT, ↓reduceIte, reduceCtorEq, Nat.reduceBeqDiff, Nat.reduceBneDiff, Int.reduceBNe, Int.reduceBEq, Int.reduceEq, Int.reduceLT, Int.reduceLE, Int.reduceAdd, Int.reduceSub, Int.reduceMul, Int.reduceNeg, List.reduceReplicate, Int.reduceToNat]
      refine sf_in hn1 hg7 hv7 hgv hgn hvn hAg hok herr j (i + 1) _ _ v2 (by omega) hR' ⟨?_, ?_, ?_, ?_⟩ (SFH.up (H := H) ⟨h0, h1, h2, h3, h5, h6, hx⟩ ?_ ?_) ?_ ?_ ?_ ?_ ?_ ?_ ?_ ?_
      · simp only [upd_app, t3, Nat.reduceEqDiff, ↓reduceIte]
      · simp only [upd_app, t4, Nat.reduceEqDiff, ↓reduceIte]
      · simp only [upd_app, t5, Nat.reduceEqDiff, ↓reduceIte]
      · simp only [upd_app, t6, Nat.reduceEqDiff, ↓reduceIte]
      · intro b hb
        simp only [upd_app]
        rw [if_neg (by omega), if_neg (by omega), if_neg (by omega)]
      · show H.next ≤ H.next + 1 + 1
        omega
      · simp only [upd_app, t7, Nat.reduceEqDiff, ↓reduceIte]
      · simp only [upd_app, t9, Nat.reduceEqDiff, ↓reduceIte]
      · simp only [upd_app, ↓reduceIte]
      · simp only [upd_app, t25, Nat.reduceEqDiff, ↓reduceIte]
      · simp only [upd_app, t26, Nat.reduceEqDiff, ↓reduceIte]
      · simp only [upd_app, Nat.reduceEqDiff, ↓reduceIte]
      · show next0 ≤ H.next + 1 + 1
        omega
      · intro b hb1 hb2 hb3
        simp only [upd_app]
        rw [if_neg hb3, if_neg (by omega), if_neg (by omega)]
        exact hkp b hb1 hb2 hb3
    · rw [if_neg he] at hR'
      have e5 : (e != 0) = true := by simpa using he
      simp only [t3, t4, t5, t6, t7, t9, t25, t26, t27, h0, h1, h2, c0, p0, w1, e5, hgA, hA, g0, en, en1, ev1, ev2, ev3, ev4, ev5, z0, z01, z1, z11, z2, z21, updS, lenOf, i64, Int.toNat_natCast, call_pure pure23 rfl hfo, xx, r8_0, r8_1, r8_2, r8_3, r8_4, r8_5.1, r8_5.2.1, r8_5.2.2.1, r8_5.2.2.2.1, r8_5.2.2.2.2.1, r8_5.2.2.2.2.2.2.1, r8_5.2.2.2.2.2.2.2, r8_6.1, r8_6.2.2.1, r8_6.2.2.2.1, r8_6.2.2.2.2, res8, tt, bb, bc, ↓bd, Nat.reduceEqDiff, Nat.reduceAdd, Nat.reduceMul, Nat.reduceLeDiff, Nat.reduceLT, ↓reduceIte, reduceCtorEq, Nat.reduceBeqDiff, Nat.reduceBneDiff, Int.reduceBNe, Int.reduceBEq, Int.reduceEq, Int.reduceLT, Int.reduceLE, Int.reduceAdd, Int.reduceSub, Int.reduceMul, Int.reduceNeg, List.reduceReplicate, Int.reduceToNat]
      unfold c8_46
      have n6 : (6 = H.next) = False := eq_false (by omega)
      have n61 : (6 = H.next + 1) = False := eq_false (by omega)
      rw [round_ret (L := L) (by simp only [upd_app, n6, n61, Nat.reduceEqDiff, ↓reduceIte]; exact h6)]
      refine herr _ e hR'.symm he ⟨?_, ?_, ?_, ?_, ?_, ?_, ?_⟩
      · simp only [AHeap.set, upd_app, z0, z01, Nat.reduceEqDiff, ↓reduceIte]; exact h0
      · simp only [AHeap.set, upd_app, z1, z11, Nat.reduceEqDiff, ↓reduceIte]
      · simp only [AHeap.set, upd_app, z2, z21, Nat.reduceEqDiff, ↓reduceIte]
      · simp only [AHeap.set, upd_app, show (3 = H.next) = False from eq_false (by omega), show (3 = H.next + 1) = False from eq_false (by omega), Nat.reduceEqDiff, ↓reduceIte]; exact h3
      · simp only [AHeap.set, upd_app, show (5 = H.next) = False from eq_false (by omega), show (5 = H.next + 1) = False from eq_false (by omega), Nat.reduceEqDiff, ↓reduceIte]; exact h5
      · simp only [AHeap.set, upd_app, ↓reduceIte]
      · show 7 ≤ H.next + 1 + 1
        omega
end Go.Proofs.Ytjnopnlgcmlkfaa.G

namespace Go.Proofs.Ytjnopnlgcmlkfaa.G
open Go.BX
set_option linter.unusedSimpArgs false
set_option linter.unusedVariables false
theorem sf_round {w : Bytes} {d : AV} {T0 : Nat → AV} {H : AHeap} {g : Nat} {κ : Bytes} {p0 : Pr} {ps done : List Pr} {Q : AV → AHeap → Prop} (hn1 : ps.length + 1 ≤ 100000) (hdl : done.length ≤ 100000) (hT : SFT T0) (hh : SFH w 0 d H (sL T0)) (hd : OwnK 7 47 6 d H.next H.at_ (done.map encP)) (hg7 : 7 ≤ g) (hgn : g < H.next) (hg : H.at_ g = .cells 45 5 ((p0 :: ps).map encVp)) (hκ : p0.key = κ)
    (hQ : ∀ (H' : AHeap) (d' : AV) (v : Vl), fvs w (fstP p0) ps = .ok v → SFH w 0 d' H' (sL T0) → OwnK 7 47 6 d' H'.next H'.at_ ((done ++ [setP p0 v]).map encP) → H.next ≤ H'.next → (∀ b, 7 ≤ b → b < H.next → (∀ m, d ≠ .slc b 6 0 m) → H'.at_ b = H.at_ b) → Q (.bool true) H')
    (hQ' : ∀ (H' : AHeap) (e : Int) (L : ALoop), fvs w (fstP p0) ps = .error e → e ≠ 0 → SFH w e d H' L → L.state = .done → L.pending = some .ret → Q (.bool false) H') :
    Run Cx 8 (foldPut T0 [19, 20] [.str κ, .slc g 5 0 (ps.length + 1)]) [] (some 6) [.code c8_17, .beginRound, .code c8_20] H Q := by
  have hT' := hT
  obtain ⟨t3, t4, t5, t6⟩ := hT
  obtain ⟨h0, h1, h2, h3, h5, h6, hx⟩ := hh
  simp only [foldPut, r8_0, r8_1, r8_2.1, r8_2.2.1, r8_2.2.2.1, r8_2.2.2.2.2.1, r8_2.2.2.2.2.2.1, r8_2.2.2.2.2.2.2.1, r8_2.2.2.2.2.2.2.2, r8_3, r8_4, r8_5, r8_6, res8, tt, bb, bc, ↓bd, Nat.reduceEqDiff, Nat.reduceAdd, Nat.reduceMul, Nat.reduceLeDiff, Nat.reduceLT, ↓reduceIte, reduceCtorEq, Nat.reduceBeqDiff, Nat.reduceBneDiff, Int.reduceBNe, Int.reduceBEq, Int.reduceEq, Int.reduceLT, Int.reduceLE, Int.reduceAdd, Int.reduceSub, Int.reduceMul, Int.reduceNeg, List.reduceReplicate, Int.reduceToNat]
  rw [run_begin h6 rfl]
  have g6 : (g = 6) = False := eq_false (by omega)
  have n6 : (H.next = 6) = False := eq_false (by omega)
  have m6 : (6 = H.next) = False := eq_false (by omega)
  have gn : (g = H.next) = False := eq_false (by omega)
  have c0 : (0 : Int) < ((ps.length + 1 : Nat) : Int) := by omega
  have g0 : ((p0 :: ps).map encVp)[0]? = some [.int .i64 p0.k, .int .i64 p0.n, .str p0.s, .int .i64 p0.x, .int .i64 p0.y] := rfl
  have c1 : (1 : Int) ≤ ((ps.length + 1 : Nat) : Int) := by omega
  simp only [AHeap.set, upd_app, g6, hg, c0, c1, g0, gn, updS, sliceA, bnds, bound, evo, Int.le_refl, Nat.zero_add, Int.toNat_zero, Int.reduceToNat, lenOf, i64, xx, r8_0, r8_1, r8_2, r8_3.1, r8_3.2.1, r8_3.2.2.1, r8_3.2.2.2.2.1, r8_3.2.2.2.2.2.1, r8_3.2.2.2.2.2.2.1, r8_3.2.2.2.2.2.2.2, r8_4, r8_5, r8_6.1, r8_6.2.2.1, r8_6.2.2.2.1, r8_6.2.2.2.2, res8, tt, bb, bc, ↓bd, Nat.reduceEqDiff, Nat.reduceAdd, Nat.reduceMul, Nat.reduceLeDiff, Nat.reduceLT, ↓reduceIte, reduceCtorEq, Nat.reduceBeqDiff, Nat.reduceBneDiff, Int.reduceBNe, Int.reduceBEq, Int.reduceEq, Int.reduceLT, Int.reduceLE, Int.reduceAdd, Int.reduceSub, Int.reduceMul, Int.reduceNeg, List.reduceReplicate, Int.reduceToNat]
  have hbusy : SFH w 0 d ⟨H.next + 1, upd (upd H.at_ 6 (.loop { sL T0 with state := .busy })) H.next (.cells 45 5 [[.int .i64 p0.k, .int .i64 p0.n, .str p0.s, .int .i64 p0.x, .int .i64 p0.y]])⟩ { sL T0 with state := .busy } := by
    refine ⟨?_, ?_, ?_, ?_, ?_, ?_, (by show 7 ≤ H.next + 1; omega)⟩
    · simp only [upd_app, show (0 = H.next) = False from eq_false (by omega), Nat.reduceEqDiff, ↓reduceIte]; exact h0
    · simp only [upd_app, show (1 = H.next) = False from eq_false (by omega), Nat.reduceEqDiff, ↓reduceIte]; exact h1
    · simp only [upd_app, show (2 = H.next) = False from eq_false (by omega), Nat.reduceEqDiff, ↓reduceIte]; exact h2
    · simp only [upd_app, show (3 = H.next) = False from eq_false (by omega), Nat.reduceEqDiff, ↓reduceIte]; exact h3
    · simp only [upd_app, show (5 = H.next) = False from eq_false (by omega), Nat.reduceEqDiff, ↓reduceIte]; exact h5
    · simp only [upd_app, m6, ↓reduceIte]
  refine sf_in (vs := p0 :: ps) (R := fvs w (fstP p0) ps) (d := d) (L := { sL T0 with state := .busy }) (g := g) (hv := H.next) (κ := κ) (next0 := H.next + 1) (A0 := upd (upd H.at_ 6 (.loop { sL T0 with state := .busy })) H.next (.cells 45 5 [[.int .i64 p0.k, .int .i64 p0.n, .str p0.s, .int .i64 p0.x, .int .i64 p0.y]])) hn1 hg7 (by omega) (by omega) (by omega) (by omega) ?_ ?_ ?_ ps.length 0 _ _ (fstP p0) (by rw [List.length_cons]; omega) rfl ⟨?_, ?_, ?_, ?_⟩ hbusy ?_ ?_ ?_ ?_ ?_ ?_ (Nat.le_refl _) (fun b _ _ _ => rfl)
  · simp only [upd_app, gn, g6, ↓reduceIte]; exact hg
  · intro T H2 v hR hT2 hh2 t7 t9 hA hnx hkp
    obtain ⟨s3, s4, s5, s6⟩ := hT2
    obtain ⟨k0, k1, k2, k3, k5, k6, kx⟩ := hh2
    have hd2 : OwnK 7 47 6 d H2.next H2.at_ (done.map encP) := by
      rcases hd with h | ⟨q, q1, q2, q3, q4⟩
      · exact .inl h
      · refine .inr ⟨q, q1, q2, by omega, ?_⟩
        rw [hkp q q2 (by omega) (by omega)]
        simp only [upd_app]
        rw [if_neg (by omega), if_neg (by omega)]
        exact q4
    have hcl : (done.map encP).length = done.length := List.length_map _
    obtain ⟨A', ha, ho, _, hk⟩ := hd2.app1s (row := [.str κ, .int .i64 v.k, .int .i64 v.n, .str v.s, .int .i64 v.x, .int .i64 v.y]) kx psl pti (by rw [hcl]; unfold most; omega) (by rw [hcl]; unfold most; omega)
    simp only [encVl] at hA
    have x3 : (3 = H2.next) = False := eq_false (by omega)
    have x9 : (H.next = H2.next) = False := eq_false (by omega)
    have keepc : ∀ c, c < 7 → A' c = H2.at_ c := by
      intro c hc
      refine hk c (by omega) ?_
      rintro m rfl
      rcases hd with ⟨h, _⟩ | ⟨q, q1, q2, _⟩
      · cases h
      · cases q1; omega
    have a3 : A' 3 = .cells 22 1 [[d]] := by rw [keepc 3 (by omega)]; exact k3
    simp only [s6, t7, t9, k3, hA, ha, a3, runVH_some, xx, r8_0, r8_1, r8_2, r8_3, r8_4, r8_5, r8_6, res8, tt, bb, bc, ↓bd, Nat.reduceEqDiff, Nat.reduceAdd, Nat.reduceMul, Nat.reduceLeDiff, Nat.reduceLT, ↓reduceIte, reduceCtorEq, Nat.reduceBeqDiff, Nat.reduceBneDiff, Int.reduceBNe, Int.reduceBEq, Int.reduceEq, Int.reduceLT, Int.reduceLE, Int.reduceAdd, Int.reduceSub, Int.reduceMul, Int.reduceNeg, List.reduceReplicate, Int.reduceToNat]
    rw [round_nil (L := { sL T0 with state := .busy }) (by simp only [upd_app, Nat.reduceEqDiff, ↓reduceIte]; rw [keepc 6 (by omega)]; exact k6)]
    have hrow : done.map encP ++ [[AV.str κ, .int .i64 v.k, .int .i64 v.n, .str v.s, .int .i64 v.x, .int .i64 v.y]] = (done ++ [setP p0 v]).map encP := by
      rw [List.map_append, ← hκ]; rfl
    rw [hrow] at ho
    refine hQ _ (.slc (H2.next + 1) 6 0 ((done.map encP).length + 1)) v hR ⟨?_, ?_, ?_, ?_, ?_, ?_, ?_⟩ ?_ ?_ ?_
    · simp only [AHeap.set, upd_app, Nat.reduceEqDiff, ↓reduceIte]; rw [keepc 0 (by omega)]; exact k0
    · simp only [AHeap.set, upd_app, Nat.reduceEqDiff, ↓reduceIte]; rw [keepc 1 (by omega)]; exact k1
    · simp only [AHeap.set, upd_app, Nat.reduceEqDiff, ↓reduceIte]; rw [keepc 2 (by omega)]; exact k2
    · simp only [AHeap.set, upd_app, Nat.reduceEqDiff, ↓reduceIte]
    · simp only [AHeap.set, upd_app, Nat.reduceEqDiff, ↓reduceIte]; rw [keepc 5 (by omega)]; exact k5
    · simp only [AHeap.set, upd_app, ↓reduceIte]; rfl
    · show 7 ≤ H2.next + 1 + 1; omega
    · refine ho.keep (Nat.le_refl _) ?_
      intro q hq hq2
      show upd (upd A' 3 _) 6 _ q = _
      rw [upd_app, if_neg, upd_app, if_neg]
      · rintro rfl; rw [a3] at hq2; cases hq2
      · rintro rfl; rw [keepc 6 (by omega), k6] at hq2; cases hq2
    · show H.next ≤ H2.next + 1 + 1
      have : H.next + 1 ≤ H2.next := hnx
      omega
    · intro b hb1 hb2 hb3
      show upd (upd A' 3 _) 6 _ b = _
      rw [upd_app, if_neg (by omega), upd_app, if_neg (by omega)]
      have : H.next + 1 ≤ H2.next := hnx
      rw [hk b (by omega) hb3, hkp b hb1 (by omega) (by omega)]
      simp only [upd_app]
      rw [if_neg (by omega), if_neg (by omega)]
  · intro H2 e hR he hh2
    exact hQ' H2 e _ hR he hh2 rfl rfl
  all_goals simp only [upd_app, t3, t4, t5, t6, encVl, fstP, Nat.reduceEqDiff, ↓reduceIte]
  all_goals rfl
end Go.Proofs.Ytjnopnlgcmlkfaa.G

namespace Go.Proofs.Ytjnopnlgcmlkfaa.G
open Go.BX
set_option linter.unusedSimpArgs false
set_option linter.unusedVariables false
theorem vslS : isSl Cx 56 45 := ⟨_, TT_56, rfl⟩
theorem vtiS : ∃ ti, Cx.TT 45 = some ti ∧ ti.size = 5 ∧ ti.bytes = 48 := ⟨_, TT_45, rfl, rfl⟩
def VS (gs : List Pr) (i : Nat) (d : AV) (H : AHeap) : Prop :=
  (gs = [] ∧ i = 0 ∧ d = .nilS) ∨ (gs ≠ [] ∧ ∃ g, d = .slc g 5 0 gs.length ∧ 7 ≤ g ∧ g < H.next ∧ H.at_ g = .cells 45 5 (gs.map encVp) ∧ gs.length ≤ i)
theorem s17_all {m : List Pr} {w : Bytes} {T0 : Nat → AV} {Q : AV → AHeap → Prop} (hm : m.length ≤ 90000) (hT0 : SFT T0)
    (hA : ∀ (r : AV) (H' : AHeap) (d' : AV) (out : List Pr), foldL w m = .ok out → SFH w 0 d' H' (sL T0) → OwnK 7 47 6 d' H'.next H'.at_ (out.map encP) → Q r H')
    (hB : ∀ (r : AV) (H' : AHeap) (d' : AV) (e : Int) (L : ALoop), foldL w m = .error e → SFH w e d' H' L → L.state = .done → L.pending = some .ret → Q r H') :
    ∀ (j i : Nat) (T : Nat → AV) (H : AHeap) (done gs : List Pr) (κ : Bytes) (dO dV : AV), i + j = m.length → T 0 = .yld 6 → T 3 = dV → T 4 = .str κ → T 8 = .vec 6 (m.map encP) → T 9 = .int .i64 ((m.map encP).length : Int) → T 10 = .int .i64 (i : Int) →
      SFH w 0 dO H (sL T0) → OwnK 7 47 6 dO H.next H.at_ (done.map encP) → VS gs i dV H → (∀ q, q ∈ gs → q.key = κ) → foldL w m = goG w done (gs ++ m.drop i) → done.length ≤ i →
      Run Cx 35 T [] none [.inLoop c35_9, .inBlock 0, .code c35_33] H Q
  | 0, i, T, H, done, gs, κ, dO, dV, hij, t0, t3, t4, t8, t9, t10, hh, ho, hv, hκ, hE, hdl => by
    rw [run_inLoop]
    have c0 : ¬ (i : Int) < ((m.map encP).length : Int) := by rw [List.length_map]; omega
    rw [List.drop_of_length_le (by omega), List.append_nil] at hE
    rcases hv with ⟨rfl, rfl, rfl⟩ | ⟨hn, g, rfl, hg7, hgn, hg, hgl⟩
    · replace t10 : T 10 = .int .i64 0 := t10
      simp only [Int.cast_ofNat_Int] at c0
      simp only [t0, t3, t4, t8, t9, t10, c0, i64, xx, run_nil, r35_0, r35_1, r35_2, r35_3, r35_4, res35, tt, bb, bc, ↓bd, Nat.reduceEqDiff, Nat.reduceAdd, Nat.reduceMul, Nat.reduceLeDiff, Nat.reduceLT, ↓reduceIte, reduceCtorEq, Nat.reduceBeqDiff, Nat.reduceBneDiff, Int.reduceBNe, Int.reduceBEq, Int.reduceEq, Int.reduceLT, Int.reduceLE, Int.reduceAdd, Int.reduceSub, Int.reduceMul, Int.reduceNeg, List.reduceReplicate, Int.reduceToNat]
      exact hA _ _ dO done hE hh ho
    · cases gs with
      | nil => exact absurd rfl hn
      | cons p0 ps =>
      have c1 : (0 : Int) < ((p0 :: ps).length : Int) := by rw [List.length_cons]; omega
      rw [List.length_cons] at c1 hgl
      simp only [List.length_cons] at t3
      have hE2 : foldL w m = goF w done p0 ps := hE
      have hgr := goF_group w done ps [] p0 (fun q hq => (hκ q (by simp [hq])).trans (hκ p0 (by simp)).symm) (fun q r h => by cases h)
      rw [List.append_nil] at hgr
      rw [hgr] at hE2
      simp only [t0, t3, t4, t8, t9, t10, c0, c1, i64, xx, run_nil, r35_0, r35_1, r35_2, r35_3, r35_4, res35, tt, bb, bc, ↓bd, Nat.reduceEqDiff, Nat.reduceAdd, Nat.reduceMul, Nat.reduceLeDiff, Nat.reduceLT, ↓reduceIte, reduceCtorEq, Nat.reduceBeqDiff, Nat.reduceBneDiff, Int.reduceBNe, Int.reduceBEq, Int.reduceEq, Int.reduceLT, Int.reduceLE, Int.reduceAdd, Int.reduceSub, Int.reduceMul, Int.reduceNeg, List.reduceReplicate, Int.reduceToNat]
      refine runA_yield (L := sL T0) ?_ ?_ hh.h6 rfl ?_
      · simp only [evs, ev, upd_app, t0, t3, t4, Nat.reduceEqDiff, ↓reduceIte]
      · simp only [evs, ev, upd_app, t0, t3, t4, Nat.reduceEqDiff, ↓reduceIte]
      refine sf_round (by omega) (by omega) hT0 hh ho hg7 hgn hg (hκ p0 (by simp)) ?_ ?_
      · intro H' d' v hR hh' ho' hnx hk
        simp only [xx, run_nil, r35_0, r35_1, r35_2, r35_3, r35_4, res35, tt, bb, bc, ↓bd, Nat.reduceEqDiff, Nat.reduceAdd, Nat.reduceMul, Nat.reduceLeDiff, Nat.reduceLT, ↓reduceIte, reduceCtorEq, Nat.reduceBeqDiff, Nat.reduceBneDiff, Int.reduceBNe, Int.reduceBEq, Int.reduceEq, Int.reduceLT, Int.reduceLE, Int.reduceAdd, Int.reduceSub, Int.reduceMul, Int.reduceNeg, List.reduceReplicate, Int.reduceToNat]
        rw [hR] at hE2
        exact hA _ _ d' _ hE2 hh' ho'
      · intro H' e L hR he hh' hs hp
        simp only [xx, run_nil, r35_0, r35_1, r35_2, r35_3, r35_4, res35, tt, bb, bc, ↓bd, Nat.reduceEqDiff, Nat.reduceAdd, Nat.reduceMul, Nat.reduceLeDiff, Nat.reduceLT, ↓reduceIte, reduceCtorEq, Nat.reduceBeqDiff, Nat.reduceBneDiff, Int.reduceBNe, Int.reduceBEq, Int.reduceEq, Int.reduceLT, Int.reduceLE, Int.reduceAdd, Int.reduceSub, Int.reduceMul, Int.reduceNeg, List.reduceReplicate, Int.reduceToNat]
        rw [hR] at hE2
        exact hB _ _ _ e L hE2 hh' hs hp
  | j + 1, i, T, H, done, gs, κ, dO, dV, hij, t0, t3, t4, t8, t9, t10, hh, ho, hv, hκ, hE, hdl => by
    rw [run_inLoop]
    have him : i < m.length := by omega
    have c0 : (i : Int) < ((m.map encP).length : Int) := by rw [List.length_map]; omega
    have p0 : (0 : Int) ≤ (i : Int) := by omega
    have g0 := enc_get (List.getElem?_eq_getElem him)
    have w1 : IntKind.i64.wrap ((i : Int) + 1) = ((i + 1 : Nat) : Int) := by rw [wr64 (by omega) (by omega)]; omega
    have hdr : m.drop i = m[i] :: m.drop (i + 1) := List.drop_eq_getElem_cons him
    rcases hv with ⟨rfl, rfl, rfl⟩ | ⟨hn, g, rfl, hg7, hgn, hg, hgl⟩
    · replace t10 : T 10 = .int .i64 0 := t10
      simp only [Int.cast_ofNat_Int, Int.zero_add] at c0 p0 w1
      have hx := hh.hn
      simp only [t0, t3, t4, t8, t9, t10, c0, g0, i64, w1, Int.le_refl, updS, app_nil vslS vtiS (show 48 ≤ most by decide), runVH_some, dop_builtinC, dynB_some, apart_nil, xx, run_nil, r35_0, r35_1, r35_2, r35_3, r35_4.1, r35_4.2.2.1, r35_4.2.2.2.1, r35_4.2.2.2.2.1, r35_4.2.2.2.2.2, res35, tt, bb, bc, ↓bd, Nat.reduceEqDiff, Nat.reduceAdd, Nat.reduceMul, Nat.reduceLeDiff, Nat.reduceLT, ↓reduceIte, reduceCtorEq, Nat.reduceBeqDiff, Nat.reduceBneDiff, Int.reduceBNe, Int.reduceBEq, Int.reduceEq, Int.reduceLT, Int.reduceLE, Int.reduceAdd, Int.reduceSub, Int.reduceMul, Int.reduceNeg, List.reduceReplicate, Int.reduceToNat]
      refine s17_all hm hT0 hA hB j 1 _ _ done [m[0]] (m[0]).key dO _ (by omega) ?_ rfl ?_ ?_ ?_ ?_ (hh.up ?_ ?_) (ho.keep ?_ ?_) (.inr ⟨by simp, H.next + 1 + 1, ?_, ?_, ?_, ?_, ?_⟩) ?_ ?_ ?_
      · simp only [upd_app, t0, Nat.reduceEqDiff, ↓reduceIte]
      · simp only [upd_app, Nat.reduceEqDiff, ↓reduceIte]
      · simp only [upd_app, t8, Nat.reduceEqDiff, ↓reduceIte]
      · simp only [upd_app, t9, Nat.reduceEqDiff, ↓reduceIte]
      · simp only [upd_app, Nat.reduceEqDiff, ↓reduceIte] <;> rfl
      · intro b hb
        simp only [upd_app]
        rw [if_neg (by omega), if_neg (by omega), if_neg (by omega)]
      · show H.next ≤ H.next + 1 + 1 + 1
        omega
      · show H.next ≤ H.next + 1 + 1 + 1
        omega
      · intro q hq _
        simp only [upd_app]
        rw [if_neg (by omega), if_neg (by omega), if_neg (by omega)]
      · simp only [upd_app, Nat.reduceEqDiff, ↓reduceIte]; rfl
      · omega
      · exact Nat.lt_succ_self _
      · simp only [upd_app, ↓reduceIte]
        rfl
      · simp
      · intro q hq
        rw [List.mem_singleton.mp hq]
      · rw [hE, hdr]; rfl
      · omega
    · have ci : (0 : Int) < (i : Int) := by
        have := List.length_pos_iff.mpr hn
        omega
      have hnx := hh.hn
      have hcl : (gs.map encVp).length = gs.length := List.length_map _
      have hrow := app_row (C := Cx) (g := g) (n := H.next + 1) (A := upd H.at_ H.next (.cells 47 6 [encP m[i]])) (es := gs.map encVp) (row := encVp m[i]) vslS vtiS (by rw [upd_app, if_neg (by omega)]; exact hg) (by omega) (by rw [hcl]; unfold most; omega) (by rw [hcl]; unfold most; omega)
      rw [hcl] at hrow
      simp only [encVp, encP] at hrow
      have hne : (H.next != g) = true := by simp; omega
      by_cases hk : (m[i]).key = κ
      · rw [hk] at g0
        have hk2 : (κ != κ) = false := by simp
        simp only [hk] at hrow
        simp only [t0, t3, t4, t8, t9, t10, c0, p0, ci, g0, hk2, i64, w1, updS, hrow, hne, Int.toNat_natCast, runVH_some, dop_builtinC, dynB_some, apart_slc, xx, run_nil, r35_0, r35_1, r35_2, r35_3, r35_4.1, r35_4.2.2.1, r35_4.2.2.2.1, r35_4.2.2.2.2.1, r35_4.2.2.2.2.2, res35, tt, bb, bc, ↓bd, Nat.reduceEqDiff, Nat.reduceAdd, Nat.reduceMul, Nat.reduceLeDiff, Nat.reduceLT, ↓reduceIte, reduceCtorEq, Nat.reduceBeqDiff, Nat.reduceBneDiff, Int.reduceBNe, Int.reduceBEq, Int.reduceEq, Int.reduceLT, Int.reduceLE, Int.reduceAdd, Int.reduceSub, Int.reduceMul, Int.reduceNeg, List.reduceReplicate, Int.reduceToNat]
        have hgl2 : (gs ++ [m[i]]).length = gs.length + 1 := by simp
        refine s17_all hm hT0 hA hB j (i + 1) _ _ done (gs ++ [m[i]]) κ dO _ (by omega) ?_ rfl ?_ ?_ ?_ ?_ (hh.up ?_ ?_) (ho.keep ?_ ?_) (.inr ⟨by simp, H.next + 1 + 1, ?_, ?_, ?_, ?_, by rw [hgl2]; omega⟩) ?_ ?_ (by omega)
        · simp only [upd_app, t0, Nat.reduceEqDiff, ↓reduceIte]
        · simp only [upd_app, Nat.reduceEqDiff, ↓reduceIte]
        · simp only [upd_app, t8, Nat.reduceEqDiff, ↓reduceIte]
        · simp only [upd_app, t9, Nat.reduceEqDiff, ↓reduceIte]
        · simp only [upd_app, Nat.reduceEqDiff, ↓reduceIte]
        · intro b hb
          simp only [upd_app]
          rw [if_neg (by omega), if_neg (by omega), if_neg (by omega), if_neg (by omega)]
        · show H.next ≤ H.next + 1 + 1 + 1
          omega
        · show H.next ≤ H.next + 1 + 1 + 1
          omega
        · intro q hq hq2
          have hqg : q ≠ g := by rintro rfl; rw [hg] at hq2; cases hq2
          simp only [upd_app]
          rw [if_neg (by omega), if_neg hqg, if_neg (by omega), if_neg (by omega)]
        · rw [hgl2]; simp only [upd_app, Nat.reduceEqDiff, ↓reduceIte]
        · omega
        · exact Nat.lt_succ_self _
        · simp only [upd_app, ↓reduceIte]
          rw [List.map_append (l₁ := gs)]
          rfl
        · intro q hq
          rcases List.mem_append.mp hq with hq | hq
          · exact hκ q hq
          · rw [List.mem_singleton.mp hq]; exact hk
        · rw [hE, hdr, List.append_assoc]; rfl
      · have hk2 : ((m[i]).key != κ) = true := by simpa using hk
        cases gs with
        | nil => exact absurd rfl hn
        | cons q0 ps =>
        simp only [List.length_cons] at t3 hgl
        have hE2 : foldL w m = goF w done q0 (ps ++ m.drop i) := hE
        have hgr := goF_group w done ps (m.drop i) q0 (fun q hq => (hκ q (by simp [hq])).trans (hκ q0 (by simp)).symm) (fun q r h => by
          rw [hdr] at h
          rw [← (List.cons.inj h).1, hκ q0 (by simp)]
          exact hk)
        rw [hgr] at hE2
        simp only [t0, t3, t4, t8, t9, t10, c0, p0, ci, g0, hk2, i64, w1, updS, Int.toNat_natCast, xx, run_nil, r35_0, r35_1, r35_2, r35_3.1, r35_3.2.1, r35_3.2.2.1, r35_3.2.2.2.1, r35_3.2.2.2.2.1, r35_3.2.2.2.2.2.1, r35_3.2.2.2.2.2.2.1, r35_4.2.2.1, r35_4.2.2.2.1, r35_4.2.2.2.2.1, r35_4.2.2.2.2.2, res35, tt, bb, bc, ↓bd, Nat.reduceEqDiff, Nat.reduceAdd, Nat.reduceMul, Nat.reduceLeDiff, Nat.reduceLT, ↓reduceIte, reduceCtorEq, Nat.reduceBeqDiff, Nat.reduceBneDiff, Int.reduceBNe, Int.reduceBEq, Int.reduceEq, Int.reduceLT, Int.reduceLE, Int.reduceAdd, Int.reduceSub, Int.reduceMul, Int.reduceNeg, List.reduceReplicate, Int.reduceToNat]
        refine runA_yield (L := sL T0) ?_ ?_ ?_ rfl ?_
        · simp only [evs, ev, upd_app, t0, t3, t4, Nat.reduceEqDiff, ↓reduceIte]
        · simp only [evs, ev, upd_app, t0, t3, t4, Nat.reduceEqDiff, ↓reduceIte]
        · simp only [upd_app]
          rw [if_neg (by omega)]
          exact hh.h6
        have hh1 : SFH w 0 dO ⟨H.next + 1, upd H.at_ H.next (.cells 47 6 [encP m[i]])⟩ (sL T0) := hh.up (fun b hb => by simp only [upd_app]; rw [if_neg (by omega)]) (by show H.next ≤ H.next + 1; omega)
        have ho1 : OwnK 7 47 6 dO (H.next + 1) (upd H.at_ H.next (.cells 47 6 [encP m[i]])) (done.map encP) := ho.keep (by omega) (fun q hq _ => by rw [upd_app, if_neg (by omega)])
        have hdn : ∀ b, dO ≠ .slc H.next 6 0 b := by
          rintro b rfl
          rcases ho with ⟨h, _⟩ | ⟨q, q1, q2, q3, _⟩
          · cases h
          · cases q1; omega
        refine sf_round (by omega) (by omega) hT0 hh1 ho1 hg7 (by show g < H.next + 1; omega) (by simp only [upd_app]; rw [if_neg (by omega)]; exact hg) (hκ q0 (by simp)) ?_ ?_
        · intro H' d' v hR hh' ho' hnx' hkp
          rw [hR] at hE2
          have hp' : H'.at_ H.next = .cells 47 6 [encP m[i]] := by
            rw [hkp _ (by omega) (by show H.next < H.next + 1; omega) hdn]
            simp only [upd_app, ↓reduceIte]
            rfl
          simp only [encP] at hp'
          simp only [t0, t3, t4, t8, t9, t10, hp', i64, w1, updS, app_nil vslS vtiS (show 48 ≤ most by decide), runVH_some, dop_builtinC, dynB_some, apart_nil, xx, run_nil, r35_0, r35_1, r35_2, r35_3, r35_4.1, r35_4.2.2.1, r35_4.2.2.2.1, r35_4.2.2.2.2.1, r35_4.2.2.2.2.2, res35, tt, bb, bc, ↓bd, Nat.reduceEqDiff, Nat.reduceAdd, Nat.reduceMul, Nat.reduceLeDiff, Nat.reduceLT, ↓reduceIte, reduceCtorEq, Nat.reduceBeqDiff, Nat.reduceBneDiff, Int.reduceBNe, Int.reduceBEq, Int.reduceEq, Int.reduceLT, Int.reduceLE, Int.reduceAdd, Int.reduceSub, Int.reduceMul, Int.reduceNeg, List.reduceReplicate, Int.reduceToNat]
          have hnx2 := hh'.hn
          replace hnx' : H.next + 1 ≤ H'.next := hnx'
          have hdl2 : (done ++ [setP q0 v]).length = done.length + 1 := by simp
          refine s17_all hm hT0 hA hB j (i + 1) _ _ (done ++ [setP q0 v]) [m[i]] (m[i]).key d' _ (by omega) ?_ rfl ?_ ?_ ?_ ?_ (hh'.up ?_ ?_) (ho'.keep ?_ ?_) (.inr ⟨by simp, H'.next + 1, ?_, ?_, ?_, ?_, by simp⟩) ?_ ?_ (by rw [hdl2]; omega)
          · simp only [upd_app, t0, Nat.reduceEqDiff, ↓reduceIte]
          · simp only [upd_app, Nat.reduceEqDiff, ↓reduceIte]
          · simp only [upd_app, t8, Nat.reduceEqDiff, ↓reduceIte]
          · simp only [upd_app, t9, Nat.reduceEqDiff, ↓reduceIte]
          · simp only [upd_app, Nat.reduceEqDiff, ↓reduceIte]
          · intro b hb
            simp only [upd_app]
            rw [if_neg (by omega), if_neg (by omega)]
          · show H'.next ≤ H'.next + 1 + 1
            omega
          · show H'.next ≤ H'.next + 1 + 1
            omega
          · intro q hq _
            simp only [upd_app]
            rw [if_neg (by omega), if_neg (by omega)]
          · simp only [upd_app, Nat.reduceEqDiff, ↓reduceIte]; rfl
          · omega
          · exact Nat.lt_succ_self _
          · simp only [upd_app, ↓reduceIte]
            rfl
          · intro q hq
            rw [List.mem_singleton.mp hq]
          · rw [hE2, hdr]; rfl
        · intro H' e L hR he hh' hs hp
          rw [hR] at hE2
          simp only [xx, run_nil, r35_0, r35_1, r35_2, r35_3, r35_4, res35, tt, bb, bc, ↓bd, Nat.reduceEqDiff, Nat.reduceAdd, Nat.reduceMul, Nat.reduceLeDiff, Nat.reduceLT, ↓reduceIte, reduceCtorEq, Nat.reduceBeqDiff, Nat.reduceBneDiff, Int.reduceBNe, Int.reduceBEq, Int.reduceEq, Int.reduceLT, Int.reduceLE, Int.reduceAdd, Int.reduceSub, Int.reduceMul, Int.reduceNeg, List.reduceReplicate, Int.reduceToNat]
          exact hB _ _ _ e L hE2 hh' hs hp
end Go.Proofs.Ytjnopnlgcmlkfaa.G

namespace Go.Proofs.Ytjnopnlgcmlkfaa.G
open Go.BX
set_option linter.unusedSimpArgs false
set_option linter.unusedVariables false
theorem goF_ne (w : Bytes) : ∀ (r done : List Pr) (p : Pr) (out : List Pr), goF w done p r = .ok out → out ≠ []
  | [], done, p, out, h => by
    have h' : Except.ok (ε := Int) (done ++ [p]) = .ok out := h
    cases h'
    simp
  | q :: r, done, p, out, h => by
    have h' : (if q.key = p.key then (if (foldR w (fstP p) (fstP q)).2 = 0 then goF w done (setP p (foldR w (fstP p) (fstP q)).1) r else .error (foldR w (fstP p) (fstP q)).2) else goF w (done ++ [p]) q r) = .ok out := h
    split at h'
    · split at h'
      · exact goF_ne w r _ _ _ h'
      · cases h'
    · exact goF_ne w r _ _ _ h'
theorem sf_end {w : Bytes} {m : List Pr} {T : Nat → AV} (hm0 : m ≠ []) (hT : SFT T) : ∀ (H3 : AHeap), ((∃ d' out, foldL w m = .ok out ∧ SFH w 0 d' H3 (sL T) ∧ OwnK 7 47 6 d' H3.next H3.at_ (out.map encP)) ∨ (∃ d' e L, foldL w m = .error e ∧ SFH w e d' H3 L ∧ L.state = .done ∧ L.pending = some .ret)) →
    ∃ L, H3.at_ 6 = .loop L ∧ L.state ≠ .busy ∧ jumpOk L.pending = true ∧
      Run Cx 8 T [.collected 5] none ((L.pending.map AItem.code).toList ++ [.inBlock 0, .code c8_51]) (H3.set 6 (.loop { L with state := .exhausted })) (fun r0 H' => BX.freeze H' r0 = some (toAF (foldL w m))) := by
  obtain ⟨t3, t4, t5, t6⟩ := hT
  rintro H3 (⟨d', out, hE, hh, ho⟩ | ⟨d', e, L, hE, hh, hs, hp⟩)
  · obtain ⟨h0, h1, h2, h3, h5, h6, hx⟩ := hh
    have hout : out ≠ [] := by
      cases m with
      | nil => exact absurd rfl hm0
      | cons p r => exact goF_ne w r [] p out hE
    rcases ho with ⟨rfl, hnil⟩ | ⟨g, rfl, hg7, hgn, hg⟩
    · exact absurd (List.map_eq_nil_iff.mp hnil) hout
    rw [List.length_map] at h3
    have hf : ∀ A', A' g = .cells 47 6 (out.map encP) → freeze2 ⟨H3.next, A'⟩ (.slc g 6 0 out.length) = some (.vec 6 (out.map encP)) := fun A' h => frz_rows h
    refine ⟨sL T, h6, (by show LS.ready ≠ LS.busy; decide), rfl, ?_⟩
    rw [hE, toAF_ne hout]
    simp only [sL, Option.map_none, Option.toList_none, List.nil_append, t3, t4, t5, t6, h0, h1, h2, h3, h5, AHeap.set, run_inBlock, r8_0, r8_1, r8_2, r8_3, r8_4, r8_5, r8_6.1, r8_6.2.1, r8_6.2.2.1, r8_6.2.2.2.1, res8, tt, bb, bc, ↓bd, Nat.reduceEqDiff, Nat.reduceAdd, Nat.reduceMul, Nat.reduceLeDiff, Nat.reduceLT, ↓reduceIte, reduceCtorEq, Nat.reduceBeqDiff, Nat.reduceBneDiff, Int.reduceBNe, Int.reduceBEq, Int.reduceEq, Int.reduceLT, Int.reduceLE, Int.reduceAdd, Int.reduceSub, Int.reduceMul, Int.reduceNeg, List.reduceReplicate, Int.reduceToNat]
    unfold c8_53
    refine ret_col (by simp only [upd_app, h5, Nat.reduceEqDiff, ↓reduceIte]) ?_
    have e5 : (g = 5) = False := eq_false (by omega)
    have e2 : (g = 2) = False := eq_false (by omega)
    have e1 : (g = 1) = False := eq_false (by omega)
    have e6 : (g = 6) = False := eq_false (by omega)
    have hfe : ∀ A' : Nat → Blk, frzE ⟨H3.next, A'⟩ 3 6 (some (out.map encP)) = some (.vec 6 (out.map encP)) := fun A' => by
      rw [frzE_some]
      have key : ∀ l : List Pr, mapO (mapO (freeze1 ⟨H3.next, A'⟩ 3)) (l.map encP) = some (l.map encP) := by
        intro l
        induction l with
        | nil => rfl
        | cons p l ih =>
          rw [List.map_cons, mapO_cons, ih]
          have : mapO (freeze1 ⟨H3.next, A'⟩ 3) (encP p) = some (encP p) := mapO_all (p := AV.flat1) (fun v hv => freeze1_flat hv) rfl
          rw [this]; rfl
      rw [key]; rfl
    have htk : (out.map encP).take out.length = out.map encP := List.take_of_length_le (by simp)
    simp only [res8, upd_app, t4, t5, h2, e1, e2, e5, e6, hg, htk, List.drop_zero, List.length_map, Nat.zero_add, Nat.le_refl, and_self, hfe, AHeap.set, tt, bb, bc, ↓bd, Nat.reduceEqDiff, Nat.reduceAdd, Nat.reduceMul, Nat.reduceLeDiff, Nat.reduceLT, ↓reduceIte, reduceCtorEq, Nat.reduceBeqDiff, Nat.reduceBneDiff, Int.reduceBNe, Int.reduceBEq, Int.reduceEq, Int.reduceLT, Int.reduceLE, Int.reduceAdd, Int.reduceSub, Int.reduceMul, Int.reduceNeg, List.reduceReplicate, Int.reduceToNat]
  · obtain ⟨h0, h1, h2, h3, h5, h6, hx⟩ := hh
    refine ⟨L, h6, by rw [hs]; decide, by rw [hp]; rfl, ?_⟩
    rw [hp, hE]
    simp only [Option.map_some, Option.toList_some, List.cons_append, List.nil_append]
    refine ret_col (by simp only [AHeap.set, upd_app, h5, Nat.reduceEqDiff, ↓reduceIte]) ?_
    simp only [res8, t4, t5, h1, h2, upd_app, toAF, freeze2_nilS, AHeap.set, tt, bb, bc, ↓bd, Nat.reduceEqDiff, Nat.reduceAdd, Nat.reduceMul, Nat.reduceLeDiff, Nat.reduceLT, ↓reduceIte, reduceCtorEq, Nat.reduceBeqDiff, Nat.reduceBneDiff, Int.reduceBNe, Int.reduceBEq, Int.reduceEq, Int.reduceLT, Int.reduceLE, Int.reduceAdd, Int.reduceSub, Int.reduceMul, Int.reduceNeg, List.reduceReplicate, Int.reduceToNat]
theorem sFold_ok {v : AV} {l : List Pr} {w : Bytes} (hv : InL v l) (hl : l.length ≤ 90000) : PCall Cx 8 [v, .str w] (if isOrd l then toAF (foldL w l) else .tuple [.nilS, .int .i64 17]) := by
  have f0 : [v].all AV.flat = true := by simp [hv.e.flat]
  have hord := Ordered_ok' hv.e (show l.length ≤ 1000000 by omega)
  cases hb : isOrd l with
  | false =>
    rw [hb] at hord
    refine pcall_run (noext _) body8 ?_
    simp only [Bool.false_eq_true, if_false, freeze2_nilS, call_pure pure21 f0 hord, r8_0, r8_1.1, r8_1.2.1, r8_1.2.2.2.1, r8_1.2.2.2.2.1, r8_1.2.2.2.2.2.1, r8_1.2.2.2.2.2.2.1, r8_1.2.2.2.2.2.2.2, r8_2, r8_3, r8_4, r8_5, r8_6, res8, tt, bb, bc, ↓bd, Nat.reduceEqDiff, Nat.reduceAdd, Nat.reduceMul, Nat.reduceLeDiff, Nat.reduceLT, ↓reduceIte, reduceCtorEq, Nat.reduceBeqDiff, Nat.reduceBneDiff, Int.reduceBNe, Int.reduceBEq, Int.reduceEq, Int.reduceLT, Int.reduceLE, Int.reduceAdd, Int.reduceSub, Int.reduceMul, Int.reduceNeg, List.reduceReplicate, Int.reduceToNat]
  | true =>
    rw [hb] at hord
    rw [if_pos rfl]
    by_cases h0 : l = []
    · subst h0
      rcases hv with ⟨rfl, _⟩ | rfl
      · exact ⟨400, by kernel_rfl⟩
      · exact ⟨400, by kernel_rfl⟩
    · obtain ⟨m2, w2, hs, hw, hp, _⟩ := Sort_ok hv.e (show l.length ≤ 1000000 by omega)
      have hml : m2 = l := hs.uniq ⟨fun _ => rfl, of_decide_eq_true hb, rfl⟩
      subst hml
      obtain rfl := hv.e.vec h0
      obtain rfl := hw.vec h0
      refine pcall_run (noext _) body8 ?_
      simp only [call_pure pure21 f0 hord, r8_0, r8_1, r8_2, r8_3, r8_4, r8_5, r8_6.1, r8_6.2.1, r8_6.2.2.2.1, r8_6.2.2.2.2, res8, tt, bb, bc, ↓bd, Nat.reduceEqDiff, Nat.reduceAdd, Nat.reduceMul, Nat.reduceLeDiff, Nat.reduceLT, ↓reduceIte, reduceCtorEq, Nat.reduceBeqDiff, Nat.reduceBneDiff, Int.reduceBNe, Int.reduceBEq, Int.reduceEq, Int.reduceLT, Int.reduceLE, Int.reduceAdd, Int.reduceSub, Int.reduceMul, Int.reduceNeg, List.reduceReplicate, Int.reduceToNat]
      refine call_body pure22 (noext _) body22 ?_
      simp only [r8_0, r8_1, r8_2, r8_3, r8_4, r8_5, r8_6.1, r8_6.2.1, r8_6.2.2.2.1, r8_6.2.2.2.2, res8, r22_0, res22, tt, bb, bc, ↓bd, Nat.reduceEqDiff, Nat.reduceAdd, Nat.reduceMul, Nat.reduceLeDiff, Nat.reduceLT, ↓reduceIte, reduceCtorEq, Nat.reduceBeqDiff, Nat.reduceBneDiff, Int.reduceBNe, Int.reduceBEq, Int.reduceEq, Int.reduceLT, Int.reduceLE, Int.reduceAdd, Int.reduceSub, Int.reduceMul, Int.reduceNeg, List.reduceReplicate, Int.reduceToNat]
      unfold c8_16
      refine run_rangeFunc (g := 35) rfl pure35 (noext _) body35 ?_
      generalize hTT : upd (upd _ 17 _) 18 _ = T
      have hT : SFT T := by
        subst hTT
        refine ⟨?_, ?_, ?_, ?_⟩ <;> simp only [upd_app, Nat.reduceEqDiff, ↓reduceIte]
      simp only [loopH, call_pure pure9 f0 hp, i64, lenOf, r35_0, r35_1.1, r35_1.2.2.1, r35_1.2.2.2.1, r35_1.2.2.2.2.1, r35_1.2.2.2.2.2.1, r35_1.2.2.2.2.2.2.1, r35_1.2.2.2.2.2.2.2, r35_2, r35_3, r35_4.1, r35_4.2.2.1, r35_4.2.2.2.1, r35_4.2.2.2.2.1, r35_4.2.2.2.2.2, res35, tt, bb, bc, ↓bd, Nat.reduceEqDiff, Nat.reduceAdd, Nat.reduceMul, Nat.reduceLeDiff, Nat.reduceLT, ↓reduceIte, reduceCtorEq, Nat.reduceBeqDiff, Nat.reduceBneDiff, Int.reduceBNe, Int.reduceBEq, Int.reduceEq, Int.reduceLT, Int.reduceLE, Int.reduceAdd, Int.reduceSub, Int.reduceMul, Int.reduceNeg, List.reduceReplicate, Int.reduceToNat]
      refine s17_all (w := w) (T0 := T) hl hT ?_ ?_ m2.length 0 _ _ [] [] [] .nilS .nilS (by omega) ?_ ?_ ?_ ?_ ?_ ?_ ⟨?_, ?_, ?_, ?_, ?_, ?_, ?_⟩ (.inl ⟨rfl, rfl⟩) (.inl ⟨rfl, rfl, rfl⟩) (fun q hq => by cases hq) (by rw [foldL_goG]; rfl) (Nat.le_refl _)
      · intro r H' d' out hE hh ho
        exact sf_end h0 hT H' (.inl ⟨d', out, hE, hh, ho⟩)
      · intro r H' d' e L hE hh h1 h2
        exact sf_end h0 hT H' (.inr ⟨d', e, L, hE, hh, h1, h2⟩)
      all_goals (try simp only [upd_app, enterT, List.getElem?_cons_zero, List.getElem?_cons_succ, Option.getD_some, Nat.reduceEqDiff, ↓reduceIte])
      all_goals (first | rfl | exact Nat.le_refl _)
end Go.Proofs.Ytjnopnlgcmlkfaa.G

namespace Go.Proofs.Ytjnopnlgcmlkfaa.G
open Go.BX
set_option linter.unusedSimpArgs false
set_option linter.unusedVariables false
def eqPr (p q : Pr) : Bool := p.key == q.key && (p.k == q.k && (p.n == q.n && (p.s == q.s && (p.x == q.x && p.y == q.y))))
theorem eqPr_iff {p q : Pr} : eqPr p q = true ↔ p = q := by
  unfold eqPr
  simp only [Bool.and_eq_true, beq_iff_eq]
  constructor
  · rintro ⟨h1, h2, h3, h4, h5, h6⟩
    cases p; cases q
    simp only at h1 h2 h3 h4 h5 h6
    subst h1 h2 h3 h4 h5 h6
    rfl
  · rintro rfl
    exact ⟨rfl, rfl, rfl, rfl, rfl, rfl⟩
def sameP : List Pr → List Pr → Bool
  | [], [] => true
  | p :: l, q :: m => eqPr p q && sameP l m
  | _, _ => false
theorem sameP_iff : ∀ {l m : List Pr}, sameP l m = true ↔ l = m
  | [], [] => by simp [sameP]
  | [], q :: m => by simp [sameP]
  | p :: l, [] => by simp [sameP]
  | p :: l, q :: m => by
    show (eqPr p q && sameP l m) = true ↔ _
    rw [Bool.and_eq_true, eqPr_iff, sameP_iff, List.cons.injEq]
def PEg (l m : List Pr) (r : Bool) (i : Nat) : Prop :=
  ∀ (T : Nat → AV) (H : AHeap), T 0 = .vec 6 (l.map encP) → T 1 = .vec 6 (m.map encP) → T 5 = .int .i64 (i : Int) →
    Run Cx 11 T [] none [.inLoop c11_15, .inBlock 0, .code c11_31] H (fun r0 H' => BX.freeze H' r0 = some (.bool r))
theorem peg_all {l m : List Pr} (hl : l.length ≤ 100000) (hlm : l.length = m.length) : ∀ (j i : Nat), i + j = l.length → PEg l m (sameP (l.drop i) (m.drop i)) i
  | 0, i, hij => by
    intro T H t0 t1 t5
    rw [run_inLoop]
    have h0 : ((i : Int) < ((l.map encP).length : Int)) = False := eq_false (by rw [List.length_map]; omega)
    rw [List.drop_of_length_le (by omega), List.drop_of_length_le (by omega)]
    have e : sameP [] [] = true := rfl
    rw [e]
    simp only [t0, t1, t5, h0, xx, r11_0, r11_1, r11_2, r11_3, r11_4, res11, tt, bb, bc, ↓bd, Nat.reduceEqDiff, Nat.reduceAdd, Nat.reduceMul, Nat.reduceLeDiff, Nat.reduceLT, ↓reduceIte, reduceCtorEq, Nat.reduceBeqDiff, Nat.reduceBneDiff, Int.reduceBNe, Int.reduceBEq, Int.reduceEq, Int.reduceLT, Int.reduceLE, Int.reduceAdd, Int.reduceSub, Int.reduceMul, Int.reduceNeg, List.reduceReplicate, Int.reduceToNat]
  | j + 1, i, hij => by
    intro T H t0 t1 t5
    rw [run_inLoop]
    have hi : i < l.length := by omega
    have hi2 : i < m.length := by omega
    have h0 : ((i : Int) < ((l.map encP).length : Int)) = True := eq_true (by rw [List.length_map]; omega)
    have h1 : ((i : Int) < ((m.map encP).length : Int)) = True := eq_true (by rw [List.length_map]; omega)
    have hi0 : (0 : Int) ≤ (i : Int) := by omega
    have hg := enc_get (List.getElem?_eq_getElem hi)
    have hg2 := enc_get (List.getElem?_eq_getElem hi2)
    have w1 : IntKind.i64.wrap ((i : Int) + 1) = ((i + 1 : Nat) : Int) := by rw [wr64 (by omega) (by omega)]; omega
    have hd : l.drop i = l[i] :: l.drop (i + 1) := List.drop_eq_getElem_cons hi
    have hd2 : m.drop i = m[i] :: m.drop (i + 1) := List.drop_eq_getElem_cons hi2
    rw [hd, hd2]
    have ih := peg_all hl hlm j (i + 1) (by omega)
    generalize l[i] = p at hg
    generalize m[i] = q at hg2
    have e : sameP (p :: l.drop (i + 1)) (q :: m.drop (i + 1)) = (eqPr p q && sameP (l.drop (i + 1)) (m.drop (i + 1))) := rfl
    rw [e]
    cases h_key : (p.key == q.key) with
    | false =>
      have he : eqPr p q = false := by unfold eqPr; simp only [h_key, Bool.false_and, Bool.true_and, Bool.and_false]
      rw [he, Bool.false_and]
      simp only [t0, t1, t5, h0, h1, hi0, hg, hg2, w1, h_key, Bool.false_and, Bool.true_and, Bool.and_true, Bool.and_false, Bool.not_false, Bool.not_true, Bool.and_self, Int.toNat_natCast, xx, r11_0, r11_1, r11_2, r11_3, r11_4, res11, tt, bb, bc, ↓bd, Nat.reduceEqDiff, Nat.reduceAdd, Nat.reduceMul, Nat.reduceLeDiff, Nat.reduceLT, ↓reduceIte, reduceCtorEq, Nat.reduceBeqDiff, Nat.reduceBneDiff, Int.reduceBNe, Int.reduceBEq, Int.reduceEq, Int.reduceLT, Int.reduceLE, Int.reduceAdd, Int.reduceSub, Int.reduceMul, Int.reduceNeg, List.reduceReplicate, Int.reduceToNat]
    | true =>
      cases h_k : (p.k == q.k) with
      | false =>
        have he : eqPr p q = false := by unfold eqPr; simp only [h_key, h_k, Bool.false_and, Bool.true_and, Bool.and_false]
        rw [he, Bool.false_and]
        simp only [t0, t1, t5, h0, h1, hi0, hg, hg2, w1, h_key, h_k, Bool.false_and, Bool.true_and, Bool.and_true, Bool.and_false, Bool.not_false, Bool.not_true, Bool.and_self, Int.toNat_natCast, xx, r11_0, r11_1, r11_2, r11_3, r11_4, res11, tt, bb, bc, ↓bd, Nat.reduceEqDiff, Nat.reduceAdd, Nat.reduceMul, Nat.reduceLeDiff, Nat.reduceLT, ↓reduceIte, reduceCtorEq, Nat.reduceBeqDiff, Nat.reduceBneDiff, Int.reduceBNe, Int.reduceBEq, Int.reduceEq, Int.reduceLT, Int.reduceLE, Int.reduceAdd, Int.reduceSub, Int.reduceMul, Int.reduceNeg, List.reduceReplicate, Int.reduceToNat]
      | true =>
        cases h_n : (p.n == q.n) with
        | false =>
          have he : eqPr p q = false := by unfold eqPr; simp only [h_key, h_k, h_n, Bool.false_and, Bool.true_and, Bool.and_false]
          rw [he, Bool.false_and]
          simp only [t0, t1, t5, h0, h1, hi0, hg, hg2, w1, h_key, h_k, h_n, Bool.false_and, Bool.true_and, Bool.and_true, Bool.and_false, Bool.not_false, Bool.not_true, Bool.and_self, Int.toNat_natCast, xx, r11_0, r11_1, r11_2, r11_3, r11_4, res11, tt, bb, bc, ↓bd, Nat.reduceEqDiff, Nat.reduceAdd, Nat.reduceMul, Nat.reduceLeDiff, Nat.reduceLT, ↓reduceIte, reduceCtorEq, Nat.reduceBeqDiff, Nat.reduceBneDiff, Int.reduceBNe, Int.reduceBEq, Int.reduceEq, Int.reduceLT, Int.reduceLE, Int.reduceAdd, Int.reduceSub, Int.reduceMul, Int.reduceNeg, List.reduceReplicate, Int.reduceToNat]
        | true =>
          cases h_s : (p.s == q.s) with
          | false =>
            have he : eqPr p q = false := by unfold eqPr; simp only [h_key, h_k, h_n, h_s, Bool.false_and, Bool.true_and, Bool.and_false]
            rw [he, Bool.false_and]
            simp only [t0, t1, t5, h0, h1, hi0, hg, hg2, w1, h_key, h_k, h_n, h_s, Bool.false_and, Bool.true_and, Bool.and_true, Bool.and_false, Bool.not_false, Bool.not_true, Bool.and_self, Int.toNat_natCast, xx, r11_0, r11_1, r11_2, r11_3, r11_4, res11, tt, bb, bc, ↓bd, Nat.reduceEqDiff, Nat.reduceAdd, Nat.reduceMul, Nat.reduceLeDiff, Nat.reduceLT, ↓reduceIte, reduceCtorEq, Nat.reduceBeqDiff, Nat.reduceBneDiff, Int.reduceBNe, Int.reduceBEq, Int.reduceEq, Int.reduceLT, Int.reduceLE, Int.reduceAdd, Int.reduceSub, Int.reduceMul, Int.reduceNeg, List.reduceReplicate, Int.reduceToNat]
          | true =>
            cases h_x : (p.x == q.x) with
            | false =>
              have he : eqPr p q = false := by unfold eqPr; simp only [h_key, h_k, h_n, h_s, h_x, Bool.false_and, Bool.true_and, Bool.and_false]
              rw [he, Bool.false_and]
              simp only [t0, t1, t5, h0, h1, hi0, hg, hg2, w1, h_key, h_k, h_n, h_s, h_x, Bool.false_and, Bool.true_and, Bool.and_true, Bool.and_false, Bool.not_false, Bool.not_true, Bool.and_self, Int.toNat_natCast, xx, r11_0, r11_1, r11_2, r11_3, r11_4, res11, tt, bb, bc, ↓bd, Nat.reduceEqDiff, Nat.reduceAdd, Nat.reduceMul, Nat.reduceLeDiff, Nat.reduceLT, ↓reduceIte, reduceCtorEq, Nat.reduceBeqDiff, Nat.reduceBneDiff, Int.reduceBNe, Int.reduceBEq, Int.reduceEq, Int.reduceLT, Int.reduceLE, Int.reduceAdd, Int.reduceSub, Int.reduceMul, Int.reduceNeg, List.reduceReplicate, Int.reduceToNat]
            | true =>
              cases h_y : (p.y == q.y) with
              | false =>
                have he : eqPr p q = false := by unfold eqPr; simp only [h_key, h_k, h_n, h_s, h_x, h_y, Bool.false_and, Bool.true_and, Bool.and_false]
                rw [he, Bool.false_and]
                simp only [t0, t1, t5, h0, h1, hi0, hg, hg2, w1, h_key, h_k, h_n, h_s, h_x, h_y, Bool.false_and, Bool.true_and, Bool.and_true, Bool.and_false, Bool.not_false, Bool.not_true, Bool.and_self, Int.toNat_natCast, xx, r11_0, r11_1, r11_2, r11_3, r11_4, res11, tt, bb, bc, ↓bd, Nat.reduceEqDiff, Nat.reduceAdd, Nat.reduceMul, Nat.reduceLeDiff, Nat.reduceLT, ↓reduceIte, reduceCtorEq, Nat.reduceBeqDiff, Nat.reduceBneDiff, Int.reduceBNe, Int.reduceBEq, Int.reduceEq, Int.reduceLT, Int.reduceLE, Int.reduceAdd, Int.reduceSub, Int.reduceMul, Int.reduceNeg, List.reduceReplicate, Int.reduceToNat]
              | true =>
                have he : eqPr p q = true := by unfold eqPr; simp only [h_key, h_k, h_n, h_s, h_x, h_y, Bool.true_and, Bool.and_self]
                rw [he, Bool.true_and]
                simp only [t0, t1, t5, h0, h1, hi0, hg, hg2, w1, h_key, h_k, h_n, h_s, h_x, h_y, Bool.false_and, Bool.true_and, Bool.and_true, Bool.and_false, Bool.not_false, Bool.not_true, Bool.and_self, Int.toNat_natCast, xx, r11_0, r11_1, r11_2, r11_3.1, r11_3.2.1, r11_3.2.2.1, r11_3.2.2.2.1, r11_3.2.2.2.2.1, r11_3.2.2.2.2.2.1, r11_3.2.2.2.2.2.2.1, r11_4, res11, tt, bb, bc, ↓bd, Nat.reduceEqDiff, Nat.reduceAdd, Nat.reduceMul, Nat.reduceLeDiff, Nat.reduceLT, ↓reduceIte, reduceCtorEq, Nat.reduceBeqDiff, Nat.reduceBneDiff, Int.reduceBNe, Int.reduceBEq, Int.reduceEq, Int.reduceLT, Int.reduceLE, Int.reduceAdd, Int.reduceSub, Int.reduceMul, Int.reduceNeg, List.reduceReplicate, Int.reduceToNat]
                refine ih _ _ ?_ ?_ ?_
                all_goals simp only [upd_app, t0, t1, Nat.reduceEqDiff, ↓reduceIte]
theorem SamePairs_any {v w : AV} {l m : List Pr} (hv : InE v l) (hw : InE w m) (hl : l.length ≤ 100000) (hm : m.length ≤ 100000) : PCall Cx 11 [v, w] (.bool (sameP l m)) := by
  by_cases hlm : l.length = m.length
  · by_cases he : l = []
    · have hme : m = [] := List.eq_nil_of_length_eq_zero (by rw [← hlm, he]; rfl)
      subst he hme
      exact SamePairs_e hv hw (by simp)
    · have hme : m ≠ [] := by
        rintro rfl
        exact he (List.eq_nil_of_length_eq_zero hlm)
      obtain rfl := hv.vec he
      obtain rfl := hw.vec hme
      refine pcall_run (noext _) body11 ?_
      have hp := peg_all hl hlm l.length 0 (by omega)
      rw [List.drop_zero, List.drop_zero] at hp
      have hle : (((l.map encP).length : Int) != ((m.map encP).length : Int)) = false := by
        rw [List.length_map, List.length_map, hlm]; simp
      simp only [hle, lenOf, i64, r11_0, r11_1.1, r11_1.2.1, r11_1.2.2.1, r11_1.2.2.2.1, r11_1.2.2.2.2.1, r11_1.2.2.2.2.2.1, r11_1.2.2.2.2.2.2.1, r11_2, r11_3.1, r11_3.2.1, r11_3.2.2.1, r11_3.2.2.2.1, r11_3.2.2.2.2.1, r11_3.2.2.2.2.2.1, r11_3.2.2.2.2.2.2.1, r11_4, res11, tt, bb, bc, ↓bd, Nat.reduceEqDiff, Nat.reduceAdd, Nat.reduceMul, Nat.reduceLeDiff, Nat.reduceLT, ↓reduceIte, reduceCtorEq, Nat.reduceBeqDiff, Nat.reduceBneDiff, Int.reduceBNe, Int.reduceBEq, Int.reduceEq, Int.reduceLT, Int.reduceLE, Int.reduceAdd, Int.reduceSub, Int.reduceMul, Int.reduceNeg, List.reduceReplicate, Int.reduceToNat]
      refine hp _ _ ?_ ?_ ?_
      all_goals simp only [upd_app, enterT, List.getElem?_cons_zero, List.getElem?_cons_succ, Option.getD_some, Nat.reduceEqDiff, ↓reduceIte]
      all_goals rfl
  · have e : sameP l m = false := by
      cases h : sameP l m with
      | false => rfl
      | true => exact absurd (congrArg List.length (sameP_iff.mp h)) hlm
    rw [e]
    refine pcall_run (noext _) body11 ?_
    have h1 := hv.len
    have h2 := hw.len
    simp only [BX.lenOf] at h1 h2
    have hle : ((l.length : Int) != (m.length : Int)) = true := by simp; omega
    simp only [h1, h2, hle, lenOf, i64, r11_0, r11_1, r11_2, r11_3, r11_4, res11, tt, bb, bc, ↓bd, Nat.reduceEqDiff, Nat.reduceAdd, Nat.reduceMul, Nat.reduceLeDiff, Nat.reduceLT, ↓reduceIte, reduceCtorEq, Nat.reduceBeqDiff, Nat.reduceBneDiff, Int.reduceBNe, Int.reduceBEq, Int.reduceEq, Int.reduceLT, Int.reduceLE, Int.reduceAdd, Int.reduceSub, Int.reduceMul, Int.reduceNeg, List.reduceReplicate, Int.reduceToNat]
end Go.Proofs.Ytjnopnlgcmlkfaa.G

namespace Go.Proofs.Ytjnopnlgcmlkfaa.G
open Go.BX
set_option linter.unusedSimpArgs false
set_option linter.unusedVariables false
end Go.Proofs.Ytjnopnlgcmlkfaa.G

namespace Go.Proofs.Ytjnopnlgcmlkfaa.G
open Go.BX
set_option linter.unusedSimpArgs false
set_option linter.unusedVariables false
theorem awakeS_ok : PCall Cx 5 [] (.bool true) := ⟨3000, by kernel_rfl⟩
end Go.Proofs.Ytjnopnlgcmlkfaa.G

namespace Go.Proofs.Ytjnopnlgcmlkfaa.G
open Go.BX
set_option linter.unusedSimpArgs false
set_option linter.unusedVariables false
end Go.Proofs.Ytjnopnlgcmlkfaa.G

namespace Go.Proofs.Ytjnopnlgcmlkfaa.G
open Go.BX
set_option linter.unusedSimpArgs false
set_option linter.unusedVariables false
theorem cut_all (P : List Pr) (room : Nat) : ∀ k, (List.range k).flatMap (piece P room) = P.take (k * room)
  | 0 => by simp
  | k + 1 => by
    rw [List.range_succ, List.flatMap_append, cut_all P room k, Nat.succ_mul, List.take_add]
    simp [piece]
theorem flat_len {f g : Nat → List Pr} {l : List Nat} (h : ∀ r, r ∈ l → (f r).length = (g r).length) : (l.flatMap f).length = (l.flatMap g).length := by
  induction l with
  | nil => rfl
  | cons x l ih => rw [List.flatMap_cons, List.flatMap_cons, List.length_append, List.length_append, h x (by simp), ih (fun r hr => h r (by simp [hr]))]
theorem Pcs.all {room : Nat} {P : List Pr} {ys : List (AV × List Pr)} (h : Pcs room P (ys.map (·.2))) : (∀ κ, ofKey κ (ys.flatMap (·.2)) = ofKey κ P) ∧ (ys.flatMap (·.2)).length = P.length := by
  have hf := h.full
  rw [List.length_map] at hf
  have hp : (List.range ys.length).flatMap (piece P room) = P := by
    rw [cut_all, List.take_of_length_le hf]
  have hs : ∀ r, r ∈ List.range ys.length → IsSort (piece P room r) (xsO ys r) := by
    intro r hr
    have hr' := List.mem_range.mp hr
    have := h.srt r (by rw [List.length_map]; exact hr')
    rw [List.getElem_map] at this
    rw [(vsO_get hr').2]
    exact this
  rw [← restO]
  unfold rest
  simp only [List.drop_zero]
  constructor
  · intro κ
    conv => rhs; rw [← hp]
    rw [ofKey_flat, ofKey_flat]
    exact flat_congr fun r hr => (hs r hr).keys κ
  · conv => rhs; rw [← hp]
    exact flat_len fun r hr => (hs r hr).len
section
variable {fn : FuncId} {T : Nat → AV} {ds : List ADef} {ro : Option Nat} {k : List AItem} {Q : AV → AHeap → Prop} {dst : Option Nat} {os : List AO}
end
end Go.Proofs.Ytjnopnlgcmlkfaa.G
namespace Go.Proofs.Ytjnopnlgcmlkfaa.G
open Go.BX
set_option linter.unusedSimpArgs false
set_option linter.unusedVariables false
section
variable {fn : FuncId} {T : Nat → AV} {ds : List ADef} {ro : Option Nat} {k : List AItem} {Q : AV → AHeap → Prop} {dst : Option Nat} {os : List AO}
end
end Go.Proofs.Ytjnopnlgcmlkfaa.G
namespace Go.Proofs.Ytjnopnlgcmlkfaa.G
open Go.BX
set_option linter.unusedSimpArgs false
set_option linter.unusedVariables false
theorem toAF_out (l : List Pr) : ∃ w, InE w l ∧ toAF (.ok l) = .tuple [w, .int .i64 0] := by
  cases l with
  | nil => exact ⟨.nilS, .inl ⟨rfl, rfl⟩, rfl⟩
  | cons p r => exact ⟨_, .inr (.inr rfl), rfl⟩
end Go.Proofs.Ytjnopnlgcmlkfaa.G

namespace Go.Proofs.Ytjnopnlgcmlkfaa.G
open Go.BX
set_option linter.unusedSimpArgs false
set_option linter.unusedVariables false
def opF (w : Bytes) (a b : Vl) : Option Vl := if (foldR w a b).2 = 0 then some (foldR w a b).1 else none
def fvF (w : Bytes) : Vl → List Vl → Option Vl
  | a, [] => some a
  | a, b :: r => match opF w a b with
    | some c => fvF w c r
    | none => none
theorem fvF_cons {w : Bytes} {a b : Vl} {r : List Vl} : fvF w a (b :: r) = match opF w a b with | some c => fvF w c r | none => none := rfl
section
variable {w : Bytes} (hw : isF w = true)
include hw
theorem opF_some {a b c : Vl} (ha : okV a = true) (hb : okV b = true) : opF w a b = some c ↔ (a.k = b.k ∧ goodK w a.k) ∧ c = gF w a b := by
  unfold opF
  by_cases h : a.k = b.k ∧ goodK w a.k
  · rw [foldR_g hw ha hb h.1 h.2, if_pos rfl]
    exact ⟨fun e => ⟨h, (Option.some.inj e).symm⟩, fun e => by rw [e.2]⟩
  · rw [foldR_13 hw ha hb h, if_neg (by decide)]
    exact ⟨fun e => by (cases e), fun e => absurd e.1 h⟩
theorem opF_ok {a b c : Vl} (ha : okV a = true) (hb : okV b = true) (h : opF w a b = some c) : okV c = true ∧ c.k = a.k := by
  obtain ⟨⟨h1, h2⟩, rfl⟩ := (opF_some hw ha hb).mp h
  exact gF_ok ha hb h1 h2
theorem fvF_ok : ∀ {r : List Vl} {a v : Vl}, okV a = true → (∀ x, x ∈ r → okV x = true) → fvF w a r = some v → okV v = true ∧ v.k = a.k
  | [], a, v, ha, hr, h => by cases h; exact ⟨ha, rfl⟩
  | b :: r, a, v, ha, hr, h => by
    rw [fvF_cons] at h
    cases ho : opF w a b with
    | none => rw [ho] at h; cases h
    | some c =>
      rw [ho] at h
      have hc := opF_ok hw ha (hr b (by simp)) ho
      have := fvF_ok (r := r) hc.1 (fun x hx => hr x (by simp [hx])) h
      exact ⟨this.1, by rw [this.2, hc.2]⟩
theorem opF_a1 {a b c ab r : Vl} (ha : okV a = true) (hb : okV b = true) (hc : okV c = true) (h1 : opF w a b = some ab) (h2 : opF w ab c = some r) : ∃ bc, opF w b c = some bc ∧ opF w a bc = some r := by
  have hab := opF_ok hw ha hb h1
  obtain ⟨⟨e1, e2⟩, rfl⟩ := (opF_some hw ha hb).mp h1
  obtain ⟨⟨e3, e4⟩, rfl⟩ := (opF_some hw hab.1 hc).mp h2
  have e5 : b.k = c.k := by rw [← e1, ← hab.2]; exact e3
  have e6 : goodK w b.k := by rw [← e1]; exact e2
  have hbc := gF_ok hb hc e5 e6
  refine ⟨gF w b c, (opF_some hw hb hc).mpr ⟨⟨e5, e6⟩, rfl⟩, (opF_some hw ha hbc.1).mpr ⟨⟨by rw [hbc.2]; exact e1, e2⟩, gF_assoc ha hb hc e1 e5 e2⟩⟩
theorem opF_a2 {a b c bc r : Vl} (ha : okV a = true) (hb : okV b = true) (hc : okV c = true) (h1 : opF w b c = some bc) (h2 : opF w a bc = some r) : ∃ ab, opF w a b = some ab ∧ opF w ab c = some r := by
  have hbc := opF_ok hw hb hc h1
  obtain ⟨⟨e1, e2⟩, rfl⟩ := (opF_some hw hb hc).mp h1
  obtain ⟨⟨e3, e4⟩, rfl⟩ := (opF_some hw ha hbc.1).mp h2
  have e5 : a.k = b.k := by rw [← hbc.2]; exact e3
  have hab := gF_ok ha hb e5 e4
  refine ⟨gF w a b, (opF_some hw ha hb).mpr ⟨⟨e5, e4⟩, rfl⟩, (opF_some hw hab.1 hc).mpr ⟨⟨by rw [hab.2, e5]; exact e1, by rw [hab.2]; exact e4⟩, (gF_assoc ha hb hc e5 e1 e4).symm⟩⟩
theorem fv_split1 : ∀ {r : List Vl} {a b ab v : Vl}, okV a = true → okV b = true → (∀ x, x ∈ r → okV x = true) → opF w a b = some ab → fvF w ab r = some v → ∃ c, fvF w b r = some c ∧ opF w a c = some v
  | [], a, b, ab, v, ha, hb, hr, h1, h2 => by cases h2; exact ⟨b, rfl, h1⟩
  | x :: r, a, b, ab, v, ha, hb, hr, h1, h2 => by
    rw [fvF_cons] at h2
    have hx := hr x (by simp)
    cases ho : opF w ab x with
    | none => rw [ho] at h2; cases h2
    | some abx =>
      rw [ho] at h2
      obtain ⟨bx, e1, e2⟩ := opF_a1 hw ha hb hx h1 ho
      have hbx := opF_ok hw hb hx e1
      obtain ⟨c, e3, e4⟩ := fv_split1 (r := r) ha hbx.1 (fun y hy => hr y (by simp [hy])) e2 h2
      exact ⟨c, by rw [fvF_cons, e1]; exact e3, e4⟩
theorem fv_split2 : ∀ {r : List Vl} {a b c v : Vl}, okV a = true → okV b = true → (∀ x, x ∈ r → okV x = true) → fvF w b r = some c → opF w a c = some v → ∃ ab, opF w a b = some ab ∧ fvF w ab r = some v
  | [], a, b, c, v, ha, hb, hr, h1, h2 => by cases h1; exact ⟨v, h2, rfl⟩
  | x :: r, a, b, c, v, ha, hb, hr, h1, h2 => by
    rw [fvF_cons] at h1
    have hx := hr x (by simp)
    cases ho : opF w b x with
    | none => rw [ho] at h1; cases h1
    | some bx =>
      rw [ho] at h1
      have hbx := opF_ok hw hb hx ho
      obtain ⟨abx, e1, e2⟩ := fv_split2 (r := r) ha hbx.1 (fun y hy => hr y (by simp [hy])) h1 h2
      obtain ⟨ab, e3, e4⟩ := opF_a2 hw ha hb hx ho e1
      exact ⟨ab, e3, by rw [fvF_cons, e4]; exact e2⟩
theorem fv_join {r : List Vl} {a b u : Vl} (ha : okV a = true) (hb : okV b = true) (hr : ∀ x, x ∈ r → okV x = true) (h : fvF w b r = some u) : fvF w a (b :: r) = opF w a u := by
  cases ho : opF w a u with
  | some z =>
    obtain ⟨ab, e1, e2⟩ := fv_split2 hw ha hb hr h ho
    rw [fvF_cons, e1]; exact e2
  | none =>
    cases hf : fvF w a (b :: r) with
    | none => rfl
    | some z =>
      rw [fvF_cons] at hf
      cases hab : opF w a b with
      | none => rw [hab] at hf; cases hf
      | some ab =>
        rw [hab] at hf
        obtain ⟨c, e1, e2⟩ := fv_split1 hw ha hb hr hab hf
        rw [h] at e1
        cases e1
        rw [ho] at e2; cases e2
end
theorem fvF_append {w : Bytes} : ∀ (r s : List Vl) (a : Vl), fvF w a (r ++ s) = match fvF w a r with | some c => fvF w c s | none => none
  | [], s, a => rfl
  | b :: r, s, a => by
    rw [List.cons_append, fvF_cons, fvF_cons]
    cases opF w a b with
    | none => rfl
    | some c => exact fvF_append r s c
def rsF (w : Bytes) : List Pr → Option (List Pr)
  | [] => some []
  | p :: r => (fvF w (fstP p) (r.map fstP)).map fun v => [setP p v]
def AllOk (l : List Pr) : Prop := ∀ p, p ∈ l → okV (fstP p) = true
def Sto (l : List Pr) : Prop := l.Pairwise fun p q => lessB p.key q.key = true
theorem ofKey_cons (κ : Bytes) (p : Pr) (l : List Pr) : ofKey κ (p :: l) = if p.key = κ then p :: ofKey κ l else ofKey κ l := by
  unfold ofKey
  by_cases h : p.key = κ
  · rw [if_pos h, List.filter_cons_of_pos (by simpa using h)]
  · rw [if_neg h, List.filter_cons_of_neg (by simpa using h)]
theorem ofKey_no {κ : Bytes} {l : List Pr} (h : ∀ q, q ∈ l → q.key ≠ κ) : ofKey κ l = [] := by
  unfold ofKey
  rw [List.filter_eq_nil_iff]
  intro q hq
  simpa using h q hq
theorem less_ne {a b : Bytes} (h : lessB a b = true) : a ≠ b := by
  rintro rfl
  rw [bl_irr] at h; cases h
theorem goF_law {w : Bytes} (hw : isF w = true) : ∀ (rest done : List Pr) (cur : Pr), AllOk (cur :: rest) → (cur :: rest).Pairwise (fun p q => ltP q p = false) → Sto (done ++ [cur]) → (∀ d, d ∈ done → ∀ q, q ∈ cur :: rest → lessB d.key q.key = true) →
    match goF w done cur rest with
    | .ok out => Sto out ∧ ∀ κ, (ofKey κ done = [] → rsF w (ofKey κ (cur :: rest)) = some (ofKey κ out)) ∧ (ofKey κ done ≠ [] → ofKey κ out = ofKey κ done)
    | .error e => e = 13 ∧ ∃ κ, rsF w (ofKey κ (cur :: rest)) = none
  | [], done, cur, hok, hord, hst, hlt => by
    have e : goF w done cur [] = .ok (done ++ [cur]) := rfl
    rw [e]
    refine ⟨hst, fun κ => ⟨fun h0 => ?_, fun h0 => ?_⟩⟩
    · rw [ofKey_app, h0, List.nil_append, ofKey_cons]
      split <;> rfl
    · rw [ofKey_app, ofKey_cons]
      have hc : cur.key ≠ κ := by
        intro hk
        obtain ⟨d, hd⟩ := List.exists_mem_of_ne_nil _ h0
        unfold ofKey at hd
        rw [List.mem_filter] at hd
        have h2 := hlt d hd.1 cur (by simp)
        have h3 : d.key = κ := by simpa using hd.2
        exact less_ne h2 (h3.trans hk.symm)
      rw [if_neg hc]
      show ofKey κ done ++ [] = _
      rw [List.append_nil]
  | p :: rest, done, cur, hok, hord, hst, hlt => by
    have e : goF w done cur (p :: rest) = if p.key = cur.key then (if (foldR w (fstP cur) (fstP p)).2 = 0 then goF w done (setP cur (foldR w (fstP cur) (fstP p)).1) rest else .error (foldR w (fstP cur) (fstP p)).2) else goF w (done ++ [cur]) p rest := rfl
    rw [e]
    have oc := hok cur (by simp)
    have op := hok p (by simp)
    by_cases hk : p.key = cur.key
    · rw [if_pos hk]
      by_cases hz : (foldR w (fstP cur) (fstP p)).2 = 0
      · rw [if_pos hz]
        have ho : opF w (fstP cur) (fstP p) = some (foldR w (fstP cur) (fstP p)).1 := by unfold opF; rw [if_pos hz]
        generalize hv : (foldR w (fstP cur) (fstP p)).1 = v at ho ⊢
        have hvo := (opF_ok hw oc op ho).1
        have hkey : ∀ κ, rsF w (ofKey κ (setP cur v :: rest)) = rsF w (ofKey κ (cur :: p :: rest)) := by
          intro κ
          rw [ofKey_cons, ofKey_cons, ofKey_cons]
          by_cases h : cur.key = κ
          · rw [if_pos h, if_pos h, if_pos (hk.trans h)]
            show (fvF w (fstP (setP cur v)) _).map _ = (fvF w (fstP cur) (fstP p :: _)).map _
            rw [fvF_cons, ho]
          · rw [if_neg h, if_neg h, if_neg (by rw [hk]; exact h)]
        have ih := goF_law hw rest done (setP cur v) (by
          intro q hq
          rcases List.mem_cons.mp hq with rfl | hq
          · exact hvo
          · exact hok q (by simp [hq])) (by
          rw [List.pairwise_cons] at hord ⊢
          have h2 := hord.2
          rw [List.pairwise_cons] at h2
          exact ⟨fun q hq => hord.1 q (by simp [hq]), h2.2⟩) (by
          unfold Sto at hst ⊢
          rw [List.pairwise_append] at hst ⊢
          refine ⟨hst.1, List.pairwise_singleton _ _, fun a ha b hb => ?_⟩
          simp only [List.mem_singleton] at hb
          subst hb
          exact hst.2.2 a ha cur (by simp)) (by
          intro d hd q hq
          rcases List.mem_cons.mp hq with rfl | hq
          · exact hlt d hd cur (by simp)
          · exact hlt d hd q (by simp [hq]))
        revert ih
        cases goF w done (setP cur v) rest with
        | ok out =>
          rintro ⟨i1, i2⟩
          refine ⟨i1, fun κ => ⟨fun h0 => ?_, (i2 κ).2⟩⟩
          rw [← hkey]; exact (i2 κ).1 h0
        | error e =>
          rintro ⟨i1, κ, i2⟩
          exact ⟨i1, κ, by rw [← hkey]; exact i2⟩
      · rw [if_neg hz]
        have ho : opF w (fstP cur) (fstP p) = none := by unfold opF; rw [if_neg hz]
        refine ⟨?_, cur.key, ?_⟩
        · by_cases hg : (fstP cur).k = (fstP p).k ∧ goodK w (fstP cur).k
          · rw [foldR_g hw oc op hg.1 hg.2] at hz; exact absurd rfl hz
          · rw [foldR_13 hw oc op hg]
        · rw [ofKey_cons, ofKey_cons, if_pos rfl, if_pos hk]
          show (fvF w (fstP cur) (fstP p :: _)).map _ = none
          rw [fvF_cons, ho]
          rfl
    · rw [if_neg hk]
      have hord' := hord
      rw [List.pairwise_cons] at hord'
      obtain ⟨hc1, hc2⟩ := hord'
      have hcp : lessB cur.key p.key = true := by
        cases h : lessB cur.key p.key with
        | true => rfl
        | false => exact absurd (bl_tot _ _ (hc1 p (by simp)) h) hk
      have hcq : ∀ q, q ∈ p :: rest → lessB cur.key q.key = true := by
        intro q hq
        rcases List.mem_cons.mp hq with rfl | hq
        · exact hcp
        · rw [List.pairwise_cons] at hc2
          have h1 := hc2.1 q hq
          have h1' : lessB q.key p.key = false := h1
          by_cases he : q.key = p.key
          · rw [he]; exact hcp
          · have h2 : lessB p.key q.key = true := by
              cases h : lessB p.key q.key with
              | true => rfl
              | false => exact absurd (bl_tot _ _ h1' h) he
            exact bl_trans _ _ _ hcp h2
      have hnone : ofKey cur.key (p :: rest) = [] := ofKey_no (fun q hq he => less_ne (hcq q hq) he.symm)
      have ih := goF_law hw rest (done ++ [cur]) p (fun q hq => hok q (List.mem_cons_of_mem _ hq)) hc2 (by
          unfold Sto at hst ⊢
          rw [List.pairwise_append]
          refine ⟨hst, List.pairwise_singleton _ _, fun a ha b hb => ?_⟩
          simp only [List.mem_singleton] at hb
          subst hb
          rcases List.mem_append.mp ha with ha | ha
          · exact hlt a ha _ (by simp)
          · simp only [List.mem_singleton] at ha
            subst ha
            exact hcp) (by
          intro d hd q hq
          rcases List.mem_append.mp hd with hd | hd
          · exact hlt d hd q (List.mem_cons_of_mem _ hq)
          · simp only [List.mem_singleton] at hd
            subst hd
            exact hcq q hq)
      have hdn : ofKey cur.key done = [] := ofKey_no (fun d hd he => less_ne (hlt d hd cur (by simp)) he)
      revert ih
      cases goF w (done ++ [cur]) p rest with
      | ok out =>
        rintro ⟨i1, i2⟩
        refine ⟨i1, fun κ => ?_⟩
        have i3 := i2 κ
        rw [ofKey_app, ofKey_cons] at i3
        rw [ofKey_cons]
        by_cases h : cur.key = κ
        · subst h
          rw [if_pos rfl] at i3 ⊢
          rw [hdn, List.nil_append] at i3
          refine ⟨fun _ => ?_, fun h0 => absurd hdn h0⟩
          rw [hnone]
          have := i3.2 (by simp)
          rw [this]
          rfl
        · rw [if_neg h] at i3 ⊢
          have e0 : ofKey κ ([] : List Pr) = [] := rfl
          rw [e0, List.append_nil] at i3
          exact i3
      | error e =>
        rintro ⟨i1, κ, i2⟩
        refine ⟨i1, κ, ?_⟩
        rw [ofKey_cons]
        by_cases h : cur.key = κ
        · subst h
          rw [hnone] at i2
          cases i2
        · rw [if_neg h]; exact i2
theorem Sto.ord {l : List Pr} (h : Sto l) : l.Pairwise fun p q => ltP q p = false := by
  refine List.Pairwise.imp ?_ h
  intro a b hab
  show lessB b.key a.key = false
  cases hb : lessB b.key a.key with
  | false => rfl
  | true =>
    have := bl_trans _ _ _ hab hb
    rw [bl_irr] at this; cases this
theorem foldL_law {w : Bytes} (hw : isF w = true) {l : List Pr} (hok : AllOk l) (hord : l.Pairwise fun p q => ltP q p = false) :
    match foldL w l with
    | .ok out => (out.Pairwise fun p q => ltP q p = false) ∧ ∀ κ, rsF w (ofKey κ l) = some (ofKey κ out)
    | .error e => e = 13 ∧ ∃ κ, rsF w (ofKey κ l) = none := by
  cases l with
  | nil => exact ⟨List.Pairwise.nil, fun κ => rfl⟩
  | cons p r =>
    have h := goF_law hw r [] p hok hord (List.pairwise_singleton _ _) (fun d hd => by cases hd)
    have e : foldL w (p :: r) = goF w [] p r := rfl
    rw [e]
    revert h
    cases goF w [] p r with
    | ok out =>
      rintro ⟨h1, h2⟩
      exact ⟨h1.ord, fun κ => (h2 κ).1 rfl⟩
    | error e => exact fun h => h
theorem rs_ok {w : Bytes} (hw : isF w = true) {l b : List Pr} (hok : AllOk l) (h : rsF w l = some b) : (l = [] ∧ b = []) ∨ ∃ p r v, l = p :: r ∧ fvF w (fstP p) (r.map fstP) = some v ∧ b = [setP p v] ∧ okV v = true := by
  cases l with
  | nil => cases h; exact .inl ⟨rfl, rfl⟩
  | cons p r =>
    have h' : (fvF w (fstP p) (r.map fstP)).map (fun v => [setP p v]) = some b := h
    rw [Option.map_eq_some_iff] at h'
    obtain ⟨v, h1, rfl⟩ := h'
    refine .inr ⟨p, r, v, rfl, h1, rfl, (fvF_ok hw (hok p (by simp)) ?_ h1).1⟩
    intro x hx
    rw [List.mem_map] at hx
    obtain ⟨q, hq, rfl⟩ := hx
    exact hok q (by simp [hq])
theorem AllOk.vals {l : List Pr} (h : AllOk l) : ∀ x, x ∈ l.map fstP → okV x = true := by
  intro x hx
  rw [List.mem_map] at hx
  obtain ⟨q, hq, rfl⟩ := hx
  exact h q hq
theorem AllOk.key {l : List Pr} (h : AllOk l) (κ : Bytes) : AllOk (ofKey κ l) := fun p hp => h p (List.mem_filter.mp hp).1
theorem rs_join {w : Bytes} (hw : isF w = true) {A B a b : List Pr} (hA : AllOk A) (hB : AllOk B) (h1 : rsF w A = some a) (h2 : rsF w B = some b) : rsF w (A ++ B) = rsF w (a ++ b) := by
  rcases rs_ok hw hA h1 with ⟨rfl, rfl⟩ | ⟨p, r, v, rfl, e1, rfl, ov⟩
  · rw [List.nil_append, List.nil_append]
    rcases rs_ok hw hB h2 with ⟨rfl, rfl⟩ | ⟨q, t, u, rfl, e2, rfl, ou⟩
    · rfl
    · rw [h2]; rfl
  · rcases rs_ok hw hB h2 with ⟨rfl, rfl⟩ | ⟨q, t, u, rfl, e2, rfl, ou⟩
    · rw [List.append_nil, List.append_nil, h1]; rfl
    · show (fvF w (fstP p) ((r ++ q :: t).map fstP)).map (fun v => [setP p v]) = (fvF w v [u]).map (fun z => [setP (setP p v) z])
      rw [List.map_append, fvF_append, e1]
      show (fvF w v (fstP q :: t.map fstP)).map (fun v => [setP p v]) = _
      rw [fv_join hw ov (hB q (by simp)) (AllOk.vals fun z hz => hB z (by simp [hz])) e2]
      rw [fvF_cons]
      cases opF w v u <;> rfl
theorem rs_left {w : Bytes} {A B : List Pr} (h : rsF w A = none) : rsF w (A ++ B) = none := by
  cases A with
  | nil => cases h
  | cons p r =>
    have h' : (fvF w (fstP p) (r.map fstP)).map (fun v => [setP p v]) = none := h
    rw [Option.map_eq_none_iff] at h'
    show (fvF w (fstP p) ((r ++ B).map fstP)).map _ = none
    rw [List.map_append, fvF_append, h']
    rfl
theorem rs_right {w : Bytes} (hw : isF w = true) {A B : List Pr} (hA : AllOk A) (hB : AllOk B) (h : rsF w B = none) : rsF w (A ++ B) = none := by
  cases hR : rsF w (A ++ B) with
  | none => rfl
  | some z =>
    cases B with
    | nil => cases h
    | cons q t =>
      have h' : (fvF w (fstP q) (t.map fstP)).map (fun v => [setP q v]) = none := h
      rw [Option.map_eq_none_iff] at h'
      cases A with
      | nil => rw [List.nil_append, h] at hR; cases hR
      | cons p r =>
        have hR' : (fvF w (fstP p) ((r ++ q :: t).map fstP)).map (fun v => [setP p v]) = some z := hR
        rw [List.map_append, fvF_append] at hR'
        cases hc : fvF w (fstP p) (r.map fstP) with
        | none => rw [hc] at hR'; cases hR'
        | some c =>
          rw [hc] at hR'
          replace hR' : (fvF w c (fstP q :: t.map fstP)).map (fun v => [setP p v]) = some z := hR'
          rw [fvF_cons] at hR'
          have oc := (fvF_ok hw (hA p (by simp)) (AllOk.vals fun z hz => hA z (by simp [hz])) hc).1
          cases ho : opF w c (fstP q) with
          | none => rw [ho] at hR'; cases hR'
          | some cq =>
            rw [ho] at hR'
            replace hR' : (fvF w cq (t.map fstP)).map (fun v => [setP p v]) = some z := hR'
            rw [Option.map_eq_some_iff] at hR'
            obtain ⟨v, e1, e2⟩ := hR'
            obtain ⟨c', e3, _⟩ := fv_split1 hw oc (hB q (by simp)) (AllOk.vals fun z hz => hB z (by simp [hz])) ho e1
            rw [h'] at e3; cases e3
theorem IsSort.allOk {l m : List Pr} (h : IsSort l m) (hl : AllOk l) : AllOk m := by
  intro p hp
  have h1 := mem_ofKey.mpr hp
  rw [h.keys] at h1
  exact hl p (mem_ofKey.mp h1)
theorem sort_keys {l1 l2 s1 s2 s : List Pr} (h1 : IsSort l1 s1) (h2 : IsSort l2 s2) (h : IsSort (l1 ++ l2) s) (κ : Bytes) : ofKey κ s = ofKey κ s1 ++ ofKey κ s2 := by
  rw [h.keys, ofKey_app, h1.keys, h2.keys]
theorem folds_err {w : Bytes} (hw : isF w = true) {l1 l2 s1 s2 s : List Pr} (o1 : AllOk l1) (o2 : AllOk l2) (h1 : IsSort l1 s1) (h2 : IsSort l2 s2) (h : IsSort (l1 ++ l2) s)
    (he : (∃ e, foldL w s1 = .error e) ∨ ∃ e, foldL w s2 = .error e) : foldL w s = .error 13 := by
  have ok : AllOk s := h.allOk (fun p hp => (List.mem_append.mp hp).elim (o1 p) (o2 p))
  have k1 := h1.allOk o1
  have k2 := h2.allOk o2
  have hs := foldL_law hw ok h.ord
  have hn : ∃ κ, rsF w (ofKey κ s) = none := by
    rcases he with ⟨e, he⟩ | ⟨e, he⟩
    · have := foldL_law hw k1 h1.ord
      rw [he] at this
      obtain ⟨_, κ, h3⟩ := this
      exact ⟨κ, by rw [sort_keys h1 h2 h]; exact rs_left h3⟩
    · have := foldL_law hw k2 h2.ord
      rw [he] at this
      obtain ⟨_, κ, h3⟩ := this
      exact ⟨κ, by rw [sort_keys h1 h2 h]; exact rs_right hw (k1.key κ) (k2.key κ) h3⟩
  cases hf : foldL w s with
  | error e => rw [hf] at hs; rw [hs.1]
  | ok out =>
    rw [hf] at hs
    obtain ⟨κ, h3⟩ := hn
    rw [hs.2 κ] at h3; cases h3
theorem out_ok {w : Bytes} (hw : isF w = true) {s a : List Pr} (hk : AllOk s) (ha : ∀ κ, rsF w (ofKey κ s) = some (ofKey κ a)) : AllOk a := by
  intro p hp
  have h1 := mem_ofKey.mpr hp
  rcases rs_ok hw (hk.key p.key) (ha p.key) with ⟨_, h⟩ | ⟨q, r, v, _, _, h, ov⟩
  · rw [h] at h1; cases h1
  · rw [h] at h1
    simp only [List.mem_singleton] at h1
    rw [h1]; exact ov
theorem folds_ok' {w : Bytes} (hw : isF w = true) {l1 l2 s1 s2 s a b j : List Pr} (o1 : AllOk l1) (o2 : AllOk l2) (h1 : IsSort l1 s1) (h2 : IsSort l2 s2) (h : IsSort (l1 ++ l2) s)
    (ha : foldL w s1 = .ok a) (hb : foldL w s2 = .ok b) (hj : IsSort (a ++ b) j) : foldL w s = foldL w j := by
  have ok : AllOk s := h.allOk (fun p hp => (List.mem_append.mp hp).elim (o1 p) (o2 p))
  have k1 := h1.allOk o1
  have k2 := h2.allOk o2
  have r1 := foldL_law hw k1 h1.ord
  have r2 := foldL_law hw k2 h2.ord
  rw [ha] at r1
  rw [hb] at r2
  have okj : AllOk j := hj.allOk (fun p hp => (List.mem_append.mp hp).elim (out_ok hw k1 r1.2 p) (out_ok hw k2 r2.2 p))
  have hs := foldL_law hw ok h.ord
  have hjl := foldL_law hw okj hj.ord
  have key : ∀ κ, rsF w (ofKey κ s) = rsF w (ofKey κ j) := by
    intro κ
    rw [sort_keys h1 h2 h, hj.keys, ofKey_app]
    exact rs_join hw (k1.key κ) (k2.key κ) (r1.2 κ) (r2.2 κ)
  cases hf : foldL w s with
  | ok x =>
    rw [hf] at hs
    cases hg : foldL w j with
    | ok y =>
      rw [hg] at hjl
      have : x = y := uniq_sort (fun κ => by
        have e1 := hs.2 κ
        have e2 := hjl.2 κ
        rw [key κ, e2] at e1
        exact (Option.some.inj e1).symm) hs.1 hjl.1
      rw [this]
    | error e =>
      rw [hg] at hjl
      obtain ⟨_, κ, h3⟩ := hjl
      rw [← key κ, hs.2 κ] at h3; cases h3
  | error e =>
    rw [hf] at hs
    obtain ⟨rfl, κ, h3⟩ := hs
    cases hg : foldL w j with
    | ok y =>
      rw [hg] at hjl
      rw [key κ, hjl.2 κ] at h3; cases h3
    | error e' =>
      rw [hg] at hjl
      rw [hjl.1]
end Go.Proofs.Ytjnopnlgcmlkfaa.G

namespace Go.Proofs.Ytjnopnlgcmlkfaa.G
open Go.BX
set_option linter.unusedSimpArgs false
set_option linter.unusedVariables false
theorem foldL_len {w : Bytes} : ∀ (r done : List Pr) (p : Pr) (out : List Pr), goF w done p r = .ok out → out.length ≤ done.length + 1 + r.length
  | [], done, p, out, h => by
    have h' : Except.ok (ε := Int) (done ++ [p]) = .ok out := h
    cases h'
    simp
  | q :: r, done, p, out, h => by
    have h' : (if q.key = p.key then (if (foldR w (fstP p) (fstP q)).2 = 0 then goF w done (setP p (foldR w (fstP p) (fstP q)).1) r else .error (foldR w (fstP p) (fstP q)).2) else goF w (done ++ [p]) q r) = .ok out := h
    rw [List.length_cons]
    split at h'
    · split at h'
      · have := foldL_len r _ _ _ h'; omega
      · cases h'
    · have := foldL_len r _ _ _ h'
      rw [List.length_append, List.length_singleton] at this
      omega
theorem foldL_len' {w : Bytes} {l out : List Pr} (h : foldL w l = .ok out) : out.length ≤ l.length := by
  cases l with
  | nil => cases h; simp
  | cons p r =>
    have := foldL_len r [] p out h
    simp at this
    rw [List.length_cons]
    omega
end Go.Proofs.Ytjnopnlgcmlkfaa.G

namespace Go.Proofs.Ytjnopnlgcmlkfaa.G
open Go.BX
set_option linter.unusedSimpArgs false
set_option linter.unusedVariables false
def allOf (xs : List (AV × List Pr)) : List Pr := xs.flatMap (·.2)
def rowsOf (xs : List (AV × List Pr)) : List (List AV) := xs.map fun x => [x.1]
theorem allOf_succ {xs : List (AV × List Pr)} {i : Nat} (h : i < xs.length) : allOf (xs.take (i + 1)) = allOf (xs.take i) ++ (xs[i]).2 := by
  unfold allOf
  rw [List.take_succ_eq_append_getElem h, List.flatMap_append]
  simp
theorem rows_get {xs : List (AV × List Pr)} {i : Nat} (h : i < xs.length) : (rowsOf xs)[i]? = some [(xs[i]).1] := by
  unfold rowsOf
  rw [List.getElem?_map, List.getElem?_eq_getElem h]
  rfl
theorem allOf_le {xs : List (AV × List Pr)} {i : Nat} : (allOf (xs.take i)).length ≤ (allOf xs).length := by
  have : allOf xs = allOf (xs.take i) ++ allOf (xs.drop i) := by
    unfold allOf
    rw [← List.flatMap_append, List.take_append_drop]
  rw [this, List.length_append]
  omega
theorem cc1_all {xs : List (AV × List Pr)} {b : Nat} {H : AHeap} {Q : AV → AHeap → Prop} (hx : ∀ x, x ∈ xs → InE x.1 x.2) (hm : xs.length ≤ 1000) (hl : (allOf xs).length ≤ 1000000) (hb : H.at_ b = .cells 22 1 (rowsOf xs))
    (hK : ∀ (T : Nat → AV), T 0 = .slc b 1 0 xs.length → T 3 = .int .i64 ((allOf xs).length : Int) → Run Cx 27 T [] none [.code c27_27] H Q) :
    ∀ (j i : Nat) (T : Nat → AV), i + j = xs.length → T 0 = .slc b 1 0 xs.length → T 9 = .slc b 1 0 xs.length → T 10 = .int .i64 (xs.length : Int) → T 11 = .int .i64 (i : Int) → T 3 = .int .i64 ((allOf (xs.take i)).length : Int) →
      Run Cx 27 T [] none [.inLoop c27_9, .inBlock 0, .code c27_27] H Q
  | 0, i, T, hij, t0, t9, t10, t11, t3 => by
    rw [run_inLoop]
    have h0 : ¬ (i : Int) < (xs.length : Int) := by omega
    rw [List.take_of_length_le (by omega)] at t3
    simp only [t0, t3, t9, t10, t11, h0, xx, r27_0, r27_1, r27_2, r27_3.1, r27_3.2.1, r27_3.2.2.1, r27_3.2.2.2.2.1, r27_3.2.2.2.2.2.1, r27_3.2.2.2.2.2.2.1, r27_3.2.2.2.2.2.2.2, r27_4, r27_5, r27_6, res27, tt, bb, bc, ↓bd, Nat.reduceEqDiff, Nat.reduceAdd, Nat.reduceMul, Nat.reduceLeDiff, Nat.reduceLT, ↓reduceIte, reduceCtorEq, Nat.reduceBeqDiff, Nat.reduceBneDiff, Int.reduceBNe, Int.reduceBEq, Int.reduceEq, Int.reduceLT, Int.reduceLE, Int.reduceAdd, Int.reduceSub, Int.reduceMul, Int.reduceNeg, List.reduceReplicate, Int.reduceToNat]
    refine hK _ ?_ ?_
    all_goals simp only [upd_app, t0, t3, Nat.reduceEqDiff, ↓reduceIte]
  | j + 1, i, T, hij, t0, t9, t10, t11, t3 => by
    rw [run_inLoop]
    have hi : i < xs.length := by omega
    have h0 : (i : Int) < (xs.length : Int) := by omega
    have p0 : (0 : Int) ≤ (i : Int) := by omega
    have hg := rows_get hi
    have hv := hx _ (List.getElem_mem hi)
    have hle := hv.len
    simp only [lenOf] at hle
    have hpl := hv.plain
    have hs := allOf_succ hi
    have h1 := allOf_le (xs := xs) (i := i)
    have h2 := allOf_le (xs := xs) (i := i + 1)
    rw [hs, List.length_append] at h2
    have w1 : IntKind.i64.wrap ((i : Int) + 1) = ((i + 1 : Nat) : Int) := by rw [wr64 (by omega) (by omega)]; omega
    have w2 : IntKind.i64.wrap (((allOf (xs.take i)).length : Int) + ((xs[i]).2.length : Int)) = ((allOf (xs.take (i + 1))).length : Int) := by rw [hs, List.length_append, wr64 (by omega) (by omega)]; omega
    have c1 : ¬ ((allOf (xs.take (i + 1))).length : Int) < 0 := by omega
    simp only [t0, t3, t9, t10, t11, h0, p0, hg, hb, hle, hpl, w1, w2, c1, i64, Int.toNat_natCast, xx, r27_0, r27_1, r27_2, r27_3.1, r27_3.2.1, r27_3.2.2.1, r27_3.2.2.2.2.1, r27_3.2.2.2.2.2.1, r27_3.2.2.2.2.2.2.1, r27_3.2.2.2.2.2.2.2, r27_4, r27_5, r27_6, res27, tt, bb, bc, ↓bd, Nat.reduceEqDiff, Nat.reduceAdd, Nat.reduceMul, Nat.reduceLeDiff, Nat.reduceLT, ↓reduceIte, reduceCtorEq, Nat.reduceBeqDiff, Nat.reduceBneDiff, Int.reduceBNe, Int.reduceBEq, Int.reduceEq, Int.reduceLT, Int.reduceLE, Int.reduceAdd, Int.reduceSub, Int.reduceMul, Int.reduceNeg, List.reduceReplicate, Int.reduceToNat]
    refine cc1_all hx hm hl hb hK j (i + 1) _ (by omega) ?_ ?_ ?_ ?_ ?_
    all_goals simp only [upd_app, t0, t9, t10, Nat.reduceEqDiff, ↓reduceIte]
theorem cc2_all {xs : List (AV × List Pr)} {b h0 : Nat} {H0 : AHeap} {Q : AV → AHeap → Prop} (hx : ∀ x, x ∈ xs → InE x.1 x.2) (hm : xs.length ≤ 1000) (hl : (allOf xs).length ≤ 1000000) (hbh : b < h0) (hb : H0.at_ b = .cells 22 1 (rowsOf xs))
    (hK : ∀ d H, Buf h0 d H (allOf xs) → h0 ≤ H.next → (∀ c, c < h0 → H.at_ c = H0.at_ c) → Q d H) :
    ∀ (j i : Nat) (T : Nat → AV) (H : AHeap) (d : AV), i + j = xs.length → T 25 = .slc b 1 0 xs.length → T 26 = .int .i64 (xs.length : Int) → T 27 = .int .i64 (i : Int) → T 6 = d → Buf h0 d H (allOf (xs.take i)) → h0 ≤ H.next → (∀ c, c < h0 → H.at_ c = H0.at_ c) →
      Run Cx 27 T [] none [.inLoop c27_34, .inBlock 2, .code c27_46] H Q
  | 0, i, T, H, d, hij, t25, t26, t27, t6, hd, hh, hk => by
    rw [run_inLoop]
    have c0 : ¬ (i : Int) < (xs.length : Int) := by omega
    rw [List.take_of_length_le (by omega)] at hd
    simp only [t25, t26, t27, t6, c0, xx, r27_0, r27_1, r27_2, r27_3, r27_4, r27_5, r27_6, res27, tt, bb, bc, ↓bd, Nat.reduceEqDiff, Nat.reduceAdd, Nat.reduceMul, Nat.reduceLeDiff, Nat.reduceLT, ↓reduceIte, reduceCtorEq, Nat.reduceBeqDiff, Nat.reduceBneDiff, Int.reduceBNe, Int.reduceBEq, Int.reduceEq, Int.reduceLT, Int.reduceLE, Int.reduceAdd, Int.reduceSub, Int.reduceMul, Int.reduceNeg, List.reduceReplicate, Int.reduceToNat]
    exact hK d H hd hh hk
  | j + 1, i, T, H, d, hij, t25, t26, t27, t6, hd, hh, hk => by
    rw [run_inLoop]
    have hi : i < xs.length := by omega
    have c0 : (i : Int) < (xs.length : Int) := by omega
    have p0 : (0 : Int) ≤ (i : Int) := by omega
    have hg := rows_get hi
    have hv := hx _ (List.getElem_mem hi)
    have hpl := hv.plain
    have hs := allOf_succ hi
    have h2 := allOf_le (xs := xs) (i := i + 1)
    rw [hs, List.length_append] at h2
    have hbH : H.at_ b = .cells 22 1 (rowsOf xs) := by rw [hk b hbh]; exact hb
    have w1 : IntKind.i64.wrap ((i : Int) + 1) = ((i + 1 : Nat) : Int) := by rw [wr64 (by omega) (by omega)]; omega
    obtain ⟨d', H', he, hd', hn', hk'⟩ := app_eq hd hh hv (by omega)
    simp only [t25, t26, t27, t6, c0, p0, hg, hbH, hpl, he, w1, runVH_some, Int.toNat_natCast, xx, r27_0, r27_1, r27_2, r27_3, r27_4, r27_5.1, r27_5.2.1, r27_5.2.2.1, r27_5.2.2.2.1, r27_5.2.2.2.2.1, r27_5.2.2.2.2.2.1, r27_5.2.2.2.2.2.2.2, r27_6, res27, tt, bb, bc, ↓bd, Nat.reduceEqDiff, Nat.reduceAdd, Nat.reduceMul, Nat.reduceLeDiff, Nat.reduceLT, ↓reduceIte, reduceCtorEq, Nat.reduceBeqDiff, Nat.reduceBneDiff, Int.reduceBNe, Int.reduceBEq, Int.reduceEq, Int.reduceLT, Int.reduceLE, Int.reduceAdd, Int.reduceSub, Int.reduceMul, Int.reduceNeg, List.reduceReplicate, Int.reduceToNat]
    refine cc2_all hx hm hl hbh hb hK j (i + 1) _ H' d' (by omega) ?_ ?_ ?_ ?_ (by rw [hs]; exact hd') (by omega) (fun c hc => by rw [hk' c hc]; exact hk c hc)
    all_goals simp only [upd_app, t25, t26, Nat.reduceEqDiff, ↓reduceIte]
section
variable {fn : FuncId} {T : Nat → AV} {ds : List ADef} {ro : Option Nat} {k : List AItem} {Q : AV → AHeap → Prop} {dst : Option Nat} {os : List AO} {H : AHeap}
theorem Concat_call {xs : List (AV × List Pr)} {b : Nat} (hx : ∀ x, x ∈ xs → InE x.1 x.2) (hm : xs.length ≤ 1000) (hl : (allOf xs).length ≤ 1000000) (hbH : b < H.next) (hb : H.at_ b = .cells 22 1 (rowsOf xs))
    (hk : ∀ d H', Buf H.next d H' (allOf xs) → H.next ≤ H'.next → (∀ c, c < H.next → H'.at_ c = H.at_ c) → RunOps Cx fn (putA T dst d) ds ro os k H' Q) :
    RunCall Cx fn T ds ro 27 [.slc b 1 0 xs.length] dst os k H Q := by
  refine call_body pure27 (noext _) body27 ?_
  simp only [i64, r27_0, r27_1.1, r27_1.2.2.1, r27_1.2.2.2.1, r27_1.2.2.2.2.1, r27_1.2.2.2.2.2.1, r27_1.2.2.2.2.2.2.1, r27_1.2.2.2.2.2.2.2, r27_2, r27_3.1, r27_3.2.1, r27_3.2.2.1, r27_3.2.2.2.2.1, r27_3.2.2.2.2.2.1, r27_3.2.2.2.2.2.2.1, r27_3.2.2.2.2.2.2.2, r27_4, r27_5, r27_6, res27, tt, bb, bc, ↓bd, Nat.reduceEqDiff, Nat.reduceAdd, Nat.reduceMul, Nat.reduceLeDiff, Nat.reduceLT, ↓reduceIte, reduceCtorEq, Nat.reduceBeqDiff, Nat.reduceBneDiff, Int.reduceBNe, Int.reduceBEq, Int.reduceEq, Int.reduceLT, Int.reduceLE, Int.reduceAdd, Int.reduceSub, Int.reduceMul, Int.reduceNeg, List.reduceReplicate, Int.reduceToNat]
  refine cc1_all hx hm hl hb ?_ xs.length 0 _ (by omega) ?_ ?_ ?_ ?_ ?_
  · intro T' t0 t3
    by_cases hz : (allOf xs).length = 0
    · rw [hz] at t3
      replace t3 : T' 3 = .int .i64 0 := t3
      simp only [t0, t3, i64, r27_0, r27_1, r27_2, r27_3, r27_4.1, r27_4.2.1, r27_4.2.2.2.1, r27_4.2.2.2.2.1, r27_4.2.2.2.2.2.1, r27_4.2.2.2.2.2.2.1, r27_4.2.2.2.2.2.2.2, r27_5.1, r27_5.2.1, r27_5.2.2.1, r27_5.2.2.2.1, r27_5.2.2.2.2.1, r27_5.2.2.2.2.2.1, r27_5.2.2.2.2.2.2.2, r27_6, res27, tt, bb, bc, ↓bd, Nat.reduceEqDiff, Nat.reduceAdd, Nat.reduceMul, Nat.reduceLeDiff, Nat.reduceLT, ↓reduceIte, reduceCtorEq, Nat.reduceBeqDiff, Nat.reduceBneDiff, Int.reduceBNe, Int.reduceBEq, Int.reduceEq, Int.reduceLT, Int.reduceLE, Int.reduceAdd, Int.reduceSub, Int.reduceMul, Int.reduceNeg, List.reduceReplicate, Int.reduceToNat]
      refine Grow_zero ?_
      simp only [t0, t3, i64, r27_0, r27_1, r27_2, r27_3, r27_4.1, r27_4.2.1, r27_4.2.2.2.1, r27_4.2.2.2.2.1, r27_4.2.2.2.2.2.1, r27_4.2.2.2.2.2.2.1, r27_4.2.2.2.2.2.2.2, r27_5.1, r27_5.2.1, r27_5.2.2.1, r27_5.2.2.2.1, r27_5.2.2.2.2.1, r27_5.2.2.2.2.2.1, r27_5.2.2.2.2.2.2.2, r27_6, res27, tt, bb, bc, ↓bd, Nat.reduceEqDiff, Nat.reduceAdd, Nat.reduceMul, Nat.reduceLeDiff, Nat.reduceLT, ↓reduceIte, reduceCtorEq, Nat.reduceBeqDiff, Nat.reduceBneDiff, Int.reduceBNe, Int.reduceBEq, Int.reduceEq, Int.reduceLT, Int.reduceLE, Int.reduceAdd, Int.reduceSub, Int.reduceMul, Int.reduceNeg, List.reduceReplicate, Int.reduceToNat]
      refine cc2_all (h0 := H.next) (H0 := H) hx hm hl hbH hb hk xs.length 0 _ H .nilS (by omega) ?_ ?_ ?_ ?_ (.inl ⟨rfl, rfl⟩) (Nat.le_refl _) (fun _ _ => rfl)
      all_goals simp only [upd_app, t0, Nat.reduceEqDiff, ↓reduceIte]
      all_goals rfl
    · simp only [t0, t3, i64, r27_0, r27_1, r27_2, r27_3, r27_4.1, r27_4.2.1, r27_4.2.2.2.1, r27_4.2.2.2.2.1, r27_4.2.2.2.2.2.1, r27_4.2.2.2.2.2.2.1, r27_4.2.2.2.2.2.2.2, r27_5.1, r27_5.2.1, r27_5.2.2.1, r27_5.2.2.2.1, r27_5.2.2.2.2.1, r27_5.2.2.2.2.2.1, r27_5.2.2.2.2.2.2.2, r27_6, res27, tt, bb, bc, ↓bd, Nat.reduceEqDiff, Nat.reduceAdd, Nat.reduceMul, Nat.reduceLeDiff, Nat.reduceLT, ↓reduceIte, reduceCtorEq, Nat.reduceBeqDiff, Nat.reduceBneDiff, Int.reduceBNe, Int.reduceBEq, Int.reduceEq, Int.reduceLT, Int.reduceLE, Int.reduceAdd, Int.reduceSub, Int.reduceMul, Int.reduceNeg, List.reduceReplicate, Int.reduceToNat]
      refine Grow_pos (by omega) hl ?_
      intro es
      simp only [t0, t3, i64, r27_0, r27_1, r27_2, r27_3, r27_4.1, r27_4.2.1, r27_4.2.2.2.1, r27_4.2.2.2.2.1, r27_4.2.2.2.2.2.1, r27_4.2.2.2.2.2.2.1, r27_4.2.2.2.2.2.2.2, r27_5.1, r27_5.2.1, r27_5.2.2.1, r27_5.2.2.2.1, r27_5.2.2.2.2.1, r27_5.2.2.2.2.2.1, r27_5.2.2.2.2.2.2.2, r27_6, res27, tt, bb, bc, ↓bd, Nat.reduceEqDiff, Nat.reduceAdd, Nat.reduceMul, Nat.reduceLeDiff, Nat.reduceLT, ↓reduceIte, reduceCtorEq, Nat.reduceBeqDiff, Nat.reduceBneDiff, Int.reduceBNe, Int.reduceBEq, Int.reduceEq, Int.reduceLT, Int.reduceLE, Int.reduceAdd, Int.reduceSub, Int.reduceMul, Int.reduceNeg, List.reduceReplicate, Int.reduceToNat]
      refine cc2_all (h0 := H.next) (H0 := H) hx hm hl hbH hb hk xs.length 0 _ _ (.slc H.next 6 0 0) (by omega) ?_ ?_ ?_ ?_ (.inr ⟨H.next, es, rfl, Nat.le_refl _, Nat.lt_succ_self _, by simp [upd_app], by simp [allOf], by simp [allOf]⟩) (Nat.le_succ _) (fun c hc => by show upd H.at_ H.next _ c = _; rw [upd_app, if_neg (by omega)])
      all_goals simp only [upd_app, t0, Nat.reduceEqDiff, ↓reduceIte]
      all_goals rfl
  all_goals simp only [upd_app, enterT, List.getElem?_cons_zero, List.getElem?_cons_succ, Option.getD_some, Nat.reduceEqDiff, ↓reduceIte]
  all_goals rfl
theorem Join_call {xs : List (AV × List Pr)} {b : Nat} (hx : ∀ x, x ∈ xs → InE x.1 x.2) (hm : xs.length ≤ 1000) (hl : (allOf xs).length ≤ 1000000) (hbH : b < H.next) (hb : H.at_ b = .cells 22 1 (rowsOf xs))
    (hk : ∀ w m H', IsSort (allOf xs) m → InE w m → H.next ≤ H'.next → (∀ c, c < H.next → H'.at_ c = H.at_ c) → RunOps Cx fn (putA T dst w) ds ro os k H' Q) :
    RunCall Cx fn T ds ro 10 [.slc b 1 0 xs.length] dst os k H Q := by
  refine call_body pure10 (noext _) body10 ?_
  simp only [r10_0, res10, tt, bb, bc, ↓bd, Nat.reduceEqDiff, Nat.reduceAdd, Nat.reduceMul, Nat.reduceLeDiff, Nat.reduceLT, ↓reduceIte, reduceCtorEq, Nat.reduceBeqDiff, Nat.reduceBneDiff, Int.reduceBNe, Int.reduceBEq, Int.reduceEq, Int.reduceLT, Int.reduceLE, Int.reduceAdd, Int.reduceSub, Int.reduceMul, Int.reduceNeg, List.reduceReplicate, Int.reduceToNat]
  refine Concat_call hx hm hl hbH hb ?_
  intro d H' hd hn hkeep
  obtain ⟨m, w, hs, hw, hcall⟩ := Sort_buf hd hl
  simp only [hcall, r10_0, res10, tt, bb, bc, ↓bd, Nat.reduceEqDiff, Nat.reduceAdd, Nat.reduceMul, Nat.reduceLeDiff, Nat.reduceLT, ↓reduceIte, reduceCtorEq, Nat.reduceBeqDiff, Nat.reduceBneDiff, Int.reduceBNe, Int.reduceBEq, Int.reduceEq, Int.reduceLT, Int.reduceLE, Int.reduceAdd, Int.reduceSub, Int.reduceMul, Int.reduceNeg, List.reduceReplicate, Int.reduceToNat]
  exact hk w m H' hs hw hn hkeep
end
end Go.Proofs.Ytjnopnlgcmlkfaa.G

