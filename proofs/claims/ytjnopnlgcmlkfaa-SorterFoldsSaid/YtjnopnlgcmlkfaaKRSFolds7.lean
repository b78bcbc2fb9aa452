import Derived.Test.YtjnopnlgcmlkfaaKRSFolds6
import Derived.Test.YtjnopnlgcmlkfaaKRSFolds2
import Derived.WalkKit
import Derived.ProofKit
import Derived.OpenShut
import Derived.ShutString
import Derived.ChangeOld
import Derived.Below
import Derived.DataReads
import Derived.ChangeArms
import Derived.Test.YtjnopnlgcmlkfaaKRSFolds5
import Derived.Test.YtjnopnlgcmlkfaaKRSFolds3
namespace Go.Proofs.Ytjnopnlgcmlkfaa.G
open Go.BX
set_option linter.unusedSimpArgs false
set_option linter.unusedVariables false
theorem sFold_e {v : AV} {l : List Pr} {w : Bytes} (hv : InE v l) (hl : l.length ≤ 90000) (ho : l.Pairwise fun p q => ltP q p = false) : PCall Cx 8 [v, .str w] (toAF (foldL w l)) := by
  rcases hv with h | ⟨rfl, rfl⟩ | h
  · have := sFold_ok (w := w) (v := v) (l := l) (.inl h) hl
    rw [if_pos (show isOrd l = true from decide_eq_true ho)] at this
    exact this
  · exact ⟨400, by kernel_rfl⟩
  · have := sFold_ok (w := w) (v := v) (l := l) (.inr h) hl
    rw [if_pos (show isOrd l = true from decide_eq_true ho)] at this
    exact this
theorem allOk_of {l : List Pr} (h : rightL l = true) : AllOk l := by
  intro p hp
  have := (rightL_iff l).mp h p hp
  unfold badP at this
  rw [Bool.or_eq_false_iff] at this
  have h2 := this.2
  rw [Bool.not_eq_false'] at h2
  exact h2
set_option maxRecDepth 20000 in
theorem fo_rest {l : List Pr} {w : Bytes} {n1 : Int} (hl : l.length ≤ 100) (hne : l ≠ []) (hok : AllOk l) (hw : isF w = true) (hn0 : 0 ≤ n1) (hn1 : n1 ≤ 255) (T : Nat → AV) (n : Nat) (A : Nat → Blk) (t0 : T 0 = .vec 6 (l.map encP)) (t1 : T 1 = .int .u8 n1) (t7 : T 7 = .str w) :
    Run Cx 3 T [] none [.code c3_12] ⟨n, A⟩ (fun r0 H' => BX.freeze H' r0 = some (.bool true)) := by
  obtain ⟨k, hk⟩ : ∃ k : Nat, (k : Int) = n1.tmod ((l.length + 1 : Nat) : Int) := ⟨(n1.tmod ((l.length + 1 : Nat) : Int)).toNat, by
    have := Int.tmod_nonneg (b := ((l.length + 1 : Nat) : Int)) hn0
    omega⟩
  have hkl : k ≤ l.length := by
    have := Int.tmod_lt_of_pos n1 (b := ((l.length + 1 : Nat) : Int)) (by omega)
    omega
  have w0 : IntKind.i64.wrap n1 = n1 := wr64 (by omega) (by omega)
  have w1 : IntKind.i64.wrap (((l.map encP).length : Int) + 1) = ((l.length + 1 : Nat) : Int) := by rw [List.length_map, wr64 (by omega) (by omega)]; omega
  have z : (((l.length + 1 : Nat) : Int) = 0) = False := eq_false (by omega)
  have p0 : (0 : Int) ≤ (k : Int) := by omega
  have l1 : (k : Int) ≤ ((l.map encP).length : Int) := by rw [List.length_map]; omega
  have l2 : k ≤ (l.map encP).length := by rw [List.length_map]; omega
  have e1 : (l.map encP).take k = (l.take k).map encP := List.map_take.symm
  have e2 : (l.map encP).drop k = (l.drop k).map encP := List.map_drop.symm
  have e3 : (l.map encP).take (l.map encP).length = l.map encP := List.take_length
  obtain ⟨m1, v1, s1, i1, q1, _⟩ := Sort_ok (v := .vec 6 ((l.take k).map encP)) (l := l.take k) (.inr (.inr rfl)) (by rw [List.length_take]; omega)
  obtain ⟨m2, v2, s2, i2, q2, _⟩ := Sort_ok (v := .vec 6 ((l.drop k).map encP)) (l := l.drop k) (.inr (.inr rfl)) (by rw [List.length_drop]; omega)
  obtain ⟨m, v, s, i, q, _⟩ := Sort_ok (v := .vec 6 (l.map encP)) (l := l) (.inr (.inr rfl)) (by omega)
  have b1 : m1.length ≤ 100 := by rw [s1.len, List.length_take]; omega
  have b2 : m2.length ≤ 100 := by rw [s2.len, List.length_drop]; omega
  have b0 : m.length ≤ 100 := by rw [s.len]; omega
  have hsp : IsSort (l.take k ++ l.drop k) m := by rw [List.take_append_drop]; exact s
  have o1 : AllOk (l.take k) := fun p hp => hok p (List.mem_of_mem_take hp)
  have o2 : AllOk (l.drop k) := fun p hp => hok p (List.mem_of_mem_drop hp)
  have f1 := sFold_e (w := w) i1 (by omega) s1.ord
  have f2 := sFold_e (w := w) i2 (by omega) s2.ord
  have f0 := sFold_e (w := w) i (by omega) s.ord
  have g1 : [v1, AV.str w].all AV.flat = true := by simp [i1.flat]; rfl
  have g2 : [v2, AV.str w].all AV.flat = true := by simp [i2.flat]; rfl
  have g0 : [v, AV.str w].all AV.flat = true := by simp [i.flat]; rfl
  have law1 := foldL_law hw (s1.allOk o1) s1.ord
  have law2 := foldL_law hw (s2.allOk o2) s2.ord
  have z13 : ((13 : Int) != 0) = true := rfl
  have z13' : ((13 : Int) == 13) = true := rfl
  cases h1 : foldL w m1 with
  | error x1 =>
    have h0 := folds_err hw o1 o2 s1 s2 hsp (.inl ⟨x1, h1⟩)
    rw [h1] at law1 f1
    obtain ⟨rfl, _⟩ := law1
    rw [h0] at f0
    cases h2 : foldL w m2 with
    | error x2 =>
      rw [h2] at law2 f2
      obtain ⟨rfl, _⟩ := law2
      simp only [toAF] at f1 f2 f0
      simp only [t0, t1, t7, w0, w1, z, hk.symm, p0, l1, l2, e1, e2, e3, z13, z13', call_pure pure9 rfl q1, call_pure pure9 rfl q2, call_pure pure9 rfl q, call_pure pure8 g1 f1, call_pure pure8 g2 f2, call_pure pure8 g0 f0, sliceA, bnds, bound, evo, lenOf, i64, Int.toNat_natCast, xx, r3_0, r3_1, r3_2, r3_3.1, r3_3.2.1, r3_3.2.2.1, r3_3.2.2.2.1, r3_3.2.2.2.2.2.1, r3_3.2.2.2.2.2.2.1, r3_3.2.2.2.2.2.2.2, r3_4, res3, tt, bb, bc, ↓bd, Nat.reduceEqDiff, Nat.reduceAdd, Nat.reduceMul, Nat.reduceLeDiff, Nat.reduceLT, ↓reduceIte, reduceCtorEq, Nat.reduceBeqDiff, Nat.reduceBneDiff, Int.reduceBNe, Int.reduceBEq, Int.reduceEq, Int.reduceLT, Int.reduceLE, Int.reduceAdd, Int.reduceSub, Int.reduceMul, Int.reduceNeg, List.reduceReplicate, Int.reduceToNat]
    | ok b =>
      rw [h2] at f2
      obtain ⟨vb, ib, eb⟩ := toAF_out b
      rw [eb] at f2
      simp only [toAF] at f1 f0
      simp only [t0, t1, t7, w0, w1, z, hk.symm, p0, l1, l2, e1, e2, e3, z13, z13', call_pure pure9 rfl q1, call_pure pure9 rfl q2, call_pure pure9 rfl q, call_pure pure8 g1 f1, call_pure pure8 g2 f2, call_pure pure8 g0 f0, sliceA, bnds, bound, evo, lenOf, i64, Int.toNat_natCast, xx, r3_0, r3_1, r3_2, r3_3.1, r3_3.2.1, r3_3.2.2.1, r3_3.2.2.2.1, r3_3.2.2.2.2.2.1, r3_3.2.2.2.2.2.2.1, r3_3.2.2.2.2.2.2.2, r3_4, res3, tt, bb, bc, ↓bd, Nat.reduceEqDiff, Nat.reduceAdd, Nat.reduceMul, Nat.reduceLeDiff, Nat.reduceLT, ↓reduceIte, reduceCtorEq, Nat.reduceBeqDiff, Nat.reduceBneDiff, Int.reduceBNe, Int.reduceBEq, Int.reduceEq, Int.reduceLT, Int.reduceLE, Int.reduceAdd, Int.reduceSub, Int.reduceMul, Int.reduceNeg, List.reduceReplicate, Int.reduceToNat]
  | ok a =>
    rw [h1] at law1 f1
    obtain ⟨va, ia, ea⟩ := toAF_out a
    rw [ea] at f1
    cases h2 : foldL w m2 with
    | error x2 =>
      have h0 := folds_err hw o1 o2 s1 s2 hsp (.inr ⟨x2, h2⟩)
      rw [h2] at law2 f2
      obtain ⟨rfl, _⟩ := law2
      rw [h0] at f0
      simp only [toAF] at f2 f0
      simp only [t0, t1, t7, w0, w1, z, hk.symm, p0, l1, l2, e1, e2, e3, z13, z13', bne_self_eq_false, call_pure pure9 rfl q1, call_pure pure9 rfl q2, call_pure pure9 rfl q, call_pure pure8 g1 f1, call_pure pure8 g2 f2, call_pure pure8 g0 f0, sliceA, bnds, bound, evo, lenOf, i64, Int.toNat_natCast, xx, r3_0, r3_1, r3_2, r3_3.1, r3_3.2.1, r3_3.2.2.1, r3_3.2.2.2.1, r3_3.2.2.2.2.2.1, r3_3.2.2.2.2.2.2.1, r3_3.2.2.2.2.2.2.2, r3_4, res3, tt, bb, bc, ↓bd, Nat.reduceEqDiff, Nat.reduceAdd, Nat.reduceMul, Nat.reduceLeDiff, Nat.reduceLT, ↓reduceIte, reduceCtorEq, Nat.reduceBeqDiff, Nat.reduceBneDiff, Int.reduceBNe, Int.reduceBEq, Int.reduceEq, Int.reduceLT, Int.reduceLE, Int.reduceAdd, Int.reduceSub, Int.reduceMul, Int.reduceNeg, List.reduceReplicate, Int.reduceToNat]
    | ok b =>
      rw [h2] at law2 f2
      obtain ⟨vb, ib, eb⟩ := toAF_out b
      rw [eb] at f2
      have la := foldL_len' h1
      have lb := foldL_len' h2
      have pa := ia.plain
      have pb := ib.plain
      have ca := ia.cells
      have cb := ib.cells
      simp only [AV.plain] at pa pb
      simp only [AV.cells] at ca cb
      obtain ⟨x, e, hx, hxe⟩ : ∃ (x : AV) (e : Int), toAF (foldL w m) = .tuple [x, .int .i64 e] ∧ ∃ lx : List Pr, InE x lx ∧ lx.length ≤ 100 := by
        cases h0 : foldL w m with
        | error e => exact ⟨.nilS, e, rfl, [], .inl ⟨rfl, rfl⟩, by simp⟩
        | ok o =>
          obtain ⟨vo, io, eo⟩ := toAF_out o
          exact ⟨vo, 0, eo, o, io, by have := foldL_len' h0; omega⟩
      obtain ⟨lx, ix, blx⟩ := hxe
      rw [hx] at f0
      simp only [t0, t1, t7, w0, w1, z, hk.symm, p0, l1, l2, e1, e2, e3, z13, z13', pa, pb, ca, cb, bne_self_eq_false, call_pure pure9 rfl q1, call_pure pure9 rfl q2, call_pure pure9 rfl q, call_pure pure8 g1 f1, call_pure pure8 g2 f2, call_pure pure8 g0 f0, sliceA, bnds, bound, evo, lenOf, i64, Int.toNat_natCast, xx, r3_0, r3_1, r3_2, r3_3.1, r3_3.2.1, r3_3.2.2.1, r3_3.2.2.2.1, r3_3.2.2.2.2.1, r3_3.2.2.2.2.2.1, r3_3.2.2.2.2.2.2.2, r3_4, res3, tt, bb, bc, ↓bd, Nat.reduceEqDiff, Nat.reduceAdd, Nat.reduceMul, Nat.reduceLeDiff, Nat.reduceLT, ↓reduceIte, reduceCtorEq, Nat.reduceBeqDiff, Nat.reduceBneDiff, Int.reduceBNe, Int.reduceBEq, Int.reduceEq, Int.reduceLT, Int.reduceLE, Int.reduceAdd, Int.reduceSub, Int.reduceMul, Int.reduceNeg, List.reduceReplicate, Int.reduceToNat]
      refine Join_call (xs := [(va, a), (vb, b)]) ?_ (by simp) ?_ (Nat.lt_succ_self n) ?_ ?_
      · intro y hy
        simp only [List.mem_cons, List.not_mem_nil, or_false] at hy
        rcases hy with rfl | rfl
        · exact ia
        · exact ib
      · simp [allOf]; omega
      · show upd A n _ n = _
        rw [upd_app, if_pos rfl]
        rfl
      · intro wj mj H' hsj hwj hn hkp
        have hal : allOf [(va, a), (vb, b)] = a ++ b := by simp [allOf]
        rw [hal] at hsj
        have hb3 : mj.length ≤ 200 := by rw [hsj.len, List.length_append]; omega
        have fj := sFold_e (w := w) hwj (by omega) hsj.ord
        have gj : [wj, AV.str w].all AV.flat = true := by simp [hwj.flat]; rfl
        rw [← folds_ok' hw o1 o2 s1 s2 hsp h1 h2 hsj, hx] at fj
        have hq := SamePairs_any ix ix (by omega) (by omega)
        rw [sameP_iff.mpr rfl] at hq
        have gx : [x, x].all AV.flat = true := by simp [ix.flat]
        simp only [t0, t1, t7, beq_self_eq_true, call_pure pure8 gj fj, call_pure pure11 gx hq, lenOf, i64, xx, r3_0, r3_1, r3_2, r3_3, r3_4, res3, tt, bb, bc, ↓bd, Nat.reduceEqDiff, Nat.reduceAdd, Nat.reduceMul, Nat.reduceLeDiff, Nat.reduceLT, ↓reduceIte, reduceCtorEq, Nat.reduceBeqDiff, Nat.reduceBneDiff, Int.reduceBNe, Int.reduceBEq, Int.reduceEq, Int.reduceLT, Int.reduceLE, Int.reduceAdd, Int.reduceSub, Int.reduceMul, Int.reduceNeg, List.reduceReplicate, Int.reduceToNat]
theorem four {n : Int} (h0 : 0 ≤ n) : n.tmod 4 = 0 ∨ n.tmod 4 = 1 ∨ n.tmod 4 = 2 ∨ n.tmod 4 = 3 := by
  have h1 := Int.tmod_nonneg 4 h0
  have h2 := Int.tmod_lt_of_pos n (b := 4) (by decide)
  omega
set_option maxRecDepth 20000 in
theorem SorterFolds_ok {v0 : AV} {l : List Pr} {n1 n2 : Int} (hv : InL v0 l) (hl : l.length ≤ maxLen) (ha0 : 0 ≤ n1) (ha1 : n1 ≤ 255) (hb0 : 0 ≤ n2) (hb1 : n2 ≤ 255) : PCall Cx 3 [v0, .int .u8 n1, .int .u8 n2] (.bool true) := by
  refine pcall_run (noext _) body3 ?_
  obtain ⟨s, hs, hsm⟩ := Small_ok hv hl
  have f0 : [v0].all AV.flat = true := by simp [hv.e.flat]
  have haw := awakeS_ok
  have z1 : ((1 : Int) == 0) = false := rfl
  have z0 : ((0 : Int) == 0) = true := rfl
  rcases hs with rfl | ⟨rfl, k0⟩
  · simp only [z0, z1, call_pure pure5 rfl haw, call_pure pure6 f0 hsm, xx, r3_0, r3_1.1, r3_1.2.1, r3_1.2.2.2.1, r3_1.2.2.2.2.1, r3_1.2.2.2.2.2.1, r3_1.2.2.2.2.2.2.1, r3_1.2.2.2.2.2.2.2, r3_2, r3_3, r3_4, res3, tt, bb, bc, ↓bd, Nat.reduceEqDiff, Nat.reduceAdd, Nat.reduceMul, Nat.reduceLeDiff, Nat.reduceLT, ↓reduceIte, reduceCtorEq, Nat.reduceBeqDiff, Nat.reduceBneDiff, Int.reduceBNe, Int.reduceBEq, Int.reduceEq, Int.reduceLT, Int.reduceLE, Int.reduceAdd, Int.reduceSub, Int.reduceMul, Int.reduceNeg, List.reduceReplicate, Int.reduceToNat]
  have hR := pRight_ok hv (show l.length ≤ 100000 by omega)
  have hln := hv.e.len
  simp only [lenOf] at hln
  cases hr : rightL l with
  | false =>
    rw [hr] at hR
    simp only [z0, z1, call_pure pure5 rfl haw, call_pure pure6 f0 hsm, call_pure pure7 f0 hR, xx, r3_0, r3_1.1, r3_1.2.1, r3_1.2.2.2.1, r3_1.2.2.2.2.1, r3_1.2.2.2.2.2.1, r3_1.2.2.2.2.2.2.1, r3_1.2.2.2.2.2.2.2, r3_2, r3_3, r3_4, res3, tt, bb, bc, ↓bd, Nat.reduceEqDiff, Nat.reduceAdd, Nat.reduceMul, Nat.reduceLeDiff, Nat.reduceLT, ↓reduceIte, reduceCtorEq, Nat.reduceBeqDiff, Nat.reduceBneDiff, Int.reduceBNe, Int.reduceBEq, Int.reduceEq, Int.reduceLT, Int.reduceLE, Int.reduceAdd, Int.reduceSub, Int.reduceMul, Int.reduceNeg, List.reduceReplicate, Int.reduceToNat]
  | true =>
    rw [hr] at hR
    by_cases hne : l = []
    · subst hne
      simp only [List.length_nil] at hln
      have ez : (((0 : Nat) : Int) == 0) = true := rfl
      simp only [z0, z1, hln, ez, lenOf, i64, call_pure pure5 rfl haw, call_pure pure6 f0 hsm, call_pure pure7 f0 hR, xx, r3_0, r3_1.1, r3_1.2.1, r3_1.2.2.2.1, r3_1.2.2.2.2.1, r3_1.2.2.2.2.2.1, r3_1.2.2.2.2.2.2.1, r3_1.2.2.2.2.2.2.2, r3_2, r3_3, r3_4, res3, tt, bb, bc, ↓bd, Nat.reduceEqDiff, Nat.reduceAdd, Nat.reduceMul, Nat.reduceLeDiff, Nat.reduceLT, ↓reduceIte, reduceCtorEq, Nat.reduceBeqDiff, Nat.reduceBneDiff, Int.reduceBNe, Int.reduceBEq, Int.reduceEq, Int.reduceLT, Int.reduceLE, Int.reduceAdd, Int.reduceSub, Int.reduceMul, Int.reduceNeg, List.reduceReplicate, Int.reduceToNat]
    · obtain rfl := hv.e.vec hne
      have hpos := List.length_pos_iff.mpr hne
      have ez : ((((l.map encP).length : Nat) : Int) == 0) = false := by rw [List.length_map, beq_eq_false_iff_ne]; omega
      rcases four hb0 with h | h | h | h
      · simp only [h, z0, z1, ez, lenOf, i64, call_pure pure5 rfl haw, call_pure pure6 f0 hsm, call_pure pure7 f0 hR, xx, r3_0, r3_1.1, r3_1.2.1, r3_1.2.2.1, r3_1.2.2.2.1, r3_1.2.2.2.2.2.1, r3_1.2.2.2.2.2.2.1, r3_1.2.2.2.2.2.2.2, r3_2, r3_3, r3_4, res3, tt, bb, bc, ↓bd, Nat.reduceEqDiff, Nat.reduceAdd, Nat.reduceMul, Nat.reduceLeDiff, Nat.reduceLT, ↓reduceIte, reduceCtorEq, Nat.reduceBeqDiff, Nat.reduceBneDiff, Int.reduceBNe, Int.reduceBEq, Int.reduceEq, Int.reduceLT, Int.reduceLE, Int.reduceAdd, Int.reduceSub, Int.reduceMul, Int.reduceNeg, List.reduceReplicate, Int.reduceToNat]
        refine fo_rest (w := sumW) k0 hne (allOk_of hr) rfl ha0 ha1 _ _ _ ?_ ?_ ?_
        all_goals simp only [upd_app, enterT, List.getElem?_cons_zero, List.getElem?_cons_succ, Option.getD_some, Nat.reduceEqDiff, ↓reduceIte]
        all_goals rfl
      · simp only [h, z0, z1, ez, lenOf, i64, call_pure pure5 rfl haw, call_pure pure6 f0 hsm, call_pure pure7 f0 hR, xx, r3_0, r3_1.1, r3_1.2.1, r3_1.2.2.1, r3_1.2.2.2.1, r3_1.2.2.2.2.2.1, r3_1.2.2.2.2.2.2.1, r3_1.2.2.2.2.2.2.2, r3_2, r3_3, r3_4, res3, tt, bb, bc, ↓bd, Nat.reduceEqDiff, Nat.reduceAdd, Nat.reduceMul, Nat.reduceLeDiff, Nat.reduceLT, ↓reduceIte, reduceCtorEq, Nat.reduceBeqDiff, Nat.reduceBneDiff, Int.reduceBNe, Int.reduceBEq, Int.reduceEq, Int.reduceLT, Int.reduceLE, Int.reduceAdd, Int.reduceSub, Int.reduceMul, Int.reduceNeg, List.reduceReplicate, Int.reduceToNat]
        refine fo_rest (w := maxW) k0 hne (allOk_of hr) rfl ha0 ha1 _ _ _ ?_ ?_ ?_
        all_goals simp only [upd_app, enterT, List.getElem?_cons_zero, List.getElem?_cons_succ, Option.getD_some, Nat.reduceEqDiff, ↓reduceIte]
        all_goals rfl
      · simp only [h, z0, z1, ez, lenOf, i64, call_pure pure5 rfl haw, call_pure pure6 f0 hsm, call_pure pure7 f0 hR, xx, r3_0, r3_1.1, r3_1.2.1, r3_1.2.2.1, r3_1.2.2.2.1, r3_1.2.2.2.2.2.1, r3_1.2.2.2.2.2.2.1, r3_1.2.2.2.2.2.2.2, r3_2, r3_3, r3_4, res3, tt, bb, bc, ↓bd, Nat.reduceEqDiff, Nat.reduceAdd, Nat.reduceMul, Nat.reduceLeDiff, Nat.reduceLT, ↓reduceIte, reduceCtorEq, Nat.reduceBeqDiff, Nat.reduceBneDiff, Int.reduceBNe, Int.reduceBEq, Int.reduceEq, Int.reduceLT, Int.reduceLE, Int.reduceAdd, Int.reduceSub, Int.reduceMul, Int.reduceNeg, List.reduceReplicate, Int.reduceToNat]
        refine fo_rest (w := minW) k0 hne (allOk_of hr) rfl ha0 ha1 _ _ _ ?_ ?_ ?_
        all_goals simp only [upd_app, enterT, List.getElem?_cons_zero, List.getElem?_cons_succ, Option.getD_some, Nat.reduceEqDiff, ↓reduceIte]
        all_goals rfl
      · simp only [h, z0, z1, ez, lenOf, i64, call_pure pure5 rfl haw, call_pure pure6 f0 hsm, call_pure pure7 f0 hR, xx, r3_0, r3_1.1, r3_1.2.1, r3_1.2.2.1, r3_1.2.2.2.1, r3_1.2.2.2.2.2.1, r3_1.2.2.2.2.2.2.1, r3_1.2.2.2.2.2.2.2, r3_2, r3_3, r3_4, res3, tt, bb, bc, ↓bd, Nat.reduceEqDiff, Nat.reduceAdd, Nat.reduceMul, Nat.reduceLeDiff, Nat.reduceLT, ↓reduceIte, reduceCtorEq, Nat.reduceBeqDiff, Nat.reduceBneDiff, Int.reduceBNe, Int.reduceBEq, Int.reduceEq, Int.reduceLT, Int.reduceLE, Int.reduceAdd, Int.reduceSub, Int.reduceMul, Int.reduceNeg, List.reduceReplicate, Int.reduceToNat]
        refine fo_rest (w := gcdW) k0 hne (allOk_of hr) rfl ha0 ha1 _ _ _ ?_ ?_ ?_
        all_goals simp only [upd_app, enterT, List.getElem?_cons_zero, List.getElem?_cons_succ, Option.getD_some, Nat.reduceEqDiff, ↓reduceIte]
        all_goals rfl
end Go.Proofs.Ytjnopnlgcmlkfaa.G

namespace Go.BX
open Go.ChangeShapes Go.WideShapes Go.ChangeAt Go.RowKit
variable {P : Program} {w : World} {H : Type} {enc : TypeId × Value → H} {base : Nat} {spare : Nat → Bool} {held : Bool}
end Go.BX

namespace Go.BX
open Go.ChangeShapes Go.WideShapes Go.ChangeAt Go.RowKit
set_option linter.unusedVariables false
set_option linter.unusedSimpArgs false
inductive Shp (P : Program) : TypeId → List AV → Prop
  | bool {t b} (h : P.underlying t = some .bool) : Shp P t [.bool b]
  | int {t k n} (h : P.underlying t = some (.int k)) (hw : (Lit.int k n).wf = true) : Shp P t [.int k n]
  | str {t s} (h : P.underlying t = some .string) (hl : s.length ≤ maxLen) : Shp P t [.str s]
  | nilS {t e} (h : P.underlying t = some (.slice e)) : Shp P t [.nilS]
  | vec {t e es} (h : P.underlying t = some (.slice e)) (hl : es.length ≤ maxLen) (he : ∀ r, r ∈ es → Shp P e r) : Shp P t [.vec (P.cellsOf e) es]
  | struct {t fs az} (h : P.underlying t = some (.struct fs)) (hl : az.length = P.cellsOf t) (hf : ∀ (i : Nat) (f : Field), fs[i]? = some f → Shp P f.type ((az.drop f.offset).take (P.cellsOf f.type))) : Shp P t az
variable {P : Program}
theorem shp_int {t : TypeId} {k : IntKind} {az : List AV} (h : P.underlying t = some (.int k)) (hs : Shp P t az) : ∃ n, az = [.int k n] ∧ (Lit.int k n).wf = true := by
  cases hs with
  | int h' hw => rw [h] at h'; cases h'; exact ⟨_, rfl, hw⟩
  | bool h' | str h' | nilS h' | vec h' | struct h' => rw [h] at h'; cases h'
theorem shp_str {t : TypeId} {az : List AV} (h : P.underlying t = some .string) (hs : Shp P t az) : ∃ s, az = [.str s] ∧ s.length ≤ maxLen := by
  cases hs with
  | str h' hl => exact ⟨_, rfl, hl⟩
  | bool h' | int h' | nilS h' | vec h' | struct h' => rw [h] at h'; cases h'
theorem shp_slice {t e : TypeId} {az : List AV} (h : P.underlying t = some (.slice e)) (hs : Shp P t az) : az = [.nilS] ∨ ∃ es, az = [.vec (P.cellsOf e) es] ∧ es.length ≤ maxLen ∧ ∀ r, r ∈ es → Shp P e r := by
  cases hs with
  | nilS h' => exact .inl rfl
  | vec h' hl he => rw [h] at h'; cases h'; exact .inr ⟨_, rfl, hl, he⟩
  | bool h' | int h' | str h' | struct h' => rw [h] at h'; cases h'
theorem shp_struct {t : TypeId} {fs : Array Field} {az : List AV} (h : P.underlying t = some (.struct fs)) (hs : Shp P t az) :
    az.length = P.cellsOf t ∧ ∀ (i : Nat) (f : Field), fs[i]? = some f → Shp P f.type ((az.drop f.offset).take (P.cellsOf f.type)) := by
  cases hs with
  | struct h' hl hf => rw [h] at h'; cases h'; exact ⟨hl, hf⟩
  | bool h' | int h' | str h' | nilS h' | vec h' => rw [h] at h'; cases h'
def ownF (P : Program) (fs : Array Field) (c : Nat) : Option Nat :=
  (List.range fs.size).find? fun i => match fs[i]? with
    | some f => decide (f.offset ≤ c) && decide (c < f.offset + P.cellsOf f.type)
    | none => false
def dataT (P : Program) : Nat → TypeId → Bool
  | 0, _ => false
  | d + 1, t =>
    match P.underlying t with
    | some .bool | some (.int _) | some .string => true
    | some (.slice e) => dataT P d e && decide (P.cellsOf e ≠ 0)
    | some (.struct fs) =>
      ((List.range (P.cellsOf t)).all fun c => (ownF P fs c).isSome) &&
      (List.range fs.size).all fun i => match fs[i]? with
        | some f => dataT P d f.type && decide (f.offset + P.cellsOf f.type ≤ P.cellsOf t) && (List.range (P.cellsOf f.type)).all fun j => ownF P fs (f.offset + j) == some i
        | none => false
    | _ => false
variable {w : World} {H : Type} {enc : TypeId × Value → H} {base : Nat} {spare : Nat → Bool} {held : Bool}
def Sts (w : World) (az : List AV) (cs : List Value) : Prop :=
  az.length = cs.length ∧ ∀ (i : Nat) (a : AV) (v : Value), az[i]? = some a → cs[i]? = some v → a.one = true ∧ VRel w (Old w) (fun _ => none) a v
theorem sts_one {a : AV} {v : Value} (h1 : a.one = true) (h : VRel w (Old w) (fun _ => none) a v) : Sts w [a] [v] := by
  refine ⟨rfl, fun i x y hx hy => ?_⟩
  match i, hx, hy with
  | 0, hx, hy => cases hx; cases hy; exact ⟨h1, h⟩
theorem cells_length {a : Addr} {n : Nat} {cs : List Value} (h : w.cells? base a n = some cs) : cs.length = n := by
  unfold World.cells? at h
  split at h
  · simpa using mapM_some_length h
  · cases h
theorem cells_get {a : Addr} {n : Nat} {cs : List Value} (h : w.cells? base a n = some cs) {i : Nat} (hi : i < n) : w.cell? (a.add i) = cs[i]? := by
  unfold World.cells? at h
  split at h
  · exact mapM_some_get h i i (by simp [hi])
  · cases h
theorem cell_spot {a : Addr} {v : Value} (h : w.cell? a = some v) : a.spot = none := by
  unfold World.cell? at h
  split at h
  · split at h
    · cases h
    · rename_i hs; simpa using hs
  · cases h
theorem add_eq {a : Addr} (hs : a.spot = none) (n : Nat) : a.add n = ⟨a.block, a.off + n, none⟩ := by
  unfold Addr.add
  split
  · rename_i h; subst h; cases a; simp_all
  · rfl
theorem list_choose {α : Type} {p : Nat → α → Prop} (n : Nat) (h : ∀ i, i < n → ∃ x, p i x) : ∃ l : List α, l.length = n ∧ ∀ (i : Nat) (x : α), l[i]? = some x → p i x := by
  have : ∀ i, ∃ x : Option α, (i < n → ∃ y, x = some y ∧ p i y) := fun i => by
    by_cases hi : i < n
    · obtain ⟨x, hx⟩ := h i hi; exact ⟨some x, fun _ => ⟨x, rfl, hx⟩⟩
    · exact ⟨none, fun h => absurd h hi⟩
  let F : Nat → Option α := fun i => Classical.choose (this i)
  have hF : ∀ i, i < n → ∃ y, F i = some y ∧ p i y := fun i => Classical.choose_spec (this i)
  refine ⟨(List.range n).filterMap F, ?_, ?_⟩
  · have : ∀ l : List Nat, (∀ i ∈ l, i < n) → (l.filterMap F).length = l.length := by
      intro l hl
      induction l with
      | nil => rfl
      | cons x xs ih =>
        obtain ⟨y, hy, _⟩ := hF x (hl x (by simp))
        rw [List.filterMap_cons, hy]
        simp [ih fun i hi => hl i (by simp [hi])]
    rw [this _ (by simp), List.length_range]
  · have key : ∀ l : List Nat, (∀ i ∈ l, i < n) → ∀ (j : Nat) (x : α), (l.filterMap F)[j]? = some x → ∃ i, l[j]? = some i ∧ F i = some x := by
      intro l hl
      induction l with
      | nil => intro j x h; simp at h
      | cons z zs ih =>
        intro j x h
        obtain ⟨y, hy, _⟩ := hF z (hl z (by simp))
        rw [List.filterMap_cons, hy] at h
        cases j with
        | zero => simp at h; subst h; exact ⟨z, rfl, hy⟩
        | succ j => exact ih (fun i hi => hl i (by simp [hi])) j x (by simpa using h)
    intro i x hx
    obtain ⟨i', hi', hx'⟩ := key _ (by simp) i x hx
    have hlt : i < n := by
      rcases Nat.lt_or_ge i n with h | h
      · exact h
      · rw [List.getElem?_eq_none (by simpa using h)] at hi'; cases hi'
    have : i' = i := by simp [List.getElem?_range hlt] at hi'; exact hi'.symm
    subst this
    obtain ⟨y, hy, hp⟩ := hF i' hlt
    rw [hx'] at hy; cases hy; exact hp
theorem open_cells : ∀ (d : Nat) {t : TypeId} {fuel : Nat} {cs : List Value} {x : DataW H × List MemPlace}, dataT P d t = true → DataW.trod enc P w base spare held fuel t cs = some x → ∃ az, Sts w az cs ∧ Shp P t az := by
  intro d
  induction d with
  | zero => intro t fuel cs x h; cases h
  | succ d ih =>
    intro t fuel cs x hd hx
    unfold dataT at hd
    split at hd
    · rename_i ht
      obtain ⟨b, rfl, _⟩ := DataW.trod_bool ht hx
      exact ⟨[.bool b], sts_one rfl (.bool b), .bool ht⟩
    · rename_i k ht
      obtain ⟨n, rfl, _, hw⟩ := DataW.trod_int ht hx
      exact ⟨[.int k n], sts_one rfl (.int k n), .int ht hw⟩
    · rename_i ht
      obtain ⟨s, rfl, _, hl⟩ := DataW.trod_string ht hx
      exact ⟨[.str s.data.toList], sts_one rfl (.str _ s rfl), .str ht (by simpa using hl)⟩
    · rename_i e ht
      simp only [Bool.and_eq_true, decide_eq_true_eq] at hd
      rcases DataW.trod_slice ht hx with ⟨rfl, _⟩ | ⟨a, len, cap, elems, rest, n, _, rfl, _, hb, hlc, hcm, hel, he, _, _⟩
      · exact ⟨[.nilS], sts_one rfl .nilS, .nilS ht⟩
      · have hrow : ∀ i, i < len → ∃ cs az, w.cells? base (a.add (i * P.cellsOf e)) (P.cellsOf e) = some cs ∧ Sts w az cs ∧ Shp P e az := by
          intro i hi
          have h1 := he i hi
          rw [List.getElem?_eq_getElem (by omega)] at h1
          simp only [Option.bind_eq_some_iff] at h1
          obtain ⟨cs, hcs, h2⟩ := h1
          obtain ⟨az, h3, h4⟩ := ih hd.1 h2
          exact ⟨cs, az, hcs, h3, h4⟩
        obtain ⟨rows, hrl, hrows⟩ := list_choose (α := List Value × List AV) (p := fun i z => w.cells? base (a.add (i * P.cellsOf e)) (P.cellsOf e) = some z.1 ∧ Sts w z.2 z.1 ∧ Shp P e z.2) len (fun i hi => by
          obtain ⟨cs, az, h⟩ := hrow i hi; exact ⟨(cs, az), h⟩)
        have hspot : len ≠ 0 → a.spot = none ∧ a.block < w.heap.size := by
          intro hne
          obtain ⟨cs, az, h, _⟩ := hrow 0 (by omega)
          have h0 := cells_get h (i := 0) (by omega)
          rw [List.getElem?_eq_getElem (by rw [cells_length h]; omega)] at h0
          simp only [Nat.zero_mul] at h0
          have e0 : (a.add 0).add 0 = a := rfl
          rw [e0] at h0
          exact ⟨cell_spot h0, cell_lt h0⟩
        have hz : ∀ (i : Nat) (r : List AV), (rows.map (·.2))[i]? = some r → ∃ cs, rows[i]? = some (cs, r) ∧ w.cells? base (a.add (i * P.cellsOf e)) (P.cellsOf e) = some cs ∧ Sts w r cs ∧ Shp P e r := by
          intro i r h
          rw [List.getElem?_map, Option.map_eq_some_iff] at h
          obtain ⟨z, hz, rfl⟩ := h
          obtain ⟨h1, h2, h3⟩ := hrows i z hz
          exact ⟨z.1, hz, h1, h2, h3⟩
        refine ⟨[.vec (P.cellsOf e) (rows.map (·.2))], sts_one rfl ?_, .vec ht (by simp; omega) ?_⟩
        · have hll : (rows.map (·.2)).length = len := by simp [hrl]
          have hgoal := VRel.vec (w := w) (U := Old w) (ι := fun _ => none) (rows.map (·.2)) a (P.cellsOf e) cap (fun i j => ((rows[i]?).bind fun z => z.1[j]?).getD undef) (by omega)
            (fun r hr => by
              obtain ⟨i, hi⟩ := List.getElem?_of_mem hr
              obtain ⟨cs, _, h1, h2, _⟩ := hz i r hi
              rw [h2.1, cells_length h1])
            (fun hne => (hspot (by intro h0; apply hne; apply List.eq_nil_of_length_eq_zero; omega)).2)
            (fun hne => (hspot (by intro h0; apply hne; apply List.eq_nil_of_length_eq_zero; omega)).1)
            (fun i j hi hj => by
              have hs := (hspot (by omega)).1
              obtain ⟨cs, hcs, h1, h2, _⟩ := hz i (rows.map (·.2))[i] (List.getElem?_eq_getElem hi)
              have h3 := cells_get h1 hj
              rw [hcs]
              simp only [Option.bind_some]
              rw [List.getElem?_eq_getElem (by rw [cells_length h1]; exact hj)] at h3 ⊢
              rw [← add_eq (a := ⟨a.block, a.off + i * P.cellsOf e, none⟩) rfl j, ← add_eq hs]
              exact h3)
            (fun r hr x hxr => by
              obtain ⟨i, hi⟩ := List.getElem?_of_mem hr
              obtain ⟨cs, _, h1, h2, _⟩ := hz i r hi
              obtain ⟨j, hj⟩ := List.getElem?_of_mem hxr
              have hjl : j < cs.length := by rw [← h2.1]; exact (List.getElem?_eq_some_iff.mp hj).1
              exact (h2.2 j x cs[j] hj (List.getElem?_eq_getElem hjl)).1)
            (fun i r j x hi hj => by
              obtain ⟨cs, hcs, h1, h2, _⟩ := hz i r hi
              have hjl : j < cs.length := by rw [← h2.1]; exact (List.getElem?_eq_some_iff.mp hj).1
              have h4 := (h2.2 j x cs[j] hj (List.getElem?_eq_getElem hjl)).2
              simp only [hcs, Option.bind_some, List.getElem?_eq_getElem hjl, Option.getD_some]
              exact h4)
          rw [hll] at hgoal
          exact hgoal
        · intro r hr
          obtain ⟨i, hi⟩ := List.getElem?_of_mem hr
          obtain ⟨_, _, _, _, h⟩ := hz i r hi
          exact h
    · rename_i fs ht
      simp only [Bool.and_eq_true, List.all_eq_true, List.mem_range] at hd
      obtain ⟨hcov, hflds⟩ := hd
      obtain ⟨xs, n, _, _, hcl, hxl, hxf⟩ := DataW.trod_struct ht hx
      have hfi : ∀ i, i < fs.size → ∃ az, ∀ f, fs[i]? = some f → Sts w az ((cs.drop f.offset).take (P.cellsOf f.type)) ∧ Shp P f.type az ∧ f.offset + P.cellsOf f.type ≤ P.cellsOf t ∧ ∀ j, j < P.cellsOf f.type → ownF P fs (f.offset + j) = some i := by
        intro i hi
        have hf0 : fs[i]? = some fs[i] := Array.getElem?_eq_getElem hi
        have h1 := hxf i fs[i] hf0
        rw [List.getElem?_eq_getElem (by omega)] at h1
        have h2 := hflds i hi
        rw [hf0] at h2
        simp only [Bool.and_eq_true, decide_eq_true_eq, List.all_eq_true, List.mem_range, beq_iff_eq] at h2
        obtain ⟨az, h3, h4⟩ := ih h2.1.1 h1
        exact ⟨az, fun f hf => by rw [hf0] at hf; cases hf; exact ⟨h3, h4, h2.1.2, h2.2⟩⟩
      obtain ⟨rows, hrl, hrows⟩ := list_choose fs.size hfi
      have hcell : ∀ c, c < P.cellsOf t → ∃ a, ∀ i f r, ownF P fs c = some i → fs[i]? = some f → rows[i]? = some r → f.offset ≤ c ∧ c < f.offset + P.cellsOf f.type ∧ r[c - f.offset]? = some a := by
        intro c hc
        have h1 := hcov c hc
        obtain ⟨i, hi⟩ := Option.isSome_iff_exists.mp h1
        have h2 := List.find?_some hi
        have h3 : i < fs.size := by simpa using List.mem_of_find?_eq_some hi
        have hf0 : fs[i]? = some fs[i] := Array.getElem?_eq_getElem h3
        rw [hf0] at h2
        simp only [Bool.and_eq_true, decide_eq_true_eq] at h2
        have hr0 : rows[i]? = some rows[i] := List.getElem?_eq_getElem (by omega)
        obtain ⟨hst, _, hle, _⟩ := hrows i rows[i] hr0 fs[i] hf0
        have hlen : rows[i].length = P.cellsOf fs[i].type := by rw [hst.1, List.length_take, List.length_drop, hcl]; omega
        refine ⟨(rows[i])[c - fs[i].offset]'(by omega), fun i' f r hi' hf hr => ?_⟩
        rw [hi] at hi'; cases hi'
        rw [hf0] at hf; cases hf
        rw [hr0] at hr; cases hr
        exact ⟨h2.1, h2.2, List.getElem?_eq_getElem _⟩
      obtain ⟨az, hal, has⟩ := list_choose (P.cellsOf t) hcell
      have hfield : ∀ (i : Nat) (f : Field) (r : List AV), fs[i]? = some f → rows[i]? = some r → (az.drop f.offset).take (P.cellsOf f.type) = r := by
        intro i f r hf hr
        obtain ⟨hst, _, hle, hown⟩ := hrows i r hr f hf
        have hlen : r.length = P.cellsOf f.type := by rw [hst.1, List.length_take, List.length_drop, hcl]; omega
        apply List.ext_getElem?
        intro j
        rcases Nat.lt_or_ge j (P.cellsOf f.type) with hj | hj
        · rw [List.getElem?_take_of_lt hj, List.getElem?_drop]
          have hc : az[f.offset + j]? = some (az[f.offset + j]'(by omega)) := List.getElem?_eq_getElem (by omega)
          obtain ⟨_, _, h3⟩ := has (f.offset + j) _ hc i f r (hown j hj) hf hr
          rw [hc, ← h3]
          congr 1; omega
        · rw [List.getElem?_eq_none (by simp; omega), List.getElem?_eq_none (by omega)]
      refine ⟨az, ⟨by omega, ?_⟩, .struct ht hal ?_⟩
      · intro c a v ha hv
        have hc : c < P.cellsOf t := by rw [← hal]; exact (List.getElem?_eq_some_iff.mp ha).1
        obtain ⟨i, hi⟩ := Option.isSome_iff_exists.mp (hcov c hc)
        have h3 : i < fs.size := by simpa using List.mem_of_find?_eq_some hi
        have hf0 : fs[i]? = some fs[i] := Array.getElem?_eq_getElem h3
        have hr0 : rows[i]? = some rows[i] := List.getElem?_eq_getElem (by omega)
        obtain ⟨hst, _, hle, _⟩ := hrows i rows[i] hr0 fs[i] hf0
        obtain ⟨h4, h5, h6⟩ := has c a ha i fs[i] rows[i] hi hf0 hr0
        refine hst.2 (c - fs[i].offset) a v h6 ?_
        rw [List.getElem?_take_of_lt (by omega), List.getElem?_drop, show fs[i].offset + (c - fs[i].offset) = c by omega]
        exact hv
      · intro i f hf
        have h3 : i < fs.size := (Array.getElem?_eq_some_iff.mp hf).1
        have hr0 : rows[i]? = some rows[i] := List.getElem?_eq_getElem (by omega)
        rw [hfield i f rows[i] hf hr0]
        exact (hrows i rows[i] hr0 f hf).2.1
    · cases hd
theorem open_val {t : TypeId} {v : Value} {x : DataW H} {ps : List MemPlace} {r : Reach} {b0 : Nat} (hd : dataT P 8 t = true) (hval : Value.okWide P w r b0 t v) (hx : DataW.Trod enc P w base spare held t v x ps) :
    ∃ av az, VRel w (Old w) (fun _ => none) av v ∧ Shp P t az ∧ (match P.underlying t with | some (.struct _) => av = .agg az | _ => az = [av]) := by
  obtain ⟨fuel, hf⟩ := hx
  obtain ⟨az, hst, hsh⟩ := open_cells 8 hd hf
  cases hu : P.underlying t with
  | none => exfalso; unfold dataT at hd; rw [hu] at hd; cases hd
  | some u =>
    by_cases hs : ∃ fs, u = .struct fs
    · obtain ⟨fs, rfl⟩ := hs
      obtain ⟨cs, rfl, hcs⟩ := okWide_struct hu hval
      refine ⟨.agg az, az, ?_, hsh, rfl⟩
      have hl : cs.toList.length = az.length := hst.1.symm
      have := VRel.agg (w := w) (U := Old w) (ι := fun _ => none) az cs.toList hl (fun a ha => by
        obtain ⟨i, hi⟩ := List.getElem?_of_mem ha
        have hil : i < cs.toList.length := by rw [hl]; exact (List.getElem?_eq_some_iff.mp hi).1
        exact (hst.2 i a cs.toList[i] hi (List.getElem?_eq_getElem hil)).1) (fun i a v ha hv => (hst.2 i a v ha hv).2)
      simpa using this
    · have hone : ∃ a, az = [a] := by
        cases hsh with
        | struct h' => rw [hu] at h'; cases h'; exact absurd ⟨_, rfl⟩ hs
        | bool _ | int _ | str _ | nilS _ | vec _ => exact ⟨_, rfl⟩
      obtain ⟨a, rfl⟩ := hone
      have hcl : v.cells.toList.length = 1 := hst.1.symm
      have hv : v.cells.toList = [v] := by
        cases v with
        | agg cs =>
          exfalso
          unfold Value.okWide at hval
          rw [hu] at hval
          have hcs : cs.toList.length = 1 := hcl
          obtain ⟨c, hc⟩ : ∃ c, cs.toList = [c] := List.length_eq_one_iff.mp hcs
          unfold dataT at hd
          rw [hu] at hd
          cases u <;> first | (cases hd; done) | (exact absurd ⟨_, rfl⟩ hs) | (simp [Cell.okWide, Cell.ok, hu] at hval)
        | _ => rfl
      refine ⟨a, [a], ?_, hsh, ?_⟩
      · exact (hst.2 0 a v rfl (by rw [hv]; rfl)).2
      · cases u <;> first | rfl | exact absurd ⟨_, rfl⟩ hs
end Go.BX

namespace Go.Proofs.Ytjnopnlgcmlkfaa.G
open Go.BX
open Go.ChangeShapes Go.WideShapes Go.ChangeAt Go.RowKit
set_option linter.unusedVariables false
theorem own : ownKnob Try.prog.godebug = none := by kernel_rfl
theorem laidOut : laidOutB Try.prog = true := by kernel_rfl
theorem law_calls {f : FuncId} {args : List AV} (hx : Cx.ext f = none) (h : PCall Cx f args (.bool true)) {w : World} {vs : List Value} (ha : LsRel w (Old w) (fun _ => none) args vs) :
    Calls Try.prog f vs.toArray w (fun e w' => e = .returned (.bool true) ∧ Below w.heap.size w w') := by
  obtain ⟨n, hn⟩ := h
  refine (pcall_calls cok hx hn ha).mono ?_
  rintro e w' ⟨⟨v, U', rfl, hv⟩, hb⟩
  cases hv
  exact ⟨rfl, hb⟩
theorem i64_wf {n : Int} (h : (Lit.int .i64 n).wf = true) : -9223372036854775808 ≤ n ∧ n ≤ 9223372036854775807 := bounds_i64 h
end Go.Proofs.Ytjnopnlgcmlkfaa.G

namespace Go.Proofs.Ytjnopnlgcmlkfaa.G
open Go.BX
theorem dec_int {cs : List AV} (h : Shp Try.prog 3 cs) : ∃ n, cs = [.int .i64 n] ∧ (-9223372036854775808 ≤ n ∧ n ≤ 9223372036854775807) := by
  obtain ⟨n, h1, h2⟩ := shp_int Try.underlying3 h
  exact ⟨n, h1, i64_wf h2⟩
theorem dec_str {cs : List AV} (h : Shp Try.prog 9 cs) : ∃ s, cs = [.str s] ∧ s.length ≤ maxLen := shp_str Try.underlying9 h
set_option maxRecDepth 100000 in
theorem dec_spot {cs : List AV} (h : Shp Try.prog 43 cs) : ∃ x y, cs = [.int .i64 x, .int .i64 y] := by
  obtain ⟨hl, hf⟩ := shp_struct Try.underlying43 h
  have hl2 : cs.length = 2 := hl.trans (by kernel_rfl)
  match cs, hl2 with
  | [a0, a1], _ =>
    have f0 := hf 0 _ rfl
    have f1 := hf 1 _ rfl
    obtain ⟨x, hx, bx⟩ := dec_int f0
    obtain ⟨y, hy, by'⟩ := dec_int f1
    cases hx
    cases hy
    exact ⟨_, _, rfl⟩
set_option maxRecDepth 100000 in
theorem dec_val {cs : List AV} (h : Shp Try.prog 45 cs) : ∃ k n s x y, cs = [.int .i64 k, .int .i64 n, .str s, .int .i64 x, .int .i64 y] := by
  obtain ⟨hl, hf⟩ := shp_struct Try.underlying45 h
  have hl2 : cs.length = 5 := hl.trans (by kernel_rfl)
  match cs, hl2 with
  | [a0, a1, a2, a3, a4], _ =>
    have f0 := hf 0 _ rfl
    have f1 := hf 1 _ rfl
    have f2 := hf 2 _ rfl
    have f3 := hf 3 _ rfl
    obtain ⟨k, hk, bk⟩ := dec_int f0
    obtain ⟨n, hn, bn⟩ := dec_int f1
    obtain ⟨s, hs, bs⟩ := dec_str f2
    obtain ⟨x, y, hxy⟩ := dec_spot f3
    cases hk
    cases hn
    cases hs
    have hxy' : [a3, a4] = [.int .i64 x, .int .i64 y] := hxy
    cases hxy'
    exact ⟨_, _, _, _, _, rfl⟩
set_option maxRecDepth 100000 in
theorem dec_pair {cs : List AV} (h : Shp Try.prog 47 cs) : ∃ p : Pr, cs = encP p := by
  obtain ⟨hl, hf⟩ := shp_struct Try.underlying47 h
  have hl2 : cs.length = 6 := hl.trans (by kernel_rfl)
  match cs, hl2 with
  | [a0, a1, a2, a3, a4, a5], _ =>
    have f0 := hf 0 _ rfl
    have f1 := hf 1 _ rfl
    obtain ⟨z, hz, bz⟩ := dec_str f0
    obtain ⟨k, n, s, x, y, hv⟩ := dec_val f1
    cases hz
    have hv' : [a1, a2, a3, a4, a5] = [.int .i64 k, .int .i64 n, .str s, .int .i64 x, .int .i64 y] := hv
    cases hv'
    exact ⟨⟨z, k, n, s, x, y⟩, rfl⟩
theorem rows_list : ∀ {es : List (List AV)}, (∀ r, r ∈ es → ∃ p : Pr, r = encP p) → ∃ l : List Pr, es = l.map encP
  | [], _ => ⟨[], rfl⟩
  | r :: es, h => by
    obtain ⟨p, rfl⟩ := h r (by simp)
    obtain ⟨l, rfl⟩ := rows_list (es := es) (fun r hr => h r (by simp [hr]))
    exact ⟨p :: l, rfl⟩
theorem dec_list {a : AV} (h : Shp Try.prog 22 [a]) : ∃ l : List Pr, InL a l ∧ l.length ≤ maxLen := by
  rcases shp_slice Try.underlying22 h with e | ⟨es, e, hl, hr⟩
  · cases e
    exact ⟨[], .inl ⟨rfl, rfl⟩, by simp⟩
  · cases e
    obtain ⟨l, rfl⟩ := rows_list (fun r hm => dec_pair (hr r hm))
    have hc : Try.prog.cellsOf 47 = 6 := by kernel_rfl
    refine ⟨l, .inr (by rw [hc]), by simpa using hl⟩
end Go.Proofs.Ytjnopnlgcmlkfaa.G

namespace Go.Proofs.Ytjnopnlgcmlkfaa.G
open Go.BX
open Go.ChangeShapes Go.WideShapes Go.ChangeAt Go.RowKit
theorem dec_u8 {cs : List AV} (h : Shp Try.prog 5 cs) : ∃ n, cs = [.int .u8 n] ∧ (Lit.int .u8 n).wf = true := shp_int Try.underlying5 h
theorem dec_u8' {cs : List AV} (h : Shp Try.prog 5 cs) : ∃ n, cs = [.int .u8 n] ∧ 0 ≤ n ∧ n ≤ 255 := by
  obtain ⟨n, h1, h2⟩ := dec_u8 h
  exact ⟨n, h1, bounds_u8 h2⟩
end Go.Proofs.Ytjnopnlgcmlkfaa.G

