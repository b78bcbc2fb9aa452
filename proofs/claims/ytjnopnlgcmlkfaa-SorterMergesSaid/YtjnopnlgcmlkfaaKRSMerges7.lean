import Derived.Test.YtjnopnlgcmlkfaaKRSMerges6
import Derived.Test.YtjnopnlgcmlkfaaKRSMerges5
import Derived.Test.YtjnopnlgcmlkfaaKRSMerges3
import Derived.Test.YtjnopnlgcmlkfaaKRSMerges2
import Derived.WalkKit
import Derived.ProofKit
import Derived.OpenShut
import Derived.ShutString
import Derived.ChangeOld
import Derived.Below
import Derived.DataReads
import Derived.ChangeArms
namespace Go.Proofs.Ytjnopnlgcmlkfaa.G
open Go.BX
set_option linter.unusedSimpArgs false
set_option linter.unusedVariables false
def vsO (ys : List (AV × List Pr)) (r : Nat) : AV := (ys.getD r (.nilS, [])).1
def xsO (ys : List (AV × List Pr)) (r : Nat) : List Pr := (ys.getD r (.nilS, [])).2
theorem vsO_get {ys : List (AV × List Pr)} {r : Nat} (h : r < ys.length) : vsO ys r = (ys[r]).1 ∧ xsO ys r = (ys[r]).2 := by
  unfold vsO xsO
  simp [List.getD, List.getElem?_eq_getElem h]
theorem rowsO (ys : List (AV × List Pr)) : (List.range ys.length).map (fun r => [vsO ys r]) = rowsR ys := by
  apply List.ext_getElem?
  intro i
  by_cases h : i < ys.length
  · rw [List.getElem?_map, List.getElem?_range h, rowsR, List.getElem?_map, List.getElem?_eq_getElem h]
    simp [(vsO_get h).1]
  · rw [List.getElem?_eq_none (by simpa using h), List.getElem?_eq_none (by simpa [rowsR] using h)]
theorem restO (ys : List (AV × List Pr)) : rest (xsO ys) ys.length (fun _ => 0) = ys.flatMap (·.2) := by
  unfold rest
  simp only [List.drop_zero]
  have : ys.map (·.2) = (List.range ys.length).map (xsO ys) := by
    apply List.ext_getElem?
    intro i
    by_cases h : i < ys.length
    · rw [List.getElem?_map, List.getElem?_eq_getElem h, List.getElem?_map, List.getElem?_range h]
      simp [(vsO_get h).2]
    · rw [List.getElem?_eq_none (by simpa using h), List.getElem?_eq_none (by simpa using h)]
  rw [List.flatMap_def, List.flatMap_def, this]
theorem idxU_all {ys : List (AV × List Pr)} (h : ∀ x, x ∈ ys → isOrd x.2 = true) : decide (0 ≤ idxU ys 0) = false := by
  have := (idxU_good ys 0 (by omega)).mpr h
  simp; omega
theorem madeT_rows {nx : Nat} {A : Nat → Blk} {d : AV} {m : List Pr} (h : OwnK 5 47 6 d nx A (m.map encP)) : ∃ w, InE w m ∧ BX.freeze ⟨nx, A⟩ (.tuple [d, .int .i64 0]) = some (.tuple [w, .int .i64 0]) ∧ (if (AV.tuple [w, .int .i64 0]).solid then some (AV.tuple [w, .int .i64 0]) else madeT ⟨nx, A⟩ (.tuple [d, .int .i64 0])) = some (.tuple [w, .int .i64 0]) := by
  rcases h with ⟨rfl, h0⟩ | ⟨g, rfl, _, _, hA⟩
  · have : m = [] := by simpa using h0
    subst this
    exact ⟨.nilS, .inl ⟨rfl, rfl⟩, rfl, rfl⟩
  · refine ⟨.vec 6 (m.map encP), .inr (.inr rfl), ?_, ?_⟩
    · have he : elems ⟨nx, A⟩ 6 (.slc g 6 0 (m.map encP).length) = some (m.map encP) := by
        unfold elems
        simp only [hA]
        rw [if_pos ⟨trivial, trivial, by simp⟩, List.drop_zero, List.take_of_length_le (by simp)]
      rw [freeze_tuple, mapO_cons, mapO_cons, mapO_nil, freeze2_slc, he, frzE_some, freeze_rows', freeze2_int]
      rfl
    · have he : elems ⟨nx, A⟩ 6 (.slc g 6 0 (m.map encP).length) = some (m.map encP) := by
        unfold elems
        simp only [hA]
        rw [if_pos ⟨trivial, trivial, by simp⟩, List.drop_zero, List.take_of_length_le (by simp)]
      rw [if_neg (by simp [AV.solid, AV.solid2, AV.solid1])]
      show (mapO (made1 ⟨nx, A⟩) [_, _]).map AV.tuple = _
      have h1 : made1 ⟨nx, A⟩ (.slc g 6 0 (m.map encP).length) = some (.vec 6 (m.map encP)) := by
        unfold made1
        rw [if_neg (by simp [AV.solid2, AV.solid1])]
        simp only [he]
        rw [if_pos (solid_rows m)]
      have h2 : made1 ⟨nx, A⟩ (.int .i64 0) = some (.int .i64 0) := rfl
      rw [mapO_cons, mapO_cons, mapO_nil, h1, h2]
      rfl
theorem Merge_ok {rv : AV} {ys : List (AV × List Pr)} (hv : rv = .vec 1 (rowsR ys) ∨ rv = .nilS ∧ ys = []) (hy : ∀ x, x ∈ ys → InE x.1 x.2 ∧ x.2.length ≤ 10000) (hs : ∀ x, x ∈ ys → isOrd x.2 = true) (few : ys.length ≤ 1000) (tot : (ys.flatMap (·.2)).length ≤ 100000) :
    ∃ m w, IsSort (ys.flatMap (·.2)) m ∧ InE w m ∧ PCall Cx 13 [rv] (.tuple [w, .int .i64 0]) ∧ PMade Cx 13 [rv] (.tuple [w, .int .i64 0]) := by
  obtain ⟨m, _, hm, _, _⟩ := RefSort_ok (l := ys.flatMap (·.2)) (.inr (.inr rfl)) tot
  have hrun : ∃ r, (∃ w, InE w m ∧ r = .tuple [w, .int .i64 0]) ∧ PCall Cx 13 [rv] r ∧ PMade Cx 13 [rv] r := by
    refine both_of (noext _) body13 ?_
    have hpl : rv.plain = true := by rcases hv with rfl | ⟨rfl, _⟩ <;> rfl
    have hcl : rv.cells = [rv] := by rcases hv with rfl | ⟨rfl, _⟩ <;> rfl
    simp only [AV.plain] at hpl
    simp only [AV.cells] at hcl
    simp only [r13_0.1, r13_0.2.1, r13_0.2.2.1, r13_0.2.2.2.1, r13_0.2.2.2.2.2.2.1, r13_0.2.2.2.2.2.2.2, r13_1.1, r13_1.2.1, r13_1.2.2.2.1, r13_1.2.2.2.2.1, r13_1.2.2.2.2.2.1, r13_1.2.2.2.2.2.2.1, r13_1.2.2.2.2.2.2.2, r13_2, res13, tt, bb, bc, ↓bd, Nat.reduceEqDiff, Nat.reduceAdd, Nat.reduceMul, Nat.reduceLeDiff, Nat.reduceLT, ↓reduceIte, reduceCtorEq, Nat.reduceBeqDiff, Nat.reduceBneDiff, Int.reduceBNe, Int.reduceBEq, Int.reduceEq, Int.reduceLT, Int.reduceLE, Int.reduceAdd, Int.reduceSub, Int.reduceMul, Int.reduceNeg, List.reduceReplicate, Int.reduceToNat]
    simp only [r13_0.2.2.2.2.1, o13_4, tt, bb, bc, ↓bd, Nat.reduceEqDiff, Nat.reduceAdd, Nat.reduceMul, Nat.reduceLeDiff, Nat.reduceLT, ↓reduceIte, reduceCtorEq, Nat.reduceBeqDiff, Nat.reduceBneDiff, Int.reduceBNe, Int.reduceBEq, Int.reduceEq, Int.reduceLT, Int.reduceLE, Int.reduceAdd, Int.reduceSub, Int.reduceMul, Int.reduceNeg, List.reduceReplicate, Int.reduceToNat]
    refine Contains2_call hv few (fun x hx => ⟨(hy x hx).1, by have := (hy x hx).2; omega⟩) ?_
    rw [idxU_all hs]
    simp only [r13_0, r13_1, r13_2.1, r13_2.2.1, r13_2.2.2.1, r13_2.2.2.2.2.1, r13_2.2.2.2.2.2, res13, tt, bb, bc, ↓bd, Nat.reduceEqDiff, Nat.reduceAdd, Nat.reduceMul, Nat.reduceLeDiff, Nat.reduceLT, ↓reduceIte, reduceCtorEq, Nat.reduceBeqDiff, Nat.reduceBneDiff, Int.reduceBNe, Int.reduceBEq, Int.reduceEq, Int.reduceLT, Int.reduceLE, Int.reduceAdd, Int.reduceSub, Int.reduceMul, Int.reduceNeg, List.reduceReplicate, Int.reduceToNat]
    refine call_body pure30 (noext _) body30 ?_
    simp only [hpl, hcl, r13_0, r13_1, r13_2.1, r13_2.2.1, r13_2.2.2.1, r13_2.2.2.2.2.1, r13_2.2.2.2.2.2, res13, r30_0, res30, tt, bb, bc, ↓bd, Nat.reduceEqDiff, Nat.reduceAdd, Nat.reduceMul, Nat.reduceLeDiff, Nat.reduceLT, ↓reduceIte, reduceCtorEq, Nat.reduceBeqDiff, Nat.reduceBneDiff, Int.reduceBNe, Int.reduceBEq, Int.reduceEq, Int.reduceLT, Int.reduceLE, Int.reduceAdd, Int.reduceSub, Int.reduceMul, Int.reduceNeg, List.reduceReplicate, Int.reduceToNat]
    unfold c13_16
    refine run_rangeFunc (g := 45) rfl pure45 (noext _) body45 ?_
    generalize hT : upd (upd _ 8 _) 9 _ = T
    have t4 : T 4 = .ptr 0 1 0 0 := by
      rw [← hT]; simp only [upd_app, Nat.reduceEqDiff, ↓reduceIte]
    refine merged_run (nx := 4) (b1 := 1) (l := 3) (L := mL T) (I := MI rv (mL T)) (Stp := fun _ _ => False) (m := m) (rv := rv) (R := ys.length) (vs := vsO ys) (xs := xsO ys) ⟨?_, ?_, ?_, ?_, few, by rw [restO]; exact tot⟩ ?_ (by omega) rfl (fun _ _ _ h => h.2.2.2.2.2) (fun _ _ _ _ _ h1 _ h3 h4 => MI_keep h1 h3 h4) (mrg_round (by rw [hm.len]; exact tot) t4) ?_ (fun _ _ h => h.elim) (by rw [restO]; exact hm) ?_
    · rcases hv with rfl | ⟨rfl, rfl⟩
      · exact .inr (.inl (by rw [rowsO]))
      · exact .inl ⟨rfl, rfl⟩
    · intro r hr
      rw [(vsO_get hr).1, (vsO_get hr).2]
      exact .inl (hy _ (List.getElem_mem hr)).1
    · intro r hr
      rw [(vsO_get hr).2]
      have := hs _ (List.getElem_mem hr)
      unfold isOrd at this
      simpa using this
    · intro r hr
      rw [(vsO_get hr).2]
      exact (hy _ (List.getElem_mem hr)).2
    · rfl
    · intro nx A hI
      obtain ⟨h1, h2, ⟨d, h3, h4⟩, h5, h6, h7⟩ := hI
      refine ⟨mL T, h7, by simp [mL], rfl, ?_⟩
      simp only [mL, Option.map_none, Option.toList_none, List.nil_append, t4, h3, run_inBlock, r13_0, r13_1, r13_2.1, r13_2.2.1, r13_2.2.2.1, r13_2.2.2.2.1, r13_2.2.2.2.2.1, res13, tt, bb, bc, ↓bd, Nat.reduceEqDiff, Nat.reduceAdd, Nat.reduceMul, Nat.reduceLeDiff, Nat.reduceLT, ↓reduceIte, reduceCtorEq, Nat.reduceBeqDiff, Nat.reduceBneDiff, Int.reduceBNe, Int.reduceBEq, Int.reduceEq, Int.reduceLT, Int.reduceLE, Int.reduceAdd, Int.reduceSub, Int.reduceMul, Int.reduceNeg, List.reduceReplicate, Int.reduceToNat]
      unfold c13_22
      refine ret_col (by simp only [upd_app, Nat.reduceEqDiff, ↓reduceIte]; exact h6) ?_
      simp only [res13, tt, bb, bc, ↓bd, Nat.reduceEqDiff, Nat.reduceAdd, Nat.reduceMul, Nat.reduceLeDiff, Nat.reduceLT, ↓reduceIte, reduceCtorEq, Nat.reduceBeqDiff, Nat.reduceBneDiff, Int.reduceBNe, Int.reduceBEq, Int.reduceEq, Int.reduceLT, Int.reduceLE, Int.reduceAdd, Int.reduceSub, Int.reduceMul, Int.reduceNeg, List.reduceReplicate, Int.reduceToNat]
      have hkeep : OwnK 5 47 6 d nx (upd (upd A 3 (.loop { state := .exhausted, pending := none, fn := 13, T := T, params := [10], assign := c13_17, body := c13_18, defers := 2 })) 2 .dead) (m.map encP) := by
        refine h4.keep (Nat.le_refl _) (fun g hg hgA => ?_)
        rw [upd_app, if_neg ?_, upd_app, if_neg ?_]
        · rintro rfl
          rw [h7] at hgA; cases hgA
        · rintro rfl
          rw [h6] at hgA; cases hgA
      obtain ⟨w, hw, hf, hmd⟩ := madeT_rows hkeep
      exact ⟨_, ⟨w, hw, rfl⟩, hf, hmd⟩
    · intro A' hA'
      refine ⟨by omega, by simp, ⟨.nilS, ?_, .inl ⟨rfl, rfl⟩⟩, ?_, ?_, ?_⟩
      · rw [hA' 0 (by omega)]; rfl
      · rw [hA' 1 (by omega)]; rfl
      · rw [hA' 2 (by omega)]; rfl
      · rw [hA' 3 (by omega)]; rfl
  obtain ⟨r, ⟨w, hw, rfl⟩, h1, h2⟩ := hrun
  exact ⟨m, w, hm, hw, h1, h2⟩
end Go.Proofs.Ytjnopnlgcmlkfaa.G

namespace Go.Proofs.Ytjnopnlgcmlkfaa.G
open Go.BX
set_option linter.unusedSimpArgs false
set_option linter.unusedVariables false
abbrev fstP (p : Pr) : Vl := ⟨p.k, p.n, p.s, p.x, p.y⟩
abbrev setP (p : Pr) (v : Vl) : Pr := ⟨p.key, v.k, v.n, v.s, v.x, v.y⟩
def goF (w : Bytes) : List Pr → Pr → List Pr → Except Int (List Pr)
  | done, cur, [] => .ok (done ++ [cur])
  | done, cur, p :: r =>
    if p.key = cur.key then (if (foldR w (fstP cur) (fstP p)).2 = 0 then goF w done (setP cur (foldR w (fstP cur) (fstP p)).1) r else .error (foldR w (fstP cur) (fstP p)).2)
    else goF w (done ++ [cur]) p r
def foldL (w : Bytes) : List Pr → Except Int (List Pr)
  | [] => .ok []
  | p :: r => goF w [] p r
def toAF : Except Int (List Pr) → AV
  | .ok [] => .tuple [.nilS, .int .i64 0]
  | .ok (p :: r) => .tuple [.vec 6 ((p :: r).map encP), .int .i64 0]
  | .error e => .tuple [.nilS, .int .i64 e]
theorem toAF_ne {l : List Pr} (h : l ≠ []) : toAF (.ok l) = .tuple [.vec 6 (l.map encP), .int .i64 0] := by
  cases l with
  | nil => exact absurd rfl h
  | cons p r => rfl
theorem frz_rows {n g : Nat} {A : Nat → Blk} {es : List Pr} (hA : A g = .cells 47 6 (es.map encP)) : freeze2 ⟨n, A⟩ (.slc g 6 0 es.length) = some (.vec 6 (es.map encP)) := by
  rw [freeze2_slc]
  have he : elems ⟨n, A⟩ 6 (.slc g 6 0 es.length) = some (es.map encP) := by
    unfold elems
    simp only [hA]
    rw [if_pos ⟨trivial, trivial, by simp⟩, List.drop_zero, List.take_of_length_le (by simp)]
  rw [he, frzE_some]
  have : ∀ l : List Pr, mapO (mapO (freeze1 ⟨n, A⟩ 3)) (l.map encP) = some (l.map encP) := by
    intro l
    induction l with
    | nil => rfl
    | cons p l ih =>
      rw [List.map_cons, mapO_cons, ih]
      have : mapO (freeze1 ⟨n, A⟩ 3) (encP p) = some (encP p) := mapO_all (p := AV.flat1) (fun v hv => freeze1_flat hv) rfl
      rw [this]; rfl
  rw [this]; rfl
def PFd (l : List Pr) (w : Bytes) (r : AV) (done : List Pr) (cur : Pr) (i : Nat) : Prop :=
  ∀ (T : Nat → AV) (h : Nat) (A : Nat → Blk) (g : Nat), T 0 = .vec 6 (l.map encP) → T 1 = .str w → T 7 = .int .i64 (i : Int) → T 6 = .slc g 6 0 (done.length + 1) → g < h → A g = .cells 47 6 ((done ++ [cur]).map encP) →
    Run Cx 14 T [] none [.inLoop c14_9, .inBlock 0, .code c14_37] ⟨h, A⟩ (fun r0 H' => BX.freeze H' r0 = some r)
theorem pfd_all {l : List Pr} {w : Bytes} (hl : l.length ≤ 100000) : ∀ (j i : Nat) (done : List Pr) (cur : Pr), i + j = l.length → 1 ≤ i → done.length ≤ i → (∀ h : i - 1 < l.length, (l[i - 1]).key = cur.key) → PFd l w (toAF (goF w done cur (l.drop i))) done cur i
  | 0, i, done, cur, hj, h1, hdl, hk => by
    intro T h A g t0 t1 t7 t6 hg hA
    rw [run_inLoop]
    have c0 : ¬ (i : Int) < ((l.map encP).length : Int) := by rw [List.length_map]; omega
    rw [List.drop_of_length_le (by omega)]
    have e : goF w done cur [] = .ok (done ++ [cur]) := rfl
    have hf := frz_rows (n := h) hA
    rw [List.length_append, List.length_singleton] at hf
    rw [e, toAF_ne (by simp)]
    simp only [t0, t1, t6, t7, c0, hf, lenOf, i64, xx, r14_0, r14_1, r14_2, r14_3, r14_4, res14, tt, bb, bc, ↓bd, Nat.reduceEqDiff, Nat.reduceAdd, Nat.reduceMul, Nat.reduceLeDiff, Nat.reduceLT, ↓reduceIte, reduceCtorEq, Nat.reduceBeqDiff, Nat.reduceBneDiff, Int.reduceBNe, Int.reduceBEq, Int.reduceEq, Int.reduceLT, Int.reduceLE, Int.reduceAdd, Int.reduceSub, Int.reduceMul, Int.reduceNeg, List.reduceReplicate, Int.reduceToNat]
  | j + 1, i, done, cur, hj, h1, hdl, hk => by
    intro T h A g t0 t1 t7 t6 hg hA
    rw [run_inLoop]
    have hi : i < l.length := by omega
    have hi1 : i - 1 < l.length := by omega
    have c0 : (i : Int) < ((l.map encP).length : Int) := by rw [List.length_map]; omega
    have ei : ((i : Int) == 0) = false := by rw [beq_eq_false_iff_ne]; omega
    have p0 : (0 : Int) ≤ (i : Int) := by omega
    have w0 : IntKind.i64.wrap ((i : Int) - 1) = ((i - 1 : Nat) : Int) := by rw [wr64 (by omega) (by omega)]; omega
    have w1 : IntKind.i64.wrap ((i : Int) + 1) = ((i + 1 : Nat) : Int) := by rw [wr64 (by omega) (by omega)]; omega
    have p1 : (0 : Int) ≤ ((i - 1 : Nat) : Int) := by omega
    have l1 : ((i - 1 : Nat) : Int) < ((l.map encP).length : Int) := by rw [List.length_map]; omega
    have g0 := enc_get (List.getElem?_eq_getElem hi)
    have g1 := enc_get (List.getElem?_eq_getElem hi1)
    rw [hk hi1] at g1
    have hd : l.drop i = l[i] :: l.drop (i + 1) := List.drop_eq_getElem_cons hi
    obtain ⟨p, hp⟩ : ∃ p, p = l[i] := ⟨_, rfl⟩
    have hpk : ∀ h : (i + 1) - 1 < l.length, (l[(i + 1) - 1]).key = p.key := fun h => by rw [hp]; congr 1
    rw [hd]
    rw [← hp] at g0 ⊢
    by_cases hkey : p.key = cur.key
    · have ek : (p.key != cur.key) = false := by simp [hkey]
      have hgo : goF w done cur (p :: l.drop (i + 1)) = if (foldR w (fstP cur) (fstP p)).2 = 0 then goF w done (setP cur (foldR w (fstP cur) (fstP p)).1) (l.drop (i + 1)) else .error (foldR w (fstP cur) (fstP p)).2 := by
        show (if p.key = cur.key then _ else _) = _
        rw [if_pos hkey]
      rw [hgo]
      have hfo := refFold_ok w (fstP cur) (fstP p)
      generalize foldR w (fstP cur) (fstP p) = z at hfo
      obtain ⟨v, e⟩ := z
      simp only [valA, fstP] at hfo
      have wl : IntKind.i64.wrap (((done.length + 1 : Nat) : Int) - 1) = (done.length : Int) := by rw [wr64 (by omega) (by omega)]; omega
      have p2 : (0 : Int) ≤ (done.length : Int) := by omega
      have l2 : (done.length : Int) < ((done.length + 1 : Nat) : Int) := by omega
      have g2 : ((done ++ [cur]).map encP)[done.length]? = some [.str cur.key, .int .i64 cur.k, .int .i64 cur.n, .str cur.s, .int .i64 cur.x, .int .i64 cur.y] := by
        rw [List.map_append, List.getElem?_append_right (by simp)]
        simp [encP]
      have gh : (g = h) = False := eq_false (by omega)
      have hg' : (h = g) = False := eq_false (by omega)
      by_cases he : e = 0
      · subst he
        rw [if_pos rfl]
        have hset : ((done ++ [cur]).map encP).set done.length [.str cur.key, .int .i64 v.k, .int .i64 v.n, .str v.s, .int .i64 v.x, .int .i64 v.y] = (done ++ [setP cur v]).map encP := by
          rw [List.map_append, List.set_append, if_neg (by simp)]
          simp [encP]
        simp only [t0, t1, t6, t7, c0, ei, p0, p1, p2, l1, l2, g0, g1, g2, w0, w1, wl, ek, hA, gh, hg', updS, hset, bne_self_eq_false, lenOf, i64, Int.toNat_natCast, call_pure pure31 rfl hfo, xx, r14_0, r14_1, r14_2, r14_3, r14_4.1, r14_4.2.1, r14_4.2.2.1, r14_4.2.2.2.1, r14_4.2.2.2.2.1, r14_4.2.2.2.2.2.2.1, r14_4.2.2.2.2.2.2.2, res14, tt, bb, bc, ↓bd, Nat.reduceEqDiff, Nat.reduceAdd, Nat.reduceMul, Nat.reduceLeDiff, Nat.reduceLT, ↓reduceIte, reduceCtorEq, Nat.reduceBeqDiff, Nat.reduceBneDiff, Int.reduceBNe, Int.reduceBEq, Int.reduceEq, Int.reduceLT, Int.reduceLE, Int.reduceAdd, Int.reduceSub, Int.reduceMul, Int.reduceNeg, List.reduceReplicate, Int.reduceToNat]
        refine pfd_all hl j (i + 1) done (setP cur v) (by omega) (by omega) (by omega) (fun h => (hpk h).trans hkey) _ _ _ g ?_ ?_ ?_ ?_ (by omega) ?_
        all_goals simp only [upd_app, t0, t1, t6, Nat.reduceEqDiff, ↓reduceIte]
      · rw [if_neg he]
        have e5 : (e != 0) = true := by simpa using he
        simp only [t0, t1, t6, t7, c0, ei, p0, p1, p2, l1, l2, g0, g1, g2, w0, w1, wl, ek, hA, gh, hg', updS, e5, toAF, freeze2_nilS, lenOf, i64, Int.toNat_natCast, call_pure pure31 rfl hfo, xx, r14_0, r14_1, r14_2, r14_3, r14_4, res14, tt, bb, bc, ↓bd, Nat.reduceEqDiff, Nat.reduceAdd, Nat.reduceMul, Nat.reduceLeDiff, Nat.reduceLT, ↓reduceIte, reduceCtorEq, Nat.reduceBeqDiff, Nat.reduceBneDiff, Int.reduceBNe, Int.reduceBEq, Int.reduceEq, Int.reduceLT, Int.reduceLE, Int.reduceAdd, Int.reduceSub, Int.reduceMul, Int.reduceNeg, List.reduceReplicate, Int.reduceToNat]
    · have ek : (p.key != cur.key) = true := by simpa using hkey
      have hgo : goF w done cur (p :: l.drop (i + 1)) = goF w (done ++ [cur]) p (l.drop (i + 1)) := by
        show (if p.key = cur.key then _ else _) = _
        rw [if_neg hkey]
      rw [hgo]
      have hcl : ((done ++ [cur]).map encP).length = done.length + 1 := by rw [List.length_map, List.length_append, List.length_singleton]
      have ha := app_row (C := Cx) (g := g) (n := h) (A := A) (es := (done ++ [cur]).map encP) (row := [.str p.key, .int .i64 p.k, .int .i64 p.n, .str p.s, .int .i64 p.x, .int .i64 p.y]) psl pti hA (by omega) (by rw [hcl]; unfold most; omega) (by rw [hcl]; unfold most; omega)
      rw [hcl] at ha
      simp only [t0, t1, t6, t7, c0, ei, p0, p1, l1, g0, g1, w0, w1, ek, ha, runVH_some, lenOf, i64, Int.toNat_natCast, xx, r14_0, r14_1, r14_2, r14_3, r14_4.1, r14_4.2.1, r14_4.2.2.1, r14_4.2.2.2.1, r14_4.2.2.2.2.1, r14_4.2.2.2.2.2.2.1, r14_4.2.2.2.2.2.2.2, res14, tt, bb, bc, ↓bd, Nat.reduceEqDiff, Nat.reduceAdd, Nat.reduceMul, Nat.reduceLeDiff, Nat.reduceLT, ↓reduceIte, reduceCtorEq, Nat.reduceBeqDiff, Nat.reduceBneDiff, Int.reduceBNe, Int.reduceBEq, Int.reduceEq, Int.reduceLT, Int.reduceLE, Int.reduceAdd, Int.reduceSub, Int.reduceMul, Int.reduceNeg, List.reduceReplicate, Int.reduceToNat]
      have hdl2 : (done ++ [cur]).length = done.length + 1 := by simp
      refine pfd_all hl j (i + 1) (done ++ [cur]) p (by omega) (by omega) (by rw [hdl2]; omega) hpk _ _ _ (h + 1) ?_ ?_ ?_ ?_ (by omega) ?_
      · simp only [upd_app, t0, Nat.reduceEqDiff, ↓reduceIte]
      · simp only [upd_app, t1, Nat.reduceEqDiff, ↓reduceIte]
      · simp only [upd_app, Nat.reduceEqDiff, ↓reduceIte]
      · rw [hdl2]; simp only [upd_app, Nat.reduceEqDiff, ↓reduceIte]
      · simp only [upd_app, ↓reduceIte]
        rw [List.map_append (l₁ := done ++ [cur])]
        rfl
theorem rFold12_ok {v : AV} {l : List Pr} {w : Bytes} (hv : InL v l) (hl : l.length ≤ 100000) : PCall Cx 14 [v, .str w] (toAF (foldL w l)) := by
  by_cases h0 : l = []
  · subst h0
    have e : toAF (foldL w []) = .tuple [.nilS, .int .i64 0] := rfl
    rw [e]
    refine pcall_run (noext _) body14 ?_
    rcases hv with ⟨rfl, _⟩ | rfl
    · simp only [lenOf, i64, freeze2_nilS, run_inLoop, Int.cast_ofNat_Int, xx, r14_0, r14_1, r14_2, r14_3, r14_4, res14, tt, bb, bc, ↓bd, Nat.reduceEqDiff, Nat.reduceAdd, Nat.reduceMul, Nat.reduceLeDiff, Nat.reduceLT, ↓reduceIte, reduceCtorEq, Nat.reduceBeqDiff, Nat.reduceBneDiff, Int.reduceBNe, Int.reduceBEq, Int.reduceEq, Int.reduceLT, Int.reduceLE, Int.reduceAdd, Int.reduceSub, Int.reduceMul, Int.reduceNeg, List.reduceReplicate, Int.reduceToNat]
    · simp only [lenOf, i64, freeze2_nilS, List.map_nil, List.length_nil, run_inLoop, Int.cast_ofNat_Int, xx, r14_0, r14_1, r14_2, r14_3, r14_4, res14, tt, bb, bc, ↓bd, Nat.reduceEqDiff, Nat.reduceAdd, Nat.reduceMul, Nat.reduceLeDiff, Nat.reduceLT, ↓reduceIte, reduceCtorEq, Nat.reduceBeqDiff, Nat.reduceBneDiff, Int.reduceBNe, Int.reduceBEq, Int.reduceEq, Int.reduceLT, Int.reduceLE, Int.reduceAdd, Int.reduceSub, Int.reduceMul, Int.reduceNeg, List.reduceReplicate, Int.reduceToNat]
  · have hv' : v = .vec 6 (l.map encP) := by
      rcases hv with ⟨_, h⟩ | h
      · exact absurd h h0
      · exact h
    subst hv'
    cases l with
    | nil => exact absurd rfl h0
    | cons p r =>
      refine pcall_run (noext _) body14 ?_
      have c0 : (0 : Int) < (((p :: r).map encP).length : Int) := by rw [List.length_map, List.length_cons]; omega
      have g0 : ((p :: r).map encP)[0]? = some [.str p.key, .int .i64 p.k, .int .i64 p.n, .str p.s, .int .i64 p.x, .int .i64 p.y] := rfl
      have ha := app_nil (C := Cx) (n := 0) (A := AHeap.empty.at_) (row := [.str p.key, .int .i64 p.k, .int .i64 p.n, .str p.s, .int .i64 p.x, .int .i64 p.y]) psl pti (by decide)
      have e0 : ((0 : Int) == 0) = true := rfl
      have w1 : IntKind.i64.wrap (0 + 1) = ((1 : Nat) : Int) := rfl
      have hp := pfd_all (l := p :: r) (w := w) hl r.length 1 [] p (by simp; omega) (by omega) (by simp) (fun h => rfl)
      have ed : (p :: r).drop 1 = r := rfl
      rw [ed] at hp
      have ef : foldL w (p :: r) = goF w [] p r := rfl
      rw [ef]
      simp only [Nat.zero_add, Nat.reduceAdd] at ha
      have hA0 : AHeap.empty.at_ = fun _ => Blk.dead := rfl
      rw [hA0] at ha
      simp only [lenOf, i64, run_inLoop (c := c14_9), xx, r14_0, r14_1.1, r14_1.2.2.1, r14_1.2.2.2.1, r14_1.2.2.2.2.1, r14_1.2.2.2.2.2.1, r14_1.2.2.2.2.2.2.1, r14_1.2.2.2.2.2.2.2, r14_2, r14_3, r14_4.1, r14_4.2.1, r14_4.2.2.1, r14_4.2.2.2.1, r14_4.2.2.2.2.1, r14_4.2.2.2.2.2.2.1, r14_4.2.2.2.2.2.2.2, res14, tt, bb, bc, ↓bd, Nat.reduceEqDiff, Nat.reduceAdd, Nat.reduceMul, Nat.reduceLeDiff, Nat.reduceLT, ↓reduceIte, reduceCtorEq, Nat.reduceBeqDiff, Nat.reduceBneDiff, Int.reduceBNe, Int.reduceBEq, Int.reduceEq, Int.reduceLT, Int.reduceLE, Int.reduceAdd, Int.reduceSub, Int.reduceMul, Int.reduceNeg, List.reduceReplicate, Int.reduceToNat]
      simp only [c0, e0, g0, w1, ha, Int.le_refl, runVH_some, lenOf, i64, Int.toNat_zero, xx, r14_0, r14_1, r14_2, r14_3, r14_4.1, r14_4.2.1, r14_4.2.2.1, r14_4.2.2.2.1, r14_4.2.2.2.2.1, r14_4.2.2.2.2.2.2.1, r14_4.2.2.2.2.2.2.2, res14, tt, bb, bc, ↓bd, Nat.reduceEqDiff, Nat.reduceAdd, Nat.reduceMul, Nat.reduceLeDiff, Nat.reduceLT, ↓reduceIte, reduceCtorEq, Nat.reduceBeqDiff, Nat.reduceBneDiff, Int.reduceBNe, Int.reduceBEq, Int.reduceEq, Int.reduceLT, Int.reduceLE, Int.reduceAdd, Int.reduceSub, Int.reduceMul, Int.reduceNeg, List.reduceReplicate, Int.reduceToNat]
      refine hp _ _ _ 1 ?_ ?_ ?_ ?_ (by omega) ?_
      all_goals simp only [upd_app, enterT, List.getElem?_cons_zero, List.getElem?_cons_succ, Option.getD_some, Nat.reduceEqDiff, ↓reduceIte]
      all_goals rfl
end Go.Proofs.Ytjnopnlgcmlkfaa.G

namespace Go.Proofs.Ytjnopnlgcmlkfaa.G
open Go.BX
set_option linter.unusedSimpArgs false
set_option linter.unusedVariables false
def fvs (w : Bytes) (v : Vl) : List Pr → Except Int Vl
  | [] => .ok v
  | p :: r => if (foldR w v (fstP p)).2 = 0 then fvs w (foldR w v (fstP p)).1 r else .error (foldR w v (fstP p)).2
def goG (w : Bytes) (done : List Pr) : List Pr → Except Int (List Pr)
  | [] => .ok done
  | p :: r => goF w done p r
theorem foldL_goG (w : Bytes) (l : List Pr) : foldL w l = goG w [] l := by
  cases l <;> rfl
theorem goF_group (w : Bytes) (done : List Pr) : ∀ (qs rest : List Pr) (p : Pr), (∀ q, q ∈ qs → q.key = p.key) → (∀ q r, rest = q :: r → q.key ≠ p.key) →
    goF w done p (qs ++ rest) = match fvs w (fstP p) qs with
      | .error e => .error e
      | .ok v => goG w (done ++ [setP p v]) rest
  | [], rest, p, h1, h2 => by
    show goF w done p rest = goG w (done ++ [setP p (fstP p)]) rest
    cases rest with
    | nil => rfl
    | cons q r =>
      show (if q.key = p.key then _ else _) = _
      rw [if_neg (h2 q r rfl)]
      rfl
  | q :: qs, rest, p, h1, h2 => by
    show (if q.key = p.key then _ else _) = _
    rw [if_pos (h1 q (by simp))]
    by_cases he : (foldR w (fstP p) (fstP q)).2 = 0
    · rw [if_pos he]
      have := goF_group w done qs rest (setP p (foldR w (fstP p) (fstP q)).1) (fun x hx => h1 x (by simp [hx])) h2
      show goF w done (setP p _) (qs ++ rest) = _
      rw [this]
      show _ = match (if (foldR w (fstP p) (fstP q)).2 = 0 then fvs w _ qs else _) with | .error e => _ | .ok v => _
      rw [if_pos he]
    · rw [if_neg he]
      show _ = match (if (foldR w (fstP p) (fstP q)).2 = 0 then fvs w _ qs else _) with | .error e => _ | .ok v => _
      rw [if_neg he]
abbrev encVl (v : Vl) : List AV := [.int .i64 v.k, .int .i64 v.n, .str v.s, .int .i64 v.x, .int .i64 v.y]
def sL (T : Nat → AV) : ALoop := { state := .ready, pending := none, fn := 8, T := T, params := [19, 20], assign := c8_17, body := c8_20, defers := 5 }
structure SFT (T : Nat → AV) : Prop where
  t3 : T 3 = .ptr 0 1 0 0
  t4 : T 4 = .ptr 1 1 0 0
  t5 : T 5 = .ptr 2 1 0 0
  t6 : T 6 = .ptr 3 1 0 0
structure SFH (w : Bytes) (e : Int) (d : AV) (H : AHeap) (L : ALoop) : Prop where
  h0 : H.at_ 0 = .cells 9 1 [[.str w]]
  h1 : H.at_ 1 = .cells 22 1 [[.nilS]]
  h2 : H.at_ 2 = .cells 27 1 [[.int .i64 e]]
  h3 : H.at_ 3 = .cells 22 1 [[d]]
  h5 : H.at_ 5 = .dfr
  h6 : H.at_ 6 = .loop L
  hn : 7 ≤ H.next
abbrev encVp (p : Pr) : List AV := [.int .i64 p.k, .int .i64 p.n, .str p.s, .int .i64 p.x, .int .i64 p.y]
theorem encVp_get {l : List Pr} {i : Nat} (h : i < l.length) : (l.map encVp)[i]? = some [.int .i64 (l[i]).k, .int .i64 (l[i]).n, .str (l[i]).s, .int .i64 (l[i]).x, .int .i64 (l[i]).y] := by
  rw [List.getElem?_map, List.getElem?_eq_getElem h]; rfl
theorem SFH.up {w : Bytes} {e : Int} {d : AV} {H H' : AHeap} {L : ALoop} (h : SFH w e d H L) (hk : ∀ b, b < 7 → H'.at_ b = H.at_ b) (hn : H.next ≤ H'.next) : SFH w e d H' L := by
  obtain ⟨h0, h1, h2, h3, h5, h6, hx⟩ := h
  refine ⟨?_, ?_, ?_, ?_, ?_, ?_, by omega⟩ <;> rw [hk _ (by omega)] <;> assumption
theorem sf_in {w : Bytes} {d : AV} {L : ALoop} {g hv next0 : Nat} {κ : Bytes} {A0 : Nat → Blk} {vs : List Pr} {R : Except Int Vl} {Q : AV → AHeap → Prop} (hn1 : vs.length ≤ 100000) (hg7 : 7 ≤ g) (hv7 : 7 ≤ hv) (hgv : g ≠ hv) (hgn : g < next0) (hvn : hv < next0)
    (hAg : A0 g = .cells 45 5 (vs.map encVp))
    (hok : ∀ (T : Nat → AV) (H : AHeap) (v : Vl), R = .ok v → SFT T → SFH w 0 d H L → T 7 = .str κ → T 9 = .ptr hv 5 0 0 → H.at_ hv = .cells 45 5 [encVl v] → next0 ≤ H.next → (∀ b, 7 ≤ b → b < next0 → b ≠ hv → H.at_ b = A0 b) → Run Cx 8 T [] (some 6) [.code c8_50, .inBlock 1] H Q)
    (herr : ∀ (H : AHeap) (e : Int), R = .error e → e ≠ 0 → SFH w e d H { L with state := .done, pending := some .ret } → Q (.bool false) H) :
    ∀ (j i : Nat) (T : Nat → AV) (H : AHeap) (v : Vl), 1 + i + j = vs.length → fvs w v (vs.drop (1 + i)) = R → SFT T → SFH w 0 d H L → T 7 = .str κ → T 9 = .ptr hv 5 0 0 → H.at_ hv = .cells 45 5 [encVl v] → T 25 = .slc g 5 1 (vs.length - 1) → T 26 = .int .i64 ((vs.length - 1 : Nat) : Int) → T 27 = .int .i64 (i : Int) → next0 ≤ H.next → (∀ b, 7 ≤ b → b < next0 → b ≠ hv → H.at_ b = A0 b) →
      Run Cx 8 T [] (some 6) [.inLoop c8_28, .inBlock 2, .code c8_50, .inBlock 1] H Q
  | 0, i, T, H, v, hij, hR, hT, hh, t7, t9, hA, t25, t26, t27, hnx, hkp => by
    rw [run_inLoop]
    have c0 : ¬ (i : Int) < ((vs.length - 1 : Nat) : Int) := by omega
    rw [List.drop_of_length_le (by omega)] at hR
    obtain ⟨t3, t4, t5, t6⟩ := hT
    simp only [t26, t27, c0, xx, r8_0, r8_1, r8_2, r8_3, r8_4, r8_5, r8_6.1, r8_6.2.2.1, r8_6.2.2.2.1, r8_6.2.2.2.2, res8, tt, bb, bc, ↓bd, Nat.reduceEqDiff, Nat.reduceAdd, Nat.reduceMul, Nat.reduceLeDiff, Nat.reduceLT, ↓reduceIte, reduceCtorEq, Nat.reduceBeqDiff, Nat.reduceBneDiff, Int.reduceBNe, Int.reduceBEq, Int.reduceEq, Int.reduceLT, Int.reduceLE, Int.reduceAdd, Int.reduceSub, Int.reduceMul, Int.reduceNeg, List.reduceReplicate, Int.reduceToNat]
    refine hok _ H v hR.symm ⟨?_, ?_, ?_, ?_⟩ hh ?_ ?_ hA hnx hkp
    all_goals simp only [upd_app, t3, t4, t5, t6, t7, t9, Nat.reduceEqDiff, ↓reduceIte]
  | j + 1, i, T, H, v, hij, hR, hT, hh, t7, t9, hA, t25, t26, t27, hnx, hkp => by
    rw [run_inLoop]
    have hi : 1 + i < vs.length := by omega
    have c0 : (i : Int) < ((vs.length - 1 : Nat) : Int) := by omega
    have p0 : (0 : Int) ≤ (i : Int) := by omega
    have w1 : IntKind.i64.wrap ((i : Int) + 1) = ((i + 1 : Nat) : Int) := by rw [wr64 (by omega) (by omega)]; omega
    have hgA : H.at_ g = .cells 45 5 (vs.map encVp) := by rw [hkp g hg7 hgn hgv, hAg]
    have g0 := encVp_get hi
    have hd : vs.drop (1 + i) = vs[1 + i] :: vs.drop (1 + i + 1) := List.drop_eq_getElem_cons hi
    rw [hd] at hR
    generalize vs[1 + i] = p at g0 hR
    have hT' := hT
    obtain ⟨t3, t4, t5, t6⟩ := hT
    obtain ⟨h0, h1, h2, h3, h5, h6, hx⟩ := hh
    have hfo := jobFold_ok w v (fstP p)
    have hR' : (if (foldR w v (fstP p)).2 = 0 then fvs w (foldR w v (fstP p)).1 (vs.drop (1 + i + 1)) else .error (foldR w v (fstP p)).2) = R := hR
    generalize foldR w v (fstP p) = z at hfo hR'
    obtain ⟨v2, e⟩ := z
    simp only [valA, fstP] at hfo
    simp only [encVl] at hA
    have en : (H.next = g) = False := eq_false (by omega)
    have en1 : (g = H.next) = False := eq_false (by omega)
    have ev1 : (hv = H.next) = False := eq_false (by omega)
    have ev2 : (hv = H.next + 1) = False := eq_false (by omega)
    have ev3 : (H.next = hv) = False := eq_false (by omega)
    have ev4 : (H.next + 1 = hv) = False := eq_false (by omega)
    have ev5 : (H.next = H.next + 1) = False := eq_false (by omega)
    have z0 : (0 = H.next) = False := eq_false (by omega)
    have z01 : (0 = H.next + 1) = False := eq_false (by omega)
    have z1 : (1 = H.next) = False := eq_false (by omega)
    have z11 : (1 = H.next + 1) = False := eq_false (by omega)
    have z2 : (2 = H.next) = False := eq_false (by omega)
    have z21 : (2 = H.next + 1) = False := eq_false (by omega)
    by_cases he : e = 0
    · subst he
      rw [if_pos rfl] at hR'
      simp only [t3, t4, t5, t6, t7, t9, t25, t26, t27, h0, c0, p0, w1, hgA, hA, g0, en, en1, ev1, ev2, ev3, ev4, ev5, z0, z01, updS, bne_self_eq_false, lenOf, i64, Int.toNat_natCast, call_pure pure23 rfl hfo, xx, r8_0, r8_1, r8_2, r8_3, r8_4, r8_5, r8_6.1, r8_6.2.2.1, r8_6.2.2.2.1, r8_6.2.2.2.2, res8, tt, bb, bc, ↓bd, Nat.reduceEqDiff, Nat.reduceAdd, Nat.reduceMul, Nat.reduceLeDiff, Nat.reduceLT, ↓reduceIte, reduceCtorEq, Nat.reduceBeqDiff, Nat.reduceBneDiff, Int.reduceBNe, Int.reduceBEq, Int.reduceEq, Int.reduceLT, Int.reduceLE, Int.reduceAdd, Int.reduceSub, Int.reduceMul, Int.reduceNeg, List.reduceReplicate, Int.reduceToNat]
      refine sf_in hn1 hg7 hv7 hgv hgn hvn hAg hok herr j (i + 1) _ _ v2 (by omega) hR' ⟨?_, ?_, ?_, ?_⟩ (SFH.up (H := H) ⟨h0, h1, h2, h3, h5, h6, hx⟩ ?_ ?_) ?_ ?_ ?_ ?_ ?_ ?_ ?_ ?_
      · simp only [upd_app, t3, Nat.reduceEqDiff, ↓reduceIte]
      · simp only [upd_app, t4, Nat.reduceEqDiff, ↓reduceIte]
      · simp only [upd_app, t5, Nat.reduceEqDiff, ↓reduceIte]
      · simp only [upd_app, t6, Nat.reduceEqDiff, ↓reduceIte]
      · intro b hb
        simp only [upd_app]
        rw [if_neg (by omega), if_neg (by omega), if_neg (by omega)]
      · show H.next ≤ H.next + 1 + 1
        omega
      · simp only [upd_app, t7, Nat.reduceEqDiff, ↓reduceIte]
      · simp only [upd_app, t9, Nat.reduceEqDiff, ↓reduceIte]
      · simp only [upd_app, ↓reduceIte]
      · simp only [upd_app, t25, Nat.reduceEqDiff, ↓reduceIte]
      · simp only [upd_app, t26, Nat.reduceEqDiff, ↓reduceIte]
      · simp only [upd_app, Nat.reduceEqDiff, ↓reduceIte]
      · show next0 ≤ H.next + 1 + 1
        omega
      · intro b hb1 hb2 hb3
        simp only [upd_app]
        rw [if_neg hb3, if_neg (by omega), if_neg (by omega)]
        exact hkp b hb1 hb2 hb3
    · rw [if_neg he] at hR'
      have e5 : (e != 0) = true := by simpa using he
      simp only [t3, t4, t5, t6, t7, t9, t25, t26, t27, h0, h1, h2, c0, p0, w1, e5, hgA, hA, g0, en, en1, ev1, ev2, ev3, ev4, ev5, z0, z01, z1, z11, z2, z21, updS, lenOf, i64, Int.toNat_natCast, call_pure pure23 rfl hfo, xx, r8_0, r8_1, r8_2, r8_3, r8_4, r8_5.1, r8_5.2.1, r8_5.2.2.1, r8_5.2.2.2.1, r8_5.2.2.2.2.1, r8_5.2.2.2.2.2.2.1, r8_5.2.2.2.2.2.2.2, r8_6.1, r8_6.2.2.1, r8_6.2.2.2.1, r8_6.2.2.2.2, res8, tt, bb, bc, ↓bd, Nat.reduceEqDiff, Nat.reduceAdd, Nat.reduceMul, Nat.reduceLeDiff, Nat.reduceLT, ↓reduceIte, reduceCtorEq, Nat.reduceBeqDiff, Nat.reduceBneDiff, Int.reduceBNe, Int.reduceBEq, Int.reduceEq, Int.reduceLT, Int.reduceLE, Int.reduceAdd, Int.reduceSub, Int.reduceMul, Int.reduceNeg, List.reduceReplicate, Int.reduceToNat]
      unfold c8_46
      have n6 : (6 = H.next) = False := eq_false (by omega)
      have n61 : (6 = H.next + 1) = False := eq_false (by omega)
      rw [round_ret (L := L) (by simp only [upd_app, n6, n61, Nat.reduceEqDiff, ↓reduceIte]; exact h6)]
      refine herr _ e hR'.symm he ⟨?_, ?_, ?_, ?_, ?_, ?_, ?_⟩
      · simp only [AHeap.set, upd_app, z0, z01, Nat.reduceEqDiff, ↓reduceIte]; exact h0
      · simp only [AHeap.set, upd_app, z1, z11, Nat.reduceEqDiff, ↓reduceIte]
      · simp only [AHeap.set, upd_app, z2, z21, Nat.reduceEqDiff, ↓reduceIte]
      · simp only [AHeap.set, upd_app, show (3 = H.next) = False from eq_false (by omega), show (3 = H.next + 1) = False from eq_false (by omega), Nat.reduceEqDiff, ↓reduceIte]; exact h3
      · simp only [AHeap.set, upd_app, show (5 = H.next) = False from eq_false (by omega), show (5 = H.next + 1) = False from eq_false (by omega), Nat.reduceEqDiff, ↓reduceIte]; exact h5
      · simp only [AHeap.set, upd_app, ↓reduceIte]
      · show 7 ≤ H.next + 1 + 1
        omega
end Go.Proofs.Ytjnopnlgcmlkfaa.G

namespace Go.Proofs.Ytjnopnlgcmlkfaa.G
open Go.BX
set_option linter.unusedSimpArgs false
set_option linter.unusedVariables false
theorem sf_round {w : Bytes} {d : AV} {T0 : Nat → AV} {H : AHeap} {g : Nat} {κ : Bytes} {p0 : Pr} {ps done : List Pr} {Q : AV → AHeap → Prop} (hn1 : ps.length + 1 ≤ 100000) (hdl : done.length ≤ 100000) (hT : SFT T0) (hh : SFH w 0 d H (sL T0)) (hd : OwnK 7 47 6 d H.next H.at_ (done.map encP)) (hg7 : 7 ≤ g) (hgn : g < H.next) (hg : H.at_ g = .cells 45 5 ((p0 :: ps).map encVp)) (hκ : p0.key = κ)
    (hQ : ∀ (H' : AHeap) (d' : AV) (v : Vl), fvs w (fstP p0) ps = .ok v → SFH w 0 d' H' (sL T0) → OwnK 7 47 6 d' H'.next H'.at_ ((done ++ [setP p0 v]).map encP) → H.next ≤ H'.next → (∀ b, 7 ≤ b → b < H.next → (∀ m, d ≠ .slc b 6 0 m) → H'.at_ b = H.at_ b) → Q (.bool true) H')
    (hQ' : ∀ (H' : AHeap) (e : Int) (L : ALoop), fvs w (fstP p0) ps = .error e → e ≠ 0 → SFH w e d H' L → L.state = .done → L.pending = some .ret → Q (.bool false) H') :
    Run Cx 8 (foldPut T0 [19, 20] [.str κ, .slc g 5 0 (ps.length + 1)]) [] (some 6) [.code c8_17, .beginRound, .code c8_20] H Q := by
  have hT' := hT
  obtain ⟨t3, t4, t5, t6⟩ := hT
  obtain ⟨h0, h1, h2, h3, h5, h6, hx⟩ := hh
  simp only [foldPut, r8_0, r8_1, r8_2.1, r8_2.2.1, r8_2.2.2.1, r8_2.2.2.2.2.1, r8_2.2.2.2.2.2.1, r8_2.2.2.2.2.2.2.1, r8_2.2.2.2.2.2.2.2, r8_3, r8_4, r8_5, r8_6, res8, tt, bb, bc, ↓bd, Nat.reduceEqDiff, Nat.reduceAdd, Nat.reduceMul, Nat.reduceLeDiff, Nat.reduceLT, ↓reduceIte, reduceCtorEq, Nat.reduceBeqDiff, Nat.reduceBneDiff, Int.reduceBNe, Int.reduceBEq, Int.reduceEq, Int.reduceLT, Int.reduceLE, Int.reduceAdd, Int.reduceSub, Int.reduceMul, Int.reduceNeg, List.reduceReplicate, Int.reduceToNat]
  rw [run_begin h6 rfl]
  have g6 : (g = 6) = False := eq_false (by omega)
  have n6 : (H.next = 6) = False := eq_false (by omega)
  have m6 : (6 = H.next) = False := eq_false (by omega)
  have gn : (g = H.next) = False := eq_false (by omega)
  have c0 : (0 : Int) < ((ps.length + 1 : Nat) : Int) := by omega
  have g0 : ((p0 :: ps).map encVp)[0]? = some [.int .i64 p0.k, .int .i64 p0.n, .str p0.s, .int .i64 p0.x, .int .i64 p0.y] := rfl
  have c1 : (1 : Int) ≤ ((ps.length + 1 : Nat) : Int) := by omega
  simp only [AHeap.set, upd_app, g6, hg, c0, c1, g0, gn, updS, sliceA, bnds, bound, evo, Int.le_refl, Nat.zero_add, Int.toNat_zero, Int.reduceToNat, lenOf, i64, xx, r8_0, r8_1, r8_2, r8_3.1, r8_3.2.1, r8_3.2.2.1, r8_3.2.2.2.2.1, r8_3.2.2.2.2.2.1, r8_3.2.2.2.2.2.2.1, r8_3.2.2.2.2.2.2.2, r8_4, r8_5, r8_6.1, r8_6.2.2.1, r8_6.2.2.2.1, r8_6.2.2.2.2, res8, tt, bb, bc, ↓bd, Nat.reduceEqDiff, Nat.reduceAdd, Nat.reduceMul, Nat.reduceLeDiff, Nat.reduceLT, ↓reduceIte, reduceCtorEq, Nat.reduceBeqDiff, Nat.reduceBneDiff, Int.reduceBNe, Int.reduceBEq, Int.reduceEq, Int.reduceLT, Int.reduceLE, Int.reduceAdd, Int.reduceSub, Int.reduceMul, Int.reduceNeg, List.reduceReplicate, Int.reduceToNat]
  have hbusy : SFH w 0 d ⟨H.next + 1, upd (upd H.at_ 6 (.loop { sL T0 with state := .busy })) H.next (.cells 45 5 [[.int .i64 p0.k, .int .i64 p0.n, .str p0.s, .int .i64 p0.x, .int .i64 p0.y]])⟩ { sL T0 with state := .busy } := by
    refine ⟨?_, ?_, ?_, ?_, ?_, ?_, (by show 7 ≤ H.next + 1; omega)⟩
    · simp only [upd_app, show (0 = H.next) = False from eq_false (by omega), Nat.reduceEqDiff, ↓reduceIte]; exact h0
    · simp only [upd_app, show (1 = H.next) = False from eq_false (by omega), Nat.reduceEqDiff, ↓reduceIte]; exact h1
    · simp only [upd_app, show (2 = H.next) = False from eq_false (by omega), Nat.reduceEqDiff, ↓reduceIte]; exact h2
    · simp only [upd_app, show (3 = H.next) = False from eq_false (by omega), Nat.reduceEqDiff, ↓reduceIte]; exact h3
    · simp only [upd_app, show (5 = H.next) = False from eq_false (by omega), Nat.reduceEqDiff, ↓reduceIte]; exact h5
    · simp only [upd_app, m6, ↓reduceIte]
  refine sf_in (vs := p0 :: ps) (R := fvs w (fstP p0) ps) (d := d) (L := { sL T0 with state := .busy }) (g := g) (hv := H.next) (κ := κ) (next0 := H.next + 1) (A0 := upd (upd H.at_ 6 (.loop { sL T0 with state := .busy })) H.next (.cells 45 5 [[.int .i64 p0.k, .int .i64 p0.n, .str p0.s, .int .i64 p0.x, .int .i64 p0.y]])) hn1 hg7 (by omega) (by omega) (by omega) (by omega) ?_ ?_ ?_ ps.length 0 _ _ (fstP p0) (by rw [List.length_cons]; omega) rfl ⟨?_, ?_, ?_, ?_⟩ hbusy ?_ ?_ ?_ ?_ ?_ ?_ (Nat.le_refl _) (fun b _ _ _ => rfl)
  · simp only [upd_app, gn, g6, ↓reduceIte]; exact hg
  · intro T H2 v hR hT2 hh2 t7 t9 hA hnx hkp
    obtain ⟨s3, s4, s5, s6⟩ := hT2
    obtain ⟨k0, k1, k2, k3, k5, k6, kx⟩ := hh2
    have hd2 : OwnK 7 47 6 d H2.next H2.at_ (done.map encP) := by
      rcases hd with h | ⟨q, q1, q2, q3, q4⟩
      · exact .inl h
      · refine .inr ⟨q, q1, q2, by omega, ?_⟩
        rw [hkp q q2 (by omega) (by omega)]
        simp only [upd_app]
        rw [if_neg (by omega), if_neg (by omega)]
        exact q4
    have hcl : (done.map encP).length = done.length := List.length_map _
    obtain ⟨A', ha, ho, _, hk⟩ := hd2.app1s (row := [.str κ, .int .i64 v.k, .int .i64 v.n, .str v.s, .int .i64 v.x, .int .i64 v.y]) kx psl pti (by rw [hcl]; unfold most; omega) (by rw [hcl]; unfold most; omega)
    simp only [encVl] at hA
    have x3 : (3 = H2.next) = False := eq_false (by omega)
    have x9 : (H.next = H2.next) = False := eq_false (by omega)
    have keepc : ∀ c, c < 7 → A' c = H2.at_ c := by
      intro c hc
      refine hk c (by omega) ?_
      rintro m rfl
      rcases hd with ⟨h, _⟩ | ⟨q, q1, q2, _⟩
      · cases h
      · cases q1; omega
    have a3 : A' 3 = .cells 22 1 [[d]] := by rw [keepc 3 (by omega)]; exact k3
    simp only [s6, t7, t9, k3, hA, ha, a3, runVH_some, xx, r8_0, r8_1, r8_2, r8_3, r8_4, r8_5, r8_6, res8, tt, bb, bc, ↓bd, Nat.reduceEqDiff, Nat.reduceAdd, Nat.reduceMul, Nat.reduceLeDiff, Nat.reduceLT, ↓reduceIte, reduceCtorEq, Nat.reduceBeqDiff, Nat.reduceBneDiff, Int.reduceBNe, Int.reduceBEq, Int.reduceEq, Int.reduceLT, Int.reduceLE, Int.reduceAdd, Int.reduceSub, Int.reduceMul, Int.reduceNeg, List.reduceReplicate, Int.reduceToNat]
    rw [round_nil (L := { sL T0 with state := .busy }) (by simp only [upd_app, Nat.reduceEqDiff, ↓reduceIte]; rw [keepc 6 (by omega)]; exact k6)]
    have hrow : done.map encP ++ [[AV.str κ, .int .i64 v.k, .int .i64 v.n, .str v.s, .int .i64 v.x, .int .i64 v.y]] = (done ++ [setP p0 v]).map encP := by
      rw [List.map_append, ← hκ]; rfl
    rw [hrow] at ho
    refine hQ _ (.slc (H2.next + 1) 6 0 ((done.map encP).length + 1)) v hR ⟨?_, ?_, ?_, ?_, ?_, ?_, ?_⟩ ?_ ?_ ?_
    · simp only [AHeap.set, upd_app, Nat.reduceEqDiff, ↓reduceIte]; rw [keepc 0 (by omega)]; exact k0
    · simp only [AHeap.set, upd_app, Nat.reduceEqDiff, ↓reduceIte]; rw [keepc 1 (by omega)]; exact k1
    · simp only [AHeap.set, upd_app, Nat.reduceEqDiff, ↓reduceIte]; rw [keepc 2 (by omega)]; exact k2
    · simp only [AHeap.set, upd_app, Nat.reduceEqDiff, ↓reduceIte]
    · simp only [AHeap.set, upd_app, Nat.reduceEqDiff, ↓reduceIte]; rw [keepc 5 (by omega)]; exact k5
    · simp only [AHeap.set, upd_app, ↓reduceIte]; rfl
    · show 7 ≤ H2.next + 1 + 1; omega
    · refine ho.keep (Nat.le_refl _) ?_
      intro q hq hq2
      show upd (upd A' 3 _) 6 _ q = _
      rw [upd_app, if_neg, upd_app, if_neg]
      · rintro rfl; rw [a3] at hq2; cases hq2
      · rintro rfl; rw [keepc 6 (by omega), k6] at hq2; cases hq2
    · show H.next ≤ H2.next + 1 + 1
      have : H.next + 1 ≤ H2.next := hnx
      omega
    · intro b hb1 hb2 hb3
      show upd (upd A' 3 _) 6 _ b = _
      rw [upd_app, if_neg (by omega), upd_app, if_neg (by omega)]
      have : H.next + 1 ≤ H2.next := hnx
      rw [hk b (by omega) hb3, hkp b hb1 (by omega) (by omega)]
      simp only [upd_app]
      rw [if_neg (by omega), if_neg (by omega)]
  · intro H2 e hR he hh2
    exact hQ' H2 e _ hR he hh2 rfl rfl
  all_goals simp only [upd_app, t3, t4, t5, t6, encVl, fstP, Nat.reduceEqDiff, ↓reduceIte]
  all_goals rfl
end Go.Proofs.Ytjnopnlgcmlkfaa.G

namespace Go.Proofs.Ytjnopnlgcmlkfaa.G
open Go.BX
set_option linter.unusedSimpArgs false
set_option linter.unusedVariables false
theorem vslS : isSl Cx 56 45 := ⟨_, TT_56, rfl⟩
theorem vtiS : ∃ ti, Cx.TT 45 = some ti ∧ ti.size = 5 ∧ ti.bytes = 48 := ⟨_, TT_45, rfl, rfl⟩
def VS (gs : List Pr) (i : Nat) (d : AV) (H : AHeap) : Prop :=
  (gs = [] ∧ i = 0 ∧ d = .nilS) ∨ (gs ≠ [] ∧ ∃ g, d = .slc g 5 0 gs.length ∧ 7 ≤ g ∧ g < H.next ∧ H.at_ g = .cells 45 5 (gs.map encVp) ∧ gs.length ≤ i)
theorem s17_all {m : List Pr} {w : Bytes} {T0 : Nat → AV} {Q : AV → AHeap → Prop} (hm : m.length ≤ 90000) (hT0 : SFT T0)
    (hA : ∀ (r : AV) (H' : AHeap) (d' : AV) (out : List Pr), foldL w m = .ok out → SFH w 0 d' H' (sL T0) → OwnK 7 47 6 d' H'.next H'.at_ (out.map encP) → Q r H')
    (hB : ∀ (r : AV) (H' : AHeap) (d' : AV) (e : Int) (L : ALoop), foldL w m = .error e → SFH w e d' H' L → L.state = .done → L.pending = some .ret → Q r H') :
    ∀ (j i : Nat) (T : Nat → AV) (H : AHeap) (done gs : List Pr) (κ : Bytes) (dO dV : AV), i + j = m.length → T 0 = .yld 6 → T 3 = dV → T 4 = .str κ → T 8 = .vec 6 (m.map encP) → T 9 = .int .i64 ((m.map encP).length : Int) → T 10 = .int .i64 (i : Int) →
      SFH w 0 dO H (sL T0) → OwnK 7 47 6 dO H.next H.at_ (done.map encP) → VS gs i dV H → (∀ q, q ∈ gs → q.key = κ) → foldL w m = goG w done (gs ++ m.drop i) → done.length ≤ i →
      Run Cx 35 T [] none [.inLoop c35_9, .inBlock 0, .code c35_33] H Q
  | 0, i, T, H, done, gs, κ, dO, dV, hij, t0, t3, t4, t8, t9, t10, hh, ho, hv, hκ, hE, hdl => by
    rw [run_inLoop]
    have c0 : ¬ (i : Int) < ((m.map encP).length : Int) := by rw [List.length_map]; omega
    rw [List.drop_of_length_le (by omega), List.append_nil] at hE
    rcases hv with ⟨rfl, rfl, rfl⟩ | ⟨hn, g, rfl, hg7, hgn, hg, hgl⟩
    · replace t10 : T 10 = .int .i64 0 := t10
      simp only [Int.cast_ofNat_Int] at c0
      simp only [t0, t3, t4, t8, t9, t10, c0, i64, xx, run_nil, r35_0, r35_1, r35_2, r35_3, r35_4, res35, tt, bb, bc, ↓bd, Nat.reduceEqDiff, Nat.reduceAdd, Nat.reduceMul, Nat.reduceLeDiff, Nat.reduceLT, ↓reduceIte, reduceCtorEq, Nat.reduceBeqDiff, Nat.reduceBneDiff, Int.reduceBNe, Int.reduceBEq, Int.reduceEq, Int.reduceLT, Int.reduceLE, Int.reduceAdd, Int.reduceSub, Int.reduceMul, Int.reduceNeg, List.reduceReplicate, Int.reduceToNat]
      exact hA _ _ dO done hE hh ho
    · cases gs with
      | nil => exact absurd rfl hn
      | cons p0 ps =>
      have c1 : (0 : Int) < ((p0 :: ps).length : Int) := by rw [List.length_cons]; omega
      rw [List.length_cons] at c1 hgl
      simp only [List.length_cons] at t3
      have hE2 : foldL w m = goF w done p0 ps := hE
      have hgr := goF_group w done ps [] p0 (fun q hq => (hκ q (by simp [hq])).trans (hκ p0 (by simp)).symm) (fun q r h => by cases h)
      rw [List.append_nil] at hgr
      rw [hgr] at hE2
      simp only [t0, t3, t4, t8, t9, t10, c0, c1, i64, xx, run_nil, r35_0, r35_1, r35_2, r35_3, r35_4, res35, tt, bb, bc, ↓bd, Nat.reduceEqDiff, Nat.reduceAdd, Nat.reduceMul, Nat.reduceLeDiff, Nat.reduceLT, ↓reduceIte, reduceCtorEq, Nat.reduceBeqDiff, Nat.reduceBneDiff, Int.reduceBNe, Int.reduceBEq, Int.reduceEq, Int.reduceLT, Int.reduceLE, Int.reduceAdd, Int.reduceSub, Int.reduceMul, Int.reduceNeg, List.reduceReplicate, Int.reduceToNat]
      refine runA_yield (L := sL T0) ?_ ?_ hh.h6 rfl ?_
      · simp only [evs, ev, upd_app, t0, t3, t4, Nat.reduceEqDiff, ↓reduceIte]
      · simp only [evs, ev, upd_app, t0, t3, t4, Nat.reduceEqDiff, ↓reduceIte]
      refine sf_round (by omega) (by omega) hT0 hh ho hg7 hgn hg (hκ p0 (by simp)) ?_ ?_
      · intro H' d' v hR hh' ho' hnx hk
        simp only [xx, run_nil, r35_0, r35_1, r35_2, r35_3, r35_4, res35, tt, bb, bc, ↓bd, Nat.reduceEqDiff, Nat.reduceAdd, Nat.reduceMul, Nat.reduceLeDiff, Nat.reduceLT, ↓reduceIte, reduceCtorEq, Nat.reduceBeqDiff, Nat.reduceBneDiff, Int.reduceBNe, Int.reduceBEq, Int.reduceEq, Int.reduceLT, Int.reduceLE, Int.reduceAdd, Int.reduceSub, Int.reduceMul, Int.reduceNeg, List.reduceReplicate, Int.reduceToNat]
        rw [hR] at hE2
        exact hA _ _ d' _ hE2 hh' ho'
      · intro H' e L hR he hh' hs hp
        simp only [xx, run_nil, r35_0, r35_1, r35_2, r35_3, r35_4, res35, tt, bb, bc, ↓bd, Nat.reduceEqDiff, Nat.reduceAdd, Nat.reduceMul, Nat.reduceLeDiff, Nat.reduceLT, ↓reduceIte, reduceCtorEq, Nat.reduceBeqDiff, Nat.reduceBneDiff, Int.reduceBNe, Int.reduceBEq, Int.reduceEq, Int.reduceLT, Int.reduceLE, Int.reduceAdd, Int.reduceSub, Int.reduceMul, Int.reduceNeg, List.reduceReplicate, Int.reduceToNat]
        rw [hR] at hE2
        exact hB _ _ _ e L hE2 hh' hs hp
  | j + 1, i, T, H, done, gs, κ, dO, dV, hij, t0, t3, t4, t8, t9, t10, hh, ho, hv, hκ, hE, hdl => by
    rw [run_inLoop]
    have him : i < m.length := by omega
    have c0 : (i : Int) < ((m.map encP).length : Int) := by rw [List.length_map]; omega
    have p0 : (0 : Int) ≤ (i : Int) := by omega
    have g0 := enc_get (List.getElem?_eq_getElem him)
    have w1 : IntKind.i64.wrap ((i : Int) + 1) = ((i + 1 : Nat) : Int) := by rw [wr64 (by omega) (by omega)]; omega
    have hdr : m.drop i = m[i] :: m.drop (i + 1) := List.drop_eq_getElem_cons him
    rcases hv with ⟨rfl, rfl, rfl⟩ | ⟨hn, g, rfl, hg7, hgn, hg, hgl⟩
    · replace t10 : T 10 = .int .i64 0 := t10
      simp only [Int.cast_ofNat_Int, Int.zero_add] at c0 p0 w1
      have hx := hh.hn
      simp only [t0, t3, t4, t8, t9, t10, c0, g0, i64, w1, Int.le_refl, updS, app_nil vslS vtiS (show 48 ≤ most by decide), runVH_some, dop_builtinC, dynB_some, apart_nil, xx, run_nil, r35_0, r35_1, r35_2, r35_3, r35_4.1, r35_4.2.2.1, r35_4.2.2.2.1, r35_4.2.2.2.2.1, r35_4.2.2.2.2.2, res35, tt, bb, bc, ↓bd, Nat.reduceEqDiff, Nat.reduceAdd, Nat.reduceMul, Nat.reduceLeDiff, Nat.reduceLT, ↓reduceIte, reduceCtorEq, Nat.reduceBeqDiff, Nat.reduceBneDiff, Int.reduceBNe, Int.reduceBEq, Int.reduceEq, Int.reduceLT, Int.reduceLE, Int.reduceAdd, Int.reduceSub, Int.reduceMul, Int.reduceNeg, List.reduceReplicate, Int.reduceToNat]
      refine s17_all hm hT0 hA hB j 1 _ _ done [m[0]] (m[0]).key dO _ (by omega) ?_ rfl ?_ ?_ ?_ ?_ (hh.up ?_ ?_) (ho.keep ?_ ?_) (.inr ⟨by simp, H.next + 1 + 1, ?_, ?_, ?_, ?_, ?_⟩) ?_ ?_ ?_
      · simp only [upd_app, t0, Nat.reduceEqDiff, ↓reduceIte]
      · simp only [upd_app, Nat.reduceEqDiff, ↓reduceIte]
      · simp only [upd_app, t8, Nat.reduceEqDiff, ↓reduceIte]
      · simp only [upd_app, t9, Nat.reduceEqDiff, ↓reduceIte]
      · simp only [upd_app, Nat.reduceEqDiff, ↓reduceIte] <;> rfl
      · intro b hb
        simp only [upd_app]
        rw [if_neg (by omega), if_neg (by omega), if_neg (by omega)]
      · show H.next ≤ H.next + 1 + 1 + 1
        omega
      · show H.next ≤ H.next + 1 + 1 + 1
        omega
      · intro q hq _
        simp only [upd_app]
        rw [if_neg (by omega), if_neg (by omega), if_neg (by omega)]
      · simp only [upd_app, Nat.reduceEqDiff, ↓reduceIte]; rfl
      · omega
      · exact Nat.lt_succ_self _
      · simp only [upd_app, ↓reduceIte]
        rfl
      · simp
      · intro q hq
        rw [List.mem_singleton.mp hq]
      · rw [hE, hdr]; rfl
      · omega
    · have ci : (0 : Int) < (i : Int) := by
        have := List.length_pos_iff.mpr hn
        omega
      have hnx := hh.hn
      have hcl : (gs.map encVp).length = gs.length := List.length_map _
      have hrow := app_row (C := Cx) (g := g) (n := H.next + 1) (A := upd H.at_ H.next (.cells 47 6 [encP m[i]])) (es := gs.map encVp) (row := encVp m[i]) vslS vtiS (by rw [upd_app, if_neg (by omega)]; exact hg) (by omega) (by rw [hcl]; unfold most; omega) (by rw [hcl]; unfold most; omega)
      rw [hcl] at hrow
      simp only [encVp, encP] at hrow
      have hne : (H.next != g) = true := by simp; omega
      by_cases hk : (m[i]).key = κ
      · rw [hk] at g0
        have hk2 : (κ != κ) = false := by simp
        simp only [hk] at hrow
        simp only [t0, t3, t4, t8, t9, t10, c0, p0, ci, g0, hk2, i64, w1, updS, hrow, hne, Int.toNat_natCast, runVH_some, dop_builtinC, dynB_some, apart_slc, xx, run_nil, r35_0, r35_1, r35_2, r35_3, r35_4.1, r35_4.2.2.1, r35_4.2.2.2.1, r35_4.2.2.2.2.1, r35_4.2.2.2.2.2, res35, tt, bb, bc, ↓bd, Nat.reduceEqDiff, Nat.reduceAdd, Nat.reduceMul, Nat.reduceLeDiff, Nat.reduceLT, ↓reduceIte, reduceCtorEq, Nat.reduceBeqDiff, Nat.reduceBneDiff, Int.reduceBNe, Int.reduceBEq, Int.reduceEq, Int.reduceLT, Int.reduceLE, Int.reduceAdd, Int.reduceSub, Int.reduceMul, Int.reduceNeg, List.reduceReplicate, Int.reduceToNat]
        have hgl2 : (gs ++ [m[i]]).length = gs.length + 1 := by simp
        refine s17_all hm hT0 hA hB j (i + 1) _ _ done (gs ++ [m[i]]) κ dO _ (by omega) ?_ rfl ?_ ?_ ?_ ?_ (hh.up ?_ ?_) (ho.keep ?_ ?_) (.inr ⟨by simp, H.next + 1 + 1, ?_, ?_, ?_, ?_, by rw [hgl2]; omega⟩) ?_ ?_ (by omega)
        · simp only [upd_app, t0, Nat.reduceEqDiff, ↓reduceIte]
        · simp only [upd_app, Nat.reduceEqDiff, ↓reduceIte]
        · simp only [upd_app, t8, Nat.reduceEqDiff, ↓reduceIte]
        · simp only [upd_app, t9, Nat.reduceEqDiff, ↓reduceIte]
        · simp only [upd_app, Nat.reduceEqDiff, ↓reduceIte]
        · intro b hb
          simp only [upd_app]
          rw [if_neg (by omega), if_neg (by omega), if_neg (by omega), if_neg (by omega)]
        · show H.next ≤ H.next + 1 + 1 + 1
          omega
        · show H.next ≤ H.next + 1 + 1 + 1
          omega
        · intro q hq hq2
          have hqg : q ≠ g := by rintro rfl; rw [hg] at hq2; cases hq2
          simp only [upd_app]
          rw [if_neg (by omega), if_neg hqg, if_neg (by omega), if_neg (by omega)]
        · rw [hgl2]; simp only [upd_app, Nat.reduceEqDiff, ↓reduceIte]
        · omega
        · exact Nat.lt_succ_self _
        · simp only [upd_app, ↓reduceIte]
          rw [List.map_append (l₁ := gs)]
          rfl
        · intro q hq
          rcases List.mem_append.mp hq with hq | hq
          · exact hκ q hq
          · rw [List.mem_singleton.mp hq]; exact hk
        · rw [hE, hdr, List.append_assoc]; rfl
      · have hk2 : ((m[i]).key != κ) = true := by simpa using hk
        cases gs with
        | nil => exact absurd rfl hn
        | cons q0 ps =>
        simp only [List.length_cons] at t3 hgl
        have hE2 : foldL w m = goF w done q0 (ps ++ m.drop i) := hE
        have hgr := goF_group w done ps (m.drop i) q0 (fun q hq => (hκ q (by simp [hq])).trans (hκ q0 (by simp)).symm) (fun q r h => by
          rw [hdr] at h
          rw [← (List.cons.inj h).1, hκ q0 (by simp)]
          exact hk)
        rw [hgr] at hE2
        simp only [t0, t3, t4, t8, t9, t10, c0, p0, ci, g0, hk2, i64, w1, updS, Int.toNat_natCast, xx, run_nil, r35_0, r35_1, r35_2, r35_3.1, r35_3.2.1, r35_3.2.2.1, r35_3.2.2.2.1, r35_3.2.2.2.2.1, r35_3.2.2.2.2.2.1, r35_3.2.2.2.2.2.2.1, r35_4.2.2.1, r35_4.2.2.2.1, r35_4.2.2.2.2.1, r35_4.2.2.2.2.2, res35, tt, bb, bc, ↓bd, Nat.reduceEqDiff, Nat.reduceAdd, Nat.reduceMul, Nat.reduceLeDiff, Nat.reduceLT, ↓reduceIte, reduceCtorEq, Nat.reduceBeqDiff, Nat.reduceBneDiff, Int.reduceBNe, Int.reduceBEq, Int.reduceEq, Int.reduceLT, Int.reduceLE, Int.reduceAdd, Int.reduceSub, Int.reduceMul, Int.reduceNeg, List.reduceReplicate, Int.reduceToNat]
        refine runA_yield (L := sL T0) ?_ ?_ ?_ rfl ?_
        · simp only [evs, ev, upd_app, t0, t3, t4, Nat.reduceEqDiff, ↓reduceIte]
        · simp only [evs, ev, upd_app, t0, t3, t4, Nat.reduceEqDiff, ↓reduceIte]
        · simp only [upd_app]
          rw [if_neg (by omega)]
          exact hh.h6
        have hh1 : SFH w 0 dO ⟨H.next + 1, upd H.at_ H.next (.cells 47 6 [encP m[i]])⟩ (sL T0) := hh.up (fun b hb => by simp only [upd_app]; rw [if_neg (by omega)]) (by show H.next ≤ H.next + 1; omega)
        have ho1 : OwnK 7 47 6 dO (H.next + 1) (upd H.at_ H.next (.cells 47 6 [encP m[i]])) (done.map encP) := ho.keep (by omega) (fun q hq _ => by rw [upd_app, if_neg (by omega)])
        have hdn : ∀ b, dO ≠ .slc H.next 6 0 b := by
          rintro b rfl
          rcases ho with ⟨h, _⟩ | ⟨q, q1, q2, q3, _⟩
          · cases h
          · cases q1; omega
        refine sf_round (by omega) (by omega) hT0 hh1 ho1 hg7 (by show g < H.next + 1; omega) (by simp only [upd_app]; rw [if_neg (by omega)]; exact hg) (hκ q0 (by simp)) ?_ ?_
        · intro H' d' v hR hh' ho' hnx' hkp
          rw [hR] at hE2
          have hp' : H'.at_ H.next = .cells 47 6 [encP m[i]] := by
            rw [hkp _ (by omega) (by show H.next < H.next + 1; omega) hdn]
            simp only [upd_app, ↓reduceIte]
            rfl
          simp only [encP] at hp'
          simp only [t0, t3, t4, t8, t9, t10, hp', i64, w1, updS, app_nil vslS vtiS (show 48 ≤ most by decide), runVH_some, dop_builtinC, dynB_some, apart_nil, xx, run_nil, r35_0, r35_1, r35_2, r35_3, r35_4.1, r35_4.2.2.1, r35_4.2.2.2.1, r35_4.2.2.2.2.1, r35_4.2.2.2.2.2, res35, tt, bb, bc, ↓bd, Nat.reduceEqDiff, Nat.reduceAdd, Nat.reduceMul, Nat.reduceLeDiff, Nat.reduceLT, ↓reduceIte, reduceCtorEq, Nat.reduceBeqDiff, Nat.reduceBneDiff, Int.reduceBNe, Int.reduceBEq, Int.reduceEq, Int.reduceLT, Int.reduceLE, Int.reduceAdd, Int.reduceSub, Int.reduceMul, Int.reduceNeg, List.reduceReplicate, Int.reduceToNat]
          have hnx2 := hh'.hn
          replace hnx' : H.next + 1 ≤ H'.next := hnx'
          have hdl2 : (done ++ [setP q0 v]).length = done.length + 1 := by simp
          refine s17_all hm hT0 hA hB j (i + 1) _ _ (done ++ [setP q0 v]) [m[i]] (m[i]).key d' _ (by omega) ?_ rfl ?_ ?_ ?_ ?_ (hh'.up ?_ ?_) (ho'.keep ?_ ?_) (.inr ⟨by simp, H'.next + 1, ?_, ?_, ?_, ?_, by simp⟩) ?_ ?_ (by rw [hdl2]; omega)
          · simp only [upd_app, t0, Nat.reduceEqDiff, ↓reduceIte]
          · simp only [upd_app, Nat.reduceEqDiff, ↓reduceIte]
          · simp only [upd_app, t8, Nat.reduceEqDiff, ↓reduceIte]
          · simp only [upd_app, t9, Nat.reduceEqDiff, ↓reduceIte]
          · simp only [upd_app, Nat.reduceEqDiff, ↓reduceIte]
          · intro b hb
            simp only [upd_app]
            rw [if_neg (by omega), if_neg (by omega)]
          · show H'.next ≤ H'.next + 1 + 1
            omega
          · show H'.next ≤ H'.next + 1 + 1
            omega
          · intro q hq _
            simp only [upd_app]
            rw [if_neg (by omega), if_neg (by omega)]
          · simp only [upd_app, Nat.reduceEqDiff, ↓reduceIte]; rfl
          · omega
          · exact Nat.lt_succ_self _
          · simp only [upd_app, ↓reduceIte]
            rfl
          · intro q hq
            rw [List.mem_singleton.mp hq]
          · rw [hE2, hdr]; rfl
        · intro H' e L hR he hh' hs hp
          rw [hR] at hE2
          simp only [xx, run_nil, r35_0, r35_1, r35_2, r35_3, r35_4, res35, tt, bb, bc, ↓bd, Nat.reduceEqDiff, Nat.reduceAdd, Nat.reduceMul, Nat.reduceLeDiff, Nat.reduceLT, ↓reduceIte, reduceCtorEq, Nat.reduceBeqDiff, Nat.reduceBneDiff, Int.reduceBNe, Int.reduceBEq, Int.reduceEq, Int.reduceLT, Int.reduceLE, Int.reduceAdd, Int.reduceSub, Int.reduceMul, Int.reduceNeg, List.reduceReplicate, Int.reduceToNat]
          exact hB _ _ _ e L hE2 hh' hs hp
end Go.Proofs.Ytjnopnlgcmlkfaa.G

namespace Go.Proofs.Ytjnopnlgcmlkfaa.G
open Go.BX
set_option linter.unusedSimpArgs false
set_option linter.unusedVariables false
theorem goF_ne (w : Bytes) : ∀ (r done : List Pr) (p : Pr) (out : List Pr), goF w done p r = .ok out → out ≠ []
  | [], done, p, out, h => by
    have h' : Except.ok (ε := Int) (done ++ [p]) = .ok out := h
    cases h'
    simp
  | q :: r, done, p, out, h => by
    have h' : (if q.key = p.key then (if (foldR w (fstP p) (fstP q)).2 = 0 then goF w done (setP p (foldR w (fstP p) (fstP q)).1) r else .error (foldR w (fstP p) (fstP q)).2) else goF w (done ++ [p]) q r) = .ok out := h
    split at h'
    · split at h'
      · exact goF_ne w r _ _ _ h'
      · cases h'
    · exact goF_ne w r _ _ _ h'
theorem sf_end {w : Bytes} {m : List Pr} {T : Nat → AV} (hm0 : m ≠ []) (hT : SFT T) : ∀ (H3 : AHeap), ((∃ d' out, foldL w m = .ok out ∧ SFH w 0 d' H3 (sL T) ∧ OwnK 7 47 6 d' H3.next H3.at_ (out.map encP)) ∨ (∃ d' e L, foldL w m = .error e ∧ SFH w e d' H3 L ∧ L.state = .done ∧ L.pending = some .ret)) →
    ∃ L, H3.at_ 6 = .loop L ∧ L.state ≠ .busy ∧ jumpOk L.pending = true ∧
      Run Cx 8 T [.collected 5] none ((L.pending.map AItem.code).toList ++ [.inBlock 0, .code c8_51]) (H3.set 6 (.loop { L with state := .exhausted })) (fun r0 H' => BX.freeze H' r0 = some (toAF (foldL w m))) := by
  obtain ⟨t3, t4, t5, t6⟩ := hT
  rintro H3 (⟨d', out, hE, hh, ho⟩ | ⟨d', e, L, hE, hh, hs, hp⟩)
  · obtain ⟨h0, h1, h2, h3, h5, h6, hx⟩ := hh
    have hout : out ≠ [] := by
      cases m with
      | nil => exact absurd rfl hm0
      | cons p r => exact goF_ne w r [] p out hE
    rcases ho with ⟨rfl, hnil⟩ | ⟨g, rfl, hg7, hgn, hg⟩
    · exact absurd (List.map_eq_nil_iff.mp hnil) hout
    rw [List.length_map] at h3
    have hf : ∀ A', A' g = .cells 47 6 (out.map encP) → freeze2 ⟨H3.next, A'⟩ (.slc g 6 0 out.length) = some (.vec 6 (out.map encP)) := fun A' h => frz_rows h
    refine ⟨sL T, h6, (by show LS.ready ≠ LS.busy; decide), rfl, ?_⟩
    rw [hE, toAF_ne hout]
    simp only [sL, Option.map_none, Option.toList_none, List.nil_append, t3, t4, t5, t6, h0, h1, h2, h3, h5, AHeap.set, run_inBlock, r8_0, r8_1, r8_2, r8_3, r8_4, r8_5, r8_6.1, r8_6.2.1, r8_6.2.2.1, r8_6.2.2.2.1, res8, tt, bb, bc, ↓bd, Nat.reduceEqDiff, Nat.reduceAdd, Nat.reduceMul, Nat.reduceLeDiff, Nat.reduceLT, ↓reduceIte, reduceCtorEq, Nat.reduceBeqDiff, Nat.reduceBneDiff, Int.reduceBNe, Int.reduceBEq, Int.reduceEq, Int.reduceLT, Int.reduceLE, Int.reduceAdd, Int.reduceSub, Int.reduceMul, Int.reduceNeg, List.reduceReplicate, Int.reduceToNat]
    unfold c8_53
    refine ret_col (by simp only [upd_app, h5, Nat.reduceEqDiff, ↓reduceIte]) ?_
    have e5 : (g = 5) = False := eq_false (by omega)
    have e2 : (g = 2) = False := eq_false (by omega)
    have e1 : (g = 1) = False := eq_false (by omega)
    have e6 : (g = 6) = False := eq_false (by omega)
    have hfe : ∀ A' : Nat → Blk, frzE ⟨H3.next, A'⟩ 3 6 (some (out.map encP)) = some (.vec 6 (out.map encP)) := fun A' => by
      rw [frzE_some]
      have key : ∀ l : List Pr, mapO (mapO (freeze1 ⟨H3.next, A'⟩ 3)) (l.map encP) = some (l.map encP) := by
        intro l
        induction l with
        | nil => rfl
        | cons p l ih =>
          rw [List.map_cons, mapO_cons, ih]
          have : mapO (freeze1 ⟨H3.next, A'⟩ 3) (encP p) = some (encP p) := mapO_all (p := AV.flat1) (fun v hv => freeze1_flat hv) rfl
          rw [this]; rfl
      rw [key]; rfl
    have htk : (out.map encP).take out.length = out.map encP := List.take_of_length_le (by simp)
    simp only [res8, upd_app, t4, t5, h2, e1, e2, e5, e6, hg, htk, List.drop_zero, List.length_map, Nat.zero_add, Nat.le_refl, and_self, hfe, AHeap.set, tt, bb, bc, ↓bd, Nat.reduceEqDiff, Nat.reduceAdd, Nat.reduceMul, Nat.reduceLeDiff, Nat.reduceLT, ↓reduceIte, reduceCtorEq, Nat.reduceBeqDiff, Nat.reduceBneDiff, Int.reduceBNe, Int.reduceBEq, Int.reduceEq, Int.reduceLT, Int.reduceLE, Int.reduceAdd, Int.reduceSub, Int.reduceMul, Int.reduceNeg, List.reduceReplicate, Int.reduceToNat]
  · obtain ⟨h0, h1, h2, h3, h5, h6, hx⟩ := hh
    refine ⟨L, h6, by rw [hs]; decide, by rw [hp]; rfl, ?_⟩
    rw [hp, hE]
    simp only [Option.map_some, Option.toList_some, List.cons_append, List.nil_append]
    refine ret_col (by simp only [AHeap.set, upd_app, h5, Nat.reduceEqDiff, ↓reduceIte]) ?_
    simp only [res8, t4, t5, h1, h2, upd_app, toAF, freeze2_nilS, AHeap.set, tt, bb, bc, ↓bd, Nat.reduceEqDiff, Nat.reduceAdd, Nat.reduceMul, Nat.reduceLeDiff, Nat.reduceLT, ↓reduceIte, reduceCtorEq, Nat.reduceBeqDiff, Nat.reduceBneDiff, Int.reduceBNe, Int.reduceBEq, Int.reduceEq, Int.reduceLT, Int.reduceLE, Int.reduceAdd, Int.reduceSub, Int.reduceMul, Int.reduceNeg, List.reduceReplicate, Int.reduceToNat]
theorem sFold_ok {v : AV} {l : List Pr} {w : Bytes} (hv : InL v l) (hl : l.length ≤ 90000) : PCall Cx 8 [v, .str w] (if isOrd l then toAF (foldL w l) else .tuple [.nilS, .int .i64 17]) := by
  have f0 : [v].all AV.flat = true := by simp [hv.e.flat]
  have hord := Ordered_ok' hv.e (show l.length ≤ 1000000 by omega)
  cases hb : isOrd l with
  | false =>
    rw [hb] at hord
    refine pcall_run (noext _) body8 ?_
    simp only [Bool.false_eq_true, if_false, freeze2_nilS, call_pure pure21 f0 hord, r8_0, r8_1.1, r8_1.2.1, r8_1.2.2.2.1, r8_1.2.2.2.2.1, r8_1.2.2.2.2.2.1, r8_1.2.2.2.2.2.2.1, r8_1.2.2.2.2.2.2.2, r8_2, r8_3, r8_4, r8_5, r8_6, res8, tt, bb, bc, ↓bd, Nat.reduceEqDiff, Nat.reduceAdd, Nat.reduceMul, Nat.reduceLeDiff, Nat.reduceLT, ↓reduceIte, reduceCtorEq, Nat.reduceBeqDiff, Nat.reduceBneDiff, Int.reduceBNe, Int.reduceBEq, Int.reduceEq, Int.reduceLT, Int.reduceLE, Int.reduceAdd, Int.reduceSub, Int.reduceMul, Int.reduceNeg, List.reduceReplicate, Int.reduceToNat]
  | true =>
    rw [hb] at hord
    rw [if_pos rfl]
    by_cases h0 : l = []
    · subst h0
      rcases hv with ⟨rfl, _⟩ | rfl
      · exact ⟨400, by kernel_rfl⟩
      · exact ⟨400, by kernel_rfl⟩
    · obtain ⟨m2, w2, hs, hw, hp, _⟩ := Sort_ok hv.e (show l.length ≤ 1000000 by omega)
      have hml : m2 = l := hs.uniq ⟨fun _ => rfl, of_decide_eq_true hb, rfl⟩
      subst hml
      obtain rfl := hv.e.vec h0
      obtain rfl := hw.vec h0
      refine pcall_run (noext _) body8 ?_
      simp only [call_pure pure21 f0 hord, r8_0, r8_1, r8_2, r8_3, r8_4, r8_5, r8_6.1, r8_6.2.1, r8_6.2.2.2.1, r8_6.2.2.2.2, res8, tt, bb, bc, ↓bd, Nat.reduceEqDiff, Nat.reduceAdd, Nat.reduceMul, Nat.reduceLeDiff, Nat.reduceLT, ↓reduceIte, reduceCtorEq, Nat.reduceBeqDiff, Nat.reduceBneDiff, Int.reduceBNe, Int.reduceBEq, Int.reduceEq, Int.reduceLT, Int.reduceLE, Int.reduceAdd, Int.reduceSub, Int.reduceMul, Int.reduceNeg, List.reduceReplicate, Int.reduceToNat]
      refine call_body pure22 (noext _) body22 ?_
      simp only [r8_0, r8_1, r8_2, r8_3, r8_4, r8_5, r8_6.1, r8_6.2.1, r8_6.2.2.2.1, r8_6.2.2.2.2, res8, r22_0, res22, tt, bb, bc, ↓bd, Nat.reduceEqDiff, Nat.reduceAdd, Nat.reduceMul, Nat.reduceLeDiff, Nat.reduceLT, ↓reduceIte, reduceCtorEq, Nat.reduceBeqDiff, Nat.reduceBneDiff, Int.reduceBNe, Int.reduceBEq, Int.reduceEq, Int.reduceLT, Int.reduceLE, Int.reduceAdd, Int.reduceSub, Int.reduceMul, Int.reduceNeg, List.reduceReplicate, Int.reduceToNat]
      unfold c8_16
      refine run_rangeFunc (g := 35) rfl pure35 (noext _) body35 ?_
      generalize hTT : upd (upd _ 17 _) 18 _ = T
      have hT : SFT T := by
        subst hTT
        refine ⟨?_, ?_, ?_, ?_⟩ <;> simp only [upd_app, Nat.reduceEqDiff, ↓reduceIte]
      simp only [loopH, call_pure pure9 f0 hp, i64, lenOf, r35_0, r35_1.1, r35_1.2.2.1, r35_1.2.2.2.1, r35_1.2.2.2.2.1, r35_1.2.2.2.2.2.1, r35_1.2.2.2.2.2.2.1, r35_1.2.2.2.2.2.2.2, r35_2, r35_3, r35_4.1, r35_4.2.2.1, r35_4.2.2.2.1, r35_4.2.2.2.2.1, r35_4.2.2.2.2.2, res35, tt, bb, bc, ↓bd, Nat.reduceEqDiff, Nat.reduceAdd, Nat.reduceMul, Nat.reduceLeDiff, Nat.reduceLT, ↓reduceIte, reduceCtorEq, Nat.reduceBeqDiff, Nat.reduceBneDiff, Int.reduceBNe, Int.reduceBEq, Int.reduceEq, Int.reduceLT, Int.reduceLE, Int.reduceAdd, Int.reduceSub, Int.reduceMul, Int.reduceNeg, List.reduceReplicate, Int.reduceToNat]
      refine s17_all (w := w) (T0 := T) hl hT ?_ ?_ m2.length 0 _ _ [] [] [] .nilS .nilS (by omega) ?_ ?_ ?_ ?_ ?_ ?_ ⟨?_, ?_, ?_, ?_, ?_, ?_, ?_⟩ (.inl ⟨rfl, rfl⟩) (.inl ⟨rfl, rfl, rfl⟩) (fun q hq => by cases hq) (by rw [foldL_goG]; rfl) (Nat.le_refl _)
      · intro r H' d' out hE hh ho
        exact sf_end h0 hT H' (.inl ⟨d', out, hE, hh, ho⟩)
      · intro r H' d' e L hE hh h1 h2
        exact sf_end h0 hT H' (.inr ⟨d', e, L, hE, hh, h1, h2⟩)
      all_goals (try simp only [upd_app, enterT, List.getElem?_cons_zero, List.getElem?_cons_succ, Option.getD_some, Nat.reduceEqDiff, ↓reduceIte])
      all_goals (first | rfl | exact Nat.le_refl _)
end Go.Proofs.Ytjnopnlgcmlkfaa.G

namespace Go.Proofs.Ytjnopnlgcmlkfaa.G
open Go.BX
set_option linter.unusedSimpArgs false
set_option linter.unusedVariables false
def eqPr (p q : Pr) : Bool := p.key == q.key && (p.k == q.k && (p.n == q.n && (p.s == q.s && (p.x == q.x && p.y == q.y))))
theorem eqPr_iff {p q : Pr} : eqPr p q = true ↔ p = q := by
  unfold eqPr
  simp only [Bool.and_eq_true, beq_iff_eq]
  constructor
  · rintro ⟨h1, h2, h3, h4, h5, h6⟩
    cases p; cases q
    simp only at h1 h2 h3 h4 h5 h6
    subst h1 h2 h3 h4 h5 h6
    rfl
  · rintro rfl
    exact ⟨rfl, rfl, rfl, rfl, rfl, rfl⟩
def sameP : List Pr → List Pr → Bool
  | [], [] => true
  | p :: l, q :: m => eqPr p q && sameP l m
  | _, _ => false
theorem sameP_iff : ∀ {l m : List Pr}, sameP l m = true ↔ l = m
  | [], [] => by simp [sameP]
  | [], q :: m => by simp [sameP]
  | p :: l, [] => by simp [sameP]
  | p :: l, q :: m => by
    show (eqPr p q && sameP l m) = true ↔ _
    rw [Bool.and_eq_true, eqPr_iff, sameP_iff, List.cons.injEq]
def PEg (l m : List Pr) (r : Bool) (i : Nat) : Prop :=
  ∀ (T : Nat → AV) (H : AHeap), T 0 = .vec 6 (l.map encP) → T 1 = .vec 6 (m.map encP) → T 5 = .int .i64 (i : Int) →
    Run Cx 11 T [] none [.inLoop c11_15, .inBlock 0, .code c11_31] H (fun r0 H' => BX.freeze H' r0 = some (.bool r))
theorem peg_all {l m : List Pr} (hl : l.length ≤ 100000) (hlm : l.length = m.length) : ∀ (j i : Nat), i + j = l.length → PEg l m (sameP (l.drop i) (m.drop i)) i
  | 0, i, hij => by
    intro T H t0 t1 t5
    rw [run_inLoop]
    have h0 : ((i : Int) < ((l.map encP).length : Int)) = False := eq_false (by rw [List.length_map]; omega)
    rw [List.drop_of_length_le (by omega), List.drop_of_length_le (by omega)]
    have e : sameP [] [] = true := rfl
    rw [e]
    simp only [t0, t1, t5, h0, xx, r11_0, r11_1, r11_2, r11_3, r11_4, res11, tt, bb, bc, ↓bd, Nat.reduceEqDiff, Nat.reduceAdd, Nat.reduceMul, Nat.reduceLeDiff, Nat.reduceLT, ↓reduceIte, reduceCtorEq, Nat.reduceBeqDiff, Nat.reduceBneDiff, Int.reduceBNe, Int.reduceBEq, Int.reduceEq, Int.reduceLT, Int.reduceLE, Int.reduceAdd, Int.reduceSub, Int.reduceMul, Int.reduceNeg, List.reduceReplicate, Int.reduceToNat]
  | j + 1, i, hij => by
    intro T H t0 t1 t5
    rw [run_inLoop]
    have hi : i < l.length := by omega
    have hi2 : i < m.length := by omega
    have h0 : ((i : Int) < ((l.map encP).length : Int)) = True := eq_true (by rw [List.length_map]; omega)
    have h1 : ((i : Int) < ((m.map encP).length : Int)) = True := eq_true (by rw [List.length_map]; omega)
    have hi0 : (0 : Int) ≤ (i : Int) := by omega
    have hg := enc_get (List.getElem?_eq_getElem hi)
    have hg2 := enc_get (List.getElem?_eq_getElem hi2)
    have w1 : IntKind.i64.wrap ((i : Int) + 1) = ((i + 1 : Nat) : Int) := by rw [wr64 (by omega) (by omega)]; omega
    have hd : l.drop i = l[i] :: l.drop (i + 1) := List.drop_eq_getElem_cons hi
    have hd2 : m.drop i = m[i] :: m.drop (i + 1) := List.drop_eq_getElem_cons hi2
    rw [hd, hd2]
    have ih := peg_all hl hlm j (i + 1) (by omega)
    generalize l[i] = p at hg
    generalize m[i] = q at hg2
    have e : sameP (p :: l.drop (i + 1)) (q :: m.drop (i + 1)) = (eqPr p q && sameP (l.drop (i + 1)) (m.drop (i + 1))) := rfl
    rw [e]
    cases h_key : (p.key == q.key) with
    | false =>
      have he : eqPr p q = false := by unfold eqPr; simp only [h_key, Bool.false_and, Bool.true_and, Bool.and_false]
      rw [he, Bool.false_and]
      simp only [t0, t1, t5, h0, h1, hi0, hg, hg2, w1, h_key, Bool.false_and, Bool.true_and, Bool.and_true, Bool.and_false, Bool.not_false, Bool.not_true, Bool.and_self, Int.toNat_natCast, xx, r11_0, r11_1, r11_2, r11_3, r11_4, res11, tt, bb, bc, ↓bd, Nat.reduceEqDiff, Nat.reduceAdd, Nat.reduceMul, Nat.reduceLeDiff, Nat.reduceLT, ↓reduceIte, reduceCtorEq, Nat.reduceBeqDiff, Nat.reduceBneDiff, Int.reduceBNe, Int.reduceBEq, Int.reduceEq, Int.reduceLT, Int.reduceLE, Int.reduceAdd, Int.reduceSub, Int.reduceMul, Int.reduceNeg, List.reduceReplicate, Int.reduceToNat]
    | true =>
      cases h_k : (p.k == q.k) with
      | false =>
        have he : eqPr p q = false := by unfold eqPr; simp only [h_key, h_k, Bool.false_and, Bool.true_and, Bool.and_false]
        rw [he, Bool.false_and]
        simp only [t0, t1, t5, h0, h1, hi0, hg, hg2, w1, h_key, h_k, Bool.false_and, Bool.true_and, Bool.and_true, Bool.and_false, Bool.not_false, Bool.not_true, Bool.and_self, Int.toNat_natCast, xx, r11_0, r11_1, r11_2, r11_3, r11_4, res11, tt, bb, bc, ↓bd, Nat.reduceEqDiff, Nat.reduceAdd, Nat.reduceMul, Nat.reduceLeDiff, Nat.reduceLT, ↓reduceIte, reduceCtorEq, Nat.reduceBeqDiff, Nat.reduceBneDiff, Int.reduceBNe, Int.reduceBEq, Int.reduceEq, Int.reduceLT, Int.reduceLE, Int.reduceAdd, Int.reduceSub, Int.reduceMul, Int.reduceNeg, List.reduceReplicate, Int.reduceToNat]
      | true =>
        cases h_n : (p.n == q.n) with
        | false =>
          have he : eqPr p q = false := by unfold eqPr; simp only [h_key, h_k, h_n, Bool.false_and, Bool.true_and, Bool.and_false]
          rw [he, Bool.false_and]
          simp only [t0, t1, t5, h0, h1, hi0, hg, hg2, w1, h_key, h_k, h_n, Bool.false_and, Bool.true_and, Bool.and_true, Bool.and_false, Bool.not_false, Bool.not_true, Bool.and_self, Int.toNat_natCast, xx, r11_0, r11_1, r11_2, r11_3, r11_4, res11, tt, bb, bc, ↓bd, Nat.reduceEqDiff, Nat.reduceAdd, Nat.reduceMul, Nat.reduceLeDiff, Nat.reduceLT, ↓reduceIte, reduceCtorEq, Nat.reduceBeqDiff, Nat.reduceBneDiff, Int.reduceBNe, Int.reduceBEq, Int.reduceEq, Int.reduceLT, Int.reduceLE, Int.reduceAdd, Int.reduceSub, Int.reduceMul, Int.reduceNeg, List.reduceReplicate, Int.reduceToNat]
        | true =>
          cases h_s : (p.s == q.s) with
          | false =>
            have he : eqPr p q = false := by unfold eqPr; simp only [h_key, h_k, h_n, h_s, Bool.false_and, Bool.true_and, Bool.and_false]
            rw [he, Bool.false_and]
            simp only [t0, t1, t5, h0, h1, hi0, hg, hg2, w1, h_key, h_k, h_n, h_s, Bool.false_and, Bool.true_and, Bool.and_true, Bool.and_false, Bool.not_false, Bool.not_true, Bool.and_self, Int.toNat_natCast, xx, r11_0, r11_1, r11_2, r11_3, r11_4, res11, tt, bb, bc, ↓bd, Nat.reduceEqDiff, Nat.reduceAdd, Nat.reduceMul, Nat.reduceLeDiff, Nat.reduceLT, ↓reduceIte, reduceCtorEq, Nat.reduceBeqDiff, Nat.reduceBneDiff, Int.reduceBNe, Int.reduceBEq, Int.reduceEq, Int.reduceLT, Int.reduceLE, Int.reduceAdd, Int.reduceSub, Int.reduceMul, Int.reduceNeg, List.reduceReplicate, Int.reduceToNat]
          | true =>
            cases h_x : (p.x == q.x) with
            | false =>
              have he : eqPr p q = false := by unfold eqPr; simp only [h_key, h_k, h_n, h_s, h_x, Bool.false_and, Bool.true_and, Bool.and_false]
              rw [he, Bool.false_and]
              simp only [t0, t1, t5, h0, h1, hi0, hg, hg2, w1, h_key, h_k, h_n, h_s, h_x, Bool.false_and, Bool.true_and, Bool.and_true, Bool.and_false, Bool.not_false, Bool.not_true, Bool.and_self, Int.toNat_natCast, xx, r11_0, r11_1, r11_2, r11_3, r11_4, res11, tt, bb, bc, ↓bd, Nat.reduceEqDiff, Nat.reduceAdd, Nat.reduceMul, Nat.reduceLeDiff, Nat.reduceLT, ↓reduceIte, reduceCtorEq, Nat.reduceBeqDiff, Nat.reduceBneDiff, Int.reduceBNe, Int.reduceBEq, Int.reduceEq, Int.reduceLT, Int.reduceLE, Int.reduceAdd, Int.reduceSub, Int.reduceMul, Int.reduceNeg, List.reduceReplicate, Int.reduceToNat]
            | true =>
              cases h_y : (p.y == q.y) with
              | false =>
                have he : eqPr p q = false := by unfold eqPr; simp only [h_key, h_k, h_n, h_s, h_x, h_y, Bool.false_and, Bool.true_and, Bool.and_false]
                rw [he, Bool.false_and]
                simp only [t0, t1, t5, h0, h1, hi0, hg, hg2, w1, h_key, h_k, h_n, h_s, h_x, h_y, Bool.false_and, Bool.true_and, Bool.and_true, Bool.and_false, Bool.not_false, Bool.not_true, Bool.and_self, Int.toNat_natCast, xx, r11_0, r11_1, r11_2, r11_3, r11_4, res11, tt, bb, bc, ↓bd, Nat.reduceEqDiff, Nat.reduceAdd, Nat.reduceMul, Nat.reduceLeDiff, Nat.reduceLT, ↓reduceIte, reduceCtorEq, Nat.reduceBeqDiff, Nat.reduceBneDiff, Int.reduceBNe, Int.reduceBEq, Int.reduceEq, Int.reduceLT, Int.reduceLE, Int.reduceAdd, Int.reduceSub, Int.reduceMul, Int.reduceNeg, List.reduceReplicate, Int.reduceToNat]
              | true =>
                have he : eqPr p q = true := by unfold eqPr; simp only [h_key, h_k, h_n, h_s, h_x, h_y, Bool.true_and, Bool.and_self]
                rw [he, Bool.true_and]
                simp only [t0, t1, t5, h0, h1, hi0, hg, hg2, w1, h_key, h_k, h_n, h_s, h_x, h_y, Bool.false_and, Bool.true_and, Bool.and_true, Bool.and_false, Bool.not_false, Bool.not_true, Bool.and_self, Int.toNat_natCast, xx, r11_0, r11_1, r11_2, r11_3.1, r11_3.2.1, r11_3.2.2.1, r11_3.2.2.2.1, r11_3.2.2.2.2.1, r11_3.2.2.2.2.2.1, r11_3.2.2.2.2.2.2.1, r11_4, res11, tt, bb, bc, ↓bd, Nat.reduceEqDiff, Nat.reduceAdd, Nat.reduceMul, Nat.reduceLeDiff, Nat.reduceLT, ↓reduceIte, reduceCtorEq, Nat.reduceBeqDiff, Nat.reduceBneDiff, Int.reduceBNe, Int.reduceBEq, Int.reduceEq, Int.reduceLT, Int.reduceLE, Int.reduceAdd, Int.reduceSub, Int.reduceMul, Int.reduceNeg, List.reduceReplicate, Int.reduceToNat]
                refine ih _ _ ?_ ?_ ?_
                all_goals simp only [upd_app, t0, t1, Nat.reduceEqDiff, ↓reduceIte]
theorem SamePairs_any {v w : AV} {l m : List Pr} (hv : InE v l) (hw : InE w m) (hl : l.length ≤ 100000) (hm : m.length ≤ 100000) : PCall Cx 11 [v, w] (.bool (sameP l m)) := by
  by_cases hlm : l.length = m.length
  · by_cases he : l = []
    · have hme : m = [] := List.eq_nil_of_length_eq_zero (by rw [← hlm, he]; rfl)
      subst he hme
      exact SamePairs_e hv hw (by simp)
    · have hme : m ≠ [] := by
        rintro rfl
        exact he (List.eq_nil_of_length_eq_zero hlm)
      obtain rfl := hv.vec he
      obtain rfl := hw.vec hme
      refine pcall_run (noext _) body11 ?_
      have hp := peg_all hl hlm l.length 0 (by omega)
      rw [List.drop_zero, List.drop_zero] at hp
      have hle : (((l.map encP).length : Int) != ((m.map encP).length : Int)) = false := by
        rw [List.length_map, List.length_map, hlm]; simp
      simp only [hle, lenOf, i64, r11_0, r11_1.1, r11_1.2.1, r11_1.2.2.1, r11_1.2.2.2.1, r11_1.2.2.2.2.1, r11_1.2.2.2.2.2.1, r11_1.2.2.2.2.2.2.1, r11_2, r11_3.1, r11_3.2.1, r11_3.2.2.1, r11_3.2.2.2.1, r11_3.2.2.2.2.1, r11_3.2.2.2.2.2.1, r11_3.2.2.2.2.2.2.1, r11_4, res11, tt, bb, bc, ↓bd, Nat.reduceEqDiff, Nat.reduceAdd, Nat.reduceMul, Nat.reduceLeDiff, Nat.reduceLT, ↓reduceIte, reduceCtorEq, Nat.reduceBeqDiff, Nat.reduceBneDiff, Int.reduceBNe, Int.reduceBEq, Int.reduceEq, Int.reduceLT, Int.reduceLE, Int.reduceAdd, Int.reduceSub, Int.reduceMul, Int.reduceNeg, List.reduceReplicate, Int.reduceToNat]
      refine hp _ _ ?_ ?_ ?_
      all_goals simp only [upd_app, enterT, List.getElem?_cons_zero, List.getElem?_cons_succ, Option.getD_some, Nat.reduceEqDiff, ↓reduceIte]
      all_goals rfl
  · have e : sameP l m = false := by
      cases h : sameP l m with
      | false => rfl
      | true => exact absurd (congrArg List.length (sameP_iff.mp h)) hlm
    rw [e]
    refine pcall_run (noext _) body11 ?_
    have h1 := hv.len
    have h2 := hw.len
    simp only [BX.lenOf] at h1 h2
    have hle : ((l.length : Int) != (m.length : Int)) = true := by simp; omega
    simp only [h1, h2, hle, lenOf, i64, r11_0, r11_1, r11_2, r11_3, r11_4, res11, tt, bb, bc, ↓bd, Nat.reduceEqDiff, Nat.reduceAdd, Nat.reduceMul, Nat.reduceLeDiff, Nat.reduceLT, ↓reduceIte, reduceCtorEq, Nat.reduceBeqDiff, Nat.reduceBneDiff, Int.reduceBNe, Int.reduceBEq, Int.reduceEq, Int.reduceLT, Int.reduceLE, Int.reduceAdd, Int.reduceSub, Int.reduceMul, Int.reduceNeg, List.reduceReplicate, Int.reduceToNat]
end Go.Proofs.Ytjnopnlgcmlkfaa.G

namespace Go.Proofs.Ytjnopnlgcmlkfaa.G
open Go.BX
set_option linter.unusedSimpArgs false
set_option linter.unusedVariables false
theorem Merge_no {rv : AV} {ys : List (AV × List Pr)} (hv : rv = .vec 1 (rowsR ys) ∨ rv = .nilS ∧ ys = []) (hy : ∀ x, x ∈ ys → InE x.1 x.2 ∧ x.2.length ≤ 10000) (hs : ¬ ∀ x, x ∈ ys → isOrd x.2 = true) (few : ys.length ≤ 1000) :
    PCall Cx 13 [rv] (.tuple [.nilS, .int .i64 17]) ∧ PMade Cx 13 [rv] (.tuple [.nilS, .int .i64 17]) := by
  have hrun : ∃ r, r = AV.tuple [.nilS, .int .i64 17] ∧ PCall Cx 13 [rv] r ∧ PMade Cx 13 [rv] r := by
    refine both_of (noext _) body13 ?_
    simp only [r13_0.1, r13_0.2.1, r13_0.2.2.1, r13_0.2.2.2.1, r13_0.2.2.2.2.2.2.1, r13_0.2.2.2.2.2.2.2, r13_1.1, r13_1.2.1, r13_1.2.2.2.1, r13_1.2.2.2.2.1, r13_1.2.2.2.2.2.1, r13_1.2.2.2.2.2.2.1, r13_1.2.2.2.2.2.2.2, r13_2, res13, tt, bb, bc, ↓bd, Nat.reduceEqDiff, Nat.reduceAdd, Nat.reduceMul, Nat.reduceLeDiff, Nat.reduceLT, ↓reduceIte, reduceCtorEq, Nat.reduceBeqDiff, Nat.reduceBneDiff, Int.reduceBNe, Int.reduceBEq, Int.reduceEq, Int.reduceLT, Int.reduceLE, Int.reduceAdd, Int.reduceSub, Int.reduceMul, Int.reduceNeg, List.reduceReplicate, Int.reduceToNat]
    simp only [r13_0.2.2.2.2.1, o13_4, tt, bb, bc, ↓bd, Nat.reduceEqDiff, Nat.reduceAdd, Nat.reduceMul, Nat.reduceLeDiff, Nat.reduceLT, ↓reduceIte, reduceCtorEq, Nat.reduceBeqDiff, Nat.reduceBneDiff, Int.reduceBNe, Int.reduceBEq, Int.reduceEq, Int.reduceLT, Int.reduceLE, Int.reduceAdd, Int.reduceSub, Int.reduceMul, Int.reduceNeg, List.reduceReplicate, Int.reduceToNat]
    refine Contains2_call hv few (fun x hx => ⟨(hy x hx).1, by have := (hy x hx).2; omega⟩) ?_
    have hi : decide (0 ≤ idxU ys 0) = true := by
      have := (not_congr (idxU_good ys 0 (by omega))).mpr hs
      simp; omega
    rw [hi]
    simp only [r13_0, r13_1, r13_2, res13, tt, bb, bc, ↓bd, Nat.reduceEqDiff, Nat.reduceAdd, Nat.reduceMul, Nat.reduceLeDiff, Nat.reduceLT, ↓reduceIte, reduceCtorEq, Nat.reduceBeqDiff, Nat.reduceBneDiff, Int.reduceBNe, Int.reduceBEq, Int.reduceEq, Int.reduceLT, Int.reduceLE, Int.reduceAdd, Int.reduceSub, Int.reduceMul, Int.reduceNeg, List.reduceReplicate, Int.reduceToNat]
    exact ⟨_, rfl, rfl, rfl⟩
  obtain ⟨r, rfl, h1, h2⟩ := hrun
  exact ⟨h1, h2⟩
end Go.Proofs.Ytjnopnlgcmlkfaa.G

namespace Go.Proofs.Ytjnopnlgcmlkfaa.G
open Go.BX
set_option linter.unusedSimpArgs false
set_option linter.unusedVariables false
theorem awakeS_ok : PCall Cx 5 [] (.bool true) := ⟨3000, by kernel_rfl⟩
end Go.Proofs.Ytjnopnlgcmlkfaa.G

namespace Go.Proofs.Ytjnopnlgcmlkfaa.G
open Go.BX
set_option linter.unusedSimpArgs false
set_option linter.unusedVariables false
theorem OwnK.appv {h0 n : Nat} {d : AV} {A : Nat → Blk} {es : List Pr} {v : AV} {l : List Pr} (hd : OwnK h0 47 6 d n A (es.map encP)) (hh : h0 ≤ n) (hv : InE v l) (hb : (es.length + l.length) * 64 ≤ most) :
    ∃ d' n' A', builtinM Cx ⟨n, A⟩ .append [22, 22] [d, v] = some (d', ⟨n', A'⟩) ∧ OwnK h0 47 6 d' n' A' ((es ++ l).map encP) ∧ n ≤ n' := by
  have hs : ∀ H, source H 6 v = some (l.map encP) := fun H => hv.source H
  have hz : sizeT Cx 47 = some 6 := by unfold sizeT; rw [TT_47]; rfl
  have hmx : ∀ a b : Nat, (a + b) * 64 ≤ most → a + b ≤ most := fun a b h => by omega
  by_cases hl : l = []
  · have hnl : l.map encP = [] := by rw [hl]; rfl
    have hal : es ++ l = es := by rw [hl, List.append_nil]
    rw [hal]
    refine ⟨d, n, A, ?_, hd, Nat.le_refl _⟩
    rcases hd with ⟨rfl, h1⟩ | ⟨g, rfl, g1, g2, g3⟩
    · simp only [builtinM, TT_22, appendA, TT_47, hs]
      exact if_pos hnl
    · simp only [builtinM, TT_22, appendA, TT_47, hs, g3]
      rw [if_pos ⟨trivial, trivial, trivial, Nat.le_refl _, by rw [List.length_map, List.length_map]; exact hb, by rw [List.length_map, List.length_map]; exact hmx _ _ hb⟩]
      exact if_pos hnl
  · have hne : l.map encP ≠ [] := by simpa using hl
    rcases hd with ⟨rfl, h1⟩ | ⟨g, rfl, g1, g2, g3⟩
    · have hes : es = [] := by
        cases es with
        | nil => rfl
        | cons a b => cases h1
      subst hes
      refine ⟨.slc n 6 0 l.length, n + 1, upd A n (.cells 47 6 (l.map encP)), ?_, .inr ⟨n, by rw [List.length_map]; rfl, hh, Nat.lt_succ_self _, ?_⟩, Nat.le_succ _⟩
      rotate_left
      · rw [upd_app, if_pos rfl]; rfl
      · simp only [builtinM, TT_22, appendA, TT_47, hs]
        rw [if_neg hne, if_pos ⟨by rw [List.length_map]; simpa using hb, by rw [List.length_map]; have := hmx _ _ hb; simpa using this⟩, List.length_map]
        rfl
    · refine ⟨.slc n 6 0 (es.length + l.length), n + 1, upd (upd A g .dead) n (.cells 47 6 ((es ++ l).map encP)), ?_, .inr ⟨n, by rw [List.length_map, List.length_append], hh, Nat.lt_succ_self _, ?_⟩, Nat.le_succ _⟩
      rotate_left
      · rw [upd_app, if_pos rfl]
      · simp only [builtinM, TT_22, appendA, TT_47, hs, g3]
        rw [if_pos ⟨trivial, trivial, trivial, Nat.le_refl _, by rw [List.length_map, List.length_map]; exact hb, by rw [List.length_map, List.length_map]; exact hmx _ _ hb⟩, if_neg hne, List.take_of_length_le (Nat.le_refl _), List.map_append, List.length_map, List.length_map]
        rfl
end Go.Proofs.Ytjnopnlgcmlkfaa.G

namespace Go.Proofs.Ytjnopnlgcmlkfaa.G
open Go.BX
set_option linter.unusedSimpArgs false
set_option linter.unusedVariables false
theorem cut_all (P : List Pr) (room : Nat) : ∀ k, (List.range k).flatMap (piece P room) = P.take (k * room)
  | 0 => by simp
  | k + 1 => by
    rw [List.range_succ, List.flatMap_append, cut_all P room k, Nat.succ_mul, List.take_add]
    simp [piece]
theorem flat_len {f g : Nat → List Pr} {l : List Nat} (h : ∀ r, r ∈ l → (f r).length = (g r).length) : (l.flatMap f).length = (l.flatMap g).length := by
  induction l with
  | nil => rfl
  | cons x l ih => rw [List.flatMap_cons, List.flatMap_cons, List.length_append, List.length_append, h x (by simp), ih (fun r hr => h r (by simp [hr]))]
theorem Pcs.all {room : Nat} {P : List Pr} {ys : List (AV × List Pr)} (h : Pcs room P (ys.map (·.2))) : (∀ κ, ofKey κ (ys.flatMap (·.2)) = ofKey κ P) ∧ (ys.flatMap (·.2)).length = P.length := by
  have hf := h.full
  rw [List.length_map] at hf
  have hp : (List.range ys.length).flatMap (piece P room) = P := by
    rw [cut_all, List.take_of_length_le hf]
  have hs : ∀ r, r ∈ List.range ys.length → IsSort (piece P room r) (xsO ys r) := by
    intro r hr
    have hr' := List.mem_range.mp hr
    have := h.srt r (by rw [List.length_map]; exact hr')
    rw [List.getElem_map] at this
    rw [(vsO_get hr').2]
    exact this
  rw [← restO]
  unfold rest
  simp only [List.drop_zero]
  constructor
  · intro κ
    conv => rhs; rw [← hp]
    rw [ofKey_flat, ofKey_flat]
    exact flat_congr fun r hr => (hs r hr).keys κ
  · conv => rhs; rw [← hp]
    exact flat_len fun r hr => (hs r hr).len
section
variable {fn : FuncId} {T : Nat → AV} {ds : List ADef} {ro : Option Nat} {k : List AItem} {Q : AV → AHeap → Prop} {dst : Option Nat} {os : List AO}
end
end Go.Proofs.Ytjnopnlgcmlkfaa.G
namespace Go.Proofs.Ytjnopnlgcmlkfaa.G
open Go.BX
set_option linter.unusedSimpArgs false
set_option linter.unusedVariables false
theorem made_own {h0 : Nat} {d : AV} {H : AHeap} {m : List Pr} (h : Own h0 d H m) : ∃ w, InE w m ∧ BX.freeze H d = some w ∧ (if w.solid then some w else madeT H d) = some w := by
  rcases h with ⟨rfl, rfl⟩ | ⟨g, rfl, _, _, hA⟩
  · exact ⟨.nilS, .inl ⟨rfl, rfl⟩, rfl, rfl⟩
  · refine ⟨.vec 6 (m.map encP), .inr (.inr rfl), ?_, ?_⟩
    · have he : elems H 6 (.slc g 6 0 m.length) = some (m.map encP) := by
        unfold elems
        simp only [hA]
        rw [if_pos ⟨trivial, trivial, by simp⟩, List.drop_zero, List.take_of_length_le (by simp)]
      rw [freeze_slc, he, frzE_some, freeze_rows']
      rfl
    · have he : elems H 6 (.slc g 6 0 m.length) = some (m.map encP) := by
        unfold elems
        simp only [hA]
        rw [if_pos ⟨trivial, trivial, by simp⟩, List.drop_zero, List.take_of_length_le (by simp)]
      rw [if_neg (by simp [AV.solid, AV.solid2, AV.solid1])]
      show made1 H (.slc g 6 0 m.length) = _
      unfold made1
      rw [if_neg (by simp [AV.solid2, AV.solid1])]
      simp only [he]
      rw [if_pos (solid_rows m)]
theorem RefSort_both {l : List Pr} (h0 : l ≠ []) (hl : l.length ≤ 100000) : ∃ m w, IsSort l m ∧ InE w m ∧ PCall Cx 12 [.vec 6 (l.map encP)] w ∧ PMade Cx 12 [.vec 6 (l.map encP)] w := by
  have hx : ∃ r, (∃ m, IsSort l m ∧ InE r m) ∧ PCall Cx 12 [.vec 6 (l.map encP)] r ∧ PMade Cx 12 [.vec 6 (l.map encP)] r := by
    refine both_of (noext _) body12 ?_
    simp only [r12_0, r12_1.1, r12_1.2.2.1, r12_1.2.2.2.1, r12_1.2.2.2.2.1, r12_1.2.2.2.2.2.1, r12_1.2.2.2.2.2.2.1, r12_1.2.2.2.2.2.2.2, r12_2, r12_3, r12_4, r12_5, r12_6.1, r12_6.2.2.1, r12_6.2.2.2, res12, tt, bb, bc, ↓bd, Nat.reduceEqDiff, Nat.reduceAdd, Nat.reduceMul, Nat.reduceLeDiff, Nat.reduceLT, ↓reduceIte, reduceCtorEq, Nat.reduceBeqDiff, Nat.reduceBneDiff, Int.reduceBNe, Int.reduceBEq, Int.reduceEq, Int.reduceLT, Int.reduceLE, Int.reduceAdd, Int.reduceSub, Int.reduceMul, Int.reduceNeg, List.reduceReplicate, Int.reduceToNat]
    refine rs1_all hl ?_ l.length 0 _ AHeap.empty .nilS [] (by omega) ?_ ?_ ?_ .nil ⟨fun _ => rfl, List.Pairwise.nil, rfl⟩
    · intro d H m hd hs
      obtain ⟨w, hw, hf, hm⟩ := made_own hd
      exact ⟨w, ⟨m, hs, hw⟩, hf, hm⟩
    all_goals simp only [upd_app, enterT, List.getElem?_cons_zero, List.getElem?_cons_succ, Option.getD_some, Nat.reduceEqDiff, ↓reduceIte]
    all_goals rfl
  obtain ⟨w, ⟨m, hs, hw⟩, h1, h2⟩ := hx
  exact ⟨m, w, hs, hw, h1, h2⟩
section
variable {fn : FuncId} {T : Nat → AV} {ds : List ADef} {ro : Option Nat} {k : List AItem} {Q : AV → AHeap → Prop} {dst : Option Nat} {os : List AO}
theorem RefSort_part {g i m n : Nat} {A : Nat → Blk} {P : List Pr} (hA : A g = .cells 47 6 (P.map encP)) (him : i + m ≤ P.length) (hm : 0 < m) (hP : P.length ≤ 100000) (hk : ∀ m' w, IsSort ((P.drop i).take m) m' → InE w m' → RunOps Cx fn (putA T dst w) ds ro os k ⟨n, A⟩ Q) :
    RunCall Cx fn T ds ro 12 [.slc g 6 i m] dst os k ⟨n, A⟩ Q := by
  have hlen : ((P.drop i).take m).length = m := by rw [List.length_take, List.length_drop]; omega
  obtain ⟨m', w, hs, hw, _, hp⟩ := RefSort_both (l := (P.drop i).take m) (fun e => by rw [e] at hlen; simp at hlen; omega) (by omega)
  have he : elems ⟨n, A⟩ 6 (.slc g 6 i m) = some (((P.drop i).take m).map encP) := by
    unfold elems
    simp only [hA]
    rw [if_pos ⟨trivial, trivial, by rw [List.length_map]; exact him⟩, ← List.map_drop, ← List.map_take]
  rw [call_made pure12 rfl (by rw [mapO_cons, mapO_nil, freeze_slc, he, frzE_some, freeze_rows']; rfl) hp]
  exact hk m' w hs hw
theorem RefSort_own {h0 n : Nat} {A : Nat → Blk} {d : AV} {P : List Pr} (hd : OwnK h0 47 6 d n A (P.map encP)) (hP : P.length ≤ 100000) (hk : ∀ m' w, IsSort P m' → InE w m' → RunOps Cx fn (putA T dst w) ds ro os k ⟨n, A⟩ Q) :
    RunCall Cx fn T ds ro 12 [d] dst os k ⟨n, A⟩ Q := by
  by_cases h0' : P = []
  · subst h0'
    obtain ⟨m, w, hs, hw, hp⟩ := RefSort_ok (v := .nilS) (l := []) (.inl ⟨rfl, rfl⟩) (by simp)
    rcases hd with ⟨rfl, _⟩ | ⟨g, rfl, _, _, hA⟩
    · rw [call_pure pure12 rfl hp]
      exact hk m w hs hw
    · have he : elems ⟨n, A⟩ 6 (.slc g 6 0 0) = some [] := by
        unfold elems
        simp only [hA]
        rfl
      have hq : PMade Cx 12 [.vec 6 []] .nilS := pmade_of (n := 60) (by kernel_rfl)
      show RunCall Cx fn T ds ro 12 [.slc g 6 0 0] dst os k ⟨n, A⟩ Q
      rw [call_made pure12 rfl (by rw [mapO_cons, mapO_nil, freeze_slc, he, frzE_some, mapO_nil]; rfl) hq]
      exact hk [] .nilS ⟨fun _ => rfl, List.Pairwise.nil, rfl⟩ (.inl ⟨rfl, rfl⟩)
  · rcases hd with ⟨_, h⟩ | ⟨g, rfl, _, _, hA⟩
    · exact absurd (by simpa using h) h0'
    · rw [List.length_map]
      refine RefSort_part hA (by omega) (List.length_pos_iff.mpr h0') hP ?_
      intro m' w hs hw
      rw [List.drop_zero, List.take_of_length_le (Nat.le_refl _)] at hs
      exact hk m' w hs hw
end
end Go.Proofs.Ytjnopnlgcmlkfaa.G
namespace Go.Proofs.Ytjnopnlgcmlkfaa.G
open Go.BX
set_option linter.unusedSimpArgs false
set_option linter.unusedVariables false
theorem isOrd_same {l m : List Pr} (h : IsSort l m) : sameP l m = isOrd l := by
  rw [Bool.eq_iff_iff, sameP_iff]
  unfold isOrd
  rw [decide_eq_true_eq]
  constructor
  · rintro rfl; exact h.ord
  · intro ho
    exact IsSort.uniq (l := l) ⟨fun _ => rfl, ho, rfl⟩ h
theorem frz_rowsR {H : AHeap} : ∀ {ys : List (AV × List Pr)}, (∀ y, y ∈ ys → InE y.1 y.2) → mapO (mapO (BX.freeze1 H 3)) (rowsR ys) = some (rowsR ys)
  | [], _ => rfl
  | y :: ys, h => by
    have ih := frz_rowsR (H := H) (ys := ys) (fun z hz => h z (List.mem_cons_of_mem _ hz))
    have h1 := (h y (by simp)).freeze1 (H := H) (d := 3)
    show mapO (mapO (BX.freeze1 H 3)) ([y.1] :: rowsR ys) = some ([y.1] :: rowsR ys)
    rw [mapO_cons, ih, mapO_cons, mapO_nil, h1]
    rfl
theorem frz_run {n g : Nat} {A : Nat → Blk} {ys : List (AV × List Pr)} (hA : A g = .cells 22 1 (rowsR ys)) (h : ∀ y, y ∈ ys → InE y.1 y.2) : mapO (BX.freeze ⟨n, A⟩) [.slc g 1 0 (rowsR ys).length] = some [.vec 1 (rowsR ys)] := by
  have he : elems ⟨n, A⟩ 1 (.slc g 1 0 (rowsR ys).length) = some (rowsR ys) := by
    unfold elems
    simp only [hA]
    rw [if_pos ⟨trivial, trivial, by simp⟩, List.drop_zero, List.take_of_length_le (Nat.le_refl _)]
  rw [mapO_cons, mapO_nil, freeze_slc, he, frzE_some, frz_rowsR h]
  rfl
theorem toAF_out (l : List Pr) : ∃ w, InE w l ∧ toAF (.ok l) = .tuple [w, .int .i64 0] := by
  cases l with
  | nil => exact ⟨.nilS, .inl ⟨rfl, rfl⟩, rfl⟩
  | cons p r => exact ⟨_, .inr (.inr rfl), rfl⟩
end Go.Proofs.Ytjnopnlgcmlkfaa.G

namespace Go.Proofs.Ytjnopnlgcmlkfaa.G
open Go.BX
set_option linter.unusedSimpArgs false
set_option linter.unusedVariables false
theorem foldL_len {w : Bytes} : ∀ (r done : List Pr) (p : Pr) (out : List Pr), goF w done p r = .ok out → out.length ≤ done.length + 1 + r.length
  | [], done, p, out, h => by
    have h' : Except.ok (ε := Int) (done ++ [p]) = .ok out := h
    cases h'
    simp
  | q :: r, done, p, out, h => by
    have h' : (if q.key = p.key then (if (foldR w (fstP p) (fstP q)).2 = 0 then goF w done (setP p (foldR w (fstP p) (fstP q)).1) r else .error (foldR w (fstP p) (fstP q)).2) else goF w (done ++ [p]) q r) = .ok out := h
    rw [List.length_cons]
    split at h'
    · split at h'
      · have := foldL_len r _ _ _ h'; omega
      · cases h'
    · have := foldL_len r _ _ _ h'
      rw [List.length_append, List.length_singleton] at this
      omega
theorem foldL_len' {w : Bytes} {l out : List Pr} (h : foldL w l = .ok out) : out.length ≤ l.length := by
  cases l with
  | nil => cases h; simp
  | cons p r =>
    have := foldL_len r [] p out h
    simp at this
    rw [List.length_cons]
    omega
theorem mg_end {T : Nat → AV} {H : AHeap} {v0 : AV} {a ma : List Pr} {wa : AV} {w : Bytes} (hv0 : InL v0 a) (h0 : a.length ≤ 100) (hs : IsSort a ma) (hw : InE wa ma) (hp : PCall Cx 12 [v0] wa) (t0 : T 0 = v0) (t3 : T 3 = .str w) :
    Run Cx 4 T [] none [.code c4_36] H (fun r0 H' => BX.freeze H' r0 = some (.bool true)) := by
  have f0 : [v0].all AV.flat = true := by simp [hv0.e.flat]
  have f1 : [v0, AV.str w].all AV.flat = true := by simp [hv0.e.flat]; rfl
  have f2 : [v0, wa].all AV.flat = true := by simp [hv0.e.flat, hw.flat]
  have hF := sFold_ok (w := w) hv0 (show a.length ≤ 90000 by omega)
  have hsp := SamePairs_any hv0.e hw (by omega) (by rw [hs.len]; omega)
  rw [isOrd_same hs] at hsp
  cases ho : isOrd a with
  | false =>
    rw [ho] at hF hsp
    replace hF : PCall Cx 8 [v0, .str w] (.tuple [.nilS, .int .i64 17]) := hF
    simp only [t0, t3, call_pure pure8 f1 hF, call_pure pure12 f0 hp, call_pure pure11 f2 hsp, lenOf, i64, beq_self_eq_true, Int.cast_ofNat_Int, xx, r4_0, r4_1, r4_2, r4_3, r4_4, r4_5, r4_6, res4, tt, bb, bc, ↓bd, Nat.reduceEqDiff, Nat.reduceAdd, Nat.reduceMul, Nat.reduceLeDiff, Nat.reduceLT, ↓reduceIte, reduceCtorEq, Nat.reduceBeqDiff, Nat.reduceBneDiff, Int.reduceBNe, Int.reduceBEq, Int.reduceEq, Int.reduceLT, Int.reduceLE, Int.reduceAdd, Int.reduceSub, Int.reduceMul, Int.reduceNeg, List.reduceReplicate, Int.reduceToNat]
  | true =>
    rw [ho] at hF hsp
    replace hF : PCall Cx 8 [v0, .str w] (toAF (foldL w a)) := hF
    have hG := rFold12_ok (w := w) hv0 (show a.length ≤ 100000 by omega)
    cases hfo : foldL w a with
    | error e =>
      rw [hfo] at hF hG
      have hq := SamePairs_any (v := .nilS) (w := .nilS) (l := []) (m := []) (.inl ⟨rfl, rfl⟩) (.inl ⟨rfl, rfl⟩) (by simp) (by simp)
      have es : sameP [] [] = true := rfl
      rw [es] at hq
      simp only [toAF] at hF hG
      simp only [t0, t3, call_pure pure8 f1 hF, call_pure pure14 f1 hG, call_pure pure12 f0 hp, call_pure pure11 f2 hsp, call_pure pure11 rfl hq, lenOf, i64, beq_self_eq_true, xx, r4_0, r4_1, r4_2, r4_3, r4_4, r4_5, r4_6, res4, tt, bb, bc, ↓bd, Nat.reduceEqDiff, Nat.reduceAdd, Nat.reduceMul, Nat.reduceLeDiff, Nat.reduceLT, ↓reduceIte, reduceCtorEq, Nat.reduceBeqDiff, Nat.reduceBneDiff, Int.reduceBNe, Int.reduceBEq, Int.reduceEq, Int.reduceLT, Int.reduceLE, Int.reduceAdd, Int.reduceSub, Int.reduceMul, Int.reduceNeg, List.reduceReplicate, Int.reduceToNat]
    | ok out =>
      rw [hfo] at hF hG
      obtain ⟨wo, hwo, e⟩ := toAF_out out
      rw [e] at hF hG
      have hol := foldL_len' hfo
      have hq := SamePairs_any hwo hwo (by omega) (by omega)
      rw [sameP_iff.mpr rfl] at hq
      have f3 : [wo, wo].all AV.flat = true := by simp [hwo.flat]
      simp only [t0, t3, call_pure pure8 f1 hF, call_pure pure14 f1 hG, call_pure pure12 f0 hp, call_pure pure11 f2 hsp, call_pure pure11 f3 hq, lenOf, i64, beq_self_eq_true, xx, r4_0, r4_1, r4_2, r4_3, r4_4, r4_5, r4_6, res4, tt, bb, bc, ↓bd, Nat.reduceEqDiff, Nat.reduceAdd, Nat.reduceMul, Nat.reduceLeDiff, Nat.reduceLT, ↓reduceIte, reduceCtorEq, Nat.reduceBeqDiff, Nat.reduceBneDiff, Int.reduceBNe, Int.reduceBEq, Int.reduceEq, Int.reduceLT, Int.reduceLE, Int.reduceAdd, Int.reduceSub, Int.reduceMul, Int.reduceNeg, List.reduceReplicate, Int.reduceToNat]
set_option maxRecDepth 20000 in
theorem SorterMerges_ok {v0 v1 v2 : AV} {a b c : List Pr} {w : Bytes} (hv0 : InL v0 a) (hl0 : a.length ≤ maxLen) (hv1 : InL v1 b) (hl1 : b.length ≤ maxLen) (hv2 : InL v2 c) (hl2 : c.length ≤ maxLen) : PCall Cx 4 [v0, v1, v2, .str w] (.bool true) := by
  refine pcall_run (noext _) body4 ?_
  obtain ⟨s0, hs0, hp0⟩ := Small_ok hv0 hl0
  obtain ⟨s1, hs1, hp1⟩ := Small_ok hv1 hl1
  obtain ⟨s2, hs2, hp2⟩ := Small_ok hv2 hl2
  have f0 : [v0].all AV.flat = true := by simp [hv0.e.flat]
  have f1 : [v1].all AV.flat = true := by simp [hv1.e.flat]
  have f2 : [v2].all AV.flat = true := by simp [hv2.e.flat]
  have haw := awakeS_ok
  have z1 : ((1 : Int) == 0) = false := rfl
  have z0 : ((0 : Int) == 0) = true := rfl
  rcases hs0 with rfl | ⟨rfl, k0⟩
  · simp only [z0, z1, call_pure pure5 rfl haw, call_pure pure6 f0 hp0, xx, r4_0, r4_1.1, r4_1.2.1, r4_1.2.2.2.1, r4_1.2.2.2.2.1, r4_1.2.2.2.2.2.1, r4_1.2.2.2.2.2.2.1, r4_1.2.2.2.2.2.2.2, r4_2, r4_3, r4_4, r4_5, r4_6, res4, tt, bb, bc, ↓bd, Nat.reduceEqDiff, Nat.reduceAdd, Nat.reduceMul, Nat.reduceLeDiff, Nat.reduceLT, ↓reduceIte, reduceCtorEq, Nat.reduceBeqDiff, Nat.reduceBneDiff, Int.reduceBNe, Int.reduceBEq, Int.reduceEq, Int.reduceLT, Int.reduceLE, Int.reduceAdd, Int.reduceSub, Int.reduceMul, Int.reduceNeg, List.reduceReplicate, Int.reduceToNat]
  rcases hs1 with rfl | ⟨rfl, k1⟩
  · simp only [z0, z1, call_pure pure5 rfl haw, call_pure pure6 f0 hp0, call_pure pure6 f1 hp1, xx, r4_0, r4_1.1, r4_1.2.1, r4_1.2.2.2.1, r4_1.2.2.2.2.1, r4_1.2.2.2.2.2.1, r4_1.2.2.2.2.2.2.1, r4_1.2.2.2.2.2.2.2, r4_2, r4_3, r4_4, r4_5, r4_6, res4, tt, bb, bc, ↓bd, Nat.reduceEqDiff, Nat.reduceAdd, Nat.reduceMul, Nat.reduceLeDiff, Nat.reduceLT, ↓reduceIte, reduceCtorEq, Nat.reduceBeqDiff, Nat.reduceBneDiff, Int.reduceBNe, Int.reduceBEq, Int.reduceEq, Int.reduceLT, Int.reduceLE, Int.reduceAdd, Int.reduceSub, Int.reduceMul, Int.reduceNeg, List.reduceReplicate, Int.reduceToNat]
  rcases hs2 with rfl | ⟨rfl, k2⟩
  · simp only [z0, z1, call_pure pure5 rfl haw, call_pure pure6 f0 hp0, call_pure pure6 f1 hp1, call_pure pure6 f2 hp2, xx, r4_0, r4_1.1, r4_1.2.1, r4_1.2.2.2.1, r4_1.2.2.2.2.1, r4_1.2.2.2.2.2.1, r4_1.2.2.2.2.2.2.1, r4_1.2.2.2.2.2.2.2, r4_2, r4_3, r4_4, r4_5, r4_6, res4, tt, bb, bc, ↓bd, Nat.reduceEqDiff, Nat.reduceAdd, Nat.reduceMul, Nat.reduceLeDiff, Nat.reduceLT, ↓reduceIte, reduceCtorEq, Nat.reduceBeqDiff, Nat.reduceBneDiff, Int.reduceBNe, Int.reduceBEq, Int.reduceEq, Int.reduceLT, Int.reduceLE, Int.reduceAdd, Int.reduceSub, Int.reduceMul, Int.reduceNeg, List.reduceReplicate, Int.reduceToNat]
  obtain ⟨ma, wa, sa, ia, ra⟩ := RefSort_ok hv0.e (show a.length ≤ 100000 by omega)
  obtain ⟨mb, wb, sb, ib, rb⟩ := RefSort_ok hv1.e (show b.length ≤ 100000 by omega)
  obtain ⟨mc, wc, sc, ic, rc⟩ := RefSort_ok hv2.e (show c.length ≤ 100000 by omega)
  have qa := SamePairs_any hv0.e ia (by omega) (by rw [sa.len]; omega)
  have qb := SamePairs_any hv1.e ib (by omega) (by rw [sb.len]; omega)
  have qc := SamePairs_any hv2.e ic (by omega) (by rw [sc.len]; omega)
  rw [isOrd_same sa] at qa
  rw [isOrd_same sb] at qb
  rw [isOrd_same sc] at qc
  have ga : [v0, wa].all AV.flat = true := by simp [hv0.e.flat, ia.flat]
  have gb : [v1, wb].all AV.flat = true := by simp [hv1.e.flat, ib.flat]
  have gc : [v2, wc].all AV.flat = true := by simp [hv2.e.flat, ic.flat]
  obtain ⟨d1, n1, A1, b1, o1, m1⟩ := OwnK.appv (h0 := 0) (n := 0) (d := .nilS) (A := AHeap.empty.at_) (es := []) (.inl ⟨rfl, rfl⟩) (Nat.zero_le _) hv0.e (by unfold most; simp; omega)
  replace b1 : builtinM Cx { next := 0, at_ := fun x => Blk.dead } .append [22, 22] [.nilS, v0] = some (d1, ⟨n1, A1⟩) := b1
  rw [List.nil_append] at o1
  obtain ⟨d2, n2, A2, b2, o2, m2⟩ := OwnK.appv o1 (Nat.zero_le _) hv1.e (by unfold most; omega)
  obtain ⟨d3, n3, A3, b3, o3, m3⟩ := OwnK.appv o2 (Nat.zero_le _) hv2.e (by unfold most; rw [List.length_append]; omega)
  have p0 := hv0.e.plain
  have p1 := hv1.e.plain
  have p2 := hv2.e.plain
  have c0 := hv0.e.cells
  have c1 := hv1.e.cells
  have c2 := hv2.e.cells
  simp only [AV.plain] at p0 p1 p2
  simp only [AV.cells] at c0 c1 c2
  let ys : List (AV × List Pr) := [(v0, a), (v1, b), (v2, c)]
  have hys : ∀ y, y ∈ ys → InE y.1 y.2 := by
    intro y hy
    simp only [ys, List.mem_cons, List.not_mem_nil, or_false] at hy
    rcases hy with rfl | rfl | rfl
    · exact hv0.e
    · exact hv1.e
    · exact hv2.e
  have hys2 : ∀ y, y ∈ ys → InE y.1 y.2 ∧ y.2.length ≤ 10000 := by
    intro y hy
    refine ⟨hys y hy, ?_⟩
    simp only [ys, List.mem_cons, List.not_mem_nil, or_false] at hy
    rcases hy with rfl | rfl | rfl <;> simp only <;> omega
  have hfm : ys.flatMap (·.2) = a ++ b ++ c := by simp [ys]
  have hfz : mapO (BX.freeze ⟨n3 + 1, upd A3 n3 (.cells 22 1 [[v0], [v1], [v2]])⟩) [.slc n3 1 0 3] = some [.vec 1 (rowsR ys)] := frz_run (g := n3) (ys := ys) (by rw [upd_app, if_pos rfl]; rfl) hys
  have hnf : [AV.slc n3 1 0 3].all AV.flat = false := rfl
  have hord : (isOrd a && (isOrd b && isOrd c)) = true ↔ ∀ y, y ∈ ys → isOrd y.2 = true := by
    simp [ys]
  cases ho : (isOrd a && (isOrd b && isOrd c)) with
  | false =>
    obtain ⟨_, hm⟩ := Merge_no (rv := .vec 1 (rowsR ys)) (.inl rfl) hys2 (fun h => by rw [hord.mpr h] at ho; cases ho) (by simp [ys])
    have finish : ∀ (T : Nat → AV) (H : AHeap), T 0 = v0 → T 3 = .str w → T 10 = .bool false → T 11 = .nilS → T 12 = .int .i64 17 → Run Cx 4 T [] none [.code c4_18] H (fun r0 H' => BX.freeze H' r0 = some (.bool true)) := by
      intro T H t0 t3 t10 t11 t12
      have z17 : ((17 : Int) != 17) = false := rfl
      simp only [t0, t3, t10, t11, t12, z17, lenOf, i64, Int.cast_ofNat_Int, xx, r4_0, r4_1, r4_2, r4_3, r4_4.1, r4_4.2.1, r4_4.2.2.1, r4_4.2.2.2.1, r4_4.2.2.2.2.2.1, r4_4.2.2.2.2.2.2.1, r4_4.2.2.2.2.2.2.2, r4_5, r4_6, res4, tt, bb, bc, ↓bd, Nat.reduceEqDiff, Nat.reduceAdd, Nat.reduceMul, Nat.reduceLeDiff, Nat.reduceLT, ↓reduceIte, reduceCtorEq, Nat.reduceBeqDiff, Nat.reduceBneDiff, Int.reduceBNe, Int.reduceBEq, Int.reduceEq, Int.reduceLT, Int.reduceLE, Int.reduceAdd, Int.reduceSub, Int.reduceMul, Int.reduceNeg, List.reduceReplicate, Int.reduceToNat]
      refine mg_end (v0 := v0) (w := w) hv0 k0 sa ia ra ?_ ?_
      all_goals simp only [upd_app, t0, t3, Nat.reduceEqDiff, ↓reduceIte]
    cases ha : isOrd a with
    | false =>
      rw [ha] at qa
      simp only [z0, z1, b1, b2, b3, p0, p1, p2, c0, c1, c2, call_pure pure5 rfl haw, call_pure pure6 f0 hp0, call_pure pure6 f1 hp1, call_pure pure6 f2 hp2, call_pure pure12 f0 ra, call_pure pure11 ga qa, call_made pure13 hnf hfz hm, inertB, runVH_some, xx, r4_0, r4_1, r4_2.1, r4_2.2.1, r4_2.2.2.2.1, r4_2.2.2.2.2.1, r4_2.2.2.2.2.2.1, r4_2.2.2.2.2.2.2.1, r4_2.2.2.2.2.2.2.2, r4_3, r4_4, r4_5, r4_6, res4, tt, bb, bc, ↓bd, Nat.reduceEqDiff, Nat.reduceAdd, Nat.reduceMul, Nat.reduceLeDiff, Nat.reduceLT, ↓reduceIte, reduceCtorEq, Nat.reduceBeqDiff, Nat.reduceBneDiff, Int.reduceBNe, Int.reduceBEq, Int.reduceEq, Int.reduceLT, Int.reduceLE, Int.reduceAdd, Int.reduceSub, Int.reduceMul, Int.reduceNeg, List.reduceReplicate, Int.reduceToNat]
      refine finish _ _ ?_ ?_ ?_ ?_ ?_
      all_goals simp only [upd_app, enterT, List.getElem?_cons_zero, List.getElem?_cons_succ, Option.getD_some, Nat.reduceEqDiff, ↓reduceIte]
    | true =>
      rw [ha] at qa
      cases hb : isOrd b with
      | false =>
        rw [hb] at qb
        simp only [z0, z1, b1, b2, b3, p0, p1, p2, c0, c1, c2, call_pure pure5 rfl haw, call_pure pure6 f0 hp0, call_pure pure6 f1 hp1, call_pure pure6 f2 hp2, call_pure pure12 f0 ra, call_pure pure11 ga qa, call_pure pure12 f1 rb, call_pure pure11 gb qb, call_made pure13 hnf hfz hm, inertB, runVH_some, xx, r4_0, r4_1, r4_2.1, r4_2.2.1, r4_2.2.2.2.1, r4_2.2.2.2.2.1, r4_2.2.2.2.2.2.1, r4_2.2.2.2.2.2.2.1, r4_2.2.2.2.2.2.2.2, r4_3, r4_4, r4_5, r4_6, res4, tt, bb, bc, ↓bd, Nat.reduceEqDiff, Nat.reduceAdd, Nat.reduceMul, Nat.reduceLeDiff, Nat.reduceLT, ↓reduceIte, reduceCtorEq, Nat.reduceBeqDiff, Nat.reduceBneDiff, Int.reduceBNe, Int.reduceBEq, Int.reduceEq, Int.reduceLT, Int.reduceLE, Int.reduceAdd, Int.reduceSub, Int.reduceMul, Int.reduceNeg, List.reduceReplicate, Int.reduceToNat]
        refine finish _ _ ?_ ?_ ?_ ?_ ?_
        all_goals simp only [upd_app, enterT, List.getElem?_cons_zero, List.getElem?_cons_succ, Option.getD_some, Nat.reduceEqDiff, ↓reduceIte]
      | true =>
        have hc : isOrd c = false := by rw [ha, hb] at ho; simpa using ho
        rw [hb] at qb
        rw [hc] at qc
        simp only [z0, z1, b1, b2, b3, p0, p1, p2, c0, c1, c2, call_pure pure5 rfl haw, call_pure pure6 f0 hp0, call_pure pure6 f1 hp1, call_pure pure6 f2 hp2, call_pure pure12 f0 ra, call_pure pure11 ga qa, call_pure pure12 f1 rb, call_pure pure11 gb qb, call_pure pure12 f2 rc, call_pure pure11 gc qc, call_made pure13 hnf hfz hm, inertB, runVH_some, xx, r4_0, r4_1, r4_2.1, r4_2.2.1, r4_2.2.2.2.1, r4_2.2.2.2.2.1, r4_2.2.2.2.2.2.1, r4_2.2.2.2.2.2.2.1, r4_2.2.2.2.2.2.2.2, r4_3, r4_4, r4_5, r4_6, res4, tt, bb, bc, ↓bd, Nat.reduceEqDiff, Nat.reduceAdd, Nat.reduceMul, Nat.reduceLeDiff, Nat.reduceLT, ↓reduceIte, reduceCtorEq, Nat.reduceBeqDiff, Nat.reduceBneDiff, Int.reduceBNe, Int.reduceBEq, Int.reduceEq, Int.reduceLT, Int.reduceLE, Int.reduceAdd, Int.reduceSub, Int.reduceMul, Int.reduceNeg, List.reduceReplicate, Int.reduceToNat]
        refine finish _ _ ?_ ?_ ?_ ?_ ?_
        all_goals simp only [upd_app, enterT, List.getElem?_cons_zero, List.getElem?_cons_succ, Option.getD_some, Nat.reduceEqDiff, ↓reduceIte]
  | true =>
    simp only [Bool.and_eq_true] at ho
    obtain ⟨ha, hb, hc⟩ := ho
    obtain ⟨m, wm, hsm, hwm, _, hm⟩ := Merge_ok (rv := .vec 1 (rowsR ys)) (.inl rfl) hys2 (hord.mp (by rw [ha, hb, hc]; rfl)) (by simp [ys]) (by rw [hfm]; simp; omega)
    rw [hfm] at hsm
    rw [ha] at qa
    rw [hb] at qb
    rw [hc] at qc
    simp only [z0, z1, b1, b2, b3, p0, p1, p2, c0, c1, c2, call_pure pure5 rfl haw, call_pure pure6 f0 hp0, call_pure pure6 f1 hp1, call_pure pure6 f2 hp2, call_pure pure12 f0 ra, call_pure pure11 ga qa, call_pure pure12 f1 rb, call_pure pure11 gb qb, call_pure pure12 f2 rc, call_pure pure11 gc qc, call_made pure13 hnf hfz hm, inertB, runVH_some, bne_self_eq_false, xx, r4_0, r4_1, r4_2, r4_3, r4_4.1, r4_4.2.1, r4_4.2.2.1, r4_4.2.2.2.1, r4_4.2.2.2.2.2.1, r4_4.2.2.2.2.2.2.1, r4_4.2.2.2.2.2.2.2, r4_5, r4_6, res4, tt, bb, bc, ↓bd, Nat.reduceEqDiff, Nat.reduceAdd, Nat.reduceMul, Nat.reduceLeDiff, Nat.reduceLT, ↓reduceIte, reduceCtorEq, Nat.reduceBeqDiff, Nat.reduceBneDiff, Int.reduceBNe, Int.reduceBEq, Int.reduceEq, Int.reduceLT, Int.reduceLE, Int.reduceAdd, Int.reduceSub, Int.reduceMul, Int.reduceNeg, List.reduceReplicate, Int.reduceToNat]
    have o3' : OwnK 0 47 6 d3 (n3 + 1) (upd A3 n3 (.cells 22 1 [[v0], [v1], [v2]])) ((a ++ b ++ c).map encP) := o3.keep (by omega) (fun g hg _ => by rw [upd_app, if_neg (by omega)])
    refine RefSort_own o3' (by simp; omega) ?_
    intro m' w' hs' hw'
    obtain rfl := hsm.uniq hs'
    have hq := SamePairs_any hwm hw' (by rw [hsm.len]; simp; omega) (by rw [hsm.len]; simp; omega)
    rw [sameP_iff.mpr rfl] at hq
    have g3 : [wm, w'].all AV.flat = true := by simp [hwm.flat, hw'.flat]
    simp only [call_pure pure11 g3 hq, xx, r4_0, r4_1, r4_2, r4_3, r4_4.1, r4_4.2.1, r4_4.2.2.1, r4_4.2.2.2.1, r4_4.2.2.2.2.2.1, r4_4.2.2.2.2.2.2.1, r4_4.2.2.2.2.2.2.2, r4_5, r4_6, res4, tt, bb, bc, ↓bd, Nat.reduceEqDiff, Nat.reduceAdd, Nat.reduceMul, Nat.reduceLeDiff, Nat.reduceLT, ↓reduceIte, reduceCtorEq, Nat.reduceBeqDiff, Nat.reduceBneDiff, Int.reduceBNe, Int.reduceBEq, Int.reduceEq, Int.reduceLT, Int.reduceLE, Int.reduceAdd, Int.reduceSub, Int.reduceMul, Int.reduceNeg, List.reduceReplicate, Int.reduceToNat]
    refine mg_end (v0 := v0) (w := w) hv0 k0 sa ia ra ?_ ?_
    all_goals simp only [upd_app, enterT, List.getElem?_cons_zero, List.getElem?_cons_succ, Option.getD_some, Nat.reduceEqDiff, ↓reduceIte]
end Go.Proofs.Ytjnopnlgcmlkfaa.G

namespace Go.BX
open Go.ChangeShapes Go.WideShapes Go.ChangeAt Go.RowKit
variable {P : Program} {w : World} {H : Type} {enc : TypeId × Value → H} {base : Nat} {spare : Nat → Bool} {held : Bool}
end Go.BX

namespace Go.BX
open Go.ChangeShapes Go.WideShapes Go.ChangeAt Go.RowKit
set_option linter.unusedVariables false
set_option linter.unusedSimpArgs false
inductive Shp (P : Program) : TypeId → List AV → Prop
  | bool {t b} (h : P.underlying t = some .bool) : Shp P t [.bool b]
  | int {t k n} (h : P.underlying t = some (.int k)) (hw : (Lit.int k n).wf = true) : Shp P t [.int k n]
  | str {t s} (h : P.underlying t = some .string) (hl : s.length ≤ maxLen) : Shp P t [.str s]
  | nilS {t e} (h : P.underlying t = some (.slice e)) : Shp P t [.nilS]
  | vec {t e es} (h : P.underlying t = some (.slice e)) (hl : es.length ≤ maxLen) (he : ∀ r, r ∈ es → Shp P e r) : Shp P t [.vec (P.cellsOf e) es]
  | struct {t fs az} (h : P.underlying t = some (.struct fs)) (hl : az.length = P.cellsOf t) (hf : ∀ (i : Nat) (f : Field), fs[i]? = some f → Shp P f.type ((az.drop f.offset).take (P.cellsOf f.type))) : Shp P t az
variable {P : Program}
theorem shp_int {t : TypeId} {k : IntKind} {az : List AV} (h : P.underlying t = some (.int k)) (hs : Shp P t az) : ∃ n, az = [.int k n] ∧ (Lit.int k n).wf = true := by
  cases hs with
  | int h' hw => rw [h] at h'; cases h'; exact ⟨_, rfl, hw⟩
  | bool h' | str h' | nilS h' | vec h' | struct h' => rw [h] at h'; cases h'
theorem shp_str {t : TypeId} {az : List AV} (h : P.underlying t = some .string) (hs : Shp P t az) : ∃ s, az = [.str s] ∧ s.length ≤ maxLen := by
  cases hs with
  | str h' hl => exact ⟨_, rfl, hl⟩
  | bool h' | int h' | nilS h' | vec h' | struct h' => rw [h] at h'; cases h'
theorem shp_slice {t e : TypeId} {az : List AV} (h : P.underlying t = some (.slice e)) (hs : Shp P t az) : az = [.nilS] ∨ ∃ es, az = [.vec (P.cellsOf e) es] ∧ es.length ≤ maxLen ∧ ∀ r, r ∈ es → Shp P e r := by
  cases hs with
  | nilS h' => exact .inl rfl
  | vec h' hl he => rw [h] at h'; cases h'; exact .inr ⟨_, rfl, hl, he⟩
  | bool h' | int h' | str h' | struct h' => rw [h] at h'; cases h'
theorem shp_struct {t : TypeId} {fs : Array Field} {az : List AV} (h : P.underlying t = some (.struct fs)) (hs : Shp P t az) :
    az.length = P.cellsOf t ∧ ∀ (i : Nat) (f : Field), fs[i]? = some f → Shp P f.type ((az.drop f.offset).take (P.cellsOf f.type)) := by
  cases hs with
  | struct h' hl hf => rw [h] at h'; cases h'; exact ⟨hl, hf⟩
  | bool h' | int h' | str h' | nilS h' | vec h' => rw [h] at h'; cases h'
def ownF (P : Program) (fs : Array Field) (c : Nat) : Option Nat :=
  (List.range fs.size).find? fun i => match fs[i]? with
    | some f => decide (f.offset ≤ c) && decide (c < f.offset + P.cellsOf f.type)
    | none => false
def dataT (P : Program) : Nat → TypeId → Bool
  | 0, _ => false
  | d + 1, t =>
    match P.underlying t with
    | some .bool | some (.int _) | some .string => true
    | some (.slice e) => dataT P d e && decide (P.cellsOf e ≠ 0)
    | some (.struct fs) =>
      ((List.range (P.cellsOf t)).all fun c => (ownF P fs c).isSome) &&
      (List.range fs.size).all fun i => match fs[i]? with
        | some f => dataT P d f.type && decide (f.offset + P.cellsOf f.type ≤ P.cellsOf t) && (List.range (P.cellsOf f.type)).all fun j => ownF P fs (f.offset + j) == some i
        | none => false
    | _ => false
variable {w : World} {H : Type} {enc : TypeId × Value → H} {base : Nat} {spare : Nat → Bool} {held : Bool}
def Sts (w : World) (az : List AV) (cs : List Value) : Prop :=
  az.length = cs.length ∧ ∀ (i : Nat) (a : AV) (v : Value), az[i]? = some a → cs[i]? = some v → a.one = true ∧ VRel w (Old w) (fun _ => none) a v
theorem sts_one {a : AV} {v : Value} (h1 : a.one = true) (h : VRel w (Old w) (fun _ => none) a v) : Sts w [a] [v] := by
  refine ⟨rfl, fun i x y hx hy => ?_⟩
  match i, hx, hy with
  | 0, hx, hy => cases hx; cases hy; exact ⟨h1, h⟩
theorem cells_length {a : Addr} {n : Nat} {cs : List Value} (h : w.cells? base a n = some cs) : cs.length = n := by
  unfold World.cells? at h
  split at h
  · simpa using mapM_some_length h
  · cases h
theorem cells_get {a : Addr} {n : Nat} {cs : List Value} (h : w.cells? base a n = some cs) {i : Nat} (hi : i < n) : w.cell? (a.add i) = cs[i]? := by
  unfold World.cells? at h
  split at h
  · exact mapM_some_get h i i (by simp [hi])
  · cases h
theorem cell_spot {a : Addr} {v : Value} (h : w.cell? a = some v) : a.spot = none := by
  unfold World.cell? at h
  split at h
  · split at h
    · cases h
    · rename_i hs; simpa using hs
  · cases h
theorem add_eq {a : Addr} (hs : a.spot = none) (n : Nat) : a.add n = ⟨a.block, a.off + n, none⟩ := by
  unfold Addr.add
  split
  · rename_i h; subst h; cases a; simp_all
  · rfl
theorem list_choose {α : Type} {p : Nat → α → Prop} (n : Nat) (h : ∀ i, i < n → ∃ x, p i x) : ∃ l : List α, l.length = n ∧ ∀ (i : Nat) (x : α), l[i]? = some x → p i x := by
  have : ∀ i, ∃ x : Option α, (i < n → ∃ y, x = some y ∧ p i y) := fun i => by
    by_cases hi : i < n
    · obtain ⟨x, hx⟩ := h i hi; exact ⟨some x, fun _ => ⟨x, rfl, hx⟩⟩
    · exact ⟨none, fun h => absurd h hi⟩
  let F : Nat → Option α := fun i => Classical.choose (this i)
  have hF : ∀ i, i < n → ∃ y, F i = some y ∧ p i y := fun i => Classical.choose_spec (this i)
  refine ⟨(List.range n).filterMap F, ?_, ?_⟩
  · have : ∀ l : List Nat, (∀ i ∈ l, i < n) → (l.filterMap F).length = l.length := by
      intro l hl
      induction l with
      | nil => rfl
      | cons x xs ih =>
        obtain ⟨y, hy, _⟩ := hF x (hl x (by simp))
        rw [List.filterMap_cons, hy]
        simp [ih fun i hi => hl i (by simp [hi])]
    rw [this _ (by simp), List.length_range]
  · have key : ∀ l : List Nat, (∀ i ∈ l, i < n) → ∀ (j : Nat) (x : α), (l.filterMap F)[j]? = some x → ∃ i, l[j]? = some i ∧ F i = some x := by
      intro l hl
      induction l with
      | nil => intro j x h; simp at h
      | cons z zs ih =>
        intro j x h
        obtain ⟨y, hy, _⟩ := hF z (hl z (by simp))
        rw [List.filterMap_cons, hy] at h
        cases j with
        | zero => simp at h; subst h; exact ⟨z, rfl, hy⟩
        | succ j => exact ih (fun i hi => hl i (by simp [hi])) j x (by simpa using h)
    intro i x hx
    obtain ⟨i', hi', hx'⟩ := key _ (by simp) i x hx
    have hlt : i < n := by
      rcases Nat.lt_or_ge i n with h | h
      · exact h
      · rw [List.getElem?_eq_none (by simpa using h)] at hi'; cases hi'
    have : i' = i := by simp [List.getElem?_range hlt] at hi'; exact hi'.symm
    subst this
    obtain ⟨y, hy, hp⟩ := hF i' hlt
    rw [hx'] at hy; cases hy; exact hp
theorem open_cells : ∀ (d : Nat) {t : TypeId} {fuel : Nat} {cs : List Value} {x : DataW H × List MemPlace}, dataT P d t = true → DataW.trod enc P w base spare held fuel t cs = some x → ∃ az, Sts w az cs ∧ Shp P t az := by
  intro d
  induction d with
  | zero => intro t fuel cs x h; cases h
  | succ d ih =>
    intro t fuel cs x hd hx
    unfold dataT at hd
    split at hd
    · rename_i ht
      obtain ⟨b, rfl, _⟩ := DataW.trod_bool ht hx
      exact ⟨[.bool b], sts_one rfl (.bool b), .bool ht⟩
    · rename_i k ht
      obtain ⟨n, rfl, _, hw⟩ := DataW.trod_int ht hx
      exact ⟨[.int k n], sts_one rfl (.int k n), .int ht hw⟩
    · rename_i ht
      obtain ⟨s, rfl, _, hl⟩ := DataW.trod_string ht hx
      exact ⟨[.str s.data.toList], sts_one rfl (.str _ s rfl), .str ht (by simpa using hl)⟩
    · rename_i e ht
      simp only [Bool.and_eq_true, decide_eq_true_eq] at hd
      rcases DataW.trod_slice ht hx with ⟨rfl, _⟩ | ⟨a, len, cap, elems, rest, n, _, rfl, _, hb, hlc, hcm, hel, he, _, _⟩
      · exact ⟨[.nilS], sts_one rfl .nilS, .nilS ht⟩
      · have hrow : ∀ i, i < len → ∃ cs az, w.cells? base (a.add (i * P.cellsOf e)) (P.cellsOf e) = some cs ∧ Sts w az cs ∧ Shp P e az := by
          intro i hi
          have h1 := he i hi
          rw [List.getElem?_eq_getElem (by omega)] at h1
          simp only [Option.bind_eq_some_iff] at h1
          obtain ⟨cs, hcs, h2⟩ := h1
          obtain ⟨az, h3, h4⟩ := ih hd.1 h2
          exact ⟨cs, az, hcs, h3, h4⟩
        obtain ⟨rows, hrl, hrows⟩ := list_choose (α := List Value × List AV) (p := fun i z => w.cells? base (a.add (i * P.cellsOf e)) (P.cellsOf e) = some z.1 ∧ Sts w z.2 z.1 ∧ Shp P e z.2) len (fun i hi => by
          obtain ⟨cs, az, h⟩ := hrow i hi; exact ⟨(cs, az), h⟩)
        have hspot : len ≠ 0 → a.spot = none ∧ a.block < w.heap.size := by
          intro hne
          obtain ⟨cs, az, h, _⟩ := hrow 0 (by omega)
          have h0 := cells_get h (i := 0) (by omega)
          rw [List.getElem?_eq_getElem (by rw [cells_length h]; omega)] at h0
          simp only [Nat.zero_mul] at h0
          have e0 : (a.add 0).add 0 = a := rfl
          rw [e0] at h0
          exact ⟨cell_spot h0, cell_lt h0⟩
        have hz : ∀ (i : Nat) (r : List AV), (rows.map (·.2))[i]? = some r → ∃ cs, rows[i]? = some (cs, r) ∧ w.cells? base (a.add (i * P.cellsOf e)) (P.cellsOf e) = some cs ∧ Sts w r cs ∧ Shp P e r := by
          intro i r h
          rw [List.getElem?_map, Option.map_eq_some_iff] at h
          obtain ⟨z, hz, rfl⟩ := h
          obtain ⟨h1, h2, h3⟩ := hrows i z hz
          exact ⟨z.1, hz, h1, h2, h3⟩
        refine ⟨[.vec (P.cellsOf e) (rows.map (·.2))], sts_one rfl ?_, .vec ht (by simp; omega) ?_⟩
        · have hll : (rows.map (·.2)).length = len := by simp [hrl]
          have hgoal := VRel.vec (w := w) (U := Old w) (ι := fun _ => none) (rows.map (·.2)) a (P.cellsOf e) cap (fun i j => ((rows[i]?).bind fun z => z.1[j]?).getD undef) (by omega)
            (fun r hr => by
              obtain ⟨i, hi⟩ := List.getElem?_of_mem hr
              obtain ⟨cs, _, h1, h2, _⟩ := hz i r hi
              rw [h2.1, cells_length h1])
            (fun hne => (hspot (by intro h0; apply hne; apply List.eq_nil_of_length_eq_zero; omega)).2)
            (fun hne => (hspot (by intro h0; apply hne; apply List.eq_nil_of_length_eq_zero; omega)).1)
            (fun i j hi hj => by
              have hs := (hspot (by omega)).1
              obtain ⟨cs, hcs, h1, h2, _⟩ := hz i (rows.map (·.2))[i] (List.getElem?_eq_getElem hi)
              have h3 := cells_get h1 hj
              rw [hcs]
              simp only [Option.bind_some]
              rw [List.getElem?_eq_getElem (by rw [cells_length h1]; exact hj)] at h3 ⊢
              rw [← add_eq (a := ⟨a.block, a.off + i * P.cellsOf e, none⟩) rfl j, ← add_eq hs]
              exact h3)
            (fun r hr x hxr => by
              obtain ⟨i, hi⟩ := List.getElem?_of_mem hr
              obtain ⟨cs, _, h1, h2, _⟩ := hz i r hi
              obtain ⟨j, hj⟩ := List.getElem?_of_mem hxr
              have hjl : j < cs.length := by rw [← h2.1]; exact (List.getElem?_eq_some_iff.mp hj).1
              exact (h2.2 j x cs[j] hj (List.getElem?_eq_getElem hjl)).1)
            (fun i r j x hi hj => by
              obtain ⟨cs, hcs, h1, h2, _⟩ := hz i r hi
              have hjl : j < cs.length := by rw [← h2.1]; exact (List.getElem?_eq_some_iff.mp hj).1
              have h4 := (h2.2 j x cs[j] hj (List.getElem?_eq_getElem hjl)).2
              simp only [hcs, Option.bind_some, List.getElem?_eq_getElem hjl, Option.getD_some]
              exact h4)
          rw [hll] at hgoal
          exact hgoal
        · intro r hr
          obtain ⟨i, hi⟩ := List.getElem?_of_mem hr
          obtain ⟨_, _, _, _, h⟩ := hz i r hi
          exact h
    · rename_i fs ht
      simp only [Bool.and_eq_true, List.all_eq_true, List.mem_range] at hd
      obtain ⟨hcov, hflds⟩ := hd
      obtain ⟨xs, n, _, _, hcl, hxl, hxf⟩ := DataW.trod_struct ht hx
      have hfi : ∀ i, i < fs.size → ∃ az, ∀ f, fs[i]? = some f → Sts w az ((cs.drop f.offset).take (P.cellsOf f.type)) ∧ Shp P f.type az ∧ f.offset + P.cellsOf f.type ≤ P.cellsOf t ∧ ∀ j, j < P.cellsOf f.type → ownF P fs (f.offset + j) = some i := by
        intro i hi
        have hf0 : fs[i]? = some fs[i] := Array.getElem?_eq_getElem hi
        have h1 := hxf i fs[i] hf0
        rw [List.getElem?_eq_getElem (by omega)] at h1
        have h2 := hflds i hi
        rw [hf0] at h2
        simp only [Bool.and_eq_true, decide_eq_true_eq, List.all_eq_true, List.mem_range, beq_iff_eq] at h2
        obtain ⟨az, h3, h4⟩ := ih h2.1.1 h1
        exact ⟨az, fun f hf => by rw [hf0] at hf; cases hf; exact ⟨h3, h4, h2.1.2, h2.2⟩⟩
      obtain ⟨rows, hrl, hrows⟩ := list_choose fs.size hfi
      have hcell : ∀ c, c < P.cellsOf t → ∃ a, ∀ i f r, ownF P fs c = some i → fs[i]? = some f → rows[i]? = some r → f.offset ≤ c ∧ c < f.offset + P.cellsOf f.type ∧ r[c - f.offset]? = some a := by
        intro c hc
        have h1 := hcov c hc
        obtain ⟨i, hi⟩ := Option.isSome_iff_exists.mp h1
        have h2 := List.find?_some hi
        have h3 : i < fs.size := by simpa using List.mem_of_find?_eq_some hi
        have hf0 : fs[i]? = some fs[i] := Array.getElem?_eq_getElem h3
        rw [hf0] at h2
        simp only [Bool.and_eq_true, decide_eq_true_eq] at h2
        have hr0 : rows[i]? = some rows[i] := List.getElem?_eq_getElem (by omega)
        obtain ⟨hst, _, hle, _⟩ := hrows i rows[i] hr0 fs[i] hf0
        have hlen : rows[i].length = P.cellsOf fs[i].type := by rw [hst.1, List.length_take, List.length_drop, hcl]; omega
        refine ⟨(rows[i])[c - fs[i].offset]'(by omega), fun i' f r hi' hf hr => ?_⟩
        rw [hi] at hi'; cases hi'
        rw [hf0] at hf; cases hf
        rw [hr0] at hr; cases hr
        exact ⟨h2.1, h2.2, List.getElem?_eq_getElem _⟩
      obtain ⟨az, hal, has⟩ := list_choose (P.cellsOf t) hcell
      have hfield : ∀ (i : Nat) (f : Field) (r : List AV), fs[i]? = some f → rows[i]? = some r → (az.drop f.offset).take (P.cellsOf f.type) = r := by
        intro i f r hf hr
        obtain ⟨hst, _, hle, hown⟩ := hrows i r hr f hf
        have hlen : r.length = P.cellsOf f.type := by rw [hst.1, List.length_take, List.length_drop, hcl]; omega
        apply List.ext_getElem?
        intro j
        rcases Nat.lt_or_ge j (P.cellsOf f.type) with hj | hj
        · rw [List.getElem?_take_of_lt hj, List.getElem?_drop]
          have hc : az[f.offset + j]? = some (az[f.offset + j]'(by omega)) := List.getElem?_eq_getElem (by omega)
          obtain ⟨_, _, h3⟩ := has (f.offset + j) _ hc i f r (hown j hj) hf hr
          rw [hc, ← h3]
          congr 1; omega
        · rw [List.getElem?_eq_none (by simp; omega), List.getElem?_eq_none (by omega)]
      refine ⟨az, ⟨by omega, ?_⟩, .struct ht hal ?_⟩
      · intro c a v ha hv
        have hc : c < P.cellsOf t := by rw [← hal]; exact (List.getElem?_eq_some_iff.mp ha).1
        obtain ⟨i, hi⟩ := Option.isSome_iff_exists.mp (hcov c hc)
        have h3 : i < fs.size := by simpa using List.mem_of_find?_eq_some hi
        have hf0 : fs[i]? = some fs[i] := Array.getElem?_eq_getElem h3
        have hr0 : rows[i]? = some rows[i] := List.getElem?_eq_getElem (by omega)
        obtain ⟨hst, _, hle, _⟩ := hrows i rows[i] hr0 fs[i] hf0
        obtain ⟨h4, h5, h6⟩ := has c a ha i fs[i] rows[i] hi hf0 hr0
        refine hst.2 (c - fs[i].offset) a v h6 ?_
        rw [List.getElem?_take_of_lt (by omega), List.getElem?_drop, show fs[i].offset + (c - fs[i].offset) = c by omega]
        exact hv
      · intro i f hf
        have h3 : i < fs.size := (Array.getElem?_eq_some_iff.mp hf).1
        have hr0 : rows[i]? = some rows[i] := List.getElem?_eq_getElem (by omega)
        rw [hfield i f rows[i] hf hr0]
        exact (hrows i rows[i] hr0 f hf).2.1
    · cases hd
theorem open_val {t : TypeId} {v : Value} {x : DataW H} {ps : List MemPlace} {r : Reach} {b0 : Nat} (hd : dataT P 8 t = true) (hval : Value.okWide P w r b0 t v) (hx : DataW.Trod enc P w base spare held t v x ps) :
    ∃ av az, VRel w (Old w) (fun _ => none) av v ∧ Shp P t az ∧ (match P.underlying t with | some (.struct _) => av = .agg az | _ => az = [av]) := by
  obtain ⟨fuel, hf⟩ := hx
  obtain ⟨az, hst, hsh⟩ := open_cells 8 hd hf
  cases hu : P.underlying t with
  | none => exfalso; unfold dataT at hd; rw [hu] at hd; cases hd
  | some u =>
    by_cases hs : ∃ fs, u = .struct fs
    · obtain ⟨fs, rfl⟩ := hs
      obtain ⟨cs, rfl, hcs⟩ := okWide_struct hu hval
      refine ⟨.agg az, az, ?_, hsh, rfl⟩
      have hl : cs.toList.length = az.length := hst.1.symm
      have := VRel.agg (w := w) (U := Old w) (ι := fun _ => none) az cs.toList hl (fun a ha => by
        obtain ⟨i, hi⟩ := List.getElem?_of_mem ha
        have hil : i < cs.toList.length := by rw [hl]; exact (List.getElem?_eq_some_iff.mp hi).1
        exact (hst.2 i a cs.toList[i] hi (List.getElem?_eq_getElem hil)).1) (fun i a v ha hv => (hst.2 i a v ha hv).2)
      simpa using this
    · have hone : ∃ a, az = [a] := by
        cases hsh with
        | struct h' => rw [hu] at h'; cases h'; exact absurd ⟨_, rfl⟩ hs
        | bool _ | int _ | str _ | nilS _ | vec _ => exact ⟨_, rfl⟩
      obtain ⟨a, rfl⟩ := hone
      have hcl : v.cells.toList.length = 1 := hst.1.symm
      have hv : v.cells.toList = [v] := by
        cases v with
        | agg cs =>
          exfalso
          unfold Value.okWide at hval
          rw [hu] at hval
          have hcs : cs.toList.length = 1 := hcl
          obtain ⟨c, hc⟩ : ∃ c, cs.toList = [c] := List.length_eq_one_iff.mp hcs
          unfold dataT at hd
          rw [hu] at hd
          cases u <;> first | (cases hd; done) | (exact absurd ⟨_, rfl⟩ hs) | (simp [Cell.okWide, Cell.ok, hu] at hval)
        | _ => rfl
      refine ⟨a, [a], ?_, hsh, ?_⟩
      · exact (hst.2 0 a v rfl (by rw [hv]; rfl)).2
      · cases u <;> first | rfl | exact absurd ⟨_, rfl⟩ hs
end Go.BX

namespace Go.Proofs.Ytjnopnlgcmlkfaa.G
open Go.BX
open Go.ChangeShapes Go.WideShapes Go.ChangeAt Go.RowKit
set_option linter.unusedVariables false
theorem own : ownKnob Try.prog.godebug = none := by kernel_rfl
theorem laidOut : laidOutB Try.prog = true := by kernel_rfl
theorem law_calls {f : FuncId} {args : List AV} (hx : Cx.ext f = none) (h : PCall Cx f args (.bool true)) {w : World} {vs : List Value} (ha : LsRel w (Old w) (fun _ => none) args vs) :
    Calls Try.prog f vs.toArray w (fun e w' => e = .returned (.bool true) ∧ Below w.heap.size w w') := by
  obtain ⟨n, hn⟩ := h
  refine (pcall_calls cok hx hn ha).mono ?_
  rintro e w' ⟨⟨v, U', rfl, hv⟩, hb⟩
  cases hv
  exact ⟨rfl, hb⟩
theorem i64_wf {n : Int} (h : (Lit.int .i64 n).wf = true) : -9223372036854775808 ≤ n ∧ n ≤ 9223372036854775807 := bounds_i64 h
end Go.Proofs.Ytjnopnlgcmlkfaa.G

namespace Go.Proofs.Ytjnopnlgcmlkfaa.G
open Go.BX
theorem dec_int {cs : List AV} (h : Shp Try.prog 3 cs) : ∃ n, cs = [.int .i64 n] ∧ (-9223372036854775808 ≤ n ∧ n ≤ 9223372036854775807) := by
  obtain ⟨n, h1, h2⟩ := shp_int Try.underlying3 h
  exact ⟨n, h1, i64_wf h2⟩
theorem dec_str {cs : List AV} (h : Shp Try.prog 9 cs) : ∃ s, cs = [.str s] ∧ s.length ≤ maxLen := shp_str Try.underlying9 h
set_option maxRecDepth 100000 in
theorem dec_spot {cs : List AV} (h : Shp Try.prog 43 cs) : ∃ x y, cs = [.int .i64 x, .int .i64 y] := by
  obtain ⟨hl, hf⟩ := shp_struct Try.underlying43 h
  have hl2 : cs.length = 2 := hl.trans (by kernel_rfl)
  match cs, hl2 with
  | [a0, a1], _ =>
    have f0 := hf 0 _ rfl
    have f1 := hf 1 _ rfl
    obtain ⟨x, hx, bx⟩ := dec_int f0
    obtain ⟨y, hy, by'⟩ := dec_int f1
    cases hx
    cases hy
    exact ⟨_, _, rfl⟩
set_option maxRecDepth 100000 in
theorem dec_val {cs : List AV} (h : Shp Try.prog 45 cs) : ∃ k n s x y, cs = [.int .i64 k, .int .i64 n, .str s, .int .i64 x, .int .i64 y] := by
  obtain ⟨hl, hf⟩ := shp_struct Try.underlying45 h
  have hl2 : cs.length = 5 := hl.trans (by kernel_rfl)
  match cs, hl2 with
  | [a0, a1, a2, a3, a4], _ =>
    have f0 := hf 0 _ rfl
    have f1 := hf 1 _ rfl
    have f2 := hf 2 _ rfl
    have f3 := hf 3 _ rfl
    obtain ⟨k, hk, bk⟩ := dec_int f0
    obtain ⟨n, hn, bn⟩ := dec_int f1
    obtain ⟨s, hs, bs⟩ := dec_str f2
    obtain ⟨x, y, hxy⟩ := dec_spot f3
    cases hk
    cases hn
    cases hs
    have hxy' : [a3, a4] = [.int .i64 x, .int .i64 y] := hxy
    cases hxy'
    exact ⟨_, _, _, _, _, rfl⟩
set_option maxRecDepth 100000 in
theorem dec_pair {cs : List AV} (h : Shp Try.prog 47 cs) : ∃ p : Pr, cs = encP p := by
  obtain ⟨hl, hf⟩ := shp_struct Try.underlying47 h
  have hl2 : cs.length = 6 := hl.trans (by kernel_rfl)
  match cs, hl2 with
  | [a0, a1, a2, a3, a4, a5], _ =>
    have f0 := hf 0 _ rfl
    have f1 := hf 1 _ rfl
    obtain ⟨z, hz, bz⟩ := dec_str f0
    obtain ⟨k, n, s, x, y, hv⟩ := dec_val f1
    cases hz
    have hv' : [a1, a2, a3, a4, a5] = [.int .i64 k, .int .i64 n, .str s, .int .i64 x, .int .i64 y] := hv
    cases hv'
    exact ⟨⟨z, k, n, s, x, y⟩, rfl⟩
theorem rows_list : ∀ {es : List (List AV)}, (∀ r, r ∈ es → ∃ p : Pr, r = encP p) → ∃ l : List Pr, es = l.map encP
  | [], _ => ⟨[], rfl⟩
  | r :: es, h => by
    obtain ⟨p, rfl⟩ := h r (by simp)
    obtain ⟨l, rfl⟩ := rows_list (es := es) (fun r hr => h r (by simp [hr]))
    exact ⟨p :: l, rfl⟩
theorem dec_list {a : AV} (h : Shp Try.prog 22 [a]) : ∃ l : List Pr, InL a l ∧ l.length ≤ maxLen := by
  rcases shp_slice Try.underlying22 h with e | ⟨es, e, hl, hr⟩
  · cases e
    exact ⟨[], .inl ⟨rfl, rfl⟩, by simp⟩
  · cases e
    obtain ⟨l, rfl⟩ := rows_list (fun r hm => dec_pair (hr r hm))
    have hc : Try.prog.cellsOf 47 = 6 := by kernel_rfl
    refine ⟨l, .inr (by rw [hc]), by simpa using hl⟩
end Go.Proofs.Ytjnopnlgcmlkfaa.G

