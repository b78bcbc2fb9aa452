import Derived.Test.YtckhmpcmlochpaaGreatKRVSteps5
import Derived.Test.YtckhmpcmlochpaaGreatKRVSteps4
set_option linter.unusedSimpArgs false
set_option linter.unusedVariables false
set_option linter.unnecessarySimpa false
set_option linter.unusedSectionVars false
namespace Go.Proofs.YtckhmpcmlochpaaGreat.G
open Go.BX
variable {fn : FuncId} {T : Nat → AV} {ds : List ADef} {ro : Option Nat} {k : List AItem} {Q : AV → AHeap → Prop} {dst : Option Nat} {os : List AO}
structure ML (M : Mch) (l : List Nd) : Prop where
 L : M.L = .vec 6 (l.map q2w)
 F : M.F = .vec 3 (q3l l)
 len : l.length ≤ 400
 env : Ek M.E
section
theorem z0l {M : Mch} {l : List Nd} (hM : ML M l) {n p : Nat} {A : Nat → Blk} {s : St} {t : Ex} (h : MS M n A s) (ht : Tree l p t)
  (hk : q0d Cx fn (putA T dst (.int .i64 ((p + (q0o t).length : Nat) : Int))) ds ro os k ⟨n, A⟩ Q) :
  q0g Cx fn T ds ro 30 [.ptr M.b 22 0 0, .int .i64 (p : Int)] dst os k ⟨n, A⟩ Q := by
 refine q0s w0u (q0l _) w0t ?_
 obtain ⟨hb, o, hA, ho⟩ := h
 have hF := hM.F
 have hlt := ht.lt
 have p0 : (0 : Int) ≤ (p : Int) := by omega
 have p1 : (p : Int) < ((q3l l).length : Int) := by rw [q3y]; omega
 have hg : (q3l l)[p]? = some [.str (q0e (opE t)), .int .i64 (q1b (opE t) : Int), .int .i64 ((p + (q0o t).length : Nat) : Int)] := q6s ht
 simp only [hA, hF, p0, p1, hg, Int.toNat_natCast, r30_0, w9g, tt, bb, bc, ↓bd, Nat.reduceEqDiff, ↓reduceIte, reduceCtorEq]
 exact hk
def DoC (M : Mch) (l : List Nd) (g : Nat) : Prop :=
 ∀ {fn : FuncId} {T : Nat → AV} {ds : List ADef} {ro : Option Nat} {k : List AItem} {Q : AV → AHeap → Prop} {dst : Option Nat} {os : List AO} {n p : Nat} {A : Nat → Blk} {s : St} {t : Ex}, MS M n A s → Sk s → Tree l p t → s.left ≤ g →
  (∀ n' A', MS M n' A' (ev M.E g t s).2 → Keep M.b n A A' → n ≤ n' → q0d Cx fn (putA T dst (q1o (ev M.E g t s).1)) ds ro os k ⟨n', A'⟩ Q) →
  q0g Cx fn T ds ro 16 [.ptr M.b 22 0 0, .int .i64 (p : Int)] dst os k ⟨n, A⟩ Q
theorem MS.errCell {M : Mch} {n : Nat} {A : Nat → Blk} {s : St} (h : MS M n A s) : ∃ o, A M.b = .cells 58 22 [[M.L, M.F, .str M.E.key, .int .i64 M.E.val.k, .int .i64 M.E.val.n, .str M.E.val.s, .int .i64 M.E.val.x, .int .i64 M.E.val.y, .int .i64 M.E.acc.k, .int .i64 M.E.acc.n, .str M.E.acc.s, .int .i64 M.E.acc.x, .int .i64 M.E.acc.y, .int .i64 s.i, .int .i64 s.it.k, .int .i64 s.it.n, .str s.it.s, .int .i64 s.it.x, .int .i64 s.it.y, o, .int .i64 (s.left : Int), .int .i64 s.err]] := ⟨_, h.cell.choose_spec.1⟩
theorem MS.setI {M : Mch} {n : Nat} {A : Nat → Blk} {s : St} {o : AV} (h : MS M n A s) (ho : A M.b = .cells 58 22 [[M.L, M.F, .str M.E.key, .int .i64 M.E.val.k, .int .i64 M.E.val.n, .str M.E.val.s, .int .i64 M.E.val.x, .int .i64 M.E.val.y, .int .i64 M.E.acc.k, .int .i64 M.E.acc.n, .str M.E.acc.s, .int .i64 M.E.acc.x, .int .i64 M.E.acc.y, .int .i64 s.i, .int .i64 s.it.k, .int .i64 s.it.n, .str s.it.s, .int .i64 s.it.x, .int .i64 s.it.y, o, .int .i64 (s.left : Int), .int .i64 s.err]]) (s' : St) (hl : s'.out = s.out) :
  MS M n (upd A M.b (.cells 58 22 [[M.L, M.F, .str M.E.key, .int .i64 M.E.val.k, .int .i64 M.E.val.n, .str M.E.val.s, .int .i64 M.E.val.x, .int .i64 M.E.val.y, .int .i64 M.E.acc.k, .int .i64 M.E.acc.n, .str M.E.acc.s, .int .i64 M.E.acc.x, .int .i64 M.E.acc.y, .int .i64 s'.i, .int .i64 s'.it.k, .int .i64 s'.it.n, .str s'.it.s, .int .i64 s'.it.x, .int .i64 s'.it.y, o, .int .i64 (s'.left : Int), .int .i64 s'.err]])) s' := by
 obtain ⟨hb, o', hA, hw⟩ := h
 have e := hA.symm.trans ho
 simp only [Blk.cells.injEq, List.cons.injEq, and_true, true_and] at e
 subst e
 refine ⟨hb, o', by rw [q0b, if_pos rfl], ?_⟩
 rw [hl]
 refine hw.keep (Nat.le_refl _) fun z hz hp => ?_
 have : z ≠ M.b := by rintro rfl; rw [hA] at hp; cases hp
 rw [q0b, if_neg this]
theorem Keep.set {b n : Nat} {A A' : Nat → Blk} (h : Keep b n A A') (X : Blk) : Keep b n A (upd A' b X) := fun c hc hb hp => by
 rw [q0b, if_neg hb]
 exact h c hc hb hp
end
abbrev q3o (v : Vl) : Blk := .cells 26 5 [[.int .i64 v.k, .int .i64 v.n, .str v.s, .int .i64 v.x, .int .i64 v.y]]
theorem j4h {f : St → Vl × St} {N : Int} {c : Nat} {k : Int} {v : Vl} {s : St} (h : ¬ (k < N ∧ s.err = 0)) : q1y f N c k v s = (v, s) := by
 cases c with
 | zero => rfl
 | succ c =>
  conv => lhs; unfold q1y
  rw [if_neg h]
theorem x5r {f : St → Vl × St} {N : Int} {c : Nat} {k : Int} {v : Vl} {s : St} (h : k < N ∧ s.err = 0) : q1y f N (c + 1) k v s = q1y f N c (k + 1) (f { s with i := k }).1 (f { s with i := k }).2 := by
 conv => lhs; unfold q1y
 rw [if_pos h]
theorem q6f {b n : Nat} {A A' : Nat → Blk} (h : Keep b n A A') {c : Nat} {t kk : Nat} {es : List (List AV)} (hA : A c = .cells t kk es) (hc : c < n) (hb : c ≠ b) (ht : t ≠ 49) : A' c = .cells t kk es := h.at hc hb hA ht
set_option maxRecDepth 20000 in
theorem j8z {M : Mch} {n0 a : Nat} {A0 : Nat → Blk} {i0 : Int} {Q : AV → AHeap → Prop} (ha : n0 ≤ a) (hab : M.b < a) (hb0 : M.b < n0) {j : Int} {v : Vl} {s : St} {T : Nat → AV} {n b8 : Nat} {A : Nat → Blk} (hm : MS M n A { s with i := j }) (hkp : Keep M.b n0 A0 A) (hn : n0 ≤ n)
  (t6 : T 6 = .ptr (a + 2) 5 0 0) (t8 : T 8 = .ptr b8 5 0 0) (hb8 : a + 3 < b8) (hbn : b8 < n)
  (hA0 : A a = .cells 54 1 [[.ptr M.b 22 0 0]]) (hA2 : A (a + 2) = zB) (hA3 : A (a + 3) = .cells 3 1 [[.int .i64 i0]]) (hA8 : A b8 = q3o v)
  (hQ : ∀ n' A', MS M n' A' { s with i := i0 } → Keep M.b n0 A0 A' → n0 ≤ n' → Q (q1o v) ⟨n', A'⟩) :
  Run Cx 50 T [.call (.fn 68 [] [.ptr (a + 3) 1 0 0, .ptr a 1 0 0]) []] none [.code c50_40, .inScope c50_3] ⟨n, A⟩ Q := by
 have hA8' : A b8 = .cells 26 5 [[.int .i64 v.k, .int .i64 v.n, .str v.s, .int .i64 v.x, .int .i64 v.y]] := hA8
 have hA2' : A (a + 2) = .cells 26 5 [[.int .i64 0, .int .i64 0, .str [], .int .i64 0, .int .i64 0]] := hA2
 simp only [t6, t8, hA2', hA8', r50_0.2.2.2.2.2.1, tt, bb, ↓bd, Nat.reduceEqDiff, Nat.reduceAdd, ↓reduceIte]
 refine x0h (.inr ⟨_, rfl⟩) ?_
 refine ⟨q0l _, _, w2s, ?_⟩
 have hm2 := hm.upo (c := a + 2) (by omega) (by rw [hA2]; exact q3k) (q3o v)
 obtain ⟨o, q1m⟩ := hm2.errCell
 have e1 : (a = a + 2) = False := eq_false (by omega)
 have e2 : (a + 3 = a + 2) = False := eq_false (by omega)
 have e3 : (M.b = a + 2) = False := eq_false (by omega)
 have e4 : (a + 2 = M.b) = False := eq_false (by omega)
 have e5 : (a = M.b) = False := eq_false (by omega)
 have e6 : (a + 3 = M.b) = False := eq_false (by omega)
 rw [q0b, if_neg (by omega)] at q1m
 have hm3 := hm2.setI (o := o) (by rw [q0b, if_neg (by omega)]; exact q1m) { s with i := i0 } rfl
 simp only [hA0, hA3, q1m, e1, e2, e3, r68_0, tt, bb, ↓bd, Nat.reduceEqDiff, Nat.reduceAdd, Nat.reduceLeDiff, ↓reduceIte, reduceCtorEq]
 have q1u := (hkp.up1 (n' := a + 2) (by omega) (q3o v)).set (.cells 58 22 [[M.L, M.F, .str M.E.key, .int .i64 M.E.val.k, .int .i64 M.E.val.n, .str M.E.val.s, .int .i64 M.E.val.x, .int .i64 M.E.val.y, .int .i64 M.E.acc.k, .int .i64 M.E.acc.n, .str M.E.acc.s, .int .i64 M.E.acc.x, .int .i64 M.E.acc.y, .int .i64 i0, .int .i64 s.it.k, .int .i64 s.it.n, .str s.it.s, .int .i64 s.it.x, .int .i64 s.it.y, o, .int .i64 (s.left : Int), .int .i64 s.err]])
 rw [y4c, w9o]
 show RunRes Cx _ _ Q (q0p Cx 50)
 rw [y4s]
 have e7 : (a + 2 = M.b) = False := eq_false (by omega)
 simp only [t6, e7, tt, bb, bc, ↓bd, Nat.reduceEqDiff, Nat.reduceAdd, ↓reduceIte]
 exact hQ n _ hm3 q1u hn
theorem w6f {M : Mch} {l : List Nd} {g : Nat} (hM : ML M l) (hD : DoC M l g) {p n0 a : Nat} {A0 : Nat → Blk} {t : Ex} (ht : Tree l p t) {i0 : Int} {nv : Vl} (hN0 : 0 ≤ nv.n) (hN1 : nv.n ≤ 9007199254740992) {Q : AV → AHeap → Prop} (ha : n0 ≤ a) (hab : M.b < a) (hb0 : M.b < n0) :
  ∀ (c : Nat) (j : Int) (v : Vl) (s : St) (T : Nat → AV) (n b8 : Nat) (A : Nat → Blk), MS M n A { s with i := j } → Sk s → 0 ≤ j → j ≤ nv.n → s.left ≤ g → (s.err = 0 → s.left < c) → Keep M.b n0 A0 A → n0 ≤ n →
   T 2 = .int .i64 (p : Int) → T 3 = .ptr a 1 0 0 → T 4 = .ptr (a + 1) 5 0 0 → T 6 = .ptr (a + 2) 5 0 0 → T 8 = .ptr b8 5 0 0 → a + 3 < b8 → b8 < n →
   A a = .cells 54 1 [[.ptr M.b 22 0 0]] → A (a + 1) = q3o nv → A (a + 2) = zB → A (a + 3) = .cells 3 1 [[.int .i64 i0]] → A b8 = q3o v →
   (∀ n' A', MS M n' A' { (q1y (ev M.E g t) nv.n c j v s).2 with i := i0 } → Keep M.b n0 A0 A' → n0 ≤ n' → Q (q1o (q1y (ev M.E g t) nv.n c j v s).1) ⟨n', A'⟩) →
   Run Cx 50 T [.call (.fn 68 [] [.ptr (a + 3) 1 0 0, .ptr a 1 0 0]) []] none [.code c50_28, .inScope c50_3] ⟨n, A⟩ Q := by
 intro c
 induction c with
 | zero =>
  intro j v s T n b8 A hm hs hj0 hj1 hg hc hkp hn t2 t3 t4 t6 t8 hb8 hbn hA0 hA1 hA2 hA3 hA8 hQ
  obtain ⟨o, q1m⟩ := hm.errCell
  have hne : s.err ≠ 0 := fun h => by have := hc h; omega
  have z1 : (s.err == 0) = false := by simp [hne]
  by_cases h1 : j < nv.n
  ·simp only [t3, t4, hA0, hA1, q1m, h1, z1, r50_0.2.2.2.2.1, tt, bb, ↓bd, Nat.reduceEqDiff, ↓reduceIte]
   refine j8z ha hab hb0 (v := v) (s := s) hm hkp hn ?_ ?_ hb8 hbn hA0 hA2 hA3 hA8 hQ
   all_goals simp only [q0b, t6, t8, Nat.reduceEqDiff, ↓reduceIte]
  ·simp only [t3, t4, hA0, hA1, q1m, h1, r50_0.2.2.2.2.1, tt, bb, ↓bd, Nat.reduceEqDiff, ↓reduceIte]
   refine j8z ha hab hb0 (v := v) (s := s) hm hkp hn ?_ ?_ hb8 hbn hA0 hA2 hA3 hA8 hQ
   all_goals simp only [q0b, t6, t8, Nat.reduceEqDiff, ↓reduceIte]
 | succ c ih =>
  intro j v s T n b8 A hm hs hj0 hj1 hg hc hkp hn t2 t3 t4 t6 t8 hb8 hbn hA0 hA1 hA2 hA3 hA8 hQ
  obtain ⟨o, q1m⟩ := hm.errCell
  have hb := hm.lt
  by_cases hgo : j < nv.n ∧ s.err = 0
  ·rw [x5r hgo] at hQ
   have c1 : (j < nv.n) = True := eq_true hgo.1
   have z1 : (s.err == 0) = true := by simp [hgo.2]
   have w1 : IntKind.i64.wrap (j + 1) = j + 1 := wr64 (by omega) (by omega)
   simp only [t2, t3, t4, hA0, hA1, q1m, c1, z1, r50_0, tt, bb, bc, ↓bd, Nat.reduceEqDiff, ↓reduceIte]
   have hsj : Sk { s with i := j } := ⟨hs.it, hj0, by show j ≤ _; omega, hs.out, hs.outs⟩
   refine hD hm hsj ht hg ?_
   intro n' A' hm' q1z hn'
   have q0 := q6f q1z hA0 (by omega) (by omega) (by decide)
   have q1 := q6f q1z hA1 (by omega) (by omega) (by decide)
   have q2 := q6f q1z hA2 (by omega) (by omega) (by decide)
   have q3 := q6f q1z hA3 (by omega) (by omega) (by decide)
   have q8 := q6f q1z hA8 (by omega) (by omega) (by decide)
   have hk2 := x9m hM.env g t { s with i := j } ht.1 hsj
   have j1g := z1q (E := M.E) g t { s with i := j }
   generalize hr : ev M.E g t { s with i := j } = r at hm' hQ hk2 j1g
   have hm2 := hm'.upo (c := b8) (by omega) (by rw [q8]; exact q3k) (q3o r.1)
   obtain ⟨o2, hcell2⟩ := hm2.errCell
   have hm3 := hm2.setI hcell2 { r.2 with i := j + 1 } rfl
   have e1 : (a = b8) = False := eq_false (by omega)
   have e2 : (M.b = b8) = False := eq_false (by omega)
   have y3g := hcell2
   rw [q0b, if_neg (by omega)] at y3g
   simp only [t3, t8, q0, q8, y3g, w1, e1, e2, tt, bb, ↓bd, Nat.reduceEqDiff, Nat.reduceAdd, Nat.reduceLeDiff, ↓reduceIte]
   have hgt : z1x 0 [.code c50_40, .inScope c50_3] = some [.code (.seq .skip c50_28), .inScope c50_3] := rfl
   show Run Cx 50 _ _ none (.code (.goto 0) :: _) _ _
   rw [q7c hgt, q6a, q4v]
   have q1u := (((hkp.trans hn q1z).up1 (n' := b8) (by omega) (q3o r.1))).set (.cells 58 22 [[M.L, M.F, .str M.E.key, .int .i64 M.E.val.k, .int .i64 M.E.val.n, .str M.E.val.s, .int .i64 M.E.val.x, .int .i64 M.E.val.y, .int .i64 M.E.acc.k, .int .i64 M.E.acc.n, .str M.E.acc.s, .int .i64 M.E.acc.x, .int .i64 M.E.acc.y, .int .i64 (j + 1), .int .i64 r.2.it.k, .int .i64 r.2.it.n, .str r.2.it.s, .int .i64 r.2.it.x, .int .i64 r.2.it.y, o2, .int .i64 (r.2.left : Int), .int .i64 r.2.err]])
   refine ih (j + 1) r.1 r.2 _ n' b8 _ hm3 hk2.2 (by omega) (by omega) (Nat.le_trans j1g.left hg) ?_ q1u (by omega) ?_ ?_ ?_ ?_ ?_ hb8 (by omega) ?_ ?_ ?_ ?_ ?_ hQ
   ·intro h
    have := z2k (E := M.E) (g := g) (t := t) (s := { s with i := j }) (by rw [hr]; exact h)
    rw [hr] at this
    have h3 := hc hgo.2
    have h4 : r.2.left < s.left := this
    omega
   ·simp only [q0b, t2, Nat.reduceEqDiff, ↓reduceIte]
   ·simp only [q0b, t3, Nat.reduceEqDiff, ↓reduceIte]
   ·simp only [q0b, t4, Nat.reduceEqDiff, ↓reduceIte]
   ·simp only [q0b, t6, Nat.reduceEqDiff, ↓reduceIte]
   ·simp only [q0b, t8, Nat.reduceEqDiff, ↓reduceIte]
   ·rw [q0b, if_neg (by omega), q0b, if_neg (by omega)]; exact q0
   ·rw [q0b, if_neg (by omega), q0b, if_neg (by omega)]; exact q1
   ·rw [q0b, if_neg (by omega), q0b, if_neg (by omega)]; exact q2
   ·rw [q0b, if_neg (by omega), q0b, if_neg (by omega)]; exact q3
   ·rw [q0b, if_neg (by omega), q0b, if_pos rfl]
  ·rw [j4h hgo] at hQ
   by_cases h1 : j < nv.n
   ·have z1 : (s.err == 0) = false := by
     have : s.err ≠ 0 := fun h => hgo ⟨h1, h⟩
     simp [this]
    simp only [t3, t4, hA0, hA1, q1m, h1, z1, r50_0.2.2.2.2.1, tt, bb, ↓bd, Nat.reduceEqDiff, ↓reduceIte]
    refine j8z ha hab hb0 (v := v) (s := s) hm hkp hn ?_ ?_ hb8 hbn hA0 hA2 hA3 hA8 hQ
    all_goals simp only [q0b, t6, t8, Nat.reduceEqDiff, ↓reduceIte]
   ·simp only [t3, t4, hA0, hA1, q1m, h1, r50_0.2.2.2.2.1, tt, bb, ↓bd, Nat.reduceEqDiff, ↓reduceIte]
    refine j8z ha hab hb0 (v := v) (s := s) hm hkp hn ?_ ?_ hb8 hbn hA0 hA2 hA3 hA8 hQ
    all_goals simp only [q0b, t6, t8, Nat.reduceEqDiff, ↓reduceIte]
section
def q9m (f : St → Vl × St) (c : Nat) (v : Vl) (s : St) : Vl × St :=
 if v.k ≠ 0 then (zV, { s with err := 13 }) else if v.n < 0 then (zV, { s with err := 14 }) else ((q1y f v.n c 0 (nV 0) s).1, { (q1y f v.n c 0 (nV 0) s).2 with i := s.i })
theorem z0m {e : Int} {s : St} (he : s.err = 0) : q1f e s = { s with err := e } := by unfold q1f; rw [if_pos he]
theorem x5s {M : Mch} {l : List Nd} {g : Nat} (hM : ML M l) (hD : DoC M l g) {n p : Nat} {A : Nat → Blk} {s : St} {t : Ex} {v : Vl} (h : MS M n A s) (hs : Sk s) (hv : okV v = true) (ht : Tree l p t) (hg : s.left ≤ g) (he : s.err = 0)
  (hk : ∀ n' A', MS M n' A' (q9m (ev M.E g t) (g + 1) v s).2 → Keep M.b n A A' → n ≤ n' → q0d Cx fn (putA T dst (q1o (q9m (ev M.E g t) (g + 1) v s).1)) ds ro os k ⟨n', A'⟩ Q) :
  q0g Cx fn T ds ro 50 [.ptr M.b 22 0 0, q1o v, .int .i64 (p : Int)] dst os k ⟨n, A⟩ Q := by
 refine q0s w1q (q0l _) w1p ?_
 have hb := h.lt
 have hm3 := ((h.up1 (.cells 54 1 [[.ptr M.b 22 0 0]])).up1 (q3o v)).up1 zB
 have q1u := (((Keep.refl M.b n A).up1 (Nat.le_refl _) (.cells 54 1 [[.ptr M.b 22 0 0]])).up1 (n' := n + 1) (by omega) (q3o v)).up1 (n' := n + 1 + 1) (by omega) zB
 have e1 : (n = n + 1) = False := eq_false (by omega)
 have e2 : (n = n + 1 + 1) = False := eq_false (by omega)
 have e3 : (n + 1 = n + 1 + 1) = False := eq_false (by omega)
 have e4 : (M.b = n) = False := eq_false (by omega)
 have e5 : (M.b = n + 1) = False := eq_false (by omega)
 have e6 : (M.b = n + 1 + 1) = False := eq_false (by omega)
 have bad : ∀ (e : Int) (hk : ∀ n' A', MS M n' A' { s with err := e } → Keep M.b n A A' → n ≤ n' → q0d Cx fn (putA T dst (q1o zV)) ds ro os k ⟨n', A'⟩ Q), ∀ n' A', MS M n' A' (q1f e s) → Keep M.b (n + 1 + 1 + 1) (upd (upd (upd A n (.cells 54 1 [[.ptr M.b 22 0 0]])) (n + 1) (q3o v)) (n + 1 + 1) zB) A' → n + 1 + 1 + 1 ≤ n' → A' (n + 1 + 1) = zB ∧ ∀ X, q0d Cx fn (putA T dst (q1o zV)) ds ro os k ⟨n', upd A' (n + 1 + 1) X⟩ Q := by
  intro e hk n' A' hm hkp hn
  have hc := hkp.at (c := n + 1 + 1) (by omega) (by omega) (by rw [q0b, if_pos rfl]) (by decide)
  refine ⟨hc, fun X => ?_⟩
  rw [z0m he] at hm
  exact hk n' _ (hm.upo (c := n + 1 + 1) (by omega) (by rw [hc]; exact q3k) X) ((q1u.trans (by omega) hkp).up1 (by omega) X) (by omega)
 by_cases k0 : v.k = 0
 ·have z0 : (v.k != 0) = false := by simp [k0]
  by_cases n0 : v.n < 0
  ·have er : q9m (ev M.E g t) (g + 1) v s = (zV, { s with err := 14 }) := by unfold q9m; rw [if_neg (by simp [k0]), if_pos n0]
   rw [er] at hk
   simp only [z0, n0, e1, e2, e3, r50_0, tt, bb, bc, ↓bd, Nat.reduceEqDiff, Nat.reduceAdd, ↓reduceIte]
   refine q1e hm3 ?_
   intro n' A' hm hkp hn
   obtain ⟨hc, hx⟩ := bad 14 hk n' A' hm hkp hn
   have hc' : A' (n + 1 + 1) = .cells 26 5 [[.int .i64 0, .int .i64 0, .str [], .int .i64 0, .int .i64 0]] := hc
   simp only [hc', y4s, tt, bb, bc, ↓bd, Nat.reduceEqDiff, Nat.reduceAdd, ↓reduceIte]
   exact hx _
  ·have er : q9m (ev M.E g t) (g + 1) v s = ((q1y (ev M.E g t) v.n (g + 1) 0 (nV 0) s).1, { (q1y (ev M.E g t) v.n (g + 1) 0 (nV 0) s).2 with i := s.i }) := by unfold q9m; rw [if_neg (by simp [k0]), if_neg n0]
   rw [er] at hk
   obtain ⟨o, q1m⟩ := h.errCell
   have hcz : upd (upd (upd A n (.cells 54 1 [[.ptr M.b 22 0 0]])) (n + 1) (q3o v)) (n + 1 + 1) zB M.b = A M.b := by rw [q0b, if_neg (by omega), q0b, if_neg (by omega), q0b, if_neg (by omega)]
   have f1 : (n = n + 1 + 1 + 1) = False := eq_false (by omega)
   have f2 : (n = n + 1 + 1 + 1 + 1) = False := eq_false (by omega)
   have f3 : (M.b = n + 1 + 1 + 1) = False := eq_false (by omega)
   have f4 : (M.b = n + 1 + 1 + 1 + 1) = False := eq_false (by omega)
   have f5 : (n = M.b) = False := eq_false (by omega)
   have uu : ∀ (A : Nat → Blk) (c : Nat) (X Y : Blk), upd (upd A c X) c Y = upd A c Y := fun A c X Y => z4l A c X Y
   simp only [z0, n0, e1, e2, e3, e4, e5, e6, uu, q1m, q1a, r50_0.1, r50_0.2.1, r50_0.2.2.1, tt, bb, bc, ↓bd, Nat.reduceEqDiff, Nat.reduceAdd, ↓reduceIte]
   rw [x2t (vs := []) (first := []) (caps := [AV.ptr (n + 1 + 1 + 1) 1 0 0, AV.ptr n 1 0 0]) (f := 68) rfl rfl]
   simp only [e1, e2, e4, e5, e6, f1, f2, f3, f4, uu, q1m, q0a q5k rfl (q2r 0), r50_0.2.2.2.1, tt, bb, bc, ↓bd, Nat.reduceEqDiff, Nat.reduceAdd, Nat.reduceLeDiff, ↓reduceIte]
   have hm5 := (hm3.up1 (.cells 3 1 [[.int .i64 s.i]])).up1 (q3o (nV 0))
   have j1b := (q1u.up1 (n' := n + 1 + 1 + 1) (by omega) (.cells 3 1 [[.int .i64 s.i]])).up1 (n' := n + 1 + 1 + 1 + 1) (by omega) (q3o (nV 0))
   have y3l : upd (upd (upd (upd (upd A n (.cells 54 1 [[.ptr M.b 22 0 0]])) (n + 1) (q3o v)) (n + 1 + 1) zB) (n + 1 + 1 + 1) (.cells 3 1 [[.int .i64 s.i]])) (n + 1 + 1 + 1 + 1) (q3o (nV 0)) M.b = A M.b := by
    rw [q0b, if_neg (by omega), q0b, if_neg (by omega), hcz]
   rw [q1m] at y3l
   have hm6 := hm5.setI y3l { s with i := 0 } rfl
   have hvn : 0 ≤ v.n ∧ v.n ≤ 9007199254740992 := by have := (q0w hv).1 k0; omega
   refine w6f (n0 := n) (a := n) (A0 := A) (nv := v) (i0 := s.i) hM hD ht hvn.1 hvn.2 (Nat.le_refl _) hb hb (g + 1) 0 (nV 0) s _ (n + 1 + 1 + 1 + 1 + 1) (n + 1 + 1 + 1 + 1) _ hm6 hs (Int.le_refl _) hvn.1 hg (fun _ => by omega) (j1b.set _) (by omega) ?_ ?_ ?_ ?_ ?_ (by omega) (by omega) ?_ ?_ ?_ ?_ ?_ hk
   all_goals simp only [q0b, q1g, qez, Nat.reduceEqDiff, ↓reduceIte]
   ·simp only [e1, e2, f1, f2, f5, ↓reduceIte]
   ·rw [if_neg (by omega), if_neg (by omega), if_neg (by omega), if_neg (by omega)]
   ·rw [if_neg (by omega), if_neg (by omega), if_neg (by omega)]
   ·rw [if_neg (by omega), if_neg (by omega)]
   ·rw [if_neg (by omega)]
 ·have er : q9m (ev M.E g t) (g + 1) v s = (zV, { s with err := 13 }) := by unfold q9m; rw [if_pos k0]
  rw [er] at hk
  have z0 : (v.k != 0) = true := by simpa using k0
  simp only [z0, e1, e2, e3, r50_0, tt, bb, bc, ↓bd, Nat.reduceEqDiff, Nat.reduceAdd, ↓reduceIte]
  refine q1e hm3 ?_
  intro n' A' hm hkp hn
  obtain ⟨hc, hx⟩ := bad 13 hk n' A' hm hkp hn
  have hc' : A' (n + 1 + 1) = .cells 26 5 [[.int .i64 0, .int .i64 0, .str [], .int .i64 0, .int .i64 0]] := hc
  simp only [hc', y4s, tt, bb, bc, ↓bd, Nat.reduceEqDiff, Nat.reduceAdd, ↓reduceIte]
  exact hx _
end
theorem x9w {l : List Nd} {p : Nat} {op : Int} {a b : Ex} (h : Tree l p (.op2 op a b)) : Tree l (p + 1) a ∧ Tree l (p + 1 + (q0o a).length) b := by
 obtain ⟨hk, _⟩ := h.kids
 cases hk with
 | cons h1 hs => cases hs with
  | cons h2 _ => exact ⟨h1, h2⟩
theorem w6g {l : List Nd} {p : Nat} {op : Int} {a b c : Ex} (h : Tree l p (.op3 op a b c)) : Tree l (p + 1) a ∧ Tree l (p + 1 + (q0o a).length) b ∧ Tree l (p + 1 + (q0o a).length + (q0o b).length) c := by
 obtain ⟨hk, _⟩ := h.kids
 cases hk with
 | cons h1 hs => cases hs with
  | cons h2 hs => cases hs with
   | cons h3 _ => exact ⟨h1, h2, h3⟩
section
theorem j6x {M : Mch} {l : List Nd} {g : Nat} (hM : ML M l) (hD : DoC M l g) {n p : Nat} {A : Nat → Blk} {s : St} {a : Ex} {w : Bytes} (h : MS M n A s) (hs : Sk s) (ht : Tree l (p + 1) a) (hg : s.left ≤ g)
  (q9h : (ev M.E g a s).2.err ≠ 0 → ∀ n' A', MS M n' A' (ev M.E g a s).2 → Keep M.b n A A' → n ≤ n' → q0d Cx fn (putA T dst (q1o zV)) ds ro os k ⟨n', A'⟩ Q)
  (hgood : (ev M.E g a s).2.err = 0 → ∀ n1 A1 T', MS M (n1 + 1) A1 (ev M.E g a s).2 → Keep M.b (n + 1) (upd A n zB) A1 → n + 1 ≤ n1 → A1 n1 = q3o (ev M.E g a s).1 → T' 0 = .ptr M.b 22 0 0 → T' 1 = .str w → T' 6 = .ptr n 5 0 0 → T' 7 = .ptr n1 5 0 0 → T' 8 = .int .i64 ((p + 1 + (q0o a).length : Nat) : Int) →
   Run Cx 29 T' [] none [.code c29_14] ⟨n1 + 1, A1⟩ (fun r H1 => q0d Cx fn (putA T dst r) ds ro os k H1 Q)) :
  q0g Cx fn T ds ro 29 [.ptr M.b 22 0 0, .str w, .int .i64 (p : Int)] dst os k ⟨n, A⟩ Q := by
 refine q0s w0s (q0l _) w0r ?_
 have hb := h.lt
 have hll := hM.len
 have hlt := ht.lt
 have w1 : IntKind.i64.wrap ((p : Int) + 1) = ((p + 1 : Nat) : Int) := by rw [wr64 (by omega) (by omega)]; omega
 simp only [w1, r29_0, tt, bb, bc, ↓bd, Nat.reduceEqDiff, ↓reduceIte, reduceCtorEq]
 refine hD (h.up1 zB) hs ht hg ?_
 intro n1 A1 hm1 j1g hn1
 generalize hr : ev M.E g a s = r at *
 have hm2 := hm1.up1 (q3o r.1)
 have q1k := j1g.up1 (n' := n1) (by omega) (q3o r.1)
 obtain ⟨o, q1m⟩ := hm1.errCell
 have e1 : (M.b = n1) = False := eq_false (by omega)
 have e2 : (n = n1) = False := eq_false (by omega)
 have hc := q0f hb j1g
 have uu : ∀ (A : Nat → Blk) (c : Nat) (X Y : Blk), upd (upd A c X) c Y = upd A c Y := fun A c X Y => z4l A c X Y
 by_cases he : r.2.err = 0
 ·have z1 : (r.2.err != 0) = false := by simp [he]
  simp only [w1, e1, uu, q1m, z1, tt, bb, bc, ↓bd, Nat.reduceEqDiff, Nat.reduceAdd, ↓reduceIte, reduceCtorEq]
  refine z0l hM hm2 ht ?_
  simp only [bb, ↓bd, ↓reduceIte]
  refine hgood he n1 _ _ hm2 q1k hn1 (by rw [q0b, if_pos rfl]) ?_ ?_ ?_ ?_ ?_
  all_goals simp only [q0b, q1g, qez, Nat.reduceEqDiff, ↓reduceIte]
 ·have z1 : (r.2.err != 0) = true := by simpa using he
  simp only [e1, e2, uu, q1m, hc, z1, x0m, tt, bb, bc, ↓bd, Nat.reduceEqDiff, Nat.reduceAdd, ↓reduceIte, reduceCtorEq]
  exact q0r hb hm2 q1k (by omega) (q9h he)
theorem w6h {M : Mch} {l : List Nd} {g : Nat} (hM : ML M l) (hD : DoC M l g) {n p : Nat} {A : Nat → Blk} {s : St} {a b : Ex} (h : MS M n A s) (hs : Sk s) (ht : Tree l p (.op2 29 a b)) (hg : s.left ≤ g)
  (hk : ∀ n' A', MS M n' A' (evT M.E (ev M.E g) g (.op2 29 a b) s).2 → Keep M.b n A A' → n ≤ n' → q0d Cx fn (putA T dst (q1o (evT M.E (ev M.E g) g (.op2 29 a b) s).1)) ds ro os k ⟨n', A'⟩ Q) :
  q0g Cx fn T ds ro 29 [.ptr M.b 22 0 0, .str (q0e 29), .int .i64 (p : Int)] dst os k ⟨n, A⟩ Q := by
 obtain ⟨ta, tb⟩ := x9w ht
 have hb := h.lt
 have ek : evT M.E (ev M.E g) g (.op2 29 a b) s = if (ev M.E g a s).2.err ≠ 0 then (zV, (ev M.E g a s).2) else ((ev M.E g b { (ev M.E g a s).2 with it := (ev M.E g a s).1 }).1, { (ev M.E g b { (ev M.E g a s).2 with it := (ev M.E g a s).1 }).2 with it := (ev M.E g a s).2.it }) := rfl
 rw [ek] at hk
 have hk1 := x9m hM.env g a s ta.1 hs
 have x1k := z1q (E := M.E) g a s
 refine j6x hM hD h hs ta hg ?_ ?_
 ·intro he n' A' hm hkp hn
  rw [if_pos he] at hk
  exact hk n' A' hm hkp hn
 ·intro he n1 A1 T' hm hkp hn hc1 t0 t1 t6 t7 t8
  rw [if_neg (by simpa using he)] at hk
  generalize hr : ev M.E g a s = r at *
  obtain ⟨o, q1m⟩ := hm.errCell
  have j1d : A1 n1 = .cells 26 5 [[.int .i64 r.1.k, .int .i64 r.1.n, .str r.1.s, .int .i64 r.1.x, .int .i64 r.1.y]] := hc1
  have e1 : (n1 = n1 + 1) = False := eq_false (by omega)
  have e2 : (M.b = n1 + 1) = False := eq_false (by omega)
  have uu : ∀ (A : Nat → Blk) (c : Nat) (X Y : Blk), upd (upd A c X) c Y = upd A c Y := fun A c X Y => z4l A c X Y
  have hm2 := hm.up1 (q3o r.2.it)
  have hm3 := hm2.setI (o := o) (by rw [q0b, if_neg (by omega)]; exact q1m) { r.2 with it := r.1 } rfl
  simp only [t0, t1, t7, t8, q1m, j1d, wq29, e1, e2, uu, xx, r29_0, tt, bb, bc, ↓bd, Nat.reduceEqDiff, Nat.reduceAdd, Nat.reduceLeDiff, ↓reduceIte, reduceCtorEq]
  have hs3 : Sk { r.2 with it := r.1 } := ⟨hk1.1, hk1.2.i0, hk1.2.i1, hk1.2.out, hk1.2.outs⟩
  refine hD hm3 hs3 tb (Nat.le_trans x1k.left hg) ?_
  intro n2 A2 hm4 q5p hn2
  generalize hr2 : ev M.E g b { r.2 with it := r.1 } = r2 at *
  have q1k := (hkp.up1 (n' := n1 + 1) (by omega) (q3o r.2.it)).set (.cells 58 22 [[M.L, M.F, .str M.E.key, .int .i64 M.E.val.k, .int .i64 M.E.val.n, .str M.E.val.s, .int .i64 M.E.val.x, .int .i64 M.E.val.y, .int .i64 M.E.acc.k, .int .i64 M.E.acc.n, .str M.E.acc.s, .int .i64 M.E.acc.x, .int .i64 M.E.acc.y, .int .i64 r.2.i, .int .i64 r.1.k, .int .i64 r.1.n, .str r.1.s, .int .i64 r.1.x, .int .i64 r.1.y, o, .int .i64 (r.2.left : Int), .int .i64 r.2.err]])
  have j1b := q1k.trans (by omega) q5p
  have hc9 : A2 (n1 + 1) = .cells 26 5 [[.int .i64 r.2.it.k, .int .i64 r.2.it.n, .str r.2.it.s, .int .i64 r.2.it.x, .int .i64 r.2.it.y]] := q6f q5p (by rw [q0b, if_neg (by omega), q0b, if_pos rfl]) (by omega) (by omega) (by decide)
  obtain ⟨o2, hcell2⟩ := hm4.errCell
  have hcz := q0f hb j1b
  have e3 : (n1 + 1 = n2) = False := eq_false (by omega)
  have e4 : (M.b = n2) = False := eq_false (by omega)
  have e5 : (n = n2) = False := eq_false (by omega)
  have e6 : (n2 = M.b) = False := eq_false (by omega)
  have e7 : (n = M.b) = False := eq_false (by omega)
  have hm5 := hm4.up1 (q3o r2.1)
  have hm6 := hm5.setI (o := o2) (by rw [q0b, if_neg (by omega)]; exact hcell2) { r2.2 with it := r.2.it } rfl
  simp only [t0, t6, hcell2, hc9, hcz, e3, e4, e5, e6, e7, uu, x0m, tt, bb, bc, ↓bd, Nat.reduceEqDiff, Nat.reduceAdd, Nat.reduceLeDiff, ↓reduceIte, reduceCtorEq]
  have v1z := (j1b.up1 (n' := n2) (by omega) (q3o r2.1)).set (.cells 58 22 [[M.L, M.F, .str M.E.key, .int .i64 M.E.val.k, .int .i64 M.E.val.n, .str M.E.val.s, .int .i64 M.E.val.x, .int .i64 M.E.val.y, .int .i64 M.E.acc.k, .int .i64 M.E.acc.n, .str M.E.acc.s, .int .i64 M.E.acc.x, .int .i64 M.E.acc.y, .int .i64 r2.2.i, .int .i64 r.2.it.k, .int .i64 r.2.it.n, .str r.2.it.s, .int .i64 r.2.it.x, .int .i64 r.2.it.y, o2, .int .i64 (r2.2.left : Int), .int .i64 r2.2.err]])
  exact q0r hb hm6 v1z (by omega) hk
theorem y6v {M : Mch} {l : List Nd} {g : Nat} (hM : ML M l) (hD : DoC M l g) {n p : Nat} {A : Nat → Blk} {s : St} {a b : Ex} (h : MS M n A s) (hs : Sk s) (ht : Tree l p (.op2 28 a b)) (hg : s.left ≤ g)
  (hk : ∀ n' A', MS M n' A' (evT M.E (ev M.E g) g (.op2 28 a b) s).2 → Keep M.b n A A' → n ≤ n' → q0d Cx fn (putA T dst (q1o (evT M.E (ev M.E g) g (.op2 28 a b) s).1)) ds ro os k ⟨n', A'⟩ Q) :
  q0g Cx fn T ds ro 29 [.ptr M.b 22 0 0, .str (q0e 28), .int .i64 (p : Int)] dst os k ⟨n, A⟩ Q := by
 obtain ⟨ta, tb⟩ := x9w ht
 have hb := h.lt
 have ek : evT M.E (ev M.E g) g (.op2 28 a b) s = if (ev M.E g a s).2.err ≠ 0 then (zV, (ev M.E g a s).2) else q9m (ev M.E g b) (g + 1) (ev M.E g a s).1 (ev M.E g a s).2 := rfl
 rw [ek] at hk
 have hk1 := x9m hM.env g a s ta.1 hs
 have x1k := z1q (E := M.E) g a s
 refine j6x hM hD h hs ta hg ?_ ?_
 ·intro he n' A' hm hkp hn
  rw [if_pos he] at hk
  exact hk n' A' hm hkp hn
 ·intro he n1 A1 T' hm hkp hn hc1 t0 t1 t6 t7 t8
  rw [if_neg (by simpa using he)] at hk
  generalize hr : ev M.E g a s = r at *
  have j1d : A1 n1 = .cells 26 5 [[.int .i64 r.1.k, .int .i64 r.1.n, .str r.1.s, .int .i64 r.1.x, .int .i64 r.1.y]] := hc1
  simp only [t0, t1, t7, t8, j1d, w8k, r29_0, tt, bb, bc, ↓bd, Nat.reduceEqDiff, Nat.reduceAdd, ↓reduceIte, reduceCtorEq]
  refine x5s hM hD hm hk1.2 hk1.1 tb (Nat.le_trans x1k.left hg) he ?_
  intro n2 A2 hm4 q5p hn2
  have j1b := hkp.trans (by omega) q5p
  have hcz := q0f hb j1b
  simp only [t6, hcz, x0m, tt, bb, bc, ↓bd, Nat.reduceEqDiff, Nat.reduceAdd, ↓reduceIte]
  exact q0r hb hm4 j1b (by omega) hk
theorem v0p {M : Mch} {l : List Nd} {g : Nat} (hM : ML M l) (hD : DoC M l g) {n p : Nat} {A : Nat → Blk} {s : St} {a b c : Ex} (h : MS M n A s) (hs : Sk s) (ht : Tree l p (.op3 11 a b c)) (hg : s.left ≤ g)
  (hk : ∀ n' A', MS M n' A' (evT M.E (ev M.E g) g (.op3 11 a b c) s).2 → Keep M.b n A A' → n ≤ n' → q0d Cx fn (putA T dst (q1o (evT M.E (ev M.E g) g (.op3 11 a b c) s).1)) ds ro os k ⟨n', A'⟩ Q) :
  q0g Cx fn T ds ro 29 [.ptr M.b 22 0 0, .str (q0e 11), .int .i64 (p : Int)] dst os k ⟨n, A⟩ Q := by
 obtain ⟨ta, tb, tc⟩ := w6g ht
 have hb := h.lt
 have ek : evT M.E (ev M.E g) g (.op3 11 a b c) s = if (ev M.E g a s).2.err ≠ 0 then (zV, (ev M.E g a s).2) else if (ev M.E g a s).1.k ≠ 0 then (zV, { (ev M.E g a s).2 with err := 13 }) else if (ev M.E g a s).1.n ≠ 0 then ev M.E g b (ev M.E g a s).2 else ev M.E g c (ev M.E g a s).2 := rfl
 rw [ek] at hk
 have hk1 := x9m hM.env g a s ta.1 hs
 have x1k := z1q (E := M.E) g a s
 refine j6x hM hD h hs ta hg ?_ ?_
 ·intro he n' A' hm hkp hn
  rw [if_pos he] at hk
  exact hk n' A' hm hkp hn
 ·intro he n1 A1 T' hm hkp hn hc1 t0 t1 t6 t7 t8
  rw [if_neg (by simpa using he)] at hk
  generalize hr : ev M.E g a s = r at *
  have j1d : A1 n1 = .cells 26 5 [[.int .i64 r.1.k, .int .i64 r.1.n, .str r.1.s, .int .i64 r.1.x, .int .i64 r.1.y]] := hc1
  have fin : ∀ {v : Vl} {s' : St} (hk : ∀ n' A', MS M n' A' s' → Keep M.b n A A' → n ≤ n' → q0d Cx fn (putA T dst (q1o v)) ds ro os k ⟨n', A'⟩ Q), ∀ n2 A2, MS M n2 A2 s' → Keep M.b (n1 + 1) A1 A2 → n1 + 1 ≤ n2 → A2 n = .cells 26 5 [[.int .i64 0, .int .i64 0, .str [], .int .i64 0, .int .i64 0]] ∧ ∀ X, q0d Cx fn (putA T dst (q1o v)) ds ro os k ⟨n2, upd A2 n X⟩ Q := by
   intro v s' hk n2 A2 hm4 q5p hn2
   have j1b := hkp.trans (by omega) q5p
   exact ⟨q0f hb j1b, fun X => q0r hb hm4 j1b (by omega) hk⟩
  by_cases k0 : r.1.k = 0
  ·have z1 : (r.1.k != 0) = false := by simp [k0]
   rw [if_neg (by simp [k0])] at hk
   by_cases n0 : r.1.n = 0
   ·have z2 : (r.1.n != 0) = false := by simp [n0]
    rw [if_neg (by simp [n0])] at hk
    simp only [t0, t1, t7, t8, j1d, y8j, z1, z2, r29_0, tt, bb, bc, ↓bd, Nat.reduceEqDiff, ↓reduceIte, reduceCtorEq]
    refine z0l hM hm tb ?_
    simp only [bb, bc, ↓bd, Nat.reduceEqDiff, ↓reduceIte]
    refine hD hm hk1.2 tc (Nat.le_trans x1k.left hg) ?_
    intro n2 A2 hm4 q5p hn2
    obtain ⟨hcz, hx⟩ := fin hk n2 A2 hm4 q5p hn2
    simp only [t6, hcz, x0m, tt, bb, bc, ↓bd, Nat.reduceEqDiff, Nat.reduceAdd, ↓reduceIte]
    exact hx _
   ·have z2 : (r.1.n != 0) = true := by simpa using n0
    rw [if_pos n0] at hk
    simp only [t0, t1, t7, t8, j1d, y8j, z1, z2, r29_0, tt, bb, bc, ↓bd, Nat.reduceEqDiff, ↓reduceIte, reduceCtorEq]
    refine hD hm hk1.2 tb (Nat.le_trans x1k.left hg) ?_
    intro n2 A2 hm4 q5p hn2
    obtain ⟨hcz, hx⟩ := fin hk n2 A2 hm4 q5p hn2
    simp only [t6, hcz, x0m, tt, bb, bc, ↓bd, Nat.reduceEqDiff, Nat.reduceAdd, ↓reduceIte]
    exact hx _
  ·have z1 : (r.1.k != 0) = true := by simpa using k0
   rw [if_pos k0] at hk
   simp only [t0, t1, t7, j1d, y8j, z1, r29_0, tt, bb, bc, ↓bd, Nat.reduceEqDiff, ↓reduceIte, reduceCtorEq]
   refine q1e hm ?_
   intro n2 A2 hm4 q5p hn2
   rw [z0m he] at hm4
   obtain ⟨hcz, hx⟩ := fin hk n2 A2 hm4 q5p hn2
   simp only [t6, hcz, x0m, tt, bb, bc, ↓bd, Nat.reduceEqDiff, Nat.reduceAdd, ↓reduceIte]
   exact hx _
end
def x1j (f : Ex → St → Vl × St) (op : Int) : List Ex → List Vl → St → Vl × St
 | [], vs, s => q1t (apR op vs s.out.length) s
 | t :: ts, vs, s => if (f t s).2.err ≠ 0 then (zV, (f t s).2) else x1j f op ts (vs ++ [(f t s).1]) (f t s).2
theorem x5t {E : Env} {f : Ex → St → Vl × St} {g : Nat} {t : Ex} {s : St} (hw : WF t) (h0 : q4o (opE t) = true) (h : opE t ≠ 11 ∧ opE t ≠ 28 ∧ opE t ≠ 29) : evT E f g t s = x1j f (opE t) (q7h t) [] s := by
 cases t with
 | lit v => cases h0
 | nam n => cases h0
 | op1 op a => rfl
 | op2 op a b =>
  have h' : op ≠ 11 ∧ op ≠ 28 ∧ op ≠ 29 := h
  show (if (f a s).2.err ≠ 0 then _ else if op = 29 then _ else if op = 28 then _ else _) = if (f a s).2.err ≠ 0 then _ else _
  rw [if_neg h'.2.2, if_neg h'.2.1]
  rfl
 | op3 op a b c =>
  have h' : op ≠ 11 ∧ op ≠ 28 ∧ op ≠ 29 := h
  show (if (f a s).2.err ≠ 0 then _ else if op = 11 then _ else _) = if (f a s).2.err ≠ 0 then _ else _
  rw [if_neg h'.1]
  rfl
theorem j0w {op : Int} (h : q4o op = true) : (q0e op == []) = false ∧ (q0e op == [105, 102]) = decide (op = 11) ∧ (q0e op == [101, 97, 99, 104]) = decide (op = 28) ∧ (q0e op == [108, 101, 116]) = decide (op = 29) ∧ (op == 0) = false := by
 have hb := q5z h
 have key : ∀ i : Fin 28, (q0e ((i.val : Int) + 2) == []) = false ∧ (q0e ((i.val : Int) + 2) == [105, 102]) = decide (((i.val : Int) + 2) = 11) ∧ (q0e ((i.val : Int) + 2) == [101, 97, 99, 104]) = decide (((i.val : Int) + 2) = 28) ∧ (q0e ((i.val : Int) + 2) == [108, 101, 116]) = decide (((i.val : Int) + 2) = 29) ∧ (((i.val : Int) + 2) == 0) = false := by decide
 have := key ⟨(op - 2).toNat, by omega⟩
 simp only at this
 rw [show (((op - 2).toNat : Nat) : Int) + 2 = op by omega] at this
 exact this
theorem vsl : x6x Cx 79 26 := ⟨_, y4n, rfl⟩
theorem vti : ∃ ti, Cx.TT 26 = some ti ∧ ti.size = 5 ∧ ti.bytes = 48 := ⟨_, y4h, rfl, rfl⟩
def AL (M : Mch) (m : Nat) (d : AV) (n : Nat) (A : Nat → Blk) (vs : List Vl) : Prop := (d = .nilS ∧ vs = []) ∨ ∃ g, d = .slc g 5 0 vs.length ∧ m ≤ g ∧ AS M g n A vs
theorem AL.keep {M : Mch} {m : Nat} {d : AV} {n n' : Nat} {A A' : Nat → Blk} {vs : List Vl} (h : AL M m d n A vs) (hn : n ≤ n') (hk : Keep M.b n A A') : AL M m d n' A' vs := by
 rcases h with h | ⟨g, h1, h2, h3⟩
 ·exact .inl h
 ·exact .inr ⟨g, h1, h2, h3.keep hn hk⟩
theorem AL.app1 {M : Mch} {m : Nat} {d : AV} {n : Nat} {A : Nat → Blk} {vs : List Vl} (h : AL M m d n A vs) (hmn : m ≤ n) (hbm : M.b < m) (v : Vl) (hl : vs.length ≤ 3) :
  ∃ A', q1n Cx ⟨n + 1, upd A n (q3o v)⟩ .append [79, 79] [d, .slc n 5 0 1] = some (.slc (n + 1) 5 0 (vs.length + 1), ⟨n + 1 + 1, A'⟩) ∧
   AL M m (.slc (n + 1) 5 0 (vs.length + 1)) (n + 1 + 1) A' (vs ++ [v]) ∧ (∀ c, c < n → (c < m ∨ x0z (A c)) → A' c = A c) := by
 rcases h with ⟨rfl, rfl⟩ | ⟨g, rfl, hg, h3⟩
 ·refine ⟨_, j6g vsl vti (by decide), .inr ⟨n + 1, by simp, by omega, by omega, by omega, by rw [q0b, if_pos rfl]; rfl⟩, fun c hc _ => ?_⟩
  rw [q0b, if_neg (by omega), q0b, if_neg (by omega)]
 ·have g1 := h3.lt
  have g2 := h3.cell
  have e := q8c (C := Cx) (g := g) (n := n) (A := A) (es := vs.map y8l) (row := [.int .i64 v.k, .int .i64 v.n, .str v.s, .int .i64 v.x, .int .i64 v.y]) vsl vti g2 (by omega) (by rw [List.length_map]; unfold q2o; omega) (by rw [List.length_map]; unfold q2o; omega)
  rw [List.length_map] at e
  refine ⟨_, e, .inr ⟨n + 1, by simp, by omega, by omega, by omega, by rw [q0b, if_pos rfl, List.map_append]; rfl⟩, fun c hc hp => ?_⟩
  have : c ≠ g := by
   rintro rfl
   rcases hp with hp | hp
   ·omega
   ·rw [g2] at hp; exact q3k hp
  rw [q0b, if_neg (by omega), q0b, if_neg this, q0b, if_neg (by omega)]
section
theorem y2u {M : Mch} {l : List Nd} {g : Nat} (hM : ML M l) (hD : DoC M l g) {n : Nat} {A : Nat → Blk} (hb : M.b < n) {op : Int} (hop : q4o op = true) (hop2 : op ≠ 11 ∧ op ≠ 28 ∧ op ≠ 29) {q : Nat} :
  ∀ (ts : List Ex) (p : Nat) (vs : List Vl) (s : St) (T' : Nat → AV) (n' : Nat) (A' : Nat → Blk) (d : AV), Kids l p ts q → MS M n' A' s → Sk s → s.err = 0 → s.left ≤ g → AL M (n + 1) d n' A' vs → (∀ v, v ∈ vs → okV v = true) → vs.length + ts.length = q1b op → Keep M.b (n + 1) (upd A n zB) A' → n + 1 ≤ n' →
   T' 0 = .ptr M.b 22 0 0 → T' 4 = .ptr n 5 0 0 → T' 6 = .str (q0e op) → T' 7 = d → T' 8 = .int .i64 (p : Int) → T' 83 = .int .i64 (q1b op : Int) → T' 84 = .int .i64 (vs.length : Int) →
   (∀ n' A', MS M n' A' (x1j (ev M.E g) op ts vs s).2 → Keep M.b n A A' → n ≤ n' → q0d Cx fn (putA T dst (q1o (x1j (ev M.E g) op ts vs s).1)) ds ro os k ⟨n', A'⟩ Q) →
   Run Cx 16 T' [] none [.inLoop c16_44, .inBlock 1, .code c16_64] ⟨n', A'⟩ (fun r H1 => q0d Cx fn (putA T dst r) ds ro os k H1 Q)
 | [], p, vs, s, T', n', A', d, hK, hm, hs, he, hg, ho, hok, hl, hkp, hn, t0, t4, t6, t7, t8, t83, t84, hk => by
  rw [run_inLoop]
  rw [List.length_nil, Nat.add_zero] at hl
  have c0 : ¬ (vs.length : Int) < (q1b op : Int) := by omega
  have hpp := q2j hop
  rcases ho with ⟨h1, h2⟩ | ⟨g', h1, h2, h3⟩
  ·subst h2; simp at hl; omega
  ·subst h1
   simp only [t0, t6, t83, t84, c0, xx, r16_0, tt, bb, bc, ↓bd, Nat.reduceEqDiff, ↓reduceIte, reduceCtorEq]
   refine x5n hop hop2 ?_
   simp only [t6, t7, List.cons_append, List.nil_append, List.append_nil, bb, bc, ↓bd, Nat.reduceEqDiff, ↓reduceIte]
   refine x1b hm he h3 hok hs.out hop hop2 hl.symm ?_
   intro n2 A2 hm2 q1k hn2
   have q1u := hkp.trans hn q1k
   have hcz := q0f hb q1u
   simp only [t4, hcz, j0k, tt, bb, bc, ↓bd, Nat.reduceEqDiff, Nat.reduceAdd, ↓reduceIte]
   exact q0r hb hm2 q1u (by omega) hk
 | t :: ts, p, vs, s, T', n', A', d, hK, hm, hs, he, hg, ho, hok, hl, hkp, hn, t0, t4, t6, t7, t8, t83, t84, hk => by
  rw [run_inLoop]
  rw [List.length_cons] at hl
  cases hK with
  | cons ht hK =>
   have hpp := q2j hop
   have c0 : (vs.length : Int) < (q1b op : Int) := by omega
   simp only [t0, t7, t8, t83, t84, c0, r16_0, tt, bb, bc, ↓bd, Nat.reduceEqDiff, ↓reduceIte, reduceCtorEq]
   refine hD hm hs ht hg ?_
   intro n2 A2 hm2 q1k hn2
   have hk2 := x9m hM.env g t s ht.1 hs
   have x1k := z1q (E := M.E) g t s
   have ek : x1j (ev M.E g) op (t :: ts) vs s = if (ev M.E g t s).2.err ≠ 0 then (zV, (ev M.E g t s).2) else x1j (ev M.E g) op ts (vs ++ [(ev M.E g t s).1]) (ev M.E g t s).2 := rfl
   rw [ek] at hk
   generalize hr : ev M.E g t s = r at *
   obtain ⟨A3, x1l, ho3, hkeep⟩ := (ho.keep hn2 q1k).app1 (by omega) (by omega) r.1 (by omega)
   have hm3 : MS M (n2 + 1 + 1) A3 r.2 := hm2.keep (by omega) fun c hc hp => hkeep c hc (by
    rcases hp with rfl | hp
    ·left; omega
    ·right; exact hp)
   have q1u : Keep M.b (n + 1) (upd A n zB) A3 := by
    intro c hc hcb hcp
    have := hkp.trans hn q1k
    rw [← this c hc hcb hcp]
    exact hkeep c (by omega) (.inl hc)
   obtain ⟨o, q1m⟩ := hm3.errCell
   have hcz := q0f hb q1u
   by_cases hre : r.2.err = 0
   ·rw [if_neg (by simpa using hre)] at hk
    have z1 : (r.2.err != 0) = false := by simp [hre]
    have w1 : IntKind.i64.wrap ((vs.length : Int) + 1) = ((vs.length + 1 : Nat) : Int) := by rw [wr64 (by omega) (by omega)]; omega
    simp only [t0, t8, x1l, q1m, z1, q0i, tt, bb, bc, ↓bd, Nat.reduceEqDiff, Nat.reduceAdd, Nat.reduceMul, Nat.reduceLeDiff, ↓reduceIte, reduceCtorEq, List.reduceReplicate]
    refine z0l hM hm3 ht ?_
    simp only [t84, w1, xx, tt, bb, ↓bd, Nat.reduceEqDiff, ↓reduceIte]
    have el : (vs ++ [r.1]).length = vs.length + 1 := by simp
    refine y2u hM hD hb hop hop2 ts (p + (q0o t).length) (vs ++ [r.1]) r.2 _ _ A3 (.slc (n2 + 1) 5 0 (vs.length + 1)) hK hm3 hk2.2 hre (Nat.le_trans x1k.left hg) ho3 ?_ (by rw [el]; omega) q1u (by omega) ?_ ?_ ?_ ?_ ?_ ?_ ?_ hk
    ·intro v hv
     rcases List.mem_append.mp hv with hv | hv
     ·exact hok v hv
     ·rw [List.mem_singleton.mp hv]; exact hk2.1
    all_goals simp only [q0b, t0, t4, t6, t83, el, Nat.reduceEqDiff, ↓reduceIte]
   ·rw [if_pos hre] at hk
    have z1 : (r.2.err != 0) = true := by simpa using hre
    simp only [t0, t4, x1l, q1m, hcz, z1, q0i, j0k, tt, bb, bc, ↓bd, Nat.reduceEqDiff, Nat.reduceAdd, Nat.reduceMul, Nat.reduceLeDiff, ↓reduceIte, reduceCtorEq, List.reduceReplicate]
    exact q0r hb hm3 q1u (by omega) hk
end
section
theorem y6w {M : Mch} {l : List Nd} {g : Nat} (hM : ML M l) (hD : DoC M l g) {n p : Nat} {A A2 : Nat → Blk} {s : St} {t : Ex} {T' : Nat → AV} (hb : M.b < n) (hm : MS M (n + 1 + 1) A2 s) (hs : Sk s) (he : s.err = 0) (hg : s.left ≤ g) (ht : Tree l p t) (hkp : Keep M.b (n + 1) (upd A n zB) A2)
  (hnd : A2 (n + 1) = .cells 60 6 [[.int .i64 (opE t), .int .i64 (q2t t).k, .int .i64 (q2t t).n, .str (q2t t).s, .int .i64 (q2t t).x, .int .i64 (q2t t).y]])
  (t0 : T' 0 = .ptr M.b 22 0 0) (t1 : T' 1 = .int .i64 (p : Int)) (t4 : T' 4 = .ptr n 5 0 0) (t5 : T' 5 = .ptr (n + 1) 6 0 0) (t6 : T' 6 = .str (q0e (opE t)))
  (hk : ∀ n' A', MS M n' A' (evT M.E (ev M.E g) g t s).2 → Keep M.b n A A' → n ≤ n' → q0d Cx fn (putA T dst (q1o (evT M.E (ev M.E g) g t s).1)) ds ro os k ⟨n', A'⟩ Q) :
  Run Cx 16 T' [] none [.code c16_14] ⟨n + 1 + 1, A2⟩ (fun r H1 => q0d Cx fn (putA T dst r) ds ro os k H1 Q) := by
 have hcz := q0f hb hkp
 have hll := hM.len
 have hlt := ht.lt
 have fin : ∀ {v : Vl} {s' : St} (hk : ∀ n' A', MS M n' A' s' → Keep M.b n A A' → n ≤ n' → q0d Cx fn (putA T dst (q1o v)) ds ro os k ⟨n', A'⟩ Q), ∀ n2 A3, MS M n2 A3 s' → Keep M.b (n + 1 + 1) A2 A3 → n + 1 + 1 ≤ n2 → A3 n = .cells 26 5 [[.int .i64 0, .int .i64 0, .str [], .int .i64 0, .int .i64 0]] ∧ ∀ X, q0d Cx fn (putA T dst (q1o v)) ds ro os k ⟨n2, upd A3 n X⟩ Q := by
  intro v s' hk n2 A3 hm4 q5p hn2
  have j1b := hkp.trans (by omega) q5p
  exact ⟨q0f hb j1b, fun X => q0r hb hm4 j1b (by omega) hk⟩
 have scopd : ∀ (hio : q4o (opE t) = true) (h : opE t = 11 ∨ opE t = 28 ∨ opE t = 29), (∀ {fn : FuncId} {T1 : Nat → AV} {k : List AItem} {Q : AV → AHeap → Prop} {dst : Option Nat} {os : List AO}, (∀ n' A', MS M n' A' (evT M.E (ev M.E g) g t s).2 → Keep M.b (n + 1 + 1) A2 A' → n + 1 + 1 ≤ n' → q0d Cx fn (putA T1 dst (q1o (evT M.E (ev M.E g) g t s).1)) [] none os k ⟨n', A'⟩ Q) → q0g Cx fn T1 [] none 29 [.ptr M.b 22 0 0, .str (q0e (opE t)), .int .i64 (p : Int)] dst os k ⟨n + 1 + 1, A2⟩ Q) → Run Cx 16 T' [] none [.code c16_14] ⟨n + 1 + 1, A2⟩ (fun r H1 => q0d Cx fn (putA T dst r) ds ro os k H1 Q) := by
  intro hio h hsc
  obtain ⟨q1, q2, q3, q4, q5⟩ := j0w hio
  rcases h with h | h | h
  ·have d1 : decide (opE t = 11) = true := by simp [h]
   rw [d1] at q2
   simp only [t0, t1, t5, t6, hnd, q1, q2, q5, r16_0, tt, bb, bc, ↓bd, Nat.reduceEqDiff, ↓reduceIte, reduceCtorEq]
   refine hsc ?_
   intro n2 A3 hm4 q5p hn2
   obtain ⟨hc, hx⟩ := fin hk n2 A3 hm4 q5p hn2
   simp only [t4, hc, j0k, tt, bb, bc, ↓bd, Nat.reduceEqDiff, Nat.reduceAdd, ↓reduceIte]
   exact hx _
  ·have d1 : decide (opE t = 11) = false := by simp [h]
   have d2 : decide (opE t = 28) = true := by simp [h]
   rw [d1] at q2
   rw [d2] at q3
   simp only [t0, t1, t5, t6, hnd, q1, q2, q3, q5, r16_0, tt, bb, bc, ↓bd, Nat.reduceEqDiff, ↓reduceIte, reduceCtorEq]
   refine hsc ?_
   intro n2 A3 hm4 q5p hn2
   obtain ⟨hc, hx⟩ := fin hk n2 A3 hm4 q5p hn2
   simp only [t4, hc, j0k, tt, bb, bc, ↓bd, Nat.reduceEqDiff, Nat.reduceAdd, ↓reduceIte]
   exact hx _
  ·have d1 : decide (opE t = 11) = false := by simp [h]
   have d2 : decide (opE t = 28) = false := by simp [h]
   have d3 : decide (opE t = 29) = true := by simp [h]
   rw [d1] at q2
   rw [d2] at q3
   rw [d3] at q4
   simp only [t0, t1, t5, t6, hnd, q1, q2, q3, q4, q5, r16_0, tt, bb, bc, ↓bd, Nat.reduceEqDiff, ↓reduceIte, reduceCtorEq]
   refine hsc ?_
   intro n2 A3 hm4 q5p hn2
   obtain ⟨hc, hx⟩ := fin hk n2 A3 hm4 q5p hn2
   simp only [t4, hc, j0k, tt, bb, bc, ↓bd, Nat.reduceEqDiff, Nat.reduceAdd, ↓reduceIte]
   exact hx _
 have plain : ∀ (hio : q4o (opE t) = true) (h : opE t ≠ 11 ∧ opE t ≠ 28 ∧ opE t ≠ 29), Run Cx 16 T' [] none [.code c16_14] ⟨n + 1 + 1, A2⟩ (fun r H1 => q0d Cx fn (putA T dst r) ds ro os k H1 Q) := by
  intro hio h
  obtain ⟨q1, q2, q3, q4, q5⟩ := j0w hio
  rw [x5t ht.1 hio h] at hk
  have d1 : decide (opE t = 11) = false := by simp [h.1]
  have d2 : decide (opE t = 28) = false := by simp [h.2.1]
  have d3 : decide (opE t = 29) = false := by simp [h.2.2]
  rw [d1] at q2
  rw [d2] at q3
  rw [d3] at q4
  have w1 : IntKind.i64.wrap ((p : Int) + 1) = ((p + 1 : Nat) : Int) := by rw [wr64 (by omega) (by omega)]; omega
  have p0 : (0 : Int) ≤ (p : Int) := by omega
  have p2 : (p : Int) < ((q3l l).length : Int) := by rw [q3y]; omega
  have y8o : (q3l l)[p]? = some [.str (q0e (opE t)), .int .i64 (q1b (opE t) : Int), .int .i64 ((p + (q0o t).length : Nat) : Int)] := q6s ht
  obtain ⟨o, q1m⟩ := hm.errCell
  have hF := hM.F
  simp only [t0, t1, t5, t6, hnd, q1m, hF, p0, p2, y8o, q1, q2, q3, q4, q5, w1, Int.toNat_natCast, xx, r16_0.2.2.1, r16_0.2.2.2.1, tt, bb, ↓bd, Nat.reduceEqDiff, ↓reduceIte, reduceCtorEq]
  refine y2u hM hD hb hio h (q7h t) (p + 1) [] s _ _ A2 .nilS ht.kids.1 hm hs he hg (.inl ⟨rfl, rfl⟩) (fun v hv => by cases hv) (by rw [List.length_nil, Nat.zero_add, (q9c ht.1).1]) hkp (by omega) ?_ ?_ ?_ ?_ ?_ ?_ ?_ hk
  all_goals simp only [q0b, t0, t4, t6, Nat.reduceEqDiff, ↓reduceIte]
  rfl
 cases t with
 | lit v =>
  have z0 : ((0 : Int) == 0) = true := rfl
  have y8b : A2 (n + 1) = .cells 60 6 [[.int .i64 0, .int .i64 v.k, .int .i64 v.n, .str v.s, .int .i64 v.x, .int .i64 v.y]] := hnd
  simp only [t4, t5, y8b, hcz, z0, r16_0, j0k, tt, bb, bc, ↓bd, Nat.reduceEqDiff, Nat.reduceAdd, ↓reduceIte]
  exact q0r hb hm hkp (by omega) hk
 | nam j =>
  have z0 : ((1 : Int) == 0) = false := rfl
  have z1 : (q0e (opE (.nam j)) == []) = true := rfl
  have hj : 0 ≤ j ∧ j < 5 := ht.1
  have y8b : A2 (n + 1) = .cells 60 6 [[.int .i64 1, .int .i64 0, .int .i64 j, .str [], .int .i64 0, .int .i64 0]] := hnd
  simp only [t0, t5, t6, y8b, z0, z1, r16_0, tt, bb, bc, ↓bd, Nat.reduceEqDiff, Nat.reduceAdd, ↓reduceIte, reduceCtorEq]
  refine x1a hm hj ?_
  intro n2 A3 hm4 q5p hn2
  obtain ⟨hc, hx⟩ := fin hk n2 A3 hm4 q5p hn2
  simp only [t4, hc, j0k, tt, bb, bc, ↓bd, Nat.reduceEqDiff, Nat.reduceAdd, ↓reduceIte]
  exact hx _
 | op1 op a =>
  have hio : q4o op = true := ht.1.1.1
  have hpp : q1b op = 1 := ht.1.1.2
  refine plain hio ⟨?_, ?_, ?_⟩ <;> · intro e; rw [show op = _ from e] at hpp; cases hpp
 | op2 op a b =>
  have hio : q4o op = true := ht.1.1.1
  have hpp : q1b op = 2 := ht.1.1.2
  by_cases h28 : op = 28
  ·subst h28
   exact scopd hio (.inr (.inl rfl)) fun hk => y6v hM hD hm hs ht hg hk
  ·by_cases h29 : op = 29
   ·subst h29
    exact scopd hio (.inr (.inr rfl)) fun hk => w6h hM hD hm hs ht hg hk
   ·exact plain hio ⟨fun e => (by rw [show op = _ from e] at hpp; cases hpp), h28, h29⟩
 | op3 op a b c =>
  have hio : q4o op = true := ht.1.1.1
  have hpp : q1b op = 3 := ht.1.1.2
  by_cases h11 : op = 11
  ·subst h11
   exact scopd hio (.inl rfl) fun hk => v0p hM hD hm hs ht hg hk
  ·refine plain hio ⟨h11, ?_, ?_⟩ <;> · intro e; rw [show op = _ from e] at hpp; cases hpp
theorem x5u {M : Mch} {l : List Nd} {g g' : Nat} (hM : ML M l) (hD : ∀ g1, g = g1 + 1 → DoC M l g1) (hgb : g ≤ 1000000) {n p : Nat} {A : Nat → Blk} {s : St} {t : Ex} (h : MS M n A s) (hs : Sk s) (ht : Tree l p t) (hg : s.left ≤ g)
  (hk : ∀ n' A', MS M n' A' (ev M.E g t s).2 → Keep M.b n A A' → n ≤ n' → q0d Cx fn (putA T dst (q1o (ev M.E g t s).1)) ds ro os k ⟨n', A'⟩ Q) :
  q0g Cx fn T ds ro 16 [.ptr M.b 22 0 0, .int .i64 (p : Int)] dst os k ⟨n, A⟩ Q := by
 refine q0s w0c (q0l _) w0b ?_
 have hb := h.lt
 have hll := hM.len
 have hlt := ht.lt
 obtain ⟨o, q1m⟩ := h.errCell
 have e1 : (M.b = n) = False := eq_false (by omega)
 have e2 : (n = M.b) = False := eq_false (by omega)
 have h2 := h.up1 zB
 have bad : ∀ (hr : ev M.E g t s = (zV, q1f 15 s)), ∀ n' A', MS M n' A' (q1f 15 s) → Keep M.b (n + 1) (upd A n zB) A' → n + 1 ≤ n' → A' n = .cells 26 5 [[.int .i64 0, .int .i64 0, .str [], .int .i64 0, .int .i64 0]] ∧ ∀ X, q0d Cx fn (putA T dst (q1o zV)) ds ro os k ⟨n', upd A' n X⟩ Q := by
  intro hr n' A' hm hkp hn
  rw [hr] at hk
  exact ⟨q0f hb hkp, fun X => q0r hb hm hkp hn hk⟩
 by_cases he : s.err = 0
 ·have z1 : (s.err != 0) = false := by simp [he]
  by_cases h0 : s.left = 0
  ·have z2 : ((s.left : Int) == 0) = true := by simp [h0]
   simp only [q1m, z1, z2, e1, r16_0, tt, bb, bc, ↓bd, Nat.reduceEqDiff, ↓reduceIte, reduceCtorEq]
   refine q1e h2 ?_
   intro n' A' hm hkp hn
   obtain ⟨hc, hx⟩ := bad (by rw [q7g he h0, z0m he]) n' A' hm hkp hn
   simp only [hc, j0k, tt, bb, bc, ↓bd, Nat.reduceEqDiff, Nat.reduceAdd, ↓reduceIte]
   exact hx _
  ·obtain ⟨g1, rfl⟩ : ∃ g1, g = g1 + 1 := ⟨g - 1, by omega⟩
   have hL := hM.L
   have hF := hM.F
   obtain ⟨j7g, hnd⟩ := ht.kids
   have g0 : (l.map q2w)[p]? = some [.int .i64 (opE t), .int .i64 (q2t t).k, .int .i64 (q2t t).n, .str (q2t t).s, .int .i64 (q2t t).x, .int .i64 (q2t t).y] := by rw [List.getElem?_map, hnd]; rfl
   have p0 : (0 : Int) ≤ (p : Int) := by omega
   have p1 : (p : Int) < ((l.map q2w).length : Int) := by rw [List.length_map]; omega
   have p2 : (p : Int) < ((q3l l).length : Int) := by rw [q3y]; omega
   have y8o : (q3l l)[p]? = some [.str (q0e (opE t)), .int .i64 (q1b (opE t) : Int), .int .i64 ((p + (q0o t).length : Nat) : Int)] := q6s ht
   have z2 : ((s.left : Int) == 0) = false := by simp; omega
   have w1 : IntKind.i64.wrap ((s.left : Int) - 1) = ((s.left - 1 : Nat) : Int) := by rw [wr64 (by omega) (by omega)]; omega
   have uu : ∀ (A : Nat → Blk) (c : Nat) (X Y : Blk), upd (upd A c X) c Y = upd A c Y := fun A c X Y => z4l A c X Y
   simp only [q1m, z1, z2, e1, w1, uu, hL, hF, p0, p1, p2, g0, y8o, Int.toNat_natCast, q4f, q8u, z0d, r16_0.1, r16_0.2.1, tt, bb, ↓bd, Nat.reduceEqDiff, Nat.reduceAdd, Nat.reduceLeDiff, ↓reduceIte, reduceCtorEq]
   rw [q5m he h0] at hk
   have hm3 := h2.setI (o := o) (by rw [q0b, if_neg (by omega)]; exact q1m) { s with left := s.left - 1 } rfl
   refine ⟨by rw [show (M.b != n + 1) = true from bne_iff_ne.mpr (by omega)]; rfl, ?_⟩
   have hm4 := hm3.up1 (.cells 60 6 [[.int .i64 (opE t), .int .i64 (q2t t).k, .int .i64 (q2t t).n, .str (q2t t).s, .int .i64 (q2t t).x, .int .i64 (q2t t).y]])
   have q5p := (((Keep.refl M.b (n + 1) (upd A n zB)).set (.cells 58 22 [[M.L, M.F, .str M.E.key, .int .i64 M.E.val.k, .int .i64 M.E.val.n, .str M.E.val.s, .int .i64 M.E.val.x, .int .i64 M.E.val.y, .int .i64 M.E.acc.k, .int .i64 M.E.acc.n, .str M.E.acc.s, .int .i64 M.E.acc.x, .int .i64 M.E.acc.y, .int .i64 s.i, .int .i64 s.it.k, .int .i64 s.it.n, .str s.it.s, .int .i64 s.it.x, .int .i64 s.it.y, o, .int .i64 ((s.left - 1 : Nat) : Int), .int .i64 s.err]])).up1 (Nat.le_refl _) (.cells 60 6 [[.int .i64 (opE t), .int .i64 (q2t t).k, .int .i64 (q2t t).n, .str (q2t t).s, .int .i64 (q2t t).x, .int .i64 (q2t t).y]]))
   have hs4 : Sk { s with left := s.left - 1 } := ⟨hs.it, hs.i0, hs.i1, hs.out, hs.outs⟩
   rw [hL, hF] at hm4 q5p
   refine y6w hM (hD g1 rfl) hb hm4 hs4 he (by show s.left - 1 ≤ g1; omega) ht q5p (by rw [q0b, if_pos rfl]) ?_ ?_ ?_ ?_ ?_ hk
   all_goals simp only [q0b, q1g, qez, Nat.reduceEqDiff, ↓reduceIte]
 ·have z1 : (s.err != 0) = true := by simpa using he
  simp only [q1m, z1, e1, r16_0, tt, bb, bc, ↓bd, Nat.reduceEqDiff, ↓reduceIte, reduceCtorEq]
  refine q1e h2 ?_
  intro n' A' hm hkp hn
  obtain ⟨hc, hx⟩ := bad (by rw [q6r he]; unfold q1f; rw [if_neg he]) n' A' hm hkp hn
  simp only [hc, j0k, tt, bb, bc, ↓bd, Nat.reduceEqDiff, Nat.reduceAdd, ↓reduceIte]
  exact hx _
end
theorem w6i {M : Mch} {l : List Nd} (hM : ML M l) : ∀ g, g ≤ 1000000 → DoC M l g := by
 intro g
 induction g with
 | zero =>
  intro _
  unfold DoC
  intro fn T ds ro k Q dst os n p A s t h hs ht hg hk
  exact x5u (g' := 0) hM (fun g1 e => by cases e) (by omega) h hs ht hg hk
 | succ g ih =>
  intro hgb
  unfold DoC
  intro fn T ds ro k Q dst os n p A s t h hs ht hg hk
  exact x5u (g' := 0) hM (fun g1 e => by cases e; exact ih (by omega)) hgb h hs ht hg hk
abbrev j4i (E : Env) : AV := .agg [.str E.key, .int .i64 E.val.k, .int .i64 E.val.n, .str E.val.s, .int .i64 E.val.x, .int .i64 E.val.y, .int .i64 E.acc.k, .int .i64 E.acc.n, .str E.acc.s, .int .i64 E.acc.x, .int .i64 E.acc.y]
abbrev x7d (v : Vl) (d : AV) (left : Nat) : AV := .agg [.int .i64 v.k, .int .i64 v.n, .str v.s, .int .i64 v.x, .int .i64 v.y, d, .int .i64 (left : Int)]
def q7i (l : List Nd) (E : Env) (f : Int) : Bool := q2z l && (decide (E.key.length ≤ 4096) && (okV E.val && (okV E.acc && (decide (0 ≤ f) && decide (f ≤ 100000)))))
def OutV (d : AV) (l : List Pr) : Prop := (d = .nilS ∧ l = []) ∨ d = .vec 6 (l.map x8x)
def q2b (t : Ex) (E : Env) (f : Nat) : Vl × St := ev E f t ⟨0, zV, [], f, 0⟩
theorem y6x {v : AV} {l : List Nd} (hv : InN v l) (hn : x9q l) (hl : l.length ≤ 1000000) {E : Env} {f : Int} (h : q7i l E f = false) : q0k Cx 7 [v, j4i E, .int .i64 f] (.tuple [x7d zV .nilS 0, .int .i64 1]) := by
 refine q0c (q0l _) y4p ?_
 have hr := j4d hv hn hl
 have f0 : [v].all AV.flat = true := by simp [hv.flat]
 have r1 := Right_ok E.val.k E.val.n E.val.s E.val.x E.val.y
 have r2 := Right_ok E.acc.k E.acc.n E.acc.s E.acc.x E.acc.y
 have eo1 : q1j E.val.k E.val.n E.val.s E.val.x E.val.y = okV E.val := rfl
 have eo2 : q1j E.acc.k E.acc.n E.acc.s E.acc.x E.acc.y = okV E.acc := rfl
 rw [eo1] at r1
 rw [eo2] at r2
 unfold q7i at h
 rcases hv with ⟨rfl, rfl⟩ | rfl
 ·have h1 : q2z [] = false := rfl
  rw [h1] at hr
  simp only [q0a z1f f0 hr, r7_0, x8p, tt, bb, bc, ↓bd, Nat.reduceEqDiff, Nat.reduceAdd, ↓reduceIte, reduceCtorEq]
  rfl
 ·cases h1 : q2z l with
  | false =>
   rw [h1] at hr
   simp only [q0a z1f f0 hr, r7_0, x8p, tt, bb, bc, ↓bd, Nat.reduceEqDiff, Nat.reduceAdd, ↓reduceIte, reduceCtorEq]
   rfl
  | true =>
   rw [h1] at hr h
   by_cases h2 : E.key.length ≤ 4096
   ·have c2 : ¬ (4096 : Int) < (E.key.length : Int) := by omega
    have d2 : decide (E.key.length ≤ 4096) = true := by simpa using h2
    rw [d2] at h
    cases h3 : okV E.val with
    | false =>
     rw [h3] at r1
     simp only [c2, q0a z1f f0 hr, q0a q2p rfl r1, i64, r7_0, x8p, tt, bb, bc, ↓bd, Nat.reduceEqDiff, Nat.reduceAdd, Nat.reduceLeDiff, ↓reduceIte, reduceCtorEq]
     rfl
    | true =>
     rw [h3] at r1 h
     cases h4 : okV E.acc with
     | false =>
      rw [h4] at r2
      simp only [c2, q0a z1f f0 hr, q0a q2p rfl r1, q0a q2p rfl r2, i64, r7_0, x8p, tt, bb, bc, ↓bd, Nat.reduceEqDiff, Nat.reduceAdd, Nat.reduceLeDiff, ↓reduceIte, reduceCtorEq]
      rfl
     | true =>
      rw [h4] at r2 h
      by_cases h5 : f < 0
      ·simp only [c2, h5, q0a z1f f0 hr, q0a q2p rfl r1, q0a q2p rfl r2, i64, r7_0, x8p, tt, bb, bc, ↓bd, Nat.reduceEqDiff, Nat.reduceAdd, Nat.reduceLeDiff, ↓reduceIte, reduceCtorEq]
       rfl
      ·have d5 : decide (0 ≤ f) = true := by simp; omega
       rw [d5] at h
       have h6 : (100000 : Int) < f := by
        simp only [Bool.true_and, decide_eq_false_iff_not] at h
        omega
       simp only [c2, h5, h6, q0a z1f f0 hr, q0a q2p rfl r1, q0a q2p rfl r2, i64, r7_0, x8p, tt, bb, bc, ↓bd, Nat.reduceEqDiff, Nat.reduceAdd, Nat.reduceLeDiff, ↓reduceIte, reduceCtorEq]
       rfl
   ·have c2 : (4096 : Int) < (E.key.length : Int) := by omega
    simp only [c2, q0a z1f f0 hr, i64, r7_0, x8p, tt, bb, bc, ↓bd, Nat.reduceEqDiff, Nat.reduceAdd, ↓reduceIte, reduceCtorEq]
    rfl
theorem q6t {l : List Nd} {E : Env} {f : Int} (h : q7i l E f = true) : q2z l = true ∧ Ek E ∧ 0 ≤ f ∧ f ≤ 100000 := by
 unfold q7i at h
 simp only [Bool.and_eq_true, decide_eq_true_eq] at h
 exact ⟨h.1, ⟨h.2.1, h.2.2.1, h.2.2.2.1⟩, h.2.2.2.2.1, h.2.2.2.2.2⟩
abbrev v0q : Blk := .cells 33 7 [[.int .i64 0, .int .i64 0, .str [], .int .i64 0, .int .i64 0, .nilS, .int .i64 0]]
abbrev w8n (E : Env) : Blk := .cells 28 11 [[.str E.key, .int .i64 E.val.k, .int .i64 E.val.n, .str E.val.s, .int .i64 E.val.x, .int .i64 E.val.y, .int .i64 E.acc.k, .int .i64 E.acc.n, .str E.acc.s, .int .i64 E.acc.x, .int .i64 E.acc.y]]
noncomputable abbrev mchB (l : List Nd) (E : Env) (f : Nat) : Blk := .cells 58 22 [[.vec 6 (l.map q2w), .vec 3 (q3l l), .str E.key, .int .i64 E.val.k, .int .i64 E.val.n, .str E.val.s, .int .i64 E.val.x, .int .i64 E.val.y, .int .i64 E.acc.k, .int .i64 E.acc.n, .str E.acc.s, .int .i64 E.acc.x, .int .i64 E.acc.y, .int .i64 0, .int .i64 0, .int .i64 0, .str [], .int .i64 0, .int .i64 0, .nilS, .int .i64 (f : Int), .int .i64 0]]
theorem Ow.out {d : AV} {n : Nat} {A : Nat → Blk} {l : List Pr} (h : Ow d n A l) : ∃ w, OutV w l ∧ q1h ⟨n, A⟩ 4 d = some w := by
 rcases h with ⟨rfl, rfl⟩ | ⟨g, rfl, hg, hA⟩
 ·exact ⟨.nilS, .inl ⟨rfl, rfl⟩, rfl⟩
 ·refine ⟨.vec 6 (l.map x8x), .inr rfl, ?_⟩
  have he : elems ⟨n, A⟩ 6 (.slc g 6 0 l.length) = some (l.map x8x) := by
   unfold elems
   simp only [hA]
   rw [if_pos ⟨trivial, trivial, by simp⟩, List.drop_zero, List.take_of_length_le (by simp)]
  rw [q5h, he, q5i]
  have : ∀ (dd : Nat) (l : List Pr), q3u (q3u (q1h ⟨n, A⟩ dd)) (l.map x8x) = some (l.map x8x) := by
   intro dd l
   induction l with
   | nil => rfl
   | cons p l ih =>
    rw [List.map_cons, q4m, ih]
    have : q3u (q1h ⟨n, A⟩ dd) (x8x p) = some (x8x p) := q4w (p := AV.flat1) (fun v hv => q3d hv) rfl
    rw [this]; rfl
  rw [this]; rfl
section
variable {T : Nat → AV} {Q : AV → AHeap → Prop}
theorem j9a {l : List Nd} {t : Ex} (hll : l.length ≤ 400) {E : Env} (hE : Ek E) {f : Nat} (hf : f ≤ 100000) (ht : Tree l 0 t) (t6 : T 6 = .ptr 1 7 0 0) (t8 : T 8 = .ptr 2 22 0 0)
  (hk : ∀ n A, MS ⟨.vec 6 (l.map q2w), .vec 3 (q3l l), E, 2⟩ n A (q2b t E f).2 → A 1 = v0q → 3 ≤ n → q0d Cx 7 (putA T (some 48) (q1o (q2b t E f).1)) [] none [oA 9 (.alloc 26) 0, oN (.store 26 (tm 9) (tm 48)) 0] [.code c7_14] ⟨n, A⟩ Q) :
  q0g Cx 7 T [] none 16 [.ptr 2 22 0 0, .int .i64 0] (some 48) [oA 9 (.alloc 26) 0, oN (.store 26 (tm 9) (tm 48)) 0] [.code c7_14] ⟨3, upd (upd (upd (fun _ => Blk.dead) 0 (w8n E)) 1 v0q) 2 (mchB l E f)⟩ Q := by
 have hM : ML ⟨.vec 6 (l.map q2w), .vec 3 (q3l l), E, 2⟩ l := ⟨rfl, rfl, hll, hE⟩
 have hm : MS ⟨.vec 6 (l.map q2w), .vec 3 (q3l l), E, 2⟩ 3 (upd (upd (upd (fun _ => Blk.dead) 0 (w8n E)) 1 v0q) 2 (mchB l E f)) ⟨0, zV, [], f, 0⟩ := ⟨by show 2 < 3; omega, .nilS, by rw [q0b, if_pos rfl], .inl ⟨rfl, rfl⟩⟩
 refine w6i hM f (by omega) (p := 0) (s := ⟨0, zV, [], f, 0⟩) hm ⟨rfl, Int.le_refl _, by show (0 : Int) ≤ 9007199254740992; omega, by show 0 ≤ 64; omega, fun p hp => by cases hp⟩ ht (Nat.le_refl _) ?_
 intro n' A' hm' hkp hn
 refine hk n' A' hm' ?_ hn
 exact q6f hkp (by rw [q0b, if_neg (by decide), q0b, if_pos rfl]) (by omega) (by show 1 ≠ 2; omega) (by decide)
end
theorem j9b {l : List Nd} {t : Ex} (hn : x9q l) {E : Env} {f : Nat} (h : q7i l E f = true) (hw : WF t) (e : l = q0o t) :
  (∀ (he : (q2b t E f).2.err = 0), ∃ d, OutV d (q2b t E f).2.out ∧ q0k Cx 7 [.vec 6 (l.map q2w), j4i E, .int .i64 (f : Int)] (.tuple [x7d (q2b t E f).1 d (q2b t E f).2.left, .int .i64 0])) ∧
  ((q2b t E f).2.err ≠ 0 → q0k Cx 7 [.vec 6 (l.map q2w), j4i E, .int .i64 (f : Int)] (.tuple [x7d zV .nilS 0, .int .i64 (q2b t E f).2.err])) := by
 obtain ⟨hr0, hE, hf0, hf1⟩ := q6t h
 have hll := (right_iff.mp hr0).1
 have hr := j4d (v := .vec 6 (l.map q2w)) (.inr rfl) hn (by omega)
 rw [hr0] at hr
 have r1 := Right_ok E.val.k E.val.n E.val.s E.val.x E.val.y
 have r2 := Right_ok E.acc.k E.acc.n E.acc.s E.acc.x E.acc.y
 have eo1 : q1j E.val.k E.val.n E.val.s E.val.x E.val.y = true := hE.val
 have eo2 : q1j E.acc.k E.acc.n E.acc.s E.acc.x E.acc.y = true := hE.acc
 rw [eo1] at r1
 rw [eo2] at r2
 have hfo := x9v hll hw e
 have c2 : ¬ (4096 : Int) < (E.key.length : Int) := by have := hE.key; omega
 have c5 : ¬ (f : Int) < 0 := by omega
 have c6 : ¬ (100000 : Int) < (f : Int) := by omega
 have ht : Tree l 0 t := ⟨hw, [], by rw [List.drop_zero, e, List.append_nil]⟩
 constructor
 ·intro he
  obtain ⟨r, ⟨d, hd, rfl⟩, hp⟩ := j0r (f := 7) (args := [.vec 6 (l.map q2w), j4i E, .int .i64 (f : Int)]) (P := fun r => ∃ d, OutV d (q2b t E f).2.out ∧ r = .tuple [x7d (q2b t E f).1 d (q2b t E f).2.left, .int .i64 0]) (q0l _) y4p (by
   simp only [c2, c5, c6, q0a z1f rfl hr, q0a q2p rfl r1, q0a q2p rfl r2, q0a y1i rfl hfo, i64, r7_0, tt, bb, bc, ↓bd, Nat.reduceEqDiff, Nat.reduceAdd, Nat.reduceLeDiff, ↓reduceIte, reduceCtorEq]
   refine j9a hll hE (by omega) ht rfl rfl ?_
   intro n A hm h1 hn3
   obtain ⟨hb, o, q1m, ho⟩ := hm
   have hpl := ho.plain
   simp only [AV.plain] at hpl
   have hcs := ho.cells
   simp only [AV.cells] at hcs
   have hc1 : A 1 = .cells 33 7 [[.int .i64 0, .int .i64 0, .str [], .int .i64 0, .int .i64 0, .nilS, .int .i64 0]] := h1
   have e1 : (2 = n) = False := eq_false (by omega)
   have e2 : (1 = n) = False := eq_false (by omega)
   have z9k : A 2 = .cells 58 22 [[.vec 6 (l.map q2w), .vec 3 (q3l l), .str E.key, .int .i64 E.val.k, .int .i64 E.val.n, .str E.val.s, .int .i64 E.val.x, .int .i64 E.val.y, .int .i64 E.acc.k, .int .i64 E.acc.n, .str E.acc.s, .int .i64 E.acc.x, .int .i64 E.acc.y, .int .i64 (q2b t E f).2.i, .int .i64 (q2b t E f).2.it.k, .int .i64 (q2b t E f).2.it.n, .str (q2b t E f).2.it.s, .int .i64 (q2b t E f).2.it.x, .int .i64 (q2b t E f).2.it.y, o, .int .i64 ((q2b t E f).2.left : Int), .int .i64 (q2b t E f).2.err]] := q1m
   have z1 : ((q2b t E f).2.err != 0) = false := by simp [he]
   have uu : ∀ (A : Nat → Blk) (c : Nat) (X Y : Blk), upd (upd A c X) c Y = upd A c Y := fun A c X Y => z4l A c X Y
   simp only [z9k, hc1, e1, e2, z1, uu, hpl, hcs, r7_0, x8p, tt, bb, bc, ↓bd, Nat.reduceEqDiff, Nat.reduceAdd, Nat.reduceLeDiff, ↓reduceIte]
   have ho' := ho.keep (n' := n + 1) (A' := upd (upd A n (q3o (q2b t E f).1)) 1 (.cells 33 7 [[.int .i64 (q2b t E f).1.k, .int .i64 (q2b t E f).1.n, .str (q2b t E f).1.s, .int .i64 (q2b t E f).1.x, .int .i64 (q2b t E f).1.y, o, .int .i64 ((q2b t E f).2.left : Int)]])) (by omega) fun z hz hp => by
    have : z ≠ 1 := by rintro rfl; rw [hc1] at hp; cases hp
    rw [q0b, if_neg this, q0b, if_neg (by omega)]
   obtain ⟨w, hw, hfz⟩ := ho'.out
   refine ⟨_, ⟨w, hw, rfl⟩, ?_⟩
   rw [hfz]
   rfl)
  exact ⟨d, hd, hp⟩
 ·intro he
  refine q0c (q0l _) y4p ?_
  simp only [c2, c5, c6, q0a z1f rfl hr, q0a q2p rfl r1, q0a q2p rfl r2, q0a y1i rfl hfo, i64, r7_0, tt, bb, bc, ↓bd, Nat.reduceEqDiff, Nat.reduceAdd, Nat.reduceLeDiff, ↓reduceIte, reduceCtorEq]
  refine j9a hll hE (by omega) ht rfl rfl ?_
  intro n A hm h1 hn3
  obtain ⟨o, q1m⟩ := hm.errCell
  have hc1 : A 1 = .cells 33 7 [[.int .i64 0, .int .i64 0, .str [], .int .i64 0, .int .i64 0, .nilS, .int .i64 0]] := h1
  have e1 : (2 = n) = False := eq_false (by omega)
  have e2 : (1 = n) = False := eq_false (by omega)
  have z9k : A 2 = .cells 58 22 [[.vec 6 (l.map q2w), .vec 3 (q3l l), .str E.key, .int .i64 E.val.k, .int .i64 E.val.n, .str E.val.s, .int .i64 E.val.x, .int .i64 E.val.y, .int .i64 E.acc.k, .int .i64 E.acc.n, .str E.acc.s, .int .i64 E.acc.x, .int .i64 E.acc.y, .int .i64 (q2b t E f).2.i, .int .i64 (q2b t E f).2.it.k, .int .i64 (q2b t E f).2.it.n, .str (q2b t E f).2.it.s, .int .i64 (q2b t E f).2.it.x, .int .i64 (q2b t E f).2.it.y, o, .int .i64 ((q2b t E f).2.left : Int), .int .i64 (q2b t E f).2.err]] := q1m
  have z1 : ((q2b t E f).2.err != 0) = true := by simpa using he
  simp only [z9k, hc1, e1, e2, z1, q4f, q8u, z0d, r7_0, x8p, tt, bb, bc, ↓bd, Nat.reduceEqDiff, Nat.reduceAdd, ↓reduceIte, Nat.reduceBneDiff]
  rfl
theorem j4j {f f' : St → Vl × St} {g d : Nat} (hf : ∀ s, s.left ≤ g → (f' (upS d s)).2.err ≠ 15 → d ≤ (f' (upS d s)).2.left → f' (upS d s) = upR d (f s)) (hk : ∀ s, Kp s (f' s).2) (hl : ∀ s, (f' s).2.err = 0 → (f' s).2.left < s.left) (N : Int) :
  ∀ (c' : Nat) (k : Int) (v : Vl) (s : St) (c : Nat), s.left ≤ g → (s.err = 0 → s.left < c) → (s.err = 0 → s.left + d < c') → (q1y f' N c' k v (upS d s)).2.err ≠ 15 → d ≤ (q1y f' N c' k v (upS d s)).2.left → q1y f' N c' k v (upS d s) = upR d (q1y f N c k v s)
 | 0, k, v, s, c, hg, h1, h2, h15, hd => by
  have he : s.err ≠ 0 := fun h => by have := h2 h; omega
  cases c with
  | zero => rfl
  | succ c =>
   conv => rhs; unfold q1y
   rw [if_neg (by intro h; exact he h.2)]
   rfl
 | c' + 1, k, v, s, c, hg, h1, h2, h15, hd => by
  by_cases hc : k < N ∧ s.err = 0
  ·have e1 : q1y f' N (c' + 1) k v (upS d s) = q1y f' N c' (k + 1) (f' (upS d { s with i := k })).1 (f' (upS d { s with i := k })).2 := by
    conv => lhs; unfold q1y
    rw [if_pos (show k < N ∧ (upS d s).err = 0 from hc)]
    rfl
   rw [e1] at h15 hd ⊢
   have h1' := h1 hc.2
   obtain ⟨c, rfl⟩ : ∃ c'', c = c'' + 1 := ⟨c - 1, by omega⟩
   have hkq := (z6w hk N c' (k + 1) (f' (upS d { s with i := k })).1 (f' (upS d { s with i := k })).2)
   have hne : (f' (upS d { s with i := k })).2.err ≠ 15 := by
    intro hx
    have := hkq.bad (by rw [hx]; decide)
    rw [this] at h15
    exact h15 hx
   have hge : d ≤ (f' (upS d { s with i := k })).2.left := Nat.le_trans hd hkq.left
   have e2 : q1y f N (c + 1) k v s = q1y f N c (k + 1) (f { s with i := k }).1 (f { s with i := k }).2 := by
    conv => lhs; unfold q1y
    rw [if_pos hc]
   have q9o := hf { s with i := k } hg hne hge
   rw [e2]
   rw [q9o] at h15 hd ⊢
   have hkp := hk (upS d { s with i := k })
   have hkl : (f' (upS d { s with i := k })).2.left ≤ s.left + d := hkp.left
   rw [q9o] at hkl
   have hkl2 : (f { s with i := k }).2.left + d ≤ s.left + d := hkl
   refine j4j hf hk hl N c' (k + 1) _ (f { s with i := k }).2 c (by omega) (fun h => ?_) (fun h => ?_) h15 hd
   ·have := hl (upS d { s with i := k }) (by rw [q9o]; exact h)
    rw [q9o] at this
    have h3 : (f { s with i := k }).2.left + d < s.left + d := this
    omega
   ·have := hl (upS d { s with i := k }) (by rw [q9o]; exact h)
    rw [q9o] at this
    have h3 : (f { s with i := k }).2.left + d < s.left + d := this
    have := h2 hc.2
    omega
  ·have e1 : q1y f' N (c' + 1) k v (upS d s) = (v, upS d s) := by
    conv => lhs; unfold q1y
    rw [if_neg (show ¬ (k < N ∧ (upS d s).err = 0) from hc)]
   rw [e1]
   cases c with
   | zero => rfl
   | succ c =>
    conv => rhs; unfold q1y
    rw [if_neg hc]
    rfl
theorem q9d (r : AR) (s : St) : (q1t r s).2.left = s.left := by cases r <;> rfl
theorem x9x {E : Env} {f f' : Ex → St → Vl × St} {L g g' d : Nat} (hf : ∀ t s, s.left ≤ L → (f' t (upS d s)).2.err ≠ 15 → d ≤ (f' t (upS d s)).2.left → f' t (upS d s) = upR d (f t s)) (hk : ∀ t s, Kp s (f' t s).2) (hl : ∀ t s, (f' t s).2.err = 0 → (f' t s).2.left < s.left) (t : Ex) {s : St}
  (hg : s.left ≤ L) (hLg : L ≤ g) (hg' : L + d ≤ g') (h15 : (evT E f' g' t (upS d s)).2.err ≠ 15) (hd : d ≤ (evT E f' g' t (upS d s)).2.left) : evT E f' g' t (upS d s) = upR d (evT E f g t s) := by
 cases t with
 | lit v => rfl
 | nam n => rfl
 | op1 op a =>
  unfold evT at h15 hd ⊢
  simp only at h15 hd ⊢
  by_cases h1 : (f' a (upS d s)).2.err ≠ 0
  ·rw [if_pos h1] at h15 hd
   have e := hf a s hg h15 hd
   rw [if_pos h1]
   rw [e] at h1 ⊢
   rw [if_pos (show (f a s).2.err ≠ 0 from h1)]
   rfl
  ·have h1' : (f' a (upS d s)).2.err ≠ 15 := by intro h; exact h1 (by rw [h]; decide)
   rw [if_neg h1, q9d] at hd
   have e := hf a s hg h1' hd
   rw [if_neg h1]
   rw [e] at h1 ⊢
   rw [if_neg (show ¬ (f a s).2.err ≠ 0 from h1)]
   exact z9g _ _ _
 | op2 op a b =>
  unfold evT at h15 hd ⊢
  simp only at h15 hd ⊢
  have hal := (hk a (upS d s)).left
  by_cases h1 : (f' a (upS d s)).2.err ≠ 0
  ·rw [if_pos h1] at h15 hd
   have e := hf a s hg h15 hd
   rw [if_pos h1]
   rw [e] at h1 ⊢
   rw [if_pos (show (f a s).2.err ≠ 0 from h1)]
   rfl
  ·have h1' : (f' a (upS d s)).2.err ≠ 15 := by intro h; exact h1 (by rw [h]; decide)
   have h1z : (f' a (upS d s)).2.err = 0 := by simpa using h1
   rw [if_neg h1] at h15 hd
   have hda : d ≤ (f' a (upS d s)).2.left := by
    refine Nat.le_trans hd ?_
    split
    ·exact (hk b _).left
    split
    ·split
     ·exact Nat.le_refl _
     split
     ·exact Nat.le_refl _
     ·exact (z6w (fun s => hk b s) _ _ _ _ _).left
    ·have hb := (hk b (f' a (upS d s)).2).left
     split
     ·exact hb
     ·rw [q9d]; exact hb
   have e := hf a s hg h1' hda
   rw [if_neg h1]
   rw [e] at h1 h15 hd hal ⊢
   have hal2 : (f a s).2.left + d ≤ s.left + d := hal
   rw [if_neg (show ¬ (f a s).2.err ≠ 0 from h1)]
   by_cases h29 : op = 29
   ·rw [if_pos h29] at h15 hd
    rw [if_pos h29, if_pos h29]
    have := hf b { (f a s).2 with it := (f a s).1 } (by show (f a s).2.left ≤ L; omega) h15 hd
    have e : ({ (upR d (f a s)).2 with it := (upR d (f a s)).1 } : St) = upS d { (f a s).2 with it := (f a s).1 } := rfl
    rw [e, this]
    rfl
   ·rw [if_neg h29] at h15 hd
    rw [if_neg h29, if_neg h29]
    by_cases h28 : op = 28
    ·rw [if_pos h28] at h15 hd
     rw [if_pos h28, if_pos h28]
     by_cases hk0 : (f a s).1.k ≠ 0
     ·rw [if_pos hk0, if_pos (show (upR d (f a s)).1.k ≠ 0 from hk0)]; rfl
     ·rw [if_neg (show ¬ (upR d (f a s)).1.k ≠ 0 from hk0)] at h15 hd
      rw [if_neg hk0, if_neg (show ¬ (upR d (f a s)).1.k ≠ 0 from hk0)]
      by_cases hn0 : (f a s).1.n < 0
      ·rw [if_pos hn0, if_pos (show (upR d (f a s)).1.n < 0 from hn0)]; rfl
      ·rw [if_neg (show ¬ (upR d (f a s)).1.n < 0 from hn0)] at h15 hd
       rw [if_neg hn0, if_neg (show ¬ (upR d (f a s)).1.n < 0 from hn0)]
       have := j4j (f := f b) (f' := f' b) (g := L) (d := d) (fun s hs h h' => hf b s hs h h') (fun s => hk b s) (fun s => hl b s) (f a s).1.n (g' + 1) 0 (nV 0) (f a s).2 (g + 1) (by omega) (fun _ => by omega) (fun _ => by omega) h15 hd
       have e : q1y (f' b) (upR d (f a s)).1.n (g' + 1) 0 (nV 0) (upR d (f a s)).2 = upR d (q1y (f b) (f a s).1.n (g + 1) 0 (nV 0) (f a s).2) := this
       rw [e]
       rfl
    ·rw [if_neg h28] at h15 hd
     rw [if_neg h28, if_neg h28]
     have e : f' b (upR d (f a s)).2 = f' b (upS d (f a s).2) := rfl
     rw [e] at h15 hd ⊢
     by_cases h2 : (f' b (upS d (f a s).2)).2.err ≠ 0
     ·rw [if_pos h2] at h15 hd
      have e2 := hf b (f a s).2 (by omega) h15 hd
      rw [if_pos h2]
      rw [e2] at h2 ⊢
      rw [if_pos (show (f b (f a s).2).2.err ≠ 0 from h2)]
      rfl
     ·have h2' : (f' b (upS d (f a s).2)).2.err ≠ 15 := by intro h; exact h2 (by rw [h]; decide)
      rw [if_neg h2, q9d] at hd
      have e2 := hf b (f a s).2 (by omega) h2' hd
      rw [if_neg h2]
      rw [e2] at h2 ⊢
      rw [if_neg (show ¬ (f b (f a s).2).2.err ≠ 0 from h2)]
      exact z9g _ _ _
 | op3 op a b c =>
  unfold evT at h15 hd ⊢
  simp only at h15 hd ⊢
  have hal := (hk a (upS d s)).left
  by_cases h1 : (f' a (upS d s)).2.err ≠ 0
  ·rw [if_pos h1] at h15 hd
   have e := hf a s hg h15 hd
   rw [if_pos h1]
   rw [e] at h1 ⊢
   rw [if_pos (show (f a s).2.err ≠ 0 from h1)]
   rfl
  ·have h1' : (f' a (upS d s)).2.err ≠ 15 := by intro h; exact h1 (by rw [h]; decide)
   rw [if_neg h1] at h15 hd
   have hda : d ≤ (f' a (upS d s)).2.left := by
    refine Nat.le_trans hd ?_
    split
    ·split
     ·exact Nat.le_refl _
     split
     ·exact (hk b _).left
     ·exact (hk c _).left
    ·have hb := (hk b (f' a (upS d s)).2).left
     split
     ·exact hb
     have hc := (hk c (f' b (f' a (upS d s)).2).2).left
     split
     ·exact Nat.le_trans hc hb
     ·rw [q9d]; exact Nat.le_trans hc hb
   have e := hf a s hg h1' hda
   rw [if_neg h1]
   rw [e] at h1 h15 hd hal ⊢
   have hal2 : (f a s).2.left + d ≤ s.left + d := hal
   rw [if_neg (show ¬ (f a s).2.err ≠ 0 from h1)]
   by_cases h11 : op = 11
   ·rw [if_pos h11] at h15 hd
    rw [if_pos h11, if_pos h11]
    by_cases hk0 : (f a s).1.k ≠ 0
    ·rw [if_pos hk0, if_pos (show (upR d (f a s)).1.k ≠ 0 from hk0)]; rfl
    ·rw [if_neg (show ¬ (upR d (f a s)).1.k ≠ 0 from hk0)] at h15 hd
     rw [if_neg hk0, if_neg (show ¬ (upR d (f a s)).1.k ≠ 0 from hk0)]
     by_cases hn0 : (f a s).1.n ≠ 0
     ·rw [if_pos (show (upR d (f a s)).1.n ≠ 0 from hn0)] at h15 hd
      rw [if_pos hn0, if_pos (show (upR d (f a s)).1.n ≠ 0 from hn0)]
      exact hf b (f a s).2 (by omega) h15 hd
     ·rw [if_neg (show ¬ (upR d (f a s)).1.n ≠ 0 from hn0)] at h15 hd
      rw [if_neg hn0, if_neg (show ¬ (upR d (f a s)).1.n ≠ 0 from hn0)]
      exact hf c (f a s).2 (by omega) h15 hd
   ·rw [if_neg h11] at h15 hd
    rw [if_neg h11, if_neg h11]
    have e : f' b (upR d (f a s)).2 = f' b (upS d (f a s).2) := rfl
    rw [e] at h15 hd ⊢
    have hbl := (hk b (upS d (f a s).2)).left
    by_cases h2 : (f' b (upS d (f a s).2)).2.err ≠ 0
    ·rw [if_pos h2] at h15 hd
     have e2 := hf b (f a s).2 (by omega) h15 hd
     rw [if_pos h2]
     rw [e2] at h2 ⊢
     rw [if_pos (show (f b (f a s).2).2.err ≠ 0 from h2)]
     rfl
    ·have h2' : (f' b (upS d (f a s).2)).2.err ≠ 15 := by intro h; exact h2 (by rw [h]; decide)
     rw [if_neg h2] at h15 hd
     have hdb : d ≤ (f' b (upS d (f a s).2)).2.left := by
      refine Nat.le_trans hd ?_
      have hc := (hk c (f' b (upS d (f a s).2)).2).left
      split
      ·exact hc
      ·rw [q9d]; exact hc
     have e2 := hf b (f a s).2 (by omega) h2' hdb
     rw [if_neg h2]
     rw [e2] at h2 h15 hd hbl ⊢
     have v1r : (f b (f a s).2).2.left + d ≤ (f a s).2.left + d := hbl
     rw [if_neg (show ¬ (f b (f a s).2).2.err ≠ 0 from h2)]
     have e3 : f' c (upR d (f b (f a s).2)).2 = f' c (upS d (f b (f a s).2).2) := rfl
     rw [e3] at h15 hd ⊢
     by_cases h3 : (f' c (upS d (f b (f a s).2).2)).2.err ≠ 0
     ·rw [if_pos h3] at h15 hd
      have e4 := hf c (f b (f a s).2).2 (by omega) h15 hd
      rw [if_pos h3]
      rw [e4] at h3 ⊢
      rw [if_pos (show (f c (f b (f a s).2).2).2.err ≠ 0 from h3)]
      rfl
     ·have h3' : (f' c (upS d (f b (f a s).2).2)).2.err ≠ 15 := by intro h; exact h3 (by rw [h]; decide)
      rw [if_neg h3, q9d] at hd
      have e4 := hf c (f b (f a s).2).2 (by omega) h3' hd
      rw [if_neg h3]
      rw [e4] at h3 ⊢
      rw [if_neg (show ¬ (f c (f b (f a s).2).2).2.err ≠ 0 from h3)]
      exact z9g _ _ _
theorem y6y {E : Env} : ∀ (g : Nat) (t : Ex) (s : St) (d g' : Nat), s.left ≤ g → s.left + d ≤ g' → (ev E g' t (upS d s)).2.err ≠ 15 → d ≤ (ev E g' t (upS d s)).2.left → ev E g' t (upS d s) = upR d (ev E g t s) := by
 intro g
 induction g with
 | zero =>
  intro t s d g' hg hg' h15 hd
  by_cases he : s.err = 0
  ·exfalso
   have h0 : s.left = 0 := by omega
   by_cases hd0 : d = 0
   ·rw [q7g (show (upS d s).err = 0 from he) (by show s.left + d = 0; omega)] at h15
    exact h15 rfl
   ·have hz : (ev E g' t (upS d s)).2.err = 0 → False := fun h => by
     have := z2k h
     have h3 : (upS d s).left = s.left + d := rfl
     omega
    obtain ⟨g', rfl⟩ : ∃ g'', g' = g'' + 1 := ⟨g' - 1, by omega⟩
    rw [q5m (show (upS d s).err = 0 from he) (show s.left + d ≠ 0 by omega)] at hd
    have h4 : d ≤ s.left + d - 1 := Nat.le_trans hd (j8p (E := E) (f := ev E g') (z1q g') g' t (s := { upS d s with left := (upS d s).left - 1 }) he).left
    omega
  ·rw [q6r he, q6r (show (upS d s).err ≠ 0 from he)]; rfl
 | succ g ih =>
  intro t s d g' hg hg' h15 hd
  by_cases he : s.err = 0
  ·by_cases h0 : s.left = 0
   ·exfalso
    by_cases hd0 : d = 0
    ·rw [q7g (show (upS d s).err = 0 from he) (by show s.left + d = 0; omega)] at h15
     exact h15 rfl
    ·obtain ⟨g', rfl⟩ : ∃ g'', g' = g'' + 1 := ⟨g' - 1, by omega⟩
     rw [q5m (show (upS d s).err = 0 from he) (show s.left + d ≠ 0 by omega)] at hd
     have h4 : d ≤ s.left + d - 1 := Nat.le_trans hd (j8p (E := E) (f := ev E g') (z1q g') g' t (s := { upS d s with left := (upS d s).left - 1 }) he).left
     omega
   ·obtain ⟨g', rfl⟩ : ∃ g'', g' = g'' + 1 := ⟨g' - 1, by omega⟩
    rw [q5m (show (upS d s).err = 0 from he) (show s.left + d ≠ 0 by omega)] at h15 hd ⊢
    rw [q5m he h0]
    have e : ({ upS d s with left := (upS d s).left - 1 } : St) = upS d { s with left := s.left - 1 } := by
     unfold upS
     simp only [St.mk.injEq, true_and, and_true]
     omega
    rw [e] at h15 hd ⊢
    exact x9x (L := s.left - 1) (fun t s hs h h' => ih t s d g' (by omega) (by omega) h h') (z1q g') (fun t s => z2k) t (Nat.le_refl _) (by omega) (by omega) h15 hd
  ·rw [q6r he, q6r (show (upS d s).err ≠ 0 from he)]; rfl
theorem Kp.grow {s s' : St} (h : Kp s s') : s.out.length ≤ s'.out.length := by
 obtain ⟨l, e⟩ := h.out
 rw [e, List.length_append]; omega
theorem q9e : q0k Cx 5 [] (.bool true) := ⟨20000, by kernel_rfl⟩
theorem OutV.len {d : AV} {l : List Pr} (h : OutV d l) : lenOf d = some l.length := by
 rcases h with ⟨rfl, rfl⟩ | rfl
 ·rfl
 ·unfold lenOf; rw [List.length_map]
theorem OutV.flat {d : AV} {l : List Pr} (h : OutV d l) : d.flat = true := by
 rcases h with ⟨rfl, rfl⟩ | rfl
 ·rfl
 ·rfl
theorem OutV.plain {d : AV} {l : List Pr} (h : OutV d l) : d.plain = true := by
 rcases h with ⟨rfl, rfl⟩ | rfl <;> rfl
theorem OutV.cells {d : AV} {l : List Pr} (h : OutV d l) : d.cells = [d] := by
 rcases h with ⟨rfl, rfl⟩ | rfl <;> rfl
def PFw (l : List Nd) (E : Env) (x : Int) (i : Nat) (acc : Int) : Prop :=
 ∀ T : Nat → AV, T 0 = .vec 6 (l.map q2w) → T 3 = .ptr 0 11 0 0 → T 5 = .int .i64 acc → T 6 = .int .i64 (i : Int) →
  Run Cx 6 T [] none [.inLoop c6_9, .inBlock 0, .code c6_19] ⟨1, upd (fun _ => Blk.dead) 0 (w8n E)⟩ (fun r0 H' => BX.freeze H' r0 = some (.int .i64 x))
theorem x9y {l : List Nd} {E : Env} {acc : Int} : ∃ x : Int, (x = 0 ∨ (x = 1 ∧ l.length ≤ 100)) ∧ ∀ T : Nat → AV, T 0 = .vec 6 (l.map q2w) → T 3 = .ptr 0 11 0 0 → T 5 = .int .i64 acc →
  Run Cx 6 T [] none [.code c6_19] ⟨1, upd (fun _ => Blk.dead) 0 (w8n E)⟩ (fun r0 H' => BX.freeze H' r0 = some (.int .i64 x)) := by
 by_cases c1 : (100 : Int) ≤ ((l.map q2w).length : Int)
 ·refine ⟨0, .inl rfl, fun T t0 t3 t5 => ?_⟩
  simp only [t0, c1, i64, r6_0, x6z, tt, bb, bc, ↓bd, Nat.reduceEqDiff, ↓reduceIte, reduceCtorEq]
 by_cases c2 : (5000 : Int) < acc
 ·refine ⟨0, .inl rfl, fun T t0 t3 t5 => ?_⟩
  simp only [t0, t5, c1, c2, i64, r6_0, x6z, tt, bb, bc, ↓bd, Nat.reduceEqDiff, ↓reduceIte, reduceCtorEq]
 by_cases c3 : (5000 : Int) < (E.key.length : Int)
 ·refine ⟨0, .inl rfl, fun T t0 t3 t5 => ?_⟩
  simp only [t0, t3, t5, c1, c2, c3, i64, r6_0, x6z, tt, bb, bc, ↓bd, Nat.reduceEqDiff, ↓reduceIte, reduceCtorEq]
 by_cases c4 : (5000 : Int) < (E.val.s.length : Int)
 ·refine ⟨0, .inl rfl, fun T t0 t3 t5 => ?_⟩
  simp only [t0, t3, t5, c1, c2, c3, c4, i64, r6_0, x6z, tt, bb, bc, ↓bd, Nat.reduceEqDiff, Nat.reduceAdd, ↓reduceIte, reduceCtorEq]
 by_cases c5 : (5000 : Int) < (E.acc.s.length : Int)
 ·refine ⟨0, .inl rfl, fun T t0 t3 t5 => ?_⟩
  simp only [t0, t3, t5, c1, c2, c3, c4, c5, i64, r6_0, x6z, tt, bb, bc, ↓bd, Nat.reduceEqDiff, Nat.reduceAdd, ↓reduceIte]
 ·refine ⟨1, .inr ⟨rfl, by rw [List.length_map] at c1; omega⟩, fun T t0 t3 t5 => ?_⟩
  simp only [t0, t3, t5, c1, c2, c3, c4, c5, i64, r6_0, x6z, tt, bb, bc, ↓bd, Nat.reduceEqDiff, Nat.reduceAdd, ↓reduceIte]
theorem y6z {l : List Nd} {E : Env} {i : Nat} {acc : Int} (hi : l.length ≤ i ∨ 100 ≤ i) : ∃ x, (x = 0 ∨ (x = 1 ∧ l.length ≤ 100)) ∧ PFw l E x i acc := by
 obtain ⟨x, hx, hp⟩ := x9y (l := l) (E := E) (acc := acc)
 refine ⟨x, hx, fun T t0 t3 t5 t6 => ?_⟩
 rw [run_inLoop]
 by_cases c1 : (i : Int) < ((l.map q2w).length : Int)
 ·have c3 : ¬ (i : Int) < 100 := by rw [List.length_map] at c1; omega
  simp only [t0, t6, c1, c3, i64, xx, r6_0.2.1, tt, bb, bc, ↓bd, Nat.reduceEqDiff, ↓reduceIte, reduceCtorEq]
  refine hp _ ?_ ?_ ?_
  all_goals simp only [q0b, t0, t3, t5, Nat.reduceEqDiff, ↓reduceIte]
 ·simp only [t0, t6, c1, i64, xx, r6_0.2.1, tt, bb, bc, ↓bd, Nat.reduceEqDiff, ↓reduceIte, reduceCtorEq]
  refine hp _ ?_ ?_ ?_
  all_goals simp only [q0b, t0, t3, t5, Nat.reduceEqDiff, ↓reduceIte]
theorem x5v {l : List Nd} {E : Env} : ∀ (j i : Nat) (acc : Int), 102 ≤ i + j → i ≤ 101 → 0 ≤ acc → acc ≤ 10000 * i → ∃ x, (x = 0 ∨ (x = 1 ∧ l.length ≤ 100)) ∧ PFw l E x i acc
 | 0, i, acc, hj, hi, h0, h1 => by omega
 | j + 1, i, acc, hj, hi, h0, h1 => by
  by_cases hend : l.length ≤ i ∨ 100 ≤ i
  ·exact y6z hend
  ·have hil : i < l.length := by omega
   have c1 : (i : Int) < ((l.map q2w).length : Int) := by rw [List.length_map]; omega
   have c3 : (i : Int) < 100 := by omega
   have p0 : (0 : Int) ≤ (i : Int) := by omega
   have g0 := z4m hil
   have w1 : IntKind.i64.wrap ((i : Int) + 1) = ((i + 1 : Nat) : Int) := by rw [wr64 (by omega) (by omega)]; omega
   have y0u : ∃ mm : Int, 0 ≤ mm ∧ mm ≤ 10000 ∧ x7i .i64 (((l[i]).v.s.length : Nat) : Int) [.int .i64 10000] = some mm := by
    refine ⟨if (10000 : Int) < (((l[i]).v.s.length : Nat) : Int) then 10000 else (((l[i]).v.s.length : Nat) : Int), by split <;> omega, by split <;> omega, ?_⟩
    simp [x7i]
   obtain ⟨mm, m0, m1, hm⟩ := y0u
   have w2 : IntKind.i64.wrap (acc + mm) = acc + mm := wr64 (by omega) (by omega)
   obtain ⟨x, hx, hp⟩ := x5v (l := l) (E := E) j (i + 1) (acc + mm) (by omega) (by omega) (by omega) (by omega)
   refine ⟨x, hx, fun T t0 t3 t5 t6 => ?_⟩
   rw [run_inLoop]
   simp only [t0, t5, t6, c1, c3, p0, g0, w1, w2, hm, Option.map_some, q0i, i64, Int.toNat_natCast, xx, r6_0.2.1, tt, bb, bc, ↓bd, Nat.reduceEqDiff, Nat.reduceAdd, ↓reduceIte, reduceCtorEq]
   refine hp _ ?_ ?_ ?_ ?_
   all_goals simp only [q0b, t0, t3, Nat.reduceEqDiff, ↓reduceIte]
theorem y7a {v : AV} (hv : v = .nilS ∨ v = .vec 6 []) (E : Env) : ∃ x : Int, (x = 0 ∨ (x = 1 ∧ ([] : List Nd).length ≤ 100)) ∧ q0k Cx 6 [v, j4i E] (.int .i64 x) := by
 by_cases c3 : (5000 : Int) < (E.key.length : Int)
 ·refine ⟨0, .inl rfl, q0c (q0l _) x3m ?_⟩
  rcases hv with rfl | rfl <;> simp only [c3, List.length_nil, i64, xx, run_inLoop, r6_0, x6z, tt, bb, bc, ↓bd, Nat.reduceEqDiff, Nat.reduceAdd, ↓reduceIte, reduceCtorEq, Int.reduceLT, Int.reduceLE]
 by_cases c4 : (5000 : Int) < (E.val.s.length : Int)
 ·refine ⟨0, .inl rfl, q0c (q0l _) x3m ?_⟩
  rcases hv with rfl | rfl <;> simp only [c3, c4, List.length_nil, i64, xx, run_inLoop, r6_0, x6z, tt, bb, bc, ↓bd, Nat.reduceEqDiff, Nat.reduceAdd, ↓reduceIte, reduceCtorEq, Int.reduceLT, Int.reduceLE]
 by_cases c5 : (5000 : Int) < (E.acc.s.length : Int)
 ·refine ⟨0, .inl rfl, q0c (q0l _) x3m ?_⟩
  rcases hv with rfl | rfl <;> simp only [c3, c4, c5, List.length_nil, i64, xx, run_inLoop, r6_0, x6z, tt, bb, bc, ↓bd, Nat.reduceEqDiff, Nat.reduceAdd, ↓reduceIte, reduceCtorEq, Int.reduceLT, Int.reduceLE]
 ·refine ⟨1, .inr ⟨rfl, by simp⟩, q0c (q0l _) x3m ?_⟩
  rcases hv with rfl | rfl <;> simp only [c3, c4, c5, List.length_nil, i64, xx, run_inLoop, r6_0, x6z, tt, bb, bc, ↓bd, Nat.reduceEqDiff, Nat.reduceAdd, ↓reduceIte, reduceCtorEq, Int.reduceLT, Int.reduceLE]
theorem w6j {v : AV} {l : List Nd} (hv : InN v l) (E : Env) : ∃ x : Int, (x = 0 ∨ (x = 1 ∧ l.length ≤ 100)) ∧ q0k Cx 6 [v, j4i E] (.int .i64 x) := by
 by_cases h0 : l = []
 ·subst h0
  refine y7a ?_ E
  rcases hv with ⟨h, _⟩ | h
  ·exact .inl h
  ·exact .inr h
 ·obtain rfl := hv.vec h0
  obtain ⟨x, hx, hp⟩ := x5v (l := l) (E := E) 102 0 0 (by omega) (by omega) (by omega) (by omega)
  refine ⟨x, hx, q0c (q0l _) x3m ?_⟩
  simp only [r6_0.1, tt, bb, ↓bd, Nat.reduceAdd, ↓reduceIte]
  refine hp _ ?_ ?_ ?_ ?_
  all_goals simp only [q0b, q1g, List.getElem?_cons_zero, Option.getD_some, Nat.reduceEqDiff, ↓reduceIte]
  all_goals rfl
theorem InN.vecR {v : AV} {l : List Nd} (h : InN v l) (hr : q2z l = true) : v = .vec 6 (l.map q2w) := h.vec (by rintro rfl; cases hr)
def v0r (l : List Nd) (E : Env) (f : Int) (r : AV) : Prop :=
 (q7i l E f = false ∧ r = .tuple [x7d zV .nilS 0, .int .i64 1]) ∨
 (∃ t, q7i l E f = true ∧ WF t ∧ l = q0o t ∧ (((q2b t E f.toNat).2.err ≠ 0 ∧ r = .tuple [x7d zV .nilS 0, .int .i64 (q2b t E f.toNat).2.err]) ∨
  ((q2b t E f.toNat).2.err = 0 ∧ ∃ d, OutV d (q2b t E f.toNat).2.out ∧ r = .tuple [x7d (q2b t E f.toNat).1 d (q2b t E f.toNat).2.left, .int .i64 0])))
theorem w6k {v : AV} {l : List Nd} (hv : InN v l) (hn : x9q l) (hl : l.length ≤ 1000000) (E : Env) (f : Int) : ∃ r, v0r l E f r ∧ q0k Cx 7 [v, j4i E, .int .i64 f] r := by
 cases hg : q7i l E f with
 | false => exact ⟨_, .inl ⟨hg, rfl⟩, y6x hv hn hl hg⟩
 | true =>
  obtain ⟨hr, hE, f0, f1⟩ := q6t hg
  obtain rfl := hv.vecR hr
  obtain ⟨_, t, hw, e⟩ := z9f hr
  have hff : ((f.toNat : Nat) : Int) = f := by omega
  have h := j9b (f := f.toNat) hn (by rw [hff]; exact hg) hw e
  rw [hff] at h
  by_cases he : (q2b t E f.toNat).2.err = 0
  ·obtain ⟨d, hd, hp⟩ := h.1 he
   exact ⟨_, .inr ⟨t, hg, hw, e, .inr ⟨he, d, hd, rfl⟩⟩, hp⟩
  ·exact ⟨_, .inr ⟨t, hg, hw, e, .inl ⟨he, rfl⟩⟩, h.2 he⟩
structure MR (M : Mch) (n : Nat) (A : Nat → Blk) (s : St) : Prop where
 lt : M.b < n
 cell : ∃ o, A M.b = .cells 66 22 [[M.L, M.F, .str M.E.key, .int .i64 M.E.val.k, .int .i64 M.E.val.n, .str M.E.val.s, .int .i64 M.E.val.x, .int .i64 M.E.val.y, .int .i64 M.E.acc.k, .int .i64 M.E.acc.n, .str M.E.acc.s, .int .i64 M.E.acc.x, .int .i64 M.E.acc.y, .int .i64 s.i, .int .i64 s.it.k, .int .i64 s.it.n, .str s.it.s, .int .i64 s.it.x, .int .i64 s.it.y, o, .int .i64 (s.left : Int), .int .i64 s.err]] ∧ Ow o n A s.out
theorem MR.keep {M : Mch} {n n' : Nat} {A A' : Nat → Blk} {s : St} (h : MR M n A s) (hn : n ≤ n') (hk : ∀ g, g < n → (g = M.b ∨ x0z (A g)) → A' g = A g) : MR M n' A' s := by
 obtain ⟨h1, o, h2, h3⟩ := h
 exact ⟨by omega, o, by rw [hk _ h1 (.inl rfl)]; exact h2, h3.keep hn (fun g hg hp => hk g hg (.inr hp))⟩
theorem j9c {M : Mch} {n : Nat} {A : Nat → Blk} {s : St} (h : MR M n A s) : ¬ x0z (A M.b) := by
 obtain ⟨_, o, h2, _⟩ := h
 rw [h2]
 show ¬ (66 = 49)
 decide
theorem MR.up1 {M : Mch} {n : Nat} {A : Nat → Blk} {s : St} (h : MR M n A s) (X : Blk) : MR M (n + 1) (upd A n X) s :=
 h.keep (by omega) fun g hg _ => by rw [q0b, if_neg (by omega)]
theorem MR.upo {M : Mch} {n : Nat} {A : Nat → Blk} {s : St} (h : MR M n A s) {c : Nat} (hc : c ≠ M.b) (hp : ¬ x0z (A c)) (X : Blk) : MR M n (upd A c X) s :=
 h.keep (Nat.le_refl _) fun g hg hgp => by
  rw [q0b, if_neg]
  rintro rfl
  rcases hgp with h | h
  ·exact hc h
  ·exact hp h
section
theorem q0q {M : Mch} {n : Nat} {A : Nat → Blk} {s : St} {e : Int} (h : MR M n A s) (hk : ∀ n' A', MR M n' A' (q1f e s) → Keep M.b n A A' → n ≤ n' → q0d Cx fn (putA T dst (q1o zV)) ds ro os k ⟨n', A'⟩ Q) :
  q0g Cx fn T ds ro 35 [.ptr M.b 22 0 0, .int .i64 e] dst os k ⟨n, A⟩ Q := by
 have hp := j9c h
 have h' := h
 obtain ⟨hb, o, hA, ho⟩ := h
 refine q0s w1c (q0l _) w1a ?_
 have ne : (M.b = n) = False := eq_false (by omega)
 have ne' : (n = M.b) = False := eq_false (by omega)
 by_cases he : s.err = 0
 ·have z : (s.err == 0) = true := by simp [he]
  simp only [hA, ne, ne', z, r35_0, w1b, tt, bb, bc, ↓bd, Nat.reduceEqDiff, Nat.reduceAdd, ↓reduceIte, reduceCtorEq]
  have hs : q1f e s = { s with err := e } := by unfold q1f; rw [if_pos he]
  rw [hs] at hk
  refine hk (n + 1) _ ⟨by omega, o, ?_, ho.keep (n' := n + 1) (by omega) fun g hg hpg => ?_⟩ (fun c hc hcb hcp => ?_) (by omega)
  ·simp only [q0b, ne, ↓reduceIte]
  ·have : g ≠ M.b := fun e => hp (by rw [← e]; exact hpg)
   simp only [q0b, eq_false this, eq_false (show g ≠ n by omega), ↓reduceIte]
  ·simp only [q0b, eq_false hcb, eq_false (show c ≠ n by omega), ↓reduceIte]
 ·have z : (s.err == 0) = false := by simpa using he
  simp only [hA, ne, z, r35_0, w1b, tt, bb, bc, ↓bd, Nat.reduceEqDiff, Nat.reduceAdd, ↓reduceIte, reduceCtorEq]
  have hs : q1f e s = s := by unfold q1f; rw [if_neg he]
  rw [hs] at hk
  refine hk (n + 1) _ (h'.keep (n' := n + 1) (by omega) fun g hg _ => ?_) (fun c hc hcb hcp => ?_) (by omega)
  ·simp only [q0b, eq_false (show g ≠ n by omega), ↓reduceIte]
  ·simp only [q0b, eq_false (show c ≠ n by omega), ↓reduceIte]
theorem q0t {M : Mch} {n n' : Nat} {A A' : Nat → Blk} {s' : St} {v : AV} {X : Blk} (hb : M.b < n) (hm : MR M n' A' s') (hkp : Keep M.b (n + 1) (upd A n zB) A') (hn : n + 1 ≤ n')
  (hk : ∀ n' A', MR M n' A' s' → Keep M.b n A A' → n ≤ n' → q0d Cx fn (putA T dst v) ds ro os k ⟨n', A'⟩ Q) : q0d Cx fn (putA T dst v) ds ro os k ⟨n', upd A' n X⟩ Q := by
 have hc := q0f hb hkp
 exact hk n' _ (hm.upo (c := n) (by omega) (by rw [hc]; exact q3k) _) (((((Keep.refl M.b n A).up1 (Nat.le_refl _) zB).trans (by omega) hkp)).up1 (by omega) _) (by omega)
theorem z4n {M : Mch} {n : Nat} {A : Nat → Blk} {s : St} {v : AV} {X : Blk} (h : MR M n A s)
  (hk : ∀ n' A', MR M n' A' s → Keep M.b n A A' → n ≤ n' → q0d Cx fn (putA T dst v) ds ro os k ⟨n', A'⟩ Q) : q0d Cx fn (putA T dst v) ds ro os k ⟨n + 1, upd (upd A n zB) n X⟩ Q :=
 q0t h.lt (h.up1 zB) (Keep.refl _ _ _) (Nat.le_refl _) hk
theorem MR.errCell {M : Mch} {n : Nat} {A : Nat → Blk} {s : St} (h : MR M n A s) : ∃ o, A M.b = .cells 66 22 [[M.L, M.F, .str M.E.key, .int .i64 M.E.val.k, .int .i64 M.E.val.n, .str M.E.val.s, .int .i64 M.E.val.x, .int .i64 M.E.val.y, .int .i64 M.E.acc.k, .int .i64 M.E.acc.n, .str M.E.acc.s, .int .i64 M.E.acc.x, .int .i64 M.E.acc.y, .int .i64 s.i, .int .i64 s.it.k, .int .i64 s.it.n, .str s.it.s, .int .i64 s.it.x, .int .i64 s.it.y, o, .int .i64 (s.left : Int), .int .i64 s.err]] := ⟨_, h.cell.choose_spec.1⟩
theorem MR.setI {M : Mch} {n : Nat} {A : Nat → Blk} {s : St} {o : AV} (h : MR M n A s) (ho : A M.b = .cells 66 22 [[M.L, M.F, .str M.E.key, .int .i64 M.E.val.k, .int .i64 M.E.val.n, .str M.E.val.s, .int .i64 M.E.val.x, .int .i64 M.E.val.y, .int .i64 M.E.acc.k, .int .i64 M.E.acc.n, .str M.E.acc.s, .int .i64 M.E.acc.x, .int .i64 M.E.acc.y, .int .i64 s.i, .int .i64 s.it.k, .int .i64 s.it.n, .str s.it.s, .int .i64 s.it.x, .int .i64 s.it.y, o, .int .i64 (s.left : Int), .int .i64 s.err]]) (s' : St) (hl : s'.out = s.out) :
  MR M n (upd A M.b (.cells 66 22 [[M.L, M.F, .str M.E.key, .int .i64 M.E.val.k, .int .i64 M.E.val.n, .str M.E.val.s, .int .i64 M.E.val.x, .int .i64 M.E.val.y, .int .i64 M.E.acc.k, .int .i64 M.E.acc.n, .str M.E.acc.s, .int .i64 M.E.acc.x, .int .i64 M.E.acc.y, .int .i64 s'.i, .int .i64 s'.it.k, .int .i64 s'.it.n, .str s'.it.s, .int .i64 s'.it.x, .int .i64 s'.it.y, o, .int .i64 (s'.left : Int), .int .i64 s'.err]])) s' := by
 obtain ⟨hb, o', hA, hw⟩ := h
 have e := hA.symm.trans ho
 simp only [Blk.cells.injEq, List.cons.injEq, and_true, true_and] at e
 subst e
 refine ⟨hb, o', by rw [q0b, if_pos rfl], ?_⟩
 rw [hl]
 refine hw.keep (Nat.le_refl _) fun z hz hp => ?_
 have : z ≠ M.b := by rintro rfl; rw [hA] at hp; cases hp
 rw [q0b, if_neg this]
end
set_option maxRecDepth 20000
theorem z3l (x y : Int) : q0k Cx 33 [spot x y] (.bool (inR x && inR y)) := by
 refine q0c (q0l _) y1k ?_
 by_cases h1 : -16777216 ≤ x <;> by_cases h2 : x ≤ 16777216 <;> by_cases h3 : -16777216 ≤ y <;>
 simp only [h1, h2, h3, inR, r33_0, w0x, tt, bb, bc, ↓bd, Nat.reduceEqDiff, Nat.reduceAdd, ↓reduceIte, Int.reduceNeg]
theorem bneE {α : Type} [BEq α] (a b : α) : (!(a != b)) = (a == b) := by unfold bne; rw [Bool.not_not]
theorem refRight_ok (k n : Int) (s : Bytes) (x y : Int) : q0k Cx 18 [val k n s x y] (.bool (q1j k n s x y)) := by
 refine q0c (q0l _) w0f ?_
 unfold q1j
 simp only [bneE, Bool.not_not]
 by_cases h0 : k = 0
 ·subst h0
  cases h1 : decide (-9007199254740992 ≤ n) with
  | false => simp only [h1, Bool.false_and, r18_0, j3p, tt, bb, bc, ↓bd, Nat.reduceEqDiff, Nat.reduceAdd, ↓reduceIte, Int.reduceNeg]
  | true =>
   cases h2 : decide (n ≤ 9007199254740992) with
   | false => simp only [h1, h2, Bool.false_and, r18_0, j3p, tt, bb, bc, ↓bd, Nat.reduceEqDiff, Nat.reduceAdd, ↓reduceIte, Int.reduceNeg]
   | true =>
    cases h3 : (s == []) <;>
    simp only [h1, h2, h3, Bool.false_and, Bool.true_and, r18_0, j3p, tt, bb, bc, ↓bd, Nat.reduceEqDiff, Nat.reduceAdd, ↓reduceIte, Int.reduceNeg]
 ·have e0 : (k == 0) = false := by simpa using h0
  by_cases h1 : k = 1
  ·subst h1
   cases h2 : decide ((s.length : Int) ≤ 4096) with
   | false => simp only [h2, Bool.false_and, r18_0, j3p, tt, bb, bc, ↓bd, Nat.reduceEqDiff, Nat.reduceAdd, ↓reduceIte, Int.reduceBEq, Int.reduceEq]
   | true =>
    cases h3 : (n == 0) <;>
    simp only [h2, h3, Bool.false_and, Bool.true_and, r18_0, j3p, tt, bb, bc, ↓bd, Nat.reduceEqDiff, Nat.reduceAdd, ↓reduceIte, Int.reduceBEq, Int.reduceEq]
  ·have e1 : (k == 1) = false := by simpa using h1
   by_cases h2 : k = 2
   ·subst h2
    cases h3 : (inR x && inR y) with
    | false => simp only [h3, q0a q7k rfl (z3l x y), Bool.false_and, r18_0, j3p, tt, bb, bc, ↓bd, Nat.reduceEqDiff, Nat.reduceAdd, ↓reduceIte, Int.reduceBEq, Int.reduceEq]
    | true =>
     cases h4 : (n == 0) <;>
     simp only [h3, h4, q0a q7k rfl (z3l x y), Bool.false_and, Bool.true_and, r18_0, j3p, tt, bb, bc, ↓bd, Nat.reduceEqDiff, Nat.reduceAdd, ↓reduceIte, Int.reduceBEq, Int.reduceEq]
   ·have e2 : (k == 2) = false := by simpa using h2
    simp only [h0, h1, h2, e0, e1, e2, q1a, r18_0, j3p, tt, bb, bc, ↓bd, Nat.reduceEqDiff, Nat.reduceAdd, ↓reduceIte]
theorem y2v (d : Nat) (hd : d < 16) : q0k Cx 89 [.int .i64 (d : Int)] (.str [x1h d]) := by
 refine q0c (q0l _) w4b ?_
 unfold x1h
 by_cases h : d < 10
 ·have h' : (d : Int) < 10 := by omega
  have w1 : IntKind.i64.wrap (48 + (d : Int)) = 48 + (d : Int) := wr64 (by omega) (by omega)
  have w2 := x4g (n := 48 + (d : Int)) (by omega) (by omega)
  have hb : BX.byteOf [AV.int .u8 (((UInt8.ofNat (48 + (d : Int)).toNat).toNat : Nat) : Int)] = some (UInt8.ofNat (48 + d)) := by
   rw [x4f (by omega) (by omega)]
   show some (UInt8.ofNat (48 + (d : Int)).toNat) = _
   congr 2
  simp only [h, h', w1, w2, hb, bytesOf, r89_0, w4c, tt, bb, bc, ↓bd, Nat.reduceMul, Nat.reduceLeDiff, ↓reduceIte, reduceCtorEq, List.reduceReplicate]
 ·have h' : ¬ (d : Int) < 10 := by omega
  have w1 : IntKind.i64.wrap (97 + (d : Int)) = 97 + (d : Int) := wr64 (by omega) (by omega)
  have w3 : IntKind.i64.wrap (97 + (d : Int) - 10) = 97 + (d : Int) - 10 := wr64 (by omega) (by omega)
  have w2 := x4g (n := 97 + (d : Int) - 10) (by omega) (by omega)
  have hb : BX.byteOf [AV.int .u8 (((UInt8.ofNat (97 + (d : Int) - 10).toNat).toNat : Nat) : Int)] = some (UInt8.ofNat (87 + d)) := by
   rw [x4f (by omega) (by omega)]
   show some (UInt8.ofNat (97 + (d : Int) - 10).toNat) = _
   congr 2; omega
  simp only [h, h', w1, w2, w3, hb, bytesOf, r89_0, w4c, tt, bb, bc, ↓bd, Nat.reduceMul, Nat.reduceLeDiff, ↓reduceIte, reduceCtorEq, List.reduceReplicate]
theorem x9z {s : Bytes} {i : Nat} {c : UInt8} (h : s[i]? = some c) : q4s Cx 9 (.str s) (some (.int .i64 (i : Int))) (some (.int .i64 ((i + 1 : Nat) : Int))) none = some (.str [c]) := by
 have hlt := (List.getElem?_eq_some_iff.mp h).1
 unfold q4s
 rw [x6y]
 show (j4y _ _ _).map _ = _
 unfold j4y z3n
 simp only
 rw [if_pos (by omega)]
 simp only [Int.toNat_natCast]
 rw [if_pos (by omega)]
 simp only [Option.map_some]
 congr 2
 rw [List.take_add_one, h, List.drop_append_of_le_length (by simp; omega)]
 rw [List.drop_of_length_le (by simp; omega)]
 rfl
def PW (s : Bytes) (r : AV) (i : Nat) (acc : Bytes) : Prop :=
 ∀ (T : Nat → AV) (H : AHeap), T 1 = .ptr 0 5 0 0 → T 3 = .str acc → T 4 = .int .i64 (i : Int) → H.at_ 0 = .cells 26 5 [[.int .i64 1, .int .i64 0, .str s, .int .i64 0, .int .i64 0]] →
  Run Cx 63 T [] none [.inLoop c63_26, .inBlock 1, .code c63_40] H (fun r0 H' => BX.freeze H' r0 = some r)
theorem w6l {s acc : Bytes} (hl : acc.length ≤ 1000000) : PW s (.str (acc ++ [34])) s.length acc := by
 intro T H t1 t3 t4 a0
 rw [run_inLoop]
 have h0 : ((s.length : Int) < (s.length : Int)) = False := by simp
 have g1 : (acc.length + 1 ≤ 9223372036854775807) = True := eq_true (by omega)
 simp only [t1, t3, t4, a0, h0, g1, xx, r63_0, y4t, tt, bb, bc, ↓bd, Nat.reduceEqDiff, ↓reduceIte]
theorem y7b {s acc : Bytes} {i : Nat} {c : UInt8} {r : AV} (hi : s[i]? = some c) (hs : s.length ≤ 100000) (hl : acc.length ≤ 1000000) (hp : PW s r (i + 1) (acc ++ q1 c)) : PW s r i acc := by
 intro T H t1 t3 t4 a0
 rw [run_inLoop]
 have hlt : i < s.length := (List.getElem?_eq_some_iff.mp hi).1
 have h0 : ((i : Int) < (s.length : Int)) = True := eq_true (by omega)
 have w1 : IntKind.i64.wrap ((i : Int) + 1) = ((i + 1 : Nat) : Int) := by rw [wr64 (by omega) (by omega)]; omega
 have hcu := c.toNat_lt
 have hc0 : (0 : Int) ≤ (i : Int) := by omega
 have hpl := q5l (c.toNat : Int)
 unfold q1 at hp
 by_cases hc : q7l c = true
 ·have hc' : q4a (c.toNat : Int) = true := hc
  rw [if_pos hc] at hp
  have sl := x9z hi
  have g1 : (acc.length + 1 ≤ 9223372036854775807) = True := eq_true (by omega)
  simp only [t1, t3, t4, a0, h0, hi, hc', hc0, w1, sl, g1, evo, q0n, Int.toNat_natCast, q0a z3j rfl hpl, xx, r63_0, tt, bb, bc, ↓bd, Nat.reduceEqDiff, ↓reduceIte]
  refine hp _ _ ?_ ?_ ?_ ?_
  all_goals first | assumption | simp only [q0b, Nat.reduceEqDiff, ↓reduceIte]
 ·have hc' : q4a (c.toNat : Int) = false := by
   show q7l c = false
   simpa using hc
  rw [if_neg hc] at hp
  obtain ⟨t1', t2'⟩ := td16 (n := c.toNat) (by omega)
  have z16 : ((16 : Int) = 0) = False := by simp
  have w0 : IntKind.i64.wrap (c.toNat : Int) = (c.toNat : Int) := wr64 (by omega) (by omega)
  have w2 : IntKind.i64.wrap ((c.toNat : Int) / 16) = ((c.toNat / 16 : Nat) : Int) := by rw [wr64 (by omega) (by omega)]; omega
  have w3 : (c.toNat : Int) % 16 = ((c.toNat % 16 : Nat) : Int) := by omega
  have x1 := y2v (c.toNat / 16) (by omega)
  have x2 := y2v (c.toNat % 16) (by omega)
  have g1 : (acc.length + 1 ≤ 9223372036854775807) = True := eq_true (by omega)
  have g2 : ((acc ++ [92]).length + 1 ≤ 9223372036854775807) = True := eq_true (by rw [List.length_append, List.length_singleton]; omega)
  have g3 : ((acc ++ [92] ++ [x1h (c.toNat / 16)]).length + 1 ≤ 9223372036854775807) = True := eq_true (by simp only [List.length_append, List.length_singleton]; omega)
  have ea : acc ++ [92] ++ [x1h (c.toNat / 16)] ++ [x1h (c.toNat % 16)] = acc ++ [92, x1h (c.toNat / 16), x1h (c.toNat % 16)] := by simp
  simp only [t1, t3, t4, a0, h0, hi, hc', hc0, w0, w1, w2, w3, t1', t2', z16, g1, g2, g3, ea, q0n, Int.toNat_natCast, q0a z3j rfl hpl, q0a y1v rfl x1, q0a y1v rfl x2, xx, r63_0, tt, bb, bc, ↓bd, Nat.reduceEqDiff, ↓reduceIte]
  refine hp _ _ ?_ ?_ ?_ ?_
  all_goals first | assumption | simp only [q0b, Nat.reduceEqDiff, ↓reduceIte]
theorem y2w {s : Bytes} (hs : s.length ≤ 100000) : ∀ (j i : Nat) (acc : Bytes), i + j = s.length → acc.length ≤ 1 + 3 * i → PW s (.str (acc ++ (w5d (s.drop i) ++ [34]))) i acc
 | 0, i, acc, hij, hl => by
  have e : i = s.length := by omega
  subst e
  rw [List.drop_length]
  exact w6l (by omega)
 | j + 1, i, acc, hij, hl => by
  have hi : i < s.length := by omega
  have hd : s.drop i = s[i] :: s.drop (i + 1) := List.drop_eq_getElem_cons hi
  rw [hd, j3w]
  have := y2w hs j (i + 1) (acc ++ q1 s[i]) (by omega) (by rw [List.length_append]; have := y2e s[i]; omega)
  simp only [List.append_assoc] at this ⊢
  exact y7b (List.getElem?_eq_getElem hi) hs (by omega) this
theorem j6y {k n : Int} {s : Bytes} {x y : Int} (h : q1j k n s x y = true) : q0k Cx 63 [val k n s x y] (.str (q6q k n s x y)) := by
 refine q0c (q0l _) w2n ?_
 unfold q6q
 rcases q3p h with ⟨rfl, hn, rfl, rfl, rfl⟩ | ⟨rfl, hs, rfl, rfl, rfl⟩ | ⟨rfl, ⟨hx, hy⟩, rfl, rfl⟩
 ·simp only [q0a z8w rfl (x4j n hn), r63_0, y4t, tt, bb, bc, ↓bd, Nat.reduceEqDiff, Nat.reduceAdd, ↓reduceIte]
 ·have hp := y2w (s := s) (by omega) s.length 0 [34] (by omega) (by simp)
  simp only [q1a, r63_0.1, r63_0.2.1, tt, bb, ↓bd, Nat.reduceEqDiff, Nat.reduceAdd, ↓reduceIte, Int.reduceBEq, Int.reduceEq]
  refine hp _ _ ?_ ?_ ?_ ?_
  all_goals simp only [q0b, Nat.reduceEqDiff, ↓reduceIte]
  all_goals rfl
 ·rw [inR_iff] at hx hy
  have d1 := x4j x (by omega)
  have d2 := x4j y (by omega)
  have l1 := q7f x (by omega)
  have l2 := q7f y (by omega)
  have h1 : ((z7g x).length + 1 ≤ 9223372036854775807) = True := eq_true (by omega)
  have h2 : ((z7g x ++ [58]).length + (z7g y).length ≤ 9223372036854775807) = True := eq_true (by rw [List.length_append, List.length_singleton]; omega)
  simp only [h1, h2, q0a z8w rfl d1, q0a z8w rfl d2, r63_0, y4t, tt, bb, bc, ↓bd, Nat.reduceEqDiff, Nat.reduceAdd, ↓reduceIte, Int.reduceBEq, Int.reduceEq]
end Go.Proofs.YtckhmpcmlochpaaGreat.G
namespace Go.Proofs.YtckhmpcmlochpaaGreat.G
open Go.BX
def y0a (k n : Int) (s : Bytes) (x y : Int) (k' n' : Int) (s' : Bytes) (x' y' : Int) : Bool :=
 if k = k' then (if k = 0 then decide (n < n') else if k = 1 then (q4u s s' == -1) else (decide (x < x') || (x == x') && decide (y < y'))) else decide (k < k')
abbrev valB (k n : Int) (s : Bytes) (x y : Int) : Blk := .cells 26 5 [[.int .i64 k, .int .i64 n, .str s, .int .i64 x, .int .i64 y]]
def PL (s s' : Bytes) (r : AV) (i : Nat) : Prop :=
 ∀ (T : Nat → AV) (H : AHeap) (n x y n' x' y' : Int), T 2 = .ptr 0 5 0 0 → T 3 = .ptr 1 5 0 0 → T 5 = .int .i64 (i : Int) → H.at_ 0 = valB 1 n s x y → H.at_ 1 = valB 1 n' s' x' y' →
  Run Cx 86 T [] none [.inLoop c86_27, .inBlock 0, .code c86_43, .code c86_47] H (fun r0 H' => BX.freeze H' r0 = some r)
theorem y7c {s s' : Bytes} {i : Nat} (h : s.length ≤ i) : PL s s' (.bool (decide ((s.length : Int) < (s'.length : Int)))) i := by
 intro T H n x y n' x' y' t2 t3 t5 a0 a1
 rw [run_inLoop]
 have h0 : ((i : Int) < (s.length : Int)) = False := eq_false (by omega)
 simp only [t2, t3, t5, a0, a1, h0, xx, r86_0, j6i, tt, bb, bc, ↓bd, Nat.reduceEqDiff, ↓reduceIte]
theorem y7d {s s' : Bytes} {i : Nat} (h1 : i < s.length) (h : s'.length ≤ i) : PL s s' (.bool (decide ((s.length : Int) < (s'.length : Int)))) i := by
 intro T H n x y n' x' y' t2 t3 t5 a0 a1
 rw [run_inLoop]
 have h0 : ((i : Int) < (s.length : Int)) = True := eq_true (by omega)
 have h2 : ((i : Int) < (s'.length : Int)) = False := eq_false (by omega)
 simp only [t2, t3, t5, a0, a1, h0, h2, xx, r86_0, j6i, tt, bb, bc, ↓bd, Nat.reduceEqDiff, ↓reduceIte]
theorem y7e {s s' : Bytes} {i : Nat} {c d : UInt8} {r : AV} (hc : s[i]? = some c) (hd : s'[i]? = some d) (hi : i ≤ 100000) (hp : ¬ c = d ∧ r = .bool (decide (c < d)) ∨ c = d ∧ PL s s' r (i + 1)) : PL s s' r i := by
 intro T H n x y n' x' y' t2 t3 t5 a0 a1
 rw [run_inLoop]
 have l1 : i < s.length := (List.getElem?_eq_some_iff.mp hc).1
 have l2 : i < s'.length := (List.getElem?_eq_some_iff.mp hd).1
 have h0 : ((i : Int) < (s.length : Int)) = True := eq_true (by omega)
 have h2 : ((i : Int) < (s'.length : Int)) = True := eq_true (by omega)
 have hc0 : (0 : Int) ≤ (i : Int) := by omega
 have w1 : IntKind.i64.wrap ((i : Int) + 1) = ((i + 1 : Nat) : Int) := by rw [wr64 (by omega) (by omega)]; omega
 rcases hp with ⟨hne, rfl⟩ | ⟨rfl, hp⟩
 ·have e1 : ((c.toNat : Int) != (d.toNat : Int)) = true := by
   simp only [bne_iff_ne, ne_eq]
   intro e
   exact hne (UInt8.toNat_inj.mp (by omega))
  have e2 : decide ((c.toNat : Int) < (d.toNat : Int)) = decide (c < d) := by
   rw [Bool.eq_iff_iff, decide_eq_true_eq, decide_eq_true_eq, UInt8.lt_iff_toNat_lt]
   omega
  simp only [t2, t3, t5, a0, a1, h0, h2, hc0, hc, hd, e1, e2, q0n, Int.toNat_natCast, r86_0, j6i, tt, bb, bc, ↓bd, Nat.reduceEqDiff, ↓reduceIte]
 ·simp only [t2, t3, t5, a0, a1, h0, h2, hc0, hc, hd, w1, q0n, Int.toNat_natCast, xx, r86_0, tt, bb, bc, ↓bd, Nat.reduceEqDiff, ↓reduceIte]
  refine hp _ _ n x y n' x' y' ?_ ?_ ?_ ?_ ?_
  all_goals first | assumption | simp only [q0b, ↓reduceIte]
theorem y2x {s s' : Bytes} (hs : s.length ≤ 100000) : ∀ (j i : Nat), i + j = s.length → PL s s' (.bool (q4u (s.drop i) (s'.drop i) == -1)) i
 | 0, i, hij => by
  have := y7c (s := s) (s' := s') (i := i) (by omega)
  rw [List.drop_of_length_le (show s.length ≤ i by omega)]
  have e : (q4u [] (s'.drop i) == -1) = decide ((s.length : Int) < (s'.length : Int)) := by
   cases hd : s'.drop i with
   | nil =>
    have : s'.length ≤ i := by have := congrArg List.length hd; simp at this; omega
    have h2 : ¬ (s.length : Int) < (s'.length : Int) := by omega
    simp [q4u, h2]
   | cons c l =>
    have : i < s'.length := by have := congrArg List.length hd; simp at this; omega
    have h2 : (s.length : Int) < (s'.length : Int) := by omega
    simp [q4u, h2]
  rw [e]; exact this
 | j + 1, i, hij => by
  have hi : i < s.length := by omega
  have hd : s.drop i = s[i] :: s.drop (i + 1) := List.drop_eq_getElem_cons hi
  by_cases h2 : i < s'.length
  ·have hd' : s'.drop i = s'[i] :: s'.drop (i + 1) := List.drop_eq_getElem_cons h2
   refine y7e (List.getElem?_eq_getElem hi) (List.getElem?_eq_getElem h2) (by omega) ?_
   rw [hd, hd']
   by_cases e : s[i] = s'[i]
   ·right
    refine ⟨e, ?_⟩
    have := y2x (s' := s') hs j (i + 1) (by omega)
    unfold q4u
    rw [if_pos e]
    exact this
   ·left
    refine ⟨e, ?_⟩
    unfold q4u
    rw [if_neg e]
    by_cases hl : s[i] < s'[i]
    ·simp [hl]
    ·simp [hl]
  ·rw [hd, List.drop_of_length_le (show s'.length ≤ i by omega)]
   have := y7d (s := s) (s' := s') (i := i) hi (by omega)
   have h3 : ¬ (s.length : Int) < (s'.length : Int) := by omega
   simpa [q4u, h3] using this
theorem x5w {k n : Int} {s : Bytes} {x y : Int} {k' n' : Int} {s' : Bytes} {x' y' : Int} (h : q1j k n s x y = true) (h' : q1j k' n' s' x' y' = true) :
  q0k Cx 86 [val k n s x y, val k' n' s' x' y'] (.bool (y0a k n s x y k' n' s' x' y')) := by
 refine q0c (q0l _) w3z ?_
 unfold y0a
 by_cases hk : k = k'
 ·subst hk
  rcases q3p h with ⟨rfl, hn, rfl, rfl, rfl⟩ | ⟨rfl, hs, rfl, rfl, rfl⟩ | ⟨rfl, ⟨hx, hy⟩, rfl, rfl⟩
  ·simp only [r86_0, j6i, tt, bb, bc, ↓bd, Nat.reduceEqDiff, Nat.reduceAdd, ↓reduceIte, reduceCtorEq]
  ·have hp := y2x (s := s) (s' := s') (by omega) s.length 0 (by omega)
   simp only [List.drop_zero] at hp
   simp only [r86_0.1, r86_0.2.1, tt, bb, ↓bd, Nat.reduceEqDiff, Nat.reduceAdd, ↓reduceIte, reduceCtorEq, Int.reduceBEq, Int.reduceEq, Int.reduceNeg]
   refine hp _ _ 0 0 0 n' x' y' ?_ ?_ ?_ ?_ ?_
   all_goals simp only [q0b, Nat.reduceEqDiff, ↓reduceIte]
   all_goals rfl
  ·by_cases e1 : x < x'
   ·simp only [e1, Bool.true_or, r86_0, j6i, tt, bb, bc, ↓bd, Nat.reduceEqDiff, Nat.reduceAdd, ↓reduceIte, reduceCtorEq, Int.reduceBEq, Int.reduceEq]
   ·cases e2 : (x == x') <;>
    simp only [e1, e2, Bool.false_or, r86_0, j6i, tt, bb, bc, ↓bd, Nat.reduceEqDiff, Nat.reduceAdd, ↓reduceIte, reduceCtorEq, Int.reduceBEq, Int.reduceEq]
 ·have hk' : (k != k') = true := by simpa using hk
  simp only [hk, hk', r86_0, j6i, tt, bb, bc, ↓bd, Nat.reduceEqDiff, Nat.reduceAdd, ↓reduceIte, reduceCtorEq]
theorem j9d {k n : Int} {s : Bytes} {x y : Int} {k' n' : Int} {s' : Bytes} {x' y' : Int} (h : q1j k n s x y = true) (h' : q1j k' n' s' x' y' = true) :
  y0a k n s x y k' n' s' x' y' = (x0u k n s x y k' n' s' x' y' == -1) := by
 have c0 : ∀ a : Int, z8y a a = 0 := fun a => (cmpI_cmp.zero a a).mpr rfl
 have l0 : ∀ a : Bytes, q4u a a = 0 := fun a => (cmpL_cmp.zero a a).mpr rfl
 have cl : ∀ a b : Int, (z8y a b == -1) = decide (a < b) := by
  intro a b
  unfold z8y
  split
  ·simp [*]
  ·split <;> simp [*]
 unfold y0a x0u oc
 by_cases hk : k = k'
 ·subst hk
  rw [if_pos rfl, c0, if_pos rfl]
  rcases q3p h with ⟨rfl, hn, rfl, rfl, rfl⟩ | ⟨rfl, hs, rfl, rfl, rfl⟩ | ⟨rfl, ⟨hx, hy⟩, rfl, rfl⟩ <;>
  rcases q3p h' with ⟨e, hn', rfl, rfl, rfl⟩ | ⟨e, hs', rfl, rfl, rfl⟩ | ⟨e, ⟨hx', hy'⟩, rfl, rfl⟩ <;>
  first | (exfalso; omega) | skip
  ·simp only [if_true, c0, l0]
   rw [← cl]
   by_cases g : z8y n n' = 0 <;> simp [g]
  ·simp only [Int.reduceEq, if_true, if_false, c0]
   by_cases g : q4u s s' = 0 <;> simp [g]
  ·simp only [Int.reduceEq, if_true, if_false, c0, l0]
   rw [← cl, ← cl]
   by_cases g : z8y x x' = 0
   ·have : x = x' := (cmpI_cmp.zero x x').mp g
    subst this
    simp [c0]
   ·have : (x == x') = false := by
     simp only [beq_eq_false_iff_ne, ne_eq]
     intro e; exact g ((cmpI_cmp.zero x x').mpr e)
    simp [g, this]
 ·rw [if_neg hk, if_neg (fun e => hk ((cmpI_cmp.zero k k').mp e)), cl]
theorem z0n {k n : Int} {s : Bytes} {x y : Int} {k' n' : Int} {s' : Bytes} {x' y' : Int} (h : q1j k n s x y = true) (h' : q1j k' n' s' x' y' = true) :
  q0k Cx 59 [val k n s x y, val k' n' s' x' y'] (.int .i64 (x0u k n s x y k' n' s' x' y')) := by
 refine q0c (q0l _) w2g ?_
 have a1 := x5w h h'
 have a2 := x5w h' h
 rw [j9d h h'] at a1
 rw [j9d h' h] at a2
 have an : x0u k' n' s' x' y' k n s x y = - x0u k n s x y k' n' s' x' y' := ord_cmp.anti (k, n, s, x, y) (k', n', s', x', y')
 have rg : x0u k n s x y k' n' s' x' y' = -1 ∨ x0u k n s x y k' n' s' x' y' = 0 ∨ x0u k n s x y k' n' s' x' y' = 1 := ord_cmp.rng (k, n, s, x, y) (k', n', s', x', y')
 rw [an] at a2
 rcases rg with e | e | e <;> rw [e] at a1 a2 ⊢ <;>
 simp only [q0a y1t rfl a1, q0a y1t rfl a2, Int.neg_zero, r59_0, w9l, tt, bb, bc, ↓bd, Nat.reduceEqDiff, Nat.reduceAdd, ↓reduceIte, reduceCtorEq, Int.reduceBEq, Int.reduceNeg]
end Go.Proofs.YtckhmpcmlochpaaGreat.G
namespace Go.Proofs.YtckhmpcmlochpaaGreat.G.Gs
open Go.BX
theorem w6m {x : Int} (h : x * x ≤ 281474976710656) : inR x = true := by
 rw [inR_iff]
 constructor
 ·rcases Int.lt_or_le x (-16777216) with h1 | h1
  ·have := Int.mul_nonneg (a := -16777217 - x) (b := 16777217 - x) (by omega) (by omega)
   have e : (-16777217 - x) * (16777217 - x) = x * x - 281475010265089 := by grind
   omega
  ·exact h1
 ·rcases Int.lt_or_le 16777216 x with h1 | h1
  ·have := Int.mul_nonneg (a := x - 16777217) (b := x + 16777217) (by omega) (by omega)
   have e : (x - 16777217) * (x + 16777217) = x * x - 281475010265089 := by grind
   omega
  ·exact h1
theorem w6n {x y : Int} (hx : inR x = true) (hy : inR y = true) : 0 ≤ nrm x y ∧ nrm x y ≤ 562949953421312 := by
 have hN := q8g hx hy
 unfold nrm; omega
theorem j4k (x : Int) : 0 ≤ x * x := by have := x4t x; omega
theorem y7f {a b c d : Int} (hc : inR c = true) (hd : inR d = true) (h0 : ¬ (c = 0 ∧ d = 0)) : inR (rX a b c d) = true ∧ inR (rY a b c d) = true := by
 have h := x5i (a := a) (b := b) h0
 have hN := q8g hc hd
 have h1 := j4k (rX a b c d)
 have h2 := j4k (rY a b c d)
 unfold nrm at h
 exact ⟨w6m (by omega), w6m (by omega)⟩
theorem refRight_ok (x y : Int) : q0k Cx 33 [spot x y] (.bool (inR x && inR y)) := by
 refine q0c (q0l _) y1k ?_
 by_cases h1 : -16777216 ≤ x <;> by_cases h2 : x ≤ 16777216 <;> by_cases h3 : -16777216 ≤ y <;>
 simp only [h1, h2, h3, inR, r33_0, w0x, tt, bb, bc, ↓bd, Nat.reduceEqDiff, Nat.reduceAdd, ↓reduceIte, Int.reduceNeg]
theorem refNorm_ok (x y : Int) (hx : inR x = true) (hy : inR y = true) : q0k Cx 62 [spot x y] (.int .i64 (nrm x y)) := by
 refine q0c (q0l _) w2m ?_
 obtain ⟨h1, h2, h3, h4⟩ := q8g hx hy
 have w1 : IntKind.i64.wrap (x * x) = x * x := wr64 (by omega) (by omega)
 have w2 : IntKind.i64.wrap (y * y) = y * y := wr64 (by omega) (by omega)
 have w3 : IntKind.i64.wrap (x * x + y * y) = x * x + y * y := wr64 (by omega) (by omega)
 simp only [w1, w2, w3, nrm, r62_0, w9m, tt, bb, bc, ↓bd, Nat.reduceEqDiff, Nat.reduceAdd, ↓reduceIte]
def inS (n : Int) : Prop := -16777217 ≤ n ∧ n ≤ 16777217
theorem j4l {n : Int} (h : inR n = true) : inS n := by rw [inR_iff] at h; unfold inS; omega
theorem refMul_ok (a b c d : Int) (ha : inS a) (hb : inS b) (hc : inS c) (hd : inS d) : q0k Cx 83 [spot a b, spot c d] (spot (a * c - b * d) (a * d + b * c)) := by
 refine q0c (q0l _) w3w ?_
 have m1 := z3k ha hc
 have m2 := z3k hb hd
 have m3 := z3k ha hd
 have m4 := z3k hb hc
 have w1 : IntKind.i64.wrap (a * c) = a * c := wr64 (by omega) (by omega)
 have w2 : IntKind.i64.wrap (b * d) = b * d := wr64 (by omega) (by omega)
 have w3 : IntKind.i64.wrap (a * c - b * d) = a * c - b * d := wr64 (by omega) (by omega)
 have w4 : IntKind.i64.wrap (a * d) = a * d := wr64 (by omega) (by omega)
 have w5 : IntKind.i64.wrap (b * c) = b * c := wr64 (by omega) (by omega)
 have w6 : IntKind.i64.wrap (a * d + b * c) = a * d + b * c := wr64 (by omega) (by omega)
 simp only [w1, w2, w3, w4, w5, w6, r83_0, w9s, tt, bb, bc, ↓bd, Nat.reduceEqDiff, Nat.reduceAdd, Nat.reduceLeDiff, ↓reduceIte, reduceCtorEq]
theorem z1s (n d : Int) (hn : -1125899906842624 ≤ n ∧ n ≤ 1125899906842624) (hd : 0 < d ∧ d ≤ 1125899906842624) : q0k Cx 107 [.int .i64 n, .int .i64 d] (.int .i64 (nr n d)) := by
 refine q0c (q0l _) y5g ?_
 have w1 : IntKind.i64.wrap (2 * n) = 2 * n := wr64 (by omega) (by omega)
 have w2 : IntKind.i64.wrap (2 * n + d) = 2 * n + d := wr64 (by omega) (by omega)
 have w3 : IntKind.i64.wrap (2 * d) = 2 * d := wr64 (by omega) (by omega)
 have h0 : (2 * d = 0) = False := by simp; omega
 have hf := z9d (a := 2 * n + d) (b := 2 * d) (by omega)
 have e := Int.tmod_add_mul_tdiv (2 * n + d) (2 * d)
 have hb : -4503599627370496 ≤ (2 * n + d).tdiv (2 * d) ∧ (2 * n + d).tdiv (2 * d) - 1 ≤ 4503599627370496 := by
  have u1 : (2 * n + d) / (2 * d) ≤ 4503599627370496 := Int.ediv_le_of_le_mul (by omega) (by omega)
  have u2 : -4503599627370496 ≤ (2 * n + d) / (2 * d) := Int.le_ediv_of_mul_le (by omega) (by omega)
  rw [hf] at u1 u2
  split at u1 <;> simp_all <;> omega
 have t1 := Int.tmod_lt_of_pos (2 * n + d) (b := 2 * d) (by omega)
 have t2 := Int.tmod_lt_of_pos (-(2 * n + d)) (b := 2 * d) (by omega)
 rw [Int.neg_tmod] at t2
 have e2 : (2 * n + d).tdiv (2 * d) * 2 * d = 2 * d * (2 * n + d).tdiv (2 * d) := by grind
 generalize hq : (2 * n + d).tdiv (2 * d) = q at *
 have w4 : IntKind.i64.wrap q = q := wr64 (by omega) (by omega)
 have w5 : IntKind.i64.wrap (q - 1) = q - 1 := wr64 (by omega) (by omega)
 have w6 : IntKind.i64.wrap (q * 2) = q * 2 := wr64 (by omega) (by omega)
 have w7 : IntKind.i64.wrap (q * 2 * d) = q * 2 * d := by rw [e2]; exact wr64 (by omega) (by omega)
 have hh : (2 * n + d < q * 2 * d) = ((2 * n + d).tmod (2 * d) < 0) := by rw [e2]; exact propext ⟨fun _ => by omega, fun _ => by omega⟩
 by_cases h : (2 * n + d).tmod (2 * d) < 0
 ·simp only [h, hq, hh, w1, w2, w3, w4, w5, w6, w7, h0, nr, hf, r107_0, y1z, tt, bb, bc, ↓bd, Nat.reduceEqDiff, ↓reduceIte, reduceCtorEq]
 ·simp only [h, hq, hh, w1, w2, w3, w4, w6, w7, h0, nr, hf, r107_0, y1z, tt, bb, bc, ↓bd, Nat.reduceEqDiff, ↓reduceIte, reduceCtorEq]
theorem refDiv_ok (a b c d : Int) (ha : inR a = true) (hb : inR b = true) (hc : inR c = true) (hd : inR d = true) (h0 : ¬ (c = 0 ∧ d = 0)) :
  q0k Cx 84 [spot a b, spot c d] (.tuple [spot (qX a b c d) (qY a b c d), spot (rX a b c d) (rY a b c d)]) := by
 refine q0c (q0l _) w3x ?_
 have hp := j6r h0
 have hNm := w6n hc hd
 obtain ⟨z1, z2, z3, z4⟩ := x4u (c := c) (d := d) ha hb
 have ha' := inR_iff.mp ha
 have hb' := inR_iff.mp hb
 have hc' := inR_iff.mp hc
 have hd' := inR_iff.mp hd
 have b1 := z3k ha' hc'
 have b2 := z3k hb' (b := 0 - d) (M := 16777216) (by omega)
 have b3 := z3k ha' (b := 0 - d) (M := 16777216) (by omega)
 have b4 := z3k hb' hc'
 have q1 : -16777216 ≤ qX a b c d ∧ qX a b c d ≤ 16777217 := z4k hp ⟨z1, z2⟩
 have q2 : -16777216 ≤ qY a b c d ∧ qY a b c d ≤ 16777217 := z4k hp ⟨z3, z4⟩
 have w1 : IntKind.i64.wrap (0 - d) = 0 - d := wr64 (by omega) (by omega)
 have hr := y7f (a := a) (b := b) hc hd h0
 have r1 := inR_iff.mp hr.1
 have r2 := inR_iff.mp hr.2
 have w2 : IntKind.i64.wrap (a - (qX a b c d * c - qY a b c d * d)) = rX a b c d := by
  show IntKind.i64.wrap (rX a b c d) = _
  exact wr64 (by omega) (by omega)
 have w3 : IntKind.i64.wrap (b - (qX a b c d * d + qY a b c d * c)) = rY a b c d := by
  show IntKind.i64.wrap (rY a b c d) = _
  exact wr64 (by omega) (by omega)
 have m1 := refMul_ok a b c (0 - d) (j4l ha) (j4l hb) (j4l hc) (by unfold inS; omega)
 have m2 := refMul_ok (qX a b c d) (qY a b c d) c d (by unfold inS; omega) (by unfold inS; omega) (j4l hc) (j4l hd)
 have e1 : q0k Cx 107 [.int .i64 (a * c - b * (0 - d)), .int .i64 (nrm c d)] (.int .i64 (qX a b c d)) := z1s _ _ (by omega) (by omega)
 have e2 : q0k Cx 107 [.int .i64 (a * (0 - d) + b * c), .int .i64 (nrm c d)] (.int .i64 (qY a b c d)) := z1s _ _ (by omega) (by omega)
 simp only [w1, w2, w3, q0a x3v rfl m1, q0a x3v rfl m2, q0a y1o rfl (refNorm_ok c d hc hd), q0a x4a rfl e1, q0a x4a rfl e2, r84_0, w9t, tt, bb, bc, ↓bd, Nat.reduceEqDiff, Nat.reduceAdd, Nat.reduceLeDiff, ↓reduceIte, reduceCtorEq, Nat.reduceBneDiff]
end Go.Proofs.YtckhmpcmlochpaaGreat.G.Gs
namespace Go.Proofs.YtckhmpcmlochpaaGreat.G
open Go.BX
theorem q1s (x : Int) : q0k Cx 37 [.int .i64 x] (q1o (nV x)) := by
 refine q0c (q0l _) w1e ?_
 simp only [r37_0, w9i, tt, bb, bc, ↓bd, Nat.reduceEqDiff, Nat.reduceAdd, Nat.reduceLeDiff, ↓reduceIte, reduceCtorEq]
theorem q6u (s : Bytes) : q0k Cx 36 [.str s] (q1o (tV s)) := by
 refine q0c (q0l _) w1d ?_
 simp only [r36_0, w9h, tt, bb, bc, ↓bd, Nat.reduceEqDiff, Nat.reduceAdd, Nat.reduceLeDiff, ↓reduceIte, reduceCtorEq]
theorem z0o (b : Bool) : q0k Cx 60 [.bool b] (q1o (x1i b)) := by
 refine q0c (q0l _) w2h ?_
 cases b with
 | true =>
  simp only [q0a q3r rfl (q1s 1), r60_0, w2i, tt, bb, bc, ↓bd, Nat.reduceEqDiff, Nat.reduceAdd, ↓reduceIte, reduceCtorEq]
  rfl
 | false =>
  simp only [q0a q3r rfl (q1s 0), Bool.false_eq_true, r60_0, w2i, tt, bb, bc, ↓bd, Nat.reduceEqDiff, Nat.reduceAdd, ↓reduceIte, reduceCtorEq]
  rfl
theorem y7g (a : Int) (h : -9007199254740992 ≤ a ∧ a ≤ 9007199254740992) : q0k Cx 85 [.int .i64 a] (.int .i64 (a.natAbs : Int)) := by
 refine q0c (q0l _) w3y ?_
 have w1 : IntKind.i64.wrap (0 - a) = -a := by rw [wr64 (by omega) (by omega)]; omega
 have hm : y0v .i64 a [.int .i64 (-a)] = some (a.natAbs : Int) := by
  rw [maxE]
  congr 1
  omega
 simp only [w1, hm, Option.map_some, q0i, r85_0, w9u, tt, bb, bc, ↓bd, Nat.reduceEqDiff, ↓reduceIte, reduceCtorEq]
section
variable {fn : FuncId} {T : Nat → AV} {ds : List ADef} {ro : Option Nat} {k : List AItem} {Q : AV → AHeap → Prop} {dst : Option Nat} {os : List AO}
theorem q1x {M : Mch} {n : Nat} {A : Nat → Blk} {s : St} {v : Vl} (h : MR M n A s) (he : s.err = 0) (hk : ∀ n' A', MR M n' A' (q1t (q9l v) s).2 → Keep M.b n A A' → n ≤ n' → q0d Cx fn (putA T dst (q1o (q1t (q9l v) s).1)) ds ro os k ⟨n', A'⟩ Q) :
  q0g Cx fn T ds ro 61 [.ptr M.b 22 0 0, q1o v] dst os k ⟨n, A⟩ Q := by
 refine q0s w2l (q0l _) w2j ?_
 have r := refRight_ok v.k v.n v.s v.x v.y
 have eo : q1j v.k v.n v.s v.x v.y = okV v := rfl
 rw [eo] at r
 have h2 := (h.up1 (.cells 26 5 [[.int .i64 v.k, .int .i64 v.n, .str v.s, .int .i64 v.x, .int .i64 v.y]])).up1 (.cells 26 5 [[.int .i64 0, .int .i64 0, .str [], .int .i64 0, .int .i64 0]])
 have kp : Keep M.b n A (upd (upd A n (.cells 26 5 [[.int .i64 v.k, .int .i64 v.n, .str v.s, .int .i64 v.x, .int .i64 v.y]])) (n + 1) (.cells 26 5 [[.int .i64 0, .int .i64 0, .str [], .int .i64 0, .int .i64 0]])) := ((Keep.refl _ _ _).up1 (Nat.le_refl _) _).up1 (by omega) _
 have hb := h.lt
 have e1 : (n = n + 1) = False := eq_false (by omega)
 cases ho : okV v with
 | true =>
  rw [ho] at r
  have ec : q1t (q9l v) s = (v, s) := by unfold q9l; rw [if_pos ho]; rfl
  rw [ec] at hk
  simp only [e1, q0a q3q rfl r, r61_0, w2k, tt, bb, bc, ↓bd, Nat.reduceEqDiff, Nat.reduceAdd, ↓reduceIte]
  exact hk (n + 1 + 1) _ (h2.upo (c := n + 1) (by omega) (by rw [q0b, if_pos rfl]; exact q3k) _) (kp.up1 (by omega) _) (by omega)
 | false =>
  rw [ho] at r
  have ec : q1t (q9l v) s = (zV, q1f 14 s) := by unfold q9l q1f; rw [if_neg (by simp [ho]), if_pos he]; rfl
  rw [ec] at hk
  simp only [e1, q0a q3q rfl r, r61_0, tt, bb, bc, ↓bd, Nat.reduceEqDiff, Nat.reduceAdd, ↓reduceIte, reduceCtorEq]
  refine q0q h2 ?_
  intro n' A' hm hkp hn
  have hc := hkp.at (c := n + 1) (by omega) (by omega) (by rw [q0b, if_pos rfl]) (by decide)
  simp only [hc, w2k, tt, bb, bc, ↓bd, Nat.reduceEqDiff, Nat.reduceAdd, ↓reduceIte]
  exact hk n' _ (hm.upo (c := n + 1) (by omega) (by rw [hc]; exact q3k) _) ((kp.trans (by omega) hkp).up1 (by omega) _) (by omega)
def q1p (ks : List Int) (vs : List Vl) : Bool := (ks.zip vs).all fun p => p.2.k == p.1
structure IS (M : Mch) (j n : Nat) (A : Nat → Blk) (ks : List Int) : Prop where
 lt : j < n
 ne : j ≠ M.b
 cell : A j = .cells 3 1 (ks.map fun x => [.int .i64 x])
theorem x5x {M : Mch} {s : St} {g j n0 : Nat} {A0 : Nat → Blk} {ks : List Int} {vs : List Vl} {Q : AV → AHeap → Prop} (hl : ks.length ≤ vs.length) (hvl : vs.length ≤ 3)
  (hQ : ∀ n A, MR M n A (if q1p ks vs then s else q1f 13 s) → Keep M.b n0 A0 A → n0 ≤ n → Q (.bool (q1p ks vs)) ⟨n, A⟩) :
  ∀ (m i : Nat) (T : Nat → AV) (n : Nat) (A : Nat → Blk), i + m = ks.length → q1p ks vs = q1p (ks.drop i) (vs.drop i) → MR M n A s → AS M g n A vs → IS M j n A ks → Keep M.b n0 A0 A → n0 ≤ n → T 0 = .ptr M.b 22 0 0 → T 1 = .slc g 5 0 vs.length → T 2 = .slc j 1 0 ks.length → T 7 = .int .i64 (i : Int) →
   Run Cx 57 T [] none [.inLoop c57_7, .inBlock 0, .code c57_25] ⟨n, A⟩ Q
 | 0, i, T, n, A, hij, hkm, hm, ha, hi2, hkp, hn, t0, t1, t2, t7 => by
  rw [run_inLoop]
  have c0 : ¬ (i : Int) < (ks.length : Int) := by omega
  have e : q1p ks vs = true := by rw [hkm, List.drop_of_length_le (show ks.length ≤ i by omega)]; rfl
  rw [e, if_pos rfl] at hQ
  simp only [t2, t7, c0, i64, xx, r57_0, w2c, tt, bb, bc, ↓bd, Nat.reduceEqDiff, ↓reduceIte]
  exact hQ n A hm hkp hn
 | m + 1, i, T, n, A, hij, hkm, hm, ha, hi2, hkp, hn, t0, t1, t2, t7 => by
  rw [run_inLoop]
  have hi : i < ks.length := by omega
  have hiv : i < vs.length := by omega
  have c0 : (i : Int) < (ks.length : Int) := by omega
  have c1 : (i : Int) < (vs.length : Int) := by omega
  have p0 : (0 : Int) ≤ (i : Int) := by omega
  have g0 := q3a (List.getElem?_eq_getElem hiv)
  have g1 : (ks.map fun x => [AV.int .i64 x])[i]? = some [.int .i64 ks[i]] := by rw [List.getElem?_map, List.getElem?_eq_getElem hi]; rfl
  have hg := ha.cell
  have hj := hi2.cell
  have w1 : IntKind.i64.wrap ((i : Int) + 1) = ((i + 1 : Nat) : Int) := by rw [wr64 (by omega) (by omega)]; omega
  have q9o : q1p (ks.drop i) (vs.drop i) = (((vs[i]).k == ks[i]) && q1p (ks.drop (i + 1)) (vs.drop (i + 1))) := by
   rw [List.drop_eq_getElem_cons hi, List.drop_eq_getElem_cons hiv]; rfl
  cases hc : ((vs[i]).k == ks[i]) with
  | true =>
   rw [hc, Bool.true_and] at q9o
   have hbn : ((vs[i]).k != ks[i]) = false := by simp only [bne, hc, Bool.not_true]
   simp only [t1, t2, t7, c0, c1, p0, g0, g1, hg, hj, w1, hbn, i64, Int.toNat_natCast, xx, r57_0.2.1, tt, bb, bc, ↓bd, Nat.reduceEqDiff, ↓reduceIte]
   refine x5x hl hvl hQ m (i + 1) _ _ _ (by omega) (hkm.trans q9o) hm ha hi2 hkp hn ?_ ?_ ?_ ?_
   all_goals simp only [q0b, t0, t1, t2, Nat.reduceEqDiff, ↓reduceIte]
  | false =>
   rw [hc, Bool.false_and] at q9o
   have hbn : ((vs[i]).k != ks[i]) = true := by simp only [bne, hc, Bool.not_false]
   rw [hkm.trans q9o] at hQ
   simp only [t0, t1, t2, t7, c0, c1, p0, g0, g1, hg, hj, hbn, i64, Int.toNat_natCast, r57_0, tt, bb, bc, ↓bd, Nat.reduceEqDiff, ↓reduceIte, reduceCtorEq]
   refine q0q hm ?_
   intro n' A' hm' q1z hn'
   simp only [w2c, tt, bb, bc, ↓bd, ↓reduceIte]
   exact hQ n' A' hm' (hkp.trans (by omega) q1z) (by omega)
theorem q1w {M : Mch} {n g j a b : Nat} {A : Nat → Blk} {s : St} {ks : List Int} {vs : List Vl} (h : MR M n A s) (ha : AS M g n A vs) (hi : IS M j n A ks) (hl : ks.length ≤ vs.length) (hvl : vs.length ≤ 3) (ea : a = vs.length) (eb : b = ks.length)
  (hk : ∀ n' A', MR M n' A' (if q1p ks vs then s else q1f 13 s) → Keep M.b n A A' → n ≤ n' → q0d Cx fn (putA T dst (.bool (q1p ks vs))) ds ro os k ⟨n', A'⟩ Q) :
  q0g Cx fn T ds ro 57 [.ptr M.b 22 0 0, .slc g 5 0 a, .slc j 1 0 b] dst os k ⟨n, A⟩ Q := by
 subst ea eb
 refine q0s w2d (q0l _) w2b ?_
 simp only [r57_0.1, tt, bb, ↓bd]
 refine x5x (M := M) (s := s) (g := g) (j := j) (n0 := n) (A0 := A) hl hvl ?_ ks.length 0 _ n A (by omega) rfl h ha hi (Keep.refl _ _ _) (Nat.le_refl _) ?_ ?_ ?_ ?_
 ·intro n' A' h1 h2 h3
  exact hk n' A' h1 h2 h3
 all_goals simp only [q0b, q1g, qez, Nat.reduceEqDiff, ↓reduceIte]
 all_goals rfl
end
theorem j4m {a b : Int} (h : a.tmod b ≠ 0) : decide (a.tmod b < 0) = decide (a < 0) := by
 rw [decide_eq_decide]
 by_cases ha : 0 ≤ a
 ·have := Int.tmod_nonneg b ha
  omega
 ·have h1 : 0 ≤ (-a).tmod b := Int.tmod_nonneg b (by omega)
  rw [Int.neg_tmod] at h1
  omega
theorem y7h (a b : Int) (h0 : a ≠ 0) : (decide (((9007199254740992 / a.natAbs : Nat) : Int) < b) || decide (b < -((9007199254740992 / a.natAbs : Nat) : Int))) = ovM a b := by
 have h1 : ovM a b = decide (9007199254740992 / a.natAbs < b.natAbs) := by
  unfold ovM
  rw [decide_eq_decide]
  exact (Nat.div_lt_iff_lt_mul (x := 9007199254740992) (y := b.natAbs) (k := a.natAbs) (by omega)).symm
 rw [h1, ← Bool.decide_or, decide_eq_decide]
 omega
section
variable {fn : FuncId} {T : Nat → AV} {ds : List ADef} {ro : Option Nat} {k : List AItem} {Q : AV → AHeap → Prop} {dst : Option Nat} {os : List AO}
theorem q3m {M : Mch} {n : Nat} {A : Nat → Blk} {s : St} {op a b : Int} (h : MR M n A s) (he : s.err = 0) (ra : -9007199254740992 ≤ a ∧ a ≤ 9007199254740992) (rb : -9007199254740992 ≤ b ∧ b ≤ 9007199254740992) (hop : op = 2 ∨ op = 3 ∨ op = 4 ∨ op = 5 ∨ op = 6)
  (hk : ∀ n' A', MR M n' A' (q1t (z6v op a b) s).2 → Keep M.b n A A' → n ≤ n' → q0d Cx fn (putA T dst (q1o (q1t (z6v op a b) s).1)) ds ro os k ⟨n', A'⟩ Q) :
  q0g Cx fn T ds ro 58 [.ptr M.b 22 0 0, .str (q0e op), .int .i64 a, .int .i64 b] dst os k ⟨n, A⟩ Q := by
 refine q0s w2f (q0l _) w2e ?_
 have hb := h.lt
 have h2 := h.up1 zB
 have fin : ∀ (n' : Nat) (A' : Nat → Blk), Keep M.b (n + 1) (upd A n zB) A' → A' n = .cells 26 5 [[.int .i64 0, .int .i64 0, .str [], .int .i64 0, .int .i64 0]] := fun n' A' hkp => q0f hb hkp
 have bad : ∀ {e : Int}, z6v op a b = .bad e → ∀ n' A', MR M n' A' (q1f e s) → Keep M.b (n + 1) (upd A n zB) A' → n + 1 ≤ n' → ∀ X, q0d Cx fn (putA T dst (q1o zV)) ds ro os k ⟨n', upd A' n X⟩ Q := by
  intro e hr n' A' hm hkp hn X
  rw [hr, q0m he] at hk
  exact q0t hb hm hkp hn hk
 have chk : ∀ {v : Vl}, z6v op a b = q9l v → ∀ n' A', MR M n' A' (q1t (q9l v) s).2 → Keep M.b (n + 1) (upd A n zB) A' → n + 1 ≤ n' → ∀ X, q0d Cx fn (putA T dst (q1o (q1t (q9l v) s).1)) ds ro os k ⟨n', upd A' n X⟩ Q := by
  intro v hr n' A' hm hkp hn X
  rw [hr] at hk
  exact q0t hb hm hkp hn hk
 have d := y2m (b := b) ra
 rcases hop with rfl | rfl | rfl | rfl | rfl
 ·have q1 : (q0e 2 == [97, 100, 100]) = true := rfl
  have w1 : IntKind.i64.wrap (a + b) = a + b := wr64 (by omega) (by omega)
  simp only [q1, w1, q0a q3r rfl (q1s (a + b)), r58_0, tt, bb, bc, ↓bd, Nat.reduceEqDiff, ↓reduceIte, reduceCtorEq]
  refine q1x h2 he ?_
  intro n' A' hm hkp hn
  simp only [fin n' A' hkp, z1j, tt, bb, bc, ↓bd, Nat.reduceEqDiff, Nat.reduceAdd, ↓reduceIte]
  exact chk rfl n' A' hm hkp hn _
 ·have q1 : (q0e 3 == [97, 100, 100]) = false := rfl
  have q2 : (q0e 3 == [115, 117, 98]) = true := rfl
  have w1 : IntKind.i64.wrap (a - b) = a - b := wr64 (by omega) (by omega)
  simp only [q1, q2, w1, q0a q3r rfl (q1s (a - b)), r58_0, tt, bb, bc, ↓bd, Nat.reduceEqDiff, ↓reduceIte, reduceCtorEq]
  refine q1x h2 he ?_
  intro n' A' hm hkp hn
  simp only [fin n' A' hkp, z1j, tt, bb, bc, ↓bd, Nat.reduceEqDiff, Nat.reduceAdd, ↓reduceIte]
  exact chk rfl n' A' hm hkp hn _
 ·have q1 : (q0e 4 == [97, 100, 100]) = false := rfl
  have q2 : (q0e 4 == [115, 117, 98]) = false := rfl
  have q3 : (q0e 4 == [109, 117, 108]) = true := rfl
  have eN : z6v 4 a b = q9l (nV (a * b)) := rfl
  by_cases h0 : a = 0
  ·have z : (a != 0) = false := by simp [h0]
   have w1 : IntKind.i64.wrap (a * b) = a * b := by rw [h0, Int.zero_mul]; rfl
   simp only [q1, q2, q3, z, w1, q0a q3r rfl (q1s (a * b)), r58_0, tt, bb, bc, ↓bd, Nat.reduceEqDiff, ↓reduceIte, reduceCtorEq]
   refine q1x h2 he ?_
   intro n' A' hm hkp hn
   simp only [fin n' A' hkp, z1j, tt, bb, bc, ↓bd, Nat.reduceEqDiff, Nat.reduceAdd, ↓reduceIte]
   exact chk eN n' A' hm hkp hn _
  ·have z : (a != 0) = true := by simpa using h0
   have z0 : ((a.natAbs : Int) = 0) = False := eq_false (by omega)
   have t1 : (9007199254740992 : Int).tdiv (a.natAbs : Int) = ((9007199254740992 / a.natAbs : Nat) : Int) := by
    rw [Int.tdiv_eq_ediv_of_nonneg (by decide)]; rfl
   have le : 9007199254740992 / a.natAbs ≤ 9007199254740992 := Nat.div_le_self _ _
   have cmp := y7h a b h0
   generalize hq : 9007199254740992 / a.natAbs = q at t1 le cmp
   have w3 : IntKind.i64.wrap (q : Int) = (q : Int) := wr64 (by omega) (by omega)
   have w4 : IntKind.i64.wrap (0 - (q : Int)) = -(q : Int) := by rw [wr64 (by omega) (by omega)]; omega
   have w7u := y7g a ra
   have badm : ovM a b = true → z6v 4 a b = .bad 14 := fun ho => by rw [eN]; unfold q9l; rw [if_neg (by rw [y2o ho]; decide)]
   by_cases c1 : (q : Int) < b
   ·have ho : ovM a b = true := by rw [← cmp]; simp [c1]
    simp only [q1, q2, q3, z, z0, t1, w3, c1, q0a x3w rfl w7u, r58_0, tt, bb, bc, ↓bd, Nat.reduceEqDiff, ↓reduceIte, reduceCtorEq]
    refine q0q h2 ?_
    intro n' A' hm hkp hn
    simp only [fin n' A' hkp, z1j, tt, bb, bc, ↓bd, Nat.reduceEqDiff, Nat.reduceAdd, ↓reduceIte]
    exact bad (badm ho) n' A' hm hkp hn _
   ·by_cases c2 : b < -(q : Int)
    ·have ho : ovM a b = true := by rw [← cmp]; simp [c2]
     simp only [q1, q2, q3, z, z0, t1, w3, w4, c1, c2, q0a x3w rfl w7u, r58_0, tt, bb, bc, ↓bd, Nat.reduceEqDiff, ↓reduceIte, reduceCtorEq]
     refine q0q h2 ?_
     intro n' A' hm hkp hn
     simp only [fin n' A' hkp, z1j, tt, bb, bc, ↓bd, Nat.reduceEqDiff, Nat.reduceAdd, ↓reduceIte]
     exact bad (badm ho) n' A' hm hkp hn _
    ·have ho : ovM a b = false := by rw [← cmp]; simp [c1, c2]
     have mb := w6b ho
     have w1 : IntKind.i64.wrap (a * b) = a * b := wr64 (by omega) (by omega)
     simp only [q1, q2, q3, z, z0, t1, w1, w3, w4, c1, c2, q0a x3w rfl w7u, q0a q3r rfl (q1s (a * b)), r58_0, tt, bb, bc, ↓bd, Nat.reduceEqDiff, ↓reduceIte, reduceCtorEq]
     refine q1x h2 he ?_
     intro n' A' hm hkp hn
     simp only [fin n' A' hkp, z1j, tt, bb, bc, ↓bd, Nat.reduceEqDiff, Nat.reduceAdd, ↓reduceIte]
     exact chk eN n' A' hm hkp hn _
 ·have q1 : (q0e 5 == [97, 100, 100]) = false := rfl
  have q2 : (q0e 5 == [115, 117, 98]) = false := rfl
  have q3 : (q0e 5 == [109, 117, 108]) = false := rfl
  have q4 : (q0e 5 == [109, 111, 100]) = false := rfl
  have eN : z6v 5 a b = if b = 0 then .bad 16 else q9l (nV (q3t a b).1) := rfl
  by_cases hb0 : b = 0
  ·rw [if_pos hb0] at eN
   have z0 : (b == 0) = true := by simp [hb0]
   simp only [q1, q2, q3, z0, xx, r58_0, tt, bb, bc, ↓bd, Nat.reduceEqDiff, ↓reduceIte, reduceCtorEq]
   refine q0q h2 ?_
   intro n' A' hm hkp hn
   simp only [fin n' A' hkp, z1j, tt, bb, bc, ↓bd, Nat.reduceEqDiff, Nat.reduceAdd, ↓reduceIte]
   exact bad eN n' A' hm hkp hn _
  ·rw [if_neg hb0] at eN
   have z0 : (b == 0) = false := by simp [hb0]
   have z1 : (b = 0) = False := eq_false hb0
   have w1 : IntKind.i64.wrap (a.tdiv b) = a.tdiv b := wr64 (by omega) (by omega)
   have w2 : IntKind.i64.wrap (a.tdiv b - 1) = a.tdiv b - 1 := wr64 (by omega) (by omega)
   cases h1 : (a.tmod b != 0) with
   | false =>
    have ed : (q3t a b).1 = a.tdiv b := by unfold q3t; rw [h1]; rfl
    rw [ed] at eN
    simp only [q1, q2, q3, q4, z0, z1, w1, h1, q0a q3r rfl (q1s (a.tdiv b)), xx, r58_0, tt, bb, bc, ↓bd, Nat.reduceEqDiff, ↓reduceIte, reduceCtorEq]
    refine q1x h2 he ?_
    intro n' A' hm hkp hn
    simp only [fin n' A' hkp, z1j, tt, bb, bc, ↓bd, Nat.reduceEqDiff, Nat.reduceAdd, ↓reduceIte]
    exact chk eN n' A' hm hkp hn _
   | true =>
    have hs := j4m (a := a) (b := b) (by simpa using h1)
    have hq : ∀ x y : Bool, (!(x == y)) = (x != y) := fun _ _ => rfl
    cases h3 : (decide (a < 0) != decide (b < 0)) with
    | false =>
     have ed : (q3t a b).1 = a.tdiv b := by unfold q3t; rw [h1, hs, h3]; rfl
     rw [ed] at eN
     simp only [q1, q2, q3, q4, z0, z1, w1, h1, hq, h3, q0a q3r rfl (q1s (a.tdiv b)), xx, r58_0, tt, bb, bc, ↓bd, Nat.reduceEqDiff, ↓reduceIte, reduceCtorEq]
     refine q1x h2 he ?_
     intro n' A' hm hkp hn
     simp only [fin n' A' hkp, z1j, tt, bb, bc, ↓bd, Nat.reduceEqDiff, Nat.reduceAdd, ↓reduceIte]
     exact chk eN n' A' hm hkp hn _
    | true =>
     have ed : (q3t a b).1 = a.tdiv b - 1 := by unfold q3t; rw [h1, hs, h3]; rfl
     rw [ed] at eN
     simp only [q1, q2, q3, q4, z0, z1, w1, w2, h1, hq, h3, q0a q3r rfl (q1s (a.tdiv b - 1)), xx, r58_0, tt, bb, bc, ↓bd, Nat.reduceEqDiff, ↓reduceIte, reduceCtorEq]
     refine q1x h2 he ?_
     intro n' A' hm hkp hn
     simp only [fin n' A' hkp, z1j, tt, bb, bc, ↓bd, Nat.reduceEqDiff, Nat.reduceAdd, ↓reduceIte]
     exact chk eN n' A' hm hkp hn _
 ·have q1 : (q0e 6 == [97, 100, 100]) = false := rfl
  have q2 : (q0e 6 == [115, 117, 98]) = false := rfl
  have q3 : (q0e 6 == [109, 117, 108]) = false := rfl
  have q4 : (q0e 6 == [109, 111, 100]) = true := rfl
  have eN : z6v 6 a b = if b = 0 then .bad 16 else .val (nV (q3t a b).2) := rfl
  by_cases hb0 : b = 0
  ·rw [if_pos hb0] at eN
   have z0 : (b == 0) = true := by simp [hb0]
   simp only [q1, q2, q3, z0, xx, r58_0, tt, bb, bc, ↓bd, Nat.reduceEqDiff, ↓reduceIte, reduceCtorEq]
   refine q0q h2 ?_
   intro n' A' hm hkp hn
   simp only [fin n' A' hkp, z1j, tt, bb, bc, ↓bd, Nat.reduceEqDiff, Nat.reduceAdd, ↓reduceIte]
   exact bad eN n' A' hm hkp hn _
  ·rw [if_neg hb0] at eN
   have z0 : (b == 0) = false := by simp [hb0]
   have z1 : (b = 0) = False := eq_false hb0
   have hqr : b * a.tdiv b + a.tmod b = a := Int.mul_tdiv_add_tmod a b
   have hm := y2n (a := a) hb0 rb
   have w1 : IntKind.i64.wrap (a.tdiv b) = a.tdiv b := wr64 (by omega) (by omega)
   have w2 : IntKind.i64.wrap (a.tdiv b - 1) = a.tdiv b - 1 := wr64 (by omega) (by omega)
   have m1 : a.tdiv b * b = a - a.tmod b := by rw [Int.mul_comm]; omega
   have m2 : (a.tdiv b - 1) * b = a - a.tmod b - b := by rw [Int.sub_mul, m1, Int.one_mul]
   have w3 : IntKind.i64.wrap (a - a.tmod b) = a - a.tmod b := wr64 (by omega) (by omega)
   have w4 : IntKind.i64.wrap (a - a.tmod b - b) = a - a.tmod b - b := wr64 (by omega) (by omega)
   have w5 : IntKind.i64.wrap (a - (a - a.tmod b)) = a.tmod b := by rw [wr64 (by omega) (by omega)]; omega
   have w6 : IntKind.i64.wrap (a - (a - a.tmod b - b)) = a.tmod b + b := by rw [wr64 (by omega) (by omega)]; omega
   rw [eN] at hk
   cases h1 : (a.tmod b != 0) with
   | false =>
    have ed : (q3t a b).2 = a.tmod b := by unfold q3t; rw [h1]; rfl
    rw [ed] at hk
    simp only [q1, q2, q3, q4, z0, z1, w1, m1, w3, w5, h1, q0a q3r rfl (q1s (a.tmod b)), xx, r58_0, z1j, tt, bb, bc, ↓bd, Nat.reduceEqDiff, Nat.reduceAdd, ↓reduceIte]
    exact z4n h hk
   | true =>
    have hs := j4m (a := a) (b := b) (by simpa using h1)
    have hq : ∀ x y : Bool, (!(x == y)) = (x != y) := fun _ _ => rfl
    cases h3 : (decide (a < 0) != decide (b < 0)) with
    | false =>
     have ed : (q3t a b).2 = a.tmod b := by unfold q3t; rw [h1, hs, h3]; rfl
     rw [ed] at hk
     simp only [q1, q2, q3, q4, z0, z1, w1, m1, w3, w5, h1, hq, h3, q0a q3r rfl (q1s (a.tmod b)), xx, r58_0, z1j, tt, bb, bc, ↓bd, Nat.reduceEqDiff, Nat.reduceAdd, ↓reduceIte]
     exact z4n h hk
    | true =>
     have ed : (q3t a b).2 = a.tmod b + b := by unfold q3t; rw [h1, hs, h3]; rfl
     rw [ed] at hk
     simp only [q1, q2, q3, q4, z0, z1, w1, w2, m2, w4, w6, h1, hq, h3, q0a q3r rfl (q1s (a.tmod b + b)), xx, r58_0, z1j, tt, bb, bc, ↓bd, Nat.reduceEqDiff, Nat.reduceAdd, ↓reduceIte]
     exact z4n h hk
end
section
variable {fn : FuncId} {T : Nat → AV} {ds : List ADef} {ro : Option Nat} {k : List AItem} {Q : AV → AHeap → Prop} {dst : Option Nat} {os : List AO}
set_option maxRecDepth 20000 in
theorem q5n {M : Mch} {n : Nat} {A : Nat → Blk} {s : St} {op a b c d : Int} (h : MR M n A s) (he : s.err = 0) (hop : op = 2 ∨ op = 3 ∨ op = 4 ∨ op = 5 ∨ op = 6) (hi : ((inR a && inR b) && (inR c && inR d)) = true)
  (hk : ∀ n' A', MR M n' A' (q1t (q6d op a b c d) s).2 → Keep M.b n A A' → n ≤ n' → q0d Cx fn (putA T dst (q1o (q1t (q6d op a b c d) s).1)) ds ro os k ⟨n', A'⟩ Q) :
  q0g Cx fn T ds ro 56 [.ptr M.b 22 0 0, .str (q0e op), .agg [.int .i64 a, .int .i64 b], .agg [.int .i64 c, .int .i64 d]] dst os k ⟨n, A⟩ Q := by
 refine q0s w2a (q0l _) w1z ?_
 simp only [Bool.and_eq_true] at hi
 obtain ⟨⟨ia, ib⟩, ic, id⟩ := hi
 have ia' := inR_iff.mp ia
 have ib' := inR_iff.mp ib
 have ic' := inR_iff.mp ic
 have id' := inR_iff.mp id
 have hb := h.lt
 have e1 : (n = n + 1) = False := eq_false (by omega)
 have e2 : (n = n + 1 + 1) = False := eq_false (by omega)
 have e3 : (n + 1 = n + 1 + 1) = False := eq_false (by omega)
 have e4 : (n = n + 1 + 1 + 1) = False := eq_false (by omega)
 have e5 : (n + 1 = n + 1 + 1 + 1) = False := eq_false (by omega)
 have uu : ∀ (A : Nat → Blk) (c : Nat) (X Y : Blk), upd (upd A c X) c Y = upd A c Y := fun A c X Y => z4l A c X Y
 have mm : ∀ x y, MR M (n + 1 + 1 + 1 + 1) (upd (upd (upd (upd A n (.cells 24 2 [[.int .i64 a, .int .i64 b]])) (n + 1) (.cells 24 2 [[.int .i64 c, .int .i64 d]])) (n + 1 + 1) zB) (n + 1 + 1 + 1) (q3o (pV x y))) s := fun x y => (((h.up1 _).up1 _).up1 _).up1 _
 have kk : ∀ x y, Keep M.b n A (upd (upd (upd (upd A n (.cells 24 2 [[.int .i64 a, .int .i64 b]])) (n + 1) (.cells 24 2 [[.int .i64 c, .int .i64 d]])) (n + 1 + 1) zB) (n + 1 + 1 + 1) (q3o (pV x y))) := fun x y => ((((Keep.refl _ _ _).up1 (Nat.le_refl _) _).up1 (by omega) _).up1 (by omega) _).up1 (by omega) _
 have cellr : ∀ (x y : Int) (n' : Nat) (A' : Nat → Blk), Keep M.b (n + 1 + 1 + 1 + 1) (upd (upd (upd (upd A n (.cells 24 2 [[.int .i64 a, .int .i64 b]])) (n + 1) (.cells 24 2 [[.int .i64 c, .int .i64 d]])) (n + 1 + 1) zB) (n + 1 + 1 + 1) (q3o (pV x y))) A' → A' (n + 1 + 1) = .cells 26 5 [[.int .i64 0, .int .i64 0, .str [], .int .i64 0, .int .i64 0]] :=
  fun x y n' A' hkp => q6f hkp (by rw [q0b, if_neg (by omega), q0b, if_pos rfl]) (by omega) (by omega) (by decide)
 have chk : ∀ (x y : Int), q6d op a b c d = z7s x y → ∀ n' A', MR M n' A' (q1t (q9l (pV x y)) s).2 → Keep M.b (n + 1 + 1 + 1 + 1) (upd (upd (upd (upd A n (.cells 24 2 [[.int .i64 a, .int .i64 b]])) (n + 1) (.cells 24 2 [[.int .i64 c, .int .i64 d]])) (n + 1 + 1) zB) (n + 1 + 1 + 1) (q3o (pV x y))) A' → n + 1 + 1 + 1 + 1 ≤ n' → ∀ X, q0d Cx fn (putA T dst (q1o (q1t (q9l (pV x y)) s).1)) ds ro os k ⟨n', upd A' (n + 1 + 1) X⟩ Q := by
  intro x y hr n' A' hm hkp hn X
  rw [hr, ← z9h] at hk
  have hc := cellr x y n' A' hkp
  exact hk n' _ (hm.upo (c := n + 1 + 1) (by omega) (by rw [hc]; exact q3k) X) (((kk x y).trans (by omega) hkp).up1 (by omega) X) (by omega)
 rcases hop with rfl | rfl | rfl | rfl | rfl
 ·have q1 : (q0e 2 == [97, 100, 100]) = true := rfl
  have w1 : IntKind.i64.wrap (a + c) = a + c := wr64 (by omega) (by omega)
  have w2 : IntKind.i64.wrap (b + d) = b + d := wr64 (by omega) (by omega)
  simp only [q1, w1, w2, e1, e2, e3, e4, e5, uu, xx, r56_0, tt, bb, bc, ↓bd, Nat.reduceEqDiff, Nat.reduceAdd, Nat.reduceLeDiff, ↓reduceIte, reduceCtorEq]
  refine q1x (v := pV (a + c) (b + d)) (mm (a + c) (b + d)) he ?_
  intro n' A' hm hkp hn
  simp only [cellr _ _ n' A' hkp, z6l, tt, bb, bc, ↓bd, Nat.reduceEqDiff, Nat.reduceAdd, ↓reduceIte]
  exact chk _ _ rfl n' A' hm hkp hn _
 ·have q1 : (q0e 3 == [97, 100, 100]) = false := rfl
  have q2 : (q0e 3 == [115, 117, 98]) = true := rfl
  have w1 : IntKind.i64.wrap (a - c) = a - c := wr64 (by omega) (by omega)
  have w2 : IntKind.i64.wrap (b - d) = b - d := wr64 (by omega) (by omega)
  simp only [q1, q2, w1, w2, e1, e2, e3, e4, e5, uu, xx, r56_0, tt, bb, bc, ↓bd, Nat.reduceEqDiff, Nat.reduceAdd, Nat.reduceLeDiff, ↓reduceIte, reduceCtorEq]
  refine q1x (v := pV (a - c) (b - d)) (mm (a - c) (b - d)) he ?_
  intro n' A' hm hkp hn
  simp only [cellr _ _ n' A' hkp, z6l, tt, bb, bc, ↓bd, Nat.reduceEqDiff, Nat.reduceAdd, ↓reduceIte]
  exact chk _ _ rfl n' A' hm hkp hn _
 ·have q1 : (q0e 4 == [97, 100, 100]) = false := rfl
  have q2 : (q0e 4 == [115, 117, 98]) = false := rfl
  have q3 : (q0e 4 == [109, 117, 108]) = true := rfl
  have hmul := Gs.refMul_ok a b c d ⟨by omega, by omega⟩ ⟨by omega, by omega⟩ ⟨by omega, by omega⟩ ⟨by omega, by omega⟩
  simp only [q1, q2, q3, e1, e2, e3, e4, e5, uu, q0a x3v rfl hmul, xx, r56_0, tt, bb, bc, ↓bd, Nat.reduceEqDiff, Nat.reduceAdd, Nat.reduceLeDiff, ↓reduceIte, reduceCtorEq]
  refine q1x (v := pV (a * c - b * d) (a * d + b * c)) (mm (a * c - b * d) (a * d + b * c)) he ?_
  intro n' A' hm hkp hn
  simp only [cellr _ _ n' A' hkp, z6l, tt, bb, bc, ↓bd, Nat.reduceEqDiff, Nat.reduceAdd, ↓reduceIte]
  exact chk _ _ rfl n' A' hm hkp hn _
 ·have q1 : (q0e 5 == [97, 100, 100]) = false := rfl
  have q2 : (q0e 5 == [115, 117, 98]) = false := rfl
  have q3 : (q0e 5 == [109, 117, 108]) = false := rfl
  have q4 : (q0e 5 == [109, 111, 100]) = false := rfl
  by_cases h00 : c = 0 ∧ d = 0
  ·have z0 : ((c == 0) && (d == 0)) = true := by simp [h00]
   have eN : q6d 5 a b c d = .bad 16 := by unfold q6d; simp [h00]
   simp only [q1, q2, q3, z0, e3, e5, uu, r56_0, tt, bb, bc, ↓bd, Nat.reduceEqDiff, Nat.reduceAdd, Nat.reduceLeDiff, ↓reduceIte, reduceCtorEq]
   refine q0q (mm 0 0) ?_
   intro n' A' hm hkp hn
   simp only [cellr _ _ n' A' hkp, z6l, tt, bb, bc, ↓bd, Nat.reduceEqDiff, Nat.reduceAdd, ↓reduceIte]
   rw [eN, q0m he] at hk
   exact hk n' _ (hm.upo (c := n + 1 + 1) (by omega) (by rw [cellr _ _ n' A' hkp]; exact q3k) _) (((kk 0 0).trans (by omega) hkp).up1 (by omega) _) (by omega)
  ·have z0 : ((c == 0) && (d == 0)) = false := by
    cases hz : ((c == 0) && (d == 0)) with
    | false => rfl
    | true => exact absurd (by simpa using hz) h00
   have x1m : q0k Cx 84 [.agg [.int .i64 a, .int .i64 b], .agg [.int .i64 c, .int .i64 d]] (.tuple [.agg [.int .i64 (Gs.qX a b c d), .int .i64 (Gs.qY a b c d)], .agg [.int .i64 (Gs.rX a b c d), .int .i64 (Gs.rY a b c d)]]) := Gs.refDiv_ok a b c d ia ib ic id h00
   skip
   have e7 : (n + 1 = n) = False := eq_false (by omega)
   have e10 : (n + 2 = n) = False := eq_false (by omega)
   have e11 : (n = n + 2) = False := eq_false (by omega)
   have e8 : (n + 1 + 1 + 1 = n + 1 + 1 + 1 + 1) = False := eq_false (by omega)
   have e9 : (n + 1 + 1 + 1 = n + 1 + 1 + 1 + 1 + 1) = False := eq_false (by omega)
   have r1 : q0k Cx 33 [.agg [.int .i64 (Gs.qX a b c d), .int .i64 (Gs.qY a b c d)]] (.bool (inR (Gs.qX a b c d) && inR (Gs.qY a b c d))) := Gs.refRight_ok (Gs.qX a b c d) (Gs.qY a b c d)
   have r2 : q0k Cx 33 [.agg [.int .i64 (Gs.rX a b c d), .int .i64 (Gs.rY a b c d)]] (.bool (inR (Gs.rX a b c d) && inR (Gs.rY a b c d))) := Gs.refRight_ok (Gs.rX a b c d) (Gs.rY a b c d)
   have i24 : ∀ {es : List (List AV)} {k : Nat}, ¬ x0z (.cells 24 k es) := by
    intro es k
    show ¬ (24 = 49)
    decide
   have m6 : ∀ x y, MR M (n + 1 + 1 + 1 + 1 + 1 + 1) (upd (upd (upd (upd (upd (upd (upd (upd A n (.cells 24 2 [[.int .i64 a, .int .i64 b]])) (n + 1) (.cells 24 2 [[.int .i64 c, .int .i64 d]])) (n + 1 + 1) zB) (n + 1 + 1 + 1) (q3o (pV x y))) (n + 1 + 1 + 1 + 1) (.cells 24 2 [[.int .i64 0, .int .i64 0]])) (n + 1 + 1 + 1 + 1 + 1) (.cells 24 2 [[.int .i64 0, .int .i64 0]])) (n + 1 + 1 + 1 + 1) (.cells 24 2 [[.int .i64 (Gs.qX a b c d), .int .i64 (Gs.qY a b c d)]])) (n + 1 + 1 + 1 + 1 + 1) (.cells 24 2 [[.int .i64 (Gs.rX a b c d), .int .i64 (Gs.rY a b c d)]])) s := fun x y =>
    ((((mm x y).up1 _).up1 _).upo (c := n + 1 + 1 + 1 + 1) (by omega) (by rw [q0b, if_neg (by omega), q0b, if_pos rfl]; exact i24) _).upo (c := n + 1 + 1 + 1 + 1 + 1) (by omega) (by rw [q0b, if_neg (by omega), q0b, if_pos rfl]; exact i24) _
   have k6 : Keep M.b n A (upd (upd (upd (upd (upd (upd (upd (upd A n (.cells 24 2 [[.int .i64 a, .int .i64 b]])) (n + 1) (.cells 24 2 [[.int .i64 c, .int .i64 d]])) (n + 1 + 1) zB) (n + 1 + 1 + 1) (q3o (pV 0 0))) (n + 1 + 1 + 1 + 1) (.cells 24 2 [[.int .i64 0, .int .i64 0]])) (n + 1 + 1 + 1 + 1 + 1) (.cells 24 2 [[.int .i64 0, .int .i64 0]])) (n + 1 + 1 + 1 + 1) (.cells 24 2 [[.int .i64 (Gs.qX a b c d), .int .i64 (Gs.qY a b c d)]])) (n + 1 + 1 + 1 + 1 + 1) (.cells 24 2 [[.int .i64 (Gs.rX a b c d), .int .i64 (Gs.rY a b c d)]])) := ((((kk 0 0).up1 (by omega) _).up1 (by omega) _).up1 (n' := n + 1 + 1 + 1 + 1) (by omega) _).up1 (n' := n + 1 + 1 + 1 + 1 + 1) (by omega) _
   have c6 : (upd (upd (upd (upd (upd (upd (upd (upd A n (.cells 24 2 [[.int .i64 a, .int .i64 b]])) (n + 1) (.cells 24 2 [[.int .i64 c, .int .i64 d]])) (n + 1 + 1) zB) (n + 1 + 1 + 1) (q3o (pV 0 0))) (n + 1 + 1 + 1 + 1) (.cells 24 2 [[.int .i64 0, .int .i64 0]])) (n + 1 + 1 + 1 + 1 + 1) (.cells 24 2 [[.int .i64 0, .int .i64 0]])) (n + 1 + 1 + 1 + 1) (.cells 24 2 [[.int .i64 (Gs.qX a b c d), .int .i64 (Gs.qY a b c d)]])) (n + 1 + 1 + 1 + 1 + 1) (.cells 24 2 [[.int .i64 (Gs.rX a b c d), .int .i64 (Gs.rY a b c d)]])) (n + 1 + 1) = zB := by
    rw [q0b, if_neg (by omega), q0b, if_neg (by omega), q0b, if_neg (by omega), q0b, if_neg (by omega), q0b, if_neg (by omega), q0b, if_pos rfl]
   have cell6 : ∀ (n' : Nat) (A' : Nat → Blk), Keep M.b (n + 1 + 1 + 1 + 1 + 1 + 1) (upd (upd (upd (upd (upd (upd (upd (upd A n (.cells 24 2 [[.int .i64 a, .int .i64 b]])) (n + 1) (.cells 24 2 [[.int .i64 c, .int .i64 d]])) (n + 1 + 1) zB) (n + 1 + 1 + 1) (q3o (pV 0 0))) (n + 1 + 1 + 1 + 1) (.cells 24 2 [[.int .i64 0, .int .i64 0]])) (n + 1 + 1 + 1 + 1 + 1) (.cells 24 2 [[.int .i64 0, .int .i64 0]])) (n + 1 + 1 + 1 + 1) (.cells 24 2 [[.int .i64 (Gs.qX a b c d), .int .i64 (Gs.qY a b c d)]])) (n + 1 + 1 + 1 + 1 + 1) (.cells 24 2 [[.int .i64 (Gs.rX a b c d), .int .i64 (Gs.rY a b c d)]])) A' → A' (n + 1 + 1) = .cells 26 5 [[.int .i64 0, .int .i64 0, .str [], .int .i64 0, .int .i64 0]] := fun n' A' hkp => q6f hkp c6 (by omega) (by omega) (by decide)
   cases h1 : (inR (Gs.qX a b c d) && inR (Gs.qY a b c d)) with
   | false =>
    rw [h1] at r1
    have eN : q6d 5 a b c d = .bad 14 := by unfold q6d; simp [h00, h1]
    simp only [q1, q2, q3, z0, e1, e2, e3, e4, e5, e7, uu, q0a z8v rfl x1m, q0a q7k rfl r1, r56_0, tt, bb, bc, ↓bd, Nat.reduceEqDiff, Nat.reduceAdd, Nat.reduceLeDiff, ↓reduceIte, reduceCtorEq]
    refine q0q (m6 0 0) ?_
    intro n' A' hm hkp hn
    have hc := cell6 n' A' hkp
    simp only [hc, z6l, tt, bb, bc, ↓bd, Nat.reduceEqDiff, Nat.reduceAdd, ↓reduceIte]
    rw [eN, q0m he] at hk
    exact hk n' _ (hm.upo (c := n + 1 + 1) (by omega) (by rw [hc]; exact q3k) _) ((k6.trans (by omega) hkp).up1 (by omega) _) (by omega)
   | true =>
    rw [h1] at r1
    cases h2 : (inR (Gs.rX a b c d) && inR (Gs.rY a b c d)) with
    | false =>
     rw [h2] at r2
     have eN : q6d 5 a b c d = .bad 14 := by unfold q6d; simp [h00, h1, h2]
     simp only [q1, q2, q3, z0, e1, e2, e3, e4, e5, e7, uu, q0a z8v rfl x1m, q0a q7k rfl r1, q0a q7k rfl r2, r56_0, tt, bb, bc, ↓bd, Nat.reduceEqDiff, Nat.reduceAdd, Nat.reduceLeDiff, ↓reduceIte, reduceCtorEq]
     refine q0q (m6 0 0) ?_
     intro n' A' hm hkp hn
     have hc := cell6 n' A' hkp
     simp only [hc, z6l, tt, bb, bc, ↓bd, Nat.reduceEqDiff, Nat.reduceAdd, ↓reduceIte]
     rw [eN, q0m he] at hk
     exact hk n' _ (hm.upo (c := n + 1 + 1) (by omega) (by rw [hc]; exact q3k) _) ((k6.trans (by omega) hkp).up1 (by omega) _) (by omega)
    | true =>
     rw [h2] at r2
     have eN : q6d 5 a b c d = z7s (Gs.qX a b c d) (Gs.qY a b c d) := by
      have e9 : q6d 5 a b c d = .val (pV (Gs.qX a b c d) (Gs.qY a b c d)) := by unfold q6d; simp [h00, h1, h2]
      rw [e9]; unfold z7s; rw [if_pos h1]
     simp only [q1, q2, q3, q4, z0, e1, e2, e3, e4, e5, e7, e8, e9, uu, q0a z8v rfl x1m, q0a q7k rfl r1, q0a q7k rfl r2, xx, r56_0, tt, bb, bc, ↓bd, Nat.reduceEqDiff, Nat.reduceAdd, Nat.reduceLeDiff, ↓reduceIte, reduceCtorEq]
     have m7 := (m6 0 0).upo (c := n + 1 + 1 + 1) (by omega) (by rw [q0b, if_neg (by omega), q0b, if_neg (by omega), q0b, if_neg (by omega), q0b, if_neg (by omega), q0b, if_pos rfl]; exact q3k) (q3o (pV (Gs.qX a b c d) (Gs.qY a b c d)))
     refine q1x (v := pV (Gs.qX a b c d) (Gs.qY a b c d)) m7 he ?_
     intro n' A' hm hkp hn
     have hc : A' (n + 1 + 1) = .cells 26 5 [[.int .i64 0, .int .i64 0, .str [], .int .i64 0, .int .i64 0]] := q6f hkp (by rw [q0b, if_neg (by omega)]; exact c6) (by omega) (by omega) (by decide)
     simp only [hc, z6l, tt, bb, bc, ↓bd, Nat.reduceEqDiff, Nat.reduceAdd, ↓reduceIte]
     rw [eN, ← z9h] at hk
     exact hk n' _ (hm.upo (c := n + 1 + 1) (by omega) (by rw [hc]; exact q3k) _) (((k6.up1 (n' := n + 1 + 1 + 1) (by omega) _).trans (by omega) hkp).up1 (by omega) _) (by omega)
 ·have q1 : (q0e 6 == [97, 100, 100]) = false := rfl
  have q2 : (q0e 6 == [115, 117, 98]) = false := rfl
  have q3 : (q0e 6 == [109, 117, 108]) = false := rfl
  have q4 : (q0e 6 == [109, 111, 100]) = true := rfl
  by_cases h00 : c = 0 ∧ d = 0
  ·have z0 : ((c == 0) && (d == 0)) = true := by simp [h00]
   have eN : q6d 6 a b c d = .bad 16 := by unfold q6d; simp [h00]
   simp only [q1, q2, q3, z0, e3, e5, uu, r56_0, tt, bb, bc, ↓bd, Nat.reduceEqDiff, Nat.reduceAdd, Nat.reduceLeDiff, ↓reduceIte, reduceCtorEq]
   refine q0q (mm 0 0) ?_
   intro n' A' hm hkp hn
   simp only [cellr _ _ n' A' hkp, z6l, tt, bb, bc, ↓bd, Nat.reduceEqDiff, Nat.reduceAdd, ↓reduceIte]
   rw [eN, q0m he] at hk
   exact hk n' _ (hm.upo (c := n + 1 + 1) (by omega) (by rw [cellr _ _ n' A' hkp]; exact q3k) _) (((kk 0 0).trans (by omega) hkp).up1 (by omega) _) (by omega)
  ·have z0 : ((c == 0) && (d == 0)) = false := by
    cases hz : ((c == 0) && (d == 0)) with
    | false => rfl
    | true => exact absurd (by simpa using hz) h00
   have x1m : q0k Cx 84 [.agg [.int .i64 a, .int .i64 b], .agg [.int .i64 c, .int .i64 d]] (.tuple [.agg [.int .i64 (Gs.qX a b c d), .int .i64 (Gs.qY a b c d)], .agg [.int .i64 (Gs.rX a b c d), .int .i64 (Gs.rY a b c d)]]) := Gs.refDiv_ok a b c d ia ib ic id h00
   skip
   have e7 : (n + 1 = n) = False := eq_false (by omega)
   have e10 : (n + 2 = n) = False := eq_false (by omega)
   have e11 : (n = n + 2) = False := eq_false (by omega)
   have e8 : (n + 1 + 1 + 1 = n + 1 + 1 + 1 + 1) = False := eq_false (by omega)
   have e9 : (n + 1 + 1 + 1 = n + 1 + 1 + 1 + 1 + 1) = False := eq_false (by omega)
   have r1 : q0k Cx 33 [.agg [.int .i64 (Gs.qX a b c d), .int .i64 (Gs.qY a b c d)]] (.bool (inR (Gs.qX a b c d) && inR (Gs.qY a b c d))) := Gs.refRight_ok (Gs.qX a b c d) (Gs.qY a b c d)
   have r2 : q0k Cx 33 [.agg [.int .i64 (Gs.rX a b c d), .int .i64 (Gs.rY a b c d)]] (.bool (inR (Gs.rX a b c d) && inR (Gs.rY a b c d))) := Gs.refRight_ok (Gs.rX a b c d) (Gs.rY a b c d)
   have i24 : ∀ {es : List (List AV)} {k : Nat}, ¬ x0z (.cells 24 k es) := by
    intro es k
    show ¬ (24 = 49)
    decide
   have m6 : ∀ x y, MR M (n + 1 + 1 + 1 + 1 + 1 + 1) (upd (upd (upd (upd (upd (upd (upd (upd A n (.cells 24 2 [[.int .i64 a, .int .i64 b]])) (n + 1) (.cells 24 2 [[.int .i64 c, .int .i64 d]])) (n + 1 + 1) zB) (n + 1 + 1 + 1) (q3o (pV x y))) (n + 1 + 1 + 1 + 1) (.cells 24 2 [[.int .i64 0, .int .i64 0]])) (n + 1 + 1 + 1 + 1 + 1) (.cells 24 2 [[.int .i64 0, .int .i64 0]])) (n + 1 + 1 + 1 + 1) (.cells 24 2 [[.int .i64 (Gs.qX a b c d), .int .i64 (Gs.qY a b c d)]])) (n + 1 + 1 + 1 + 1 + 1) (.cells 24 2 [[.int .i64 (Gs.rX a b c d), .int .i64 (Gs.rY a b c d)]])) s := fun x y =>
    ((((mm x y).up1 _).up1 _).upo (c := n + 1 + 1 + 1 + 1) (by omega) (by rw [q0b, if_neg (by omega), q0b, if_pos rfl]; exact i24) _).upo (c := n + 1 + 1 + 1 + 1 + 1) (by omega) (by rw [q0b, if_neg (by omega), q0b, if_pos rfl]; exact i24) _
   have k6 : Keep M.b n A (upd (upd (upd (upd (upd (upd (upd (upd A n (.cells 24 2 [[.int .i64 a, .int .i64 b]])) (n + 1) (.cells 24 2 [[.int .i64 c, .int .i64 d]])) (n + 1 + 1) zB) (n + 1 + 1 + 1) (q3o (pV 0 0))) (n + 1 + 1 + 1 + 1) (.cells 24 2 [[.int .i64 0, .int .i64 0]])) (n + 1 + 1 + 1 + 1 + 1) (.cells 24 2 [[.int .i64 0, .int .i64 0]])) (n + 1 + 1 + 1 + 1) (.cells 24 2 [[.int .i64 (Gs.qX a b c d), .int .i64 (Gs.qY a b c d)]])) (n + 1 + 1 + 1 + 1 + 1) (.cells 24 2 [[.int .i64 (Gs.rX a b c d), .int .i64 (Gs.rY a b c d)]])) := ((((kk 0 0).up1 (by omega) _).up1 (by omega) _).up1 (n' := n + 1 + 1 + 1 + 1) (by omega) _).up1 (n' := n + 1 + 1 + 1 + 1 + 1) (by omega) _
   have c6 : (upd (upd (upd (upd (upd (upd (upd (upd A n (.cells 24 2 [[.int .i64 a, .int .i64 b]])) (n + 1) (.cells 24 2 [[.int .i64 c, .int .i64 d]])) (n + 1 + 1) zB) (n + 1 + 1 + 1) (q3o (pV 0 0))) (n + 1 + 1 + 1 + 1) (.cells 24 2 [[.int .i64 0, .int .i64 0]])) (n + 1 + 1 + 1 + 1 + 1) (.cells 24 2 [[.int .i64 0, .int .i64 0]])) (n + 1 + 1 + 1 + 1) (.cells 24 2 [[.int .i64 (Gs.qX a b c d), .int .i64 (Gs.qY a b c d)]])) (n + 1 + 1 + 1 + 1 + 1) (.cells 24 2 [[.int .i64 (Gs.rX a b c d), .int .i64 (Gs.rY a b c d)]])) (n + 1 + 1) = zB := by
    rw [q0b, if_neg (by omega), q0b, if_neg (by omega), q0b, if_neg (by omega), q0b, if_neg (by omega), q0b, if_neg (by omega), q0b, if_pos rfl]
   have cell6 : ∀ (n' : Nat) (A' : Nat → Blk), Keep M.b (n + 1 + 1 + 1 + 1 + 1 + 1) (upd (upd (upd (upd (upd (upd (upd (upd A n (.cells 24 2 [[.int .i64 a, .int .i64 b]])) (n + 1) (.cells 24 2 [[.int .i64 c, .int .i64 d]])) (n + 1 + 1) zB) (n + 1 + 1 + 1) (q3o (pV 0 0))) (n + 1 + 1 + 1 + 1) (.cells 24 2 [[.int .i64 0, .int .i64 0]])) (n + 1 + 1 + 1 + 1 + 1) (.cells 24 2 [[.int .i64 0, .int .i64 0]])) (n + 1 + 1 + 1 + 1) (.cells 24 2 [[.int .i64 (Gs.qX a b c d), .int .i64 (Gs.qY a b c d)]])) (n + 1 + 1 + 1 + 1 + 1) (.cells 24 2 [[.int .i64 (Gs.rX a b c d), .int .i64 (Gs.rY a b c d)]])) A' → A' (n + 1 + 1) = .cells 26 5 [[.int .i64 0, .int .i64 0, .str [], .int .i64 0, .int .i64 0]] := fun n' A' hkp => q6f hkp c6 (by omega) (by omega) (by decide)
   cases h1 : (inR (Gs.qX a b c d) && inR (Gs.qY a b c d)) with
   | false =>
    rw [h1] at r1
    have eN : q6d 6 a b c d = .bad 14 := by unfold q6d; simp [h00, h1]
    simp only [q1, q2, q3, z0, e1, e2, e3, e4, e5, e7, uu, q0a z8v rfl x1m, q0a q7k rfl r1, r56_0, tt, bb, bc, ↓bd, Nat.reduceEqDiff, Nat.reduceAdd, Nat.reduceLeDiff, ↓reduceIte, reduceCtorEq]
    refine q0q (m6 0 0) ?_
    intro n' A' hm hkp hn
    have hc := cell6 n' A' hkp
    simp only [hc, z6l, tt, bb, bc, ↓bd, Nat.reduceEqDiff, Nat.reduceAdd, ↓reduceIte]
    rw [eN, q0m he] at hk
    exact hk n' _ (hm.upo (c := n + 1 + 1) (by omega) (by rw [hc]; exact q3k) _) ((k6.trans (by omega) hkp).up1 (by omega) _) (by omega)
   | true =>
    rw [h1] at r1
    cases h2 : (inR (Gs.rX a b c d) && inR (Gs.rY a b c d)) with
    | false =>
     rw [h2] at r2
     have eN : q6d 6 a b c d = .bad 14 := by unfold q6d; simp [h00, h1, h2]
     simp only [q1, q2, q3, z0, e1, e2, e3, e4, e5, e7, uu, q0a z8v rfl x1m, q0a q7k rfl r1, q0a q7k rfl r2, r56_0, tt, bb, bc, ↓bd, Nat.reduceEqDiff, Nat.reduceAdd, Nat.reduceLeDiff, ↓reduceIte, reduceCtorEq]
     refine q0q (m6 0 0) ?_
     intro n' A' hm hkp hn
     have hc := cell6 n' A' hkp
     simp only [hc, z6l, tt, bb, bc, ↓bd, Nat.reduceEqDiff, Nat.reduceAdd, ↓reduceIte]
     rw [eN, q0m he] at hk
     exact hk n' _ (hm.upo (c := n + 1 + 1) (by omega) (by rw [hc]; exact q3k) _) ((k6.trans (by omega) hkp).up1 (by omega) _) (by omega)
    | true =>
     rw [h2] at r2
     have eN : q6d 6 a b c d = z7s (Gs.rX a b c d) (Gs.rY a b c d) := by
      have e9 : q6d 6 a b c d = .val (pV (Gs.rX a b c d) (Gs.rY a b c d)) := by unfold q6d; simp [h00, h1, h2]
      rw [e9]; unfold z7s; rw [if_pos h2]
     simp only [q1, q2, q3, q4, z0, e1, e2, e3, e4, e5, e7, e8, e9, e10, uu, q0a z8v rfl x1m, q0a q7k rfl r1, q0a q7k rfl r2, xx, r56_0, tt, bb, bc, ↓bd, Nat.reduceEqDiff, Nat.reduceAdd, Nat.reduceLeDiff, ↓reduceIte, reduceCtorEq]
     have m7 := (m6 0 0).upo (c := n + 1 + 1 + 1) (by omega) (by rw [q0b, if_neg (by omega), q0b, if_neg (by omega), q0b, if_neg (by omega), q0b, if_neg (by omega), q0b, if_pos rfl]; exact q3k) (q3o (pV (Gs.rX a b c d) (Gs.rY a b c d)))
     refine q1x (v := pV (Gs.rX a b c d) (Gs.rY a b c d)) m7 he ?_
     intro n' A' hm hkp hn
     have hc : A' (n + 1 + 1) = .cells 26 5 [[.int .i64 0, .int .i64 0, .str [], .int .i64 0, .int .i64 0]] := q6f hkp (by rw [q0b, if_neg (by omega)]; exact c6) (by omega) (by omega) (by decide)
     simp only [hc, z6l, tt, bb, bc, ↓bd, Nat.reduceEqDiff, Nat.reduceAdd, ↓reduceIte]
     rw [eN, ← z9h] at hk
     exact hk n' _ (hm.upo (c := n + 1 + 1) (by omega) (by rw [hc]; exact q3k) _) (((k6.up1 (n' := n + 1 + 1 + 1) (by omega) _).trans (by omega) hkp).up1 (by omega) _) (by omega)
end
abbrev H3 (A : Nat → Blk) (n : Nat) (a b : Vl) : Nat → Blk := upd (upd (upd A n zB) (n + 1) (q3o a)) (n + 1 + 1) (q3o b)
section
variable {fn : FuncId} {T : Nat → AV} {ds : List ADef} {ro : Option Nat} {k : List AItem} {Q : AV → AHeap → Prop} {dst : Option Nat} {os : List AO}
theorem q2l {M : Mch} {n g m : Nat} {A : Nat → Blk} {s : St} {w : Bytes} {vs : List Vl} {a b : Vl} (h : MR M n A s) (ha : AS M g n A vs) (hf : vs[0]? = some a) (hl : vs[vs.length - 1]? = some b) (hv : vs.length ≤ 3) (em : m = vs.length)
  (hgo : ∀ T' : Nat → AV, T' 0 = .ptr M.b 22 0 0 → T' 1 = .str w → T' 2 = .slc g 5 0 m → T' 6 = .ptr n 5 0 0 → T' 7 = .ptr (n + 1) 5 0 0 → T' 8 = .ptr (n + 1 + 1) 5 0 0 →
   Run Cx 38 T' [] none [.code c38_6] ⟨n + 1 + 1 + 1, H3 A n a b⟩ (fun r H1 => q0d Cx fn (putA T dst r) ds ro os k H1 Q)) :
  q0g Cx fn T ds ro 38 [.ptr M.b 22 0 0, .str w, .slc g 5 0 m] dst os k ⟨n, A⟩ Q := by
 subst em
 refine q0s w1g (q0l _) w1f ?_
 have gl := ha.lt
 have hg := ha.cell
 have v1u : 0 < vs.length := by
  cases vs with
  | nil => cases hf
  | cons v r => simp
 have gn : (g = n) = False := eq_false (by omega)
 have gn1 : (g = n + 1) = False := eq_false (by omega)
 have p0 : (0 : Int) < (vs.length : Int) := by omega
 have w1 : IntKind.i64.wrap ((vs.length : Int) - 1) = ((vs.length - 1 : Nat) : Int) := by rw [wr64 (by omega) (by omega)]; omega
 have p1 : (0 : Int) ≤ ((vs.length - 1 : Nat) : Int) := by omega
 have p2 : ((vs.length - 1 : Nat) : Int) < (vs.length : Int) := by omega
 have g0 := q3a hf
 have g1 := q3a hl
 have uu : ∀ (A : Nat → Blk) (c : Nat) (X Y : Blk), upd (upd A c X) c Y = upd A c Y := fun A c X Y => z4l A c X Y
 simp only [gn, gn1, p0, p1, p2, w1, hg, g0, g1, uu, i64, Int.toNat_natCast, Int.toNat_zero, r38_0.1, tt, bb, bc, ↓bd, Nat.reduceEqDiff, Nat.reduceAdd, ↓reduceIte, Int.reduceLE]
 refine hgo _ ?_ ?_ ?_ ?_ ?_ ?_
 all_goals simp only [q0b, q1g, qez, Nat.reduceEqDiff, ↓reduceIte]
end
section
variable {fn : FuncId} {T : Nat → AV} {ds : List ADef} {ro : Option Nat} {k : List AItem} {Q : AV → AHeap → Prop} {dst : Option Nat} {os : List AO}
theorem y7i {M : Mch} {n : Nat} {A : Nat → Blk} {a b : Vl} (hb : M.b < n) : Keep M.b n A (H3 A n a b) := (((Keep.refl _ _ _).up1 (Nat.le_refl _) _).up1 (n' := n + 1) (by omega) _).up1 (n' := n + 1 + 1) (by omega) _
theorem q6g {M : Mch} {n : Nat} {A : Nat → Blk} {s : St} {a b : Vl} (h : MR M n A s) : MR M (n + 1 + 1 + 1) (H3 A n a b) s := ((h.up1 _).up1 _).up1 _
theorem q6h {M : Mch} {n g : Nat} {A : Nat → Blk} {a b : Vl} {vs : List Vl} (h : AS M g n A vs) : AS M g (n + 1 + 1 + 1) (H3 A n a b) vs := ((h.up1 _).up1 _).up1 _
theorem q0j {M : Mch} {n n' : Nat} {A A' : Nat → Blk} {a b : Vl} (hb : M.b < n) (hkp : Keep M.b (n + 1 + 1 + 1) (H3 A n a b) A') : A' n = .cells 26 5 [[.int .i64 0, .int .i64 0, .str [], .int .i64 0, .int .i64 0]] ∧ A' (n + 1) = .cells 26 5 [[.int .i64 a.k, .int .i64 a.n, .str a.s, .int .i64 a.x, .int .i64 a.y]] ∧ A' (n + 1 + 1) = .cells 26 5 [[.int .i64 b.k, .int .i64 b.n, .str b.s, .int .i64 b.x, .int .i64 b.y]] :=
 ⟨q6f hkp (by unfold H3; rw [q0b, if_neg (by omega), q0b, if_neg (by omega), q0b, if_pos rfl]) (by omega) (by omega) (by decide),
  q6f hkp (by unfold H3; rw [q0b, if_neg (by omega), q0b, if_pos rfl]) (by omega) (by omega) (by decide),
  q6f hkp (by unfold H3; rw [q0b, if_pos rfl]) (by omega) (by omega) (by decide)⟩
theorem q0x {M : Mch} {n n' : Nat} {A A' : Nat → Blk} {a b : Vl} {s' : St} {v : AV} {X : Blk} (hb : M.b < n) (hm : MR M n' A' s') (hkp : Keep M.b (n + 1 + 1 + 1) (H3 A n a b) A') (hn : n + 1 + 1 + 1 ≤ n')
  (hk : ∀ n' A', MR M n' A' s' → Keep M.b n A A' → n ≤ n' → q0d Cx fn (putA T dst v) ds ro os k ⟨n', A'⟩ Q) : q0d Cx fn (putA T dst v) ds ro os k ⟨n', upd A' n X⟩ Q :=
 hk n' _ (hm.upo (c := n) (by omega) (by rw [(q0j (n' := n') hb hkp).1]; exact q3k) X) (((y7i hb).trans (by omega) hkp).up1 (by omega) X) (by omega)
theorem j4n {M : Mch} {n g : Nat} {A : Nat → Blk} {s : St} {op : Int} {a b : Vl} (h : MR M n A s) (he : s.err = 0) (ha : AS M g n A [a, b]) (oa : okV a = true) (ob : okV b = true) (hop : op = 2 ∨ op = 3 ∨ op = 4 ∨ op = 5 ∨ op = 6)
  (hk : ∀ n' A', MR M n' A' (q1t (ap2 op a b s.out.length) s).2 → Keep M.b n A A' → n ≤ n' → q0d Cx fn (putA T dst (q1o (q1t (ap2 op a b s.out.length) s).1)) ds ro os k ⟨n', A'⟩ Q) :
  q0g Cx fn T ds ro 38 [.ptr M.b 22 0 0, .str (q0e op), .slc g 5 0 2] dst os k ⟨n, A⟩ Q := by
 have hb := h.lt
 refine q2l (vs := [a, b]) h ha rfl rfl (by simp) rfl ?_
 intro T' t0 t1 t2 t6 t7 t8
 have hm := q6g (a := a) (b := b) h
 have hs := q6h (a := a) (b := b) ha
 obtain ⟨c0, c1, c2⟩ := q0j (n' := n + 1 + 1 + 1) hb (Keep.refl M.b (n + 1 + 1 + 1) (H3 A n a b))
 have eap : ap2 op a b s.out.length = (if a.k = 2 ∧ b.k = 2 then q6d op a.x a.y b.x b.y else if a.k = 0 ∧ b.k = 0 then z6v op a.n b.n else .bad 13) := by
  unfold ap2
  rw [if_pos (by omega)]
 rw [eap] at hk
 have hz : (a.k = 2 ∧ b.k = 2) ∨ (a.k = 2 ∧ b.k ≠ 2 ∧ ¬ (a.k = 2 ∧ b.k = 2)) ∨ (a.k ≠ 2 ∧ ¬ (a.k = 2 ∧ b.k = 2)) := by omega
 rcases hop with rfl | rfl | rfl | rfl | rfl
 ·have q0 : (q0e 2 == [97, 100, 100]) = true := rfl
  rcases hz with ⟨z1, z2⟩ | ⟨z1, z2, hp⟩ | ⟨z1, hp⟩
  ·have i1 := (q0w oa).2.2 z1
   have i2 := (q0w ob).2.2 z2
   have y1 : (a.k == 2) = true := by simp [z1]
   have y2 : (b.k == 2) = true := by simp [z2]
   rw [if_pos ⟨z1, z2⟩] at hk
   simp only [q0, t0, t1, t7, t8, c1, c2, y1, y2, r38_0, tt, bb, bc, ↓bd, Nat.reduceEqDiff, Nat.reduceAdd, ↓reduceIte, reduceCtorEq]
   refine q5n hm he (by decide) (by rw [i1.1, i1.2, i2.1, i2.2]; rfl) ?_
   intro n' A' hm' hkp hn
   simp only [t6, (q0j (n' := n') hb hkp).1, q1r, tt, bb, bc, ↓bd, Nat.reduceEqDiff, Nat.reduceAdd, ↓reduceIte]
   exact q0x hb hm' hkp hn hk
  ·have y1 : (a.k == 2) = true := by simp [z1]
   have y2 : (b.k == 2) = false := by simp [z2]
   rw [if_neg hp] at hk
   have hI : IS M (n + 1 + 1 + 1) (n + 1 + 1 + 1 + 1) (upd (H3 A n a b) (n + 1 + 1 + 1) (.cells 3 1 [[.int .i64 0], [.int .i64 0]])) [0, 0] := ⟨by omega, by omega, by rw [q0b, if_pos rfl]; rfl⟩
   simp only [q0, t0, t1, t2, t7, t8, c1, c2, y1, y2, r38_0, tt, bb, bc, ↓bd, Nat.reduceEqDiff, Nat.reduceAdd, Nat.reduceMul, Nat.reduceLeDiff, ↓reduceIte, reduceCtorEq, List.reduceReplicate]
   refine q1w (ks := [0, 0]) (vs := [a, b]) (hm.up1 _) (hs.up1 _) hI (by simp) (by simp) rfl rfl ?_
   intro n' A' hm' hkp hn
   have q1z := ((Keep.refl M.b (n + 1 + 1 + 1) (H3 A n a b)).up1 (Nat.le_refl _) (.cells 3 1 [[.int .i64 0], [.int .i64 0]])).trans (by omega) hkp
   obtain ⟨d0, d1, d2⟩ := q0j (n' := n') hb q1z
   by_cases hnn : a.k = 0 ∧ b.k = 0
   ·have e : q1p [0, 0] [a, b] = true := by simp [q1p, hnn.1, hnn.2]
    rw [e, if_pos rfl] at hm'
    rw [if_pos hnn] at hk
    have ra := (q0w oa).1 hnn.1
    have rb := (q0w ob).1 hnn.2
    simp only [e, t0, t1, t7, t8, d1, d2, tt, bb, bc, ↓bd, Nat.reduceEqDiff, ↓reduceIte, reduceCtorEq]
    refine q3m hm' he (by omega) (by omega) (by decide) ?_
    intro n2 A2 hm2 q1k hn2
    have q1u := q1z.trans (by omega) q1k
    simp only [t6, (q0j (n' := n2) hb q1u).1, q1r, tt, bb, bc, ↓bd, Nat.reduceEqDiff, Nat.reduceAdd, ↓reduceIte]
    exact q0x hb hm2 q1u (by omega) hk
   ·have e : q1p [0, 0] [a, b] = false := by
     cases hh : q1p [0, 0] [a, b] with
     | false => rfl
     | true => exact absurd (by simpa [q1p] using hh) hnn
    rw [e, if_neg (by decide)] at hm'
    rw [if_neg hnn, q0m he] at hk
    simp only [e, t6, d0, q1r, tt, bb, bc, ↓bd, Nat.reduceEqDiff, Nat.reduceAdd, ↓reduceIte]
    exact q0x hb hm' q1z (by omega) hk
  ·have y1 : (a.k == 2) = false := by simp [z1]
   rw [if_neg hp] at hk
   have hI : IS M (n + 1 + 1 + 1) (n + 1 + 1 + 1 + 1) (upd (H3 A n a b) (n + 1 + 1 + 1) (.cells 3 1 [[.int .i64 0], [.int .i64 0]])) [0, 0] := ⟨by omega, by omega, by rw [q0b, if_pos rfl]; rfl⟩
   simp only [q0, t0, t1, t2, t7, c1, y1, r38_0, tt, bb, bc, ↓bd, Nat.reduceEqDiff, Nat.reduceAdd, Nat.reduceMul, Nat.reduceLeDiff, ↓reduceIte, reduceCtorEq, List.reduceReplicate]
   refine q1w (ks := [0, 0]) (vs := [a, b]) (hm.up1 _) (hs.up1 _) hI (by simp) (by simp) rfl rfl ?_
   intro n' A' hm' hkp hn
   have q1z := ((Keep.refl M.b (n + 1 + 1 + 1) (H3 A n a b)).up1 (Nat.le_refl _) (.cells 3 1 [[.int .i64 0], [.int .i64 0]])).trans (by omega) hkp
   obtain ⟨d0, d1, d2⟩ := q0j (n' := n') hb q1z
   by_cases hnn : a.k = 0 ∧ b.k = 0
   ·have e : q1p [0, 0] [a, b] = true := by simp [q1p, hnn.1, hnn.2]
    rw [e, if_pos rfl] at hm'
    rw [if_pos hnn] at hk
    have ra := (q0w oa).1 hnn.1
    have rb := (q0w ob).1 hnn.2
    simp only [e, t0, t1, t7, t8, d1, d2, tt, bb, bc, ↓bd, Nat.reduceEqDiff, ↓reduceIte, reduceCtorEq]
    refine q3m hm' he (by omega) (by omega) (by decide) ?_
    intro n2 A2 hm2 q1k hn2
    have q1u := q1z.trans (by omega) q1k
    simp only [t6, (q0j (n' := n2) hb q1u).1, q1r, tt, bb, bc, ↓bd, Nat.reduceEqDiff, Nat.reduceAdd, ↓reduceIte]
    exact q0x hb hm2 q1u (by omega) hk
   ·have e : q1p [0, 0] [a, b] = false := by
     cases hh : q1p [0, 0] [a, b] with
     | false => rfl
     | true => exact absurd (by simpa [q1p] using hh) hnn
    rw [e, if_neg (by decide)] at hm'
    rw [if_neg hnn, q0m he] at hk
    simp only [e, t6, d0, q1r, tt, bb, bc, ↓bd, Nat.reduceEqDiff, Nat.reduceAdd, ↓reduceIte]
    exact q0x hb hm' q1z (by omega) hk
 ·have q0 : (q0e 3 == [97, 100, 100]) = false := rfl
  have q1 : (q0e 3 == [115, 117, 98]) = true := rfl
  rcases hz with ⟨z1, z2⟩ | ⟨z1, z2, hp⟩ | ⟨z1, hp⟩
  ·have i1 := (q0w oa).2.2 z1
   have i2 := (q0w ob).2.2 z2
   have y1 : (a.k == 2) = true := by simp [z1]
   have y2 : (b.k == 2) = true := by simp [z2]
   rw [if_pos ⟨z1, z2⟩] at hk
   simp only [q0, q1, t0, t1, t7, t8, c1, c2, y1, y2, r38_0, tt, bb, bc, ↓bd, Nat.reduceEqDiff, Nat.reduceAdd, ↓reduceIte, reduceCtorEq]
   refine q5n hm he (by decide) (by rw [i1.1, i1.2, i2.1, i2.2]; rfl) ?_
   intro n' A' hm' hkp hn
   simp only [t6, (q0j (n' := n') hb hkp).1, q1r, tt, bb, bc, ↓bd, Nat.reduceEqDiff, Nat.reduceAdd, ↓reduceIte]
   exact q0x hb hm' hkp hn hk
  ·have y1 : (a.k == 2) = true := by simp [z1]
   have y2 : (b.k == 2) = false := by simp [z2]
   rw [if_neg hp] at hk
   have hI : IS M (n + 1 + 1 + 1) (n + 1 + 1 + 1 + 1) (upd (H3 A n a b) (n + 1 + 1 + 1) (.cells 3 1 [[.int .i64 0], [.int .i64 0]])) [0, 0] := ⟨by omega, by omega, by rw [q0b, if_pos rfl]; rfl⟩
   simp only [q0, q1, t0, t1, t2, t7, t8, c1, c2, y1, y2, r38_0, tt, bb, bc, ↓bd, Nat.reduceEqDiff, Nat.reduceAdd, Nat.reduceMul, Nat.reduceLeDiff, ↓reduceIte, reduceCtorEq, List.reduceReplicate]
   refine q1w (ks := [0, 0]) (vs := [a, b]) (hm.up1 _) (hs.up1 _) hI (by simp) (by simp) rfl rfl ?_
   intro n' A' hm' hkp hn
   have q1z := ((Keep.refl M.b (n + 1 + 1 + 1) (H3 A n a b)).up1 (Nat.le_refl _) (.cells 3 1 [[.int .i64 0], [.int .i64 0]])).trans (by omega) hkp
   obtain ⟨d0, d1, d2⟩ := q0j (n' := n') hb q1z
   by_cases hnn : a.k = 0 ∧ b.k = 0
   ·have e : q1p [0, 0] [a, b] = true := by simp [q1p, hnn.1, hnn.2]
    rw [e, if_pos rfl] at hm'
    rw [if_pos hnn] at hk
    have ra := (q0w oa).1 hnn.1
    have rb := (q0w ob).1 hnn.2
    simp only [e, t0, t1, t7, t8, d1, d2, tt, bb, bc, ↓bd, Nat.reduceEqDiff, ↓reduceIte, reduceCtorEq]
    refine q3m hm' he (by omega) (by omega) (by decide) ?_
    intro n2 A2 hm2 q1k hn2
    have q1u := q1z.trans (by omega) q1k
    simp only [t6, (q0j (n' := n2) hb q1u).1, q1r, tt, bb, bc, ↓bd, Nat.reduceEqDiff, Nat.reduceAdd, ↓reduceIte]
    exact q0x hb hm2 q1u (by omega) hk
   ·have e : q1p [0, 0] [a, b] = false := by
     cases hh : q1p [0, 0] [a, b] with
     | false => rfl
     | true => exact absurd (by simpa [q1p] using hh) hnn
    rw [e, if_neg (by decide)] at hm'
    rw [if_neg hnn, q0m he] at hk
    simp only [e, t6, d0, q1r, tt, bb, bc, ↓bd, Nat.reduceEqDiff, Nat.reduceAdd, ↓reduceIte]
    exact q0x hb hm' q1z (by omega) hk
  ·have y1 : (a.k == 2) = false := by simp [z1]
   rw [if_neg hp] at hk
   have hI : IS M (n + 1 + 1 + 1) (n + 1 + 1 + 1 + 1) (upd (H3 A n a b) (n + 1 + 1 + 1) (.cells 3 1 [[.int .i64 0], [.int .i64 0]])) [0, 0] := ⟨by omega, by omega, by rw [q0b, if_pos rfl]; rfl⟩
   simp only [q0, q1, t0, t1, t2, t7, c1, y1, r38_0, tt, bb, bc, ↓bd, Nat.reduceEqDiff, Nat.reduceAdd, Nat.reduceMul, Nat.reduceLeDiff, ↓reduceIte, reduceCtorEq, List.reduceReplicate]
   refine q1w (ks := [0, 0]) (vs := [a, b]) (hm.up1 _) (hs.up1 _) hI (by simp) (by simp) rfl rfl ?_
   intro n' A' hm' hkp hn
   have q1z := ((Keep.refl M.b (n + 1 + 1 + 1) (H3 A n a b)).up1 (Nat.le_refl _) (.cells 3 1 [[.int .i64 0], [.int .i64 0]])).trans (by omega) hkp
   obtain ⟨d0, d1, d2⟩ := q0j (n' := n') hb q1z
   by_cases hnn : a.k = 0 ∧ b.k = 0
   ·have e : q1p [0, 0] [a, b] = true := by simp [q1p, hnn.1, hnn.2]
    rw [e, if_pos rfl] at hm'
    rw [if_pos hnn] at hk
    have ra := (q0w oa).1 hnn.1
    have rb := (q0w ob).1 hnn.2
    simp only [e, t0, t1, t7, t8, d1, d2, tt, bb, bc, ↓bd, Nat.reduceEqDiff, ↓reduceIte, reduceCtorEq]
    refine q3m hm' he (by omega) (by omega) (by decide) ?_
    intro n2 A2 hm2 q1k hn2
    have q1u := q1z.trans (by omega) q1k
    simp only [t6, (q0j (n' := n2) hb q1u).1, q1r, tt, bb, bc, ↓bd, Nat.reduceEqDiff, Nat.reduceAdd, ↓reduceIte]
    exact q0x hb hm2 q1u (by omega) hk
   ·have e : q1p [0, 0] [a, b] = false := by
     cases hh : q1p [0, 0] [a, b] with
     | false => rfl
     | true => exact absurd (by simpa [q1p] using hh) hnn
    rw [e, if_neg (by decide)] at hm'
    rw [if_neg hnn, q0m he] at hk
    simp only [e, t6, d0, q1r, tt, bb, bc, ↓bd, Nat.reduceEqDiff, Nat.reduceAdd, ↓reduceIte]
    exact q0x hb hm' q1z (by omega) hk
 ·have q0 : (q0e 4 == [97, 100, 100]) = false := rfl
  have q1 : (q0e 4 == [115, 117, 98]) = false := rfl
  have q2 : (q0e 4 == [109, 117, 108]) = true := rfl
  rcases hz with ⟨z1, z2⟩ | ⟨z1, z2, hp⟩ | ⟨z1, hp⟩
  ·have i1 := (q0w oa).2.2 z1
   have i2 := (q0w ob).2.2 z2
   have y1 : (a.k == 2) = true := by simp [z1]
   have y2 : (b.k == 2) = true := by simp [z2]
   rw [if_pos ⟨z1, z2⟩] at hk
   simp only [q0, q1, q2, t0, t1, t7, t8, c1, c2, y1, y2, r38_0, tt, bb, bc, ↓bd, Nat.reduceEqDiff, Nat.reduceAdd, ↓reduceIte, reduceCtorEq]
   refine q5n hm he (by decide) (by rw [i1.1, i1.2, i2.1, i2.2]; rfl) ?_
   intro n' A' hm' hkp hn
   simp only [t6, (q0j (n' := n') hb hkp).1, q1r, tt, bb, bc, ↓bd, Nat.reduceEqDiff, Nat.reduceAdd, ↓reduceIte]
   exact q0x hb hm' hkp hn hk
  ·have y1 : (a.k == 2) = true := by simp [z1]
   have y2 : (b.k == 2) = false := by simp [z2]
   rw [if_neg hp] at hk
   have hI : IS M (n + 1 + 1 + 1) (n + 1 + 1 + 1 + 1) (upd (H3 A n a b) (n + 1 + 1 + 1) (.cells 3 1 [[.int .i64 0], [.int .i64 0]])) [0, 0] := ⟨by omega, by omega, by rw [q0b, if_pos rfl]; rfl⟩
   simp only [q0, q1, q2, t0, t1, t2, t7, t8, c1, c2, y1, y2, r38_0, tt, bb, bc, ↓bd, Nat.reduceEqDiff, Nat.reduceAdd, Nat.reduceMul, Nat.reduceLeDiff, ↓reduceIte, reduceCtorEq, List.reduceReplicate]
   refine q1w (ks := [0, 0]) (vs := [a, b]) (hm.up1 _) (hs.up1 _) hI (by simp) (by simp) rfl rfl ?_
   intro n' A' hm' hkp hn
   have q1z := ((Keep.refl M.b (n + 1 + 1 + 1) (H3 A n a b)).up1 (Nat.le_refl _) (.cells 3 1 [[.int .i64 0], [.int .i64 0]])).trans (by omega) hkp
   obtain ⟨d0, d1, d2⟩ := q0j (n' := n') hb q1z
   by_cases hnn : a.k = 0 ∧ b.k = 0
   ·have e : q1p [0, 0] [a, b] = true := by simp [q1p, hnn.1, hnn.2]
    rw [e, if_pos rfl] at hm'
    rw [if_pos hnn] at hk
    have ra := (q0w oa).1 hnn.1
    have rb := (q0w ob).1 hnn.2
    simp only [e, t0, t1, t7, t8, d1, d2, tt, bb, bc, ↓bd, Nat.reduceEqDiff, ↓reduceIte, reduceCtorEq]
    refine q3m hm' he (by omega) (by omega) (by decide) ?_
    intro n2 A2 hm2 q1k hn2
    have q1u := q1z.trans (by omega) q1k
    simp only [t6, (q0j (n' := n2) hb q1u).1, q1r, tt, bb, bc, ↓bd, Nat.reduceEqDiff, Nat.reduceAdd, ↓reduceIte]
    exact q0x hb hm2 q1u (by omega) hk
   ·have e : q1p [0, 0] [a, b] = false := by
     cases hh : q1p [0, 0] [a, b] with
     | false => rfl
     | true => exact absurd (by simpa [q1p] using hh) hnn
    rw [e, if_neg (by decide)] at hm'
    rw [if_neg hnn, q0m he] at hk
    simp only [e, t6, d0, q1r, tt, bb, bc, ↓bd, Nat.reduceEqDiff, Nat.reduceAdd, ↓reduceIte]
    exact q0x hb hm' q1z (by omega) hk
  ·have y1 : (a.k == 2) = false := by simp [z1]
   rw [if_neg hp] at hk
   have hI : IS M (n + 1 + 1 + 1) (n + 1 + 1 + 1 + 1) (upd (H3 A n a b) (n + 1 + 1 + 1) (.cells 3 1 [[.int .i64 0], [.int .i64 0]])) [0, 0] := ⟨by omega, by omega, by rw [q0b, if_pos rfl]; rfl⟩
   simp only [q0, q1, q2, t0, t1, t2, t7, c1, y1, r38_0, tt, bb, bc, ↓bd, Nat.reduceEqDiff, Nat.reduceAdd, Nat.reduceMul, Nat.reduceLeDiff, ↓reduceIte, reduceCtorEq, List.reduceReplicate]
   refine q1w (ks := [0, 0]) (vs := [a, b]) (hm.up1 _) (hs.up1 _) hI (by simp) (by simp) rfl rfl ?_
   intro n' A' hm' hkp hn
   have q1z := ((Keep.refl M.b (n + 1 + 1 + 1) (H3 A n a b)).up1 (Nat.le_refl _) (.cells 3 1 [[.int .i64 0], [.int .i64 0]])).trans (by omega) hkp
   obtain ⟨d0, d1, d2⟩ := q0j (n' := n') hb q1z
   by_cases hnn : a.k = 0 ∧ b.k = 0
   ·have e : q1p [0, 0] [a, b] = true := by simp [q1p, hnn.1, hnn.2]
    rw [e, if_pos rfl] at hm'
    rw [if_pos hnn] at hk
    have ra := (q0w oa).1 hnn.1
    have rb := (q0w ob).1 hnn.2
    simp only [e, t0, t1, t7, t8, d1, d2, tt, bb, bc, ↓bd, Nat.reduceEqDiff, ↓reduceIte, reduceCtorEq]
    refine q3m hm' he (by omega) (by omega) (by decide) ?_
    intro n2 A2 hm2 q1k hn2
    have q1u := q1z.trans (by omega) q1k
    simp only [t6, (q0j (n' := n2) hb q1u).1, q1r, tt, bb, bc, ↓bd, Nat.reduceEqDiff, Nat.reduceAdd, ↓reduceIte]
    exact q0x hb hm2 q1u (by omega) hk
   ·have e : q1p [0, 0] [a, b] = false := by
     cases hh : q1p [0, 0] [a, b] with
     | false => rfl
     | true => exact absurd (by simpa [q1p] using hh) hnn
    rw [e, if_neg (by decide)] at hm'
    rw [if_neg hnn, q0m he] at hk
    simp only [e, t6, d0, q1r, tt, bb, bc, ↓bd, Nat.reduceEqDiff, Nat.reduceAdd, ↓reduceIte]
    exact q0x hb hm' q1z (by omega) hk
 ·have q0 : (q0e 5 == [97, 100, 100]) = false := rfl
  have q1 : (q0e 5 == [115, 117, 98]) = false := rfl
  have q2 : (q0e 5 == [109, 117, 108]) = false := rfl
  have q3 : (q0e 5 == [100, 105, 118]) = true := rfl
  rcases hz with ⟨z1, z2⟩ | ⟨z1, z2, hp⟩ | ⟨z1, hp⟩
  ·have i1 := (q0w oa).2.2 z1
   have i2 := (q0w ob).2.2 z2
   have y1 : (a.k == 2) = true := by simp [z1]
   have y2 : (b.k == 2) = true := by simp [z2]
   rw [if_pos ⟨z1, z2⟩] at hk
   simp only [q0, q1, q2, q3, t0, t1, t7, t8, c1, c2, y1, y2, r38_0, tt, bb, bc, ↓bd, Nat.reduceEqDiff, Nat.reduceAdd, ↓reduceIte, reduceCtorEq]
   refine q5n hm he (by decide) (by rw [i1.1, i1.2, i2.1, i2.2]; rfl) ?_
   intro n' A' hm' hkp hn
   simp only [t6, (q0j (n' := n') hb hkp).1, q1r, tt, bb, bc, ↓bd, Nat.reduceEqDiff, Nat.reduceAdd, ↓reduceIte]
   exact q0x hb hm' hkp hn hk
  ·have y1 : (a.k == 2) = true := by simp [z1]
   have y2 : (b.k == 2) = false := by simp [z2]
   rw [if_neg hp] at hk
   have hI : IS M (n + 1 + 1 + 1) (n + 1 + 1 + 1 + 1) (upd (H3 A n a b) (n + 1 + 1 + 1) (.cells 3 1 [[.int .i64 0], [.int .i64 0]])) [0, 0] := ⟨by omega, by omega, by rw [q0b, if_pos rfl]; rfl⟩
   simp only [q0, q1, q2, q3, t0, t1, t2, t7, t8, c1, c2, y1, y2, r38_0, tt, bb, bc, ↓bd, Nat.reduceEqDiff, Nat.reduceAdd, Nat.reduceMul, Nat.reduceLeDiff, ↓reduceIte, reduceCtorEq, List.reduceReplicate]
   refine q1w (ks := [0, 0]) (vs := [a, b]) (hm.up1 _) (hs.up1 _) hI (by simp) (by simp) rfl rfl ?_
   intro n' A' hm' hkp hn
   have q1z := ((Keep.refl M.b (n + 1 + 1 + 1) (H3 A n a b)).up1 (Nat.le_refl _) (.cells 3 1 [[.int .i64 0], [.int .i64 0]])).trans (by omega) hkp
   obtain ⟨d0, d1, d2⟩ := q0j (n' := n') hb q1z
   by_cases hnn : a.k = 0 ∧ b.k = 0
   ·have e : q1p [0, 0] [a, b] = true := by simp [q1p, hnn.1, hnn.2]
    rw [e, if_pos rfl] at hm'
    rw [if_pos hnn] at hk
    have ra := (q0w oa).1 hnn.1
    have rb := (q0w ob).1 hnn.2
    simp only [e, t0, t1, t7, t8, d1, d2, tt, bb, bc, ↓bd, Nat.reduceEqDiff, ↓reduceIte, reduceCtorEq]
    refine q3m hm' he (by omega) (by omega) (by decide) ?_
    intro n2 A2 hm2 q1k hn2
    have q1u := q1z.trans (by omega) q1k
    simp only [t6, (q0j (n' := n2) hb q1u).1, q1r, tt, bb, bc, ↓bd, Nat.reduceEqDiff, Nat.reduceAdd, ↓reduceIte]
    exact q0x hb hm2 q1u (by omega) hk
   ·have e : q1p [0, 0] [a, b] = false := by
     cases hh : q1p [0, 0] [a, b] with
     | false => rfl
     | true => exact absurd (by simpa [q1p] using hh) hnn
    rw [e, if_neg (by decide)] at hm'
    rw [if_neg hnn, q0m he] at hk
    simp only [e, t6, d0, q1r, tt, bb, bc, ↓bd, Nat.reduceEqDiff, Nat.reduceAdd, ↓reduceIte]
    exact q0x hb hm' q1z (by omega) hk
  ·have y1 : (a.k == 2) = false := by simp [z1]
   rw [if_neg hp] at hk
   have hI : IS M (n + 1 + 1 + 1) (n + 1 + 1 + 1 + 1) (upd (H3 A n a b) (n + 1 + 1 + 1) (.cells 3 1 [[.int .i64 0], [.int .i64 0]])) [0, 0] := ⟨by omega, by omega, by rw [q0b, if_pos rfl]; rfl⟩
   simp only [q0, q1, q2, q3, t0, t1, t2, t7, c1, y1, r38_0, tt, bb, bc, ↓bd, Nat.reduceEqDiff, Nat.reduceAdd, Nat.reduceMul, Nat.reduceLeDiff, ↓reduceIte, reduceCtorEq, List.reduceReplicate]
   refine q1w (ks := [0, 0]) (vs := [a, b]) (hm.up1 _) (hs.up1 _) hI (by simp) (by simp) rfl rfl ?_
   intro n' A' hm' hkp hn
   have q1z := ((Keep.refl M.b (n + 1 + 1 + 1) (H3 A n a b)).up1 (Nat.le_refl _) (.cells 3 1 [[.int .i64 0], [.int .i64 0]])).trans (by omega) hkp
   obtain ⟨d0, d1, d2⟩ := q0j (n' := n') hb q1z
   by_cases hnn : a.k = 0 ∧ b.k = 0
   ·have e : q1p [0, 0] [a, b] = true := by simp [q1p, hnn.1, hnn.2]
    rw [e, if_pos rfl] at hm'
    rw [if_pos hnn] at hk
    have ra := (q0w oa).1 hnn.1
    have rb := (q0w ob).1 hnn.2
    simp only [e, t0, t1, t7, t8, d1, d2, tt, bb, bc, ↓bd, Nat.reduceEqDiff, ↓reduceIte, reduceCtorEq]
    refine q3m hm' he (by omega) (by omega) (by decide) ?_
    intro n2 A2 hm2 q1k hn2
    have q1u := q1z.trans (by omega) q1k
    simp only [t6, (q0j (n' := n2) hb q1u).1, q1r, tt, bb, bc, ↓bd, Nat.reduceEqDiff, Nat.reduceAdd, ↓reduceIte]
    exact q0x hb hm2 q1u (by omega) hk
   ·have e : q1p [0, 0] [a, b] = false := by
     cases hh : q1p [0, 0] [a, b] with
     | false => rfl
     | true => exact absurd (by simpa [q1p] using hh) hnn
    rw [e, if_neg (by decide)] at hm'
    rw [if_neg hnn, q0m he] at hk
    simp only [e, t6, d0, q1r, tt, bb, bc, ↓bd, Nat.reduceEqDiff, Nat.reduceAdd, ↓reduceIte]
    exact q0x hb hm' q1z (by omega) hk
 ·have q0 : (q0e 6 == [97, 100, 100]) = false := rfl
  have q1 : (q0e 6 == [115, 117, 98]) = false := rfl
  have q2 : (q0e 6 == [109, 117, 108]) = false := rfl
  have q3 : (q0e 6 == [100, 105, 118]) = false := rfl
  have q4 : (q0e 6 == [109, 111, 100]) = true := rfl
  rcases hz with ⟨z1, z2⟩ | ⟨z1, z2, hp⟩ | ⟨z1, hp⟩
  ·have i1 := (q0w oa).2.2 z1
   have i2 := (q0w ob).2.2 z2
   have y1 : (a.k == 2) = true := by simp [z1]
   have y2 : (b.k == 2) = true := by simp [z2]
   rw [if_pos ⟨z1, z2⟩] at hk
   simp only [q0, q1, q2, q3, q4, t0, t1, t7, t8, c1, c2, y1, y2, r38_0, tt, bb, bc, ↓bd, Nat.reduceEqDiff, Nat.reduceAdd, ↓reduceIte, reduceCtorEq]
   refine q5n hm he (by decide) (by rw [i1.1, i1.2, i2.1, i2.2]; rfl) ?_
   intro n' A' hm' hkp hn
   simp only [t6, (q0j (n' := n') hb hkp).1, q1r, tt, bb, bc, ↓bd, Nat.reduceEqDiff, Nat.reduceAdd, ↓reduceIte]
   exact q0x hb hm' hkp hn hk
  ·have y1 : (a.k == 2) = true := by simp [z1]
   have y2 : (b.k == 2) = false := by simp [z2]
   rw [if_neg hp] at hk
   have hI : IS M (n + 1 + 1 + 1) (n + 1 + 1 + 1 + 1) (upd (H3 A n a b) (n + 1 + 1 + 1) (.cells 3 1 [[.int .i64 0], [.int .i64 0]])) [0, 0] := ⟨by omega, by omega, by rw [q0b, if_pos rfl]; rfl⟩
   simp only [q0, q1, q2, q3, q4, t0, t1, t2, t7, t8, c1, c2, y1, y2, r38_0, tt, bb, bc, ↓bd, Nat.reduceEqDiff, Nat.reduceAdd, Nat.reduceMul, Nat.reduceLeDiff, ↓reduceIte, reduceCtorEq, List.reduceReplicate]
   refine q1w (ks := [0, 0]) (vs := [a, b]) (hm.up1 _) (hs.up1 _) hI (by simp) (by simp) rfl rfl ?_
   intro n' A' hm' hkp hn
   have q1z := ((Keep.refl M.b (n + 1 + 1 + 1) (H3 A n a b)).up1 (Nat.le_refl _) (.cells 3 1 [[.int .i64 0], [.int .i64 0]])).trans (by omega) hkp
   obtain ⟨d0, d1, d2⟩ := q0j (n' := n') hb q1z
   by_cases hnn : a.k = 0 ∧ b.k = 0
   ·have e : q1p [0, 0] [a, b] = true := by simp [q1p, hnn.1, hnn.2]
    rw [e, if_pos rfl] at hm'
    rw [if_pos hnn] at hk
    have ra := (q0w oa).1 hnn.1
    have rb := (q0w ob).1 hnn.2
    simp only [e, t0, t1, t7, t8, d1, d2, tt, bb, bc, ↓bd, Nat.reduceEqDiff, ↓reduceIte, reduceCtorEq]
    refine q3m hm' he (by omega) (by omega) (by decide) ?_
    intro n2 A2 hm2 q1k hn2
    have q1u := q1z.trans (by omega) q1k
    simp only [t6, (q0j (n' := n2) hb q1u).1, q1r, tt, bb, bc, ↓bd, Nat.reduceEqDiff, Nat.reduceAdd, ↓reduceIte]
    exact q0x hb hm2 q1u (by omega) hk
   ·have e : q1p [0, 0] [a, b] = false := by
     cases hh : q1p [0, 0] [a, b] with
     | false => rfl
     | true => exact absurd (by simpa [q1p] using hh) hnn
    rw [e, if_neg (by decide)] at hm'
    rw [if_neg hnn, q0m he] at hk
    simp only [e, t6, d0, q1r, tt, bb, bc, ↓bd, Nat.reduceEqDiff, Nat.reduceAdd, ↓reduceIte]
    exact q0x hb hm' q1z (by omega) hk
  ·have y1 : (a.k == 2) = false := by simp [z1]
   rw [if_neg hp] at hk
   have hI : IS M (n + 1 + 1 + 1) (n + 1 + 1 + 1 + 1) (upd (H3 A n a b) (n + 1 + 1 + 1) (.cells 3 1 [[.int .i64 0], [.int .i64 0]])) [0, 0] := ⟨by omega, by omega, by rw [q0b, if_pos rfl]; rfl⟩
   simp only [q0, q1, q2, q3, q4, t0, t1, t2, t7, c1, y1, r38_0, tt, bb, bc, ↓bd, Nat.reduceEqDiff, Nat.reduceAdd, Nat.reduceMul, Nat.reduceLeDiff, ↓reduceIte, reduceCtorEq, List.reduceReplicate]
   refine q1w (ks := [0, 0]) (vs := [a, b]) (hm.up1 _) (hs.up1 _) hI (by simp) (by simp) rfl rfl ?_
   intro n' A' hm' hkp hn
   have q1z := ((Keep.refl M.b (n + 1 + 1 + 1) (H3 A n a b)).up1 (Nat.le_refl _) (.cells 3 1 [[.int .i64 0], [.int .i64 0]])).trans (by omega) hkp
   obtain ⟨d0, d1, d2⟩ := q0j (n' := n') hb q1z
   by_cases hnn : a.k = 0 ∧ b.k = 0
   ·have e : q1p [0, 0] [a, b] = true := by simp [q1p, hnn.1, hnn.2]
    rw [e, if_pos rfl] at hm'
    rw [if_pos hnn] at hk
    have ra := (q0w oa).1 hnn.1
    have rb := (q0w ob).1 hnn.2
    simp only [e, t0, t1, t7, t8, d1, d2, tt, bb, bc, ↓bd, Nat.reduceEqDiff, ↓reduceIte, reduceCtorEq]
    refine q3m hm' he (by omega) (by omega) (by decide) ?_
    intro n2 A2 hm2 q1k hn2
    have q1u := q1z.trans (by omega) q1k
    simp only [t6, (q0j (n' := n2) hb q1u).1, q1r, tt, bb, bc, ↓bd, Nat.reduceEqDiff, Nat.reduceAdd, ↓reduceIte]
    exact q0x hb hm2 q1u (by omega) hk
   ·have e : q1p [0, 0] [a, b] = false := by
     cases hh : q1p [0, 0] [a, b] with
     | false => rfl
     | true => exact absurd (by simpa [q1p] using hh) hnn
    rw [e, if_neg (by decide)] at hm'
    rw [if_neg hnn, q0m he] at hk
    simp only [e, t6, d0, q1r, tt, bb, bc, ↓bd, Nat.reduceEqDiff, Nat.reduceAdd, ↓reduceIte]
    exact q0x hb hm' q1z (by omega) hk
end
section
variable {fn : FuncId} {T : Nat → AV} {ds : List ADef} {ro : Option Nat} {k : List AItem} {Q : AV → AHeap → Prop} {dst : Option Nat} {os : List AO}
theorem y0b {a b : Vl} (h : z1p a b = 0) : a = b := by
 have e := j0u a b
 rw [show (z1p a b == 0) = true by simp [h]] at e
 simp only [Bool.and_eq_true, beq_iff_eq] at e
 obtain ⟨h1, h2, h3, h4, h5⟩ := e
 cases a; cases b
 simp only at h1 h2 h3 h4 h5
 subst h1 h2 h3 h4 h5
 rfl
theorem w6o {M : Mch} {n g : Nat} {A : Nat → Blk} {s : St} {a b : Vl} (h : MR M n A s) (he : s.err = 0) (ha : AS M g n A [a, b]) (oa : okV a = true) (ob : okV b = true) (ho : s.out.length ≤ 64)
  (hk : ∀ n' A', MR M n' A' (q1t (ap2 8 a b s.out.length) s).2 → Keep M.b n A A' → n ≤ n' → q0d Cx fn (putA T dst (q1o (q1t (ap2 8 a b s.out.length) s).1)) ds ro os k ⟨n', A'⟩ Q) :
  q0g Cx fn T ds ro 38 [.ptr M.b 22 0 0, .str (q0e 8), .slc g 5 0 2] dst os k ⟨n, A⟩ Q := by
 have hb := h.lt
 refine q2l (vs := [a, b]) h ha rfl rfl (by simp) rfl ?_
 intro T' t0 t1 t2 t6 t7 t8
 have hm := q6g (a := a) (b := b) h
 have hs := q6h (a := a) (b := b) ha
 have kr := Keep.refl M.b (n + 1 + 1 + 1) (H3 A n a b)
 obtain ⟨c0, c1, c2⟩ := q0j (n' := n + 1 + 1 + 1) hb kr
 have eap : ap2 8 a b s.out.length = if a.k = b.k then .val (x1i (decide (z1p a b < 0))) else .bad 13 := rfl
 rw [eap] at hk
 by_cases hkk : a.k = b.k
 ·rw [if_pos hkk] at hk
  have y : (a.k != b.k) = false := by simp [hkk]
  have hor : q0k Cx 59 [.agg [.int .i64 a.k, .int .i64 a.n, .str a.s, .int .i64 a.x, .int .i64 a.y], .agg [.int .i64 b.k, .int .i64 b.n, .str b.s, .int .i64 b.x, .int .i64 b.y]] (.int .i64 (z1p a b)) := z0n (show q1j a.k a.n a.s a.x a.y = true from oa) (show q1j b.k b.n b.s b.x b.y = true from ob)
  simp only [wq8, t1, t6, t7, t8, c0, c1, c2, y, q0a j3s rfl hor, q0a x3r rfl (z0o (decide (z1p a b < 0))), r38_0, q1r, tt, bb, bc, ↓bd, Nat.reduceEqDiff, Nat.reduceAdd, ↓reduceIte]
  exact q0x hb hm kr (Nat.le_refl _) hk
 ·rw [if_neg hkk, q0m he] at hk
  have y : (a.k != b.k) = true := by simpa using hkk
  simp only [wq8, t0, t1, t7, t8, c1, c2, y, r38_0, tt, bb, bc, ↓bd, Nat.reduceEqDiff, ↓reduceIte, reduceCtorEq]
  refine q0q hm ?_
  intro n' A' hm' hkp hn
  simp only [t6, (q0j (n' := n') hb hkp).1, q1r, tt, bb, bc, ↓bd, Nat.reduceEqDiff, Nat.reduceAdd, ↓reduceIte]
  exact q0x hb hm' hkp hn hk
theorem v0s {M : Mch} {n g : Nat} {A : Nat → Blk} {s : St} {a b : Vl} (h : MR M n A s) (he : s.err = 0) (ha : AS M g n A [a, b]) (oa : okV a = true) (ob : okV b = true) (ho : s.out.length ≤ 64)
  (hk : ∀ n' A', MR M n' A' (q1t (ap2 12 a b s.out.length) s).2 → Keep M.b n A A' → n ≤ n' → q0d Cx fn (putA T dst (q1o (q1t (ap2 12 a b s.out.length) s).1)) ds ro os k ⟨n', A'⟩ Q) :
  q0g Cx fn T ds ro 38 [.ptr M.b 22 0 0, .str (q0e 12), .slc g 5 0 2] dst os k ⟨n, A⟩ Q := by
 have hb := h.lt
 refine q2l (vs := [a, b]) h ha rfl rfl (by simp) rfl ?_
 intro T' t0 t1 t2 t6 t7 t8
 have hm := q6g (a := a) (b := b) h
 have hs := q6h (a := a) (b := b) ha
 have kr := Keep.refl M.b (n + 1 + 1 + 1) (H3 A n a b)
 obtain ⟨c0, c1, c2⟩ := q0j (n' := n + 1 + 1 + 1) hb kr
 have eap : ap2 12 a b s.out.length = if a.k = b.k then .val (if 0 < z1p a b then a else b) else .bad 13 := rfl
 rw [eap] at hk
 by_cases hkk : a.k = b.k
 ·rw [if_pos hkk] at hk
  have y : (a.k != b.k) = false := by simp [hkk]
  have hor : q0k Cx 59 [.agg [.int .i64 a.k, .int .i64 a.n, .str a.s, .int .i64 a.x, .int .i64 a.y], .agg [.int .i64 b.k, .int .i64 b.n, .str b.s, .int .i64 b.x, .int .i64 b.y]] (.int .i64 (z1p a b)) := z0n (show q1j a.k a.n a.s a.x a.y = true from oa) (show q1j b.k b.n b.s b.x b.y = true from ob)
  by_cases hc : 0 < z1p a b
  ·rw [if_pos hc] at hk
   simp only [v0a, t1, t6, t7, t8, c0, c1, c2, y, hc, q0a j3s rfl hor, r38_0, q1r, tt, bb, bc, ↓bd, Nat.reduceEqDiff, Nat.reduceAdd, ↓reduceIte, reduceCtorEq]
   exact q0x hb hm kr (Nat.le_refl _) hk
  ·rw [if_neg hc] at hk
   simp only [v0a, t1, t6, t7, t8, c0, c1, c2, y, hc, q0a j3s rfl hor, r38_0, q1r, tt, bb, bc, ↓bd, Nat.reduceEqDiff, Nat.reduceAdd, ↓reduceIte]
   exact q0x hb hm kr (Nat.le_refl _) hk
 ·rw [if_neg hkk, q0m he] at hk
  have y : (a.k != b.k) = true := by simpa using hkk
  simp only [v0a, t0, t1, t7, t8, c1, c2, y, r38_0, tt, bb, bc, ↓bd, Nat.reduceEqDiff, ↓reduceIte, reduceCtorEq]
  refine q0q hm ?_
  intro n' A' hm' hkp hn
  simp only [t6, (q0j (n' := n') hb hkp).1, q1r, tt, bb, bc, ↓bd, Nat.reduceEqDiff, Nat.reduceAdd, ↓reduceIte]
  exact q0x hb hm' hkp hn hk
theorem v0t {M : Mch} {n g : Nat} {A : Nat → Blk} {s : St} {a b : Vl} (h : MR M n A s) (he : s.err = 0) (ha : AS M g n A [a, b]) (oa : okV a = true) (ob : okV b = true) (ho : s.out.length ≤ 64)
  (hk : ∀ n' A', MR M n' A' (q1t (ap2 13 a b s.out.length) s).2 → Keep M.b n A A' → n ≤ n' → q0d Cx fn (putA T dst (q1o (q1t (ap2 13 a b s.out.length) s).1)) ds ro os k ⟨n', A'⟩ Q) :
  q0g Cx fn T ds ro 38 [.ptr M.b 22 0 0, .str (q0e 13), .slc g 5 0 2] dst os k ⟨n, A⟩ Q := by
 have hb := h.lt
 refine q2l (vs := [a, b]) h ha rfl rfl (by simp) rfl ?_
 intro T' t0 t1 t2 t6 t7 t8
 have hm := q6g (a := a) (b := b) h
 have hs := q6h (a := a) (b := b) ha
 have kr := Keep.refl M.b (n + 1 + 1 + 1) (H3 A n a b)
 obtain ⟨c0, c1, c2⟩ := q0j (n' := n + 1 + 1 + 1) hb kr
 have eap : ap2 13 a b s.out.length = if a.k = b.k then .val (if z1p a b ≤ 0 then a else b) else .bad 13 := rfl
 rw [eap] at hk
 by_cases hkk : a.k = b.k
 ·rw [if_pos hkk] at hk
  have y : (a.k != b.k) = false := by simp [hkk]
  have hor : q0k Cx 59 [.agg [.int .i64 a.k, .int .i64 a.n, .str a.s, .int .i64 a.x, .int .i64 a.y], .agg [.int .i64 b.k, .int .i64 b.n, .str b.s, .int .i64 b.x, .int .i64 b.y]] (.int .i64 (z1p a b)) := z0n (show q1j a.k a.n a.s a.x a.y = true from oa) (show q1j b.k b.n b.s b.x b.y = true from ob)
  by_cases hc : z1p a b < 0
  ·rw [if_pos (by omega)] at hk
   simp only [v0b, t1, t6, t7, t8, c0, c1, c2, y, hc, q0a j3s rfl hor, r38_0, q1r, tt, bb, bc, ↓bd, Nat.reduceEqDiff, Nat.reduceAdd, ↓reduceIte]
   exact q0x hb hm kr (Nat.le_refl _) hk
  ·have hv : (if z1p a b ≤ 0 then a else b) = b := by
    by_cases h0 : z1p a b ≤ 0
    ·rw [if_pos h0]
     exact y0b (by omega)
    ·rw [if_neg h0]
   rw [hv] at hk
   simp only [v0b, t1, t6, t7, t8, c0, c1, c2, y, hc, q0a j3s rfl hor, r38_0, q1r, tt, bb, bc, ↓bd, Nat.reduceEqDiff, Nat.reduceAdd, ↓reduceIte]
   exact q0x hb hm kr (Nat.le_refl _) hk
 ·rw [if_neg hkk, q0m he] at hk
  have y : (a.k != b.k) = true := by simpa using hkk
  simp only [v0b, t0, t1, t7, t8, c1, c2, y, r38_0, tt, bb, bc, ↓bd, Nat.reduceEqDiff, ↓reduceIte, reduceCtorEq]
  refine q0q hm ?_
  intro n' A' hm' hkp hn
  simp only [t6, (q0j (n' := n') hb hkp).1, q1r, tt, bb, bc, ↓bd, Nat.reduceEqDiff, Nat.reduceAdd, ↓reduceIte]
  exact q0x hb hm' hkp hn hk
theorem w6p {M : Mch} {n g : Nat} {A : Nat → Blk} {s : St} {a b : Vl} (h : MR M n A s) (he : s.err = 0) (ha : AS M g n A [a, b]) (oa : okV a = true) (ob : okV b = true) (ho : s.out.length ≤ 64)
  (hk : ∀ n' A', MR M n' A' (q1t (ap2 9 a b s.out.length) s).2 → Keep M.b n A A' → n ≤ n' → q0d Cx fn (putA T dst (q1o (q1t (ap2 9 a b s.out.length) s).1)) ds ro os k ⟨n', A'⟩ Q) :
  q0g Cx fn T ds ro 38 [.ptr M.b 22 0 0, .str (q0e 9), .slc g 5 0 2] dst os k ⟨n, A⟩ Q := by
 have hb := h.lt
 refine q2l (vs := [a, b]) h ha rfl rfl (by simp) rfl ?_
 intro T' t0 t1 t2 t6 t7 t8
 have hm := q6g (a := a) (b := b) h
 have hs := q6h (a := a) (b := b) ha
 have kr := Keep.refl M.b (n + 1 + 1 + 1) (H3 A n a b)
 obtain ⟨c0, c1, c2⟩ := q0j (n' := n + 1 + 1 + 1) hb kr
 have eap : ap2 9 a b s.out.length = .val (x1i (z1p a b == 0)) := rfl
 rw [eap] at hk
 simp only [wq9, t1, t6, t7, t8, c0, c1, c2, j0u, q0a x3r rfl (z0o (z1p a b == 0)), r38_0, q1r, tt, bb, bc, ↓bd, Nat.reduceEqDiff, Nat.reduceAdd, ↓reduceIte]
 exact q0x hb hm kr (Nat.le_refl _) hk
theorem w6q {M : Mch} {n g : Nat} {A : Nat → Blk} {s : St} {a b : Vl} (h : MR M n A s) (he : s.err = 0) (ha : AS M g n A [a, b]) (oa : okV a = true) (ob : okV b = true) (ho : s.out.length ≤ 64)
  (hk : ∀ n' A', MR M n' A' (q1t (ap2 27 a b s.out.length) s).2 → Keep M.b n A A' → n ≤ n' → q0d Cx fn (putA T dst (q1o (q1t (ap2 27 a b s.out.length) s).1)) ds ro os k ⟨n', A'⟩ Q) :
  q0g Cx fn T ds ro 38 [.ptr M.b 22 0 0, .str (q0e 27), .slc g 5 0 2] dst os k ⟨n, A⟩ Q := by
 have hb := h.lt
 refine q2l (vs := [a, b]) h ha rfl rfl (by simp) rfl ?_
 intro T' t0 t1 t2 t6 t7 t8
 have hm := q6g (a := a) (b := b) h
 have hs := q6h (a := a) (b := b) ha
 have kr := Keep.refl M.b (n + 1 + 1 + 1) (H3 A n a b)
 obtain ⟨c0, c1, c2⟩ := q0j (n' := n + 1 + 1 + 1) hb kr
 have eap : ap2 27 a b s.out.length = .val b := rfl
 rw [eap] at hk
 simp only [wq27, t1, t6, t8, c0, c2, r38_0, q1r, tt, bb, bc, ↓bd, Nat.reduceEqDiff, Nat.reduceAdd, ↓reduceIte]
 exact q0x hb hm kr (Nat.le_refl _) hk
end
section
variable {fn : FuncId} {T : Nat → AV} {ds : List ADef} {ro : Option Nat} {k : List AItem} {Q : AV → AHeap → Prop} {dst : Option Nat} {os : List AO}
theorem j0x {M : Mch} {n : Nat} {A : Nat → Blk} {s : St} {w : Bytes} {v : AV} (h : MR M n A s) (hw : (w == [99, 97, 116]) = false ∧ (w == [119, 111, 114, 100]) = false ∧ (w == [99, 117, 116]) = false ∧ (w == [108, 101, 110]) = false ∧ (w == [119, 111, 114, 100, 115]) = false ∧ (w == [110, 117, 109]) = false) (hv : v.plain = true)
  (hk : ∀ n' A', MR M n' A' s → Keep M.b n A A' → n ≤ n' → q0d Cx fn (putA T dst (q1o zV)) ds ro os k ⟨n', A'⟩ Q) :
  q0g Cx fn T ds ro 64 [.ptr M.b 22 0 0, .str w, v] dst os k ⟨n, A⟩ Q := by
 refine q0s z6n (q0l _) z6m ?_
 have hb := h.lt
 obtain ⟨q1, q2, q3, q4, q5, q6⟩ := hw
 have e1 : (n = n + 1) = False := eq_false (by omega)
 simp only [q1, q2, q3, q4, q5, q6, e1, r64_0, q5q, tt, bb, bc, ↓bd, Nat.reduceEqDiff, Nat.reduceAdd, Nat.reduceMul, Nat.reduceLeDiff, ↓reduceIte, List.reduceReplicate]
 have h2 := (h.up1 zB).up1 (.cells 3 1 [[.int .i64 1]])
 exact hk (n + 1 + 1) _ (h2.upo (c := n) (by omega) (by rw [q0b, if_neg (by omega), q0b, if_pos rfl]; exact q3k) _) ((((Keep.refl _ _ _).up1 (Nat.le_refl _) _).up1 (n' := n + 1) (by omega) _).up1 (by omega) _) (by omega)
theorem v0u {M : Mch} {n g : Nat} {A : Nat → Blk} {s : St} {a : Vl} (h : MR M n A s) (he : s.err = 0) (ha : AS M g n A [a]) (oa : okV a = true) (ho : s.out.length ≤ 64)
  (hk : ∀ n' A', MR M n' A' (q1t (ap1 7 a) s).2 → Keep M.b n A A' → n ≤ n' → q0d Cx fn (putA T dst (q1o (q1t (ap1 7 a) s).1)) ds ro os k ⟨n', A'⟩ Q) :
  q0g Cx fn T ds ro 38 [.ptr M.b 22 0 0, .str (q0e 7), .slc g 5 0 1] dst os k ⟨n, A⟩ Q := by
 have hb := h.lt
 refine q2l (vs := [a]) h ha rfl rfl (by simp) rfl ?_
 intro T' t0 t1 t2 t6 t7 t8
 have hm := q6g (a := a) (b := a) h
 have hs := q6h (a := a) (b := a) ha
 have kr := Keep.refl M.b (n + 1 + 1 + 1) (H3 A n a a)
 obtain ⟨c0, c1, c2⟩ := q0j (n' := n + 1 + 1 + 1) hb kr
 have eap : ap1 7 a = if a.k = 2 then .val (pV (-a.x) (-a.y)) else if a.k = 0 then .val (nV (-a.n)) else .bad 13 := rfl
 rw [eap] at hk
 by_cases h2 : a.k = 2
 ·rw [if_pos h2] at hk
  have i1 := (q0w oa).2.2 h2
  have ix := inR_iff.mp i1.1
  have iy := inR_iff.mp i1.2
  have w1 : IntKind.i64.wrap (0 - a.x) = -a.x := by rw [wr64 (by omega) (by omega)]; omega
  have w2 : IntKind.i64.wrap (0 - a.y) = -a.y := by rw [wr64 (by omega) (by omega)]; omega
  have y : (a.k == 2) = true := by simp [h2]
  simp only [wq7, t1, t6, t7, c0, c1, y, w1, w2, r38_0, q1r, tt, bb, bc, ↓bd, Nat.reduceEqDiff, Nat.reduceAdd, Nat.reduceLeDiff, ↓reduceIte]
  exact q0x hb hm kr (Nat.le_refl _) hk
 ·rw [if_neg h2] at hk
  have y : (a.k == 2) = false := by simp [h2]
  have hI : IS M (n + 1 + 1 + 1) (n + 1 + 1 + 1 + 1) (upd (H3 A n a a) (n + 1 + 1 + 1) (.cells 3 1 [[.int .i64 0]])) [0] := ⟨by omega, by omega, by rw [q0b, if_pos rfl]; rfl⟩
  simp only [wq7, t0, t1, t2, t7, c1, y, r38_0, tt, bb, bc, ↓bd, Nat.reduceEqDiff, Nat.reduceMul, Nat.reduceLeDiff, ↓reduceIte, reduceCtorEq, List.reduceReplicate]
  refine q1w (ks := [0]) (vs := [a]) (hm.up1 _) (hs.up1 _) hI (by simp) (by simp) rfl rfl ?_
  intro n' A' hm' hkp hn
  have q1z := ((Keep.refl M.b (n + 1 + 1 + 1) (H3 A n a a)).up1 (Nat.le_refl _) (.cells 3 1 [[.int .i64 0]])).trans (by omega) hkp
  obtain ⟨d0, d1, d2⟩ := q0j (n' := n') hb q1z
  by_cases hnn : a.k = 0
  ·have e : q1p [0] [a] = true := by simp [q1p, hnn]
   rw [e, if_pos rfl] at hm'
   rw [if_pos hnn] at hk
   have ra := (q0w oa).1 hnn
   have w1 : IntKind.i64.wrap (0 - a.n) = -a.n := by rw [wr64 (by omega) (by omega)]; omega
   simp only [e, t6, t7, d0, d1, w1, q0a q3r rfl (q1s (-a.n)), q1r, tt, bb, bc, ↓bd, Nat.reduceEqDiff, Nat.reduceAdd, ↓reduceIte]
   exact q0x hb hm' q1z (by omega) hk
  ·have e : q1p [0] [a] = false := by
    cases hh : q1p [0] [a] with
    | false => rfl
    | true => exact absurd (by simpa [q1p] using hh) hnn
   rw [e, if_neg (by decide)] at hm'
   rw [if_neg hnn, q0m he] at hk
   simp only [e, t0, t1, t2, xx, tt, bb, bc, ↓bd, Nat.reduceEqDiff, ↓reduceIte, reduceCtorEq]
   refine j0x hm' ⟨rfl, rfl, rfl, rfl, rfl, rfl⟩ rfl ?_
   intro n2 A2 hm2 q1k hn2
   have q1u := q1z.trans (by omega) q1k
   simp only [t6, (q0j (n' := n2) hb q1u).1, q1r, tt, bb, bc, ↓bd, Nat.reduceEqDiff, Nat.reduceAdd, ↓reduceIte]
   exact q0x hb hm2 q1u (by omega) hk
theorem v0v {M : Mch} {n g : Nat} {A : Nat → Blk} {s : St} {a : Vl} (h : MR M n A s) (he : s.err = 0) (ha : AS M g n A [a]) (oa : okV a = true) (ho : s.out.length ≤ 64)
  (hk : ∀ n' A', MR M n' A' (q1t (ap1 10 a) s).2 → Keep M.b n A A' → n ≤ n' → q0d Cx fn (putA T dst (q1o (q1t (ap1 10 a) s).1)) ds ro os k ⟨n', A'⟩ Q) :
  q0g Cx fn T ds ro 38 [.ptr M.b 22 0 0, .str (q0e 10), .slc g 5 0 1] dst os k ⟨n, A⟩ Q := by
 have hb := h.lt
 refine q2l (vs := [a]) h ha rfl rfl (by simp) rfl ?_
 intro T' t0 t1 t2 t6 t7 t8
 have hm := q6g (a := a) (b := a) h
 have hs := q6h (a := a) (b := a) ha
 have kr := Keep.refl M.b (n + 1 + 1 + 1) (H3 A n a a)
 obtain ⟨c0, c1, c2⟩ := q0j (n' := n + 1 + 1 + 1) hb kr
 have eap : ap1 10 a = if a.k = 0 then .val (x1i (a.n == 0)) else .bad 13 := rfl
 rw [eap] at hk
 have hI : IS M (n + 1 + 1 + 1) (n + 1 + 1 + 1 + 1) (upd (H3 A n a a) (n + 1 + 1 + 1) (.cells 3 1 [[.int .i64 0]])) [0] := ⟨by omega, by omega, by rw [q0b, if_pos rfl]; rfl⟩
 simp only [wq10, t0, t1, t2, r38_0, r38_1, tt, bb, bc, ↓bd, Nat.reduceEqDiff, Nat.reduceMul, Nat.reduceLeDiff, ↓reduceIte, reduceCtorEq, List.reduceReplicate]
 refine q1w (ks := [0]) (vs := [a]) (hm.up1 _) (hs.up1 _) hI (by simp) (by simp) rfl rfl ?_
 intro n' A' hm' hkp hn
 have q1z := ((Keep.refl M.b (n + 1 + 1 + 1) (H3 A n a a)).up1 (Nat.le_refl _) (.cells 3 1 [[.int .i64 0]])).trans (by omega) hkp
 obtain ⟨d0, d1, d2⟩ := q0j (n' := n') hb q1z
 by_cases hnn : a.k = 0
 ·have e : q1p [0] [a] = true := by simp [q1p, hnn]
  rw [e, if_pos rfl] at hm'
  rw [if_pos hnn] at hk
  simp only [e, t6, t7, d0, d1, q0a x3r rfl (z0o (a.n == 0)), q1r, tt, bb, bc, ↓bd, Nat.reduceEqDiff, Nat.reduceAdd, ↓reduceIte]
  exact q0x hb hm' q1z (by omega) hk
 ·have e : q1p [0] [a] = false := by
   cases hh : q1p [0] [a] with
   | false => rfl
   | true => exact absurd (by simpa [q1p] using hh) hnn
  rw [e, if_neg (by decide)] at hm'
  rw [if_neg hnn, q0m he] at hk
  simp only [e, t0, t1, t2, xx, tt, bb, bc, ↓bd, Nat.reduceEqDiff, ↓reduceIte, reduceCtorEq]
  refine j0x hm' ⟨rfl, rfl, rfl, rfl, rfl, rfl⟩ rfl ?_
  intro n2 A2 hm2 q1k hn2
  have q1u := q1z.trans (by omega) q1k
  simp only [t6, (q0j (n' := n2) hb q1u).1, q1r, tt, bb, bc, ↓bd, Nat.reduceEqDiff, Nat.reduceAdd, ↓reduceIte]
  exact q0x hb hm2 q1u (by omega) hk
theorem a_at {M : Mch} {n g : Nat} {A : Nat → Blk} {s : St} {a b : Vl} (h : MR M n A s) (he : s.err = 0) (ha : AS M g n A [a, b]) (oa : okV a = true) (ob : okV b = true) (ho : s.out.length ≤ 64)
  (hk : ∀ n' A', MR M n' A' (q1t (ap2 21 a b s.out.length) s).2 → Keep M.b n A A' → n ≤ n' → q0d Cx fn (putA T dst (q1o (q1t (ap2 21 a b s.out.length) s).1)) ds ro os k ⟨n', A'⟩ Q) :
  q0g Cx fn T ds ro 38 [.ptr M.b 22 0 0, .str (q0e 21), .slc g 5 0 2] dst os k ⟨n, A⟩ Q := by
 have hb := h.lt
 refine q2l (vs := [a, b]) h ha rfl rfl (by simp) rfl ?_
 intro T' t0 t1 t2 t6 t7 t8
 have hm := q6g (a := a) (b := b) h
 have hs := q6h (a := a) (b := b) ha
 have kr := Keep.refl M.b (n + 1 + 1 + 1) (H3 A n a b)
 obtain ⟨c0, c1, c2⟩ := q0j (n' := n + 1 + 1 + 1) hb kr
 have eap : ap2 21 a b s.out.length = if a.k = 0 ∧ b.k = 0 then z7s a.n b.n else .bad 13 := rfl
 rw [eap] at hk
 have hI : IS M (n + 1 + 1 + 1) (n + 1 + 1 + 1 + 1) (upd (H3 A n a b) (n + 1 + 1 + 1) (.cells 3 1 [[.int .i64 0], [.int .i64 0]])) [0, 0] := ⟨by omega, by omega, by rw [q0b, if_pos rfl]; rfl⟩
 simp only [wq21, t0, t1, t2, r38_0, r38_1, tt, bb, bc, ↓bd, Nat.reduceEqDiff, Nat.reduceAdd, Nat.reduceMul, Nat.reduceLeDiff, ↓reduceIte, reduceCtorEq, List.reduceReplicate]
 refine q1w (ks := [0, 0]) (vs := [a, b]) (hm.up1 _) (hs.up1 _) hI (by simp) (by simp) rfl rfl ?_
 intro n' A' hm' hkp hn
 have q1z := ((Keep.refl M.b (n + 1 + 1 + 1) (H3 A n a b)).up1 (Nat.le_refl _) (.cells 3 1 [[.int .i64 0], [.int .i64 0]])).trans (by omega) hkp
 obtain ⟨d0, d1, d2⟩ := q0j (n' := n') hb q1z
 by_cases hnn : a.k = 0 ∧ b.k = 0
 ·have e : q1p [0, 0] [a, b] = true := by simp [q1p, hnn.1, hnn.2]
  rw [e, if_pos rfl] at hm'
  rw [if_pos hnn] at hk
  rw [← z9h] at hk
  simp only [e, t0, t7, t8, d1, d2, tt, bb, bc, ↓bd, Nat.reduceEqDiff, Nat.reduceAdd, Nat.reduceLeDiff, ↓reduceIte, reduceCtorEq]
  refine q1x (v := pV a.n b.n) hm' he ?_
  intro n2 A2 hm2 q1k hn2
  have q1u := q1z.trans (by omega) q1k
  simp only [t6, (q0j (n' := n2) hb q1u).1, q1r, tt, bb, bc, ↓bd, Nat.reduceEqDiff, Nat.reduceAdd, ↓reduceIte]
  exact q0x hb hm2 q1u (by omega) hk
 ·have e : q1p [0, 0] [a, b] = false := by
   cases hh : q1p [0, 0] [a, b] with
   | false => rfl
   | true => exact absurd (by simpa [q1p] using hh) hnn
  rw [e, if_neg (by decide)] at hm'
  rw [if_neg hnn, q0m he] at hk
  simp only [e, t0, t1, t2, xx, tt, bb, bc, ↓bd, Nat.reduceEqDiff, ↓reduceIte, reduceCtorEq]
  refine j0x hm' ⟨rfl, rfl, rfl, rfl, rfl, rfl⟩ rfl ?_
  intro n2 A2 hm2 q1k hn2
  have q1u := q1z.trans (by omega) q1k
  simp only [t6, (q0j (n' := n2) hb q1u).1, q1r, tt, bb, bc, ↓bd, Nat.reduceEqDiff, Nat.reduceAdd, ↓reduceIte]
  exact q0x hb hm2 q1u (by omega) hk
theorem a_re {M : Mch} {n g : Nat} {A : Nat → Blk} {s : St} {a : Vl} (h : MR M n A s) (he : s.err = 0) (ha : AS M g n A [a]) (oa : okV a = true) (ho : s.out.length ≤ 64)
  (hk : ∀ n' A', MR M n' A' (q1t (ap1 22 a) s).2 → Keep M.b n A A' → n ≤ n' → q0d Cx fn (putA T dst (q1o (q1t (ap1 22 a) s).1)) ds ro os k ⟨n', A'⟩ Q) :
  q0g Cx fn T ds ro 38 [.ptr M.b 22 0 0, .str (q0e 22), .slc g 5 0 1] dst os k ⟨n, A⟩ Q := by
 have hb := h.lt
 refine q2l (vs := [a]) h ha rfl rfl (by simp) rfl ?_
 intro T' t0 t1 t2 t6 t7 t8
 have hm := q6g (a := a) (b := a) h
 have hs := q6h (a := a) (b := a) ha
 have kr := Keep.refl M.b (n + 1 + 1 + 1) (H3 A n a a)
 obtain ⟨c0, c1, c2⟩ := q0j (n' := n + 1 + 1 + 1) hb kr
 have eap : ap1 22 a = if a.k = 2 then .val (nV a.x) else .bad 13 := rfl
 rw [eap] at hk
 have hI : IS M (n + 1 + 1 + 1) (n + 1 + 1 + 1 + 1) (upd (H3 A n a a) (n + 1 + 1 + 1) (.cells 3 1 [[.int .i64 2]])) [2] := ⟨by omega, by omega, by rw [q0b, if_pos rfl]; rfl⟩
 simp only [wq22, t0, t1, t2, r38_0, r38_1, tt, bb, bc, ↓bd, Nat.reduceEqDiff, Nat.reduceMul, Nat.reduceLeDiff, ↓reduceIte, reduceCtorEq, List.reduceReplicate]
 refine q1w (ks := [2]) (vs := [a]) (hm.up1 _) (hs.up1 _) hI (by simp) (by simp) rfl rfl ?_
 intro n' A' hm' hkp hn
 have q1z := ((Keep.refl M.b (n + 1 + 1 + 1) (H3 A n a a)).up1 (Nat.le_refl _) (.cells 3 1 [[.int .i64 2]])).trans (by omega) hkp
 obtain ⟨d0, d1, d2⟩ := q0j (n' := n') hb q1z
 by_cases hnn : a.k = 2
 ·have e : q1p [2] [a] = true := by simp [q1p, hnn]
  rw [e, if_pos rfl] at hm'
  rw [if_pos hnn] at hk
  have i1 := (q0w oa).2.2 hnn
  have iy := inR_iff.mp i1.2
  simp only [wq22, e, t1, t6, t7, d0, d1, q0a q3r rfl (q1s a.x), r38_1, q1r, tt, bb, bc, ↓bd, Nat.reduceEqDiff, Nat.reduceAdd, ↓reduceIte]
  exact q0x hb hm' q1z (by omega) hk
 ·have e : q1p [2] [a] = false := by
   cases hh : q1p [2] [a] with
   | false => rfl
   | true => exact absurd (by simpa [q1p] using hh) hnn
  rw [e, if_neg (by decide)] at hm'
  rw [if_neg hnn, q0m he] at hk
  simp only [e, t6, d0, q1r, tt, bb, bc, ↓bd, Nat.reduceEqDiff, Nat.reduceAdd, ↓reduceIte]
  exact q0x hb hm' q1z (by omega) hk
theorem a_im {M : Mch} {n g : Nat} {A : Nat → Blk} {s : St} {a : Vl} (h : MR M n A s) (he : s.err = 0) (ha : AS M g n A [a]) (oa : okV a = true) (ho : s.out.length ≤ 64)
  (hk : ∀ n' A', MR M n' A' (q1t (ap1 23 a) s).2 → Keep M.b n A A' → n ≤ n' → q0d Cx fn (putA T dst (q1o (q1t (ap1 23 a) s).1)) ds ro os k ⟨n', A'⟩ Q) :
  q0g Cx fn T ds ro 38 [.ptr M.b 22 0 0, .str (q0e 23), .slc g 5 0 1] dst os k ⟨n, A⟩ Q := by
 have hb := h.lt
 refine q2l (vs := [a]) h ha rfl rfl (by simp) rfl ?_
 intro T' t0 t1 t2 t6 t7 t8
 have hm := q6g (a := a) (b := a) h
 have hs := q6h (a := a) (b := a) ha
 have kr := Keep.refl M.b (n + 1 + 1 + 1) (H3 A n a a)
 obtain ⟨c0, c1, c2⟩ := q0j (n' := n + 1 + 1 + 1) hb kr
 have eap : ap1 23 a = if a.k = 2 then .val (nV a.y) else .bad 13 := rfl
 rw [eap] at hk
 have hI : IS M (n + 1 + 1 + 1) (n + 1 + 1 + 1 + 1) (upd (H3 A n a a) (n + 1 + 1 + 1) (.cells 3 1 [[.int .i64 2]])) [2] := ⟨by omega, by omega, by rw [q0b, if_pos rfl]; rfl⟩
 simp only [wq23, t0, t1, t2, r38_0, r38_1, tt, bb, bc, ↓bd, Nat.reduceEqDiff, Nat.reduceMul, Nat.reduceLeDiff, ↓reduceIte, reduceCtorEq, List.reduceReplicate]
 refine q1w (ks := [2]) (vs := [a]) (hm.up1 _) (hs.up1 _) hI (by simp) (by simp) rfl rfl ?_
 intro n' A' hm' hkp hn
 have q1z := ((Keep.refl M.b (n + 1 + 1 + 1) (H3 A n a a)).up1 (Nat.le_refl _) (.cells 3 1 [[.int .i64 2]])).trans (by omega) hkp
 obtain ⟨d0, d1, d2⟩ := q0j (n' := n') hb q1z
 by_cases hnn : a.k = 2
 ·have e : q1p [2] [a] = true := by simp [q1p, hnn]
  rw [e, if_pos rfl] at hm'
  rw [if_pos hnn] at hk
  have i1 := (q0w oa).2.2 hnn
  have iy := inR_iff.mp i1.2
  simp only [wq23, e, t1, t6, t7, d0, d1, q0a q3r rfl (q1s a.y), r38_1, q1r, tt, bb, bc, ↓bd, Nat.reduceEqDiff, Nat.reduceAdd, ↓reduceIte]
  exact q0x hb hm' q1z (by omega) hk
 ·have e : q1p [2] [a] = false := by
   cases hh : q1p [2] [a] with
   | false => rfl
   | true => exact absurd (by simpa [q1p] using hh) hnn
  rw [e, if_neg (by decide)] at hm'
  rw [if_neg hnn, q0m he] at hk
  simp only [e, t6, d0, q1r, tt, bb, bc, ↓bd, Nat.reduceEqDiff, Nat.reduceAdd, ↓reduceIte]
  exact q0x hb hm' q1z (by omega) hk
theorem w6r {M : Mch} {n g : Nat} {A : Nat → Blk} {s : St} {a : Vl} (h : MR M n A s) (he : s.err = 0) (ha : AS M g n A [a]) (oa : okV a = true) (ho : s.out.length ≤ 64)
  (hk : ∀ n' A', MR M n' A' (q1t (ap1 24 a) s).2 → Keep M.b n A A' → n ≤ n' → q0d Cx fn (putA T dst (q1o (q1t (ap1 24 a) s).1)) ds ro os k ⟨n', A'⟩ Q) :
  q0g Cx fn T ds ro 38 [.ptr M.b 22 0 0, .str (q0e 24), .slc g 5 0 1] dst os k ⟨n, A⟩ Q := by
 have hb := h.lt
 refine q2l (vs := [a]) h ha rfl rfl (by simp) rfl ?_
 intro T' t0 t1 t2 t6 t7 t8
 have hm := q6g (a := a) (b := a) h
 have hs := q6h (a := a) (b := a) ha
 have kr := Keep.refl M.b (n + 1 + 1 + 1) (H3 A n a a)
 obtain ⟨c0, c1, c2⟩ := q0j (n' := n + 1 + 1 + 1) hb kr
 have eap : ap1 24 a = if a.k = 2 then .val (nV (a.x * a.x + a.y * a.y)) else .bad 13 := rfl
 rw [eap] at hk
 have hI : IS M (n + 1 + 1 + 1) (n + 1 + 1 + 1 + 1) (upd (H3 A n a a) (n + 1 + 1 + 1) (.cells 3 1 [[.int .i64 2]])) [2] := ⟨by omega, by omega, by rw [q0b, if_pos rfl]; rfl⟩
 simp only [wq24, t0, t1, t2, r38_0, r38_1, tt, bb, bc, ↓bd, Nat.reduceEqDiff, Nat.reduceMul, Nat.reduceLeDiff, ↓reduceIte, reduceCtorEq, List.reduceReplicate]
 refine q1w (ks := [2]) (vs := [a]) (hm.up1 _) (hs.up1 _) hI (by simp) (by simp) rfl rfl ?_
 intro n' A' hm' hkp hn
 have q1z := ((Keep.refl M.b (n + 1 + 1 + 1) (H3 A n a a)).up1 (Nat.le_refl _) (.cells 3 1 [[.int .i64 2]])).trans (by omega) hkp
 obtain ⟨d0, d1, d2⟩ := q0j (n' := n') hb q1z
 by_cases hnn : a.k = 2
 ·have e : q1p [2] [a] = true := by simp [q1p, hnn]
  rw [e, if_pos rfl] at hm'
  rw [if_pos hnn] at hk
  have i1 := (q0w oa).2.2 hnn
  have iy := inR_iff.mp i1.2
  have hno : q0k Cx 62 [.agg [.int .i64 a.x, .int .i64 a.y]] (.int .i64 (a.x * a.x + a.y * a.y)) := Gs.refNorm_ok a.x a.y i1.1 i1.2
  simp only [wq24, e, t1, t6, t7, d0, d1, q0a y1o rfl hno, q0a q3r rfl (q1s (a.x * a.x + a.y * a.y)), r38_1, q1r, tt, bb, bc, ↓bd, Nat.reduceEqDiff, Nat.reduceAdd, ↓reduceIte]
  exact q0x hb hm' q1z (by omega) hk
 ·have e : q1p [2] [a] = false := by
   cases hh : q1p [2] [a] with
   | false => rfl
   | true => exact absurd (by simpa [q1p] using hh) hnn
  rw [e, if_neg (by decide)] at hm'
  rw [if_neg hnn, q0m he] at hk
  simp only [e, t6, d0, q1r, tt, bb, bc, ↓bd, Nat.reduceEqDiff, Nat.reduceAdd, ↓reduceIte]
  exact q0x hb hm' q1z (by omega) hk
theorem w6s {M : Mch} {n g : Nat} {A : Nat → Blk} {s : St} {a : Vl} (h : MR M n A s) (he : s.err = 0) (ha : AS M g n A [a]) (oa : okV a = true) (ho : s.out.length ≤ 64)
  (hk : ∀ n' A', MR M n' A' (q1t (ap1 25 a) s).2 → Keep M.b n A A' → n ≤ n' → q0d Cx fn (putA T dst (q1o (q1t (ap1 25 a) s).1)) ds ro os k ⟨n', A'⟩ Q) :
  q0g Cx fn T ds ro 38 [.ptr M.b 22 0 0, .str (q0e 25), .slc g 5 0 1] dst os k ⟨n, A⟩ Q := by
 have hb := h.lt
 refine q2l (vs := [a]) h ha rfl rfl (by simp) rfl ?_
 intro T' t0 t1 t2 t6 t7 t8
 have hm := q6g (a := a) (b := a) h
 have hs := q6h (a := a) (b := a) ha
 have kr := Keep.refl M.b (n + 1 + 1 + 1) (H3 A n a a)
 obtain ⟨c0, c1, c2⟩ := q0j (n' := n + 1 + 1 + 1) hb kr
 have eap : ap1 25 a = if a.k = 2 then .val (pV a.x (-a.y)) else .bad 13 := rfl
 rw [eap] at hk
 have hI : IS M (n + 1 + 1 + 1) (n + 1 + 1 + 1 + 1) (upd (H3 A n a a) (n + 1 + 1 + 1) (.cells 3 1 [[.int .i64 2]])) [2] := ⟨by omega, by omega, by rw [q0b, if_pos rfl]; rfl⟩
 simp only [wq25, t0, t1, t2, r38_0, r38_1, tt, bb, bc, ↓bd, Nat.reduceEqDiff, Nat.reduceMul, Nat.reduceLeDiff, ↓reduceIte, reduceCtorEq, List.reduceReplicate]
 refine q1w (ks := [2]) (vs := [a]) (hm.up1 _) (hs.up1 _) hI (by simp) (by simp) rfl rfl ?_
 intro n' A' hm' hkp hn
 have q1z := ((Keep.refl M.b (n + 1 + 1 + 1) (H3 A n a a)).up1 (Nat.le_refl _) (.cells 3 1 [[.int .i64 2]])).trans (by omega) hkp
 obtain ⟨d0, d1, d2⟩ := q0j (n' := n') hb q1z
 by_cases hnn : a.k = 2
 ·have e : q1p [2] [a] = true := by simp [q1p, hnn]
  rw [e, if_pos rfl] at hm'
  rw [if_pos hnn] at hk
  have i1 := (q0w oa).2.2 hnn
  have iy := inR_iff.mp i1.2
  have w2 : IntKind.i64.wrap (0 - a.y) = -a.y := by rw [wr64 (by omega) (by omega)]; omega
  simp only [wq25, e, t1, t6, t7, d0, d1, w2, xx, r38_1, q1r, tt, bb, bc, ↓bd, Nat.reduceEqDiff, Nat.reduceAdd, Nat.reduceLeDiff, ↓reduceIte]
  exact q0x hb hm' q1z (by omega) hk
 ·have e : q1p [2] [a] = false := by
   cases hh : q1p [2] [a] with
   | false => rfl
   | true => exact absurd (by simpa [q1p] using hh) hnn
  rw [e, if_neg (by decide)] at hm'
  rw [if_neg hnn, q0m he] at hk
  simp only [e, t6, d0, q1r, tt, bb, bc, ↓bd, Nat.reduceEqDiff, Nat.reduceAdd, ↓reduceIte]
  exact q0x hb hm' q1z (by omega) hk
theorem w6t {M : Mch} {n g : Nat} {A : Nat → Blk} {s : St} {a : Vl} (h : MR M n A s) (he : s.err = 0) (ha : AS M g n A [a]) (oa : okV a = true) (ho : s.out.length ≤ 64)
  (hk : ∀ n' A', MR M n' A' (q1t (ap1 20 a) s).2 → Keep M.b n A A' → n ≤ n' → q0d Cx fn (putA T dst (q1o (q1t (ap1 20 a) s).1)) ds ro os k ⟨n', A'⟩ Q) :
  q0g Cx fn T ds ro 38 [.ptr M.b 22 0 0, .str (q0e 20), .slc g 5 0 1] dst os k ⟨n, A⟩ Q := by
 have hb := h.lt
 refine q2l (vs := [a]) h ha rfl rfl (by simp) rfl ?_
 intro T' t0 t1 t2 t6 t7 t8
 have hm := q6g (a := a) (b := a) h
 have hs := q6h (a := a) (b := a) ha
 have kr := Keep.refl M.b (n + 1 + 1 + 1) (H3 A n a a)
 obtain ⟨c0, c1, c2⟩ := q0j (n' := n + 1 + 1 + 1) hb kr
 have eap : ap1 20 a = if a.k = 1 then .val a else .val (tV (q6q a.k a.n a.s a.x a.y)) := rfl
 rw [eap] at hk
 by_cases h1 : a.k = 1
 ·rw [if_pos h1] at hk
  have y : (a.k == 1) = true := by simp [h1]
  simp only [w8i, t1, t6, t7, c0, c1, y, r38_0, r38_1, q1r, tt, bb, bc, ↓bd, Nat.reduceEqDiff, Nat.reduceAdd, ↓reduceIte]
  exact q0x hb hm kr (Nat.le_refl _) hk
 ·rw [if_neg h1] at hk
  have y : (a.k == 1) = false := by simp [h1]
  have hwr : q0k Cx 63 [.agg [.int .i64 a.k, .int .i64 a.n, .str a.s, .int .i64 a.x, .int .i64 a.y]] (.str (q6q a.k a.n a.s a.x a.y)) := j6y (show q1j a.k a.n a.s a.x a.y = true from oa)
  simp only [w8i, t1, t6, t7, c0, c1, y, q0a w2o rfl hwr, q0a j3q rfl (q6u (q6q a.k a.n a.s a.x a.y)), r38_0, r38_1, q1r, tt, bb, bc, ↓bd, Nat.reduceEqDiff, Nat.reduceAdd, ↓reduceIte]
  exact q0x hb hm kr (Nat.le_refl _) hk
end
section
variable {fn : FuncId} {T : Nat → AV} {ds : List ADef} {ro : Option Nat} {k : List AItem} {Q : AV → AHeap → Prop} {dst : Option Nat} {os : List AO}
set_option maxRecDepth 20000 in
theorem w6u {M : Mch} {n g : Nat} {A : Nat → Blk} {s : St} {a b : Vl} (h : MR M n A s) (he : s.err = 0) (ha : AS M g n A [a, b]) (oa : okV a = true) (ob : okV b = true) (ho : s.out.length ≤ 64)
  (hk : ∀ n' A', MR M n' A' (q1t (ap2 26 a b s.out.length) s).2 → Keep M.b n A A' → n ≤ n' → q0d Cx fn (putA T dst (q1o (q1t (ap2 26 a b s.out.length) s).1)) ds ro os k ⟨n', A'⟩ Q) :
  q0g Cx fn T ds ro 38 [.ptr M.b 22 0 0, .str (q0e 26), .slc g 5 0 2] dst os k ⟨n, A⟩ Q := by
 have hb := h.lt
 refine q2l (vs := [a, b]) h ha rfl rfl (by simp) rfl ?_
 intro T' t0 t1 t2 t6 t7 t8
 have hm := q6g (a := a) (b := b) h
 have hs := q6h (a := a) (b := b) ha
 have kr := Keep.refl M.b (n + 1 + 1 + 1) (H3 A n a b)
 obtain ⟨c0, c1, c2⟩ := q0j (n' := n + 1 + 1 + 1) hb kr
 have eap : ap2 26 a b s.out.length = (if a.k = 1 then (if a.s.length ≤ 64 then (if s.out.length = 64 then .bad 22 else .out (x4v a.s b) b) else .bad 3) else .bad 13) := rfl
 rw [eap] at hk
 have hm' := hm
 obtain ⟨hb3, o, hA, how⟩ := hm
 have hm := hm'
 have hlo := how.lenOf
 simp only [BX.lenOf] at hlo
 by_cases k1 : a.k = 1
 ·rw [if_pos k1] at hk
  have z1 : (a.k != 1) = false := by simp [k1]
  by_cases hl : a.s.length ≤ 64
  ·rw [if_pos hl] at hk
   have z2 : ¬ (64 : Int) < (a.s.length : Int) := by omega
   by_cases hm64 : s.out.length = 64
   ·rw [if_pos hm64, q0m he] at hk
    have z3 : (64 : Int) ≤ (s.out.length : Int) := by omega
    simp only [w8j, t0, t1, t7, c1, hA, z1, z2, z3, hlo, i64, r38_0, r38_1, tt, bb, bc, ↓bd, Nat.reduceEqDiff, ↓reduceIte, reduceCtorEq]
    refine q0q hm ?_
    intro n' A' hm' hkp hn
    simp only [t6, (q0j (n' := n') hb hkp).1, q1r, tt, bb, bc, ↓bd, Nat.reduceEqDiff, Nat.reduceAdd, ↓reduceIte]
    exact q0x hb hm' hkp hn hk
   ·rw [if_neg hm64] at hk
    have z3 : ¬ (64 : Int) ≤ (s.out.length : Int) := by omega
    simp only [w8j, t0, t1, t7, t8, c1, c2, hA, z1, z2, z3, hlo, i64, r38_0, r38_1, tt, bb, bc, ↓bd, Nat.reduceEqDiff, Nat.reduceAdd, Nat.reduceMul, Nat.reduceLeDiff, ↓reduceIte, reduceCtorEq, List.reduceReplicate]
    obtain ⟨A3, x1l, how3, hkeep⟩ := how.app1 (x4v a.s b) ho
    have hA3 : A3 M.b = .cells 66 22 [[M.L, M.F, .str M.E.key, .int .i64 M.E.val.k, .int .i64 M.E.val.n, .str M.E.val.s, .int .i64 M.E.val.x, .int .i64 M.E.val.y, .int .i64 M.E.acc.k, .int .i64 M.E.acc.n, .str M.E.acc.s, .int .i64 M.E.acc.x, .int .i64 M.E.acc.y, .int .i64 s.i, .int .i64 s.it.k, .int .i64 s.it.n, .str s.it.s, .int .i64 s.it.x, .int .i64 s.it.y, o, .int .i64 (s.left : Int), .int .i64 s.err]] := by
     rw [hkeep M.b (by omega) (j9c hm')]; exact hA
    have b0 : A3 n = .cells 26 5 [[.int .i64 0, .int .i64 0, .str [], .int .i64 0, .int .i64 0]] := by
     rw [hkeep n (by omega) (by rw [c0]; exact q3k)]; exact c0
    have b2 : A3 (n + 1 + 1) = .cells 26 5 [[.int .i64 b.k, .int .i64 b.n, .str b.s, .int .i64 b.x, .int .i64 b.y]] := by
     rw [hkeep (n + 1 + 1) (by omega) (by rw [c2]; exact q3k)]; exact c2
    have e1 : (n = M.b) = False := eq_false (by omega)
    have e2 : (n + 1 + 1 = M.b) = False := eq_false (by omega)
    have e3 : (M.b = n) = False := eq_false (by omega)
    simp only [t6, t8, x1l, hA3, b0, b2, e1, e2, q0i, q1r, tt, bb, bc, ↓bd, Nat.reduceEqDiff, Nat.reduceAdd, Nat.reduceLeDiff, ↓reduceIte]
    have hpl := how3.plain
    simp only [AV.plain] at hpl
    refine hk (n + 1 + 1 + 1 + 1 + 1) _ ⟨by omega, .slc (n + 1 + 1 + 1 + 1) 6 0 (s.out.length + 1), ?_, ?_⟩ (fun c hc hcb hcp => ?_) (by omega)
    ·simp only [q0b, e3, ↓reduceIte]
     rfl
    ·refine how3.keep (Nat.le_refl _) fun z hz hzp => ?_
     have z1 : z ≠ M.b := by rintro rfl; rw [hA3] at hzp; cases hzp
     have z2 : z ≠ n := by rintro rfl; rw [b0] at hzp; cases hzp
     rw [q0b, if_neg z2, q0b, if_neg z1]
    ·have cn : c ≠ n := by omega
     have hh : H3 A n a b c = A c := by unfold H3; rw [q0b, if_neg (by omega), q0b, if_neg (by omega), q0b, if_neg cn]
     rw [q0b, if_neg cn, q0b, if_neg hcb, hkeep c (by omega) (by rw [hh]; exact hcp), hh]
  ·rw [if_neg hl, q0m he] at hk
   have z2 : (64 : Int) < (a.s.length : Int) := by omega
   simp only [w8j, t0, t1, t7, c1, z1, z2, i64, r38_0, r38_1, tt, bb, bc, ↓bd, Nat.reduceEqDiff, ↓reduceIte, reduceCtorEq]
   refine q0q hm ?_
   intro n' A' hm' hkp hn
   simp only [t6, (q0j (n' := n') hb hkp).1, q1r, tt, bb, bc, ↓bd, Nat.reduceEqDiff, Nat.reduceAdd, ↓reduceIte]
   exact q0x hb hm' hkp hn hk
 ·rw [if_neg k1, q0m he] at hk
  have z1 : (a.k != 1) = true := by simpa using k1
  simp only [w8j, t0, t1, t7, c1, z1, r38_0, r38_1, tt, bb, bc, ↓bd, Nat.reduceEqDiff, ↓reduceIte, reduceCtorEq]
  refine q0q hm ?_
  intro n' A' hm' hkp hn
  simp only [t6, (q0j (n' := n') hb hkp).1, q1r, tt, bb, bc, ↓bd, Nat.reduceEqDiff, Nat.reduceAdd, ↓reduceIte]
  exact q0x hb hm' hkp hn hk
end
theorem y2y : ∀ (l r cur : Bytes), (∀ x, x ∈ l → x ≠ 32) → q2h (l ++ r) cur = q2h r (cur ++ l)
 | [], r, cur, _ => by simp
 | c :: l, r, cur, h => by
  have hc : c ≠ 32 := h c (by simp)
  rw [List.cons_append]
  conv => lhs; unfold q2h
  rw [if_neg hc, y2y l r (cur ++ [c]) (fun x hx => h x (by simp [hx]))]
  simp
theorem y7j {s : Bytes} {i j : Nat} (hij : i ≤ j) (hj : j ≤ s.length) (hn : ∀ k, i ≤ k → k < j → ∀ c, s[k]? = some c → c ≠ 32) (he : j = s.length ∨ s[j]? = some 32) :
  q2h (s.drop i) [] = (if i < j then [(s.take j).drop i] else []) ++ q2h (s.drop (j + 1)) [] := by
 have e1 : s.drop i = (s.take j).drop i ++ s.drop j := by
  conv => lhs; rw [← List.take_append_drop j s]
  rw [List.drop_append_of_le_length (by rw [List.length_take]; omega)]
 have hl : ((s.take j).drop i).length = j - i := by rw [List.length_drop, List.length_take]; omega
 have hno : ∀ x, x ∈ (s.take j).drop i → x ≠ 32 := by
  intro x hx
  obtain ⟨m, hm, rfl⟩ := List.getElem_of_mem hx
  rw [hl] at hm
  refine hn (i + m) (by omega) (by omega) _ ?_
  rw [List.getElem_drop, List.getElem_take, List.getElem?_eq_getElem (by omega)]
 rw [e1, y2y _ _ _ hno, List.nil_append]
 have hne : ((s.take j).drop i = []) ↔ ¬ i < j := by
  rw [← List.length_eq_zero_iff, hl]; omega
 rcases he with he | he
 ·have d1 : s.drop j = [] := List.drop_of_length_le (by omega)
  have d2 : s.drop (j + 1) = [] := List.drop_of_length_le (by omega)
  rw [d1, d2]
  show (if (s.take j).drop i = [] then [] else [(s.take j).drop i]) = _ ++ []
  rw [List.append_nil]
  by_cases h : i < j
  ·rw [if_pos h, if_neg (by rw [hne]; omega)]
  ·rw [if_neg h, if_pos (by rw [hne]; omega)]
 ·have hlt : j < s.length := by
   rcases Nat.lt_or_ge j s.length with h | h
   ·exact h
   ·rw [List.getElem?_eq_none h] at he; cases he
  have e2 : s.drop j = 32 :: s.drop (j + 1) := by
   rw [List.drop_eq_getElem_cons hlt]
   rw [List.getElem?_eq_getElem hlt] at he
   rw [Option.some.inj he]
  rw [e2]
  conv => lhs; unfold q2h
  rw [if_pos rfl]
  by_cases h : i < j
  ·rw [if_pos h, if_neg (by rw [hne]; omega)]; rfl
  ·rw [if_neg h, if_pos (by rw [hne]; omega)]; rfl
def BufW (d : AV) (n : Nat) (A : Nat → Blk) (acc : List Bytes) : Prop := (d = .nilS ∧ acc = []) ∨ ∃ g, d = .slc g 1 0 acc.length ∧ g < n ∧ A g = .cells 9 1 (acc.map fun w => [.str w]) ∧ acc ≠ []
def inW (l : List Bytes) : AV := if l = [] then .nilS else .vec 1 (l.map fun w => [.str w])
theorem BufW.frozen {d : AV} {n : Nat} {A : Nat → Blk} {acc : List Bytes} (h : BufW d n A acc) : BX.freeze ⟨n, A⟩ d = some (inW acc) := by
 rcases h with ⟨rfl, rfl⟩ | ⟨g, rfl, hn, hA, hne⟩
 ·rfl
 ·unfold inW
  rw [if_neg hne]
  have he : elems ⟨n, A⟩ 1 (.slc g 1 0 acc.length) = some (acc.map fun w => [.str w]) := by
   unfold elems
   simp only [hA]
   rw [if_pos ⟨trivial, trivial, by simp⟩, List.drop_zero, List.take_of_length_le (by simp)]
  have hr : ∀ l : List Bytes, q3u (q3u (q1h ⟨n, A⟩ 3)) (l.map fun w => [AV.str w]) = some (l.map fun w => [.str w]) := by
   intro l
   induction l with
   | nil => rfl
   | cons p l ih =>
    rw [List.map_cons, q4m, ih]
    have : q3u (q1h ⟨n, A⟩ 3) [AV.str p] = some [.str p] := q4w (p := AV.flat1) (fun v hv => q3d hv) rfl
    rw [this]; rfl
  rw [q6p, he, q5i, hr]
  rfl
theorem w9sl : x6x Cx 92 9 := ⟨_, y4o, rfl⟩
theorem w9ti : ∃ ti, Cx.TT 9 = some ti ∧ ti.size = 1 ∧ ti.bytes = 16 := ⟨_, x6y, rfl, rfl⟩
end Go.Proofs.YtckhmpcmlochpaaGreat.G
