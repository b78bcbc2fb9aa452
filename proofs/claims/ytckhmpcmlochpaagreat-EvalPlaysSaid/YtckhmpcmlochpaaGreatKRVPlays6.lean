import Derived.Test.YtckhmpcmlochpaaGreatKRVPlays5
import Derived.Test.YtckhmpcmlochpaaGreatKRVPlays4
set_option linter.unusedSimpArgs false
set_option linter.unusedVariables false
set_option linter.unnecessarySimpa false
set_option linter.unusedSectionVars false
namespace Go.Proofs.YtckhmpcmlochpaaGreat.G
open Go.BX
variable {fn : FuncId} {T : Nat → AV} {ds : List ADef} {ro : Option Nat} {k : List AItem} {Q : AV → AHeap → Prop} {dst : Option Nat} {os : List AO}
abbrev q3n (v : Vl) : Blk := .cells 26 5 [[.int .i64 v.k, .int .i64 v.n, .str v.s, .int .i64 v.x, .int .i64 v.y]]
theorem j4e {f : St → Vl × St} {N : Int} {c : Nat} {k : Int} {v : Vl} {s : St} (h : ¬ (k < N ∧ s.err = 0)) : q5l f N c k v s = (v, s) := by
 cases c with
 | zero => rfl
 | succ c =>
  conv => lhs; unfold q5l
  rw [if_neg h]
theorem x5k {f : St → Vl × St} {N : Int} {c : Nat} {k : Int} {v : Vl} {s : St} (h : k < N ∧ s.err = 0) : q5l f N (c + 1) k v s = q5l f N c (k + 1) (f { s with i := k }).1 (f { s with i := k }).2 := by
 conv => lhs; unfold q5l
 rw [if_pos h]
theorem q6e {b n : Nat} {A A' : Nat → Blk} (h : Keep b n A A') {c : Nat} {t kk : Nat} {es : List (List AV)} (hA : A c = .cells t kk es) (hc : c < n) (hb : c ≠ b) (ht : t ≠ 49) : A' c = .cells t kk es := h.at hc hb hA ht
set_option maxRecDepth 20000 in
theorem j8t {M : Mch} {n0 a : Nat} {A0 : Nat → Blk} {i0 : Int} {Q : AV → AHeap → Prop} (ha : n0 ≤ a) (hab : M.b < a) (hb0 : M.b < n0) {j : Int} {v : Vl} {s : St} {T : Nat → AV} {n b8 : Nat} {A : Nat → Blk} (hm : MS M n A { s with i := j }) (hkp : Keep M.b n0 A0 A) (hn : n0 ≤ n)
  (t6 : T 6 = .ptr (a + 2) 5 0 0) (t8 : T 8 = .ptr b8 5 0 0) (hb8 : a + 3 < b8) (hbn : b8 < n)
  (hA0 : A a = .cells 54 1 [[.ptr M.b 22 0 0]]) (hA2 : A (a + 2) = zB) (hA3 : A (a + 3) = .cells 3 1 [[.int .i64 i0]]) (hA8 : A b8 = q3n v)
  (hQ : ∀ n' A', MS M n' A' { s with i := i0 } → Keep M.b n0 A0 A' → n0 ≤ n' → Q (q1o v) ⟨n', A'⟩) :
  Run Cx 50 T [.call (.fn 68 [] [.ptr (a + 3) 1 0 0, .ptr a 1 0 0]) []] none [.code c50_40, .inScope c50_3] ⟨n, A⟩ Q := by
 have hA8' : A b8 = .cells 26 5 [[.int .i64 v.k, .int .i64 v.n, .str v.s, .int .i64 v.x, .int .i64 v.y]] := hA8
 have hA2' : A (a + 2) = .cells 26 5 [[.int .i64 0, .int .i64 0, .str [], .int .i64 0, .int .i64 0]] := hA2
 simp only [t6, t8, hA2', hA8', r50_0.2.2.2.2.2.1, tt, bb, ↓bd, Nat.reduceEqDiff, Nat.reduceAdd, ↓reduceIte]
 refine x0a (.inr ⟨_, rfl⟩) ?_
 refine ⟨q0l _, _, w2k, ?_⟩
 have hm2 := hm.upo (c := a + 2) (by omega) (by rw [hA2]; exact q3j) (q3n v)
 obtain ⟨o, q1m⟩ := hm2.errCell
 have e1 : (a = a + 2) = False := eq_false (by omega)
 have e2 : (a + 3 = a + 2) = False := eq_false (by omega)
 have e3 : (M.b = a + 2) = False := eq_false (by omega)
 have e4 : (a + 2 = M.b) = False := eq_false (by omega)
 have e5 : (a = M.b) = False := eq_false (by omega)
 have e6 : (a + 3 = M.b) = False := eq_false (by omega)
 rw [q0b, if_neg (by omega)] at q1m
 have hm3 := hm2.setI (o := o) (by rw [q0b, if_neg (by omega)]; exact q1m) { s with i := i0 } rfl
 simp only [hA0, hA3, q1m, e1, e2, e3, r68_0, tt, bb, ↓bd, Nat.reduceEqDiff, Nat.reduceAdd, Nat.reduceLeDiff, ↓reduceIte, reduceCtorEq]
 have q1t := (hkp.up1 (n' := a + 2) (by omega) (q3n v)).set (.cells 58 22 [[M.L, M.F, .str M.E.key, .int .i64 M.E.val.k, .int .i64 M.E.val.n, .str M.E.val.s, .int .i64 M.E.val.x, .int .i64 M.E.val.y, .int .i64 M.E.acc.k, .int .i64 M.E.acc.n, .str M.E.acc.s, .int .i64 M.E.acc.x, .int .i64 M.E.acc.y, .int .i64 i0, .int .i64 s.it.k, .int .i64 s.it.n, .str s.it.s, .int .i64 s.it.x, .int .i64 s.it.y, o, .int .i64 (s.left : Int), .int .i64 s.err]])
 rw [y3u, w9f]
 show RunRes Cx _ _ Q (q0p Cx 50)
 rw [y4j]
 have e7 : (a + 2 = M.b) = False := eq_false (by omega)
 simp only [t6, e7, tt, bb, bc, ↓bd, Nat.reduceEqDiff, Nat.reduceAdd, ↓reduceIte]
 exact hQ n _ hm3 q1t hn
theorem w5v {M : Mch} {l : List Nd} {g : Nat} (hM : ML M l) (hD : DoC M l g) {p n0 a : Nat} {A0 : Nat → Blk} {t : Ex} (ht : Tree l p t) {i0 : Int} {nv : Vl} (hN0 : 0 ≤ nv.n) (hN1 : nv.n ≤ 9007199254740992) {Q : AV → AHeap → Prop} (ha : n0 ≤ a) (hab : M.b < a) (hb0 : M.b < n0) :
  ∀ (c : Nat) (j : Int) (v : Vl) (s : St) (T : Nat → AV) (n b8 : Nat) (A : Nat → Blk), MS M n A { s with i := j } → Sk s → 0 ≤ j → j ≤ nv.n → s.left ≤ g → (s.err = 0 → s.left < c) → Keep M.b n0 A0 A → n0 ≤ n →
   T 2 = .int .i64 (p : Int) → T 3 = .ptr a 1 0 0 → T 4 = .ptr (a + 1) 5 0 0 → T 6 = .ptr (a + 2) 5 0 0 → T 8 = .ptr b8 5 0 0 → a + 3 < b8 → b8 < n →
   A a = .cells 54 1 [[.ptr M.b 22 0 0]] → A (a + 1) = q3n nv → A (a + 2) = zB → A (a + 3) = .cells 3 1 [[.int .i64 i0]] → A b8 = q3n v →
   (∀ n' A', MS M n' A' { (q5l (ev M.E g t) nv.n c j v s).2 with i := i0 } → Keep M.b n0 A0 A' → n0 ≤ n' → Q (q1o (q5l (ev M.E g t) nv.n c j v s).1) ⟨n', A'⟩) →
   Run Cx 50 T [.call (.fn 68 [] [.ptr (a + 3) 1 0 0, .ptr a 1 0 0]) []] none [.code c50_28, .inScope c50_3] ⟨n, A⟩ Q := by
 intro c
 induction c with
 | zero =>
  intro j v s T n b8 A hm hs hj0 hj1 hg hc hkp hn t2 t3 t4 t6 t8 hb8 hbn hA0 hA1 hA2 hA3 hA8 hQ
  obtain ⟨o, q1m⟩ := hm.errCell
  have hne : s.err ≠ 0 := fun h => by have := hc h; omega
  have z1 : (s.err == 0) = false := by simp [hne]
  by_cases h1 : j < nv.n
  ·simp only [t3, t4, hA0, hA1, q1m, h1, z1, r50_0.2.2.2.2.1, tt, bb, ↓bd, Nat.reduceEqDiff, ↓reduceIte]
   refine j8t ha hab hb0 (v := v) (s := s) hm hkp hn ?_ ?_ hb8 hbn hA0 hA2 hA3 hA8 hQ
   all_goals simp only [q0b, t6, t8, Nat.reduceEqDiff, ↓reduceIte]
  ·simp only [t3, t4, hA0, hA1, q1m, h1, r50_0.2.2.2.2.1, tt, bb, ↓bd, Nat.reduceEqDiff, ↓reduceIte]
   refine j8t ha hab hb0 (v := v) (s := s) hm hkp hn ?_ ?_ hb8 hbn hA0 hA2 hA3 hA8 hQ
   all_goals simp only [q0b, t6, t8, Nat.reduceEqDiff, ↓reduceIte]
 | succ c ih =>
  intro j v s T n b8 A hm hs hj0 hj1 hg hc hkp hn t2 t3 t4 t6 t8 hb8 hbn hA0 hA1 hA2 hA3 hA8 hQ
  obtain ⟨o, q1m⟩ := hm.errCell
  have hb := hm.lt
  by_cases hgo : j < nv.n ∧ s.err = 0
  ·rw [x5k hgo] at hQ
   have c1 : (j < nv.n) = True := eq_true hgo.1
   have z1 : (s.err == 0) = true := by simp [hgo.2]
   have w1 : IntKind.i64.wrap (j + 1) = j + 1 := wr64 (by omega) (by omega)
   simp only [t2, t3, t4, hA0, hA1, q1m, c1, z1, r50_0, tt, bb, bc, ↓bd, Nat.reduceEqDiff, ↓reduceIte]
   have hsj : Sk { s with i := j } := ⟨hs.it, hj0, by show j ≤ _; omega, hs.out, hs.outs⟩
   refine hD hm hsj ht hg ?_
   intro n' A' hm' q1y hn'
   have q0 := q6e q1y hA0 (by omega) (by omega) (by decide)
   have q1 := q6e q1y hA1 (by omega) (by omega) (by decide)
   have q2 := q6e q1y hA2 (by omega) (by omega) (by decide)
   have q3 := q6e q1y hA3 (by omega) (by omega) (by decide)
   have q8 := q6e q1y hA8 (by omega) (by omega) (by decide)
   have hk2 := x6w hM.env g t { s with i := j } ht.1 hsj
   have j1c := z7n (E := M.E) g t { s with i := j }
   generalize hr : ev M.E g t { s with i := j } = r at hm' hQ hk2 j1c
   have hm2 := hm'.upo (c := b8) (by omega) (by rw [q8]; exact q3j) (q3n r.1)
   obtain ⟨o2, hcell2⟩ := hm2.errCell
   have hm3 := hm2.setI hcell2 { r.2 with i := j + 1 } rfl
   have e1 : (a = b8) = False := eq_false (by omega)
   have e2 : (M.b = b8) = False := eq_false (by omega)
   have y3d := hcell2
   rw [q0b, if_neg (by omega)] at y3d
   simp only [t3, t8, q0, q8, y3d, w1, e1, e2, tt, bb, ↓bd, Nat.reduceEqDiff, Nat.reduceAdd, Nat.reduceLeDiff, ↓reduceIte]
   have hgt : z1r 0 [.code c50_40, .inScope c50_3] = some [.code (.seq .skip c50_28), .inScope c50_3] := rfl
   show Run Cx 50 _ _ none (.code (.goto 0) :: _) _ _
   rw [q7a hgt, q5z, q4u]
   have q1t := (((hkp.trans hn q1y).up1 (n' := b8) (by omega) (q3n r.1))).set (.cells 58 22 [[M.L, M.F, .str M.E.key, .int .i64 M.E.val.k, .int .i64 M.E.val.n, .str M.E.val.s, .int .i64 M.E.val.x, .int .i64 M.E.val.y, .int .i64 M.E.acc.k, .int .i64 M.E.acc.n, .str M.E.acc.s, .int .i64 M.E.acc.x, .int .i64 M.E.acc.y, .int .i64 (j + 1), .int .i64 r.2.it.k, .int .i64 r.2.it.n, .str r.2.it.s, .int .i64 r.2.it.x, .int .i64 r.2.it.y, o2, .int .i64 (r.2.left : Int), .int .i64 r.2.err]])
   refine ih (j + 1) r.1 r.2 _ n' b8 _ hm3 hk2.2 (by omega) (by omega) (Nat.le_trans j1c.left hg) ?_ q1t (by omega) ?_ ?_ ?_ ?_ ?_ hb8 (by omega) ?_ ?_ ?_ ?_ ?_ hQ
   ·intro h
    have := x4q (E := M.E) (g := g) (t := t) (s := { s with i := j }) (by rw [hr]; exact h)
    rw [hr] at this
    have h3 := hc hgo.2
    have h4 : r.2.left < s.left := this
    omega
   ·simp only [q0b, t2, Nat.reduceEqDiff, ↓reduceIte]
   ·simp only [q0b, t3, Nat.reduceEqDiff, ↓reduceIte]
   ·simp only [q0b, t4, Nat.reduceEqDiff, ↓reduceIte]
   ·simp only [q0b, t6, Nat.reduceEqDiff, ↓reduceIte]
   ·simp only [q0b, t8, Nat.reduceEqDiff, ↓reduceIte]
   ·rw [q0b, if_neg (by omega), q0b, if_neg (by omega)]; exact q0
   ·rw [q0b, if_neg (by omega), q0b, if_neg (by omega)]; exact q1
   ·rw [q0b, if_neg (by omega), q0b, if_neg (by omega)]; exact q2
   ·rw [q0b, if_neg (by omega), q0b, if_neg (by omega)]; exact q3
   ·rw [q0b, if_neg (by omega), q0b, if_pos rfl]
  ·rw [j4e hgo] at hQ
   by_cases h1 : j < nv.n
   ·have z1 : (s.err == 0) = false := by
     have : s.err ≠ 0 := fun h => hgo ⟨h1, h⟩
     simp [this]
    simp only [t3, t4, hA0, hA1, q1m, h1, z1, r50_0.2.2.2.2.1, tt, bb, ↓bd, Nat.reduceEqDiff, ↓reduceIte]
    refine j8t ha hab hb0 (v := v) (s := s) hm hkp hn ?_ ?_ hb8 hbn hA0 hA2 hA3 hA8 hQ
    all_goals simp only [q0b, t6, t8, Nat.reduceEqDiff, ↓reduceIte]
   ·simp only [t3, t4, hA0, hA1, q1m, h1, r50_0.2.2.2.2.1, tt, bb, ↓bd, Nat.reduceEqDiff, ↓reduceIte]
    refine j8t ha hab hb0 (v := v) (s := s) hm hkp hn ?_ ?_ hb8 hbn hA0 hA2 hA3 hA8 hQ
    all_goals simp only [q0b, t6, t8, Nat.reduceEqDiff, ↓reduceIte]
section
def q9h (f : St → Vl × St) (c : Nat) (v : Vl) (s : St) : Vl × St :=
 if v.k ≠ 0 then (zV, { s with err := 13 }) else if v.n < 0 then (zV, { s with err := 14 }) else ((q5l f v.n c 0 (nV 0) s).1, { (q5l f v.n c 0 (nV 0) s).2 with i := s.i })
theorem z0g {e : Int} {s : St} (he : s.err = 0) : q1f e s = { s with err := e } := by unfold q1f; rw [if_pos he]
theorem x5l {M : Mch} {l : List Nd} {g : Nat} (hM : ML M l) (hD : DoC M l g) {n p : Nat} {A : Nat → Blk} {s : St} {t : Ex} {v : Vl} (h : MS M n A s) (hs : Sk s) (hv : okV v = true) (ht : Tree l p t) (hg : s.left ≤ g) (he : s.err = 0)
  (hk : ∀ n' A', MS M n' A' (q9h (ev M.E g t) (g + 1) v s).2 → Keep M.b n A A' → n ≤ n' → q0d Cx fn (putA T dst (q1o (q9h (ev M.E g t) (g + 1) v s).1)) ds ro os k ⟨n', A'⟩ Q) :
  q0g Cx fn T ds ro 50 [.ptr M.b 22 0 0, q1o v, .int .i64 (p : Int)] dst os k ⟨n, A⟩ Q := by
 refine q0s w1i (q0l _) w1h ?_
 have hb := h.lt
 have hm3 := ((h.up1 (.cells 54 1 [[.ptr M.b 22 0 0]])).up1 (q3n v)).up1 zB
 have q1t := (((Keep.refl M.b n A).up1 (Nat.le_refl _) (.cells 54 1 [[.ptr M.b 22 0 0]])).up1 (n' := n + 1) (by omega) (q3n v)).up1 (n' := n + 1 + 1) (by omega) zB
 have e1 : (n = n + 1) = False := eq_false (by omega)
 have e2 : (n = n + 1 + 1) = False := eq_false (by omega)
 have e3 : (n + 1 = n + 1 + 1) = False := eq_false (by omega)
 have e4 : (M.b = n) = False := eq_false (by omega)
 have e5 : (M.b = n + 1) = False := eq_false (by omega)
 have e6 : (M.b = n + 1 + 1) = False := eq_false (by omega)
 have bad : ∀ (e : Int) (hk : ∀ n' A', MS M n' A' { s with err := e } → Keep M.b n A A' → n ≤ n' → q0d Cx fn (putA T dst (q1o zV)) ds ro os k ⟨n', A'⟩ Q), ∀ n' A', MS M n' A' (q1f e s) → Keep M.b (n + 1 + 1 + 1) (upd (upd (upd A n (.cells 54 1 [[.ptr M.b 22 0 0]])) (n + 1) (q3n v)) (n + 1 + 1) zB) A' → n + 1 + 1 + 1 ≤ n' → A' (n + 1 + 1) = zB ∧ ∀ X, q0d Cx fn (putA T dst (q1o zV)) ds ro os k ⟨n', upd A' (n + 1 + 1) X⟩ Q := by
  intro e hk n' A' hm hkp hn
  have hc := hkp.at (c := n + 1 + 1) (by omega) (by omega) (by rw [q0b, if_pos rfl]) (by decide)
  refine ⟨hc, fun X => ?_⟩
  rw [z0g he] at hm
  exact hk n' _ (hm.upo (c := n + 1 + 1) (by omega) (by rw [hc]; exact q3j) X) ((q1t.trans (by omega) hkp).up1 (by omega) X) (by omega)
 by_cases k0 : v.k = 0
 ·have z0 : (v.k != 0) = false := by simp [k0]
  by_cases n0 : v.n < 0
  ·have er : q9h (ev M.E g t) (g + 1) v s = (zV, { s with err := 14 }) := by unfold q9h; rw [if_neg (by simp [k0]), if_pos n0]
   rw [er] at hk
   simp only [z0, n0, e1, e2, e3, r50_0, tt, bb, bc, ↓bd, Nat.reduceEqDiff, Nat.reduceAdd, ↓reduceIte]
   refine q1e hm3 ?_
   intro n' A' hm hkp hn
   obtain ⟨hc, hx⟩ := bad 14 hk n' A' hm hkp hn
   have hc' : A' (n + 1 + 1) = .cells 26 5 [[.int .i64 0, .int .i64 0, .str [], .int .i64 0, .int .i64 0]] := hc
   simp only [hc', y4j, tt, bb, bc, ↓bd, Nat.reduceEqDiff, Nat.reduceAdd, ↓reduceIte]
   exact hx _
  ·have er : q9h (ev M.E g t) (g + 1) v s = ((q5l (ev M.E g t) v.n (g + 1) 0 (nV 0) s).1, { (q5l (ev M.E g t) v.n (g + 1) 0 (nV 0) s).2 with i := s.i }) := by unfold q9h; rw [if_neg (by simp [k0]), if_neg n0]
   rw [er] at hk
   obtain ⟨o, q1m⟩ := h.errCell
   have hcz : upd (upd (upd A n (.cells 54 1 [[.ptr M.b 22 0 0]])) (n + 1) (q3n v)) (n + 1 + 1) zB M.b = A M.b := by rw [q0b, if_neg (by omega), q0b, if_neg (by omega), q0b, if_neg (by omega)]
   have f1 : (n = n + 1 + 1 + 1) = False := eq_false (by omega)
   have f2 : (n = n + 1 + 1 + 1 + 1) = False := eq_false (by omega)
   have f3 : (M.b = n + 1 + 1 + 1) = False := eq_false (by omega)
   have f4 : (M.b = n + 1 + 1 + 1 + 1) = False := eq_false (by omega)
   have f5 : (n = M.b) = False := eq_false (by omega)
   have uu : ∀ (A : Nat → Blk) (c : Nat) (X Y : Blk), upd (upd A c X) c Y = upd A c Y := fun A c X Y => z4f A c X Y
   simp only [z0, n0, e1, e2, e3, e4, e5, e6, uu, q1m, q1a, r50_0.1, r50_0.2.1, r50_0.2.2.1, tt, bb, bc, ↓bd, Nat.reduceEqDiff, Nat.reduceAdd, ↓reduceIte]
   rw [x2l (vs := []) (first := []) (caps := [AV.ptr (n + 1 + 1 + 1) 1 0 0, AV.ptr n 1 0 0]) (f := 68) rfl rfl]
   simp only [e1, e2, e4, e5, e6, f1, f2, f3, f4, uu, q1m, q0a q5j rfl (q2p 0), r50_0.2.2.2.1, tt, bb, bc, ↓bd, Nat.reduceEqDiff, Nat.reduceAdd, Nat.reduceLeDiff, ↓reduceIte]
   have hm5 := (hm3.up1 (.cells 3 1 [[.int .i64 s.i]])).up1 (q3n (nV 0))
   have j0w := (q1t.up1 (n' := n + 1 + 1 + 1) (by omega) (.cells 3 1 [[.int .i64 s.i]])).up1 (n' := n + 1 + 1 + 1 + 1) (by omega) (q3n (nV 0))
   have y3c : upd (upd (upd (upd (upd A n (.cells 54 1 [[.ptr M.b 22 0 0]])) (n + 1) (q3n v)) (n + 1 + 1) zB) (n + 1 + 1 + 1) (.cells 3 1 [[.int .i64 s.i]])) (n + 1 + 1 + 1 + 1) (q3n (nV 0)) M.b = A M.b := by
    rw [q0b, if_neg (by omega), q0b, if_neg (by omega), hcz]
   rw [q1m] at y3c
   have hm6 := hm5.setI y3c { s with i := 0 } rfl
   have hvn : 0 ≤ v.n ∧ v.n ≤ 9007199254740992 := by have := (q0w hv).1 k0; omega
   refine w5v (n0 := n) (a := n) (A0 := A) (nv := v) (i0 := s.i) hM hD ht hvn.1 hvn.2 (Nat.le_refl _) hb hb (g + 1) 0 (nV 0) s _ (n + 1 + 1 + 1 + 1 + 1) (n + 1 + 1 + 1 + 1) _ hm6 hs (Int.le_refl _) hvn.1 hg (fun _ => by omega) (j0w.set _) (by omega) ?_ ?_ ?_ ?_ ?_ (by omega) (by omega) ?_ ?_ ?_ ?_ ?_ hk
   all_goals simp only [q0b, q1g, qez, Nat.reduceEqDiff, ↓reduceIte]
   ·simp only [e1, e2, f1, f2, f5, ↓reduceIte]
   ·rw [if_neg (by omega), if_neg (by omega), if_neg (by omega), if_neg (by omega)]
   ·rw [if_neg (by omega), if_neg (by omega), if_neg (by omega)]
   ·rw [if_neg (by omega), if_neg (by omega)]
   ·rw [if_neg (by omega)]
 ·have er : q9h (ev M.E g t) (g + 1) v s = (zV, { s with err := 13 }) := by unfold q9h; rw [if_pos k0]
  rw [er] at hk
  have z0 : (v.k != 0) = true := by simpa using k0
  simp only [z0, e1, e2, e3, r50_0, tt, bb, bc, ↓bd, Nat.reduceEqDiff, Nat.reduceAdd, ↓reduceIte]
  refine q1e hm3 ?_
  intro n' A' hm hkp hn
  obtain ⟨hc, hx⟩ := bad 13 hk n' A' hm hkp hn
  have hc' : A' (n + 1 + 1) = .cells 26 5 [[.int .i64 0, .int .i64 0, .str [], .int .i64 0, .int .i64 0]] := hc
  simp only [hc', y4j, tt, bb, bc, ↓bd, Nat.reduceEqDiff, Nat.reduceAdd, ↓reduceIte]
  exact hx _
end
theorem x9m {l : List Nd} {p : Nat} {op : Int} {a b : Ex} (h : Tree l p (.op2 op a b)) : Tree l (p + 1) a ∧ Tree l (p + 1 + (q0o a).length) b := by
 obtain ⟨hk, _⟩ := h.kids
 cases hk with
 | cons h1 hs => cases hs with
  | cons h2 _ => exact ⟨h1, h2⟩
theorem w5w {l : List Nd} {p : Nat} {op : Int} {a b c : Ex} (h : Tree l p (.op3 op a b c)) : Tree l (p + 1) a ∧ Tree l (p + 1 + (q0o a).length) b ∧ Tree l (p + 1 + (q0o a).length + (q0o b).length) c := by
 obtain ⟨hk, _⟩ := h.kids
 cases hk with
 | cons h1 hs => cases hs with
  | cons h2 hs => cases hs with
   | cons h3 _ => exact ⟨h1, h2, h3⟩
section
theorem j6s {M : Mch} {l : List Nd} {g : Nat} (hM : ML M l) (hD : DoC M l g) {n p : Nat} {A : Nat → Blk} {s : St} {a : Ex} {w : Bytes} (h : MS M n A s) (hs : Sk s) (ht : Tree l (p + 1) a) (hg : s.left ≤ g)
  (q9c : (ev M.E g a s).2.err ≠ 0 → ∀ n' A', MS M n' A' (ev M.E g a s).2 → Keep M.b n A A' → n ≤ n' → q0d Cx fn (putA T dst (q1o zV)) ds ro os k ⟨n', A'⟩ Q)
  (hgood : (ev M.E g a s).2.err = 0 → ∀ n1 A1 T', MS M (n1 + 1) A1 (ev M.E g a s).2 → Keep M.b (n + 1) (upd A n zB) A1 → n + 1 ≤ n1 → A1 n1 = q3n (ev M.E g a s).1 → T' 0 = .ptr M.b 22 0 0 → T' 1 = .str w → T' 6 = .ptr n 5 0 0 → T' 7 = .ptr n1 5 0 0 → T' 8 = .int .i64 ((p + 1 + (q0o a).length : Nat) : Int) →
   Run Cx 29 T' [] none [.code c29_14] ⟨n1 + 1, A1⟩ (fun r H1 => q0d Cx fn (putA T dst r) ds ro os k H1 Q)) :
  q0g Cx fn T ds ro 29 [.ptr M.b 22 0 0, .str w, .int .i64 (p : Int)] dst os k ⟨n, A⟩ Q := by
 refine q0s w0k (q0l _) w0j ?_
 have hb := h.lt
 have hll := hM.len
 have hlt := ht.lt
 have w1 : IntKind.i64.wrap ((p : Int) + 1) = ((p + 1 : Nat) : Int) := by rw [wr64 (by omega) (by omega)]; omega
 simp only [w1, r29_0, tt, bb, bc, ↓bd, Nat.reduceEqDiff, ↓reduceIte, reduceCtorEq]
 refine hD (h.up1 zB) hs ht hg ?_
 intro n1 A1 hm1 j1c hn1
 generalize hr : ev M.E g a s = r at *
 have hm2 := hm1.up1 (q3n r.1)
 have q1k := j1c.up1 (n' := n1) (by omega) (q3n r.1)
 obtain ⟨o, q1m⟩ := hm1.errCell
 have e1 : (M.b = n1) = False := eq_false (by omega)
 have e2 : (n = n1) = False := eq_false (by omega)
 have hc := q0f hb j1c
 have uu : ∀ (A : Nat → Blk) (c : Nat) (X Y : Blk), upd (upd A c X) c Y = upd A c Y := fun A c X Y => z4f A c X Y
 by_cases he : r.2.err = 0
 ·have z1 : (r.2.err != 0) = false := by simp [he]
  simp only [w1, e1, uu, q1m, z1, tt, bb, bc, ↓bd, Nat.reduceEqDiff, Nat.reduceAdd, ↓reduceIte, reduceCtorEq]
  refine z0f hM hm2 ht ?_
  simp only [bb, ↓bd, ↓reduceIte]
  refine hgood he n1 _ _ hm2 q1k hn1 (by rw [q0b, if_pos rfl]) ?_ ?_ ?_ ?_ ?_
  all_goals simp only [q0b, q1g, qez, Nat.reduceEqDiff, ↓reduceIte]
 ·have z1 : (r.2.err != 0) = true := by simpa using he
  simp only [e1, e2, uu, q1m, hc, z1, x0f, tt, bb, bc, ↓bd, Nat.reduceEqDiff, Nat.reduceAdd, ↓reduceIte, reduceCtorEq]
  exact q0r hb hm2 q1k (by omega) (q9c he)
theorem w5x {M : Mch} {l : List Nd} {g : Nat} (hM : ML M l) (hD : DoC M l g) {n p : Nat} {A : Nat → Blk} {s : St} {a b : Ex} (h : MS M n A s) (hs : Sk s) (ht : Tree l p (.op2 29 a b)) (hg : s.left ≤ g)
  (hk : ∀ n' A', MS M n' A' (evT M.E (ev M.E g) g (.op2 29 a b) s).2 → Keep M.b n A A' → n ≤ n' → q0d Cx fn (putA T dst (q1o (evT M.E (ev M.E g) g (.op2 29 a b) s).1)) ds ro os k ⟨n', A'⟩ Q) :
  q0g Cx fn T ds ro 29 [.ptr M.b 22 0 0, .str (q0e 29), .int .i64 (p : Int)] dst os k ⟨n, A⟩ Q := by
 obtain ⟨ta, tb⟩ := x9m ht
 have hb := h.lt
 have ek : evT M.E (ev M.E g) g (.op2 29 a b) s = if (ev M.E g a s).2.err ≠ 0 then (zV, (ev M.E g a s).2) else ((ev M.E g b { (ev M.E g a s).2 with it := (ev M.E g a s).1 }).1, { (ev M.E g b { (ev M.E g a s).2 with it := (ev M.E g a s).1 }).2 with it := (ev M.E g a s).2.it }) := rfl
 rw [ek] at hk
 have hk1 := x6w hM.env g a s ta.1 hs
 have x1c := z7n (E := M.E) g a s
 refine j6s hM hD h hs ta hg ?_ ?_
 ·intro he n' A' hm hkp hn
  rw [if_pos he] at hk
  exact hk n' A' hm hkp hn
 ·intro he n1 A1 T' hm hkp hn hc1 t0 t1 t6 t7 t8
  rw [if_neg (by simpa using he)] at hk
  generalize hr : ev M.E g a s = r at *
  obtain ⟨o, q1m⟩ := hm.errCell
  have j0x : A1 n1 = .cells 26 5 [[.int .i64 r.1.k, .int .i64 r.1.n, .str r.1.s, .int .i64 r.1.x, .int .i64 r.1.y]] := hc1
  have e1 : (n1 = n1 + 1) = False := eq_false (by omega)
  have e2 : (M.b = n1 + 1) = False := eq_false (by omega)
  have uu : ∀ (A : Nat → Blk) (c : Nat) (X Y : Blk), upd (upd A c X) c Y = upd A c Y := fun A c X Y => z4f A c X Y
  have hm2 := hm.up1 (q3n r.2.it)
  have hm3 := hm2.setI (o := o) (by rw [q0b, if_neg (by omega)]; exact q1m) { r.2 with it := r.1 } rfl
  simp only [t0, t1, t7, t8, q1m, j0x, wq29, e1, e2, uu, xx, r29_0, tt, bb, bc, ↓bd, Nat.reduceEqDiff, Nat.reduceAdd, Nat.reduceLeDiff, ↓reduceIte, reduceCtorEq]
  have hs3 : Sk { r.2 with it := r.1 } := ⟨hk1.1, hk1.2.i0, hk1.2.i1, hk1.2.out, hk1.2.outs⟩
  refine hD hm3 hs3 tb (Nat.le_trans x1c.left hg) ?_
  intro n2 A2 hm4 q5o hn2
  generalize hr2 : ev M.E g b { r.2 with it := r.1 } = r2 at *
  have q1k := (hkp.up1 (n' := n1 + 1) (by omega) (q3n r.2.it)).set (.cells 58 22 [[M.L, M.F, .str M.E.key, .int .i64 M.E.val.k, .int .i64 M.E.val.n, .str M.E.val.s, .int .i64 M.E.val.x, .int .i64 M.E.val.y, .int .i64 M.E.acc.k, .int .i64 M.E.acc.n, .str M.E.acc.s, .int .i64 M.E.acc.x, .int .i64 M.E.acc.y, .int .i64 r.2.i, .int .i64 r.1.k, .int .i64 r.1.n, .str r.1.s, .int .i64 r.1.x, .int .i64 r.1.y, o, .int .i64 (r.2.left : Int), .int .i64 r.2.err]])
  have j0w := q1k.trans (by omega) q5o
  have hc9 : A2 (n1 + 1) = .cells 26 5 [[.int .i64 r.2.it.k, .int .i64 r.2.it.n, .str r.2.it.s, .int .i64 r.2.it.x, .int .i64 r.2.it.y]] := q6e q5o (by rw [q0b, if_neg (by omega), q0b, if_pos rfl]) (by omega) (by omega) (by decide)
  obtain ⟨o2, hcell2⟩ := hm4.errCell
  have hcz := q0f hb j0w
  have e3 : (n1 + 1 = n2) = False := eq_false (by omega)
  have e4 : (M.b = n2) = False := eq_false (by omega)
  have e5 : (n = n2) = False := eq_false (by omega)
  have e6 : (n2 = M.b) = False := eq_false (by omega)
  have e7 : (n = M.b) = False := eq_false (by omega)
  have hm5 := hm4.up1 (q3n r2.1)
  have hm6 := hm5.setI (o := o2) (by rw [q0b, if_neg (by omega)]; exact hcell2) { r2.2 with it := r.2.it } rfl
  simp only [t0, t6, hcell2, hc9, hcz, e3, e4, e5, e6, e7, uu, x0f, tt, bb, bc, ↓bd, Nat.reduceEqDiff, Nat.reduceAdd, Nat.reduceLeDiff, ↓reduceIte, reduceCtorEq]
  have v1n := (j0w.up1 (n' := n2) (by omega) (q3n r2.1)).set (.cells 58 22 [[M.L, M.F, .str M.E.key, .int .i64 M.E.val.k, .int .i64 M.E.val.n, .str M.E.val.s, .int .i64 M.E.val.x, .int .i64 M.E.val.y, .int .i64 M.E.acc.k, .int .i64 M.E.acc.n, .str M.E.acc.s, .int .i64 M.E.acc.x, .int .i64 M.E.acc.y, .int .i64 r2.2.i, .int .i64 r.2.it.k, .int .i64 r.2.it.n, .str r.2.it.s, .int .i64 r.2.it.x, .int .i64 r.2.it.y, o2, .int .i64 (r2.2.left : Int), .int .i64 r2.2.err]])
  exact q0r hb hm6 v1n (by omega) hk
theorem y6m {M : Mch} {l : List Nd} {g : Nat} (hM : ML M l) (hD : DoC M l g) {n p : Nat} {A : Nat → Blk} {s : St} {a b : Ex} (h : MS M n A s) (hs : Sk s) (ht : Tree l p (.op2 28 a b)) (hg : s.left ≤ g)
  (hk : ∀ n' A', MS M n' A' (evT M.E (ev M.E g) g (.op2 28 a b) s).2 → Keep M.b n A A' → n ≤ n' → q0d Cx fn (putA T dst (q1o (evT M.E (ev M.E g) g (.op2 28 a b) s).1)) ds ro os k ⟨n', A'⟩ Q) :
  q0g Cx fn T ds ro 29 [.ptr M.b 22 0 0, .str (q0e 28), .int .i64 (p : Int)] dst os k ⟨n, A⟩ Q := by
 obtain ⟨ta, tb⟩ := x9m ht
 have hb := h.lt
 have ek : evT M.E (ev M.E g) g (.op2 28 a b) s = if (ev M.E g a s).2.err ≠ 0 then (zV, (ev M.E g a s).2) else q9h (ev M.E g b) (g + 1) (ev M.E g a s).1 (ev M.E g a s).2 := rfl
 rw [ek] at hk
 have hk1 := x6w hM.env g a s ta.1 hs
 have x1c := z7n (E := M.E) g a s
 refine j6s hM hD h hs ta hg ?_ ?_
 ·intro he n' A' hm hkp hn
  rw [if_pos he] at hk
  exact hk n' A' hm hkp hn
 ·intro he n1 A1 T' hm hkp hn hc1 t0 t1 t6 t7 t8
  rw [if_neg (by simpa using he)] at hk
  generalize hr : ev M.E g a s = r at *
  have j0x : A1 n1 = .cells 26 5 [[.int .i64 r.1.k, .int .i64 r.1.n, .str r.1.s, .int .i64 r.1.x, .int .i64 r.1.y]] := hc1
  simp only [t0, t1, t7, t8, j0x, w8a, r29_0, tt, bb, bc, ↓bd, Nat.reduceEqDiff, Nat.reduceAdd, ↓reduceIte, reduceCtorEq]
  refine x5l hM hD hm hk1.2 hk1.1 tb (Nat.le_trans x1c.left hg) he ?_
  intro n2 A2 hm4 q5o hn2
  have j0w := hkp.trans (by omega) q5o
  have hcz := q0f hb j0w
  simp only [t6, hcz, x0f, tt, bb, bc, ↓bd, Nat.reduceEqDiff, Nat.reduceAdd, ↓reduceIte]
  exact q0r hb hm4 j0w (by omega) hk
theorem v0g {M : Mch} {l : List Nd} {g : Nat} (hM : ML M l) (hD : DoC M l g) {n p : Nat} {A : Nat → Blk} {s : St} {a b c : Ex} (h : MS M n A s) (hs : Sk s) (ht : Tree l p (.op3 11 a b c)) (hg : s.left ≤ g)
  (hk : ∀ n' A', MS M n' A' (evT M.E (ev M.E g) g (.op3 11 a b c) s).2 → Keep M.b n A A' → n ≤ n' → q0d Cx fn (putA T dst (q1o (evT M.E (ev M.E g) g (.op3 11 a b c) s).1)) ds ro os k ⟨n', A'⟩ Q) :
  q0g Cx fn T ds ro 29 [.ptr M.b 22 0 0, .str (q0e 11), .int .i64 (p : Int)] dst os k ⟨n, A⟩ Q := by
 obtain ⟨ta, tb, tc⟩ := w5w ht
 have hb := h.lt
 have ek : evT M.E (ev M.E g) g (.op3 11 a b c) s = if (ev M.E g a s).2.err ≠ 0 then (zV, (ev M.E g a s).2) else if (ev M.E g a s).1.k ≠ 0 then (zV, { (ev M.E g a s).2 with err := 13 }) else if (ev M.E g a s).1.n ≠ 0 then ev M.E g b (ev M.E g a s).2 else ev M.E g c (ev M.E g a s).2 := rfl
 rw [ek] at hk
 have hk1 := x6w hM.env g a s ta.1 hs
 have x1c := z7n (E := M.E) g a s
 refine j6s hM hD h hs ta hg ?_ ?_
 ·intro he n' A' hm hkp hn
  rw [if_pos he] at hk
  exact hk n' A' hm hkp hn
 ·intro he n1 A1 T' hm hkp hn hc1 t0 t1 t6 t7 t8
  rw [if_neg (by simpa using he)] at hk
  generalize hr : ev M.E g a s = r at *
  have j0x : A1 n1 = .cells 26 5 [[.int .i64 r.1.k, .int .i64 r.1.n, .str r.1.s, .int .i64 r.1.x, .int .i64 r.1.y]] := hc1
  have fin : ∀ {v : Vl} {s' : St} (hk : ∀ n' A', MS M n' A' s' → Keep M.b n A A' → n ≤ n' → q0d Cx fn (putA T dst (q1o v)) ds ro os k ⟨n', A'⟩ Q), ∀ n2 A2, MS M n2 A2 s' → Keep M.b (n1 + 1) A1 A2 → n1 + 1 ≤ n2 → A2 n = .cells 26 5 [[.int .i64 0, .int .i64 0, .str [], .int .i64 0, .int .i64 0]] ∧ ∀ X, q0d Cx fn (putA T dst (q1o v)) ds ro os k ⟨n2, upd A2 n X⟩ Q := by
   intro v s' hk n2 A2 hm4 q5o hn2
   have j0w := hkp.trans (by omega) q5o
   exact ⟨q0f hb j0w, fun X => q0r hb hm4 j0w (by omega) hk⟩
  by_cases k0 : r.1.k = 0
  ·have z1 : (r.1.k != 0) = false := by simp [k0]
   rw [if_neg (by simp [k0])] at hk
   by_cases n0 : r.1.n = 0
   ·have z2 : (r.1.n != 0) = false := by simp [n0]
    rw [if_neg (by simp [n0])] at hk
    simp only [t0, t1, t7, t8, j0x, y8a, z1, z2, r29_0, tt, bb, bc, ↓bd, Nat.reduceEqDiff, ↓reduceIte, reduceCtorEq]
    refine z0f hM hm tb ?_
    simp only [bb, bc, ↓bd, Nat.reduceEqDiff, ↓reduceIte]
    refine hD hm hk1.2 tc (Nat.le_trans x1c.left hg) ?_
    intro n2 A2 hm4 q5o hn2
    obtain ⟨hcz, hx⟩ := fin hk n2 A2 hm4 q5o hn2
    simp only [t6, hcz, x0f, tt, bb, bc, ↓bd, Nat.reduceEqDiff, Nat.reduceAdd, ↓reduceIte]
    exact hx _
   ·have z2 : (r.1.n != 0) = true := by simpa using n0
    rw [if_pos n0] at hk
    simp only [t0, t1, t7, t8, j0x, y8a, z1, z2, r29_0, tt, bb, bc, ↓bd, Nat.reduceEqDiff, ↓reduceIte, reduceCtorEq]
    refine hD hm hk1.2 tb (Nat.le_trans x1c.left hg) ?_
    intro n2 A2 hm4 q5o hn2
    obtain ⟨hcz, hx⟩ := fin hk n2 A2 hm4 q5o hn2
    simp only [t6, hcz, x0f, tt, bb, bc, ↓bd, Nat.reduceEqDiff, Nat.reduceAdd, ↓reduceIte]
    exact hx _
  ·have z1 : (r.1.k != 0) = true := by simpa using k0
   rw [if_pos k0] at hk
   simp only [t0, t1, t7, j0x, y8a, z1, r29_0, tt, bb, bc, ↓bd, Nat.reduceEqDiff, ↓reduceIte, reduceCtorEq]
   refine q1e hm ?_
   intro n2 A2 hm4 q5o hn2
   rw [z0g he] at hm4
   obtain ⟨hcz, hx⟩ := fin hk n2 A2 hm4 q5o hn2
   simp only [t6, hcz, x0f, tt, bb, bc, ↓bd, Nat.reduceEqDiff, Nat.reduceAdd, ↓reduceIte]
   exact hx _
end
def x1b (f : Ex → St → Vl × St) (op : Int) : List Ex → List Vl → St → Vl × St
 | [], vs, s => q1v (apR op vs s.out.length) s
 | t :: ts, vs, s => if (f t s).2.err ≠ 0 then (zV, (f t s).2) else x1b f op ts (vs ++ [(f t s).1]) (f t s).2
theorem x5m {E : Env} {f : Ex → St → Vl × St} {g : Nat} {t : Ex} {s : St} (hw : WF t) (h0 : q4n (opE t) = true) (h : opE t ≠ 11 ∧ opE t ≠ 28 ∧ opE t ≠ 29) : evT E f g t s = x1b f (opE t) (q7e t) [] s := by
 cases t with
 | lit v => cases h0
 | nam n => cases h0
 | op1 op a => rfl
 | op2 op a b =>
  have h' : op ≠ 11 ∧ op ≠ 28 ∧ op ≠ 29 := h
  show (if (f a s).2.err ≠ 0 then _ else if op = 29 then _ else if op = 28 then _ else _) = if (f a s).2.err ≠ 0 then _ else _
  rw [if_neg h'.2.2, if_neg h'.2.1]
  rfl
 | op3 op a b c =>
  have h' : op ≠ 11 ∧ op ≠ 28 ∧ op ≠ 29 := h
  show (if (f a s).2.err ≠ 0 then _ else if op = 11 then _ else _) = if (f a s).2.err ≠ 0 then _ else _
  rw [if_neg h'.1]
  rfl
theorem j0q {op : Int} (h : q4n op = true) : (q0e op == []) = false ∧ (q0e op == [105, 102]) = decide (op = 11) ∧ (q0e op == [101, 97, 99, 104]) = decide (op = 28) ∧ (q0e op == [108, 101, 116]) = decide (op = 29) ∧ (op == 0) = false := by
 have hb := q5y h
 have key : ∀ i : Fin 28, (q0e ((i.val : Int) + 2) == []) = false ∧ (q0e ((i.val : Int) + 2) == [105, 102]) = decide (((i.val : Int) + 2) = 11) ∧ (q0e ((i.val : Int) + 2) == [101, 97, 99, 104]) = decide (((i.val : Int) + 2) = 28) ∧ (q0e ((i.val : Int) + 2) == [108, 101, 116]) = decide (((i.val : Int) + 2) = 29) ∧ (((i.val : Int) + 2) == 0) = false := by decide
 have := key ⟨(op - 2).toNat, by omega⟩
 simp only at this
 rw [show (((op - 2).toNat : Nat) : Int) + 2 = op by omega] at this
 exact this
theorem vsl : x6q Cx 79 26 := ⟨_, y4f, rfl⟩
theorem vti : ∃ ti, Cx.TT 26 = some ti ∧ ti.size = 5 ∧ ti.bytes = 48 := ⟨_, y3z, rfl, rfl⟩
def AL (M : Mch) (m : Nat) (d : AV) (n : Nat) (A : Nat → Blk) (vs : List Vl) : Prop := (d = .nilS ∧ vs = []) ∨ ∃ g, d = .slc g 5 0 vs.length ∧ m ≤ g ∧ AS M g n A vs
theorem AL.keep {M : Mch} {m : Nat} {d : AV} {n n' : Nat} {A A' : Nat → Blk} {vs : List Vl} (h : AL M m d n A vs) (hn : n ≤ n') (hk : Keep M.b n A A') : AL M m d n' A' vs := by
 rcases h with h | ⟨g, h1, h2, h3⟩
 ·exact .inl h
 ·exact .inr ⟨g, h1, h2, h3.keep hn hk⟩
theorem AL.app1 {M : Mch} {m : Nat} {d : AV} {n : Nat} {A : Nat → Blk} {vs : List Vl} (h : AL M m d n A vs) (hmn : m ≤ n) (hbm : M.b < m) (v : Vl) (hl : vs.length ≤ 3) :
  ∃ A', q1n Cx ⟨n + 1, upd A n (q3n v)⟩ .append [79, 79] [d, .slc n 5 0 1] = some (.slc (n + 1) 5 0 (vs.length + 1), ⟨n + 1 + 1, A'⟩) ∧
   AL M m (.slc (n + 1) 5 0 (vs.length + 1)) (n + 1 + 1) A' (vs ++ [v]) ∧ (∀ c, c < n → (c < m ∨ x0s (A c)) → A' c = A c) := by
 rcases h with ⟨rfl, rfl⟩ | ⟨g, rfl, hg, h3⟩
 ·refine ⟨_, j6b vsl vti (by decide), .inr ⟨n + 1, by simp, by omega, by omega, by omega, by rw [q0b, if_pos rfl]; rfl⟩, fun c hc _ => ?_⟩
  rw [q0b, if_neg (by omega), q0b, if_neg (by omega)]
 ·have g1 := h3.lt
  have g2 := h3.cell
  have e := q7y (C := Cx) (g := g) (n := n) (A := A) (es := vs.map y8c) (row := [.int .i64 v.k, .int .i64 v.n, .str v.s, .int .i64 v.x, .int .i64 v.y]) vsl vti g2 (by omega) (by rw [List.length_map]; unfold q2m; omega) (by rw [List.length_map]; unfold q2m; omega)
  rw [List.length_map] at e
  refine ⟨_, e, .inr ⟨n + 1, by simp, by omega, by omega, by omega, by rw [q0b, if_pos rfl, List.map_append]; rfl⟩, fun c hc hp => ?_⟩
  have : c ≠ g := by
   rintro rfl
   rcases hp with hp | hp
   ·omega
   ·rw [g2] at hp; exact q3j hp
  rw [q0b, if_neg (by omega), q0b, if_neg this, q0b, if_neg (by omega)]
section
theorem y2l {M : Mch} {l : List Nd} {g : Nat} (hM : ML M l) (hD : DoC M l g) {n : Nat} {A : Nat → Blk} (hb : M.b < n) {op : Int} (hop : q4n op = true) (hop2 : op ≠ 11 ∧ op ≠ 28 ∧ op ≠ 29) {q : Nat} :
  ∀ (ts : List Ex) (p : Nat) (vs : List Vl) (s : St) (T' : Nat → AV) (n' : Nat) (A' : Nat → Blk) (d : AV), Kids l p ts q → MS M n' A' s → Sk s → s.err = 0 → s.left ≤ g → AL M (n + 1) d n' A' vs → (∀ v, v ∈ vs → okV v = true) → vs.length + ts.length = q1b op → Keep M.b (n + 1) (upd A n zB) A' → n + 1 ≤ n' →
   T' 0 = .ptr M.b 22 0 0 → T' 4 = .ptr n 5 0 0 → T' 6 = .str (q0e op) → T' 7 = d → T' 8 = .int .i64 (p : Int) → T' 83 = .int .i64 (q1b op : Int) → T' 84 = .int .i64 (vs.length : Int) →
   (∀ n' A', MS M n' A' (x1b (ev M.E g) op ts vs s).2 → Keep M.b n A A' → n ≤ n' → q0d Cx fn (putA T dst (q1o (x1b (ev M.E g) op ts vs s).1)) ds ro os k ⟨n', A'⟩ Q) →
   Run Cx 16 T' [] none [.inLoop c16_44, .inBlock 1, .code c16_64] ⟨n', A'⟩ (fun r H1 => q0d Cx fn (putA T dst r) ds ro os k H1 Q)
 | [], p, vs, s, T', n', A', d, hK, hm, hs, he, hg, ho, hok, hl, hkp, hn, t0, t4, t6, t7, t8, t83, t84, hk => by
  rw [run_inLoop]
  rw [List.length_nil, Nat.add_zero] at hl
  have c0 : ¬ (vs.length : Int) < (q1b op : Int) := by omega
  have hpp := q2h hop
  rcases ho with ⟨h1, h2⟩ | ⟨g', h1, h2, h3⟩
  ·subst h2; simp at hl; omega
  ·subst h1
   simp only [t0, t6, t83, t84, c0, xx, r16_0, tt, bb, bc, ↓bd, Nat.reduceEqDiff, ↓reduceIte, reduceCtorEq]
   refine x5g hop hop2 ?_
   simp only [t6, t7, List.cons_append, List.nil_append, List.append_nil, bb, bc, ↓bd, Nat.reduceEqDiff, ↓reduceIte]
   refine x0u hm he h3 hok hs.out hop hop2 hl.symm ?_
   intro n2 A2 hm2 q1k hn2
   have q1t := hkp.trans hn q1k
   have hcz := q0f hb q1t
   simp only [t4, hcz, j0e, tt, bb, bc, ↓bd, Nat.reduceEqDiff, Nat.reduceAdd, ↓reduceIte]
   exact q0r hb hm2 q1t (by omega) hk
 | t :: ts, p, vs, s, T', n', A', d, hK, hm, hs, he, hg, ho, hok, hl, hkp, hn, t0, t4, t6, t7, t8, t83, t84, hk => by
  rw [run_inLoop]
  rw [List.length_cons] at hl
  cases hK with
  | cons ht hK =>
   have hpp := q2h hop
   have c0 : (vs.length : Int) < (q1b op : Int) := by omega
   simp only [t0, t7, t8, t83, t84, c0, r16_0, tt, bb, bc, ↓bd, Nat.reduceEqDiff, ↓reduceIte, reduceCtorEq]
   refine hD hm hs ht hg ?_
   intro n2 A2 hm2 q1k hn2
   have hk2 := x6w hM.env g t s ht.1 hs
   have x1c := z7n (E := M.E) g t s
   have ek : x1b (ev M.E g) op (t :: ts) vs s = if (ev M.E g t s).2.err ≠ 0 then (zV, (ev M.E g t s).2) else x1b (ev M.E g) op ts (vs ++ [(ev M.E g t s).1]) (ev M.E g t s).2 := rfl
   rw [ek] at hk
   generalize hr : ev M.E g t s = r at *
   obtain ⟨A3, x1d, ho3, hkeep⟩ := (ho.keep hn2 q1k).app1 (by omega) (by omega) r.1 (by omega)
   have hm3 : MS M (n2 + 1 + 1) A3 r.2 := hm2.keep (by omega) fun c hc hp => hkeep c hc (by
    rcases hp with rfl | hp
    ·left; omega
    ·right; exact hp)
   have q1t : Keep M.b (n + 1) (upd A n zB) A3 := by
    intro c hc hcb hcp
    have := hkp.trans hn q1k
    rw [← this c hc hcb hcp]
    exact hkeep c (by omega) (.inl hc)
   obtain ⟨o, q1m⟩ := hm3.errCell
   have hcz := q0f hb q1t
   by_cases hre : r.2.err = 0
   ·rw [if_neg (by simpa using hre)] at hk
    have z1 : (r.2.err != 0) = false := by simp [hre]
    have w1 : IntKind.i64.wrap ((vs.length : Int) + 1) = ((vs.length + 1 : Nat) : Int) := by rw [wr64 (by omega) (by omega)]; omega
    simp only [t0, t8, x1d, q1m, z1, q0i, tt, bb, bc, ↓bd, Nat.reduceEqDiff, Nat.reduceAdd, Nat.reduceMul, Nat.reduceLeDiff, ↓reduceIte, reduceCtorEq, List.reduceReplicate]
    refine z0f hM hm3 ht ?_
    simp only [t84, w1, xx, tt, bb, ↓bd, Nat.reduceEqDiff, ↓reduceIte]
    have el : (vs ++ [r.1]).length = vs.length + 1 := by simp
    refine y2l hM hD hb hop hop2 ts (p + (q0o t).length) (vs ++ [r.1]) r.2 _ _ A3 (.slc (n2 + 1) 5 0 (vs.length + 1)) hK hm3 hk2.2 hre (Nat.le_trans x1c.left hg) ho3 ?_ (by rw [el]; omega) q1t (by omega) ?_ ?_ ?_ ?_ ?_ ?_ ?_ hk
    ·intro v hv
     rcases List.mem_append.mp hv with hv | hv
     ·exact hok v hv
     ·rw [List.mem_singleton.mp hv]; exact hk2.1
    all_goals simp only [q0b, t0, t4, t6, t83, el, Nat.reduceEqDiff, ↓reduceIte]
   ·rw [if_pos hre] at hk
    have z1 : (r.2.err != 0) = true := by simpa using hre
    simp only [t0, t4, x1d, q1m, hcz, z1, q0i, j0e, tt, bb, bc, ↓bd, Nat.reduceEqDiff, Nat.reduceAdd, Nat.reduceMul, Nat.reduceLeDiff, ↓reduceIte, reduceCtorEq, List.reduceReplicate]
    exact q0r hb hm3 q1t (by omega) hk
end
section
theorem y6n {M : Mch} {l : List Nd} {g : Nat} (hM : ML M l) (hD : DoC M l g) {n p : Nat} {A A2 : Nat → Blk} {s : St} {t : Ex} {T' : Nat → AV} (hb : M.b < n) (hm : MS M (n + 1 + 1) A2 s) (hs : Sk s) (he : s.err = 0) (hg : s.left ≤ g) (ht : Tree l p t) (hkp : Keep M.b (n + 1) (upd A n zB) A2)
  (hnd : A2 (n + 1) = .cells 60 6 [[.int .i64 (opE t), .int .i64 (q2r t).k, .int .i64 (q2r t).n, .str (q2r t).s, .int .i64 (q2r t).x, .int .i64 (q2r t).y]])
  (t0 : T' 0 = .ptr M.b 22 0 0) (t1 : T' 1 = .int .i64 (p : Int)) (t4 : T' 4 = .ptr n 5 0 0) (t5 : T' 5 = .ptr (n + 1) 6 0 0) (t6 : T' 6 = .str (q0e (opE t)))
  (hk : ∀ n' A', MS M n' A' (evT M.E (ev M.E g) g t s).2 → Keep M.b n A A' → n ≤ n' → q0d Cx fn (putA T dst (q1o (evT M.E (ev M.E g) g t s).1)) ds ro os k ⟨n', A'⟩ Q) :
  Run Cx 16 T' [] none [.code c16_14] ⟨n + 1 + 1, A2⟩ (fun r H1 => q0d Cx fn (putA T dst r) ds ro os k H1 Q) := by
 have hcz := q0f hb hkp
 have hll := hM.len
 have hlt := ht.lt
 have fin : ∀ {v : Vl} {s' : St} (hk : ∀ n' A', MS M n' A' s' → Keep M.b n A A' → n ≤ n' → q0d Cx fn (putA T dst (q1o v)) ds ro os k ⟨n', A'⟩ Q), ∀ n2 A3, MS M n2 A3 s' → Keep M.b (n + 1 + 1) A2 A3 → n + 1 + 1 ≤ n2 → A3 n = .cells 26 5 [[.int .i64 0, .int .i64 0, .str [], .int .i64 0, .int .i64 0]] ∧ ∀ X, q0d Cx fn (putA T dst (q1o v)) ds ro os k ⟨n2, upd A3 n X⟩ Q := by
  intro v s' hk n2 A3 hm4 q5o hn2
  have j0w := hkp.trans (by omega) q5o
  exact ⟨q0f hb j0w, fun X => q0r hb hm4 j0w (by omega) hk⟩
 have scopd : ∀ (hio : q4n (opE t) = true) (h : opE t = 11 ∨ opE t = 28 ∨ opE t = 29), (∀ {fn : FuncId} {T1 : Nat → AV} {k : List AItem} {Q : AV → AHeap → Prop} {dst : Option Nat} {os : List AO}, (∀ n' A', MS M n' A' (evT M.E (ev M.E g) g t s).2 → Keep M.b (n + 1 + 1) A2 A' → n + 1 + 1 ≤ n' → q0d Cx fn (putA T1 dst (q1o (evT M.E (ev M.E g) g t s).1)) [] none os k ⟨n', A'⟩ Q) → q0g Cx fn T1 [] none 29 [.ptr M.b 22 0 0, .str (q0e (opE t)), .int .i64 (p : Int)] dst os k ⟨n + 1 + 1, A2⟩ Q) → Run Cx 16 T' [] none [.code c16_14] ⟨n + 1 + 1, A2⟩ (fun r H1 => q0d Cx fn (putA T dst r) ds ro os k H1 Q) := by
  intro hio h hsc
  obtain ⟨q1, q2, q3, q4, q5⟩ := j0q hio
  rcases h with h | h | h
  ·have d1 : decide (opE t = 11) = true := by simp [h]
   rw [d1] at q2
   simp only [t0, t1, t5, t6, hnd, q1, q2, q5, r16_0, tt, bb, bc, ↓bd, Nat.reduceEqDiff, ↓reduceIte, reduceCtorEq]
   refine hsc ?_
   intro n2 A3 hm4 q5o hn2
   obtain ⟨hc, hx⟩ := fin hk n2 A3 hm4 q5o hn2
   simp only [t4, hc, j0e, tt, bb, bc, ↓bd, Nat.reduceEqDiff, Nat.reduceAdd, ↓reduceIte]
   exact hx _
  ·have d1 : decide (opE t = 11) = false := by simp [h]
   have d2 : decide (opE t = 28) = true := by simp [h]
   rw [d1] at q2
   rw [d2] at q3
   simp only [t0, t1, t5, t6, hnd, q1, q2, q3, q5, r16_0, tt, bb, bc, ↓bd, Nat.reduceEqDiff, ↓reduceIte, reduceCtorEq]
   refine hsc ?_
   intro n2 A3 hm4 q5o hn2
   obtain ⟨hc, hx⟩ := fin hk n2 A3 hm4 q5o hn2
   simp only [t4, hc, j0e, tt, bb, bc, ↓bd, Nat.reduceEqDiff, Nat.reduceAdd, ↓reduceIte]
   exact hx _
  ·have d1 : decide (opE t = 11) = false := by simp [h]
   have d2 : decide (opE t = 28) = false := by simp [h]
   have d3 : decide (opE t = 29) = true := by simp [h]
   rw [d1] at q2
   rw [d2] at q3
   rw [d3] at q4
   simp only [t0, t1, t5, t6, hnd, q1, q2, q3, q4, q5, r16_0, tt, bb, bc, ↓bd, Nat.reduceEqDiff, ↓reduceIte, reduceCtorEq]
   refine hsc ?_
   intro n2 A3 hm4 q5o hn2
   obtain ⟨hc, hx⟩ := fin hk n2 A3 hm4 q5o hn2
   simp only [t4, hc, j0e, tt, bb, bc, ↓bd, Nat.reduceEqDiff, Nat.reduceAdd, ↓reduceIte]
   exact hx _
 have plain : ∀ (hio : q4n (opE t) = true) (h : opE t ≠ 11 ∧ opE t ≠ 28 ∧ opE t ≠ 29), Run Cx 16 T' [] none [.code c16_14] ⟨n + 1 + 1, A2⟩ (fun r H1 => q0d Cx fn (putA T dst r) ds ro os k H1 Q) := by
  intro hio h
  obtain ⟨q1, q2, q3, q4, q5⟩ := j0q hio
  rw [x5m ht.1 hio h] at hk
  have d1 : decide (opE t = 11) = false := by simp [h.1]
  have d2 : decide (opE t = 28) = false := by simp [h.2.1]
  have d3 : decide (opE t = 29) = false := by simp [h.2.2]
  rw [d1] at q2
  rw [d2] at q3
  rw [d3] at q4
  have w1 : IntKind.i64.wrap ((p : Int) + 1) = ((p + 1 : Nat) : Int) := by rw [wr64 (by omega) (by omega)]; omega
  have p0 : (0 : Int) ≤ (p : Int) := by omega
  have p2 : (p : Int) < ((q3k l).length : Int) := by rw [q3x]; omega
  have y8f : (q3k l)[p]? = some [.str (q0e (opE t)), .int .i64 (q1b (opE t) : Int), .int .i64 ((p + (q0o t).length : Nat) : Int)] := q6q ht
  obtain ⟨o, q1m⟩ := hm.errCell
  have hF := hM.F
  simp only [t0, t1, t5, t6, hnd, q1m, hF, p0, p2, y8f, q1, q2, q3, q4, q5, w1, Int.toNat_natCast, xx, r16_0.2.2.1, r16_0.2.2.2.1, tt, bb, ↓bd, Nat.reduceEqDiff, ↓reduceIte, reduceCtorEq]
  refine y2l hM hD hb hio h (q7e t) (p + 1) [] s _ _ A2 .nilS ht.kids.1 hm hs he hg (.inl ⟨rfl, rfl⟩) (fun v hv => by cases hv) (by rw [List.length_nil, Nat.zero_add, (q8y ht.1).1]) hkp (by omega) ?_ ?_ ?_ ?_ ?_ ?_ ?_ hk
  all_goals simp only [q0b, t0, t4, t6, Nat.reduceEqDiff, ↓reduceIte]
  rfl
 cases t with
 | lit v =>
  have z0 : ((0 : Int) == 0) = true := rfl
  have y7o : A2 (n + 1) = .cells 60 6 [[.int .i64 0, .int .i64 v.k, .int .i64 v.n, .str v.s, .int .i64 v.x, .int .i64 v.y]] := hnd
  simp only [t4, t5, y7o, hcz, z0, r16_0, j0e, tt, bb, bc, ↓bd, Nat.reduceEqDiff, Nat.reduceAdd, ↓reduceIte]
  exact q0r hb hm hkp (by omega) hk
 | nam j =>
  have z0 : ((1 : Int) == 0) = false := rfl
  have z1 : (q0e (opE (.nam j)) == []) = true := rfl
  have hj : 0 ≤ j ∧ j < 5 := ht.1
  have y7o : A2 (n + 1) = .cells 60 6 [[.int .i64 1, .int .i64 0, .int .i64 j, .str [], .int .i64 0, .int .i64 0]] := hnd
  simp only [t0, t5, t6, y7o, z0, z1, r16_0, tt, bb, bc, ↓bd, Nat.reduceEqDiff, Nat.reduceAdd, ↓reduceIte, reduceCtorEq]
  refine x0t hm hj ?_
  intro n2 A3 hm4 q5o hn2
  obtain ⟨hc, hx⟩ := fin hk n2 A3 hm4 q5o hn2
  simp only [t4, hc, j0e, tt, bb, bc, ↓bd, Nat.reduceEqDiff, Nat.reduceAdd, ↓reduceIte]
  exact hx _
 | op1 op a =>
  have hio : q4n op = true := ht.1.1.1
  have hpp : q1b op = 1 := ht.1.1.2
  refine plain hio ⟨?_, ?_, ?_⟩ <;> · intro e; rw [show op = _ from e] at hpp; cases hpp
 | op2 op a b =>
  have hio : q4n op = true := ht.1.1.1
  have hpp : q1b op = 2 := ht.1.1.2
  by_cases h28 : op = 28
  ·subst h28
   exact scopd hio (.inr (.inl rfl)) fun hk => y6m hM hD hm hs ht hg hk
  ·by_cases h29 : op = 29
   ·subst h29
    exact scopd hio (.inr (.inr rfl)) fun hk => w5x hM hD hm hs ht hg hk
   ·exact plain hio ⟨fun e => (by rw [show op = _ from e] at hpp; cases hpp), h28, h29⟩
 | op3 op a b c =>
  have hio : q4n op = true := ht.1.1.1
  have hpp : q1b op = 3 := ht.1.1.2
  by_cases h11 : op = 11
  ·subst h11
   exact scopd hio (.inl rfl) fun hk => v0g hM hD hm hs ht hg hk
  ·refine plain hio ⟨h11, ?_, ?_⟩ <;> · intro e; rw [show op = _ from e] at hpp; cases hpp
theorem x5n {M : Mch} {l : List Nd} {g g' : Nat} (hM : ML M l) (hD : ∀ g1, g = g1 + 1 → DoC M l g1) (hgb : g ≤ 1000000) {n p : Nat} {A : Nat → Blk} {s : St} {t : Ex} (h : MS M n A s) (hs : Sk s) (ht : Tree l p t) (hg : s.left ≤ g)
  (hk : ∀ n' A', MS M n' A' (ev M.E g t s).2 → Keep M.b n A A' → n ≤ n' → q0d Cx fn (putA T dst (q1o (ev M.E g t s).1)) ds ro os k ⟨n', A'⟩ Q) :
  q0g Cx fn T ds ro 16 [.ptr M.b 22 0 0, .int .i64 (p : Int)] dst os k ⟨n, A⟩ Q := by
 refine q0s y9u (q0l _) y9t ?_
 have hb := h.lt
 have hll := hM.len
 have hlt := ht.lt
 obtain ⟨o, q1m⟩ := h.errCell
 have e1 : (M.b = n) = False := eq_false (by omega)
 have e2 : (n = M.b) = False := eq_false (by omega)
 have h2 := h.up1 zB
 have bad : ∀ (hr : ev M.E g t s = (zV, q1f 15 s)), ∀ n' A', MS M n' A' (q1f 15 s) → Keep M.b (n + 1) (upd A n zB) A' → n + 1 ≤ n' → A' n = .cells 26 5 [[.int .i64 0, .int .i64 0, .str [], .int .i64 0, .int .i64 0]] ∧ ∀ X, q0d Cx fn (putA T dst (q1o zV)) ds ro os k ⟨n', upd A' n X⟩ Q := by
  intro hr n' A' hm hkp hn
  rw [hr] at hk
  exact ⟨q0f hb hkp, fun X => q0r hb hm hkp hn hk⟩
 by_cases he : s.err = 0
 ·have z1 : (s.err != 0) = false := by simp [he]
  by_cases h0 : s.left = 0
  ·have z2 : ((s.left : Int) == 0) = true := by simp [h0]
   simp only [q1m, z1, z2, e1, r16_0, tt, bb, bc, ↓bd, Nat.reduceEqDiff, ↓reduceIte, reduceCtorEq]
   refine q1e h2 ?_
   intro n' A' hm hkp hn
   obtain ⟨hc, hx⟩ := bad (by rw [z6q he h0, z0g he]) n' A' hm hkp hn
   simp only [hc, j0e, tt, bb, bc, ↓bd, Nat.reduceEqDiff, Nat.reduceAdd, ↓reduceIte]
   exact hx _
  ·obtain ⟨g1, rfl⟩ : ∃ g1, g = g1 + 1 := ⟨g - 1, by omega⟩
   have hL := hM.L
   have hF := hM.F
   obtain ⟨j7c, hnd⟩ := ht.kids
   have g0 : (l.map q2y)[p]? = some [.int .i64 (opE t), .int .i64 (q2r t).k, .int .i64 (q2r t).n, .str (q2r t).s, .int .i64 (q2r t).x, .int .i64 (q2r t).y] := by rw [List.getElem?_map, hnd]; rfl
   have p0 : (0 : Int) ≤ (p : Int) := by omega
   have p1 : (p : Int) < ((l.map q2y).length : Int) := by rw [List.length_map]; omega
   have p2 : (p : Int) < ((q3k l).length : Int) := by rw [q3x]; omega
   have y8f : (q3k l)[p]? = some [.str (q0e (opE t)), .int .i64 (q1b (opE t) : Int), .int .i64 ((p + (q0o t).length : Nat) : Int)] := q6q ht
   have z2 : ((s.left : Int) == 0) = false := by simp; omega
   have w1 : IntKind.i64.wrap ((s.left : Int) - 1) = ((s.left - 1 : Nat) : Int) := by rw [wr64 (by omega) (by omega)]; omega
   have uu : ∀ (A : Nat → Blk) (c : Nat) (X Y : Blk), upd (upd A c X) c Y = upd A c Y := fun A c X Y => z4f A c X Y
   simp only [q1m, z1, z2, e1, w1, uu, hL, hF, p0, p1, p2, g0, y8f, Int.toNat_natCast, q4e, q8q, q9x, r16_0.1, r16_0.2.1, tt, bb, ↓bd, Nat.reduceEqDiff, Nat.reduceAdd, Nat.reduceLeDiff, ↓reduceIte, reduceCtorEq]
   rw [z6r he h0] at hk
   have hm3 := h2.setI (o := o) (by rw [q0b, if_neg (by omega)]; exact q1m) { s with left := s.left - 1 } rfl
   refine ⟨by rw [show (M.b != n + 1) = true from bne_iff_ne.mpr (by omega)]; rfl, ?_⟩
   have hm4 := hm3.up1 (.cells 60 6 [[.int .i64 (opE t), .int .i64 (q2r t).k, .int .i64 (q2r t).n, .str (q2r t).s, .int .i64 (q2r t).x, .int .i64 (q2r t).y]])
   have q5o := (((Keep.refl M.b (n + 1) (upd A n zB)).set (.cells 58 22 [[M.L, M.F, .str M.E.key, .int .i64 M.E.val.k, .int .i64 M.E.val.n, .str M.E.val.s, .int .i64 M.E.val.x, .int .i64 M.E.val.y, .int .i64 M.E.acc.k, .int .i64 M.E.acc.n, .str M.E.acc.s, .int .i64 M.E.acc.x, .int .i64 M.E.acc.y, .int .i64 s.i, .int .i64 s.it.k, .int .i64 s.it.n, .str s.it.s, .int .i64 s.it.x, .int .i64 s.it.y, o, .int .i64 ((s.left - 1 : Nat) : Int), .int .i64 s.err]])).up1 (Nat.le_refl _) (.cells 60 6 [[.int .i64 (opE t), .int .i64 (q2r t).k, .int .i64 (q2r t).n, .str (q2r t).s, .int .i64 (q2r t).x, .int .i64 (q2r t).y]]))
   have hs4 : Sk { s with left := s.left - 1 } := ⟨hs.it, hs.i0, hs.i1, hs.out, hs.outs⟩
   rw [hL, hF] at hm4 q5o
   refine y6n hM (hD g1 rfl) hb hm4 hs4 he (by show s.left - 1 ≤ g1; omega) ht q5o (by rw [q0b, if_pos rfl]) ?_ ?_ ?_ ?_ ?_ hk
   all_goals simp only [q0b, q1g, qez, Nat.reduceEqDiff, ↓reduceIte]
 ·have z1 : (s.err != 0) = true := by simpa using he
  simp only [q1m, z1, e1, r16_0, tt, bb, bc, ↓bd, Nat.reduceEqDiff, ↓reduceIte, reduceCtorEq]
  refine q1e h2 ?_
  intro n' A' hm hkp hn
  obtain ⟨hc, hx⟩ := bad (by rw [j3y he]; unfold q1f; rw [if_neg he]) n' A' hm hkp hn
  simp only [hc, j0e, tt, bb, bc, ↓bd, Nat.reduceEqDiff, Nat.reduceAdd, ↓reduceIte]
  exact hx _
end
theorem w5y {M : Mch} {l : List Nd} (hM : ML M l) : ∀ g, g ≤ 1000000 → DoC M l g := by
 intro g
 induction g with
 | zero =>
  intro _
  unfold DoC
  intro fn T ds ro k Q dst os n p A s t h hs ht hg hk
  exact x5n (g' := 0) hM (fun g1 e => by cases e) (by omega) h hs ht hg hk
 | succ g ih =>
  intro hgb
  unfold DoC
  intro fn T ds ro k Q dst os n p A s t h hs ht hg hk
  exact x5n (g' := 0) hM (fun g1 e => by cases e; exact ih (by omega)) hgb h hs ht hg hk
abbrev x5o (E : Env) : AV := .agg [.str E.key, .int .i64 E.val.k, .int .i64 E.val.n, .str E.val.s, .int .i64 E.val.x, .int .i64 E.val.y, .int .i64 E.acc.k, .int .i64 E.acc.n, .str E.acc.s, .int .i64 E.acc.x, .int .i64 E.acc.y]
abbrev y2m (v : Vl) (d : AV) (left : Nat) : AV := .agg [.int .i64 v.k, .int .i64 v.n, .str v.s, .int .i64 v.x, .int .i64 v.y, d, .int .i64 (left : Int)]
def z1l (l : List Nd) (E : Env) (f : Int) : Bool := q2w l && (decide (E.key.length ≤ 4096) && (okV E.val && (okV E.acc && (decide (0 ≤ f) && decide (f ≤ 100000)))))
def OutV (d : AV) (l : List Pr) : Prop := (d = .nilS ∧ l = []) ∨ d = .vec 6 (l.map j0z)
def q2z (t : Ex) (E : Env) (f : Nat) : Vl × St := ev E f t ⟨0, zV, [], f, 0⟩
theorem y6o {v : AV} {l : List Nd} (hv : InN v l) (hn : x9g l) (hl : l.length ≤ 1000000) {E : Env} {f : Int} (h : z1l l E f = false) : q0k Cx 7 [v, x5o E, .int .i64 f] (.tuple [y2m zV .nilS 0, .int .i64 1]) := by
 refine q0c (q0l _) y4h ?_
 have hr := j4a hv hn hl
 have f0 : [v].all AV.flat = true := by simp [hv.flat]
 have r1 := Right_ok E.val.k E.val.n E.val.s E.val.x E.val.y
 have r2 := Right_ok E.acc.k E.acc.n E.acc.s E.acc.x E.acc.y
 have eo1 : q1j E.val.k E.val.n E.val.s E.val.x E.val.y = okV E.val := rfl
 have eo2 : q1j E.acc.k E.acc.n E.acc.s E.acc.x E.acc.y = okV E.acc := rfl
 rw [eo1] at r1
 rw [eo2] at r2
 unfold z1l at h
 rcases hv with ⟨rfl, rfl⟩ | rfl
 ·have h1 : q2w [] = false := rfl
  rw [h1] at hr
  simp only [q0a z0z f0 hr, r7_0, x8h, tt, bb, bc, ↓bd, Nat.reduceEqDiff, Nat.reduceAdd, ↓reduceIte, reduceCtorEq]
  rfl
 ·cases h1 : q2w l with
  | false =>
   rw [h1] at hr
   simp only [q0a z0z f0 hr, r7_0, x8h, tt, bb, bc, ↓bd, Nat.reduceEqDiff, Nat.reduceAdd, ↓reduceIte, reduceCtorEq]
   rfl
  | true =>
   rw [h1] at hr h
   by_cases h2 : E.key.length ≤ 4096
   ·have c2 : ¬ (4096 : Int) < (E.key.length : Int) := by omega
    have d2 : decide (E.key.length ≤ 4096) = true := by simpa using h2
    rw [d2] at h
    cases h3 : okV E.val with
    | false =>
     rw [h3] at r1
     simp only [c2, q0a z0z f0 hr, q0a q2n rfl r1, i64, r7_0, x8h, tt, bb, bc, ↓bd, Nat.reduceEqDiff, Nat.reduceAdd, Nat.reduceLeDiff, ↓reduceIte, reduceCtorEq]
     rfl
    | true =>
     rw [h3] at r1 h
     cases h4 : okV E.acc with
     | false =>
      rw [h4] at r2
      simp only [c2, q0a z0z f0 hr, q0a q2n rfl r1, q0a q2n rfl r2, i64, r7_0, x8h, tt, bb, bc, ↓bd, Nat.reduceEqDiff, Nat.reduceAdd, Nat.reduceLeDiff, ↓reduceIte, reduceCtorEq]
      rfl
     | true =>
      rw [h4] at r2 h
      by_cases h5 : f < 0
      ·simp only [c2, h5, q0a z0z f0 hr, q0a q2n rfl r1, q0a q2n rfl r2, i64, r7_0, x8h, tt, bb, bc, ↓bd, Nat.reduceEqDiff, Nat.reduceAdd, Nat.reduceLeDiff, ↓reduceIte, reduceCtorEq]
       rfl
      ·have d5 : decide (0 ≤ f) = true := by simp; omega
       rw [d5] at h
       have h6 : (100000 : Int) < f := by
        simp only [Bool.true_and, decide_eq_false_iff_not] at h
        omega
       simp only [c2, h5, h6, q0a z0z f0 hr, q0a q2n rfl r1, q0a q2n rfl r2, i64, r7_0, x8h, tt, bb, bc, ↓bd, Nat.reduceEqDiff, Nat.reduceAdd, Nat.reduceLeDiff, ↓reduceIte, reduceCtorEq]
       rfl
   ·have c2 : (4096 : Int) < (E.key.length : Int) := by omega
    simp only [c2, q0a z0z f0 hr, i64, r7_0, x8h, tt, bb, bc, ↓bd, Nat.reduceEqDiff, Nat.reduceAdd, ↓reduceIte, reduceCtorEq]
    rfl
theorem q6r {l : List Nd} {E : Env} {f : Int} (h : z1l l E f = true) : q2w l = true ∧ Ek E ∧ 0 ≤ f ∧ f ≤ 100000 := by
 unfold z1l at h
 simp only [Bool.and_eq_true, decide_eq_true_eq] at h
 exact ⟨h.1, ⟨h.2.1, h.2.2.1, h.2.2.2.1⟩, h.2.2.2.2.1, h.2.2.2.2.2⟩
abbrev v0h : Blk := .cells 33 7 [[.int .i64 0, .int .i64 0, .str [], .int .i64 0, .int .i64 0, .nilS, .int .i64 0]]
abbrev w8d (E : Env) : Blk := .cells 28 11 [[.str E.key, .int .i64 E.val.k, .int .i64 E.val.n, .str E.val.s, .int .i64 E.val.x, .int .i64 E.val.y, .int .i64 E.acc.k, .int .i64 E.acc.n, .str E.acc.s, .int .i64 E.acc.x, .int .i64 E.acc.y]]
noncomputable abbrev mchB (l : List Nd) (E : Env) (f : Nat) : Blk := .cells 58 22 [[.vec 6 (l.map q2y), .vec 3 (q3k l), .str E.key, .int .i64 E.val.k, .int .i64 E.val.n, .str E.val.s, .int .i64 E.val.x, .int .i64 E.val.y, .int .i64 E.acc.k, .int .i64 E.acc.n, .str E.acc.s, .int .i64 E.acc.x, .int .i64 E.acc.y, .int .i64 0, .int .i64 0, .int .i64 0, .str [], .int .i64 0, .int .i64 0, .nilS, .int .i64 (f : Int), .int .i64 0]]
theorem Ow.out {d : AV} {n : Nat} {A : Nat → Blk} {l : List Pr} (h : Ow d n A l) : ∃ w, OutV w l ∧ q1h ⟨n, A⟩ 4 d = some w := by
 rcases h with ⟨rfl, rfl⟩ | ⟨g, rfl, hg, hA⟩
 ·exact ⟨.nilS, .inl ⟨rfl, rfl⟩, rfl⟩
 ·refine ⟨.vec 6 (l.map j0z), .inr rfl, ?_⟩
  have he : elems ⟨n, A⟩ 6 (.slc g 6 0 l.length) = some (l.map j0z) := by
   unfold elems
   simp only [hA]
   rw [if_pos ⟨trivial, trivial, by simp⟩, List.drop_zero, List.take_of_length_le (by simp)]
  rw [q5g, he, q5h]
  have : ∀ (dd : Nat) (l : List Pr), q3t (q3t (q1h ⟨n, A⟩ dd)) (l.map j0z) = some (l.map j0z) := by
   intro dd l
   induction l with
   | nil => rfl
   | cons p l ih =>
    rw [List.map_cons, q4l, ih]
    have : q3t (q1h ⟨n, A⟩ dd) (j0z p) = some (j0z p) := q4v (p := AV.flat1) (fun v hv => q3c hv) rfl
    rw [this]; rfl
  rw [this]; rfl
section
variable {T : Nat → AV} {Q : AV → AHeap → Prop}
theorem j8u {l : List Nd} {t : Ex} (hll : l.length ≤ 400) {E : Env} (hE : Ek E) {f : Nat} (hf : f ≤ 100000) (ht : Tree l 0 t) (t6 : T 6 = .ptr 1 7 0 0) (t8 : T 8 = .ptr 2 22 0 0)
  (hk : ∀ n A, MS ⟨.vec 6 (l.map q2y), .vec 3 (q3k l), E, 2⟩ n A (q2z t E f).2 → A 1 = v0h → 3 ≤ n → q0d Cx 7 (putA T (some 48) (q1o (q2z t E f).1)) [] none [oA 9 (.alloc 26) 0, oN (.store 26 (tm 9) (tm 48)) 0] [.code c7_14] ⟨n, A⟩ Q) :
  q0g Cx 7 T [] none 16 [.ptr 2 22 0 0, .int .i64 0] (some 48) [oA 9 (.alloc 26) 0, oN (.store 26 (tm 9) (tm 48)) 0] [.code c7_14] ⟨3, upd (upd (upd (fun _ => Blk.dead) 0 (w8d E)) 1 v0h) 2 (mchB l E f)⟩ Q := by
 have hM : ML ⟨.vec 6 (l.map q2y), .vec 3 (q3k l), E, 2⟩ l := ⟨rfl, rfl, hll, hE⟩
 have hm : MS ⟨.vec 6 (l.map q2y), .vec 3 (q3k l), E, 2⟩ 3 (upd (upd (upd (fun _ => Blk.dead) 0 (w8d E)) 1 v0h) 2 (mchB l E f)) ⟨0, zV, [], f, 0⟩ := ⟨by show 2 < 3; omega, .nilS, by rw [q0b, if_pos rfl], .inl ⟨rfl, rfl⟩⟩
 refine w5y hM f (by omega) (p := 0) (s := ⟨0, zV, [], f, 0⟩) hm ⟨rfl, Int.le_refl _, by show (0 : Int) ≤ 9007199254740992; omega, by show 0 ≤ 64; omega, fun p hp => by cases hp⟩ ht (Nat.le_refl _) ?_
 intro n' A' hm' hkp hn
 refine hk n' A' hm' ?_ hn
 exact q6e hkp (by rw [q0b, if_neg (by decide), q0b, if_pos rfl]) (by omega) (by show 1 ≠ 2; omega) (by decide)
end
theorem x9n {l : List Nd} {t : Ex} (hn : x9g l) {E : Env} {f : Nat} (h : z1l l E f = true) (hw : WF t) (e : l = q0o t) :
  (∀ (he : (q2z t E f).2.err = 0), ∃ d, OutV d (q2z t E f).2.out ∧ q0k Cx 7 [.vec 6 (l.map q2y), x5o E, .int .i64 (f : Int)] (.tuple [y2m (q2z t E f).1 d (q2z t E f).2.left, .int .i64 0])) ∧
  ((q2z t E f).2.err ≠ 0 → q0k Cx 7 [.vec 6 (l.map q2y), x5o E, .int .i64 (f : Int)] (.tuple [y2m zV .nilS 0, .int .i64 (q2z t E f).2.err])) := by
 obtain ⟨hr0, hE, hf0, hf1⟩ := q6r h
 have hll := (right_iff.mp hr0).1
 have hr := j4a (v := .vec 6 (l.map q2y)) (.inr rfl) hn (by omega)
 rw [hr0] at hr
 have r1 := Right_ok E.val.k E.val.n E.val.s E.val.x E.val.y
 have r2 := Right_ok E.acc.k E.acc.n E.acc.s E.acc.x E.acc.y
 have eo1 : q1j E.val.k E.val.n E.val.s E.val.x E.val.y = true := hE.val
 have eo2 : q1j E.acc.k E.acc.n E.acc.s E.acc.x E.acc.y = true := hE.acc
 rw [eo1] at r1
 rw [eo2] at r2
 have hfo := x9l hll hw e
 have c2 : ¬ (4096 : Int) < (E.key.length : Int) := by have := hE.key; omega
 have c5 : ¬ (f : Int) < 0 := by omega
 have c6 : ¬ (100000 : Int) < (f : Int) := by omega
 have ht : Tree l 0 t := ⟨hw, [], by rw [List.drop_zero, e, List.append_nil]⟩
 constructor
 ·intro he
  obtain ⟨r, ⟨d, hd, rfl⟩, hp⟩ := j0l (f := 7) (args := [.vec 6 (l.map q2y), x5o E, .int .i64 (f : Int)]) (P := fun r => ∃ d, OutV d (q2z t E f).2.out ∧ r = .tuple [y2m (q2z t E f).1 d (q2z t E f).2.left, .int .i64 0]) (q0l _) y4h (by
   simp only [c2, c5, c6, q0a z0z rfl hr, q0a q2n rfl r1, q0a q2n rfl r2, q0a y0y rfl hfo, i64, r7_0, tt, bb, bc, ↓bd, Nat.reduceEqDiff, Nat.reduceAdd, Nat.reduceLeDiff, ↓reduceIte, reduceCtorEq]
   refine j8u hll hE (by omega) ht rfl rfl ?_
   intro n A hm h1 hn3
   obtain ⟨hb, o, q1m, ho⟩ := hm
   have hpl := ho.plain
   simp only [AV.plain] at hpl
   have hcs := ho.cells
   simp only [AV.cells] at hcs
   have hc1 : A 1 = .cells 33 7 [[.int .i64 0, .int .i64 0, .str [], .int .i64 0, .int .i64 0, .nilS, .int .i64 0]] := h1
   have e1 : (2 = n) = False := eq_false (by omega)
   have e2 : (1 = n) = False := eq_false (by omega)
   have z9e : A 2 = .cells 58 22 [[.vec 6 (l.map q2y), .vec 3 (q3k l), .str E.key, .int .i64 E.val.k, .int .i64 E.val.n, .str E.val.s, .int .i64 E.val.x, .int .i64 E.val.y, .int .i64 E.acc.k, .int .i64 E.acc.n, .str E.acc.s, .int .i64 E.acc.x, .int .i64 E.acc.y, .int .i64 (q2z t E f).2.i, .int .i64 (q2z t E f).2.it.k, .int .i64 (q2z t E f).2.it.n, .str (q2z t E f).2.it.s, .int .i64 (q2z t E f).2.it.x, .int .i64 (q2z t E f).2.it.y, o, .int .i64 ((q2z t E f).2.left : Int), .int .i64 (q2z t E f).2.err]] := q1m
   have z1 : ((q2z t E f).2.err != 0) = false := by simp [he]
   have uu : ∀ (A : Nat → Blk) (c : Nat) (X Y : Blk), upd (upd A c X) c Y = upd A c Y := fun A c X Y => z4f A c X Y
   simp only [z9e, hc1, e1, e2, z1, uu, hpl, hcs, r7_0, x8h, tt, bb, bc, ↓bd, Nat.reduceEqDiff, Nat.reduceAdd, Nat.reduceLeDiff, ↓reduceIte]
   have ho' := ho.keep (n' := n + 1) (A' := upd (upd A n (q3n (q2z t E f).1)) 1 (.cells 33 7 [[.int .i64 (q2z t E f).1.k, .int .i64 (q2z t E f).1.n, .str (q2z t E f).1.s, .int .i64 (q2z t E f).1.x, .int .i64 (q2z t E f).1.y, o, .int .i64 ((q2z t E f).2.left : Int)]])) (by omega) fun z hz hp => by
    have : z ≠ 1 := by rintro rfl; rw [hc1] at hp; cases hp
    rw [q0b, if_neg this, q0b, if_neg (by omega)]
   obtain ⟨w, hw, hfz⟩ := ho'.out
   refine ⟨_, ⟨w, hw, rfl⟩, ?_⟩
   rw [hfz]
   rfl)
  exact ⟨d, hd, hp⟩
 ·intro he
  refine q0c (q0l _) y4h ?_
  simp only [c2, c5, c6, q0a z0z rfl hr, q0a q2n rfl r1, q0a q2n rfl r2, q0a y0y rfl hfo, i64, r7_0, tt, bb, bc, ↓bd, Nat.reduceEqDiff, Nat.reduceAdd, Nat.reduceLeDiff, ↓reduceIte, reduceCtorEq]
  refine j8u hll hE (by omega) ht rfl rfl ?_
  intro n A hm h1 hn3
  obtain ⟨o, q1m⟩ := hm.errCell
  have hc1 : A 1 = .cells 33 7 [[.int .i64 0, .int .i64 0, .str [], .int .i64 0, .int .i64 0, .nilS, .int .i64 0]] := h1
  have e1 : (2 = n) = False := eq_false (by omega)
  have e2 : (1 = n) = False := eq_false (by omega)
  have z9e : A 2 = .cells 58 22 [[.vec 6 (l.map q2y), .vec 3 (q3k l), .str E.key, .int .i64 E.val.k, .int .i64 E.val.n, .str E.val.s, .int .i64 E.val.x, .int .i64 E.val.y, .int .i64 E.acc.k, .int .i64 E.acc.n, .str E.acc.s, .int .i64 E.acc.x, .int .i64 E.acc.y, .int .i64 (q2z t E f).2.i, .int .i64 (q2z t E f).2.it.k, .int .i64 (q2z t E f).2.it.n, .str (q2z t E f).2.it.s, .int .i64 (q2z t E f).2.it.x, .int .i64 (q2z t E f).2.it.y, o, .int .i64 ((q2z t E f).2.left : Int), .int .i64 (q2z t E f).2.err]] := q1m
  have z1 : ((q2z t E f).2.err != 0) = true := by simpa using he
  simp only [z9e, hc1, e1, e2, z1, q4e, q8q, q9x, r7_0, x8h, tt, bb, bc, ↓bd, Nat.reduceEqDiff, Nat.reduceAdd, ↓reduceIte, Nat.reduceBneDiff]
  rfl
theorem Kp.grow {s s' : St} (h : Kp s s') : s.out.length ≤ s'.out.length := by
 obtain ⟨l, e⟩ := h.out
 rw [e, List.length_append]; omega
theorem q8z : q0k Cx 5 [] (.bool true) := ⟨20000, by kernel_rfl⟩
theorem OutV.len {d : AV} {l : List Pr} (h : OutV d l) : lenOf d = some l.length := by
 rcases h with ⟨rfl, rfl⟩ | rfl
 ·rfl
 ·unfold lenOf; rw [List.length_map]
theorem OutV.flat {d : AV} {l : List Pr} (h : OutV d l) : d.flat = true := by
 rcases h with ⟨rfl, rfl⟩ | rfl
 ·rfl
 ·rfl
theorem OutV.plain {d : AV} {l : List Pr} (h : OutV d l) : d.plain = true := by
 rcases h with ⟨rfl, rfl⟩ | rfl <;> rfl
theorem OutV.cells {d : AV} {l : List Pr} (h : OutV d l) : d.cells = [d] := by
 rcases h with ⟨rfl, rfl⟩ | rfl <;> rfl
theorem x9o {l : List Pr} {i : Nat} (hi : i < l.length) : (l.map j0z)[i]? = some [.str (l[i]).key, .int .i64 (l[i]).k, .int .i64 (l[i]).n, .str (l[i]).s, .int .i64 (l[i]).x, .int .i64 (l[i]).y] := by
 rw [List.getElem?_map, List.getElem?_eq_getElem hi]; rfl
theorem j8v {l : List Pr} (hl : l.length ≤ 100000) : ∀ (j i : Nat) (T : Nat → AV) (H : AHeap), i + j = l.length → T 0 = .vec 6 (l.map j0z) → T 1 = .vec 6 (l.map j0z) → T 5 = .int .i64 (i : Int) →
  Run Cx 10 T [] none [.inLoop c10_15, .inBlock 0, .code c10_31] H (fun r0 H' => BX.freeze H' r0 = some (.bool true))
 | 0, i, T, H, hij, t0, t1, t5 => by
  rw [run_inLoop]
  have h0 : ((i : Int) < ((l.map j0z).length : Int)) = False := eq_false (by rw [List.length_map]; omega)
  simp only [t0, t5, h0, i64, xx, r10_0, w8t, tt, bb, bc, ↓bd, Nat.reduceEqDiff, ↓reduceIte, reduceCtorEq]
 | j + 1, i, T, H, hij, t0, t1, t5 => by
  rw [run_inLoop]
  have hi : i < l.length := by omega
  have h0 : ((i : Int) < ((l.map j0z).length : Int)) = True := eq_true (by rw [List.length_map]; omega)
  have p0 : (0 : Int) ≤ (i : Int) := by omega
  have g0 := x9o hi
  have w1 : IntKind.i64.wrap ((i : Int) + 1) = ((i + 1 : Nat) : Int) := by rw [wr64 (by omega) (by omega)]; omega
  simp only [t0, t1, t5, h0, p0, g0, w1, beq_self_eq_true, Bool.not_true, i64, Int.toNat_natCast, xx, r10_0.2.1, tt, bb, bc, ↓bd, Nat.reduceEqDiff, Nat.reduceAdd, ↓reduceIte, reduceCtorEq]
  refine j8v hl j (i + 1) _ _ (by omega) ?_ ?_ ?_
  all_goals simp only [q0b, t0, t1, Nat.reduceEqDiff, ↓reduceIte]
theorem y6p {d d' : AV} {l : List Pr} (h : OutV d l) (h' : OutV d' l) (hl : l.length ≤ 100000) : q0k Cx 10 [d, d'] (.bool true) := by
 by_cases h0 : l = []
 ·subst h0
  rcases h with ⟨rfl, _⟩ | rfl <;> rcases h' with ⟨rfl, _⟩ | rfl <;> exact ⟨60, by kernel_rfl⟩
 ·obtain rfl : d = .vec 6 (l.map j0z) := by
   rcases h with ⟨_, h⟩ | h
   ·exact absurd h h0
   ·exact h
  obtain rfl : d' = .vec 6 (l.map j0z) := by
   rcases h' with ⟨_, h⟩ | h
   ·exact absurd h h0
   ·exact h
  refine q0c (q0l _) y9p ?_
  have z : ((((l.map j0z).length : Nat) : Int) != (((l.map j0z).length : Nat) : Int)) = false := by simp
  simp only [z, i64, r10_0.1, tt, bb, bc, ↓bd, Nat.reduceEqDiff, ↓reduceIte, reduceCtorEq]
  refine j8v hl l.length 0 _ _ (by omega) ?_ ?_ ?_
  all_goals simp only [q0b, q1g, qez, Nat.reduceEqDiff, ↓reduceIte]
  all_goals rfl
def PFw (l : List Nd) (E : Env) (x : Int) (i : Nat) (acc : Int) : Prop :=
 ∀ T : Nat → AV, T 0 = .vec 6 (l.map q2y) → T 3 = .ptr 0 11 0 0 → T 5 = .int .i64 acc → T 6 = .int .i64 (i : Int) →
  Run Cx 6 T [] none [.inLoop c6_9, .inBlock 0, .code c6_19] ⟨1, upd (fun _ => Blk.dead) 0 (w8d E)⟩ (fun r0 H' => BX.freeze H' r0 = some (.int .i64 x))
theorem x9p {l : List Nd} {E : Env} {acc : Int} : ∃ x : Int, (x = 0 ∨ (x = 1 ∧ l.length ≤ 100)) ∧ ∀ T : Nat → AV, T 0 = .vec 6 (l.map q2y) → T 3 = .ptr 0 11 0 0 → T 5 = .int .i64 acc →
  Run Cx 6 T [] none [.code c6_19] ⟨1, upd (fun _ => Blk.dead) 0 (w8d E)⟩ (fun r0 H' => BX.freeze H' r0 = some (.int .i64 x)) := by
 by_cases c1 : (100 : Int) ≤ ((l.map q2y).length : Int)
 ·refine ⟨0, .inl rfl, fun T t0 t3 t5 => ?_⟩
  simp only [t0, c1, i64, r6_0, x6s, tt, bb, bc, ↓bd, Nat.reduceEqDiff, ↓reduceIte, reduceCtorEq]
 by_cases c2 : (5000 : Int) < acc
 ·refine ⟨0, .inl rfl, fun T t0 t3 t5 => ?_⟩
  simp only [t0, t5, c1, c2, i64, r6_0, x6s, tt, bb, bc, ↓bd, Nat.reduceEqDiff, ↓reduceIte, reduceCtorEq]
 by_cases c3 : (5000 : Int) < (E.key.length : Int)
 ·refine ⟨0, .inl rfl, fun T t0 t3 t5 => ?_⟩
  simp only [t0, t3, t5, c1, c2, c3, i64, r6_0, x6s, tt, bb, bc, ↓bd, Nat.reduceEqDiff, ↓reduceIte, reduceCtorEq]
 by_cases c4 : (5000 : Int) < (E.val.s.length : Int)
 ·refine ⟨0, .inl rfl, fun T t0 t3 t5 => ?_⟩
  simp only [t0, t3, t5, c1, c2, c3, c4, i64, r6_0, x6s, tt, bb, bc, ↓bd, Nat.reduceEqDiff, Nat.reduceAdd, ↓reduceIte, reduceCtorEq]
 by_cases c5 : (5000 : Int) < (E.acc.s.length : Int)
 ·refine ⟨0, .inl rfl, fun T t0 t3 t5 => ?_⟩
  simp only [t0, t3, t5, c1, c2, c3, c4, c5, i64, r6_0, x6s, tt, bb, bc, ↓bd, Nat.reduceEqDiff, Nat.reduceAdd, ↓reduceIte]
 ·refine ⟨1, .inr ⟨rfl, by rw [List.length_map] at c1; omega⟩, fun T t0 t3 t5 => ?_⟩
  simp only [t0, t3, t5, c1, c2, c3, c4, c5, i64, r6_0, x6s, tt, bb, bc, ↓bd, Nat.reduceEqDiff, Nat.reduceAdd, ↓reduceIte]
theorem y6q {l : List Nd} {E : Env} {i : Nat} {acc : Int} (hi : l.length ≤ i ∨ 100 ≤ i) : ∃ x, (x = 0 ∨ (x = 1 ∧ l.length ≤ 100)) ∧ PFw l E x i acc := by
 obtain ⟨x, hx, hp⟩ := x9p (l := l) (E := E) (acc := acc)
 refine ⟨x, hx, fun T t0 t3 t5 t6 => ?_⟩
 rw [run_inLoop]
 by_cases c1 : (i : Int) < ((l.map q2y).length : Int)
 ·have c3 : ¬ (i : Int) < 100 := by rw [List.length_map] at c1; omega
  simp only [t0, t6, c1, c3, i64, xx, r6_0.2.1, tt, bb, bc, ↓bd, Nat.reduceEqDiff, ↓reduceIte, reduceCtorEq]
  refine hp _ ?_ ?_ ?_
  all_goals simp only [q0b, t0, t3, t5, Nat.reduceEqDiff, ↓reduceIte]
 ·simp only [t0, t6, c1, i64, xx, r6_0.2.1, tt, bb, bc, ↓bd, Nat.reduceEqDiff, ↓reduceIte, reduceCtorEq]
  refine hp _ ?_ ?_ ?_
  all_goals simp only [q0b, t0, t3, t5, Nat.reduceEqDiff, ↓reduceIte]
theorem x5p {l : List Nd} {E : Env} : ∀ (j i : Nat) (acc : Int), 102 ≤ i + j → i ≤ 101 → 0 ≤ acc → acc ≤ 10000 * i → ∃ x, (x = 0 ∨ (x = 1 ∧ l.length ≤ 100)) ∧ PFw l E x i acc
 | 0, i, acc, hj, hi, h0, h1 => by omega
 | j + 1, i, acc, hj, hi, h0, h1 => by
  by_cases hend : l.length ≤ i ∨ 100 ≤ i
  ·exact y6q hend
  ·have hil : i < l.length := by omega
   have c1 : (i : Int) < ((l.map q2y).length : Int) := by rw [List.length_map]; omega
   have c3 : (i : Int) < 100 := by omega
   have p0 : (0 : Int) ≤ (i : Int) := by omega
   have g0 := z4g hil
   have w1 : IntKind.i64.wrap ((i : Int) + 1) = ((i + 1 : Nat) : Int) := by rw [wr64 (by omega) (by omega)]; omega
   have y0b : ∃ mm : Int, 0 ≤ mm ∧ mm ≤ 10000 ∧ x7a .i64 (((l[i]).v.s.length : Nat) : Int) [.int .i64 10000] = some mm := by
    refine ⟨if (10000 : Int) < (((l[i]).v.s.length : Nat) : Int) then 10000 else (((l[i]).v.s.length : Nat) : Int), by split <;> omega, by split <;> omega, ?_⟩
    simp [x7a]
   obtain ⟨mm, m0, m1, hm⟩ := y0b
   have w2 : IntKind.i64.wrap (acc + mm) = acc + mm := wr64 (by omega) (by omega)
   obtain ⟨x, hx, hp⟩ := x5p (l := l) (E := E) j (i + 1) (acc + mm) (by omega) (by omega) (by omega) (by omega)
   refine ⟨x, hx, fun T t0 t3 t5 t6 => ?_⟩
   rw [run_inLoop]
   simp only [t0, t5, t6, c1, c3, p0, g0, w1, w2, hm, Option.map_some, q0i, i64, Int.toNat_natCast, xx, r6_0.2.1, tt, bb, bc, ↓bd, Nat.reduceEqDiff, Nat.reduceAdd, ↓reduceIte, reduceCtorEq]
   refine hp _ ?_ ?_ ?_ ?_
   all_goals simp only [q0b, t0, t3, Nat.reduceEqDiff, ↓reduceIte]
theorem y6r {v : AV} (hv : v = .nilS ∨ v = .vec 6 []) (E : Env) : ∃ x : Int, (x = 0 ∨ (x = 1 ∧ ([] : List Nd).length ≤ 100)) ∧ q0k Cx 6 [v, x5o E] (.int .i64 x) := by
 by_cases c3 : (5000 : Int) < (E.key.length : Int)
 ·refine ⟨0, .inl rfl, q0c (q0l _) x3e ?_⟩
  rcases hv with rfl | rfl <;> simp only [c3, List.length_nil, i64, xx, run_inLoop, r6_0, x6s, tt, bb, bc, ↓bd, Nat.reduceEqDiff, Nat.reduceAdd, ↓reduceIte, reduceCtorEq, Int.reduceLT, Int.reduceLE]
 by_cases c4 : (5000 : Int) < (E.val.s.length : Int)
 ·refine ⟨0, .inl rfl, q0c (q0l _) x3e ?_⟩
  rcases hv with rfl | rfl <;> simp only [c3, c4, List.length_nil, i64, xx, run_inLoop, r6_0, x6s, tt, bb, bc, ↓bd, Nat.reduceEqDiff, Nat.reduceAdd, ↓reduceIte, reduceCtorEq, Int.reduceLT, Int.reduceLE]
 by_cases c5 : (5000 : Int) < (E.acc.s.length : Int)
 ·refine ⟨0, .inl rfl, q0c (q0l _) x3e ?_⟩
  rcases hv with rfl | rfl <;> simp only [c3, c4, c5, List.length_nil, i64, xx, run_inLoop, r6_0, x6s, tt, bb, bc, ↓bd, Nat.reduceEqDiff, Nat.reduceAdd, ↓reduceIte, reduceCtorEq, Int.reduceLT, Int.reduceLE]
 ·refine ⟨1, .inr ⟨rfl, by simp⟩, q0c (q0l _) x3e ?_⟩
  rcases hv with rfl | rfl <;> simp only [c3, c4, c5, List.length_nil, i64, xx, run_inLoop, r6_0, x6s, tt, bb, bc, ↓bd, Nat.reduceEqDiff, Nat.reduceAdd, ↓reduceIte, reduceCtorEq, Int.reduceLT, Int.reduceLE]
theorem w5z {v : AV} {l : List Nd} (hv : InN v l) (E : Env) : ∃ x : Int, (x = 0 ∨ (x = 1 ∧ l.length ≤ 100)) ∧ q0k Cx 6 [v, x5o E] (.int .i64 x) := by
 by_cases h0 : l = []
 ·subst h0
  refine y6r ?_ E
  rcases hv with ⟨h, _⟩ | h
  ·exact .inl h
  ·exact .inr h
 ·obtain rfl := hv.vec h0
  obtain ⟨x, hx, hp⟩ := x5p (l := l) (E := E) 102 0 0 (by omega) (by omega) (by omega) (by omega)
  refine ⟨x, hx, q0c (q0l _) x3e ?_⟩
  simp only [r6_0.1, tt, bb, ↓bd, Nat.reduceAdd, ↓reduceIte]
  refine hp _ ?_ ?_ ?_ ?_
  all_goals simp only [q0b, q1g, List.getElem?_cons_zero, Option.getD_some, Nat.reduceEqDiff, ↓reduceIte]
  all_goals rfl
theorem InN.vecR {v : AV} {l : List Nd} (h : InN v l) (hr : q2w l = true) : v = .vec 6 (l.map q2y) := h.vec (by rintro rfl; cases hr)
def v0i (l : List Nd) (E : Env) (f : Int) (r : AV) : Prop :=
 (z1l l E f = false ∧ r = .tuple [y2m zV .nilS 0, .int .i64 1]) ∨
 (∃ t, z1l l E f = true ∧ WF t ∧ l = q0o t ∧ (((q2z t E f.toNat).2.err ≠ 0 ∧ r = .tuple [y2m zV .nilS 0, .int .i64 (q2z t E f.toNat).2.err]) ∨
  ((q2z t E f.toNat).2.err = 0 ∧ ∃ d, OutV d (q2z t E f.toNat).2.out ∧ r = .tuple [y2m (q2z t E f.toNat).1 d (q2z t E f.toNat).2.left, .int .i64 0])))
theorem w6a {v : AV} {l : List Nd} (hv : InN v l) (hn : x9g l) (hl : l.length ≤ 1000000) (E : Env) (f : Int) : ∃ r, v0i l E f r ∧ q0k Cx 7 [v, x5o E, .int .i64 f] r := by
 cases hg : z1l l E f with
 | false => exact ⟨_, .inl ⟨hg, rfl⟩, y6o hv hn hl hg⟩
 | true =>
  obtain ⟨hr, hE, f0, f1⟩ := q6r hg
  obtain rfl := hv.vecR hr
  obtain ⟨_, t, hw, e⟩ := z9a hr
  have hff : ((f.toNat : Nat) : Int) = f := by omega
  have h := x9n (f := f.toNat) hn (by rw [hff]; exact hg) hw e
  rw [hff] at h
  by_cases he : (q2z t E f.toNat).2.err = 0
  ·obtain ⟨d, hd, hp⟩ := h.1 he
   exact ⟨_, .inr ⟨t, hg, hw, e, .inr ⟨he, d, hd, rfl⟩⟩, hp⟩
  ·exact ⟨_, .inr ⟨t, hg, hw, e, .inl ⟨he, rfl⟩⟩, h.2 he⟩
structure MR (M : Mch) (n : Nat) (A : Nat → Blk) (s : St) : Prop where
 lt : M.b < n
 cell : ∃ o, A M.b = .cells 66 22 [[M.L, M.F, .str M.E.key, .int .i64 M.E.val.k, .int .i64 M.E.val.n, .str M.E.val.s, .int .i64 M.E.val.x, .int .i64 M.E.val.y, .int .i64 M.E.acc.k, .int .i64 M.E.acc.n, .str M.E.acc.s, .int .i64 M.E.acc.x, .int .i64 M.E.acc.y, .int .i64 s.i, .int .i64 s.it.k, .int .i64 s.it.n, .str s.it.s, .int .i64 s.it.x, .int .i64 s.it.y, o, .int .i64 (s.left : Int), .int .i64 s.err]] ∧ Ow o n A s.out
theorem MR.keep {M : Mch} {n n' : Nat} {A A' : Nat → Blk} {s : St} (h : MR M n A s) (hn : n ≤ n') (hk : ∀ g, g < n → (g = M.b ∨ x0s (A g)) → A' g = A g) : MR M n' A' s := by
 obtain ⟨h1, o, h2, h3⟩ := h
 exact ⟨by omega, o, by rw [hk _ h1 (.inl rfl)]; exact h2, h3.keep hn (fun g hg hp => hk g hg (.inr hp))⟩
theorem j8w {M : Mch} {n : Nat} {A : Nat → Blk} {s : St} (h : MR M n A s) : ¬ x0s (A M.b) := by
 obtain ⟨_, o, h2, _⟩ := h
 rw [h2]
 show ¬ (66 = 49)
 decide
theorem MR.up1 {M : Mch} {n : Nat} {A : Nat → Blk} {s : St} (h : MR M n A s) (X : Blk) : MR M (n + 1) (upd A n X) s :=
 h.keep (by omega) fun g hg _ => by rw [q0b, if_neg (by omega)]
theorem MR.upo {M : Mch} {n : Nat} {A : Nat → Blk} {s : St} (h : MR M n A s) {c : Nat} (hc : c ≠ M.b) (hp : ¬ x0s (A c)) (X : Blk) : MR M n (upd A c X) s :=
 h.keep (Nat.le_refl _) fun g hg hgp => by
  rw [q0b, if_neg]
  rintro rfl
  rcases hgp with h | h
  ·exact hc h
  ·exact hp h
section
theorem q0q {M : Mch} {n : Nat} {A : Nat → Blk} {s : St} {e : Int} (h : MR M n A s) (hk : ∀ n' A', MR M n' A' (q1f e s) → Keep M.b n A A' → n ≤ n' → q0d Cx fn (putA T dst (q1o zV)) ds ro os k ⟨n', A'⟩ Q) :
  q0g Cx fn T ds ro 35 [.ptr M.b 22 0 0, .int .i64 e] dst os k ⟨n, A⟩ Q := by
 have hp := j8w h
 have h' := h
 obtain ⟨hb, o, hA, ho⟩ := h
 refine q0s w0u (q0l _) w0s ?_
 have ne : (M.b = n) = False := eq_false (by omega)
 have ne' : (n = M.b) = False := eq_false (by omega)
 by_cases he : s.err = 0
 ·have z : (s.err == 0) = true := by simp [he]
  simp only [hA, ne, ne', z, r35_0, w0t, tt, bb, bc, ↓bd, Nat.reduceEqDiff, Nat.reduceAdd, ↓reduceIte, reduceCtorEq]
  have hs : q1f e s = { s with err := e } := by unfold q1f; rw [if_pos he]
  rw [hs] at hk
  refine hk (n + 1) _ ⟨by omega, o, ?_, ho.keep (n' := n + 1) (by omega) fun g hg hpg => ?_⟩ (fun c hc hcb hcp => ?_) (by omega)
  ·simp only [q0b, ne, ↓reduceIte]
  ·have : g ≠ M.b := fun e => hp (by rw [← e]; exact hpg)
   simp only [q0b, eq_false this, eq_false (show g ≠ n by omega), ↓reduceIte]
  ·simp only [q0b, eq_false hcb, eq_false (show c ≠ n by omega), ↓reduceIte]
 ·have z : (s.err == 0) = false := by simpa using he
  simp only [hA, ne, z, r35_0, w0t, tt, bb, bc, ↓bd, Nat.reduceEqDiff, Nat.reduceAdd, ↓reduceIte, reduceCtorEq]
  have hs : q1f e s = s := by unfold q1f; rw [if_neg he]
  rw [hs] at hk
  refine hk (n + 1) _ (h'.keep (n' := n + 1) (by omega) fun g hg _ => ?_) (fun c hc hcb hcp => ?_) (by omega)
  ·simp only [q0b, eq_false (show g ≠ n by omega), ↓reduceIte]
  ·simp only [q0b, eq_false (show c ≠ n by omega), ↓reduceIte]
theorem q0t {M : Mch} {n n' : Nat} {A A' : Nat → Blk} {s' : St} {v : AV} {X : Blk} (hb : M.b < n) (hm : MR M n' A' s') (hkp : Keep M.b (n + 1) (upd A n zB) A') (hn : n + 1 ≤ n')
  (hk : ∀ n' A', MR M n' A' s' → Keep M.b n A A' → n ≤ n' → q0d Cx fn (putA T dst v) ds ro os k ⟨n', A'⟩ Q) : q0d Cx fn (putA T dst v) ds ro os k ⟨n', upd A' n X⟩ Q := by
 have hc := q0f hb hkp
 exact hk n' _ (hm.upo (c := n) (by omega) (by rw [hc]; exact q3j) _) (((((Keep.refl M.b n A).up1 (Nat.le_refl _) zB).trans (by omega) hkp)).up1 (by omega) _) (by omega)
theorem z4h {M : Mch} {n : Nat} {A : Nat → Blk} {s : St} {v : AV} {X : Blk} (h : MR M n A s)
  (hk : ∀ n' A', MR M n' A' s → Keep M.b n A A' → n ≤ n' → q0d Cx fn (putA T dst v) ds ro os k ⟨n', A'⟩ Q) : q0d Cx fn (putA T dst v) ds ro os k ⟨n + 1, upd (upd A n zB) n X⟩ Q :=
 q0t h.lt (h.up1 zB) (Keep.refl _ _ _) (Nat.le_refl _) hk
theorem MR.errCell {M : Mch} {n : Nat} {A : Nat → Blk} {s : St} (h : MR M n A s) : ∃ o, A M.b = .cells 66 22 [[M.L, M.F, .str M.E.key, .int .i64 M.E.val.k, .int .i64 M.E.val.n, .str M.E.val.s, .int .i64 M.E.val.x, .int .i64 M.E.val.y, .int .i64 M.E.acc.k, .int .i64 M.E.acc.n, .str M.E.acc.s, .int .i64 M.E.acc.x, .int .i64 M.E.acc.y, .int .i64 s.i, .int .i64 s.it.k, .int .i64 s.it.n, .str s.it.s, .int .i64 s.it.x, .int .i64 s.it.y, o, .int .i64 (s.left : Int), .int .i64 s.err]] := ⟨_, h.cell.choose_spec.1⟩
theorem MR.setI {M : Mch} {n : Nat} {A : Nat → Blk} {s : St} {o : AV} (h : MR M n A s) (ho : A M.b = .cells 66 22 [[M.L, M.F, .str M.E.key, .int .i64 M.E.val.k, .int .i64 M.E.val.n, .str M.E.val.s, .int .i64 M.E.val.x, .int .i64 M.E.val.y, .int .i64 M.E.acc.k, .int .i64 M.E.acc.n, .str M.E.acc.s, .int .i64 M.E.acc.x, .int .i64 M.E.acc.y, .int .i64 s.i, .int .i64 s.it.k, .int .i64 s.it.n, .str s.it.s, .int .i64 s.it.x, .int .i64 s.it.y, o, .int .i64 (s.left : Int), .int .i64 s.err]]) (s' : St) (hl : s'.out = s.out) :
  MR M n (upd A M.b (.cells 66 22 [[M.L, M.F, .str M.E.key, .int .i64 M.E.val.k, .int .i64 M.E.val.n, .str M.E.val.s, .int .i64 M.E.val.x, .int .i64 M.E.val.y, .int .i64 M.E.acc.k, .int .i64 M.E.acc.n, .str M.E.acc.s, .int .i64 M.E.acc.x, .int .i64 M.E.acc.y, .int .i64 s'.i, .int .i64 s'.it.k, .int .i64 s'.it.n, .str s'.it.s, .int .i64 s'.it.x, .int .i64 s'.it.y, o, .int .i64 (s'.left : Int), .int .i64 s'.err]])) s' := by
 obtain ⟨hb, o', hA, hw⟩ := h
 have e := hA.symm.trans ho
 simp only [Blk.cells.injEq, List.cons.injEq, and_true, true_and] at e
 subst e
 refine ⟨hb, o', by rw [q0b, if_pos rfl], ?_⟩
 rw [hl]
 refine hw.keep (Nat.le_refl _) fun z hz hp => ?_
 have : z ≠ M.b := by rintro rfl; rw [hA] at hp; cases hp
 rw [q0b, if_neg this]
end
set_option maxRecDepth 20000
theorem z3f (x y : Int) : q0k Cx 33 [spot x y] (.bool (inR x && inR y)) := by
 refine q0c (q0l _) y1a ?_
 by_cases h1 : -16777216 ≤ x <;> by_cases h2 : x ≤ 16777216 <;> by_cases h3 : -16777216 ≤ y <;>
 simp only [h1, h2, h3, inR, r33_0, w0p, tt, bb, bc, ↓bd, Nat.reduceEqDiff, Nat.reduceAdd, ↓reduceIte, Int.reduceNeg]
theorem bneE {α : Type} [BEq α] (a b : α) : (!(a != b)) = (a == b) := by unfold bne; rw [Bool.not_not]
theorem refRight_ok (k n : Int) (s : Bytes) (x y : Int) : q0k Cx 18 [val k n s x y] (.bool (q1j k n s x y)) := by
 refine q0c (q0l _) y9x ?_
 unfold q1j
 simp only [bneE, Bool.not_not]
 by_cases h0 : k = 0
 ·subst h0
  cases h1 : decide (-9007199254740992 ≤ n) with
  | false => simp only [h1, Bool.false_and, r18_0, j3l, tt, bb, bc, ↓bd, Nat.reduceEqDiff, Nat.reduceAdd, ↓reduceIte, Int.reduceNeg]
  | true =>
   cases h2 : decide (n ≤ 9007199254740992) with
   | false => simp only [h1, h2, Bool.false_and, r18_0, j3l, tt, bb, bc, ↓bd, Nat.reduceEqDiff, Nat.reduceAdd, ↓reduceIte, Int.reduceNeg]
   | true =>
    cases h3 : (s == []) <;>
    simp only [h1, h2, h3, Bool.false_and, Bool.true_and, r18_0, j3l, tt, bb, bc, ↓bd, Nat.reduceEqDiff, Nat.reduceAdd, ↓reduceIte, Int.reduceNeg]
 ·have e0 : (k == 0) = false := by simpa using h0
  by_cases h1 : k = 1
  ·subst h1
   cases h2 : decide ((s.length : Int) ≤ 4096) with
   | false => simp only [h2, Bool.false_and, r18_0, j3l, tt, bb, bc, ↓bd, Nat.reduceEqDiff, Nat.reduceAdd, ↓reduceIte, Int.reduceBEq, Int.reduceEq]
   | true =>
    cases h3 : (n == 0) <;>
    simp only [h2, h3, Bool.false_and, Bool.true_and, r18_0, j3l, tt, bb, bc, ↓bd, Nat.reduceEqDiff, Nat.reduceAdd, ↓reduceIte, Int.reduceBEq, Int.reduceEq]
  ·have e1 : (k == 1) = false := by simpa using h1
   by_cases h2 : k = 2
   ·subst h2
    cases h3 : (inR x && inR y) with
    | false => simp only [h3, q0a q7g rfl (z3f x y), Bool.false_and, r18_0, j3l, tt, bb, bc, ↓bd, Nat.reduceEqDiff, Nat.reduceAdd, ↓reduceIte, Int.reduceBEq, Int.reduceEq]
    | true =>
     cases h4 : (n == 0) <;>
     simp only [h3, h4, q0a q7g rfl (z3f x y), Bool.false_and, Bool.true_and, r18_0, j3l, tt, bb, bc, ↓bd, Nat.reduceEqDiff, Nat.reduceAdd, ↓reduceIte, Int.reduceBEq, Int.reduceEq]
   ·have e2 : (k == 2) = false := by simpa using h2
    simp only [h0, h1, h2, e0, e1, e2, q1a, r18_0, j3l, tt, bb, bc, ↓bd, Nat.reduceEqDiff, Nat.reduceAdd, ↓reduceIte]
theorem y2n (d : Nat) (hd : d < 16) : q0k Cx 89 [.int .i64 (d : Int)] (.str [x0z d]) := by
 refine q0c (q0l _) w3t ?_
 unfold x0z
 by_cases h : d < 10
 ·have h' : (d : Int) < 10 := by omega
  have w1 : IntKind.i64.wrap (48 + (d : Int)) = 48 + (d : Int) := wr64 (by omega) (by omega)
  have w2 := x3y (n := 48 + (d : Int)) (by omega) (by omega)
  have hb : BX.byteOf [AV.int .u8 (((UInt8.ofNat (48 + (d : Int)).toNat).toNat : Nat) : Int)] = some (UInt8.ofNat (48 + d)) := by
   rw [x3x (by omega) (by omega)]
   show some (UInt8.ofNat (48 + (d : Int)).toNat) = _
   congr 2
  simp only [h, h', w1, w2, hb, bytesOf, r89_0, w3u, tt, bb, bc, ↓bd, Nat.reduceMul, Nat.reduceLeDiff, ↓reduceIte, reduceCtorEq, List.reduceReplicate]
 ·have h' : ¬ (d : Int) < 10 := by omega
  have w1 : IntKind.i64.wrap (97 + (d : Int)) = 97 + (d : Int) := wr64 (by omega) (by omega)
  have w3 : IntKind.i64.wrap (97 + (d : Int) - 10) = 97 + (d : Int) - 10 := wr64 (by omega) (by omega)
  have w2 := x3y (n := 97 + (d : Int) - 10) (by omega) (by omega)
  have hb : BX.byteOf [AV.int .u8 (((UInt8.ofNat (97 + (d : Int) - 10).toNat).toNat : Nat) : Int)] = some (UInt8.ofNat (87 + d)) := by
   rw [x3x (by omega) (by omega)]
   show some (UInt8.ofNat (97 + (d : Int) - 10).toNat) = _
   congr 2; omega
  simp only [h, h', w1, w2, w3, hb, bytesOf, r89_0, w3u, tt, bb, bc, ↓bd, Nat.reduceMul, Nat.reduceLeDiff, ↓reduceIte, reduceCtorEq, List.reduceReplicate]
theorem x9q {s : Bytes} {i : Nat} {c : UInt8} (h : s[i]? = some c) : q4r Cx 9 (.str s) (some (.int .i64 (i : Int))) (some (.int .i64 ((i + 1 : Nat) : Int))) none = some (.str [c]) := by
 have hlt := (List.getElem?_eq_some_iff.mp h).1
 unfold q4r
 rw [x6r]
 show (j4t _ _ _).map _ = _
 unfold j4t z3h
 simp only
 rw [if_pos (by omega)]
 simp only [Int.toNat_natCast]
 rw [if_pos (by omega)]
 simp only [Option.map_some]
 congr 2
 rw [List.take_add_one, h, List.drop_append_of_le_length (by simp; omega)]
 rw [List.drop_of_length_le (by simp; omega)]
 rfl
def PW (s : Bytes) (r : AV) (i : Nat) (acc : Bytes) : Prop :=
 ∀ (T : Nat → AV) (H : AHeap), T 1 = .ptr 0 5 0 0 → T 3 = .str acc → T 4 = .int .i64 (i : Int) → H.at_ 0 = .cells 26 5 [[.int .i64 1, .int .i64 0, .str s, .int .i64 0, .int .i64 0]] →
  Run Cx 63 T [] none [.inLoop c63_26, .inBlock 1, .code c63_40] H (fun r0 H' => BX.freeze H' r0 = some r)
theorem w6b {s acc : Bytes} (hl : acc.length ≤ 1000000) : PW s (.str (acc ++ [34])) s.length acc := by
 intro T H t1 t3 t4 a0
 rw [run_inLoop]
 have h0 : ((s.length : Int) < (s.length : Int)) = False := by simp
 have g1 : (acc.length + 1 ≤ 9223372036854775807) = True := eq_true (by omega)
 simp only [t1, t3, t4, a0, h0, g1, xx, r63_0, y4k, tt, bb, bc, ↓bd, Nat.reduceEqDiff, ↓reduceIte]
theorem y6s {s acc : Bytes} {i : Nat} {c : UInt8} {r : AV} (hi : s[i]? = some c) (hs : s.length ≤ 100000) (hl : acc.length ≤ 1000000) (hp : PW s r (i + 1) (acc ++ q1 c)) : PW s r i acc := by
 intro T H t1 t3 t4 a0
 rw [run_inLoop]
 have hlt : i < s.length := (List.getElem?_eq_some_iff.mp hi).1
 have h0 : ((i : Int) < (s.length : Int)) = True := eq_true (by omega)
 have w1 : IntKind.i64.wrap ((i : Int) + 1) = ((i + 1 : Nat) : Int) := by rw [wr64 (by omega) (by omega)]; omega
 have hcu := c.toNat_lt
 have hc0 : (0 : Int) ≤ (i : Int) := by omega
 have hpl := q5k (c.toNat : Int)
 unfold q1 at hp
 by_cases hc : q7h c = true
 ·have hc' : q3z (c.toNat : Int) = true := hc
  rw [if_pos hc] at hp
  have sl := x9q hi
  have g1 : (acc.length + 1 ≤ 9223372036854775807) = True := eq_true (by omega)
  simp only [t1, t3, t4, a0, h0, hi, hc', hc0, w1, sl, g1, evo, q0n, Int.toNat_natCast, q0a z3d rfl hpl, xx, r63_0, tt, bb, bc, ↓bd, Nat.reduceEqDiff, ↓reduceIte]
  refine hp _ _ ?_ ?_ ?_ ?_
  all_goals first | assumption | simp only [q0b, Nat.reduceEqDiff, ↓reduceIte]
 ·have hc' : q3z (c.toNat : Int) = false := by
   show q7h c = false
   simpa using hc
  rw [if_neg hc] at hp
  obtain ⟨t1', t2'⟩ := td16 (n := c.toNat) (by omega)
  have z16 : ((16 : Int) = 0) = False := by simp
  have w0 : IntKind.i64.wrap (c.toNat : Int) = (c.toNat : Int) := wr64 (by omega) (by omega)
  have w2 : IntKind.i64.wrap ((c.toNat : Int) / 16) = ((c.toNat / 16 : Nat) : Int) := by rw [wr64 (by omega) (by omega)]; omega
  have w3 : (c.toNat : Int) % 16 = ((c.toNat % 16 : Nat) : Int) := by omega
  have x1 := y2n (c.toNat / 16) (by omega)
  have x2 := y2n (c.toNat % 16) (by omega)
  have g1 : (acc.length + 1 ≤ 9223372036854775807) = True := eq_true (by omega)
  have g2 : ((acc ++ [92]).length + 1 ≤ 9223372036854775807) = True := eq_true (by rw [List.length_append, List.length_singleton]; omega)
  have g3 : ((acc ++ [92] ++ [x0z (c.toNat / 16)]).length + 1 ≤ 9223372036854775807) = True := eq_true (by simp only [List.length_append, List.length_singleton]; omega)
  have ea : acc ++ [92] ++ [x0z (c.toNat / 16)] ++ [x0z (c.toNat % 16)] = acc ++ [92, x0z (c.toNat / 16), x0z (c.toNat % 16)] := by simp
  simp only [t1, t3, t4, a0, h0, hi, hc', hc0, w0, w1, w2, w3, t1', t2', z16, g1, g2, g3, ea, q0n, Int.toNat_natCast, q0a z3d rfl hpl, q0a y1l rfl x1, q0a y1l rfl x2, xx, r63_0, tt, bb, bc, ↓bd, Nat.reduceEqDiff, ↓reduceIte]
  refine hp _ _ ?_ ?_ ?_ ?_
  all_goals first | assumption | simp only [q0b, Nat.reduceEqDiff, ↓reduceIte]
theorem y2o {s : Bytes} (hs : s.length ≤ 100000) : ∀ (j i : Nat) (acc : Bytes), i + j = s.length → acc.length ≤ 1 + 3 * i → PW s (.str (acc ++ (w4v (s.drop i) ++ [34]))) i acc
 | 0, i, acc, hij, hl => by
  have e : i = s.length := by omega
  subst e
  rw [List.drop_length]
  exact w6b (by omega)
 | j + 1, i, acc, hij, hl => by
  have hi : i < s.length := by omega
  have hd : s.drop i = s[i] :: s.drop (i + 1) := List.drop_eq_getElem_cons hi
  rw [hd, j3s]
  have := y2o hs j (i + 1) (acc ++ q1 s[i]) (by omega) (by rw [List.length_append]; have := y1u s[i]; omega)
  simp only [List.append_assoc] at this ⊢
  exact y6s (List.getElem?_eq_getElem hi) hs (by omega) this
theorem j6t {k n : Int} {s : Bytes} {x y : Int} (h : q1j k n s x y = true) : q0k Cx 63 [val k n s x y] (.str (q6p k n s x y)) := by
 refine q0c (q0l _) w2f ?_
 unfold q6p
 rcases q3o h with ⟨rfl, hn, rfl, rfl, rfl⟩ | ⟨rfl, hs, rfl, rfl, rfl⟩ | ⟨rfl, ⟨hx, hy⟩, rfl, rfl⟩
 ·simp only [q0a z8r rfl (x4b n hn), r63_0, y4k, tt, bb, bc, ↓bd, Nat.reduceEqDiff, Nat.reduceAdd, ↓reduceIte]
 ·have hp := y2o (s := s) (by omega) s.length 0 [34] (by omega) (by simp)
  simp only [q1a, r63_0.1, r63_0.2.1, tt, bb, ↓bd, Nat.reduceEqDiff, Nat.reduceAdd, ↓reduceIte, Int.reduceBEq, Int.reduceEq]
  refine hp _ _ ?_ ?_ ?_ ?_
  all_goals simp only [q0b, Nat.reduceEqDiff, ↓reduceIte]
  all_goals rfl
 ·rw [inR_iff] at hx hy
  have d1 := x4b x (by omega)
  have d2 := x4b y (by omega)
  have l1 := q7d x (by omega)
  have l2 := q7d y (by omega)
  have h1 : ((z7a x).length + 1 ≤ 9223372036854775807) = True := eq_true (by omega)
  have h2 : ((z7a x ++ [58]).length + (z7a y).length ≤ 9223372036854775807) = True := eq_true (by rw [List.length_append, List.length_singleton]; omega)
  simp only [h1, h2, q0a z8r rfl d1, q0a z8r rfl d2, r63_0, y4k, tt, bb, bc, ↓bd, Nat.reduceEqDiff, Nat.reduceAdd, ↓reduceIte, Int.reduceBEq, Int.reduceEq]
end Go.Proofs.YtckhmpcmlochpaaGreat.G
namespace Go.Proofs.YtckhmpcmlochpaaGreat.G
open Go.BX
def x9r (k n : Int) (s : Bytes) (x y : Int) (k' n' : Int) (s' : Bytes) (x' y' : Int) : Bool :=
 if k = k' then (if k = 0 then decide (n < n') else if k = 1 then (q4t s s' == -1) else (decide (x < x') || (x == x') && decide (y < y'))) else decide (k < k')
abbrev valB (k n : Int) (s : Bytes) (x y : Int) : Blk := .cells 26 5 [[.int .i64 k, .int .i64 n, .str s, .int .i64 x, .int .i64 y]]
def PL (s s' : Bytes) (r : AV) (i : Nat) : Prop :=
 ∀ (T : Nat → AV) (H : AHeap) (n x y n' x' y' : Int), T 2 = .ptr 0 5 0 0 → T 3 = .ptr 1 5 0 0 → T 5 = .int .i64 (i : Int) → H.at_ 0 = valB 1 n s x y → H.at_ 1 = valB 1 n' s' x' y' →
  Run Cx 86 T [] none [.inLoop c86_27, .inBlock 0, .code c86_43, .code c86_47] H (fun r0 H' => BX.freeze H' r0 = some r)
theorem y6t {s s' : Bytes} {i : Nat} (h : s.length ≤ i) : PL s s' (.bool (decide ((s.length : Int) < (s'.length : Int)))) i := by
 intro T H n x y n' x' y' t2 t3 t5 a0 a1
 rw [run_inLoop]
 have h0 : ((i : Int) < (s.length : Int)) = False := eq_false (by omega)
 simp only [t2, t3, t5, a0, a1, h0, xx, r86_0, j6d, tt, bb, bc, ↓bd, Nat.reduceEqDiff, ↓reduceIte]
theorem y6u {s s' : Bytes} {i : Nat} (h1 : i < s.length) (h : s'.length ≤ i) : PL s s' (.bool (decide ((s.length : Int) < (s'.length : Int)))) i := by
 intro T H n x y n' x' y' t2 t3 t5 a0 a1
 rw [run_inLoop]
 have h0 : ((i : Int) < (s.length : Int)) = True := eq_true (by omega)
 have h2 : ((i : Int) < (s'.length : Int)) = False := eq_false (by omega)
 simp only [t2, t3, t5, a0, a1, h0, h2, xx, r86_0, j6d, tt, bb, bc, ↓bd, Nat.reduceEqDiff, ↓reduceIte]
theorem y6v {s s' : Bytes} {i : Nat} {c d : UInt8} {r : AV} (hc : s[i]? = some c) (hd : s'[i]? = some d) (hi : i ≤ 100000) (hp : ¬ c = d ∧ r = .bool (decide (c < d)) ∨ c = d ∧ PL s s' r (i + 1)) : PL s s' r i := by
 intro T H n x y n' x' y' t2 t3 t5 a0 a1
 rw [run_inLoop]
 have l1 : i < s.length := (List.getElem?_eq_some_iff.mp hc).1
 have l2 : i < s'.length := (List.getElem?_eq_some_iff.mp hd).1
 have h0 : ((i : Int) < (s.length : Int)) = True := eq_true (by omega)
 have h2 : ((i : Int) < (s'.length : Int)) = True := eq_true (by omega)
 have hc0 : (0 : Int) ≤ (i : Int) := by omega
 have w1 : IntKind.i64.wrap ((i : Int) + 1) = ((i + 1 : Nat) : Int) := by rw [wr64 (by omega) (by omega)]; omega
 rcases hp with ⟨hne, rfl⟩ | ⟨rfl, hp⟩
 ·have e1 : ((c.toNat : Int) != (d.toNat : Int)) = true := by
   simp only [bne_iff_ne, ne_eq]
   intro e
   exact hne (UInt8.toNat_inj.mp (by omega))
  have e2 : decide ((c.toNat : Int) < (d.toNat : Int)) = decide (c < d) := by
   rw [Bool.eq_iff_iff, decide_eq_true_eq, decide_eq_true_eq, UInt8.lt_iff_toNat_lt]
   omega
  simp only [t2, t3, t5, a0, a1, h0, h2, hc0, hc, hd, e1, e2, q0n, Int.toNat_natCast, r86_0, j6d, tt, bb, bc, ↓bd, Nat.reduceEqDiff, ↓reduceIte]
 ·simp only [t2, t3, t5, a0, a1, h0, h2, hc0, hc, hd, w1, q0n, Int.toNat_natCast, xx, r86_0, tt, bb, bc, ↓bd, Nat.reduceEqDiff, ↓reduceIte]
  refine hp _ _ n x y n' x' y' ?_ ?_ ?_ ?_ ?_
  all_goals first | assumption | simp only [q0b, ↓reduceIte]
theorem y2p {s s' : Bytes} (hs : s.length ≤ 100000) : ∀ (j i : Nat), i + j = s.length → PL s s' (.bool (q4t (s.drop i) (s'.drop i) == -1)) i
 | 0, i, hij => by
  have := y6t (s := s) (s' := s') (i := i) (by omega)
  rw [List.drop_of_length_le (show s.length ≤ i by omega)]
  have e : (q4t [] (s'.drop i) == -1) = decide ((s.length : Int) < (s'.length : Int)) := by
   cases hd : s'.drop i with
   | nil =>
    have : s'.length ≤ i := by have := congrArg List.length hd; simp at this; omega
    have h2 : ¬ (s.length : Int) < (s'.length : Int) := by omega
    simp [q4t, h2]
   | cons c l =>
    have : i < s'.length := by have := congrArg List.length hd; simp at this; omega
    have h2 : (s.length : Int) < (s'.length : Int) := by omega
    simp [q4t, h2]
  rw [e]; exact this
 | j + 1, i, hij => by
  have hi : i < s.length := by omega
  have hd : s.drop i = s[i] :: s.drop (i + 1) := List.drop_eq_getElem_cons hi
  by_cases h2 : i < s'.length
  ·have hd' : s'.drop i = s'[i] :: s'.drop (i + 1) := List.drop_eq_getElem_cons h2
   refine y6v (List.getElem?_eq_getElem hi) (List.getElem?_eq_getElem h2) (by omega) ?_
   rw [hd, hd']
   by_cases e : s[i] = s'[i]
   ·right
    refine ⟨e, ?_⟩
    have := y2p (s' := s') hs j (i + 1) (by omega)
    unfold q4t
    rw [if_pos e]
    exact this
   ·left
    refine ⟨e, ?_⟩
    unfold q4t
    rw [if_neg e]
    by_cases hl : s[i] < s'[i]
    ·simp [hl]
    ·simp [hl]
  ·rw [hd, List.drop_of_length_le (show s'.length ≤ i by omega)]
   have := y6u (s := s) (s' := s') (i := i) hi (by omega)
   have h3 : ¬ (s.length : Int) < (s'.length : Int) := by omega
   simpa [q4t, h3] using this
theorem x5q {k n : Int} {s : Bytes} {x y : Int} {k' n' : Int} {s' : Bytes} {x' y' : Int} (h : q1j k n s x y = true) (h' : q1j k' n' s' x' y' = true) :
  q0k Cx 86 [val k n s x y, val k' n' s' x' y'] (.bool (x9r k n s x y k' n' s' x' y')) := by
 refine q0c (q0l _) w3r ?_
 unfold x9r
 by_cases hk : k = k'
 ·subst hk
  rcases q3o h with ⟨rfl, hn, rfl, rfl, rfl⟩ | ⟨rfl, hs, rfl, rfl, rfl⟩ | ⟨rfl, ⟨hx, hy⟩, rfl, rfl⟩
  ·simp only [r86_0, j6d, tt, bb, bc, ↓bd, Nat.reduceEqDiff, Nat.reduceAdd, ↓reduceIte, reduceCtorEq]
  ·have hp := y2p (s := s) (s' := s') (by omega) s.length 0 (by omega)
   simp only [List.drop_zero] at hp
   simp only [r86_0.1, r86_0.2.1, tt, bb, ↓bd, Nat.reduceEqDiff, Nat.reduceAdd, ↓reduceIte, reduceCtorEq, Int.reduceBEq, Int.reduceEq, Int.reduceNeg]
   refine hp _ _ 0 0 0 n' x' y' ?_ ?_ ?_ ?_ ?_
   all_goals simp only [q0b, Nat.reduceEqDiff, ↓reduceIte]
   all_goals rfl
  ·by_cases e1 : x < x'
   ·simp only [e1, Bool.true_or, r86_0, j6d, tt, bb, bc, ↓bd, Nat.reduceEqDiff, Nat.reduceAdd, ↓reduceIte, reduceCtorEq, Int.reduceBEq, Int.reduceEq]
   ·cases e2 : (x == x') <;>
    simp only [e1, e2, Bool.false_or, r86_0, j6d, tt, bb, bc, ↓bd, Nat.reduceEqDiff, Nat.reduceAdd, ↓reduceIte, reduceCtorEq, Int.reduceBEq, Int.reduceEq]
 ·have hk' : (k != k') = true := by simpa using hk
  simp only [hk, hk', r86_0, j6d, tt, bb, bc, ↓bd, Nat.reduceEqDiff, Nat.reduceAdd, ↓reduceIte, reduceCtorEq]
theorem j8x {k n : Int} {s : Bytes} {x y : Int} {k' n' : Int} {s' : Bytes} {x' y' : Int} (h : q1j k n s x y = true) (h' : q1j k' n' s' x' y' = true) :
  x9r k n s x y k' n' s' x' y' = (x0n k n s x y k' n' s' x' y' == -1) := by
 have c0 : ∀ a : Int, z8t a a = 0 := fun a => (cmpI_cmp.zero a a).mpr rfl
 have l0 : ∀ a : Bytes, q4t a a = 0 := fun a => (cmpL_cmp.zero a a).mpr rfl
 have cl : ∀ a b : Int, (z8t a b == -1) = decide (a < b) := by
  intro a b
  unfold z8t
  split
  ·simp [*]
  ·split <;> simp [*]
 unfold x9r x0n oc
 by_cases hk : k = k'
 ·subst hk
  rw [if_pos rfl, c0, if_pos rfl]
  rcases q3o h with ⟨rfl, hn, rfl, rfl, rfl⟩ | ⟨rfl, hs, rfl, rfl, rfl⟩ | ⟨rfl, ⟨hx, hy⟩, rfl, rfl⟩ <;>
  rcases q3o h' with ⟨e, hn', rfl, rfl, rfl⟩ | ⟨e, hs', rfl, rfl, rfl⟩ | ⟨e, ⟨hx', hy'⟩, rfl, rfl⟩ <;>
  first | (exfalso; omega) | skip
  ·simp only [if_true, c0, l0]
   rw [← cl]
   by_cases g : z8t n n' = 0 <;> simp [g]
  ·simp only [Int.reduceEq, if_true, if_false, c0]
   by_cases g : q4t s s' = 0 <;> simp [g]
  ·simp only [Int.reduceEq, if_true, if_false, c0, l0]
   rw [← cl, ← cl]
   by_cases g : z8t x x' = 0
   ·have : x = x' := (cmpI_cmp.zero x x').mp g
    subst this
    simp [c0]
   ·have : (x == x') = false := by
     simp only [beq_eq_false_iff_ne, ne_eq]
     intro e; exact g ((cmpI_cmp.zero x x').mpr e)
    simp [g, this]
 ·rw [if_neg hk, if_neg (fun e => hk ((cmpI_cmp.zero k k').mp e)), cl]
theorem z0h {k n : Int} {s : Bytes} {x y : Int} {k' n' : Int} {s' : Bytes} {x' y' : Int} (h : q1j k n s x y = true) (h' : q1j k' n' s' x' y' = true) :
  q0k Cx 59 [val k n s x y, val k' n' s' x' y'] (.int .i64 (x0n k n s x y k' n' s' x' y')) := by
 refine q0c (q0l _) w1y ?_
 have a1 := x5q h h'
 have a2 := x5q h' h
 rw [j8x h h'] at a1
 rw [j8x h' h] at a2
 have an : x0n k' n' s' x' y' k n s x y = - x0n k n s x y k' n' s' x' y' := ord_cmp.anti (k, n, s, x, y) (k', n', s', x', y')
 have rg : x0n k n s x y k' n' s' x' y' = -1 ∨ x0n k n s x y k' n' s' x' y' = 0 ∨ x0n k n s x y k' n' s' x' y' = 1 := ord_cmp.rng (k, n, s, x, y) (k', n', s', x', y')
 rw [an] at a2
 rcases rg with e | e | e <;> rw [e] at a1 a2 ⊢ <;>
 simp only [q0a y1j rfl a1, q0a y1j rfl a2, Int.neg_zero, r59_0, w9c, tt, bb, bc, ↓bd, Nat.reduceEqDiff, Nat.reduceAdd, ↓reduceIte, reduceCtorEq, Int.reduceBEq, Int.reduceNeg]
end Go.Proofs.YtckhmpcmlochpaaGreat.G
namespace Go.Proofs.YtckhmpcmlochpaaGreat.G.Gs
open Go.BX
theorem w6c {x : Int} (h : x * x ≤ 281474976710656) : inR x = true := by
 rw [inR_iff]
 constructor
 ·rcases Int.lt_or_le x (-16777216) with h1 | h1
  ·have := Int.mul_nonneg (a := -16777217 - x) (b := 16777217 - x) (by omega) (by omega)
   have e : (-16777217 - x) * (16777217 - x) = x * x - 281475010265089 := by grind
   omega
  ·exact h1
 ·rcases Int.lt_or_le 16777216 x with h1 | h1
  ·have := Int.mul_nonneg (a := x - 16777217) (b := x + 16777217) (by omega) (by omega)
   have e : (x - 16777217) * (x + 16777217) = x * x - 281475010265089 := by grind
   omega
  ·exact h1
theorem w6d {x y : Int} (hx : inR x = true) (hy : inR y = true) : 0 ≤ nrm x y ∧ nrm x y ≤ 562949953421312 := by
 have hN := q8c hx hy
 unfold nrm; omega
theorem j4f (x : Int) : 0 ≤ x * x := by have := x4l x; omega
theorem y6w {a b c d : Int} (hc : inR c = true) (hd : inR d = true) (h0 : ¬ (c = 0 ∧ d = 0)) : inR (rX a b c d) = true ∧ inR (rY a b c d) = true := by
 have h := x5b (a := a) (b := b) h0
 have hN := q8c hc hd
 have h1 := j4f (rX a b c d)
 have h2 := j4f (rY a b c d)
 unfold nrm at h
 exact ⟨w6c (by omega), w6c (by omega)⟩
theorem refRight_ok (x y : Int) : q0k Cx 33 [spot x y] (.bool (inR x && inR y)) := by
 refine q0c (q0l _) y1a ?_
 by_cases h1 : -16777216 ≤ x <;> by_cases h2 : x ≤ 16777216 <;> by_cases h3 : -16777216 ≤ y <;>
 simp only [h1, h2, h3, inR, r33_0, w0p, tt, bb, bc, ↓bd, Nat.reduceEqDiff, Nat.reduceAdd, ↓reduceIte, Int.reduceNeg]
theorem refNorm_ok (x y : Int) (hx : inR x = true) (hy : inR y = true) : q0k Cx 62 [spot x y] (.int .i64 (nrm x y)) := by
 refine q0c (q0l _) w2e ?_
 obtain ⟨h1, h2, h3, h4⟩ := q8c hx hy
 have w1 : IntKind.i64.wrap (x * x) = x * x := wr64 (by omega) (by omega)
 have w2 : IntKind.i64.wrap (y * y) = y * y := wr64 (by omega) (by omega)
 have w3 : IntKind.i64.wrap (x * x + y * y) = x * x + y * y := wr64 (by omega) (by omega)
 simp only [w1, w2, w3, nrm, r62_0, w9d, tt, bb, bc, ↓bd, Nat.reduceEqDiff, Nat.reduceAdd, ↓reduceIte]
def inS (n : Int) : Prop := -16777217 ≤ n ∧ n ≤ 16777217
theorem j4g {n : Int} (h : inR n = true) : inS n := by rw [inR_iff] at h; unfold inS; omega
theorem refMul_ok (a b c d : Int) (ha : inS a) (hb : inS b) (hc : inS c) (hd : inS d) : q0k Cx 83 [spot a b, spot c d] (spot (a * c - b * d) (a * d + b * c)) := by
 refine q0c (q0l _) w3o ?_
 have m1 := z3e ha hc
 have m2 := z3e hb hd
 have m3 := z3e ha hd
 have m4 := z3e hb hc
 have w1 : IntKind.i64.wrap (a * c) = a * c := wr64 (by omega) (by omega)
 have w2 : IntKind.i64.wrap (b * d) = b * d := wr64 (by omega) (by omega)
 have w3 : IntKind.i64.wrap (a * c - b * d) = a * c - b * d := wr64 (by omega) (by omega)
 have w4 : IntKind.i64.wrap (a * d) = a * d := wr64 (by omega) (by omega)
 have w5 : IntKind.i64.wrap (b * c) = b * c := wr64 (by omega) (by omega)
 have w6 : IntKind.i64.wrap (a * d + b * c) = a * d + b * c := wr64 (by omega) (by omega)
 simp only [w1, w2, w3, w4, w5, w6, r83_0, w9j, tt, bb, bc, ↓bd, Nat.reduceEqDiff, Nat.reduceAdd, Nat.reduceLeDiff, ↓reduceIte, reduceCtorEq]
theorem z1m (n d : Int) (hn : -1125899906842624 ≤ n ∧ n ≤ 1125899906842624) (hd : 0 < d ∧ d ≤ 1125899906842624) : q0k Cx 107 [.int .i64 n, .int .i64 d] (.int .i64 (nr n d)) := by
 refine q0c (q0l _) y4x ?_
 have w1 : IntKind.i64.wrap (2 * n) = 2 * n := wr64 (by omega) (by omega)
 have w2 : IntKind.i64.wrap (2 * n + d) = 2 * n + d := wr64 (by omega) (by omega)
 have w3 : IntKind.i64.wrap (2 * d) = 2 * d := wr64 (by omega) (by omega)
 have h0 : (2 * d = 0) = False := by simp; omega
 have hf := z8y (a := 2 * n + d) (b := 2 * d) (by omega)
 have e := Int.tmod_add_mul_tdiv (2 * n + d) (2 * d)
 have hb : -4503599627370496 ≤ (2 * n + d).tdiv (2 * d) ∧ (2 * n + d).tdiv (2 * d) - 1 ≤ 4503599627370496 := by
  have u1 : (2 * n + d) / (2 * d) ≤ 4503599627370496 := Int.ediv_le_of_le_mul (by omega) (by omega)
  have u2 : -4503599627370496 ≤ (2 * n + d) / (2 * d) := Int.le_ediv_of_mul_le (by omega) (by omega)
  rw [hf] at u1 u2
  split at u1 <;> simp_all <;> omega
 have t1 := Int.tmod_lt_of_pos (2 * n + d) (b := 2 * d) (by omega)
 have t2 := Int.tmod_lt_of_pos (-(2 * n + d)) (b := 2 * d) (by omega)
 rw [Int.neg_tmod] at t2
 have e2 : (2 * n + d).tdiv (2 * d) * 2 * d = 2 * d * (2 * n + d).tdiv (2 * d) := by grind
 generalize hq : (2 * n + d).tdiv (2 * d) = q at *
 have w4 : IntKind.i64.wrap q = q := wr64 (by omega) (by omega)
 have w5 : IntKind.i64.wrap (q - 1) = q - 1 := wr64 (by omega) (by omega)
 have w6 : IntKind.i64.wrap (q * 2) = q * 2 := wr64 (by omega) (by omega)
 have w7 : IntKind.i64.wrap (q * 2 * d) = q * 2 * d := by rw [e2]; exact wr64 (by omega) (by omega)
 have hh : (2 * n + d < q * 2 * d) = ((2 * n + d).tmod (2 * d) < 0) := by rw [e2]; exact propext ⟨fun _ => by omega, fun _ => by omega⟩
 by_cases h : (2 * n + d).tmod (2 * d) < 0
 ·simp only [h, hq, hh, w1, w2, w3, w4, w5, w6, w7, h0, nr, hf, r107_0, y1p, tt, bb, bc, ↓bd, Nat.reduceEqDiff, ↓reduceIte, reduceCtorEq]
 ·simp only [h, hq, hh, w1, w2, w3, w4, w6, w7, h0, nr, hf, r107_0, y1p, tt, bb, bc, ↓bd, Nat.reduceEqDiff, ↓reduceIte, reduceCtorEq]
theorem refDiv_ok (a b c d : Int) (ha : inR a = true) (hb : inR b = true) (hc : inR c = true) (hd : inR d = true) (h0 : ¬ (c = 0 ∧ d = 0)) :
  q0k Cx 84 [spot a b, spot c d] (.tuple [spot (qX a b c d) (qY a b c d), spot (rX a b c d) (rY a b c d)]) := by
 refine q0c (q0l _) w3p ?_
 have hp := j6m h0
 have hNm := w6d hc hd
 obtain ⟨z1, z2, z3, z4⟩ := x4m (c := c) (d := d) ha hb
 have ha' := inR_iff.mp ha
 have hb' := inR_iff.mp hb
 have hc' := inR_iff.mp hc
 have hd' := inR_iff.mp hd
 have b1 := z3e ha' hc'
 have b2 := z3e hb' (b := 0 - d) (M := 16777216) (by omega)
 have b3 := z3e ha' (b := 0 - d) (M := 16777216) (by omega)
 have b4 := z3e hb' hc'
 have q1 : -16777216 ≤ qX a b c d ∧ qX a b c d ≤ 16777217 := z4e hp ⟨z1, z2⟩
 have q2 : -16777216 ≤ qY a b c d ∧ qY a b c d ≤ 16777217 := z4e hp ⟨z3, z4⟩
 have w1 : IntKind.i64.wrap (0 - d) = 0 - d := wr64 (by omega) (by omega)
 have hr := y6w (a := a) (b := b) hc hd h0
 have r1 := inR_iff.mp hr.1
 have r2 := inR_iff.mp hr.2
 have w2 : IntKind.i64.wrap (a - (qX a b c d * c - qY a b c d * d)) = rX a b c d := by
  show IntKind.i64.wrap (rX a b c d) = _
  exact wr64 (by omega) (by omega)
 have w3 : IntKind.i64.wrap (b - (qX a b c d * d + qY a b c d * c)) = rY a b c d := by
  show IntKind.i64.wrap (rY a b c d) = _
  exact wr64 (by omega) (by omega)
 have m1 := refMul_ok a b c (0 - d) (j4g ha) (j4g hb) (j4g hc) (by unfold inS; omega)
 have m2 := refMul_ok (qX a b c d) (qY a b c d) c d (by unfold inS; omega) (by unfold inS; omega) (j4g hc) (j4g hd)
 have e1 : q0k Cx 107 [.int .i64 (a * c - b * (0 - d)), .int .i64 (nrm c d)] (.int .i64 (qX a b c d)) := z1m _ _ (by omega) (by omega)
 have e2 : q0k Cx 107 [.int .i64 (a * (0 - d) + b * c), .int .i64 (nrm c d)] (.int .i64 (qY a b c d)) := z1m _ _ (by omega) (by omega)
 simp only [w1, w2, w3, q0a x3n rfl m1, q0a x3n rfl m2, q0a y1e rfl (refNorm_ok c d hc hd), q0a x3s rfl e1, q0a x3s rfl e2, r84_0, w9k, tt, bb, bc, ↓bd, Nat.reduceEqDiff, Nat.reduceAdd, Nat.reduceLeDiff, ↓reduceIte, reduceCtorEq, Nat.reduceBneDiff]
end Go.Proofs.YtckhmpcmlochpaaGreat.G.Gs
namespace Go.Proofs.YtckhmpcmlochpaaGreat.G
open Go.BX
theorem q1s (x : Int) : q0k Cx 37 [.int .i64 x] (q1o (nV x)) := by
 refine q0c (q0l _) w0w ?_
 simp only [r37_0, w8z, tt, bb, bc, ↓bd, Nat.reduceEqDiff, Nat.reduceAdd, Nat.reduceLeDiff, ↓reduceIte, reduceCtorEq]
theorem q6s (s : Bytes) : q0k Cx 36 [.str s] (q1o (tV s)) := by
 refine q0c (q0l _) w0v ?_
 simp only [r36_0, w8y, tt, bb, bc, ↓bd, Nat.reduceEqDiff, Nat.reduceAdd, Nat.reduceLeDiff, ↓reduceIte, reduceCtorEq]
theorem z0i (b : Bool) : q0k Cx 60 [.bool b] (q1o (x1a b)) := by
 refine q0c (q0l _) w1z ?_
 cases b with
 | true =>
  simp only [q0a q3q rfl (q1s 1), r60_0, w2a, tt, bb, bc, ↓bd, Nat.reduceEqDiff, Nat.reduceAdd, ↓reduceIte, reduceCtorEq]
  rfl
 | false =>
  simp only [q0a q3q rfl (q1s 0), Bool.false_eq_true, r60_0, w2a, tt, bb, bc, ↓bd, Nat.reduceEqDiff, Nat.reduceAdd, ↓reduceIte, reduceCtorEq]
  rfl
theorem y6x (a : Int) (h : -9007199254740992 ≤ a ∧ a ≤ 9007199254740992) : q0k Cx 85 [.int .i64 a] (.int .i64 (a.natAbs : Int)) := by
 refine q0c (q0l _) w3q ?_
 have w1 : IntKind.i64.wrap (0 - a) = -a := by rw [wr64 (by omega) (by omega)]; omega
 have hm : y0m .i64 a [.int .i64 (-a)] = some (a.natAbs : Int) := by
  rw [maxE]
  congr 1
  omega
 simp only [w1, hm, Option.map_some, q0i, r85_0, w9l, tt, bb, bc, ↓bd, Nat.reduceEqDiff, ↓reduceIte, reduceCtorEq]
section
variable {fn : FuncId} {T : Nat → AV} {ds : List ADef} {ro : Option Nat} {k : List AItem} {Q : AV → AHeap → Prop} {dst : Option Nat} {os : List AO}
theorem q1x {M : Mch} {n : Nat} {A : Nat → Blk} {s : St} {v : Vl} (h : MR M n A s) (he : s.err = 0) (hk : ∀ n' A', MR M n' A' (q1v (q9g v) s).2 → Keep M.b n A A' → n ≤ n' → q0d Cx fn (putA T dst (q1o (q1v (q9g v) s).1)) ds ro os k ⟨n', A'⟩ Q) :
  q0g Cx fn T ds ro 61 [.ptr M.b 22 0 0, q1o v] dst os k ⟨n, A⟩ Q := by
 refine q0s w2d (q0l _) w2b ?_
 have r := refRight_ok v.k v.n v.s v.x v.y
 have eo : q1j v.k v.n v.s v.x v.y = okV v := rfl
 rw [eo] at r
 have h2 := (h.up1 (.cells 26 5 [[.int .i64 v.k, .int .i64 v.n, .str v.s, .int .i64 v.x, .int .i64 v.y]])).up1 (.cells 26 5 [[.int .i64 0, .int .i64 0, .str [], .int .i64 0, .int .i64 0]])
 have kp : Keep M.b n A (upd (upd A n (.cells 26 5 [[.int .i64 v.k, .int .i64 v.n, .str v.s, .int .i64 v.x, .int .i64 v.y]])) (n + 1) (.cells 26 5 [[.int .i64 0, .int .i64 0, .str [], .int .i64 0, .int .i64 0]])) := ((Keep.refl _ _ _).up1 (Nat.le_refl _) _).up1 (by omega) _
 have hb := h.lt
 have e1 : (n = n + 1) = False := eq_false (by omega)
 cases ho : okV v with
 | true =>
  rw [ho] at r
  have ec : q1v (q9g v) s = (v, s) := by unfold q9g; rw [if_pos ho]; rfl
  rw [ec] at hk
  simp only [e1, q0a q3p rfl r, r61_0, w2c, tt, bb, bc, ↓bd, Nat.reduceEqDiff, Nat.reduceAdd, ↓reduceIte]
  exact hk (n + 1 + 1) _ (h2.upo (c := n + 1) (by omega) (by rw [q0b, if_pos rfl]; exact q3j) _) (kp.up1 (by omega) _) (by omega)
 | false =>
  rw [ho] at r
  have ec : q1v (q9g v) s = (zV, q1f 14 s) := by unfold q9g q1f; rw [if_neg (by simp [ho]), if_pos he]; rfl
  rw [ec] at hk
  simp only [e1, q0a q3p rfl r, r61_0, tt, bb, bc, ↓bd, Nat.reduceEqDiff, Nat.reduceAdd, ↓reduceIte, reduceCtorEq]
  refine q0q h2 ?_
  intro n' A' hm hkp hn
  have hc := hkp.at (c := n + 1) (by omega) (by omega) (by rw [q0b, if_pos rfl]) (by decide)
  simp only [hc, w2c, tt, bb, bc, ↓bd, Nat.reduceEqDiff, Nat.reduceAdd, ↓reduceIte]
  exact hk n' _ (hm.upo (c := n + 1) (by omega) (by rw [hc]; exact q3j) _) ((kp.trans (by omega) hkp).up1 (by omega) _) (by omega)
def q1p (ks : List Int) (vs : List Vl) : Bool := (ks.zip vs).all fun p => p.2.k == p.1
structure IS (M : Mch) (j n : Nat) (A : Nat → Blk) (ks : List Int) : Prop where
 lt : j < n
 ne : j ≠ M.b
 cell : A j = .cells 3 1 (ks.map fun x => [.int .i64 x])
theorem x5r {M : Mch} {s : St} {g j n0 : Nat} {A0 : Nat → Blk} {ks : List Int} {vs : List Vl} {Q : AV → AHeap → Prop} (hl : ks.length ≤ vs.length) (hvl : vs.length ≤ 3)
  (hQ : ∀ n A, MR M n A (if q1p ks vs then s else q1f 13 s) → Keep M.b n0 A0 A → n0 ≤ n → Q (.bool (q1p ks vs)) ⟨n, A⟩) :
  ∀ (m i : Nat) (T : Nat → AV) (n : Nat) (A : Nat → Blk), i + m = ks.length → q1p ks vs = q1p (ks.drop i) (vs.drop i) → MR M n A s → AS M g n A vs → IS M j n A ks → Keep M.b n0 A0 A → n0 ≤ n → T 0 = .ptr M.b 22 0 0 → T 1 = .slc g 5 0 vs.length → T 2 = .slc j 1 0 ks.length → T 7 = .int .i64 (i : Int) →
   Run Cx 57 T [] none [.inLoop c57_7, .inBlock 0, .code c57_25] ⟨n, A⟩ Q
 | 0, i, T, n, A, hij, hkm, hm, ha, hi2, hkp, hn, t0, t1, t2, t7 => by
  rw [run_inLoop]
  have c0 : ¬ (i : Int) < (ks.length : Int) := by omega
  have e : q1p ks vs = true := by rw [hkm, List.drop_of_length_le (show ks.length ≤ i by omega)]; rfl
  rw [e, if_pos rfl] at hQ
  simp only [t2, t7, c0, i64, xx, r57_0, w1u, tt, bb, bc, ↓bd, Nat.reduceEqDiff, ↓reduceIte]
  exact hQ n A hm hkp hn
 | m + 1, i, T, n, A, hij, hkm, hm, ha, hi2, hkp, hn, t0, t1, t2, t7 => by
  rw [run_inLoop]
  have hi : i < ks.length := by omega
  have hiv : i < vs.length := by omega
  have c0 : (i : Int) < (ks.length : Int) := by omega
  have c1 : (i : Int) < (vs.length : Int) := by omega
  have p0 : (0 : Int) ≤ (i : Int) := by omega
  have g0 := q2x (List.getElem?_eq_getElem hiv)
  have g1 : (ks.map fun x => [AV.int .i64 x])[i]? = some [.int .i64 ks[i]] := by rw [List.getElem?_map, List.getElem?_eq_getElem hi]; rfl
  have hg := ha.cell
  have hj := hi2.cell
  have w1 : IntKind.i64.wrap ((i : Int) + 1) = ((i + 1 : Nat) : Int) := by rw [wr64 (by omega) (by omega)]; omega
  have j0v : q1p (ks.drop i) (vs.drop i) = (((vs[i]).k == ks[i]) && q1p (ks.drop (i + 1)) (vs.drop (i + 1))) := by
   rw [List.drop_eq_getElem_cons hi, List.drop_eq_getElem_cons hiv]; rfl
  cases hc : ((vs[i]).k == ks[i]) with
  | true =>
   rw [hc, Bool.true_and] at j0v
   have hbn : ((vs[i]).k != ks[i]) = false := by simp only [bne, hc, Bool.not_true]
   simp only [t1, t2, t7, c0, c1, p0, g0, g1, hg, hj, w1, hbn, i64, Int.toNat_natCast, xx, r57_0.2.1, tt, bb, bc, ↓bd, Nat.reduceEqDiff, ↓reduceIte]
   refine x5r hl hvl hQ m (i + 1) _ _ _ (by omega) (hkm.trans j0v) hm ha hi2 hkp hn ?_ ?_ ?_ ?_
   all_goals simp only [q0b, t0, t1, t2, Nat.reduceEqDiff, ↓reduceIte]
  | false =>
   rw [hc, Bool.false_and] at j0v
   have hbn : ((vs[i]).k != ks[i]) = true := by simp only [bne, hc, Bool.not_false]
   rw [hkm.trans j0v] at hQ
   simp only [t0, t1, t2, t7, c0, c1, p0, g0, g1, hg, hj, hbn, i64, Int.toNat_natCast, r57_0, tt, bb, bc, ↓bd, Nat.reduceEqDiff, ↓reduceIte, reduceCtorEq]
   refine q0q hm ?_
   intro n' A' hm' q1y hn'
   simp only [w1u, tt, bb, bc, ↓bd, ↓reduceIte]
   exact hQ n' A' hm' (hkp.trans (by omega) q1y) (by omega)
theorem q1w {M : Mch} {n g j a b : Nat} {A : Nat → Blk} {s : St} {ks : List Int} {vs : List Vl} (h : MR M n A s) (ha : AS M g n A vs) (hi : IS M j n A ks) (hl : ks.length ≤ vs.length) (hvl : vs.length ≤ 3) (ea : a = vs.length) (eb : b = ks.length)
  (hk : ∀ n' A', MR M n' A' (if q1p ks vs then s else q1f 13 s) → Keep M.b n A A' → n ≤ n' → q0d Cx fn (putA T dst (.bool (q1p ks vs))) ds ro os k ⟨n', A'⟩ Q) :
  q0g Cx fn T ds ro 57 [.ptr M.b 22 0 0, .slc g 5 0 a, .slc j 1 0 b] dst os k ⟨n, A⟩ Q := by
 subst ea eb
 refine q0s w1v (q0l _) w1t ?_
 simp only [r57_0.1, tt, bb, ↓bd]
 refine x5r (M := M) (s := s) (g := g) (j := j) (n0 := n) (A0 := A) hl hvl ?_ ks.length 0 _ n A (by omega) rfl h ha hi (Keep.refl _ _ _) (Nat.le_refl _) ?_ ?_ ?_ ?_
 ·intro n' A' h1 h2 h3
  exact hk n' A' h1 h2 h3
 all_goals simp only [q0b, q1g, qez, Nat.reduceEqDiff, ↓reduceIte]
 all_goals rfl
end
theorem j4h {a b : Int} (h : a.tmod b ≠ 0) : decide (a.tmod b < 0) = decide (a < 0) := by
 rw [decide_eq_decide]
 by_cases ha : 0 ≤ a
 ·have := Int.tmod_nonneg b ha
  omega
 ·have h1 : 0 ≤ (-a).tmod b := Int.tmod_nonneg b (by omega)
  rw [Int.neg_tmod] at h1
  omega
theorem y6y (a b : Int) (h0 : a ≠ 0) : (decide (((9007199254740992 / a.natAbs : Nat) : Int) < b) || decide (b < -((9007199254740992 / a.natAbs : Nat) : Int))) = ovM a b := by
 have h1 : ovM a b = decide (9007199254740992 / a.natAbs < b.natAbs) := by
  unfold ovM
  rw [decide_eq_decide]
  exact (Nat.div_lt_iff_lt_mul (x := 9007199254740992) (y := b.natAbs) (k := a.natAbs) (by omega)).symm
 rw [h1, ← Bool.decide_or, decide_eq_decide]
 omega
section
variable {fn : FuncId} {T : Nat → AV} {ds : List ADef} {ro : Option Nat} {k : List AItem} {Q : AV → AHeap → Prop} {dst : Option Nat} {os : List AO}
theorem q3l {M : Mch} {n : Nat} {A : Nat → Blk} {s : St} {op a b : Int} (h : MR M n A s) (he : s.err = 0) (ra : -9007199254740992 ≤ a ∧ a ≤ 9007199254740992) (rb : -9007199254740992 ≤ b ∧ b ≤ 9007199254740992) (hop : op = 2 ∨ op = 3 ∨ op = 4 ∨ op = 5 ∨ op = 6)
  (hk : ∀ n' A', MR M n' A' (q1v (z6p op a b) s).2 → Keep M.b n A A' → n ≤ n' → q0d Cx fn (putA T dst (q1o (q1v (z6p op a b) s).1)) ds ro os k ⟨n', A'⟩ Q) :
  q0g Cx fn T ds ro 58 [.ptr M.b 22 0 0, .str (q0e op), .int .i64 a, .int .i64 b] dst os k ⟨n, A⟩ Q := by
 refine q0s w1x (q0l _) w1w ?_
 have hb := h.lt
 have h2 := h.up1 zB
 have fin : ∀ (n' : Nat) (A' : Nat → Blk), Keep M.b (n + 1) (upd A n zB) A' → A' n = .cells 26 5 [[.int .i64 0, .int .i64 0, .str [], .int .i64 0, .int .i64 0]] := fun n' A' hkp => q0f hb hkp
 have bad : ∀ {e : Int}, z6p op a b = .bad e → ∀ n' A', MR M n' A' (q1f e s) → Keep M.b (n + 1) (upd A n zB) A' → n + 1 ≤ n' → ∀ X, q0d Cx fn (putA T dst (q1o zV)) ds ro os k ⟨n', upd A' n X⟩ Q := by
  intro e hr n' A' hm hkp hn X
  rw [hr, q0m he] at hk
  exact q0t hb hm hkp hn hk
 have chk : ∀ {v : Vl}, z6p op a b = q9g v → ∀ n' A', MR M n' A' (q1v (q9g v) s).2 → Keep M.b (n + 1) (upd A n zB) A' → n + 1 ≤ n' → ∀ X, q0d Cx fn (putA T dst (q1o (q1v (q9g v) s).1)) ds ro os k ⟨n', upd A' n X⟩ Q := by
  intro v hr n' A' hm hkp hn X
  rw [hr] at hk
  exact q0t hb hm hkp hn hk
 have d := y2d (b := b) ra
 rcases hop with rfl | rfl | rfl | rfl | rfl
 ·have q1 : (q0e 2 == [97, 100, 100]) = true := rfl
  have w1 : IntKind.i64.wrap (a + b) = a + b := wr64 (by omega) (by omega)
  simp only [q1, w1, q0a q3q rfl (q1s (a + b)), r58_0, tt, bb, bc, ↓bd, Nat.reduceEqDiff, ↓reduceIte, reduceCtorEq]
  refine q1x h2 he ?_
  intro n' A' hm hkp hn
  simp only [fin n' A' hkp, z1d, tt, bb, bc, ↓bd, Nat.reduceEqDiff, Nat.reduceAdd, ↓reduceIte]
  exact chk rfl n' A' hm hkp hn _
 ·have q1 : (q0e 3 == [97, 100, 100]) = false := rfl
  have q2 : (q0e 3 == [115, 117, 98]) = true := rfl
  have w1 : IntKind.i64.wrap (a - b) = a - b := wr64 (by omega) (by omega)
  simp only [q1, q2, w1, q0a q3q rfl (q1s (a - b)), r58_0, tt, bb, bc, ↓bd, Nat.reduceEqDiff, ↓reduceIte, reduceCtorEq]
  refine q1x h2 he ?_
  intro n' A' hm hkp hn
  simp only [fin n' A' hkp, z1d, tt, bb, bc, ↓bd, Nat.reduceEqDiff, Nat.reduceAdd, ↓reduceIte]
  exact chk rfl n' A' hm hkp hn _
 ·have q1 : (q0e 4 == [97, 100, 100]) = false := rfl
  have q2 : (q0e 4 == [115, 117, 98]) = false := rfl
  have q3 : (q0e 4 == [109, 117, 108]) = true := rfl
  have eN : z6p 4 a b = q9g (nV (a * b)) := rfl
  by_cases h0 : a = 0
  ·have z : (a != 0) = false := by simp [h0]
   have w1 : IntKind.i64.wrap (a * b) = a * b := by rw [h0, Int.zero_mul]; rfl
   simp only [q1, q2, q3, z, w1, q0a q3q rfl (q1s (a * b)), r58_0, tt, bb, bc, ↓bd, Nat.reduceEqDiff, ↓reduceIte, reduceCtorEq]
   refine q1x h2 he ?_
   intro n' A' hm hkp hn
   simp only [fin n' A' hkp, z1d, tt, bb, bc, ↓bd, Nat.reduceEqDiff, Nat.reduceAdd, ↓reduceIte]
   exact chk eN n' A' hm hkp hn _
  ·have z : (a != 0) = true := by simpa using h0
   have z0 : ((a.natAbs : Int) = 0) = False := eq_false (by omega)
   have t1 : (9007199254740992 : Int).tdiv (a.natAbs : Int) = ((9007199254740992 / a.natAbs : Nat) : Int) := by
    rw [Int.tdiv_eq_ediv_of_nonneg (by decide)]; rfl
   have le : 9007199254740992 / a.natAbs ≤ 9007199254740992 := Nat.div_le_self _ _
   have cmp := y6y a b h0
   generalize hq : 9007199254740992 / a.natAbs = q at t1 le cmp
   have w3 : IntKind.i64.wrap (q : Int) = (q : Int) := wr64 (by omega) (by omega)
   have w4 : IntKind.i64.wrap (0 - (q : Int)) = -(q : Int) := by rw [wr64 (by omega) (by omega)]; omega
   have w7l := y6x a ra
   have badm : ovM a b = true → z6p 4 a b = .bad 14 := fun ho => by rw [eN]; unfold q9g; rw [if_neg (by rw [y2f ho]; decide)]
   by_cases c1 : (q : Int) < b
   ·have ho : ovM a b = true := by rw [← cmp]; simp [c1]
    simp only [q1, q2, q3, z, z0, t1, w3, c1, q0a x3o rfl w7l, r58_0, tt, bb, bc, ↓bd, Nat.reduceEqDiff, ↓reduceIte, reduceCtorEq]
    refine q0q h2 ?_
    intro n' A' hm hkp hn
    simp only [fin n' A' hkp, z1d, tt, bb, bc, ↓bd, Nat.reduceEqDiff, Nat.reduceAdd, ↓reduceIte]
    exact bad (badm ho) n' A' hm hkp hn _
   ·by_cases c2 : b < -(q : Int)
    ·have ho : ovM a b = true := by rw [← cmp]; simp [c2]
     simp only [q1, q2, q3, z, z0, t1, w3, w4, c1, c2, q0a x3o rfl w7l, r58_0, tt, bb, bc, ↓bd, Nat.reduceEqDiff, ↓reduceIte, reduceCtorEq]
     refine q0q h2 ?_
     intro n' A' hm hkp hn
     simp only [fin n' A' hkp, z1d, tt, bb, bc, ↓bd, Nat.reduceEqDiff, Nat.reduceAdd, ↓reduceIte]
     exact bad (badm ho) n' A' hm hkp hn _
    ·have ho : ovM a b = false := by rw [← cmp]; simp [c1, c2]
     have mb := w5r ho
     have w1 : IntKind.i64.wrap (a * b) = a * b := wr64 (by omega) (by omega)
     simp only [q1, q2, q3, z, z0, t1, w1, w3, w4, c1, c2, q0a x3o rfl w7l, q0a q3q rfl (q1s (a * b)), r58_0, tt, bb, bc, ↓bd, Nat.reduceEqDiff, ↓reduceIte, reduceCtorEq]
     refine q1x h2 he ?_
     intro n' A' hm hkp hn
     simp only [fin n' A' hkp, z1d, tt, bb, bc, ↓bd, Nat.reduceEqDiff, Nat.reduceAdd, ↓reduceIte]
     exact chk eN n' A' hm hkp hn _
 ·have q1 : (q0e 5 == [97, 100, 100]) = false := rfl
  have q2 : (q0e 5 == [115, 117, 98]) = false := rfl
  have q3 : (q0e 5 == [109, 117, 108]) = false := rfl
  have q4 : (q0e 5 == [109, 111, 100]) = false := rfl
  have eN : z6p 5 a b = if b = 0 then .bad 16 else q9g (nV (q3s a b).1) := rfl
  by_cases hb0 : b = 0
  ·rw [if_pos hb0] at eN
   have z0 : (b == 0) = true := by simp [hb0]
   simp only [q1, q2, q3, z0, xx, r58_0, tt, bb, bc, ↓bd, Nat.reduceEqDiff, ↓reduceIte, reduceCtorEq]
   refine q0q h2 ?_
   intro n' A' hm hkp hn
   simp only [fin n' A' hkp, z1d, tt, bb, bc, ↓bd, Nat.reduceEqDiff, Nat.reduceAdd, ↓reduceIte]
   exact bad eN n' A' hm hkp hn _
  ·rw [if_neg hb0] at eN
   have z0 : (b == 0) = false := by simp [hb0]
   have z1 : (b = 0) = False := eq_false hb0
   have w1 : IntKind.i64.wrap (a.tdiv b) = a.tdiv b := wr64 (by omega) (by omega)
   have w2 : IntKind.i64.wrap (a.tdiv b - 1) = a.tdiv b - 1 := wr64 (by omega) (by omega)
   cases h1 : (a.tmod b != 0) with
   | false =>
    have ed : (q3s a b).1 = a.tdiv b := by unfold q3s; rw [h1]; rfl
    rw [ed] at eN
    simp only [q1, q2, q3, q4, z0, z1, w1, h1, q0a q3q rfl (q1s (a.tdiv b)), xx, r58_0, tt, bb, bc, ↓bd, Nat.reduceEqDiff, ↓reduceIte, reduceCtorEq]
    refine q1x h2 he ?_
    intro n' A' hm hkp hn
    simp only [fin n' A' hkp, z1d, tt, bb, bc, ↓bd, Nat.reduceEqDiff, Nat.reduceAdd, ↓reduceIte]
    exact chk eN n' A' hm hkp hn _
   | true =>
    have hs := j4h (a := a) (b := b) (by simpa using h1)
    have hq : ∀ x y : Bool, (!(x == y)) = (x != y) := fun _ _ => rfl
    cases h3 : (decide (a < 0) != decide (b < 0)) with
    | false =>
     have ed : (q3s a b).1 = a.tdiv b := by unfold q3s; rw [h1, hs, h3]; rfl
     rw [ed] at eN
     simp only [q1, q2, q3, q4, z0, z1, w1, h1, hq, h3, q0a q3q rfl (q1s (a.tdiv b)), xx, r58_0, tt, bb, bc, ↓bd, Nat.reduceEqDiff, ↓reduceIte, reduceCtorEq]
     refine q1x h2 he ?_
     intro n' A' hm hkp hn
     simp only [fin n' A' hkp, z1d, tt, bb, bc, ↓bd, Nat.reduceEqDiff, Nat.reduceAdd, ↓reduceIte]
     exact chk eN n' A' hm hkp hn _
    | true =>
     have ed : (q3s a b).1 = a.tdiv b - 1 := by unfold q3s; rw [h1, hs, h3]; rfl
     rw [ed] at eN
     simp only [q1, q2, q3, q4, z0, z1, w1, w2, h1, hq, h3, q0a q3q rfl (q1s (a.tdiv b - 1)), xx, r58_0, tt, bb, bc, ↓bd, Nat.reduceEqDiff, ↓reduceIte, reduceCtorEq]
     refine q1x h2 he ?_
     intro n' A' hm hkp hn
     simp only [fin n' A' hkp, z1d, tt, bb, bc, ↓bd, Nat.reduceEqDiff, Nat.reduceAdd, ↓reduceIte]
     exact chk eN n' A' hm hkp hn _
 ·have q1 : (q0e 6 == [97, 100, 100]) = false := rfl
  have q2 : (q0e 6 == [115, 117, 98]) = false := rfl
  have q3 : (q0e 6 == [109, 117, 108]) = false := rfl
  have q4 : (q0e 6 == [109, 111, 100]) = true := rfl
  have eN : z6p 6 a b = if b = 0 then .bad 16 else .val (nV (q3s a b).2) := rfl
  by_cases hb0 : b = 0
  ·rw [if_pos hb0] at eN
   have z0 : (b == 0) = true := by simp [hb0]
   simp only [q1, q2, q3, z0, xx, r58_0, tt, bb, bc, ↓bd, Nat.reduceEqDiff, ↓reduceIte, reduceCtorEq]
   refine q0q h2 ?_
   intro n' A' hm hkp hn
   simp only [fin n' A' hkp, z1d, tt, bb, bc, ↓bd, Nat.reduceEqDiff, Nat.reduceAdd, ↓reduceIte]
   exact bad eN n' A' hm hkp hn _
  ·rw [if_neg hb0] at eN
   have z0 : (b == 0) = false := by simp [hb0]
   have z1 : (b = 0) = False := eq_false hb0
   have hqr : b * a.tdiv b + a.tmod b = a := Int.mul_tdiv_add_tmod a b
   have hm := y2e (a := a) hb0 rb
   have w1 : IntKind.i64.wrap (a.tdiv b) = a.tdiv b := wr64 (by omega) (by omega)
   have w2 : IntKind.i64.wrap (a.tdiv b - 1) = a.tdiv b - 1 := wr64 (by omega) (by omega)
   have m1 : a.tdiv b * b = a - a.tmod b := by rw [Int.mul_comm]; omega
   have m2 : (a.tdiv b - 1) * b = a - a.tmod b - b := by rw [Int.sub_mul, m1, Int.one_mul]
   have w3 : IntKind.i64.wrap (a - a.tmod b) = a - a.tmod b := wr64 (by omega) (by omega)
   have w4 : IntKind.i64.wrap (a - a.tmod b - b) = a - a.tmod b - b := wr64 (by omega) (by omega)
   have w5 : IntKind.i64.wrap (a - (a - a.tmod b)) = a.tmod b := by rw [wr64 (by omega) (by omega)]; omega
   have w6 : IntKind.i64.wrap (a - (a - a.tmod b - b)) = a.tmod b + b := by rw [wr64 (by omega) (by omega)]; omega
   rw [eN] at hk
   cases h1 : (a.tmod b != 0) with
   | false =>
    have ed : (q3s a b).2 = a.tmod b := by unfold q3s; rw [h1]; rfl
    rw [ed] at hk
    simp only [q1, q2, q3, q4, z0, z1, w1, m1, w3, w5, h1, q0a q3q rfl (q1s (a.tmod b)), xx, r58_0, z1d, tt, bb, bc, ↓bd, Nat.reduceEqDiff, Nat.reduceAdd, ↓reduceIte]
    exact z4h h hk
   | true =>
    have hs := j4h (a := a) (b := b) (by simpa using h1)
    have hq : ∀ x y : Bool, (!(x == y)) = (x != y) := fun _ _ => rfl
    cases h3 : (decide (a < 0) != decide (b < 0)) with
    | false =>
     have ed : (q3s a b).2 = a.tmod b := by unfold q3s; rw [h1, hs, h3]; rfl
     rw [ed] at hk
     simp only [q1, q2, q3, q4, z0, z1, w1, m1, w3, w5, h1, hq, h3, q0a q3q rfl (q1s (a.tmod b)), xx, r58_0, z1d, tt, bb, bc, ↓bd, Nat.reduceEqDiff, Nat.reduceAdd, ↓reduceIte]
     exact z4h h hk
    | true =>
     have ed : (q3s a b).2 = a.tmod b + b := by unfold q3s; rw [h1, hs, h3]; rfl
     rw [ed] at hk
     simp only [q1, q2, q3, q4, z0, z1, w1, w2, m2, w4, w6, h1, hq, h3, q0a q3q rfl (q1s (a.tmod b + b)), xx, r58_0, z1d, tt, bb, bc, ↓bd, Nat.reduceEqDiff, Nat.reduceAdd, ↓reduceIte]
     exact z4h h hk
end
section
variable {fn : FuncId} {T : Nat → AV} {ds : List ADef} {ro : Option Nat} {k : List AItem} {Q : AV → AHeap → Prop} {dst : Option Nat} {os : List AO}
set_option maxRecDepth 20000 in
theorem q5m {M : Mch} {n : Nat} {A : Nat → Blk} {s : St} {op a b c d : Int} (h : MR M n A s) (he : s.err = 0) (hop : op = 2 ∨ op = 3 ∨ op = 4 ∨ op = 5 ∨ op = 6) (hi : ((inR a && inR b) && (inR c && inR d)) = true)
  (hk : ∀ n' A', MR M n' A' (q1v (q6c op a b c d) s).2 → Keep M.b n A A' → n ≤ n' → q0d Cx fn (putA T dst (q1o (q1v (q6c op a b c d) s).1)) ds ro os k ⟨n', A'⟩ Q) :
  q0g Cx fn T ds ro 56 [.ptr M.b 22 0 0, .str (q0e op), .agg [.int .i64 a, .int .i64 b], .agg [.int .i64 c, .int .i64 d]] dst os k ⟨n, A⟩ Q := by
 refine q0s w1s (q0l _) w1r ?_
 simp only [Bool.and_eq_true] at hi
 obtain ⟨⟨ia, ib⟩, ic, id⟩ := hi
 have ia' := inR_iff.mp ia
 have ib' := inR_iff.mp ib
 have ic' := inR_iff.mp ic
 have id' := inR_iff.mp id
 have hb := h.lt
 have e1 : (n = n + 1) = False := eq_false (by omega)
 have e2 : (n = n + 1 + 1) = False := eq_false (by omega)
 have e3 : (n + 1 = n + 1 + 1) = False := eq_false (by omega)
 have e4 : (n = n + 1 + 1 + 1) = False := eq_false (by omega)
 have e5 : (n + 1 = n + 1 + 1 + 1) = False := eq_false (by omega)
 have uu : ∀ (A : Nat → Blk) (c : Nat) (X Y : Blk), upd (upd A c X) c Y = upd A c Y := fun A c X Y => z4f A c X Y
 have mm : ∀ x y, MR M (n + 1 + 1 + 1 + 1) (upd (upd (upd (upd A n (.cells 24 2 [[.int .i64 a, .int .i64 b]])) (n + 1) (.cells 24 2 [[.int .i64 c, .int .i64 d]])) (n + 1 + 1) zB) (n + 1 + 1 + 1) (q3n (pV x y))) s := fun x y => (((h.up1 _).up1 _).up1 _).up1 _
 have kk : ∀ x y, Keep M.b n A (upd (upd (upd (upd A n (.cells 24 2 [[.int .i64 a, .int .i64 b]])) (n + 1) (.cells 24 2 [[.int .i64 c, .int .i64 d]])) (n + 1 + 1) zB) (n + 1 + 1 + 1) (q3n (pV x y))) := fun x y => ((((Keep.refl _ _ _).up1 (Nat.le_refl _) _).up1 (by omega) _).up1 (by omega) _).up1 (by omega) _
 have cellr : ∀ (x y : Int) (n' : Nat) (A' : Nat → Blk), Keep M.b (n + 1 + 1 + 1 + 1) (upd (upd (upd (upd A n (.cells 24 2 [[.int .i64 a, .int .i64 b]])) (n + 1) (.cells 24 2 [[.int .i64 c, .int .i64 d]])) (n + 1 + 1) zB) (n + 1 + 1 + 1) (q3n (pV x y))) A' → A' (n + 1 + 1) = .cells 26 5 [[.int .i64 0, .int .i64 0, .str [], .int .i64 0, .int .i64 0]] :=
  fun x y n' A' hkp => q6e hkp (by rw [q0b, if_neg (by omega), q0b, if_pos rfl]) (by omega) (by omega) (by decide)
 have chk : ∀ (x y : Int), q6c op a b c d = z7m x y → ∀ n' A', MR M n' A' (q1v (q9g (pV x y)) s).2 → Keep M.b (n + 1 + 1 + 1 + 1) (upd (upd (upd (upd A n (.cells 24 2 [[.int .i64 a, .int .i64 b]])) (n + 1) (.cells 24 2 [[.int .i64 c, .int .i64 d]])) (n + 1 + 1) zB) (n + 1 + 1 + 1) (q3n (pV x y))) A' → n + 1 + 1 + 1 + 1 ≤ n' → ∀ X, q0d Cx fn (putA T dst (q1o (q1v (q9g (pV x y)) s).1)) ds ro os k ⟨n', upd A' (n + 1 + 1) X⟩ Q := by
  intro x y hr n' A' hm hkp hn X
  rw [hr, ← z9b] at hk
  have hc := cellr x y n' A' hkp
  exact hk n' _ (hm.upo (c := n + 1 + 1) (by omega) (by rw [hc]; exact q3j) X) (((kk x y).trans (by omega) hkp).up1 (by omega) X) (by omega)
 rcases hop with rfl | rfl | rfl | rfl | rfl
 ·have q1 : (q0e 2 == [97, 100, 100]) = true := rfl
  have w1 : IntKind.i64.wrap (a + c) = a + c := wr64 (by omega) (by omega)
  have w2 : IntKind.i64.wrap (b + d) = b + d := wr64 (by omega) (by omega)
  simp only [q1, w1, w2, e1, e2, e3, e4, e5, uu, xx, r56_0, tt, bb, bc, ↓bd, Nat.reduceEqDiff, Nat.reduceAdd, Nat.reduceLeDiff, ↓reduceIte, reduceCtorEq]
  refine q1x (v := pV (a + c) (b + d)) (mm (a + c) (b + d)) he ?_
  intro n' A' hm hkp hn
  simp only [cellr _ _ n' A' hkp, z6f, tt, bb, bc, ↓bd, Nat.reduceEqDiff, Nat.reduceAdd, ↓reduceIte]
  exact chk _ _ rfl n' A' hm hkp hn _
 ·have q1 : (q0e 3 == [97, 100, 100]) = false := rfl
  have q2 : (q0e 3 == [115, 117, 98]) = true := rfl
  have w1 : IntKind.i64.wrap (a - c) = a - c := wr64 (by omega) (by omega)
  have w2 : IntKind.i64.wrap (b - d) = b - d := wr64 (by omega) (by omega)
  simp only [q1, q2, w1, w2, e1, e2, e3, e4, e5, uu, xx, r56_0, tt, bb, bc, ↓bd, Nat.reduceEqDiff, Nat.reduceAdd, Nat.reduceLeDiff, ↓reduceIte, reduceCtorEq]
  refine q1x (v := pV (a - c) (b - d)) (mm (a - c) (b - d)) he ?_
  intro n' A' hm hkp hn
  simp only [cellr _ _ n' A' hkp, z6f, tt, bb, bc, ↓bd, Nat.reduceEqDiff, Nat.reduceAdd, ↓reduceIte]
  exact chk _ _ rfl n' A' hm hkp hn _
 ·have q1 : (q0e 4 == [97, 100, 100]) = false := rfl
  have q2 : (q0e 4 == [115, 117, 98]) = false := rfl
  have q3 : (q0e 4 == [109, 117, 108]) = true := rfl
  have hmul := Gs.refMul_ok a b c d ⟨by omega, by omega⟩ ⟨by omega, by omega⟩ ⟨by omega, by omega⟩ ⟨by omega, by omega⟩
  simp only [q1, q2, q3, e1, e2, e3, e4, e5, uu, q0a x3n rfl hmul, xx, r56_0, tt, bb, bc, ↓bd, Nat.reduceEqDiff, Nat.reduceAdd, Nat.reduceLeDiff, ↓reduceIte, reduceCtorEq]
  refine q1x (v := pV (a * c - b * d) (a * d + b * c)) (mm (a * c - b * d) (a * d + b * c)) he ?_
  intro n' A' hm hkp hn
  simp only [cellr _ _ n' A' hkp, z6f, tt, bb, bc, ↓bd, Nat.reduceEqDiff, Nat.reduceAdd, ↓reduceIte]
  exact chk _ _ rfl n' A' hm hkp hn _
 ·have q1 : (q0e 5 == [97, 100, 100]) = false := rfl
  have q2 : (q0e 5 == [115, 117, 98]) = false := rfl
  have q3 : (q0e 5 == [109, 117, 108]) = false := rfl
  have q4 : (q0e 5 == [109, 111, 100]) = false := rfl
  by_cases h00 : c = 0 ∧ d = 0
  ·have z0 : ((c == 0) && (d == 0)) = true := by simp [h00]
   have eN : q6c 5 a b c d = .bad 16 := by unfold q6c; simp [h00]
   simp only [q1, q2, q3, z0, e3, e5, uu, r56_0, tt, bb, bc, ↓bd, Nat.reduceEqDiff, Nat.reduceAdd, Nat.reduceLeDiff, ↓reduceIte, reduceCtorEq]
   refine q0q (mm 0 0) ?_
   intro n' A' hm hkp hn
   simp only [cellr _ _ n' A' hkp, z6f, tt, bb, bc, ↓bd, Nat.reduceEqDiff, Nat.reduceAdd, ↓reduceIte]
   rw [eN, q0m he] at hk
   exact hk n' _ (hm.upo (c := n + 1 + 1) (by omega) (by rw [cellr _ _ n' A' hkp]; exact q3j) _) (((kk 0 0).trans (by omega) hkp).up1 (by omega) _) (by omega)
  ·have z0 : ((c == 0) && (d == 0)) = false := by
    cases hz : ((c == 0) && (d == 0)) with
    | false => rfl
    | true => exact absurd (by simpa using hz) h00
   have x1f : q0k Cx 84 [.agg [.int .i64 a, .int .i64 b], .agg [.int .i64 c, .int .i64 d]] (.tuple [.agg [.int .i64 (Gs.qX a b c d), .int .i64 (Gs.qY a b c d)], .agg [.int .i64 (Gs.rX a b c d), .int .i64 (Gs.rY a b c d)]]) := Gs.refDiv_ok a b c d ia ib ic id h00
   skip
   have e7 : (n + 1 = n) = False := eq_false (by omega)
   have e10 : (n + 2 = n) = False := eq_false (by omega)
   have e11 : (n = n + 2) = False := eq_false (by omega)
   have e8 : (n + 1 + 1 + 1 = n + 1 + 1 + 1 + 1) = False := eq_false (by omega)
   have e9 : (n + 1 + 1 + 1 = n + 1 + 1 + 1 + 1 + 1) = False := eq_false (by omega)
   have r1 : q0k Cx 33 [.agg [.int .i64 (Gs.qX a b c d), .int .i64 (Gs.qY a b c d)]] (.bool (inR (Gs.qX a b c d) && inR (Gs.qY a b c d))) := Gs.refRight_ok (Gs.qX a b c d) (Gs.qY a b c d)
   have r2 : q0k Cx 33 [.agg [.int .i64 (Gs.rX a b c d), .int .i64 (Gs.rY a b c d)]] (.bool (inR (Gs.rX a b c d) && inR (Gs.rY a b c d))) := Gs.refRight_ok (Gs.rX a b c d) (Gs.rY a b c d)
   have i24 : ∀ {es : List (List AV)} {k : Nat}, ¬ x0s (.cells 24 k es) := by
    intro es k
    show ¬ (24 = 49)
    decide
   have m6 : ∀ x y, MR M (n + 1 + 1 + 1 + 1 + 1 + 1) (upd (upd (upd (upd (upd (upd (upd (upd A n (.cells 24 2 [[.int .i64 a, .int .i64 b]])) (n + 1) (.cells 24 2 [[.int .i64 c, .int .i64 d]])) (n + 1 + 1) zB) (n + 1 + 1 + 1) (q3n (pV x y))) (n + 1 + 1 + 1 + 1) (.cells 24 2 [[.int .i64 0, .int .i64 0]])) (n + 1 + 1 + 1 + 1 + 1) (.cells 24 2 [[.int .i64 0, .int .i64 0]])) (n + 1 + 1 + 1 + 1) (.cells 24 2 [[.int .i64 (Gs.qX a b c d), .int .i64 (Gs.qY a b c d)]])) (n + 1 + 1 + 1 + 1 + 1) (.cells 24 2 [[.int .i64 (Gs.rX a b c d), .int .i64 (Gs.rY a b c d)]])) s := fun x y =>
    ((((mm x y).up1 _).up1 _).upo (c := n + 1 + 1 + 1 + 1) (by omega) (by rw [q0b, if_neg (by omega), q0b, if_pos rfl]; exact i24) _).upo (c := n + 1 + 1 + 1 + 1 + 1) (by omega) (by rw [q0b, if_neg (by omega), q0b, if_pos rfl]; exact i24) _
   have k6 : Keep M.b n A (upd (upd (upd (upd (upd (upd (upd (upd A n (.cells 24 2 [[.int .i64 a, .int .i64 b]])) (n + 1) (.cells 24 2 [[.int .i64 c, .int .i64 d]])) (n + 1 + 1) zB) (n + 1 + 1 + 1) (q3n (pV 0 0))) (n + 1 + 1 + 1 + 1) (.cells 24 2 [[.int .i64 0, .int .i64 0]])) (n + 1 + 1 + 1 + 1 + 1) (.cells 24 2 [[.int .i64 0, .int .i64 0]])) (n + 1 + 1 + 1 + 1) (.cells 24 2 [[.int .i64 (Gs.qX a b c d), .int .i64 (Gs.qY a b c d)]])) (n + 1 + 1 + 1 + 1 + 1) (.cells 24 2 [[.int .i64 (Gs.rX a b c d), .int .i64 (Gs.rY a b c d)]])) := ((((kk 0 0).up1 (by omega) _).up1 (by omega) _).up1 (n' := n + 1 + 1 + 1 + 1) (by omega) _).up1 (n' := n + 1 + 1 + 1 + 1 + 1) (by omega) _
   have c6 : (upd (upd (upd (upd (upd (upd (upd (upd A n (.cells 24 2 [[.int .i64 a, .int .i64 b]])) (n + 1) (.cells 24 2 [[.int .i64 c, .int .i64 d]])) (n + 1 + 1) zB) (n + 1 + 1 + 1) (q3n (pV 0 0))) (n + 1 + 1 + 1 + 1) (.cells 24 2 [[.int .i64 0, .int .i64 0]])) (n + 1 + 1 + 1 + 1 + 1) (.cells 24 2 [[.int .i64 0, .int .i64 0]])) (n + 1 + 1 + 1 + 1) (.cells 24 2 [[.int .i64 (Gs.qX a b c d), .int .i64 (Gs.qY a b c d)]])) (n + 1 + 1 + 1 + 1 + 1) (.cells 24 2 [[.int .i64 (Gs.rX a b c d), .int .i64 (Gs.rY a b c d)]])) (n + 1 + 1) = zB := by
    rw [q0b, if_neg (by omega), q0b, if_neg (by omega), q0b, if_neg (by omega), q0b, if_neg (by omega), q0b, if_neg (by omega), q0b, if_pos rfl]
   have cell6 : ∀ (n' : Nat) (A' : Nat → Blk), Keep M.b (n + 1 + 1 + 1 + 1 + 1 + 1) (upd (upd (upd (upd (upd (upd (upd (upd A n (.cells 24 2 [[.int .i64 a, .int .i64 b]])) (n + 1) (.cells 24 2 [[.int .i64 c, .int .i64 d]])) (n + 1 + 1) zB) (n + 1 + 1 + 1) (q3n (pV 0 0))) (n + 1 + 1 + 1 + 1) (.cells 24 2 [[.int .i64 0, .int .i64 0]])) (n + 1 + 1 + 1 + 1 + 1) (.cells 24 2 [[.int .i64 0, .int .i64 0]])) (n + 1 + 1 + 1 + 1) (.cells 24 2 [[.int .i64 (Gs.qX a b c d), .int .i64 (Gs.qY a b c d)]])) (n + 1 + 1 + 1 + 1 + 1) (.cells 24 2 [[.int .i64 (Gs.rX a b c d), .int .i64 (Gs.rY a b c d)]])) A' → A' (n + 1 + 1) = .cells 26 5 [[.int .i64 0, .int .i64 0, .str [], .int .i64 0, .int .i64 0]] := fun n' A' hkp => q6e hkp c6 (by omega) (by omega) (by decide)
   cases h1 : (inR (Gs.qX a b c d) && inR (Gs.qY a b c d)) with
   | false =>
    rw [h1] at r1
    have eN : q6c 5 a b c d = .bad 14 := by unfold q6c; simp [h00, h1]
    simp only [q1, q2, q3, z0, e1, e2, e3, e4, e5, e7, uu, q0a z8q rfl x1f, q0a q7g rfl r1, r56_0, tt, bb, bc, ↓bd, Nat.reduceEqDiff, Nat.reduceAdd, Nat.reduceLeDiff, ↓reduceIte, reduceCtorEq]
    refine q0q (m6 0 0) ?_
    intro n' A' hm hkp hn
    have hc := cell6 n' A' hkp
    simp only [hc, z6f, tt, bb, bc, ↓bd, Nat.reduceEqDiff, Nat.reduceAdd, ↓reduceIte]
    rw [eN, q0m he] at hk
    exact hk n' _ (hm.upo (c := n + 1 + 1) (by omega) (by rw [hc]; exact q3j) _) ((k6.trans (by omega) hkp).up1 (by omega) _) (by omega)
   | true =>
    rw [h1] at r1
    cases h2 : (inR (Gs.rX a b c d) && inR (Gs.rY a b c d)) with
    | false =>
     rw [h2] at r2
     have eN : q6c 5 a b c d = .bad 14 := by unfold q6c; simp [h00, h1, h2]
     simp only [q1, q2, q3, z0, e1, e2, e3, e4, e5, e7, uu, q0a z8q rfl x1f, q0a q7g rfl r1, q0a q7g rfl r2, r56_0, tt, bb, bc, ↓bd, Nat.reduceEqDiff, Nat.reduceAdd, Nat.reduceLeDiff, ↓reduceIte, reduceCtorEq]
     refine q0q (m6 0 0) ?_
     intro n' A' hm hkp hn
     have hc := cell6 n' A' hkp
     simp only [hc, z6f, tt, bb, bc, ↓bd, Nat.reduceEqDiff, Nat.reduceAdd, ↓reduceIte]
     rw [eN, q0m he] at hk
     exact hk n' _ (hm.upo (c := n + 1 + 1) (by omega) (by rw [hc]; exact q3j) _) ((k6.trans (by omega) hkp).up1 (by omega) _) (by omega)
    | true =>
     rw [h2] at r2
     have eN : q6c 5 a b c d = z7m (Gs.qX a b c d) (Gs.qY a b c d) := by
      have e9 : q6c 5 a b c d = .val (pV (Gs.qX a b c d) (Gs.qY a b c d)) := by unfold q6c; simp [h00, h1, h2]
      rw [e9]; unfold z7m; rw [if_pos h1]
     simp only [q1, q2, q3, q4, z0, e1, e2, e3, e4, e5, e7, e8, e9, uu, q0a z8q rfl x1f, q0a q7g rfl r1, q0a q7g rfl r2, xx, r56_0, tt, bb, bc, ↓bd, Nat.reduceEqDiff, Nat.reduceAdd, Nat.reduceLeDiff, ↓reduceIte, reduceCtorEq]
     have m7 := (m6 0 0).upo (c := n + 1 + 1 + 1) (by omega) (by rw [q0b, if_neg (by omega), q0b, if_neg (by omega), q0b, if_neg (by omega), q0b, if_neg (by omega), q0b, if_pos rfl]; exact q3j) (q3n (pV (Gs.qX a b c d) (Gs.qY a b c d)))
     refine q1x (v := pV (Gs.qX a b c d) (Gs.qY a b c d)) m7 he ?_
     intro n' A' hm hkp hn
     have hc : A' (n + 1 + 1) = .cells 26 5 [[.int .i64 0, .int .i64 0, .str [], .int .i64 0, .int .i64 0]] := q6e hkp (by rw [q0b, if_neg (by omega)]; exact c6) (by omega) (by omega) (by decide)
     simp only [hc, z6f, tt, bb, bc, ↓bd, Nat.reduceEqDiff, Nat.reduceAdd, ↓reduceIte]
     rw [eN, ← z9b] at hk
     exact hk n' _ (hm.upo (c := n + 1 + 1) (by omega) (by rw [hc]; exact q3j) _) (((k6.up1 (n' := n + 1 + 1 + 1) (by omega) _).trans (by omega) hkp).up1 (by omega) _) (by omega)
 ·have q1 : (q0e 6 == [97, 100, 100]) = false := rfl
  have q2 : (q0e 6 == [115, 117, 98]) = false := rfl
  have q3 : (q0e 6 == [109, 117, 108]) = false := rfl
  have q4 : (q0e 6 == [109, 111, 100]) = true := rfl
  by_cases h00 : c = 0 ∧ d = 0
  ·have z0 : ((c == 0) && (d == 0)) = true := by simp [h00]
   have eN : q6c 6 a b c d = .bad 16 := by unfold q6c; simp [h00]
   simp only [q1, q2, q3, z0, e3, e5, uu, r56_0, tt, bb, bc, ↓bd, Nat.reduceEqDiff, Nat.reduceAdd, Nat.reduceLeDiff, ↓reduceIte, reduceCtorEq]
   refine q0q (mm 0 0) ?_
   intro n' A' hm hkp hn
   simp only [cellr _ _ n' A' hkp, z6f, tt, bb, bc, ↓bd, Nat.reduceEqDiff, Nat.reduceAdd, ↓reduceIte]
   rw [eN, q0m he] at hk
   exact hk n' _ (hm.upo (c := n + 1 + 1) (by omega) (by rw [cellr _ _ n' A' hkp]; exact q3j) _) (((kk 0 0).trans (by omega) hkp).up1 (by omega) _) (by omega)
  ·have z0 : ((c == 0) && (d == 0)) = false := by
    cases hz : ((c == 0) && (d == 0)) with
    | false => rfl
    | true => exact absurd (by simpa using hz) h00
   have x1f : q0k Cx 84 [.agg [.int .i64 a, .int .i64 b], .agg [.int .i64 c, .int .i64 d]] (.tuple [.agg [.int .i64 (Gs.qX a b c d), .int .i64 (Gs.qY a b c d)], .agg [.int .i64 (Gs.rX a b c d), .int .i64 (Gs.rY a b c d)]]) := Gs.refDiv_ok a b c d ia ib ic id h00
   skip
   have e7 : (n + 1 = n) = False := eq_false (by omega)
   have e10 : (n + 2 = n) = False := eq_false (by omega)
   have e11 : (n = n + 2) = False := eq_false (by omega)
   have e8 : (n + 1 + 1 + 1 = n + 1 + 1 + 1 + 1) = False := eq_false (by omega)
   have e9 : (n + 1 + 1 + 1 = n + 1 + 1 + 1 + 1 + 1) = False := eq_false (by omega)
   have r1 : q0k Cx 33 [.agg [.int .i64 (Gs.qX a b c d), .int .i64 (Gs.qY a b c d)]] (.bool (inR (Gs.qX a b c d) && inR (Gs.qY a b c d))) := Gs.refRight_ok (Gs.qX a b c d) (Gs.qY a b c d)
   have r2 : q0k Cx 33 [.agg [.int .i64 (Gs.rX a b c d), .int .i64 (Gs.rY a b c d)]] (.bool (inR (Gs.rX a b c d) && inR (Gs.rY a b c d))) := Gs.refRight_ok (Gs.rX a b c d) (Gs.rY a b c d)
   have i24 : ∀ {es : List (List AV)} {k : Nat}, ¬ x0s (.cells 24 k es) := by
    intro es k
    show ¬ (24 = 49)
    decide
   have m6 : ∀ x y, MR M (n + 1 + 1 + 1 + 1 + 1 + 1) (upd (upd (upd (upd (upd (upd (upd (upd A n (.cells 24 2 [[.int .i64 a, .int .i64 b]])) (n + 1) (.cells 24 2 [[.int .i64 c, .int .i64 d]])) (n + 1 + 1) zB) (n + 1 + 1 + 1) (q3n (pV x y))) (n + 1 + 1 + 1 + 1) (.cells 24 2 [[.int .i64 0, .int .i64 0]])) (n + 1 + 1 + 1 + 1 + 1) (.cells 24 2 [[.int .i64 0, .int .i64 0]])) (n + 1 + 1 + 1 + 1) (.cells 24 2 [[.int .i64 (Gs.qX a b c d), .int .i64 (Gs.qY a b c d)]])) (n + 1 + 1 + 1 + 1 + 1) (.cells 24 2 [[.int .i64 (Gs.rX a b c d), .int .i64 (Gs.rY a b c d)]])) s := fun x y =>
    ((((mm x y).up1 _).up1 _).upo (c := n + 1 + 1 + 1 + 1) (by omega) (by rw [q0b, if_neg (by omega), q0b, if_pos rfl]; exact i24) _).upo (c := n + 1 + 1 + 1 + 1 + 1) (by omega) (by rw [q0b, if_neg (by omega), q0b, if_pos rfl]; exact i24) _
   have k6 : Keep M.b n A (upd (upd (upd (upd (upd (upd (upd (upd A n (.cells 24 2 [[.int .i64 a, .int .i64 b]])) (n + 1) (.cells 24 2 [[.int .i64 c, .int .i64 d]])) (n + 1 + 1) zB) (n + 1 + 1 + 1) (q3n (pV 0 0))) (n + 1 + 1 + 1 + 1) (.cells 24 2 [[.int .i64 0, .int .i64 0]])) (n + 1 + 1 + 1 + 1 + 1) (.cells 24 2 [[.int .i64 0, .int .i64 0]])) (n + 1 + 1 + 1 + 1) (.cells 24 2 [[.int .i64 (Gs.qX a b c d), .int .i64 (Gs.qY a b c d)]])) (n + 1 + 1 + 1 + 1 + 1) (.cells 24 2 [[.int .i64 (Gs.rX a b c d), .int .i64 (Gs.rY a b c d)]])) := ((((kk 0 0).up1 (by omega) _).up1 (by omega) _).up1 (n' := n + 1 + 1 + 1 + 1) (by omega) _).up1 (n' := n + 1 + 1 + 1 + 1 + 1) (by omega) _
   have c6 : (upd (upd (upd (upd (upd (upd (upd (upd A n (.cells 24 2 [[.int .i64 a, .int .i64 b]])) (n + 1) (.cells 24 2 [[.int .i64 c, .int .i64 d]])) (n + 1 + 1) zB) (n + 1 + 1 + 1) (q3n (pV 0 0))) (n + 1 + 1 + 1 + 1) (.cells 24 2 [[.int .i64 0, .int .i64 0]])) (n + 1 + 1 + 1 + 1 + 1) (.cells 24 2 [[.int .i64 0, .int .i64 0]])) (n + 1 + 1 + 1 + 1) (.cells 24 2 [[.int .i64 (Gs.qX a b c d), .int .i64 (Gs.qY a b c d)]])) (n + 1 + 1 + 1 + 1 + 1) (.cells 24 2 [[.int .i64 (Gs.rX a b c d), .int .i64 (Gs.rY a b c d)]])) (n + 1 + 1) = zB := by
    rw [q0b, if_neg (by omega), q0b, if_neg (by omega), q0b, if_neg (by omega), q0b, if_neg (by omega), q0b, if_neg (by omega), q0b, if_pos rfl]
   have cell6 : ∀ (n' : Nat) (A' : Nat → Blk), Keep M.b (n + 1 + 1 + 1 + 1 + 1 + 1) (upd (upd (upd (upd (upd (upd (upd (upd A n (.cells 24 2 [[.int .i64 a, .int .i64 b]])) (n + 1) (.cells 24 2 [[.int .i64 c, .int .i64 d]])) (n + 1 + 1) zB) (n + 1 + 1 + 1) (q3n (pV 0 0))) (n + 1 + 1 + 1 + 1) (.cells 24 2 [[.int .i64 0, .int .i64 0]])) (n + 1 + 1 + 1 + 1 + 1) (.cells 24 2 [[.int .i64 0, .int .i64 0]])) (n + 1 + 1 + 1 + 1) (.cells 24 2 [[.int .i64 (Gs.qX a b c d), .int .i64 (Gs.qY a b c d)]])) (n + 1 + 1 + 1 + 1 + 1) (.cells 24 2 [[.int .i64 (Gs.rX a b c d), .int .i64 (Gs.rY a b c d)]])) A' → A' (n + 1 + 1) = .cells 26 5 [[.int .i64 0, .int .i64 0, .str [], .int .i64 0, .int .i64 0]] := fun n' A' hkp => q6e hkp c6 (by omega) (by omega) (by decide)
   cases h1 : (inR (Gs.qX a b c d) && inR (Gs.qY a b c d)) with
   | false =>
    rw [h1] at r1
    have eN : q6c 6 a b c d = .bad 14 := by unfold q6c; simp [h00, h1]
    simp only [q1, q2, q3, z0, e1, e2, e3, e4, e5, e7, uu, q0a z8q rfl x1f, q0a q7g rfl r1, r56_0, tt, bb, bc, ↓bd, Nat.reduceEqDiff, Nat.reduceAdd, Nat.reduceLeDiff, ↓reduceIte, reduceCtorEq]
    refine q0q (m6 0 0) ?_
    intro n' A' hm hkp hn
    have hc := cell6 n' A' hkp
    simp only [hc, z6f, tt, bb, bc, ↓bd, Nat.reduceEqDiff, Nat.reduceAdd, ↓reduceIte]
    rw [eN, q0m he] at hk
    exact hk n' _ (hm.upo (c := n + 1 + 1) (by omega) (by rw [hc]; exact q3j) _) ((k6.trans (by omega) hkp).up1 (by omega) _) (by omega)
   | true =>
    rw [h1] at r1
    cases h2 : (inR (Gs.rX a b c d) && inR (Gs.rY a b c d)) with
    | false =>
     rw [h2] at r2
     have eN : q6c 6 a b c d = .bad 14 := by unfold q6c; simp [h00, h1, h2]
     simp only [q1, q2, q3, z0, e1, e2, e3, e4, e5, e7, uu, q0a z8q rfl x1f, q0a q7g rfl r1, q0a q7g rfl r2, r56_0, tt, bb, bc, ↓bd, Nat.reduceEqDiff, Nat.reduceAdd, Nat.reduceLeDiff, ↓reduceIte, reduceCtorEq]
     refine q0q (m6 0 0) ?_
     intro n' A' hm hkp hn
     have hc := cell6 n' A' hkp
     simp only [hc, z6f, tt, bb, bc, ↓bd, Nat.reduceEqDiff, Nat.reduceAdd, ↓reduceIte]
     rw [eN, q0m he] at hk
     exact hk n' _ (hm.upo (c := n + 1 + 1) (by omega) (by rw [hc]; exact q3j) _) ((k6.trans (by omega) hkp).up1 (by omega) _) (by omega)
    | true =>
     rw [h2] at r2
     have eN : q6c 6 a b c d = z7m (Gs.rX a b c d) (Gs.rY a b c d) := by
      have e9 : q6c 6 a b c d = .val (pV (Gs.rX a b c d) (Gs.rY a b c d)) := by unfold q6c; simp [h00, h1, h2]
      rw [e9]; unfold z7m; rw [if_pos h2]
     simp only [q1, q2, q3, q4, z0, e1, e2, e3, e4, e5, e7, e8, e9, e10, uu, q0a z8q rfl x1f, q0a q7g rfl r1, q0a q7g rfl r2, xx, r56_0, tt, bb, bc, ↓bd, Nat.reduceEqDiff, Nat.reduceAdd, Nat.reduceLeDiff, ↓reduceIte, reduceCtorEq]
     have m7 := (m6 0 0).upo (c := n + 1 + 1 + 1) (by omega) (by rw [q0b, if_neg (by omega), q0b, if_neg (by omega), q0b, if_neg (by omega), q0b, if_neg (by omega), q0b, if_pos rfl]; exact q3j) (q3n (pV (Gs.rX a b c d) (Gs.rY a b c d)))
     refine q1x (v := pV (Gs.rX a b c d) (Gs.rY a b c d)) m7 he ?_
     intro n' A' hm hkp hn
     have hc : A' (n + 1 + 1) = .cells 26 5 [[.int .i64 0, .int .i64 0, .str [], .int .i64 0, .int .i64 0]] := q6e hkp (by rw [q0b, if_neg (by omega)]; exact c6) (by omega) (by omega) (by decide)
     simp only [hc, z6f, tt, bb, bc, ↓bd, Nat.reduceEqDiff, Nat.reduceAdd, ↓reduceIte]
     rw [eN, ← z9b] at hk
     exact hk n' _ (hm.upo (c := n + 1 + 1) (by omega) (by rw [hc]; exact q3j) _) (((k6.up1 (n' := n + 1 + 1 + 1) (by omega) _).trans (by omega) hkp).up1 (by omega) _) (by omega)
end
abbrev H3 (A : Nat → Blk) (n : Nat) (a b : Vl) : Nat → Blk := upd (upd (upd A n zB) (n + 1) (q3n a)) (n + 1 + 1) (q3n b)
section
variable {fn : FuncId} {T : Nat → AV} {ds : List ADef} {ro : Option Nat} {k : List AItem} {Q : AV → AHeap → Prop} {dst : Option Nat} {os : List AO}
theorem q2j {M : Mch} {n g m : Nat} {A : Nat → Blk} {s : St} {w : Bytes} {vs : List Vl} {a b : Vl} (h : MR M n A s) (ha : AS M g n A vs) (hf : vs[0]? = some a) (hl : vs[vs.length - 1]? = some b) (hv : vs.length ≤ 3) (em : m = vs.length)
  (hgo : ∀ T' : Nat → AV, T' 0 = .ptr M.b 22 0 0 → T' 1 = .str w → T' 2 = .slc g 5 0 m → T' 6 = .ptr n 5 0 0 → T' 7 = .ptr (n + 1) 5 0 0 → T' 8 = .ptr (n + 1 + 1) 5 0 0 →
   Run Cx 38 T' [] none [.code c38_6] ⟨n + 1 + 1 + 1, H3 A n a b⟩ (fun r H1 => q0d Cx fn (putA T dst r) ds ro os k H1 Q)) :
  q0g Cx fn T ds ro 38 [.ptr M.b 22 0 0, .str w, .slc g 5 0 m] dst os k ⟨n, A⟩ Q := by
 subst em
 refine q0s w0y (q0l _) w0x ?_
 have gl := ha.lt
 have hg := ha.cell
 have v1o : 0 < vs.length := by
  cases vs with
  | nil => cases hf
  | cons v r => simp
 have gn : (g = n) = False := eq_false (by omega)
 have gn1 : (g = n + 1) = False := eq_false (by omega)
 have p0 : (0 : Int) < (vs.length : Int) := by omega
 have w1 : IntKind.i64.wrap ((vs.length : Int) - 1) = ((vs.length - 1 : Nat) : Int) := by rw [wr64 (by omega) (by omega)]; omega
 have p1 : (0 : Int) ≤ ((vs.length - 1 : Nat) : Int) := by omega
 have p2 : ((vs.length - 1 : Nat) : Int) < (vs.length : Int) := by omega
 have g0 := q2x hf
 have g1 := q2x hl
 have uu : ∀ (A : Nat → Blk) (c : Nat) (X Y : Blk), upd (upd A c X) c Y = upd A c Y := fun A c X Y => z4f A c X Y
 simp only [gn, gn1, p0, p1, p2, w1, hg, g0, g1, uu, i64, Int.toNat_natCast, Int.toNat_zero, r38_0.1, tt, bb, bc, ↓bd, Nat.reduceEqDiff, Nat.reduceAdd, ↓reduceIte, Int.reduceLE]
 refine hgo _ ?_ ?_ ?_ ?_ ?_ ?_
 all_goals simp only [q0b, q1g, qez, Nat.reduceEqDiff, ↓reduceIte]
end
section
variable {fn : FuncId} {T : Nat → AV} {ds : List ADef} {ro : Option Nat} {k : List AItem} {Q : AV → AHeap → Prop} {dst : Option Nat} {os : List AO}
theorem y6z {M : Mch} {n : Nat} {A : Nat → Blk} {a b : Vl} (hb : M.b < n) : Keep M.b n A (H3 A n a b) := (((Keep.refl _ _ _).up1 (Nat.le_refl _) _).up1 (n' := n + 1) (by omega) _).up1 (n' := n + 1 + 1) (by omega) _
theorem q6f {M : Mch} {n : Nat} {A : Nat → Blk} {s : St} {a b : Vl} (h : MR M n A s) : MR M (n + 1 + 1 + 1) (H3 A n a b) s := ((h.up1 _).up1 _).up1 _
theorem q6g {M : Mch} {n g : Nat} {A : Nat → Blk} {a b : Vl} {vs : List Vl} (h : AS M g n A vs) : AS M g (n + 1 + 1 + 1) (H3 A n a b) vs := ((h.up1 _).up1 _).up1 _
theorem q0j {M : Mch} {n n' : Nat} {A A' : Nat → Blk} {a b : Vl} (hb : M.b < n) (hkp : Keep M.b (n + 1 + 1 + 1) (H3 A n a b) A') : A' n = .cells 26 5 [[.int .i64 0, .int .i64 0, .str [], .int .i64 0, .int .i64 0]] ∧ A' (n + 1) = .cells 26 5 [[.int .i64 a.k, .int .i64 a.n, .str a.s, .int .i64 a.x, .int .i64 a.y]] ∧ A' (n + 1 + 1) = .cells 26 5 [[.int .i64 b.k, .int .i64 b.n, .str b.s, .int .i64 b.x, .int .i64 b.y]] :=
 ⟨q6e hkp (by unfold H3; rw [q0b, if_neg (by omega), q0b, if_neg (by omega), q0b, if_pos rfl]) (by omega) (by omega) (by decide),
  q6e hkp (by unfold H3; rw [q0b, if_neg (by omega), q0b, if_pos rfl]) (by omega) (by omega) (by decide),
  q6e hkp (by unfold H3; rw [q0b, if_pos rfl]) (by omega) (by omega) (by decide)⟩
theorem q0x {M : Mch} {n n' : Nat} {A A' : Nat → Blk} {a b : Vl} {s' : St} {v : AV} {X : Blk} (hb : M.b < n) (hm : MR M n' A' s') (hkp : Keep M.b (n + 1 + 1 + 1) (H3 A n a b) A') (hn : n + 1 + 1 + 1 ≤ n')
  (hk : ∀ n' A', MR M n' A' s' → Keep M.b n A A' → n ≤ n' → q0d Cx fn (putA T dst v) ds ro os k ⟨n', A'⟩ Q) : q0d Cx fn (putA T dst v) ds ro os k ⟨n', upd A' n X⟩ Q :=
 hk n' _ (hm.upo (c := n) (by omega) (by rw [(q0j (n' := n') hb hkp).1]; exact q3j) X) (((y6z hb).trans (by omega) hkp).up1 (by omega) X) (by omega)
theorem j4i {M : Mch} {n g : Nat} {A : Nat → Blk} {s : St} {op : Int} {a b : Vl} (h : MR M n A s) (he : s.err = 0) (ha : AS M g n A [a, b]) (oa : okV a = true) (ob : okV b = true) (hop : op = 2 ∨ op = 3 ∨ op = 4 ∨ op = 5 ∨ op = 6)
  (hk : ∀ n' A', MR M n' A' (q1v (ap2 op a b s.out.length) s).2 → Keep M.b n A A' → n ≤ n' → q0d Cx fn (putA T dst (q1o (q1v (ap2 op a b s.out.length) s).1)) ds ro os k ⟨n', A'⟩ Q) :
  q0g Cx fn T ds ro 38 [.ptr M.b 22 0 0, .str (q0e op), .slc g 5 0 2] dst os k ⟨n, A⟩ Q := by
 have hb := h.lt
 refine q2j (vs := [a, b]) h ha rfl rfl (by simp) rfl ?_
 intro T' t0 t1 t2 t6 t7 t8
 have hm := q6f (a := a) (b := b) h
 have hs := q6g (a := a) (b := b) ha
 obtain ⟨c0, c1, c2⟩ := q0j (n' := n + 1 + 1 + 1) hb (Keep.refl M.b (n + 1 + 1 + 1) (H3 A n a b))
 have eap : ap2 op a b s.out.length = (if a.k = 2 ∧ b.k = 2 then q6c op a.x a.y b.x b.y else if a.k = 0 ∧ b.k = 0 then z6p op a.n b.n else .bad 13) := by
  unfold ap2
  rw [if_pos (by omega)]
 rw [eap] at hk
 have hz : (a.k = 2 ∧ b.k = 2) ∨ (a.k = 2 ∧ b.k ≠ 2 ∧ ¬ (a.k = 2 ∧ b.k = 2)) ∨ (a.k ≠ 2 ∧ ¬ (a.k = 2 ∧ b.k = 2)) := by omega
 rcases hop with rfl | rfl | rfl | rfl | rfl
 ·have q0 : (q0e 2 == [97, 100, 100]) = true := rfl
  rcases hz with ⟨z1, z2⟩ | ⟨z1, z2, hp⟩ | ⟨z1, hp⟩
  ·have i1 := (q0w oa).2.2 z1
   have i2 := (q0w ob).2.2 z2
   have y1 : (a.k == 2) = true := by simp [z1]
   have y2 : (b.k == 2) = true := by simp [z2]
   rw [if_pos ⟨z1, z2⟩] at hk
   simp only [q0, t0, t1, t7, t8, c1, c2, y1, y2, r38_0, tt, bb, bc, ↓bd, Nat.reduceEqDiff, Nat.reduceAdd, ↓reduceIte, reduceCtorEq]
   refine q5m hm he (by decide) (by rw [i1.1, i1.2, i2.1, i2.2]; rfl) ?_
   intro n' A' hm' hkp hn
   simp only [t6, (q0j (n' := n') hb hkp).1, q1r, tt, bb, bc, ↓bd, Nat.reduceEqDiff, Nat.reduceAdd, ↓reduceIte]
   exact q0x hb hm' hkp hn hk
  ·have y1 : (a.k == 2) = true := by simp [z1]
   have y2 : (b.k == 2) = false := by simp [z2]
   rw [if_neg hp] at hk
   have hI : IS M (n + 1 + 1 + 1) (n + 1 + 1 + 1 + 1) (upd (H3 A n a b) (n + 1 + 1 + 1) (.cells 3 1 [[.int .i64 0], [.int .i64 0]])) [0, 0] := ⟨by omega, by omega, by rw [q0b, if_pos rfl]; rfl⟩
   simp only [q0, t0, t1, t2, t7, t8, c1, c2, y1, y2, r38_0, tt, bb, bc, ↓bd, Nat.reduceEqDiff, Nat.reduceAdd, Nat.reduceMul, Nat.reduceLeDiff, ↓reduceIte, reduceCtorEq, List.reduceReplicate]
   refine q1w (ks := [0, 0]) (vs := [a, b]) (hm.up1 _) (hs.up1 _) hI (by simp) (by simp) rfl rfl ?_
   intro n' A' hm' hkp hn
   have q1y := ((Keep.refl M.b (n + 1 + 1 + 1) (H3 A n a b)).up1 (Nat.le_refl _) (.cells 3 1 [[.int .i64 0], [.int .i64 0]])).trans (by omega) hkp
   obtain ⟨d0, d1, d2⟩ := q0j (n' := n') hb q1y
   by_cases hnn : a.k = 0 ∧ b.k = 0
   ·have e : q1p [0, 0] [a, b] = true := by simp [q1p, hnn.1, hnn.2]
    rw [e, if_pos rfl] at hm'
    rw [if_pos hnn] at hk
    have ra := (q0w oa).1 hnn.1
    have rb := (q0w ob).1 hnn.2
    simp only [e, t0, t1, t7, t8, d1, d2, tt, bb, bc, ↓bd, Nat.reduceEqDiff, ↓reduceIte, reduceCtorEq]
    refine q3l hm' he (by omega) (by omega) (by decide) ?_
    intro n2 A2 hm2 q1k hn2
    have q1t := q1y.trans (by omega) q1k
    simp only [t6, (q0j (n' := n2) hb q1t).1, q1r, tt, bb, bc, ↓bd, Nat.reduceEqDiff, Nat.reduceAdd, ↓reduceIte]
    exact q0x hb hm2 q1t (by omega) hk
   ·have e : q1p [0, 0] [a, b] = false := by
     cases hh : q1p [0, 0] [a, b] with
     | false => rfl
     | true => exact absurd (by simpa [q1p] using hh) hnn
    rw [e, if_neg (by decide)] at hm'
    rw [if_neg hnn, q0m he] at hk
    simp only [e, t6, d0, q1r, tt, bb, bc, ↓bd, Nat.reduceEqDiff, Nat.reduceAdd, ↓reduceIte]
    exact q0x hb hm' q1y (by omega) hk
  ·have y1 : (a.k == 2) = false := by simp [z1]
   rw [if_neg hp] at hk
   have hI : IS M (n + 1 + 1 + 1) (n + 1 + 1 + 1 + 1) (upd (H3 A n a b) (n + 1 + 1 + 1) (.cells 3 1 [[.int .i64 0], [.int .i64 0]])) [0, 0] := ⟨by omega, by omega, by rw [q0b, if_pos rfl]; rfl⟩
   simp only [q0, t0, t1, t2, t7, c1, y1, r38_0, tt, bb, bc, ↓bd, Nat.reduceEqDiff, Nat.reduceAdd, Nat.reduceMul, Nat.reduceLeDiff, ↓reduceIte, reduceCtorEq, List.reduceReplicate]
   refine q1w (ks := [0, 0]) (vs := [a, b]) (hm.up1 _) (hs.up1 _) hI (by simp) (by simp) rfl rfl ?_
   intro n' A' hm' hkp hn
   have q1y := ((Keep.refl M.b (n + 1 + 1 + 1) (H3 A n a b)).up1 (Nat.le_refl _) (.cells 3 1 [[.int .i64 0], [.int .i64 0]])).trans (by omega) hkp
   obtain ⟨d0, d1, d2⟩ := q0j (n' := n') hb q1y
   by_cases hnn : a.k = 0 ∧ b.k = 0
   ·have e : q1p [0, 0] [a, b] = true := by simp [q1p, hnn.1, hnn.2]
    rw [e, if_pos rfl] at hm'
    rw [if_pos hnn] at hk
    have ra := (q0w oa).1 hnn.1
    have rb := (q0w ob).1 hnn.2
    simp only [e, t0, t1, t7, t8, d1, d2, tt, bb, bc, ↓bd, Nat.reduceEqDiff, ↓reduceIte, reduceCtorEq]
    refine q3l hm' he (by omega) (by omega) (by decide) ?_
    intro n2 A2 hm2 q1k hn2
    have q1t := q1y.trans (by omega) q1k
    simp only [t6, (q0j (n' := n2) hb q1t).1, q1r, tt, bb, bc, ↓bd, Nat.reduceEqDiff, Nat.reduceAdd, ↓reduceIte]
    exact q0x hb hm2 q1t (by omega) hk
   ·have e : q1p [0, 0] [a, b] = false := by
     cases hh : q1p [0, 0] [a, b] with
     | false => rfl
     | true => exact absurd (by simpa [q1p] using hh) hnn
    rw [e, if_neg (by decide)] at hm'
    rw [if_neg hnn, q0m he] at hk
    simp only [e, t6, d0, q1r, tt, bb, bc, ↓bd, Nat.reduceEqDiff, Nat.reduceAdd, ↓reduceIte]
    exact q0x hb hm' q1y (by omega) hk
 ·have q0 : (q0e 3 == [97, 100, 100]) = false := rfl
  have q1 : (q0e 3 == [115, 117, 98]) = true := rfl
  rcases hz with ⟨z1, z2⟩ | ⟨z1, z2, hp⟩ | ⟨z1, hp⟩
  ·have i1 := (q0w oa).2.2 z1
   have i2 := (q0w ob).2.2 z2
   have y1 : (a.k == 2) = true := by simp [z1]
   have y2 : (b.k == 2) = true := by simp [z2]
   rw [if_pos ⟨z1, z2⟩] at hk
   simp only [q0, q1, t0, t1, t7, t8, c1, c2, y1, y2, r38_0, tt, bb, bc, ↓bd, Nat.reduceEqDiff, Nat.reduceAdd, ↓reduceIte, reduceCtorEq]
   refine q5m hm he (by decide) (by rw [i1.1, i1.2, i2.1, i2.2]; rfl) ?_
   intro n' A' hm' hkp hn
   simp only [t6, (q0j (n' := n') hb hkp).1, q1r, tt, bb, bc, ↓bd, Nat.reduceEqDiff, Nat.reduceAdd, ↓reduceIte]
   exact q0x hb hm' hkp hn hk
  ·have y1 : (a.k == 2) = true := by simp [z1]
   have y2 : (b.k == 2) = false := by simp [z2]
   rw [if_neg hp] at hk
   have hI : IS M (n + 1 + 1 + 1) (n + 1 + 1 + 1 + 1) (upd (H3 A n a b) (n + 1 + 1 + 1) (.cells 3 1 [[.int .i64 0], [.int .i64 0]])) [0, 0] := ⟨by omega, by omega, by rw [q0b, if_pos rfl]; rfl⟩
   simp only [q0, q1, t0, t1, t2, t7, t8, c1, c2, y1, y2, r38_0, tt, bb, bc, ↓bd, Nat.reduceEqDiff, Nat.reduceAdd, Nat.reduceMul, Nat.reduceLeDiff, ↓reduceIte, reduceCtorEq, List.reduceReplicate]
   refine q1w (ks := [0, 0]) (vs := [a, b]) (hm.up1 _) (hs.up1 _) hI (by simp) (by simp) rfl rfl ?_
   intro n' A' hm' hkp hn
   have q1y := ((Keep.refl M.b (n + 1 + 1 + 1) (H3 A n a b)).up1 (Nat.le_refl _) (.cells 3 1 [[.int .i64 0], [.int .i64 0]])).trans (by omega) hkp
   obtain ⟨d0, d1, d2⟩ := q0j (n' := n') hb q1y
   by_cases hnn : a.k = 0 ∧ b.k = 0
   ·have e : q1p [0, 0] [a, b] = true := by simp [q1p, hnn.1, hnn.2]
    rw [e, if_pos rfl] at hm'
    rw [if_pos hnn] at hk
    have ra := (q0w oa).1 hnn.1
    have rb := (q0w ob).1 hnn.2
    simp only [e, t0, t1, t7, t8, d1, d2, tt, bb, bc, ↓bd, Nat.reduceEqDiff, ↓reduceIte, reduceCtorEq]
    refine q3l hm' he (by omega) (by omega) (by decide) ?_
    intro n2 A2 hm2 q1k hn2
    have q1t := q1y.trans (by omega) q1k
    simp only [t6, (q0j (n' := n2) hb q1t).1, q1r, tt, bb, bc, ↓bd, Nat.reduceEqDiff, Nat.reduceAdd, ↓reduceIte]
    exact q0x hb hm2 q1t (by omega) hk
   ·have e : q1p [0, 0] [a, b] = false := by
     cases hh : q1p [0, 0] [a, b] with
     | false => rfl
     | true => exact absurd (by simpa [q1p] using hh) hnn
    rw [e, if_neg (by decide)] at hm'
    rw [if_neg hnn, q0m he] at hk
    simp only [e, t6, d0, q1r, tt, bb, bc, ↓bd, Nat.reduceEqDiff, Nat.reduceAdd, ↓reduceIte]
    exact q0x hb hm' q1y (by omega) hk
  ·have y1 : (a.k == 2) = false := by simp [z1]
   rw [if_neg hp] at hk
   have hI : IS M (n + 1 + 1 + 1) (n + 1 + 1 + 1 + 1) (upd (H3 A n a b) (n + 1 + 1 + 1) (.cells 3 1 [[.int .i64 0], [.int .i64 0]])) [0, 0] := ⟨by omega, by omega, by rw [q0b, if_pos rfl]; rfl⟩
   simp only [q0, q1, t0, t1, t2, t7, c1, y1, r38_0, tt, bb, bc, ↓bd, Nat.reduceEqDiff, Nat.reduceAdd, Nat.reduceMul, Nat.reduceLeDiff, ↓reduceIte, reduceCtorEq, List.reduceReplicate]
   refine q1w (ks := [0, 0]) (vs := [a, b]) (hm.up1 _) (hs.up1 _) hI (by simp) (by simp) rfl rfl ?_
   intro n' A' hm' hkp hn
   have q1y := ((Keep.refl M.b (n + 1 + 1 + 1) (H3 A n a b)).up1 (Nat.le_refl _) (.cells 3 1 [[.int .i64 0], [.int .i64 0]])).trans (by omega) hkp
   obtain ⟨d0, d1, d2⟩ := q0j (n' := n') hb q1y
   by_cases hnn : a.k = 0 ∧ b.k = 0
   ·have e : q1p [0, 0] [a, b] = true := by simp [q1p, hnn.1, hnn.2]
    rw [e, if_pos rfl] at hm'
    rw [if_pos hnn] at hk
    have ra := (q0w oa).1 hnn.1
    have rb := (q0w ob).1 hnn.2
    simp only [e, t0, t1, t7, t8, d1, d2, tt, bb, bc, ↓bd, Nat.reduceEqDiff, ↓reduceIte, reduceCtorEq]
    refine q3l hm' he (by omega) (by omega) (by decide) ?_
    intro n2 A2 hm2 q1k hn2
    have q1t := q1y.trans (by omega) q1k
    simp only [t6, (q0j (n' := n2) hb q1t).1, q1r, tt, bb, bc, ↓bd, Nat.reduceEqDiff, Nat.reduceAdd, ↓reduceIte]
    exact q0x hb hm2 q1t (by omega) hk
   ·have e : q1p [0, 0] [a, b] = false := by
     cases hh : q1p [0, 0] [a, b] with
     | false => rfl
     | true => exact absurd (by simpa [q1p] using hh) hnn
    rw [e, if_neg (by decide)] at hm'
    rw [if_neg hnn, q0m he] at hk
    simp only [e, t6, d0, q1r, tt, bb, bc, ↓bd, Nat.reduceEqDiff, Nat.reduceAdd, ↓reduceIte]
    exact q0x hb hm' q1y (by omega) hk
 ·have q0 : (q0e 4 == [97, 100, 100]) = false := rfl
  have q1 : (q0e 4 == [115, 117, 98]) = false := rfl
  have q2 : (q0e 4 == [109, 117, 108]) = true := rfl
  rcases hz with ⟨z1, z2⟩ | ⟨z1, z2, hp⟩ | ⟨z1, hp⟩
  ·have i1 := (q0w oa).2.2 z1
   have i2 := (q0w ob).2.2 z2
   have y1 : (a.k == 2) = true := by simp [z1]
   have y2 : (b.k == 2) = true := by simp [z2]
   rw [if_pos ⟨z1, z2⟩] at hk
   simp only [q0, q1, q2, t0, t1, t7, t8, c1, c2, y1, y2, r38_0, tt, bb, bc, ↓bd, Nat.reduceEqDiff, Nat.reduceAdd, ↓reduceIte, reduceCtorEq]
   refine q5m hm he (by decide) (by rw [i1.1, i1.2, i2.1, i2.2]; rfl) ?_
   intro n' A' hm' hkp hn
   simp only [t6, (q0j (n' := n') hb hkp).1, q1r, tt, bb, bc, ↓bd, Nat.reduceEqDiff, Nat.reduceAdd, ↓reduceIte]
   exact q0x hb hm' hkp hn hk
  ·have y1 : (a.k == 2) = true := by simp [z1]
   have y2 : (b.k == 2) = false := by simp [z2]
   rw [if_neg hp] at hk
   have hI : IS M (n + 1 + 1 + 1) (n + 1 + 1 + 1 + 1) (upd (H3 A n a b) (n + 1 + 1 + 1) (.cells 3 1 [[.int .i64 0], [.int .i64 0]])) [0, 0] := ⟨by omega, by omega, by rw [q0b, if_pos rfl]; rfl⟩
   simp only [q0, q1, q2, t0, t1, t2, t7, t8, c1, c2, y1, y2, r38_0, tt, bb, bc, ↓bd, Nat.reduceEqDiff, Nat.reduceAdd, Nat.reduceMul, Nat.reduceLeDiff, ↓reduceIte, reduceCtorEq, List.reduceReplicate]
   refine q1w (ks := [0, 0]) (vs := [a, b]) (hm.up1 _) (hs.up1 _) hI (by simp) (by simp) rfl rfl ?_
   intro n' A' hm' hkp hn
   have q1y := ((Keep.refl M.b (n + 1 + 1 + 1) (H3 A n a b)).up1 (Nat.le_refl _) (.cells 3 1 [[.int .i64 0], [.int .i64 0]])).trans (by omega) hkp
   obtain ⟨d0, d1, d2⟩ := q0j (n' := n') hb q1y
   by_cases hnn : a.k = 0 ∧ b.k = 0
   ·have e : q1p [0, 0] [a, b] = true := by simp [q1p, hnn.1, hnn.2]
    rw [e, if_pos rfl] at hm'
    rw [if_pos hnn] at hk
    have ra := (q0w oa).1 hnn.1
    have rb := (q0w ob).1 hnn.2
    simp only [e, t0, t1, t7, t8, d1, d2, tt, bb, bc, ↓bd, Nat.reduceEqDiff, ↓reduceIte, reduceCtorEq]
    refine q3l hm' he (by omega) (by omega) (by decide) ?_
    intro n2 A2 hm2 q1k hn2
    have q1t := q1y.trans (by omega) q1k
    simp only [t6, (q0j (n' := n2) hb q1t).1, q1r, tt, bb, bc, ↓bd, Nat.reduceEqDiff, Nat.reduceAdd, ↓reduceIte]
    exact q0x hb hm2 q1t (by omega) hk
   ·have e : q1p [0, 0] [a, b] = false := by
     cases hh : q1p [0, 0] [a, b] with
     | false => rfl
     | true => exact absurd (by simpa [q1p] using hh) hnn
    rw [e, if_neg (by decide)] at hm'
    rw [if_neg hnn, q0m he] at hk
    simp only [e, t6, d0, q1r, tt, bb, bc, ↓bd, Nat.reduceEqDiff, Nat.reduceAdd, ↓reduceIte]
    exact q0x hb hm' q1y (by omega) hk
  ·have y1 : (a.k == 2) = false := by simp [z1]
   rw [if_neg hp] at hk
   have hI : IS M (n + 1 + 1 + 1) (n + 1 + 1 + 1 + 1) (upd (H3 A n a b) (n + 1 + 1 + 1) (.cells 3 1 [[.int .i64 0], [.int .i64 0]])) [0, 0] := ⟨by omega, by omega, by rw [q0b, if_pos rfl]; rfl⟩
   simp only [q0, q1, q2, t0, t1, t2, t7, c1, y1, r38_0, tt, bb, bc, ↓bd, Nat.reduceEqDiff, Nat.reduceAdd, Nat.reduceMul, Nat.reduceLeDiff, ↓reduceIte, reduceCtorEq, List.reduceReplicate]
   refine q1w (ks := [0, 0]) (vs := [a, b]) (hm.up1 _) (hs.up1 _) hI (by simp) (by simp) rfl rfl ?_
   intro n' A' hm' hkp hn
   have q1y := ((Keep.refl M.b (n + 1 + 1 + 1) (H3 A n a b)).up1 (Nat.le_refl _) (.cells 3 1 [[.int .i64 0], [.int .i64 0]])).trans (by omega) hkp
   obtain ⟨d0, d1, d2⟩ := q0j (n' := n') hb q1y
   by_cases hnn : a.k = 0 ∧ b.k = 0
   ·have e : q1p [0, 0] [a, b] = true := by simp [q1p, hnn.1, hnn.2]
    rw [e, if_pos rfl] at hm'
    rw [if_pos hnn] at hk
    have ra := (q0w oa).1 hnn.1
    have rb := (q0w ob).1 hnn.2
    simp only [e, t0, t1, t7, t8, d1, d2, tt, bb, bc, ↓bd, Nat.reduceEqDiff, ↓reduceIte, reduceCtorEq]
    refine q3l hm' he (by omega) (by omega) (by decide) ?_
    intro n2 A2 hm2 q1k hn2
    have q1t := q1y.trans (by omega) q1k
    simp only [t6, (q0j (n' := n2) hb q1t).1, q1r, tt, bb, bc, ↓bd, Nat.reduceEqDiff, Nat.reduceAdd, ↓reduceIte]
    exact q0x hb hm2 q1t (by omega) hk
   ·have e : q1p [0, 0] [a, b] = false := by
     cases hh : q1p [0, 0] [a, b] with
     | false => rfl
     | true => exact absurd (by simpa [q1p] using hh) hnn
    rw [e, if_neg (by decide)] at hm'
    rw [if_neg hnn, q0m he] at hk
    simp only [e, t6, d0, q1r, tt, bb, bc, ↓bd, Nat.reduceEqDiff, Nat.reduceAdd, ↓reduceIte]
    exact q0x hb hm' q1y (by omega) hk
 ·have q0 : (q0e 5 == [97, 100, 100]) = false := rfl
  have q1 : (q0e 5 == [115, 117, 98]) = false := rfl
  have q2 : (q0e 5 == [109, 117, 108]) = false := rfl
  have q3 : (q0e 5 == [100, 105, 118]) = true := rfl
  rcases hz with ⟨z1, z2⟩ | ⟨z1, z2, hp⟩ | ⟨z1, hp⟩
  ·have i1 := (q0w oa).2.2 z1
   have i2 := (q0w ob).2.2 z2
   have y1 : (a.k == 2) = true := by simp [z1]
   have y2 : (b.k == 2) = true := by simp [z2]
   rw [if_pos ⟨z1, z2⟩] at hk
   simp only [q0, q1, q2, q3, t0, t1, t7, t8, c1, c2, y1, y2, r38_0, tt, bb, bc, ↓bd, Nat.reduceEqDiff, Nat.reduceAdd, ↓reduceIte, reduceCtorEq]
   refine q5m hm he (by decide) (by rw [i1.1, i1.2, i2.1, i2.2]; rfl) ?_
   intro n' A' hm' hkp hn
   simp only [t6, (q0j (n' := n') hb hkp).1, q1r, tt, bb, bc, ↓bd, Nat.reduceEqDiff, Nat.reduceAdd, ↓reduceIte]
   exact q0x hb hm' hkp hn hk
  ·have y1 : (a.k == 2) = true := by simp [z1]
   have y2 : (b.k == 2) = false := by simp [z2]
   rw [if_neg hp] at hk
   have hI : IS M (n + 1 + 1 + 1) (n + 1 + 1 + 1 + 1) (upd (H3 A n a b) (n + 1 + 1 + 1) (.cells 3 1 [[.int .i64 0], [.int .i64 0]])) [0, 0] := ⟨by omega, by omega, by rw [q0b, if_pos rfl]; rfl⟩
   simp only [q0, q1, q2, q3, t0, t1, t2, t7, t8, c1, c2, y1, y2, r38_0, tt, bb, bc, ↓bd, Nat.reduceEqDiff, Nat.reduceAdd, Nat.reduceMul, Nat.reduceLeDiff, ↓reduceIte, reduceCtorEq, List.reduceReplicate]
   refine q1w (ks := [0, 0]) (vs := [a, b]) (hm.up1 _) (hs.up1 _) hI (by simp) (by simp) rfl rfl ?_
   intro n' A' hm' hkp hn
   have q1y := ((Keep.refl M.b (n + 1 + 1 + 1) (H3 A n a b)).up1 (Nat.le_refl _) (.cells 3 1 [[.int .i64 0], [.int .i64 0]])).trans (by omega) hkp
   obtain ⟨d0, d1, d2⟩ := q0j (n' := n') hb q1y
   by_cases hnn : a.k = 0 ∧ b.k = 0
   ·have e : q1p [0, 0] [a, b] = true := by simp [q1p, hnn.1, hnn.2]
    rw [e, if_pos rfl] at hm'
    rw [if_pos hnn] at hk
    have ra := (q0w oa).1 hnn.1
    have rb := (q0w ob).1 hnn.2
    simp only [e, t0, t1, t7, t8, d1, d2, tt, bb, bc, ↓bd, Nat.reduceEqDiff, ↓reduceIte, reduceCtorEq]
    refine q3l hm' he (by omega) (by omega) (by decide) ?_
    intro n2 A2 hm2 q1k hn2
    have q1t := q1y.trans (by omega) q1k
    simp only [t6, (q0j (n' := n2) hb q1t).1, q1r, tt, bb, bc, ↓bd, Nat.reduceEqDiff, Nat.reduceAdd, ↓reduceIte]
    exact q0x hb hm2 q1t (by omega) hk
   ·have e : q1p [0, 0] [a, b] = false := by
     cases hh : q1p [0, 0] [a, b] with
     | false => rfl
     | true => exact absurd (by simpa [q1p] using hh) hnn
    rw [e, if_neg (by decide)] at hm'
    rw [if_neg hnn, q0m he] at hk
    simp only [e, t6, d0, q1r, tt, bb, bc, ↓bd, Nat.reduceEqDiff, Nat.reduceAdd, ↓reduceIte]
    exact q0x hb hm' q1y (by omega) hk
  ·have y1 : (a.k == 2) = false := by simp [z1]
   rw [if_neg hp] at hk
   have hI : IS M (n + 1 + 1 + 1) (n + 1 + 1 + 1 + 1) (upd (H3 A n a b) (n + 1 + 1 + 1) (.cells 3 1 [[.int .i64 0], [.int .i64 0]])) [0, 0] := ⟨by omega, by omega, by rw [q0b, if_pos rfl]; rfl⟩
   simp only [q0, q1, q2, q3, t0, t1, t2, t7, c1, y1, r38_0, tt, bb, bc, ↓bd, Nat.reduceEqDiff, Nat.reduceAdd, Nat.reduceMul, Nat.reduceLeDiff, ↓reduceIte, reduceCtorEq, List.reduceReplicate]
   refine q1w (ks := [0, 0]) (vs := [a, b]) (hm.up1 _) (hs.up1 _) hI (by simp) (by simp) rfl rfl ?_
   intro n' A' hm' hkp hn
   have q1y := ((Keep.refl M.b (n + 1 + 1 + 1) (H3 A n a b)).up1 (Nat.le_refl _) (.cells 3 1 [[.int .i64 0], [.int .i64 0]])).trans (by omega) hkp
   obtain ⟨d0, d1, d2⟩ := q0j (n' := n') hb q1y
   by_cases hnn : a.k = 0 ∧ b.k = 0
   ·have e : q1p [0, 0] [a, b] = true := by simp [q1p, hnn.1, hnn.2]
    rw [e, if_pos rfl] at hm'
    rw [if_pos hnn] at hk
    have ra := (q0w oa).1 hnn.1
    have rb := (q0w ob).1 hnn.2
    simp only [e, t0, t1, t7, t8, d1, d2, tt, bb, bc, ↓bd, Nat.reduceEqDiff, ↓reduceIte, reduceCtorEq]
    refine q3l hm' he (by omega) (by omega) (by decide) ?_
    intro n2 A2 hm2 q1k hn2
    have q1t := q1y.trans (by omega) q1k
    simp only [t6, (q0j (n' := n2) hb q1t).1, q1r, tt, bb, bc, ↓bd, Nat.reduceEqDiff, Nat.reduceAdd, ↓reduceIte]
    exact q0x hb hm2 q1t (by omega) hk
   ·have e : q1p [0, 0] [a, b] = false := by
     cases hh : q1p [0, 0] [a, b] with
     | false => rfl
     | true => exact absurd (by simpa [q1p] using hh) hnn
    rw [e, if_neg (by decide)] at hm'
    rw [if_neg hnn, q0m he] at hk
    simp only [e, t6, d0, q1r, tt, bb, bc, ↓bd, Nat.reduceEqDiff, Nat.reduceAdd, ↓reduceIte]
    exact q0x hb hm' q1y (by omega) hk
 ·have q0 : (q0e 6 == [97, 100, 100]) = false := rfl
  have q1 : (q0e 6 == [115, 117, 98]) = false := rfl
  have q2 : (q0e 6 == [109, 117, 108]) = false := rfl
  have q3 : (q0e 6 == [100, 105, 118]) = false := rfl
  have q4 : (q0e 6 == [109, 111, 100]) = true := rfl
  rcases hz with ⟨z1, z2⟩ | ⟨z1, z2, hp⟩ | ⟨z1, hp⟩
  ·have i1 := (q0w oa).2.2 z1
   have i2 := (q0w ob).2.2 z2
   have y1 : (a.k == 2) = true := by simp [z1]
   have y2 : (b.k == 2) = true := by simp [z2]
   rw [if_pos ⟨z1, z2⟩] at hk
   simp only [q0, q1, q2, q3, q4, t0, t1, t7, t8, c1, c2, y1, y2, r38_0, tt, bb, bc, ↓bd, Nat.reduceEqDiff, Nat.reduceAdd, ↓reduceIte, reduceCtorEq]
   refine q5m hm he (by decide) (by rw [i1.1, i1.2, i2.1, i2.2]; rfl) ?_
   intro n' A' hm' hkp hn
   simp only [t6, (q0j (n' := n') hb hkp).1, q1r, tt, bb, bc, ↓bd, Nat.reduceEqDiff, Nat.reduceAdd, ↓reduceIte]
   exact q0x hb hm' hkp hn hk
  ·have y1 : (a.k == 2) = true := by simp [z1]
   have y2 : (b.k == 2) = false := by simp [z2]
   rw [if_neg hp] at hk
   have hI : IS M (n + 1 + 1 + 1) (n + 1 + 1 + 1 + 1) (upd (H3 A n a b) (n + 1 + 1 + 1) (.cells 3 1 [[.int .i64 0], [.int .i64 0]])) [0, 0] := ⟨by omega, by omega, by rw [q0b, if_pos rfl]; rfl⟩
   simp only [q0, q1, q2, q3, q4, t0, t1, t2, t7, t8, c1, c2, y1, y2, r38_0, tt, bb, bc, ↓bd, Nat.reduceEqDiff, Nat.reduceAdd, Nat.reduceMul, Nat.reduceLeDiff, ↓reduceIte, reduceCtorEq, List.reduceReplicate]
   refine q1w (ks := [0, 0]) (vs := [a, b]) (hm.up1 _) (hs.up1 _) hI (by simp) (by simp) rfl rfl ?_
   intro n' A' hm' hkp hn
   have q1y := ((Keep.refl M.b (n + 1 + 1 + 1) (H3 A n a b)).up1 (Nat.le_refl _) (.cells 3 1 [[.int .i64 0], [.int .i64 0]])).trans (by omega) hkp
   obtain ⟨d0, d1, d2⟩ := q0j (n' := n') hb q1y
   by_cases hnn : a.k = 0 ∧ b.k = 0
   ·have e : q1p [0, 0] [a, b] = true := by simp [q1p, hnn.1, hnn.2]
    rw [e, if_pos rfl] at hm'
    rw [if_pos hnn] at hk
    have ra := (q0w oa).1 hnn.1
    have rb := (q0w ob).1 hnn.2
    simp only [e, t0, t1, t7, t8, d1, d2, tt, bb, bc, ↓bd, Nat.reduceEqDiff, ↓reduceIte, reduceCtorEq]
    refine q3l hm' he (by omega) (by omega) (by decide) ?_
    intro n2 A2 hm2 q1k hn2
    have q1t := q1y.trans (by omega) q1k
    simp only [t6, (q0j (n' := n2) hb q1t).1, q1r, tt, bb, bc, ↓bd, Nat.reduceEqDiff, Nat.reduceAdd, ↓reduceIte]
    exact q0x hb hm2 q1t (by omega) hk
   ·have e : q1p [0, 0] [a, b] = false := by
     cases hh : q1p [0, 0] [a, b] with
     | false => rfl
     | true => exact absurd (by simpa [q1p] using hh) hnn
    rw [e, if_neg (by decide)] at hm'
    rw [if_neg hnn, q0m he] at hk
    simp only [e, t6, d0, q1r, tt, bb, bc, ↓bd, Nat.reduceEqDiff, Nat.reduceAdd, ↓reduceIte]
    exact q0x hb hm' q1y (by omega) hk
  ·have y1 : (a.k == 2) = false := by simp [z1]
   rw [if_neg hp] at hk
   have hI : IS M (n + 1 + 1 + 1) (n + 1 + 1 + 1 + 1) (upd (H3 A n a b) (n + 1 + 1 + 1) (.cells 3 1 [[.int .i64 0], [.int .i64 0]])) [0, 0] := ⟨by omega, by omega, by rw [q0b, if_pos rfl]; rfl⟩
   simp only [q0, q1, q2, q3, q4, t0, t1, t2, t7, c1, y1, r38_0, tt, bb, bc, ↓bd, Nat.reduceEqDiff, Nat.reduceAdd, Nat.reduceMul, Nat.reduceLeDiff, ↓reduceIte, reduceCtorEq, List.reduceReplicate]
   refine q1w (ks := [0, 0]) (vs := [a, b]) (hm.up1 _) (hs.up1 _) hI (by simp) (by simp) rfl rfl ?_
   intro n' A' hm' hkp hn
   have q1y := ((Keep.refl M.b (n + 1 + 1 + 1) (H3 A n a b)).up1 (Nat.le_refl _) (.cells 3 1 [[.int .i64 0], [.int .i64 0]])).trans (by omega) hkp
   obtain ⟨d0, d1, d2⟩ := q0j (n' := n') hb q1y
   by_cases hnn : a.k = 0 ∧ b.k = 0
   ·have e : q1p [0, 0] [a, b] = true := by simp [q1p, hnn.1, hnn.2]
    rw [e, if_pos rfl] at hm'
    rw [if_pos hnn] at hk
    have ra := (q0w oa).1 hnn.1
    have rb := (q0w ob).1 hnn.2
    simp only [e, t0, t1, t7, t8, d1, d2, tt, bb, bc, ↓bd, Nat.reduceEqDiff, ↓reduceIte, reduceCtorEq]
    refine q3l hm' he (by omega) (by omega) (by decide) ?_
    intro n2 A2 hm2 q1k hn2
    have q1t := q1y.trans (by omega) q1k
    simp only [t6, (q0j (n' := n2) hb q1t).1, q1r, tt, bb, bc, ↓bd, Nat.reduceEqDiff, Nat.reduceAdd, ↓reduceIte]
    exact q0x hb hm2 q1t (by omega) hk
   ·have e : q1p [0, 0] [a, b] = false := by
     cases hh : q1p [0, 0] [a, b] with
     | false => rfl
     | true => exact absurd (by simpa [q1p] using hh) hnn
    rw [e, if_neg (by decide)] at hm'
    rw [if_neg hnn, q0m he] at hk
    simp only [e, t6, d0, q1r, tt, bb, bc, ↓bd, Nat.reduceEqDiff, Nat.reduceAdd, ↓reduceIte]
    exact q0x hb hm' q1y (by omega) hk
end
section
variable {fn : FuncId} {T : Nat → AV} {ds : List ADef} {ro : Option Nat} {k : List AItem} {Q : AV → AHeap → Prop} {dst : Option Nat} {os : List AO}
theorem x9s {a b : Vl} (h : z1j a b = 0) : a = b := by
 have e := j0o a b
 rw [show (z1j a b == 0) = true by simp [h]] at e
 simp only [Bool.and_eq_true, beq_iff_eq] at e
 obtain ⟨h1, h2, h3, h4, h5⟩ := e
 cases a; cases b
 simp only at h1 h2 h3 h4 h5
 subst h1 h2 h3 h4 h5
 rfl
theorem w6e {M : Mch} {n g : Nat} {A : Nat → Blk} {s : St} {a b : Vl} (h : MR M n A s) (he : s.err = 0) (ha : AS M g n A [a, b]) (oa : okV a = true) (ob : okV b = true) (ho : s.out.length ≤ 64)
  (hk : ∀ n' A', MR M n' A' (q1v (ap2 8 a b s.out.length) s).2 → Keep M.b n A A' → n ≤ n' → q0d Cx fn (putA T dst (q1o (q1v (ap2 8 a b s.out.length) s).1)) ds ro os k ⟨n', A'⟩ Q) :
  q0g Cx fn T ds ro 38 [.ptr M.b 22 0 0, .str (q0e 8), .slc g 5 0 2] dst os k ⟨n, A⟩ Q := by
 have hb := h.lt
 refine q2j (vs := [a, b]) h ha rfl rfl (by simp) rfl ?_
 intro T' t0 t1 t2 t6 t7 t8
 have hm := q6f (a := a) (b := b) h
 have hs := q6g (a := a) (b := b) ha
 have kr := Keep.refl M.b (n + 1 + 1 + 1) (H3 A n a b)
 obtain ⟨c0, c1, c2⟩ := q0j (n' := n + 1 + 1 + 1) hb kr
 have eap : ap2 8 a b s.out.length = if a.k = b.k then .val (x1a (decide (z1j a b < 0))) else .bad 13 := rfl
 rw [eap] at hk
 by_cases hkk : a.k = b.k
 ·rw [if_pos hkk] at hk
  have y : (a.k != b.k) = false := by simp [hkk]
  have hor : q0k Cx 59 [.agg [.int .i64 a.k, .int .i64 a.n, .str a.s, .int .i64 a.x, .int .i64 a.y], .agg [.int .i64 b.k, .int .i64 b.n, .str b.s, .int .i64 b.x, .int .i64 b.y]] (.int .i64 (z1j a b)) := z0h (show q1j a.k a.n a.s a.x a.y = true from oa) (show q1j b.k b.n b.s b.x b.y = true from ob)
  simp only [wq8, t1, t6, t7, t8, c0, c1, c2, y, q0a j3o rfl hor, q0a x3j rfl (z0i (decide (z1j a b < 0))), r38_0, q1r, tt, bb, bc, ↓bd, Nat.reduceEqDiff, Nat.reduceAdd, ↓reduceIte]
  exact q0x hb hm kr (Nat.le_refl _) hk
 ·rw [if_neg hkk, q0m he] at hk
  have y : (a.k != b.k) = true := by simpa using hkk
  simp only [wq8, t0, t1, t7, t8, c1, c2, y, r38_0, tt, bb, bc, ↓bd, Nat.reduceEqDiff, ↓reduceIte, reduceCtorEq]
  refine q0q hm ?_
  intro n' A' hm' hkp hn
  simp only [t6, (q0j (n' := n') hb hkp).1, q1r, tt, bb, bc, ↓bd, Nat.reduceEqDiff, Nat.reduceAdd, ↓reduceIte]
  exact q0x hb hm' hkp hn hk
theorem v0j {M : Mch} {n g : Nat} {A : Nat → Blk} {s : St} {a b : Vl} (h : MR M n A s) (he : s.err = 0) (ha : AS M g n A [a, b]) (oa : okV a = true) (ob : okV b = true) (ho : s.out.length ≤ 64)
  (hk : ∀ n' A', MR M n' A' (q1v (ap2 12 a b s.out.length) s).2 → Keep M.b n A A' → n ≤ n' → q0d Cx fn (putA T dst (q1o (q1v (ap2 12 a b s.out.length) s).1)) ds ro os k ⟨n', A'⟩ Q) :
  q0g Cx fn T ds ro 38 [.ptr M.b 22 0 0, .str (q0e 12), .slc g 5 0 2] dst os k ⟨n, A⟩ Q := by
 have hb := h.lt
 refine q2j (vs := [a, b]) h ha rfl rfl (by simp) rfl ?_
 intro T' t0 t1 t2 t6 t7 t8
 have hm := q6f (a := a) (b := b) h
 have hs := q6g (a := a) (b := b) ha
 have kr := Keep.refl M.b (n + 1 + 1 + 1) (H3 A n a b)
 obtain ⟨c0, c1, c2⟩ := q0j (n' := n + 1 + 1 + 1) hb kr
 have eap : ap2 12 a b s.out.length = if a.k = b.k then .val (if 0 < z1j a b then a else b) else .bad 13 := rfl
 rw [eap] at hk
 by_cases hkk : a.k = b.k
 ·rw [if_pos hkk] at hk
  have y : (a.k != b.k) = false := by simp [hkk]
  have hor : q0k Cx 59 [.agg [.int .i64 a.k, .int .i64 a.n, .str a.s, .int .i64 a.x, .int .i64 a.y], .agg [.int .i64 b.k, .int .i64 b.n, .str b.s, .int .i64 b.x, .int .i64 b.y]] (.int .i64 (z1j a b)) := z0h (show q1j a.k a.n a.s a.x a.y = true from oa) (show q1j b.k b.n b.s b.x b.y = true from ob)
  by_cases hc : 0 < z1j a b
  ·rw [if_pos hc] at hk
   simp only [w9r, t1, t6, t7, t8, c0, c1, c2, y, hc, q0a j3o rfl hor, r38_0, q1r, tt, bb, bc, ↓bd, Nat.reduceEqDiff, Nat.reduceAdd, ↓reduceIte, reduceCtorEq]
   exact q0x hb hm kr (Nat.le_refl _) hk
  ·rw [if_neg hc] at hk
   simp only [w9r, t1, t6, t7, t8, c0, c1, c2, y, hc, q0a j3o rfl hor, r38_0, q1r, tt, bb, bc, ↓bd, Nat.reduceEqDiff, Nat.reduceAdd, ↓reduceIte]
   exact q0x hb hm kr (Nat.le_refl _) hk
 ·rw [if_neg hkk, q0m he] at hk
  have y : (a.k != b.k) = true := by simpa using hkk
  simp only [w9r, t0, t1, t7, t8, c1, c2, y, r38_0, tt, bb, bc, ↓bd, Nat.reduceEqDiff, ↓reduceIte, reduceCtorEq]
  refine q0q hm ?_
  intro n' A' hm' hkp hn
  simp only [t6, (q0j (n' := n') hb hkp).1, q1r, tt, bb, bc, ↓bd, Nat.reduceEqDiff, Nat.reduceAdd, ↓reduceIte]
  exact q0x hb hm' hkp hn hk
theorem v0k {M : Mch} {n g : Nat} {A : Nat → Blk} {s : St} {a b : Vl} (h : MR M n A s) (he : s.err = 0) (ha : AS M g n A [a, b]) (oa : okV a = true) (ob : okV b = true) (ho : s.out.length ≤ 64)
  (hk : ∀ n' A', MR M n' A' (q1v (ap2 13 a b s.out.length) s).2 → Keep M.b n A A' → n ≤ n' → q0d Cx fn (putA T dst (q1o (q1v (ap2 13 a b s.out.length) s).1)) ds ro os k ⟨n', A'⟩ Q) :
  q0g Cx fn T ds ro 38 [.ptr M.b 22 0 0, .str (q0e 13), .slc g 5 0 2] dst os k ⟨n, A⟩ Q := by
 have hb := h.lt
 refine q2j (vs := [a, b]) h ha rfl rfl (by simp) rfl ?_
 intro T' t0 t1 t2 t6 t7 t8
 have hm := q6f (a := a) (b := b) h
 have hs := q6g (a := a) (b := b) ha
 have kr := Keep.refl M.b (n + 1 + 1 + 1) (H3 A n a b)
 obtain ⟨c0, c1, c2⟩ := q0j (n' := n + 1 + 1 + 1) hb kr
 have eap : ap2 13 a b s.out.length = if a.k = b.k then .val (if z1j a b ≤ 0 then a else b) else .bad 13 := rfl
 rw [eap] at hk
 by_cases hkk : a.k = b.k
 ·rw [if_pos hkk] at hk
  have y : (a.k != b.k) = false := by simp [hkk]
  have hor : q0k Cx 59 [.agg [.int .i64 a.k, .int .i64 a.n, .str a.s, .int .i64 a.x, .int .i64 a.y], .agg [.int .i64 b.k, .int .i64 b.n, .str b.s, .int .i64 b.x, .int .i64 b.y]] (.int .i64 (z1j a b)) := z0h (show q1j a.k a.n a.s a.x a.y = true from oa) (show q1j b.k b.n b.s b.x b.y = true from ob)
  by_cases hc : z1j a b < 0
  ·rw [if_pos (by omega)] at hk
   simp only [w9s, t1, t6, t7, t8, c0, c1, c2, y, hc, q0a j3o rfl hor, r38_0, q1r, tt, bb, bc, ↓bd, Nat.reduceEqDiff, Nat.reduceAdd, ↓reduceIte]
   exact q0x hb hm kr (Nat.le_refl _) hk
  ·have hv : (if z1j a b ≤ 0 then a else b) = b := by
    by_cases h0 : z1j a b ≤ 0
    ·rw [if_pos h0]
     exact x9s (by omega)
    ·rw [if_neg h0]
   rw [hv] at hk
   simp only [w9s, t1, t6, t7, t8, c0, c1, c2, y, hc, q0a j3o rfl hor, r38_0, q1r, tt, bb, bc, ↓bd, Nat.reduceEqDiff, Nat.reduceAdd, ↓reduceIte]
   exact q0x hb hm kr (Nat.le_refl _) hk
 ·rw [if_neg hkk, q0m he] at hk
  have y : (a.k != b.k) = true := by simpa using hkk
  simp only [w9s, t0, t1, t7, t8, c1, c2, y, r38_0, tt, bb, bc, ↓bd, Nat.reduceEqDiff, ↓reduceIte, reduceCtorEq]
  refine q0q hm ?_
  intro n' A' hm' hkp hn
  simp only [t6, (q0j (n' := n') hb hkp).1, q1r, tt, bb, bc, ↓bd, Nat.reduceEqDiff, Nat.reduceAdd, ↓reduceIte]
  exact q0x hb hm' hkp hn hk
theorem w6f {M : Mch} {n g : Nat} {A : Nat → Blk} {s : St} {a b : Vl} (h : MR M n A s) (he : s.err = 0) (ha : AS M g n A [a, b]) (oa : okV a = true) (ob : okV b = true) (ho : s.out.length ≤ 64)
  (hk : ∀ n' A', MR M n' A' (q1v (ap2 9 a b s.out.length) s).2 → Keep M.b n A A' → n ≤ n' → q0d Cx fn (putA T dst (q1o (q1v (ap2 9 a b s.out.length) s).1)) ds ro os k ⟨n', A'⟩ Q) :
  q0g Cx fn T ds ro 38 [.ptr M.b 22 0 0, .str (q0e 9), .slc g 5 0 2] dst os k ⟨n, A⟩ Q := by
 have hb := h.lt
 refine q2j (vs := [a, b]) h ha rfl rfl (by simp) rfl ?_
 intro T' t0 t1 t2 t6 t7 t8
 have hm := q6f (a := a) (b := b) h
 have hs := q6g (a := a) (b := b) ha
 have kr := Keep.refl M.b (n + 1 + 1 + 1) (H3 A n a b)
 obtain ⟨c0, c1, c2⟩ := q0j (n' := n + 1 + 1 + 1) hb kr
 have eap : ap2 9 a b s.out.length = .val (x1a (z1j a b == 0)) := rfl
 rw [eap] at hk
 simp only [wq9, t1, t6, t7, t8, c0, c1, c2, j0o, q0a x3j rfl (z0i (z1j a b == 0)), r38_0, q1r, tt, bb, bc, ↓bd, Nat.reduceEqDiff, Nat.reduceAdd, ↓reduceIte]
 exact q0x hb hm kr (Nat.le_refl _) hk
theorem w6g {M : Mch} {n g : Nat} {A : Nat → Blk} {s : St} {a b : Vl} (h : MR M n A s) (he : s.err = 0) (ha : AS M g n A [a, b]) (oa : okV a = true) (ob : okV b = true) (ho : s.out.length ≤ 64)
  (hk : ∀ n' A', MR M n' A' (q1v (ap2 27 a b s.out.length) s).2 → Keep M.b n A A' → n ≤ n' → q0d Cx fn (putA T dst (q1o (q1v (ap2 27 a b s.out.length) s).1)) ds ro os k ⟨n', A'⟩ Q) :
  q0g Cx fn T ds ro 38 [.ptr M.b 22 0 0, .str (q0e 27), .slc g 5 0 2] dst os k ⟨n, A⟩ Q := by
 have hb := h.lt
 refine q2j (vs := [a, b]) h ha rfl rfl (by simp) rfl ?_
 intro T' t0 t1 t2 t6 t7 t8
 have hm := q6f (a := a) (b := b) h
 have hs := q6g (a := a) (b := b) ha
 have kr := Keep.refl M.b (n + 1 + 1 + 1) (H3 A n a b)
 obtain ⟨c0, c1, c2⟩ := q0j (n' := n + 1 + 1 + 1) hb kr
 have eap : ap2 27 a b s.out.length = .val b := rfl
 rw [eap] at hk
 simp only [wq27, t1, t6, t8, c0, c2, r38_0, q1r, tt, bb, bc, ↓bd, Nat.reduceEqDiff, Nat.reduceAdd, ↓reduceIte]
 exact q0x hb hm kr (Nat.le_refl _) hk
end
section
variable {fn : FuncId} {T : Nat → AV} {ds : List ADef} {ro : Option Nat} {k : List AItem} {Q : AV → AHeap → Prop} {dst : Option Nat} {os : List AO}
theorem j0r {M : Mch} {n : Nat} {A : Nat → Blk} {s : St} {w : Bytes} {v : AV} (h : MR M n A s) (hw : (w == [99, 97, 116]) = false ∧ (w == [119, 111, 114, 100]) = false ∧ (w == [99, 117, 116]) = false ∧ (w == [108, 101, 110]) = false ∧ (w == [119, 111, 114, 100, 115]) = false ∧ (w == [110, 117, 109]) = false) (hv : v.plain = true)
  (hk : ∀ n' A', MR M n' A' s → Keep M.b n A A' → n ≤ n' → q0d Cx fn (putA T dst (q1o zV)) ds ro os k ⟨n', A'⟩ Q) :
  q0g Cx fn T ds ro 64 [.ptr M.b 22 0 0, .str w, v] dst os k ⟨n, A⟩ Q := by
 refine q0s z6h (q0l _) z6g ?_
 have hb := h.lt
 obtain ⟨q1, q2, q3, q4, q5, q6⟩ := hw
 have e1 : (n = n + 1) = False := eq_false (by omega)
 simp only [q1, q2, q3, q4, q5, q6, e1, r64_0, q5p, tt, bb, bc, ↓bd, Nat.reduceEqDiff, Nat.reduceAdd, Nat.reduceMul, Nat.reduceLeDiff, ↓reduceIte, List.reduceReplicate]
 have h2 := (h.up1 zB).up1 (.cells 3 1 [[.int .i64 1]])
 exact hk (n + 1 + 1) _ (h2.upo (c := n) (by omega) (by rw [q0b, if_neg (by omega), q0b, if_pos rfl]; exact q3j) _) ((((Keep.refl _ _ _).up1 (Nat.le_refl _) _).up1 (n' := n + 1) (by omega) _).up1 (by omega) _) (by omega)
theorem v0l {M : Mch} {n g : Nat} {A : Nat → Blk} {s : St} {a : Vl} (h : MR M n A s) (he : s.err = 0) (ha : AS M g n A [a]) (oa : okV a = true) (ho : s.out.length ≤ 64)
  (hk : ∀ n' A', MR M n' A' (q1v (ap1 7 a) s).2 → Keep M.b n A A' → n ≤ n' → q0d Cx fn (putA T dst (q1o (q1v (ap1 7 a) s).1)) ds ro os k ⟨n', A'⟩ Q) :
  q0g Cx fn T ds ro 38 [.ptr M.b 22 0 0, .str (q0e 7), .slc g 5 0 1] dst os k ⟨n, A⟩ Q := by
 have hb := h.lt
 refine q2j (vs := [a]) h ha rfl rfl (by simp) rfl ?_
 intro T' t0 t1 t2 t6 t7 t8
 have hm := q6f (a := a) (b := a) h
 have hs := q6g (a := a) (b := a) ha
 have kr := Keep.refl M.b (n + 1 + 1 + 1) (H3 A n a a)
 obtain ⟨c0, c1, c2⟩ := q0j (n' := n + 1 + 1 + 1) hb kr
 have eap : ap1 7 a = if a.k = 2 then .val (pV (-a.x) (-a.y)) else if a.k = 0 then .val (nV (-a.n)) else .bad 13 := rfl
 rw [eap] at hk
 by_cases h2 : a.k = 2
 ·rw [if_pos h2] at hk
  have i1 := (q0w oa).2.2 h2
  have ix := inR_iff.mp i1.1
  have iy := inR_iff.mp i1.2
  have w1 : IntKind.i64.wrap (0 - a.x) = -a.x := by rw [wr64 (by omega) (by omega)]; omega
  have w2 : IntKind.i64.wrap (0 - a.y) = -a.y := by rw [wr64 (by omega) (by omega)]; omega
  have y : (a.k == 2) = true := by simp [h2]
  simp only [wq7, t1, t6, t7, c0, c1, y, w1, w2, r38_0, q1r, tt, bb, bc, ↓bd, Nat.reduceEqDiff, Nat.reduceAdd, Nat.reduceLeDiff, ↓reduceIte]
  exact q0x hb hm kr (Nat.le_refl _) hk
 ·rw [if_neg h2] at hk
  have y : (a.k == 2) = false := by simp [h2]
  have hI : IS M (n + 1 + 1 + 1) (n + 1 + 1 + 1 + 1) (upd (H3 A n a a) (n + 1 + 1 + 1) (.cells 3 1 [[.int .i64 0]])) [0] := ⟨by omega, by omega, by rw [q0b, if_pos rfl]; rfl⟩
  simp only [wq7, t0, t1, t2, t7, c1, y, r38_0, tt, bb, bc, ↓bd, Nat.reduceEqDiff, Nat.reduceMul, Nat.reduceLeDiff, ↓reduceIte, reduceCtorEq, List.reduceReplicate]
  refine q1w (ks := [0]) (vs := [a]) (hm.up1 _) (hs.up1 _) hI (by simp) (by simp) rfl rfl ?_
  intro n' A' hm' hkp hn
  have q1y := ((Keep.refl M.b (n + 1 + 1 + 1) (H3 A n a a)).up1 (Nat.le_refl _) (.cells 3 1 [[.int .i64 0]])).trans (by omega) hkp
  obtain ⟨d0, d1, d2⟩ := q0j (n' := n') hb q1y
  by_cases hnn : a.k = 0
  ·have e : q1p [0] [a] = true := by simp [q1p, hnn]
   rw [e, if_pos rfl] at hm'
   rw [if_pos hnn] at hk
   have ra := (q0w oa).1 hnn
   have w1 : IntKind.i64.wrap (0 - a.n) = -a.n := by rw [wr64 (by omega) (by omega)]; omega
   simp only [e, t6, t7, d0, d1, w1, q0a q3q rfl (q1s (-a.n)), q1r, tt, bb, bc, ↓bd, Nat.reduceEqDiff, Nat.reduceAdd, ↓reduceIte]
   exact q0x hb hm' q1y (by omega) hk
  ·have e : q1p [0] [a] = false := by
    cases hh : q1p [0] [a] with
    | false => rfl
    | true => exact absurd (by simpa [q1p] using hh) hnn
   rw [e, if_neg (by decide)] at hm'
   rw [if_neg hnn, q0m he] at hk
   simp only [e, t0, t1, t2, xx, tt, bb, bc, ↓bd, Nat.reduceEqDiff, ↓reduceIte, reduceCtorEq]
   refine j0r hm' ⟨rfl, rfl, rfl, rfl, rfl, rfl⟩ rfl ?_
   intro n2 A2 hm2 q1k hn2
   have q1t := q1y.trans (by omega) q1k
   simp only [t6, (q0j (n' := n2) hb q1t).1, q1r, tt, bb, bc, ↓bd, Nat.reduceEqDiff, Nat.reduceAdd, ↓reduceIte]
   exact q0x hb hm2 q1t (by omega) hk
theorem v0m {M : Mch} {n g : Nat} {A : Nat → Blk} {s : St} {a : Vl} (h : MR M n A s) (he : s.err = 0) (ha : AS M g n A [a]) (oa : okV a = true) (ho : s.out.length ≤ 64)
  (hk : ∀ n' A', MR M n' A' (q1v (ap1 10 a) s).2 → Keep M.b n A A' → n ≤ n' → q0d Cx fn (putA T dst (q1o (q1v (ap1 10 a) s).1)) ds ro os k ⟨n', A'⟩ Q) :
  q0g Cx fn T ds ro 38 [.ptr M.b 22 0 0, .str (q0e 10), .slc g 5 0 1] dst os k ⟨n, A⟩ Q := by
 have hb := h.lt
 refine q2j (vs := [a]) h ha rfl rfl (by simp) rfl ?_
 intro T' t0 t1 t2 t6 t7 t8
 have hm := q6f (a := a) (b := a) h
 have hs := q6g (a := a) (b := a) ha
 have kr := Keep.refl M.b (n + 1 + 1 + 1) (H3 A n a a)
 obtain ⟨c0, c1, c2⟩ := q0j (n' := n + 1 + 1 + 1) hb kr
 have eap : ap1 10 a = if a.k = 0 then .val (x1a (a.n == 0)) else .bad 13 := rfl
 rw [eap] at hk
 have hI : IS M (n + 1 + 1 + 1) (n + 1 + 1 + 1 + 1) (upd (H3 A n a a) (n + 1 + 1 + 1) (.cells 3 1 [[.int .i64 0]])) [0] := ⟨by omega, by omega, by rw [q0b, if_pos rfl]; rfl⟩
 simp only [wq10, t0, t1, t2, r38_0, r38_1, tt, bb, bc, ↓bd, Nat.reduceEqDiff, Nat.reduceMul, Nat.reduceLeDiff, ↓reduceIte, reduceCtorEq, List.reduceReplicate]
 refine q1w (ks := [0]) (vs := [a]) (hm.up1 _) (hs.up1 _) hI (by simp) (by simp) rfl rfl ?_
 intro n' A' hm' hkp hn
 have q1y := ((Keep.refl M.b (n + 1 + 1 + 1) (H3 A n a a)).up1 (Nat.le_refl _) (.cells 3 1 [[.int .i64 0]])).trans (by omega) hkp
 obtain ⟨d0, d1, d2⟩ := q0j (n' := n') hb q1y
 by_cases hnn : a.k = 0
 ·have e : q1p [0] [a] = true := by simp [q1p, hnn]
  rw [e, if_pos rfl] at hm'
  rw [if_pos hnn] at hk
  simp only [e, t6, t7, d0, d1, q0a x3j rfl (z0i (a.n == 0)), q1r, tt, bb, bc, ↓bd, Nat.reduceEqDiff, Nat.reduceAdd, ↓reduceIte]
  exact q0x hb hm' q1y (by omega) hk
 ·have e : q1p [0] [a] = false := by
   cases hh : q1p [0] [a] with
   | false => rfl
   | true => exact absurd (by simpa [q1p] using hh) hnn
  rw [e, if_neg (by decide)] at hm'
  rw [if_neg hnn, q0m he] at hk
  simp only [e, t0, t1, t2, xx, tt, bb, bc, ↓bd, Nat.reduceEqDiff, ↓reduceIte, reduceCtorEq]
  refine j0r hm' ⟨rfl, rfl, rfl, rfl, rfl, rfl⟩ rfl ?_
  intro n2 A2 hm2 q1k hn2
  have q1t := q1y.trans (by omega) q1k
  simp only [t6, (q0j (n' := n2) hb q1t).1, q1r, tt, bb, bc, ↓bd, Nat.reduceEqDiff, Nat.reduceAdd, ↓reduceIte]
  exact q0x hb hm2 q1t (by omega) hk
theorem a_at {M : Mch} {n g : Nat} {A : Nat → Blk} {s : St} {a b : Vl} (h : MR M n A s) (he : s.err = 0) (ha : AS M g n A [a, b]) (oa : okV a = true) (ob : okV b = true) (ho : s.out.length ≤ 64)
  (hk : ∀ n' A', MR M n' A' (q1v (ap2 21 a b s.out.length) s).2 → Keep M.b n A A' → n ≤ n' → q0d Cx fn (putA T dst (q1o (q1v (ap2 21 a b s.out.length) s).1)) ds ro os k ⟨n', A'⟩ Q) :
  q0g Cx fn T ds ro 38 [.ptr M.b 22 0 0, .str (q0e 21), .slc g 5 0 2] dst os k ⟨n, A⟩ Q := by
 have hb := h.lt
 refine q2j (vs := [a, b]) h ha rfl rfl (by simp) rfl ?_
 intro T' t0 t1 t2 t6 t7 t8
 have hm := q6f (a := a) (b := b) h
 have hs := q6g (a := a) (b := b) ha
 have kr := Keep.refl M.b (n + 1 + 1 + 1) (H3 A n a b)
 obtain ⟨c0, c1, c2⟩ := q0j (n' := n + 1 + 1 + 1) hb kr
 have eap : ap2 21 a b s.out.length = if a.k = 0 ∧ b.k = 0 then z7m a.n b.n else .bad 13 := rfl
 rw [eap] at hk
 have hI : IS M (n + 1 + 1 + 1) (n + 1 + 1 + 1 + 1) (upd (H3 A n a b) (n + 1 + 1 + 1) (.cells 3 1 [[.int .i64 0], [.int .i64 0]])) [0, 0] := ⟨by omega, by omega, by rw [q0b, if_pos rfl]; rfl⟩
 simp only [wq21, t0, t1, t2, r38_0, r38_1, tt, bb, bc, ↓bd, Nat.reduceEqDiff, Nat.reduceAdd, Nat.reduceMul, Nat.reduceLeDiff, ↓reduceIte, reduceCtorEq, List.reduceReplicate]
 refine q1w (ks := [0, 0]) (vs := [a, b]) (hm.up1 _) (hs.up1 _) hI (by simp) (by simp) rfl rfl ?_
 intro n' A' hm' hkp hn
 have q1y := ((Keep.refl M.b (n + 1 + 1 + 1) (H3 A n a b)).up1 (Nat.le_refl _) (.cells 3 1 [[.int .i64 0], [.int .i64 0]])).trans (by omega) hkp
 obtain ⟨d0, d1, d2⟩ := q0j (n' := n') hb q1y
 by_cases hnn : a.k = 0 ∧ b.k = 0
 ·have e : q1p [0, 0] [a, b] = true := by simp [q1p, hnn.1, hnn.2]
  rw [e, if_pos rfl] at hm'
  rw [if_pos hnn] at hk
  rw [← z9b] at hk
  simp only [e, t0, t7, t8, d1, d2, tt, bb, bc, ↓bd, Nat.reduceEqDiff, Nat.reduceAdd, Nat.reduceLeDiff, ↓reduceIte, reduceCtorEq]
  refine q1x (v := pV a.n b.n) hm' he ?_
  intro n2 A2 hm2 q1k hn2
  have q1t := q1y.trans (by omega) q1k
  simp only [t6, (q0j (n' := n2) hb q1t).1, q1r, tt, bb, bc, ↓bd, Nat.reduceEqDiff, Nat.reduceAdd, ↓reduceIte]
  exact q0x hb hm2 q1t (by omega) hk
 ·have e : q1p [0, 0] [a, b] = false := by
   cases hh : q1p [0, 0] [a, b] with
   | false => rfl
   | true => exact absurd (by simpa [q1p] using hh) hnn
  rw [e, if_neg (by decide)] at hm'
  rw [if_neg hnn, q0m he] at hk
  simp only [e, t0, t1, t2, xx, tt, bb, bc, ↓bd, Nat.reduceEqDiff, ↓reduceIte, reduceCtorEq]
  refine j0r hm' ⟨rfl, rfl, rfl, rfl, rfl, rfl⟩ rfl ?_
  intro n2 A2 hm2 q1k hn2
  have q1t := q1y.trans (by omega) q1k
  simp only [t6, (q0j (n' := n2) hb q1t).1, q1r, tt, bb, bc, ↓bd, Nat.reduceEqDiff, Nat.reduceAdd, ↓reduceIte]
  exact q0x hb hm2 q1t (by omega) hk
theorem a_re {M : Mch} {n g : Nat} {A : Nat → Blk} {s : St} {a : Vl} (h : MR M n A s) (he : s.err = 0) (ha : AS M g n A [a]) (oa : okV a = true) (ho : s.out.length ≤ 64)
  (hk : ∀ n' A', MR M n' A' (q1v (ap1 22 a) s).2 → Keep M.b n A A' → n ≤ n' → q0d Cx fn (putA T dst (q1o (q1v (ap1 22 a) s).1)) ds ro os k ⟨n', A'⟩ Q) :
  q0g Cx fn T ds ro 38 [.ptr M.b 22 0 0, .str (q0e 22), .slc g 5 0 1] dst os k ⟨n, A⟩ Q := by
 have hb := h.lt
 refine q2j (vs := [a]) h ha rfl rfl (by simp) rfl ?_
 intro T' t0 t1 t2 t6 t7 t8
 have hm := q6f (a := a) (b := a) h
 have hs := q6g (a := a) (b := a) ha
 have kr := Keep.refl M.b (n + 1 + 1 + 1) (H3 A n a a)
 obtain ⟨c0, c1, c2⟩ := q0j (n' := n + 1 + 1 + 1) hb kr
 have eap : ap1 22 a = if a.k = 2 then .val (nV a.x) else .bad 13 := rfl
 rw [eap] at hk
 have hI : IS M (n + 1 + 1 + 1) (n + 1 + 1 + 1 + 1) (upd (H3 A n a a) (n + 1 + 1 + 1) (.cells 3 1 [[.int .i64 2]])) [2] := ⟨by omega, by omega, by rw [q0b, if_pos rfl]; rfl⟩
 simp only [wq22, t0, t1, t2, r38_0, r38_1, tt, bb, bc, ↓bd, Nat.reduceEqDiff, Nat.reduceMul, Nat.reduceLeDiff, ↓reduceIte, reduceCtorEq, List.reduceReplicate]
 refine q1w (ks := [2]) (vs := [a]) (hm.up1 _) (hs.up1 _) hI (by simp) (by simp) rfl rfl ?_
 intro n' A' hm' hkp hn
 have q1y := ((Keep.refl M.b (n + 1 + 1 + 1) (H3 A n a a)).up1 (Nat.le_refl _) (.cells 3 1 [[.int .i64 2]])).trans (by omega) hkp
 obtain ⟨d0, d1, d2⟩ := q0j (n' := n') hb q1y
 by_cases hnn : a.k = 2
 ·have e : q1p [2] [a] = true := by simp [q1p, hnn]
  rw [e, if_pos rfl] at hm'
  rw [if_pos hnn] at hk
  have i1 := (q0w oa).2.2 hnn
  have iy := inR_iff.mp i1.2
  simp only [wq22, e, t1, t6, t7, d0, d1, q0a q3q rfl (q1s a.x), r38_1, q1r, tt, bb, bc, ↓bd, Nat.reduceEqDiff, Nat.reduceAdd, ↓reduceIte]
  exact q0x hb hm' q1y (by omega) hk
 ·have e : q1p [2] [a] = false := by
   cases hh : q1p [2] [a] with
   | false => rfl
   | true => exact absurd (by simpa [q1p] using hh) hnn
  rw [e, if_neg (by decide)] at hm'
  rw [if_neg hnn, q0m he] at hk
  simp only [e, t6, d0, q1r, tt, bb, bc, ↓bd, Nat.reduceEqDiff, Nat.reduceAdd, ↓reduceIte]
  exact q0x hb hm' q1y (by omega) hk
theorem a_im {M : Mch} {n g : Nat} {A : Nat → Blk} {s : St} {a : Vl} (h : MR M n A s) (he : s.err = 0) (ha : AS M g n A [a]) (oa : okV a = true) (ho : s.out.length ≤ 64)
  (hk : ∀ n' A', MR M n' A' (q1v (ap1 23 a) s).2 → Keep M.b n A A' → n ≤ n' → q0d Cx fn (putA T dst (q1o (q1v (ap1 23 a) s).1)) ds ro os k ⟨n', A'⟩ Q) :
  q0g Cx fn T ds ro 38 [.ptr M.b 22 0 0, .str (q0e 23), .slc g 5 0 1] dst os k ⟨n, A⟩ Q := by
 have hb := h.lt
 refine q2j (vs := [a]) h ha rfl rfl (by simp) rfl ?_
 intro T' t0 t1 t2 t6 t7 t8
 have hm := q6f (a := a) (b := a) h
 have hs := q6g (a := a) (b := a) ha
 have kr := Keep.refl M.b (n + 1 + 1 + 1) (H3 A n a a)
 obtain ⟨c0, c1, c2⟩ := q0j (n' := n + 1 + 1 + 1) hb kr
 have eap : ap1 23 a = if a.k = 2 then .val (nV a.y) else .bad 13 := rfl
 rw [eap] at hk
 have hI : IS M (n + 1 + 1 + 1) (n + 1 + 1 + 1 + 1) (upd (H3 A n a a) (n + 1 + 1 + 1) (.cells 3 1 [[.int .i64 2]])) [2] := ⟨by omega, by omega, by rw [q0b, if_pos rfl]; rfl⟩
 simp only [wq23, t0, t1, t2, r38_0, r38_1, tt, bb, bc, ↓bd, Nat.reduceEqDiff, Nat.reduceMul, Nat.reduceLeDiff, ↓reduceIte, reduceCtorEq, List.reduceReplicate]
 refine q1w (ks := [2]) (vs := [a]) (hm.up1 _) (hs.up1 _) hI (by simp) (by simp) rfl rfl ?_
 intro n' A' hm' hkp hn
 have q1y := ((Keep.refl M.b (n + 1 + 1 + 1) (H3 A n a a)).up1 (Nat.le_refl _) (.cells 3 1 [[.int .i64 2]])).trans (by omega) hkp
 obtain ⟨d0, d1, d2⟩ := q0j (n' := n') hb q1y
 by_cases hnn : a.k = 2
 ·have e : q1p [2] [a] = true := by simp [q1p, hnn]
  rw [e, if_pos rfl] at hm'
  rw [if_pos hnn] at hk
  have i1 := (q0w oa).2.2 hnn
  have iy := inR_iff.mp i1.2
  simp only [wq23, e, t1, t6, t7, d0, d1, q0a q3q rfl (q1s a.y), r38_1, q1r, tt, bb, bc, ↓bd, Nat.reduceEqDiff, Nat.reduceAdd, ↓reduceIte]
  exact q0x hb hm' q1y (by omega) hk
 ·have e : q1p [2] [a] = false := by
   cases hh : q1p [2] [a] with
   | false => rfl
   | true => exact absurd (by simpa [q1p] using hh) hnn
  rw [e, if_neg (by decide)] at hm'
  rw [if_neg hnn, q0m he] at hk
  simp only [e, t6, d0, q1r, tt, bb, bc, ↓bd, Nat.reduceEqDiff, Nat.reduceAdd, ↓reduceIte]
  exact q0x hb hm' q1y (by omega) hk
theorem w6h {M : Mch} {n g : Nat} {A : Nat → Blk} {s : St} {a : Vl} (h : MR M n A s) (he : s.err = 0) (ha : AS M g n A [a]) (oa : okV a = true) (ho : s.out.length ≤ 64)
  (hk : ∀ n' A', MR M n' A' (q1v (ap1 24 a) s).2 → Keep M.b n A A' → n ≤ n' → q0d Cx fn (putA T dst (q1o (q1v (ap1 24 a) s).1)) ds ro os k ⟨n', A'⟩ Q) :
  q0g Cx fn T ds ro 38 [.ptr M.b 22 0 0, .str (q0e 24), .slc g 5 0 1] dst os k ⟨n, A⟩ Q := by
 have hb := h.lt
 refine q2j (vs := [a]) h ha rfl rfl (by simp) rfl ?_
 intro T' t0 t1 t2 t6 t7 t8
 have hm := q6f (a := a) (b := a) h
 have hs := q6g (a := a) (b := a) ha
 have kr := Keep.refl M.b (n + 1 + 1 + 1) (H3 A n a a)
 obtain ⟨c0, c1, c2⟩ := q0j (n' := n + 1 + 1 + 1) hb kr
 have eap : ap1 24 a = if a.k = 2 then .val (nV (a.x * a.x + a.y * a.y)) else .bad 13 := rfl
 rw [eap] at hk
 have hI : IS M (n + 1 + 1 + 1) (n + 1 + 1 + 1 + 1) (upd (H3 A n a a) (n + 1 + 1 + 1) (.cells 3 1 [[.int .i64 2]])) [2] := ⟨by omega, by omega, by rw [q0b, if_pos rfl]; rfl⟩
 simp only [wq24, t0, t1, t2, r38_0, r38_1, tt, bb, bc, ↓bd, Nat.reduceEqDiff, Nat.reduceMul, Nat.reduceLeDiff, ↓reduceIte, reduceCtorEq, List.reduceReplicate]
 refine q1w (ks := [2]) (vs := [a]) (hm.up1 _) (hs.up1 _) hI (by simp) (by simp) rfl rfl ?_
 intro n' A' hm' hkp hn
 have q1y := ((Keep.refl M.b (n + 1 + 1 + 1) (H3 A n a a)).up1 (Nat.le_refl _) (.cells 3 1 [[.int .i64 2]])).trans (by omega) hkp
 obtain ⟨d0, d1, d2⟩ := q0j (n' := n') hb q1y
 by_cases hnn : a.k = 2
 ·have e : q1p [2] [a] = true := by simp [q1p, hnn]
  rw [e, if_pos rfl] at hm'
  rw [if_pos hnn] at hk
  have i1 := (q0w oa).2.2 hnn
  have iy := inR_iff.mp i1.2
  have hno : q0k Cx 62 [.agg [.int .i64 a.x, .int .i64 a.y]] (.int .i64 (a.x * a.x + a.y * a.y)) := Gs.refNorm_ok a.x a.y i1.1 i1.2
  simp only [wq24, e, t1, t6, t7, d0, d1, q0a y1e rfl hno, q0a q3q rfl (q1s (a.x * a.x + a.y * a.y)), r38_1, q1r, tt, bb, bc, ↓bd, Nat.reduceEqDiff, Nat.reduceAdd, ↓reduceIte]
  exact q0x hb hm' q1y (by omega) hk
 ·have e : q1p [2] [a] = false := by
   cases hh : q1p [2] [a] with
   | false => rfl
   | true => exact absurd (by simpa [q1p] using hh) hnn
  rw [e, if_neg (by decide)] at hm'
  rw [if_neg hnn, q0m he] at hk
  simp only [e, t6, d0, q1r, tt, bb, bc, ↓bd, Nat.reduceEqDiff, Nat.reduceAdd, ↓reduceIte]
  exact q0x hb hm' q1y (by omega) hk
theorem w6i {M : Mch} {n g : Nat} {A : Nat → Blk} {s : St} {a : Vl} (h : MR M n A s) (he : s.err = 0) (ha : AS M g n A [a]) (oa : okV a = true) (ho : s.out.length ≤ 64)
  (hk : ∀ n' A', MR M n' A' (q1v (ap1 25 a) s).2 → Keep M.b n A A' → n ≤ n' → q0d Cx fn (putA T dst (q1o (q1v (ap1 25 a) s).1)) ds ro os k ⟨n', A'⟩ Q) :
  q0g Cx fn T ds ro 38 [.ptr M.b 22 0 0, .str (q0e 25), .slc g 5 0 1] dst os k ⟨n, A⟩ Q := by
 have hb := h.lt
 refine q2j (vs := [a]) h ha rfl rfl (by simp) rfl ?_
 intro T' t0 t1 t2 t6 t7 t8
 have hm := q6f (a := a) (b := a) h
 have hs := q6g (a := a) (b := a) ha
 have kr := Keep.refl M.b (n + 1 + 1 + 1) (H3 A n a a)
 obtain ⟨c0, c1, c2⟩ := q0j (n' := n + 1 + 1 + 1) hb kr
 have eap : ap1 25 a = if a.k = 2 then .val (pV a.x (-a.y)) else .bad 13 := rfl
 rw [eap] at hk
 have hI : IS M (n + 1 + 1 + 1) (n + 1 + 1 + 1 + 1) (upd (H3 A n a a) (n + 1 + 1 + 1) (.cells 3 1 [[.int .i64 2]])) [2] := ⟨by omega, by omega, by rw [q0b, if_pos rfl]; rfl⟩
 simp only [wq25, t0, t1, t2, r38_0, r38_1, tt, bb, bc, ↓bd, Nat.reduceEqDiff, Nat.reduceMul, Nat.reduceLeDiff, ↓reduceIte, reduceCtorEq, List.reduceReplicate]
 refine q1w (ks := [2]) (vs := [a]) (hm.up1 _) (hs.up1 _) hI (by simp) (by simp) rfl rfl ?_
 intro n' A' hm' hkp hn
 have q1y := ((Keep.refl M.b (n + 1 + 1 + 1) (H3 A n a a)).up1 (Nat.le_refl _) (.cells 3 1 [[.int .i64 2]])).trans (by omega) hkp
 obtain ⟨d0, d1, d2⟩ := q0j (n' := n') hb q1y
 by_cases hnn : a.k = 2
 ·have e : q1p [2] [a] = true := by simp [q1p, hnn]
  rw [e, if_pos rfl] at hm'
  rw [if_pos hnn] at hk
  have i1 := (q0w oa).2.2 hnn
  have iy := inR_iff.mp i1.2
  have w2 : IntKind.i64.wrap (0 - a.y) = -a.y := by rw [wr64 (by omega) (by omega)]; omega
  simp only [wq25, e, t1, t6, t7, d0, d1, w2, xx, r38_1, q1r, tt, bb, bc, ↓bd, Nat.reduceEqDiff, Nat.reduceAdd, Nat.reduceLeDiff, ↓reduceIte]
  exact q0x hb hm' q1y (by omega) hk
 ·have e : q1p [2] [a] = false := by
   cases hh : q1p [2] [a] with
   | false => rfl
   | true => exact absurd (by simpa [q1p] using hh) hnn
  rw [e, if_neg (by decide)] at hm'
  rw [if_neg hnn, q0m he] at hk
  simp only [e, t6, d0, q1r, tt, bb, bc, ↓bd, Nat.reduceEqDiff, Nat.reduceAdd, ↓reduceIte]
  exact q0x hb hm' q1y (by omega) hk
theorem w6j {M : Mch} {n g : Nat} {A : Nat → Blk} {s : St} {a : Vl} (h : MR M n A s) (he : s.err = 0) (ha : AS M g n A [a]) (oa : okV a = true) (ho : s.out.length ≤ 64)
  (hk : ∀ n' A', MR M n' A' (q1v (ap1 20 a) s).2 → Keep M.b n A A' → n ≤ n' → q0d Cx fn (putA T dst (q1o (q1v (ap1 20 a) s).1)) ds ro os k ⟨n', A'⟩ Q) :
  q0g Cx fn T ds ro 38 [.ptr M.b 22 0 0, .str (q0e 20), .slc g 5 0 1] dst os k ⟨n, A⟩ Q := by
 have hb := h.lt
 refine q2j (vs := [a]) h ha rfl rfl (by simp) rfl ?_
 intro T' t0 t1 t2 t6 t7 t8
 have hm := q6f (a := a) (b := a) h
 have hs := q6g (a := a) (b := a) ha
 have kr := Keep.refl M.b (n + 1 + 1 + 1) (H3 A n a a)
 obtain ⟨c0, c1, c2⟩ := q0j (n' := n + 1 + 1 + 1) hb kr
 have eap : ap1 20 a = if a.k = 1 then .val a else .val (tV (q6p a.k a.n a.s a.x a.y)) := rfl
 rw [eap] at hk
 by_cases h1 : a.k = 1
 ·rw [if_pos h1] at hk
  have y : (a.k == 1) = true := by simp [h1]
  simp only [w7y, t1, t6, t7, c0, c1, y, r38_0, r38_1, q1r, tt, bb, bc, ↓bd, Nat.reduceEqDiff, Nat.reduceAdd, ↓reduceIte]
  exact q0x hb hm kr (Nat.le_refl _) hk
 ·rw [if_neg h1] at hk
  have y : (a.k == 1) = false := by simp [h1]
  have hwr : q0k Cx 63 [.agg [.int .i64 a.k, .int .i64 a.n, .str a.s, .int .i64 a.x, .int .i64 a.y]] (.str (q6p a.k a.n a.s a.x a.y)) := j6t (show q1j a.k a.n a.s a.x a.y = true from oa)
  simp only [w7y, t1, t6, t7, c0, c1, y, q0a w2g rfl hwr, q0a j3m rfl (q6s (q6p a.k a.n a.s a.x a.y)), r38_0, r38_1, q1r, tt, bb, bc, ↓bd, Nat.reduceEqDiff, Nat.reduceAdd, ↓reduceIte]
  exact q0x hb hm kr (Nat.le_refl _) hk
end
section
variable {fn : FuncId} {T : Nat → AV} {ds : List ADef} {ro : Option Nat} {k : List AItem} {Q : AV → AHeap → Prop} {dst : Option Nat} {os : List AO}
set_option maxRecDepth 20000 in
theorem w6k {M : Mch} {n g : Nat} {A : Nat → Blk} {s : St} {a b : Vl} (h : MR M n A s) (he : s.err = 0) (ha : AS M g n A [a, b]) (oa : okV a = true) (ob : okV b = true) (ho : s.out.length ≤ 64)
  (hk : ∀ n' A', MR M n' A' (q1v (ap2 26 a b s.out.length) s).2 → Keep M.b n A A' → n ≤ n' → q0d Cx fn (putA T dst (q1o (q1v (ap2 26 a b s.out.length) s).1)) ds ro os k ⟨n', A'⟩ Q) :
  q0g Cx fn T ds ro 38 [.ptr M.b 22 0 0, .str (q0e 26), .slc g 5 0 2] dst os k ⟨n, A⟩ Q := by
 have hb := h.lt
 refine q2j (vs := [a, b]) h ha rfl rfl (by simp) rfl ?_
 intro T' t0 t1 t2 t6 t7 t8
 have hm := q6f (a := a) (b := b) h
 have hs := q6g (a := a) (b := b) ha
 have kr := Keep.refl M.b (n + 1 + 1 + 1) (H3 A n a b)
 obtain ⟨c0, c1, c2⟩ := q0j (n' := n + 1 + 1 + 1) hb kr
 have eap : ap2 26 a b s.out.length = (if a.k = 1 then (if a.s.length ≤ 64 then (if s.out.length = 64 then .bad 22 else .out (x4n a.s b) b) else .bad 3) else .bad 13) := rfl
 rw [eap] at hk
 have hm' := hm
 obtain ⟨hb3, o, hA, how⟩ := hm
 have hm := hm'
 have hlo := how.lenOf
 simp only [BX.lenOf] at hlo
 by_cases k1 : a.k = 1
 ·rw [if_pos k1] at hk
  have z1 : (a.k != 1) = false := by simp [k1]
  by_cases hl : a.s.length ≤ 64
  ·rw [if_pos hl] at hk
   have z2 : ¬ (64 : Int) < (a.s.length : Int) := by omega
   by_cases hm64 : s.out.length = 64
   ·rw [if_pos hm64, q0m he] at hk
    have z3 : (64 : Int) ≤ (s.out.length : Int) := by omega
    simp only [w7z, t0, t1, t7, c1, hA, z1, z2, z3, hlo, i64, r38_0, r38_1, tt, bb, bc, ↓bd, Nat.reduceEqDiff, ↓reduceIte, reduceCtorEq]
    refine q0q hm ?_
    intro n' A' hm' hkp hn
    simp only [t6, (q0j (n' := n') hb hkp).1, q1r, tt, bb, bc, ↓bd, Nat.reduceEqDiff, Nat.reduceAdd, ↓reduceIte]
    exact q0x hb hm' hkp hn hk
   ·rw [if_neg hm64] at hk
    have z3 : ¬ (64 : Int) ≤ (s.out.length : Int) := by omega
    simp only [w7z, t0, t1, t7, t8, c1, c2, hA, z1, z2, z3, hlo, i64, r38_0, r38_1, tt, bb, bc, ↓bd, Nat.reduceEqDiff, Nat.reduceAdd, Nat.reduceMul, Nat.reduceLeDiff, ↓reduceIte, reduceCtorEq, List.reduceReplicate]
    obtain ⟨A3, x1d, how3, hkeep⟩ := how.app1 (x4n a.s b) ho
    have hA3 : A3 M.b = .cells 66 22 [[M.L, M.F, .str M.E.key, .int .i64 M.E.val.k, .int .i64 M.E.val.n, .str M.E.val.s, .int .i64 M.E.val.x, .int .i64 M.E.val.y, .int .i64 M.E.acc.k, .int .i64 M.E.acc.n, .str M.E.acc.s, .int .i64 M.E.acc.x, .int .i64 M.E.acc.y, .int .i64 s.i, .int .i64 s.it.k, .int .i64 s.it.n, .str s.it.s, .int .i64 s.it.x, .int .i64 s.it.y, o, .int .i64 (s.left : Int), .int .i64 s.err]] := by
     rw [hkeep M.b (by omega) (j8w hm')]; exact hA
    have b0 : A3 n = .cells 26 5 [[.int .i64 0, .int .i64 0, .str [], .int .i64 0, .int .i64 0]] := by
     rw [hkeep n (by omega) (by rw [c0]; exact q3j)]; exact c0
    have b2 : A3 (n + 1 + 1) = .cells 26 5 [[.int .i64 b.k, .int .i64 b.n, .str b.s, .int .i64 b.x, .int .i64 b.y]] := by
     rw [hkeep (n + 1 + 1) (by omega) (by rw [c2]; exact q3j)]; exact c2
    have e1 : (n = M.b) = False := eq_false (by omega)
    have e2 : (n + 1 + 1 = M.b) = False := eq_false (by omega)
    have e3 : (M.b = n) = False := eq_false (by omega)
    simp only [t6, t8, x1d, hA3, b0, b2, e1, e2, q0i, q1r, tt, bb, bc, ↓bd, Nat.reduceEqDiff, Nat.reduceAdd, Nat.reduceLeDiff, ↓reduceIte]
    have hpl := how3.plain
    simp only [AV.plain] at hpl
    refine hk (n + 1 + 1 + 1 + 1 + 1) _ ⟨by omega, .slc (n + 1 + 1 + 1 + 1) 6 0 (s.out.length + 1), ?_, ?_⟩ (fun c hc hcb hcp => ?_) (by omega)
    ·simp only [q0b, e3, ↓reduceIte]
     rfl
    ·refine how3.keep (Nat.le_refl _) fun z hz hzp => ?_
     have z1 : z ≠ M.b := by rintro rfl; rw [hA3] at hzp; cases hzp
     have z2 : z ≠ n := by rintro rfl; rw [b0] at hzp; cases hzp
     rw [q0b, if_neg z2, q0b, if_neg z1]
    ·have cn : c ≠ n := by omega
     have hh : H3 A n a b c = A c := by unfold H3; rw [q0b, if_neg (by omega), q0b, if_neg (by omega), q0b, if_neg cn]
     rw [q0b, if_neg cn, q0b, if_neg hcb, hkeep c (by omega) (by rw [hh]; exact hcp), hh]
  ·rw [if_neg hl, q0m he] at hk
   have z2 : (64 : Int) < (a.s.length : Int) := by omega
   simp only [w7z, t0, t1, t7, c1, z1, z2, i64, r38_0, r38_1, tt, bb, bc, ↓bd, Nat.reduceEqDiff, ↓reduceIte, reduceCtorEq]
   refine q0q hm ?_
   intro n' A' hm' hkp hn
   simp only [t6, (q0j (n' := n') hb hkp).1, q1r, tt, bb, bc, ↓bd, Nat.reduceEqDiff, Nat.reduceAdd, ↓reduceIte]
   exact q0x hb hm' hkp hn hk
 ·rw [if_neg k1, q0m he] at hk
  have z1 : (a.k != 1) = true := by simpa using k1
  simp only [w7z, t0, t1, t7, c1, z1, r38_0, r38_1, tt, bb, bc, ↓bd, Nat.reduceEqDiff, ↓reduceIte, reduceCtorEq]
  refine q0q hm ?_
  intro n' A' hm' hkp hn
  simp only [t6, (q0j (n' := n') hb hkp).1, q1r, tt, bb, bc, ↓bd, Nat.reduceEqDiff, Nat.reduceAdd, ↓reduceIte]
  exact q0x hb hm' hkp hn hk
end
theorem y2q : ∀ (l r cur : Bytes), (∀ x, x ∈ l → x ≠ 32) → q2f (l ++ r) cur = q2f r (cur ++ l)
 | [], r, cur, _ => by simp
 | c :: l, r, cur, h => by
  have hc : c ≠ 32 := h c (by simp)
  rw [List.cons_append]
  conv => lhs; unfold q2f
  rw [if_neg hc, y2q l r (cur ++ [c]) (fun x hx => h x (by simp [hx]))]
  simp
theorem y7a {s : Bytes} {i j : Nat} (hij : i ≤ j) (hj : j ≤ s.length) (hn : ∀ k, i ≤ k → k < j → ∀ c, s[k]? = some c → c ≠ 32) (he : j = s.length ∨ s[j]? = some 32) :
  q2f (s.drop i) [] = (if i < j then [(s.take j).drop i] else []) ++ q2f (s.drop (j + 1)) [] := by
 have e1 : s.drop i = (s.take j).drop i ++ s.drop j := by
  conv => lhs; rw [← List.take_append_drop j s]
  rw [List.drop_append_of_le_length (by rw [List.length_take]; omega)]
 have hl : ((s.take j).drop i).length = j - i := by rw [List.length_drop, List.length_take]; omega
 have hno : ∀ x, x ∈ (s.take j).drop i → x ≠ 32 := by
  intro x hx
  obtain ⟨m, hm, rfl⟩ := List.getElem_of_mem hx
  rw [hl] at hm
  refine hn (i + m) (by omega) (by omega) _ ?_
  rw [List.getElem_drop, List.getElem_take, List.getElem?_eq_getElem (by omega)]
 rw [e1, y2q _ _ _ hno, List.nil_append]
 have hne : ((s.take j).drop i = []) ↔ ¬ i < j := by
  rw [← List.length_eq_zero_iff, hl]; omega
 rcases he with he | he
 ·have d1 : s.drop j = [] := List.drop_of_length_le (by omega)
  have d2 : s.drop (j + 1) = [] := List.drop_of_length_le (by omega)
  rw [d1, d2]
  show (if (s.take j).drop i = [] then [] else [(s.take j).drop i]) = _ ++ []
  rw [List.append_nil]
  by_cases h : i < j
  ·rw [if_pos h, if_neg (by rw [hne]; omega)]
  ·rw [if_neg h, if_pos (by rw [hne]; omega)]
 ·have hlt : j < s.length := by
   rcases Nat.lt_or_ge j s.length with h | h
   ·exact h
   ·rw [List.getElem?_eq_none h] at he; cases he
  have e2 : s.drop j = 32 :: s.drop (j + 1) := by
   rw [List.drop_eq_getElem_cons hlt]
   rw [List.getElem?_eq_getElem hlt] at he
   rw [Option.some.inj he]
  rw [e2]
  conv => lhs; unfold q2f
  rw [if_pos rfl]
  by_cases h : i < j
  ·rw [if_pos h, if_neg (by rw [hne]; omega)]; rfl
  ·rw [if_neg h, if_pos (by rw [hne]; omega)]; rfl
def BufW (d : AV) (n : Nat) (A : Nat → Blk) (acc : List Bytes) : Prop := (d = .nilS ∧ acc = []) ∨ ∃ g, d = .slc g 1 0 acc.length ∧ g < n ∧ A g = .cells 9 1 (acc.map fun w => [.str w]) ∧ acc ≠ []
def inW (l : List Bytes) : AV := if l = [] then .nilS else .vec 1 (l.map fun w => [.str w])
theorem BufW.frozen {d : AV} {n : Nat} {A : Nat → Blk} {acc : List Bytes} (h : BufW d n A acc) : BX.freeze ⟨n, A⟩ d = some (inW acc) := by
 rcases h with ⟨rfl, rfl⟩ | ⟨g, rfl, hn, hA, hne⟩
 ·rfl
 ·unfold inW
  rw [if_neg hne]
  have he : elems ⟨n, A⟩ 1 (.slc g 1 0 acc.length) = some (acc.map fun w => [.str w]) := by
   unfold elems
   simp only [hA]
   rw [if_pos ⟨trivial, trivial, by simp⟩, List.drop_zero, List.take_of_length_le (by simp)]
  have hr : ∀ l : List Bytes, q3t (q3t (q1h ⟨n, A⟩ 3)) (l.map fun w => [AV.str w]) = some (l.map fun w => [.str w]) := by
   intro l
   induction l with
   | nil => rfl
   | cons p l ih =>
    rw [List.map_cons, q4l, ih]
    have : q3t (q1h ⟨n, A⟩ 3) [AV.str p] = some [.str p] := q4v (p := AV.flat1) (fun v hv => q3c hv) rfl
    rw [this]; rfl
  rw [q6o, he, q5h, hr]
  rfl
theorem w9sl : x6q Cx 92 9 := ⟨_, y4g, rfl⟩
theorem w9ti : ∃ ti, Cx.TT 9 = some ti ∧ ti.size = 1 ∧ ti.bytes = 16 := ⟨_, x6r, rfl, rfl⟩
theorem v0n {s : Bytes} {i : Nat} {Q : AV → AHeap → Prop} {d : AV} {n : Nat} {A : Nat → Blk} (hs : s.length ≤ 100000)
  (hk : ∀ (T : Nat → AV) (e : Nat), i ≤ e → e ≤ s.length → (∀ k, i ≤ k → k < e → ∀ c, s[k]? = some c → c ≠ 32) → (e = s.length ∨ s[e]? = some 32) → T 0 = .str s → T 3 = d → T 4 = .int .i64 (i : Int) → T 5 = .int .i64 (e : Int) →
   Run Cx 90 T [] none [.code c90_29, .inBlock 1, .inLoop c90_9, .inBlock 0, .code c90_36] ⟨n, A⟩ Q) :
  ∀ (m j : Nat) (T : Nat → AV), s.length - j ≤ m → i ≤ j → j ≤ s.length → (∀ k, i ≤ k → k < j → ∀ c, s[k]? = some c → c ≠ 32) → T 0 = .str s → T 3 = d → T 4 = .int .i64 (i : Int) → T 5 = .int .i64 (j : Int) →
   Run Cx 90 T [] none [.inLoop c90_21, .inBlock 2, .code c90_29, .inBlock 1, .inLoop c90_9, .inBlock 0, .code c90_36] ⟨n, A⟩ Q := by
 intro m
 induction m with
 | zero =>
  intro j T hm hij hj hno t0 t3 t4 t5
  rw [run_inLoop]
  have c0 : ¬ (j : Int) < (s.length : Int) := by omega
  simp only [t0, t5, c0, i64, xx, r90_0.2.2.1, tt, bb, bc, ↓bd, Nat.reduceEqDiff, ↓reduceIte, reduceCtorEq]
  refine hk _ j hij hj hno (.inl (by omega)) ?_ ?_ ?_ ?_
  all_goals simp only [q0b, t0, t3, t4, t5, Nat.reduceEqDiff, ↓reduceIte]
 | succ m ih =>
  intro j T hm hij hj hno t0 t3 t4 t5
  by_cases hlt : j < s.length
  ·have c0 : (j : Int) < (s.length : Int) := by omega
   have p0 : (0 : Int) ≤ (j : Int) := by omega
   have hg : s[j]? = some s[j] := List.getElem?_eq_getElem hlt
   generalize s[j] = c at hg
   rw [run_inLoop]
   by_cases h32 : c = 32
   ·subst h32
    have z : (((32 : UInt8).toNat : Int) != 32) = false := rfl
    simp only [t0, t5, c0, p0, hg, z, q0n, i64, Int.toNat_natCast, xx, r90_0.2.2.1, tt, bb, bc, ↓bd, Nat.reduceEqDiff, ↓reduceIte, reduceCtorEq]
    refine hk _ j hij hj hno (.inr hg) ?_ ?_ ?_ ?_
    all_goals simp only [q0b, t0, t3, t4, t5, Nat.reduceEqDiff, ↓reduceIte]
   ·have z : ((c.toNat : Int) != 32) = true := by
     have : ((c.toNat : Int) == 32) = false := q9f (n := 32) (by decide) h32
     rw [bne, this]; rfl
    have w1 : IntKind.i64.wrap ((j : Int) + 1) = ((j + 1 : Nat) : Int) := by rw [wr64 (by omega) (by omega)]; omega
    simp only [t0, t5, c0, p0, hg, z, w1, q0n, i64, Int.toNat_natCast, xx, r90_0.2.2.1, tt, bb, bc, ↓bd, Nat.reduceEqDiff, ↓reduceIte, reduceCtorEq]
    refine ih (j + 1) _ (by omega) (by omega) (by omega) ?_ ?_ ?_ ?_ ?_
    ·intro k hk1 hk2 c' hc'
     rcases Nat.lt_or_ge k j with h | h
     ·exact hno k hk1 h c' hc'
     ·have : k = j := by omega
      subst this
      rw [hg] at hc'
      cases hc'
      exact h32
    all_goals simp only [q0b, t0, t3, t4, Nat.reduceEqDiff, ↓reduceIte]
  ·have c0 : ¬ (j : Int) < (s.length : Int) := by omega
   rw [run_inLoop]
   simp only [t0, t5, c0, i64, xx, r90_0.2.2.1, tt, bb, bc, ↓bd, Nat.reduceEqDiff, ↓reduceIte, reduceCtorEq]
   refine hk _ j hij hj hno (.inl (by omega)) ?_ ?_ ?_ ?_
   all_goals simp only [q0b, t0, t3, t4, t5, Nat.reduceEqDiff, ↓reduceIte]
theorem w6l {s : Bytes} {i j : Nat} (h : i ≤ j) (hj : j ≤ s.length) : q4r Cx 9 (.str s) (some (.int .i64 (i : Int))) (some (.int .i64 (j : Int))) none = some (.str ((s.take j).drop i)) := by
 unfold q4r
 rw [x6r]
 simp only [j4t, z3h]
 rw [if_pos (by omega)]
 simp only
 rw [if_pos (by omega)]
 rfl
theorem y7b {s : Bytes} {Q : AV → AHeap → Prop} (hs : s.length ≤ 100000)
  (hQ : ∀ d n A, BufW d n A (q1u s) → Q d ⟨n, A⟩) :
  ∀ (m i : Nat) (T : Nat → AV) (n : Nat) (A : Nat → Blk) (d : AV) (acc : List Bytes), s.length - i ≤ m → i ≤ s.length + 1 → acc.length ≤ i → BufW d n A acc → acc ++ q2f (s.drop i) [] = q1u s → T 0 = .str s → T 3 = d → T 4 = .int .i64 (i : Int) →
   Run Cx 90 T [] none [.inLoop c90_9, .inBlock 0, .code c90_36] ⟨n, A⟩ Q := by
 intro m
 induction m with
 | zero =>
  intro i T n A d acc hm hi hal hb hw t0 t3 t4
  rw [run_inLoop]
  have c0 : ¬ (i : Int) < (s.length : Int) := by omega
  simp only [t0, t3, t4, c0, i64, xx, r90_0, w3w, tt, bb, bc, ↓bd, Nat.reduceEqDiff, ↓reduceIte, reduceCtorEq]
  refine hQ d n A ?_
  rw [List.drop_of_length_le (by omega)] at hw
  have e : acc = q1u s := by rw [← hw]; simp [q2f]
  rw [← e]; exact hb
 | succ m ih =>
  intro i T n A d acc hm hi hal hb hw t0 t3 t4
  by_cases hlt : i < s.length
  ·have c0 : (i : Int) < (s.length : Int) := by omega
   rw [run_inLoop]
   simp only [t0, t4, c0, i64, r90_0.2.1, tt, bb, bc, ↓bd, Nat.reduceEqDiff, ↓reduceIte, reduceCtorEq]
   refine v0n (s := s) (i := i) (d := d) hs ?_ (s.length - i) i _ (Nat.le_refl _) (Nat.le_refl _) (by omega) (fun k h1 h2 => by omega) ?_ ?_ ?_ ?_
   ·intro T e hie hes hno hend t0 t3 t4 t5
    have hgo := y7a hie hes hno hend
    have w1 : IntKind.i64.wrap ((e : Int) + 1) = ((e + 1 : Nat) : Int) := by rw [wr64 (by omega) (by omega)]; omega
    by_cases y2z : i < e
    ·have c1 : (i : Int) < (e : Int) := by omega
     have hsl := w6l hie hes
     rw [if_pos y2z] at hgo
     rw [hgo, ← List.append_assoc] at hw
     have el : (acc ++ [(s.take e).drop i]).length = acc.length + 1 := by simp
     rcases hb with ⟨rfl, rfl⟩ | ⟨g, rfl, hg, hA, hne⟩
     ·have mm : (16 : Nat) ≤ q2m := by decide
      have mm1 : (1 : Nat) ≤ q2m := by decide
      simp only [t0, t3, t4, t5, c1, hsl, w1, evo, mm, mm1, q1n, q2c, q3a, q0i, q5f, xx, r90_0.2.2.2.1, tt, bb, bc, ↓bd, Nat.reduceEqDiff, Nat.reduceMul, Nat.reduceLeDiff, ↓reduceIte, reduceCtorEq, List.reduceReplicate]
      refine ih (e + 1) _ (n + 1 + 1) _ (.slc (n + 1) 1 0 1) ([(s.take e).drop i]) (by omega) (by omega) (by simp) ?_ (by simpa using hw) ?_ ?_ ?_
      rotate_left
      ·simp only [q0b, t0, Nat.reduceEqDiff, ↓reduceIte]
      ·simp only [q0b, Nat.reduceEqDiff, ↓reduceIte]
      ·simp only [q0b, ↓reduceIte]
      ·refine .inr ⟨n + 1, rfl, by omega, ?_, by simp⟩
       simp only [q0b, ↓reduceIte]
       rfl
     ·have ha := q7y (C := Cx) (g := g) (n := n) (A := A) (es := acc.map fun w => [AV.str w]) (row := [.str ((s.take e).drop i)]) w9sl w9ti hA (by omega) (by rw [List.length_map]; unfold q2m; omega) (by rw [List.length_map]; unfold q2m; omega)
      rw [List.length_map] at ha
      simp only [t0, t3, t4, t5, c1, hsl, w1, ha, evo, q0i, xx, r90_0.2.2.2.1, tt, bb, bc, ↓bd, Nat.reduceEqDiff, Nat.reduceMul, Nat.reduceLeDiff, ↓reduceIte, reduceCtorEq, List.reduceReplicate]
      refine ih (e + 1) _ (n + 1 + 1) _ (.slc (n + 1) 1 0 (acc.length + 1)) (acc ++ [(s.take e).drop i]) (by omega) (by omega) (by omega) ?_ hw ?_ ?_ ?_
      rotate_left
      ·simp only [q0b, t0, Nat.reduceEqDiff, ↓reduceIte]
      ·simp only [q0b, Nat.reduceEqDiff, ↓reduceIte]
      ·simp only [q0b, ↓reduceIte]
      ·refine .inr ⟨n + 1, by rw [el], by omega, ?_, by simp⟩
       simp only [q0b, ↓reduceIte]
       rw [List.map_append]; rfl
    ·have c1 : ¬ (i : Int) < (e : Int) := by omega
     rw [if_neg y2z, List.nil_append] at hgo
     rw [hgo] at hw
     simp only [t4, t5, c1, w1, xx, r90_0.2.2.2.1, tt, bb, ↓bd, Nat.reduceEqDiff, ↓reduceIte]
     refine ih (e + 1) _ n A d acc (by omega) (by omega) (by omega) hb hw ?_ ?_ ?_
     all_goals simp only [q0b, t0, t3, Nat.reduceEqDiff, ↓reduceIte]
   all_goals simp only [q0b, t0, t3, t4, Nat.reduceEqDiff, ↓reduceIte]
  ·rw [run_inLoop]
   have c0 : ¬ (i : Int) < (s.length : Int) := by omega
   simp only [t0, t3, t4, c0, i64, xx, r90_0, w3w, tt, bb, bc, ↓bd, Nat.reduceEqDiff, ↓reduceIte, reduceCtorEq]
   refine hQ d n A ?_
   rw [List.drop_of_length_le (by omega)] at hw
   have e : acc = q1u s := by rw [← hw]; simp [q2f]
   rw [← e]; exact hb
theorem j4j {s : Bytes} (hs : s.length ≤ 100000) : q0k Cx 90 [.str s] (inW (q1u s)) := by
 refine q0c (q0l _) w3v ?_
 simp only [r90_0.1, tt, bb, ↓bd]
 refine y7b hs ?_ s.length 0 _ _ _ .nilS [] (by omega) (by omega) (by simp) (.inl ⟨rfl, rfl⟩) rfl ?_ ?_ ?_
 ·intro d n A hb
  exact hb.frozen
 all_goals simp only [q0b, q1g, List.getElem?_cons_zero, Option.getD_some, Nat.reduceEqDiff, ↓reduceIte]
 all_goals rfl
theorem x5s (l : List Bytes) : lenOf (inW l) = some l.length := by
 unfold inW
 split
 ·rename_i h; rw [h]; rfl
 ·show some (l.map _).length = _
  rw [List.length_map]
def x6x (a : Nat) (l : Bytes) : Nat := l.foldl (fun a c => if a ≤ 9007199254740992 then a * 10 + (c.toNat - 48) else a) a
def w6m (s : Bytes) (neg : Bool) (fr i n : Nat) : AV := if i = fr ∨ (s[fr]? = some 48 ∧ (fr + 1 < i ∨ neg = true)) then j0k 6 else .tuple [.int .i64 (if neg then -(n : Int) else (n : Int)), .int .i64 (i : Int), .int .i64 0]
theorem x5t {s : Bytes} {neg : Bool} {fr i a : Nat} {H : AHeap} {T : Nat → AV} (hs : s.length ≤ 1000000) (hf : fr < s.length) (hi : fr ≤ i) (hil : i ≤ s.length) (ha : a ≤ 90071992547409929) (t0 : T 0 = .str s) (t1 : T 1 = .int .i64 (fr : Int)) (t7 : T 7 = .bool neg) (t8 : T 8 = .int .i64 (i : Int)) (t9 : T 9 = .int .i64 (a : Int)) :
  Run Cx 108 T [] none [.code c108_39] H (fun r0 H' => BX.freeze H' r0 = some (w6m s neg fr i a)) := by
 have p0 : (0 : Int) ≤ (fr : Int) := by omega
 have hg : s[fr]? = some s[fr] := List.getElem?_eq_getElem hf
 generalize s[fr] = c at hg
 have w1 : IntKind.i64.wrap ((fr : Int) + 1) = ((fr + 1 : Nat) : Int) := by rw [wr64 (by omega) (by omega)]; omega
 have w2 : IntKind.i64.wrap (0 - (a : Int)) = -(a : Int) := by rw [wr64 (by omega) (by omega)]; omega
 unfold w6m
 rw [hg]
 by_cases he : i = fr
 ·subst he
  have e0 : ((i : Int) == (i : Int)) = true := by simp
  simp only [t1, t8, e0, j0k, true_or, r108_0, z6j, tt, bb, bc, ↓bd, Nat.reduceEqDiff, ↓reduceIte, reduceCtorEq]
 ·have e0 : ((i : Int) == (fr : Int)) = false := by simp; omega
  by_cases h48 : c = 48
  ·subst h48
   have e1 : (((48 : UInt8).toNat : Int) == 48) = true := rfl
   by_cases h1 : fr + 1 < i
   ·have c1 : ((fr + 1 : Nat) : Int) < (i : Int) := by omega
    rw [if_pos (.inr ⟨rfl, .inl h1⟩)]
    simp only [t0, t1, t8, e0, e1, p0, hg, w1, c1, q0n, Int.toNat_natCast, j0k, r108_0, z6j, tt, bb, bc, ↓bd, Nat.reduceEqDiff, ↓reduceIte, reduceCtorEq]
   ·have c1 : ¬ ((fr + 1 : Nat) : Int) < (i : Int) := by omega
    cases neg with
    | true =>
     rw [if_pos (.inr ⟨rfl, .inr rfl⟩)]
     simp only [t0, t1, t7, t8, e0, e1, p0, hg, w1, c1, q0n, Int.toNat_natCast, j0k, r108_0, z6j, tt, bb, bc, ↓bd, Nat.reduceEqDiff, ↓reduceIte, reduceCtorEq]
    | false =>
     rw [if_neg (by rintro (h | ⟨-, h | h⟩); exact he h; exact h1 h; cases h)]
     simp only [t0, t1, t7, t8, t9, e0, e1, p0, hg, w1, c1, q0n, Int.toNat_natCast, Bool.false_eq_true, r108_0, z6j, tt, bb, bc, ↓bd, Nat.reduceEqDiff, ↓reduceIte, reduceCtorEq]
  ·have e1 : ((c.toNat : Int) == 48) = false := q9f (n := 48) (by decide) h48
   rw [if_neg (by rintro (h | ⟨h, -⟩); exact he h; exact h48 (Option.some.inj h))]
   cases neg with
   | true => simp only [t0, t1, t7, t8, t9, e0, e1, p0, hg, w2, q0n, Int.toNat_natCast, r108_0, z6j, tt, bb, bc, ↓bd, Nat.reduceEqDiff, ↓reduceIte, reduceCtorEq]
   | false => simp only [t0, t1, t7, t8, t9, e0, e1, p0, hg, q0n, Int.toNat_natCast, Bool.false_eq_true, r108_0, z6j, tt, bb, bc, ↓bd, Nat.reduceEqDiff, ↓reduceIte, reduceCtorEq]
theorem y2r {s : Bytes} {neg : Bool} {fr : Nat} {H : AHeap} (hs : s.length ≤ 1000000) (hf : fr < s.length) : ∀ (l : Bytes) (i a : Nat) (T : Nat → AV), s.drop i = l → fr ≤ i → i ≤ s.length → a ≤ 90071992547409929 → T 0 = .str s → T 1 = .int .i64 (fr : Int) → T 7 = .bool neg → T 8 = .int .i64 (i : Int) → T 9 = .int .i64 (a : Int) →
  Run Cx 108 T [] none [.inLoop c108_25, .inBlock 0, .code c108_39] H (fun r0 H' => BX.freeze H' r0 = some (w6m s neg fr (i + (l.takeWhile dg).length) (x6x a (l.takeWhile dg))))
 | [], i, a, T, hd, hfi, hi, ha, t0, t1, t7, t8, t9 => by
  have hl : s.length ≤ i := by
   have := congrArg List.length hd
   rw [List.length_drop] at this
   simp at this; omega
  have c0 : ¬ (i : Int) < (s.length : Int) := by omega
  rw [run_inLoop]
  simp only [t0, t8, c0, i64, xx, r108_0.2.2.1, tt, bb, bc, ↓bd, Nat.reduceEqDiff, ↓reduceIte, reduceCtorEq]
  refine x5t (i := i) (a := a) hs hf hfi hi ha ?_ ?_ ?_ ?_ ?_
  all_goals simp only [q0b, t0, t1, t7, t8, t9, Nat.reduceEqDiff, ↓reduceIte]
 | d :: l, i, a, T, hd, hfi, hi, ha, t0, t1, t7, t8, t9 => by
  obtain ⟨h1, h2, h3⟩ := q4h hd
  have c0 : (i : Int) < (s.length : Int) := by omega
  have p0 : (0 : Int) ≤ (i : Int) := by omega
  rw [run_inLoop]
  cases hdd : dg d with
  | false =>
   rw [List.takeWhile_cons_of_neg (by simp [hdd])]
   have y2y := hdd
   unfold dg z7b at y2y
   by_cases g1 : (48 : Int) ≤ (d.toNat : Int)
   ·have g2 : ¬ (d.toNat : Int) ≤ 57 := by
     intro h
     rw [Bool.and_eq_false_iff, decide_eq_false_iff_not, decide_eq_false_iff_not] at y2y
     omega
    simp only [t0, t8, c0, p0, h1, g1, g2, q0n, Int.toNat_natCast, i64, xx, r108_0.2.2.1, tt, bb, bc, ↓bd, Nat.reduceEqDiff, ↓reduceIte, reduceCtorEq]
    refine x5t (i := i) (a := a) hs hf hfi hi ha ?_ ?_ ?_ ?_ ?_
    all_goals simp only [q0b, t0, t1, t7, t8, t9, Nat.reduceEqDiff, ↓reduceIte]
   ·simp only [t0, t8, c0, p0, h1, g1, q0n, Int.toNat_natCast, i64, xx, r108_0.2.2.1, tt, bb, bc, ↓bd, Nat.reduceEqDiff, ↓reduceIte, reduceCtorEq]
    refine x5t (i := i) (a := a) hs hf hfi hi ha ?_ ?_ ?_ ?_ ?_
    all_goals simp only [q0b, t0, t1, t7, t8, t9, Nat.reduceEqDiff, ↓reduceIte]
  | true =>
   rw [List.takeWhile_cons_of_pos hdd]
   have y2y := hdd
   unfold dg z7b at y2y
   simp only [Bool.and_eq_true, decide_eq_true_eq] at y2y
   obtain ⟨g1, g2⟩ := y2y
   have e : i + 1 + (l.takeWhile dg).length = i + (d :: l.takeWhile dg).length := by simp; omega
   have w6 : IntKind.i64.wrap ((i : Int) + 1) = ((i + 1 : Nat) : Int) := by rw [wr64 (by omega) (by omega)]; omega
   have ih := fun a' => y2r (neg := neg) (H := H) hs hf l (i + 1) a'
   rw [e] at ih
   have ec : x6x a (d :: l.takeWhile dg) = x6x (if a ≤ 9007199254740992 then a * 10 + (d.toNat - 48) else a) (l.takeWhile dg) := rfl
   rw [ec]
   by_cases hle : a ≤ 9007199254740992
   ·have g3 : (a : Int) ≤ 9007199254740992 := by omega
    rw [if_pos hle]
    have w1 : IntKind.i64.wrap ((a : Int) * 10) = (a : Int) * 10 := wr64 (by omega) (by omega)
    have w2 : IntKind.i64.wrap (d.toNat : Int) = (d.toNat : Int) := wr64 (by omega) (by omega)
    have w3 : IntKind.i64.wrap ((a : Int) * 10 + (d.toNat : Int)) = (a : Int) * 10 + (d.toNat : Int) := wr64 (by omega) (by omega)
    have w4 : IntKind.i64.wrap ((a : Int) * 10 + (d.toNat : Int) - 48) = ((a * 10 + (d.toNat - 48) : Nat) : Int) := by rw [wr64 (by omega) (by omega)]; omega
    simp only [t0, t8, t9, c0, p0, h1, g1, g2, g3, w1, w2, w3, w4, w6, q0n, Int.toNat_natCast, i64, xx, r108_0.2.2.1, tt, bb, bc, ↓bd, Nat.reduceEqDiff, ↓reduceIte, reduceCtorEq]
    refine ih _ _ h2 (by omega) (by omega) (by omega) ?_ ?_ ?_ ?_ ?_
    all_goals simp only [q0b, t0, t1, t7, Nat.reduceEqDiff, ↓reduceIte]
   ·have g3 : ¬ (a : Int) ≤ 9007199254740992 := by omega
    rw [if_neg hle]
    simp only [t0, t8, t9, c0, p0, h1, g1, g2, g3, w6, q0n, Int.toNat_natCast, i64, xx, r108_0.2.2.1, tt, bb, bc, ↓bd, Nat.reduceEqDiff, ↓reduceIte, reduceCtorEq]
    refine ih _ _ h2 (by omega) (by omega) (by omega) ?_ ?_ ?_ ?_ ?_
    all_goals simp only [q0b, t0, t1, t7, t9, Nat.reduceEqDiff, ↓reduceIte]
def y7c (s : Bytes) (neg : Bool) (fr : Nat) : AV := if fr = s.length then j0k 2 else w6m s neg fr (fr + ((s.drop fr).takeWhile dg).length) (x6x 0 ((s.drop fr).takeWhile dg))
def w6n (s : Bytes) (i : Nat) : AV := if s[i]? = some 45 then y7c s true (i + 1) else y7c s false i
theorem z9c {s : Bytes} {p : Nat} (hs : s.length ≤ 1000000) (hp : p ≤ s.length) : q0k Cx 108 [.str s, .int .i64 (p : Int)] (w6n s p) := by
 refine q0c (q0l _) y4y ?_
 have go : ∀ (T : Nat → AV) (neg : Bool) (fr : Nat), fr ≤ s.length → T 0 = .str s → T 1 = .int .i64 (fr : Int) → T 7 = .bool neg →
   Run Cx 108 T [] none [.code c108_10] AHeap.empty (fun r0 H' => BX.freeze H' r0 = some (y7c s neg fr)) := by
  intro T neg fr hfr t0 t1 t7
  unfold y7c
  by_cases he : fr = s.length
  ·have e0 : ((fr : Int) == (s.length : Int)) = true := by simp [he]
   rw [if_pos he]
   simp only [t0, t1, e0, j0k, i64, r108_0, z6j, tt, bb, bc, ↓bd, Nat.reduceEqDiff, ↓reduceIte, reduceCtorEq]
  ·have e0 : ((fr : Int) == (s.length : Int)) = false := by simp; omega
   rw [if_neg he]
   simp only [t0, t1, e0, i64, r108_0.2.1, tt, bb, bc, ↓bd, Nat.reduceEqDiff, ↓reduceIte, reduceCtorEq]
   refine y2r hs (by omega) _ fr 0 _ rfl (Nat.le_refl _) hfr (by omega) ?_ ?_ ?_ ?_ ?_
   all_goals simp only [q0b, t0, t1, t7, Nat.reduceEqDiff, ↓reduceIte]
   rfl
 unfold w6n
 have p0 : (0 : Int) ≤ (p : Int) := by omega
 by_cases hlt : p < s.length
 ·have c0 : (p : Int) < (s.length : Int) := by omega
  have hg : s[p]? = some s[p] := List.getElem?_eq_getElem hlt
  generalize s[p] = c at hg
  rw [hg]
  by_cases h45 : c = 45
  ·subst h45
   have z : (((45 : UInt8).toNat : Int) == 45) = true := rfl
   have w1 : IntKind.i64.wrap ((p : Int) + 1) = ((p + 1 : Nat) : Int) := by rw [wr64 (by omega) (by omega)]; omega
   rw [if_pos rfl]
   simp only [c0, p0, hg, z, w1, q0n, Int.toNat_natCast, i64, r108_0.1, tt, bb, bc, ↓bd, Nat.reduceEqDiff, ↓reduceIte, reduceCtorEq]
   refine go _ true (p + 1) (by omega) ?_ ?_ ?_
   all_goals simp only [q0b, q1g, List.getElem?_cons_zero, Option.getD_some, Nat.reduceEqDiff, ↓reduceIte]
  ·have z : ((c.toNat : Int) == 45) = false := q9f (n := 45) (by decide) h45
   rw [if_neg (fun h => h45 (Option.some.inj h))]
   simp only [c0, p0, hg, z, q0n, Int.toNat_natCast, i64, r108_0.1, tt, bb, bc, ↓bd, Nat.reduceEqDiff, ↓reduceIte, reduceCtorEq]
   refine go _ false p (by omega) ?_ ?_ ?_
   all_goals simp only [q0b, q1g, qez, Nat.reduceEqDiff, ↓reduceIte]
 ·have c0 : ¬ (p : Int) < (s.length : Int) := by omega
  rw [if_neg (by rw [List.getElem?_eq_none (by omega)]; simp)]
  simp only [c0, i64, r108_0.1, tt, bb, bc, ↓bd, Nat.reduceEqDiff, ↓reduceIte, reduceCtorEq]
  refine go _ false p (by omega) ?_ ?_ ?_
  all_goals simp only [q0b, q1g, qez, Nat.reduceEqDiff, ↓reduceIte]
end Go.Proofs.YtckhmpcmlochpaaGreat.G
