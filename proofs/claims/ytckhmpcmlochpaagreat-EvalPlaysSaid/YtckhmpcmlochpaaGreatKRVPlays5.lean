import Derived.Test.YtckhmpcmlochpaaGreatKRVPlays4
set_option linter.unusedSimpArgs false
set_option linter.unusedVariables false
set_option linter.unnecessarySimpa false
set_option linter.unusedSectionVars false
namespace Go.Proofs.YtckhmpcmlochpaaGreat.G.Gs
open Go.BX
def zx (a b c d : Int) : Int := a * c - b * (0 - d)
def zy (a b c d : Int) : Int := a * (0 - d) + b * c
def qX (a b c d : Int) : Int := nr (zx a b c d) (nrm c d)
def qY (a b c d : Int) : Int := nr (zy a b c d) (nrm c d)
def rX (a b c d : Int) : Int := a - (qX a b c d * c - qY a b c d * d)
def rY (a b c d : Int) : Int := b - (qX a b c d * d + qY a b c d * c)
theorem x4l (x : Int) : x ≤ x * x ∧ -x ≤ x * x := by
 constructor
 ·rcases Int.le_total 1 x with h | h
  ·have := Int.mul_nonneg (a := x) (b := x - 1) (by omega) (by omega)
   rw [Int.mul_sub] at this; omega
  ·have := Int.mul_nonneg (a := 1 - x) (b := 1 - x) (by omega) (by omega)
   simp only [Int.sub_mul, Int.mul_sub] at this
   rcases Int.le_total x 0 with h0 | h0
   ·have := Int.mul_nonneg_of_nonpos_of_nonpos h0 h0; omega
   ·have : x = 0 ∨ x = 1 := by omega
    rcases this with rfl | rfl <;> simp
 ·rcases Int.le_total x (-1) with h | h
  ·have := Int.mul_nonneg (a := -x) (b := -x - 1) (by omega) (by omega)
   simp only [Int.mul_sub, Int.neg_mul, Int.mul_neg, Int.mul_one] at this; omega
  ·rcases Int.le_total 0 x with h0 | h0
   ·have := Int.mul_nonneg h0 h0; omega
   ·have : x = 0 ∨ x = -1 := by omega
    rcases this with rfl | rfl <;> simp
theorem j6m {c d : Int} (h : ¬ (c = 0 ∧ d = 0)) : 0 < nrm c d := by
 have h1 := x4l c
 have h2 := x4l d
 unfold nrm
 by_cases hc : c = 0
 ·have hd : d ≠ 0 := fun e => h ⟨hc, e⟩
  subst hc
  omega
 ·omega
theorem x4m {a b c d : Int} (ha : inR a = true) (hb : inR b = true) : -(16777216 * nrm c d) ≤ a * c - b * (0 - d) ∧ a * c - b * (0 - d) ≤ 16777216 * nrm c d ∧ -(16777216 * nrm c d) ≤ a * (0 - d) + b * c ∧ a * (0 - d) + b * c ≤ 16777216 * nrm c d := by
 rw [inR_iff] at ha hb
 obtain ⟨c1, c2⟩ := x4l c
 obtain ⟨d1, d2⟩ := x4l d
 have e1 := z3e (A := 16777216) (M := c * c) ha (b := c) (by omega)
 have e2 := z3e (A := 16777216) (M := d * d) hb (b := 0 - d) (by omega)
 have e3 := z3e (A := 16777216) (M := d * d) ha (b := 0 - d) (by omega)
 have e4 := z3e (A := 16777216) (M := c * c) hb (b := c) (by omega)
 unfold nrm
 rw [Int.mul_add]
 omega
theorem z4e {n d : Int} (hd : 0 < d) (h : -(16777216 * d) ≤ n ∧ n ≤ 16777216 * d) : -16777216 ≤ nr n d ∧ nr n d ≤ 16777217 := by
 unfold nr
 constructor
 ·exact Int.le_ediv_of_mul_le (by omega) (by omega)
 ·exact Int.ediv_le_of_le_mul (by omega) (by omega)
theorem w5j (a b c d : Int) (ha : inR a = true) (hb : inR b = true) (hc : inR c = true) (hd : inR d = true) (h0 : ¬ (c = 0 ∧ d = 0)) :
  q0k Cx 113 [spot a b, spot c d] (.tuple [spot (qX a b c d) (qY a b c d), spot (rX a b c d) (rY a b c d)]) := by
 refine q0c (q0l _) y5c ?_
 have hp := j6m h0
 have hN := q8c hc hd
 have hNm : nrm c d ≤ 562949953421312 := by unfold nrm; omega
 obtain ⟨z1, z2, z3, z4⟩ := x4m (c := c) (d := d) ha hb
 have ha' := inR_iff.mp ha
 have hb' := inR_iff.mp hb
 have hc' := inR_iff.mp hc
 have hd' := inR_iff.mp hd
 have m1 := z3e ha' hc'
 have m2 := z3e hb' (b := 0 - d) (M := 16777216) (by omega)
 have m3 := z3e ha' (b := 0 - d) (M := 16777216) (by omega)
 have m4 := z3e hb' hc'
 have q1 : -16777216 ≤ qX a b c d ∧ qX a b c d ≤ 16777217 := z4e hp ⟨z1, z2⟩
 have q2 : -16777216 ≤ qY a b c d ∧ qY a b c d ≤ 16777217 := z4e hp ⟨z3, z4⟩
 have p1 := z3e (a := qX a b c d) (A := 16777217) (by omega) hc'
 have p2 := z3e (a := qY a b c d) (A := 16777217) (by omega) hd'
 have p3 := z3e (a := qX a b c d) (A := 16777217) (by omega) hd'
 have p4 := z3e (a := qY a b c d) (A := 16777217) (by omega) hc'
 have w1 : IntKind.i64.wrap (0 - d) = 0 - d := wr64 (by omega) (by omega)
 have f0 : q4a (0 - d) = true := q1q (by omega)
 have f1 : q4a (a * c) = true := q1q (by omega)
 have f2 : q4a (b * (0 - d)) = true := q1q (by omega)
 have f3 : q4a (a * c - b * (0 - d)) = true := q1q (by omega)
 have f4 : q4a (a * (0 - d)) = true := q1q (by omega)
 have f5 : q4a (b * c) = true := q1q (by omega)
 have f6 : q4a (a * (0 - d) + b * c) = true := q1q (by omega)
 have fa : q4a a = true := q1q (by omega)
 have fb : q4a b = true := q1q (by omega)
 have fc : q4a c = true := q1q (by omega)
 have fd : q4a d = true := q1q (by omega)
 have fq1 : q4a (qX a b c d) = true := q1q (by omega)
 have fq2 : q4a (qY a b c d) = true := q1q (by omega)
 have g1 : q4a (qX a b c d * c) = true := q1q (by omega)
 have g2 : q4a (qY a b c d * d) = true := q1q (by omega)
 have g3 : q4a (qX a b c d * d) = true := q1q (by omega)
 have g4 : q4a (qY a b c d * c) = true := q1q (by omega)
 have g5 : q4a (qX a b c d * c - qY a b c d * d) = true := q1q (by omega)
 have g6 : q4a (qX a b c d * d + qY a b c d * c) = true := q1q (by omega)
 have g7 : q4a (a - (qX a b c d * c - qY a b c d * d)) = true := q1q (by omega)
 have g8 : q4a (b - (qX a b c d * d + qY a b c d * c)) = true := q1q (by omega)
 have y0b : IntKind.i64.min = -9223372036854775808 := rfl
 have y3b : IntKind.i64.max = 9223372036854775807 := rfl
 have v1 : (-9223372036854775808 ≤ a * c - b * (0 - d) ∧ a * c - b * (0 - d) ≤ 9223372036854775807) = True := eq_true (by omega)
 have v2 : (-9223372036854775808 ≤ a * (0 - d) + b * c ∧ a * (0 - d) + b * c ≤ 9223372036854775807) = True := eq_true (by omega)
 have v3 : (-9223372036854775808 ≤ a - (qX a b c d * c - qY a b c d * d) ∧ a - (qX a b c d * c - qY a b c d * d) ≤ 9223372036854775807) = True := eq_true (by omega)
 have v4 : (-9223372036854775808 ≤ b - (qX a b c d * d + qY a b c d * c) ∧ b - (qX a b c d * d + qY a b c d * c) ≤ 9223372036854775807) = True := eq_true (by omega)
 have e1 : q0k Cx 120 [.int .i64 (a * c - b * (0 - d)), .int .i64 (nrm c d)] (.int .i64 (qX a b c d)) := z8z _ _ (by omega) (by omega)
 have e2 : q0k Cx 120 [.int .i64 (a * (0 - d) + b * c), .int .i64 (nrm c d)] (.int .i64 (qY a b c d)) := z8z _ _ (by omega) (by omega)
 simp only [w1, f1, f2, f3, f4, f5, f6, g1, g2, g3, g4, g5, g6, g7, g8, y0b, y3b, v1, v2, v3, v4, q9j, q0a q3h rfl (q8v a b fa fb), q0a q3h rfl (q8v c (0 - d) fc f0), q0a q3h rfl (q8v c d fc fd), q0a q3h rfl (q8v (qX a b c d) (qY a b c d) fq1 fq2), q0a x3q rfl (x4k c d hc hd), q0a x3w rfl e1, q0a x3w rfl e2, rX, rY, r113_0, w4q, tt, bb, bc, ↓bd, Nat.reduceEqDiff, Nat.reduceAdd, Nat.reduceLeDiff, ↓reduceIte, reduceCtorEq, Int.reduceNeg]
end Go.Proofs.YtckhmpcmlochpaaGreat.G.Gs
namespace Go.Proofs.YtckhmpcmlochpaaGreat.G
open Go.BX
variable {fn : FuncId} {T : Nat → AV} {ds : List ADef} {ro : Option Nat} {k : List AItem} {Q : AV → AHeap → Prop} {dst : Option Nat} {os : List AO}
abbrev nV (n : Int) : Vl := ⟨0, n, [], 0, 0⟩
abbrev tV (s : Bytes) : Vl := ⟨1, 0, s, 0, 0⟩
abbrev pV (x y : Int) : Vl := ⟨2, 0, [], x, y⟩
abbrev zV : Vl := ⟨0, 0, [], 0, 0⟩
abbrev x1a (b : Bool) : Vl := if b then nV 1 else nV 0
abbrev x4n (k : Bytes) (v : Vl) : Pr := ⟨k, v.k, v.n, v.s, v.x, v.y⟩
def z1j (a b : Vl) : Int := x0n a.k a.n a.s a.x a.y b.k b.n b.s b.x b.y
structure Env where
 key : Bytes
 val : Vl
 acc : Vl
structure St where
 i : Int
 it : Vl
 out : List Pr
 left : Nat
 err : Int
inductive Ex where
 | lit (v : Vl)
 | nam (n : Int)
 | op1 (op : Int) (a : Ex)
 | op2 (op : Int) (a b : Ex)
 | op3 (op : Int) (a b c : Ex)
def q0o : Ex → List Nd
 | .lit v => [⟨0, v⟩]
 | .nam n => [⟨1, nV n⟩]
 | .op1 op a => ⟨op, zV⟩ :: q0o a
 | .op2 op a b => ⟨op, zV⟩ :: (q0o a ++ q0o b)
 | .op3 op a b c => ⟨op, zV⟩ :: (q0o a ++ (q0o b ++ q0o c))
def WF : Ex → Prop
 | .lit v => okV v = true
 | .nam n => 0 ≤ n ∧ n < 5
 | .op1 op a => (q4n op = true ∧ q1b op = 1) ∧ WF a
 | .op2 op a b => (q4n op = true ∧ q1b op = 2) ∧ WF a ∧ WF b
 | .op3 op a b c => (q4n op = true ∧ q1b op = 3) ∧ WF a ∧ WF b ∧ WF c
inductive AR where
 | val (v : Vl)
 | out (p : Pr) (v : Vl)
 | bad (e : Int)
def q9g (v : Vl) : AR := if okV v then .val v else .bad 14
def z7m (x y : Int) : AR := if inR x && inR y then .val (pV x y) else .bad 14
def q3s (a b : Int) : Int × Int := if (a.tmod b != 0) && (decide (a.tmod b < 0) != decide (b < 0)) then (a.tdiv b - 1, a.tmod b + b) else (a.tdiv b, a.tmod b)
def z6p (op a b : Int) : AR :=
 if op = 2 then q9g (nV (a + b)) else if op = 3 then q9g (nV (a - b)) else if op = 4 then q9g (nV (a * b))
 else if b = 0 then .bad 16 else if op = 6 then .val (nV (q3s a b).2) else q9g (nV (q3s a b).1)
def q6c (op a b c d : Int) : AR :=
 if op = 2 then z7m (a + c) (b + d) else if op = 3 then z7m (a - c) (b - d) else if op = 4 then z7m (a * c - b * d) (a * d + b * c)
 else if c = 0 ∧ d = 0 then .bad 16
 else if (inR (Gs.qX a b c d) && inR (Gs.qY a b c d)) && (inR (Gs.rX a b c d) && inR (Gs.rY a b c d)) then (if op = 6 then .val (pV (Gs.rX a b c d) (Gs.rY a b c d)) else .val (pV (Gs.qX a b c d) (Gs.qY a b c d))) else .bad 14
def q2f : Bytes → Bytes → List Bytes
 | [], cur => if cur = [] then [] else [cur]
 | c :: r, cur => if c = 32 then (if cur = [] then q2f r [] else cur :: q2f r []) else q2f r (cur ++ [c])
def q1u (s : Bytes) : List Bytes := q2f s []
def j1a (s : Bytes) : AR :=
 match z1h s with
 | .ok (v, n) => if n = s.length ∧ v.k = 0 then .val v else .bad 6
 | .error _ => .bad 6
def ap1 (op : Int) (a : Vl) : AR :=
 if op = 7 then (if a.k = 2 then .val (pV (-a.x) (-a.y)) else if a.k = 0 then .val (nV (-a.n)) else .bad 13)
 else if op = 10 then (if a.k = 0 then .val (x1a (a.n == 0)) else .bad 13)
 else if op = 15 then (if a.k = 1 then .val (nV a.s.length) else .bad 13)
 else if op = 18 then (if a.k = 1 then .val (nV (q1u a.s).length) else .bad 13)
 else if op = 19 then (if a.k = 1 then j1a a.s else .bad 13)
 else if op = 20 then (if a.k = 1 then .val a else .val (tV (q6p a.k a.n a.s a.x a.y)))
 else if a.k = 2 then (if op = 22 then .val (nV a.x) else if op = 23 then .val (nV a.y) else if op = 24 then .val (nV (a.x * a.x + a.y * a.y)) else .val (pV a.x (-a.y)))
 else .bad 13
def ap2 (op : Int) (a b : Vl) (n : Nat) : AR :=
 if op ≤ 6 then (if a.k = 2 ∧ b.k = 2 then q6c op a.x a.y b.x b.y else if a.k = 0 ∧ b.k = 0 then z6p op a.n b.n else .bad 13)
 else if op = 9 then .val (x1a (z1j a b == 0))
 else if op ≤ 13 then (if a.k = b.k then (if op = 8 then .val (x1a (decide (z1j a b < 0))) else if op = 12 then .val (if 0 < z1j a b then a else b) else .val (if z1j a b ≤ 0 then a else b)) else .bad 13)
 else if op = 14 then (if a.k = 1 ∧ b.k = 1 then (if a.s.length + b.s.length ≤ 4096 then .val (tV (a.s ++ b.s)) else .bad 3) else .bad 13)
 else if op = 17 then (if a.k = 1 ∧ b.k = 0 then (if 0 ≤ b.n ∧ b.n < (q1u a.s).length then .val (tV ((q1u a.s).getD b.n.toNat [])) else .bad 14) else .bad 13)
 else if op = 21 then (if a.k = 0 ∧ b.k = 0 then z7m a.n b.n else .bad 13)
 else if op = 26 then (if a.k = 1 then (if a.s.length ≤ 64 then (if n = 64 then .bad 22 else .out (x4n a.s b) b) else .bad 3) else .bad 13)
 else .val b
def ap3 (a b c : Vl) : AR :=
 if a.k = 1 ∧ b.k = 0 ∧ c.k = 0 then (if (0 ≤ b.n ∧ b.n ≤ c.n) ∧ c.n ≤ a.s.length then .val (tV ((a.s.take c.n.toNat).drop b.n.toNat)) else .bad 14) else .bad 13
def q1v (r : AR) (st : St) : Vl × St :=
 match r with
 | .val v => (v, st)
 | .out p v => (v, { st with out := st.out ++ [p] })
 | .bad e => (zV, { st with err := e })
def q1f (e : Int) (st : St) : St := if st.err = 0 then { st with err := e } else st
def q5l (f : St → Vl × St) (N : Int) : Nat → Int → Vl → St → Vl × St
 | 0, _, v, st => (v, st)
 | c + 1, k, v, st => if k < N ∧ st.err = 0 then q5l f N c (k + 1) (f { st with i := k }).1 (f { st with i := k }).2 else (v, st)
def x0q (E : Env) (n : Int) (st : St) : Vl := if n = 0 then tV E.key else if n = 1 then E.val else if n = 2 then E.acc else if n = 3 then nV st.i else st.it
def evT (E : Env) (f : Ex → St → Vl × St) (g : Nat) (t : Ex) (st : St) : Vl × St :=
 match t with
 | .lit v => (v, st)
 | .nam n => (x0q E n st, st)
 | .op1 op a => if (f a st).2.err ≠ 0 then (zV, (f a st).2) else q1v (ap1 op (f a st).1) (f a st).2
 | .op2 op a b =>
  if (f a st).2.err ≠ 0 then (zV, (f a st).2)
  else if op = 29 then ((f b { (f a st).2 with it := (f a st).1 }).1, { (f b { (f a st).2 with it := (f a st).1 }).2 with it := (f a st).2.it })
  else if op = 28 then (if (f a st).1.k ≠ 0 then (zV, { (f a st).2 with err := 13 }) else if (f a st).1.n < 0 then (zV, { (f a st).2 with err := 14 })
   else ((q5l (f b) (f a st).1.n (g + 1) 0 (nV 0) (f a st).2).1, { (q5l (f b) (f a st).1.n (g + 1) 0 (nV 0) (f a st).2).2 with i := (f a st).2.i }))
  else if (f b (f a st).2).2.err ≠ 0 then (zV, (f b (f a st).2).2)
  else q1v (ap2 op (f a st).1 (f b (f a st).2).1 (f b (f a st).2).2.out.length) (f b (f a st).2).2
 | .op3 op a b c =>
  if (f a st).2.err ≠ 0 then (zV, (f a st).2)
  else if op = 11 then (if (f a st).1.k ≠ 0 then (zV, { (f a st).2 with err := 13 }) else if (f a st).1.n ≠ 0 then f b (f a st).2 else f c (f a st).2)
  else if (f b (f a st).2).2.err ≠ 0 then (zV, (f b (f a st).2).2)
  else if (f c (f b (f a st).2).2).2.err ≠ 0 then (zV, (f c (f b (f a st).2).2).2)
  else q1v (ap3 (f a st).1 (f b (f a st).2).1 (f c (f b (f a st).2).2).1) (f c (f b (f a st).2).2).2
def ev (E : Env) : Nat → Ex → St → Vl × St
 | 0, _, st => (zV, q1f 15 st)
 | g + 1, t, st => if st.err ≠ 0 ∨ st.left = 0 then (zV, q1f 15 st) else evT E (ev E g) g t { st with left := st.left - 1 }
theorem j3y {E : Env} {g : Nat} {t : Ex} {st : St} (h : st.err ≠ 0) : ev E g t st = (zV, st) := by
 cases g with
 | zero => show (zV, q1f 15 st) = _; unfold q1f; rw [if_neg h]
 | succ g => unfold ev; rw [if_pos (.inl h)]; unfold q1f; rw [if_neg h]
theorem z6q {E : Env} {g : Nat} {t : Ex} {st : St} (h : st.err = 0) (h0 : st.left = 0) : ev E g t st = (zV, { st with err := 15 }) := by
 cases g with
 | zero => show (zV, q1f 15 st) = _; unfold q1f; rw [if_pos h]
 | succ g => unfold ev; rw [if_pos (.inr h0)]; unfold q1f; rw [if_pos h]
theorem z6r {E : Env} {g : Nat} {t : Ex} {st : St} (h : st.err = 0) (h0 : st.left ≠ 0) : ev E (g + 1) t st = evT E (ev E g) g t { st with left := st.left - 1 } := by
 conv => lhs; unfold ev
 rw [if_neg (by simp [h, h0])]
theorem x9c {v : Vl} (h : z3q v = true) : v = zV := by
 unfold z3q at h
 simp only [Bool.and_eq_true, beq_iff_eq] at h
 obtain ⟨h1, h2, h3, h4, h5⟩ := h
 cases v
 simp only at h1 h2 h3 h4 h5
 subst h1 h2 h3 h4 h5
 rfl
theorem x4o {n : Nd} (h : q2v n = true) : ∃ t, q0o t = [n] ∧ WF t := by
 obtain ⟨op, v⟩ := n
 have hok := x9a h
 rcases (q8t h).2 with h0 | h1
 ·simp only at h0
  subst h0
  exact ⟨.lit v, rfl, hok⟩
 ·simp only at h1
  subst h1
  unfold q2v at h
  rw [if_pos rfl] at h
  simp only [Bool.and_eq_true, decide_eq_true_eq, beq_iff_eq] at h
  obtain ⟨⟨⟨hk, _⟩, h0⟩, h5⟩ := h
  refine ⟨.nam v.n, ?_, h0, h5⟩
  obtain ⟨k, n, s, x, y⟩ := v
  simp only at hk hok h0 h5
  subst hk
  rcases q3o (show q1j 0 n s x y = true from hok) with ⟨_, _, rfl, rfl, rfl⟩ | ⟨hk, _⟩ | ⟨hk, _⟩
  ·rfl
  ·cases hk
  ·cases hk
theorem w9t {d k : Nat} {l : List Nd} {bs : List Bytes} (h : Es d k l bs) : ∃ ts : List Ex, ts.length = k ∧ (∀ t, t ∈ ts → WF t) ∧ l = (ts.map q0o).flatten := by
 induction h with
 | nil => exact ⟨[], rfl, fun t h => (by cases h), rfl⟩
 | leaf h hs ih =>
  obtain ⟨ts, h1, h2, h3⟩ := ih
  obtain ⟨t, e, hw⟩ := x4o h
  refine ⟨t :: ts, by simp [h1], fun x hx => ?_, ?_⟩
  ·rcases List.mem_cons.mp hx with rfl | hx
   ·exact hw
   ·exact h2 x hx
  ·rw [List.map_cons, List.flatten_cons, e, h3]; rfl
 | @node d k n ps ls cs bs h hz hp hs ih1 ih2 =>
  obtain ⟨us, g1, g2, g3⟩ := ih1
  obtain ⟨ts, h1, h2, h3⟩ := ih2
  obtain ⟨op, v⟩ := n
  simp only at h hz g1 hp
  obtain rfl := x9c hz
  have hpp := q2h h
  have key : ∃ t, WF t ∧ q0o t = ⟨op, zV⟩ :: ps := by
   match us, g1, g2, g3 with
   | [], g1, _, _ => simp at g1; omega
   | [a], g1, g2, g3 => exact ⟨.op1 op a, ⟨⟨h, g1.symm⟩, g2 a (by simp)⟩, by rw [g3]; simp [q0o]⟩
   | [a, b], g1, g2, g3 => exact ⟨.op2 op a b, ⟨⟨h, g1.symm⟩, g2 a (by simp), g2 b (by simp)⟩, by rw [g3]; simp [q0o]⟩
   | [a, b, c], g1, g2, g3 => exact ⟨.op3 op a b c, ⟨⟨h, g1.symm⟩, g2 a (by simp), g2 b (by simp), g2 c (by simp)⟩, by rw [g3]; simp [q0o]⟩
   | a :: b :: c :: e :: us, g1, _, _ => simp at g1; omega
  obtain ⟨t, hw, e⟩ := key
  refine ⟨t :: ts, by simp [h1], fun x hx => ?_, ?_⟩
  ·rcases List.mem_cons.mp hx with rfl | hx
   ·exact hw
   ·exact h2 x hx
  ·rw [List.map_cons, List.flatten_cons, e, h3]; rfl
theorem z9a {l : List Nd} (h : q2w l = true) : l.length ≤ 400 ∧ ∃ t, WF t ∧ l = q0o t := by
 obtain ⟨h1, b, hb⟩ := right_iff.mp h
 refine ⟨h1, ?_⟩
 obtain ⟨ts, g1, g2, g3⟩ := w9t hb
 match ts, g1, g2, g3 with
 | [t], _, g2, g3 => exact ⟨t, g2 t (by simp), by rw [g3]; simp⟩
structure Kp (s s' : St) : Prop where
 i : s'.i = s.i
 it : s'.it = s.it
 left : s'.left ≤ s.left
 bad : s.err ≠ 0 → s' = s
 out : ∃ l, s'.out = s.out ++ l
theorem Kp.refl (s : St) : Kp s s := ⟨rfl, rfl, Nat.le_refl _, fun _ => rfl, [], by rw [List.append_nil]⟩
theorem Kp.trans {a b c : St} (h : Kp a b) (h' : Kp b c) : Kp a c where
 i := h'.i.trans h.i
 it := h'.it.trans h.it
 left := Nat.le_trans h'.left h.left
 bad hb := by
  have e := h.bad hb
  have := h'.bad (by rw [e]; exact hb)
  rw [this, e]
 out := by
  obtain ⟨l, e⟩ := h.out
  obtain ⟨m, e'⟩ := h'.out
  exact ⟨l ++ m, by rw [e', e, List.append_assoc]⟩
theorem Kp.fin {s : St} (h : s.err = 0) (r : AR) : Kp s (q1v r s).2 := by
 cases r with
 | val v => exact Kp.refl s
 | out p v => exact ⟨rfl, rfl, Nat.le_refl _, fun hb => absurd h hb, [p], rfl⟩
 | bad e => exact ⟨rfl, rfl, Nat.le_refl _, fun hb => absurd h hb, [], by rw [List.append_nil]; rfl⟩
theorem Kp.err {s : St} (h : s.err = 0) (e : Int) : Kp s { s with err := e } := ⟨rfl, rfl, Nat.le_refl _, fun hb => absurd h hb, [], by rw [List.append_nil]⟩
structure Kq (s s' : St) : Prop where
 it : s'.it = s.it
 left : s'.left ≤ s.left
 out : ∃ l, s'.out = s.out ++ l
 bad : s.err ≠ 0 → s' = s
theorem x4p {f : St → Vl × St} (hf : ∀ s, Kp s (f s).2) (N : Int) : ∀ (c : Nat) (k : Int) (v : Vl) (s : St), Kq s (q5l f N c k v s).2
 | 0, k, v, s => ⟨rfl, Nat.le_refl _, ⟨[], by rw [List.append_nil]; rfl⟩, fun _ => rfl⟩
 | c + 1, k, v, s => by
  unfold q5l
  split
  ·rename_i hc
   have h1 := hf { s with i := k }
   have h2 := x4p hf N c (k + 1) (f { s with i := k }).1 (f { s with i := k }).2
   refine ⟨h2.it.trans h1.it, Nat.le_trans h2.left h1.left, ?_, fun hb => absurd hc.2 hb⟩
   obtain ⟨l, e⟩ := h1.out
   obtain ⟨m, e'⟩ := h2.out
   exact ⟨l ++ m, by rw [e', e, List.append_assoc]⟩
  ·exact ⟨rfl, Nat.le_refl _, ⟨[], by rw [List.append_nil]⟩, fun _ => rfl⟩
theorem y1z {E : Env} {f : Ex → St → Vl × St} (hf : ∀ t s, Kp s (f t s).2) (g : Nat) (t : Ex) {s : St} (h : s.err = 0) : Kp s (evT E f g t s).2 := by
 cases t with
 | lit v => exact Kp.refl s
 | nam n => exact Kp.refl s
 | op1 op a =>
  have ha := hf a s
  unfold evT
  simp only
  split
  ·exact ha
  ·rename_i h1
   exact ha.trans (Kp.fin (by simpa using h1) _)
 | op2 op a b =>
  have ha := hf a s
  unfold evT
  simp only
  split
  ·exact ha
  rename_i h1
  have h1 : (f a s).2.err = 0 := by simpa using h1
  split
  ·have hb := hf b { (f a s).2 with it := (f a s).1 }
   refine ha.trans ⟨hb.i, rfl, hb.left, fun hx => absurd h1 hx, hb.out⟩
  split
  ·split
   ·exact ha.trans (Kp.err h1 _)
   split
   ·exact ha.trans (Kp.err h1 _)
   ·have hb := x4p (fun s => hf b s) (f a s).1.n (g + 1) 0 (nV 0) (f a s).2
    exact ha.trans ⟨rfl, hb.it, hb.left, fun hx => absurd h1 hx, hb.out⟩
  ·have hb := hf b (f a s).2
   split
   ·exact ha.trans hb
   ·rename_i h2
    exact (ha.trans hb).trans (Kp.fin (by simpa using h2) _)
 | op3 op a b c =>
  have ha := hf a s
  unfold evT
  simp only
  split
  ·exact ha
  rename_i h1
  have h1 : (f a s).2.err = 0 := by simpa using h1
  split
  ·split
   ·exact ha.trans (Kp.err h1 _)
   split
   ·exact ha.trans (hf b _)
   ·exact ha.trans (hf c _)
  ·have hb := hf b (f a s).2
   split
   ·exact ha.trans hb
   have hc := hf c (f b (f a s).2).2
   split
   ·exact (ha.trans hb).trans hc
   ·rename_i h2
    exact ((ha.trans hb).trans hc).trans (Kp.fin (by simpa using h2) _)
theorem z7n {E : Env} : ∀ (g : Nat) (t : Ex) (s : St), Kp s (ev E g t s).2
 | 0, t, s => by
  show Kp s (q1f 15 s)
  unfold q1f
  split
  ·rename_i h; exact Kp.err h _
  ·exact Kp.refl s
 | g + 1, t, s => by
  by_cases h : s.err = 0
  ·by_cases h0 : s.left = 0
   ·rw [z6q h h0]; exact Kp.err h _
   ·rw [z6r h h0]
    have := y1z (E := E) (f := ev E g) (z7n g) g t (s := { s with left := s.left - 1 }) h
    refine ⟨this.i, this.it, Nat.le_trans this.left (Nat.sub_le _ _), fun hb => absurd h hb, this.out⟩
  ·rw [j3y h]; exact Kp.refl s
theorem x4q {E : Env} {g : Nat} {t : Ex} {s : St} (h : (ev E g t s).2.err = 0) : (ev E g t s).2.left < s.left := by
 by_cases he : s.err = 0
 ·by_cases h0 : s.left = 0
  ·rw [z6q he h0] at h; cases h
  ·cases g with
   | zero =>
    replace h : (q1f 15 s).err = 0 := h
    unfold q1f at h
    rw [if_pos he] at h; cases h
   | succ g =>
    rw [z6r he h0]
    have := (y1z (E := E) (f := ev E g) (z7n g) g t (s := { s with left := s.left - 1 }) he).left
    simp only at this
    omega
 ·rw [j3y he] at h; exact absurd h he
structure Sk (s : St) : Prop where
 it : okV s.it = true
 i0 : 0 ≤ s.i
 i1 : s.i ≤ 9007199254740992
 out : s.out.length ≤ 64
 outs : ∀ p, p ∈ s.out → p.key.length ≤ 64 ∧ q1j p.k p.n p.s p.x p.y = true
structure Ek (E : Env) : Prop where
 key : E.key.length ≤ 4096
 val : okV E.val = true
 acc : okV E.acc = true
theorem y2a {n : Int} (h : -9007199254740992 ≤ n ∧ n ≤ 9007199254740992) : okV (nV n) = true := by
 unfold okV q1j
 simp
 omega
theorem w5k {s : Bytes} (h : s.length ≤ 4096) : okV (tV s) = true := by
 unfold okV q1j
 simp
 omega
theorem w5l {x y : Int} (hx : inR x = true) (hy : inR y = true) : okV (pV x y) = true := by
 unfold okV q1j
 simp [hx, hy]
theorem x0r : okV zV = true := rfl
theorem x4r (b : Bool) : okV (x1a b) = true := by cases b <;> rfl
theorem q3r {v : Vl} (h : okV v = true) : (v.k = 0 ∧ (-9007199254740992 ≤ v.n ∧ v.n ≤ 9007199254740992) ∧ v = nV v.n) ∨ (v.k = 1 ∧ v.s.length ≤ 4096 ∧ v = tV v.s) ∨ (v.k = 2 ∧ (inR v.x = true ∧ inR v.y = true) ∧ v = pV v.x v.y) := by
 obtain ⟨k, n, s, x, y⟩ := v
 rcases q3o (show q1j k n s x y = true from h) with ⟨h1, h2, h3, h4, h5⟩ | ⟨h1, h2, h3, h4, h5⟩ | ⟨h1, h2, h3, h4⟩
 ·subst h1 h3 h4 h5; exact .inl ⟨rfl, h2, rfl⟩
 ·subst h1 h3 h4 h5; exact .inr (.inl ⟨rfl, h2, rfl⟩)
 ·subst h1 h3 h4; exact .inr (.inr ⟨rfl, h2, rfl⟩)
def ARk (n : Nat) : AR → Prop
 | .val v => okV v = true
 | .out p v => okV v = true ∧ (p.key.length ≤ 64 ∧ q1j p.k p.n p.s p.x p.y = true) ∧ n < 64
 | .bad e => e ≠ 0 ∧ e ≠ 15
theorem j8k (v : Vl) (n : Nat) : ARk n (q9g v) := by
 unfold q9g
 split
 ·rename_i h; exact h
 ·exact ⟨by decide, by decide⟩
theorem j8l (x y : Int) (n : Nat) : ARk n (z7m x y) := by
 unfold z7m
 split
 ·rename_i h
  simp only [Bool.and_eq_true] at h
  exact w5l h.1 h.2
 ·exact ⟨by decide, by decide⟩
theorem y5y {a b : Int} (hb0 : b ≠ 0) (hb : -9007199254740992 ≤ b ∧ b ≤ 9007199254740992) : -9007199254740992 ≤ (q3s a b).2 ∧ (q3s a b).2 ≤ 9007199254740992 := by
 have h1 : (a.tmod b).natAbs < b.natAbs := by
  rw [Int.natAbs_tmod]
  exact Nat.mod_lt _ (by omega)
 unfold q3s
 split
 ·rename_i h
  simp only [Bool.and_eq_true, bne_iff_ne, ne_eq, decide_eq_decide] at h
  show _ ≤ a.tmod b + b ∧ a.tmod b + b ≤ _
  omega
 ·show _ ≤ a.tmod b ∧ a.tmod b ≤ _
  omega
theorem w5m {op a b : Int} {n : Nat} (hb : -9007199254740992 ≤ b ∧ b ≤ 9007199254740992) : ARk n (z6p op a b) := by
 unfold z6p
 split
 ·exact j8k _ _
 split
 ·exact j8k _ _
 split
 ·exact j8k _ _
 split
 ·exact ⟨by decide, by decide⟩
 rename_i hb0
 split
 ·exact y2a (y5y hb0 hb)
 ·exact j8k _ _
theorem w5n {op a b c d : Int} {n : Nat} : ARk n (q6c op a b c d) := by
 unfold q6c
 split
 ·exact j8l _ _ _
 split
 ·exact j8l _ _ _
 split
 ·exact j8l _ _ _
 split
 ·exact ⟨by decide, by decide⟩
 split
 ·rename_i h
  simp only [Bool.and_eq_true] at h
  split
  ·exact w5l h.2.1 h.2.2
  ·exact w5l h.1.1 h.1.2
 ·exact ⟨by decide, by decide⟩
theorem z6s : ∀ (s cur : Bytes), (q2f s cur).length ≤ s.length + (if cur = [] then 0 else 1) ∧ ∀ w, w ∈ q2f s cur → w.length ≤ s.length + cur.length
 | [], cur => by
  unfold q2f
  by_cases h : cur = []
  ·rw [if_pos h, if_pos h]; exact ⟨by simp, fun w hw => by cases hw⟩
  ·rw [if_neg h, if_neg h]; exact ⟨by simp, fun w hw => by simp at hw; subst hw; simp⟩
 | c :: r, cur => by
  unfold q2f
  by_cases hc : c = 32
  ·rw [if_pos hc]
   have ih := z6s r []
   simp only [if_true, List.length_nil, Nat.add_zero] at ih
   by_cases h : cur = []
   ·rw [if_pos h, if_pos h]
    refine ⟨by rw [List.length_cons]; omega, fun w hw => ?_⟩
    have := ih.2 w hw
    rw [List.length_cons]; omega
   ·rw [if_neg h, if_neg h]
    refine ⟨by rw [List.length_cons, List.length_cons]; omega, fun w hw => ?_⟩
    rcases List.mem_cons.mp hw with rfl | hw
    ·rw [List.length_cons]; omega
    ·have := ih.2 w hw
     rw [List.length_cons]; omega
  ·rw [if_neg hc]
   have ih := z6s r (cur ++ [c])
   rw [if_neg (by simp)] at ih
   refine ⟨?_, fun w hw => ?_⟩
   ·rw [List.length_cons]
    have := ih.1
    split <;> omega
   ·have := ih.2 w hw
    rw [List.length_append, List.length_singleton] at this
    rw [List.length_cons]; omega
theorem x4s (s : Bytes) : (q1u s).length ≤ s.length ∧ ∀ w, w ∈ q1u s → w.length ≤ s.length := by
 have := z6s s []
 simp only [if_true, List.length_nil, Nat.add_zero] at this
 exact this
theorem x4t {v : Vl} (h : okV v = true) (h1 : v.k ≠ 1) : (q6p v.k v.n v.s v.x v.y).length ≤ 4096 := by
 unfold q6p
 rcases q3r h with ⟨k0, n0, _⟩ | ⟨k1, _⟩ | ⟨k2, ⟨x0, y0⟩, _⟩
 ·rw [if_pos k0]
  have := q7d v.n n0; omega
 ·exact absurd k1 h1
 ·rw [if_neg (by omega), if_neg (by omega)]
  rw [inR_iff] at x0 y0
  have l1 := q7d v.x (by omega)
  have l2 := q7d v.y (by omega)
  rw [List.length_append, List.length_append, List.length_singleton]; omega
theorem w5o (s : Bytes) (n : Nat) : ARk n (j1a s) := by
 unfold j1a
 split
 ·rename_i v m h
  split
  ·exact (x4j h).1
  ·exact ⟨by decide, by decide⟩
 ·exact ⟨by decide, by decide⟩
theorem sq_b {x : Int} (h : -16777216 ≤ x ∧ x ≤ 16777216) : 0 ≤ x * x ∧ x * x ≤ 281474976710656 := by
 have h1 := Int.mul_nonneg (a := 16777216 - x) (b := 16777216 + x) (by omega) (by omega)
 have e : (16777216 - x) * (16777216 + x) = 281474976710656 - x * x := by grind
 have h2 : 0 ≤ x * x := by
  rcases Int.lt_or_le x 0 with h | h
  ·have := Int.mul_nonneg (a := -x) (b := -x) (by omega) (by omega)
   rw [Int.neg_mul_neg] at this; exact this
  ·exact Int.mul_nonneg h h
 omega
theorem j6n {x : Int} (h : inR x = true) : inR (-x) = true := by rw [inR_iff] at *; omega
theorem q0w {v : Vl} (h : okV v = true) : (v.k = 0 → -9007199254740992 ≤ v.n ∧ v.n ≤ 9007199254740992) ∧ (v.k = 1 → v.s.length ≤ 4096) ∧ (v.k = 2 → inR v.x = true ∧ inR v.y = true) := by
 rcases q3r h with ⟨k0, n0, _⟩ | ⟨k1, s1, _⟩ | ⟨k2, p, _⟩
 ·exact ⟨fun _ => n0, fun h => absurd h (by omega), fun h => absurd h (by omega)⟩
 ·exact ⟨fun h => absurd h (by omega), fun _ => s1, fun h => absurd h (by omega)⟩
 ·exact ⟨fun h => absurd h (by omega), fun h => absurd h (by omega), fun _ => p⟩
theorem w9u {op : Int} {a : Vl} (ha : okV a = true) (n : Nat) : ARk n (ap1 op a) := by
 have hb : ∀ e : Int, e ≠ 0 ∧ e ≠ 15 → ARk n (.bad e) := fun e h => h
 obtain ⟨f0, f1, f2⟩ := q0w ha
 unfold ap1
 by_cases h7 : op = 7
 ·rw [if_pos h7]
  by_cases k2 : a.k = 2
  ·rw [if_pos k2]; exact w5l (j6n (f2 k2).1) (j6n (f2 k2).2)
  rw [if_neg k2]
  by_cases k0 : a.k = 0
  ·rw [if_pos k0]; have := f0 k0; exact y2a (by omega)
  ·rw [if_neg k0]; exact hb _ (by decide)
 rw [if_neg h7]
 by_cases h10 : op = 10
 ·rw [if_pos h10]
  by_cases k0 : a.k = 0
  ·rw [if_pos k0]; exact x4r _
  ·rw [if_neg k0]; exact hb _ (by decide)
 rw [if_neg h10]
 by_cases h15 : op = 15
 ·rw [if_pos h15]
  by_cases k1 : a.k = 1
  ·rw [if_pos k1]; have := f1 k1; exact y2a (by omega)
  ·rw [if_neg k1]; exact hb _ (by decide)
 rw [if_neg h15]
 by_cases h18 : op = 18
 ·rw [if_pos h18]
  by_cases k1 : a.k = 1
  ·rw [if_pos k1]; have := f1 k1; have := (x4s a.s).1; exact y2a (by omega)
  ·rw [if_neg k1]; exact hb _ (by decide)
 rw [if_neg h18]
 by_cases h19 : op = 19
 ·rw [if_pos h19]
  by_cases k1 : a.k = 1
  ·rw [if_pos k1]; exact w5o _ _
  ·rw [if_neg k1]; exact hb _ (by decide)
 rw [if_neg h19]
 by_cases h20 : op = 20
 ·rw [if_pos h20]
  by_cases k1 : a.k = 1
  ·rw [if_pos k1]; exact ha
  ·rw [if_neg k1]; exact w5k (x4t ha k1)
 rw [if_neg h20]
 by_cases k2 : a.k = 2
 ·rw [if_pos k2]
  obtain ⟨x0, y0⟩ := f2 k2
  have hx := inR_iff.mp x0
  have hy := inR_iff.mp y0
  by_cases h22 : op = 22
  ·rw [if_pos h22]; exact y2a (by omega)
  rw [if_neg h22]
  by_cases h23 : op = 23
  ·rw [if_pos h23]; exact y2a (by omega)
  rw [if_neg h23]
  by_cases h24 : op = 24
  ·rw [if_pos h24]
   have h1 := sq_b hx
   have h2 := sq_b hy
   exact y2a (by omega)
  ·rw [if_neg h24]; exact w5l x0 (j6n y0)
 ·rw [if_neg k2]; exact hb _ (by decide)
theorem w9v {op : Int} {a b : Vl} (ha : okV a = true) (hb : okV b = true) {n : Nat} (hn : n ≤ 64) : ARk n (ap2 op a b n) := by
 have q9c : ∀ e : Int, e ≠ 0 ∧ e ≠ 15 → ARk n (.bad e) := fun e h => h
 unfold ap2
 split
 ·split
  ·exact w5n
  split
  ·rename_i h
   rcases q3r hb with ⟨k0, n0, _⟩ | ⟨k1, _⟩ | ⟨k2, _⟩
   ·exact w5m n0
   ·omega
   ·omega
  ·exact q9c _ (by decide)
 split
 ·exact x4r _
 split
 ·split
  ·split
   ·exact x4r _
   split
   ·split
    ·exact ha
    ·exact hb
   ·split
    ·exact ha
    ·exact hb
  ·exact q9c _ (by decide)
 split
 ·split
  ·split
   ·exact w5k (by rw [List.length_append]; assumption)
   ·exact q9c _ (by decide)
  ·exact q9c _ (by decide)
 split
 ·split
  ·rename_i h
   split
   ·rename_i h2
    have h3 : b.n.toNat < (q1u a.s).length := by omega
    have h4 := (x4s a.s).2 ((q1u a.s).getD b.n.toNat []) (by
     simp [List.getD, List.getElem?_eq_getElem h3])
    rcases q3r ha with ⟨k0, _⟩ | ⟨k1, s1, _⟩ | ⟨k2, _⟩
    ·omega
    ·exact w5k (by omega)
    ·omega
   ·exact q9c _ (by decide)
  ·exact q9c _ (by decide)
 split
 ·split
  ·exact j8l _ _ _
  ·exact q9c _ (by decide)
 split
 ·split
  ·split
   ·split
    ·exact q9c _ (by decide)
    ·rename_i h1 h2 h3
     exact ⟨hb, ⟨h2, hb⟩, by omega⟩
   ·exact q9c _ (by decide)
  ·exact q9c _ (by decide)
 ·exact hb
theorem w9w {a b c : Vl} (ha : okV a = true) {n : Nat} : ARk n (ap3 a b c) := by
 unfold ap3
 split
 ·rename_i h
  split
  ·rcases q3r ha with ⟨k0, _⟩ | ⟨k1, s1, _⟩ | ⟨k2, _⟩
   ·omega
   ·exact w5k (by rw [List.length_drop, List.length_take]; omega)
   ·omega
  ·exact ⟨by decide, by decide⟩
 ·exact ⟨by decide, by decide⟩
theorem y5z {r : AR} {s : St} (hs : Sk s) (hr : ARk s.out.length r) : okV (q1v r s).1 = true ∧ Sk (q1v r s).2 := by
 cases r with
 | val v => exact ⟨hr, hs⟩
 | out p v =>
  obtain ⟨h1, h2, h3⟩ := hr
  refine ⟨h1, hs.it, hs.i0, hs.i1, ?_, fun q hq => ?_⟩
  ·show (s.out ++ [p]).length ≤ 64
   rw [List.length_append, List.length_singleton]; omega
  ·rcases List.mem_append.mp hq with h | h
   ·exact hs.outs q h
   ·simp only [List.mem_singleton] at h
    subst h; exact h2
 | bad e => exact ⟨x0r, hs.it, hs.i0, hs.i1, hs.out, hs.outs⟩
theorem j3z {s : St} (h : Sk s) (e : Int) : Sk { s with err := e } := ⟨h.it, h.i0, h.i1, h.out, h.outs⟩
theorem y2b {f : St → Vl × St} (hf : ∀ s, Sk s → okV (f s).1 = true ∧ Sk (f s).2) {N : Int} (hN : N ≤ 9007199254740992) : ∀ (c : Nat) (k : Int) (v : Vl) (s : St), 0 ≤ k → okV v = true → Sk s → okV (q5l f N c k v s).1 = true ∧ Sk (q5l f N c k v s).2
 | 0, k, v, s, h0, hv, hs => ⟨hv, hs⟩
 | c + 1, k, v, s, h0, hv, hs => by
  unfold q5l
  split
  ·rename_i hc
   have := hf { s with i := k } ⟨hs.it, h0, by show k ≤ _; omega, hs.out, hs.outs⟩
   exact y2b hf hN c (k + 1) _ _ (by omega) this.1 this.2
  ·exact ⟨hv, hs⟩
theorem w9x {E : Env} (hE : Ek E) {f : Ex → St → Vl × St} (hf : ∀ t s, WF t → Sk s → okV (f t s).1 = true ∧ Sk (f t s).2) (g : Nat) {t : Ex} (ht : WF t) {s : St} (hs : Sk s) : okV (evT E f g t s).1 = true ∧ Sk (evT E f g t s).2 := by
 cases t with
 | lit v => exact ⟨ht, hs⟩
 | nam n =>
  refine ⟨?_, hs⟩
  show okV (x0q E n s) = true
  unfold x0q
  split
  ·exact w5k hE.key
  split
  ·exact hE.val
  split
  ·exact hE.acc
  split
  ·exact y2a ⟨by have := hs.i0; omega, hs.i1⟩
  ·exact hs.it
 | op1 op a =>
  have ha := hf a s ht.2 hs
  unfold evT
  simp only
  split
  ·exact ⟨x0r, ha.2⟩
  ·exact y5z ha.2 (w9u ha.1 _)
 | op2 op a b =>
  have ha := hf a s ht.2.1 hs
  have hb := hf b (f a s).2 ht.2.2 ha.2
  unfold evT
  simp only
  split
  ·exact ⟨x0r, ha.2⟩
  split
  ·have hb := hf b { (f a s).2 with it := (f a s).1 } ht.2.2 ⟨ha.1, ha.2.i0, ha.2.i1, ha.2.out, ha.2.outs⟩
   exact ⟨hb.1, ⟨ha.2.it, hb.2.i0, hb.2.i1, hb.2.out, hb.2.outs⟩⟩
  split
  ·split
   ·exact ⟨x0r, j3z ha.2 _⟩
   rename_i hk
   split
   ·exact ⟨x0r, j3z ha.2 _⟩
   ·have hN : (f a s).1.n ≤ 9007199254740992 := by
     rcases q3r ha.1 with ⟨k0, n0, _⟩ | ⟨k1, _⟩ | ⟨k2, _⟩
     ·omega
     ·omega
     ·omega
    have := y2b (f := f b) (fun s hs => hf b s ht.2.2 hs) hN (g + 1) 0 (nV 0) (f a s).2 (Int.le_refl _) rfl ha.2
    exact ⟨this.1, ⟨this.2.it, ha.2.i0, ha.2.i1, this.2.out, this.2.outs⟩⟩
  split
  ·exact ⟨x0r, hb.2⟩
  ·exact y5z hb.2 (w9v ha.1 hb.1 hb.2.out)
 | op3 op a b c =>
  have ha := hf a s ht.2.1 hs
  have hb := hf b (f a s).2 ht.2.2.1 ha.2
  have hc := hf c (f b (f a s).2).2 ht.2.2.2 hb.2
  unfold evT
  simp only
  split
  ·exact ⟨x0r, ha.2⟩
  split
  ·split
   ·exact ⟨x0r, j3z ha.2 _⟩
   split
   ·exact hb
   ·exact hf c (f a s).2 ht.2.2.2 ha.2
  split
  ·exact ⟨x0r, hb.2⟩
  split
  ·exact ⟨x0r, hc.2⟩
  ·exact y5z hc.2 (w9w ha.1)
theorem x6w {E : Env} (hE : Ek E) : ∀ (g : Nat) (t : Ex) (s : St), WF t → Sk s → okV (ev E g t s).1 = true ∧ Sk (ev E g t s).2
 | 0, t, s, ht, hs => by
  refine ⟨x0r, ?_⟩
  show Sk (q1f 15 s)
  unfold q1f
  split
  ·exact j3z hs _
  ·exact hs
 | g + 1, t, s, ht, hs => by
  by_cases h : s.err = 0
  ·by_cases h0 : s.left = 0
   ·rw [z6q h h0]; exact ⟨x0r, j3z hs _⟩
   ·rw [z6r h h0]
    exact w9x hE (x6w hE g) g ht ⟨hs.it, hs.i0, hs.i1, hs.out, hs.outs⟩
  ·rw [j3y h]; exact ⟨x0r, hs⟩
theorem z4f (A : Nat → Blk) (g : Nat) (x y : Blk) : upd (upd A g x) g y = upd A g y := by
 funext c
 unfold upd
 split <;> rfl
def w9y (x : Bytes × Nat) : List AV := [.str x.1, .int .i64 (x.2 : Int)]
theorem x9d : q0k Cx 41 [] (.vec 2 (ops.map w9y)) := ⟨200, by kernel_rfl⟩
theorem x9e : q0k Cx 44 [] (.vec 1 [[.str [107, 101, 121]], [.str [118, 97, 108]], [.str [97, 99, 99]], [.str [105]], [.str [105, 116]]]) := ⟨100, by kernel_rfl⟩
theorem x4u {i : Nat} (h : i < ops.length) : (ops.map w9y)[i]? = some [.str (ops[i]).1, .int .i64 ((ops[i]).2 : Int)] := by
 rw [List.getElem?_map, List.getElem?_eq_getElem h]
 rfl
theorem j8m (op : Int) (h1 : -9223372036854775808 ≤ op) (h2 : op ≤ 9223372036854775807) : q0k Cx 23 [.int .i64 op] (.tuple [.str (q0e op), .int .i64 (q1b op : Int), .bool (q4n op)]) := by
 refine q0c (q0l _) w0b ?_
 cases ho : q4n op with
 | false =>
  obtain ⟨e1, e2⟩ := q8s ho
  rw [e1, e2]
  have ho' := ho
  unfold q4n at ho'
  by_cases c1 : op ≤ 1
  ·simp only [c1, q9y, Int.cast_ofNat_Int, r23_0, y4i, tt, bb, bc, ↓bd, Nat.reduceEqDiff, ↓reduceIte, reduceCtorEq]
  ·have c2 : 29 < op := by
    simp only [Bool.and_eq_false_iff, decide_eq_false_iff_not] at ho'
    omega
   simp only [c1, c2, q9y, Int.cast_ofNat_Int, r23_0, y4i, tt, bb, bc, ↓bd, Nat.reduceEqDiff, ↓reduceIte, reduceCtorEq]
 | true =>
  obtain ⟨hl, e⟩ := j6l ho
  unfold q0e q1b
  rw [e]
  have ho' := ho
  unfold q4n at ho'
  simp only [Bool.and_eq_true, decide_eq_true_eq] at ho'
  have c1 : ¬ op ≤ 1 := by omega
  have c2 : ¬ 29 < op := by omega
  have w1 : IntKind.i64.wrap (op - 1) = op - 1 := wr64 (by omega) (by omega)
  have w2 : IntKind.i64.wrap (op - 1 - 1) = (((op - 2).toNat : Nat) : Int) := by rw [wr64 (by omega) (by omega)]; omega
  have p0 : (0 : Int) ≤ (((op - 2).toNat : Nat) : Int) := by omega
  have l0 : (((op - 2).toNat : Nat) : Int) < ((ops.map w9y).length : Int) := by rw [List.length_map]; omega
  have g0 := x4u hl
  simp only [c1, c2, w1, w2, p0, l0, g0, q9y, Int.toNat_natCast, q0a w0z rfl x9d, r23_0, y4i, tt, bb, bc, ↓bd, Nat.reduceEqDiff, Nat.reduceAdd, ↓reduceIte, reduceCtorEq]
def w8b (n : Nd) : Prop := (-9223372036854775808 ≤ n.op ∧ n.op ≤ 9223372036854775807)
theorem x4v (n : Nd) : q0k Cx 46 [ndA n] (.bool (q2v n)) := by
 refine q0c (q0l _) w1c ?_
 have r := Right_ok n.v.k n.v.n n.v.s n.v.x n.v.y
 have eo : q1j n.v.k n.v.n n.v.s n.v.x n.v.y = okV n.v := rfl
 rw [eo] at r
 unfold q2v
 have w5 : IntKind.i64.wrap 5 = 5 := rfl
 by_cases h1 : n.op = 1
 ·have e1 : (n.op == 1) = true := by simp [h1]
  rw [if_pos h1]
  cases hk : (n.v.k == 0) with
  | false => simp only [e1, hk, Bool.false_and, r46_0, x0h, tt, bb, bc, ↓bd, Nat.reduceEqDiff, Nat.reduceAdd, ↓reduceIte]
  | true =>
   cases hok : okV n.v with
   | false =>
    rw [hok] at r
    simp only [e1, hk, Bool.false_and, q0a q2n rfl r, r46_0, x0h, tt, bb, bc, ↓bd, Nat.reduceEqDiff, Nat.reduceAdd, ↓reduceIte]
   | true =>
    rw [hok] at r
    by_cases h0 : 0 ≤ n.v.n
    ·simp only [e1, hk, h0, i64, Int.cast_ofNat_Int, Bool.true_and, q0a q2n rfl r, q0a w1a rfl x9e, r46_0, x0h, tt, bb, bc, ↓bd, Nat.reduceEqDiff, Nat.reduceAdd, ↓reduceIte]
    ·simp only [e1, hk, h0, Bool.false_and, q0a q2n rfl r, r46_0, x0h, tt, bb, bc, ↓bd, Nat.reduceEqDiff, Nat.reduceAdd, ↓reduceIte]
 ·have e1 : (n.op == 1) = false := by simp [h1]
  rw [if_neg h1]
  cases h0 : (n.op == 0) with
  | false => simp only [e1, h0, Bool.false_and, r46_0, x0h, tt, bb, bc, ↓bd, Nat.reduceEqDiff, Nat.reduceAdd, ↓reduceIte]
  | true =>
   simp only [e1, h0, Bool.true_and, q0a q2n rfl r, r46_0, x0h, tt, bb, bc, ↓bd, Nat.reduceEqDiff, Nat.reduceAdd, ↓reduceIte]
theorem x9f (n : Nd) (hn : w8b n) : q0k Cx 25 [ndA n] (.tuple [.int .i64 ((q2q n).1 : Int), .bool (q2q n).2]) := by
 refine q0c (q0l _) w0c ?_
 have hp := j8m n.op hn.1 hn.2
 unfold q2q
 cases ho : q4n n.op with
 | false =>
  rw [ho] at hp
  simp only [Bool.false_eq_true, if_false]
  simp only [Int.cast_ofNat_Int, q0a x3f rfl hp, q0a w1d rfl (x4v n), r25_0, w0d, tt, bb, bc, ↓bd, Nat.reduceEqDiff, Nat.reduceAdd, ↓reduceIte]
 | true =>
  rw [ho] at hp
  simp only [if_true]
  unfold z3q
  simp only [q0a x3f rfl hp, r25_0, w0d, tt, bb, bc, ↓bd, Nat.reduceEqDiff, Nat.reduceAdd, ↓reduceIte]
def InN (v : AV) (l : List Nd) : Prop := (v = .nilS ∧ l = []) ∨ v = .vec 6 (l.map q2y)
theorem InN.flat {v : AV} {l : List Nd} (h : InN v l) : v.flat = true := by
 rcases h with ⟨rfl, _⟩ | rfl <;> rfl
theorem InN.len {v : AV} {l : List Nd} (h : InN v l) : lenOf v = some l.length := by
 rcases h with ⟨rfl, rfl⟩ | rfl
 ·rfl
 ·show some _ = _
  rw [List.length_map]
theorem InN.vec {v : AV} {l : List Nd} (h : InN v l) (h0 : l ≠ []) : v = .vec 6 (l.map q2y) := by
 rcases h with ⟨_, h⟩ | h
 ·exact absurd h h0
 ·exact h
theorem z4g {l : List Nd} {i : Nat} (h : i < l.length) : (l.map q2y)[i]? = some [.int .i64 (l[i]).op, .int .i64 (l[i]).v.k, .int .i64 (l[i]).v.n, .str (l[i]).v.s, .int .i64 (l[i]).v.x, .int .i64 (l[i]).v.y] := by
 rw [List.getElem?_map, List.getElem?_eq_getElem h]
 rfl
def x9g (l : List Nd) : Prop := ∀ n, n ∈ l → w8b n
def stR (st : List Nat) : List (List AV) := st.reverse.map fun (t : Nat) => [AV.int .i64 (t : Int)]
theorem x4w (st : List Nat) : (stR st).length = st.length := by simp [stR]
theorem y6a {t : Nat} {r : List Nat} : (stR (t :: r))[r.length]? = some [.int .i64 (t : Int)] := by
 unfold stR
 rw [List.reverse_cons, List.map_append, List.getElem?_append_right (by simp)]
 simp
theorem y6b {t : Nat} {r : List Nat} (x : Nat) : (stR (t :: r)).set r.length [.int .i64 (x : Int)] = stR (x :: r) := by
 unfold stR
 rw [List.reverse_cons, List.map_append, List.set_append, if_neg (by simp)]
 simp
theorem x9h (t : Nat) (st : List Nat) : stR st ++ [[.int .i64 (t : Int)]] = stR (t :: st) := by
 unfold stR
 simp
def StB (h : Nat) (A : Nat → Blk) (v : AV) (st : List Nat) : Prop := ∃ g es, v = .slc g 1 0 st.length ∧ g < h ∧ A g = .cells 3 1 es ∧ es.take st.length = stR st ∧ st.length ≤ es.length
theorem StB.top {h : Nat} {A : Nat → Blk} {es : List (List AV)} {t : Nat} {r : List Nat} (h1 : es.take (t :: r).length = stR (t :: r)) : es[r.length]? = some [.int .i64 (t : Int)] := by
 have := y6a (t := t) (r := r)
 rw [← h1, List.getElem?_take, if_pos (by simp)] at this
 exact this
theorem isl : x6q Cx 62 3 := ⟨_, y4e, rfl⟩
theorem iti : ∃ ti, Cx.TT 3 = some ti ∧ ti.size = 1 ∧ ti.bytes = 8 := ⟨_, w8q, rfl, rfl⟩
theorem y6c {l : List Nd} {i : Nat} {h : Nat} {A : Nat → Blk} {Q : AV → AHeap → Prop} :
  ∀ (st : List Nat) (T : Nat → AV), T 17 = .vec 6 (l.map q2y) → T 18 = .int .i64 (l.length : Int) → T 19 = .int .i64 (i : Int) → StB h A (T 3) st → st.length ≤ 1000 →
   (∀ T', T' 17 = .vec 6 (l.map q2y) → T' 18 = .int .i64 (l.length : Int) → T' 19 = .int .i64 (i : Int) → StB h A (T' 3) (j4s st) → Run Cx 13 T' [] none [.inBlock 1, .code c13_51, .inLoop c13_17, .inBlock 0, .code c13_52] ⟨h, A⟩ Q) →
   Run Cx 13 T [] none [.inLoop c13_43, .inBlock 2, .inBlock 1, .code c13_51, .inLoop c13_17, .inBlock 0, .code c13_52] ⟨h, A⟩ Q := by
 intro st
 induction st with
 | nil =>
  intro T t17 t18 t19 hst hl hK
  rw [run_inLoop]
  obtain ⟨g, es, t3, hg, hA, ht, hle⟩ := hst
  simp only [List.length_nil] at t3
  simp only [t3, i64, Int.cast_ofNat_Int, q2i, q7u, q7v, q5e, r13_0.2.2.2.1, tt, bb, bc, ↓bd, Nat.reduceEqDiff, ↓reduceIte, Int.reduceLT]
  refine hK _ ?_ ?_ ?_ ⟨g, es, ?_, hg, hA, ht, hle⟩
  all_goals simp only [q0b, t3, t17, t18, t19, Nat.reduceEqDiff, ↓reduceIte]
  all_goals rfl
 | cons t r ih =>
  intro T t17 t18 t19 hst hl hK
  rw [run_inLoop]
  have x1e := hst
  obtain ⟨g, es, t3, hg, hA, ht, hle⟩ := hst
  rw [List.length_cons] at hl t3
  have c0 : (0 : Int) < ((r.length + 1 : Nat) : Int) := by omega
  have w1 : IntKind.i64.wrap (((r.length + 1 : Nat) : Int) - 1) = (r.length : Int) := by rw [wr64 (by omega) (by omega)]; omega
  have p0 : (0 : Int) ≤ (r.length : Int) := by omega
  have l0 : (r.length : Int) < ((r.length + 1 : Nat) : Int) := by omega
  have l1 : (r.length : Int) ≤ ((r.length + 1 : Nat) : Int) := by omega
  have g0 := StB.top (h := h) (A := A) ht
  cases t with
  | zero =>
   have e0 : (((0 : Nat) : Int) == 0) = true := rfl
   simp only [t3, c0, w1, p0, l0, l1, g0, hA, i64, q4r, j4t, z3h, evo, Int.toNat_natCast, Nat.sub_zero, xx, r13_0.2.2.2.1, tt, bb, bc, ↓bd, Nat.reduceEqDiff, ↓reduceIte]
   refine ih _ ?_ ?_ ?_ ⟨g, es, ?_, hg, hA, ?_, by rw [List.length_cons] at hle; omega⟩ (by omega) hK
   ·simp only [q0b, t17, Nat.reduceEqDiff, ↓reduceIte]
   ·simp only [q0b, t18, Nat.reduceEqDiff, ↓reduceIte]
   ·simp only [q0b, t19, Nat.reduceEqDiff, ↓reduceIte]
   ·simp only [q0b, ↓reduceIte]
   ·have : es.take r.length = (es.take (0 :: r).length).take r.length := by rw [List.take_take, List.length_cons]; congr 1; omega
    rw [this, ht]
    unfold stR
    rw [List.reverse_cons, List.map_append, List.take_append_of_le_length (by simp)]
    exact List.take_of_length_le (by simp)
  | succ t =>
   have e0 : (((t + 1 : Nat) : Int) == 0) = false := by rw [beq_eq_false_iff_ne]; omega
   simp only [t3, c0, w1, p0, l0, g0, hA, e0, i64, Int.toNat_natCast, q2i, q7u, q7v, q5e, r13_0.2.2.2.1, tt, bb, bc, ↓bd, Nat.reduceEqDiff, ↓reduceIte]
   refine hK _ ?_ ?_ ?_ ⟨g, es, ?_, hg, hA, ht, hle⟩
   all_goals simp only [q0b, t3, t17, t18, t19, Nat.reduceEqDiff, ↓reduceIte]
   all_goals rfl
theorem x4x {l : List Nd} {Q : AV → AHeap → Prop} (hl : l.length ≤ 400) (hn : x9g l) (hQ : ∀ b h A, b = (z3r [1] l == some []) → Q (.bool b) ⟨h, A⟩) :
  ∀ (j i : Nat) (T : Nat → AV) (h : Nat) (A : Nat → Blk) (st : List Nat), i + j = l.length → T 17 = .vec 6 (l.map q2y) → T 18 = .int .i64 (l.length : Int) → T 19 = .int .i64 (i : Int) → StB h A (T 3) st → st.length ≤ i + 1 → (∀ t r, st = t :: r → 1 ≤ t) → (∀ t, t ∈ st → t ≤ 3) → z3r st (l.drop i) = z3r [1] l →
   Run Cx 13 T [] none [.inLoop c13_17, .inBlock 0, .code c13_52] ⟨h, A⟩ Q
 | 0, i, T, h, A, st, hij, t17, t18, t19, hst, hsl, htop, h3, q3e => by
  rw [run_inLoop]
  have c0 : ¬ (i : Int) < (l.length : Int) := by omega
  rw [List.drop_of_length_le (by omega)] at q3e
  obtain ⟨g, es, t3, hg, hA, ht, hle⟩ := hst
  have e1 : ((st.length : Int) == 0) = (z3r [1] l == some []) := by
   rw [← q3e]
   show _ = (some st == some [])
   cases st with
   | nil => rfl
   | cons t r =>
    have : (((t :: r).length : Int) == 0) = false := by rw [beq_eq_false_iff_ne, List.length_cons]; omega
    rw [this]; rfl
  simp only [t3, t18, t19, c0, e1, i64, xx, r13_0, x0e, tt, bb, bc, ↓bd, Nat.reduceEqDiff, ↓reduceIte]
  exact hQ _ _ _ rfl
 | j + 1, i, T, h, A, st, hij, t17, t18, t19, hst, hsl, htop, h3, q3e => by
  rw [run_inLoop]
  have hi : i < l.length := by omega
  have c0 : (i : Int) < (l.length : Int) := by omega
  have p0 : (0 : Int) ≤ (i : Int) := by omega
  have l0 : (i : Int) < ((l.map q2y).length : Int) := by rw [List.length_map]; omega
  have g0 := z4g hi
  have w1 : IntKind.i64.wrap ((i : Int) + 1) = ((i + 1 : Nat) : Int) := by rw [wr64 (by omega) (by omega)]; omega
  have hpo := x9f l[i] (hn _ (List.getElem_mem hi))
  have hd : l.drop i = l[i] :: l.drop (i + 1) := List.drop_eq_getElem_cons hi
  rw [hd] at q3e
  replace q3e : (match z1i st l[i] with | some st' => z3r st' (l.drop (i + 1)) | none => none) = z3r [1] l := q3e
  obtain ⟨g, es, t3, hg, hA, ht, hle⟩ := hst
  cases hp2 : (q2q l[i]).2 with
  | false =>
   rw [hp2] at hpo
   have hno : z3r [1] l = none := by
    rw [← q3e]
    unfold z1i
    rw [hp2]
    cases st <;> simp
   simp only [t17, t18, t19, c0, p0, l0, g0, z4f, Int.toNat_natCast, q0a j7u rfl hpo, r13_0, x0e, tt, bb, bc, ↓bd, Nat.reduceEqDiff, Nat.reduceAdd, ↓reduceIte, reduceCtorEq]
   exact hQ false _ _ (by rw [hno]; rfl)
  | true =>
   rw [hp2] at hpo
   cases st with
   | nil =>
    have hno : z3r [1] l = none := by rw [← q3e]; rfl
    simp only [List.length_nil] at t3
    simp only [t3, t17, t18, t19, c0, p0, l0, g0, z4f, i64, Int.cast_ofNat_Int, Int.toNat_natCast, q0a j7u rfl hpo, r13_0, x0e, tt, bb, bc, ↓bd, Nat.reduceEqDiff, Nat.reduceAdd, ↓reduceIte, reduceCtorEq]
    exact hQ false _ _ (by rw [hno]; rfl)
   | cons t r =>
    have ht1 := htop t r rfl
    rw [List.length_cons] at t3
    have c1 : (((r.length + 1 : Nat) : Int) == 0) = false := by rw [beq_eq_false_iff_ne]; omega
    have hrl : r.length ≤ 400 := by rw [List.length_cons] at hsl; omega
    have w2 : IntKind.i64.wrap (((r.length + 1 : Nat) : Int) - 1) = (r.length : Int) := by rw [wr64 (by omega) (by omega)]; omega
    by_cases hdep : r.length ≤ 24
    ·have c2 : ¬ (24 : Int) < (r.length : Int) := by omega
     have x1e : z1i (t :: r) l[i] = some (j4s ((q2q l[i]).1 :: (t - 1) :: r)) := by
      unfold z1i
      simp only
      rw [if_pos ⟨hp2, hdep⟩]
     rw [x1e] at q3e
     replace q3e : z3r (j4s ((q2q l[i]).1 :: (t - 1) :: r)) (l.drop (i + 1)) = z3r [1] l := q3e
     have p1 : (0 : Int) ≤ (r.length : Int) := by omega
     have l1 : (r.length : Int) < ((r.length + 1 : Nat) : Int) := by omega
     have g1 := StB.top (h := h) (A := A) ht
     have ht3 := h3 t (by simp)
     have w3 : IntKind.i64.wrap ((t : Int) - 1) = ((t - 1 : Nat) : Int) := by rw [wr64 (by omega) (by omega)]; omega
     have gh : (g = h) = False := eq_false (by omega)
     have hA2 : (upd (upd A h (.cells 60 6 [[.int .i64 (l[i]).op, .int .i64 (l[i]).v.k, .int .i64 (l[i]).v.n, .str (l[i]).v.s, .int .i64 (l[i]).v.x, .int .i64 (l[i]).v.y]])) g (.cells 3 1 (es.set r.length [.int .i64 ((t - 1 : Nat) : Int)]))) g = .cells 3 1 (es.set r.length [.int .i64 ((t - 1 : Nat) : Int)]) := by
      simp only [q0b, ↓reduceIte]
     have x1d := x8b (C := Cx) (g := g) (n := h + 1) (m := r.length + 1) (row := [.int .i64 ((q2q l[i]).1 : Int)]) isl iti hA2 (by omega) (by rw [List.length_set]; exact hle) (by unfold q2m; omega) (by unfold q2m; omega)
     have htk : (es.set r.length [.int .i64 ((t - 1 : Nat) : Int)]).take (r.length + 1) ++ [[AV.int .i64 ((q2q l[i]).1 : Int)]] = stR ((q2q l[i]).1 :: (t - 1) :: r) := by
      rw [List.take_set, show es.take (r.length + 1) = stR (t :: r) from ht, y6b, x9h]
     rw [htk] at x1d
     simp only [t3, t17, t18, t19, c0, c1, c2, p0, p1, l0, l1, g0, g1, gh, hA, w2, w3, x1d, z4f, i64, q0i, Int.toNat_natCast, q0a j7u rfl hpo, r13_0.2.1, r13_0.2.2.1, tt, bb, bc, ↓bd, Nat.reduceEqDiff, Nat.reduceAdd, Nat.reduceMul, Nat.reduceLeDiff, ↓reduceIte, List.reduceReplicate]
     have hpl : (q2q l[i]).1 ≤ 3 := by
      unfold q2q
      split
      ·rename_i ho
       exact (q2h ho).2
      ·omega
     refine y6c (l := l) (i := i) ((q2q l[i]).1 :: (t - 1) :: r) _ ?_ ?_ ?_ ⟨h + 1 + 1, stR ((q2q l[i]).1 :: (t - 1) :: r), ?_, ?_, ?_, ?_, ?_⟩ (by simp only [List.length_cons] at hsl ⊢; omega) ?_
     ·simp only [q0b, t17, Nat.reduceEqDiff, ↓reduceIte]
     ·simp only [q0b, t18, Nat.reduceEqDiff, ↓reduceIte]
     ·simp only [q0b, t19, Nat.reduceEqDiff, ↓reduceIte]
     ·simp only [q0b, ↓reduceIte]
      rfl
     ·omega
     ·simp only [q0b, ↓reduceIte]
     ·exact List.take_of_length_le (by rw [x4w]; exact Nat.le_refl _)
     ·rw [x4w]; exact Nat.le_refl _
     ·intro T' t17 t18 t19 hstB
      simp only [t19, w1, xx, r13_0.2.2.2.2.1, bb, ↓bd, ↓reduceIte]
      have popk : ∀ st : List Nat, (j4s st).length ≤ st.length ∧ (∀ t, t ∈ j4s st → t ∈ st) ∧ (∀ t r, j4s st = t :: r → 1 ≤ t) := by
       intro st
       induction st with
       | nil => exact ⟨Nat.le_refl _, fun t h => h, fun t r h => by cases h⟩
       | cons a st ih =>
        cases a with
        | zero =>
         obtain ⟨i1, i2, i3⟩ := ih
         exact ⟨by show (j4s st).length ≤ _; rw [List.length_cons]; omega, fun t h => List.mem_cons_of_mem _ (i2 t h), i3⟩
        | succ a => exact ⟨Nat.le_refl _, fun t h => h, fun t r h => by cases h; omega⟩
      obtain ⟨k1, k2, k3⟩ := popk ((q2q l[i]).1 :: (t - 1) :: r)
      refine x4x hl hn hQ j (i + 1) _ _ _ (j4s ((q2q l[i]).1 :: (t - 1) :: r)) (by omega) ?_ ?_ ?_ ?_ (by simp only [List.length_cons] at hsl k1 ⊢; omega) k3 ?_ q3e
      ·simp only [q0b, t17, Nat.reduceEqDiff, ↓reduceIte]
      ·simp only [q0b, t18, Nat.reduceEqDiff, ↓reduceIte]
      ·simp only [q0b, ↓reduceIte]
      ·simp only [q0b, Nat.reduceEqDiff, ↓reduceIte]
       exact hstB
      ·intro x hx
       have := k2 x hx
       simp only [List.mem_cons] at this
       rcases this with rfl | rfl | h
       ·exact hpl
       ·omega
       ·exact h3 x (by simp [h])
    ·have c2 : (24 : Int) < (r.length : Int) := by omega
     have hno : z3r [1] l = none := by
      rw [← q3e]
      unfold z1i
      simp only
      rw [if_neg (by rintro ⟨_, h⟩; exact hdep h)]
     simp only [t3, t17, t18, t19, c0, c1, c2, p0, l0, g0, w2, z4f, i64, Int.toNat_natCast, q0a j7u rfl hpo, r13_0, x0e, tt, bb, bc, ↓bd, Nat.reduceEqDiff, Nat.reduceAdd, ↓reduceIte]
     exact hQ false _ _ (by rw [hno]; rfl)
theorem j4a {v : AV} {l : List Nd} (hv : InN v l) (hn : x9g l) (hl : l.length ≤ 1000000) : q0k Cx 13 [v] (.bool (q2w l)) := by
 refine q0c (q0l _) y9q ?_
 have q2u := hv.len
 simp only [lenOf] at q2u
 by_cases h0 : l = []
 ·subst h0
  have e : q2w [] = false := rfl
  rw [e]
  simp only [List.length_nil] at q2u
  simp only [q2u, i64, Int.cast_ofNat_Int, r13_0, x0e, tt, bb, bc, ↓bd, Nat.reduceEqDiff, ↓reduceIte, reduceCtorEq]
 ·have v1o := List.length_pos_iff.mpr h0
  have e1 : ((l.length : Int) == 0) = false := by rw [beq_eq_false_iff_ne]; omega
  have w7i : l.isEmpty = false := by cases l with
   | nil => exact absurd rfl h0
   | cons a b => rfl
  by_cases h400 : 400 < l.length
  ·have e2 : (400 : Int) < (l.length : Int) := by omega
   have e : q2w l = false := by unfold q2w; simp [h400]
   rw [e]
   simp only [q2u, e1, e2, i64, r13_0, x0e, tt, bb, bc, ↓bd, Nat.reduceEqDiff, ↓reduceIte, reduceCtorEq]
  ·have e2 : ¬ (400 : Int) < (l.length : Int) := by omega
   have e : q2w l = (z3r [1] l == some []) := by unfold q2w; simp [h400, w7i]
   obtain rfl := hv.vec h0
   simp only [List.length_map, e1, e2, i64, r13_0.1, tt, bb, bc, ↓bd, Nat.reduceEqDiff, Nat.reduceMul, Nat.reduceLeDiff, ↓reduceIte, reduceCtorEq, List.reduceReplicate]
   refine x4x (by omega) hn ?_ l.length 0 _ _ _ [1] (by omega) ?_ ?_ ?_ ⟨0, [[.int .i64 1]], ?_, by omega, ?_, ?_, by simp⟩ (by simp) (fun t r h => by cases h; exact Nat.le_refl _) (fun t h => by simp at h; omega) (by rw [List.drop_zero])
   ·intro b h A hb
    rw [e, hb]
    rfl
   all_goals try simp only [q0b, Nat.reduceEqDiff, ↓reduceIte]
   all_goals rfl
theorem nsl : x6q Cx 37 60 := ⟨_, y4b, rfl⟩
theorem nti : ∃ ti, Cx.TT 60 = some ti ∧ ti.size = 6 ∧ ti.bytes = 56 := ⟨_, y4d, rfl, rfl⟩
def BufN (te : Nat) (d : AV) (h : Nat) (A : Nat → Blk) (acc : List Nd) : Prop := (d = .nilS ∧ acc = []) ∨ ∃ g, d = .slc g 6 0 acc.length ∧ g < h ∧ A g = .cells te 6 (acc.map q2y)
theorem BufN.freeze {te h : Nat} {d : AV} {A : Nat → Blk} {acc : List Nd} (hb : BufN te d h A acc) : ∃ w, InN w acc ∧ BX.freeze ⟨h, A⟩ d = some w := by
 rcases hb with ⟨rfl, rfl⟩ | ⟨g, rfl, hg, hA⟩
 ·exact ⟨.nilS, .inl ⟨rfl, rfl⟩, rfl⟩
 ·refine ⟨.vec 6 (acc.map q2y), .inr rfl, ?_⟩
  have he : elems ⟨h, A⟩ 6 (.slc g 6 0 acc.length) = some (acc.map q2y) := by
   unfold elems
   simp only [hA]
   rw [if_pos ⟨trivial, trivial, by simp⟩, List.drop_zero, List.take_of_length_le (by simp)]
  rw [q6o, he, q5h]
  have : ∀ l : List Nd, q3t (q3t (q1h ⟨h, A⟩ 3)) (l.map q2y) = some (l.map q2y) := by
   intro l
   induction l with
   | nil => rfl
   | cons p l ih =>
    rw [List.map_cons, q4l, ih]
    have : q3t (q1h ⟨h, A⟩ 3) (q2y p) = some (q2y p) := q4v (p := AV.flat1) (fun v hv => q3c hv) rfl
    rw [this]; rfl
  rw [this]; rfl
theorem x4y {l : List Nd} {Q : AV → AHeap → Prop} (hl : l.length ≤ 100000) (hQ : ∀ d h A, BufN 60 d h A l → Q d ⟨h, A⟩) :
  ∀ (j i : Nat) (T : Nat → AV) (h : Nat) (A : Nat → Blk), i + j = l.length → T 0 = .vec 6 (l.map q2y) → T 4 = .int .i64 (i : Int) → BufN 60 (T 3) h A (l.take i) →
   Run Cx 8 T [] none [.inLoop c8_9, .inBlock 0, .code c8_19] ⟨h, A⟩ Q
 | 0, i, T, h, A, hij, t0, t4, hb => by
  rw [run_inLoop]
  have c0 : ¬ (i : Int) < ((l.map q2y).length : Int) := by rw [List.length_map]; omega
  rw [List.take_of_length_le (by omega)] at hb
  simp only [t0, t4, c0, i64, xx, r8_0, res8, tt, bb, bc, ↓bd, Nat.reduceEqDiff, ↓reduceIte, reduceCtorEq]
  exact hQ _ _ _ hb
 | j + 1, i, T, h, A, hij, t0, t4, hb => by
  rw [run_inLoop]
  have hi : i < l.length := by omega
  have c0 : (i : Int) < ((l.map q2y).length : Int) := by rw [List.length_map]; omega
  have p0 : (0 : Int) ≤ (i : Int) := by omega
  have g0 := z4g hi
  have w1 : IntKind.i64.wrap ((i : Int) + 1) = ((i + 1 : Nat) : Int) := by rw [wr64 (by omega) (by omega)]; omega
  have htk : (l.take i).map q2y ++ [q2y l[i]] = (l.take (i + 1)).map q2y := by rw [List.take_succ_eq_append_getElem hi, List.map_append]; rfl
  have hle : (l.take i).length = i := by rw [List.length_take]; omega
  have hle2 : (l.take (i + 1)).length = i + 1 := by rw [List.length_take]; omega
  rcases hb with ⟨t3, w7j⟩ | ⟨g, t3, hg, hA⟩
  ·have hi0 : i = 0 := by rw [w7j] at hle; simpa using hle.symm
   subst hi0
   have ha := j6b (C := Cx) (n := h) (A := A) (row := q2y l[0]) nsl nti (show 56 ≤ q2m by decide)
   replace t4 : T 4 = .int .i64 0 := t4
   simp only [Int.cast_ofNat_Int, Int.zero_add] at c0 p0 w1
   simp only [t0, t3, t4, c0, g0, ha, w1, Int.le_refl, i64, q0i, Int.toNat_zero, xx, r8_0.2.1, tt, bb, bc, ↓bd, Nat.reduceEqDiff, Nat.reduceAdd, Nat.reduceMul, Nat.reduceLeDiff, ↓reduceIte, reduceCtorEq, Int.reduceAdd, List.reduceReplicate]
   refine x4y hl hQ j 1 _ _ _ (by omega) ?_ ?_ (.inr ⟨h + 1, ?_, ?_, ?_⟩)
   ·simp only [q0b, t0, Nat.reduceEqDiff, ↓reduceIte]
   ·simp only [q0b, ↓reduceIte] <;> rfl
   ·rw [hle2]; simp only [q0b, Nat.reduceEqDiff, ↓reduceIte]
   ·omega
   ·rw [← htk]; simp only [q0b, ↓reduceIte]; rfl
  ·rw [hle] at t3
   have hcl : ((l.take i).map q2y).length = i := by rw [List.length_map, hle]
   have ha := q7y (C := Cx) (g := g) (n := h) (A := A) (es := (l.take i).map q2y) (row := q2y l[i]) nsl nti hA (by omega) (by rw [hcl]; unfold q2m; omega) (by rw [hcl]; unfold q2m; omega)
   rw [hcl, htk] at ha
   simp only [t0, t3, t4, c0, p0, g0, ha, w1, i64, q0i, Int.toNat_natCast, xx, r8_0.2.1, tt, bb, bc, ↓bd, Nat.reduceEqDiff, Nat.reduceAdd, Nat.reduceMul, Nat.reduceLeDiff, ↓reduceIte, reduceCtorEq, List.reduceReplicate]
   refine x4y hl hQ j (i + 1) _ _ _ (by omega) ?_ ?_ (.inr ⟨h + 1, ?_, ?_, ?_⟩)
   ·simp only [q0b, t0, Nat.reduceEqDiff, ↓reduceIte]
   ·simp only [q0b, ↓reduceIte]
   ·rw [hle2]; simp only [q0b, Nat.reduceEqDiff, ↓reduceIte]
   ·omega
   ·simp only [q0b, ↓reduceIte]
theorem j0l {f : FuncId} {args : List AV} {body : AC} {P : AV → Prop} (hx : Cx.ext f = none) (hb : q0h Cx f = some body) (h : Run Cx f (q1g args) [] none [.code body] AHeap.empty (fun r0 H' => ∃ r, P r ∧ BX.freeze H' r0 = some r)) : ∃ r, P r ∧ q0k Cx f args r := by
 obtain ⟨n, r0, H', he, r, hP, hf⟩ := h
 exact ⟨r, hP, q0c hx hb ⟨n, r0, H', he, hf⟩⟩
theorem w9z {v : AV} {l : List Nd} (hv : InN v l) (hl : l.length ≤ 100000) : ∃ w, InN w l ∧ q0k Cx 8 [v] w := by
 by_cases h0 : l = []
 ·subst h0
  refine ⟨.nilS, .inl ⟨rfl, rfl⟩, ?_⟩
  rcases hv with ⟨rfl, _⟩ | rfl
  ·exact ⟨60, by kernel_rfl⟩
  ·exact ⟨60, by kernel_rfl⟩
 ·obtain rfl := hv.vec h0
  refine j0l (q0l _) w8s ?_
  simp only [r8_0.1, tt, bb, ↓bd]
  refine x4y hl (fun d h A hb => hb.freeze) l.length 0 _ AHeap.empty.next AHeap.empty.at_ (by omega) ?_ ?_ (.inl ⟨?_, rfl⟩)
  all_goals simp only [q0b, q1g, List.getElem?_cons_zero, Option.getD_some, Nat.reduceEqDiff, ↓reduceIte]
  all_goals rfl
def Ow (d : AV) (n : Nat) (A : Nat → Blk) (l : List Pr) : Prop :=
 (d = .nilS ∧ l = []) ∨ ∃ g, d = .slc g 6 0 l.length ∧ g < n ∧ A g = .cells 49 6 (l.map j0z)
structure Mch where
 L : AV
 F : AV
 E : Env
 b : Nat
def x0s : Blk → Prop
 | .cells t _ _ => t = 49
 | _ => False
structure MS (M : Mch) (n : Nat) (A : Nat → Blk) (s : St) : Prop where
 lt : M.b < n
 cell : ∃ o, A M.b = .cells 58 22 [[M.L, M.F, .str M.E.key, .int .i64 M.E.val.k, .int .i64 M.E.val.n, .str M.E.val.s, .int .i64 M.E.val.x, .int .i64 M.E.val.y, .int .i64 M.E.acc.k, .int .i64 M.E.acc.n, .str M.E.acc.s, .int .i64 M.E.acc.x, .int .i64 M.E.acc.y, .int .i64 s.i, .int .i64 s.it.k, .int .i64 s.it.n, .str s.it.s, .int .i64 s.it.x, .int .i64 s.it.y, o, .int .i64 (s.left : Int), .int .i64 s.err]] ∧ Ow o n A s.out
def Keep (b n : Nat) (A A' : Nat → Blk) : Prop := ∀ c, c < n → c ≠ b → ¬ x0s (A c) → A' c = A c
theorem Keep.refl (b n : Nat) (A : Nat → Blk) : Keep b n A A := fun _ _ _ _ => rfl
theorem Keep.trans {b n n' : Nat} {A A' A'' : Nat → Blk} (h : Keep b n A A') (hn : n ≤ n') (h' : Keep b n' A' A'') : Keep b n A A'' := fun c hc hb hp => by
 have e := h c hc hb hp
 rw [h' c (by omega) hb (by rw [e]; exact hp), e]
theorem Ow.keep {d : AV} {n n' : Nat} {A A' : Nat → Blk} {l : List Pr} (h : Ow d n A l) (hn : n ≤ n') (hk : ∀ g, g < n → x0s (A g) → A' g = A g) : Ow d n' A' l := by
 rcases h with h | ⟨g, h1, h2, h3⟩
 ·exact .inl h
 ·exact .inr ⟨g, h1, by omega, by rw [hk g h2 (by rw [h3]; rfl)]; exact h3⟩
theorem Ow.lenOf {d : AV} {n : Nat} {A : Nat → Blk} {l : List Pr} (h : Ow d n A l) : BX.lenOf d = some l.length := by
 rcases h with ⟨rfl, rfl⟩ | ⟨g, rfl, _⟩ <;> rfl
theorem Ow.plain {d : AV} {n : Nat} {A : Nat → Blk} {l : List Pr} (h : Ow d n A l) : d.plain = true := by
 rcases h with ⟨rfl, rfl⟩ | ⟨g, rfl, _⟩ <;> rfl
theorem Ow.cells {d : AV} {n : Nat} {A : Nat → Blk} {l : List Pr} (h : Ow d n A l) : d.cells = [d] := by
 rcases h with ⟨rfl, rfl⟩ | ⟨g, rfl, _⟩ <;> rfl
theorem MS.keep {M : Mch} {n n' : Nat} {A A' : Nat → Blk} {s : St} (h : MS M n A s) (hn : n ≤ n') (hk : ∀ g, g < n → (g = M.b ∨ x0s (A g)) → A' g = A g) : MS M n' A' s := by
 obtain ⟨h1, o, h2, h3⟩ := h
 exact ⟨by omega, o, by rw [hk _ h1 (.inl rfl)]; exact h2, h3.keep hn (fun g hg hp => hk g hg (.inr hp))⟩
theorem x4z {M : Mch} {n : Nat} {A : Nat → Blk} {s : St} (h : MS M n A s) : ¬ x0s (A M.b) := by
 obtain ⟨_, o, h2, _⟩ := h
 rw [h2]
 show ¬ (58 = 49)
 decide
theorem q2p (x : Int) : q0k Cx 49 [.int .i64 x] (q1o (nV x)) := by
 refine q0c (q0l _) w1g ?_
 simp only [r49_0, w9b, tt, bb, bc, ↓bd, Nat.reduceEqDiff, Nat.reduceAdd, Nat.reduceLeDiff, ↓reduceIte, reduceCtorEq]
theorem q8d (s : Bytes) : q0k Cx 48 [.str s] (q1o (tV s)) := by
 refine q0c (q0l _) w1f ?_
 simp only [r48_0, w9a, tt, bb, bc, ↓bd, Nat.reduceEqDiff, Nat.reduceAdd, Nat.reduceLeDiff, ↓reduceIte, reduceCtorEq]
theorem z2e (x y : Int) : q0k Cx 82 [.agg [.int .i64 x, .int .i64 y]] (q1o (pV x y)) := by
 refine q0c (q0l _) w3n ?_
 simp only [r82_0, w9i, tt, bb, bc, ↓bd, Nat.reduceEqDiff, Nat.reduceAdd, Nat.reduceLeDiff, ↓reduceIte, reduceCtorEq]
theorem z2f (b : Bool) : q0k Cx 75 [.bool b] (q1o (x1a b)) := by
 refine q0c (q0l _) w2x ?_
 cases b with
 | true =>
  simp only [q0a q5j rfl (q2p 1), r75_0, w2y, tt, bb, bc, ↓bd, Nat.reduceEqDiff, Nat.reduceAdd, ↓reduceIte, reduceCtorEq]
  rfl
 | false =>
  simp only [q0a q5j rfl (q2p 0), Bool.false_eq_true, r75_0, w2y, tt, bb, bc, ↓bd, Nat.reduceEqDiff, Nat.reduceAdd, ↓reduceIte, reduceCtorEq]
  rfl
section
theorem q1e {M : Mch} {n : Nat} {A : Nat → Blk} {s : St} {e : Int} (h : MS M n A s) (hk : ∀ n' A', MS M n' A' (q1f e s) → Keep M.b n A A' → n ≤ n' → q0d Cx fn (putA T dst (q1o zV)) ds ro os k ⟨n', A'⟩ Q) :
  q0g Cx fn T ds ro 27 [.ptr M.b 22 0 0, .int .i64 e] dst os k ⟨n, A⟩ Q := by
 have hp := x4z h
 have h' := h
 obtain ⟨hb, o, hA, ho⟩ := h
 refine q0s w0g (q0l _) w0e ?_
 have ne : (M.b = n) = False := eq_false (by omega)
 have ne' : (n = M.b) = False := eq_false (by omega)
 by_cases he : s.err = 0
 ·have z : (s.err == 0) = true := by simp [he]
  simp only [hA, ne, ne', z, r27_0, w0f, tt, bb, bc, ↓bd, Nat.reduceEqDiff, Nat.reduceAdd, ↓reduceIte, reduceCtorEq]
  have hs : q1f e s = { s with err := e } := by unfold q1f; rw [if_pos he]
  rw [hs] at hk
  refine hk (n + 1) _ ⟨by omega, o, ?_, ho.keep (n' := n + 1) (by omega) fun g hg hpg => ?_⟩ (fun c hc hcb hcp => ?_) (by omega)
  ·simp only [q0b, ne, ↓reduceIte]
  ·have : g ≠ M.b := fun e => hp (by rw [← e]; exact hpg)
   simp only [q0b, eq_false this, eq_false (show g ≠ n by omega), ↓reduceIte]
  ·simp only [q0b, eq_false hcb, eq_false (show c ≠ n by omega), ↓reduceIte]
 ·have z : (s.err == 0) = false := by simpa using he
  simp only [hA, ne, z, r27_0, w0f, tt, bb, bc, ↓bd, Nat.reduceEqDiff, Nat.reduceAdd, ↓reduceIte, reduceCtorEq]
  have hs : q1f e s = s := by unfold q1f; rw [if_neg he]
  rw [hs] at hk
  refine hk (n + 1) _ (h'.keep (n' := n + 1) (by omega) fun g hg _ => ?_) (fun c hc hcb hcp => ?_) (by omega)
  ·simp only [q0b, eq_false (show g ≠ n by omega), ↓reduceIte]
  ·simp only [q0b, eq_false (show c ≠ n by omega), ↓reduceIte]
end
theorem MS.up1 {M : Mch} {n : Nat} {A : Nat → Blk} {s : St} (h : MS M n A s) (X : Blk) : MS M (n + 1) (upd A n X) s :=
 h.keep (by omega) fun g hg _ => by rw [q0b, if_neg (by omega)]
theorem MS.upo {M : Mch} {n : Nat} {A : Nat → Blk} {s : St} (h : MS M n A s) {c : Nat} (hc : c ≠ M.b) (hp : ¬ x0s (A c)) (X : Blk) : MS M n (upd A c X) s :=
 h.keep (Nat.le_refl _) fun g hg hgp => by
  rw [q0b, if_neg]
  rintro rfl
  rcases hgp with h | h
  ·exact hc h
  ·exact hp h
theorem Keep.up1 {b n n' : Nat} {A A' : Nat → Blk} (h : Keep b n A A') (hn : n ≤ n') (X : Blk) : Keep b n A (upd A' n' X) := fun c hc hb hp => by
 rw [q0b, if_neg (by omega)]
 exact h c hc hb hp
theorem Keep.at {b n : Nat} {A A' : Nat → Blk} (h : Keep b n A A') {c : Nat} {t kk : Nat} {es : List (List AV)} (hc : c < n) (hb : c ≠ b) (hA : A c = .cells t kk es) (ht : t ≠ 49) : A' c = .cells t kk es := by
 rw [h c hc hb (by rw [hA]; exact ht), hA]
def y8c (v : Vl) : List AV := [.int .i64 v.k, .int .i64 v.n, .str v.s, .int .i64 v.x, .int .i64 v.y]
structure AS (M : Mch) (g n : Nat) (A : Nat → Blk) (vs : List Vl) : Prop where
 lt : g < n
 ne : g ≠ M.b
 cell : A g = .cells 26 5 (vs.map y8c)
theorem AS.keep {M : Mch} {g n n' : Nat} {A A' : Nat → Blk} {vs : List Vl} (h : AS M g n A vs) (hn : n ≤ n') (hk : Keep M.b n A A') : AS M g n' A' vs :=
 ⟨by have := h.lt; omega, h.ne, hk.at h.lt h.ne h.cell (by decide)⟩
theorem AS.up1 {M : Mch} {g n : Nat} {A : Nat → Blk} {vs : List Vl} (h : AS M g n A vs) (X : Blk) : AS M g (n + 1) (upd A n X) vs :=
 ⟨by have := h.lt; omega, h.ne, by rw [q0b, if_neg (by have := h.lt; omega)]; exact h.cell⟩
theorem q2x {vs : List Vl} {i : Nat} {v : Vl} (h : vs[i]? = some v) : (vs.map y8c)[i]? = some [.int .i64 v.k, .int .i64 v.n, .str v.s, .int .i64 v.x, .int .i64 v.y] := by
 rw [List.getElem?_map, h]; rfl
theorem q3j {es : List (List AV)} {k : Nat} : ¬ x0s (.cells 26 k es) := by
 show ¬ (26 = 49)
 decide
section
theorem q4m {M : Mch} {n : Nat} {A : Nat → Blk} {s : St} {v : Vl} (h : MS M n A s) (he : s.err = 0) (hk : ∀ n' A', MS M n' A' (q1v (q9g v) s).2 → Keep M.b n A A' → n ≤ n' → q0d Cx fn (putA T dst (q1o (q1v (q9g v) s).1)) ds ro os k ⟨n', A'⟩ Q) :
  q0g Cx fn T ds ro 71 [.ptr M.b 22 0 0, q1o v] dst os k ⟨n, A⟩ Q := by
 refine q0s w2s (q0l _) w2q ?_
 have r := Right_ok v.k v.n v.s v.x v.y
 have eo : q1j v.k v.n v.s v.x v.y = okV v := rfl
 rw [eo] at r
 have h2 := (h.up1 (.cells 26 5 [[.int .i64 v.k, .int .i64 v.n, .str v.s, .int .i64 v.x, .int .i64 v.y]])).up1 (.cells 26 5 [[.int .i64 0, .int .i64 0, .str [], .int .i64 0, .int .i64 0]])
 have kp : Keep M.b n A (upd (upd A n (.cells 26 5 [[.int .i64 v.k, .int .i64 v.n, .str v.s, .int .i64 v.x, .int .i64 v.y]])) (n + 1) (.cells 26 5 [[.int .i64 0, .int .i64 0, .str [], .int .i64 0, .int .i64 0]])) := ((Keep.refl _ _ _).up1 (Nat.le_refl _) _).up1 (by omega) _
 have hb := h.lt
 have e1 : (n = n + 1) = False := eq_false (by omega)
 cases ho : okV v with
 | true =>
  rw [ho] at r
  have ec : q1v (q9g v) s = (v, s) := by unfold q9g; rw [if_pos ho]; rfl
  rw [ec] at hk
  simp only [e1, q0a q2n rfl r, r71_0, w2r, tt, bb, bc, ↓bd, Nat.reduceEqDiff, Nat.reduceAdd, ↓reduceIte]
  exact hk (n + 1 + 1) _ (h2.upo (c := n + 1) (by omega) (by rw [q0b, if_pos rfl]; exact q3j) _) (kp.up1 (by omega) _) (by omega)
 | false =>
  rw [ho] at r
  have ec : q1v (q9g v) s = (zV, q1f 14 s) := by unfold q9g q1f; rw [if_neg (by simp [ho]), if_pos he]; rfl
  rw [ec] at hk
  simp only [e1, q0a q2n rfl r, r71_0, tt, bb, bc, ↓bd, Nat.reduceEqDiff, Nat.reduceAdd, ↓reduceIte, reduceCtorEq]
  refine q1e h2 ?_
  intro n' A' hm hkp hn
  have hc := hkp.at (c := n + 1) (by omega) (by omega) (by rw [q0b, if_pos rfl]) (by decide)
  simp only [hc, w2r, tt, bb, bc, ↓bd, Nat.reduceEqDiff, Nat.reduceAdd, ↓reduceIte]
  exact hk n' _ (hm.upo (c := n + 1) (by omega) (by rw [hc]; exact q3j) _) ((kp.trans (by omega) hkp).up1 (by omega) _) (by omega)
theorem q4z {M : Mch} {n : Nat} {A : Nat → Blk} {s : St} {x y e : Int} {r : AR} (h : MS M n A s) (he : s.err = 0) (hr : (e = 0 ∧ r = .val (pV x y)) ∨ (e ≠ 0 ∧ r = .bad e)) (hk : ∀ n' A', MS M n' A' (q1v r s).2 → Keep M.b n A A' → n ≤ n' → q0d Cx fn (putA T dst (q1o (q1v r s).1)) ds ro os k ⟨n', A'⟩ Q) :
  q0g Cx fn T ds ro 78 [.ptr M.b 22 0 0, .agg [.int .i64 x, .int .i64 y], .int .i64 e] dst os k ⟨n, A⟩ Q := by
 refine q0s w3f (q0l _) w3d ?_
 have h2 := (h.up1 (.cells 24 2 [[.int .i64 x, .int .i64 y]])).up1 (.cells 26 5 [[.int .i64 0, .int .i64 0, .str [], .int .i64 0, .int .i64 0]])
 have kp : Keep M.b n A (upd (upd A n (.cells 24 2 [[.int .i64 x, .int .i64 y]])) (n + 1) (.cells 26 5 [[.int .i64 0, .int .i64 0, .str [], .int .i64 0, .int .i64 0]])) := ((Keep.refl _ _ _).up1 (Nat.le_refl _) _).up1 (by omega) _
 have hb := h.lt
 have e1 : (n = n + 1) = False := eq_false (by omega)
 rcases hr with ⟨rfl, rfl⟩ | ⟨h0, rfl⟩
 ·have z : ((0 : Int) != 0) = false := rfl
  simp only [e1, z, q0a x3m rfl (z2e x y), r78_0, w3e, tt, bb, bc, ↓bd, Nat.reduceEqDiff, Nat.reduceAdd, ↓reduceIte]
  exact hk (n + 1 + 1) _ (h2.upo (c := n + 1) (by omega) (by rw [q0b, if_pos rfl]; exact q3j) _) (kp.up1 (by omega) _) (by omega)
 ·have z : (e != 0) = true := by simpa using h0
  have ec : q1v (.bad e) s = (zV, q1f e s) := by unfold q1f; rw [if_pos he]; rfl
  rw [ec] at hk
  simp only [z, r78_0, tt, bb, bc, ↓bd, Nat.reduceEqDiff, Nat.reduceAdd, ↓reduceIte, reduceCtorEq]
  refine q1e h2 ?_
  intro n' A' hm hkp hn
  have hc := hkp.at (c := n + 1) (by omega) (by omega) (by rw [q0b, if_pos rfl]) (by decide)
  simp only [hc, w3e, tt, bb, bc, ↓bd, Nat.reduceEqDiff, Nat.reduceAdd, ↓reduceIte]
  exact hk n' _ (hm.upo (c := n + 1) (by omega) (by rw [hc]; exact q3j) _) ((kp.trans (by omega) hkp).up1 (by omega) _) (by omega)
def kc (k : Int) : UInt8 := if k = 0 then 110 else if k = 1 then 115 else 112
def q2b (want : Bytes) (vs : List Vl) : Bool := (want.zip vs).all fun p => kc p.2.k == p.1
theorem w5p {v : Vl} (h : okV v = true) : 0 ≤ v.k ∧ ([110, 115, 112] : Bytes)[v.k.toNat]? = some (kc v.k) := by
 rcases q3r h with ⟨e, _⟩ | ⟨e, _⟩ | ⟨e, _⟩ <;> rw [e] <;> exact ⟨by decide, rfl⟩
theorem w5q (a b : UInt8) : (((a.toNat : Nat) : Int) != ((b.toNat : Nat) : Int)) = !(a == b) := by
 cases h : (a == b) with
 | true => rw [beq_iff_eq] at h; subst h; simp
 | false =>
  rw [Bool.not_false, bne_iff_ne]
  intro e
  rw [beq_eq_false_iff_ne] at h
  exact h (UInt8.toNat_inj.mp (by omega))
theorem y2c {M : Mch} {s : St} {g n0 : Nat} {A0 : Nat → Blk} {want : Bytes} {vs : List Vl} {Q : AV → AHeap → Prop} (hok : ∀ v, v ∈ vs → okV v = true) (hl : want.length = vs.length) (hvl : vs.length ≤ 3)
  (hQ : ∀ n A, MS M n A (if q2b want vs then s else q1f 13 s) → Keep M.b n0 A0 A → n0 ≤ n → Q (.bool (q2b want vs)) ⟨n, A⟩) :
  ∀ (j i : Nat) (T : Nat → AV) (n : Nat) (A : Nat → Blk), i + j = vs.length → q2b want vs = q2b (want.drop i) (vs.drop i) → MS M n A s → AS M g n A vs → Keep M.b n0 A0 A → n0 ≤ n → T 0 = .ptr M.b 22 0 0 → T 1 = .str want → T 9 = .slc g 5 0 vs.length → T 10 = .int .i64 (vs.length : Int) → T 11 = .int .i64 (i : Int) →
   Run Cx 70 T [] none [.inLoop c70_7, .inBlock 0, .code c70_27] ⟨n, A⟩ Q
 | 0, i, T, n, A, hij, hkm, hm, ha, hkp, hn, t0, t1, t9, t10, t11 => by
  rw [run_inLoop]
  have c0 : ¬ (i : Int) < (vs.length : Int) := by omega
  have e : q2b want vs = true := by rw [hkm, List.drop_of_length_le (by omega), List.drop_of_length_le (by omega)]; rfl
  rw [e, if_pos rfl] at hQ
  simp only [t10, t11, c0, xx, r70_0, w2o, tt, bb, bc, ↓bd, ↓reduceIte]
  exact hQ n A hm hkp hn
 | j + 1, i, T, n, A, hij, hkm, hm, ha, hkp, hn, t0, t1, t9, t10, t11 => by
  rw [run_inLoop]
  have hi : i < vs.length := by omega
  have hiw : i < want.length := by omega
  have c0 : (i : Int) < (vs.length : Int) := by omega
  have p0 : (0 : Int) ≤ (i : Int) := by omega
  have g0 := q2x (List.getElem?_eq_getElem hi)
  have hg := ha.cell
  have hglt := ha.lt
  have hb := hm.lt
  have nb : (M.b = n) = False := eq_false (by omega)
  have gn : (g = n) = False := eq_false (by omega)
  obtain ⟨k0, kg⟩ := w5p (hok _ (List.getElem_mem hi))
  have wg : want[i]? = some want[i] := List.getElem?_eq_getElem hiw
  have w1 : IntKind.i64.wrap ((i : Int) + 1) = ((i + 1 : Nat) : Int) := by rw [wr64 (by omega) (by omega)]; omega
  have hbn := w5q (kc (vs[i]).k) want[i]
  have j0v : q2b (want.drop i) (vs.drop i) = ((kc (vs[i]).k == want[i]) && q2b (want.drop (i + 1)) (vs.drop (i + 1))) := by
   rw [List.drop_eq_getElem_cons hi, List.drop_eq_getElem_cons hiw]; rfl
  have hm2 := hm.up1 (.cells 26 5 [[.int .i64 (vs[i]).k, .int .i64 (vs[i]).n, .str (vs[i]).s, .int .i64 (vs[i]).x, .int .i64 (vs[i]).y]])
  have ha2 := ha.up1 (.cells 26 5 [[.int .i64 (vs[i]).k, .int .i64 (vs[i]).n, .str (vs[i]).s, .int .i64 (vs[i]).x, .int .i64 (vs[i]).y]])
  have kp2 := hkp.up1 hn (.cells 26 5 [[.int .i64 (vs[i]).k, .int .i64 (vs[i]).n, .str (vs[i]).s, .int .i64 (vs[i]).x, .int .i64 (vs[i]).y]])
  have uu : ∀ (X Y : Blk), upd (upd A n X) n Y = upd A n Y := fun X Y => z4f A n X Y
  cases hc : (kc (vs[i]).k == want[i]) with
  | true =>
   rw [hc, Bool.true_and] at j0v
   rw [hc, Bool.not_true] at hbn
   simp only [t1, t9, t10, t11, c0, p0, g0, hg, k0, kg, wg, w1, hbn, uu, q0n, Int.toNat_natCast, xx, r70_0.2.1, r70_0.2.2.1, tt, bb, ↓bd, Nat.reduceEqDiff, Nat.reduceAdd, ↓reduceIte]
   refine y2c hok hl hvl hQ j (i + 1) _ _ _ (by omega) (hkm.trans j0v) hm2 ha2 kp2 (by omega) ?_ ?_ ?_ ?_ ?_
   all_goals simp only [q0b, t0, t1, t9, t10, Nat.reduceEqDiff, ↓reduceIte]
  | false =>
   rw [hc, Bool.false_and] at j0v
   rw [hc, Bool.not_false] at hbn
   rw [hkm.trans j0v] at hQ
   simp only [t0, t1, t9, t10, t11, c0, p0, g0, hg, k0, kg, wg, hbn, uu, q0n, Int.toNat_natCast, r70_0, tt, bb, bc, ↓bd, Nat.reduceEqDiff, Nat.reduceAdd, ↓reduceIte, reduceCtorEq]
   refine q1e hm2 ?_
   intro n' A' hm' q1y hn'
   simp only [w2o, tt, bb, bc, ↓bd, ↓reduceIte]
   exact hQ n' A' hm' (kp2.trans (by omega) q1y) (by omega)
theorem q5a {M : Mch} {n g : Nat} {A : Nat → Blk} {s : St} {want : Bytes} {vs : List Vl} (h : MS M n A s) (ha : AS M g n A vs) (hok : ∀ v, v ∈ vs → okV v = true) (hl : want.length = vs.length) (hvl : vs.length ≤ 3)
  (hk : ∀ n' A', MS M n' A' (if q2b want vs then s else q1f 13 s) → Keep M.b n A A' → n ≤ n' → q0d Cx fn (putA T dst (.bool (q2b want vs))) ds ro os k ⟨n', A'⟩ Q) :
  q0g Cx fn T ds ro 70 [.ptr M.b 22 0 0, .str want, .slc g 5 0 vs.length] dst os k ⟨n, A⟩ Q := by
 refine q0s w2p (q0l _) w2n ?_
 simp only [i64, r70_0.1, tt, bb, bc, ↓bd, Nat.reduceEqDiff, ↓reduceIte]
 refine y2c (M := M) (s := s) (g := g) (n0 := n) (A0 := A) hok hl hvl ?_ vs.length 0 _ n A (by omega) rfl h ha (Keep.refl _ _ _) (Nat.le_refl _) ?_ ?_ ?_ ?_ ?_
 ·intro n' A' h1 h2 h3
  exact hk n' A' h1 h2 h3
 all_goals simp only [q0b, q1g, qez, Nat.reduceEqDiff, ↓reduceIte]
 all_goals rfl
theorem x0t {M : Mch} {n : Nat} {A : Nat → Blk} {s : St} {j : Int} (h : MS M n A s) (hj : 0 ≤ j ∧ j < 5)
  (hk : ∀ n' A', MS M n' A' s → Keep M.b n A A' → n ≤ n' → q0d Cx fn (putA T dst (q1o (x0q M.E j s))) ds ro os k ⟨n', A'⟩ Q) :
  q0g Cx fn T ds ro 28 [.ptr M.b 22 0 0, .int .i64 j] dst os k ⟨n, A⟩ Q := by
 refine q0s w0i (q0l _) w0h ?_
 have h2 := h.up1 (.cells 26 5 [[.int .i64 0, .int .i64 0, .str [], .int .i64 0, .int .i64 0]])
 have kp := (Keep.refl M.b n A).up1 (Nat.le_refl _) (.cells 26 5 [[.int .i64 0, .int .i64 0, .str [], .int .i64 0, .int .i64 0]])
 have hfin : ∀ X, MS M (n + 1) (upd (upd A n (.cells 26 5 [[.int .i64 0, .int .i64 0, .str [], .int .i64 0, .int .i64 0]])) n X) s := fun X => h2.upo (c := n) (by have := h.lt; omega) (by rw [q0b, if_pos rfl]; exact q3j) _
 obtain ⟨hb, o, hA, ho⟩ := h
 have nb : (M.b = n) = False := eq_false (by omega)
 have y7r : j = 0 ∨ j = 1 ∨ j = 2 ∨ j = 3 ∨ j = 4 := by omega
 have hk' : ∀ X v, v = q1o (x0q M.E j s) → q0d Cx fn (putA T dst v) ds ro os k ⟨n + 1, upd (upd A n (.cells 26 5 [[.int .i64 0, .int .i64 0, .str [], .int .i64 0, .int .i64 0]])) n X⟩ Q := by
  rintro X v rfl
  exact hk (n + 1) _ (hfin X) (kp.up1 (Nat.le_refl _) _) (by omega)
 rcases y7r with rfl | rfl | rfl | rfl | rfl <;>
 ·simp only [hA, nb, q0n, q0a j3n rfl (q8d M.E.key), q0a q5j rfl (q2p s.i), r28_0, w8w, tt, bb, bc, ↓bd, Nat.reduceEqDiff, Nat.reduceAdd, Nat.reduceMul, Nat.reduceLeDiff, ↓reduceIte, reduceCtorEq, Int.reduceLT, Int.reduceLE, Int.reduceToNat]
  exact hk' _ _ rfl
end
end Go.Proofs.YtckhmpcmlochpaaGreat.G
namespace Go.Proofs.YtckhmpcmlochpaaGreat.G.Gs
open Go.BX
theorem q0y {x y : Int} {fn : FuncId} {T : Nat → AV} {ds : List ADef} {ro : Option Nat} {dst : Option Nat} {os : List AO} {k : List AItem} {H : AHeap} {Q : AV → AHeap → Prop} :
  q0g Cx fn T ds ro 26 [spot x y] dst os k H Q = q0d Cx fn (putA T dst (.bool (inR x && inR y))) ds ro os k H Q := q0a x3g rfl (Right_ok x y)
def errT (n : Int) : AV := .tuple [spot 0 0, spot 0 0, .int .i64 n]
def DivR (a b c d : Int) : AV :=
 if (inR a && inR b) && (inR c && inR d) then
  if c = 0 ∧ d = 0 then errT 16
  else if (inR (qX a b c d) && inR (qY a b c d)) && (inR (rX a b c d) && inR (rY a b c d)) then .tuple [spot (qX a b c d) (qY a b c d), spot (rX a b c d) (rY a b c d), .int .i64 0]
  else errT 14
 else errT 14
theorem Norm_ok (x y : Int) : q0k Cx 77 [spot x y] (if inR x && inR y then .tuple [.int .i64 (nrm x y), .int .i64 0] else .tuple [.int .i64 0, .int .i64 14]) := by
 refine q0c (q0l _) w3a ?_
 cases h : (inR x && inR y) with
 | false => simp only [h, q0y, r77_0, w3b, tt, bb, bc, ↓bd, Nat.reduceEqDiff, Nat.reduceAdd, ↓reduceIte]
 | true =>
  simp only [Bool.and_eq_true] at h
  simp only [h.1, h.2, q0y, q0a x3q rfl (x4k x y h.1 h.2), r77_0, w3b, tt, bb, bc, ↓bd, Nat.reduceEqDiff, Nat.reduceAdd, ↓reduceIte]
theorem Div_ok (a b c d : Int) : q0k Cx 98 [spot a b, spot c d] (DivR a b c d) := by
 refine q0c (q0l _) w4f ?_
 unfold DivR errT
 cases h1 : (inR a && inR b) with
 | false => simp only [h1, q0y, r98_0, x0l, tt, bb, bc, ↓bd, Nat.reduceEqDiff, Nat.reduceAdd, ↓reduceIte, reduceCtorEq]
 | true =>
  cases h2 : (inR c && inR d) with
  | false => simp only [h1, h2, q0y, r98_0, x0l, tt, bb, bc, ↓bd, Nat.reduceEqDiff, Nat.reduceAdd, ↓reduceIte, reduceCtorEq]
  | true =>
   by_cases h3 : c = 0 ∧ d = 0
   ·obtain ⟨rfl, rfl⟩ := h3
    simp only [h1, h2, q0y, beq_self_eq_true, r98_0, x0l, tt, bb, bc, ↓bd, Nat.reduceEqDiff, Nat.reduceAdd, ↓reduceIte, reduceCtorEq]
   ·have h4 : ((c == 0) && (d == 0)) = false := by
     cases hh : ((c == 0) && (d == 0)) with
     | false => rfl
     | true => simp only [Bool.and_eq_true, beq_iff_eq] at hh; exact absurd hh h3
    have hh1 := h1
    have hh2 := h2
    simp only [Bool.and_eq_true] at hh1 hh2
    have hd := w5j a b c d hh1.1 hh1.2 hh2.1 hh2.2 h3
    cases h5 : (inR (qX a b c d) && inR (qY a b c d)) with
    | false => simp only [h1, h2, h3, h4, h5, q0y, q0a j6e rfl hd, q1a, r98_0, x0l, tt, bb, bc, ↓bd, Nat.reduceEqDiff, Nat.reduceAdd, ↓reduceIte, reduceCtorEq]
    | true =>
     cases h6 : (inR (rX a b c d) && inR (rY a b c d)) with
     | false => simp only [h1, h2, h3, h4, h5, h6, q0y, q0a j6e rfl hd, q1a, r98_0, x0l, tt, bb, bc, ↓bd, Nat.reduceEqDiff, Nat.reduceAdd, ↓reduceIte, reduceCtorEq]
     | true => simp only [h1, h2, h3, h4, h5, h6, q0y, q0a j6e rfl hd, q1a, r98_0, x0l, tt, bb, bc, ↓bd, Nat.reduceEqDiff, Nat.reduceAdd, ↓reduceIte, reduceCtorEq, Nat.reduceBneDiff]
theorem x5a {n d : Int} (hd : 0 < d) : -d ≤ 2 * (n - nr n d * d) ∧ 2 * (n - nr n d * d) ≤ d := by
 unfold nr
 have h1 := Int.emod_nonneg (2 * n + d) (b := 2 * d) (by omega)
 have h2 := Int.emod_lt_of_pos (2 * n + d) (b := 2 * d) (by omega)
 have h3 := Int.emod_add_mul_ediv (2 * n + d) (2 * d)
 generalize (2 * n + d) / (2 * d) = q at *
 generalize (2 * n + d) % (2 * d) = r at *
 have e : 2 * d * q = 2 * (q * d) := by grind
 omega
theorem half {x N : Int} (h : -N ≤ 2 * x ∧ 2 * x ≤ N) : 4 * (x * x) ≤ N * N := by
 have h1 := Int.mul_nonneg (a := N - 2 * x) (b := N + 2 * x) (by omega) (by omega)
 have e : (N - 2 * x) * (N + 2 * x) = N * N - 4 * (x * x) := by grind
 omega
theorem x5b {a b c d : Int} (h0 : ¬ (c = 0 ∧ d = 0)) : 2 * nrm (rX a b c d) (rY a b c d) ≤ nrm c d := by
 have hp := j6m h0
 have hx := half (x5a (n := zx a b c d) hp)
 have hy := half (x5a (n := zy a b c d) hp)
 have e1 : zx a b c d - qX a b c d * nrm c d = c * rX a b c d + d * rY a b c d := by
  unfold zx rX rY nrm; grind
 have e2 : zy a b c d - qY a b c d * nrm c d = c * rY a b c d - d * rX a b c d := by
  unfold zy rX rY nrm; grind
 change 4 * ((zx a b c d - qX a b c d * nrm c d) * (zx a b c d - qX a b c d * nrm c d)) ≤ _ at hx
 change 4 * ((zy a b c d - qY a b c d * nrm c d) * (zy a b c d - qY a b c d * nrm c d)) ≤ _ at hy
 rw [e1] at hx
 rw [e2] at hy
 have e3 : (c * rX a b c d + d * rY a b c d) * (c * rX a b c d + d * rY a b c d) + (c * rY a b c d - d * rX a b c d) * (c * rY a b c d - d * rX a b c d) = nrm c d * nrm (rX a b c d) (rY a b c d) := by
  unfold nrm; grind
 have h2 : nrm c d * (2 * nrm (rX a b c d) (rY a b c d)) ≤ nrm c d * nrm c d := by
  have : nrm c d * (2 * nrm (rX a b c d) (rY a b c d)) = 2 * (nrm c d * nrm (rX a b c d) (rY a b c d)) := by grind
  omega
 exact Int.le_of_mul_le_mul_left h2 hp
def errS : AV := .tuple [spot 0 0, .int .i64 14]
def SpotR (x y : Int) : AV := if inR x && inR y then .tuple [spot x y, .int .i64 0] else errS
theorem j6o (x y : Int) (fx : -9007199254740992 ≤ x ∧ x ≤ 9007199254740992) (fy : -9007199254740992 ≤ y ∧ y ≤ 9007199254740992) : q0k Cx 111 [.cpx x y] (SpotR x y) := by
 refine q0c (q0l _) y5b ?_
 unfold SpotR errS
 have y0b : IntKind.i64.min = -9223372036854775808 := rfl
 have y3b : IntKind.i64.max = 9223372036854775807 := rfl
 have v1 : (-9223372036854775808 ≤ x ∧ x ≤ 9223372036854775807) = True := eq_true (by omega)
 have v2 : (-9223372036854775808 ≤ y ∧ y ≤ 9223372036854775807) = True := eq_true (by omega)
 cases h : (inR x && inR y) with
 | false => simp only [h, y0b, y3b, v1, v2, q0y, r111_0, y1q, tt, bb, bc, ↓bd, Nat.reduceEqDiff, Nat.reduceAdd, Nat.reduceLeDiff, ↓reduceIte, reduceCtorEq, Int.reduceNeg]
 | true => simp only [h, y0b, y3b, v1, v2, q0y, r111_0, y1q, tt, bb, bc, ↓bd, Nat.reduceEqDiff, Nat.reduceAdd, Nat.reduceLeDiff, ↓reduceIte, reduceCtorEq, Int.reduceNeg]
def two (a b c d : Int) (r : AV) : AV := if (inR a && inR b) && (inR c && inR d) then r else errS
theorem Add_ok (a b c d : Int) : q0k Cx 95 [spot a b, spot c d] (two a b c d (SpotR (a + c) (b + d))) := by
 refine q0c (q0l _) w3z ?_
 unfold two
 cases h1 : (inR a && inR b) with
 | false => simp only [errS, h1, q0y, r95_0, x8l, tt, bb, bc, ↓bd, Nat.reduceEqDiff, Nat.reduceAdd, ↓reduceIte, reduceCtorEq]
 | true =>
  cases h2 : (inR c && inR d) with
  | false => simp only [errS, h1, h2, q0y, r95_0, x8l, tt, bb, bc, ↓bd, Nat.reduceEqDiff, Nat.reduceAdd, ↓reduceIte, reduceCtorEq]
  | true =>
   have hh1 := h1
   have hh2 := h2
   simp only [Bool.and_eq_true] at hh1 hh2
   obtain ⟨ra, rb⟩ := hh1
   obtain ⟨rc, rd⟩ := hh2
   have ha' := inR_iff.mp ra
   have hb' := inR_iff.mp rb
   have hc' := inR_iff.mp rc
   have hd' := inR_iff.mp rd
   have f1 : q4a (a + c) = true := q1q (by omega)
   have f2 : q4a (b + d) = true := q1q (by omega)
   have hs := j6o (a + c) (b + d) (by omega) (by omega)
   unfold SpotR errS at *
   cases h3 : (inR (a + c) && inR (b + d)) with
   | false => 
    simp only [h3, Bool.false_eq_true, if_false] at hs
    simp only [h1, h2, f1, f2, q9j, q0y, q0a q3h rfl (number_ok a b ra rb), q0a q3h rfl (number_ok c d rc rd), q0a z2b rfl hs, r95_0, x8l, tt, bb, bc, ↓bd, Nat.reduceEqDiff, Nat.reduceAdd, ↓reduceIte, reduceCtorEq]
   | true => 
    simp only [h3, if_true] at hs
    simp only [h1, h2, f1, f2, q9j, q0y, q0a q3h rfl (number_ok a b ra rb), q0a q3h rfl (number_ok c d rc rd), q0a z2b rfl hs, r95_0, x8l, tt, bb, bc, ↓bd, Nat.reduceEqDiff, Nat.reduceAdd, ↓reduceIte, reduceCtorEq]
theorem Sub_ok (a b c d : Int) : q0k Cx 96 [spot a b, spot c d] (two a b c d (SpotR (a - c) (b - d))) := by
 refine q0c (q0l _) w4b ?_
 unfold two
 cases h1 : (inR a && inR b) with
 | false => simp only [errS, h1, q0y, r96_0, x8m, tt, bb, bc, ↓bd, Nat.reduceEqDiff, Nat.reduceAdd, ↓reduceIte, reduceCtorEq]
 | true =>
  cases h2 : (inR c && inR d) with
  | false => simp only [errS, h1, h2, q0y, r96_0, x8m, tt, bb, bc, ↓bd, Nat.reduceEqDiff, Nat.reduceAdd, ↓reduceIte, reduceCtorEq]
  | true =>
   have hh1 := h1
   have hh2 := h2
   simp only [Bool.and_eq_true] at hh1 hh2
   obtain ⟨ra, rb⟩ := hh1
   obtain ⟨rc, rd⟩ := hh2
   have ha' := inR_iff.mp ra
   have hb' := inR_iff.mp rb
   have hc' := inR_iff.mp rc
   have hd' := inR_iff.mp rd
   have f1 : q4a (a - c) = true := q1q (by omega)
   have f2 : q4a (b - d) = true := q1q (by omega)
   have hs := j6o (a - c) (b - d) (by omega) (by omega)
   unfold SpotR errS at *
   cases h3 : (inR (a - c) && inR (b - d)) with
   | false => 
    simp only [h3, Bool.false_eq_true, if_false] at hs
    simp only [h1, h2, f1, f2, q9j, q0y, q0a q3h rfl (number_ok a b ra rb), q0a q3h rfl (number_ok c d rc rd), q0a z2b rfl hs, r96_0, x8m, tt, bb, bc, ↓bd, Nat.reduceEqDiff, Nat.reduceAdd, ↓reduceIte, reduceCtorEq]
   | true => 
    simp only [h3, if_true] at hs
    simp only [h1, h2, f1, f2, q9j, q0y, q0a q3h rfl (number_ok a b ra rb), q0a q3h rfl (number_ok c d rc rd), q0a z2b rfl hs, r96_0, x8m, tt, bb, bc, ↓bd, Nat.reduceEqDiff, Nat.reduceAdd, ↓reduceIte, reduceCtorEq]
theorem Mul_ok (a b c d : Int) : q0k Cx 97 [spot a b, spot c d] (two a b c d (SpotR (a * c - b * d) (a * d + b * c))) := by
 refine q0c (q0l _) w4d ?_
 unfold two
 cases h1 : (inR a && inR b) with
 | false => simp only [errS, h1, q0y, r97_0, x8n, tt, bb, bc, ↓bd, Nat.reduceEqDiff, Nat.reduceAdd, ↓reduceIte, reduceCtorEq]
 | true =>
  cases h2 : (inR c && inR d) with
  | false => simp only [errS, h1, h2, q0y, r97_0, x8n, tt, bb, bc, ↓bd, Nat.reduceEqDiff, Nat.reduceAdd, ↓reduceIte, reduceCtorEq]
  | true =>
   have hh1 := h1
   have hh2 := h2
   simp only [Bool.and_eq_true] at hh1 hh2
   obtain ⟨ra, rb⟩ := hh1
   obtain ⟨rc, rd⟩ := hh2
   have ha' := inR_iff.mp ra
   have hb' := inR_iff.mp rb
   have hc' := inR_iff.mp rc
   have hd' := inR_iff.mp rd
   have m1 := z3e ha' hc'
   have m2 := z3e hb' hd'
   have m3 := z3e ha' hd'
   have m4 := z3e hb' hc'
   have f1 : q4a (a * c) = true := q1q (by omega)
   have f2 : q4a (b * d) = true := q1q (by omega)
   have f3 : q4a (a * c - b * d) = true := q1q (by omega)
   have f4 : q4a (a * d) = true := q1q (by omega)
   have f5 : q4a (b * c) = true := q1q (by omega)
   have f6 : q4a (a * d + b * c) = true := q1q (by omega)
   have hs := j6o (a * c - b * d) (a * d + b * c) (by omega) (by omega)
   unfold SpotR errS at *
   cases h3 : (inR (a * c - b * d) && inR (a * d + b * c)) with
   | false => 
    simp only [h3, Bool.false_eq_true, if_false] at hs
    simp only [h1, h2, f1, f2, f3, f4, f5, f6, q9j, q0y, q0a q3h rfl (number_ok a b ra rb), q0a q3h rfl (number_ok c d rc rd), q0a z2b rfl hs, r97_0, x8n, tt, bb, bc, ↓bd, Nat.reduceEqDiff, Nat.reduceAdd, ↓reduceIte, reduceCtorEq]
   | true => 
    simp only [h3, if_true] at hs
    simp only [h1, h2, f1, f2, f3, f4, f5, f6, q9j, q0y, q0a q3h rfl (number_ok a b ra rb), q0a q3h rfl (number_ok c d rc rd), q0a z2b rfl hs, r97_0, x8n, tt, bb, bc, ↓bd, Nat.reduceEqDiff, Nat.reduceAdd, ↓reduceIte, reduceCtorEq]
theorem Conj_ok (a b : Int) : q0k Cx 79 [spot a b] (if inR a && inR b then .tuple [spot a (0 - b), .int .i64 0] else errS) := by
 refine q0c (q0l _) w3g ?_
 cases h1 : (inR a && inR b) with
 | false => simp only [errS, h1, q0y, r79_0, w3h, tt, bb, bc, ↓bd, Nat.reduceEqDiff, Nat.reduceAdd, ↓reduceIte, reduceCtorEq]
 | true =>
  have hh1 := h1
  simp only [Bool.and_eq_true] at hh1
  obtain ⟨ra, rb⟩ := hh1
  have hb' := inR_iff.mp rb
  have w : IntKind.i64.wrap (0 - b) = 0 - b := wr64 (by omega) (by omega)
  simp only [h1, w, q0y, r79_0, w3h, tt, bb, bc, ↓bd, Nat.reduceEqDiff, Nat.reduceAdd, Nat.reduceLeDiff, ↓reduceIte, reduceCtorEq]
end Go.Proofs.YtckhmpcmlochpaaGreat.G.Gs
namespace Go.Proofs.YtckhmpcmlochpaaGreat.G
open Go.BX
theorem y6d (a b c d : Int) (h : ((inR a && inR b) && (inR c && inR d)) = true) : ∃ x y e, q0k Cx 95 [.agg [.int .i64 a, .int .i64 b], .agg [.int .i64 c, .int .i64 d]] (.tuple [.agg [.int .i64 x, .int .i64 y], .int .i64 e]) ∧ ((e = 0 ∧ q6c 2 a b c d = .val (pV x y)) ∨ (e ≠ 0 ∧ q6c 2 a b c d = .bad e)) := by
 have hc := Gs.Add_ok a b c d
 unfold Gs.two Gs.SpotR Gs.errS at hc
 have eR : Gs.inR = inR := rfl
 rw [eR] at hc
 rw [if_pos h] at hc
 have e0 : q6c 2 a b c d = z7m (a + c) (b + d) := rfl
 rw [e0]
 unfold z7m
 cases hi : (inR (a + c) && inR (b + d)) with
 | true => rw [if_pos hi] at hc; exact ⟨_, _, _, hc, .inl ⟨rfl, if_pos rfl⟩⟩
 | false => rw [if_neg (by rw [hi]; decide)] at hc; exact ⟨_, _, _, hc, .inr ⟨by decide, if_neg (by decide)⟩⟩
theorem y6e (a b c d : Int) (h : ((inR a && inR b) && (inR c && inR d)) = true) : ∃ x y e, q0k Cx 96 [.agg [.int .i64 a, .int .i64 b], .agg [.int .i64 c, .int .i64 d]] (.tuple [.agg [.int .i64 x, .int .i64 y], .int .i64 e]) ∧ ((e = 0 ∧ q6c 3 a b c d = .val (pV x y)) ∨ (e ≠ 0 ∧ q6c 3 a b c d = .bad e)) := by
 have hc := Gs.Sub_ok a b c d
 unfold Gs.two Gs.SpotR Gs.errS at hc
 have eR : Gs.inR = inR := rfl
 rw [eR] at hc
 rw [if_pos h] at hc
 have e0 : q6c 3 a b c d = z7m (a - c) (b - d) := rfl
 rw [e0]
 unfold z7m
 cases hi : (inR (a - c) && inR (b - d)) with
 | true => rw [if_pos hi] at hc; exact ⟨_, _, _, hc, .inl ⟨rfl, if_pos rfl⟩⟩
 | false => rw [if_neg (by rw [hi]; decide)] at hc; exact ⟨_, _, _, hc, .inr ⟨by decide, if_neg (by decide)⟩⟩
theorem y6f (a b c d : Int) (h : ((inR a && inR b) && (inR c && inR d)) = true) : ∃ x y e, q0k Cx 97 [.agg [.int .i64 a, .int .i64 b], .agg [.int .i64 c, .int .i64 d]] (.tuple [.agg [.int .i64 x, .int .i64 y], .int .i64 e]) ∧ ((e = 0 ∧ q6c 4 a b c d = .val (pV x y)) ∨ (e ≠ 0 ∧ q6c 4 a b c d = .bad e)) := by
 have hc := Gs.Mul_ok a b c d
 unfold Gs.two Gs.SpotR Gs.errS at hc
 have eR : Gs.inR = inR := rfl
 rw [eR] at hc
 rw [if_pos h] at hc
 have e0 : q6c 4 a b c d = z7m (a * c - b * d) (a * d + b * c) := rfl
 rw [e0]
 unfold z7m
 cases hi : (inR (a * c - b * d) && inR (a * d + b * c)) with
 | true => rw [if_pos hi] at hc; exact ⟨_, _, _, hc, .inl ⟨rfl, if_pos rfl⟩⟩
 | false => rw [if_neg (by rw [hi]; decide)] at hc; exact ⟨_, _, _, hc, .inr ⟨by decide, if_neg (by decide)⟩⟩
theorem y6g (a b c d : Int) (h : ((inR a && inR b) && (inR c && inR d)) = true) : ∃ x y x' y' e, q0k Cx 98 [.agg [.int .i64 a, .int .i64 b], .agg [.int .i64 c, .int .i64 d]] (.tuple [.agg [.int .i64 x, .int .i64 y], .agg [.int .i64 x', .int .i64 y'], .int .i64 e]) ∧
  ((e = 0 ∧ q6c 5 a b c d = .val (pV x y)) ∨ (e ≠ 0 ∧ q6c 5 a b c d = .bad e)) ∧ ((e = 0 ∧ q6c 6 a b c d = .val (pV x' y')) ∨ (e ≠ 0 ∧ q6c 6 a b c d = .bad e)) := by
 have hc := Gs.Div_ok a b c d
 unfold Gs.DivR Gs.errT at hc
 have eR : Gs.inR = inR := rfl
 rw [eR] at hc
 rw [if_pos h] at hc
 unfold q6c
 by_cases h0 : c = 0 ∧ d = 0
 ·rw [if_pos h0] at hc
  simp only [if_pos h0]
  exact ⟨_, _, _, _, _, hc, .inr ⟨by decide, rfl⟩, .inr ⟨by decide, rfl⟩⟩
 ·rw [if_neg h0] at hc
  simp only [if_neg h0]
  cases hi : ((inR (Gs.qX a b c d) && inR (Gs.qY a b c d)) && (inR (Gs.rX a b c d) && inR (Gs.rY a b c d))) with
  | true => rw [if_pos hi] at hc; exact ⟨_, _, _, _, _, hc, .inl ⟨rfl, rfl⟩, .inl ⟨rfl, rfl⟩⟩
  | false => rw [if_neg (by rw [hi]; decide)] at hc; exact ⟨_, _, _, _, _, hc, .inr ⟨by decide, rfl⟩, .inr ⟨by decide, rfl⟩⟩
section
variable {fn : FuncId} {T : Nat → AV} {ds : List ADef} {ro : Option Nat} {k : List AItem} {Q : AV → AHeap → Prop} {dst : Option Nat} {os : List AO}
theorem j6p {M : Mch} {n : Nat} {A : Nat → Blk} {s : St} {op a b c d : Int} (h : MS M n A s) (he : s.err = 0) (hop : op = 2 ∨ op = 3 ∨ op = 4 ∨ op = 5 ∨ op = 6) (hi : ((inR a && inR b) && (inR c && inR d)) = true)
  (hk : ∀ n' A', MS M n' A' (q1v (q6c op a b c d) s).2 → Keep M.b n A A' → n ≤ n' → q0d Cx fn (putA T dst (q1o (q1v (q6c op a b c d) s).1)) ds ro os k ⟨n', A'⟩ Q) :
  q0g Cx fn T ds ro 69 [.ptr M.b 22 0 0, .str (q0e op), .agg [.int .i64 a, .int .i64 b], .agg [.int .i64 c, .int .i64 d]] dst os k ⟨n, A⟩ Q := by
 refine q0s w2m (q0l _) w2l ?_
 have h2 := ((h.up1 (.cells 24 2 [[.int .i64 a, .int .i64 b]])).up1 (.cells 24 2 [[.int .i64 c, .int .i64 d]])).up1 (.cells 26 5 [[.int .i64 0, .int .i64 0, .str [], .int .i64 0, .int .i64 0]])
 have kp : Keep M.b n A (upd (upd (upd A n (.cells 24 2 [[.int .i64 a, .int .i64 b]])) (n + 1) (.cells 24 2 [[.int .i64 c, .int .i64 d]])) (n + 1 + 1) (.cells 26 5 [[.int .i64 0, .int .i64 0, .str [], .int .i64 0, .int .i64 0]])) := (((Keep.refl _ _ _).up1 (Nat.le_refl _) _).up1 (by omega) _).up1 (by omega) _
 have hb := h.lt
 have e1 : (n = n + 1) = False := eq_false (by omega)
 have e2 : (n = n + 1 + 1) = False := eq_false (by omega)
 have e3 : (n + 1 = n + 1 + 1) = False := eq_false (by omega)
 have fin : ∀ (n' : Nat) (A' : Nat → Blk) (r : AR) (X : Blk), r = q6c op a b c d → MS M n' A' (q1v r s).2 → Keep M.b (n + 1 + 1 + 1) (upd (upd (upd A n (.cells 24 2 [[.int .i64 a, .int .i64 b]])) (n + 1) (.cells 24 2 [[.int .i64 c, .int .i64 d]])) (n + 1 + 1) (.cells 26 5 [[.int .i64 0, .int .i64 0, .str [], .int .i64 0, .int .i64 0]])) A' → n + 1 + 1 + 1 ≤ n' → q0d Cx fn (putA T dst (q1o (q1v r s).1)) ds ro os k ⟨n', upd A' (n + 1 + 1) X⟩ Q := by
  rintro n' A' r X rfl hm hkp hn
  have hc := hkp.at (c := n + 1 + 1) (by omega) (by omega) (by rw [q0b, if_pos rfl]) (by decide)
  exact hk n' _ (hm.upo (c := n + 1 + 1) (by omega) (by rw [hc]; exact q3j) _) ((kp.trans (by omega) hkp).up1 (by omega) _) (by omega)
 have cellr : ∀ (n' : Nat) (A' : Nat → Blk), Keep M.b (n + 1 + 1 + 1) (upd (upd (upd A n (.cells 24 2 [[.int .i64 a, .int .i64 b]])) (n + 1) (.cells 24 2 [[.int .i64 c, .int .i64 d]])) (n + 1 + 1) (.cells 26 5 [[.int .i64 0, .int .i64 0, .str [], .int .i64 0, .int .i64 0]])) A' → A' (n + 1 + 1) = .cells 26 5 [[.int .i64 0, .int .i64 0, .str [], .int .i64 0, .int .i64 0]] :=
  fun n' A' hkp => hkp.at (c := n + 1 + 1) (by omega) (by omega) (by rw [q0b, if_pos rfl]) (by decide)
 rcases hop with rfl | rfl | rfl | rfl | rfl
 ·obtain ⟨x, y, e, hp, hr⟩ := y6d a b c d hi
  have q1 : (q0e 2 == [97, 100, 100]) = true := rfl
  simp only [q1, e1, e2, e3, q0a w4a rfl hp, r69_0, tt, bb, bc, ↓bd, Nat.reduceEqDiff, Nat.reduceAdd, ↓reduceIte, reduceCtorEq]
  refine q4z h2 he hr ?_
  intro n' A' hm hkp hn
  have hc := cellr n' A' hkp
  simp only [hc, x3k, tt, bb, bc, ↓bd, Nat.reduceEqDiff, Nat.reduceAdd, ↓reduceIte]
  exact fin n' A' _ _ rfl hm hkp hn
 ·obtain ⟨x, y, e, hp, hr⟩ := y6e a b c d hi
  have q1 : (q0e 3 == [97, 100, 100]) = false := rfl
  have q2 : (q0e 3 == [115, 117, 98]) = true := rfl
  simp only [q1, q2, e1, e2, e3, q0a w4c rfl hp, r69_0, tt, bb, bc, ↓bd, Nat.reduceEqDiff, Nat.reduceAdd, ↓reduceIte, reduceCtorEq]
  refine q4z h2 he hr ?_
  intro n' A' hm hkp hn
  have hc := cellr n' A' hkp
  simp only [hc, x3k, tt, bb, bc, ↓bd, Nat.reduceEqDiff, Nat.reduceAdd, ↓reduceIte]
  exact fin n' A' _ _ rfl hm hkp hn
 ·obtain ⟨x, y, e, hp, hr⟩ := y6f a b c d hi
  have q1 : (q0e 4 == [97, 100, 100]) = false := rfl
  have q2 : (q0e 4 == [115, 117, 98]) = false := rfl
  have q3 : (q0e 4 == [109, 117, 108]) = true := rfl
  simp only [q1, q2, q3, e1, e2, e3, q0a w4e rfl hp, r69_0, tt, bb, bc, ↓bd, Nat.reduceEqDiff, Nat.reduceAdd, ↓reduceIte, reduceCtorEq]
  refine q4z h2 he hr ?_
  intro n' A' hm hkp hn
  have hc := cellr n' A' hkp
  simp only [hc, x3k, tt, bb, bc, ↓bd, Nat.reduceEqDiff, Nat.reduceAdd, ↓reduceIte]
  exact fin n' A' _ _ rfl hm hkp hn
 all_goals
  obtain ⟨x, y, x', y', e, hp, hr5, hr6⟩ := y6g a b c d hi
  have e4 : (n + 1 + 1 + 1 = n + 1 + 1 + 1 + 1) = False := eq_false (by omega)
  have e5 : (n + 1 + 1 + 1 + 1 = n + 1 + 1 + 1) = False := eq_false (by omega)
  have h3 := (h2.up1 (.cells 24 2 [[.int .i64 x, .int .i64 y]])).up1 (.cells 24 2 [[.int .i64 x', .int .i64 y']])
  have kq : Keep M.b (n + 1 + 1 + 1) (upd (upd (upd A n (.cells 24 2 [[.int .i64 a, .int .i64 b]])) (n + 1) (.cells 24 2 [[.int .i64 c, .int .i64 d]])) (n + 1 + 1) (.cells 26 5 [[.int .i64 0, .int .i64 0, .str [], .int .i64 0, .int .i64 0]])) (upd (upd (upd (upd (upd A n (.cells 24 2 [[.int .i64 a, .int .i64 b]])) (n + 1) (.cells 24 2 [[.int .i64 c, .int .i64 d]])) (n + 1 + 1) (.cells 26 5 [[.int .i64 0, .int .i64 0, .str [], .int .i64 0, .int .i64 0]])) (n + 1 + 1 + 1) (.cells 24 2 [[.int .i64 x, .int .i64 y]])) (n + 1 + 1 + 1 + 1) (.cells 24 2 [[.int .i64 x', .int .i64 y']])) := ((Keep.refl _ _ _).up1 (Nat.le_refl _) _).up1 (by omega) _
  have hu : upd (upd (upd (upd (upd (upd (upd A n (.cells 24 2 [[.int .i64 a, .int .i64 b]])) (n + 1) (.cells 24 2 [[.int .i64 c, .int .i64 d]])) (n + 1 + 1) (.cells 26 5 [[.int .i64 0, .int .i64 0, .str [], .int .i64 0, .int .i64 0]])) (n + 1 + 1 + 1) (.cells 24 2 [[.int .i64 0, .int .i64 0]])) (n + 1 + 1 + 1 + 1) (.cells 24 2 [[.int .i64 0, .int .i64 0]])) (n + 1 + 1 + 1) (.cells 24 2 [[.int .i64 x, .int .i64 y]])) (n + 1 + 1 + 1 + 1) (.cells 24 2 [[.int .i64 x', .int .i64 y']]) =
    upd (upd (upd (upd (upd A n (.cells 24 2 [[.int .i64 a, .int .i64 b]])) (n + 1) (.cells 24 2 [[.int .i64 c, .int .i64 d]])) (n + 1 + 1) (.cells 26 5 [[.int .i64 0, .int .i64 0, .str [], .int .i64 0, .int .i64 0]])) (n + 1 + 1 + 1) (.cells 24 2 [[.int .i64 x, .int .i64 y]])) (n + 1 + 1 + 1 + 1) (.cells 24 2 [[.int .i64 x', .int .i64 y']]) := by
   funext z
   simp only [q0b]
   by_cases z1 : z = n + 1 + 1 + 1 + 1
   ·rw [if_pos z1, if_pos z1]
   ·rw [if_neg z1, if_neg z1]
    by_cases z2 : z = n + 1 + 1 + 1
    ·rw [if_pos z2, if_neg z1, if_pos z2]
    ·rw [if_neg z2, if_neg z2, if_neg z1, if_neg z2]
 ·have q1 : (q0e 5 == [97, 100, 100]) = false := rfl
  have q2 : (q0e 5 == [115, 117, 98]) = false := rfl
  have q3 : (q0e 5 == [109, 117, 108]) = false := rfl
  have q4 : (q0e 5 == [109, 111, 100]) = false := rfl
  simp only [q1, q2, q3, q4, e1, e2, e3, e4, e5, hu, q0a y1n rfl hp, xx, r69_0, tt, bb, bc, ↓bd, Nat.reduceEqDiff, Nat.reduceAdd, ↓reduceIte, reduceCtorEq]
  refine q4z h3 he hr5 ?_
  intro n' A' hm hkp hn
  have q1y := kq.trans (by omega) hkp
  have hc := cellr n' A' q1y
  simp only [hc, x3k, tt, bb, bc, ↓bd, Nat.reduceEqDiff, Nat.reduceAdd, ↓reduceIte]
  exact fin n' A' _ _ rfl hm q1y (by omega)
 ·have q1 : (q0e 6 == [97, 100, 100]) = false := rfl
  have q2 : (q0e 6 == [115, 117, 98]) = false := rfl
  have q3 : (q0e 6 == [109, 117, 108]) = false := rfl
  have q4 : (q0e 6 == [109, 111, 100]) = true := rfl
  simp only [q1, q2, q3, q4, e1, e2, e3, e4, e5, hu, q0a y1n rfl hp, xx, r69_0, tt, bb, bc, ↓bd, Nat.reduceEqDiff, Nat.reduceAdd, ↓reduceIte, reduceCtorEq]
  refine q4z h3 he hr6 ?_
  intro n' A' hm hkp hn
  have q1y := kq.trans (by omega) hkp
  have hc := cellr n' A' q1y
  simp only [hc, x3k, tt, bb, bc, ↓bd, Nat.reduceEqDiff, Nat.reduceAdd, ↓reduceIte]
  exact fin n' A' _ _ rfl hm q1y (by omega)
end
theorem maxE (a b : Int) : y0m .i64 a [.int .i64 b] = some (max a b) := by
 simp only [y0m, ↓reduceIte, Option.some.injEq]
 split <;> omega
def ovM (a b : Int) : Bool := decide (9007199254740992 < b.natAbs * a.natAbs)
theorem y6h (a b : Int) (ha : -9007199254740992 ≤ a ∧ a ≤ 9007199254740992) (hb : -9007199254740992 ≤ b ∧ b ≤ 9007199254740992) : q0k Cx 72 [.int .i64 a, .int .i64 b] (.bool (ovM a b)) := by
 refine q0c (q0l _) w2t ?_
 by_cases h0 : a = 0
 ·have z : (a != 0) = false := by simp [h0]
  have e : ovM a b = false := by unfold ovM; rw [h0]; simp
  rw [e]
  simp only [z, r72_0, w2u, tt, bb, bc, ↓bd, Nat.reduceEqDiff, ↓reduceIte, reduceCtorEq]
 ·have z : (a != 0) = true := by simpa using h0
  have w1 : IntKind.i64.wrap (0 - b) = 0 - b := wr64 (by omega) (by omega)
  have w2 : IntKind.i64.wrap (0 - a) = 0 - a := wr64 (by omega) (by omega)
  have m1 : max b (0 - b) = (b.natAbs : Int) := by omega
  have m2 : max a (0 - a) = (a.natAbs : Int) := by omega
  have z0 : ((a.natAbs : Int) = 0) = False := eq_false (by omega)
  have t1 : (9007199254740992 : Int).tdiv (a.natAbs : Int) = ((9007199254740992 / a.natAbs : Nat) : Int) := by
   rw [Int.tdiv_eq_ediv_of_nonneg (by decide)]; rfl
  have le : 9007199254740992 / a.natAbs ≤ 9007199254740992 := Nat.div_le_self _ _
  have w3' : ∀ q : Nat, q ≤ 9007199254740992 → IntKind.i64.wrap (q : Int) = (q : Int) := fun q h => wr64 (by omega) (by omega)
  have w3 := w3' _ le
  have cmp : decide (((9007199254740992 / a.natAbs : Nat) : Int) < (b.natAbs : Int)) = ovM a b := by
   unfold ovM
   rw [decide_eq_decide]
   have := Nat.div_lt_iff_lt_mul (x := 9007199254740992) (y := b.natAbs) (k := a.natAbs) (by omega)
   rw [Int.ofNat_lt]
   exact this
  simp only [z, z0, w1, w2, w3, t1, maxE, m1, m2, cmp, Option.map_some, q0i, r72_0, w2u, tt, bb, bc, ↓bd, Nat.reduceEqDiff, ↓reduceIte, reduceCtorEq]
theorem y2d {a b : Int} (ha : -9007199254740992 ≤ a ∧ a ≤ 9007199254740992) : -9007199254740992 ≤ a.tdiv b ∧ a.tdiv b ≤ 9007199254740992 := by
 have h : (a.tdiv b).natAbs ≤ a.natAbs := by rw [Int.natAbs_tdiv]; exact Nat.div_le_self _ _
 omega
theorem y2e {a b : Int} (hb0 : b ≠ 0) (hb : -9007199254740992 ≤ b ∧ b ≤ 9007199254740992) : -9007199254740992 ≤ a.tmod b ∧ a.tmod b ≤ 9007199254740992 := by
 have h1 : (a.tmod b).natAbs < b.natAbs := by
  rw [Int.natAbs_tmod]
  exact Nat.mod_lt _ (by omega)
 omega
theorem x5c (a b : Int) (hb0 : b ≠ 0) (ha : -9007199254740992 ≤ a ∧ a ≤ 9007199254740992) (hb : -9007199254740992 ≤ b ∧ b ≤ 9007199254740992) : q0k Cx 73 [.int .i64 a, .int .i64 b] (.tuple [.int .i64 (q3s a b).1, .int .i64 (q3s a b).2]) := by
 refine q0c (q0l _) w2v ?_
 have z : (b = 0) = False := eq_false hb0
 have d := y2d (b := b) ha
 have m := y2e (a := a) hb0 hb
 have w1 : IntKind.i64.wrap (a.tdiv b) = a.tdiv b := wr64 (by omega) (by omega)
 have w2 : IntKind.i64.wrap (a.tmod b) = a.tmod b := wr64 (by omega) (by omega)
 have w3 : IntKind.i64.wrap (a.tdiv b - 1) = a.tdiv b - 1 := wr64 (by omega) (by omega)
 have w4 : IntKind.i64.wrap (a.tmod b + b) = a.tmod b + b := wr64 (by omega) (by omega)
 unfold q3s
 cases h1 : (a.tmod b != 0) with
 | false => simp only [z, h1, w1, Bool.false_and, Bool.false_eq_true, r73_0, y4l, tt, bb, bc, ↓bd, Nat.reduceEqDiff, ↓reduceIte, reduceCtorEq]
 | true =>
  have hq : ∀ x y : Bool, (!(x == y)) = (x != y) := fun _ _ => rfl
  cases h2 : (decide (a.tmod b < 0) != decide (b < 0)) with
  | false => simp only [z, h1, hq, h2, w1, Bool.false_eq_true, r73_0, y4l, tt, bb, bc, ↓bd, Nat.reduceEqDiff, ↓reduceIte, reduceCtorEq]
  | true => simp only [z, h1, hq, h2, w1, w3, w4, r73_0, y4l, tt, bb, bc, ↓bd, Nat.reduceEqDiff, ↓reduceIte, reduceCtorEq]
theorem w5r {a b : Int} (h : ovM a b = false) : -9007199254740992 ≤ a * b ∧ a * b ≤ 9007199254740992 := by
 unfold ovM at h
 rw [decide_eq_false_iff_not] at h
 have := Int.natAbs_mul a b
 rw [Nat.mul_comm] at this
 omega
theorem y2f {a b : Int} (h : ovM a b = true) : okV (nV (a * b)) = false := by
 unfold ovM at h
 rw [decide_eq_true_eq] at h
 have := Int.natAbs_mul a b
 rw [Nat.mul_comm] at this
 cases ho : okV (nV (a * b)) with
 | false => rfl
 | true =>
  rcases q3r ho with ⟨_, n0, _⟩ | ⟨k1, _⟩ | ⟨k2, _⟩
  ·simp only at n0; omega
  ·cases k1
  ·cases k2
theorem j0m {a b : Vl} (oa : okV a = true) (ob : okV b = true) : q2b [110, 110] [a, b] = decide (a.k = 0 ∧ b.k = 0) := by
 have e : q2b [110, 110] [a, b] = ((kc a.k == 110) && ((kc b.k == 110) && true)) := rfl
 rw [e]
 rcases q3r oa with ⟨h1, _⟩ | ⟨h1, _⟩ | ⟨h1, _⟩ <;> rcases q3r ob with ⟨h2, _⟩ | ⟨h2, _⟩ | ⟨h2, _⟩ <;> rw [h1, h2] <;> rfl
section
variable {fn : FuncId} {T : Nat → AV} {ds : List ADef} {ro : Option Nat} {k : List AItem} {Q : AV → AHeap → Prop} {dst : Option Nat} {os : List AO}
abbrev zB : Blk := .cells 26 5 [[.int .i64 0, .int .i64 0, .str [], .int .i64 0, .int .i64 0]]
theorem q0f {b n : Nat} {A A' : Nat → Blk} (hb : b < n) (h : Keep b (n + 1) (upd A n zB) A') : A' n = .cells 26 5 [[.int .i64 0, .int .i64 0, .str [], .int .i64 0, .int .i64 0]] :=
 h.at (c := n) (by omega) (by omega) (by rw [q0b, if_pos rfl]) (by decide)
theorem q0r {M : Mch} {n n' : Nat} {A A' : Nat → Blk} {s' : St} {v : AV} {X : Blk} (hb : M.b < n) (hm : MS M n' A' s') (hkp : Keep M.b (n + 1) (upd A n zB) A') (hn : n + 1 ≤ n')
  (hk : ∀ n' A', MS M n' A' s' → Keep M.b n A A' → n ≤ n' → q0d Cx fn (putA T dst v) ds ro os k ⟨n', A'⟩ Q) : q0d Cx fn (putA T dst v) ds ro os k ⟨n', upd A' n X⟩ Q := by
 have hc := q0f hb hkp
 exact hk n' _ (hm.upo (c := n) (by omega) (by rw [hc]; exact q3j) _) (((((Keep.refl M.b n A).up1 (Nat.le_refl _) zB).trans (by omega) hkp)).up1 (by omega) _) (by omega)
theorem q8e {M : Mch} {n g : Nat} {A : Nat → Blk} {s : St} {op : Int} {a b : Vl} (h : MS M n A s) (he : s.err = 0) (ha : AS M g n A [a, b]) (oa : okV a = true) (ob : okV b = true) (hop : op = 2 ∨ op = 3 ∨ op = 4 ∨ op = 5 ∨ op = 6)
  (hk : ∀ n' A', MS M n' A' (q1v (ap2 op a b s.out.length) s).2 → Keep M.b n A A' → n ≤ n' → q0d Cx fn (putA T dst (q1o (q1v (ap2 op a b s.out.length) s).1)) ds ro os k ⟨n', A'⟩ Q) :
  q0g Cx fn T ds ro 51 [.ptr M.b 22 0 0, .str (q0e op), .slc g 5 0 2] dst os k ⟨n, A⟩ Q := by
 refine q0s w1k (q0l _) w1j ?_
 have hb := h.lt
 have h2 := h.up1 zB
 have ha2 := ha.up1 zB
 have gl := ha.lt
 have gn : (g = n) = False := eq_false (by omega)
 have hg : A g = .cells 26 5 [[.int .i64 a.k, .int .i64 a.n, .str a.s, .int .i64 a.x, .int .i64 a.y], [.int .i64 b.k, .int .i64 b.n, .str b.s, .int .i64 b.x, .int .i64 b.y]] := ha.cell
 have eap : ap2 op a b s.out.length = (if a.k = 2 ∧ b.k = 2 then q6c op a.x a.y b.x b.y else if a.k = 0 ∧ b.k = 0 then z6p op a.n b.n else .bad 13) := by
  unfold ap2
  rw [if_pos (by omega)]
 rw [eap] at hk
 by_cases hpp : a.k = 2 ∧ b.k = 2
 ·rw [if_pos hpp] at hk
  have z1 : (a.k == 2) = true := by simp [hpp.1]
  have z2 : (b.k == 2) = true := by simp [hpp.2]
  have i1 := (q0w oa).2.2 hpp.1
  have i2 := (q0w ob).2.2 hpp.2
  simp only [hg, gn, z1, z2, Int.toNat_zero, Int.toNat_one, r51_0, tt, bb, bc, ↓bd, Nat.reduceEqDiff, Nat.reduceAdd, ↓reduceIte, reduceCtorEq, Int.reduceLT, Int.reduceLE]
  refine j6p h2 he hop (by rw [i1.1, i1.2, i2.1, i2.2]; rfl) ?_
  intro n' A' hm hkp hn
  have hc := q0f hb hkp
  simp only [hc, z7k, tt, bb, bc, ↓bd, Nat.reduceEqDiff, Nat.reduceAdd, ↓reduceIte]
  exact q0r hb hm hkp hn hk
 ·rw [if_neg hpp] at hk
  have hkn := j0m oa ob
  have go : ∀ {T' : Nat → AV} {k' : List AItem} {Q' : AV → AHeap → Prop}, (∀ n' A', MS M n' A' (if q2b [110, 110] [a, b] then s else q1f 13 s) → Keep M.b (n + 1) (upd A n zB) A' → n + 1 ≤ n' → q0d Cx 51 (putA T' (some 36) (.bool (q2b [110, 110] [a, b]))) [] none [oA 37 (.unOp .not 4 (tm 36)) 4] k' ⟨n', A'⟩ Q') → q0g Cx 51 T' [] none 70 [.ptr M.b 22 0 0, .str [110, 110], .slc g 5 0 2] (some 36) [oA 37 (.unOp .not 4 (tm 36)) 4] k' ⟨n + 1, upd A n zB⟩ Q' :=
   fun hh => q5a (want := [110, 110]) (vs := [a, b]) h2 ha2 (fun v hv => by simp only [List.mem_cons, List.not_mem_nil, or_false] at hv; rcases hv with rfl | rfl <;> assumption) rfl (by simp) hh
  have hz : ((a.k == 2) = true ∧ (b.k == 2) = false) ∨ (a.k == 2) = false := by
   by_cases e1 : a.k = 2
   ·left; exact ⟨by simp [e1], by simp; exact fun e => hpp ⟨e1, e⟩⟩
   ·right; simp [e1]
  have rest : ∀ (n' : Nat) (A' : Nat → Blk) (T' : Nat → AV), MS M n' A' (if q2b [110, 110] [a, b] then s else q1f 13 s) → Keep M.b (n + 1) (upd A n zB) A' → n + 1 ≤ n' → T' 0 = .ptr M.b 22 0 0 → T' 1 = .str (q0e op) → T' 2 = .slc g 5 0 2 → T' 6 = .ptr n 5 0 0 →
    q0d Cx 51 (putA T' (some 36) (.bool (q2b [110, 110] [a, b]))) [] none [oA 37 (.unOp .not 4 (tm 36)) 4] [.code c51_13, .code c51_18] ⟨n', A'⟩ (fun r H1 => q0d Cx fn (putA T dst r) ds ro os k H1 Q) := by
   intro n' A' T' hm hkp hn t0 t1 t2 t6
   have hc := q0f hb hkp
   have hg' : A' g = .cells 26 5 [[.int .i64 a.k, .int .i64 a.n, .str a.s, .int .i64 a.x, .int .i64 a.y], [.int .i64 b.k, .int .i64 b.n, .str b.s, .int .i64 b.x, .int .i64 b.y]] := (ha2.keep hn hkp).cell
   by_cases hnn : a.k = 0 ∧ b.k = 0
   ·rw [if_pos hnn] at hk
    have ek : q2b [110, 110] [a, b] = true := by rw [hkn]; simpa using hnn
    rw [ek, if_pos rfl] at hm
    have ra := (q0w oa).1 hnn.1
    have rb := (q0w ob).1 hnn.2
    rcases hop with rfl | rfl | rfl | rfl | rfl
    ·have q1 : (q0e 2 == [97, 100, 100]) = true := rfl
     have w1 : IntKind.i64.wrap (a.n + b.n) = a.n + b.n := wr64 (by omega) (by omega)
     simp only [t0, t1, t2, ek, hg', q1, w1, Int.toNat_zero, Int.toNat_one, q0a q5j rfl (q2p (a.n + b.n)), r51_0, tt, bb, bc, ↓bd, Nat.reduceEqDiff, ↓reduceIte, reduceCtorEq, Int.reduceLT, Int.reduceLE]
     refine q4m hm he ?_
     intro n2 A2 hm2 q1k hn2
     have q1t := hkp.trans hn q1k
     have hc2 := q0f hb q1t
     simp only [t6, hc2, z7k, tt, bb, bc, ↓bd, Nat.reduceEqDiff, Nat.reduceAdd, ↓reduceIte]
     exact q0r hb hm2 q1t (by omega) hk
    ·have q1 : (q0e 3 == [97, 100, 100]) = false := rfl
     have q2 : (q0e 3 == [115, 117, 98]) = true := rfl
     have w1 : IntKind.i64.wrap (a.n - b.n) = a.n - b.n := wr64 (by omega) (by omega)
     simp only [t0, t1, t2, ek, hg', q1, q2, w1, Int.toNat_zero, Int.toNat_one, q0a q5j rfl (q2p (a.n - b.n)), r51_0, tt, bb, bc, ↓bd, Nat.reduceEqDiff, ↓reduceIte, reduceCtorEq, Int.reduceLT, Int.reduceLE]
     refine q4m hm he ?_
     intro n2 A2 hm2 q1k hn2
     have q1t := hkp.trans hn q1k
     have hc2 := q0f hb q1t
     simp only [t6, hc2, z7k, tt, bb, bc, ↓bd, Nat.reduceEqDiff, Nat.reduceAdd, ↓reduceIte]
     exact q0r hb hm2 q1t (by omega) hk
    ·have q1 : (q0e 4 == [97, 100, 100]) = false := rfl
     have q2 : (q0e 4 == [115, 117, 98]) = false := rfl
     have q3 : (q0e 4 == [109, 117, 108]) = true := rfl
     have hov := y6h a.n b.n ra rb
     cases ho : ovM a.n b.n with
     | true =>
      rw [ho] at hov
      simp only [t0, t1, t2, ek, hg', q1, q2, q3, Int.toNat_zero, Int.toNat_one, q0a y1h rfl hov, r51_0, tt, bb, bc, ↓bd, Nat.reduceEqDiff, ↓reduceIte, reduceCtorEq, Int.reduceLT, Int.reduceLE]
      refine q1e hm ?_
      intro n2 A2 hm2 q1k hn2
      have q1t := hkp.trans hn q1k
      have hc2 := q0f hb q1t
      simp only [t6, hc2, z7k, tt, bb, bc, ↓bd, Nat.reduceEqDiff, Nat.reduceAdd, ↓reduceIte]
      have ef : q1v (z6p 4 a.n b.n) s = (zV, q1f 14 s) := by
       have e1 : z6p 4 a.n b.n = q9g (nV (a.n * b.n)) := rfl
       rw [e1]
       unfold q9g q1f
       rw [if_neg (by rw [y2f ho]; decide), if_pos he]; rfl
      rw [ef] at hk
      exact q0r hb hm2 q1t (by omega) hk
     | false =>
      rw [ho] at hov
      have mb := w5r ho
      have w1 : IntKind.i64.wrap (a.n * b.n) = a.n * b.n := wr64 (by omega) (by omega)
      simp only [t0, t1, t2, ek, hg', q1, q2, q3, w1, Int.toNat_zero, Int.toNat_one, q0a y1h rfl hov, q0a q5j rfl (q2p (a.n * b.n)), r51_0, tt, bb, bc, ↓bd, Nat.reduceEqDiff, ↓reduceIte, reduceCtorEq, Int.reduceLT, Int.reduceLE]
      refine q4m hm he ?_
      intro n2 A2 hm2 q1k hn2
      have q1t := hkp.trans hn q1k
      have hc2 := q0f hb q1t
      simp only [t6, hc2, z7k, tt, bb, bc, ↓bd, Nat.reduceEqDiff, Nat.reduceAdd, ↓reduceIte]
      exact q0r hb hm2 q1t (by omega) hk
    ·have q1 : (q0e 5 == [97, 100, 100]) = false := rfl
     have q2 : (q0e 5 == [115, 117, 98]) = false := rfl
     have q3 : (q0e 5 == [109, 117, 108]) = false := rfl
     have q4 : (q0e 5 == [109, 111, 100]) = false := rfl
     by_cases hb0 : b.n = 0
     ·have z0 : (b.n == 0) = true := by simp [hb0]
      simp only [t0, t1, t2, ek, hg', q1, q2, q3, z0, Int.toNat_zero, Int.toNat_one, xx, r51_0, tt, bb, bc, ↓bd, Nat.reduceEqDiff, ↓reduceIte, reduceCtorEq, Int.reduceLT, Int.reduceLE]
      refine q1e hm ?_
      intro n2 A2 hm2 q1k hn2
      have q1t := hkp.trans hn q1k
      have hc2 := q0f hb q1t
      simp only [t6, hc2, z7k, tt, bb, bc, ↓bd, Nat.reduceEqDiff, Nat.reduceAdd, ↓reduceIte]
      have ef : q1v (z6p 5 a.n b.n) s = (zV, q1f 16 s) := by
       have e1 : z6p 5 a.n b.n = if b.n = 0 then .bad 16 else q9g (nV (q3s a.n b.n).1) := rfl
       rw [e1, if_pos hb0]
       unfold q1f
       rw [if_pos he]; rfl
      rw [ef] at hk
      exact q0r hb hm2 q1t (by omega) hk
     ·have z0 : (b.n == 0) = false := by simp [hb0]
      simp only [t0, t1, t2, ek, hg', q1, q2, q3, q4, z0, Int.toNat_zero, Int.toNat_one, q0a y1i rfl (x5c a.n b.n hb0 ra rb), q0a q5j rfl (q2p (q3s a.n b.n).1), xx, r51_0, tt, bb, bc, ↓bd, Nat.reduceEqDiff, ↓reduceIte, reduceCtorEq, Int.reduceLT, Int.reduceLE]
      refine q4m hm he ?_
      intro n2 A2 hm2 q1k hn2
      have q1t := hkp.trans hn q1k
      have hc2 := q0f hb q1t
      simp only [t6, hc2, z7k, tt, bb, bc, ↓bd, Nat.reduceEqDiff, Nat.reduceAdd, ↓reduceIte]
      have e1 : z6p 5 a.n b.n = q9g (nV (q3s a.n b.n).1) := by
       have e1 : z6p 5 a.n b.n = if b.n = 0 then .bad 16 else q9g (nV (q3s a.n b.n).1) := rfl
       rw [e1, if_neg hb0]
      rw [e1] at hk
      exact q0r hb hm2 q1t (by omega) hk
    ·have q1 : (q0e 6 == [97, 100, 100]) = false := rfl
     have q2 : (q0e 6 == [115, 117, 98]) = false := rfl
     have q3 : (q0e 6 == [109, 117, 108]) = false := rfl
     have q4 : (q0e 6 == [109, 111, 100]) = true := rfl
     by_cases hb0 : b.n = 0
     ·have z0 : (b.n == 0) = true := by simp [hb0]
      simp only [t0, t1, t2, ek, hg', q1, q2, q3, z0, Int.toNat_zero, Int.toNat_one, xx, r51_0, tt, bb, bc, ↓bd, Nat.reduceEqDiff, ↓reduceIte, reduceCtorEq, Int.reduceLT, Int.reduceLE]
      refine q1e hm ?_
      intro n2 A2 hm2 q1k hn2
      have q1t := hkp.trans hn q1k
      have hc2 := q0f hb q1t
      simp only [t6, hc2, z7k, tt, bb, bc, ↓bd, Nat.reduceEqDiff, Nat.reduceAdd, ↓reduceIte]
      have ef : q1v (z6p 6 a.n b.n) s = (zV, q1f 16 s) := by
       have e1 : z6p 6 a.n b.n = if b.n = 0 then .bad 16 else .val (nV (q3s a.n b.n).2) := rfl
       rw [e1, if_pos hb0]
       unfold q1f
       rw [if_pos he]; rfl
      rw [ef] at hk
      exact q0r hb hm2 q1t (by omega) hk
     ·have z0 : (b.n == 0) = false := by simp [hb0]
      simp only [t1, t2, t6, ek, hg', hc, q1, q2, q3, q4, z0, Int.toNat_zero, Int.toNat_one, q0a y1i rfl (x5c a.n b.n hb0 ra rb), q0a q5j rfl (q2p (q3s a.n b.n).2), xx, r51_0, z7k, tt, bb, bc, ↓bd, Nat.reduceEqDiff, Nat.reduceAdd, ↓reduceIte, Int.reduceLT, Int.reduceLE]
      have e1 : z6p 6 a.n b.n = .val (nV (q3s a.n b.n).2) := by
       have e1 : z6p 6 a.n b.n = if b.n = 0 then .bad 16 else .val (nV (q3s a.n b.n).2) := rfl
       rw [e1, if_neg hb0]
      rw [e1] at hk
      exact q0r hb hm hkp hn hk
   ·rw [if_neg hnn] at hk
    have ek : q2b [110, 110] [a, b] = false := by rw [hkn]; simpa using hnn
    rw [ek, if_neg (by decide)] at hm
    simp only [t6, ek, hc, r51_0, z7k, tt, bb, bc, ↓bd, Nat.reduceEqDiff, Nat.reduceAdd, ↓reduceIte]
    have ef : q1v (.bad 13) s = (zV, q1f 13 s) := by unfold q1f; rw [if_pos he]; rfl
    rw [ef] at hk
    exact q0r hb hm hkp hn hk
  rcases hz with ⟨z1, z2⟩ | z1
  ·simp only [hg, gn, z1, z2, Int.toNat_zero, Int.toNat_one, r51_0.1, tt, bb, bc, ↓bd, Nat.reduceEqDiff, ↓reduceIte, reduceCtorEq, Int.reduceLT, Int.reduceLE]
   refine go ?_
   intro n' A' hm hkp hn
   refine rest n' A' _ hm hkp hn ?_ ?_ ?_ ?_
   all_goals simp only [q0b, q1g, qez, Nat.reduceEqDiff, ↓reduceIte]
  ·simp only [hg, gn, z1, Int.toNat_zero, r51_0.1, tt, bb, bc, ↓bd, Nat.reduceEqDiff, ↓reduceIte, reduceCtorEq, Int.reduceLT, Int.reduceLE]
   refine go ?_
   intro n' A' hm hkp hn
   refine rest n' A' _ hm hkp hn ?_ ?_ ?_ ?_
   all_goals simp only [q0b, q1g, qez, Nat.reduceEqDiff, ↓reduceIte]
end
section
variable {fn : FuncId} {T : Nat → AV} {ds : List ADef} {ro : Option Nat} {k : List AItem} {Q : AV → AHeap → Prop} {dst : Option Nat} {os : List AO}
theorem q6d {M : Mch} {n : Nat} {A : Nat → Blk} {s : St} {v : AV} {X : Blk} (h : MS M n A s)
  (hk : ∀ n' A', MS M n' A' s → Keep M.b n A A' → n ≤ n' → q0d Cx fn (putA T dst v) ds ro os k ⟨n', A'⟩ Q) : q0d Cx fn (putA T dst v) ds ro os k ⟨n + 1, upd (upd A n zB) n X⟩ Q :=
 q0r h.lt (h.up1 zB) (Keep.refl _ _ _) (Nat.le_refl _) hk
theorem z0e {M : Mch} {n g : Nat} {A : Nat → Blk} {s : St} {op : Int} {a b : Vl} (h : MS M n A s) (he : s.err = 0) (ha : AS M g n A [a, b]) (hop : op = 8 ∨ op = 12 ∨ op = 13)
  (hk : ∀ n' A', MS M n' A' (q1v (ap2 op a b s.out.length) s).2 → Keep M.b n A A' → n ≤ n' → q0d Cx fn (putA T dst (q1o (q1v (ap2 op a b s.out.length) s).1)) ds ro os k ⟨n', A'⟩ Q) :
  q0g Cx fn T ds ro 52 [.ptr M.b 22 0 0, .str (q0e op), .slc g 5 0 2] dst os k ⟨n, A⟩ Q := by
 refine q0s w1m (q0l _) w1l ?_
 have hb := h.lt
 have h2 := h.up1 zB
 have gl := ha.lt
 have gn : (g = n) = False := eq_false (by omega)
 have hg : A g = .cells 26 5 [[.int .i64 a.k, .int .i64 a.n, .str a.s, .int .i64 a.x, .int .i64 a.y], [.int .i64 b.k, .int .i64 b.n, .str b.s, .int .i64 b.x, .int .i64 b.y]] := ha.cell
 have eap : ap2 op a b s.out.length = (if a.k = b.k then (if op = 8 then .val (x1a (decide (z1j a b < 0))) else if op = 12 then .val (if 0 < z1j a b then a else b) else .val (if z1j a b ≤ 0 then a else b)) else .bad 13) := by
  unfold ap2
  rw [if_neg (by omega), if_neg (by omega), if_pos (by omega)]
 rw [eap] at hk
 by_cases hkk : a.k = b.k
 ·rw [if_pos hkk] at hk
  have z : (a.k != b.k) = false := by simp [hkk]
  have ho : q0k Cx 74 [.agg [.int .i64 a.k, .int .i64 a.n, .str a.s, .int .i64 a.x, .int .i64 a.y], .agg [.int .i64 b.k, .int .i64 b.n, .str b.s, .int .i64 b.x, .int .i64 b.y]] (.int .i64 (z1j a b)) := x8q a.k a.n a.s a.x a.y b.k b.n b.s b.x b.y
  rcases hop with rfl | rfl | rfl
  ·have q1 : (q0e 8 == [108, 101, 115, 115]) = true := rfl
   simp only [hg, gn, z, q1, Int.toNat_zero, Int.toNat_one, q0a j3q rfl ho, q0a x3l rfl (z2f (decide (z1j a b < 0))), r52_0, x0i, tt, bb, bc, ↓bd, Nat.reduceEqDiff, Nat.reduceAdd, ↓reduceIte, Int.reduceLT, Int.reduceLE]
   exact q6d h hk
  ·have q1 : (q0e 12 == [108, 101, 115, 115]) = false := rfl
   have q2 : (q0e 12 == [109, 97, 120]) = true := rfl
   have q3 : (q0e 12 == [109, 105, 110]) = false := rfl
   have e12 : (12 : Int) ≠ 8 := by decide
   rw [if_neg e12, if_pos rfl] at hk
   by_cases hc : 0 < z1j a b
   ·rw [if_pos hc] at hk
    simp only [hg, gn, z, q1, q2, hc, Int.toNat_zero, Int.toNat_one, q0a j3q rfl ho, r52_0, x0i, tt, bb, bc, ↓bd, Nat.reduceEqDiff, Nat.reduceAdd, ↓reduceIte, Int.reduceLT, Int.reduceLE]
    exact q6d h hk
   ·rw [if_neg hc] at hk
    simp only [hg, gn, z, q1, q2, q3, hc, Int.toNat_zero, Int.toNat_one, q0a j3q rfl ho, xx, r52_0, x0i, tt, bb, bc, ↓bd, Nat.reduceEqDiff, Nat.reduceAdd, ↓reduceIte, Int.reduceLT, Int.reduceLE]
    exact q6d h hk
  ·have q1 : (q0e 13 == [108, 101, 115, 115]) = false := rfl
   have q2 : (q0e 13 == [109, 97, 120]) = false := rfl
   have q3 : (q0e 13 == [109, 105, 110]) = true := rfl
   have e13 : (13 : Int) ≠ 8 := by decide
   have e13' : (13 : Int) ≠ 12 := by decide
   rw [if_neg e13, if_neg e13'] at hk
   by_cases hc : z1j a b ≤ 0
   ·rw [if_pos hc] at hk
    simp only [hg, gn, z, q1, q2, q3, hc, Int.toNat_zero, Int.toNat_one, q0a j3q rfl ho, r52_0, x0i, tt, bb, bc, ↓bd, Nat.reduceEqDiff, Nat.reduceAdd, ↓reduceIte, Int.reduceLT, Int.reduceLE]
    exact q6d h hk
   ·rw [if_neg hc] at hk
    simp only [hg, gn, z, q1, q2, q3, hc, Int.toNat_zero, Int.toNat_one, q0a j3q rfl ho, xx, r52_0, x0i, tt, bb, bc, ↓bd, Nat.reduceEqDiff, Nat.reduceAdd, ↓reduceIte, Int.reduceLT, Int.reduceLE]
    exact q6d h hk
 ·rw [if_neg hkk] at hk
  have z : (a.k != b.k) = true := by simpa using hkk
  simp only [hg, gn, z, Int.toNat_zero, Int.toNat_one, r52_0, tt, bb, bc, ↓bd, Nat.reduceEqDiff, ↓reduceIte, reduceCtorEq, Int.reduceLT, Int.reduceLE]
  refine q1e h2 ?_
  intro n' A' hm hkp hn
  have hc := q0f hb hkp
  simp only [hc, x0i, tt, bb, bc, ↓bd, Nat.reduceEqDiff, Nat.reduceAdd, ↓reduceIte]
  have ef : q1v (.bad 13) s = (zV, q1f 13 s) := by unfold q1f; rw [if_pos he]; rfl
  rw [ef] at hk
  exact q0r hb hm hkp hn hk
theorem x5d {a : Vl} (oa : okV a = true) : q2b [112] [a] = decide (a.k = 2) := by
 have e : q2b [112] [a] = ((kc a.k == 112) && true) := rfl
 rw [e]
 rcases q3r oa with ⟨h1, _⟩ | ⟨h1, _⟩ | ⟨h1, _⟩ <;> rw [h1] <;> rfl
theorem j0n {a : Vl} (oa : okV a = true) : q2b [110] [a] = decide (a.k = 0) := by
 have e : q2b [110] [a] = ((kc a.k == 110) && true) := rfl
 rw [e]
 rcases q3r oa with ⟨h1, _⟩ | ⟨h1, _⟩ | ⟨h1, _⟩ <;> rw [h1] <;> rfl
theorem y8d {a : Vl} (oa : okV a = true) : ∀ v, v ∈ [a] → okV v = true := by
 intro v hv
 simp only [List.mem_singleton] at hv
 rw [hv]; exact oa
theorem v0a {a b : Vl} (oa : okV a = true) (ob : okV b = true) : ∀ v, v ∈ [a, b] → okV v = true := by
 intro v hv
 simp only [List.mem_cons, List.not_mem_nil, or_false] at hv
 rcases hv with rfl | rfl <;> assumption
theorem vok3 {a b c : Vl} (oa : okV a = true) (ob : okV b = true) (oc : okV c = true) : ∀ v, v ∈ [a, b, c] → okV v = true := by
 intro v hv
 simp only [List.mem_cons, List.not_mem_nil, or_false] at hv
 rcases hv with rfl | rfl | rfl <;> assumption
theorem z6t {M : Mch} {n n' c : Nat} {A A' : Nat → Blk} {s' : St} {v : AV} {X Y : Blk} (hb : M.b < n) (hm : MS M n' A' s') (hkp : Keep M.b (n + 1) (upd A n zB) A') (hn : n + 1 ≤ n') (hc : n' ≤ c)
  (hk : ∀ n' A', MS M n' A' s' → Keep M.b n A A' → n ≤ n' → q0d Cx fn (putA T dst v) ds ro os k ⟨n', A'⟩ Q) : q0d Cx fn (putA T dst v) ds ro os k ⟨n' + 1, upd (upd A' n' Y) n X⟩ Q :=
 q0r hb (hm.up1 Y) (hkp.up1 (by omega) Y) (by omega) hk
theorem q8w {M : Mch} {n g : Nat} {A : Nat → Blk} {s : St} {op : Int} {a : Vl} (h : MS M n A s) (he : s.err = 0) (ha : AS M g n A [a]) (oa : okV a = true) (hop : op = 22 ∨ op = 23 ∨ op = 24 ∨ op = 25)
  (hk : ∀ n' A', MS M n' A' (q1v (ap1 op a) s).2 → Keep M.b n A A' → n ≤ n' → q0d Cx fn (putA T dst (q1o (q1v (ap1 op a) s).1)) ds ro os k ⟨n', A'⟩ Q) :
  q0g Cx fn T ds ro 54 [.ptr M.b 22 0 0, .str (q0e op), .slc g 5 0 1] dst os k ⟨n, A⟩ Q := by
 refine q0s w1q (q0l _) w1p ?_
 have hb := h.lt
 have h2 := h.up1 zB
 have ha2 := ha.up1 zB
 have eap : ap1 op a = (if a.k = 2 then (if op = 22 then .val (nV a.x) else if op = 23 then .val (nV a.y) else if op = 24 then .val (nV (a.x * a.x + a.y * a.y)) else .val (pV a.x (-a.y))) else .bad 13) := by
  unfold ap1
  rw [if_neg (by omega), if_neg (by omega), if_neg (by omega), if_neg (by omega), if_neg (by omega), if_neg (by omega)]
 rw [eap] at hk
 simp only [r54_0, tt, bb, bc, ↓bd, Nat.reduceEqDiff, ↓reduceIte, reduceCtorEq]
 refine q5a (want := [112]) (vs := [a]) h2 ha2 (y8d oa) rfl (by simp) ?_
 intro n' A' hm hkp hn
 have hc := q0f hb hkp
 have hg' : A' g = .cells 26 5 [[.int .i64 a.k, .int .i64 a.n, .str a.s, .int .i64 a.x, .int .i64 a.y]] := (ha2.keep hn hkp).cell
 have gl := ha.lt
 have g1 : (g = n') = False := eq_false (by omega)
 have g2 : (n = n') = False := eq_false (by omega)
 rw [x5d oa] at hm
 rw [x5d oa]
 by_cases k2 : a.k = 2
 ·rw [if_pos k2] at hk
  have ed : decide (a.k = 2) = true := by simp [k2]
  rw [ed, if_pos rfl] at hm
  rw [ed]
  obtain ⟨x0, y0⟩ := (q0w oa).2.2 k2
  have uu : ∀ (X Y : Blk), upd (upd A' n' X) n' Y = upd A' n' Y := fun X Y => z4f A' n' X Y
  rcases hop with rfl | rfl | rfl | rfl
  ·have q1 : (q0e 22 == [114, 101]) = true := rfl
   simp only [hc, hg', g2, uu, q1, Int.toNat_zero, q0a q5j rfl (q2p a.x), r54_0, x3i, tt, bb, bc, ↓bd, Nat.reduceEqDiff, Nat.reduceAdd, ↓reduceIte, Int.reduceLT, Int.reduceLE]
   exact z6t hb hm hkp hn (Nat.le_refl _) hk
  ·have q1 : (q0e 23 == [114, 101]) = false := rfl
   have q2 : (q0e 23 == [105, 109]) = true := rfl
   simp only [hc, hg', g2, uu, q1, q2, Int.toNat_zero, q0a q5j rfl (q2p a.y), r54_0, x3i, tt, bb, bc, ↓bd, Nat.reduceEqDiff, Nat.reduceAdd, ↓reduceIte, Int.reduceLT, Int.reduceLE]
   exact z6t hb hm hkp hn (Nat.le_refl _) hk
  ·have q1 : (q0e 24 == [114, 101]) = false := rfl
   have q2 : (q0e 24 == [105, 109]) = false := rfl
   have q3 : (q0e 24 == [110, 111, 114, 109]) = true := rfl
   have hN := Gs.Norm_ok a.x a.y
   rw [if_pos (show (Gs.inR a.x && Gs.inR a.y) = true by rw [show Gs.inR a.x = true from x0, show Gs.inR a.y = true from y0]; rfl)] at hN
   replace hN : q0k Cx 77 [.agg [.int .i64 a.x, .int .i64 a.y]] (.tuple [.int .i64 (a.x * a.x + a.y * a.y), .int .i64 0]) := hN
   simp only [hc, hg', g2, uu, q1, q2, q3, Int.toNat_zero, q0a w3c rfl hN, q0a q5j rfl (q2p (a.x * a.x + a.y * a.y)), r54_0, x3i, tt, bb, bc, ↓bd, Nat.reduceEqDiff, Nat.reduceAdd, ↓reduceIte, Int.reduceLT, Int.reduceLE]
   exact z6t hb hm hkp hn (Nat.le_refl _) hk
  ·have q1 : (q0e 25 == [114, 101]) = false := rfl
   have q2 : (q0e 25 == [105, 109]) = false := rfl
   have q3 : (q0e 25 == [110, 111, 114, 109]) = false := rfl
   have hN := Gs.Conj_ok a.x a.y
   rw [if_pos (show (Gs.inR a.x && Gs.inR a.y) = true by rw [show Gs.inR a.x = true from x0, show Gs.inR a.y = true from y0]; rfl)] at hN
   replace hN : q0k Cx 79 [.agg [.int .i64 a.x, .int .i64 a.y]] (.tuple [.agg [.int .i64 a.x, .int .i64 (0 - a.y)], .int .i64 0]) := hN
   rw [Int.zero_sub] at hN
   simp only [hg', uu, q1, q2, q3, Int.toNat_zero, q0a w3i rfl hN, xx, r54_0, tt, bb, bc, ↓bd, Nat.reduceEqDiff, Nat.reduceAdd, ↓reduceIte, reduceCtorEq, Int.reduceLT, Int.reduceLE]
   refine q4z (r := .val (pV a.x (-a.y))) (hm.up1 _) he (.inl ⟨rfl, rfl⟩) ?_
   intro n2 A2 hm2 q1k hn2
   have q1t := (hkp.up1 hn (.cells 24 2 [[.int .i64 a.x, .int .i64 a.y]])).trans (by omega) q1k
   have hc2 := q0f hb q1t
   simp only [hc2, x3i, tt, bb, bc, ↓bd, Nat.reduceEqDiff, Nat.reduceAdd, ↓reduceIte]
   exact q0r hb hm2 q1t (by omega) hk
 ·rw [if_neg k2] at hk
  have ed : decide (a.k = 2) = false := by simp [k2]
  rw [ed, if_neg (by decide)] at hm
  rw [ed]
  simp only [hc, x3i, tt, bb, bc, ↓bd, Nat.reduceEqDiff, Nat.reduceAdd, ↓reduceIte]
  have ef : q1v (.bad 13) s = (zV, q1f 13 s) := by unfold q1f; rw [if_pos he]; rfl
  rw [ef] at hk
  exact q0r hb hm hkp hn hk
end
theorem psl' : x6q Cx 31 49 := ⟨_, y4a, rfl⟩
theorem pti' : ∃ ti, Cx.TT 49 = some ti ∧ ti.size = 6 ∧ ti.bytes = 64 := ⟨_, y4c, rfl, rfl⟩
theorem Ow.app1 {d : AV} {n : Nat} {A : Nat → Blk} {l : List Pr} (h : Ow d n A l) (p : Pr) (hl : l.length ≤ 64) :
  ∃ A', q1n Cx ⟨n + 1, upd A n (.cells 49 6 [[.str p.key, .int .i64 p.k, .int .i64 p.n, .str p.s, .int .i64 p.x, .int .i64 p.y]])⟩ .append [31, 31] [d, .slc n 6 0 1] = some (.slc (n + 1) 6 0 (l.length + 1), ⟨n + 1 + 1, A'⟩) ∧
   Ow (.slc (n + 1) 6 0 (l.length + 1)) (n + 1 + 1) A' (l ++ [p]) ∧ (∀ c, c < n → ¬ x0s (A c) → A' c = A c) := by
 rcases h with ⟨rfl, rfl⟩ | ⟨g, rfl, g1, g2⟩
 ·refine ⟨_, j6b psl' pti' (by decide), .inr ⟨n + 1, by simp, by omega, by rw [q0b, if_pos rfl]; rfl⟩, fun c hc _ => ?_⟩
  rw [q0b, if_neg (by omega), q0b, if_neg (by omega)]
 ·have e := q7y (C := Cx) (g := g) (n := n) (A := A) (es := l.map j0z) (row := [.str p.key, .int .i64 p.k, .int .i64 p.n, .str p.s, .int .i64 p.x, .int .i64 p.y]) psl' pti' g2 (by omega) (by rw [List.length_map]; unfold q2m; omega) (by rw [List.length_map]; unfold q2m; omega)
  rw [List.length_map] at e
  refine ⟨_, e, .inr ⟨n + 1, by simp, by omega, by rw [q0b, if_pos rfl, List.map_append]; rfl⟩, fun c hc hp => ?_⟩
  have : c ≠ g := by rintro rfl; rw [g2] at hp; exact hp rfl
  rw [q0b, if_neg (by omega), q0b, if_neg this, q0b, if_neg (by omega)]
section
variable {fn : FuncId} {T : Nat → AV} {ds : List ADef} {ro : Option Nat} {k : List AItem} {Q : AV → AHeap → Prop} {dst : Option Nat} {os : List AO}
theorem q0m {e : Int} {s : St} (he : s.err = 0) : q1v (.bad e) s = (zV, q1f e s) := by unfold q1f; rw [if_pos he]; rfl
theorem x5e {M : Mch} {n g : Nat} {A : Nat → Blk} {s : St} {a b : Vl} (h : MS M n A s) (he : s.err = 0) (ha : AS M g n A [a, b]) (ho : s.out.length ≤ 64)
  (hk : ∀ n' A', MS M n' A' (q1v (ap2 26 a b s.out.length) s).2 → Keep M.b n A A' → n ≤ n' → q0d Cx fn (putA T dst (q1o (q1v (ap2 26 a b s.out.length) s).1)) ds ro os k ⟨n', A'⟩ Q) :
  q0g Cx fn T ds ro 81 [.ptr M.b 22 0 0, .slc g 5 0 2] dst os k ⟨n, A⟩ Q := by
 refine q0s w3m (q0l _) w3l ?_
 have hb := h.lt
 have h2 := h.up1 zB
 have ha2 := ha.up1 zB
 have gl := ha.lt
 have gn : (g = n) = False := eq_false (by omega)
 have bn : (M.b = n) = False := eq_false (by omega)
 have nb : (n = M.b) = False := eq_false (by omega)
 have hg : A g = .cells 26 5 [[.int .i64 a.k, .int .i64 a.n, .str a.s, .int .i64 a.x, .int .i64 a.y], [.int .i64 b.k, .int .i64 b.n, .str b.s, .int .i64 b.x, .int .i64 b.y]] := ha.cell
 have eap : ap2 26 a b s.out.length = (if a.k = 1 then (if a.s.length ≤ 64 then (if s.out.length = 64 then .bad 22 else .out (x4n a.s b) b) else .bad 3) else .bad 13) := rfl
 rw [eap] at hk
 have fail : ∀ (e : Int) (hk : ∀ n' A', MS M n' A' (q1f e s) → Keep M.b n A A' → n ≤ n' → q0d Cx fn (putA T dst (q1o zV)) ds ro os k ⟨n', A'⟩ Q), ∀ n' A', MS M n' A' (q1f e s) → Keep M.b (n + 1) (upd A n zB) A' → n + 1 ≤ n' → ∀ X, q0d Cx fn (putA T dst (q1o zV)) ds ro os k ⟨n', upd A' n X⟩ Q :=
  fun e hk n' A' hm hkp hn X => q0r hb hm hkp hn hk
 by_cases k1 : a.k = 1
 ·rw [if_pos k1] at hk
  have z1 : (a.k != 1) = false := by simp [k1]
  by_cases hl : a.s.length ≤ 64
  ·rw [if_pos hl] at hk
   have z2 : ¬ (64 : Int) < (a.s.length : Int) := by omega
   have h2' := h2
   obtain ⟨hb2, o, hA, how⟩ := h2
   have hA' : A M.b = .cells 58 22 [[M.L, M.F, .str M.E.key, .int .i64 M.E.val.k, .int .i64 M.E.val.n, .str M.E.val.s, .int .i64 M.E.val.x, .int .i64 M.E.val.y, .int .i64 M.E.acc.k, .int .i64 M.E.acc.n, .str M.E.acc.s, .int .i64 M.E.acc.x, .int .i64 M.E.acc.y, .int .i64 s.i, .int .i64 s.it.k, .int .i64 s.it.n, .str s.it.s, .int .i64 s.it.x, .int .i64 s.it.y, o, .int .i64 (s.left : Int), .int .i64 s.err]] := by
    rw [q0b, if_neg (by omega)] at hA; exact hA
   have hlo := how.lenOf
   simp only [BX.lenOf] at hlo
   by_cases hm64 : s.out.length = 64
   ·rw [if_pos hm64, q0m he] at hk
    have z3 : ((s.out.length : Int) == 64) = true := by simp; omega
    simp only [hA', hg, gn, bn, z1, z2, z3, hlo, i64, Int.toNat_zero, r81_0, tt, bb, bc, ↓bd, Nat.reduceEqDiff, ↓reduceIte, reduceCtorEq, Int.reduceLT, Int.reduceLE]
    refine q1e h2' ?_
    intro n' A' hm hkp hn
    have hc := q0f hb hkp
    simp only [hc, x8k, tt, bb, bc, ↓bd, Nat.reduceEqDiff, Nat.reduceAdd, ↓reduceIte]
    exact fail _ hk n' A' hm hkp hn _
   ·rw [if_neg hm64] at hk
    have z3 : ((s.out.length : Int) == 64) = false := by simp; omega
    obtain ⟨A3, x1d, how3, hkeep⟩ := how.app1 (x4n a.s b) ho
    have hA3 : A3 M.b = .cells 58 22 [[M.L, M.F, .str M.E.key, .int .i64 M.E.val.k, .int .i64 M.E.val.n, .str M.E.val.s, .int .i64 M.E.val.x, .int .i64 M.E.val.y, .int .i64 M.E.acc.k, .int .i64 M.E.acc.n, .str M.E.acc.s, .int .i64 M.E.acc.x, .int .i64 M.E.acc.y, .int .i64 s.i, .int .i64 s.it.k, .int .i64 s.it.n, .str s.it.s, .int .i64 s.it.x, .int .i64 s.it.y, o, .int .i64 (s.left : Int), .int .i64 s.err]] := by
     rw [hkeep M.b (by omega) (x4z h2')]; exact hA
    have hg3 : A3 g = .cells 26 5 [[.int .i64 a.k, .int .i64 a.n, .str a.s, .int .i64 a.x, .int .i64 a.y], [.int .i64 b.k, .int .i64 b.n, .str b.s, .int .i64 b.x, .int .i64 b.y]] := by
     rw [hkeep g (by omega) (by rw [ha2.cell]; exact q3j)]; exact ha2.cell
    have hc3 : A3 n = .cells 26 5 [[.int .i64 0, .int .i64 0, .str [], .int .i64 0, .int .i64 0]] := by
     rw [hkeep n (by omega) (by rw [q0b, if_pos rfl]; exact q3j), q0b, if_pos rfl]
    have gb : (g = M.b) = False := eq_false ha.ne
    simp only [hA', hg, gn, gb, bn, nb, z1, z2, z3, hlo, x1d, hA3, hg3, hc3, i64, q0i, Int.toNat_zero, Int.toNat_one, xx, r81_0, x8k, tt, bb, bc, ↓bd, Nat.reduceEqDiff, Nat.reduceAdd, Nat.reduceMul, Nat.reduceLeDiff, ↓reduceIte, reduceCtorEq, Int.reduceLT, Int.reduceLE, List.reduceReplicate]
    have hpl := how3.plain
    simp only [AV.plain] at hpl
    refine hk (n + 1 + 1 + 1) _ ⟨by omega, .slc (n + 1 + 1) 6 0 (s.out.length + 1), ?_, ?_⟩ (fun c hc hcb hcp => ?_) (by omega)
    ·simp only [q0b, bn, ↓reduceIte]
     rfl
    ·refine how3.keep (Nat.le_refl _) fun z hz hzp => ?_
     have z1 : z ≠ M.b := by rintro rfl; rw [hA3] at hzp; cases hzp
     have z2 : z ≠ n := by rintro rfl; rw [hc3] at hzp; cases hzp
     rw [q0b, if_neg z2, q0b, if_neg z1]
    ·have cn : c ≠ n := by omega
     rw [q0b, if_neg cn, q0b, if_neg hcb, hkeep c (by omega) (by rw [q0b, if_neg cn]; exact hcp), q0b, if_neg cn]
  ·rw [if_neg hl, q0m he] at hk
   have z2 : (64 : Int) < (a.s.length : Int) := by omega
   simp only [hg, gn, z1, z2, i64, Int.toNat_zero, r81_0, tt, bb, bc, ↓bd, Nat.reduceEqDiff, ↓reduceIte, reduceCtorEq, Int.reduceLT, Int.reduceLE]
   refine q1e h2 ?_
   intro n' A' hm hkp hn
   have hc := q0f hb hkp
   simp only [hc, x8k, tt, bb, bc, ↓bd, Nat.reduceEqDiff, Nat.reduceAdd, ↓reduceIte]
   exact fail _ hk n' A' hm hkp hn _
 ·rw [if_neg k1, q0m he] at hk
  have z1 : (a.k != 1) = true := by simpa using k1
  simp only [hg, gn, z1, Int.toNat_zero, r81_0, tt, bb, bc, ↓bd, Nat.reduceEqDiff, ↓reduceIte, reduceCtorEq, Int.reduceLT, Int.reduceLE]
  refine q1e h2 ?_
  intro n' A' hm hkp hn
  have hc := q0f hb hkp
  simp only [hc, x8k, tt, bb, bc, ↓bd, Nat.reduceEqDiff, Nat.reduceAdd, ↓reduceIte]
  exact fail _ hk n' A' hm hkp hn _
theorem y6i (x y : Int) : okV (pV x y) = (inR x && inR y) := by
 unfold okV q1j
 simp
theorem z9b (x y : Int) : q9g (pV x y) = z7m x y := by
 unfold q9g z7m
 rw [y6i]
theorem j0o (a b : Vl) : ((a.k == b.k) && ((a.n == b.n) && ((a.s == b.s) && ((a.x == b.x) && (a.y == b.y))))) = (z1j a b == 0) := x8r a.k a.n a.s a.x a.y b.k b.n b.s b.x b.y
theorem q5x {M : Mch} {n g : Nat} {A : Nat → Blk} {s : St} {op : Int} {a b : Vl} (h : MS M n A s) (he : s.err = 0) (ha : AS M g n A [a, b]) (oa : okV a = true) (ob : okV b = true) (ho : s.out.length ≤ 64) (hop : op = 9 ∨ op = 21 ∨ op = 26 ∨ op = 27)
  (hk : ∀ n' A', MS M n' A' (q1v (ap2 op a b s.out.length) s).2 → Keep M.b n A A' → n ≤ n' → q0d Cx fn (putA T dst (q1o (q1v (ap2 op a b s.out.length) s).1)) ds ro os k ⟨n', A'⟩ Q) :
  q0g Cx fn T ds ro 55 [.ptr M.b 22 0 0, .str (q0e op), .slc g 5 0 2] dst os k ⟨n, A⟩ Q := by
 refine q0s y1d (q0l _) y1c ?_
 have hb := h.lt
 have h2 := h.up1 zB
 have ha2 := ha.up1 zB
 have gl := ha.lt
 have gn : (g = n) = False := eq_false (by omega)
 have hg : A g = .cells 26 5 [[.int .i64 a.k, .int .i64 a.n, .str a.s, .int .i64 a.x, .int .i64 a.y], [.int .i64 b.k, .int .i64 b.n, .str b.s, .int .i64 b.x, .int .i64 b.y]] := ha.cell
 rcases hop with rfl | rfl | rfl | rfl
 ·have eap : ap2 9 a b s.out.length = .val (x1a (z1j a b == 0)) := rfl
  rw [eap] at hk
  have q1 : (q0e 9 == [115, 97, 109, 101]) = true := rfl
  simp only [hg, gn, q1, j0o, Int.toNat_zero, Int.toNat_one, q0a x3l rfl (z2f (z1j a b == 0)), r55_0, z3m, tt, bb, bc, ↓bd, Nat.reduceEqDiff, Nat.reduceAdd, ↓reduceIte, Int.reduceLT, Int.reduceLE]
  exact q6d h hk
 ·have eap : ap2 21 a b s.out.length = if a.k = 0 ∧ b.k = 0 then z7m a.n b.n else .bad 13 := rfl
  rw [eap] at hk
  have q1 : (q0e 21 == [115, 97, 109, 101]) = false := rfl
  have q2 : (q0e 21 == [116, 104, 101, 110]) = false := rfl
  have q3 : (q0e 21 == [116, 101, 120, 116]) = false := rfl
  have q4 : (q0e 21 == [101, 109, 105, 116]) = false := rfl
  have q5 : (q0e 21 == [110, 111, 116]) = false := rfl
  have q6 : (q0e 21 == [97, 116]) = true := rfl
  simp only [q1, q2, q3, q4, q5, q6, r55_0, tt, bb, bc, ↓bd, Nat.reduceEqDiff, ↓reduceIte, reduceCtorEq]
  refine q5a (want := [110, 110]) (vs := [a, b]) h2 ha2 (v0a oa ob) rfl (by simp) ?_
  intro n' A' hm hkp hn
  have hc := q0f hb hkp
  have hg' : A' g = .cells 26 5 [[.int .i64 a.k, .int .i64 a.n, .str a.s, .int .i64 a.x, .int .i64 a.y], [.int .i64 b.k, .int .i64 b.n, .str b.s, .int .i64 b.x, .int .i64 b.y]] := (ha2.keep hn hkp).cell
  rw [j0m oa ob] at hm
  rw [j0m oa ob]
  by_cases hnn : a.k = 0 ∧ b.k = 0
  ·rw [if_pos hnn] at hk
   have ed : decide (a.k = 0 ∧ b.k = 0) = true := by simpa using hnn
   rw [ed, if_pos rfl] at hm
   rw [ed]
   simp only [hg', Int.toNat_zero, Int.toNat_one, q0a x3m rfl (z2e a.n b.n), tt, bb, bc, ↓bd, Nat.reduceEqDiff, Nat.reduceAdd, Nat.reduceLeDiff, ↓reduceIte, reduceCtorEq, Int.reduceLT, Int.reduceLE]
   refine q4m hm he ?_
   intro n2 A2 hm2 q1k hn2
   rw [z9b] at hm2
   rw [z9b]
   have q1t := hkp.trans hn q1k
   have hc2 := q0f hb q1t
   simp only [hc2, z3m, tt, bb, bc, ↓bd, Nat.reduceEqDiff, Nat.reduceAdd, ↓reduceIte]
   exact q0r hb hm2 q1t (by omega) hk
  ·rw [if_neg hnn, q0m he] at hk
   have ed : decide (a.k = 0 ∧ b.k = 0) = false := by simpa using hnn
   rw [ed, if_neg (by decide)] at hm
   rw [ed]
   simp only [hc, z3m, tt, bb, bc, ↓bd, Nat.reduceEqDiff, Nat.reduceAdd, ↓reduceIte]
   exact q0r hb hm hkp hn hk
 ·have q1 : (q0e 26 == [115, 97, 109, 101]) = false := rfl
  have q2 : (q0e 26 == [116, 104, 101, 110]) = false := rfl
  have q3 : (q0e 26 == [116, 101, 120, 116]) = false := rfl
  have q4 : (q0e 26 == [101, 109, 105, 116]) = true := rfl
  simp only [q1, q2, q3, q4, r55_0, tt, bb, bc, ↓bd, Nat.reduceEqDiff, ↓reduceIte, reduceCtorEq]
  refine x5e h2 he ha2 ho ?_
  intro n' A' hm hkp hn
  have hc := q0f hb hkp
  simp only [hc, z3m, tt, bb, bc, ↓bd, Nat.reduceEqDiff, Nat.reduceAdd, ↓reduceIte]
  exact q0r hb hm hkp hn hk
 ·have eap : ap2 27 a b s.out.length = .val b := rfl
  rw [eap] at hk
  have q1 : (q0e 27 == [115, 97, 109, 101]) = false := rfl
  have q2 : (q0e 27 == [116, 104, 101, 110]) = true := rfl
  simp only [hg, gn, q1, q2, Int.toNat_one, r55_0, z3m, tt, bb, bc, ↓bd, Nat.reduceEqDiff, Nat.reduceAdd, ↓reduceIte, Int.reduceLT, Int.reduceLE]
  exact q6d h hk
theorem q8f {M : Mch} {n g : Nat} {A : Nat → Blk} {s : St} {op : Int} {a : Vl} (h : MS M n A s) (he : s.err = 0) (ha : AS M g n A [a]) (oa : okV a = true) (hop : op = 7 ∨ op = 10 ∨ op = 20)
  (hk : ∀ n' A', MS M n' A' (q1v (ap1 op a) s).2 → Keep M.b n A A' → n ≤ n' → q0d Cx fn (putA T dst (q1o (q1v (ap1 op a) s).1)) ds ro os k ⟨n', A'⟩ Q) :
  q0g Cx fn T ds ro 55 [.ptr M.b 22 0 0, .str (q0e op), .slc g 5 0 1] dst os k ⟨n, A⟩ Q := by
 refine q0s y1d (q0l _) y1c ?_
 have hb := h.lt
 have h2 := h.up1 zB
 have ha2 := ha.up1 zB
 have gl := ha.lt
 have gn : (g = n) = False := eq_false (by omega)
 have hg : A g = .cells 26 5 [[.int .i64 a.k, .int .i64 a.n, .str a.s, .int .i64 a.x, .int .i64 a.y]] := ha.cell
 rcases hop with rfl | rfl | rfl
 ·have eap : ap1 7 a = (if a.k = 2 then .val (pV (-a.x) (-a.y)) else if a.k = 0 then .val (nV (-a.n)) else .bad 13) := rfl
  rw [eap] at hk
  by_cases k2 : a.k = 2
  ·rw [if_pos k2] at hk
   have z : (a.k == 2) = true := by simp [k2]
   obtain ⟨x0, y0⟩ := (q0w oa).2.2 k2
   have hx := inR_iff.mp x0
   have hy := inR_iff.mp y0
   have w1 : IntKind.i64.wrap (0 - a.x) = -a.x := by rw [wr64 (by omega) (by omega)]; omega
   have w2 : IntKind.i64.wrap (0 - a.y) = -a.y := by rw [wr64 (by omega) (by omega)]; omega
   simp only [hg, gn, wq7, z, w1, w2, Int.toNat_zero, q0a x3m rfl (z2e (-a.x) (-a.y)), xx, r55_0, z3m, tt, bb, bc, ↓bd, Nat.reduceEqDiff, Nat.reduceAdd, Nat.reduceLeDiff, ↓reduceIte, Int.reduceLT, Int.reduceLE]
   exact q6d h hk
  ·rw [if_neg k2] at hk
   have z : (a.k == 2) = false := by simp [k2]
   simp only [hg, gn, wq7, z, Int.toNat_zero, xx, r55_0, tt, bb, bc, ↓bd, Nat.reduceEqDiff, ↓reduceIte, reduceCtorEq, Int.reduceLT, Int.reduceLE]
   refine q5a (want := [110]) (vs := [a]) h2 ha2 (y8d oa) rfl (by simp) ?_
   intro n' A' hm hkp hn
   have hc := q0f hb hkp
   have hg' : A' g = .cells 26 5 [[.int .i64 a.k, .int .i64 a.n, .str a.s, .int .i64 a.x, .int .i64 a.y]] := (ha2.keep hn hkp).cell
   rw [j0n oa] at hm
   rw [j0n oa]
   by_cases k0 : a.k = 0
   ·rw [if_pos k0] at hk
    have ed : decide (a.k = 0) = true := by simpa using k0
    rw [ed, if_pos rfl] at hm
    rw [ed]
    have r0 := (q0w oa).1 k0
    have w1 : IntKind.i64.wrap (0 - a.n) = -a.n := by rw [wr64 (by omega) (by omega)]; omega
    simp only [hc, hg', w1, Int.toNat_zero, q0a q5j rfl (q2p (-a.n)), z3m, tt, bb, bc, ↓bd, Nat.reduceEqDiff, Nat.reduceAdd, ↓reduceIte, Int.reduceLT, Int.reduceLE]
    exact q0r hb hm hkp hn hk
   ·rw [if_neg k0, q0m he] at hk
    have ed : decide (a.k = 0) = false := by simpa using k0
    rw [ed, if_neg (by decide)] at hm
    rw [ed]
    simp only [hc, z3m, tt, bb, bc, ↓bd, Nat.reduceEqDiff, Nat.reduceAdd, ↓reduceIte]
    exact q0r hb hm hkp hn hk
 ·have eap : ap1 10 a = (if a.k = 0 then .val (x1a (a.n == 0)) else .bad 13) := rfl
  rw [eap] at hk
  simp only [wq10, r55_0, tt, bb, bc, ↓bd, Nat.reduceEqDiff, ↓reduceIte, reduceCtorEq]
  refine q5a (want := [110]) (vs := [a]) h2 ha2 (y8d oa) rfl (by simp) ?_
  intro n' A' hm hkp hn
  have hc := q0f hb hkp
  have hg' : A' g = .cells 26 5 [[.int .i64 a.k, .int .i64 a.n, .str a.s, .int .i64 a.x, .int .i64 a.y]] := (ha2.keep hn hkp).cell
  rw [j0n oa] at hm
  rw [j0n oa]
  by_cases k0 : a.k = 0
  ·rw [if_pos k0] at hk
   have ed : decide (a.k = 0) = true := by simpa using k0
   rw [ed, if_pos rfl] at hm
   rw [ed]
   simp only [hc, hg', Int.toNat_zero, q0a x3l rfl (z2f (a.n == 0)), z3m, tt, bb, bc, ↓bd, Nat.reduceEqDiff, Nat.reduceAdd, ↓reduceIte, Int.reduceLT, Int.reduceLE]
   exact q0r hb hm hkp hn hk
  ·rw [if_neg k0, q0m he] at hk
   have ed : decide (a.k = 0) = false := by simpa using k0
   rw [ed, if_neg (by decide)] at hm
   rw [ed]
   simp only [hc, z3m, tt, bb, bc, ↓bd, Nat.reduceEqDiff, Nat.reduceAdd, ↓reduceIte]
   exact q0r hb hm hkp hn hk
 ·have eap : ap1 20 a = (if a.k = 1 then .val a else .val (tV (q6p a.k a.n a.s a.x a.y))) := rfl
  rw [eap] at hk
  by_cases k1 : a.k = 1
  ·rw [if_pos k1] at hk
   have z : (a.k == 1) = true := by simp [k1]
   simp only [hg, gn, w7y, z, Int.toNat_zero, r55_0, z3m, tt, bb, bc, ↓bd, Nat.reduceEqDiff, Nat.reduceAdd, ↓reduceIte, Int.reduceLT, Int.reduceLE]
   exact q6d h hk
  ·rw [if_neg k1] at hk
   have z : (a.k == 1) = false := by simp [k1]
   have hw := x8s (show q1j a.k a.n a.s a.x a.y = true from oa)
   simp only [hg, gn, w7y, z, Int.toNat_zero, q0a w3k rfl hw, q0a j3n rfl (q8d (q6p a.k a.n a.s a.x a.y)), r55_0, z3m, tt, bb, bc, ↓bd, Nat.reduceEqDiff, Nat.reduceAdd, ↓reduceIte, Int.reduceLT, Int.reduceLE]
   exact q6d h hk
end
theorem j8n {s : Bytes} {p : Nat} {c : UInt8} (h : s[p]? = some c) : (⟨s.toArray⟩ : ByteArray).get! p = c := by
 show s.toArray[p]! = c
 obtain ⟨h1, h2⟩ := List.getElem?_eq_some_iff.mp h
 simp [h1, h2]
theorem j4b {s : Bytes} {p : Nat} {c : UInt8} (h : s[p]? = some c) (hc : c.toNat < 128) : Utf8.decode ⟨s.toArray⟩ p = (c.toNat, 1) := by
 unfold Utf8.decode
 simp only [Nat.add_zero, j8n h]
 rw [if_pos hc]
theorem x9i {s : Bytes} {p : Nat} {c : UInt8} (h : s[p]? = some c) (hc : 128 ≤ c.toNat) : 128 ≤ (Utf8.decode ⟨s.toArray⟩ p).1 := by
 unfold Utf8.decode
 simp only [Nat.add_zero, j8n h]
 rw [if_neg (by omega)]
 split
 ·split
  ·rename_i h; exact h
  ·decide
 ·split
  ·split
   ·rename_i h; simp only [ge_iff_le, Bool.and_eq_true, decide_eq_true_eq] at h; omega
   ·decide
  ·split
   ·split
    ·rename_i h; simp only [ge_iff_le, Bool.and_eq_true, decide_eq_true_eq] at h; omega
    ·decide
   ·decide
def lt (c : UInt8) : Bool := decide (97 ≤ (c.toNat : Int)) && decide ((c.toNat : Int) ≤ 122)
def sp (c : UInt8) : Bool := c == 32
theorem z2g {s : Bytes} {p k : Nat} (h : (decide (p + k < (⟨s.toArray⟩ : ByteArray).size) && (((⟨s.toArray⟩ : ByteArray).get! (p + k)).toNat / 64 == 2)) = true) : ∃ x, s[p + k]? = some x ∧ x ≠ 32 ∧ p + k < s.length := by
 rw [Bool.and_eq_true, decide_eq_true_eq, beq_iff_eq] at h
 obtain ⟨h1, h2⟩ := h
 have hl : p + k < s.length := h1
 have hg : s[p + k]? = some s[p + k] := List.getElem?_eq_getElem hl
 refine ⟨_, hg, ?_, hl⟩
 rw [j8n hg] at h2
 intro e
 rw [e] at h2
 cases h2
theorem v0b {s : Bytes} {p : Nat} {c : UInt8} (h : s[p]? = some c) (hc : 128 ≤ c.toNat) : 1 ≤ (Utf8.decode ⟨s.toArray⟩ p).2 ∧ p + (Utf8.decode ⟨s.toArray⟩ p).2 ≤ s.length ∧ ∀ j, 1 ≤ j → j < (Utf8.decode ⟨s.toArray⟩ p).2 → ∃ x, s[p + j]? = some x ∧ x ≠ 32 := by
 have hp : p < s.length := (List.getElem?_eq_some_iff.mp h).1
 have one : 1 ≤ 1 ∧ p + 1 ≤ s.length ∧ ∀ j, 1 ≤ j → j < 1 → ∃ x, s[p + j]? = some x ∧ x ≠ 32 := ⟨Nat.le_refl _, by omega, fun j h1 h2 => by omega⟩
 unfold Utf8.decode
 simp only [Nat.add_zero, j8n h]
 rw [if_neg (by omega)]
 split
 ·rename_i h1
  rw [Bool.and_eq_true] at h1
  obtain ⟨x1, e1, n1, l1⟩ := z2g h1.2
  split
  ·refine ⟨by omega, by show p + 2 ≤ _; omega, fun j a b => ?_⟩
   have b' : j < 2 := b
   have : j = 1 := by omega
   subst this
   exact ⟨x1, e1, n1⟩
  ·exact one
 ·split
  ·rename_i h1
   rw [Bool.and_eq_true, Bool.and_eq_true] at h1
   obtain ⟨x1, e1, n1, l1⟩ := z2g h1.1.2
   obtain ⟨x2, e2, n2, l2⟩ := z2g h1.2
   split
   ·refine ⟨by omega, by show p + 3 ≤ _; omega, fun j a b => ?_⟩
    have b' : j < 3 := b
    have : j = 1 ∨ j = 2 := by omega
    rcases this with rfl | rfl
    ·exact ⟨x1, e1, n1⟩
    ·exact ⟨x2, e2, n2⟩
   ·exact one
  ·split
   ·rename_i h1
    rw [Bool.and_eq_true, Bool.and_eq_true, Bool.and_eq_true] at h1
    obtain ⟨x1, e1, n1, l1⟩ := z2g h1.1.1.2
    obtain ⟨x2, e2, n2, l2⟩ := z2g h1.1.2
    obtain ⟨x3, e3, n3, l3⟩ := z2g h1.2
    split
    ·refine ⟨by omega, by show p + 4 ≤ _; omega, fun j a b => ?_⟩
     have b' : j < 4 := b
     have : j = 1 ∨ j = 2 ∨ j = 3 := by omega
     rcases this with rfl | rfl | rfl
     ·exact ⟨x1, e1, n1⟩
     ·exact ⟨x2, e2, n2⟩
     ·exact ⟨x3, e3, n3⟩
    ·exact one
   ·exact one
def spF : Bytes → Nat → Option Nat → List (Nat × Nat)
 | [], _, none => []
 | [], p, some b => [(b, p)]
 | c :: r, p, none => if c = 32 then spF r (p + 1) none else spF r (p + 1) (some p)
 | c :: r, p, some b => if c = 32 then (b, p) :: spF r (p + 1) none else spF r (p + 1) (some b)
theorem j0p {b : Nat} : ∀ (l r : Bytes) (p : Nat), (∀ x, x ∈ l → x ≠ 32) → spF (l ++ r) p (some b) = spF r (p + l.length) (some b)
 | [], r, p, h => rfl
 | c :: l, r, p, h => by
  have hc := h c (by simp)
  show (if c = 32 then (b, p) :: spF (l ++ r) (p + 1) none else spF (l ++ r) (p + 1) (some b)) = _
  rw [if_neg hc, j0p l r (p + 1) (fun x hx => h x (by simp [hx])), List.length_cons]
  congr 1
  omega
theorem x5f : ∀ (r : Bytes) (p : Nat) (st : Option Nat), (∀ b, st = some b → b < p) → ∀ q, q ∈ spF r p st → q.1 < q.2 ∧ q.2 ≤ p + r.length
 | [], p, none, hb, q, hq => by cases hq
 | [], p, some b, hb, q, hq => by
  have : q = (b, p) := by simpa [spF] using hq
  subst this
  exact ⟨hb b rfl, by simp⟩
 | c :: r, p, none, hb, q, hq => by
  unfold spF at hq
  rw [List.length_cons]
  split at hq
  ·have := x5f r (p + 1) none (fun b h => by cases h) q hq
   omega
  ·have := x5f r (p + 1) (some p) (fun b h => by cases h; omega) q hq
   omega
 | c :: r, p, some b, hb, q, hq => by
  have hbp := hb b rfl
  unfold spF at hq
  rw [List.length_cons]
  split at hq
  ·rcases List.mem_cons.mp hq with rfl | hq
   ·exact ⟨hbp, by show p ≤ _; omega⟩
   ·have := x5f r (p + 1) none (fun b h => by cases h) q hq
    omega
  ·have := x5f r (p + 1) (some b) (fun b h => by cases h; omega) q hq
   omega
theorem z6u : ∀ (r : Bytes) (p : Nat) (st : Option Nat), (spF r p st).length ≤ r.length + 1
 | [], p, none => by simp [spF]
 | [], p, some b => by simp [spF]
 | c :: r, p, none => by
  unfold spF
  rw [List.length_cons]
  split
  ·have := z6u r (p + 1) none; omega
  ·have := z6u r (p + 1) (some p); omega
 | c :: r, p, some b => by
  unfold spF
  rw [List.length_cons]
  split
  ·have := z6u r (p + 1) none; rw [List.length_cons]; omega
  ·have := z6u r (p + 1) (some b); omega
def j1b (s : Bytes) (q : Nat × Nat) : Bytes := (s.take q.2).drop q.1
theorem j4c {s : Bytes} : ∀ (r : Bytes) (p : Nat), s.drop p = r → p ≤ s.length → (q2f r [] = (spF r p none).map (j1b s)) ∧ ∀ b, b < p → q2f r ((s.take p).drop b) = (spF r p (some b)).map (j1b s)
 | [], p, hd, hp => by
  refine ⟨rfl, fun b hb => ?_⟩
  have hne : (s.take p).drop b ≠ [] := by
   intro e
   have := congrArg List.length e
   rw [List.length_drop, List.length_take, List.length_nil] at this
   omega
  unfold q2f
  rw [if_neg hne]
  rfl
 | c :: r, p, hd, hp => by
  obtain ⟨hc, hd2, hlt⟩ := q4h hd
  have hc' : s[p] = c := by rw [List.getElem?_eq_getElem hlt] at hc; exact Option.some.inj hc
  have ih := j4c r (p + 1) hd2 (by omega)
  have htk : s.take (p + 1) = s.take p ++ [c] := by rw [List.take_succ_eq_append_getElem hlt, hc']
  constructor
  ·unfold q2f spF
   by_cases h32 : c = 32
   ·rw [if_pos h32, if_pos h32, if_pos rfl]; exact ih.1
   ·rw [if_neg h32, if_neg h32, List.nil_append]
    have := ih.2 p (by omega)
    rw [htk, List.drop_append, List.length_take, List.drop_of_length_le (by rw [List.length_take]; omega)] at this
    rw [show p - min p s.length = 0 by omega, List.drop_zero, List.nil_append] at this
    exact this
  ·intro b hb
   have hne : (s.take p).drop b ≠ [] := by
    intro e
    have := congrArg List.length e
    rw [List.length_drop, List.length_take, List.length_nil] at this
    omega
   unfold q2f spF
   by_cases h32 : c = 32
   ·rw [if_pos h32, if_pos h32, if_neg hne, List.map_cons, ih.1]
    rfl
   ·rw [if_neg h32, if_neg h32]
    have := ih.2 b (by omega)
    rw [htk, List.drop_append_of_le_length (by rw [List.length_take]; omega)] at this
    exact this
theorem x9j (s : Bytes) : q1u s = (spF s 0 none).map (j1b s) := (j4c s 0 rfl (Nat.zero_le _)).1
theorem y6j {b : Nat} (h : b ≤ 1000000) : z4i .xor .i64 (if IntKind.i64.signed = true then -1 else IntKind.i64.max) (b : Int) = -1 - (b : Int) := by
 unfold z4i
 simp only
 have e1 : (if IntKind.i64.signed = true then (-1 : Int) else IntKind.i64.max) = -1 := rfl
 rw [e1]
 have e2 : (BitVec.ofInt IntKind.i64.bits (-1) ^^^ BitVec.ofInt IntKind.i64.bits (b : Int)).toNat = 18446744073709551615 - b := by
  show (BitVec.ofInt 64 (-1) ^^^ BitVec.ofInt 64 (b : Int)).toNat = _
  have e3 : BitVec.ofInt 64 (-1) = BitVec.allOnes 64 := by decide
  rw [e3, BitVec.allOnes_xor, BitVec.toNat_not]
  have e4 : (BitVec.ofInt 64 (b : Int)).toNat = b := by
   rw [BitVec.ofInt_natCast, BitVec.toNat_ofNat]
   omega
  rw [e4]
 rw [e2, IntKind.wrap_i64]
 omega
theorem spl : x6q Cx 148 150 := ⟨_, x3c, rfl⟩
theorem spt : ∃ ti, Cx.TT 150 = some ti ∧ ti.size = 2 ∧ ti.bytes = 16 := ⟨_, x3d, rfl, rfl⟩
def y2g (q : Nat × Nat) : List AV := [.int .i64 (q.1 : Int), .int .i64 (q.2 : Int)]
theorem j8o (r : Int) : q0k Cx 103 [.int .i32 r] (.bool (r == 32)) := by
 refine q0c (q0l _) y4t ?_
 simp only [r103_0, w4l, tt, bb, bc, ↓bd, ↓reduceIte, reduceCtorEq]
def stA (st : Option Nat) (v : AV) : Prop := match st with | some b => v = .int .i64 (b : Int) | none => ∃ x : Int, x < 0 ∧ -2000000 ≤ x ∧ v = .int .i64 x
def FP2 (s : Bytes) (Q : AV → AHeap → Prop) : Prop := ∀ (T : Nat → AV) (n g : Nat) (A : Nat → Blk) (acc : List (Nat × Nat)), T 0 = .str s → T 5 = .slc g 2 0 acc.length → g < n → A g = .cells 150 2 (acc.map y2g) → acc = spF s 0 none →
 Run Cx 102 T [] none [.code c102_41] ⟨n, A⟩ Q
theorem y2h {s : Bytes} {Q : AV → AHeap → Prop} (hs : s.length ≤ 1000000) (hQ : FP2 s Q) (T : Nat → AV) (n g : Nat) (A : Nat → Blk) (acc : List (Nat × Nat)) (st : Option Nat) (t0 : T 0 = .str s) (t5 : T 5 = .slc g 2 0 acc.length) (t6 : stA st (T 6)) (hg : g < n) (hA : A g = .cells 150 2 (acc.map y2g)) (hl : acc.length ≤ 1000000) (he : acc ++ spF [] s.length st = spF s 0 none) :
  Run Cx 102 T [] none [.code c102_35] ⟨n, A⟩ Q := by
 cases st with
 | none =>
  obtain ⟨x, x1, x2, t6⟩ := t6
  have c0 : ¬ (0 : Int) ≤ x := by omega
  simp only [t6, c0, r102_0.2.2.2.1, tt, bb, ↓bd, ↓reduceIte]
  have e : acc = spF s 0 none := by rw [← he]; simp [spF]
  refine hQ _ n g A acc ?_ ?_ hg hA e
  all_goals simp only [q0b, t0, t5, Nat.reduceEqDiff, ↓reduceIte]
 | some b =>
  replace t6 : T 6 = .int .i64 (b : Int) := t6
  have c0 : (0 : Int) ≤ (b : Int) := by omega
  have ha := q7y (C := Cx) (g := g) (n := n) (A := A) (es := acc.map y2g) (row := [.int .i64 (b : Int), .int .i64 (s.length : Int)]) spl spt hA (by omega) (by rw [List.length_map]; unfold q2m; omega) (by rw [List.length_map]; unfold q2m; omega)
  rw [List.length_map] at ha
  simp only [t0, t5, t6, c0, ha, i64, q0i, r102_0.2.2.2.1, tt, bb, bc, ↓bd, Nat.reduceEqDiff, Nat.reduceAdd, Nat.reduceMul, Nat.reduceLeDiff, ↓reduceIte, reduceCtorEq, List.reduceReplicate]
  have e : acc ++ [(b, s.length)] = spF s 0 none := by rw [← he]; rfl
  have el : (acc ++ [(b, s.length)]).length = acc.length + 1 := by simp
  refine hQ _ (n + 1 + 1) (n + 1) _ (acc ++ [(b, s.length)]) ?_ ?_ (by omega) ?_ e
  ·simp only [q0b, t0, Nat.reduceEqDiff, ↓reduceIte]
  ·rw [el]; simp only [q0b, ↓reduceIte]
  ·simp only [q0b, ↓reduceIte]
   rw [List.map_append]; rfl
theorem w5s {s : Bytes} {Q : AV → AHeap → Prop} (hs : s.length ≤ 1000000) (hQ : FP2 s Q) : ∀ (m p : Nat) (T : Nat → AV) (n g it : Nat) (A : Nat → Blk) (acc : List (Nat × Nat)) (st : Option Nat), s.length - p ≤ m → p ≤ s.length → T 0 = .str s → T 1 = .fn 103 [] [] → T 5 = .slc g 2 0 acc.length → stA st (T 6) → T 14 = .ptr it 0 0 0 → g < n → it < n → A g = .cells 150 2 (acc.map y2g) → A it = .iter s p → acc.length ≤ p → (∀ b, st = some b → b ≤ 1000000) → acc ++ spF (s.drop p) p st = spF s 0 none →
  Run Cx 102 T [] none [.inLoop c102_11, .inBlock 0, .code c102_35] ⟨n, A⟩ Q := by
 intro m
 induction m with
 | zero =>
  intro p T n g it A acc st hm hp t0 t1 t5 t6 t14 hgn hin hA hI hl hb he
  rw [run_inLoop]
  have hpe : p = s.length := by omega
  have c0 : ¬ p < s.length := by omega
  simp only [t14, hI, c0, xx, q8p, r102_0.2.1, tt, bb, ↓bd, ↓reduceIte]
  rw [List.drop_of_length_le (by omega), hpe] at he
  refine y2h hs hQ _ n g A acc st ?_ ?_ ?_ hgn hA (by omega) he
  all_goals simp only [q0b, t0, t5, Nat.reduceEqDiff, ↓reduceIte]
  exact t6
 | succ m ih =>
  intro p T n g it A acc st hm hp t0 t1 t5 t6 t14 hgn hin hA hI hl hb he
  by_cases hlt : p < s.length
  ·rw [run_inLoop]
   have hd : s.drop p = s[p] :: s.drop (p + 1) := List.drop_eq_getElem_cons hlt
   have hg : s[p]? = some s[p] := List.getElem?_eq_getElem hlt
   generalize s[p] = c at hd hg
   rw [hd] at he
   have gi : (g = it) = False := eq_false (by rintro rfl; rw [hA] at hI; cases hI)
   have ig : (it = g) = False := eq_false (by rintro rfl; rw [hA] at hI; cases hI)
   by_cases h32 : c = 32
   ·-- a blank
    subst h32
    have w8g := j4b hg (by decide)
    have e32 : (((32 : UInt8).toNat : Nat) : Int) = 32 := rfl
    have z : ((32 : Int) == 32) = true := rfl
    have hbl := j8o 32
    rw [z] at hbl
    cases st with
    | none =>
     obtain ⟨x, x1, x2, t6⟩ := t6
     have c0 : ¬ (0 : Int) ≤ x := by omega
     simp only [t1, t6, t14, hI, hlt, w8g, e32, c0, q0a j0g rfl hbl, i64, xx, q8p, r102_0.2.1, r102_0.2.2.1, tt, bb, bc, ↓bd, Nat.reduceEqDiff, ↓reduceIte]
     refine ih (p + 1) _ n g it _ acc none (by omega) (by omega) ?_ ?_ ?_ ?_ ?_ hgn hin ?_ ?_ (by omega) (fun b h => by cases h) he
     ·simp only [q0b, t0, Nat.reduceEqDiff, ↓reduceIte]
     ·simp only [q0b, t1, Nat.reduceEqDiff, ↓reduceIte]
     ·simp only [q0b, t5, Nat.reduceEqDiff, ↓reduceIte]
     ·exact ⟨x, x1, x2, by simp only [q0b, t6, Nat.reduceEqDiff, ↓reduceIte]⟩
     ·simp only [q0b, t14, Nat.reduceEqDiff, ↓reduceIte]
     ·simp only [q0b, gi, ↓reduceIte]; exact hA
     ·simp only [q0b, ↓reduceIte]
    | some b =>
     replace t6 : T 6 = .int .i64 (b : Int) := t6
     have hb' := hb b rfl
     have c0 : (0 : Int) ≤ (b : Int) := by omega
     have hx := y6j hb'
     have hA1 : (upd A it (.iter s (p + 1))) g = .cells 150 2 (acc.map y2g) := by rw [q0b, if_neg (by rw [gi]; exact id)]; exact hA
     have ha := q7y (C := Cx) (g := g) (n := n) (A := upd A it (.iter s (p + 1))) (es := acc.map y2g) (row := [.int .i64 (b : Int), .int .i64 (p : Int)]) spl spt hA1 (by omega) (by rw [List.length_map]; unfold q2m; omega) (by rw [List.length_map]; unfold q2m; omega)
     rw [List.length_map] at ha
     simp only [t1, t5, t6, t14, hI, hlt, w8g, e32, c0, hx, ha, q0a j0g rfl hbl, i64, q0i, xx, q8p, r102_0.2.1, r102_0.2.2.1, tt, bb, bc, ↓bd, Nat.reduceEqDiff, Nat.reduceAdd, Nat.reduceMul, Nat.reduceLeDiff, ↓reduceIte, Int.reduceNeg, List.reduceReplicate]
     have el : (acc ++ [(b, p)]).length = acc.length + 1 := by simp
     refine ih (p + 1) _ (n + 1 + 1) (n + 1) it _ (acc ++ [(b, p)]) none (by omega) (by omega) ?_ ?_ ?_ ?_ ?_ (by omega) (by omega) ?_ ?_ (by omega) (fun b h => by cases h) ?_
     ·simp only [q0b, t0, Nat.reduceEqDiff, ↓reduceIte]
     ·simp only [q0b, t1, Nat.reduceEqDiff, ↓reduceIte]
     ·rw [el]; simp only [q0b, Nat.reduceEqDiff, ↓reduceIte]
     ·exact ⟨-1 - (b : Int), by omega, by omega, by simp only [q0b, ↓reduceIte]⟩
     ·simp only [q0b, t14, Nat.reduceEqDiff, ↓reduceIte]
     ·simp only [q0b, ↓reduceIte]
      rw [List.map_append]; rfl
     ·have i1 : (it = n + 1) = False := eq_false (by omega)
      have i2 : (it = n) = False := eq_false (by omega)
      simp only [q0b, i1, i2, ig, ↓reduceIte]
     ·rw [List.append_assoc]; exact he
   ·-- a letter: the stretch goes on behind it
    have key : ∃ w, (Utf8.decode ⟨s.toArray⟩ p).2 = w ∧ 1 ≤ w ∧ p + w ≤ s.length ∧ (((Utf8.decode ⟨s.toArray⟩ p).1 : Nat) : Int) ≠ 32 ∧ ∃ l, s.drop (p + 1) = l ++ s.drop (p + w) ∧ l.length = w - 1 ∧ ∀ x, x ∈ l → x ≠ 32 := by
     by_cases h128 : c.toNat < 128
     ·have w8g := j4b hg h128
      rw [w8g]
      refine ⟨1, rfl, Nat.le_refl _, by omega, ?_, [], by simp, by simp, fun x hx => by cases hx⟩
      show (c.toNat : Int) ≠ 32
      intro e
      exact h32 (UInt8.toNat_inj.mp (by show c.toNat = 32; omega))
     ·obtain ⟨w1, w2, w3⟩ := v0b hg (by omega)
      have h1 := x9i hg (by omega)
      refine ⟨_, rfl, w1, w2, by omega, (s.drop (p + 1)).take ((Utf8.decode ⟨s.toArray⟩ p).2 - 1), ?_, ?_, ?_⟩
      ·have : s.drop (p + (Utf8.decode ⟨s.toArray⟩ p).2) = (s.drop (p + 1)).drop ((Utf8.decode ⟨s.toArray⟩ p).2 - 1) := by rw [List.drop_drop]; congr 1; omega
       rw [this, List.take_append_drop]
      ·rw [List.length_take, List.length_drop]; omega
      ·intro x hx
       obtain ⟨j, hj, e⟩ := List.getElem_of_mem hx
       rw [List.length_take, List.length_drop] at hj
       obtain ⟨y, hy, ny⟩ := w3 (j + 1) (by omega) (by omega)
       rw [List.getElem_take, List.getElem_drop] at e
       rw [show p + (j + 1) = p + 1 + j by omega, List.getElem?_eq_getElem (by omega)] at hy
       have := Option.some.inj hy
       rw [← e, this]; exact ny
    obtain ⟨w, hw, hw1, hw2, hr, l, hl1, hl2, hl3⟩ := key
    have z : ((((Utf8.decode ⟨s.toArray⟩ p).1 : Nat) : Int) == 32) = false := by simpa using hr
    have hbl := j8o (((Utf8.decode ⟨s.toArray⟩ p).1 : Nat) : Int)
    rw [z] at hbl
    generalize hru : (Utf8.decode ⟨s.toArray⟩ p).1 = ru at hbl z hr
    cases st with
    | none =>
     obtain ⟨x, x1, x2, t6⟩ := t6
     have c0 : x < 0 := x1
     simp only [t1, t6, t14, hI, hlt, hw, hru, c0, q0a j0g rfl hbl, i64, xx, q8p, r102_0.2.1, r102_0.2.2.1, tt, bb, bc, ↓bd, Nat.reduceEqDiff, ↓reduceIte]
     refine ih (p + w) _ n g it _ acc (some p) (by omega) hw2 ?_ ?_ ?_ ?_ ?_ hgn hin ?_ ?_ (by omega) (fun b h => by cases h; omega) ?_
     ·simp only [q0b, t0, Nat.reduceEqDiff, ↓reduceIte]
     ·simp only [q0b, t1, Nat.reduceEqDiff, ↓reduceIte]
     ·simp only [q0b, t5, Nat.reduceEqDiff, ↓reduceIte]
     ·show _ = _
      simp only [q0b, ↓reduceIte]
     ·simp only [q0b, t14, Nat.reduceEqDiff, ↓reduceIte]
     ·simp only [q0b, gi, ↓reduceIte]; exact hA
     ·simp only [q0b, ↓reduceIte]
     ·have e1 : spF (c :: s.drop (p + 1)) p none = spF (s.drop (p + 1)) (p + 1) (some p) := by
       show (if c = 32 then _ else _) = _
       rw [if_neg h32]
      rw [e1, hl1, j0p l _ _ hl3, hl2, show p + 1 + (w - 1) = p + w by omega] at he
      exact he
    | some b =>
     replace t6 : T 6 = .int .i64 (b : Int) := t6
     have c0 : ¬ (b : Int) < 0 := by omega
     simp only [t1, t6, t14, hI, hlt, hw, hru, c0, q0a j0g rfl hbl, i64, xx, q8p, r102_0.2.1, r102_0.2.2.1, tt, bb, bc, ↓bd, Nat.reduceEqDiff, ↓reduceIte]
     refine ih (p + w) _ n g it _ acc (some b) (by omega) hw2 ?_ ?_ ?_ ?_ ?_ hgn hin ?_ ?_ (by omega) hb ?_
     ·simp only [q0b, t0, Nat.reduceEqDiff, ↓reduceIte]
     ·simp only [q0b, t1, Nat.reduceEqDiff, ↓reduceIte]
     ·simp only [q0b, t5, Nat.reduceEqDiff, ↓reduceIte]
     ·show _ = _
      simp only [q0b, t6, Nat.reduceEqDiff, ↓reduceIte]
     ·simp only [q0b, t14, Nat.reduceEqDiff, ↓reduceIte]
     ·simp only [q0b, gi, ↓reduceIte]; exact hA
     ·simp only [q0b, ↓reduceIte]
     ·have e1 : spF (c :: s.drop (p + 1)) p (some b) = spF (s.drop (p + 1)) (p + 1) (some b) := by
       show (if c = 32 then _ else _) = _
       rw [if_neg h32]
      rw [e1, hl1, j0p l _ _ hl3, hl2, show p + 1 + (w - 1) = p + w by omega] at he
      exact he
  ·have hpe : p = s.length := by omega
   have c0 : ¬ p < s.length := by omega
   rw [run_inLoop]
   simp only [t14, hI, c0, xx, q8p, r102_0.2.1, tt, bb, ↓bd, ↓reduceIte]
   rw [List.drop_of_length_le (by omega), hpe] at he
   refine y2h hs hQ _ n g A acc st ?_ ?_ ?_ hgn hA (by omega) he
   all_goals simp only [q0b, t0, t5, Nat.reduceEqDiff, ↓reduceIte]
   exact t6
theorem w5t {s : Bytes} {q : Nat × Nat} (h : q.1 < q.2 ∧ q.2 ≤ s.length) : q4r Cx 9 (.str s) (some (.int .i64 (q.1 : Int))) (some (.int .i64 (q.2 : Int))) none = some (.str (j1b s q)) := by
 unfold q4r
 rw [x6r]
 simp only [j4t, z3h]
 rw [if_pos (by omega)]
 simp only
 rw [if_pos (by omega)]
 rfl
theorem y2i {s : Bytes} {Q : AV → AHeap → Prop} {sp : List (Nat × Nat)} {g : Nat} (hl : sp.length ≤ 1000001) (hsp : ∀ q, q ∈ sp → q.1 < q.2 ∧ q.2 ≤ s.length) (hQ : ∀ n A h, h < n → A h = .cells 9 1 (sp.map fun q => [.str (j1b s q)]) → Q (.slc h 1 0 sp.length) ⟨n, A⟩) :
  ∀ (j i : Nat) (T : Nat → AV) (n h : Nat) (A : Nat → Blk), i + j = sp.length → T 0 = .str s → T 9 = .slc h 1 0 sp.length → T 47 = .slc g 2 0 sp.length → T 48 = .int .i64 (sp.length : Int) → T 49 = .int .i64 (i : Int) → g < n → h < n → A g = .cells 150 2 (sp.map y2g) → A h = .cells 9 1 ((sp.take i).map (fun q => [AV.str (j1b s q)]) ++ List.replicate j [.str []]) →
   Run Cx 102 T [] none [.inLoop c102_48, .inBlock 2, .code c102_60] ⟨n, A⟩ Q
 | 0, i, T, n, h, A, hij, t0, t9, t47, t48, t49, hgn, hhn, hA, hh => by
  rw [run_inLoop]
  have c0 : ¬ (i : Int) < (sp.length : Int) := by omega
  simp only [t9, t48, t49, c0, xx, r102_0, w4k, tt, bb, bc, ↓bd, Nat.reduceEqDiff, ↓reduceIte]
  refine hQ n A h hhn ?_
  rw [hh, List.take_of_length_le (by omega)]
  simp
 | j + 1, i, T, n, h, A, hij, t0, t9, t47, t48, t49, hgn, hhn, hA, hh => by
  rw [run_inLoop]
  have hi : i < sp.length := by omega
  have c0 : (i : Int) < (sp.length : Int) := by omega
  have p0 : (0 : Int) ≤ (i : Int) := by omega
  have g0 : (sp.map y2g)[i]? = some [.int .i64 ((sp[i]).1 : Int), .int .i64 ((sp[i]).2 : Int)] := by rw [List.getElem?_map, List.getElem?_eq_getElem hi]; rfl
  have hsl := w5t (s := s) (hsp _ (List.getElem_mem hi))
  have w1 : IntKind.i64.wrap ((i : Int) + 1) = ((i + 1 : Nat) : Int) := by rw [wr64 (by omega) (by omega)]; omega
  have q2u : ((sp.take i).map (fun q => [AV.str (j1b s q)])).length = i := by rw [List.length_map, List.length_take]; omega
  have gh : ((sp.take i).map (fun q => [AV.str (j1b s q)]) ++ List.replicate (j + 1) [AV.str []])[i]? = some [.str []] := by
   rw [List.getElem?_append_right (by omega), q2u, Nat.sub_self]; rfl
  have y0l : ((sp.take i).map (fun q => [AV.str (j1b s q)]) ++ List.replicate (j + 1) [AV.str []]).set i [.str (j1b s sp[i])] = (sp.take (i + 1)).map (fun q => [AV.str (j1b s q)]) ++ List.replicate j [.str []] := by
   rw [List.set_append_right _ _ (by omega), q2u, Nat.sub_self, List.replicate_succ, List.set_cons_zero, List.take_succ_eq_append_getElem hi, List.map_append, List.append_assoc]
   rfl
  have gn : (g = n) = False := eq_false (by omega)
  have hn : (h = n) = False := eq_false (by omega)
  have nh : (n = h) = False := eq_false (by omega)
  have gh' : (g = h) = False := eq_false (by rintro rfl; rw [hA] at hh; simp at hh)
  have uu : ∀ (X Y : Blk), upd (upd A n X) n Y = upd A n Y := fun X Y => z4f A n X Y
  simp only [t0, t9, t47, t48, t49, c0, p0, g0, hA, hh, hsl, w1, gh, y0l, hn, uu, evo, Int.toNat_natCast, xx, r102_0.2.2.2.2.2.1, tt, bb, ↓bd, Nat.reduceEqDiff, Nat.reduceAdd, ↓reduceIte, reduceCtorEq]
  refine y2i (g := g) hl hsp hQ j (i + 1) _ (n + 1) h _ (by omega) ?_ ?_ ?_ ?_ ?_ (by omega) (by omega) ?_ ?_
  ·simp only [q0b, t0, Nat.reduceEqDiff, ↓reduceIte]
  ·simp only [q0b, t9, Nat.reduceEqDiff, ↓reduceIte]
  ·simp only [q0b, t47, Nat.reduceEqDiff, ↓reduceIte]
  ·simp only [q0b, t48, Nat.reduceEqDiff, ↓reduceIte]
  ·simp only [q0b, ↓reduceIte]
  ·simp only [q0b, gh', gn, ↓reduceIte]; exact hA
  ·simp only [q0b, ↓reduceIte]
theorem j8p {s : Bytes} (hs : s.length ≤ 100000) : q0k Cx 76 [.str s] (.vec 1 ((q1u s).map fun w => [.str w])) := by
 refine q0c (q0l _) w2z ?_
 simp only [r76_0, tt, bb, bc, ↓bd, ↓reduceIte, reduceCtorEq]
 refine q0s y4s (q0l _) y4r ?_
 simp only [w9h, r102_0.1, tt, bb, bc, ↓bd, ↓reduceIte, Int.reduceLE, Int.reduceMul, List.reduceReplicate]
 have hm : (512 : Int) ≤ (q2m : Int) := by decide
 have hm2 : (32 : Int) ≤ (q2m : Int) := by decide
 simp only [hm, hm2, q0i, ↓reduceIte, x2k, tt, bb, ↓bd, Nat.reduceAdd, ↓reduceIte, reduceCtorEq, Int.reduceNeg]
 refine w5s (s := s) (by omega) ?_ s.length 0 _ 2 0 1 _ [] none (by omega) (Nat.zero_le _) ?_ ?_ ?_ ?_ ?_ (by omega) (by omega) ?_ ?_ (Nat.zero_le _) (fun b h => by cases h) rfl
 ·intro T n g A acc t0 t5 hg hA he
  have hl : acc.length ≤ 100001 := by rw [he]; have := z6u s 0 none; omega
  have hsp : ∀ q, q ∈ acc → q.1 < q.2 ∧ q.2 ≤ s.length := by
   intro q hq
   rw [he] at hq
   have := x5f s 0 none (fun b h => by cases h) q hq
   omega
  have p0 : (0 : Int) ≤ (acc.length : Int) := by omega
  have m1 : (acc.length : Int) * 16 ≤ (q2m : Int) := by unfold q2m; omega
  have m2 : (acc.length : Int) ≤ (q2m : Int) := by unfold q2m; omega
  simp only [t5, p0, m1, m2, Int.le_refl, i64, Int.toNat_natCast, r102_0.2.2.2.2.1, tt, bb, bc, ↓bd, Nat.reduceEqDiff, ↓reduceIte]
  have gn : g ≠ n := by omega
  refine y2i (s := s) (sp := acc) (g := g) (by omega) hsp ?_ acc.length 0 _ (n + 1) n _ (by omega) ?_ ?_ ?_ ?_ ?_ (by omega) (by omega) ?_ ?_
  ·intro n' A' h hh hA'
   simp only [bb, ↓bd]
   have hw : (q1u s).map (fun w => [AV.str w]) = acc.map fun q => [.str (j1b s q)] := by rw [x9j, ← he, List.map_map]; rfl
   rw [hw]
   have hfz : ∀ l : List (Nat × Nat), q3t (q3t (q1h ⟨n', A'⟩ 3)) (l.map fun q => [.str (j1b s q)]) = some (l.map fun q => [.str (j1b s q)]) := by
    intro l
    induction l with
    | nil => rfl
    | cons q l ih =>
     rw [List.map_cons, q4l, ih]
     have : q3t (q1h ⟨n', A'⟩ 3) [AV.str (j1b s q)] = some [.str (j1b s q)] := q4v (p := AV.flat1) (fun v hv => q3c hv) rfl
     rw [this]; rfl
   rw [hA']
   show y8u _ 3 1 (if 1 = 1 ∧ acc.length ≤ (acc.map fun q => [AV.str (j1b s q)]).length then some ((acc.map fun q => [AV.str (j1b s q)]).take acc.length) else none) = _
   rw [if_pos ⟨rfl, by simp⟩, List.take_of_length_le (by simp), q5h, hfz]
   rfl
  all_goals try simp only [q0b, t0, Nat.reduceEqDiff, ↓reduceIte]
  ·rfl
  ·rw [if_neg gn]; exact hA
  ·simp
 all_goals simp only [q0b, q1g, qez, Nat.reduceEqDiff, ↓reduceIte]
 all_goals first | rfl | (exact ⟨-1, by decide, by decide, rfl⟩)
theorem sm_t : z2j Cx.P 113 = true := by kernel_rfl
abbrev tabT : List (Bytes × Bytes) := [([99, 97, 116], [115, 115]), ([108, 101, 110], [115]), ([99, 117, 116], [115, 110, 110]), ([119, 111, 114, 100, 115], [115]), ([119, 111, 114, 100], [115, 110]), ([110, 117, 109], [115])]
section
variable {fn : FuncId} {T : Nat → AV} {ds : List ADef} {ro : Option Nat} {k : List AItem} {Q : AV → AHeap → Prop} {dst : Option Nat} {os : List AO}
theorem j6q {M : Mch} {n g m : Nat} {A : Nat → Blk} {s : St} {want : Bytes} {vs : List Vl} (hm : m = vs.length) (h : MS M n A s) (ha : AS M g n A vs) (hok : ∀ v, v ∈ vs → okV v = true) (hl : want.length = vs.length) (hvl : vs.length ≤ 3)
  (hk : ∀ n' A', MS M n' A' (if q2b want vs then s else q1f 13 s) → Keep M.b n A A' → n ≤ n' → q0d Cx fn (putA T dst (.bool (q2b want vs))) ds ro os k ⟨n', A'⟩ Q) :
  q0g Cx fn T ds ro 70 [.ptr M.b 22 0 0, .str want, .slc g 5 0 m] dst os k ⟨n, A⟩ Q := by
 subst hm
 exact q5a h ha hok hl hvl hk
theorem q8x {M : Mch} {n g : Nat} {A : Nat → Blk} {s : St} {w want : Bytes} {a : Vl} {r : List Vl} (h : MS M n A s) (ha : AS M g n A (a :: r)) (hok : ∀ v, v ∈ a :: r → okV v = true) (hg : j4q tabT w = some want) (hl : want.length = (a :: r).length) (hvl : (a :: r).length ≤ 3)
  (q9c : q2b want (a :: r) = false → ∀ n' A', MS M n' A' (q1f 13 s) → Keep M.b n A A' → n ≤ n' → q0d Cx fn (putA T dst (q1o zV)) ds ro os k ⟨n', A'⟩ Q)
  (hgood : q2b want (a :: r) = true → ∀ n' A' T', MS M n' A' s → AS M g n' A' (a :: r) → Keep M.b (n + 1) (upd A n zB) A' → n + 1 ≤ n' → T' 0 = .ptr M.b 22 0 0 → T' 1 = .str w → T' 2 = .slc g 5 0 (a :: r).length → T' 6 = .ptr n 5 0 0 → T' 8 = .str a.s → Run Cx 53 T' [] none [.code c53_14] ⟨n', A'⟩ (fun r H1 => q0d Cx fn (putA T dst r) ds ro os k H1 Q)) :
  q0g Cx fn T ds ro 53 [.ptr M.b 22 0 0, .str w, .slc g 5 0 (a :: r).length] dst os k ⟨n, A⟩ Q := by
 refine q0s w1o (q0l _) w1n ?_
 have hst := sm_t
 have hb := h.lt
 have g0 : j4q [] [99, 97, 116] = none := rfl
 have g1 : j4q [(([99, 97, 116] : Bytes), ([115, 115] : Bytes))] [108, 101, 110] = none := rfl
 have g2 : j4q [(([99, 97, 116] : Bytes), ([115, 115] : Bytes)), ([108, 101, 110], [115])] [99, 117, 116] = none := rfl
 have g3 : j4q [(([99, 97, 116] : Bytes), ([115, 115] : Bytes)), ([108, 101, 110], [115]), ([99, 117, 116], [115, 110, 110])] [119, 111, 114, 100, 115] = none := rfl
 have g4 : j4q [(([99, 97, 116] : Bytes), ([115, 115] : Bytes)), ([108, 101, 110], [115]), ([99, 117, 116], [115, 110, 110]), ([119, 111, 114, 100, 115], [115])] [119, 111, 114, 100] = none := rfl
 have g5 : j4q [(([99, 97, 116] : Bytes), ([115, 115] : Bytes)), ([108, 101, 110], [115]), ([99, 117, 116], [115, 110, 110]), ([119, 111, 114, 100, 115], [115]), ([119, 111, 114, 100], [115, 110])] [110, 117, 109] = none := rfl
 have uu : ∀ (X Y : Blk), upd (upd (upd A n zB) (n + 1) X) (n + 1) Y = upd (upd A n zB) (n + 1) Y := fun X Y => z4f (upd A n zB) (n + 1) X Y
 unfold tabT at hg
 simp only [hst, hg, g0, g1, g2, g3, g4, g5, uu, Option.map_some, q0i, List.cons_append, List.nil_append, r53_0.1, tt, bb, bc, ↓bd, Nat.reduceEqDiff, ↓reduceIte, reduceCtorEq]
 have kp1 : ∀ X, Keep M.b (n + 1) (upd A n zB) (upd (upd A n zB) (n + 1) X) := fun X => (Keep.refl _ _ _).up1 (Nat.le_refl _) X
 refine j6q (vs := a :: r) rfl ((h.up1 _).up1 _) ((ha.up1 _).up1 _) hok hl hvl ?_
 intro n' A' hm hkp hn
 have j1c := (kp1 _).trans (by omega) hkp
 have hc := q0f hb j1c
 have ha' := ((ha.up1 _).up1 _).keep hn hkp
 have hg' : A' g = .cells 26 5 (y8c a :: r.map y8c) := ha'.cell
 cases hkm : q2b want (a :: r) with
 | false =>
  rw [hkm, if_neg (by decide)] at hm
  simp only [hc, q9e, tt, bb, bc, ↓bd, Nat.reduceEqDiff, Nat.reduceAdd, ↓reduceIte]
  exact q0r hb hm j1c (by omega) (q9c hkm)
 | true =>
  rw [hkm, if_pos rfl] at hm
  have hp : (0 : Int) < ((r.length + 1 : Nat) : Int) := by omega
  simp only [hg', y8c, hp, Int.toNat_zero, r53_0.2.1, tt, bb, ↓bd, Nat.reduceEqDiff, ↓reduceIte, Int.reduceLE]
  refine hgood hkm n' A' _ hm ha' j1c (by omega) ?_ ?_ ?_ ?_ ?_
  all_goals simp only [q0b, q1g, qez, Nat.reduceEqDiff, ↓reduceIte]
  all_goals rfl
theorem z2h {a : Vl} (oa : okV a = true) : q2b [115] [a] = decide (a.k = 1) := by
 have e : q2b [115] [a] = ((kc a.k == 115) && true) := rfl
 rw [e]
 rcases q3r oa with ⟨h1, _⟩ | ⟨h1, _⟩ | ⟨h1, _⟩ <;> rw [h1] <;> rfl
theorem j8q {a b : Vl} (oa : okV a = true) (ob : okV b = true) : q2b [115, 115] [a, b] = decide (a.k = 1 ∧ b.k = 1) := by
 have e : q2b [115, 115] [a, b] = ((kc a.k == 115) && ((kc b.k == 115) && true)) := rfl
 rw [e]
 rcases q3r oa with ⟨h1, _⟩ | ⟨h1, _⟩ | ⟨h1, _⟩ <;> rcases q3r ob with ⟨h2, _⟩ | ⟨h2, _⟩ | ⟨h2, _⟩ <;> rw [h1, h2] <;> rfl
theorem j8r {a b : Vl} (oa : okV a = true) (ob : okV b = true) : q2b [115, 110] [a, b] = decide (a.k = 1 ∧ b.k = 0) := by
 have e : q2b [115, 110] [a, b] = ((kc a.k == 115) && ((kc b.k == 110) && true)) := rfl
 rw [e]
 rcases q3r oa with ⟨h1, _⟩ | ⟨h1, _⟩ | ⟨h1, _⟩ <;> rcases q3r ob with ⟨h2, _⟩ | ⟨h2, _⟩ | ⟨h2, _⟩ <;> rw [h1, h2] <;> rfl
theorem j4d {a b c : Vl} (oa : okV a = true) (ob : okV b = true) (oc : okV c = true) : q2b [115, 110, 110] [a, b, c] = decide (a.k = 1 ∧ b.k = 0 ∧ c.k = 0) := by
 have e : q2b [115, 110, 110] [a, b, c] = ((kc a.k == 115) && ((kc b.k == 110) && ((kc c.k == 110) && true))) := rfl
 rw [e]
 rcases q3r oa with ⟨h1, _⟩ | ⟨h1, _⟩ | ⟨h1, _⟩ <;> rcases q3r ob with ⟨h2, _⟩ | ⟨h2, _⟩ | ⟨h2, _⟩ <;> rcases q3r oc with ⟨h3, _⟩ | ⟨h3, _⟩ | ⟨h3, _⟩ <;> rw [h1, h2, h3] <;> rfl
theorem z7o {a : Vl} (oa : okV a = true) (h1 : a.k = 1) : a.s.length ≤ 4096 := (q0w oa).2.1 h1
theorem v0c {M : Mch} {n g : Nat} {A : Nat → Blk} {s : St} {a : Vl} (h : MS M n A s) (he : s.err = 0) (ha : AS M g n A [a]) (oa : okV a = true)
  (hk : ∀ n' A', MS M n' A' (q1v (ap1 15 a) s).2 → Keep M.b n A A' → n ≤ n' → q0d Cx fn (putA T dst (q1o (q1v (ap1 15 a) s).1)) ds ro os k ⟨n', A'⟩ Q) :
  q0g Cx fn T ds ro 53 [.ptr M.b 22 0 0, .str (q0e 15), .slc g 5 0 1] dst os k ⟨n, A⟩ Q := by
 have eap : ap1 15 a = if a.k = 1 then .val (nV a.s.length) else .bad 13 := rfl
 have hb := h.lt
 refine q8x (a := a) (r := []) h ha (y8d oa) (w := q0e 15) (want := [115]) rfl rfl (by simp) ?_ ?_
 ·intro hkk n' A' hm hkp hn
  rw [z2h oa] at hkk
  rw [eap, if_neg (by simpa using hkk), q0m he] at hk
  exact hk n' A' hm hkp hn
 ·intro hkk n' A' T' hm ha' hkp hn t0 t1 t2 t6 t8
  rw [z2h oa] at hkk
  rw [eap, if_pos (by simpa using hkk)] at hk
  have hc := q0f hb hkp
  simp only [t1, t6, t8, hc, w7w, i64, q0a q5j rfl (q2p (a.s.length : Int)), r53_0, q9e, tt, bb, bc, ↓bd, Nat.reduceEqDiff, Nat.reduceAdd, ↓reduceIte]
  exact q0r hb hm hkp hn hk
theorem y6k {M : Mch} {n g : Nat} {A : Nat → Blk} {s : St} {a : Vl} (h : MS M n A s) (he : s.err = 0) (ha : AS M g n A [a]) (oa : okV a = true)
  (hk : ∀ n' A', MS M n' A' (q1v (ap1 18 a) s).2 → Keep M.b n A A' → n ≤ n' → q0d Cx fn (putA T dst (q1o (q1v (ap1 18 a) s).1)) ds ro os k ⟨n', A'⟩ Q) :
  q0g Cx fn T ds ro 53 [.ptr M.b 22 0 0, .str (q0e 18), .slc g 5 0 1] dst os k ⟨n, A⟩ Q := by
 have eap : ap1 18 a = if a.k = 1 then .val (nV (q1u a.s).length) else .bad 13 := rfl
 have hb := h.lt
 refine q8x (a := a) (r := []) h ha (y8d oa) (w := q0e 18) (want := [115]) rfl rfl (by simp) ?_ ?_
 ·intro hkk n' A' hm hkp hn
  rw [z2h oa] at hkk
  rw [eap, if_neg (by simpa using hkk), q0m he] at hk
  exact hk n' A' hm hkp hn
 ·intro hkk n' A' T' hm ha' hkp hn t0 t1 t2 t6 t8
  rw [z2h oa] at hkk
  have k1 : a.k = 1 := by simpa using hkk
  rw [eap, if_pos k1] at hk
  have hc := q0f hb hkp
  have hw := j8p (s := a.s) (by have := z7o oa k1; omega)
  simp only [t1, t6, t8, hc, w7x, i64, List.length_map, q0a j7x rfl hw, q0a q5j rfl (q2p ((q1u a.s).length : Int)), r53_0, q9e, tt, bb, bc, ↓bd, Nat.reduceEqDiff, Nat.reduceAdd, ↓reduceIte]
  exact q0r hb hm hkp hn hk
theorem v0d {M : Mch} {n g : Nat} {A : Nat → Blk} {s : St} {a b : Vl} (h : MS M n A s) (he : s.err = 0) (ha : AS M g n A [a, b]) (oa : okV a = true) (ob : okV b = true)
  (hk : ∀ n' A', MS M n' A' (q1v (ap2 14 a b s.out.length) s).2 → Keep M.b n A A' → n ≤ n' → q0d Cx fn (putA T dst (q1o (q1v (ap2 14 a b s.out.length) s).1)) ds ro os k ⟨n', A'⟩ Q) :
  q0g Cx fn T ds ro 53 [.ptr M.b 22 0 0, .str (q0e 14), .slc g 5 0 2] dst os k ⟨n, A⟩ Q := by
 have eap : ap2 14 a b s.out.length = if a.k = 1 ∧ b.k = 1 then (if a.s.length + b.s.length ≤ 4096 then .val (tV (a.s ++ b.s)) else .bad 3) else .bad 13 := rfl
 have hb := h.lt
 refine q8x (a := a) (r := [b]) h ha (v0a oa ob) (w := q0e 14) (want := [115, 115]) rfl rfl (by simp) ?_ ?_
 ·intro hkk n' A' hm hkp hn
  rw [j8q oa ob] at hkk
  rw [eap, if_neg (by simpa using hkk), q0m he] at hk
  exact hk n' A' hm hkp hn
 ·intro hkk n' A' T' hm ha' hkp hn t0 t1 t2 t6 t8
  rw [j8q oa ob] at hkk
  have k1 : a.k = 1 ∧ b.k = 1 := by simpa using hkk
  rw [eap, if_pos k1] at hk
  have hc := q0f hb hkp
  have hg' : A' g = .cells 26 5 [[.int .i64 a.k, .int .i64 a.n, .str a.s, .int .i64 a.x, .int .i64 a.y], [.int .i64 b.k, .int .i64 b.n, .str b.s, .int .i64 b.x, .int .i64 b.y]] := ha'.cell
  have la := z7o oa k1.1
  have lb := z7o ob k1.2
  have w1 : IntKind.i64.wrap ((a.s.length : Int) + (b.s.length : Int)) = (a.s.length : Int) + (b.s.length : Int) := wr64 (by omega) (by omega)
  replace t2 : T' 2 = .slc g 5 0 2 := t2
  have c9 : a.s.length + b.s.length ≤ 9223372036854775807 := by omega
  by_cases hl : a.s.length + b.s.length ≤ 4096
  ·rw [if_pos hl] at hk
   have c1 : ¬ (4096 : Int) < (a.s.length : Int) + (b.s.length : Int) := by omega
   simp only [t1, t2, t6, t8, hc, hg', y8b, w1, c1, c9, q0i, q5f, i64, Int.toNat_one, q0a j3n rfl (q8d (a.s ++ b.s)), r53_0, q9e, tt, bb, bc, ↓bd, Nat.reduceEqDiff, Nat.reduceAdd, ↓reduceIte, Int.reduceLT, Int.reduceLE]
   exact q0r hb hm hkp hn hk
  ·rw [if_neg hl, q0m he] at hk
   have c1 : (4096 : Int) < (a.s.length : Int) + (b.s.length : Int) := by omega
   simp only [t0, t1, t2, t8, hg', y8b, w1, c1, q0i, q5f, i64, Int.toNat_one, r53_0, tt, bb, bc, ↓bd, Nat.reduceEqDiff, ↓reduceIte, reduceCtorEq, Int.reduceLT, Int.reduceLE]
   refine q1e hm ?_
   intro n2 A2 hm2 q1k hn2
   have q1t := hkp.trans hn q1k
   have hc2 := q0f hb q1t
   simp only [t6, hc2, q9e, tt, bb, bc, ↓bd, Nat.reduceEqDiff, Nat.reduceAdd, ↓reduceIte]
   exact q0r hb hm2 q1t (by omega) hk
set_option maxRecDepth 20000 in
theorem v0e {M : Mch} {n g : Nat} {A : Nat → Blk} {s : St} {a b c : Vl} (h : MS M n A s) (he : s.err = 0) (ha : AS M g n A [a, b, c]) (oa : okV a = true) (ob : okV b = true) (oc : okV c = true)
  (hk : ∀ n' A', MS M n' A' (q1v (ap3 a b c) s).2 → Keep M.b n A A' → n ≤ n' → q0d Cx fn (putA T dst (q1o (q1v (ap3 a b c) s).1)) ds ro os k ⟨n', A'⟩ Q) :
  q0g Cx fn T ds ro 53 [.ptr M.b 22 0 0, .str (q0e 16), .slc g 5 0 3] dst os k ⟨n, A⟩ Q := by
 have eap : ap3 a b c = if a.k = 1 ∧ b.k = 0 ∧ c.k = 0 then (if (0 ≤ b.n ∧ b.n ≤ c.n) ∧ c.n ≤ a.s.length then .val (tV ((a.s.take c.n.toNat).drop b.n.toNat)) else .bad 14) else .bad 13 := rfl
 have hb := h.lt
 refine q8x (a := a) (r := [b, c]) h ha (vok3 oa ob oc) (w := q0e 16) (want := [115, 110, 110]) rfl rfl (by simp) ?_ ?_
 ·intro hkk n' A' hm hkp hn
  rw [j4d oa ob oc] at hkk
  rw [eap, if_neg (by simpa using hkk), q0m he] at hk
  exact hk n' A' hm hkp hn
 ·intro hkk n' A' T' hm ha' hkp hn t0 t1 t2 t6 t8
  rw [j4d oa ob oc] at hkk
  have k1 : a.k = 1 ∧ b.k = 0 ∧ c.k = 0 := by simpa using hkk
  rw [eap, if_pos k1] at hk
  have hc := q0f hb hkp
  have hg' : A' g = .cells 26 5 [[.int .i64 a.k, .int .i64 a.n, .str a.s, .int .i64 a.x, .int .i64 a.y], [.int .i64 b.k, .int .i64 b.n, .str b.s, .int .i64 b.x, .int .i64 b.y], [.int .i64 c.k, .int .i64 c.n, .str c.s, .int .i64 c.x, .int .i64 c.y]] := ha'.cell
  have i2 : (2 : Int).toNat = 2 := rfl
  replace t2 : T' 2 = .slc g 5 0 3 := t2
  have bad : ∀ (hk : ∀ n' A', MS M n' A' (q1f 14 s) → Keep M.b n A A' → n ≤ n' → q0d Cx fn (putA T dst (q1o zV)) ds ro os k ⟨n', A'⟩ Q), ∀ n2 A2, MS M n2 A2 (q1f 14 s) → Keep M.b n' A' A2 → n' ≤ n2 → ∀ X, q0d Cx fn (putA T dst (q1o zV)) ds ro os k ⟨n2, upd A2 n X⟩ Q := by
   intro hk n2 A2 hm2 q1k hn2 X
   exact q0r hb hm2 (hkp.trans hn q1k) (by omega) hk
  by_cases c1 : b.n < 0
  ·rw [if_neg (by omega), q0m he] at hk
   simp only [t0, t1, t2, hg', x6u, c1, Int.toNat_one, r53_0, tt, bb, bc, ↓bd, Nat.reduceEqDiff, ↓reduceIte, reduceCtorEq, Int.reduceLT, Int.reduceLE]
   refine q1e hm ?_
   intro n2 A2 hm2 q1k hn2
   have hc2 := q0f hb (hkp.trans hn q1k)
   simp only [t6, hc2, q9e, tt, bb, bc, ↓bd, Nat.reduceEqDiff, Nat.reduceAdd, ↓reduceIte]
   exact bad hk n2 A2 hm2 q1k hn2 _
  ·by_cases c2 : c.n < b.n
   ·rw [if_neg (by omega), q0m he] at hk
    simp only [t0, t1, t2, hg', x6u, c1, c2, i2, Int.toNat_one, r53_0, tt, bb, bc, ↓bd, Nat.reduceEqDiff, ↓reduceIte, reduceCtorEq, Int.reduceLT, Int.reduceLE]
    refine q1e hm ?_
    intro n2 A2 hm2 q1k hn2
    have hc2 := q0f hb (hkp.trans hn q1k)
    simp only [t6, hc2, q9e, tt, bb, bc, ↓bd, Nat.reduceEqDiff, Nat.reduceAdd, ↓reduceIte]
    exact bad hk n2 A2 hm2 q1k hn2 _
   ·by_cases c3 : (a.s.length : Int) < c.n
    ·rw [if_neg (by omega), q0m he] at hk
     simp only [t0, t1, t2, t8, hg', x6u, c1, c2, c3, i2, i64, Int.toNat_one, r53_0, tt, bb, bc, ↓bd, Nat.reduceEqDiff, ↓reduceIte, reduceCtorEq, Int.reduceLT, Int.reduceLE]
     refine q1e hm ?_
     intro n2 A2 hm2 q1k hn2
     have hc2 := q0f hb (hkp.trans hn q1k)
     simp only [t6, hc2, q9e, tt, bb, bc, ↓bd, Nat.reduceEqDiff, Nat.reduceAdd, ↓reduceIte]
     exact bad hk n2 A2 hm2 q1k hn2 _
    ·rw [if_pos (by omega)] at hk
     have hsl : q4r Cx 9 (.str a.s) (some (.int .i64 b.n)) (some (.int .i64 c.n)) none = some (.str ((a.s.take c.n.toNat).drop b.n.toNat)) := by
      unfold q4r
      rw [x6r]
      simp only [j4t, z3h]
      rw [if_pos (by omega)]
      simp only
      rw [if_pos (by omega)]
      rfl
     simp only [t1, t2, t6, t8, hc, hg', x6u, c1, c2, c3, i2, hsl, evo, i64, Int.toNat_one, q0a j3n rfl (q8d ((a.s.take c.n.toNat).drop b.n.toNat)), r53_0, q9e, tt, bb, bc, ↓bd, Nat.reduceEqDiff, Nat.reduceAdd, ↓reduceIte, Int.reduceLT, Int.reduceLE]
     exact q0r hb hm hkp hn hk
theorem w5u {M : Mch} {n g : Nat} {A : Nat → Blk} {s : St} {a b : Vl} (h : MS M n A s) (he : s.err = 0) (ha : AS M g n A [a, b]) (oa : okV a = true) (ob : okV b = true)
  (hk : ∀ n' A', MS M n' A' (q1v (ap2 17 a b s.out.length) s).2 → Keep M.b n A A' → n ≤ n' → q0d Cx fn (putA T dst (q1o (q1v (ap2 17 a b s.out.length) s).1)) ds ro os k ⟨n', A'⟩ Q) :
  q0g Cx fn T ds ro 53 [.ptr M.b 22 0 0, .str (q0e 17), .slc g 5 0 2] dst os k ⟨n, A⟩ Q := by
 have eap : ap2 17 a b s.out.length = if a.k = 1 ∧ b.k = 0 then (if 0 ≤ b.n ∧ b.n < (q1u a.s).length then .val (tV ((q1u a.s).getD b.n.toNat [])) else .bad 14) else .bad 13 := rfl
 have hb := h.lt
 refine q8x (a := a) (r := [b]) h ha (v0a oa ob) (w := q0e 17) (want := [115, 110]) rfl rfl (by simp) ?_ ?_
 ·intro hkk n' A' hm hkp hn
  rw [j8r oa ob] at hkk
  rw [eap, if_neg (by simpa using hkk), q0m he] at hk
  exact hk n' A' hm hkp hn
 ·intro hkk n' A' T' hm ha' hkp hn t0 t1 t2 t6 t8
  rw [j8r oa ob] at hkk
  have k1 : a.k = 1 ∧ b.k = 0 := by simpa using hkk
  rw [eap, if_pos k1] at hk
  have hc := q0f hb hkp
  have hg' : A' g = .cells 26 5 [[.int .i64 a.k, .int .i64 a.n, .str a.s, .int .i64 a.x, .int .i64 a.y], [.int .i64 b.k, .int .i64 b.n, .str b.s, .int .i64 b.x, .int .i64 b.y]] := ha'.cell
  have hw := j8p (s := a.s) (by have := z7o oa k1.1; omega)
  replace t2 : T' 2 = .slc g 5 0 2 := t2
  have bad : ∀ (hk : ∀ n' A', MS M n' A' (q1f 14 s) → Keep M.b n A A' → n ≤ n' → q0d Cx fn (putA T dst (q1o zV)) ds ro os k ⟨n', A'⟩ Q), ∀ n2 A2, MS M n2 A2 (q1f 14 s) → Keep M.b n' A' A2 → n' ≤ n2 → ∀ X, q0d Cx fn (putA T dst (q1o zV)) ds ro os k ⟨n2, upd A2 n X⟩ Q := by
   intro hk n2 A2 hm2 q1k hn2 X
   exact q0r hb hm2 (hkp.trans hn q1k) (by omega) hk
  by_cases c1 : b.n < 0
  ·rw [if_neg (by omega), q0m he] at hk
   simp only [t0, t1, t2, t8, hg', y1y, c1, Int.toNat_one, q0a j7x rfl hw, r53_0, tt, bb, bc, ↓bd, Nat.reduceEqDiff, ↓reduceIte, reduceCtorEq, Int.reduceLT, Int.reduceLE]
   refine q1e hm ?_
   intro n2 A2 hm2 q1k hn2
   have hc2 := q0f hb (hkp.trans hn q1k)
   simp only [t6, hc2, q9e, tt, bb, bc, ↓bd, Nat.reduceEqDiff, Nat.reduceAdd, ↓reduceIte]
   exact bad hk n2 A2 hm2 q1k hn2 _
  ·by_cases c2 : ((q1u a.s).length : Int) ≤ b.n
   ·rw [if_neg (by omega), q0m he] at hk
    simp only [t0, t1, t2, t8, hg', y1y, c1, c2, i64, Int.toNat_one, List.length_map, q0a j7x rfl hw, r53_0, tt, bb, bc, ↓bd, Nat.reduceEqDiff, ↓reduceIte, reduceCtorEq, Int.reduceLT, Int.reduceLE]
    refine q1e hm ?_
    intro n2 A2 hm2 q1k hn2
    have hc2 := q0f hb (hkp.trans hn q1k)
    simp only [t6, hc2, q9e, tt, bb, bc, ↓bd, Nat.reduceEqDiff, Nat.reduceAdd, ↓reduceIte]
    exact bad hk n2 A2 hm2 q1k hn2 _
   ·rw [if_pos (by omega)] at hk
    have hlt : b.n.toNat < (q1u a.s).length := by omega
    have gg : ((q1u a.s).map fun w => [AV.str w])[b.n.toNat]? = some [.str ((q1u a.s).getD b.n.toNat [])] := by
     rw [List.getElem?_map, List.getElem?_eq_getElem hlt, List.getD_eq_getElem?_getD, List.getElem?_eq_getElem hlt]; rfl
    have p0 : 0 ≤ b.n := by omega
    have p1 : b.n < ((q1u a.s).length : Int) := by omega
    simp only [t1, t2, t6, t8, hc, hg', y1y, c1, c2, p0, p1, gg, i64, Int.toNat_one, List.length_map, q0a j7x rfl hw, q0a j3n rfl (q8d ((q1u a.s).getD b.n.toNat [])), r53_0, q9e, tt, bb, bc, ↓bd, Nat.reduceEqDiff, Nat.reduceAdd, ↓reduceIte, Int.reduceLT, Int.reduceLE]
    exact q0r hb hm hkp hn hk
theorem v0f {M : Mch} {n g : Nat} {A : Nat → Blk} {s : St} {a : Vl} (h : MS M n A s) (he : s.err = 0) (ha : AS M g n A [a]) (oa : okV a = true)
  (hk : ∀ n' A', MS M n' A' (q1v (ap1 19 a) s).2 → Keep M.b n A A' → n ≤ n' → q0d Cx fn (putA T dst (q1o (q1v (ap1 19 a) s).1)) ds ro os k ⟨n', A'⟩ Q) :
  q0g Cx fn T ds ro 53 [.ptr M.b 22 0 0, .str (q0e 19), .slc g 5 0 1] dst os k ⟨n, A⟩ Q := by
 have eap : ap1 19 a = if a.k = 1 then j1a a.s else .bad 13 := rfl
 have hb := h.lt
 refine q8x (a := a) (r := []) h ha (y8d oa) (w := q0e 19) (want := [115]) rfl rfl (by simp) ?_ ?_
 ·intro hkk n' A' hm hkp hn
  rw [z2h oa] at hkk
  rw [eap, if_neg (by simpa using hkk), q0m he] at hk
  exact hk n' A' hm hkp hn
 ·intro hkk n' A' T' hm ha' hkp hn t0 t1 t2 t6 t8
  rw [z2h oa] at hkk
  have k1 : a.k = 1 := by simpa using hkk
  rw [eap, if_pos k1] at hk
  have hc := q0f hb hkp
  have nn : (n = n') = False := eq_false (by omega)
  have uu : ∀ (X Y : Blk), upd (upd A' n' X) n' Y = upd A' n' Y := fun X Y => z4f A' n' X Y
  have hp := x4i (s := a.s) (by have := z7o oa k1; omega)
  have fail : ∀ (hk : ∀ n' A', MS M n' A' (q1f 6 s) → Keep M.b n A A' → n ≤ n' → q0d Cx fn (putA T dst (q1o zV)) ds ro os k ⟨n', A'⟩ Q), ∀ X n2 A2, MS M n2 A2 (q1f 6 s) → Keep M.b (n' + 1) (upd A' n' X) A2 → n' + 1 ≤ n2 → ∀ X, q0d Cx fn (putA T dst (q1o zV)) ds ro os k ⟨n2, upd A2 n X⟩ Q := by
   intro hk X n2 A2 hm2 q1k hn2 Y
   exact q0r hb hm2 ((hkp.up1 hn X).trans (by omega) q1k) (by omega) hk
  have cellz : ∀ X A2, Keep M.b (n' + 1) (upd A' n' X) A2 → A2 n = .cells 26 5 [[.int .i64 0, .int .i64 0, .str [], .int .i64 0, .int .i64 0]] := fun X A2 q1k => q0f hb ((hkp.up1 hn X).trans (by omega) q1k)
  cases hpx : z1h a.s with
  | error e =>
   have en : j1a a.s = .bad 6 := by unfold j1a; rw [hpx]
   rw [en, q0m he] at hk
   rw [hpx] at hp
   have e0 : (e != 0) = true := by
    have := x0p hpx
    rcases this with rfl | rfl | rfl | rfl | rfl <;> rfl
   have hp' : q0k Cx 45 [.str a.s] (.tuple [val 0 0 [] 0 0, .int .i64 0, .int .i64 e]) := hp
   simp only [t0, t1, t8, uu, x6v, e0, q0a j7v rfl hp', xx, r53_0, tt, bb, bc, ↓bd, Nat.reduceEqDiff, Nat.reduceAdd, ↓reduceIte, reduceCtorEq]
   refine q1e (hm.up1 _) ?_
   intro n2 A2 hm2 q1k hn2
   have hc2 := cellz _ A2 q1k
   simp only [t6, hc2, q9e, tt, bb, bc, ↓bd, Nat.reduceEqDiff, Nat.reduceAdd, ↓reduceIte]
   exact fail hk _ n2 A2 hm2 q1k hn2 _
  | ok p =>
   obtain ⟨v, i⟩ := p
   have en : j1a a.s = if i = a.s.length ∧ v.k = 0 then .val v else .bad 6 := by unfold j1a; rw [hpx]
   rw [en] at hk
   rw [hpx] at hp
   have hp' : q0k Cx 45 [.str a.s] (.tuple [.agg [.int .i64 v.k, .int .i64 v.n, .str v.s, .int .i64 v.x, .int .i64 v.y], .int .i64 (i : Int), .int .i64 0]) := hp
   have z0 : ((0 : Int) != 0) = false := rfl
   by_cases hi : i = a.s.length
   ·have z1 : ((i : Int) != (a.s.length : Int)) = false := by simp [hi]
    by_cases hvk : v.k = 0
    ·rw [if_pos ⟨hi, hvk⟩] at hk
     have z2 : (v.k != 0) = false := by simp [hvk]
     simp only [t1, t6, t8, hc, nn, uu, x6v, z0, z1, z2, i64, q0a j7v rfl hp', xx, r53_0, q9e, tt, bb, bc, ↓bd, Nat.reduceEqDiff, Nat.reduceAdd, ↓reduceIte]
     exact q0r hb (hm.up1 _) (hkp.up1 hn _) (by omega) hk
    ·rw [if_neg (by simp [hvk]), q0m he] at hk
     have z2 : (v.k != 0) = true := by simpa using hvk
     simp only [t0, t1, t8, uu, x6v, z0, z1, z2, i64, q0a j7v rfl hp', xx, r53_0, tt, bb, bc, ↓bd, Nat.reduceEqDiff, Nat.reduceAdd, ↓reduceIte, reduceCtorEq]
     refine q1e (hm.up1 _) ?_
     intro n2 A2 hm2 q1k hn2
     have hc2 := cellz _ A2 q1k
     simp only [t6, hc2, q9e, tt, bb, bc, ↓bd, Nat.reduceEqDiff, Nat.reduceAdd, ↓reduceIte]
     exact fail hk _ n2 A2 hm2 q1k hn2 _
   ·rw [if_neg (by simp [hi]), q0m he] at hk
    have z1 : ((i : Int) != (a.s.length : Int)) = true := by simp; omega
    simp only [t0, t1, t8, uu, x6v, z0, z1, i64, q0a j7v rfl hp', xx, r53_0, tt, bb, bc, ↓bd, Nat.reduceEqDiff, Nat.reduceAdd, ↓reduceIte, reduceCtorEq]
    refine q1e (hm.up1 _) ?_
    intro n2 A2 hm2 q1k hn2
    have hc2 := cellz _ A2 q1k
    simp only [t6, hc2, q9e, tt, bb, bc, ↓bd, Nat.reduceEqDiff, Nat.reduceAdd, ↓reduceIte]
    exact fail hk _ n2 A2 hm2 q1k hn2 _
end
def j6r (op : Int) : FuncId := if op ≤ 6 then 51 else if op = 8 ∨ op = 12 ∨ op = 13 then 52 else if 14 ≤ op ∧ op ≤ 19 then 53 else if 22 ≤ op ∧ op ≤ 25 then 54 else 55
theorem x9k {op : Int} (h : q4n op = true) (h1 : op ≠ 11 ∧ op ≠ 28 ∧ op ≠ 29) (b : Nat) (H : AHeap) : ∃ n, exec Cx n { fn := 31, T := q1g [.ptr b 22 0 0, .str (q0e op)], defers := [], round := none } [.code c31_0] H = some (.fn (j6r op) [.ptr b 22 0 0] [], H) := by
 have hc : op = 2 ∨ op = 3 ∨ op = 4 ∨ op = 5 ∨ op = 6 ∨ op = 7 ∨ op = 8 ∨ op = 9 ∨ op = 10 ∨ op = 12 ∨ op = 13 ∨ op = 14 ∨ op = 15 ∨ op = 16 ∨ op = 17 ∨ op = 18 ∨ op = 19 ∨ op = 20 ∨ op = 21 ∨ op = 22 ∨ op = 23 ∨ op = 24 ∨ op = 25 ∨ op = 26 ∨ op = 27 := by
  unfold q4n at h
  simp only [Bool.and_eq_true, decide_eq_true_eq] at h
  omega
 rcases hc with rfl | rfl | rfl | rfl | rfl | rfl | rfl | rfl | rfl | rfl | rfl | rfl | rfl | rfl | rfl | rfl | rfl | rfl | rfl | rfl | rfl | rfl | rfl | rfl | rfl
 ·exact ⟨200, by kernel_rfl⟩
 ·exact ⟨200, by kernel_rfl⟩
 ·exact ⟨200, by kernel_rfl⟩
 ·exact ⟨200, by kernel_rfl⟩
 ·exact ⟨200, by kernel_rfl⟩
 ·exact ⟨200, by kernel_rfl⟩
 ·exact ⟨200, by kernel_rfl⟩
 ·exact ⟨200, by kernel_rfl⟩
 ·exact ⟨200, by kernel_rfl⟩
 ·exact ⟨200, by kernel_rfl⟩
 ·exact ⟨200, by kernel_rfl⟩
 ·exact ⟨200, by kernel_rfl⟩
 ·exact ⟨200, by kernel_rfl⟩
 ·exact ⟨200, by kernel_rfl⟩
 ·exact ⟨200, by kernel_rfl⟩
 ·exact ⟨200, by kernel_rfl⟩
 ·exact ⟨200, by kernel_rfl⟩
 ·exact ⟨200, by kernel_rfl⟩
 ·exact ⟨200, by kernel_rfl⟩
 ·exact ⟨200, by kernel_rfl⟩
 ·exact ⟨200, by kernel_rfl⟩
 ·exact ⟨200, by kernel_rfl⟩
 ·exact ⟨200, by kernel_rfl⟩
 ·exact ⟨200, by kernel_rfl⟩
 ·exact ⟨200, by kernel_rfl⟩
section
variable {fn : FuncId} {T : Nat → AV} {ds : List ADef} {ro : Option Nat} {k : List AItem} {Q : AV → AHeap → Prop} {dst : Option Nat} {os : List AO}
theorem x5g {op : Int} (h : q4n op = true) (h1 : op ≠ 11 ∧ op ≠ 28 ∧ op ≠ 29) {b : Nat} {H : AHeap} (hk : q0d Cx fn (putA T dst (.fn (j6r op) [.ptr b 22 0 0] [])) ds ro os k H Q) :
  q0g Cx fn T ds ro 31 [.ptr b 22 0 0, .str (q0e op)] dst os k H Q := by
 refine q0s w0o (q0l _) w0n ?_
 obtain ⟨m, hm⟩ := x9k h h1 b H
 exact ⟨m, _, _, hm, hk⟩
def apR (op : Int) (vs : List Vl) (n : Nat) : AR := match vs with
 | [a] => ap1 op a
 | [a, b] => ap2 op a b n
 | [a, b, c] => ap3 a b c
 | _ => .bad 0
theorem x0u {M : Mch} {n g : Nat} {A : Nat → Blk} {s : St} {op : Int} {vs : List Vl} (h : MS M n A s) (he : s.err = 0) (ha : AS M g n A vs) (hok : ∀ v, v ∈ vs → okV v = true) (ho : s.out.length ≤ 64) (hop : q4n op = true) (h1 : op ≠ 11 ∧ op ≠ 28 ∧ op ≠ 29) (hp : q1b op = vs.length)
  (hk : ∀ n' A', MS M n' A' (q1v (apR op vs s.out.length) s).2 → Keep M.b n A A' → n ≤ n' → q0d Cx fn (putA T dst (q1o (q1v (apR op vs s.out.length) s).1)) ds ro os k ⟨n', A'⟩ Q) :
  q0g Cx fn T ds ro (j6r op) [.ptr M.b 22 0 0, .str (q0e op), .slc g 5 0 vs.length] dst os k ⟨n, A⟩ Q := by
 have hc : op = 2 ∨ op = 3 ∨ op = 4 ∨ op = 5 ∨ op = 6 ∨ op = 7 ∨ op = 8 ∨ op = 9 ∨ op = 10 ∨ op = 12 ∨ op = 13 ∨ op = 14 ∨ op = 15 ∨ op = 16 ∨ op = 17 ∨ op = 18 ∨ op = 19 ∨ op = 20 ∨ op = 21 ∨ op = 22 ∨ op = 23 ∨ op = 24 ∨ op = 25 ∨ op = 26 ∨ op = 27 := by
  unfold q4n at hop
  simp only [Bool.and_eq_true, decide_eq_true_eq] at hop
  omega
 match vs, hp, ha, hok, hk with
 | [], hp, _, _, _ => have := q2h hop; simp at hp; omega
 | [a], hp, ha, hok, hk =>
  have oa := hok a (by simp)
  rcases hc with rfl | rfl | rfl | rfl | rfl | rfl | rfl | rfl | rfl | rfl | rfl | rfl | rfl | rfl | rfl | rfl | rfl | rfl | rfl | rfl | rfl | rfl | rfl | rfl | rfl
  ·cases hp
  ·cases hp
  ·cases hp
  ·cases hp
  ·cases hp
  ·exact q8f h he ha oa (by decide) hk
  ·cases hp
  ·cases hp
  ·exact q8f h he ha oa (by decide) hk
  ·cases hp
  ·cases hp
  ·cases hp
  ·exact v0c h he ha oa hk
  ·cases hp
  ·cases hp
  ·exact y6k h he ha oa hk
  ·exact v0f h he ha oa hk
  ·exact q8f h he ha oa (by decide) hk
  ·cases hp
  ·exact q8w h he ha oa (by decide) hk
  ·exact q8w h he ha oa (by decide) hk
  ·exact q8w h he ha oa (by decide) hk
  ·exact q8w h he ha oa (by decide) hk
  ·cases hp
  ·cases hp
 | [a, b], hp, ha, hok, hk =>
  have oa := hok a (by simp)
  have ob := hok b (by simp)
  rcases hc with rfl | rfl | rfl | rfl | rfl | rfl | rfl | rfl | rfl | rfl | rfl | rfl | rfl | rfl | rfl | rfl | rfl | rfl | rfl | rfl | rfl | rfl | rfl | rfl | rfl
  ·exact q8e h he ha oa ob (by decide) hk
  ·exact q8e h he ha oa ob (by decide) hk
  ·exact q8e h he ha oa ob (by decide) hk
  ·exact q8e h he ha oa ob (by decide) hk
  ·exact q8e h he ha oa ob (by decide) hk
  ·cases hp
  ·exact z0e h he ha (by decide) hk
  ·exact q5x h he ha oa ob ho (by decide) hk
  ·cases hp
  ·exact z0e h he ha (by decide) hk
  ·exact z0e h he ha (by decide) hk
  ·exact v0d h he ha oa ob hk
  ·cases hp
  ·cases hp
  ·exact w5u h he ha oa ob hk
  ·cases hp
  ·cases hp
  ·cases hp
  ·exact q5x h he ha oa ob ho (by decide) hk
  ·cases hp
  ·cases hp
  ·cases hp
  ·cases hp
  ·exact q5x h he ha oa ob ho (by decide) hk
  ·exact q5x h he ha oa ob ho (by decide) hk
 | [a, b, c], hp, ha, hok, hk =>
  have oa := hok a (by simp)
  have ob := hok b (by simp)
  have oc := hok c (by simp)
  rcases hc with rfl | rfl | rfl | rfl | rfl | rfl | rfl | rfl | rfl | rfl | rfl | rfl | rfl | rfl | rfl | rfl | rfl | rfl | rfl | rfl | rfl | rfl | rfl | rfl | rfl
  ·cases hp
  ·cases hp
  ·cases hp
  ·cases hp
  ·cases hp
  ·cases hp
  ·cases hp
  ·cases hp
  ·cases hp
  ·cases hp
  ·cases hp
  ·cases hp
  ·cases hp
  ·exact v0e h he ha oa ob oc hk
  ·cases hp
  ·cases hp
  ·cases hp
  ·cases hp
  ·cases hp
  ·cases hp
  ·cases hp
  ·cases hp
  ·cases hp
  ·cases hp
  ·cases hp
 | a :: b :: c :: e :: r, hp, _, _, _ => have := q2h hop; simp at hp; omega
end
def opE : Ex → Int
 | .lit _ => 0
 | .nam _ => 1
 | .op1 op _ => op
 | .op2 op _ _ => op
 | .op3 op _ _ _ => op
def q2r : Ex → Vl
 | .lit v => v
 | .nam n => nV n
 | _ => zV
def q7e : Ex → List Ex
 | .lit _ => []
 | .nam _ => []
 | .op1 _ a => [a]
 | .op2 _ a b => [a, b]
 | .op3 _ a b c => [a, b, c]
theorem z6v (t : Ex) : q0o t = ⟨opE t, q2r t⟩ :: (q7e t).flatMap q0o := by
 cases t <;> simp [q0o, opE, q2r, q7e]
theorem q8y {t : Ex} (h : WF t) : q1b (opE t) = (q7e t).length ∧ ∀ c, c ∈ q7e t → WF c := by
 cases t with
 | lit v => exact ⟨rfl, fun c hc => by cases hc⟩
 | nam n => exact ⟨rfl, fun c hc => by cases hc⟩
 | op1 op a => exact ⟨h.1.2, fun c hc => by simp [q7e] at hc; rw [hc]; exact h.2⟩
 | op2 op a b => exact ⟨h.1.2, fun c hc => by simp [q7e] at hc; rcases hc with rfl | rfl; exact h.2.1; exact h.2.2⟩
 | op3 op a b c => exact ⟨h.1.2, fun c hc => by simp [q7e] at hc; rcases hc with rfl | rfl | rfl; exact h.2.1; exact h.2.2.1; exact h.2.2.2⟩
theorem q5y {op : Int} (h : q4n op = true) : 2 ≤ op ∧ op ≤ 29 := by
 unfold q4n at h
 simpa using h
theorem j8s : ∀ (t t' : Ex) (r r' : List Nd), WF t → WF t' → q0o t ++ r = q0o t' ++ r' → t = t' ∧ r = r' := by
 intro t
 induction t with
 | lit v =>
  intro t' r r' h h' e
  cases t' with
  | lit v' => simp [q0o] at e; obtain ⟨rfl, rfl⟩ := e; exact ⟨rfl, rfl⟩
  | nam n => simp [q0o] at e
  | op1 op a => have := q5y h'.1.1; simp [q0o] at e; omega
  | op2 op a b => have := q5y h'.1.1; simp [q0o] at e; omega
  | op3 op a b c => have := q5y h'.1.1; simp [q0o] at e; omega
 | nam n =>
  intro t' r r' h h' e
  cases t' with
  | lit v' => simp [q0o] at e
  | nam n => simp [q0o] at e; obtain ⟨rfl, rfl⟩ := e; exact ⟨rfl, rfl⟩
  | op1 op a => have := q5y h'.1.1; simp [q0o] at e; omega
  | op2 op a b => have := q5y h'.1.1; simp [q0o] at e; omega
  | op3 op a b c => have := q5y h'.1.1; simp [q0o] at e; omega
 | op1 op a iha =>
  intro t' r r' h h' e
  have h2 := q5y h.1.1
  cases t' with
  | lit v' => simp [q0o] at e; omega
  | nam n => simp [q0o] at e; omega
  | op1 op' a' =>
   simp only [q0o, List.cons_append, List.cons.injEq, Nd.mk.injEq, and_true] at e
   obtain ⟨rfl, e⟩ := e
   obtain ⟨rfl, rfl⟩ := iha a' r r' h.2 h'.2 e
   exact ⟨rfl, rfl⟩
  | op2 op' a' b' =>
   simp only [q0o, List.cons_append, List.cons.injEq, Nd.mk.injEq, and_true] at e
   obtain ⟨rfl, e⟩ := e
   have := h.1.2; rw [h'.1.2] at this; cases this
  | op3 op' a' b' c' =>
   simp only [q0o, List.cons_append, List.cons.injEq, Nd.mk.injEq, and_true] at e
   obtain ⟨rfl, e⟩ := e
   have := h.1.2; rw [h'.1.2] at this; cases this
 | op2 op a b iha ihb =>
  intro t' r r' h h' e
  have h2 := q5y h.1.1
  cases t' with
  | lit v' => simp [q0o] at e; omega
  | nam n => simp [q0o] at e; omega
  | op1 op' a' =>
   simp only [q0o, List.cons_append, List.cons.injEq, Nd.mk.injEq, and_true] at e
   obtain ⟨rfl, e⟩ := e
   have := h.1.2; rw [h'.1.2] at this; cases this
  | op2 op' a' b' =>
   simp only [q0o, List.cons_append, List.cons.injEq, Nd.mk.injEq, and_true, List.append_assoc] at e
   obtain ⟨rfl, e⟩ := e
   obtain ⟨rfl, e1⟩ := iha a' _ _ h.2.1 h'.2.1 e
   obtain ⟨rfl, rfl⟩ := ihb b' _ _ h.2.2 h'.2.2 e1
   exact ⟨rfl, rfl⟩
  | op3 op' a' b' c' =>
   simp only [q0o, List.cons_append, List.cons.injEq, Nd.mk.injEq, and_true] at e
   obtain ⟨rfl, e⟩ := e
   have := h.1.2; rw [h'.1.2] at this; cases this
 | op3 op a b c iha ihb ihc =>
  intro t' r r' h h' e
  have h2 := q5y h.1.1
  cases t' with
  | lit v' => simp [q0o] at e; omega
  | nam n => simp [q0o] at e; omega
  | op1 op' a' =>
   simp only [q0o, List.cons_append, List.cons.injEq, Nd.mk.injEq, and_true] at e
   obtain ⟨rfl, e⟩ := e
   have := h.1.2; rw [h'.1.2] at this; cases this
  | op2 op' a' b' =>
   simp only [q0o, List.cons_append, List.cons.injEq, Nd.mk.injEq, and_true] at e
   obtain ⟨rfl, e⟩ := e
   have := h.1.2; rw [h'.1.2] at this; cases this
  | op3 op' a' b' c' =>
   simp only [q0o, List.cons_append, List.cons.injEq, Nd.mk.injEq, and_true, List.append_assoc] at e
   obtain ⟨rfl, e⟩ := e
   obtain ⟨rfl, e1⟩ := iha a' _ _ h.2.1 h'.2.1 e
   obtain ⟨rfl, e2⟩ := ihb b' _ _ h.2.2.1 h'.2.2.1 e1
   obtain ⟨rfl, rfl⟩ := ihc c' _ _ h.2.2.2 h'.2.2.2 e2
   exact ⟨rfl, rfl⟩
def Tree (l : List Nd) (p : Nat) (t : Ex) : Prop := WF t ∧ ∃ rest, l.drop p = q0o t ++ rest
theorem Tree.uniq {l : List Nd} {p : Nat} {t t' : Ex} (h : Tree l p t) (h' : Tree l p t') : t = t' := by
 obtain ⟨h1, r, e⟩ := h
 obtain ⟨h2, r', e'⟩ := h'
 exact (j8s t t' r r' h1 h2 (e.symm.trans e')).1
theorem z1k {l r : List Nd} {i : Nat} (h : l.length ≤ i) : (l ++ r).drop i = r.drop (i - l.length) := by
 rw [List.drop_append]
 rw [List.drop_of_length_le h]; rfl
theorem x5h : ∀ (t : Ex), WF t → ∀ (rest : List Nd) (i : Nat), i < (q0o t).length → ∃ t', Tree (q0o t ++ rest) i t' := by
 intro t
 induction t with
 | lit v => intro h rest i hi; simp [q0o] at hi; subst hi; exact ⟨.lit v, h, rest, rfl⟩
 | nam n => intro h rest i hi; simp [q0o] at hi; subst hi; exact ⟨.nam n, h, rest, rfl⟩
 | op1 op a iha =>
  intro h rest i hi
  cases i with
  | zero => exact ⟨.op1 op a, h, rest, rfl⟩
  | succ i =>
   simp [q0o] at hi
   obtain ⟨t', h1, r', e⟩ := iha h.2 rest i hi
   exact ⟨t', h1, r', e⟩
 | op2 op a b iha ihb =>
  intro h rest i hi
  cases i with
  | zero => exact ⟨.op2 op a b, h, rest, rfl⟩
  | succ i =>
   simp [q0o] at hi
   by_cases hl : i < (q0o a).length
   ·obtain ⟨t', h1, r', e⟩ := iha h.2.1 (q0o b ++ rest) i hl
    exact ⟨t', h1, r', by rw [← e]; simp [q0o]⟩
   ·obtain ⟨t', h1, r', e⟩ := ihb h.2.2 rest (i - (q0o a).length) (by omega)
    exact ⟨t', h1, r', by rw [← e]; simp only [q0o, List.cons_append, List.drop_succ_cons, List.append_assoc]; rw [z1k (by omega)]⟩
 | op3 op a b c iha ihb ihc =>
  intro h rest i hi
  cases i with
  | zero => exact ⟨.op3 op a b c, h, rest, rfl⟩
  | succ i =>
   simp [q0o] at hi
   by_cases hl : i < (q0o a).length
   ·obtain ⟨t', h1, r', e⟩ := iha h.2.1 (q0o b ++ (q0o c ++ rest)) i hl
    exact ⟨t', h1, r', by rw [← e]; simp [q0o]⟩
   ·by_cases hl2 : i - (q0o a).length < (q0o b).length
    ·obtain ⟨t', h1, r', e⟩ := ihb h.2.2.1 (q0o c ++ rest) (i - (q0o a).length) hl2
     exact ⟨t', h1, r', by rw [← e]; simp only [q0o, List.cons_append, List.drop_succ_cons, List.append_assoc]; rw [z1k (by omega)]⟩
    ·obtain ⟨t', h1, r', e⟩ := ihc h.2.2.2 rest (i - (q0o a).length - (q0o b).length) (by omega)
     exact ⟨t', h1, r', by rw [← e]; simp only [q0o, List.cons_append, List.drop_succ_cons, List.append_assoc]; rw [z1k (by omega), z1k (by omega)]⟩
inductive Kids (l : List Nd) : Nat → List Ex → Nat → Prop where
 | nil (p : Nat) : Kids l p [] p
 | cons {p q : Nat} {t : Ex} {ts : List Ex} (h : Tree l p t) (hs : Kids l (p + (q0o t).length) ts q) : Kids l p (t :: ts) q
theorem x5i {l : List Nd} : ∀ (ts : List Ex) (p : Nat) (rest : List Nd), (∀ t, t ∈ ts → WF t) → l.drop p = ts.flatMap q0o ++ rest → Kids l p ts (p + (ts.flatMap q0o).length)
 | [], p, rest, _, _ => .nil p
 | t :: ts, p, rest, hw, e => by
  have e' : l.drop p = q0o t ++ (ts.flatMap q0o ++ rest) := by rw [e]; simp
  have h := x5i ts (p + (q0o t).length) rest (fun c hc => hw c (by simp [hc])) (by rw [← List.drop_drop, e']; simp)
  rw [show p + (List.flatMap q0o (t :: ts)).length = p + (q0o t).length + (ts.flatMap q0o).length by simp; omega]
  exact .cons ⟨hw t (by simp), _, e'⟩ h
theorem Tree.kids {l : List Nd} {p : Nat} {t : Ex} (h : Tree l p t) : Kids l (p + 1) (q7e t) (p + (q0o t).length) ∧ l[p]? = some ⟨opE t, q2r t⟩ := by
 obtain ⟨hw, rest, e⟩ := h
 rw [z6v t] at e
 have e2 : l.drop (p + 1) = (q7e t).flatMap q0o ++ rest := by rw [← List.drop_drop, e]; rfl
 have hk := x5i (q7e t) (p + 1) rest (q8y hw).2 e2
 refine ⟨?_, ?_⟩
 ·rw [z6v t, show p + (({ op := opE t, v := q2r t } : Nd) :: (q7e t).flatMap q0o).length = p + 1 + ((q7e t).flatMap q0o).length by simp; omega]
  exact hk
 ·have : (l.drop p)[0]? = some ⟨opE t, q2r t⟩ := by rw [e]; rfl
  rw [List.getElem?_drop] at this
  exact this
theorem Tree.lt {l : List Nd} {p : Nat} {t : Ex} (h : Tree l p t) : p + (q0o t).length ≤ l.length ∧ 1 ≤ (q0o t).length := by
 obtain ⟨hw, rest, e⟩ := h
 have := congrArg List.length e
 rw [List.length_drop, List.length_append] at this
 have h1 : 1 ≤ (q0o t).length := by rw [z6v t]; simp
 omega
def w8c (p : Nat) (t : Ex) : List AV := [.str (q0e (opE t)), .int .i64 (q1b (opE t) : Int), .int .i64 ((p + (q0o t).length : Nat) : Int)]
open Classical in
noncomputable def y6l (l : List Nd) (p : Nat) : List AV := if h : ∃ t, Tree l p t then w8c p h.choose else []
noncomputable def q3k (l : List Nd) : List (List AV) := (List.range l.length).map (y6l l)
theorem x5j {l : List Nd} {p : Nat} {t : Ex} (h : Tree l p t) : y6l l p = w8c p t := by
 unfold y6l
 rw [dif_pos ⟨t, h⟩]
 have := Exists.choose_spec (⟨t, h⟩ : ∃ t, Tree l p t)
 rw [this.uniq h]
theorem q6q {l : List Nd} {p : Nat} {t : Ex} (h : Tree l p t) : (q3k l)[p]? = some (w8c p t) := by
 have hl := h.lt
 unfold q3k
 rw [List.getElem?_map, List.getElem?_range (by omega), Option.map_some, x5j h]
theorem q3x (l : List Nd) : (q3k l).length = l.length := by unfold q3k; simp
theorem y2j {l : List Nd} {Q : AV → AHeap → Prop} {n g i : Nat} {A : Nat → Blk} {es : List (List AV)} {K : List AItem} {q : Nat} (hl : l.length ≤ 400) (hA : A g = .cells 76 3 es) (q2u : es.length = l.length) (hes : ∀ p, i < p → p < l.length → es[p]? = (q3k l)[p]?) :
  ∀ (ts : List Ex) (p k m : Nat) (T : Nat → AV), m = k + ts.length → Kids l p ts q → i < p → m ≤ 10 → T 3 = .slc g 3 0 l.length → T 8 = .int .i64 (p : Int) → T 32 = .int .i64 (k : Int) → T 31 = .int .i64 (m : Int) →
   (∀ T' : Nat → AV, T' 8 = .int .i64 (q : Int) → T' 0 = T 0 → T' 3 = T 3 → T' 4 = T 4 → T' 5 = T 5 → T' 6 = T 6 → Run Cx 15 T' [] none K ⟨n, A⟩ Q) →
   Run Cx 15 T [] none (.inLoop c15_26 :: .inBlock 2 :: K) ⟨n, A⟩ Q
 | [], p, k, m, T, hm, hk, hi, hb, t3, t8, t32, t31, hQ => by
  rw [run_inLoop]
  cases hk
  rw [List.length_nil] at hm
  have c0 : ¬ (k : Int) < (m : Int) := by omega
  simp only [t31, t32, c0, xx, r15_0, tt, bb, ↓bd, ↓reduceIte]
  refine hQ _ ?_ ?_ ?_ ?_ ?_ ?_
  all_goals simp only [q0b, t8, Nat.reduceEqDiff, ↓reduceIte]
 | t :: ts, p, k, m, T, hm, hk, hi, hb, t3, t8, t32, t31, hQ => by
  rw [run_inLoop]
  cases hk with
  | cons h hs =>
   have hlt := h.lt
   have hp := hes p hi (by omega)
   rw [q6q h] at hp
   have hp' : es[p]? = some [.str (q0e (opE t)), .int .i64 (q1b (opE t) : Int), .int .i64 ((p + (q0o t).length : Nat) : Int)] := hp
   rw [List.length_cons] at hm
   have c0 : (k : Int) < (m : Int) := by omega
   have p1 : (0 : Int) ≤ (p : Int) := by omega
   have p2 : (p : Int) < (l.length : Int) := by omega
   have w1 : IntKind.i64.wrap ((k : Int) + 1) = ((k + 1 : Nat) : Int) := by rw [wr64 (by omega) (by omega)]; omega
   simp only [t3, t8, t31, t32, c0, p1, p2, hp', hA, w1, Int.toNat_natCast, xx, r15_0, tt, bb, ↓bd, Nat.reduceEqDiff, ↓reduceIte]
   refine y2j hl hA q2u hes ts (p + (q0o t).length) (k + 1) m _ (by omega) hs (by omega) hb ?_ ?_ ?_ ?_ ?_
   ·simp only [q0b, t3, Nat.reduceEqDiff, ↓reduceIte]
   ·simp only [q0b, Nat.reduceEqDiff, ↓reduceIte]
   ·simp only [q0b, ↓reduceIte]
   ·simp only [q0b, t31, Nat.reduceEqDiff, ↓reduceIte]
   ·intro T' h8 h0 h3 h4 h5 h6
    refine hQ T' h8 ?_ ?_ ?_ ?_ ?_
    ·rw [h0]; simp only [q0b, Nat.reduceEqDiff, ↓reduceIte]
    ·rw [h3]; simp only [q0b, Nat.reduceEqDiff, ↓reduceIte]
    ·rw [h4]; simp only [q0b, Nat.reduceEqDiff, ↓reduceIte]
    ·rw [h5]; simp only [q0b, Nat.reduceEqDiff, ↓reduceIte]
    ·rw [h6]; simp only [q0b, Nat.reduceEqDiff, ↓reduceIte]
theorem y2k {l : List Nd} {Q : AV → AHeap → Prop} {n g : Nat} (hl : l.length ≤ 400) (hn : g < n) (ht : ∀ p, p < l.length → ∃ t, Tree l p t) (hop : ∀ p t, Tree l p t → 0 ≤ opE t ∧ opE t ≤ 100)
  (hQ : ∀ A', A' g = .cells 76 3 (q3k l) → Q (.slc g 3 0 l.length) ⟨n, A'⟩) : ∀ (j : Nat) (T : Nat → AV) (A : Nat → Blk), j ≤ l.length →
   T 0 = .vec 6 (l.map q2y) → T 3 = .slc g 3 0 l.length → T 4 = .int .i64 ((j : Int) - 1) → A g = .cells 76 3 (List.replicate j [.str [], .int .i64 0, .int .i64 0] ++ (q3k l).drop j) →
  Run Cx 15 T [] none [.inLoop c15_9, .inBlock 0, .code c15_38] ⟨n, A⟩ Q
 | 0, T, A, hj, t0, t3, t4, hA => by
  rw [run_inLoop]
  simp only [t3, t4, xx, r15_0, w8u, tt, bb, bc, ↓bd, Nat.reduceEqDiff, ↓reduceIte, Int.reduceLE, Int.reduceSub, Int.reduceNeg]
  exact hQ A hA
 | j + 1, T, A, hj, t0, t3, t4, hA => by
  rw [run_inLoop]
  obtain ⟨t, h⟩ := ht j (by omega)
  obtain ⟨hk, hg⟩ := h.kids
  have e1 : ((j + 1 : Nat) : Int) - 1 = (j : Int) := by omega
  rw [e1] at t4
  have p1 : (0 : Int) ≤ (j : Int) := by omega
  have c1 : (j : Int) < (l.length : Int) := by omega
  have c2 : j < l.length := by omega
  have w1 : IntKind.i64.wrap ((j : Int) + 1) = ((j + 1 : Nat) : Int) := by rw [wr64 (by omega) (by omega)]; omega
  have w2 : IntKind.i64.wrap ((j : Int) - 1) = (j : Int) - 1 := wr64 (by omega) (by omega)
  have g0 : (l.map q2y)[j]? = some [.int .i64 (opE t), .int .i64 (q2r t).k, .int .i64 (q2r t).n, .str (q2r t).s, .int .i64 (q2r t).x, .int .i64 (q2r t).y] := by rw [List.getElem?_map, hg]; rfl
  have hob := hop j t h
  have hpt := j8m (opE t) (by omega) (by omega)
  simp only [t0, t4, p1, c1, w1, g0, Int.toNat_natCast, List.length_map, q0a x3f rfl hpt, r15_0.2.1, tt, bb, bc, ↓bd, Nat.reduceEqDiff, ↓reduceIte, reduceCtorEq]
  have hkl := q8y h.1
  have q2u : (List.replicate (j + 1) [AV.str [], .int .i64 0, .int .i64 0] ++ (q3k l).drop (j + 1)).length = l.length := by rw [List.length_append, List.length_replicate, List.length_drop, q3x]; omega
  refine y2j (g := g) (i := j) hl hA q2u ?_ (q7e t) (j + 1) 0 (q1b (opE t)) _ (by rw [hkl.1]; omega) hk (by omega) ?_ ?_ ?_ ?_ ?_ ?_
  ·intro p h1 h2
   rw [List.getElem?_append_right (by rw [List.length_replicate]; omega), List.length_replicate, List.getElem?_drop, show j + 1 + (p - (j + 1)) = p by omega]
  ·cases hio : q4n (opE t) with
   | false => rw [(q8s hio).1]; omega
   | true => have := q2h hio; omega
  ·simp only [q0b, t3, Nat.reduceEqDiff, ↓reduceIte]
  ·simp only [q0b, Nat.reduceEqDiff, ↓reduceIte]
  ·simp only [q0b, ↓reduceIte]; rfl
  ·simp only [q0b, Nat.reduceEqDiff, ↓reduceIte]
  ·intro T' h8 h0 h3 h4 h5 h6
   simp only [q0b, t0, t3, t4, Nat.reduceEqDiff, ↓reduceIte] at h0 h3 h4 h5 h6
   have y0l : (List.replicate (j + 1) [AV.str [], .int .i64 0, .int .i64 0] ++ (q3k l).drop (j + 1)).set j [.str (q0e (opE t)), .int .i64 (q1b (opE t) : Int), .int .i64 ((j + (q0o t).length : Nat) : Int)] = List.replicate j [AV.str [], .int .i64 0, .int .i64 0] ++ (q3k l).drop j := by
    have e2 : (q3k l).drop j = w8c j t :: (q3k l).drop (j + 1) := by
     have hlt : j < (q3k l).length := by rw [q3x]; omega
     rw [List.drop_eq_getElem_cons hlt]
     have := q6q h
     rw [List.getElem?_eq_getElem hlt] at this
     rw [Option.some.inj this]
    rw [e2, List.set_append_left _ _ (by simp), List.replicate_succ', List.set_append_right _ _ (by simp), List.length_replicate, Nat.sub_self, List.set_cons_zero, List.append_assoc]
    rfl
   have gz : (List.replicate (j + 1) [AV.str [], .int .i64 0, .int .i64 0] ++ (q3k l).drop (j + 1))[j]? = some [.str [], .int .i64 0, .int .i64 0] := by
    rw [List.getElem?_append_left (by simp)]; simp
   simp only [h8, h3, h4, h5, h6, p1, c1, hA, gz, y0l, w2, Int.toNat_natCast, xx, r15_0.2.2.2.1, tt, bb, bc, ↓bd, Nat.reduceEqDiff, Nat.reduceAdd, Nat.reduceLeDiff, ↓reduceIte]
   refine y2k hl hn ht hop hQ j _ _ (by omega) ?_ ?_ ?_ ?_
   ·simp only [q0b, h0, Nat.reduceEqDiff, ↓reduceIte]
   ·simp only [q0b, h3, Nat.reduceEqDiff, ↓reduceIte]
   ·simp only [q0b, ↓reduceIte]
   ·simp only [q0b, ↓reduceIte]
theorem x9l {l : List Nd} {t0 : Ex} (hl : l.length ≤ 400) (hw : WF t0) (e : l = q0o t0) : q0k Cx 15 [.vec 6 (l.map q2y)] (.vec 3 (q3k l)) := by
 have ht : ∀ p, p < l.length → ∃ t, Tree l p t := by
  intro p hp
  rw [e] at hp
  have := x5h t0 hw [] p hp
  rw [List.append_nil, ← e] at this
  exact this
 have hop : ∀ p t, Tree l p t → 0 ≤ opE t ∧ opE t ≤ 100 := by
  intro p t h
  cases t with
  | lit v => exact ⟨Int.le_refl 0, by show (0 : Int) ≤ 100; omega⟩
  | nam v => exact ⟨by show (0 : Int) ≤ 1; omega, by show (1 : Int) ≤ 100; omega⟩
  | op1 op a => have := q5y h.1.1.1; exact ⟨by show 0 ≤ op; omega, by show op ≤ 100; omega⟩
  | op2 op a b => have := q5y h.1.1.1; exact ⟨by show 0 ≤ op; omega, by show op ≤ 100; omega⟩
  | op3 op a b c => have := q5y h.1.1.1; exact ⟨by show 0 ≤ op; omega, by show op ≤ 100; omega⟩
 refine q0c (q0l _) y9s ?_
 have p0 : (0 : Int) ≤ (l.length : Int) := by omega
 have m1 : (l.length : Int) * 32 ≤ (q2m : Int) := by unfold q2m; omega
 have m2 : (l.length : Int) ≤ (q2m : Int) := by unfold q2m; omega
 have w1 : IntKind.i64.wrap ((l.length : Int) - 1) = (l.length : Int) - 1 := wr64 (by omega) (by omega)
 simp only [p0, m1, m2, w1, Int.le_refl, i64, Int.toNat_natCast, List.length_map, q0i, r15_0.1, tt, bb, bc, ↓bd, ↓reduceIte, reduceCtorEq]
 refine y2k (l := l) (g := 0) hl (by omega) ht hop ?_ l.length _ _ (Nat.le_refl _) ?_ ?_ ?_ ?_
 ·intro A' hA'
  have hfl : ∀ p, p < l.length → q3t (q1h ⟨1, A'⟩ 3) (y6l l p) = some (y6l l p) := by
   intro p hp
   obtain ⟨t, h⟩ := ht p hp
   rw [x5j h]
   exact q4v (p := AV.flat1) (fun v hv => q3c hv) rfl
  have hfz : q3t (q3t (q1h ⟨1, A'⟩ 3)) (q3k l) = some (q3k l) := by
   have key : ∀ ps : List Nat, (∀ p, p ∈ ps → p < l.length) → q3t (q3t (q1h ⟨1, A'⟩ 3)) (ps.map (y6l l)) = some (ps.map (y6l l)) := by
    intro ps
    induction ps with
    | nil => intro _; rfl
    | cons p ps ih =>
     intro h
     rw [List.map_cons, q4l, ih (fun q hq => h q (by simp [hq])), hfl p (h p (by simp))]
     rfl
   exact key _ (fun p hp => List.mem_range.mp hp)
  have he : elems ⟨1, A'⟩ 3 (.slc 0 3 0 l.length) = some (q3k l) := by
   unfold elems
   simp only [hA']
   rw [if_pos ⟨trivial, trivial, by rw [q3x]; omega⟩, List.drop_zero, List.take_of_length_le (by rw [q3x]; exact Nat.le_refl _)]
  rw [q6o, he, q5h, hfz]
  rfl
 all_goals simp only [q0b, q1g, List.getElem?_cons_zero, Option.getD_some, Nat.reduceEqDiff, ↓reduceIte]
 rw [List.drop_of_length_le (by rw [q3x]; exact Nat.le_refl _), List.append_nil]
structure ML (M : Mch) (l : List Nd) : Prop where
 L : M.L = .vec 6 (l.map q2y)
 F : M.F = .vec 3 (q3k l)
 len : l.length ≤ 400
 env : Ek M.E
section
variable {fn : FuncId} {T : Nat → AV} {ds : List ADef} {ro : Option Nat} {k : List AItem} {Q : AV → AHeap → Prop} {dst : Option Nat} {os : List AO}
theorem z0f {M : Mch} {l : List Nd} (hM : ML M l) {n p : Nat} {A : Nat → Blk} {s : St} {t : Ex} (h : MS M n A s) (ht : Tree l p t)
  (hk : q0d Cx fn (putA T dst (.int .i64 ((p + (q0o t).length : Nat) : Int))) ds ro os k ⟨n, A⟩ Q) :
  q0g Cx fn T ds ro 30 [.ptr M.b 22 0 0, .int .i64 (p : Int)] dst os k ⟨n, A⟩ Q := by
 refine q0s w0m (q0l _) w0l ?_
 obtain ⟨hb, o, hA, ho⟩ := h
 have hF := hM.F
 have hlt := ht.lt
 have p0 : (0 : Int) ≤ (p : Int) := by omega
 have p1 : (p : Int) < ((q3k l).length : Int) := by rw [q3x]; omega
 have hg : (q3k l)[p]? = some [.str (q0e (opE t)), .int .i64 (q1b (opE t) : Int), .int .i64 ((p + (q0o t).length : Nat) : Int)] := q6q ht
 simp only [hA, hF, p0, p1, hg, Int.toNat_natCast, r30_0, w8x, tt, bb, bc, ↓bd, Nat.reduceEqDiff, ↓reduceIte, reduceCtorEq]
 exact hk
def DoC (M : Mch) (l : List Nd) (g : Nat) : Prop :=
 ∀ {fn : FuncId} {T : Nat → AV} {ds : List ADef} {ro : Option Nat} {k : List AItem} {Q : AV → AHeap → Prop} {dst : Option Nat} {os : List AO} {n p : Nat} {A : Nat → Blk} {s : St} {t : Ex}, MS M n A s → Sk s → Tree l p t → s.left ≤ g →
  (∀ n' A', MS M n' A' (ev M.E g t s).2 → Keep M.b n A A' → n ≤ n' → q0d Cx fn (putA T dst (q1o (ev M.E g t s).1)) ds ro os k ⟨n', A'⟩ Q) →
  q0g Cx fn T ds ro 16 [.ptr M.b 22 0 0, .int .i64 (p : Int)] dst os k ⟨n, A⟩ Q
theorem MS.errCell {M : Mch} {n : Nat} {A : Nat → Blk} {s : St} (h : MS M n A s) : ∃ o, A M.b = .cells 58 22 [[M.L, M.F, .str M.E.key, .int .i64 M.E.val.k, .int .i64 M.E.val.n, .str M.E.val.s, .int .i64 M.E.val.x, .int .i64 M.E.val.y, .int .i64 M.E.acc.k, .int .i64 M.E.acc.n, .str M.E.acc.s, .int .i64 M.E.acc.x, .int .i64 M.E.acc.y, .int .i64 s.i, .int .i64 s.it.k, .int .i64 s.it.n, .str s.it.s, .int .i64 s.it.x, .int .i64 s.it.y, o, .int .i64 (s.left : Int), .int .i64 s.err]] := ⟨_, h.cell.choose_spec.1⟩
theorem MS.setI {M : Mch} {n : Nat} {A : Nat → Blk} {s : St} {o : AV} (h : MS M n A s) (ho : A M.b = .cells 58 22 [[M.L, M.F, .str M.E.key, .int .i64 M.E.val.k, .int .i64 M.E.val.n, .str M.E.val.s, .int .i64 M.E.val.x, .int .i64 M.E.val.y, .int .i64 M.E.acc.k, .int .i64 M.E.acc.n, .str M.E.acc.s, .int .i64 M.E.acc.x, .int .i64 M.E.acc.y, .int .i64 s.i, .int .i64 s.it.k, .int .i64 s.it.n, .str s.it.s, .int .i64 s.it.x, .int .i64 s.it.y, o, .int .i64 (s.left : Int), .int .i64 s.err]]) (s' : St) (hl : s'.out = s.out) :
  MS M n (upd A M.b (.cells 58 22 [[M.L, M.F, .str M.E.key, .int .i64 M.E.val.k, .int .i64 M.E.val.n, .str M.E.val.s, .int .i64 M.E.val.x, .int .i64 M.E.val.y, .int .i64 M.E.acc.k, .int .i64 M.E.acc.n, .str M.E.acc.s, .int .i64 M.E.acc.x, .int .i64 M.E.acc.y, .int .i64 s'.i, .int .i64 s'.it.k, .int .i64 s'.it.n, .str s'.it.s, .int .i64 s'.it.x, .int .i64 s'.it.y, o, .int .i64 (s'.left : Int), .int .i64 s'.err]])) s' := by
 obtain ⟨hb, o', hA, hw⟩ := h
 have e := hA.symm.trans ho
 simp only [Blk.cells.injEq, List.cons.injEq, and_true, true_and] at e
 subst e
 refine ⟨hb, o', by rw [q0b, if_pos rfl], ?_⟩
 rw [hl]
 refine hw.keep (Nat.le_refl _) fun z hz hp => ?_
 have : z ≠ M.b := by rintro rfl; rw [hA] at hp; cases hp
 rw [q0b, if_neg this]
theorem Keep.set {b n : Nat} {A A' : Nat → Blk} (h : Keep b n A A') (X : Blk) : Keep b n A (upd A' b X) := fun c hc hb hp => by
 rw [q0b, if_neg hb]
 exact h c hc hb hp
end
end Go.Proofs.YtckhmpcmlochpaaGreat.G
